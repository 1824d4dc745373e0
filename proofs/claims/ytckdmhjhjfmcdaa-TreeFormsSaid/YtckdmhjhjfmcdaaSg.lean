/-
  The sum of it: each reading operation, at a state and the machine's own that stand to each other as they should.
-/
import Derived.Test.YtckdmhjhjfmcdaaSf
namespace Go.Proofs.Ytckdmhjhjfmcdaa.Sx
set_option linter.unusedSimpArgs false
set_option linter.unusedVariables false
open Go
variable {P : Program} {ρ : Ren} {N : Nat} {E : Env} {A : AHeap} {a : Act} {w : World}

theorem minmax_run {mx : Bool} : ∀ {vs : List Value} {ws : List Value} {k : IntKind} {i : Int} {v : Value}, All2 (TRel ρ) vs ws →
    vs.foldlM (m := Option) (fun acc v => match acc, v with
        | .int k x, .int _ y => some (.int k (if mx then (if y > x then y else x) else (if y < x then y else x)))
        | _, _ => none) (.int k i) = some v →
    (ws.foldlM (m := Sem) (if mx then Builtin.max2 else Builtin.min2) (.int k i)).run P w = .ok v w ∧ ∃ j, v = .int k j
  | [], ws, k, i, v, h, hv => by cases h; simp at hv; subst hv; exact ⟨by simp, i, rfl⟩
  | x :: xs, ws, k, i, v, h, hv => by
    cases h with
    | @cons _ y _ ys hx hs =>
      cases x with
      | int k' j =>
        obtain rfl := hx.int_inv
        simp only [List.foldlM_cons, Option.bind_eq_bind, Option.bind_some] at hv
        have ih := minmax_run hs hv
        refine ⟨?_, ih.2⟩
        rw [List.foldlM_cons, Sem.run_bind]
        cases mx
        · simpa [Builtin.min2] using ih.1
        · simpa [Builtin.max2] using ih.1
      | _ => simp at hv

theorem light_sound {o : Oper} {d : LOp} (hc : compL P o.op = some d) (hs : St ρ N E A a w) {v : Value} (hv : dlight d E A = some v) : Gives P o a w ρ v := by
  obtain ⟨he, hr⟩ := hs
  rcases o with ⟨dst, op, type, pos, after, guard⟩
  simp only at hc
  cases op with
  | move x =>
    simp only [compL, Option.some.injEq] at hc; subst hc
    exact ⟨_, rfl, eval_rel he hv⟩
  | assign x =>
    simp only [compL, Option.some.injEq] at hc; subst hc
    exact ⟨_, rfl, eval_rel he hv⟩
  | pick c x y =>
    simp only [compL, Option.some.injEq] at hc; subst hc
    simp only [dlight] at hv
    split at hv
    · rename_i t ht
      have hcb := (eval_rel he ht).bool_inv
      cases t
      · exact ⟨_, by simp [execOp, hcb, asBool]; rfl, eval_rel he (by simpa using hv)⟩
      · exact ⟨_, by simp [execOp, hcb, asBool]; rfl, eval_rel he (by simpa using hv)⟩
    · cases hv
  | load t x =>
    obtain ⟨ag, ha, rfl⟩ := Option.map_eq_some_iff.1 hc
    simp only [dlight] at hv
    split at hv
    · rename_i b hx
      obtain ⟨_, _, hb⟩ := (eval_rel he hx).ptr_inv
      split at hv
      · rename_i ro cs hg
        obtain ⟨v', h1, h2⟩ := snd_load ha hr hg hv
        exact ⟨v', by simp [execOp, Instr.loadAt, Instr.sureAddr, hb, h1], .v h2⟩
      · cases hv
    · cases hv
  | nilCheck x =>
    simp only [compL, Option.some.injEq] at hc; subst hc
    simp only [dlight] at hv
    split at hv
    · rename_i b hx
      cases hv
      have h1 := eval_rel he hx
      obtain ⟨_, _, hb⟩ := h1.ptr_inv
      rw [hb] at h1
      exact ⟨_, by simp [execOp, hb], h1⟩
    · cases hv
  | binOp op t x y ty =>
    obtain ⟨kd, hk, rfl⟩ := Option.map_eq_some_iff.1 hc
    simp only [dlight] at hv
    split at hv
    · rename_i u u' hx hy
      obtain ⟨h1, h2⟩ := dbin_run hk (eval_rel he hx) (eval_rel he hy) hv x y w
      exact ⟨v, by simp only [execOp]; rw [Sem.run_bind, h1]; simp, h2⟩
    · cases hv
  | unOp op t x =>
    simp only [compL, Option.some.injEq] at hc; subst hc
    simp only [dlight] at hv
    split at hv
    · rename_i u hx
      have hflat : a.eval x = u := by
        have h1 := eval_rel he hx
        unfold dun at hv
        split at hv
        · exact h1.int_inv
        · exact h1.int_inv
        · exact h1.bool_inv
        · cases hv
      exact ⟨v, by simp [execOp, hflat, run_dun hv], dun_flat hv⟩
    · cases hv
  | convert src dst x =>
    simp only [compL] at hc
    split at hc
    · rename_i k1 k2 hu1 hu2
      cases hc
      simp only [dlight] at hv
      split at hv
      · rename_i k i hx
        cases hv
        have h1 := (eval_rel he hx).int_inv
        exact ⟨.int k2 (k2.wrap i), by simp [execOp, Go.convert, run_under hu1, run_under hu2, h1, Conv.intToInt], .v (.s (.p (.int _ _)))⟩
      · cases hv
    · cases hc
  | fieldAddr s x f =>
    simp only [compL] at hc
    split at hc
    · rename_i fs hu
      split at hc
      · rename_i fd hf
        split at hc
        · rename_i i hi
          split at hc
          · cases hc
          · rename_i hsz
            cases hc
            simp only [dlight] at hv
            split at hv
            · rename_i b hx
              cases hv
              obtain ⟨_, hn, hb⟩ := (eval_rel he hx).ptr_inv
              refine ⟨.pointer (some (ρ.addr b.block (b.off + fd.offset))), ?_, (PRel.ptr _ _ hn).t⟩
              simp [execOp, Instr.fieldAt, run_under hu, hf, Instr.sureAddr, hb, fieldPlace, run_size hi, hsz, addr_add]
            · cases hv
        · cases hc
      · cases hc
    · cases hc
  | field t x f =>
    simp only [compL] at hc
    split at hc
    · rename_i fs hu
      split at hc
      · rename_i fd hf
        obtain ⟨ag, ha, rfl⟩ := Option.map_eq_some_iff.1 hc
        simp only [dlight] at hv
        split at hv
        · rename_i cs hx
          obtain ⟨cs', h1, h2⟩ := (eval_rel he hx).agg_inv
          obtain ⟨v', h3, h4⟩ := run_part ha h2 (w := w) hv
          exact ⟨v', by simp [execOp, Instr.field, run_under hu, hf, h1, asAgg, h3], .v h4⟩
        · cases hv
      · cases hc
    · cases hc
  | indexAddr t x i =>
    simp only [compL] at hc
    split at hc
    · rename_i len e hu
      obtain ⟨ti, hi, rfl⟩ := Option.map_eq_some_iff.1 hc
      simp only [dlight] at hv
      split at hv
      · rename_i b k j hx hj
        split at hv
        · rename_i hb
          cases hv
          obtain ⟨_, hn, hp⟩ := (eval_rel he hx).ptr_inv
          have hji := (eval_rel he hj).int_inv
          refine ⟨.pointer (some (ρ.addr b.block (b.off + j.toNat * ti.size))), ?_, (PRel.ptr _ _ hn).t⟩
          simp [execOp, Instr.indexAt, hji, asIntOf, run_under hu, hp, Instr.sureAddr, hb, run_size hi, addr_add]
        · cases hv
      · cases hv
    · rename_i e hu
      obtain ⟨ti, hi, rfl⟩ := Option.map_eq_some_iff.1 hc
      simp only [dlight] at hv
      split at hv
      · rename_i b l s k j hx hj
        split at hv
        · rename_i hb
          cases hv
          obtain ⟨b', c, hp, hlc, hn, hpos, _, _, _⟩ := slice_inv (eval_rel he hx)
          obtain ⟨rfl, _, _⟩ := hpos (by omega)
          have hji := (eval_rel he hj).int_inv
          refine ⟨.pointer (some (ρ.addr b.block (b.off + j.toNat * ti.size))), ?_, (PRel.ptr _ _ hn).t⟩
          simp [execOp, Instr.indexAt, hji, asIntOf, run_under hu, hp, hb.2.1, hb.2.2, run_size hi, addr_add]
        · cases hv
      · cases hv
    · cases hc
  | index t x i =>
    simp only [compL] at hc
    split at hc
    · rename_i len e hu
      split at hc
      · rename_i ti ag hi ha
        cases hc
        simp only [dlight] at hv
        split at hv
        · rename_i cs k j hx hj
          split at hv
          · rename_i hb
            obtain ⟨cs', h1, h2⟩ := (eval_rel he hx).agg_inv
            have hji := (eval_rel he hj).int_inv
            obtain ⟨v', h3, h4⟩ := run_part ha h2 (w := w) hv
            exact ⟨v', by simp [execOp, Instr.index, run_under hu, hji, asIntOf, h1, hb, run_size hi, h3], .v h4⟩
          · cases hv
        · cases hv
      · cases hc
    · rename_i hu
      cases hc
      simp only [dlight] at hv
      split at hv
      · rename_i b k j hx hj
        split at hv
        · rename_i hb
          split at hv
          · rename_i c hcb
            cases hv
            have h1 := (eval_rel he hx).str_inv
            have hji := (eval_rel he hj).int_inv
            exact ⟨.int .u8 c.toNat, by simp [execOp, Instr.index, run_under hu, hji, asIntOf, h1, hb, hcb], .v (.s (.p (.int _ _)))⟩
          · cases hv
        · cases hv
      · cases hv
    · cases hc
  | extract x i =>
    simp only [compL, Option.some.injEq] at hc; subst hc
    simp only [dlight] at hv
    split at hv
    · rename_i vs hx
      obtain ⟨vs', h1, h2⟩ := (eval_rel he hx).tup_inv
      obtain ⟨v', h3, h4⟩ := h2.get (k := i) (x := v) (by simpa using hv)
      have : vs'[i]? = some v' := by simpa using h3
      exact ⟨v', by simp [execOp, Instr.extract, h1, this], .v h4⟩
    · cases hv
  | makeFunc f first caps =>
    simp only [compL] at hc
    split at hc
    · rename_i h0
      cases hc
      simp only [dlight] at hv
      split at hv
      · rename_i vs hvs
        split at hv
        · rename_i hall
          cases hv
          have hrel := evalL_rel he hvs
          have hp : All2 (PRel ρ) vs (caps.toList.map a.eval) := by
            refine All2.of_get hrel.length fun k x y hx hy => ?_
            obtain ⟨y', h1, h2⟩ := hrel.get hx
            rw [h1] at hy; cases hy
            have := List.all_eq_true.1 hall x (List.mem_of_getElem? hx)
            exact h2.prel_inv (by cases x <;> simp_all [scalarB])
          have e0 : first = #[] := by simpa using h0
          refine ⟨.func f #[] (caps.map a.eval), by simp [execOp, Instr.makeFunc, e0], ?_⟩
          have := (SRel.fn f vs _ hp).t
          have e3 : (caps.toList.map a.eval).toArray = caps.map a.eval := by apply Array.ext'; simp
          rwa [e3] at this
        · cases hv
      · cases hv
    · cases hc
  | build t parts =>
    simp only [compL] at hc
    have hc0 := hc
    have : ∃ zs ps, d = .build zs ps := by
      split at hc
      · split at hc
        · obtain ⟨_, _, h⟩ := Option.map_eq_some_iff.1 hc; exact ⟨_, _, h.symm⟩
        · cases hc
      · obtain ⟨_, _, h⟩ := Option.map_eq_some_iff.1 hc; exact ⟨_, _, h.symm⟩
      · cases hc
    obtain ⟨zs, ps, rfl⟩ := this
    simp only [dlight] at hv
    split at hv
    · rename_i vs hvs
      split at hv
      · rename_i hnt
        split at hv
        · rename_i cs hf
          cases hv
          obtain ⟨v', h1, h2⟩ := snd_build (w := w) (parts := parts) (by simpa only [compL] using hc0) he hvs hnt hf
          exact ⟨v', by simp only [execOp]; rw [Sem.run_bind, h1]; simp, h2⟩
        · cases hv
      · cases hv
    · cases hv
  | slice t x lo hi mx =>
    simp only [compL] at hc
    split at hc
    · rename_i e hu
      split at hc
      · rename_i ti hi'
        split at hc
        · cases hc
        · rename_i hsz
          split at hc
          · cases hc
            simp only [dlight] at hv
            split at hv
            · rename_i hx
              obtain ⟨hx', _, _⟩ := slice_inv0 (eval_rel he hx)
              split at hv
              · rename_i l h hl hh
                split at hv
                · rename_i hb
                  cases hv
                  obtain ⟨rfl, rfl⟩ := hb
                  have hrun := run_sliceBounds (P := P) he (isS := true) (cap := 0) hl hh (by omega) (by omega) (by omega) (by omega) w
                  refine ⟨.slice none 0 0, ?_, PRel.nilsl.t⟩
                  simp [execOp, Instr.sliceAt, run_under hu, Instr.slice, hx', hrun, run_size hi']
                · cases hv
              · cases hv
            · rename_i b n s hx
              split at hv
              · rename_i l h hl hh
                split at hv
                · rename_i hb
                  cases hv
                  obtain ⟨hs', h0, h1, h2⟩ := hb
                  obtain ⟨b', c, hp, hlc, hn, _, hd, _, _⟩ := slice_inv (eval_rel he hx)
                  subst hs'
                  have hrun := run_sliceBounds (P := P) he (isS := true) (cap := c) hl hh h0 h1 h2 hlc w
                  refine ⟨_, ?_, (slice_sub (m := c) hn hd h0 h1 h2 (by omega) (Nat.le_refl _)).1⟩
                  simp [execOp, Instr.sliceAt, run_under hu, Instr.slice, hp, hrun, run_size hi']
                · cases hv
              · cases hv
            · cases hv
          · split at hc
            · rename_i m hi2 hm
              cases hc
              simp only [dlight] at hv
              split at hv
              · rename_i hx
                obtain ⟨hx', _, _⟩ := slice_inv0 (eval_rel he hx)
                split at hv
                · rename_i l h m' hl hh hmm
                  split at hv
                  · rename_i hb
                    cases hv
                    obtain ⟨rfl, rfl, rfl⟩ := hb
                    have hrun := run_sliceBounds3 (P := P) he (isS := true) (cap := 0) hl hh hmm (by omega) (by omega) (by omega) (by omega) w
                    refine ⟨.slice none 0 0, ?_, PRel.nilsl.t⟩
                    simp [execOp, Instr.sliceAt, run_under hu, Instr.slice, hx', hrun, run_size hi']
                  · cases hv
                · cases hv
              · rename_i b n s hx
                split at hv
                · rename_i l h m' hl hh hmm
                  split at hv
                  · rename_i hb
                    cases hv
                    obtain ⟨hs', h0, h1, hmh, h2⟩ := hb
                    obtain ⟨b', c, hp, hlc, hn, _, hd, _, _⟩ := slice_inv (eval_rel he hx)
                    subst hs'
                    have hrun := run_sliceBounds3 (P := P) he (isS := true) (cap := c) hl hh hmm h0 h1 (by omega) (by omega) w
                    refine ⟨_, ?_, (slice_sub (m := m'.toNat) hn hd h0 h1 h2 (by omega) (by omega)).2 (by omega)⟩
                    simp [execOp, Instr.sliceAt, run_under hu, Instr.slice, hp, hrun, run_size hi']
                  · cases hv
                · cases hv
              · cases hv
            · cases hc
      · cases hc
    · rename_i n e hu
      split at hc
      · rename_i ti hi'
        cases hc
        simp only [dlight] at hv
        split at hv
        · rename_i b hx
          split at hv
          · rename_i ro cs hg
            split at hv
            · rename_i l h hl hh
              split at hv
              · rename_i hb
                cases hv
                obtain ⟨hs0, hext, h0, h1, h2⟩ := hb
                obtain ⟨_, hn, hp⟩ := (eval_rel he hx).ptr_inv
                obtain ⟨C, t', fr, _, _, hle, _, _⟩ := hr.cells _ _ _ hg
                have hrun := run_sliceBounds (P := P) he (isS := false) (cap := n) hl hh h0 h1 h2 (Nat.le_refl _) w
                refine ⟨_, ?_, (slice_sub (b := b) (len := n) (c := n) (m := n) hn (.inl ⟨rfl, by omega, hs0⟩) h0 h1 h2 (by omega) (Nat.le_refl _)).1⟩
                simp [execOp, Instr.sliceAt, run_under hu, Instr.sureAddr, hp, hrun, run_size hi']
                split <;> simp
              · cases hv
            · cases hv
          · cases hv
        · cases hv
      · cases hc
    · rename_i hu
      split at hc
      · cases hc
        simp only [dlight] at hv
        split at hv
        · rename_i b hx
          have hx' := (eval_rel he hx).str_inv
          split at hv
          · rename_i l h hl hh
            split at hv
            · rename_i hb
              cases hv
              obtain ⟨h0, h1, h2⟩ := hb
              have hrun := run_sliceBounds (P := P) he (isS := false) (cap := b.size) hl hh h0 h1 h2 (Nat.le_refl _) w
              exact ⟨.string (b.extract l.toNat h.toNat), by simp [execOp, Instr.sliceAt, run_under hu, Instr.slice, hx', hrun], .v (.s (.p (.str _)))⟩
            · cases hv
          · cases hv
        · cases hv
      · cases hc
    · cases hc
  | call c =>
    rcases c with ⟨callee, args, argTypes⟩
    cases callee with
    | value f => simp [compL] at hc
    | invoke r m => simp [compL] at hc
    | builtin b =>
      simp only [compL] at hc
      have hres : ∀ (s : Sem Value), (∀ cs, Go.builtin b argTypes type cs (args.map a.eval) = do pure (.value (← s))) → ∀ v', s.run P w = .ok v' w →
          (execOp a.eval { dst, op := .call { callee := .builtin b, args, argTypes }, type, pos, after, guard }).run P w = .ok (.value v') w := by
        intro s hs v' hv'
        simp only [execOp, resolve, invoke, Sem.run_bind, Sem.run_pure, Result.andThen_ok]
        rw [hs]
        simp [hv']
      split at hc
      · rename_i x hargs
        have ha : args.map a.eval = #[a.eval x] := by
          have : args = #[x] := by cases args; simp_all
          rw [this]; simp
        split at hc
        · rename_i e ht
          cases hc
          obtain ⟨t0, h0, hu⟩ := Option.bind_eq_some_iff.1 ht
          simp only [dlight] at hv
          split at hv
          · rename_i b l s hx
            cases hv
            have hx' : ∃ b' c', a.eval x = .slice b' l c' := by
              cases b with
              | none => obtain ⟨h, rfl, _⟩ := slice_inv0 (eval_rel he hx); exact ⟨_, _, h⟩
              | some b => obtain ⟨b', c, h, _⟩ := slice_inv (eval_rel he hx); exact ⟨_, _, h⟩
            obtain ⟨b', c', hx'⟩ := hx'
            exact ⟨.int .i64 l, hres (Builtin.len_ argTypes type (args.map a.eval)) (fun _ => rfl) _ (by simp [Builtin.len_, h0, ha, run_under hu, hx', goInt]), .v (.s (.p (.int _ _)))⟩
          · cases hv
        · rename_i ht
          cases hc
          obtain ⟨t0, h0, hu⟩ := Option.bind_eq_some_iff.1 ht
          simp only [dlight] at hv
          split at hv
          · rename_i b hx
            cases hv
            have hx' := (eval_rel he hx).str_inv
            exact ⟨.int .i64 b.size, hres (Builtin.len_ argTypes type (args.map a.eval)) (fun _ => rfl) _ (by simp [Builtin.len_, h0, ha, run_under hu, hx', goInt]), .v (.s (.p (.int _ _)))⟩
          · cases hv
        · rename_i n e ht
          cases hc
          obtain ⟨t0, h0, hu⟩ := Option.bind_eq_some_iff.1 ht
          simp only [dlight, Option.some.injEq] at hv
          subst hv
          exact ⟨.int .i64 n, hres (Builtin.len_ argTypes type (args.map a.eval)) (fun _ => rfl) _ (by simp [Builtin.len_, h0, ha, run_under hu, goInt]), .v (.s (.p (.int _ _)))⟩
        · rename_i k e ht
          cases hc
          obtain ⟨t0, h0, hu⟩ := Option.bind_eq_some_iff.1 ht
          simp only [dlight] at hv
          split at hv
          · rename_i hx
            cases hv
            have hx' := (map_inv (eval_rel he hx)).1
            exact ⟨.int .i64 0, hres (Builtin.len_ argTypes type (args.map a.eval)) (fun _ => rfl) _ (by simp [Builtin.len_, h0, ha, run_under hu, hx', goInt]), .v (.s (.p (.int _ _)))⟩
          · rename_i h hx
            split at hv
            · rename_i es hg
              cases hv
              have hx' := (map_inv (eval_rel he hx)).1
              obtain ⟨es', c, hh, hrel, _⟩ := hr.map _ _ hg
              have hl : es.length = es'.size := by simpa using hrel.length
              refine ⟨.int .i64 es.length, hres (Builtin.len_ argTypes type (args.map a.eval)) (fun _ => rfl) _ ?_, .v (.s (.p (.int _ _)))⟩
              have hgo : (getObj (ρ h).blk).run P w = .ok (.map es' c) w := by simp [getObj, Sem.run, hh]
              simp [Builtin.len_, h0, ha, run_under hu, hx', goInt, hgo, hl]
            · cases hv
          · cases hv
        · cases hc
      · rename_i x rest hargs
        cases hc
        have ha : (args.map a.eval).toList = a.eval x :: rest.map a.eval := by simp [hargs]
        simp only [dlight] at hv
        split at hv
        · rename_i k i vs hx hvs
          obtain ⟨h1, j, rfl⟩ := minmax_run (P := P) (w := w) (mx := true) (evalL_rel he hvs) hv
          have hx' := (eval_rel he hx).int_inv
          refine ⟨.int k j, hres (Builtin.max_ argTypes type (args.map a.eval)) (fun _ => rfl) _ ?_, .v (.s (.p (.int _ _)))⟩
          simp only [Builtin.max_, ha, hx']
          simpa using h1
        · cases hv
      · rename_i x rest hargs
        cases hc
        have ha : (args.map a.eval).toList = a.eval x :: rest.map a.eval := by simp [hargs]
        simp only [dlight] at hv
        split at hv
        · rename_i k i vs hx hvs
          obtain ⟨h1, j, rfl⟩ := minmax_run (P := P) (w := w) (mx := false) (evalL_rel he hvs) hv
          have hx' := (eval_rel he hx).int_inv
          refine ⟨.int k j, hres (Builtin.min_ argTypes type (args.map a.eval)) (fun _ => rfl) _ ?_, .v (.s (.p (.int _ _)))⟩
          simp only [Builtin.min_, ha, hx']
          simpa using h1
        · cases hv
      · cases hc
  | _ => simp [compL] at hc
end Go.Proofs.Ytckdmhjhjfmcdaa.Sx
