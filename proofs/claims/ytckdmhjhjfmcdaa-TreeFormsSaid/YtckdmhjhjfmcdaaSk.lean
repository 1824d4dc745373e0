/-
  Every writing operation and every call.
-/
import Derived.Test.YtckdmhjhjfmcdaaSj
namespace Go.Proofs.Ytckdmhjhjfmcdaa.Sx
set_option linter.unusedSimpArgs false
set_option linter.unusedVariables false
open Go
variable {P : Program} {ρ : Ren} {N : Nat} {E : Env} {A : AHeap} {a : Act} {w : World}

theorem noTup_v {v v' : Value} (h : TRel ρ v v') (hn : noTup v = true) : VRel ρ v v' := h.v_of fun vs e => by rw [e] at hn; cases hn

/-- A heap that holds less. -/
theorem HRel.sub {A1 A2 : AHeap} (hg : ∀ i o, A2.get i = some o → A1.get i = some o) (hn : A2.next = A1.next) (hr : HRel ρ A1 w) : HRel ρ A2 w :=
  ⟨fun h hh => hr.fresh h (by omega), fun h o ho => hr.ok h o (hg _ _ ho), fun h ro cs ho => hr.cells h ro cs (hg _ _ ho), fun h es ho => hr.map h es (hg _ _ ho), fun h h' o o' hne ho ho' => hr.apart h h' o o' hne (hg _ _ ho) (hg _ _ ho')⟩
theorem Step.sub {ρ' : Ren} {A1 A2 : AHeap} {w' : World} (hg : ∀ i o, A2.get i = some o → A1.get i = some o) (hn : A2.next = A1.next) (hs : Step ρ A w ρ' A1 w') : Step ρ A w ρ' A2 w' :=
  ⟨hs.size, by rw [hn]; exact hs.next, hs.agree, hs.keep, fun b ⟨h, o, h1, h2⟩ => hs.incl b ⟨h, o, hg _ _ h1, h2⟩, fun b ⟨h, o, h1, h2⟩ => hs.incl2 b ⟨h, o, hg _ _ h1, h2⟩, hs.os, hs.output, hs.tape⟩

theorem heavy_sound {o : Oper} {d : HOp} (hc : compH P o.op = some d) (hs : St ρ N E A a w) {K : Value → AHeap → Prop} (hd : dheavy P d E A K) {next : Act → World → Prop} {Q : Exit → Act → World → Prop} (hn : Onward ρ A w a o.dst K next) : o.wp P a w next Q := by
  obtain ⟨he, hr⟩ := hs
  rcases o with ⟨dst, op, type, pos, after, guard⟩
  simp only at hc hn
  cases op with
  | store t x v =>
    obtain ⟨ti, hi, rfl⟩ := Option.map_eq_some_iff.1 hc
    simp only [dheavy] at hd
    split at hd
    · rename_i b u hx hv
      split at hd
      · rename_i cs hg
        obtain ⟨hl, hnt, hle, hk⟩ := hd
        obtain ⟨_, _, hb⟩ := (eval_rel he hx).ptr_inv
        have hrel := (noTup_v (eval_rel he hv) hnt).cells
        obtain ⟨w', h1, h2, h3⟩ := hr.write (P := P) hg hrel (o := b.off) (by omega)
        refine wp_skip' (w' := w') ?_ (hn _ _ _ _ _ hk unit_rel h2 h3)
        have hsz : (a.eval v).cells.size = ti.size := by rw [← hl, hrel.length, ← cells_toList]; simp
        simp [execOp, Instr.storeAt, Instr.sureAddr, hb, storeVar, run_size hi, hsz, cells_toList, h1]
      · exact hd.elim
    · exact hd.elim
  | call c =>
    rcases c with ⟨callee, args, argTypes⟩
    cases callee with
    | value f =>
      cases f with
      | func f =>
        simp only [compH] at hc
        split at hc
        · rename_i hf
          cases hc
          simp only [dheavy] at hd
          split at hd
          · rename_i vs hvs
            refine wp_enter (args' := args.toList.map a.eval) ?_ hd hr (evalL_rel he hvs) hn
            have e1 : (args.toList.map a.eval).toArray = args.map a.eval := by apply Array.ext'; simp
            simp [execOp, resolve, Deferred.ofValue, Act.eval, invoke, run_callFunc hf, ← e1]
          · exact hd.elim
        · cases hc
      | tmp t =>
        simp only [compH, Option.some.injEq] at hc; subst hc
        simp only [dheavy] at hd
        split at hd
        · rename_i f caps vs hx hvs
          obtain ⟨hf, hd⟩ := hd
          obtain ⟨_, caps', hx', hcaps⟩ := (eval_rel he hx).fn_inv
          refine wp_enter (args' := args.toList.map a.eval ++ caps'.toList) ?_ hd hr ((evalL_rel he hvs).append (hcaps.mono fun _ _ h => h.t)) hn
          simp only [execOp, resolve, hx', Deferred.ofValue, Sem.run_bind, Sem.run_pure, Result.andThen_ok, invoke]
          have e1 : (args.toList.map a.eval ++ caps'.toList).toArray = (#[] ++ args.map a.eval ++ caps') := by apply Array.ext'; simp
          rw [e1]
          exact run_callFunc hf _ w
        · exact hd.elim
      | const v => simp [compH] at hc
      | global g => simp [compH] at hc
    | invoke r m => simp [compH] at hc
    | builtin b =>
      simp only [compH] at hc
      have hres : ∀ (s : Sem Value) (w' : World), (∀ cs, Go.builtin b argTypes type cs (args.map a.eval) = do pure (.value (← s))) → ∀ v', s.run P w = .ok v' w' →
          (execOp a.eval { dst, op := .call { callee := .builtin b, args, argTypes }, type, pos, after, guard }).run P w = .ok (.value v') w' := by
        intro s w' hs v' hv'
        simp only [execOp, resolve, invoke, Sem.run_bind, Sem.run_pure, Result.andThen_ok]
        rw [hs]
        simp [hv']
      split at hc
      · rename_i x y hargs
        have ha : args.map a.eval = #[a.eval x, a.eval y] := by
          have : args = #[x, y] := by cases args; simp_all
          rw [this]; simp
        split at hc
        · rename_i e e1 ht0 ht1
          obtain ⟨t0, h0, hu⟩ := Option.bind_eq_some_iff.1 ht0
          obtain ⟨t1, h1, hu1⟩ := Option.bind_eq_some_iff.1 ht1
          split at hc
          · rename_i ti zs hi hz
            split at hc
            · rename_i hcond
              cases hc
              obtain ⟨hs0, hzl, hb0⟩ := hcond
              simp only [dheavy] at hd
              split at hd
              · rename_i vx vy hx hy
                have hxr := eval_rel he hx
                have hyr := eval_rel he hy
                split at hd
                · rename_i ly ys hsl
                  obtain ⟨⟨q2, c2, hy'⟩, hyl, ys', hys, hyrun⟩ := sliceCells_run (P := P) hr hyr hsl
                  have hyrun' : ∀ w0 : World, w0.heap = w.heap → (Builtin.firstCells ti.size ly (a.eval y)).run P w0 = .ok ys'.toArray w0 := by
                    intro w0 hw0
                    have := hyrun ly (Nat.le_refl _) w0 hw0
                    rwa [List.take_of_length_le (by rw [← hys.length]; omega)] at this
                  split at hd
                  · obtain ⟨hx', _, _⟩ := slice_inv0 hxr
                    split at hd
                    · rename_i hl0
                      subst hl0
                      refine wp_value (v' := .slice none 0 0) (hres (Builtin.append_ argTypes type (args.map a.eval)) w (fun _ => rfl) _ ?_) (hn _ _ _ _ _ hd PRel.nilsl.t hr (Step.refl _ _ _))
                      have hf0 := hyrun' w rfl
                      have e0 : ys' = [] := by have := hys.length; rw [hyl] at this; exact List.length_eq_zero_iff.1 (by omega)
                      rw [e0] at hf0
                      rw [ha, hx', hy']
                      rw [hy'] at hf0
                      simp [Builtin.append_, h0, h1, run_underlying hu, run_underlying hu1, sizeOf, typeInfo, hi, Builtin.lenOf, hf0]
                    · rename_i hl0
                      obtain ⟨hbd, hk⟩ := hd
                      obtain ⟨v', b, w', g1, g2, g3, g4⟩ := append_grow (P := P) hr hi hs0 h0 hu h1 hu1 hb0 hz hzl type (q := none) (lx := 0) (c := 0) (ly := ly) (v2 := a.eval y) ⟨q2, _, c2, hy', rfl⟩ (xs := []) (xs' := []) .nil hys (by simp) hyl
                        (fun w0 _ => by simp [Builtin.firstCells]) hyrun' (by omega) (by simpa using hbd)
                      refine wp_value (hres (Builtin.append_ argTypes type (args.map a.eval)) w' (fun _ => rfl) v' ?_) (hn _ _ _ _ _ hk (by simpa using g4) (by simpa using g2) (by simpa using g3))
                      rw [ha, hx']; exact g1
                  · rename_i b lx s'
                    obtain ⟨b', c, hx', hlc, hok, hpos, hd3, hcap, hspot⟩ := slice_inv hxr
                    split at hd
                    · rename_i hl0
                      subst hl0
                      have hxr2 := hxr
                      rw [hx'] at hxr2
                      refine wp_value (v' := .slice (some b') lx c) (hres (Builtin.append_ argTypes type (args.map a.eval)) w (fun _ => rfl) _ ?_) (hn _ _ _ _ _ hd hxr2 hr (Step.refl _ _ _))
                      have hf0 := hyrun' w rfl
                      have e0 : ys' = [] := by have := hys.length; rw [hyl] at this; exact List.length_eq_zero_iff.1 (by omega)
                      rw [e0] at hf0
                      rw [ha, hx', hy']
                      rw [hy'] at hf0
                      simp [Builtin.append_, h0, h1, run_underlying hu, run_underlying hu1, sizeOf, typeInfo, hi, Builtin.lenOf, hf0, hlc, storeCells]
                    · rename_i hl0
                      split at hd
                      · rename_i ro cs hg
                        have hxcells : b.off + lx * ti.size ≤ cs.length → s' = ti.size → ∃ xs', All2 (SRel ρ) ((cs.drop b.off).take (lx * ti.size)) xs' ∧ ∀ w0 : World, w0.heap = w.heap → (Builtin.firstCells ti.size lx (.slice (some b') lx c)).run P w0 = .ok xs'.toArray w0 := by
                          intro hle hss
                          subst hss
                          by_cases hlx : lx = 0
                          · subst hlx
                            exact ⟨[], by simp; exact .nil, fun w0 _ => by simp [Builtin.firstCells, loadCells, loadCellsFrom]⟩
                          · have hslx : sliceCells A ti.size (.slice (some b) lx ti.size) = some (lx, (cs.drop b.off).take (lx * ti.size)) := by
                              simp [sliceCells, hlx, hg, hle]
                            obtain ⟨_, hxl, xs', hxs, hxrun⟩ := sliceCells_run (P := P) hr hxr hslx
                            refine ⟨xs', hxs, fun w0 hw0 => ?_⟩
                            have := hxrun lx (Nat.le_refl _) w0 hw0
                            rw [List.take_of_length_le (by rw [← hxs.length]; omega), hx'] at this
                            exact this
                        split at hd
                        · rename_i hsp
                          obtain ⟨hss, hle, hbd, hk⟩ := hd
                          obtain ⟨xs', hxs, hxrun⟩ := hxcells hle hss
                          have hcl := hcap hsp
                          obtain ⟨v', b2, w', g1, g2, g3, g4⟩ := append_grow (P := P) hr hi hs0 h0 hu h1 hu1 hb0 hz hzl type (q := some b') (lx := lx) (c := c) (ly := ly) (v2 := a.eval y) ⟨q2, _, c2, hy', rfl⟩ hxs hys (by simp; omega) hyl
                            hxrun hyrun' (by omega) hbd
                          refine wp_value (hres (Builtin.append_ argTypes type (args.map a.eval)) w' (fun _ => rfl) v' ?_) (hn _ _ _ _ _ hk g4 g2 g3)
                          rw [ha, hx']; exact g1
                        · rename_i hsp
                          obtain ⟨hss, hro, hle, hbd, hk⟩ := hd
                          subst hro
                          obtain ⟨xs', hxs, hxrun⟩ := hxcells (by omega) hss
                          by_cases hneed : lx + ly ≤ c
                          · have hdd : b' = ρ.addr b.block b.off ∧ b.off + c * s' ≤ (ρ b.block).ext ∧ 0 < s' := by
                              rcases hd3 with h | h
                              · exact h
                              · omega
                            obtain ⟨rfl, hext, _⟩ := hdd
                            rw [hss] at hext
                            obtain ⟨v', b2, w', g1, g2, g3, g4⟩ := append_room (P := P) hr hi h0 hu h1 hu1 type hg hle hext hs0 (v2 := a.eval y) ⟨q2, _, c2, hy', rfl⟩ hys hyl (hyrun' w rfl) hneed
                            refine wp_value (hres (Builtin.append_ argTypes type (args.map a.eval)) w' (fun _ => rfl) v' ?_) (hn _ _ _ _ _ hk g4 g2 g3)
                            rw [ha, hx']; exact g1
                          · have e3 : (cs.drop b.off).take (lx * ti.size) = cs.drop b.off := List.take_of_length_le (by simp; omega)
                            rw [e3] at hxs
                            obtain ⟨v', b2, w', g1, g2, g3, g4⟩ := append_grow (P := P) hr hi hs0 h0 hu h1 hu1 hb0 hz hzl type (q := some b') (lx := lx) (c := c) (ly := ly) (v2 := a.eval y) ⟨q2, _, c2, hy', rfl⟩ hxs hys (by simp; omega) hyl
                              hxrun hyrun' (by omega) hbd
                            have hdel : HRel (ρ.at A.next b2) ((A.del b.block).alloc (.cells false (cs.drop b.off ++ ys))) w' ∧ Step ρ A w (ρ.at A.next b2) ((A.del b.block).alloc (.cells false (cs.drop b.off ++ ys))) w' := by
                              have hsub : ∀ i o, ((A.del b.block).alloc (.cells false (cs.drop b.off ++ ys))).get i = some o → (A.alloc (.cells false (cs.drop b.off ++ ys))).get i = some o := by
                                intro i o hi'
                                change (if i = A.next then some (AObj.cells false (cs.drop b.off ++ ys)) else if i = b.block then none else A.get i) = some o at hi'
                                change (if i = A.next then some (AObj.cells false (cs.drop b.off ++ ys)) else A.get i) = some o
                                by_cases e : i = A.next
                                · rw [if_pos e] at hi' ⊢; exact hi'
                                · rw [if_neg e] at hi' ⊢
                                  by_cases e2 : i = b.block
                                  · rw [if_pos e2] at hi'; cases hi'
                                  · rw [if_neg e2] at hi'; exact hi'
                              exact ⟨g2.sub hsub rfl, g3.sub hsub rfl⟩
                            refine wp_value (hres (Builtin.append_ argTypes type (args.map a.eval)) w' (fun _ => rfl) v' ?_) (hn _ _ _ _ _ hk g4 hdel.1 hdel.2)
                            rw [ha, hx']; exact g1
                      · exact hd.elim
                  · exact hd.elim
                · exact hd.elim
              · exact hd.elim
            · cases hc
          · cases hc
        · cases hc
      · rename_i x y hargs
        have ha : args.map a.eval = #[a.eval x, a.eval y] := by
          have : args = #[x, y] := by cases args; simp_all
          rw [this]; simp
        split at hc
        · rename_i e ht0
          obtain ⟨t0, h0, hu⟩ := Option.bind_eq_some_iff.1 ht0
          split at hc
          · rename_i ti hi
            split at hc
            · rename_i hs0
              cases hc
              simp only [dheavy] at hd
              split at hd
              · rename_i vx vy hx hy
                have hxr := eval_rel he hx
                have hyr := eval_rel he hy
                split at hd
                · rename_i ly ys hsl
                  obtain ⟨⟨q2, c2, hy'⟩, hyl, ys', hys, hyrun⟩ := sliceCells_run (P := P) hr hyr hsl
                  split at hd
                  · obtain ⟨hx', _, _⟩ := slice_inv0 hxr
                    refine wp_value (v' := .int .i64 0) (hres (Builtin.copy_ argTypes type (args.map a.eval)) w (fun _ => rfl) _ ?_) (hn _ _ _ _ _ hd (.v (.s (.p (.int _ _)))) hr (Step.refl _ _ _))
                    have hf0 := hyrun 0 (by omega) w rfl
                    rw [hy'] at hf0
                    rw [ha, hx', hy']
                    simp [Builtin.copy_, h0, run_underlying hu, run_size hi, Builtin.lenOf, hf0, goInt]
                  · rename_i b lx s'
                    obtain ⟨b', c, hx', hlc, hok, hpos, hd3, hcap, hspot⟩ := slice_inv hxr
                    split at hd
                    · rename_i cs hg
                      obtain ⟨hss, hle, hk⟩ := hd
                      subst hss
                      have hmin : min ly lx ≤ ly := Nat.min_le_left _ _
                      have hrd := hyrun (min ly lx) hmin w rfl
                      have hms : min ly lx * ti.size ≤ ly * ti.size := mul_le hmin
                      have htk : (ys.take (min ly lx * ti.size)).length = min ly lx * ti.size := by simp; omega
                      by_cases hz0 : min ly lx = 0
                      · have hk2 : K (.int .i64 0) A ∨ True := .inr trivial
                        obtain ⟨w', g1, g2, g3⟩ := hr.write (P := P) hg (vs := ys.take (min ly lx * ti.size)) (vs' := ys'.take (min ly lx * ti.size)) (hys.take _) (o := b.off) (by omega)
                        have e0 : ys'.take (min ly lx * ti.size) = [] := by rw [hz0]; simp
                        rw [e0] at g1
                        have hww : w' = w := by simp [storeCells] at g1; exact g1.symm
                        subst hww
                        refine wp_value (v' := .int .i64 (min ly lx : Nat)) (hres (Builtin.copy_ argTypes type (args.map a.eval)) w' (fun _ => rfl) _ ?_) (hn _ _ _ _ _ hk (.v (.s (.p (.int _ _)))) g2 g3)
                        rw [hy', e0] at hrd
                        rw [ha, hx', hy']
                        simp [Builtin.copy_, h0, run_underlying hu, run_size hi, Builtin.lenOf, hrd, goInt, storeCells]
                      · obtain ⟨rfl, hext, _⟩ := hpos (by omega)
                        obtain ⟨w', g1, g2, g3⟩ := hr.write (P := P) hg (vs := ys.take (min ly lx * ti.size)) (vs' := ys'.take (min ly lx * ti.size)) (hys.take _) (o := b.off) (by omega)
                        refine wp_value (v' := .int .i64 (min ly lx : Nat)) (hres (Builtin.copy_ argTypes type (args.map a.eval)) w' (fun _ => rfl) _ ?_) (hn _ _ _ _ _ hk (.v (.s (.p (.int _ _)))) g2 g3)
                        rw [hy'] at hrd
                        rw [ha, hx', hy']
                        simp [Builtin.copy_, h0, run_underlying hu, run_size hi, Builtin.lenOf, hrd, goInt, g1]
                    · exact hd.elim
                  · exact hd.elim
                · exact hd.elim
              · exact hd.elim
            · cases hc
          · cases hc
        · cases hc
      · cases hc
  | _ => simp [compH] at hc
end Go.Proofs.Ytckdmhjhjfmcdaa.Sx
