/-
  The machine runs an operation of a region that draws its order.
-/
import Derived.Test.YtckdmhjhjfmcdaaSo
namespace Go.Proofs.Ytckdmhjhjfmcdaa.Sx
set_option linter.unusedSimpArgs false
set_option linter.unusedVariables false
open Go
variable {P : Program} {N : Nat}

theorem Env.keep_mem (E : Env) : ∀ {ts : List Nat} {t : Nat} {u : Value}, (E.keep ts).get t = some u → t ∈ ts
  | [], t, u, h => by simp [Env.keep, Env.get] at h
  | s :: ts, t, u, h => by
    simp only [Env.keep] at h
    split at h
    · simp only [Env.get] at h
      split at h
      · rename_i e; simp [e]
      · exact List.mem_cons_of_mem _ (Env.keep_mem E h)
    · exact List.mem_cons_of_mem _ (Env.keep_mem E h)

section
variable {ops : Array Oper} {ds : List DOper} {p : Plan} {pre : List (List Nat)} {ρ0 : Ren} {E0 : Env} {A0 : AHeap} {w0 : World}

theorem anc_lt (hp : PlanOk pre ds p) : ∀ (i : Nat), i < ds.length → ∀ j ∈ ancOf p i, j < i := by
  intro i
  induction i using Nat.strongRecOn with
  | _ i ih =>
    intro hi j hj
    rcases hp.anc i hi j hj with h | ⟨k, hk, hjk⟩
    · exact hp.preLt i hi j h
    · have h1 := hp.preLt i hi k hk
      have := ih k h1 (by omega) j hjk
      omega

theorem hOf_ne {base i j : Nat} (hi : i ∈ p.made) (hij : i ≠ j) (hj : j ∈ p.made) : hOf p base i ≠ hOf p base j := by
  intro h
  exact hij (posOf_inj hi hj (by simp only [hOf] at h; omega))

theorem Pend.mono {base : Nat} {ρ ρ' : Ren} {E : Env} {A : AHeap} {w w' : World} {sz i : Nat} (h : Pend ds p base ρ E A w sz i) (ha : Agree ρ ρ') (hr : HRel ρ A w) (hw : ∀ b, b < w.heap.size → w'.heap[b]? = w.heap[b]?) : Pend ds p base ρ' E A w' sz i := by
  refine ⟨h.made, fun d d' hd hop hg => ?_⟩
  obtain ⟨x, h1, h2, h3, h4, h5⟩ := h.lies d d' hd hop hg
  rw [ha _ h2]
  exact ⟨x, h1, h2, h3.mono ha (hw _ h3.lt), h4, fun k o hk => by rw [ha _ (hr.ok k o hk)]; exact h5 k o hk⟩

theorem exec_upd (hp : PlanOk pre ds p) {S : Nat → Prop} {ρ : Ren} {E : Env} {A : AHeap} {a : Act} {w : World} {before done : List Nat} (hI : DInv ds p N ρ0 E0 A0 w0 S ρ E A a w before done) {i : Nat} {d : DOper} (hd : ds[i]? = some d)
    (hb : i ∈ before) (hnd : i ∉ done) (hanc : ∀ j ∈ ancOf p i, S j) (hdst : ∀ t, d.dst = some t → t < N) {ρ' : Ren} {w' : World} {v v' : Value} (ha : Agree ρ ρ') (hρ : ∀ h, ρ' h = ρ h ∨ (h = hOf p A0.next i ∧ i ∈ p.made))
    (hw : ∀ b, b < w.heap.size → w'.heap[b]? = w.heap[b]?) (hsz : w.heap.size ≤ w'.heap.size) (hos : w'.os = w.os) (hout : w'.output = w.output) (htape : w'.tape = w.tape)
    (hv : TRel ρ' v v') (hE : ∀ t, d.dst = some t → E.get t = some v) (hpi : i ∈ p.made → Pend ds p A0.next ρ' E A w' w0.heap.size i) (hblk : allocAt ds i = true → runs ds E i → w.heap.size ≤ (ρ' (hOf p A0.next i)).blk) :
    DInv ds p N ρ0 E0 A0 w0 (fun j => S j ∨ j = i) ρ' E A (a.put d.dst v') w' before done := by
  have hother : ∀ t, d.dst ≠ some t → (a.put d.dst v').tmps[t]? = a.tmps[t]? := by
    intro t ht
    cases hdt : d.dst with
    | none => rfl
    | some s =>
      have : s ≠ t := fun e => ht (by rw [hdt, e])
      simp [Act.put, Array.getElem?_setIfInBounds_ne this]
  have hself : ∀ t, d.dst = some t → (a.put d.dst v').tmps[t]? = some v' := by
    intro t ht
    rw [ht]
    simp [Act.put, hI.size, hdst t ht]
  have hmk : A0.next ≤ hOf p A0.next i := by simp only [hOf]; omega
  have hheap : HRel ρ' A w' := hI.heap.frame ha (fun h hh => by
    rcases hρ h with e | ⟨e, hm⟩
    · rw [e]; exact hI.heap.fresh h hh
    · have := posOf_lt hm
      have := hI.next
      simp only [hOf] at e
      omega) hw
  refine { defers := ?_, size := ?_, closed := ?_, bclosed := hI.bclosed, sub := ?_, blt := hI.blt, dsub := hI.dsub, doneS := fun j hj => .inl (hI.doneS j hj), env1 := ?_, env2 := hI.env2, env3 := ?_, heap := hheap, next := hI.next, fresh := ?_, pend := ?_, pend2 := ?_, fact := ?_, wsize := Nat.le_trans hI.wsize hsz,
           agree := ?_, keep := ?_, incl := ?_, incl2 := ?_, os := hos.trans hI.os, output := hout.trans hI.output, tape := htape.trans hI.tape }
  · cases hdt : d.dst <;> exact hI.defers
  · cases hdt : d.dst with
    | none => exact hI.size
    | some s => simpa [Act.put] using hI.size
  · rintro j (hj | rfl) hjl k hk
    · exact .inl (hI.closed j hj hjl k hk)
    · exact .inl (hanc k hk)
  · rintro j (hj | rfl)
    · exact hI.sub j hj
    · exact hb
  · intro j hj e t he ht
    obtain ⟨u, h1, h2⟩ := hI.env1 j hj e t he ht
    refine ⟨u, h1, fun hSj => ?_⟩
    by_cases hji : j = i
    · subst hji
      rw [hd] at he; cases he
      rw [hE t ht] at h1; cases h1
      exact ⟨v', hself t ht, hv⟩
    · obtain ⟨u', h3, h4⟩ := h2 (hSj.resolve_right hji)
      exact ⟨u', by rw [hother t (fun hdt => hji (hp.dst j i e d t he hd ht hdt))]; exact h3, h4.mono ha⟩
  · intro t u hu hno
    obtain ⟨u', h1, h2⟩ := hI.env3 t u hu fun j hj e he => hno j (.inl hj) e he
    exact ⟨u', by rw [hother t (hno i (.inr rfl) d hd)]; exact h1, h2.mono ha⟩
  · intro j hm hnS
    have hji : j ≠ i := fun e => hnS (.inr e)
    have h1 := hI.fresh j hm fun h => hnS (.inl h)
    rcases hρ (hOf p A0.next j) with e | ⟨e, hmi⟩
    · rw [e]; exact h1
    · exact (hOf_ne hm hji hmi e).elim
  · rintro j hj hm hjd
    by_cases hji : j = i
    · subst hji; exact hpi hm
    · exact (hI.pend j (hj.resolve_right hji) hm hjd).mono ha hI.heap hw
  · intro j k hj1 hj2 hj3 hj4 hk1 hk2 hk3 hk4 hjr hkr hjk
    have lt_of : ∀ j, S j → j ∈ p.made → j ∉ done → allocAt ds j = true → runs ds E j → ρ' (hOf p A0.next j) = ρ (hOf p A0.next j) ∧ (ρ (hOf p A0.next j)).blk < w.heap.size := by
      intro j h1 h2 h3 h4 ⟨e, he, hg⟩
      unfold allocAt at h4
      rw [he] at h4
      cases hop : e.op with
      | alloc d' =>
        obtain ⟨x, g1, g2, g3, _⟩ := (hI.pend j h1 h2 h3).lies e d' he hop hg
        exact ⟨ha _ g2, g3.lt⟩
      | light d' => simp [hop, isAlloc] at h4
      | heavy d' => simp [hop, isAlloc] at h4
    by_cases hji : j = i
    · subst hji
      have hki : k ≠ j := Ne.symm hjk
      obtain ⟨e1, e2⟩ := lt_of k (hk1.resolve_right hki) hk2 hk3 hk4 hkr
      rw [e1]
      have := hblk hj4 hjr
      omega
    · obtain ⟨e1, e2⟩ := lt_of j (hj1.resolve_right hji) hj2 hj3 hj4 hjr
      by_cases hki : k = i
      · subst hki
        rw [e1]
        have := hblk hk4 hkr
        omega
      · obtain ⟨e3, e4⟩ := lt_of k (hk1.resolve_right hki) hk2 hk3 hk4 hkr
        rw [e1, e3]
        exact hI.pend2 j k (hj1.resolve_right hji) hj2 hj3 hj4 (hk1.resolve_right hki) hk2 hk3 hk4 hjr hkr hjk
  · exact fun j hj hnS => hI.fact j hj fun h => hnS (.inl h)
  · intro h hh
    rcases hρ h with e | ⟨e, _⟩
    · rw [e]; exact hI.agree h hh
    · omega
  · intro b hb' hn
    rw [hw b (Nat.lt_of_lt_of_le hb' hI.wsize)]
    exact hI.keep b hb' hn
  · intro b ⟨h, o, h1, h2, h3⟩
    refine hI.incl b ⟨h, o, h1, h2, ?_⟩
    rw [← h3, ha _ (hI.heap.ok h o h1)]
  · intro b ⟨h, o, h1, h3⟩
    refine hI.incl2 b ⟨h, o, h1, ?_⟩
    rw [← h3, ha _ (hI.heap.ok h o h1)]

/-- The slots that an operation looks at, when its turn has come. -/
theorem turn_env {S : Nat → Prop} {ρ : Ren} {E : Env} {A : AHeap} {a : Act} {w : World} {before done : List Nat} (hI : DInv ds p N ρ0 E0 A0 w0 S ρ E A a w before done) {i : Nat} {d : DOper} (hnS : ¬ S i) (hanc : ∀ j ∈ ancOf p i, S j) {Ei : Env}
    (h7 : ∀ t ∈ d.reads, (∃ j ∈ ancOf p i, ∃ e, ds[j]? = some e ∧ e.dst = some t ∧ Ei.get t = E.get t) ∨ ((∀ (j : Nat) e, ds[j]? = some e → e.dst = some t → i ∈ ancOf p j) ∧ Ei.get t = E0.get t)) : ERel ρ N (Ei.keep d.reads) a := by
  refine ⟨hI.defers, hI.size, fun t u hu => ?_⟩
  have hm := Env.keep_mem _ hu
  rw [Env.get_keep_mem _ hm] at hu
  rcases h7 t hm with ⟨j, hj, e, he, hte, hEi⟩ | ⟨h8, hEi⟩
  · have hS := hanc j hj
    obtain ⟨v, h1, h2⟩ := hI.env1 j (hI.sub j hS) e t he hte
    rw [hEi, h1] at hu; cases hu
    exact h2 hS
  · rw [hEi] at hu
    refine hI.env3 t u hu fun j hS e he hte => ?_
    exact hnS (hI.closed j hS (ds_lt he) i (h8 j e he hte))

theorem keep_guard {E : Env} {d : DOper} : evalG d.guard (E.keep d.reads) = evalG d.guard E := evalG_reads fun _ ht => Env.get_keep_mem E ht

/-- Is the operation wanted? -/
theorem turn_wanted {ρ : Ren} {a : Act} {o : Oper} {d : DOper} (hc : compOper P N ops o = some d) {Ei : Env} (he : ERel ρ N (Ei.keep d.reads) a) {g : Bool} (hg : evalG d.guard Ei = some g) : Region.wanted o (yielded ops a.tmps) = g := by
  obtain ⟨_, h2, _, _⟩ := compOper_inv hc
  rw [← keep_guard] at hg
  cases hgd : d.guard with
  | none =>
    rw [hgd] at hg h2
    simp only [evalG, Option.some.injEq] at hg
    subst hg
    exact wanted_none h2
  | some x =>
    obtain ⟨t, want⟩ := x
    rw [hgd] at hg h2
    simp only [evalG] at hg
    split at hg
    · rename_i b hb
      cases hg
      obtain ⟨v', h3, h4⟩ := he.get t _ hb
      obtain rfl := h4.bool_inv
      exact wanted_of h2 h3
    · rename_i vs hb
      split at hg
      · rename_i hvs
        cases hg
        obtain ⟨v', h3, h4⟩ := he.get t _ hb
        obtain rfl := h4.unit_inv hvs
        exact wanted_undef h2 h3
      · cases hg
    · cases hg

/-- An operation that the walk has passed. -/
theorem run_light (hp : PlanOk pre ds p) (hcomp : ∀ (i : Nat) d, ds[i]? = some d → ∃ o, ops[i]? = some o ∧ compOper P N ops o = some d) {S : Nat → Prop} {ρ : Ren} {E : Env} {A : AHeap} {a : Act} {w : World} {before done : List Nat}
    (hI : DInv ds p N ρ0 E0 A0 w0 S ρ E A a w before done) {i : Nat} (hb : i ∈ before) (hnS : ¬ S i) (hnd : i ∉ done) (hanc : ∀ j ∈ ancOf p i, S j) {Kc : Act → World → Prop} {Q : Exit → Act → World → Prop}
    (hn : ∀ ρ' a' w', DInv ds p N ρ0 E0 A0 w0 (fun j => S j ∨ j = i) ρ' E A a' w' before done → Kc a' w') : wpOp P ops Q i Kc a w := by
  obtain ⟨d, Ei, g, v, hd, hh, hg, hrun, hskip, hE, h7⟩ := (hI.fact i hb hnS).ok
  obtain ⟨o, ho, hco⟩ := hcomp i d hd
  obtain ⟨c1, c2, c3, c4⟩ := compOper_inv hco
  have he := turn_env hI hnS hanc h7
  have hwant := turn_wanted hco he hg
  have hil := ds_lt hd
  simp only [wpOp, ho, hwant]
  -- an operation that makes memory looks at slots that do not turn any more
  have hstab : isAlloc d.op = true → ∀ t ∈ d.reads, Ei.get t = E.get t := by
    intro hal t ht
    rcases h7 t ht with ⟨_, _, _, _, _, h⟩ | ⟨h8, h9⟩
    · exact h
    · rw [h9]
      refine (hI.env2 t fun j hj e hje hte => ?_).symm
      have h10 := h8 j e hje hte
      rcases hp.reads i j d e t hd hje hte ht with h11 | ⟨_, _, h12⟩
      · have h13 := anc_lt hp i hil j h11
        have h14 := anc_lt hp j (ds_lt hje) i h10
        omega
      · rw [hal] at h12; cases h12
  cases g with
  | false =>
    rw [if_neg (by simp)]
    obtain rfl := hskip rfl
    have hnorun : allocAt ds i = true → ¬ runs ds E i := by
      intro hal ⟨e, he', hg'⟩
      rw [hd] at he'; cases he'
      unfold allocAt at hal
      rw [hd] at hal
      rw [← evalG_reads (hstab hal), hg] at hg'
      cases hg'
    rw [← c3]
    refine hn ρ _ w (exec_upd hp hI hd hb hnd hanc c4 (Agree.refl ρ) (fun _ => .inl rfl) (fun _ _ => rfl) (Nat.le_refl _) rfl rfl rfl put_undef_rel hE (fun hm => ⟨hm, fun e d' he' hop hg' => ?_⟩) (fun hal hr => (hnorun hal hr).elim))
    rw [hd] at he'; cases he'
    exact (hnorun (by unfold allocAt; rw [hd]; simp [hop, isAlloc]) ⟨_, hd, hg'⟩).elim
  | true =>
    rw [if_pos rfl]
    refine .inl ?_
    have hv := hrun rfl
    have hv' : lightV d.op (hOf p A0.next i) (Ei.keep d.reads) A = some v := by
      rw [← hv]; exact lightV_reads (fun t ht => Env.get_keep_mem Ei ht) _ A
    cases hop : d.op with
    | heavy d' => rw [hop] at hh; cases hh
    | light d' =>
      rw [hop] at hv' c1
      have hL : compL P o.op = some d' := by
        unfold compOp at c1
        split at c1
        · rename_i d'' h; cases c1; exact h
        · split at c1
          · cases c1
          · obtain ⟨_, _, h⟩ := Option.map_eq_some_iff.1 c1; cases h
      obtain ⟨v', h1, h2⟩ := light_sound hL ⟨he, hI.heap⟩ hv'
      refine wp_value h1 ?_
      rw [← c3]
      refine hn ρ _ w (exec_upd hp hI hd hb hnd hanc c4 (Agree.refl ρ) (fun _ => .inl rfl) (fun _ _ => rfl) (Nat.le_refl _) rfl rfl rfl h2 hE (fun hm => ⟨hm, fun e d'' he' hop' _ => ?_⟩) (fun hal _ => ?_))
      · rw [hd] at he'; cases he'; rw [hop] at hop'; cases hop'
      · unfold allocAt at hal; rw [hd] at hal; simp [hop, isAlloc] at hal
    | alloc d' =>
      rw [hop] at hv' c1
      have hA : compA P o.op = some d' := by
        unfold compOp at c1
        split at c1
        · cases c1
        · split at c1
          · rename_i d'' h; cases c1; exact h
          · obtain ⟨_, _, h⟩ := Option.map_eq_some_iff.1 c1; cases h
      simp only [lightV] at hv'
      split at hv'
      · rename_i x hx
        cases hv'
        obtain ⟨obj, f⟩ := x
        have hal : allocAt ds i = true := by unfold allocAt; rw [hd]; simp [hop, isAlloc]
        have hm := hp.made i hil hal
        have hnok := hI.fresh i hm hnS
        obtain ⟨v', C, b, h1, h2, h3, h4⟩ := alloc_sound (w := w) hA he hx
        obtain ⟨h5, h6⟩ := h4 (hOf p A0.next i) hnok
        refine wp_value h1 ?_
        rw [← c3]
        have hEx : dal d' E = some (obj, f) := by
          have := eval_reads (hstab (by rw [hop]; rfl))
          rw [hop] at this
          rw [← dal_congr this, ← hx]
          have hk := op_keep (E := Ei) (d := d)
          rw [hop] at hk
          exact (dal_congr hk).symm
        refine hn (ρ.at (hOf p A0.next i) b) _ _ (exec_upd hp hI hd hb hnd hanc c4 (Agree.at hnok b) (fun h => ?_) (fun c hc => more_old w C hc) (by show _ ≤ (w.heap.push C).size; simp) rfl rfl rfl h6 hE (fun _ => ⟨hm, fun e d'' he' hop' _ => ?_⟩) (fun _ _ => by rw [Ren.at_same, h3]; exact Nat.le_refl _))
        · by_cases e : h = hOf p A0.next i
          · exact .inr ⟨e, hm⟩
          · exact .inl (Ren.at_ne _ _ e)
        · rw [hd] at he'; cases he'
          rw [hop] at hop'; cases hop'
          refine ⟨(obj, f), hEx, by rw [Ren.at_same]; exact h2, by rw [Ren.at_same]; exact h5, by rw [Ren.at_same, h3]; exact hI.wsize, fun k o' hk => ?_⟩
          have hkne : k ≠ hOf p A0.next i := fun e => by have := hI.heap.ok k o' hk; rw [e, hnok] at this; cases this
          rw [Ren.at_same, Ren.at_ne _ _ hkne, h3]
          have := hI.heap.lt hk
          omega
      · cases hv'
end
end Go.Proofs.Ytckdmhjhjfmcdaa.Sx
