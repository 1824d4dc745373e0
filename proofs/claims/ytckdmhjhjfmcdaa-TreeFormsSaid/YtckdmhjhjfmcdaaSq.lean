/-
  A writing operation of a region that draws its order; and the region as a whole.
-/
import Derived.Test.YtckdmhjhjfmcdaaSp
namespace Go.Proofs.Ytckdmhjhjfmcdaa.Sx
set_option linter.unusedSimpArgs false
set_option linter.unusedVariables false
open Go
variable {P : Program} {N : Nat}

section
variable {ops : Array Oper} {ds : List DOper} {p : Plan} {pre : List (List Nat)} {ρ0 : Ren} {E0 : Env} {A0 : AHeap} {w0 : World}

theorem recheck_mem {E : Env} {A : AHeap} : ∀ {C : List Nat}, recheck ds E A C → ∀ {j : Nat} {d : DOper} {d' : LOp}, j ∈ C → ds[j]? = some d → d.op = .light d' → ∃ t, d.dst = some t ∧ (evalG d.guard E = some true → dlight d' E A = E.get t)
  | [], _, j, d, d', hj, _, _ => by simp at hj
  | c :: C, h, j, d, d', hj, hd, hop => by
    obtain ⟨h1, h2⟩ := h
    rcases List.mem_cons.1 hj with rfl | hj
    · rw [hd] at h1
      simp only [hop] at h1
      split at h1
      · rename_i t e1 e2
        cases e1
        refine ⟨t, e2, fun hg => ?_⟩
        rw [hg] at h1
        exact h1
      · exact h1.elim
    · exact recheck_mem h2 hj hd hop

theorem allocAt_inv {i : Nat} (h : allocAt ds i = true) : ∃ d d', ds[i]? = some d ∧ d.op = .alloc d' := by
  unfold allocAt at h
  split at h
  · rename_i d hd
    cases hop : d.op with
    | alloc d' => exact ⟨d, d', hd, hop⟩
    | light d' => simp [hop, isAlloc] at h
    | heavy d' => simp [hop, isAlloc] at h
  · cases h

/-- What an operation that makes memory, or reads it, looked at when the walk passed it, it looks at still. -/
theorem fact_stable (hp : PlanOk pre ds p) {S : Nat → Prop} {ρ : Ren} {E : Env} {A : AHeap} {a : Act} {w : World} {before done : List Nat} (hI : DInv ds p N ρ0 E0 A0 w0 S ρ E A a w before done) {i : Nat} {d : DOper} (hd : ds[i]? = some d)
    (hk : isAlloc d.op = true ∨ readsMem d.op = true) {Ei : Env} (h7 : ∀ t ∈ d.reads, (∃ j ∈ ancOf p i, ∃ e, ds[j]? = some e ∧ e.dst = some t ∧ Ei.get t = E.get t) ∨ ((∀ (j : Nat) e, ds[j]? = some e → e.dst = some t → i ∈ ancOf p j) ∧ Ei.get t = E0.get t)) :
    ∀ t ∈ d.reads, Ei.get t = E.get t := by
  intro t ht
  rcases h7 t ht with ⟨_, _, _, _, _, h⟩ | ⟨h8, h9⟩
  · exact h
  · rw [h9]
    refine (hI.env2 t fun j hj e hje hte => ?_).symm
    have h10 := h8 j e hje hte
    rcases hp.reads i j d e t hd hje hte ht with h11 | ⟨_, h13, h12⟩
    · have h13 := anc_lt hp i (ds_lt hd) j h11
      have h14 := anc_lt hp j (ds_lt hje) i h10
      omega
    · rcases hk with hk | hk
      · rw [hk] at h12; cases h12
      · rw [hk] at h13; cases h13

/-- The machine has run a writing operation (or passed it by): where the walk then stands. -/
theorem heavy_upd (hp : PlanOk pre ds p) {S : Nat → Prop} {ρ : Ren} {E : Env} {A : AHeap} {a : Act} {w : World} {before done : List Nat} (hI : DInv ds p N ρ0 E0 A0 w0 S ρ E A a w before done) {i : Nat} {d : DOper} (hd : ds[i]? = some d) (hh : isHeavy d.op = true)
    (hi : i ∉ before) (hanc : ∀ j ∈ ancOf p i, S j) (hdst : ∀ t, d.dst = some t → t < N) {R : List Nat} (hR : ∀ j ∈ R, allocAt ds j = true ∧ j ∈ ancOf p i ∧ j ∉ done) {A1 : AHeap} (hr1 : HRel ρ A1 w) (hn1 : A1.next = A.next)
    (hl1 : ∀ h o, A1.get h = some o → A.get h = some o ∨ ∃ j ∈ R, runs ds E j ∧ h = hOf p A0.next j ∧ (∃ d d', ds[j]? = some d ∧ d.op = .alloc d')) {ρ' : Ren} {A' : AHeap} {w' : World} (hr' : HRel ρ' A' w') (hst : Step ρ A1 w ρ' A' w')
    {E1 : Env} (hsame : ∀ t, E1.get t = E.get t) {v v' : Value} (hv : TRel ρ' v v')
    (hfact : ∀ j ∈ before, ¬ S j → ∀ d d', ds[j]? = some d → d.op = .light d' → d'.isRead = true → ∃ t, d.dst = some t ∧ (evalG d.guard E = some true → dlight d' E A' = E.get t)) :
    DInv ds p N ρ0 E0 A0 w0 (fun j => S j ∨ j = i) ρ' (E1.put d.dst v) A' (a.put d.dst v') w' (i :: before) (R ++ done) := by
  have ha := hst.to_agree hr1
  have hnS : ¬ S i := fun h => hi (hI.sub i h)
  have hget : ∀ t, d.dst ≠ some t → (E1.put d.dst v).get t = E.get t := by
    intro t ht; rw [Env.get_put, if_neg ht, hsame]
  have hold : ∀ j ∈ before, ∀ e t, ds[j]? = some e → e.dst = some t → d.dst ≠ some t := by
    intro j hj e t he ht hdt
    exact hi ((hp.dst i j d e t hd he hdt ht) ▸ hj)
  have hother : ∀ t, d.dst ≠ some t → (a.put d.dst v').tmps[t]? = a.tmps[t]? := by
    intro t ht
    cases hdt : d.dst with
    | none => rfl
    | some s =>
      have : s ≠ t := fun e => ht (by rw [hdt, e])
      simp [Act.put, Array.getElem?_setIfInBounds_ne this]
  have hself : ∀ t, d.dst = some t → (a.put d.dst v').tmps[t]? = some v' := by
    intro t ht
    rw [ht]
    simp [Act.put, hI.size, hdst t ht]
  have hstable : ∀ j ∈ before, ∀ e, ds[j]? = some e → (isAlloc e.op = true ∨ readsMem e.op = true) → ∀ t ∈ e.reads, (E1.put d.dst v).get t = E.get t := by
    intro j hj e he hk t ht
    refine hget t fun hdt => ?_
    rcases hp.reads j i e d t he hd hdt ht with h | ⟨h, h2, h3⟩
    · exact hi (hI.bclosed j hj i h)
    · rcases hk with hk | hk
      · rw [h3] at hk; cases hk
      · rw [h2] at hk; cases hk
  have hstableA : ∀ j ∈ before, ∀ e d', ds[j]? = some e → e.op = .alloc d' → evalG e.guard (E1.put d.dst v) = evalG e.guard E ∧ dal d' (E1.put d.dst v) = dal d' E := by
    intro j hj e d' he hop
    have hs := hstable j hj e he (.inl (by rw [hop]; rfl))
    refine ⟨evalG_reads hs, ?_⟩
    have := eval_reads hs
    rw [hop] at this
    exact dal_congr this
  have hrunsA : ∀ j ∈ before, allocAt ds j = true → (runs ds (E1.put d.dst v) j ↔ runs ds E j) := by
    intro j hj hal
    obtain ⟨e, d', he, hop⟩ := allocAt_inv hal
    have := (hstableA j hj e d' he hop).1
    constructor
    · rintro ⟨e', he', hg'⟩; rw [he] at he'; cases he'; exact ⟨e, he, this ▸ hg'⟩
    · rintro ⟨e', he', hg'⟩; rw [he] at he'; cases he'; exact ⟨e, he, this ▸ hg'⟩
  have hiA : allocAt ds i = false := by
    unfold allocAt; rw [hd]
    cases hop : d.op <;> simp_all [isHeavy, isAlloc]
  have hlt1 : ∀ j ∈ p.made, hOf p A0.next j < A1.next := by
    intro j hj
    have := posOf_lt hj
    have := hI.next
    simp only [hOf]; omega
  have hhand : ∀ j ∈ p.made, ρ' (hOf p A0.next j) = ρ (hOf p A0.next j) := fun j hj => hst.agree _ (hlt1 j hj)
  -- a block that no live handle of the walk's heap names, and that no realized one does
  have hpendblk : ∀ j, S j → j ∈ p.made → j ∉ R ++ done → allocAt ds j = true → runs ds E j → (ρ (hOf p A0.next j)).blk < w.heap.size ∧ ¬ lblk ρ A1 (ρ (hOf p A0.next j)).blk := by
    intro j hS hm hnd hal hrj
    simp only [List.mem_append, not_or] at hnd
    obtain ⟨e, he, hg⟩ := hrj
    obtain ⟨e2, d', he2, hop⟩ := allocAt_inv hal
    rw [he] at he2; cases he2
    obtain ⟨x, g1, g2, g3, g4, g5⟩ := (hI.pend j hS hm hnd.2).lies e d' he hop hg
    refine ⟨g3.lt, fun ⟨h, o, h1, h2⟩ => ?_⟩
    rcases hl1 h o h1 with h3 | ⟨k, hk, hrk, h3, _⟩
    · exact g5 h o h3 h2
    · have hk' := hR k hk
      have hkS := hanc k hk'.2.1
      have hkm := hp.made k (hI.blt k (hI.sub k hkS)) hk'.1
      subst h3
      exact hI.pend2 k j hkS hkm hk'.2.2 hk'.1 hS hm hnd.2 hal hrk ⟨e, he, hg⟩ (fun e => hnd.1 (e ▸ hk)) h2
  have hw1 : ∀ b, wblk ρ A1 b → wblk ρ A b ∨ w0.heap.size ≤ b := by
    rintro b ⟨h, o, h1, h2, h3⟩
    rcases hl1 h o h1 with h4 | ⟨k, hk, hrk, h4, e, d', he, hop⟩
    · exact .inl ⟨h, o, h4, h2, h3⟩
    · have hk' := hR k hk
      have hkS := hanc k hk'.2.1
      have hkm := hp.made k (hI.blt k (hI.sub k hkS)) hk'.1
      obtain ⟨e2, he2, hg⟩ := hrk
      rw [he] at he2; cases he2
      obtain ⟨x, g1, g2, g3, g4, g5⟩ := (hI.pend k hkS hkm hk'.2.2).lies e d' he hop hg
      subst h4
      rw [← h3]; exact .inr g4
  have hl2 : ∀ b, lblk ρ A1 b → lblk ρ A b ∨ w0.heap.size ≤ b := by
    rintro b ⟨h, o, h1, h3⟩
    rcases hl1 h o h1 with h4 | ⟨k, hk, hrk, h4, e, d', he, hop⟩
    · exact .inl ⟨h, o, h4, h3⟩
    · have hk' := hR k hk
      have hkS := hanc k hk'.2.1
      have hkm := hp.made k (hI.blt k (hI.sub k hkS)) hk'.1
      obtain ⟨e2, he2, hg⟩ := hrk
      rw [he] at he2; cases he2
      obtain ⟨x, g1, g2, g3, g4, g5⟩ := (hI.pend k hkS hkm hk'.2.2).lies e d' he hop hg
      subst h4
      rw [← h3]; exact .inr g4
  refine { defers := ?_, size := ?_, closed := ?_, bclosed := ?_, sub := ?_, blt := ?_, dsub := ?_, doneS := ?_, env1 := ?_, env2 := ?_, env3 := ?_, heap := hr', next := ?_, fresh := ?_, pend := ?_, pend2 := ?_, fact := ?_, wsize := Nat.le_trans hI.wsize hst.size,
           agree := ?_, keep := ?_, incl := ?_, incl2 := ?_, os := hst.os.trans hI.os, output := hst.output.trans hI.output, tape := hst.tape.trans hI.tape }
  · cases hdt : d.dst <;> exact hI.defers
  · cases hdt : d.dst with
    | none => exact hI.size
    | some s => simpa [Act.put] using hI.size
  · rintro j (hj | rfl) hjl k hk
    · exact .inl (hI.closed j hj hjl k hk)
    · exact .inl (hanc k hk)
  · intro j hj k hk
    rcases List.mem_cons.1 hj with rfl | hj
    · exact List.mem_cons_of_mem _ (hI.sub k (hanc k hk))
    · exact List.mem_cons_of_mem _ (hI.bclosed j hj k hk)
  · rintro j (hj | rfl)
    · exact List.mem_cons_of_mem _ (hI.sub j hj)
    · simp
  · intro j hj
    rcases List.mem_cons.1 hj with rfl | hj
    · exact ds_lt hd
    · exact hI.blt j hj
  · intro j hj
    rcases List.mem_append.1 hj with hj | hj
    · exact List.mem_cons_of_mem _ (hI.sub j (hanc j (hR j hj).2.1))
    · exact List.mem_cons_of_mem _ (hI.dsub j hj)
  · intro j hj
    rcases List.mem_append.1 hj with hj | hj
    · exact .inl (hanc j (hR j hj).2.1)
    · exact .inl (hI.doneS j hj)
  · intro j hj e t he ht
    rcases List.mem_cons.1 hj with rfl | hj
    · rw [hd] at he; cases he
      exact ⟨v, by rw [Env.get_put, if_pos ht], fun _ => ⟨v', hself t ht, hv⟩⟩
    · have hne := hold j hj e t he ht
      rw [hget t hne, hother t hne]
      obtain ⟨u, h1, h2⟩ := hI.env1 j hj e t he ht
      refine ⟨u, h1, fun hS => ?_⟩
      have hji : j ≠ i := fun e => hi (e ▸ hj)
      obtain ⟨u', h3, h4⟩ := h2 (hS.resolve_right hji)
      exact ⟨u', h3, h4.mono ha⟩
  · intro t ht
    rw [hget t (ht i (by simp) d hd)]
    exact hI.env2 t fun j hj e he => ht j (List.mem_cons_of_mem _ hj) e he
  · intro t u hu hno
    rw [hother t (hno i (.inr rfl) d hd)]
    obtain ⟨u', h1, h2⟩ := hI.env3 t u hu fun j hj e he => hno j (.inl hj) e he
    exact ⟨u', h1, h2.mono ha⟩
  · have := hst.next; have := hI.next; omega
  · intro j hm hS
    rw [hhand j hm]
    exact hI.fresh j hm fun h => hS (.inl h)
  · rintro j hj hm hnd
    refine ⟨hm, fun e d' he hop hg => ?_⟩
    by_cases hji : j = i
    · subst hji
      rw [hd] at he; cases he
      rw [hop] at hh; cases hh
    · have hS := hj.resolve_right hji
      have hjb := hI.sub j hS
      have hal : allocAt ds j = true := by unfold allocAt; rw [he]; simp [hop, isAlloc]
      obtain ⟨s1, s2⟩ := hstableA j hjb e d' he hop
      rw [s1] at hg
      have hnd' := hnd
      simp only [List.mem_append, not_or] at hnd'
      obtain ⟨x, g1, g2, g3, g4, g5⟩ := (hI.pend j hS hm hnd'.2).lies e d' he hop hg
      obtain ⟨hblt, hbl⟩ := hpendblk j hS hm hnd hal ⟨e, he, hg⟩
      rw [s2, hhand j hm]
      refine ⟨x, g1, g2, g3.mono ha (hst.keep _ hblt fun ⟨h, o, h1, _, h3⟩ => hbl ⟨h, o, h1, h3⟩), g4, fun h o ho hbe => ?_⟩
      rcases hst.incl2 _ ⟨h, o, ho, hbe⟩ with h1 | h1
      · exact hbl h1
      · omega
  · intro j k hj1 hj2 hj3 hj4 hk1 hk2 hk3 hk4 hjr hkr hjk
    have hji : j ≠ i := fun e => by rw [e, hiA] at hj4; cases hj4
    have hki : k ≠ i := fun e => by rw [e, hiA] at hk4; cases hk4
    have hSj := hj1.resolve_right hji
    have hSk := hk1.resolve_right hki
    simp only [List.mem_append, not_or] at hj3 hk3
    rw [hhand j hj2, hhand k hk2]
    exact hI.pend2 j k hSj hj2 hj3.2 hj4 hSk hk2 hk3.2 hk4 ((hrunsA j (hI.sub j hSj) hj4).1 hjr) ((hrunsA k (hI.sub k hSk) hk4).1 hkr) hjk
  · intro j hj hS
    have hji : j ≠ i := fun e => hS (.inr e)
    have hjb : j ∈ before := by
      rcases List.mem_cons.1 hj with h | h
      · exact (hji h).elim
      · exact h
    have hSj : ¬ S j := fun h => hS (.inl h)
    obtain ⟨e, Ei, g, u, h1, h2, h3, h4, h5, h6, h7⟩ := (hI.fact j hjb hSj).ok
    refine ⟨e, Ei, g, u, h1, h2, h3, fun hg => ?_, h5, fun t ht => by rw [hget t (hold j hjb e t h1 ht)]; exact h6 t ht, fun t ht => ?_⟩
    · have h4' := h4 hg
      cases hop : e.op with
      | heavy d' => rw [hop] at h2; cases h2
      | alloc d' => rw [hop] at h4'; exact h4'
      | light d' =>
        rw [hop] at h4'
        simp only [lightV] at h4' ⊢
        cases hrd : d'.isRead with
        | false => rw [dlight_pure hrd Ei A' A]; exact h4'
        | true =>
          have hst' := fact_stable hp hI h1 (.inr (by rw [hop]; exact hrd)) h7
          have hgE : evalG e.guard E = some true := by rw [← evalG_reads hst', h3, hg]
          have hev := eval_reads hst'
          rw [hop] at hev
          obtain ⟨t, hdt, hch⟩ := hfact j hjb hSj e d' h1 hop hrd
          rw [dlight_congr hev, hch hgE]
          exact h6 t hdt
    · rcases h7 t ht with ⟨k, hk, e', he', hte', h8⟩ | h8
      · exact .inl ⟨k, hk, e', he', hte', by rw [hget t (hold k (hI.bclosed j hjb k hk) e' t he' hte')]; exact h8⟩
      · exact .inr h8
  · intro h hh'
    rw [hst.agree h (by have := hI.next; omega)]
    exact hI.agree h hh'
  · intro b hb hn
    rw [hst.keep b (Nat.lt_of_lt_of_le hb hI.wsize) fun h => ?_]
    · exact hI.keep b hb hn
    · rcases hw1 b h with h1 | h1
      · rcases hI.incl b h1 with h2 | h2
        · exact hn h2
        · omega
      · omega
  · intro b hb
    rcases hst.incl b hb with h | h
    · rcases hw1 b h with h1 | h1
      · exact hI.incl b h1
      · exact .inr h1
    · exact .inr (Nat.le_trans hI.wsize h)
  · intro b hb
    rcases hst.incl2 b hb with h | h
    · rcases hl2 b h with h1 | h1
      · exact hI.incl2 b h1
      · exact .inr h1
    · exact .inr (Nat.le_trans hI.wsize h)

theorem stepsOk_heavy {before done : List Nat} {i : Nat} {R C : List Nat} {r : List PStep} (h : stepsOk ds p before done (.heavy i R C :: r) = true) :
    heavyAt ds i = true ∧ (∀ j ∈ ancOf p i, j ∈ before) ∧ (∀ s ∈ r, i ∈ ancOf p s.ix) ∧ (∀ j ∈ R, allocAt ds j = true ∧ j ∈ ancOf p i ∧ j ∉ done) ∧ R.Nodup ∧ (∀ j ∈ before, readAt ds j = true → j ∈ ancOf p i ∨ j ∈ C) ∧ (∀ j ∈ C, j ∈ before) ∧ stepsOk ds p (i :: before) (R ++ done) r = true := by
  simp only [stepsOk, Bool.and_eq_true, List.all_eq_true, List.contains_iff_mem, Bool.not_eq_true', decide_eq_true_eq, Bool.or_eq_true] at h
  obtain ⟨⟨⟨⟨⟨⟨⟨h1, h2⟩, h3⟩, h4⟩, h5⟩, h6⟩, h7⟩, h8⟩ := h
  refine ⟨h1, h2, h3, fun j hj => ?_, h5, fun j hj hr => ?_, h7, h8⟩
  · obtain ⟨⟨a1, a2⟩, a3⟩ := h4 j hj
    refine ⟨a1, a2, fun hc => ?_⟩
    have : done.contains j = true := List.contains_iff_mem.2 hc
    rw [this] at a3; cases a3
  · rcases h6 j hj with (h | h) | h
    · rw [hr] at h; cases h
    · exact .inl h
    · exact .inr h
theorem stepsOk_light {before done : List Nat} {i : Nat} {r : List PStep} (h : stepsOk ds p before done (.light i :: r) = true) :
    heavyAt ds i = false ∧ (∀ j ∈ ancOf p i, j ∈ before) ∧ stepsOk ds p (i :: before) done r = true := by
  simp only [stepsOk, Bool.and_eq_true, List.all_eq_true, List.contains_iff_mem, Bool.not_eq_true'] at h
  exact ⟨h.1.1, h.1.2, h.2⟩

/-- The walk goes as far as it can without the machine. -/
theorem absorb_all (hp : PlanOk pre ds p) {last : List Nat} {K : Env → AHeap → Prop} {S : Nat → Prop} {ρ : Ren} {A : AHeap} {a : Act} {w : World} : ∀ (r : List PStep) (E : Env) (before done : List Nat),
    DInv ds p N ρ0 E0 A0 w0 S ρ E A a w before done → stepsOk ds p before done r = true → (∀ s ∈ r, s.ix ∉ before ∧ s.ix < ds.length) → (r.map (·.ix)).Nodup → dgo P ds p.made last A0.next r E A K →
    ∃ (q r' : List PStep) (E' : Env) (before' : List Nat), r = q ++ r' ∧ before' = (q.map (·.ix)).reverse ++ before ∧ (∀ s ∈ q, ∃ i, s = .light i) ∧ (r' = [] ∨ ∃ i R C r'', r' = .heavy i R C :: r'') ∧ DInv ds p N ρ0 E0 A0 w0 S ρ E' A a w before' done ∧ stepsOk ds p before' done r' = true ∧ dgo P ds p.made last A0.next r' E' A K
  | [], E, before, done, hI, hs, _, _, hd => ⟨[], [], E, before, rfl, by simp, by simp, .inl rfl, hI, hs, hd⟩
  | .heavy i R C :: r, E, before, done, hI, hs, _, _, hd => ⟨[], .heavy i R C :: r, E, before, rfl, by simp, by simp, .inr ⟨i, R, C, r, rfl⟩, hI, hs, hd⟩
  | .light i :: r, E, before, done, hI, hs, hb, hnd, hd => by
    obtain ⟨h1, h2, h3⟩ := stepsOk_light hs
    obtain ⟨hib, hil⟩ := hb (.light i) (by simp)
    change i ∉ before at hib
    change i < ds.length at hil
    have hdd : ds[i]? = some ds[i] := by simp [hil]
    have hnh : isHeavy ds[i].op = false := by
      unfold heavyAt at h1; rw [hdd] at h1; exact h1
    simp only [dgo, hdd] at hd
    have hrest : ∀ s ∈ r, s.ix ∉ i :: before ∧ s.ix < ds.length := by
      intro s hs'
      have := hb s (by simp [hs'])
      refine ⟨fun hm => ?_, this.2⟩
      rcases List.mem_cons.1 hm with e | hm
      · simp only [List.map_cons, List.nodup_cons, List.mem_map] at hnd
        exact hnd.1 ⟨s, hs', e⟩
      · exact this.1 hm
    have hnd' : (r.map (·.ix)).Nodup := by simp only [List.map_cons, List.nodup_cons] at hnd; exact hnd.2
    rcases guarded_inv hd with ⟨hg, E1, hsame, hrun⟩ | ⟨hg, E1, hsame, hrun⟩
    · split at hrun
      · rename_i v hv
        have hI' := absorb hp hI hdd hnh hib h2 hsame hg (fun _ => hv) (fun h => by cases h)
        obtain ⟨q, r', E', before', e1, e2, e3, e4, e5, e6, e7⟩ := absorb_all hp r _ _ done hI' h3 hrest hnd' hrun
        exact ⟨.light i :: q, r', E', before', by simp [e1], by simp [e2, PStep.ix], fun s hs' => by
          rcases List.mem_cons.1 hs' with rfl | h
          · exact ⟨i, rfl⟩
          · exact e3 s h, e4, e5, e6, e7⟩
      · exact hrun.elim
    · have hI' := absorb (v := .tuple #[]) hp hI hdd hnh hib h2 hsame hg (fun h => by cases h) (fun _ => rfl)
      obtain ⟨q, r', E', before', e1, e2, e3, e4, e5, e6, e7⟩ := absorb_all hp r _ _ done hI' h3 hrest hnd' hrun
      exact ⟨.light i :: q, r', E', before', by simp [e1], by simp [e2, PStep.ix], fun s hs' => by
        rcases List.mem_cons.1 hs' with rfl | h
        · exact ⟨i, rfl⟩
        · exact e3 s h, e4, e5, e6, e7⟩

/-- The next writing operation. -/
theorem run_heavy (hp : PlanOk pre ds p) (hcomp : ∀ (i : Nat) d, ds[i]? = some d → ∃ o, ops[i]? = some o ∧ compOper P N ops o = some d) {last : List Nat} {K : Env → AHeap → Prop} {S : Nat → Prop} {ρ : Ren} {E : Env} {A : AHeap} {a : Act} {w : World} {before done : List Nat}
    (hI : DInv ds p N ρ0 E0 A0 w0 S ρ E A a w before done) {i : Nat} {R C : List Nat} {r : List PStep} (hs : stepsOk ds p before done (.heavy i R C :: r) = true) (hi : i ∉ before) (hanc : ∀ j ∈ ancOf p i, S j) (hd : dgo P ds p.made last A0.next (.heavy i R C :: r) E A K) {Kc : Act → World → Prop} {Q : Exit → Act → World → Prop}
    (hn : ∀ ρ' E' A' a' w', DInv ds p N ρ0 E0 A0 w0 (fun j => S j ∨ j = i) ρ' E' A' a' w' (i :: before) (R ++ done) → dgo P ds p.made last A0.next r E' A' K → Kc a' w') : wpOp P ops Q i Kc a w := by
  obtain ⟨h1, h2, h3, h4, h5, h6, h7, h8⟩ := stepsOk_heavy hs
  have hnS : ¬ S i := fun h => hi (hI.sub i h)
  simp only [dgo] at hd
  split at hd
  · rename_i A1 d hA1 hdd
    obtain ⟨o, ho, hco⟩ := hcomp i d hdd
    obtain ⟨c1, c2, c3, c4⟩ := compOper_inv hco
    split at hd
    · rename_i h hop
      have hh : isHeavy d.op = true := by rw [hop]; rfl
      obtain ⟨hr1, hn1, hl1⟩ := realize_ok (sz := w0.heap.size) (T := fun j => S j ∧ j ∈ p.made ∧ j ∉ done ∧ allocAt ds j = true) hI.next
        (fun j k hj hk hjr hkr hjk => hI.pend2 j k hj.1 hj.2.1 hj.2.2.1 hj.2.2.2 hk.1 hk.2.1 hk.2.2.1 hk.2.2.2 hjr hkr hjk) R A A1 h5
        (fun j hj => ⟨hanc j (h4 j hj).2.1, hp.made j (hI.blt j (hI.sub j (hanc j (h4 j hj).2.1))) (h4 j hj).1, (h4 j hj).2.2, (h4 j hj).1⟩) rfl hI.heap
        (fun j hj => hI.pend j (hanc j (h4 j hj).2.1) (hp.made j (hI.blt j (hI.sub j (hanc j (h4 j hj).2.1))) (h4 j hj).1) (h4 j hj).2.2) hA1
      have hsplit := reads_split hp hI hdd hi
      have he : ERel ρ N (E.keep d.reads) a := turn_env hI hnS hanc fun t ht => by
        rcases hsplit t ht with ⟨j, hj, e, he, hte⟩ | h
        · exact .inl ⟨j, hj, e, he, hte, rfl⟩
        · exact .inr h
      have hrecf : ∀ {E1 : Env} {A' : AHeap}, (∀ t, E1.get t = E.get t) → recheck ds E1 A' C → ∀ j ∈ before, ¬ S j → ∀ d d', ds[j]? = some d → d.op = .light d' → d'.isRead = true → ∃ t, d.dst = some t ∧ (evalG d.guard E = some true → dlight d' E A' = E.get t) := by
        intro E1 A' hsame hrc j hj hSj e d' he' hop' hrd
        have hra : readAt ds j = true := by unfold readAt; rw [he']; simp [hop', readsMem, hrd]
        have hjC : j ∈ C := (h6 j hj hra).resolve_left fun h => hSj (hanc j h)
        obtain ⟨t, ht, hch⟩ := recheck_mem hrc hjC he' hop'
        refine ⟨t, ht, fun hg => ?_⟩
        have hge : evalG e.guard E1 = evalG e.guard E := evalG_congr fun t _ _ => hsame t
        have := hch (by rw [hge]; exact hg)
        rw [dlight_congr (E := E) (E' := E1) (fun x _ => eval_congr fun t _ => (hsame t).symm), this]
        exact hsame t
      simp only [wpOp, ho]
      rcases guarded_inv hd with ⟨hg, E1, hsame, hrun⟩ | ⟨hg, E1, hsame, hrun⟩
      · rw [turn_wanted hco he hg, if_pos rfl]
        refine .inl ?_
        have hev : ∀ x ∈ h.opers, E1.eval x = (E.keep d.reads).eval x := by
          intro x hx
          have := op_keep (E := E) (d := d) x (by rw [hop]; exact hx)
          rw [this]
          exact eval_congr fun t _ => hsame t
        rw [dheavy_congr hev] at hrun
        have hH : compH P o.op = some h := by
          rw [hop] at c1
          unfold compOp at c1
          split at c1
          · cases c1
          · split at c1
            · cases c1
            · obtain ⟨h', e1, e2⟩ := Option.map_eq_some_iff.1 c1; cases e2; exact e1
        refine heavy_sound hH ⟨he, hr1⟩ hrun ?_
        intro v v' ρ' A' w' hk hv hr' hst
        rw [← c3]
        exact hn ρ' _ A' _ w' (heavy_upd hp hI hdd hh hi hanc c4 h4 hr1 hn1 hl1 hr' hst hsame hv (hrecf hsame hk.1)) hk.2
      · rw [turn_wanted hco he hg, if_neg (by simp)]
        rw [← c3]
        exact hn ρ _ A1 _ w (heavy_upd hp hI hdd hh hi hanc c4 h4 hr1 hn1 hl1 hr1 (Step.refl _ _ _) hsame put_undef_rel (hrecf hsame hrun.1)) hrun.2
    · exact hd.elim
  · exact hd.elim

/-- How many of the first 'k' are not listed. -/
def cntL (l : Array Bool) : Nat → Nat
  | 0 => 0
  | k + 1 => cntL l k + if l.getD k true then 0 else 1
theorem cntL_set {l : Array Bool} {i : Nat} (hi : i < l.size) (hl : l.getD i true = false) : ∀ k, (k ≤ i → cntL (l.setIfInBounds i true) k = cntL l k) ∧ (i < k → cntL (l.setIfInBounds i true) k + 1 = cntL l k)
  | 0 => ⟨fun _ => rfl, fun h => by omega⟩
  | k + 1 => by
    obtain ⟨h1, h2⟩ := cntL_set hi hl k
    have hk : k ≠ i → (l.setIfInBounds i true).getD k true = l.getD k true := by
      intro hne
      simp [Array.getD_eq_getD_getElem?, Array.getElem?_setIfInBounds_ne (Ne.symm hne)]
    have hs : (l.setIfInBounds i true).getD i true = true := by
      simp [Array.getD_eq_getD_getElem?, hi]
    constructor
    · intro h
      simp only [cntL]
      rw [h1 (by omega), hk (by omega)]
    · intro h
      simp only [cntL]
      by_cases e : k = i
      · subst e
        rw [h1 (by omega), hs, hl]
        simp
      · have := h2 (by omega)
        rw [hk e]
        omega
theorem cntL_zero {l : Array Bool} : ∀ {k : Nat}, cntL l k = 0 → ∀ i, i < k → l.getD i true = true
  | 0, _, i, hi => by omega
  | k + 1, h, i, hi => by
    simp only [cntL] at h
    by_cases e : i = k
    · subst e
      cases hb : l.getD i true with
      | true => rfl
      | false => rw [hb] at h; simp at h
    · exact cntL_zero (k := k) (by omega) i (by omega)
theorem cntL_pos {l : Array Bool} : ∀ {k : Nat}, cntL l k ≠ 0 → ∃ i, i < k ∧ l.getD i true = false ∧ ∀ j, j < i → l.getD j true = true
  | 0, h => (h rfl).elim
  | k + 1, h => by
    by_cases h0 : cntL l k = 0
    · simp only [cntL, h0] at h
      refine ⟨k, by omega, ?_, fun j hj => cntL_zero h0 j hj⟩
      cases hb : l.getD k true with
      | true => rw [hb] at h; simp at h
      | false => rfl
    · obtain ⟨i, h1, h2⟩ := cntL_pos h0
      exact ⟨i, by omega, h2⟩

def preOf (o : Oper) : List Nat := (o.after.toList.filter (Region.binds .any)).map (·.on)
def Lst (l : Array Bool) (i : Nat) : Prop := i < l.size ∧ l.getD i true = true

theorem Lst.set {l : Array Bool} {i : Nat} (hi : i < l.size) (j : Nat) : Lst (l.setIfInBounds i true) j ↔ Lst l j ∨ j = i := by
  unfold Lst
  by_cases e : j = i
  · subst e
    simp [Array.getD_eq_getD_getElem?, hi]
  · simp [Array.getD_eq_getD_getElem?, Array.getElem?_setIfInBounds_ne (Ne.symm e), e]

theorem DInv.congrS {S S' : Nat → Prop} (h : ∀ i, S i ↔ S' i) {ρ : Ren} {E : Env} {A : AHeap} {a : Act} {w : World} {before done : List Nat} (hI : DInv ds p N ρ0 E0 A0 w0 S ρ E A a w before done) : DInv ds p N ρ0 E0 A0 w0 S' ρ E A a w before done := by
  have : S = S' := funext fun i => propext (h i)
  exact this ▸ hI

theorem ready_inv {l : Array Bool} {i : Nat} (_ : l.size = ops.size) (h : i ∈ Region.ready .any ops l) : i < ops.size ∧ l.getD i true = false ∧ ∃ o, ops[i]? = some o ∧ ∀ j ∈ preOf o, Lst l j := by
  simp only [Region.ready, List.mem_filter, List.mem_range, Bool.and_eq_true, Bool.not_eq_true'] at h
  obtain ⟨h1, h2, h3⟩ := h
  have ho : ops[i]? = some ops[i] := by simp [h1]
  refine ⟨h1, h2, _, ho, fun j hj => ?_⟩
  rw [ho] at h3
  simp only [Option.map_some, Option.getD_some] at h3
  simp only [preOf, List.mem_map, List.mem_filter] at hj
  obtain ⟨e, ⟨he, hbd⟩, rfl⟩ := hj
  have := Array.all_eq_true'.1 h3 e (by simpa using he)
  rw [hbd] at this
  simp at this
  have hlt : e.on < l.size := by
    rcases Nat.lt_or_ge e.on l.size with hh | hh
    · exact hh
    · rw [Array.getElem?_eq_none hh] at this; simp at this
  refine ⟨hlt, ?_⟩
  simp [Array.getD_eq_getD_getElem?, hlt] at this ⊢
  exact this
theorem ready_mk {l : Array Bool} {i : Nat} {o : Oper} (hi : i < ops.size) (hl : l.getD i true = false) (ho : ops[i]? = some o) (hp : ∀ j ∈ preOf o, Lst l j) : i ∈ Region.ready .any ops l := by
  simp only [Region.ready, List.mem_filter, List.mem_range, Bool.and_eq_true, Bool.not_eq_true']
  refine ⟨hi, hl, ?_⟩
  rw [ho]
  simp only [Option.map_some, Option.getD_some]
  refine Array.all_eq_true'.2 fun e he => ?_
  cases hbd : Region.binds .any e with
  | false => simp
  | true =>
    have := hp e.on (by simp only [preOf, List.mem_map, List.mem_filter]; exact ⟨e, ⟨by simpa using he, hbd⟩, rfl⟩)
    obtain ⟨h1, h2⟩ := this
    simp [Array.getD_eq_getD_getElem?, h1] at h2 ⊢
    exact h2

/-- Whatever order is drawn. -/
theorem any_sound (hp : PlanOk pre ds p) (hcomp : ∀ (i : Nat) d, ds[i]? = some d → ∃ o, ops[i]? = some o ∧ compOper P N ops o = some d) (hlen : ds.length = ops.size) (hpre : ∀ (i : Nat) o, ops[i]? = some o → pre.getD i [] = preOf o)
    {K : Env → AHeap → Prop} {Q : Exit → Act → World → Prop} (hq : ∀ ρ' E' A' a' w', K E' A' → HRel ρ' A' w' → ERel ρ' N E' a' → (w0.heap.size ≤ w'.heap.size ∧ A0.next ≤ A'.next ∧ (∀ h, h < A0.next → ρ' h = ρ0 h) ∧ (∀ b, b < w0.heap.size → ¬ wblk ρ0 A0 b → w'.heap[b]? = w0.heap[b]?) ∧
      (∀ b, wblk ρ' A' b → wblk ρ0 A0 b ∨ w0.heap.size ≤ b) ∧ (∀ b, lblk ρ' A' b → lblk ρ0 A0 b ∨ w0.heap.size ≤ b) ∧ w'.os = w0.os ∧ w'.output = w0.output ∧ w'.tape = w0.tape) → Q .normal a' w') :
    ∀ (fuel : Nat) (l : Array Bool) (ρ : Ren) (E : Env) (A : AHeap) (a : Act) (w : World) (before done : List Nat) (q r : List PStep), l.size = ops.size → cntL l ops.size ≤ fuel → p.steps = q ++ r → before = (q.map (·.ix)).reverse → (∀ i ∈ done, i ∈ realsOf q) →
      DInv ds p N ρ0 E0 A0 w0 (Lst l) ρ E A a w before done → stepsOk ds p before done r = true → (r = [] ∨ ∃ i R C r', r = .heavy i R C :: r') → dgo P ds p.made p.last A0.next r E A K → wpAny P .any ops Q fuel l a w := by
  have hready0 : ∀ l : Array Bool, l.size = ops.size → Region.ready .any ops l = [] → ∀ i, i < ops.size → Lst l i := by
    intro l hl hr i hi
    by_cases h0 : cntL l ops.size = 0
    · exact ⟨by omega, cntL_zero h0 i hi⟩
    · obtain ⟨j, h1, h2, h3⟩ := cntL_pos h0
      have ho : ops[j]? = some ops[j] := by simp [h1]
      have : j ∈ Region.ready .any ops l := ready_mk h1 h2 ho fun k hk => by
        have hkj := hp.preLt j (by omega) k (by rw [hpre j _ ho]; exact hk)
        exact ⟨by omega, h3 k hkj⟩
      rw [hr] at this; simp at this
  have hfin : ∀ (l : Array Bool) (ρ : Ren) (E : Env) (A : AHeap) (a : Act) (w : World) (before done : List Nat) (q r : List PStep), l.size = ops.size → p.steps = q ++ r → before = (q.map (·.ix)).reverse → (∀ i ∈ done, i ∈ realsOf q) →
      DInv ds p N ρ0 E0 A0 w0 (Lst l) ρ E A a w before done → (r = [] ∨ ∃ i R C r', r = .heavy i R C :: r') → dgo P ds p.made p.last A0.next r E A K → (∀ i, i < ops.size → Lst l i) → Q .normal a w := by
    intro l ρ E A a w before done q r hl hst hbf hdn hI hr hd hall
    -- all listed: nothing is left
    have hrn : r = [] := by
      rcases hr with h | ⟨i, R, C, r', rfl⟩
      · exact h
      · exfalso
        have hil := hp.bound i (by rw [hst]; simp [PStep.ix])
        have hib := hI.sub i (hall i (by omega))
        rw [hbf] at hib
        have hnd := hp.nodup
        rw [hst, List.map_append, List.map_cons] at hnd
        have := (List.nodup_append.1 hnd).2.2 i (by simpa using hib) i (by simp [PStep.ix])
        exact this rfl
    subst hrn
    simp only [dgo] at hd
    split at hd
    · rename_i A2 hA2
      simp only [List.append_nil] at hst
      have hdl : ∀ j ∈ p.last, j ∉ done := fun j hj hjd => (hp.last j hj).2.2 (by rw [hst]; exact hdn j hjd)
      have hpendAll : ∀ j ∈ p.last, Lst l j ∧ j ∈ p.made ∧ j ∉ done ∧ allocAt ds j = true := fun j hj => by
        have := hp.last j hj
        exact ⟨hall j (by omega), hp.made j this.2.1 this.1, hdl j hj, this.1⟩
      obtain ⟨hr1, hn1, hl1⟩ := realize_ok (sz := w0.heap.size) (T := fun j => Lst l j ∧ j ∈ p.made ∧ j ∉ done ∧ allocAt ds j = true) hI.next
        (fun j k hj hk hjr hkr hjk => hI.pend2 j k hj.1 hj.2.1 hj.2.2.1 hj.2.2.2 hk.1 hk.2.1 hk.2.2.1 hk.2.2.2 hjr hkr hjk) p.last A A2 hp.lastNd hpendAll rfl hI.heap
        (fun j hj => hI.pend j (hpendAll j hj).1 (hpendAll j hj).2.1 (hpendAll j hj).2.2.1) hA2
      have hnew : ∀ h o, A2.get h = some o → A.get h = some o ∨ w0.heap.size ≤ (ρ h).blk := by
        intro h o ho
        rcases hl1 h o ho with h1 | ⟨j, hj, ⟨e, he, hg⟩, h2, e2, d', he2, hop⟩
        · exact .inl h1
        · rw [he] at he2; cases he2
          obtain ⟨x, g1, g2, g3, g4, g5⟩ := (hI.pend j (hpendAll j hj).1 (hpendAll j hj).2.1 (hpendAll j hj).2.2.1).lies e d' he hop hg
          rw [h2]; exact .inr g4
      refine hq ρ E A2 a w hd hr1 ⟨hI.defers, hI.size, fun t v ht => ?_⟩ ⟨hI.wsize, by have := hI.next; omega, hI.agree, hI.keep, ?_, ?_, hI.os, hI.output, hI.tape⟩
      · by_cases hwr : ∃ (i : Nat) (d : DOper), ds[i]? = some d ∧ d.dst = some t
        · obtain ⟨i, d, hdi, hdt⟩ := hwr
          have hil := ds_lt hdi
          have hS := hall i (by omega)
          obtain ⟨u, h1, h2⟩ := hI.env1 i (hI.sub i hS) d t hdi hdt
          rw [ht] at h1; cases h1
          exact h2 hS
        · rw [hI.env2 t fun i _ d hdi hdt => hwr ⟨i, d, hdi, hdt⟩] at ht
          exact hI.env3 t v ht fun i _ d hdi hdt => hwr ⟨i, d, hdi, hdt⟩
      · rintro b ⟨h, o, h1, h2, h3⟩
        rcases hnew h o h1 with h4 | h4
        · exact hI.incl b ⟨h, o, h4, h2, h3⟩
        · exact .inr (by omega)
      · rintro b ⟨h, o, h1, h3⟩
        rcases hnew h o h1 with h4 | h4
        · exact hI.incl2 b ⟨h, o, h4, h3⟩
        · exact .inr (by omega)
    · exact hd.elim
  intro fuel
  induction fuel with
  | zero =>
    intro l ρ E A a w before done q r hl hc hst hbf hdn hI hs hr hd
    have hall : ∀ i, i < ops.size → Lst l i := fun i hi => ⟨by omega, cntL_zero (by omega) i hi⟩
    refine ⟨?_, hfin l ρ E A a w before done q r hl hst hbf hdn hI hr hd hall⟩
    by_cases hre : Region.ready .any ops l = []
    · exact hre
    · obtain ⟨i, hi⟩ := List.exists_mem_of_ne_nil _ hre
      obtain ⟨h1, h2, _⟩ := ready_inv hl hi
      have := (hall i h1).2
      rw [h2] at this; cases this
  | succ fuel ih =>
    intro l ρ E A a w before done q r hl hc hst hbf hdn hI hs hr hd
    refine ⟨fun hre => hfin l ρ E A a w before done q r hl hst hbf hdn hI hr hd (hready0 l hl hre), fun i hi => ?_⟩
    obtain ⟨h1, h2, o, ho, hpr⟩ := ready_inv hl hi
    have hil : i < ds.length := by omega
    have hnS : ¬ Lst l i := fun h => by rw [h.2] at h2; cases h2
    have hanc : ∀ j ∈ ancOf p i, Lst l j := by
      intro j hj
      rcases hp.anc i hil j hj with h | ⟨k, hk, hjk⟩
      · exact hpr j (by rw [hpre i o ho] at h; exact h)
      · have hkp := hk
        rw [hpre i o ho] at hkp
        have hkS := hpr k hkp
        exact hI.closed k hkS (by have := hp.preLt i hil k hk; omega) j hjk
    have hcnt : cntL (l.setIfInBounds i true) ops.size ≤ fuel := by
      have := (cntL_set (l := l) (i := i) (by omega) h2 ops.size).2 h1
      omega
    by_cases hib : i ∈ before
    · have hndn : i ∉ done := by
        intro h
        exact hnS (hI.doneS i h)
      refine run_light hp hcomp hI hib hnS hndn hanc fun ρ' a' w' hI' => ?_
      exact ih _ ρ' E A a' w' before done q r (by simpa using hl) hcnt hst hbf hdn (hI'.congrS fun j => (Lst.set (by omega) j).symm) hs hr hd
    · -- it is the next writing one
      rcases hr with rfl | ⟨i2, R, C, r', rfl⟩
      · exfalso
        apply hib
        rw [hbf, List.mem_reverse]
        have := hp.all i hil
        rw [hst] at this
        simpa using this
      · have hi2 : i = i2 := by
          have hmem := hp.all i hil
          rw [hst, List.map_append, List.mem_append] at hmem
          rcases hmem with h | h
          · exact (hib (by rw [hbf, List.mem_reverse]; exact h)).elim
          · simp only [List.map_cons, List.mem_cons, PStep.ix] at h
            rcases h with h | h
            · exact h
            · exfalso
              obtain ⟨s, hs', rfl⟩ := List.mem_map.1 h
              obtain ⟨_, _, g3, _⟩ := stepsOk_heavy hs
              have hS2 := hanc i2 (g3 s hs')
              have := hI.sub i2 hS2
              rw [hbf, List.mem_reverse] at this
              have hnd := hp.nodup
              rw [hst, List.map_append, List.map_cons] at hnd
              exact (List.nodup_append.1 hnd).2.2 i2 this i2 (by simp [PStep.ix]) rfl
        subst hi2
        refine run_heavy hp hcomp hI hs hib hanc hd fun ρ' E' A' a' w' hI' hd' => ?_
        obtain ⟨_, _, _, _, _, _, _, g8⟩ := stepsOk_heavy hs
        have hnd := hp.nodup
        rw [hst] at hnd
        simp only [List.map_append, List.map_cons] at hnd
        have hndr := (List.nodup_append.1 hnd).2.1
        have hdisj := (List.nodup_append.1 hnd).2.2
        obtain ⟨q2, r2, E2, before2, e1, e2, e3, e4, e5, e6, e7⟩ := absorb_all hp r' E' (i :: before) (R ++ done) hI' g8
          (fun s hs' => by
            refine ⟨fun hm => ?_, hp.bound s.ix (by rw [hst]; simp only [List.map_append, List.map_cons, List.mem_append, List.mem_cons, List.mem_map]; exact .inr (.inr ⟨s, hs', rfl⟩))⟩
            rcases List.mem_cons.1 hm with e | hm
            · rw [List.nodup_cons] at hndr
              exact hndr.1 (List.mem_map.2 ⟨s, hs', e⟩)
            · rw [hbf, List.mem_reverse] at hm
              exact hdisj s.ix hm s.ix (by simp only [List.mem_cons, List.mem_map]; exact .inr ⟨s, hs', rfl⟩) rfl)
          (List.nodup_cons.1 hndr).2 hd'
        refine ih _ ρ' E2 A' a' w' before2 (R ++ done) (q ++ .heavy i R C :: q2) r2 (by simpa using hl) hcnt (by rw [hst, e1]; simp) ?_ ?_ (e5.congrS fun j => (Lst.set (by omega) j).symm) e6 e4 e7
        · rw [e2, hbf]; simp [PStep.ix]
        · intro j hj
          have hro : ∀ (x y : List PStep), realsOf (x ++ y) = realsOf x ++ realsOf y := by
            intro x y
            induction x with
            | nil => rfl
            | cons s x ih => cases s <;> simp [realsOf, ih]
          rw [hro]
          rcases List.mem_append.1 hj with h | h
          · exact List.mem_append.2 (.inr (by simp [realsOf, h]))
          · exact List.mem_append.2 (.inl (hdn j h))
end
end Go.Proofs.Ytckdmhjhjfmcdaa.Sx
