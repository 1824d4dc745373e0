/-
  A region that draws its order: whatever order is drawn, the machine comes to what the plan's walk comes to.
-/
import Derived.Test.YtckdmhjhjfmcdaaSm
namespace Go.Proofs.Ytckdmhjhjfmcdaa.Sx
set_option linter.unusedSimpArgs false
set_option linter.unusedVariables false
open Go
variable {P : Program} {ρ : Ren} {N : Nat} {E : Env} {A : AHeap} {a : Act} {w : World}

theorem HRel.put (hr : HRel ρ A w) {h : Nat} {o : AObj} (hok : (ρ h).ok = true) (hlt : h < A.next) (hobj : ObjAt ρ (ρ h) o w) (hap : ∀ h' o', h' ≠ h → A.get h' = some o' → (ρ h').blk ≠ (ρ h).blk) : HRel ρ (A.set h o) w := by
  have hget : ∀ i, (A.set h o).get i = if i = h then some o else A.get i := by intro i; simp [AHeap.set, hlt]
  refine HRel.of_obj (fun i hi => hr.fresh i hi) ?_ ?_ ?_
  · intro i o' hi
    rw [hget] at hi
    split at hi
    · rename_i e; subst e; exact hok
    · exact hr.ok _ _ hi
  · intro i o' hi
    rw [hget] at hi
    split at hi
    · rename_i e; subst e; cases hi; exact hobj
    · exact hr.obj hi
  · intro i j oi oj hij hi hj hw
    rw [hget] at hi hj
    split at hi
    · rename_i e; subst e
      rw [if_neg (Ne.symm hij)] at hj
      exact Ne.symm (hap j oj (Ne.symm hij) hj)
    · rename_i e
      split at hj
      · rename_i e2; subst e2; exact hap i oi e hi
      · exact hr.apart i j oi oj hij hi hj hw

theorem HRel.frame {ρ' : Ren} {w' : World} (hr : HRel ρ A w) (ha : Agree ρ ρ') (hf : ∀ h, A.next ≤ h → (ρ' h).ok = false) (hw : ∀ i, i < w.heap.size → w'.heap[i]? = w.heap[i]?) : HRel ρ' A w' := by
  refine HRel.of_obj hf (fun h o ho => by rw [ha h (hr.ok h o ho)]; exact hr.ok h o ho) (fun h o ho => ?_) (fun h h' o o' hne ho ho' hwr => ?_)
  · rw [ha h (hr.ok h o ho)]
    exact (hr.obj ho).mono ha (hw _ (hr.lt ho))
  · rw [ha h (hr.ok h o ho), ha h' (hr.ok h' o' ho')]
    exact hr.apart h h' o o' hne ho ho' hwr

section
variable {ds : List DOper} {p : Plan} {base : Nat}

/-- What the plan's good standing gives. -/
structure PlanOk (pre : List (List Nat)) (ds : List DOper) (p : Plan) : Prop where
  nodup : (p.steps.map (·.ix)).Nodup
  all : ∀ i, i < ds.length → i ∈ p.steps.map (·.ix)
  bound : ∀ i ∈ p.steps.map (·.ix), i < ds.length
  preLt : ∀ i, i < ds.length → ∀ j ∈ pre.getD i [], j < i
  anc : ∀ i, i < ds.length → ∀ j ∈ ancOf p i, j ∈ pre.getD i [] ∨ ∃ k ∈ pre.getD i [], j ∈ ancOf p k
  madeNd : p.made.Nodup
  made : ∀ i, i < ds.length → allocAt ds i = true → i ∈ p.made
  steps : stepsOk ds p [] [] p.steps = true
  last : ∀ j ∈ p.last, allocAt ds j = true ∧ j < ds.length ∧ j ∉ realsOf p.steps
  lastNd : p.last.Nodup
  /-- no two write one slot -/
  dst : ∀ (i j : Nat) d e t, ds[i]? = some d → ds[j]? = some e → d.dst = some t → e.dst = some t → i = j
  /-- who writes a slot that another reads stands behind it or ahead of it -/
  reads : ∀ (i j : Nat) d e t, ds[i]? = some d → ds[j]? = some e → e.dst = some t → t ∈ d.reads → j ∈ ancOf p i ∨ (i ∈ ancOf p j ∧ readsMem d.op = false ∧ isAlloc d.op = false)

theorem planOk_ok {pre : List (List Nat)} (h : planOk pre ds p = true) : PlanOk pre ds p := by
  simp only [planOk, Bool.and_eq_true, decide_eq_true_eq, List.all_eq_true, List.mem_range, beq_iff_eq, Bool.or_eq_true, Bool.not_eq_true', List.contains_iff_mem, List.any_eq_true] at h
  obtain ⟨⟨⟨⟨⟨⟨⟨⟨⟨⟨h1, h2⟩, h3⟩, h4⟩, h5⟩, h6⟩, h7⟩, h8⟩, h9⟩, h10⟩, h11⟩ := h
  have htm : ∀ (i j : Nat) d e t, ds[i]? = some d → ds[j]? = some e → e.dst = some t → (i = j ∨ d.dst ≠ some t) ∧ (t ∈ d.reads → i ≠ j ∧ (j ∈ ancOf p i ∨ (readsMem d.op = false ∧ isAlloc d.op = false ∧ i ∈ ancOf p j))) := by
    intro i j d e t hi hj ht
    have hil : i < ds.length := by
      rcases Nat.lt_or_ge i ds.length with hh | hh
      · exact hh
      · rw [List.getElem?_eq_none hh] at hi; cases hi
    have hjl : j < ds.length := by
      rcases Nat.lt_or_ge j ds.length with hh | hh
      · exact hh
      · rw [List.getElem?_eq_none hh] at hj; cases hj
    simp only [tmpsOk, List.all_eq_true, List.mem_range] at h11
    have := h11 i hil
    rw [hi] at this
    simp only [List.all_eq_true, List.mem_range] at this
    have := this j hjl
    rw [hj] at this
    simp only [ht, Bool.and_eq_true, Bool.or_eq_true, beq_iff_eq, bne_iff_ne, ne_eq, Bool.not_eq_true', List.contains_iff_mem] at this
    refine ⟨this.1, fun hr => ?_⟩
    rcases this.2 with h | h
    · have : d.reads.contains t = true := List.contains_iff_mem.2 hr
      rw [this] at h; cases h
    · refine ⟨h.1, ?_⟩
      rcases h.2 with h | h
      · exact .inl h
      · exact .inr ⟨h.1.1, h.1.2, h.2⟩
  refine ⟨h2, fun i hi => h4 i hi, h3, fun i hi => (h5 i hi).1, fun i hi => (h5 i hi).2, h6, fun i hi ha => ?_, h8, fun j hj => ?_, h10, ?_, ?_⟩
  · rcases h7 i hi with h | h
    · rw [ha] at h; cases h
    · exact h
  · have := h9 j hj
    refine ⟨this.1.1, this.1.2, fun hc => ?_⟩
    have h' : (realsOf p.steps).contains j = true := List.contains_iff_mem.2 hc
    rw [h'] at this; cases this.2
  · intro i j d e t hi hj hd he
    rcases (htm i j d e t hi hj he).1 with h | h
    · exact h
    · exact (h hd).elim
  · intro i j d e t hi hj he hr
    rcases ((htm i j d e t hi hj he).2 hr).2 with h | h
    · exact .inl h
    · exact .inr ⟨h.2.2, h.1, h.2.1⟩

/-- Its handle. -/
abbrev hOf (p : Plan) (base i : Nat) : Nat := base + posOf p.made i

theorem posOf_lt {l : List Nat} {i : Nat} (h : i ∈ l) : posOf l i < l.length := by
  induction l with
  | nil => simp at h
  | cons x r ih =>
    simp only [posOf]
    split
    · simp
    · rename_i hne
      have : i ∈ r := by simpa [Ne.symm hne] using h
      have := ih this
      simp; omega
theorem posOf_inj {l : List Nat} {i j : Nat} (hi : i ∈ l) (hj : j ∈ l) (h : posOf l i = posOf l j) : i = j := by
  induction l with
  | nil => simp at hi
  | cons x r ih =>
    simp only [posOf] at h
    split at h
    · rename_i e; split at h
      · rename_i e2; exact e.symm.trans e2
      · omega
    · rename_i e; split at h
      · omega
      · rename_i e2
        exact ih (by simpa [Ne.symm e] using hi) (by simpa [Ne.symm e2] using hj) (by omega)

/-- Memory that an operation has made and that the abstract heap does not show yet. -/
structure Pend (ds : List DOper) (p : Plan) (base : Nat) (ρ : Ren) (E : Env) (A : AHeap) (w : World) (sz : Nat) (i : Nat) : Prop where
  made : i ∈ p.made
  lies : ∀ d d', ds[i]? = some d → d.op = .alloc d' → evalG d.guard E = some true → ∃ x, dal d' E = some x ∧ (ρ (hOf p base i)).ok = true ∧ ObjAt ρ (ρ (hOf p base i)) x.1 w ∧ sz ≤ (ρ (hOf p base i)).blk ∧
    ∀ h o, A.get h = some o → (ρ h).blk ≠ (ρ (hOf p base i)).blk

def runs (ds : List DOper) (E : Env) (i : Nat) : Prop := ∃ d, ds[i]? = some d ∧ evalG d.guard E = some true

theorem realize_ok {sz : Nat} {T : Nat → Prop} (hnext : base + p.made.length ≤ A.next) (hpw : ∀ i j, T i → T j → runs ds E i → runs ds E j → i ≠ j → (ρ (hOf p base i)).blk ≠ (ρ (hOf p base j)).blk) :
    ∀ (R : List Nat) (A1 A2 : AHeap), R.Nodup → (∀ j ∈ R, T j) → A1.next = A.next → HRel ρ A1 w → (∀ j ∈ R, Pend ds p base ρ E A1 w sz j) → realize ds p.made base R E A1 = some A2 →
    HRel ρ A2 w ∧ A2.next = A.next ∧ ∀ h o, A2.get h = some o → A1.get h = some o ∨ ∃ j ∈ R, runs ds E j ∧ h = hOf p base j ∧ (∃ d d', ds[j]? = some d ∧ d.op = .alloc d')
  | [], A1, A2, _, _, hn, hr, _, h => by
    simp only [realize, Option.some.injEq] at h
    subst h
    exact ⟨hr, hn, fun h o ho => .inl ho⟩
  | i :: R, A1, A2, hnd, hT, hn, hr, hp, h => by
    simp only [realize] at h
    split at h
    · rename_i d hd
      split at h
      · rename_i d' hop
        split at h
        · rename_i hg
          split at h
          · rename_i x hx
            obtain ⟨hm, hl⟩ := hp i (by simp)
            obtain ⟨x', hx', hok, hobj, hsz, hap⟩ := hl d d' hd hop hg
            rw [hx] at hx'; cases hx'
            have hlt : hOf p base i < A1.next := by have := posOf_lt hm; rw [hn]; simp only [hOf]; omega
            have hr' := hr.put hok hlt hobj (fun h' o' _ ho' => hap h' o' ho')
            have hri : runs ds E i := ⟨d, hd, hg⟩
            obtain ⟨g1, g2, g3⟩ := realize_ok (sz := sz) (T := T) hnext hpw R (A1.set (hOf p base i) x.1) A2 (List.nodup_cons.1 hnd).2 (fun j hj => hT j (by simp [hj])) hn hr' (fun j hj => by
              obtain ⟨hm2, hl2⟩ := hp j (by simp [hj])
              refine ⟨hm2, fun e e' he heop heg => ?_⟩
              obtain ⟨y, h1, h2, h3, h4, h5⟩ := hl2 e e' he heop heg
              refine ⟨y, h1, h2, h3, h4, fun h o ho => ?_⟩
              simp only [AHeap.set] at ho
              split at ho
              · rename_i hc
                rw [hc.1]
                exact hpw i j (hT i (by simp)) (hT j (by simp [hj])) hri ⟨e, he, heg⟩ (fun e => (List.nodup_cons.1 hnd).1 (e ▸ hj))
              · exact h5 h o ho) h
            refine ⟨g1, g2, fun h o ho => ?_⟩
            rcases g3 h o ho with h1 | ⟨j, hj, h1, h2, h3⟩
            · simp only [AHeap.set] at h1
              split at h1
              · rename_i hc
                exact .inr ⟨i, by simp, hri, hc.1, d, d', hd, hop⟩
              · exact .inl h1
            · exact .inr ⟨j, by simp [hj], h1, h2, h3⟩
          · cases h
        · obtain ⟨g1, g2, g3⟩ := realize_ok (sz := sz) (T := T) hnext hpw R A1 A2 (List.nodup_cons.1 hnd).2 (fun j hj => hT j (by simp [hj])) hn hr (fun j hj => hp j (by simp [hj])) h
          refine ⟨g1, g2, fun h o ho => ?_⟩
          rcases g3 h o ho with h1 | ⟨j, hj, h1⟩
          · exact .inl h1
          · exact .inr ⟨j, by simp [hj], h1⟩
        · cases h
      · cases h
    · cases h
end
end Go.Proofs.Ytckdmhjhjfmcdaa.Sx
