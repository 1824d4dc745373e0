/-
  From a contract to the call itself, where all arguments are plain data.
-/
import Derived.Test.YtckdmhjhjfmcdaaWb
import Derived.ProofKit
namespace Go.Proofs.Ytckdmhjhjfmcdaa.Sx
set_option linter.unusedSimpArgs false
set_option linter.unusedVariables false
open Go Go.Deep
section
variable {H : Type} {enc : TypeId × Value → H} {P : Program} {w : World}
theorem calls_of_dcall {L : List Vw} (G : Good w L) {vs' vs : List Value} (ha : All2 (TRel (ren w L)) vs' vs) {f : FuncId} (h : dcall P f vs' (hpOf w L) fun v _ => v = .bool true) :
    Calls P f vs.toArray w fun e w' => e = .returned (.bool true) ∧ Go.RowKit.Below w.heap.size w w' := by
  refine (h _ _ _ G.rel ha).mono ?_
  rintro e w' ⟨v, v', ρ', A', rfl, rfl, hv, _, st⟩
  have e1 : v' = .bool true := by
    cases hv with
    | v h => cases h with
      | s h => cases h with
        | p h => cases h; rfl
  subst e1
  refine ⟨rfl, st.os, st.tape, st.output, st.size, fun b hb => st.keep b hb ?_⟩
  rintro ⟨h, o, hg, hw, _⟩
  cases h with
  | zero =>
    simp only [hpOf] at hg
    cases hd : dum w with
    | none => rw [hd] at hg; cases hg
    | some b => rw [hd] at hg; cases hg; cases hw
  | succ h =>
    simp only [hpOf] at hg
    cases hl : L[h]? with
    | none => rw [hl] at hg; cases hg
    | some r => rw [hl] at hg; cases hg; cases hw
/-- If there is any row, the empty one is there too. -/
theorem hpOf_zero {L : List Vw} (G : Good w L) {h : Nat} {o : AObj} (hg : (hpOf w L).get h = some o) : (hpOf w L).get 0 = some (.cells true []) := by
  have : ∃ (b : Nat) (C : Array Value) (t : TypeId) (fr : Nat × Nat), w.heap[b]? = some (Obj.cells C t fr) := by
    cases h with
    | zero =>
      simp only [hpOf] at hg
      cases hd : dum w with
      | none => rw [hd] at hg; cases hg
      | some b => obtain ⟨C, t, fr, h⟩ := dum_some hd; exact ⟨b, C, t, fr, h⟩
    | succ h =>
      simp only [hpOf] at hg
      cases hl : L[h]? with
      | none => rw [hl] at hg; cases hg
      | some r =>
        obtain ⟨C, t, fr, h, _⟩ := G.at' h r hl
        exact ⟨_, C, t, fr, h⟩
  obtain ⟨b, C, t, fr, hb⟩ := this
  obtain ⟨d, hd⟩ := dum_ex hb
  simp only [hpOf, hd]
  rfl
theorem not_agg {t : TypeId} {v : Value} {base : Nat} {r : Reach} (h : Value.okWide P w r base t v) (hs : ∀ fs, P.underlying t ≠ some (.struct fs)) (ha : ∀ n e, P.underlying t ≠ some (.array n e)) : v.cells.toList = [v] := by
  cases v <;> try rfl
  exfalso
  unfold Value.okWide at h
  split at h
  · exact hs _ (by assumption)
  · exact ha _ _ (by assumption)
  · unfold Cell.okWide at h
    split at h
    all_goals first | contradiction | skip
    unfold Cell.ok at h
    split at h <;> simp_all
/-- An argument of one cell: a number, a bool, a string or a slice. -/
theorem In.arg {n : Nat} {t : TypeId} (hp : plainT P n t = true) (hs : ∀ fs, P.underlying t ≠ some (.struct fs)) (ha : ∀ m e, P.underlying t ≠ some (.array m e)) {v : Value} {base : Nat} {r : Reach} (hok : Value.okWide P w r base t v) {d : DataW H} {ps : List MemPlace} (h : DataW.Trod enc P w 0 (fun _ => true) true t v d ps) {L : List Vw} (G : Good w L) :
    ∃ M v', Good w (L ++ M) ∧ PRel (ren w (L ++ M)) v' v ∧ Shape P (hpOf w (L ++ M)) n t [v'] := by
  obtain ⟨fuel, hf⟩ := h
  obtain ⟨M, acs, G1, r1, s1⟩ := In.open n t hp _ L G ⟨fuel, _, hf⟩
  rw [not_agg hok hs ha] at r1
  cases r1 with
  | cons hh ht =>
    cases ht
    exact ⟨M, _, G1, hh, s1⟩
end
section
variable {P : Program} {A : AHeap} {n : Nat} {t : TypeId} {acs : List Value}
theorem shape_bool (hu : P.underlying t = some .bool) (h : Shape P A (n + 1) t acs) : ∃ b, acs = [.bool b] := by
  unfold Shape at h; rw [hu] at h; exact h
theorem shape_int {k : IntKind} (hu : P.underlying t = some (.int k)) (h : Shape P A (n + 1) t acs) : ∃ x, acs = [.int k x] ∧ (Lit.int k x).wf = true := by
  unfold Shape at h; rw [hu] at h; exact h
theorem shape_string (hu : P.underlying t = some .string) (h : Shape P A (n + 1) t acs) : ∃ s : ByteArray, acs = [.string s] ∧ s.size ≤ maxLen := by
  unfold Shape at h; rw [hu] at h; exact h
theorem shape_struct {fs : Array Field} (hu : P.underlying t = some (.struct fs)) (h : Shape P A (n + 1) t acs) : shapeL P.cellsOf (Shape P A n) (fs.toList.map (·.type)) acs := by
  unfold Shape at h; rw [hu] at h; exact h
theorem shape_array {m : Nat} {e : TypeId} (hu : P.underlying t = some (.array m e)) (h : Shape P A (n + 1) t acs) : shapeL P.cellsOf (Shape P A n) (List.replicate m e) acs := by
  unfold Shape at h; rw [hu] at h; exact h
theorem shape_slice {e : TypeId} (hu : P.underlying t = some (.slice e)) (h : Shape P A (n + 1) t acs) : ∃ v rows, acs = [v] ∧ rows.length ≤ maxLen ∧ (∀ r ∈ rows, r.length = P.cellsOf e ∧ Shape P A n e r) ∧ SlOf A (P.cellsOf e) v rows := by
  unfold Shape at h; rw [hu] at h; exact h
end
theorem rows_map {α β : Type} {f : α → β} {p : α → Prop} : ∀ {rows : List β}, (∀ r ∈ rows, ∃ x, r = f x ∧ p x) → ∃ xs : List α, rows = xs.map f ∧ ∀ x ∈ xs, p x
  | [], _ => ⟨[], rfl, fun x hx => (by cases hx)⟩
  | r :: rows, h => by
    obtain ⟨x, rfl, hx⟩ := h r (by simp)
    obtain ⟨xs, rfl, hxs⟩ := rows_map (rows := rows) fun r hr => h r (by simp [hr])
    exact ⟨x :: xs, rfl, fun y hy => by
      rcases List.mem_cons.1 hy with rfl | hy
      · exact hx
      · exact hxs y hy⟩
end Go.Proofs.Ytckdmhjhjfmcdaa.Sx
