/-
  Contracts: lists of numbers.
-/
import Derived.Test.YtckdmhjhjfmcdaaTb
namespace Go.Proofs.Ytckdmhjhjfmcdaa.Sx
set_option linter.unusedSimpArgs false
set_option linter.unusedVariables false
open Go
attribute [local go_sem] wpC_skip wpC_exit wpC_ret wpC_row wpC_seq wpC_cond wpC_block wpR_nil wpR_none wpR_some wpD_nil wpD_light wpD_lightg wpD_heavy wpD_heavyg dop dlight dal thenK keepK inBlockK Env.eval Env.get Env.put keep_cons keep_nil keep_empty enterE dbin dint dun dcmp deq endK retV resL noTup closedV closedS evalL evalParts fillL putCells cellsOf partV loadV bnd if_true if_false reduceCtorEq dheavy realizeR realOne recheckR lightV evalG sliceCells nx_alloc nx_set nx_del nx_reserve AHeap.get_reserve and_guard
/-- A slice of numbers. -/
def IntsAt (A : AHeap) (v : Value) (xs : List Int) : Prop :=
  (v = .slice none 0 0 ∧ xs = []) ∨ ∃ b ro, v = .slice (some ⟨b, 0, none⟩) xs.length 1 ∧ A.get b = some (.cells ro (ints xs))
theorem IntsAt.ext {A B : AHeap} {v : Value} {xs : List Int} (e : Ext A B) (h : IntsAt A v xs) : IntsAt B v xs := by
  rcases h with h | ⟨b, ro, h1, h2⟩
  · exact .inl h
  · exact .inr ⟨b, ro, h1, e.keeps h2⟩

theorem c20 (m : Int) {xs : List Int} {v : Value} (hl : xs.length ≤ 1000000) {A : AHeap} (hv : IntsAt A v xs) {K : Value → AHeap → Prop} (h : K (.bool (xs.all fun x => decide (0 ≤ x ∧ x ≤ m))) A) :
    dcall Go.Proofs.Try.prog 20 [.int .i64 m, v] A K := by
  rcases hv with ⟨rfl, rfl⟩ | ⟨b, ro, rfl, hb⟩
  · refine F20_call (by simp) ?_
    simp -implicitDefEqProofs [go_sem, get_alloc_eq, get_alloc_ne, get_set_eq, get_set_ne, get_del_ne, F20, F20r0, F20c11, F20c9, F20c8, F20r1]
    refine wpC_once ?_
    simp -implicitDefEqProofs [go_sem, get_alloc_eq, get_alloc_ne, get_set_eq, get_set_ne, get_del_ne, F20c7, F20c6, F20r2, F20c10, F20r7]
    simpa using h
  · refine F20_call (by simp) ?_
    simp -implicitDefEqProofs [go_sem, get_alloc_eq, get_alloc_ne, get_set_eq, get_set_ne, get_del_ne, F20, F20r0, F20c11, F20c9, F20c8, F20r1]
    refine wpC_count xs.length 0 (fun i E A' => A' = A ∧ E = [(0, .int .i64 m), (7, .slice (some ⟨b, 0, none⟩) xs.length 1), (8, .int .i64 xs.length), (9, .int .i64 i)] ∧ ∀ (j : Nat) x, j < i → xs[j]? = some x → 0 ≤ x ∧ x ≤ m) (by omega) ⟨rfl, rfl, by simp⟩ ?_
    rintro i E A' hi ⟨rfl, rfl, h0⟩
    simp -implicitDefEqProofs [go_sem, get_alloc_eq, get_alloc_ne, get_set_eq, get_set_ne, get_del_ne, F20c7, F20c6, F20r2]
    split
    · rename_i h1
      have hx : xs[i]? = some xs[i] := by simp [h1]
      simp -implicitDefEqProofs [go_sem, get_alloc_eq, get_alloc_ne, get_set_eq, get_set_ne, get_del_ne, F20c5, F20c4, F20c3, F20c2, F20c1, F20c0, F20r3, F20r4, F20r5, F20r6, h1, hb, ints_get, hx]
      have bad : ¬ (0 ≤ xs[i] ∧ xs[i] ≤ m) → K (.bool false) A' := by
        intro hn
        have : (xs.all fun x => decide (0 ≤ x ∧ x ≤ m)) = false := by
          rw [List.all_eq_false]
          exact ⟨xs[i], List.getElem_mem h1, by simpa using hn⟩
        rwa [this] at h
      split
      · exact bad (by omega)
      · split
        · exact bad (by omega)
        · refine ⟨by omega, wrap_i64 (by omega), fun j x hj hx' => ?_⟩
          rcases Nat.lt_or_ge j i with hji | hji
          · exact h0 j x hji hx'
          · obtain rfl : j = i := by omega
            rw [hx] at hx'; cases hx'; omega
    · rename_i h1
      have : (xs.all fun x => decide (0 ≤ x ∧ x ≤ m)) = true := by
        rw [List.all_eq_true]
        intro x hx
        obtain ⟨j, hj, rfl⟩ := List.mem_iff_getElem.1 hx
        simpa using h0 j xs[j] (by omega) (by simp [hj])
      rw [this] at h
      simp -implicitDefEqProofs [go_sem, get_alloc_eq, get_alloc_ne, get_set_eq, get_set_ne, get_del_ne, F20c10, F20r7]
      exact h

theorem c14 (y : Int) {xs : List Int} {v : Value} (hl : xs.length ≤ 1000000) {A : AHeap} (hv : IntsAt A v xs) {K : Value → AHeap → Prop} (h : K (.bool (xs.contains y)) A) :
    dcall Go.Proofs.Try.prog 14 [v, .int .i64 y] A K := by
  have c21 : ∀ {K : Value → AHeap → Prop}, (∀ r : Int, (0 ≤ r ↔ y ∈ xs) → K (.int .i64 r) A) → dcall Go.Proofs.Try.prog 21 [v, .int .i64 y] A K := by
    intro K h
    rcases hv with ⟨rfl, rfl⟩ | ⟨b, ro, rfl, hb⟩
    · refine F21_call (by simp) ?_
      simp -implicitDefEqProofs [go_sem, get_alloc_eq, get_alloc_ne, get_set_eq, get_set_ne, get_del_ne, F21, F21r0, F21c11, F21c9, F21c8, F21r1]
      refine wpC_once ?_
      simp -implicitDefEqProofs [go_sem, get_alloc_eq, get_alloc_ne, get_set_eq, get_set_ne, get_del_ne, F21c7, F21c6, F21r2, F21c10, F21r7]
      exact h (-1) (by simp)
    · refine F21_call (by simp) ?_
      simp -implicitDefEqProofs [go_sem, get_alloc_eq, get_alloc_ne, get_set_eq, get_set_ne, get_del_ne, F21, F21r0, F21c11, F21c9, F21c8, F21r1]
      refine wpC_count xs.length 0 (fun i E A' => A' = A ∧ E = [(0, .slice (some ⟨b, 0, none⟩) xs.length 1), (1, .int .i64 y), (7, .int .i64 xs.length), (8, .int .i64 i)] ∧ ∀ (j : Nat) x, j < i → xs[j]? = some x → x ≠ y) (by omega) ⟨rfl, rfl, by simp⟩ ?_
      rintro i E A' hi ⟨rfl, rfl, h0⟩
      simp -implicitDefEqProofs [go_sem, get_alloc_eq, get_alloc_ne, get_set_eq, get_set_ne, get_del_ne, F21c7, F21c6, F21r2]
      split
      · rename_i h1
        have hx : xs[i]? = some xs[i] := by simp [h1]
        simp -implicitDefEqProofs [go_sem, get_alloc_eq, get_alloc_ne, get_set_eq, get_set_ne, get_del_ne, F21c5, F21c4, F21c3, F21c2, F21c1, F21c0, F21r3, F21r4, F21r5, F21r6, h1, hb, ints_get, hx]
        split
        · rename_i he
          exact h i ⟨fun _ => by rw [he]; exact List.getElem_mem h1, fun _ => by omega⟩
        · rename_i hne
          refine ⟨by omega, wrap_i64 (by omega), fun j x hj hx' => ?_⟩
          rcases Nat.lt_or_ge j i with hji | hji
          · exact h0 j x hji hx'
          · obtain rfl : j = i := by omega
            rw [hx] at hx'; cases hx'; exact fun e => hne e.symm
      · simp -implicitDefEqProofs [go_sem, get_alloc_eq, get_alloc_ne, get_set_eq, get_set_ne, get_del_ne, F21c10, F21r7]
        refine h (-1) ⟨fun h => by omega, fun hm => ?_⟩
        obtain ⟨j, hj, he⟩ := List.mem_iff_getElem.1 hm
        exact (h0 j xs[j] (by omega) (by simp [hj]) he).elim
  refine F14_call (by simp) ?_
  simp -implicitDefEqProofs [go_sem, get_alloc_eq, get_alloc_ne, get_set_eq, get_set_ne, get_del_ne, F14, F14r0, F14c0, F14r1]
  refine c21 fun r hr => ?_
  simp -implicitDefEqProofs [go_sem, get_alloc_eq, get_alloc_ne, get_set_eq, get_set_ne, get_del_ne, F14r1t1]
  have : (xs.contains y) = decide (0 ≤ r) := by
    by_cases hm : y ∈ xs
    · simp [hm, hr.2 hm]
    · have : ¬ 0 ≤ r := fun h => hm (hr.1 h)
      simp [hm, this]
  rw [← this]; exact h

theorem c15 {xs : List Int} {v : Value} (hl : xs.length ≤ 1000000) {A : AHeap} (hv : IntsAt A v xs) {K : Value → AHeap → Prop} (h : ∀ u A', Ext A A' → IntsAt A' u xs → K u A') :
    dcall Go.Proofs.Try.prog 15 [v] A K := by
  rcases hv with ⟨rfl, rfl⟩ | ⟨b, ro, rfl, hb⟩
  · refine F15_call (by simp) ?_
    simp -implicitDefEqProofs [go_sem, get_alloc_eq, get_alloc_ne, get_set_eq, get_set_ne, get_del_ne, F15, F15r0, F15c3, F15c1, F15c0, F15r1, F15r2]
    exact h _ A (.refl A) (.inl ⟨rfl, rfl⟩)
  · refine F15_call (by simp) ?_
    have hlt := A.lt hb
    have hb1 : (A.alloc (.cells false [])).get b = some (.cells ro (ints xs)) := by simp -implicitDefEqProofs (disch := first | omega | (simp only [nx_alloc, nx_set, nx_del, nx_reserve]; done) | (simp only [nx_alloc, nx_set, nx_del, nx_reserve]; omega)) only [get_alloc_eq, get_alloc_ne, get_set_eq, get_set_ne, get_del_ne, AHeap.get_reserve, nx_alloc, nx_set, nx_del, nx_reserve, hb]
    simp -implicitDefEqProofs [go_sem, get_alloc_eq, get_alloc_ne, get_set_eq, get_set_ne, get_del_ne, F15, F15r0, F15c3, F15c1, F15c0, F15r1, F15c2, F15r3]
    rw [hb1]
    by_cases hx : xs = []
    · subst hx
      simp -implicitDefEqProofs [go_sem, get_alloc_eq, get_alloc_ne, get_set_eq, get_set_ne, get_del_ne, ]
      exact h _ _ (Ext.alloc A _) (.inr ⟨A.next, false, rfl, by simp -implicitDefEqProofs (disch := first | omega | (simp only [nx_alloc, nx_set, nx_del, nx_reserve]; done) | (simp only [nx_alloc, nx_set, nx_del, nx_reserve]; omega)) only [get_alloc_eq, get_alloc_ne, get_set_eq, get_set_ne, get_del_ne, AHeap.get_reserve, nx_alloc, nx_set, nx_del, nx_reserve, ints, List.map]⟩)
    · have hx' : xs.length ≠ 0 := by simpa using hx
      simp -implicitDefEqProofs [go_sem, get_alloc_eq, get_alloc_ne, get_set_eq, get_set_ne, get_del_ne, hx, ints_len]
      refine ⟨by omega, h _ _ ?_ (.inr ⟨A.next + 1, false, rfl, ?_⟩)⟩
      · exact (((Ext.refl A).alloc' _).del' (by omega)).alloc' _
      · simp -implicitDefEqProofs (disch := first | omega | (simp only [nx_alloc, nx_set, nx_del, nx_reserve]; done) | (simp only [nx_alloc, nx_set, nx_del, nx_reserve]; omega)) only [get_alloc_eq, get_alloc_ne, get_set_eq, get_set_ne, get_del_ne, AHeap.get_reserve, nx_alloc, nx_set, nx_del, nx_reserve, ]
        rw [List.take_of_length_le (by rw [ints_len]; omega)]
end Go.Proofs.Ytckdmhjhjfmcdaa.Sx
