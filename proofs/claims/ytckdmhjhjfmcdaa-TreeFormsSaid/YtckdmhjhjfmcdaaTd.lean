/-
  Contracts: what a clock's ports have heard.
-/
import Derived.Test.YtckdmhjhjfmcdaaTc
import Derived.Test.YtckdmhjhjfmcdaaSu
namespace Go.Proofs.Ytckdmhjhjfmcdaa.Sx
set_option linter.unusedSimpArgs false
set_option linter.unusedVariables false
open Go
attribute [local go_sem] wpC_skip wpC_exit wpC_ret wpC_row wpC_seq wpC_cond wpC_block wpR_nil wpR_none wpR_some wpD_nil wpD_light wpD_lightg wpD_heavy wpD_heavyg dop dlight dal thenK keepK inBlockK Env.eval Env.get Env.put keep_cons keep_nil keep_empty enterE dbin dint dun dcmp deq endK retV resL noTup closedV closedS evalL evalParts fillL putCells cellsOf partV loadV bnd if_true if_false reduceCtorEq dheavy realizeR realOne recheckR lightV evalG sliceCells nx_alloc nx_set nx_del nx_reserve AHeap.get_reserve and_guard
structure He where
  up : Bool
  ok : Bool
  vec : Ve
def He.cells (h : He) : List Value := .bool h.up :: .bool h.ok :: h.vec.cells
theorem He.len (h : He) : h.cells.length = 10 := rfl
def hes (hs : List He) : List Value := hs.flatMap He.cells
theorem hes_len (hs : List He) : (hes hs).length = hs.length * 10 := flat_len He.len hs
def HesAt (A : AHeap) (v : Value) (hs : List He) : Prop := ∃ b ro, v = .slice (some ⟨b, 0, none⟩) hs.length 10 ∧ A.get b = some (.cells ro (hes hs))

theorem c24 {hs : List He} {b : Nat} {ro : Bool} (hl : hs.length ≤ 1000) {A : AHeap} (hb : A.get b = some (.cells ro (hes hs))) {K : Value → AHeap → Prop}
    (h : ∀ c A', Ext A A' → A.next ≤ c → c < A'.next → A'.get c = some (.cells false (hes hs)) → K (.slice (some ⟨c, 0, none⟩) hs.length 10) A') :
    dcall Go.Proofs.Try.prog 24 [.slice (some ⟨b, 0, none⟩) hs.length 10] A K := by
  refine F24_call (by simp) ?_
  have hlt := A.lt hb
  have hb1 : (A.alloc (.cells false [])).get b = some (.cells ro (hes hs)) := by simp -implicitDefEqProofs (disch := first | omega | (simp only [nx_alloc, nx_set, nx_del, nx_reserve]; done) | (simp only [nx_alloc, nx_set, nx_del, nx_reserve]; omega)) only [get_alloc_eq, get_alloc_ne, get_set_eq, get_set_ne, get_del_ne, AHeap.get_reserve, nx_alloc, nx_set, nx_del, nx_reserve, hb]
  simp -implicitDefEqProofs [go_sem, get_alloc_eq, get_alloc_ne, get_set_eq, get_set_ne, get_del_ne, F24, F24r0, F24c3, F24c1, F24c0, F24r1, F24c2, F24r3]
  rw [hb1]
  by_cases hx : hs = []
  · subst hx
    simp -implicitDefEqProofs [go_sem, get_alloc_eq, get_alloc_ne, get_set_eq, get_set_ne, get_del_ne, ]
    exact h _ _ (Ext.alloc A _) (Nat.le_refl _) (by rw [nx_alloc]; omega) (by simp -implicitDefEqProofs (disch := first | omega | (simp only [nx_alloc, nx_set, nx_del, nx_reserve]; done) | (simp only [nx_alloc, nx_set, nx_del, nx_reserve]; omega)) only [get_alloc_eq, get_alloc_ne, get_set_eq, get_set_ne, get_del_ne, AHeap.get_reserve, nx_alloc, nx_set, nx_del, nx_reserve, hes, List.flatMap_nil])
  · have hx' : hs.length ≠ 0 := by simpa using hx
    simp -implicitDefEqProofs [go_sem, get_alloc_eq, get_alloc_ne, get_set_eq, get_set_ne, get_del_ne, hx, hes_len]
    refine ⟨by omega, h _ _ ?_ (by omega) (by rw [nx_alloc, nx_del, nx_alloc]; omega) ?_⟩
    · exact (((Ext.refl A).alloc' _).del' (by omega)).alloc' _
    · simp -implicitDefEqProofs (disch := first | omega | (simp only [nx_alloc, nx_set, nx_del, nx_reserve]; done) | (simp only [nx_alloc, nx_set, nx_del, nx_reserve]; omega)) only [get_alloc_eq, get_alloc_ne, get_set_eq, get_set_ne, get_del_ne, AHeap.get_reserve, nx_alloc, nx_set, nx_del, nx_reserve, ]
      rw [List.take_of_length_le (by rw [hes_len]; omega)]
end Go.Proofs.Ytckdmhjhjfmcdaa.Sx
