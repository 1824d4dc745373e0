/-
  Contracts: comparing.
-/
import Derived.Test.YtckdmhjhjfmcdaaTa
import Derived.Test.YtckdmhjhjfmcdaaSt
namespace Go.Proofs.Ytckdmhjhjfmcdaa.Sx
set_option linter.unusedSimpArgs false
set_option linter.unusedVariables false
open Go
attribute [local go_sem] wpC_skip wpC_exit wpC_ret wpC_row wpC_seq wpC_cond wpC_block wpR_nil wpR_none wpR_some wpD_nil wpD_light wpD_lightg wpD_heavy wpD_heavyg dop dlight dal thenK keepK inBlockK Env.eval Env.get Env.put keep_cons keep_nil keep_empty enterE dbin dint dun dcmp deq endK retV resL noTup closedV closedS evalL evalParts fillL putCells cellsOf partV loadV bnd if_true if_false reduceCtorEq dheavy realizeR realOne recheckR lightV evalG sliceCells nx_alloc nx_set nx_del nx_reserve AHeap.get_reserve and_guard
theorem c22 (x : Int) {A : AHeap} {K : Value → AHeap → Prop} (h : K (.bool false) A) : dcall Go.Proofs.Try.prog 22 [.int .i64 x] A K := by
  refine F22_call (by simp) ?_
  simp -implicitDefEqProofs [go_sem, get_alloc_eq, get_alloc_ne, get_set_eq, get_set_ne, get_del_ne, F22, F22c0, F22r0, F22r1]
  exact h
def cmpI (x y : Int) : Int := if x < y then -1 else if y < x then 1 else 0
theorem c17 (x y : Int) {A : AHeap} {K : Value → AHeap → Prop} (h : K (.int .i64 (cmpI x y)) A) : dcall Go.Proofs.Try.prog 17 [.int .i64 x, .int .i64 y] A K := by
  refine F17_call (by simp) ?_
  simp -implicitDefEqProofs [go_sem, get_alloc_eq, get_alloc_ne, get_set_eq, get_set_ne, get_del_ne, F17, F17c17, F17r0, F17r1]
  refine c22 _ ?_
  simp -implicitDefEqProofs [go_sem, get_alloc_eq, get_alloc_ne, get_set_eq, get_set_ne, get_del_ne, F17r1t1, F17c16, F17r2]
  refine c22 _ ?_
  simp -implicitDefEqProofs [go_sem, get_alloc_eq, get_alloc_ne, get_set_eq, get_set_ne, get_del_ne, F17r2t1, F17c15, F17c14, F17c13, F17c12, F17c11, F17c10, F17c9, F17c8, F17c7, F17c6, F17c5, F17c4, F17c3, F17r3, F17r7, F17r8, F17r9, F17r10, F17r11, F17r12, F17r13]
  unfold cmpI at h
  split
  · rename_i h1; rw [if_pos h1] at h; exact h
  · rename_i h1
    rw [if_neg h1] at h
    split
    · rename_i h2; rw [if_pos h2] at h; exact h
    · rename_i h2; rw [if_neg h2] at h; exact h

/-- The first that is not 0. -/
def orI : List Int → Int
  | [] => 0
  | x :: r => if x = 0 then orI r else x
theorem orI_drop (xs : List Int) : ∀ i, (∀ (j : Nat) x, j < i → xs[j]? = some x → x = 0) → orI (xs.drop i) = orI xs := by
  intro i
  induction i with
  | zero => intro _; simp
  | succ i ih =>
    intro h
    rw [← ih fun j x hj hx => h j x (by omega) hx]
    rcases Nat.lt_or_ge i xs.length with hl | hl
    · rw [List.drop_eq_getElem_cons hl]
      have : xs[i] = 0 := h i _ (by omega) (by simp [hl])
      simp [orI, this]
    · rw [List.drop_eq_nil_of_le hl, List.drop_eq_nil_of_le (by omega)]
def ints (xs : List Int) : List Value := xs.map (.int .i64 ·)
theorem ints_len (xs : List Int) : (ints xs).length = xs.length := by simp [ints]
theorem ints_get (xs : List Int) (i : Nat) : (ints xs)[i]? = (xs[i]?).map (.int .i64 ·) := by simp [ints]

theorem c16 (xs : List Int) {b : Nat} {ro : Bool} (hl : xs.length ≤ 1000000) {A : AHeap} (hb : A.get b = some (.cells ro (ints xs))) {K : Value → AHeap → Prop} (h : K (.int .i64 (orI xs)) A) :
    dcall Go.Proofs.Try.prog 16 [.slice (some ⟨b, 0, none⟩) xs.length 1] A K := by
  refine F16_call (by simp) ?_
  simp -implicitDefEqProofs [go_sem, get_alloc_eq, get_alloc_ne, get_set_eq, get_set_ne, get_del_ne, F16, F16c12, F16c11, F16c9, F16c8, F16r0, F16r1, F16r2]
  refine wpC_count xs.length 0 (fun i E A' => A' = A ∧ E = [(3, .int .i64 0), (6, .slice (some ⟨b, 0, none⟩) xs.length 1), (7, .int .i64 xs.length), (8, .int .i64 i)] ∧ ∀ (j : Nat) x, j < i → xs[j]? = some x → x = 0) (by omega) ⟨rfl, rfl, by simp⟩ ?_
  rintro i E A' hi ⟨rfl, rfl, h0⟩
  simp -implicitDefEqProofs [go_sem, get_alloc_eq, get_alloc_ne, get_set_eq, get_set_ne, get_del_ne, F16c7, F16c6, F16r3]
  split
  · rename_i h1
    have hx : xs[i]? = some xs[i] := by simp [h1]
    simp -implicitDefEqProofs [go_sem, get_alloc_eq, get_alloc_ne, get_set_eq, get_set_ne, get_del_ne, F16c5, F16c4, F16c3, F16c2, F16c1, F16c0, F16r4, F16r5, F16r6, F16r7, h1, hb, ints_get, hx]
    split
    · rename_i he
      refine ⟨by omega, wrap_i64 (by omega), fun j x hj hx' => ?_⟩
      rcases Nat.lt_or_ge j i with hji | hji
      · exact h0 j x hji hx'
      · obtain rfl : j = i := by omega
        rw [hx] at hx'; cases hx'; exact he
    · rename_i hne
      have := orI_drop xs i h0
      rw [List.drop_eq_getElem_cons h1] at this
      simp only [orI, hne, if_false] at this
      rw [this]; exact h
  · rename_i h1
    have := orI_drop xs i h0
    rw [List.drop_eq_nil_of_le (by omega)] at this
    simp -implicitDefEqProofs [go_sem, get_alloc_eq, get_alloc_ne, get_set_eq, get_set_ne, get_del_ne, F16c10, F16r8]
    simpa [← this, orI] using h

structure Pr where
  one : Int
  cls : Int
  two : Int
  id : Int
def Pr.cells (p : Pr) : List Value := [.int .i64 p.one, .int .i64 p.cls, .int .i64 p.two, .int .i64 p.id]
def Pr.v (p : Pr) : Value := .agg #[.int .i64 p.one, .int .i64 p.cls, .int .i64 p.two, .int .i64 p.id]
def Pr.cmp (p q : Pr) : Int := orI [cmpI p.one q.one, cmpI p.cls q.cls, cmpI p.two q.two, cmpI p.id q.id]

theorem c10 (p q : Pr) {A : AHeap} {K : Value → AHeap → Prop} (h : ∀ A', Ext A A' → K (.int .i64 (p.cmp q)) A') :
    dcall Go.Proofs.Try.prog 10 [p.v, q.v] A K := by
  refine F10_call (by simp) ?_
  simp -implicitDefEqProofs [go_sem, get_alloc_eq, get_alloc_ne, get_set_eq, get_set_ne, get_del_ne, F10, F10c0, F10r0, Pr.v]
  have e0 : Ext A ((A.alloc (AObj.cells false p.cells)).alloc (AObj.cells false q.cells)) := ((Ext.refl A).alloc' _).alloc' _
  generalize hA1 : (A.alloc _).alloc _ = A1
  have g1 : A1.get A.next = some (.cells false p.cells) := by rw [← hA1]; simp -implicitDefEqProofs (disch := first | omega | (simp only [nx_alloc, nx_set, nx_del, nx_reserve]; done) | (simp only [nx_alloc, nx_set, nx_del, nx_reserve]; omega)) only [get_alloc_eq, get_alloc_ne, get_set_eq, get_set_ne, get_del_ne, AHeap.get_reserve, nx_alloc, nx_set, nx_del, nx_reserve, Pr.cells]
  have g2 : A1.get (A.next + 1) = some (.cells false q.cells) := by rw [← hA1]; simp -implicitDefEqProofs (disch := first | omega | (simp only [nx_alloc, nx_set, nx_del, nx_reserve]; done) | (simp only [nx_alloc, nx_set, nx_del, nx_reserve]; omega)) only [get_alloc_eq, get_alloc_ne, get_set_eq, get_set_ne, get_del_ne, AHeap.get_reserve, nx_alloc, nx_set, nx_del, nx_reserve, Pr.cells]
  have g3 : A1.next = A.next + 2 := by rw [← hA1, nx_alloc, nx_alloc]
  have e1 : Ext A A1 := by rw [← hA1]; exact e0
  simp -implicitDefEqProofs [go_sem, get_alloc_eq, get_alloc_ne, get_set_eq, get_set_ne, get_del_ne, F10d1, F10s1, g1, g2, Pr.cells]
  refine c17 _ _ ?_
  refine ⟨by simp -implicitDefEqProofs [go_sem, get_alloc_eq, get_alloc_ne, get_set_eq, get_set_ne, get_del_ne, F10k1_1, g1, g2, Pr.cells], ?_⟩
  simp -implicitDefEqProofs [go_sem, get_alloc_eq, get_alloc_ne, get_set_eq, get_set_ne, get_del_ne, F10s1t1]
  refine c17 _ _ ?_
  refine ⟨by simp -implicitDefEqProofs [go_sem, get_alloc_eq, get_alloc_ne, get_set_eq, get_set_ne, get_del_ne, F10k1_2, g1, g2, Pr.cells], ?_⟩
  simp -implicitDefEqProofs [go_sem, get_alloc_eq, get_alloc_ne, get_set_eq, get_set_ne, get_del_ne, F10s1t2]
  refine c17 _ _ ?_
  refine ⟨by simp -implicitDefEqProofs [go_sem, get_alloc_eq, get_alloc_ne, get_set_eq, get_set_ne, get_del_ne, F10k1_3, g1, g2, Pr.cells], ?_⟩
  simp -implicitDefEqProofs [go_sem, get_alloc_eq, get_alloc_ne, get_set_eq, get_set_ne, get_del_ne, F10s1t3]
  refine c17 _ _ ?_
  simp -implicitDefEqProofs [go_sem, get_alloc_eq, get_alloc_ne, get_set_eq, get_set_ne, get_del_ne, F10s1t4]
  generalize hA2 : (A1.reserve 1).set A1.next _ = A2
  have g4 : A2.get A1.next = some (.cells false (ints [cmpI p.one q.one, cmpI p.cls q.cls, cmpI p.two q.two, cmpI p.id q.id])) := by
    rw [← hA2]; simp -implicitDefEqProofs (disch := first | omega | (simp only [nx_alloc, nx_set, nx_del, nx_reserve]; done) | (simp only [nx_alloc, nx_set, nx_del, nx_reserve]; omega)) only [get_alloc_eq, get_alloc_ne, get_set_eq, get_set_ne, get_del_ne, AHeap.get_reserve, nx_alloc, nx_set, nx_del, nx_reserve, ints, List.map]
  have e2 : Ext A1 A2 := by
    rw [← hA2]
    exact ⟨by rw [nx_set, nx_reserve]; omega, fun x hx => by simp -implicitDefEqProofs (disch := first | omega | (simp only [nx_alloc, nx_set, nx_del, nx_reserve]; done) | (simp only [nx_alloc, nx_set, nx_del, nx_reserve]; omega)) only [get_alloc_eq, get_alloc_ne, get_set_eq, get_set_ne, get_del_ne, AHeap.get_reserve, nx_alloc, nx_set, nx_del, nx_reserve, ]⟩
  refine c16 [cmpI p.one q.one, cmpI p.cls q.cls, cmpI p.two q.two, cmpI p.id q.id] (by simp) g4 ?_
  simp -implicitDefEqProofs [go_sem, get_alloc_eq, get_alloc_ne, get_set_eq, get_set_ne, get_del_ne, F10s1t5]
  exact h _ (e1.trans e2)

structure Ve where
  root : Pr
  steps : Int
  src : Int
  port : Int
  at' : Int
def Ve.cells (v : Ve) : List Value := [.int .i64 v.root.one, .int .i64 v.root.cls, .int .i64 v.root.two, .int .i64 v.root.id, .int .i64 v.steps, .int .i64 v.src, .int .i64 v.port, .int .i64 v.at']
def Ve.v (v : Ve) : Value := .agg #[.int .i64 v.root.one, .int .i64 v.root.cls, .int .i64 v.root.two, .int .i64 v.root.id, .int .i64 v.steps, .int .i64 v.src, .int .i64 v.port, .int .i64 v.at']
def Ve.cmp (v w : Ve) : Int := orI [v.root.cmp w.root, cmpI v.steps w.steps, cmpI v.src w.src, cmpI v.port w.port, cmpI v.at' w.at']

theorem c23 (p q : Ve) {A : AHeap} {K : Value → AHeap → Prop} (h : ∀ A', Ext A A' → K (.int .i64 (p.cmp q)) A') :
    dcall Go.Proofs.Try.prog 23 [p.v, q.v] A K := by
  refine F23_call (by simp) ?_
  simp -implicitDefEqProofs [go_sem, get_alloc_eq, get_alloc_ne, get_set_eq, get_set_ne, get_del_ne, F23, F23c0, F23r0, Ve.v]
  have e0 : Ext A ((A.alloc (AObj.cells false p.cells)).alloc (AObj.cells false q.cells)) := ((Ext.refl A).alloc' _).alloc' _
  generalize hA1 : (A.alloc _).alloc _ = A1
  have g1 : A1.get A.next = some (.cells false p.cells) := by rw [← hA1]; simp -implicitDefEqProofs (disch := first | omega | (simp only [nx_alloc, nx_set, nx_del, nx_reserve]; done) | (simp only [nx_alloc, nx_set, nx_del, nx_reserve]; omega)) only [get_alloc_eq, get_alloc_ne, get_set_eq, get_set_ne, get_del_ne, AHeap.get_reserve, nx_alloc, nx_set, nx_del, nx_reserve, Ve.cells]
  have g2 : A1.get (A.next + 1) = some (.cells false q.cells) := by rw [← hA1]; simp -implicitDefEqProofs (disch := first | omega | (simp only [nx_alloc, nx_set, nx_del, nx_reserve]; done) | (simp only [nx_alloc, nx_set, nx_del, nx_reserve]; omega)) only [get_alloc_eq, get_alloc_ne, get_set_eq, get_set_ne, get_del_ne, AHeap.get_reserve, nx_alloc, nx_set, nx_del, nx_reserve, Ve.cells]
  have g3 : A1.next = A.next + 2 := by rw [← hA1, nx_alloc, nx_alloc]
  have e1 : Ext A A1 := by rw [← hA1]; exact e0
  simp -implicitDefEqProofs [go_sem, get_alloc_eq, get_alloc_ne, get_set_eq, get_set_ne, get_del_ne, F23d1, F23s1, g1, g2, Ve.cells]
  refine c10 _ _ fun A2 e2 => ?_
  have k1 := e2.keeps (x := A.next) (o := .cells false p.cells) g1
  have k2 := e2.keeps (x := A.next + 1) (o := .cells false q.cells) g2
  refine ⟨by simp -implicitDefEqProofs [go_sem, get_alloc_eq, get_alloc_ne, get_set_eq, get_set_ne, get_del_ne, F23k1_1, k1, k2, Ve.cells], ?_⟩
  simp -implicitDefEqProofs [go_sem, get_alloc_eq, get_alloc_ne, get_set_eq, get_set_ne, get_del_ne, F23s1t1]
  refine c17 _ _ ?_
  refine ⟨by simp -implicitDefEqProofs [go_sem, get_alloc_eq, get_alloc_ne, get_set_eq, get_set_ne, get_del_ne, F23k1_2, k1, k2, Ve.cells], ?_⟩
  simp -implicitDefEqProofs [go_sem, get_alloc_eq, get_alloc_ne, get_set_eq, get_set_ne, get_del_ne, F23s1t2]
  refine c17 _ _ ?_
  refine ⟨by simp -implicitDefEqProofs [go_sem, get_alloc_eq, get_alloc_ne, get_set_eq, get_set_ne, get_del_ne, F23k1_3, k1, k2, Ve.cells], ?_⟩
  simp -implicitDefEqProofs [go_sem, get_alloc_eq, get_alloc_ne, get_set_eq, get_set_ne, get_del_ne, F23s1t3]
  refine c17 _ _ ?_
  refine ⟨by simp -implicitDefEqProofs [go_sem, get_alloc_eq, get_alloc_ne, get_set_eq, get_set_ne, get_del_ne, F23k1_4, k1, k2, Ve.cells], ?_⟩
  simp -implicitDefEqProofs [go_sem, get_alloc_eq, get_alloc_ne, get_set_eq, get_set_ne, get_del_ne, F23s1t4]
  refine c17 _ _ ?_
  simp -implicitDefEqProofs [go_sem, get_alloc_eq, get_alloc_ne, get_set_eq, get_set_ne, get_del_ne, F23s1t5]
  have b2 : A1.next + 1 ≤ A2.next := e2.next
  generalize hA3 : A2.set A1.next _ = A3
  have g4 : A3.get A1.next = some (.cells false (ints [p.root.cmp q.root, cmpI p.steps q.steps, cmpI p.src q.src, cmpI p.port q.port, cmpI p.at' q.at'])) := by
    rw [← hA3]; simp -implicitDefEqProofs (disch := first | omega | (simp only [nx_alloc, nx_set, nx_del, nx_reserve]; done) | (simp only [nx_alloc, nx_set, nx_del, nx_reserve]; omega)) only [get_alloc_eq, get_alloc_ne, get_set_eq, get_set_ne, get_del_ne, AHeap.get_reserve, nx_alloc, nx_set, nx_del, nx_reserve, ints, List.map]
  have e3 : Ext A1 A3 := by
    rw [← hA3]
    exact ⟨by rw [nx_set]; omega, fun x hx => by simp -implicitDefEqProofs (disch := first | omega | (simp only [nx_alloc, nx_set, nx_del, nx_reserve]; done) | (simp only [nx_alloc, nx_set, nx_del, nx_reserve]; omega)) only [get_alloc_eq, get_alloc_ne, get_set_eq, get_set_ne, get_del_ne, AHeap.get_reserve, nx_alloc, nx_set, nx_del, nx_reserve, ]; exact e2.get x (by rw [nx_reserve]; omega)⟩
  refine c16 [p.root.cmp q.root, cmpI p.steps q.steps, cmpI p.src q.src, cmpI p.port q.port, cmpI p.at' q.at'] (by simp) g4 ?_
  simp -implicitDefEqProofs [go_sem, get_alloc_eq, get_alloc_ne, get_set_eq, get_set_ne, get_del_ne, F23s1t6]
  exact h _ (e1.trans e3)
end Go.Proofs.Ytckdmhjhjfmcdaa.Sx
