/-
  Contracts: the best clock that a node knows.
-/
import Derived.Test.YtckdmhjhjfmcdaaTd
namespace Go.Proofs.Ytckdmhjhjfmcdaa.Sx
set_option linter.unusedSimpArgs false
set_option linter.unusedVariables false
open Go
attribute [local go_sem] wpC_skip wpC_exit wpC_ret wpC_row wpC_seq wpC_cond wpC_block wpR_nil wpR_none wpR_some wpD_nil wpD_light wpD_lightg wpD_heavy wpD_heavyg dop dlight dal thenK keepK inBlockK Env.eval Env.get Env.put keep_cons keep_nil keep_empty enterE dbin dint dun dcmp deq endK retV resL noTup closedV closedS evalL evalParts fillL putCells cellsOf partV loadV bnd if_true if_false reduceCtorEq dheavy realizeR realOne recheckR lightV evalG sliceCells nx_alloc nx_set nx_del nx_reserve AHeap.get_reserve and_guard
theorem wpC_cut {P : Program} {x : DCode} {E : Env} {A : AHeap} {K : Exit → Env → AHeap → Prop} (Q : Env → AHeap → Prop) (h : wpC P x E A (thenK Q fun _ _ _ => False)) (hq : ∀ E' A', Q E' A' → K .normal E' A') : wpC P x E A K := by
  refine wpC_mono h ?_
  intro e E' A' hk
  cases e with
  | normal => exact hq _ _ hk
  | _ => exact hk.elim
def Ve.here (v : Ve) (i : Int) : Ve := { v with at' := i }
def pickTop (own : Pr) (i : Nat) (h : He) (top : Ve) : Ve :=
  if h.up = true ∧ h.ok = true ∧ h.vec.root.cmp own < 0 ∧ (top.at' < 0 ∨ (h.vec.here i).cmp top < 0) then h.vec.here i else top
def topGo (own : Pr) : Nat → List He → Ve → Ve
  | _, [], top => top
  | i, h :: r, top => topGo own (i + 1) r (pickTop own i h top)
def topOf (own : Pr) (hs : List He) : Ve := topGo own 0 hs ⟨own, 0, own.id, 0, -1⟩
def mineOf (own : Pr) (top : Ve) (i : Nat) : Ve := ⟨top.root, if top.at' < 0 then 0 else top.steps + 1, own.id, i, 0⟩
def roleOf (own : Pr) (top : Ve) (i : Nat) (h : He) : Int :=
  if h.up = false then 0 else if (i : Int) = top.at' then 2 else if 0 ≤ top.at' ∧ h.ok = true ∧ (h.vec.here 0).cmp (mineOf own top i) < 0 then 3 else 1
def rolesGo (own : Pr) (top : Ve) : Nat → List He → List Int
  | _, [] => []
  | i, h :: r => roleOf own top i h :: rolesGo own top (i + 1) r
def rolesOf (own : Pr) (hs : List He) : List Int := rolesGo own (topOf own hs) 0 hs

theorem topGo_step (own : Pr) : ∀ (i : Nat) (hs : List He) (top : Ve) (j : Nat) (h : He), hs[j]? = some h → topGo own i hs top = topGo own (i + j + 1) (hs.drop (j + 1)) (pickTop own (i + j) h (topGo own i (hs.take j) top))
  | i, [], top, j, h, e => by simp at e
  | i, x :: hs, top, 0, h, e => by simp at e; subst e; simp [topGo]
  | i, x :: hs, top, j + 1, h, e => by
    have := topGo_step own (i + 1) hs (pickTop own i x top) j h (by simpa using e)
    simp only [topGo, List.take_succ_cons, List.drop_succ_cons]
    rw [this]
    congr 2 <;> omega
theorem topGo_snoc (own : Pr) : ∀ (i : Nat) (hs : List He) (top : Ve) (h : He), topGo own i (hs ++ [h]) top = pickTop own (i + hs.length) h (topGo own i hs top)
  | i, [], top, h => by simp [topGo]
  | i, x :: hs, top, h => by
    simp only [List.cons_append, topGo, topGo_snoc own (i + 1) hs, List.length_cons]
    congr 1; omega

def StepsOk (v : Ve) : Prop := 0 ≤ v.steps ∧ v.steps ≤ 1000000
theorem topGo_ok (own : Pr) : ∀ (i : Nat) (hs : List He) (top : Ve), StepsOk top → (∀ h ∈ hs, StepsOk h.vec) → StepsOk (topGo own i hs top)
  | _, [], _, ht, _ => ht
  | i, h :: r, top, ht, hh => by
    refine topGo_ok own (i + 1) r _ ?_ fun x hx => hh x (by simp [hx])
    unfold pickTop
    split
    · exact hh h (by simp)
    · exact ht
theorem rolesGo_len (own : Pr) (top : Ve) : ∀ (i : Nat) (hs : List He), (rolesGo own top i hs).length = hs.length
  | _, [] => rfl
  | i, h :: r => by simp [rolesGo, rolesGo_len own top (i + 1) r]
theorem rolesGo_get (own : Pr) (top : Ve) : ∀ (i : Nat) (hs : List He) (j : Nat) (h : He), hs[j]? = some h → (rolesGo own top i hs)[j]? = some (roleOf own top (i + j) h)
  | i, [], j, h, e => by simp at e
  | i, x :: hs, 0, h, e => by simp at e; subst e; simp [rolesGo]
  | i, x :: hs, j + 1, h, e => by
    have := rolesGo_get own top (i + 1) hs j h (by simpa using e)
    simp only [rolesGo, List.getElem?_cons_succ, this]
    congr 2; omega
theorem rowOf_zero : ∀ n, rowOf [.int .i64 0] n = ints (List.replicate n 0)
  | 0 => rfl
  | n + 1 => by simp [rowOf, rowOf_zero n, ints, List.replicate_succ]
/-- The roles that are settled so far; the rest is 0. -/
def soFar (rs : List Int) (i : Nat) : List Int := rs.take i ++ List.replicate (rs.length - i) 0
theorem soFar_len (rs : List Int) {i : Nat} (hi : i ≤ rs.length) : (soFar rs i).length = rs.length := by simp [soFar]; omega
theorem soFar_all (rs : List Int) : soFar rs rs.length = rs := by simp [soFar]
theorem soFar_step {rs : List Int} {i : Nat} {r : Int} (h : rs[i]? = some r) : (soFar rs i).set i r = soFar rs (i + 1) := by
  have hi : i < rs.length := by
    rcases Nat.lt_or_ge i rs.length with hh | hh
    · exact hh
    · rw [List.getElem?_eq_none hh] at h; cases h
  unfold soFar
  rw [List.take_add_one, h, List.set_append_right _ _ (by simp; omega)]
  have e : rs.length - i = (rs.length - (i + 1)) + 1 := by omega
  rw [e, List.replicate_succ]
  simp [Nat.min_eq_left (Nat.le_of_lt hi)]
theorem soFar_zero {rs : List Int} {i : Nat} (h : rs[i]? = some 0) : soFar rs i = soFar rs (i + 1) := by
  have hi : i < rs.length := by
    rcases Nat.lt_or_ge i rs.length with hh | hh
    · exact hh
    · rw [List.getElem?_eq_none hh] at h; cases h
  unfold soFar
  rw [List.take_add_one, h]
  have e : rs.length - i = (rs.length - (i + 1)) + 1 := by omega
  rw [e, List.replicate_succ]
  simp
def top0 (own : Pr) : Ve := ⟨own, 0, own.id, 0, -1⟩
def z8 : List Value := [.int .i64 0, .int .i64 0, .int .i64 0, .int .i64 0, .int .i64 0, .int .i64 0, .int .i64 0, .int .i64 0]
structure Mem18 (own : Pr) (A A' : AHeap) (top : Ve) : Prop where
  e : Ext A A'
  n : A.next + 3 ≤ A'.next
  k1 : A'.get A.next = some (.cells false own.cells)
  k2 : A'.get (A.next + 1) = some (.cells false z8)
  k3 : A'.get (A.next + 2) = some (.cells false top.cells)
def inv18 (own : Pr) (hs : List He) (b : Nat) (A : AHeap) (i : Nat) (E : Env) (A' : AHeap) : Prop :=
  E = [(1, .slice (some ⟨b, 0, none⟩) hs.length 10), (2, .pointer (some ⟨A.next, 0, none⟩)), (4, .pointer (some ⟨A.next + 1, 0, none⟩)), (6, .pointer (some ⟨A.next + 2, 0, none⟩)), (19, .slice (some ⟨b, 0, none⟩) hs.length 10), (20, .int .i64 hs.length), (21, .int .i64 i)] ∧
  Mem18 own A A' (topGo own 0 (hs.take i) (top0 own))
theorem Mem18.ext {own : Pr} {A A' A'' : AHeap} {top : Ve} (h : Mem18 own A A' top) (e : Ext A' A'') : Mem18 own A A'' top :=
  ⟨h.e.trans e, Nat.le_trans h.n e.next, e.keeps h.k1, e.keeps h.k2, e.keeps h.k3⟩
theorem Mem18.put {own : Pr} {A A' : AHeap} {top : Ve} (h : Mem18 own A A' top) (v : Ve) : Mem18 own A (A'.set (A.next + 2) (.cells false v.cells)) v := by
  have := h.n
  have hz := h.k2
  have k1 := h.k1
  refine ⟨h.e.set' (by omega) _, by rw [nx_set]; exact h.n, by simp -implicitDefEqProofs (disch := first | omega | (simp only [nx_alloc, nx_set, nx_del, nx_reserve]; done) | (simp only [nx_alloc, nx_set, nx_del, nx_reserve]; omega)) only [get_alloc_eq, get_alloc_ne, get_set_eq, get_set_ne, get_del_ne, AHeap.get_reserve, nx_alloc, nx_set, nx_del, nx_reserve, k1], by simp -implicitDefEqProofs (disch := first | omega | (simp only [nx_alloc, nx_set, nx_del, nx_reserve]; done) | (simp only [nx_alloc, nx_set, nx_del, nx_reserve]; omega)) only [get_alloc_eq, get_alloc_ne, get_set_eq, get_set_ne, get_del_ne, AHeap.get_reserve, nx_alloc, nx_set, nx_del, nx_reserve, hz], by simp -implicitDefEqProofs (disch := first | omega | (simp only [nx_alloc, nx_set, nx_del, nx_reserve]; done) | (simp only [nx_alloc, nx_set, nx_del, nx_reserve]; omega)) only [get_alloc_eq, get_alloc_ne, get_set_eq, get_set_ne, get_del_ne, AHeap.get_reserve, nx_alloc, nx_set, nx_del, nx_reserve, ]⟩
theorem Ve.cells_eq (v : Ve) : v.cells = [.int .i64 v.root.one, .int .i64 v.root.cls, .int .i64 v.root.two, .int .i64 v.root.id, .int .i64 v.steps, .int .i64 v.src, .int .i64 v.port, .int .i64 v.at'] := rfl
theorem He.cells_eq (h : He) : h.cells = [.bool h.up, .bool h.ok, .int .i64 h.vec.root.one, .int .i64 h.vec.root.cls, .int .i64 h.vec.root.two, .int .i64 h.vec.root.id, .int .i64 h.vec.steps, .int .i64 h.vec.src, .int .i64 h.vec.port, .int .i64 h.vec.at'] := rfl

theorem c18 (own : Pr) {hs : List He} {b : Nat} {ro : Bool} (hl : hs.length ≤ 1000) (hst : ∀ h ∈ hs, StepsOk h.vec) {A : AHeap} (hb : A.get b = some (.cells ro (hes hs))) {K : Value → AHeap → Prop}
    (h : ∀ c A', Ext A A' → A.next ≤ c → A'.get c = some (.cells false (ints (rolesOf own hs))) → K (.tuple #[(topOf own hs).v, .slice (some ⟨c, 0, none⟩) hs.length 1]) A') :
    dcall Go.Proofs.Try.prog 18 [own.v, .slice (some ⟨b, 0, none⟩) hs.length 10] A K := by
  refine F18_call (by simp) ?_
  have hlt := A.lt hb
  simp -implicitDefEqProofs [go_sem, get_alloc_eq, get_alloc_ne, get_set_eq, get_set_ne, get_del_ne, F18, F18r0, F18c39, F18r1, Pr.v]
  generalize hA1 : AHeap.set _ (A.next + 1 + 1) _ = A1
  have m1 : Mem18 own A A1 (top0 own) := by
    rw [← hA1]
    refine ⟨((((Ext.refl A).alloc' _).alloc' _).alloc' _).set' (by omega) _, by simp only [nx_set, nx_alloc]; omega, by simp -implicitDefEqProofs (disch := first | omega | (simp only [nx_alloc, nx_set, nx_del, nx_reserve]; done) | (simp only [nx_alloc, nx_set, nx_del, nx_reserve]; omega)) only [get_alloc_eq, get_alloc_ne, get_set_eq, get_set_ne, get_del_ne, AHeap.get_reserve, nx_alloc, nx_set, nx_del, nx_reserve, Pr.cells], by simp -implicitDefEqProofs (disch := first | omega | (simp only [nx_alloc, nx_set, nx_del, nx_reserve]; done) | (simp only [nx_alloc, nx_set, nx_del, nx_reserve]; omega)) only [get_alloc_eq, get_alloc_ne, get_set_eq, get_set_ne, get_del_ne, AHeap.get_reserve, nx_alloc, nx_set, nx_del, nx_reserve, z8], by simp -implicitDefEqProofs (disch := first | omega | (simp only [nx_alloc, nx_set, nx_del, nx_reserve]; done) | (simp only [nx_alloc, nx_set, nx_del, nx_reserve]; omega)) only [get_alloc_eq, get_alloc_ne, get_set_eq, get_set_ne, get_del_ne, AHeap.get_reserve, nx_alloc, nx_set, nx_del, nx_reserve, Ve.cells, top0]⟩
  clear hA1
  simp -implicitDefEqProofs [go_sem, get_alloc_eq, get_alloc_ne, get_set_eq, get_set_ne, get_del_ne, F18c38, F18c11, F18c10, F18r2]
  refine wpC_count hs.length 0 (inv18 own hs b A) (by omega) ⟨rfl, by simpa [topGo] using m1⟩ ?_
  rintro i E A2 hi ⟨rfl, m2⟩
  simp -implicitDefEqProofs [go_sem, get_alloc_eq, get_alloc_ne, get_set_eq, get_set_ne, get_del_ne, F18c9, F18c8, F18r3]
  split
  · rename_i h1
    have hx : hs[i]? = some hs[i] := by simp [h1]
    generalize hs[i] = x at hx
    have hb2 := m2.e.keeps hb
    have hld : List.take 10 (List.drop (i * 10) (hes hs)) = x.cells := flat_take He.len hx
    have hbd : i * 10 + 10 ≤ (hes hs).length := flat_bound He.len hx
    have hxc := x.cells_eq
    simp -implicitDefEqProofs [go_sem, get_alloc_eq, get_alloc_ne, get_set_eq, get_set_ne, get_del_ne, F18c7, F18c5, F18r4, h1, hb2, hld, hbd, hxc]
    rw [← hxc]
    generalize hA3 : AHeap.set _ A2.next _ = A3
    have e3 : Ext A2 A3 := by rw [← hA3]; exact ((Ext.refl A2).alloc' _).set' (by omega) _
    have k3 : A3.get A2.next = some (.cells false x.cells) := by rw [← hA3]; simp -implicitDefEqProofs (disch := first | omega | (simp only [nx_alloc, nx_set, nx_del, nx_reserve]; done) | (simp only [nx_alloc, nx_set, nx_del, nx_reserve]; omega)) only [get_alloc_eq, get_alloc_ne, get_set_eq, get_set_ne, get_del_ne, AHeap.get_reserve, nx_alloc, nx_set, nx_del, nx_reserve, ]
    have n3 : A3.next = A2.next + 1 := by rw [← hA3, nx_set, nx_alloc]
    clear hA3
    simp -implicitDefEqProofs [go_sem, get_alloc_eq, get_alloc_ne, get_set_eq, get_set_ne, get_del_ne, F18c4, F18r5, F18c3, F18r6, k3, hxc]
    have hvc := (x.vec.here i).cells_eq
    simp only [Ve.here] at hvc
    rw [← hvc]
    generalize hA4 : AHeap.set _ A3.next ((AObj.cells false _)) = A4
    have n4 : A4.next = A3.next + 1 := by rw [← hA4, nx_set, nx_set, nx_alloc]
    have e4 : Ext A3 A4 := by rw [← hA4]; exact (((Ext.refl A3).alloc' _).set' (by omega) _).set' (by omega) _
    have k4 : A4.get A3.next = some (.cells false (x.vec.here i).cells) := by rw [← hA4]; simp -implicitDefEqProofs (disch := first | omega | (simp only [nx_alloc, nx_set, nx_del, nx_reserve]; done) | (simp only [nx_alloc, nx_set, nx_del, nx_reserve]; omega)) only [get_alloc_eq, get_alloc_ne, get_set_eq, get_set_ne, get_del_ne, AHeap.get_reserve, nx_alloc, nx_set, nx_del, nx_reserve, Ve.here]
    clear hA4
    have k5 := e4.keeps k3
    have m4 := m2.ext (e3.trans e4)
    have hvc' := (x.vec.here i).cells_eq
    have b0 := m4.n
    have fin : ∀ A5, Mem18 own A A5 (pickTop own i x (topGo own 0 (hs.take i) (top0 own))) → i + 1 ≤ hs.length ∧ inv18 own hs b A (i + 1) [(1, .slice (some ⟨b, 0, none⟩) hs.length 10), (2, .pointer (some ⟨A.next, 0, none⟩)), (4, .pointer (some ⟨A.next + 1, 0, none⟩)), (6, .pointer (some ⟨A.next + 2, 0, none⟩)), (19, .slice (some ⟨b, 0, none⟩) hs.length 10), (20, .int .i64 hs.length), (21, .int .i64 (IntKind.i64.wrap (↑i + 1)))] A5 := by
      intro A5 m5
      refine ⟨by omega, by rw [wrap_i64 (by omega)]; rfl, ?_⟩
      rw [List.take_add_one, hx]
      simp only [Option.toList_some, topGo_snoc, Nat.zero_add, List.length_take]
      rw [Nat.min_eq_left (by omega)]
      exact m5
    generalize htop : topGo own 0 (hs.take i) (top0 own) = top at m4 fin
    have p1 := m4.k1
    have p3 := m4.k3
    simp -implicitDefEqProofs [go_sem, get_alloc_eq, get_alloc_ne, get_set_eq, get_set_ne, get_del_ne, F18c2, F18r7, k5, hxc, k4, p1, hvc', Pr.cells]
    split
    · rename_i hup
      split
      · rename_i hok
        refine c10 x.vec.root own fun A5 e5 => ?_
        have m5 := m4.ext e5
        have p3 := m5.k3
        have k6 := e5.keeps k4
        have htc := top.cells_eq
        simp -implicitDefEqProofs [go_sem, get_alloc_eq, get_alloc_ne, get_set_eq, get_set_ne, get_del_ne, F18r7t1, k6, p3, hvc', htc]
        split
        · rename_i hc
          split
          · rename_i hat
            refine c23 (x.vec.here i) top fun A6 e6 => ?_
            have m6 := m5.ext e6
            have k7 := e6.keeps k6
            have p3 := m6.k3
            simp -implicitDefEqProofs [go_sem, get_alloc_eq, get_alloc_ne, get_set_eq, get_set_ne, get_del_ne, F18r7t2, F18c1, F18c0, F18r8, F18c6, F18r9, k7, p3, hvc', htc]
            rw [← hvc']
            split
            · rename_i hlt'
              refine fin _ ?_
              rw [pickTop, if_pos ⟨hup, hok, hc, .inr hlt'⟩]
              exact m6.put _
            · rename_i hge
              refine fin _ ?_
              rw [pickTop, if_neg (by intro hh; rcases hh.2.2.2 with h | h <;> omega)]
              exact m6
          · rename_i hat
            simp -implicitDefEqProofs [go_sem, get_alloc_eq, get_alloc_ne, get_set_eq, get_set_ne, get_del_ne, F18r7t2, F18c1, F18c0, F18r8, F18c6, F18r9, k6, p3, hvc', htc]
            rw [← hvc']
            refine fin _ ?_
            rw [pickTop, if_pos ⟨hup, hok, hc, .inl (by omega)⟩]
            exact m5.put _
        · rename_i hc
          simp -implicitDefEqProofs [go_sem, get_alloc_eq, get_alloc_ne, get_set_eq, get_set_ne, get_del_ne, F18r7t2, F18c1, F18c0, F18r8, F18c6, F18r9]
          refine fin A5 ?_
          rw [pickTop, if_neg (by simp [hc])]
          exact m5
      · rename_i hok
        simp -implicitDefEqProofs [go_sem, get_alloc_eq, get_alloc_ne, get_set_eq, get_set_ne, get_del_ne, F18r7t1, F18r7t2, F18c1, F18c0, F18r8, F18c6, F18r9]
        refine fin A4 ?_
        rw [pickTop, if_neg (by simp [hok])]
        exact m4
    · rename_i hup
      simp -implicitDefEqProofs [go_sem, get_alloc_eq, get_alloc_ne, get_set_eq, get_set_ne, get_del_ne, F18r7t1, F18r7t2, F18c1, F18c0, F18r8, F18c6, F18r9]
      refine fin A4 ?_
      rw [pickTop, if_neg (by simp [hup])]
      exact m4
  · have hi' : i = hs.length := by omega
    subst hi'
    rw [List.take_length] at m2
    change Mem18 own A A2 (topOf own hs) at m2
    have hb2 := m2.e.keeps hb
    simp -implicitDefEqProofs [go_sem, get_alloc_eq, get_alloc_ne, get_set_eq, get_set_ne, get_del_ne, F18c37, F18r10, F18c36, F18r11, F18c34, F18c33]
    rw [if_pos (by omega), rowOf_zero]
    generalize htop : topOf own hs = top at m2
    have hrl : (rolesOf own hs).length = hs.length := rolesGo_len _ _ _ _
    have m3 : Mem18 own A (A2.alloc (AObj.cells false (ints (List.replicate hs.length 0)))) top := m2.ext (Ext.alloc _ _)
    have r3 : (A2.alloc (AObj.cells false (ints (List.replicate hs.length 0)))).get A2.next = some (.cells false (ints (soFar (rolesOf own hs) 0))) := by
      simp -implicitDefEqProofs (disch := first | omega | (simp only [nx_alloc, nx_set, nx_del, nx_reserve]; done) | (simp only [nx_alloc, nx_set, nx_del, nx_reserve]; omega)) only [get_alloc_eq, get_alloc_ne, get_set_eq, get_set_ne, get_del_ne, AHeap.get_reserve, nx_alloc, nx_set, nx_del, nx_reserve, soFar, hrl, List.take_zero, List.nil_append, Nat.sub_zero]
    have n3 : A2.next < (A2.alloc (AObj.cells false (ints (List.replicate hs.length 0)))).next := by rw [nx_alloc]; omega
    have hn2 := m2.n
    simp only []
    generalize A2.alloc (AObj.cells false (ints (List.replicate hs.length 0))) = A3 at m3 r3 n3
    generalize A2.next = r at r3 n3 hn2
    refine wpC_count hs.length 0 (fun i E A' => E = [(2, .pointer (some ⟨A.next, 0, none⟩)), (4, .pointer (some ⟨A.next + 1, 0, none⟩)), (6, .pointer (some ⟨A.next + 2, 0, none⟩)), (10, .slice (some ⟨r, 0, none⟩) hs.length 1), (59, .slice (some ⟨b, 0, none⟩) hs.length 10), (60, .int .i64 hs.length), (61, .int .i64 i)] ∧ Mem18 own A A' top ∧ r < A'.next ∧ A'.get r = some (.cells false (ints (soFar (rolesOf own hs) i)))) (by omega) ⟨rfl, m3, n3, r3⟩ ?_
    rintro i E A4 hi' ⟨rfl, m4, n4, r4⟩
    simp -implicitDefEqProofs [go_sem, get_alloc_eq, get_alloc_ne, get_set_eq, get_set_ne, get_del_ne, F18c32, F18c31, F18r12]
    split
    · rename_i h1
      have hx : hs[i]? = some hs[i] := by simp [h1]
      generalize hs[i] = x at hx
      have hb4 := m4.e.keeps hb
      have hld : List.take 10 (List.drop (i * 10) (hes hs)) = x.cells := flat_take He.len hx
      have hbd : i * 10 + 10 ≤ (hes hs).length := flat_bound He.len hx
      have hxc := x.cells_eq
      have htc := top.cells_eq
      have p1 := m4.k1
      have p3 := m4.k3
      have b4 := m4.n
      have hrole : (rolesOf own hs)[i]? = some (roleOf own top i x) := by rw [rolesOf, htop, rolesGo_get _ _ _ _ _ _ hx]; simp
      simp -implicitDefEqProofs [go_sem, get_alloc_eq, get_alloc_ne, get_set_eq, get_set_ne, get_del_ne, F18c30, F18c28, F18r13, h1, hb4, hld, hbd, hxc]
      rw [← hxc]
      generalize hA5 : AHeap.set _ A4.next _ = A5
      have e5 : Ext A4 A5 := by rw [← hA5]; exact ((Ext.refl A4).alloc' _).set' (by omega) _
      have k5 : A5.get A4.next = some (.cells false x.cells) := by rw [← hA5]; simp -implicitDefEqProofs (disch := first | omega | (simp only [nx_alloc, nx_set, nx_del, nx_reserve]; done) | (simp only [nx_alloc, nx_set, nx_del, nx_reserve]; omega)) only [get_alloc_eq, get_alloc_ne, get_set_eq, get_set_ne, get_del_ne, AHeap.get_reserve, nx_alloc, nx_set, nx_del, nx_reserve, ]
      have n5 : A5.next = A4.next + 1 := by rw [← hA5, nx_set, nx_alloc]
      clear hA5
      have m5 := m4.ext e5
      have p1 := m5.k1
      have p3 := m5.k3
      have r5 := e5.keeps r4
      have hts : StepsOk top := by rw [← htop]; exact topGo_ok own 0 hs _ ⟨by simp [top0], by simp [top0]⟩ hst
      simp -implicitDefEqProofs [go_sem, get_alloc_eq, get_alloc_ne, get_set_eq, get_set_ne, get_del_ne, F18c27, F18r14, p1, p3, htc, Pr.cells]
      rw [wrap_i64 (by have := hts.1; have := hts.2; omega)]
      generalize hA6 : AHeap.set _ A5.next _ = A6
      have e6 : Ext A5 A6 := by rw [← hA6]; exact ((Ext.refl A5).alloc' _).set' (by omega) _
      have k6 : A6.get A5.next = some (.cells false (Ve.cells ⟨top.root, top.steps + 1, own.id, i, 0⟩)) := by rw [← hA6]; simp -implicitDefEqProofs (disch := first | omega | (simp only [nx_alloc, nx_set, nx_del, nx_reserve]; done) | (simp only [nx_alloc, nx_set, nx_del, nx_reserve]; omega)) only [get_alloc_eq, get_alloc_ne, get_set_eq, get_set_ne, get_del_ne, AHeap.get_reserve, nx_alloc, nx_set, nx_del, nx_reserve, Ve.cells_eq]
      have n6 : A6.next = A5.next + 1 := by rw [← hA6, nx_set, nx_alloc]
      clear hA6
      have m6 := m5.ext e6
      have p3 := m6.k3
      have kk6 := k6
      rw [Ve.cells_eq] at kk6
      simp -implicitDefEqProofs [go_sem, get_alloc_eq, get_alloc_ne, get_set_eq, get_set_ne, get_del_ne, F18c26, F18r15, p3, htc]
      have r6 := e6.keeps r5
      have x6 := e6.keeps k5
      have l5 := A5.lt k5
      have l5r := A5.lt r5
      refine wpC_cut (fun E' A7 => E' = [(2, .pointer (some ⟨A.next, 0, none⟩)), (4, .pointer (some ⟨A.next + 1, 0, none⟩)), (6, .pointer (some ⟨A.next + 2, 0, none⟩)), (10, .slice (some ⟨r, 0, none⟩) hs.length 1), (11, .int .i64 i), (12, .pointer (some ⟨A4.next, 0, none⟩)), (13, .pointer (some ⟨A5.next, 0, none⟩)), (59, .slice (some ⟨b, 0, none⟩) hs.length 10), (60, .int .i64 hs.length), (61, .int .i64 i)] ∧
        Mem18 own A A7 top ∧ A6.next ≤ A7.next ∧ A7.get r = some (.cells false (ints (soFar (rolesOf own hs) i))) ∧ A7.get A4.next = some (.cells false x.cells) ∧ A7.get A5.next = some (.cells false (mineOf own top i).cells)) ?_ ?_
      · simp -implicitDefEqProofs [go_sem, get_alloc_eq, get_alloc_ne, get_set_eq, get_set_ne, get_del_ne, F18c13]
        split
        · rename_i ht
          simp -implicitDefEqProofs [go_sem, get_alloc_eq, get_alloc_ne, get_set_eq, get_set_ne, get_del_ne, F18c12, F18r16, kk6]
          refine ⟨?_, ?_, ?_, ?_⟩
          · refine ⟨m6.e.set' (by omega) _, by rw [nx_set]; exact m6.n, ?_, ?_, ?_⟩
            · have := m6.k1; simp -implicitDefEqProofs (disch := first | omega | (simp only [nx_alloc, nx_set, nx_del, nx_reserve]; done) | (simp only [nx_alloc, nx_set, nx_del, nx_reserve]; omega)) only [get_alloc_eq, get_alloc_ne, get_set_eq, get_set_ne, get_del_ne, AHeap.get_reserve, nx_alloc, nx_set, nx_del, nx_reserve, this]
            · have := m6.k2; simp -implicitDefEqProofs (disch := first | omega | (simp only [nx_alloc, nx_set, nx_del, nx_reserve]; done) | (simp only [nx_alloc, nx_set, nx_del, nx_reserve]; omega)) only [get_alloc_eq, get_alloc_ne, get_set_eq, get_set_ne, get_del_ne, AHeap.get_reserve, nx_alloc, nx_set, nx_del, nx_reserve, this]
            · have := m6.k3; simp -implicitDefEqProofs (disch := first | omega | (simp only [nx_alloc, nx_set, nx_del, nx_reserve]; done) | (simp only [nx_alloc, nx_set, nx_del, nx_reserve]; omega)) only [get_alloc_eq, get_alloc_ne, get_set_eq, get_set_ne, get_del_ne, AHeap.get_reserve, nx_alloc, nx_set, nx_del, nx_reserve, this]
          · simp -implicitDefEqProofs (disch := first | omega | (simp only [nx_alloc, nx_set, nx_del, nx_reserve]; done) | (simp only [nx_alloc, nx_set, nx_del, nx_reserve]; omega)) only [get_alloc_eq, get_alloc_ne, get_set_eq, get_set_ne, get_del_ne, AHeap.get_reserve, nx_alloc, nx_set, nx_del, nx_reserve, r6]
          · simp -implicitDefEqProofs (disch := first | omega | (simp only [nx_alloc, nx_set, nx_del, nx_reserve]; done) | (simp only [nx_alloc, nx_set, nx_del, nx_reserve]; omega)) only [get_alloc_eq, get_alloc_ne, get_set_eq, get_set_ne, get_del_ne, AHeap.get_reserve, nx_alloc, nx_set, nx_del, nx_reserve, x6]
          · simp -implicitDefEqProofs (disch := first | omega | (simp only [nx_alloc, nx_set, nx_del, nx_reserve]; done) | (simp only [nx_alloc, nx_set, nx_del, nx_reserve]; omega)) only [get_alloc_eq, get_alloc_ne, get_set_eq, get_set_ne, get_del_ne, AHeap.get_reserve, nx_alloc, nx_set, nx_del, nx_reserve, mineOf, Ve.cells_eq, ht, if_true]
        · rename_i ht
          refine ⟨m6, r6, x6, ?_⟩
          rw [k6, mineOf, if_neg (by omega)]
      rintro _ A7 ⟨rfl, m7, n7, r7, x7, y7⟩
      simp only [thenK]
      have p7 := m7.k3
      have l7 := A7.lt r7
      have l7x := A7.lt x7
      have l7y := A7.lt y7
      simp -implicitDefEqProofs [go_sem, get_alloc_eq, get_alloc_ne, get_set_eq, get_set_ne, get_del_ne, F18c25, F18r17, x7, hxc, F18c24, F18r18]
      have hvc := (x.vec.here 0).cells_eq
      simp only [Ve.here] at hvc
      rw [← hvc]
      generalize hA8 : AHeap.set _ A7.next (AObj.cells false _) = A8
      have e8 : Ext A7 A8 := by rw [← hA8]; exact (((Ext.refl A7).alloc' _).set' (by omega) _).set' (by omega) _
      have k8 : A8.get A7.next = some (.cells false (x.vec.here 0).cells) := by rw [← hA8]; simp -implicitDefEqProofs (disch := first | omega | (simp only [nx_alloc, nx_set, nx_del, nx_reserve]; done) | (simp only [nx_alloc, nx_set, nx_del, nx_reserve]; omega)) only [get_alloc_eq, get_alloc_ne, get_set_eq, get_set_ne, get_del_ne, AHeap.get_reserve, nx_alloc, nx_set, nx_del, nx_reserve, Ve.here]
      clear hA8
      have m8 := m7.ext e8
      have r8 := e8.keeps r7
      have x8 := e8.keeps x7
      have y8 := e8.keeps y7
      have p8 := m8.k3
      have b8 := m8.n
      refine wpC_cut (fun E' A9 => E' = [(2, .pointer (some ⟨A.next, 0, none⟩)), (4, .pointer (some ⟨A.next + 1, 0, none⟩)), (6, .pointer (some ⟨A.next + 2, 0, none⟩)), (10, .slice (some ⟨r, 0, none⟩) hs.length 1), (59, .slice (some ⟨b, 0, none⟩) hs.length 10), (60, .int .i64 hs.length), (61, .int .i64 i)] ∧
        Mem18 own A A9 top ∧ r < A9.next ∧ A9.get r = some (.cells false (ints (soFar (rolesOf own hs) (i + 1))))) ?_ ?_
      · have l8 := A8.lt r8
        have sl := soFar_len (rolesOf own hs) (i := i) (by omega)
        have setR : ∀ (A9 : AHeap) (v : Int), Mem18 own A A9 top → r < A9.next → (rolesOf own hs)[i]? = some v → Mem18 own A (A9.set r (.cells false ((ints (soFar (rolesOf own hs) i)).set i (.int .i64 v)))) top ∧ r < A9.next ∧ (A9.set r (.cells false ((ints (soFar (rolesOf own hs) i)).set i (.int .i64 v)))).get r = some (.cells false (ints (soFar (rolesOf own hs) (i + 1)))) := by
          intro A9 v m9 n9 hv
          have q1 := m9.k1
          have q2 := m9.k2
          have q3 := m9.k3
          refine ⟨⟨m9.e.set' (by omega) _, by rw [nx_set]; exact m9.n, by simp -implicitDefEqProofs (disch := first | omega | (simp only [nx_alloc, nx_set, nx_del, nx_reserve]; done) | (simp only [nx_alloc, nx_set, nx_del, nx_reserve]; omega)) only [get_alloc_eq, get_alloc_ne, get_set_eq, get_set_ne, get_del_ne, AHeap.get_reserve, nx_alloc, nx_set, nx_del, nx_reserve, q1], by simp -implicitDefEqProofs (disch := first | omega | (simp only [nx_alloc, nx_set, nx_del, nx_reserve]; done) | (simp only [nx_alloc, nx_set, nx_del, nx_reserve]; omega)) only [get_alloc_eq, get_alloc_ne, get_set_eq, get_set_ne, get_del_ne, AHeap.get_reserve, nx_alloc, nx_set, nx_del, nx_reserve, q2], by simp -implicitDefEqProofs (disch := first | omega | (simp only [nx_alloc, nx_set, nx_del, nx_reserve]; done) | (simp only [nx_alloc, nx_set, nx_del, nx_reserve]; omega)) only [get_alloc_eq, get_alloc_ne, get_set_eq, get_set_ne, get_del_ne, AHeap.get_reserve, nx_alloc, nx_set, nx_del, nx_reserve, q3]⟩, n9, ?_⟩
          simp -implicitDefEqProofs (disch := first | omega | (simp only [nx_alloc, nx_set, nx_del, nx_reserve]; done) | (simp only [nx_alloc, nx_set, nx_del, nx_reserve]; omega)) only [get_alloc_eq, get_alloc_ne, get_set_eq, get_set_ne, get_del_ne, AHeap.get_reserve, nx_alloc, nx_set, nx_del, nx_reserve, ]
          rw [← soFar_step hv, ints, ints, List.map_set]
        simp -implicitDefEqProofs [go_sem, get_alloc_eq, get_alloc_ne, get_set_eq, get_set_ne, get_del_ne, F18c23, F18c22, F18r19, x8, hxc, F18c21]
        split
        · rename_i hup
          have p8' := top.cells_eq
          simp -implicitDefEqProofs [go_sem, get_alloc_eq, get_alloc_ne, get_set_eq, get_set_ne, get_del_ne, F18c20, F18r20, p8, p8', F18c19]
          split
          · rename_i hat
            simp -implicitDefEqProofs [go_sem, get_alloc_eq, get_alloc_ne, get_set_eq, get_set_ne, get_del_ne, F18c14, F18r21, r8, sl, hrl, h1, ints_len]
            exact ⟨by omega, setR A8 2 m8 (by omega) (by rw [hrole, roleOf]; simp [hup, hat])⟩
          · rename_i hat
            have hv0 := (x.vec.here 0).cells_eq
            have hm0 := (mineOf own top i).cells_eq
            have one : ∀ A9, Mem18 own A A9 top → r < A9.next → roleOf own top i x = 1 → Mem18 own A (A9.set r (.cells false ((ints (soFar (rolesOf own hs) i)).set i (.int .i64 1)))) top ∧ _ := fun A9 m9 n9 h1 => setR A9 1 m9 n9 (by rw [hrole, h1])
            simp -implicitDefEqProofs [go_sem, get_alloc_eq, get_alloc_ne, get_set_eq, get_set_ne, get_del_ne, F18c18, F18r22, p8, p8', x8, hxc, k8, hv0, y8, hm0]
            split
            · rename_i hat0
              split
              · rename_i hok
                refine c23 (x.vec.here 0) (mineOf own top i) fun A9 e9 => ?_
                have m9 := m8.ext e9
                have r9 := e9.keeps r8
                simp -implicitDefEqProofs [go_sem, get_alloc_eq, get_alloc_ne, get_set_eq, get_set_ne, get_del_ne, F18r22t1, F18c17, F18c16, F18r24, F18c15, F18r23, r9, sl, hrl, h1, ints_len]
                have l9 := e9.next
                split
                · rename_i hcmp
                  exact ⟨by omega, setR A9 3 m9 (by omega) (by rw [hrole, roleOf]; simp [hup, hat, hat0, hok, hcmp])⟩
                · rename_i hcmp
                  refine ⟨by omega, one A9 m9 (by omega) ?_⟩
                  rw [roleOf, if_neg (by simp [hup]), if_neg hat, if_neg (fun hh => hcmp hh.2.2)]
              · rename_i hok
                simp -implicitDefEqProofs [go_sem, get_alloc_eq, get_alloc_ne, get_set_eq, get_set_ne, get_del_ne, F18r22t1, F18c17, F18c16, F18r24, F18c15, F18r23, r8, sl, hrl, h1, ints_len]
                exact ⟨by omega, one A8 m8 (by omega) (by rw [roleOf]; simp [hup, hat, hok])⟩
            · rename_i hat0
              simp -implicitDefEqProofs [go_sem, get_alloc_eq, get_alloc_ne, get_set_eq, get_set_ne, get_del_ne, F18r22t1, F18c17, F18c16, F18r24, F18c15, F18r23, r8, sl, hrl, h1, ints_len]
              exact ⟨by omega, one A8 m8 (by omega) (by rw [roleOf]; simp [hup, hat, hat0])⟩
        · rename_i hup
          refine ⟨m8, by omega, ?_⟩
          rw [← soFar_zero (by rw [hrole, roleOf]; simp [hup])]
          exact r8
      · rintro _ A9 ⟨rfl, m9, n9, r9⟩
        simp -implicitDefEqProofs [go_sem, get_alloc_eq, get_alloc_ne, get_set_eq, get_set_ne, get_del_ne, F18c29, F18r25]
        exact ⟨by omega, wrap_i64 (by omega), m9, n9, r9⟩
    · have hi2 : i = hs.length := by omega
      subst hi2
      have p2 := m4.k2
      have p3 := m4.k3
      have htc := top.cells_eq
      rw [← hrl, soFar_all] at r4
      have b4 := m4.n
      simp -implicitDefEqProofs [go_sem, get_alloc_eq, get_alloc_ne, get_set_eq, get_set_ne, get_del_ne, F18c35, F18r26, p3, htc, p2, z8]
      rw [get_set_eq rfl (by omega)]
      simp -implicitDefEqProofs [go_sem, get_alloc_eq, get_alloc_ne, get_set_eq, get_set_ne, get_del_ne, ]
      have := h r (A4.set (A.next + 1) (.cells false top.cells)) (m4.e.set' (by omega) _) (by omega) (by rw [get_set_ne (by omega)]; exact r4)
      rw [htop] at this
      simpa [Ve.v, htc] using this
end Go.Proofs.Ytckdmhjhjfmcdaa.Sx
