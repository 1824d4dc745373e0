/-
  Contracts: a new tree.
-/
import Derived.Test.YtckdmhjhjfmcdaaTh
namespace Go.Proofs.Ytckdmhjhjfmcdaa.Sx
set_option linter.unusedSimpArgs false
set_option linter.unusedVariables false
open Go
set_option maxRecDepth 40000
attribute [local go_sem] hide1 Un_succ z_skip z_exit z_ret z_row z_seq z_cond z_block z_inBlock_exit z_end_ret z_end_normal z_light z_alloc z_heavy z_guard z_dnil z_dlight z_dalloc z_dguard z_dheavy z_dheavyg z_store z_call z_callv z_append z_apd_nil z_apd_some z_copy z_pick z_load z_nilchk z_bin z_un z_min2 z_mkfunc z_conv z_fieldAddr z_field z_idxArr z_idxSl z_indexA z_extract z_lenS z_build z_box z_mkslice z_makeslice z_cnd_true z_cnd_false z_gd_bool z_gd_tup wpR_nil re_nil z_re z_reg cpy_nil cpy_some l_mov a_alloc a_mkmap ev_tmp ev_int ev_bool ev_nilp ev_nils ev_nilm ev_nilf ev_str ev_func kc_some kc_none keep_kc keep_nil keep_empty thenK_normal thenK_ret thenK_exit keepK_normal keepK_ret keepK_exit inBlockK_normal inBlockK_ret Env.get Env.put enterE evalL evalParts fillL putCells cellsOf partV loadV bnd dbin dint dun dcmp deq sameL same0 noTup closedV closedS retV resL sliceCells rc_nil rc_cons rc_consg rck_load ldV_some ldO_cells evalG plus_next plus_get_new plus_get_new0 plus_get_old plus_alloc plus_set_new plus_set_new0 plus_set_old plus_del_new plus_del_new0 plus_del_old plus_reserve0 plus_reserve1 plus_reserve2 plus_reserve3 plus_reserve4 plus_reserve5 plus_reserve6 plus_plus nx_set nx_del set_set obl_some obl_none obP_some obP_none obS_some obI_int obB_bool obA_agg obT_tup obF_func obC_cells obM_map obL_slice Nat.add_assoc
def ownOk (o : Pr) : Prop := (0 ≤ o.one ∧ o.one ≤ 255) ∧ (0 ≤ o.cls ∧ o.cls ≤ 255) ∧ (0 ≤ o.two ∧ o.two ≤ 255) ∧ 0 ≤ o.id ∧ o.id ≤ 281474976710655
/-- What a new tree of so many ports lays down, from a place on. -/
def newRows (p : Nat) (own : Pr) (n : Nat) (most : Int) : List (Option AObj) :=
  [some (.cells false own.cells), some (.cells false (rowOf [.bool false] n)),
    some (.cells false (rowOf [.bool false, .bool false, .int .i64 0, .int .i64 0, .int .i64 0, .int .i64 0, .int .i64 0, .int .i64 0, .int .i64 0, .int .i64 0] n)),
    some (.cells false (rowOf [.slice none 0 0] n)), some (.cells false (rowOf [.int .i64 0] n)),
    some (.cells false [.int .i64 0, .int .i64 own.one, .int .i64 own.cls, .int .i64 own.two, .int .i64 own.id, .int .i64 most, .slice (some ⟨p + 1, 0, none⟩) n 1, .slice (some ⟨p + 2, 0, none⟩) n 10, .slice (some ⟨p + 3, 0, none⟩) n 1, .slice (some ⟨p + 4, 0, none⟩) n 1])]
set_option maxHeartbeats 1000000 in
theorem c5 {own : Pr} (ho : ownOk own) {n : Nat} (hn : n ≤ 8) {most : Int} (hm : 1 ≤ most ∧ most ≤ 1000000) {A : AHeap} {K : Value → AHeap → Prop}
    (h : K (.tuple #[.pointer (some ⟨A.next + 5, 0, none⟩), .int .i64 0]) (A.plus A.next (newRows A.next own n most))) :
    dcall Go.Proofs.Try.prog 5 [.int .i64 0, own.v, .int .i64 n, .int .i64 most] A K := by
  refine F5_call (by simp) (start ?_)
  have k1 : ¬ ((n : Int) < 0) := by omega
  have k2 : ¬ (8 < (n : Int)) := by omega
  have k3 : ¬ (most < 1) := by omega
  have k4 : ¬ (1099511627776 < most) := by omega
  simp -implicitDefEqProofs -dsimp [go_sem, get_set_eq, get_set_ne, get_del_ne, Pr.v, k1, k2, k3, k4]
  refine c13 ⟨0, 0, 0, 0, 0, 0, 0, 0, 0, own, 0⟩ (path := []) (by simp) (.inl ⟨rfl, rfl⟩) fun e he => ?_
  have hok : (Ms.mk 0 0 0 0 0 0 0 0 0 own 0).ok [] = true := by
    obtain ⟨a, b, c, d⟩ := ho
    simp only [Ms.ok, inB, ids, Bool.and_eq_true, decide_eq_true_eq, List.all_nil, and_true, List.length_nil]
    repeat' apply And.intro
    all_goals first | trivial | omega | (refine decide_eq_true ?_; omega)
  have e0 := he.2 hok
  subst e0
  simp -implicitDefEqProofs -dsimp [go_sem, get_set_eq, get_set_ne, get_del_ne, ]
  repeat' apply And.intro
  iterate 8 first | omega | skip
  exact h
/-- A port of a new tree. -/
def port0 : Port := ⟨false, false, zv, [], 0⟩
def Tr.new (own : Pr) : Tr := ⟨own, List.replicate 8 port0⟩
theorem newTr (A : AHeap) (own : Pr) : TrAt (A.plus A.next (newRows A.next own 8 5)) ⟨A.next + 5, A.next + 1, A.next + 2, A.next + 3, A.next + 4⟩ (Tr.new own) where
  st := by rw [plus_get_new]; rfl
  up := by rw [plus_get_new]; rfl
  he := by rw [plus_get_new]; rfl
  pa := ⟨List.replicate 8 (.slice none 0 0), by rw [plus_get_new]; rfl, All2.of_get (by simp [Tr.new]) fun k x y hx hy => by
    rcases Nat.lt_or_ge k 8 with hk | hk
    · simp only [Tr.new, List.getElem?_replicate, if_pos hk, Option.some.injEq] at hx hy
      subst hx; subst hy
      exact .inl ⟨rfl, rfl⟩
    · simp only [List.getElem?_replicate, if_neg (Nat.not_lt.2 hk)] at hx
      cases hx⟩
  wh := by rw [plus_get_new]; rfl
  len := by simp [Tr.new]
  nd := by simp [TH.rows]
end Go.Proofs.Ytckdmhjhjfmcdaa.Sx
