/-
  Contracts: the document's example.
-/
import Derived.Test.YtckdmhjhjfmcdaaTl
namespace Go.Proofs.Ytckdmhjhjfmcdaa.Sx
set_option linter.unusedSimpArgs false
set_option linter.unusedVariables false
open Go
set_option maxRecDepth 40000
attribute [local go_sem] hide1 Un_succ z_skip z_exit z_ret z_row z_seq z_cond z_block z_inBlock_exit z_end_ret z_end_normal z_light z_alloc z_heavy z_guard z_dnil z_dlight z_dalloc z_dguard z_dheavy z_dheavyg z_store z_call z_callv z_append z_apd_nil z_apd_some z_copy z_pick z_load z_nilchk z_bin z_un z_min2 z_mkfunc z_conv z_fieldAddr z_field z_idxArr z_idxSl z_indexA z_extract z_lenS z_build z_box z_mkslice z_makeslice z_cnd_true z_cnd_false z_gd_bool z_gd_tup wpR_nil re_nil z_re z_reg cpy_nil cpy_some l_mov a_alloc a_mkmap ev_tmp ev_int ev_bool ev_nilp ev_nils ev_nilm ev_nilf ev_str ev_func kc_some kc_none keep_kc keep_nil keep_empty thenK_normal thenK_ret thenK_exit keepK_normal keepK_ret keepK_exit inBlockK_normal inBlockK_ret Env.get Env.put enterE evalL evalParts fillL putCells cellsOf partV loadV bnd dbin dint dun dcmp deq sameL same0 noTup closedV closedS retV resL sliceCells rc_nil rc_cons rc_consg rck_load ldV_some ldO_cells evalG plus_next plus_get_new plus_get_new0 plus_get_old plus_alloc plus_set_new plus_set_new0 plus_set_old plus_del_new plus_del_new0 plus_del_old plus_reserve0 plus_reserve1 plus_reserve2 plus_reserve3 plus_reserve4 plus_reserve5 plus_reserve6 plus_plus nx_set nx_del set_set obl_some obl_none obP_some obP_none obS_some obI_int obB_bool obA_agg obT_tup obF_func obC_cells obM_map obL_slice Nat.add_assoc
theorem c10e (a b c d a' b' c' d' : Int) {A : AHeap} {K : Value → AHeap → Prop} (h : K (.int .i64 (Pr.cmp ⟨a, b, c, d⟩ ⟨a', b', c', d'⟩)) A) :
    dcall Go.Proofs.Try.prog 10 [.agg #[.int .i64 a, .int .i64 b, .int .i64 c, .int .i64 d], .agg #[.int .i64 a', .int .i64 b', .int .i64 c', .int .i64 d']] A K :=
  dcall_pure (c10 ⟨a, b, c, d⟩ ⟨a', b', c', d'⟩ fun _ e => ⟨e, trivial, h⟩)
theorem c23e (a b c d e f g i a' b' c' d' e' f' g' i' : Int) {A : AHeap} {K : Value → AHeap → Prop} (h : K (.int .i64 (Ve.cmp ⟨⟨a, b, c, d⟩, e, f, g, i⟩ ⟨⟨a', b', c', d'⟩, e', f', g', i'⟩)) A) :
    dcall Go.Proofs.Try.prog 23 [.agg #[.int .i64 a, .int .i64 b, .int .i64 c, .int .i64 d, .int .i64 e, .int .i64 f, .int .i64 g, .int .i64 i], .agg #[.int .i64 a', .int .i64 b', .int .i64 c', .int .i64 d', .int .i64 e', .int .i64 f', .int .i64 g', .int .i64 i']] A K :=
  dcall_pure (c23 ⟨⟨a, b, c, d⟩, e, f, g, i⟩ ⟨⟨a', b', c', d'⟩, e', f', g', i'⟩ fun _ e => ⟨e, trivial, h⟩)
set_option maxHeartbeats 40000000 in
theorem c4 {A : AHeap} {K : Value → AHeap → Prop} (h : K (.bool true) A) : dcall Go.Proofs.Try.prog 4 [] A K := by
  refine dcall_pure (F4_call (by simp) (start ?_))
  simp -implicitDefEqProofs -dsimp [go_sem, get_set_eq, get_set_ne, get_del_ne, ]
  refine c5 (own := ⟨1, 0, 0, 1⟩) (n := 1) (by simp [ownOk]) (by omega) (most := 100) (by omega) ?_
  simp -implicitDefEqProofs -dsimp [go_sem, get_set_eq, get_set_ne, get_del_ne, newRows, rowOf, Pr.cells]
  refine c5 (own := ⟨2, 0, 0, 2⟩) (n := 1) (by simp [ownOk]) (by omega) (most := 100) (by omega) ?_
  simp -implicitDefEqProofs -dsimp [go_sem, get_set_eq, get_set_ne, get_del_ne, newRows, rowOf, Pr.cells]
  iterate 100 (first
    | (refine Cw_un 12 ?_; simp -implicitDefEqProofs -dsimp [go_sem, get_set_eq, get_set_ne, get_del_ne, IntKind.wrap, IntKind.bits, IntKind.signed, cmpI, Pr.cmp, Ve.cmp, orI, rowOf])
    | (refine c22 _ ?_; simp -implicitDefEqProofs -dsimp [go_sem, get_set_eq, get_set_ne, get_del_ne, IntKind.wrap, IntKind.bits, IntKind.signed, cmpI, Pr.cmp, Ve.cmp, orI, rowOf])
    | (refine c17 _ _ ?_; simp -implicitDefEqProofs -dsimp [go_sem, get_set_eq, get_set_ne, get_del_ne, IntKind.wrap, IntKind.bits, IntKind.signed, cmpI, Pr.cmp, Ve.cmp, orI, rowOf])
    | (refine c10e _ _ _ _ _ _ _ _ ?_; simp -implicitDefEqProofs -dsimp [go_sem, get_set_eq, get_set_ne, get_del_ne, IntKind.wrap, IntKind.bits, IntKind.signed, cmpI, Pr.cmp, Ve.cmp, orI, rowOf])
    | (refine c23e _ _ _ _ _ _ _ _ _ _ _ _ _ _ _ _ ?_; simp -implicitDefEqProofs -dsimp [go_sem, get_set_eq, get_set_ne, get_del_ne, IntKind.wrap, IntKind.bits, IntKind.signed, cmpI, Pr.cmp, Ve.cmp, orI, rowOf])
    | (refine F20_call (by simp) (enter ?_); simp -implicitDefEqProofs -dsimp [go_sem, get_set_eq, get_set_ne, get_del_ne, IntKind.wrap, IntKind.bits, IntKind.signed, cmpI, Pr.cmp, Ve.cmp, orI, rowOf])
    | (refine F14_call (by simp) (enter ?_); simp -implicitDefEqProofs -dsimp [go_sem, get_set_eq, get_set_ne, get_del_ne, IntKind.wrap, IntKind.bits, IntKind.signed, cmpI, Pr.cmp, Ve.cmp, orI, rowOf])
    | (refine F21_call (by simp) (enter ?_); simp -implicitDefEqProofs -dsimp [go_sem, get_set_eq, get_set_ne, get_del_ne, IntKind.wrap, IntKind.bits, IntKind.signed, cmpI, Pr.cmp, Ve.cmp, orI, rowOf])
    | (refine F15_call (by simp) (enter ?_); simp -implicitDefEqProofs -dsimp [go_sem, get_set_eq, get_set_ne, get_del_ne, IntKind.wrap, IntKind.bits, IntKind.signed, cmpI, Pr.cmp, Ve.cmp, orI, rowOf])
    | (refine F24_call (by simp) (enter ?_); simp -implicitDefEqProofs -dsimp [go_sem, get_set_eq, get_set_ne, get_del_ne, IntKind.wrap, IntKind.bits, IntKind.signed, cmpI, Pr.cmp, Ve.cmp, orI, rowOf])
    | (refine F18_call (by simp) (enter ?_); simp -implicitDefEqProofs -dsimp [go_sem, get_set_eq, get_set_ne, get_del_ne, IntKind.wrap, IntKind.bits, IntKind.signed, cmpI, Pr.cmp, Ve.cmp, orI, rowOf])
    | (refine F19_call (by simp) (enter ?_); simp -implicitDefEqProofs -dsimp [go_sem, get_set_eq, get_set_ne, get_del_ne, IntKind.wrap, IntKind.bits, IntKind.signed, cmpI, Pr.cmp, Ve.cmp, orI, rowOf])
    | (refine F13_call (by simp) (enter ?_); simp -implicitDefEqProofs -dsimp [go_sem, get_set_eq, get_set_ne, get_del_ne, IntKind.wrap, IntKind.bits, IntKind.signed, cmpI, Pr.cmp, Ve.cmp, orI, rowOf])
    | (refine F9_call (by simp) (enter ?_); simp -implicitDefEqProofs -dsimp [go_sem, get_set_eq, get_set_ne, get_del_ne, IntKind.wrap, IntKind.bits, IntKind.signed, cmpI, Pr.cmp, Ve.cmp, orI, rowOf])
    | (refine F11_call (by simp) (enter ?_); simp -implicitDefEqProofs -dsimp [go_sem, get_set_eq, get_set_ne, get_del_ne, IntKind.wrap, IntKind.bits, IntKind.signed, cmpI, Pr.cmp, Ve.cmp, orI, rowOf])
    | (refine F12_call (by simp) (enter ?_); simp -implicitDefEqProofs -dsimp [go_sem, get_set_eq, get_set_ne, get_del_ne, IntKind.wrap, IntKind.bits, IntKind.signed, cmpI, Pr.cmp, Ve.cmp, orI, rowOf])
    | (refine F7_call (by simp) (enter ?_); simp -implicitDefEqProofs -dsimp [go_sem, get_set_eq, get_set_ne, get_del_ne, IntKind.wrap, IntKind.bits, IntKind.signed, cmpI, Pr.cmp, Ve.cmp, orI, rowOf])
    | (refine F6_call (by simp) (enter ?_); simp -implicitDefEqProofs -dsimp [go_sem, get_set_eq, get_set_ne, get_del_ne, IntKind.wrap, IntKind.bits, IntKind.signed, cmpI, Pr.cmp, Ve.cmp, orI, rowOf])
    | skip)
  exact ⟨ext_plus _ _, trivial, h⟩
end Go.Proofs.Ytckdmhjhjfmcdaa.Sx
