/-
  TreeForms, fourth stage: the rounds.
-/
import Derived.Test.YtckdmhjhjfmcdaaTw
namespace Go.Proofs.Ytckdmhjhjfmcdaa.Sx
set_option linter.unusedSimpArgs false
set_option linter.unusedVariables false
open Go
set_option maxRecDepth 40000
attribute [local go_sem] hide1 Un_succ z_skip z_exit z_ret z_row z_seq z_cond z_block z_inBlock_exit z_end_ret z_end_normal z_light z_alloc z_heavy z_guard z_dnil z_dlight z_dalloc z_dguard z_dheavy z_dheavyg z_store z_call z_callv z_append z_apd_nil z_apd_some z_copy z_pick z_load z_nilchk z_bin z_un z_min2 z_mkfunc z_conv z_fieldAddr z_field z_idxArr z_idxSl z_indexA z_extract z_lenS z_build z_box z_mkslice z_makeslice z_cnd_true z_cnd_false z_gd_bool z_gd_tup wpR_nil re_nil z_re z_reg cpy_nil cpy_some l_mov a_alloc a_mkmap ev_tmp ev_int ev_bool ev_nilp ev_nils ev_nilm ev_nilf ev_str ev_func kc_some kc_none keep_kc keep_nil keep_empty thenK_normal thenK_ret thenK_exit keepK_normal keepK_ret keepK_exit inBlockK_normal inBlockK_ret Env.get Env.put enterE evalL evalParts fillL putCells cellsOf partV loadV bnd dbin dint dun dcmp deq sameL same0 noTup closedV closedS retV resL sliceCells rc_nil rc_cons rc_consg rck_load ldV_some ldO_cells evalG plus_next plus_get_new plus_get_new0 plus_get_old plus_alloc plus_set_new plus_set_new0 plus_set_old plus_del_new plus_del_new0 plus_del_old plus_reserve0 plus_reserve1 plus_reserve2 plus_reserve3 plus_reserve4 plus_reserve5 plus_reserve6 plus_plus nx_set nx_del set_set obl_some obl_none obP_some obP_none obS_some obI_int obB_bool obA_agg obT_tup obF_func obC_cells obM_map obL_slice Nat.add_assoc
theorem ok8 : okFn Go.Proofs.Try.prog 8 = true := by kernel_rfl
theorem L3.still {ps : List Pr} {n : Nat} {A0 A : AHeap} {Hs : List TH} {R : Rw} {ws : List Wire} {ts : List Tr} (L : L3 ps n A0 Hs A R ws ts) : Still A Hs ws R.pw R.pt R.hw R.ht :=
  ⟨L.gpw, by rw [L.len]; exact L.gpt, L.ghw, L.ght, L.rows _ (by simp [Rw.list]), L.rows _ (by simp [Rw.list]), L.rows _ (by simp [Rw.list]), L.rows _ (by simp [Rw.list])⟩
def clos (R : Rw) : Value := .func (.func 8) #[] #[.pointer (some ⟨R.pw, 0, none⟩), .pointer (some ⟨R.pt, 0, none⟩)]
def env4 (R : Rw) (n : Nat) (t : Nat) : Env := [(0, .slice (some ⟨R.hp, 0, none⟩) n 4), (7, .int .i64 n), (8, .pointer (some ⟨R.pt, 0, none⟩)), (14, .pointer (some ⟨R.pw, 0, none⟩)), (20, clos R), (21, .int .i64 ((t : Int) + 1))]
set_option maxHeartbeats 2000000 in
theorem loop4 {ps : List Pr} {n : Nat} (hn1 : 1 ≤ n) (hn7 : n ≤ 7) {A0 A : AHeap} {Hs : List TH} {R : Rw} {ws : List Wire} (hws : ws.length ≤ 12) {ts : List Tr} (N : Net n (priOf ps) ws) (hI : Inv n (priOf ps) ws ts 0) (hL : L3 ps n A0 Hs A R ws ts) {h : Dep (DCode.loop F3c49)} {K : Exit → Env → AHeap → Prop}
    (hK : ∀ A' ts' b, Run n (priOf ps) ws ts' (8 * (n + 2)) → L3 ps n A0 Hs A' R ws ts' → K (.exit 6) (env4 R n (8 * (n + 2)) ++ [(228, .bool b)]) (A'.plus A'.next [])) :
    Cw Go.Proofs.Try.prog (.loop F3c49) h (env4 R n 0) (A.plus A.next []) K := by
  refine Cw_count (8 * (n + 2)) 0 (fun t E A' => E = env4 R n t ∧ ∃ B ts', A' = B.plus B.next [] ∧ Run n (priOf ps) ws ts' t ∧ L3 ps n A0 Hs B R ws ts') (by omega) ⟨rfl, A, ts, rfl, ⟨by simpa using hI, fun g _ => by simpa using Pk.zero⟩, hL⟩ ?_
  rintro t E A1 ht ⟨rfl, B, ts', rfl, hR, L⟩
  have w1 : IntKind.i64.wrap ((n : Int) + 2) = (n : Int) + 2 := wrap_i64 (by omega)
  have w2 : IntKind.i64.wrap (8 * ((n : Int) + 2)) = 8 * ((n : Int) + 2) := wrap_i64 (by omega)
  simp -implicitDefEqProofs -dsimp [go_sem, get_set_eq, get_set_ne, get_del_ne, env4, w1, w2]
  refine cnd_mk' (fun k1 => ?_) (fun k1 => ?_)
  · have k1' : t < 8 * (n + 2) := by omega
    simp -implicitDefEqProofs -dsimp [go_sem, get_set_eq, get_set_ne, get_del_ne, k1, clos, ok8]
    obtain ⟨I1, _, _⟩ := hR.step N (s := t + 1) (by omega) (by omega)
    refine c8 N (ts := ts') (now := (t : Int) + 1) (by omega) (by omega) (by simpa using I1) (L.tr.ext (ext_plus _ _)) ((L.later (ext_plus _ _)).still) hws fun A3 m3 T3 => ?_
    rw [plus_nil] at m3
    simp -implicitDefEqProofs -dsimp [go_sem, get_set_eq, get_set_ne, get_del_ne, ]
    have hR3 := hR.next N
    have e : (((t + 1 : Nat) : Int)) = (t : Int) + 1 := rfl
    rw [e] at hR3
    have L3' := L.mod m3 T3
    refine ⟨by omega, by rw [wrap_i64 (by omega)]; rfl, ?_⟩
    first | exact ⟨A3, _, rfl, hR3, L3'⟩ | exact ⟨A3, rfl, _, hR3, L3'⟩
  · have k1' : t = 8 * (n + 2) := by omega
    subst k1'
    simp -implicitDefEqProofs -dsimp [go_sem, get_set_eq, get_set_ne, get_del_ne, k1]
    exact hK B ts' _ hR L
end Go.Proofs.Ytckdmhjhjfmcdaa.Sx
