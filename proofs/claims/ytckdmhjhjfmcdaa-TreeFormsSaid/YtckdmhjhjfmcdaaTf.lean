/-
  Contracts: an announcement's check.
-/
import Derived.Test.YtckdmhjhjfmcdaaTk
import Derived.Test.YtckdmhjhjfmcdaaTz
namespace Go.Proofs.Ytckdmhjhjfmcdaa.Sx
set_option linter.unusedSimpArgs false
set_option linter.unusedVariables false
open Go
set_option maxRecDepth 40000
attribute [local go_sem] hide1 Un_succ z_skip z_exit z_ret z_row z_seq z_cond z_block z_inBlock_exit z_end_ret z_end_normal z_light z_alloc z_heavy z_guard z_dnil z_dlight z_dalloc z_dguard z_dheavy z_dheavyg z_store z_call z_callv z_append z_apd_nil z_apd_some z_copy z_pick z_load z_nilchk z_bin z_un z_min2 z_mkfunc z_conv z_fieldAddr z_field z_idxArr z_idxSl z_indexA z_extract z_lenS z_build z_box z_mkslice z_makeslice z_cnd_true z_cnd_false z_gd_bool z_gd_tup wpR_nil re_nil z_re z_reg cpy_nil cpy_some l_mov a_alloc a_mkmap ev_tmp ev_int ev_bool ev_nilp ev_nils ev_nilm ev_nilf ev_str ev_func kc_some kc_none keep_kc keep_nil keep_empty thenK_normal thenK_ret thenK_exit keepK_normal keepK_ret keepK_exit inBlockK_normal inBlockK_ret Env.get Env.put enterE evalL evalParts fillL putCells cellsOf partV loadV bnd dbin dint dun dcmp deq sameL same0 noTup closedV closedS retV resL sliceCells rc_nil rc_cons rc_consg rck_load ldV_some ldO_cells evalG plus_next plus_get_new plus_get_new0 plus_get_old plus_alloc plus_set_new plus_set_new0 plus_set_old plus_del_new plus_del_new0 plus_del_old plus_reserve0 plus_reserve1 plus_reserve2 plus_reserve3 plus_reserve4 plus_reserve5 plus_reserve6 plus_plus nx_set nx_del set_set obl_some obl_none obP_some obP_none obS_some obI_int obB_bool obA_agg obT_tup obF_func obC_cells obM_map obL_slice Nat.add_assoc
def Ms.cells (m : Ms) (path : Value) : List Value := [.int .i64 11, .int .i64 m.domain, .int .i64 m.seq, .int .i64 m.src, .int .i64 m.port, .int .i64 m.corr, .int .i64 m.time, .int .i64 m.to, .int .i64 m.toPort, .int .i64 m.rate, .int .i64 m.best.one, .int .i64 m.best.cls, .int .i64 m.best.two, .int .i64 m.best.id, .int .i64 m.steps, path]
def Ms.v (m : Ms) (path : Value) : Value := .agg (m.cells path).toArray
theorem c20b (m : Int) (xs : List Int) {b n : Nat} {ro : Bool} (hl : xs.length ≤ 1000000) (hn : xs.length = n) {A : AHeap} (hb : A.get b = some (.cells ro (ints xs))) {K : Value → AHeap → Prop}
    (h0 : xs.all (inB m) = false → K (.bool false) A) (h1 : xs.all (inB m) = true → K (.bool true) A) : dcall Go.Proofs.Try.prog 20 [.int .i64 m, .slice (some ⟨b, 0, none⟩) n 1] A K := by
  subst hn
  refine c20 m hl (.inr ⟨b, ro, rfl, hb⟩) ?_
  have e : (xs.all fun x => decide (0 ≤ x ∧ x ≤ m)) = xs.all (inB m) := rfl
  rw [e]
  cases h : xs.all (inB m) with
  | true => exact h1 h
  | false => exact h0 h
set_option maxHeartbeats 2000000 in
theorem c13 (m : Ms) {path : List Int} {pv : Value} (hl : path.length ≤ 1000000) {A : AHeap} (hp : IntsAt A pv path) {K : Value → AHeap → Prop} (h : ∀ e : Int, (e = 0 ↔ m.ok path = true) → K (.int .i64 e) A) :
    dcall Go.Proofs.Try.prog 13 [m.v pv] A K := by
  refine dcall_pure (F13_call (by simp) (start ?_))
  have hpl : noTup pv = true := by rcases hp with ⟨rfl, _⟩ | ⟨b, ro, rfl, _⟩ <;> rfl
  have bad : ∀ (e : Int) (L : List (Option AObj)), e ≠ 0 → m.ok path = false → Ext A (A.plus A.next L) ∧ belowT A.next (.int .i64 e) ∧ K (.int .i64 e) A := fun e L he hb => ⟨ext_plus _ _, trivial, h e (by simp [hb, he])⟩
  simp -implicitDefEqProofs -dsimp [go_sem, get_set_eq, get_set_ne, get_del_ne, Ms.v, Ms.cells]
  refine c20b 127 [m.domain] (by simp) rfl (by simp -implicitDefEqProofs -dsimp [go_sem, get_set_eq, get_set_ne, get_del_ne, ints]; rfl) (fun h1 => ?_) (fun h1 => ?_)
  · simp -implicitDefEqProofs -dsimp [go_sem, get_set_eq, get_set_ne, get_del_ne, ]; exact bad _ _ (by decide) (by simp_all [Ms.ok])
  simp -implicitDefEqProofs -dsimp [go_sem, get_set_eq, get_set_ne, get_del_ne, ]
  refine c20b 65535 [m.seq, m.port, m.toPort] (by simp) rfl (by simp -implicitDefEqProofs -dsimp [go_sem, get_set_eq, get_set_ne, get_del_ne, ints]; rfl) (fun h2 => ?_) (fun h2 => ?_)
  · simp -implicitDefEqProofs -dsimp [go_sem, get_set_eq, get_set_ne, get_del_ne, ]; exact bad _ _ (by decide) (by simp_all [Ms.ok])
  simp -implicitDefEqProofs -dsimp [go_sem, get_set_eq, get_set_ne, get_del_ne, ]
  refine c20b 281474976710655 [m.src, m.to] (by simp) rfl (by simp -implicitDefEqProofs -dsimp [go_sem, get_set_eq, get_set_ne, get_del_ne, ints]; rfl) (fun h3 => ?_) (fun h3 => ?_)
  · simp -implicitDefEqProofs -dsimp [go_sem, get_set_eq, get_set_ne, get_del_ne, ]; exact bad _ _ (by decide) (by simp_all [Ms.ok, ids])
  simp -implicitDefEqProofs -dsimp [go_sem, get_set_eq, get_set_ne, get_del_ne, ]
  refine c20b 255 [m.best.one, m.best.cls, m.best.two, m.steps] (by simp) rfl (by simp -implicitDefEqProofs -dsimp [go_sem, get_set_eq, get_set_ne, get_del_ne, ints]; rfl) (fun h4 => ?_) (fun h4 => ?_)
  · simp -implicitDefEqProofs -dsimp [go_sem, get_set_eq, get_set_ne, get_del_ne, ]; exact bad _ _ (by decide) (by simp_all [Ms.ok])
  simp -implicitDefEqProofs -dsimp [go_sem, get_set_eq, get_set_ne, get_del_ne, ]
  refine c20b 281474976710655 [m.best.id] (by simp) rfl (by simp -implicitDefEqProofs -dsimp [go_sem, get_set_eq, get_set_ne, get_del_ne, ints]; rfl) (fun h5 => ?_) (fun h5 => ?_)
  · simp -implicitDefEqProofs -dsimp [go_sem, get_set_eq, get_set_ne, get_del_ne, ]; exact bad _ _ (by decide) (by simp_all [Ms.ok, ids])
  simp -implicitDefEqProofs -dsimp [go_sem, get_set_eq, get_set_ne, get_del_ne, ]
  refine cnd_mk' (fun k1 => ?_) (fun k1 => by simp -implicitDefEqProofs -dsimp [go_sem, get_set_eq, get_set_ne, get_del_ne, k1]; exact bad _ _ (by decide) (by simp_all [Ms.ok]))
  simp -implicitDefEqProofs -dsimp [go_sem, get_set_eq, get_set_ne, get_del_ne, k1]
  refine cnd_mk' (fun k2 => ?_) (fun k2 => by simp -implicitDefEqProofs -dsimp [go_sem, get_set_eq, get_set_ne, get_del_ne, k1, k2]; exact bad _ _ (by decide) (by simp_all [Ms.ok]))
  simp -implicitDefEqProofs -dsimp [go_sem, get_set_eq, get_set_ne, get_del_ne, k1, k2]
  refine cnd_mk' (fun k3 => ?_) (fun k3 => by simp -implicitDefEqProofs -dsimp [go_sem, get_set_eq, get_set_ne, get_del_ne, k1, k2, k3]; exact bad _ _ (by decide) (by simp_all [Ms.ok]))
  simp -implicitDefEqProofs -dsimp [go_sem, get_set_eq, get_set_ne, get_del_ne, k1, k2, k3]
  refine cnd_mk' (fun k4 => by simp -implicitDefEqProofs -dsimp [go_sem, get_set_eq, get_set_ne, get_del_ne, k1, k2, k3, k4]; exact bad _ _ (by decide) (by simp_all [Ms.ok])) (fun k4 => ?_)
  have k4 : m.rate = 0 := Classical.byContradiction k4
  have hlen : ∃ b s, pv = .slice b path.length s := by
    rcases hp with ⟨rfl, rfl⟩ | ⟨b, ro, rfl, _⟩
    · exact ⟨_, _, rfl⟩
    · exact ⟨_, _, rfl⟩
  obtain ⟨b, s, hpv⟩ := hlen
  simp -implicitDefEqProofs -dsimp [go_sem, get_set_eq, get_set_ne, get_del_ne, k1, k2, k3, k4, hpv]
  refine cnd_mk' (fun k5 => by simp -implicitDefEqProofs -dsimp [go_sem, get_set_eq, get_set_ne, get_del_ne, ]; exact bad _ _ (by decide) (by simp [Ms.ok, show ¬ path.length ≤ 32 by omega])) (fun k5 => ?_)
  simp -implicitDefEqProofs -dsimp [go_sem, get_set_eq, get_set_ne, get_del_ne, ]
  refine c20 _ (xs := path) hl (by rw [← hpv]; exact hp.ext (ext_plus _ _)) ?_
  have e : (path.all fun x => decide (0 ≤ x ∧ x ≤ 281474976710655)) = path.all (inB ids) := rfl
  rw [e]
  cases hall : path.all (inB ids) with
  | true => simp -implicitDefEqProofs -dsimp [go_sem, get_set_eq, get_set_ne, get_del_ne, ]; exact ⟨ext_plus _ _, trivial, h 0 (by simp_all [Ms.ok, ids]; omega)⟩
  | false => simp -implicitDefEqProofs -dsimp [go_sem, get_set_eq, get_set_ne, get_del_ne, ]; exact bad _ _ (by decide) (by simp [Ms.ok, hall])
end Go.Proofs.Ytckdmhjhjfmcdaa.Sx
