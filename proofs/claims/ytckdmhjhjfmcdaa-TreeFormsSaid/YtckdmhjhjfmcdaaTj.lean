/-
  Contracts: what a tree tells.
-/
import Derived.Test.YtckdmhjhjfmcdaaTi
namespace Go.Proofs.Ytckdmhjhjfmcdaa.Sx
set_option linter.unusedSimpArgs false
set_option linter.unusedVariables false
open Go
set_option maxRecDepth 40000
attribute [local go_sem] hide1 Un_succ z_skip z_exit z_ret z_row z_seq z_cond z_block z_inBlock_exit z_end_ret z_end_normal z_light z_alloc z_heavy z_guard z_dnil z_dlight z_dalloc z_dguard z_dheavy z_dheavyg z_store z_call z_callv z_append z_apd_nil z_apd_some z_copy z_pick z_load z_nilchk z_bin z_un z_min2 z_mkfunc z_conv z_fieldAddr z_field z_idxArr z_idxSl z_indexA z_extract z_lenS z_build z_box z_mkslice z_makeslice z_cnd_true z_cnd_false z_gd_bool z_gd_tup wpR_nil re_nil z_re z_reg cpy_nil cpy_some l_mov a_alloc a_mkmap ev_tmp ev_int ev_bool ev_nilp ev_nils ev_nilm ev_nilf ev_str ev_func kc_some kc_none keep_kc keep_nil keep_empty thenK_normal thenK_ret thenK_exit keepK_normal keepK_ret keepK_exit inBlockK_normal inBlockK_ret Env.get Env.put enterE evalL evalParts fillL putCells cellsOf partV loadV bnd dbin dint dun dcmp deq sameL same0 noTup closedV closedS retV resL sliceCells rc_nil rc_cons rc_consg rck_load ldV_some ldO_cells evalG plus_next plus_get_new plus_get_new0 plus_get_old plus_alloc plus_set_new plus_set_new0 plus_set_old plus_del_new plus_del_new0 plus_del_old plus_reserve0 plus_reserve1 plus_reserve2 plus_reserve3 plus_reserve4 plus_reserve5 plus_reserve6 plus_plus nx_set nx_del set_set obl_some obl_none obP_some obP_none obS_some obI_int obB_bool obA_agg obT_tup obF_func obC_cells obM_map obL_slice Nat.add_assoc
theorem ext_set_plus {A B : AHeap} (e : Ext A B) {p : Nat} (hp : A.next ≤ p) (o : AObj) (L : List (Option AObj)) : Ext A ((B.set p o).plus B.next L) := by
  have := (e.set' hp o).trans (ext_plus (B.set p o) L)
  rwa [nx_set] at this
def zm : Ms := ⟨0, 0, 0, 0, 0, 0, 0, 0, 0, ⟨0, 0, 0, 0⟩, 0⟩
set_option maxHeartbeats 2000000 in
theorem c9 {t : Tr} {H : TH} (hP : PortsOk t) {i : Nat} (hi : i < 8) {seq now : Int} (hn0 : 0 ≤ now) (hn1 : now ≤ 1000000) {A : AHeap} (hT : TrAt A H t) {K : Value → AHeap → Prop}
    (h0 : ∀ kind m q l c A', Ext A A' → t.out i seq now = none → K (.tuple #[msV kind m (.slice q l c), .bool false]) (A'.plus A'.next []))
    (h1 : ∀ g pv A', t.out i seq now = some g → Ext A A' → IntsAt A' pv g.path → K (.tuple #[msV 11 g.m pv, .bool true]) (A'.plus A'.next [])) :
    dcall Go.Proofs.Try.prog 9 [.pointer (some ⟨H.p, 0, none⟩), .int .i64 i, .int .i64 seq, .int .i64 now] A K := by
  refine F9_call (by simp) (start ?_)
  simp only [plus_nil] at h0 h1
  have hst : StepsOk (t.top now) := topGo_ok t.own 0 (t.hes now) _ ⟨by simp, by simp⟩ (hes_ok hP now)
  have hcase : ((t.top now).at' = -1 ∧ t.pathOf now = [t.own.id]) ∨ ∃ p x, p < 8 ∧ t.ps[p]? = some x ∧ (t.top now).at' = (p : Nat) ∧ t.pathOf now = x.path ++ [t.own.id] := by
    rcases top_spec t.own (t.hes now) with ⟨h, _⟩ | ⟨p, h, hh⟩
    · left
      change t.top now = _ at h
      refine ⟨by rw [h]; rfl, ?_⟩
      rw [Tr.pathOf, if_neg (by rw [h]; simp [top0])]
    · right
      obtain ⟨x, hx, rfl⟩ := t.hes_inv now hh.at'
      have e : (t.top now).at' = (p : Int) := by rw [show t.top now = _ from hh.eq]; rfl
      refine ⟨p, x, by have := getElem?_lt hx; rw [hT.len] at this; exact this, hx, e, ?_⟩
      rw [Tr.pathOf, if_pos (by omega), e]
      simp [hx]
  have s1 := hT.st
  have l1 := A.lt s1
  have hi' : (i : Int) < 8 := by omega
  have hi2 : ¬ (8 ≤ (i : Int)) := by omega
  simp -implicitDefEqProofs -dsimp [go_sem, get_set_eq, get_set_ne, get_del_ne, s1, l1, hi, hi', hi2]
  refine c11 hP hn0 hn1 (hT.ext (ext_plus _ _)) fun c A1 e1 n1 k1 => ?_
  have e0 := (ext_plus A _).trans e1
  have q0 := e1.keeps (x := A.next) (by rw [plus_get_new0]; rfl)
  have lr : (t.roles now).length = 8 := by rw [t.roles_len, hT.len]
  have q1 := (hT.ext e0).st
  have r1 := A1.lt q1
  have r0 := A1.lt q0
  have rk := A1.lt k1
  obtain ⟨r, hr⟩ : ∃ r, (t.roles now)[i]? = some r := ⟨(t.roles now)[i]'(by omega), by simp [hi, lr]⟩
  have hre : (t.roles now)[i]'(by omega) = r := by
    rw [List.getElem?_eq_getElem (by omega)] at hr; exact Option.some.inj hr
  simp -implicitDefEqProofs -dsimp [go_sem, get_set_eq, get_set_ne, get_del_ne, Ve.v, q0, q1, r0, r1, k1, rk, hi, hi', ints_get, hre, lr]
  refine cnd_mk' (fun k2 => ?_) (fun k2 => ?_)
  · simp -implicitDefEqProofs -dsimp [go_sem, get_set_eq, get_set_ne, get_del_ne, q0, r0]
    exact h0 0 zm none 0 0 _ (ext_set_plus e0 (Nat.le_refl _) _ _) (by rw [Tr.out, if_neg (by rw [hr]; simp [k2])])
  · have k2 : r = 1 := Classical.byContradiction k2
    subst k2
    simp -implicitDefEqProofs -dsimp [go_sem, get_set_eq, get_set_ne, get_del_ne, q0, r0, q1, r1]
    rcases hcase with ⟨hat, hpath⟩ | ⟨p, x, hp8, hx, hat, hpath⟩
    · simp -implicitDefEqProofs -dsimp [go_sem, get_set_eq, get_set_ne, get_del_ne, hat]
      have hm : t.ms i seq now = ⟨0, seq, t.own.id, i, 0, 0, 0, 0, 0, (t.top now).root, 0⟩ := by rw [Tr.ms, if_neg (by omega)]
      refine c13 ⟨0, seq, t.own.id, i, 0, 0, 0, 0, 0, (t.top now).root, 0⟩ (path := [t.own.id]) (by simp) (.inr ⟨A1.next + 1, false, rfl, by rw [plus_get_new]; rfl⟩) fun e he => ?_
      rw [← hm] at he
      by_cases hok : (t.ms i seq now).ok [t.own.id] = true
      · have e0' := he.2 hok
        subst e0'
        have ho : t.out i seq now = some ⟨t.ms i seq now, t.pathOf now⟩ := by rw [Tr.out, if_pos ⟨hr, by rw [hpath]; exact hok⟩]
        rw [hm, hpath] at ho
        simp -implicitDefEqProofs -dsimp [go_sem, get_set_eq, get_set_ne, get_del_ne, q0, r0]
        refine h1 _ (.slice (some ⟨A1.next + 1, 0, none⟩) 1 1) _ ho (ext_set_plus e0 (Nat.le_refl _) _ _) (.inr ⟨A1.next + 1, false, rfl, by rw [plus_get_new]; rfl⟩)
      · have e0' : e ≠ 0 := fun h => hok (he.1 h)
        have ho : t.out i seq now = none := by rw [Tr.out, if_neg (by rw [hpath]; exact fun h => hok h.2)]
        have hb : (e == 0) = false := by simp [e0']
        simp -implicitDefEqProofs -dsimp [go_sem, get_set_eq, get_set_ne, get_del_ne, q0, r0, hb]
        exact h0 11 ⟨0, seq, t.own.id, i, 0, 0, 0, 0, 0, (t.top now).root, 0⟩ _ _ _ _ (ext_set_plus e0 (Nat.le_refl _) _ _) ho
    · have hm : t.ms i seq now = ⟨0, seq, t.own.id, i, 0, 0, 0, 0, 0, (t.top now).root, (t.top now).steps + 1⟩ := by rw [Tr.ms, if_pos (by omega)]
      obtain ⟨vs, hvs, hpa⟩ := (hT.ext e0).pa
      have lvs : vs.length = 8 := by rw [hpa.length, hT.len]
      have r4 := A1.lt hvs
      obtain ⟨v, hv, hvp⟩ := hpa.get' hx
      have hp8' : (p : Int) < 8 := by omega
      have hve : vs[p]'(by omega) = v := by
        rw [List.getElem?_eq_getElem (by omega)] at hv; exact Option.some.inj hv
      have hw : IntKind.i64.wrap ((t.top now).steps + 1) = (t.top now).steps + 1 := wrap_i64 (by have := hst.1; have := hst.2; omega)
      simp -implicitDefEqProofs -dsimp [go_sem, get_set_eq, get_set_ne, get_del_ne, hat, q0, q1, hvs, r0, r1, r4, hp8, hp8', lvs, hve, hw]
      have hvA : IntsAt A1 v x.path := hvp.at
      have hpl := (hP x (List.mem_of_getElem? hx)).2.2.2
      refine c15x (by omega) (hvA.ext (ext_plus _ _)) (fun hvn hxn => ?_) (fun hxn => ?_) ?_
      · simp -implicitDefEqProofs -dsimp [go_sem, get_set_eq, get_set_ne, get_del_ne, q0, q1, r0, r1]
        have hia : ∀ (B : AHeap) (L : List (Option AObj)), L[4]? = some (some (.cells false (ints [t.own.id]))) → IntsAt (B.plus A1.next L) (.slice (some ⟨A1.next + 4, 0, none⟩) 1 1) [t.own.id] := fun B L hL => .inr ⟨A1.next + 4, false, rfl, by rw [plus_get_new, hL]; rfl⟩
        have hpo : t.pathOf now = [t.own.id] := by rw [hpath, hxn]; rfl
        refine c13 ⟨0, seq, t.own.id, i, 0, 0, 0, 0, 0, (t.top now).root, (t.top now).steps + 1⟩ (path := [t.own.id]) (by simp) (hia _ _ (by simp [ints])) fun e he => ?_
        rw [← hm, ← hpo] at he
        by_cases hok : (t.ms i seq now).ok (t.pathOf now) = true
        · have e0' := he.2 hok
          subst e0'
          have ho : t.out i seq now = some ⟨t.ms i seq now, t.pathOf now⟩ := by rw [Tr.out, if_pos ⟨hr, hok⟩]
          rw [hm, hpo] at ho
          simp -implicitDefEqProofs -dsimp [go_sem, get_set_eq, get_set_ne, get_del_ne, q0, r0]
          exact h1 _ (.slice (some ⟨A1.next + 4, 0, none⟩) 1 1) _ ho (ext_set_plus e0 (Nat.le_refl _) _ _) (hia _ _ (by simp [ints]))
        · have ho : t.out i seq now = none := by rw [Tr.out, if_neg (fun h => hok h.2)]
          have hb : (e == 0) = false := by
            have : e ≠ 0 := fun h => hok (he.1 h)
            simp [this]
          simp -implicitDefEqProofs -dsimp [go_sem, get_set_eq, get_set_ne, get_del_ne, q0, r0, hb]
          exact h0 11 ⟨0, seq, t.own.id, i, 0, 0, 0, 0, 0, (t.top now).root, (t.top now).steps + 1⟩ _ _ _ _ (ext_set_plus e0 (Nat.le_refl _) _ _) ho
      · simp -implicitDefEqProofs -dsimp [go_sem, get_set_eq, get_set_ne, get_del_ne, q0, q1, r0, r1]
        have hia : ∀ (B : AHeap) (L : List (Option AObj)), L[5]? = some (some (.cells false (ints [t.own.id]))) → IntsAt (B.plus A1.next L) (.slice (some ⟨A1.next + 5, 0, none⟩) 1 1) [t.own.id] := fun B L hL => .inr ⟨A1.next + 5, false, rfl, by rw [plus_get_new, hL]; rfl⟩
        have hpo : t.pathOf now = [t.own.id] := by rw [hpath, hxn]; rfl
        refine c13 ⟨0, seq, t.own.id, i, 0, 0, 0, 0, 0, (t.top now).root, (t.top now).steps + 1⟩ (path := [t.own.id]) (by simp) (hia _ _ (by simp [ints])) fun e he => ?_
        rw [← hm, ← hpo] at he
        by_cases hok : (t.ms i seq now).ok (t.pathOf now) = true
        · have e0' := he.2 hok
          subst e0'
          have ho : t.out i seq now = some ⟨t.ms i seq now, t.pathOf now⟩ := by rw [Tr.out, if_pos ⟨hr, hok⟩]
          rw [hm, hpo] at ho
          simp -implicitDefEqProofs -dsimp [go_sem, get_set_eq, get_set_ne, get_del_ne, q0, r0]
          exact h1 _ (.slice (some ⟨A1.next + 5, 0, none⟩) 1 1) _ ho (ext_set_plus e0 (Nat.le_refl _) _ _) (hia _ _ (by simp [ints]))
        · have ho : t.out i seq now = none := by rw [Tr.out, if_neg (fun h => hok h.2)]
          have hb : (e == 0) = false := by
            have : e ≠ 0 := fun h => hok (he.1 h)
            simp [this]
          simp -implicitDefEqProofs -dsimp [go_sem, get_set_eq, get_set_ne, get_del_ne, q0, r0, hb]
          exact h0 11 ⟨0, seq, t.own.id, i, 0, 0, 0, 0, 0, (t.top now).root, (t.top now).steps + 1⟩ _ _ _ _ (ext_set_plus e0 (Nat.le_refl _) _ _) ho
      · simp -implicitDefEqProofs -dsimp [go_sem, get_set_eq, get_set_ne, get_del_ne, q0, q1, r0, r1]
        refine ⟨⟨by rw [ints_len], by omega⟩, ?_⟩
        have hia : ∀ (B : AHeap) (L : List (Option AObj)), L[6]? = some (some (.cells false (ints (x.path ++ [t.own.id])))) → IntsAt (B.plus A1.next L) (.slice (some ⟨A1.next + 6, 0, none⟩) (x.path.length + 1) 1) (x.path ++ [t.own.id]) := fun B L hL => .inr ⟨A1.next + 6, false, by simp, by rw [plus_get_new, hL]; rfl⟩
        have hpo : t.pathOf now = (x.path ++ [t.own.id]) := hpath
        refine c13 ⟨0, seq, t.own.id, i, 0, 0, 0, 0, 0, (t.top now).root, (t.top now).steps + 1⟩ (path := (x.path ++ [t.own.id])) (by simp; omega) (hia _ _ (by simp [ints])) fun e he => ?_
        rw [← hm, ← hpo] at he
        by_cases hok : (t.ms i seq now).ok (t.pathOf now) = true
        · have e0' := he.2 hok
          subst e0'
          have ho : t.out i seq now = some ⟨t.ms i seq now, t.pathOf now⟩ := by rw [Tr.out, if_pos ⟨hr, hok⟩]
          rw [hm, hpo] at ho
          simp -implicitDefEqProofs -dsimp [go_sem, get_set_eq, get_set_ne, get_del_ne, q0, r0]
          exact h1 _ (.slice (some ⟨A1.next + 6, 0, none⟩) (x.path.length + 1) 1) _ ho (ext_set_plus e0 (Nat.le_refl _) _ _) (hia _ _ (by simp [ints]))
        · have ho : t.out i seq now = none := by rw [Tr.out, if_neg (fun h => hok h.2)]
          have hb : (e == 0) = false := by
            have : e ≠ 0 := fun h => hok (he.1 h)
            simp [this]
          simp -implicitDefEqProofs -dsimp [go_sem, get_set_eq, get_set_ne, get_del_ne, q0, r0, hb]
          exact h0 11 ⟨0, seq, t.own.id, i, 0, 0, 0, 0, 0, (t.top now).root, (t.top now).steps + 1⟩ _ _ _ _ (ext_set_plus e0 (Nat.le_refl _) _ _) ho
end Go.Proofs.Ytckdmhjhjfmcdaa.Sx
