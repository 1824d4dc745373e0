/-
  Contracts: the best clock; links that come and go.
-/
import Derived.Test.YtckdmhjhjfmcdaaTg
namespace Go.Proofs.Ytckdmhjhjfmcdaa.Sx
set_option linter.unusedSimpArgs false
set_option linter.unusedVariables false
open Go
set_option maxRecDepth 40000
attribute [local go_sem] hide1 Un_succ z_skip z_exit z_ret z_row z_seq z_cond z_block z_inBlock_exit z_end_ret z_end_normal z_light z_alloc z_heavy z_guard z_dnil z_dlight z_dalloc z_dguard z_dheavy z_dheavyg z_store z_call z_callv z_append z_apd_nil z_apd_some z_copy z_pick z_load z_nilchk z_bin z_un z_min2 z_mkfunc z_conv z_fieldAddr z_field z_idxArr z_idxSl z_indexA z_extract z_lenS z_build z_box z_mkslice z_makeslice z_cnd_true z_cnd_false z_gd_bool z_gd_tup wpR_nil re_nil z_re z_reg cpy_nil cpy_some l_mov a_alloc a_mkmap ev_tmp ev_int ev_bool ev_nilp ev_nils ev_nilm ev_nilf ev_str ev_func kc_some kc_none keep_kc keep_nil keep_empty thenK_normal thenK_ret thenK_exit keepK_normal keepK_ret keepK_exit inBlockK_normal inBlockK_ret Env.get Env.put enterE evalL evalParts fillL putCells cellsOf partV loadV bnd dbin dint dun dcmp deq sameL same0 noTup closedV closedS retV resL sliceCells rc_nil rc_cons rc_consg rck_load ldV_some ldO_cells evalG plus_next plus_get_new plus_get_new0 plus_get_old plus_alloc plus_set_new plus_set_new0 plus_set_old plus_del_new plus_del_new0 plus_del_old plus_reserve0 plus_reserve1 plus_reserve2 plus_reserve3 plus_reserve4 plus_reserve5 plus_reserve6 plus_plus nx_set nx_del set_set obl_some obl_none obP_some obP_none obS_some obI_int obB_bool obA_agg obT_tup obF_func obC_cells obM_map obL_slice Nat.add_assoc
theorem c18r (own : Pr) {hs : List He} {b n : Nat} {ro : Bool} (hn : hs.length = n) (hl : n ≤ 1000) (hst : ∀ h ∈ hs, StepsOk h.vec) {A : AHeap} (hb : A.get b = some (.cells ro (hes hs))) {K : Value → AHeap → Prop}
    (h : ∀ c A', Ext A A' → A.next ≤ c → A'.get c = some (.cells false (ints (rolesOf own hs))) → K (.tuple #[(topOf own hs).v, .slice (some ⟨c, 0, none⟩) n 1]) (A'.plus A'.next [])) :
    dcall Go.Proofs.Try.prog 18 [own.v, .slice (some ⟨b, 0, none⟩) n 10] A K := by
  subst hn
  refine c18 own hl hst hb fun c A' e1 e2 e3 => ?_
  have := h c A' e1 e2 e3
  rwa [plus_nil] at this
theorem hes_ok {t : Tr} (hP : PortsOk t) (now : Int) : ∀ h ∈ t.hes now, StepsOk h.vec := by
  intro h hh
  obtain ⟨x, hx, rfl⟩ := List.mem_map.1 hh
  exact (hP x hx).2.2.1
theorem Tr.hes_len {t : Tr} (h : t.ps.length = 8) (now : Int) : (t.hes now).length = 8 := by simp [Tr.hes, h]
theorem c11 {t : Tr} {H : TH} (hP : PortsOk t) {now : Int} (hn0 : 0 ≤ now) (hn1 : now ≤ 1000000) {A : AHeap} (hT : TrAt A H t) {K : Value → AHeap → Prop}
    (h : ∀ c A', Ext A A' → A.next ≤ c → A'.get c = some (.cells false (ints (t.roles now))) → K (.tuple #[(t.top now).v, .slice (some ⟨c, 0, none⟩) 8 1]) (A'.plus A'.next [])) :
    dcall Go.Proofs.Try.prog 11 [.pointer (some ⟨H.p, 0, none⟩), .int .i64 now] A K := by
  refine F11_call (by simp) (start ?_)
  have h1 := hT.st
  have l1 := A.lt h1
  simp -implicitDefEqProofs -dsimp [go_sem, get_set_eq, get_set_ne, get_del_ne, h1, l1]
  refine c19 hP hn0 hn1 (hT.ext (ext_plus _ _)) fun c A1 e1 n1 k1 => ?_
  have e0 := (ext_plus A _).trans e1
  have g1 := (hT.ext e0).st
  have m1 := A1.lt g1
  have p1 := e1.keeps (x := A.next) (by rw [plus_get_new0]; rfl)
  have p2 := A1.lt p1
  have hlen := Tr.hes_len hT.len now
  simp -implicitDefEqProofs -dsimp [go_sem, get_set_eq, get_set_ne, get_del_ne, g1, m1, p1, p2]
  refine c18r t.own hlen (by omega) (hes_ok hP now) (by rw [plus_nil]; exact k1) fun c2 A2 e2 n2 k2 => ?_
  rw [plus_nil] at e2 n2
  have q1 := e2.keeps p1
  have q2 := A2.lt q1
  change A2.get c2 = some (.cells false (ints (t.roles now))) at k2
  have hv : (topOf t.own (t.hes now)).v = (t.top now).v := rfl
  rw [hv]
  generalize t.top now = tp at h
  have hne : c2 ≠ A.next := by omega
  simp -implicitDefEqProofs -dsimp [go_sem, get_set_eq, get_set_ne, get_del_ne, Ve.v, q1, q2]
  refine h c2 (A2.set A.next (.cells false tp.cells)) ((e0.trans e2).set' (Nat.le_refl _) _) (by have := e1.next; rw [plus_next] at this; simp at this; omega) (by rw [get_set_ne hne]; exact k2)
theorem c12 {t : Tr} {H : TH} (hP : PortsOk t) {now : Int} (hn0 : 0 ≤ now) (hn1 : now ≤ 1000000) {A : AHeap} (hT : TrAt A H t) {K : Value → AHeap → Prop}
    (h : K (.bool (decide ((t.top now).at' < 0))) A) :
    dcall Go.Proofs.Try.prog 12 [.pointer (some ⟨H.p, 0, none⟩), .int .i64 now] A K := by
  refine dcall_pure (F12_call (by simp) (start ?_))
  simp -implicitDefEqProofs -dsimp [go_sem, get_set_eq, get_set_ne, get_del_ne, ]
  refine c11 hP hn0 hn1 (hT.ext (ext_plus _ _)) fun c A1 e1 n1 k1 => ?_
  have e0 := (ext_plus A _).trans e1
  generalize t.top now = tp at h
  simp -implicitDefEqProofs -dsimp [go_sem, get_set_eq, get_set_ne, get_del_ne, Ve.v]
  exact ⟨e0.trans (ext_plus _ _), trivial, h⟩

theorem All2.set' {α β : Type} {R : α → β → Prop} : ∀ {xs : List α} {ys : List β}, All2 R xs ys → ∀ {i : Nat} {x : α} {y : β}, R x y → All2 R (xs.set i x) (ys.set i y)
  | _, _, .nil, _, _, _, _ => .nil
  | _, _, .cons h hs, 0, _, _, hr => .cons hr hs
  | _, _, .cons h hs, i + 1, _, _, hr => .cons h (hs.set' hr)
def zv : Ve := ⟨⟨0, 0, 0, 0⟩, 0, 0, 0, 0⟩
def Tr.put (t : Tr) (i : Nat) (x : Port) : Tr := { t with ps := t.ps.set i x }
/-- A tree of which one port has been written anew. -/
theorem TrAt.put {A B : AHeap} {H : TH} {t : Tr} (hT : TrAt A H t) {S : List Nat} (hM : Mod S A B) {i : Nat} {y : Port} {v : Value}
    (b0 : B.get H.p = A.get H.p) (b1 : B.get H.u = some (.cells false ((t.ps.map fun x => Value.bool x.up).set i (.bool y.up))))
    (b2 : B.get H.h = some (.cells false (hes (t.hes0.set i ⟨false, y.ok, y.vec⟩)))) (b3 : ∀ vs, A.get H.pa = some (.cells false vs) → B.get H.pa = some (.cells false (vs.set i v))) (b4 : IntsRo B v y.path)
    (b5 : B.get H.w = some (.cells false ((ints (t.ps.map Port.when)).set i (.int .i64 y.when)))) : TrAt B H (t.put i y) where
  st := by rw [b0]; exact hT.st
  up := by rw [b1, Tr.put, List.map_set]
  he := by rw [b2, Tr.put, Tr.hes0, Tr.hes0, List.map_set]
  pa := by
    obtain ⟨vs, h1, h2⟩ := hT.pa
    exact ⟨_, b3 vs h1, (h2.mono fun _ _ h => h.mod hM).set' b4⟩
  wh := by rw [b5, Tr.put, ints, ints, List.map_set, List.map_set]
  len := by rw [Tr.put, List.length_set]; exact hT.len
  nd := hT.nd
theorem TH.ne {H : TH} (h : H.rows.Nodup) : H.p ≠ H.u ∧ H.p ≠ H.h ∧ H.p ≠ H.pa ∧ H.p ≠ H.w ∧ H.u ≠ H.h ∧ H.u ≠ H.pa ∧ H.u ≠ H.w ∧ H.h ≠ H.pa ∧ H.h ≠ H.w ∧ H.pa ≠ H.w := by
  simp [TH.rows] at h
  refine ⟨?_, ?_, ?_, ?_, ?_, ?_, ?_, ?_, ?_, ?_⟩ <;> (intro e; simp_all)
set_option maxHeartbeats 1000000 in
theorem c6 {t : Tr} {H : TH} {i : Nat} (hi : i < 8) {x : Port} (hx : t.ps[i]? = some x) (hu : x.up = false) {A : AHeap} (hT : TrAt A H t) {K : Value → AHeap → Prop}
    (h : ∀ A', Mod H.rows A A' → A'.next = A.next → TrAt A' H (t.put i ⟨true, false, zv, [], x.when⟩) → K (.tuple #[]) (A'.plus A'.next [])) :
    dcall Go.Proofs.Try.prog 6 [.pointer (some ⟨H.p, 0, none⟩), .int .i64 i, .bool true] A K := by
  refine F6_call (by simp) (start ?_)
  obtain ⟨vs, hvs, hpa⟩ := hT.pa
  have lvs : vs.length = 8 := by rw [hpa.length, hT.len]
  have h1 := hT.st
  have h2 := hT.up
  have h3 := hT.he
  have h5 := hT.wh
  have l1 := A.lt h1
  have l2 := A.lt h2
  have l3 := A.lt h3
  have l4 := A.lt hvs
  have l5 := A.lt h5
  obtain ⟨n1, n2, n3, n4, n5, n6, n7, n8, n9, n10⟩ := TH.ne hT.nd
  have x0 : t.hes0[i]? = some ⟨false, x.ok, x.vec⟩ := by simp [Tr.hes0, hx]
  have lm : (hes t.hes0).length = 80 := by rw [hes_len]; simp [Tr.hes0, hT.len]
  have lt8 : t.ps.length = 8 := hT.len
  have hi' : (i : Int) < 8 := by omega
  have hxe : t.ps[i]'(by omega) = x := by
    rw [List.getElem?_eq_getElem (by omega)] at hx; exact Option.some.inj hx
  have bd : i * 10 ≤ 70 := by omega
  have fp := hes_put x0 ⟨false, false, zv⟩
  simp only [He.cells, Ve.cells, zv, putCells, Nat.add_assoc, Nat.reduceAdd] at fp
  simp -implicitDefEqProofs -dsimp [go_sem, get_set_eq, get_set_ne, get_del_ne, h1, h2, h3, hvs, h5, l1, l2, l3, l4, l5, n1, n2, n3, n4, n5, n6, n7, n8, n9, n10, hi, hi', hxe, hu, lvs, lm, bd, lt8, fp, n1.symm, n2.symm, n3.symm, n4.symm, n5.symm, n6.symm, n7.symm, n8.symm, n9.symm, n10.symm]
  refine ⟨by omega, ?_⟩
  generalize hB : AHeap.set _ H.pa _ = B
  have hn : B.next = A.next := by rw [← hB, nx_set, nx_set, nx_set]
  rw [← hn]
  have m1 : Mod H.rows A B := by
    rw [← hB]
    exact (((Mod.refl _ A).set (by simp [TH.rows]) h2).set (cs := _) (by simp [TH.rows]) (by rw [get_set_ne n5.symm]; exact h3)).set (by simp [TH.rows]) (by rw [get_set_ne n8.symm, get_set_ne n6.symm]; exact hvs)
  refine h B m1 hn (hT.put m1 (v := .slice none 0 0) ?_ ?_ ?_ ?_ ?_ ?_)
  · rw [← hB, get_set_ne n3, get_set_ne n2, get_set_ne n1]
  · rw [← hB, get_set_ne n6, get_set_ne n5, get_set_eq rfl l2]
  · rw [← hB, get_set_ne n8, get_set_eq rfl (by rw [nx_set]; exact l3)]; rfl
  · intro vs' hvs'
    rw [hvs] at hvs'; cases hvs'
    rw [← hB, get_set_eq rfl (by rw [nx_set, nx_set]; exact l4)]
  · exact .inl ⟨rfl, rfl⟩
  · rw [← hB, get_set_ne n10.symm, get_set_ne n9.symm, get_set_ne n7.symm, h5, ints, ← List.map_set]
    rw [set_self (by simp [hx])]
end Go.Proofs.Ytckdmhjhjfmcdaa.Sx
