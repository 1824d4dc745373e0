/-
  TreeForms, sixth stage: over each link one is the master; the roles stay.
-/
import Derived.Test.YtckdmhjhjfmcdaaGb
namespace Go.Proofs.Ytckdmhjhjfmcdaa.Sx
set_option linter.unusedSimpArgs false
set_option linter.unusedVariables false
open Go
set_option maxRecDepth 40000
attribute [local go_sem] hide1 Un_succ z_skip z_exit z_ret z_row z_seq z_cond z_block z_inBlock_exit z_end_ret z_end_normal z_light z_alloc z_heavy z_guard z_dnil z_dlight z_dalloc z_dguard z_dheavy z_dheavyg z_store z_call z_callv z_append z_apd_nil z_apd_some z_copy z_pick z_load z_nilchk z_bin z_un z_min2 z_mkfunc z_conv z_fieldAddr z_field z_idxArr z_idxSl z_indexA z_extract z_lenS z_build z_box z_mkslice z_makeslice z_cnd_true z_cnd_false z_gd_bool z_gd_tup wpR_nil re_nil z_re z_reg cpy_nil cpy_some l_mov a_alloc a_mkmap ev_tmp ev_int ev_bool ev_nilp ev_nils ev_nilm ev_nilf ev_str ev_func kc_some kc_none keep_kc keep_nil keep_empty thenK_normal thenK_ret thenK_exit keepK_normal keepK_ret keepK_exit inBlockK_normal inBlockK_ret Env.get Env.put enterE evalL evalParts fillL putCells cellsOf partV loadV bnd dbin dint dun dcmp deq sameL same0 noTup closedV closedS retV resL sliceCells rc_nil rc_cons rc_consg rck_load ldV_some ldO_cells evalG plus_next plus_get_new plus_get_new0 plus_get_old plus_alloc plus_set_new plus_set_new0 plus_set_old plus_del_new plus_del_new0 plus_del_old plus_reserve0 plus_reserve1 plus_reserve2 plus_reserve3 plus_reserve4 plus_reserve5 plus_reserve6 plus_plus nx_set nx_del set_set obl_some obl_none obP_some obP_none obS_some obI_int obB_bool obA_agg obT_tup obF_func obC_cells obM_map obL_slice Nat.add_assoc
theorem best_ex {n : Nat} {pri : Nat → Pr} {ws : List Wire} (N : Net n pri ws) {i : Nat} (hi : i < n) : ∃ m, Best pri ws m ∧ m < n ∧ Conn ws m i := by
  have key : ∀ j, j ≤ n → ∃ m, TopSo pri ws n i m j := by
    intro j
    induction j with
    | zero => exact fun _ => ⟨i, hi, .refl _, fun v hv => by omega⟩
    | succ j ih =>
      intro hj
      obtain ⟨m, hm⟩ := ih (by omega)
      by_cases h : Conn ws i j ∧ (pri j).cmp (pri m) < 0
      · exact ⟨j, hm.take (by omega) h.1 h.2⟩
      · exact ⟨m, hm.keep N h⟩
  obtain ⟨m, hm⟩ := key n (Nat.le_refl _)
  exact ⟨m, hm.best N hi⟩
theorem Rs.at' {base : Nat} {B : AHeap} {h : Nat} {rs : List (List Int)} (R : Rs base B h rs) : ∃ vs : List Value, B.get h = some (.cells false vs) ∧ vs.length = rs.length ∧ ∀ (j : Nat) r, rs[j]? = some r → ∃ c, (∀ h, vs[j]'h = .slice (some ⟨c, 0, none⟩) 8 1) ∧ j < vs.length ∧ B.get c = some (.cells false (ints r)) := by
  obtain ⟨cs, h1, h2, h3, h4⟩ := R.cs
  refine ⟨_, h2, by simp [h1], fun j r hr => ?_⟩
  have hj : j < cs.length := by rw [h1]; exact getElem?_lt hr
  exact ⟨cs[j], by simp, by simpa using hj, h4 j cs[j] r (by simp [hj]) hr⟩
theorem int_at {rs : List Int} {j : Nat} {x : Int} (h : rs[j]? = some x) (hj : j < (ints rs).length) : (ints rs)[j]'hj = .int .i64 x := by
  have := ints_get rs j
  rw [h, List.getElem?_eq_getElem hj] at this; exact Option.some.inj this
set_option maxHeartbeats 8000000 in
theorem loop6c {ps : List Pr} {n : Nat} (hn7 : n ≤ 7) {A0 A : AHeap} {Hs : List TH} {R : Rw} {ws : List Wire} (hws : ws.length ≤ 12) (N : Net n (priOf ps) ws) {ts : List Tr} (hts : ts.length = n) {hg : Nat} {gr : List Nat} {Ab : AHeap} (hLb : L5 ps n A0 Hs Ab R ws ts hg gr) (heA : Ext Ab A) {now tmin : Int}
    (S : Settled n (priOf ps) ws ts now tmin) {rv : Value} {k h' : Nat} (hR : Rs Ab.next A h' (ts.map (·.roles now))) {h : Dep (DCode.loop F3c125)} {K : Exit → Env → AHeap → Prop}
    (hK : ∀ A' b, Ext Ab A' → Rs Ab.next A' h' (ts.map (·.roles now)) → K (.exit 22) (env9 R n now hg rv k h' n [(384, .slice (some ⟨R.hw, 0, none⟩) ws.length 4), (385, .int .i64 ws.length), (386, .int .i64 ws.length), (387, .bool b)]) (A'.plus A'.next [])) :
    Cw Go.Proofs.Try.prog (.loop F3c125) h (env9 R n now hg rv k h' n [(384, .slice (some ⟨R.hw, 0, none⟩) ws.length 4), (385, .int .i64 ws.length), (386, .int .i64 0)]) (A.plus A.next []) K := by
  refine Cw_count ws.length 0 (fun j E A' => ∃ B, A' = B.plus B.next [] ∧ E = env9 R n now hg rv k h' n [(384, .slice (some ⟨R.hw, 0, none⟩) ws.length 4), (385, .int .i64 ws.length), (386, .int .i64 j)] ∧ Ext Ab B ∧ Rs Ab.next B h' (ts.map (·.roles now))) (by omega) ⟨A, rfl, rfl, heA, hR⟩ ?_
  rintro j E A1 hj ⟨B, rfl, rfl, eB, RR⟩
  have L := hLb.later eB
  simp -implicitDefEqProofs -dsimp [go_sem, get_set_eq, get_set_ne, get_del_ne, env9, env6]
  refine cnd_mk' (fun k1 => ?_) (fun k1 => ?_)
  · have k1' : (j : Int) < ws.length := by omega
    have k1 : j < ws.length := by omega
    obtain ⟨w, hw⟩ : ∃ w, ws[j]? = some w := ⟨ws[j], by simp [k1]⟩
    have hmem := List.mem_of_getElem? hw
    obtain ⟨b1, b2, b3, b4, b5⟩ := N.bound w hmem
    have g2 := L.l.ghw
    have r2 := B.lt g2
    have hld := wires_at hw
    have hlc := wiresC_len ws
    have bd : j * 4 + 4 ≤ ws.length * 4 := by omega
    obtain ⟨⟨a, pa⟩, ⟨b, pb⟩⟩ := w
    simp only at b1 b2 b3 b4 b5
    obtain ⟨ta, hta⟩ : ∃ x, ts[a]? = some x := ⟨ts[a]'(by rw [hts]; exact b1), by simp [show a < ts.length by rw [hts]; exact b1]⟩
    obtain ⟨tb, htb⟩ : ∃ x, ts[b]? = some x := ⟨ts[b]'(by rw [hts]; exact b3), by simp [show b < ts.length by rw [hts]; exact b3]⟩
    obtain ⟨m, hB, hm, hc⟩ := best_ex N b1
    obtain ⟨x, y, hx, hy, hxy, hx0, hy0⟩ := S.wire N hB hm hc (.inl hmem) hta htb
    obtain ⟨vs, v1, v2, v3⟩ := RR.at'
    rw [List.length_map, hts] at v2
    obtain ⟨ca, w1, w2, w3⟩ := v3 a (ta.roles now) (by rw [List.getElem?_map, hta]; rfl)
    obtain ⟨cb, w4, w5, w6⟩ := v3 b (tb.roles now) (by rw [List.getElem?_map, htb]; rfl)
    have la : (ints (ta.roles now)).length = 8 := by rw [ints_len, ta.roles_len, (S.inv.own a ta hta).2]
    have lb : (ints (tb.roles now)).length = 8 := by rw [ints_len, tb.roles_len, (S.inv.own b tb htb).2]
    have xa : ∀ h, (ints (ta.roles now))[pa]'h = .int .i64 x := int_at hx
    have yb : ∀ h, (ints (tb.roles now))[pb]'h = .int .i64 y := int_at hy
    have b1' : (a : Int) < n := by omega
    have b3' : (b : Int) < n := by omega
    have b2' : (pa : Int) < 8 := by omega
    have b4' : (pb : Int) < 8 := by omega
    have q1 := B.lt v1
    have q2 := B.lt w3
    have q3 := B.lt w6
    generalize ints (ta.roles now) = ia at w3 la xa
    generalize ints (tb.roles now) = ib at w6 lb yb
    have hcond : ¬ (x == 1) = (y == 1) := by
      intro e
      by_cases h1 : x = 1 <;> by_cases h2 : y = 1 <;> simp [h1, h2] at e hxy
    simp -implicitDefEqProofs -dsimp [go_sem, get_set_eq, get_set_ne, get_del_ne, g2, r2, hld, hlc, bd, k1, k1', wireC, b1, b2, b3, b4, b1', b2', b3', b4', v1, v2, w1, w3, w4, w6, la, lb, xa, yb, q1, q2, q3, hx0, hy0]
    refine cnd_mk' (fun k2 => ?_) (fun k2 => (k2 hcond).elim)
    have k2' : ((x == 1) == (y == 1)) = false := by simpa using k2
    simp -implicitDefEqProofs -dsimp [go_sem, get_set_eq, get_set_ne, get_del_ne, k2, k2', hx0, hy0]
    exact ⟨by omega, _, plus_nil2 _ _ _, by rw [wrap_i64 (by omega)]; rfl, eB.trans (ext_plus _ _), RR.later (ext_plus _ _)⟩
  · have k2 : j = ws.length := by omega
    subst k2
    simp -implicitDefEqProofs -dsimp [go_sem, get_set_eq, get_set_ne, get_del_ne, k1]
    exact hK B _ eB RR
/-! The roles of the turn ahead. -/
set_option maxHeartbeats 8000000 in
theorem loop6e {n : Nat} {A : AHeap} {R : Rw} {hg : Nat} {now : Int} {k h1 h2 base base' : Nat} {rs : List (List Int)} (hrs : rs.length = n) (h8 : ∀ r ∈ rs, r.length = 8) (hR1 : Rs base A h1 rs) (hR2 : Rs base' A h2 rs) {i : Nat} (hi : i < n) {rr : List Int} (hrr : rs[i]? = some rr) {h : Dep (DCode.loop F3c135)} {K : Exit → Env → AHeap → Prop}
    (hK : ∀ b, K (.exit 26) (env9 R n now hg (.slice (some ⟨h1, 0, none⟩) n 1) k h2 n [(44, .int .i64 i), (427, .int .i64 n), (428, .int .i64 i), (435, .int .i64 8), (436, .int .i64 8), (437, .bool b)]) (A.plus A.next [])) :
    Cw Go.Proofs.Try.prog (.loop F3c135) h (env9 R n now hg (.slice (some ⟨h1, 0, none⟩) n 1) k h2 n [(44, .int .i64 i), (427, .int .i64 n), (428, .int .i64 i), (435, .int .i64 8), (436, .int .i64 0)]) (A.plus A.next []) K := by
  refine Cw_count 8 0 (fun j E A' => A' = A.plus A.next [] ∧ E = env9 R n now hg (.slice (some ⟨h1, 0, none⟩) n 1) k h2 n [(44, .int .i64 i), (427, .int .i64 n), (428, .int .i64 i), (435, .int .i64 8), (436, .int .i64 j)]) (by omega) ⟨rfl, rfl⟩ ?_
  rintro j E A1 hj ⟨rfl, rfl⟩
  simp -implicitDefEqProofs -dsimp [go_sem, get_set_eq, get_set_ne, get_del_ne, env9, env6]
  refine cnd_mk' (fun k1 => ?_) (fun k1 => ?_)
  · have k1' : (j : Int) < 8 := by omega
    have k1 : j < 8 := by omega
    have lr := h8 rr (List.mem_of_getElem? hrr)
    obtain ⟨x, hx⟩ : ∃ x, rr[j]? = some x := ⟨rr[j]'(by omega), by simp [show j < rr.length by omega]⟩
    obtain ⟨vs, v1, v2, v3⟩ := hR1.at'
    obtain ⟨us, u1, u2, u3⟩ := hR2.at'
    rw [hrs] at v2 u2
    obtain ⟨ca, w1, w2, w3⟩ := v3 i rr hrr
    obtain ⟨cb, w4, w5, w6⟩ := u3 i rr hrr
    have la : (ints rr).length = 8 := by rw [ints_len, lr]
    have xa : ∀ h, (ints rr)[j]'h = .int .i64 x := int_at hx
    have hi' : (i : Int) < n := by omega
    have q0 := A.lt v1
    have q1 := A.lt u1
    have q2 := A.lt w3
    have q3 := A.lt w6
    simp -implicitDefEqProofs -dsimp [go_sem, get_set_eq, get_set_ne, get_del_ne, k1, k1', v1, v2, u1, u2, w1, w3, w4, w6, la, xa, q0, q1, q2, q3, hi, hi']
    exact ⟨by omega, by rw [wrap_i64 (by omega)]; rfl⟩
  · have k2 : j = 8 := by omega
    subst k2
    simp -implicitDefEqProofs -dsimp [go_sem, get_set_eq, get_set_ne, get_del_ne, ]
    exact hK _
set_option maxHeartbeats 8000000 in
theorem loop6d {n : Nat} (hn7 : n ≤ 7) {A : AHeap} {R : Rw} {hg : Nat} {now : Int} {k h1 h2 base base' : Nat} {rs : List (List Int)} (hrs : rs.length = n) (h8 : ∀ r ∈ rs, r.length = 8) (hR1 : Rs base A h1 rs) (hR2 : Rs base' A h2 rs) {h : Dep (DCode.loop F3c143)} {K : Exit → Env → AHeap → Prop}
    (hK : ∀ b, K (.exit 24) (env9 R n now hg (.slice (some ⟨h1, 0, none⟩) n 1) k h2 n [(427, .int .i64 n), (428, .int .i64 n), (429, .bool b)]) (A.plus A.next [])) :
    Cw Go.Proofs.Try.prog (.loop F3c143) h (env9 R n now hg (.slice (some ⟨h1, 0, none⟩) n 1) k h2 n [(427, .int .i64 n), (428, .int .i64 0)]) (A.plus A.next []) K := by
  refine Cw_count n 0 (fun i E A' => A' = A.plus A.next [] ∧ E = env9 R n now hg (.slice (some ⟨h1, 0, none⟩) n 1) k h2 n [(427, .int .i64 n), (428, .int .i64 i)]) (by omega) ⟨rfl, rfl⟩ ?_
  rintro i E A1 hj ⟨rfl, rfl⟩
  simp -implicitDefEqProofs -dsimp [go_sem, get_set_eq, get_set_ne, get_del_ne, env9, env6]
  refine cnd_mk' (fun k1 => ?_) (fun k1 => ?_)
  · have k1' : (i : Int) < n := by omega
    have k1 : i < n := by omega
    obtain ⟨rr, hrr⟩ : ∃ x, rs[i]? = some x := ⟨rs[i]'(by omega), by simp [show i < rs.length by omega]⟩
    obtain ⟨vs, v1, v2, v3⟩ := hR1.at'
    rw [hrs] at v2
    obtain ⟨ca, w1, w2, w3⟩ := v3 i rr hrr
    have q0 := A.lt v1
    simp -implicitDefEqProofs -dsimp [go_sem, get_set_eq, get_set_ne, get_del_ne, k1, k1', v1, v2, w1, q0]
    refine loop6e hrs h8 hR1 hR2 k1 hrr (fun b => ?_)
    simp -implicitDefEqProofs -dsimp [go_sem, get_set_eq, get_set_ne, get_del_ne, env9, env6]
    exact ⟨by omega, by rw [wrap_i64 (by omega)]⟩
  · have k2 : i = n := by omega
    subst k2
    simp -implicitDefEqProofs -dsimp [go_sem, get_set_eq, get_set_ne, get_del_ne, k1]
    exact hK _
/-- Nothing to compare with yet. -/
theorem loop6z {n : Nat} {A : AHeap} {R : Rw} {hg : Nat} {now : Int} {k h2 : Nat} {h : Dep (DCode.loop F3c143)} {K : Exit → Env → AHeap → Prop}
    (hK : ∀ b, K (.exit 24) (env9 R n now hg (.slice none 0 0) k h2 n [(427, .int .i64 0), (428, .int .i64 0), (429, .bool b)]) (A.plus A.next [])) :
    Cw Go.Proofs.Try.prog (.loop F3c143) h (env9 R n now hg (.slice none 0 0) k h2 n [(427, .int .i64 0), (428, .int .i64 0)]) (A.plus A.next []) K := by
  refine Cw_once ?_
  simp -implicitDefEqProofs -dsimp [go_sem, get_set_eq, get_set_ne, get_del_ne, env9, env6]
  exact hK _
end Go.Proofs.Ytckdmhjhjfmcdaa.Sx
