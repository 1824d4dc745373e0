/-
  Contracts: a round.
-/
import Derived.Test.YtckdmhjhjfmcdaaTj
import Derived.Test.YtckdmhjhjfmcdaaTl
namespace Go.Proofs.Ytckdmhjhjfmcdaa.Sx
set_option linter.unusedSimpArgs false
set_option linter.unusedVariables false
open Go
set_option maxRecDepth 40000
attribute [local go_sem] hide1 Un_succ z_skip z_exit z_ret z_row z_seq z_cond z_block z_inBlock_exit z_end_ret z_end_normal z_light z_alloc z_heavy z_guard z_dnil z_dlight z_dalloc z_dguard z_dheavy z_dheavyg z_store z_call z_callv z_append z_apd_nil z_apd_some z_copy z_pick z_load z_nilchk z_bin z_un z_min2 z_mkfunc z_conv z_fieldAddr z_field z_idxArr z_idxSl z_indexA z_extract z_lenS z_build z_box z_mkslice z_makeslice z_cnd_true z_cnd_false z_gd_bool z_gd_tup wpR_nil re_nil z_re z_reg cpy_nil cpy_some l_mov a_alloc a_mkmap ev_tmp ev_int ev_bool ev_nilp ev_nils ev_nilm ev_nilf ev_str ev_func kc_some kc_none keep_kc keep_nil keep_empty thenK_normal thenK_ret thenK_exit keepK_normal keepK_ret keepK_exit inBlockK_normal inBlockK_ret Env.get Env.put enterE evalL evalParts fillL putCells cellsOf partV loadV bnd dbin dint dun dcmp deq sameL same0 noTup closedV closedS retV resL sliceCells rc_nil rc_cons rc_consg rck_load ldV_some ldO_cells evalG plus_next plus_get_new plus_get_new0 plus_get_old plus_alloc plus_set_new plus_set_new0 plus_set_old plus_del_new plus_del_new0 plus_del_old plus_reserve0 plus_reserve1 plus_reserve2 plus_reserve3 plus_reserve4 plus_reserve5 plus_reserve6 plus_plus nx_set nx_del set_set obl_some obl_none obP_some obP_none obS_some obI_int obB_bool obA_agg obT_tup obF_func obC_cells obM_map obL_slice Nat.add_assoc
/-- Several trees' memory. -/
structure TsAt (A : AHeap) (Hs : List TH) (ts : List Tr) : Prop where
  len : Hs.length = ts.length
  at' : ∀ (i : Nat) H t, Hs[i]? = some H → ts[i]? = some t → TrAt A H t
  apart : ∀ (i j : Nat) H G, Hs[i]? = some H → Hs[j]? = some G → i ≠ j → ∀ x ∈ H.rows, x ∉ G.rows
def allRows (Hs : List TH) : List Nat := Hs.flatMap TH.rows
theorem rows_all {Hs : List TH} {i : Nat} {H : TH} (h : Hs[i]? = some H) : ∀ x ∈ H.rows, x ∈ allRows Hs := fun x hx => List.mem_flatMap.2 ⟨H, List.mem_of_getElem? h, hx⟩
theorem TsAt.ext {A B : AHeap} {Hs : List TH} {ts : List Tr} (e : Ext A B) (h : TsAt A Hs ts) : TsAt B Hs ts := ⟨h.len, fun i H t a b => (h.at' i H t a b).ext e, h.apart⟩
theorem TsAt.put {A B : AHeap} {Hs : List TH} {ts : List Tr} (h : TsAt A Hs ts) {v : Nat} {H : TH} (hv : Hs[v]? = some H) (m : Mod H.rows A B) {t' : Tr} (ht : TrAt B H t') : TsAt B Hs (ts.set v t') := by
  have hvl : v < ts.length := by rw [← h.len]; exact getElem?_lt hv
  refine ⟨by simp [h.len], fun i G t hi hti => ?_, h.apart⟩
  rcases get_set_tr hvl hti with ⟨rfl, rfl⟩ | ⟨hne, hti⟩
  · rw [hv] at hi; cases hi; exact ht
  · exact (h.at' i G t hi hti).mod m (h.apart i v G H hi hv hne)
theorem hops_take {ws : List Wire} {j : Nat} {x : End × End} (h : x ∈ hops (ws.take j)) : x ∈ hops ws := by
  unfold hops at h ⊢
  rw [List.mem_flatMap] at h ⊢
  obtain ⟨w, h1, h2⟩ := h
  exact ⟨w, List.mem_of_mem_take h1, h2⟩
theorem runHops_append (now : Int) : ∀ (a b : List (End × End)) (ts : List Tr), runHops now (a ++ b) ts = runHops now b (runHops now a ts)
  | [], _, _ => rfl
  | h :: a, b, ts => runHops_append now a b _
/-- What stays the same: what is no tree's. -/
def ptrs (Hs : List TH) : List Value := Hs.map fun H => .pointer (some ⟨H.p, 0, none⟩)
def wireC (w : Wire) : List Value := [.int .i64 w.1.1, .int .i64 w.1.2, .int .i64 w.2.1, .int .i64 w.2.2]
def wiresC (ws : List Wire) : List Value := ws.flatMap wireC
theorem wireC_len (w : Wire) : (wireC w).length = 4 := rfl
theorem wiresC_len (ws : List Wire) : (wiresC ws).length = ws.length * 4 := flat_len wireC_len ws
theorem Inv.portsOk {n : Nat} {pri : Nat → Pr} {ws : List Wire} {ts : List Tr} {now : Int} (I : Inv n pri ws ts now) (hn : now ≤ 1000000) {i : Nat} {t : Tr} (h : ts[i]? = some t) : PortsOk t := by
  intro x hx
  obtain ⟨p, hp⟩ := List.mem_iff_getElem?.1 hx
  obtain ⟨h1, h2, h3, h4, h5⟩ := I.rng i t p x h hp
  exact ⟨h1, by omega, ⟨h3, by omega⟩, by omega⟩
/-- The rows that a round leaves alone. -/
structure Still (A : AHeap) (Hs : List TH) (ws : List Wire) (pw pt hw ht : Nat) : Prop where
  w : A.get pw = some (.cells false [.slice (some ⟨hw, 0, none⟩) ws.length 4])
  t : A.get pt = some (.cells false [.slice (some ⟨ht, 0, none⟩) Hs.length 1])
  wc : A.get hw = some (.cells false (wiresC ws))
  tc : A.get ht = some (.cells false (ptrs Hs))
  nw : pw ∉ allRows Hs ∧ pt ∉ allRows Hs ∧ hw ∉ allRows Hs ∧ ht ∉ allRows Hs
theorem Still.mod {A B : AHeap} {Hs : List TH} {ws : List Wire} {pw pt hw ht : Nat} (h : Still A Hs ws pw pt hw ht) (m : Mod (allRows Hs) A B) : Still B Hs ws pw pt hw ht :=
  ⟨m.keeps h.nw.1 h.w, m.keeps h.nw.2.1 h.t, m.keeps h.nw.2.2.1 h.wc, m.keeps h.nw.2.2.2 h.tc, h.nw⟩
theorem plus_nil' {B : AHeap} {n : Nat} (h : B.next = n) : B.plus n [] = B := by subst h; exact plus_nil B
theorem and_mask (x : Int) (k : Nat) (hk : k ≤ 62) : IntKind.i64.wrap (((x % 18446744073709551616).toNat &&& (2 ^ k - 1) : Nat) : Int) = x % (2 ^ k : Nat) := by
  rw [Nat.and_two_pow_sub_one_eq_mod]
  have hp : (2 : Nat) ^ k ≤ 2 ^ 62 := Nat.pow_le_pow_right (by omega) hk
  have hp0 : 0 < (2 : Nat) ^ k := Nat.pow_pos (by omega)
  have hd : ((2 ^ k : Nat) : Int) ∣ 18446744073709551616 := by
    have : (18446744073709551616 : Int) = ((2 ^ 64 : Nat) : Int) := rfl
    rw [this, Int.natCast_dvd_natCast]
    exact Nat.pow_dvd_pow 2 (by omega)
  have e : (((x % 18446744073709551616).toNat % 2 ^ k : Nat) : Int) = x % (2 ^ k : Nat) := by
    rw [Int.natCast_emod, Int.toNat_of_nonneg (Int.emod_nonneg _ (by omega)), Int.emod_emod_of_dvd _ hd]
  rw [e]
  have h1 := Int.emod_nonneg x (b := ((2 ^ k : Nat) : Int)) (by omega)
  have h2 := Int.emod_lt_of_pos x (b := ((2 ^ k : Nat) : Int)) (by omega)
  exact wrap_i64 (by omega)
theorem TsAt.rows_lt {A : AHeap} {Hs : List TH} {ts : List Tr} (h : TsAt A Hs ts) : ∀ x ∈ allRows Hs, x < A.next := by
  intro x hx
  obtain ⟨H, hH, hx⟩ := List.mem_flatMap.1 hx
  obtain ⟨i, hi⟩ := List.mem_iff_getElem?.1 hH
  obtain ⟨t, ht⟩ : ∃ t, ts[i]? = some t := by
    have := getElem?_lt hi
    rw [h.len] at this
    exact ⟨ts[i], by simp [this]⟩
  have hT := h.at' i H t hi ht
  simp only [TH.rows, List.mem_cons, List.not_mem_nil, or_false] at hx
  obtain ⟨vs, hvs, _⟩ := hT.pa
  rcases hx with rfl | rfl | rfl | rfl | rfl
  · exact A.lt hT.st
  · exact A.lt hT.up
  · exact A.lt hT.he
  · exact A.lt hvs
  · exact A.lt hT.wh
theorem TsAt.set {A : AHeap} {Hs : List TH} {ts : List Tr} (h : TsAt A Hs ts) {p : Nat} (hp : p ∉ allRows Hs) {cs cs' : List Value} (hg : A.get p = some (.cells false cs)) : TsAt (A.set p (.cells false cs')) Hs ts := by
  refine ⟨h.len, fun i H t hi ht => (h.at' i H t hi ht).mod (S := [p]) ((Mod.refl _ A).set (by simp) hg) ?_, h.apart⟩
  intro x hx hm
  simp at hm
  subst hm
  exact hp (rows_all hi _ hx)
set_option maxHeartbeats 4000000 in
theorem half8 {n : Nat} {pri : Nat → Pr} {ws : List Wire} (N : Net n pri ws) {ts : List Tr} {now : Int} (hn0 : 0 ≤ now) (hn1 : now ≤ 1000) (I : Inv n pri ws ts now) {Hs : List TH} {B : AHeap} (t1 : TsAt B Hs ts) {pw pt hw ht : Nat} (S1 : Still B Hs ws pw pt hw ht)
    {u pu v pv k wc j : Nat} {cs : List Value} (hl : Lnk ws (u, pu) (v, pv)) (hk : (k = 0 ∧ cs = wireC ((u, pu), (v, pv))) ∨ (k = 1 ∧ cs = wireC ((v, pv), (u, pu)))) (hc : B.get wc = some (.cells false cs)) (hwc : wc ∉ allRows Hs)
    {h : Dep F8c7} {K : Exit → Env → AHeap → Prop}
    (hK : ∀ B', Mod (allRows Hs) B B' → TsAt B' Hs (half ts u pu v pv now).1 → K .normal [(0, .int .i64 now), (2, .pointer (some ⟨pt, 0, none⟩)), (6, .pointer (some ⟨wc, 0, none⟩)), (7, .int .i64 k), (11, .slice (some ⟨hw, 0, none⟩) ws.length 4), (12, .int .i64 ws.length), (13, .int .i64 j)] (B'.plus B'.next [])) :
    Cw Go.Proofs.Try.prog F8c7 h [(0, .int .i64 now), (2, .pointer (some ⟨pt, 0, none⟩)), (6, .pointer (some ⟨wc, 0, none⟩)), (7, .int .i64 k), (11, .slice (some ⟨hw, 0, none⟩) ws.length 4), (12, .int .i64 ws.length), (13, .int .i64 j)] (B.plus B.next []) K := by
  obtain ⟨bu, bpu, bv, bpv, bne⟩ := N.lnk hl
  obtain ⟨Hu, hHu⟩ : ∃ H, Hs[u]? = some H := ⟨Hs[u]'(by rw [t1.len, I.len]; exact bu), by simp [show u < Hs.length by rw [t1.len, I.len]; exact bu]⟩
  obtain ⟨Hv, hHv⟩ : ∃ H, Hs[v]? = some H := ⟨Hs[v]'(by rw [t1.len, I.len]; exact bv), by simp [show v < Hs.length by rw [t1.len, I.len]; exact bv]⟩
  have lu : u < Hs.length := getElem?_lt hHu
  have lv : v < Hs.length := getElem?_lt hHv
  have lp : (ptrs Hs).length = Hs.length := by simp [ptrs]
  have gu : (ptrs Hs)[u]'(by omega) = .pointer (some ⟨Hu.p, 0, none⟩) := by
    have : (ptrs Hs)[u]? = some (.pointer (some ⟨Hu.p, 0, none⟩)) := by simp [ptrs, hHu]
    rw [List.getElem?_eq_getElem (by omega)] at this; exact Option.some.inj this
  have gv : (ptrs Hs)[v]'(by omega) = .pointer (some ⟨Hv.p, 0, none⟩) := by
    have : (ptrs Hs)[v]? = some (.pointer (some ⟨Hv.p, 0, none⟩)) := by simp [ptrs, hHv]
    rw [List.getElem?_eq_getElem (by omega)] at this; exact Option.some.inj this
  obtain ⟨tu, htu⟩ : ∃ t, ts[u]? = some t := ⟨ts[u]'(by rw [I.len]; exact bu), by simp [show u < ts.length by rw [I.len]; exact bu]⟩
  obtain ⟨tv, htv⟩ : ∃ t, ts[v]? = some t := ⟨ts[v]'(by rw [I.len]; exact bv), by simp [show v < ts.length by rw [I.len]; exact bv]⟩
  have u1 := S1.t
  have u2 := S1.tc
  have v1 := B.lt u1
  have v2 := B.lt u2
  have v0 := B.lt hc
  have hmask : IntKind.i64.wrap (((now % 18446744073709551616).toNat &&& 255 : Nat) : Int) = now % 256 := and_mask now 8 (by omega)
  have hTu := t1.at' u Hu tu hHu htu
  have hPu := I.portsOk (by omega) htu
  have wr0 : IntKind.i64.wrap 0 = 0 := rfl
  have wr1 : IntKind.i64.wrap 1 = 1 := rfl
  rcases hk with ⟨rfl, rfl⟩ | ⟨rfl, rfl⟩
  · simp -implicitDefEqProofs -dsimp [go_sem, get_set_eq, get_set_ne, get_del_ne, F8c7_u, u1, v1, u2, v2, gu, lu, lp, hc, v0, wireC, hmask, wr0, wr1]
    refine c9 hPu bpu hn0 (by omega) (hTu.ext (ext_plus _ _)) (fun kind m q l c A2 e2 ho => ?_) (fun g pv' A2 ho e2 hpv => ?_)
    · have n2 : B.next < A2.next := by have := e2.next; rw [plus_next] at this; simp at this; omega
      have eB := (ext_plus B _).trans e2
      simp -implicitDefEqProofs -dsimp [go_sem, get_set_eq, get_set_ne, get_del_ne, msV, Ms.cells, n2]
      have hh : (half ts u pu v pv now).1 = ts := by simp [half, htu, htv, ho]
      rw [hh] at hK
      have := hK (A2.set B.next (.cells false (Value.int .i64 kind :: (m.cells (.slice q l c)).drop 1))) ((eB.set' (Nat.le_refl _) _).mod _) (t1.ext (eB.set' (Nat.le_refl _) _))
      rw [nx_set] at this
      exact this
    · have n2 : B.next < A2.next := by have := e2.next; rw [plus_next] at this; simp at this; omega
      have eB := (ext_plus B _).trans e2
      obtain ⟨pq, pl, pc, rfl⟩ : ∃ q l c, pv' = .slice q l c := by
        rcases hpv with ⟨rfl, _⟩ | ⟨b, ro, rfl, _⟩
        · exact ⟨_, _, _, rfl⟩
        · exact ⟨_, _, _, rfl⟩
      have w1 := eB.keeps u1
      have w2 := eB.keeps u2
      have w0 := eB.keeps hc
      have y1 := A2.lt w1
      have y2 := A2.lt w2
      have y0 := A2.lt w0
      have z1 : pt ≠ B.next := by omega
      have z2 : ht ≠ B.next := by omega
      have z0 : wc ≠ B.next := by omega
      simp -implicitDefEqProofs -dsimp [go_sem, get_set_eq, get_set_ne, get_del_ne, msV, Ms.cells, n2, w1, w2, w0, y1, y2, y0, z1, z2, z0, gv, lv, lp, wireC, wr0, wr1]
      rw [plus_nil' (nx_set _ _ _)]
      have eX := fun o => eB.set' (Nat.le_refl _) o
      have hok := (out_says N I htu ho).ok
      have hpl : g.path.length ≤ 1000 := by
        simp only [Ms.ok, Bool.and_eq_true, decide_eq_true_eq] at hok
        omega
      have hpv2 : ∀ o, IntsAt (A2.set B.next o) (.slice pq pl pc) g.path := by
        intro o
        rcases hpv with h | ⟨b, ro, h1, h2⟩
        · exact .inl h
        · refine .inr ⟨b, ro, h1, ?_⟩
          have hnone : A2.get B.next = none := (e2.get B.next (by rw [plus_next]; simp)).trans (by rw [plus_get_new0]; rfl)
          rw [get_set_ne]
          · exact h2
          · intro e
            rw [e, hnone] at h2
            cases h2
      refine c7 (kind := 11) (g := g) (at' := (pv : Nat)) hpl ((t1.at' v Hv tv hHv htv).ext (eX _)) (hpv2 _) (fun h => absurd rfl h) fun _ A3 m3 T3 => ?_
      have hh : half ts u pu v pv now = (ts.set v (tv.inn pv g now).1, (tv.inn pv g now).2) := by simp [half, htu, htv, ho]
      have herr := (half_inv N hn0 I hl).2
      rw [hh] at herr hK
      simp only at herr hK
      have mm : Mod (allRows Hs) B A3 := ((eX _).mod _).trans (m3.sub (rows_all hHv))
      have fin := hK A3 mm ((t1.ext (eX _)).put hHv m3 T3)
      generalize (tv.inn pv g now).2 = er at herr ⊢
      rcases herr with rfl | rfl
      · simp -implicitDefEqProofs -dsimp [go_sem, get_set_eq, get_set_ne, get_del_ne, ]
        exact fin
      · simp -implicitDefEqProofs -dsimp [go_sem, get_set_eq, get_set_ne, get_del_ne, ]
        exact fin
  · simp -implicitDefEqProofs -dsimp [go_sem, get_set_eq, get_set_ne, get_del_ne, F8c7_u, u1, v1, u2, v2, gu, lu, lp, hc, v0, wireC, hmask, wr0, wr1]
    refine c9 hPu bpu hn0 (by omega) (hTu.ext (ext_plus _ _)) (fun kind m q l c A2 e2 ho => ?_) (fun g pv' A2 ho e2 hpv => ?_)
    · have n2 : B.next < A2.next := by have := e2.next; rw [plus_next] at this; simp at this; omega
      have eB := (ext_plus B _).trans e2
      simp -implicitDefEqProofs -dsimp [go_sem, get_set_eq, get_set_ne, get_del_ne, msV, Ms.cells, n2]
      have hh : (half ts u pu v pv now).1 = ts := by simp [half, htu, htv, ho]
      rw [hh] at hK
      have := hK (A2.set B.next (.cells false (Value.int .i64 kind :: (m.cells (.slice q l c)).drop 1))) ((eB.set' (Nat.le_refl _) _).mod _) (t1.ext (eB.set' (Nat.le_refl _) _))
      rw [nx_set] at this
      exact this
    · have n2 : B.next < A2.next := by have := e2.next; rw [plus_next] at this; simp at this; omega
      have eB := (ext_plus B _).trans e2
      obtain ⟨pq, pl, pc, rfl⟩ : ∃ q l c, pv' = .slice q l c := by
        rcases hpv with ⟨rfl, _⟩ | ⟨b, ro, rfl, _⟩
        · exact ⟨_, _, _, rfl⟩
        · exact ⟨_, _, _, rfl⟩
      have w1 := eB.keeps u1
      have w2 := eB.keeps u2
      have w0 := eB.keeps hc
      have y1 := A2.lt w1
      have y2 := A2.lt w2
      have y0 := A2.lt w0
      have z1 : pt ≠ B.next := by omega
      have z2 : ht ≠ B.next := by omega
      have z0 : wc ≠ B.next := by omega
      simp -implicitDefEqProofs -dsimp [go_sem, get_set_eq, get_set_ne, get_del_ne, msV, Ms.cells, n2, w1, w2, w0, y1, y2, y0, z1, z2, z0, gv, lv, lp, wireC, wr0, wr1]
      rw [plus_nil' (nx_set _ _ _)]
      have eX := fun o => eB.set' (Nat.le_refl _) o
      have hok := (out_says N I htu ho).ok
      have hpl : g.path.length ≤ 1000 := by
        simp only [Ms.ok, Bool.and_eq_true, decide_eq_true_eq] at hok
        omega
      have hpv2 : ∀ o, IntsAt (A2.set B.next o) (.slice pq pl pc) g.path := by
        intro o
        rcases hpv with h | ⟨b, ro, h1, h2⟩
        · exact .inl h
        · refine .inr ⟨b, ro, h1, ?_⟩
          have hnone : A2.get B.next = none := (e2.get B.next (by rw [plus_next]; simp)).trans (by rw [plus_get_new0]; rfl)
          rw [get_set_ne]
          · exact h2
          · intro e
            rw [e, hnone] at h2
            cases h2
      refine c7 (kind := 11) (g := g) (at' := (pv : Nat)) hpl ((t1.at' v Hv tv hHv htv).ext (eX _)) (hpv2 _) (fun h => absurd rfl h) fun _ A3 m3 T3 => ?_
      have hh : half ts u pu v pv now = (ts.set v (tv.inn pv g now).1, (tv.inn pv g now).2) := by simp [half, htu, htv, ho]
      have herr := (half_inv N hn0 I hl).2
      rw [hh] at herr hK
      simp only at herr hK
      have mm : Mod (allRows Hs) B A3 := ((eX _).mod _).trans (m3.sub (rows_all hHv))
      have fin := hK A3 mm ((t1.ext (eX _)).put hHv m3 T3)
      generalize (tv.inn pv g now).2 = er at herr ⊢
      rcases herr with rfl | rfl
      · simp -implicitDefEqProofs -dsimp [go_sem, get_set_eq, get_set_ne, get_del_ne, ]
        exact fin
      · simp -implicitDefEqProofs -dsimp [go_sem, get_set_eq, get_set_ne, get_del_ne, ]
        exact fin
set_option maxHeartbeats 2000000 in
theorem c8 {n : Nat} {pri : Nat → Pr} {ws : List Wire} (N : Net n pri ws) {ts : List Tr} {now : Int} (hn0 : 0 ≤ now) (hn1 : now ≤ 1000) (I : Inv n pri ws ts now) {Hs : List TH} {A : AHeap} (hT : TsAt A Hs ts) {pw pt hw ht : Nat} (hS : Still A Hs ws pw pt hw ht) (hwl : ws.length ≤ 12)
    {K : Value → AHeap → Prop} (h : ∀ A', Mod (allRows Hs) A A' → TsAt A' Hs (runHops now (hops ws) ts) → K (.bool true) (A'.plus A'.next [])) :
    dcall Go.Proofs.Try.prog 8 [.int .i64 now, .pointer (some ⟨pw, 0, none⟩), .pointer (some ⟨pt, 0, none⟩)] A K := by
  refine F8_call (by simp) (start ?_)
  have s1 := hS.w
  have l1 := A.lt s1
  simp -implicitDefEqProofs -dsimp [go_sem, get_set_eq, get_set_ne, get_del_ne, s1, l1]
  refine Cw_count ws.length 0 (fun j E A' => E = [(0, .int .i64 now), (2, .pointer (some ⟨pt, 0, none⟩)), (11, .slice (some ⟨hw, 0, none⟩) ws.length 4), (12, .int .i64 ws.length), (13, .int .i64 j)] ∧
    ∃ B, A' = B.plus B.next [] ∧ Mod (allRows Hs) A B ∧ TsAt B Hs (runHops now (hops (ws.take j)) ts)) (by omega) ⟨rfl, A, rfl, Mod.refl _ _, by simpa [hops, runHops] using hT⟩ ?_
  rintro j E A1 hj ⟨rfl, B, rfl, m1, t1⟩
  simp -implicitDefEqProofs -dsimp [go_sem, get_set_eq, get_set_ne, get_del_ne, ]
  refine cnd_mk' (fun hlt' => ?_) (fun hge => ?_)
  · have hlt : j < ws.length := by omega
    obtain ⟨⟨⟨a, pa⟩, ⟨b, pb⟩⟩, hw0⟩ : ∃ w, ws[j]? = some w := ⟨ws[j], by simp [hlt]⟩
    have S1 := hS.mod m1
    have q3 := S1.wc
    have r3 := B.lt q3
    have hld : List.take 4 (List.drop (j * 4) (wiresC ws)) = wireC ((a, pa), (b, pb)) := flat_take wireC_len hw0
    have hlc := wiresC_len ws
    have bd : j * 4 + 4 ≤ ws.length * 4 := by omega
    simp -implicitDefEqProofs -dsimp [go_sem, get_set_eq, get_set_ne, get_del_ne, q3, r3, hlt, hlt', hld, hlc, bd, wireC]
    have hbd := N.bound _ (List.mem_of_getElem? hw0)
    obtain ⟨ba, bpa, bb, bpb, bne⟩ := hbd
    simp only at ba bpa bb bpb bne
    have IJ : Inv n pri ws (runHops now (hops (ws.take j)) ts) now := run_inv N hn0 (fun x y hm => mem_hops.1 (hops_take hm)) I
    have hl0 : Lnk ws (a, pa) (b, pb) := .inl (List.mem_of_getElem? hw0)
    generalize hts0 : runHops now (hops (ws.take j)) ts = ts0 at t1 IJ
    have hrun : runHops now (hops (ws.take (j + 1))) ts = (half (half ts0 a pa b pb now).1 b pb a pa now).1 := by
      rw [List.take_add_one, hw0, ← hts0]
      simp only [hops, Option.toList_some, List.flatMap_append, List.flatMap_cons, List.flatMap_nil, List.append_nil]
      rw [runHops_append]
      rfl
    have hcell : (B.plus B.next [some (AObj.cells false (wireC ((a, pa), (b, pb))))]).get B.next = some (.cells false (wireC ((a, pa), (b, pb)))) := by rw [plus_get_new0]; rfl
    have hfresh : B.next ∉ allRows Hs := fun hm => absurd (t1.rows_lt _ hm) (Nat.lt_irrefl _)
    have eX := ext_plus B [some (AObj.cells false (wireC ((a, pa), (b, pb))))]
    refine Cw_un 3 ?_
    simp -implicitDefEqProofs -dsimp [go_sem, get_set_eq, get_set_ne, get_del_ne, ]
    change Cw _ _ _ _ (B.plus B.next [some (AObj.cells false (wireC ((a, pa), (b, pb))))]) _
    generalize B.plus B.next [some (AObj.cells false (wireC ((a, pa), (b, pb))))] = Bx at hcell eX ⊢
    rw [← plus_nil Bx]
    refine half8 N hn0 hn1 IJ (t1.ext eX) (S1.mod (eX.mod _)) (k := 0) hl0 (.inl ⟨rfl, rfl⟩) hcell hfresh fun B1 M1 T1 => ?_
    have wr1 : IntKind.i64.wrap 1 = 1 := rfl
    have wr2 : IntKind.i64.wrap 2 = 2 := rfl
    simp -implicitDefEqProofs -dsimp [go_sem, get_set_eq, get_set_ne, get_del_ne, wr1, wr2]
    refine half8 N hn0 hn1 (half_inv N hn0 IJ hl0).1 T1 ((S1.mod (eX.mod _)).mod M1) (k := 1) hl0.symm (.inr ⟨rfl, rfl⟩) (M1.keeps hfresh hcell) hfresh fun B2 M2 T2 => ?_
    simp -implicitDefEqProofs -dsimp [go_sem, get_set_eq, get_set_ne, get_del_ne, wr1, wr2]
    rw [← hrun] at T2
    exact ⟨hlt, wrap_i64 (by omega), B2, rfl, ((m1.trans (eX.mod _)).trans M1).trans M2, T2⟩
  · have hj2 : j = ws.length := by omega
    subst hj2
    rw [List.take_length] at t1
    simp -implicitDefEqProofs -dsimp [go_sem, get_set_eq, get_set_ne, get_del_ne, ]
    exact h B m1 t1
end Go.Proofs.Ytckdmhjhjfmcdaa.Sx
