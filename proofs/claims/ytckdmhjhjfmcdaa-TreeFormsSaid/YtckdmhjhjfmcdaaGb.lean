/-
  TreeForms, sixth stage: what all trees say, the best clock of a group.
-/
import Derived.Test.YtckdmhjhjfmcdaaGa
namespace Go.Proofs.Ytckdmhjhjfmcdaa.Sx
set_option linter.unusedSimpArgs false
set_option linter.unusedVariables false
open Go
set_option maxRecDepth 40000
attribute [local go_sem] hide1 Un_succ z_skip z_exit z_ret z_row z_seq z_cond z_block z_inBlock_exit z_end_ret z_end_normal z_light z_alloc z_heavy z_guard z_dnil z_dlight z_dalloc z_dguard z_dheavy z_dheavyg z_store z_call z_callv z_append z_apd_nil z_apd_some z_copy z_pick z_load z_nilchk z_bin z_un z_min2 z_mkfunc z_conv z_fieldAddr z_field z_idxArr z_idxSl z_indexA z_extract z_lenS z_build z_box z_mkslice z_makeslice z_cnd_true z_cnd_false z_gd_bool z_gd_tup wpR_nil re_nil z_re z_reg cpy_nil cpy_some l_mov a_alloc a_mkmap ev_tmp ev_int ev_bool ev_nilp ev_nils ev_nilm ev_nilf ev_str ev_func kc_some kc_none keep_kc keep_nil keep_empty thenK_normal thenK_ret thenK_exit keepK_normal keepK_ret keepK_exit inBlockK_normal inBlockK_ret Env.get Env.put enterE evalL evalParts fillL putCells cellsOf partV loadV bnd dbin dint dun dcmp deq sameL same0 noTup closedV closedS retV resL sliceCells rc_nil rc_cons rc_consg rck_load ldV_some ldO_cells evalG plus_next plus_get_new plus_get_new0 plus_get_old plus_alloc plus_set_new plus_set_new0 plus_set_old plus_del_new plus_del_new0 plus_del_old plus_reserve0 plus_reserve1 plus_reserve2 plus_reserve3 plus_reserve4 plus_reserve5 plus_reserve6 plus_plus nx_set nx_del set_set obl_some obl_none obP_some obP_none obS_some obI_int obB_bool obA_agg obT_tup obF_func obC_cells obM_map obL_slice Nat.add_assoc
theorem c10p (p q : Pr) {A : AHeap} {K : Value → AHeap → Prop} (h : K (.int .i64 (p.cmp q)) A) : dcall Go.Proofs.Try.prog 10 [p.v, q.v] A K :=
  dcall_pure (c10 p q fun A' e => ⟨e, trivial, h⟩)
def env6 (R : Rw) (n : Nat) (now : Int) (hg : Nat) (rv : Value) (k : Nat) (nv : Value) (i : Nat) (rest : Env) : Env :=
  (0, .slice (some ⟨R.hp, 0, none⟩) n 4) :: (8, .pointer (some ⟨R.pt, 0, none⟩)) :: (14, .pointer (some ⟨R.pw, 0, none⟩)) :: (20, clos R) :: (21, .int .i64 now) :: (22, .slice (some ⟨hg, 0, none⟩) n 1) :: (28, rv) :: (29, .int .i64 k) :: (30, nv) :: rest
def env7 (R : Rw) (n : Nat) (now : Int) (hg : Nat) (rv : Value) (k : Nat) (nv : Value) (i : Nat) (q m : Nat) (rest : Env) : Env :=
  env6 R n now hg rv k nv i ((31, .int .i64 i) :: (32, .pointer (some ⟨q, 0, none⟩)) :: (33, .int .i64 m) :: (289, .slice (some ⟨R.ht, 0, none⟩) n 1) :: (290, .int .i64 n) :: (291, .int .i64 i) :: rest)
def env8 (R : Rw) (n : Nat) (now : Int) (hg : Nat) (rv : Value) (k : Nat) (nv : Value) (i : Nat) (q m : Nat) (cv : Value) (cn : Nat) (rest : Env) : Env :=
  env6 R n now hg rv k nv i ((31, .int .i64 i) :: (32, .pointer (some ⟨q, 0, none⟩)) :: (33, .int .i64 m) :: (36, cv) :: (37, .int .i64 cn) :: (289, .slice (some ⟨R.ht, 0, none⟩) n 1) :: (290, .int .i64 n) :: (291, .int .i64 i) :: rest)
theorem mixP_all {ps : List Pr} {n j : Nat} (hj : j < n) : (mixP ps n)[j]? = some (priOf ps j) := by
  rw [mixP, List.getElem?_append_left (by simpa using hj)]; simp [hj]
theorem mixP_len {ps : List Pr} {n : Nat} (h : ps.length = n) : (mixP ps n).length = n := by simp [mixP, h]
/-- The best so far. -/
def TopSo (pri : Nat → Pr) (ws : List Wire) (n i m j : Nat) : Prop := m < n ∧ Conn ws i m ∧ ∀ v, v < j → Conn ws i v → v = m ∨ (pri m).cmp (pri v) < 0
theorem pri_ne {n : Nat} {pri : Nat → Pr} {ws : List Wire} (N : Net n pri ws) {a b : Nat} (h : (pri a).cmp (pri b) = 0) : a = b := by
  have := Pr.cmp_zero h
  apply idn_inj
  rw [← N.ids, ← N.ids, this]
theorem TopSo.keep {n : Nat} {pri : Nat → Pr} {ws : List Wire} (N : Net n pri ws) {i m j : Nat} (h : TopSo pri ws n i m j) (hj : ¬ (Conn ws i j ∧ (pri j).cmp (pri m) < 0)) : TopSo pri ws n i m (j + 1) := by
  refine ⟨h.1, h.2.1, fun v hv hc => ?_⟩
  rcases Nat.lt_or_ge v j with h1 | h1
  · exact h.2.2 v h1 hc
  · obtain rfl : v = j := by omega
    have h2 : ¬ (pri v).cmp (pri m) < 0 := fun e => hj ⟨hc, e⟩
    rw [Pr.cmp_anti] at h2
    rcases Int.lt_or_le ((pri m).cmp (pri v)) 0 with h3 | h3
    · exact .inr h3
    · exact .inl (pri_ne N (by omega)).symm
theorem TopSo.take {n : Nat} {pri : Nat → Pr} {ws : List Wire} {i m j : Nat} (h : TopSo pri ws n i m j) (hj : j < n) (hc : Conn ws i j) (hl : (pri j).cmp (pri m) < 0) : TopSo pri ws n i j (j + 1) := by
  refine ⟨hj, hc, fun v hv hcv => ?_⟩
  rcases Nat.lt_or_ge v j with h1 | h1
  · rcases h.2.2 v h1 hcv with rfl | h2
    · exact .inr hl
    · refine .inr ?_
      have h3 := Pr.cmp_trans (p := pri j) (q := pri m) (r := pri v) (by omega) (by omega)
      rcases Int.lt_or_le ((pri j).cmp (pri v)) 0 with h4 | h4
      · exact h4
      · have e := Pr.cmp_zero (p := pri j) (q := pri v) (by omega)
        rw [e, Pr.cmp_anti] at hl
        omega
  · exact .inl (by omega)
theorem TopSo.best {n : Nat} {pri : Nat → Pr} {ws : List Wire} (N : Net n pri ws) {i m : Nat} (hi : i < n) (h : TopSo pri ws n i m n) : Best pri ws m ∧ m < n ∧ Conn ws m i :=
  ⟨fun v hv => h.2.2 v (conn_lt N (h.2.1.trans hv) hi) (h.2.1.trans hv), h.1, h.2.1.symm⟩
set_option maxHeartbeats 4000000 in
theorem loop6a {ps : List Pr} {n : Nat} (hps : ps.length = n) (hn7 : n ≤ 7) {A0 A : AHeap} {Hs : List TH} {R : Rw} {ws : List Wire} (N : Net n (priOf ps) ws) {ts : List Tr} {hg : Nat} {gr : List Nat} (hL : L5 ps n A0 Hs A R ws ts hg gr) (hG : Gs n ws n [] gr) {now : Int} {rv nv : Value} {k i q : Nat} (hi : i < n) {h : Dep (DCode.loop F3c84)} {K : Exit → Env → AHeap → Prop}
    (hK : ∀ m b, Best (priOf ps) ws m → m < n → Conn ws m i → K (.exit 18) (env7 R n now hg rv k nv i q m [(298, .int .i64 n), (299, .int .i64 n), (300, .bool b)]) (A.plus A.next [])) :
    Cw Go.Proofs.Try.prog (.loop F3c84) h (env7 R n now hg rv k nv i q i [(298, .int .i64 n), (299, .int .i64 0)]) (A.plus A.next []) K := by
  refine Cw_count n 0 (fun j E A' => A' = A.plus A.next [] ∧ ∃ m, E = env7 R n now hg rv k nv i q m [(298, .int .i64 n), (299, .int .i64 j)] ∧ TopSo (priOf ps) ws n i m j) (by omega) ⟨rfl, i, rfl, hi, .refl _, fun v hv => by omega⟩ ?_
  rintro j E A1 hj ⟨rfl, m, rfl, T⟩
  simp -implicitDefEqProofs -dsimp [go_sem, get_set_eq, get_set_ne, get_del_ne, env7, env6]
  refine cnd_mk' (fun k1 => ?_) (fun k1 => ?_)
  · have k1' : (j : Int) < n := by omega
    have k1 : j < n := by omega
    have g1 := hL.gg
    have g2 := hL.l.gpr
    have r1 := A.lt g1
    have r2 := A.lt g2
    obtain ⟨x, hx⟩ : ∃ x, gr[j]? = some x := ⟨gr[j]'(by rw [hL.len]; exact k1), by simp [show j < gr.length by rw [hL.len]; exact k1]⟩
    obtain ⟨y, hy⟩ : ∃ x, gr[i]? = some x := ⟨gr[i]'(by rw [hL.len]; exact hi), by simp [show i < gr.length by rw [hL.len]; exact hi]⟩
    have lg : (natsC gr).length = n := by rw [natsC_len, hL.len]
    have na : (natsC gr)[j]'(by omega) = .int .i64 x := by
      have := nats_at hx
      rw [List.getElem?_eq_getElem (by omega)] at this; exact Option.some.inj this
    have nb : (natsC gr)[i]'(by omega) = .int .i64 y := by
      have := nats_at hy
      rw [List.getElem?_eq_getElem (by omega)] at this; exact Option.some.inj this
    have hi' : (i : Int) < n := by omega
    have hxy := group_iff N hG.g0 hG.gq hx hy
    have lc : (prsC (mixP ps n)).length = n * 4 := by rw [prsC_len, mixP_len hps]
    have p1 : List.take 4 (List.drop (j * 4) (prsC (mixP ps n))) = (priOf ps j).cells := flat_take Pr.len (mixP_all k1)
    have p2 : List.take 4 (List.drop (m * 4) (prsC (mixP ps n))) = (priOf ps m).cells := flat_take Pr.len (mixP_all T.1)
    have b1 : j * 4 + 4 ≤ n * 4 := by omega
    have hm := T.1
    have b2 : m * 4 + 4 ≤ n * 4 := by omega
    have hm' : (m : Int) < n := by omega
    simp -implicitDefEqProofs -dsimp [go_sem, get_set_eq, get_set_ne, get_del_ne, g1, g2, r1, r2, lg, k1, k1', hi, hi', na, nb, lc, p1, p2, b1, b2, hm, hm', Pr.cells]
    refine cnd_mk' (fun k2 => ?_) (fun k2 => ?_)
    · have k2' : x = y := by omega
      have hc := (hxy.1 k2').symm
      simp -implicitDefEqProofs -dsimp [go_sem, get_set_eq, get_set_ne, get_del_ne, g2, r2, k1, k1', lc, p1, p2, b1, b2, hm, hm', Pr.cells, k2]
      refine c10p (priOf ps j) (priOf ps m) ?_
      simp -implicitDefEqProofs -dsimp [go_sem, get_set_eq, get_set_ne, get_del_ne, ]
      refine cnd_mk' (fun k3 => ?_) (fun k3 => ?_)
      · simp -implicitDefEqProofs -dsimp [go_sem, get_set_eq, get_set_ne, get_del_ne, ]
        exact ⟨by omega, j, by rw [wrap_i64 (by omega)]; rfl, T.take k1 hc k3⟩
      · simp -implicitDefEqProofs -dsimp [go_sem, get_set_eq, get_set_ne, get_del_ne, k3]
        exact ⟨by omega, m, by rw [wrap_i64 (by omega)]; rfl, T.keep N (fun e => k3 e.2)⟩
    · have k2' : x ≠ y := by omega
      have hc : ¬ Conn ws i j := fun e => k2' (hxy.2 e.symm)
      simp -implicitDefEqProofs -dsimp [go_sem, get_set_eq, get_set_ne, get_del_ne, k2]
      exact ⟨by omega, m, by rw [wrap_i64 (by omega)]; rfl, T.keep N (fun e => hc e.1)⟩
  · have k2 : j = n := by omega
    subst k2
    simp -implicitDefEqProofs -dsimp [go_sem, get_set_eq, get_set_ne, get_del_ne, k1]
    obtain ⟨t1, t2, t3⟩ := T.best N hi
    exact hK m _ t1 t2 t3
theorem twos_append : ∀ (a b : List Int), twos (a ++ b) = twos a + twos b
  | [], b => by simp [twos]
  | x :: a, b => by simp only [List.cons_append, twos, twos_append a b]; omega
theorem twos_le : ∀ (a : List Int), twos a ≤ a.length
  | [] => Nat.le_refl _
  | x :: a => by have := twos_le a; simp only [twos, List.length_cons]; split <;> omega
set_option maxHeartbeats 4000000 in
theorem loop6b {n : Nat} {A : AHeap} {R : Rw} {hg : Nat} {now : Int} {rv nv : Value} {k i q m c : Nat} {rs : List Int} (hrs : rs.length = 8) (hc : A.get c = some (.cells false (ints rs))) {h : Dep (DCode.loop F3c96)} {K : Exit → Env → AHeap → Prop}
    (hK : ∀ b, K (.exit 20) (env8 R n now hg rv k nv i q m (.slice (some ⟨c, 0, none⟩) 8 1) (twos rs) [(343, .slice (some ⟨c, 0, none⟩) 8 1), (344, .int .i64 8), (345, .int .i64 8), (346, .bool b)]) (A.plus A.next [])) :
    Cw Go.Proofs.Try.prog (.loop F3c96) h (env8 R n now hg rv k nv i q m (.slice (some ⟨c, 0, none⟩) 8 1) 0 [(343, .slice (some ⟨c, 0, none⟩) 8 1), (344, .int .i64 8), (345, .int .i64 0)]) (A.plus A.next []) K := by
  refine Cw_count 8 0 (fun j E A' => A' = A.plus A.next [] ∧ E = env8 R n now hg rv k nv i q m (.slice (some ⟨c, 0, none⟩) 8 1) (twos (rs.take j)) [(343, .slice (some ⟨c, 0, none⟩) 8 1), (344, .int .i64 8), (345, .int .i64 j)]) (by omega) ⟨rfl, rfl⟩ ?_
  rintro j E A1 hj ⟨rfl, rfl⟩
  simp -implicitDefEqProofs -dsimp [go_sem, get_set_eq, get_set_ne, get_del_ne, env8, env6]
  refine cnd_mk' (fun k1 => ?_) (fun k1 => ?_)
  · have k1' : (j : Int) < 8 := by omega
    have k1 : j < 8 := by omega
    have r1 := A.lt hc
    obtain ⟨x, hx⟩ : ∃ x, rs[j]? = some x := ⟨rs[j]'(by omega), by simp [show j < rs.length by omega]⟩
    have li : (ints rs).length = 8 := by rw [ints_len, hrs]
    have na : (ints rs)[j]'(by omega) = .int .i64 x := by
      have := ints_get rs j
      rw [hx, List.getElem?_eq_getElem (by omega)] at this; exact Option.some.inj this
    have ht : twos (rs.take (j + 1)) = twos (rs.take j) + if x = 2 then 1 else 0 := by rw [List.take_add_one, hx, twos_append]; simp [twos]
    have hl := twos_le (rs.take j)
    rw [List.length_take] at hl
    simp -implicitDefEqProofs -dsimp [go_sem, get_set_eq, get_set_ne, get_del_ne, hc, r1, k1, k1', li, na]
    refine cnd_mk' (fun k2 => ?_) (fun k2 => ?_)
    · simp -implicitDefEqProofs -dsimp [go_sem, get_set_eq, get_set_ne, get_del_ne, k2]
      refine ⟨by omega, ?_⟩
      rw [wrap_i64 (by omega), wrap_i64 (by omega), ht, if_pos k2]; rfl
    · simp -implicitDefEqProofs -dsimp [go_sem, get_set_eq, get_set_ne, get_del_ne, k2]
      refine ⟨by omega, ?_⟩
      rw [wrap_i64 (by omega), ht, if_neg k2]; rfl
  · have k2 : j = 8 := by omega
    subst k2
    rw [List.take_of_length_le (by omega)]
    simp -implicitDefEqProofs -dsimp [go_sem, get_set_eq, get_set_ne, get_del_ne, ]
    exact hK _
/-- What has been noted of so many trees. -/
structure Rs (base : Nat) (B : AHeap) (h : Nat) (rs : List (List Int)) : Prop where
  new : base ≤ h
  cs : ∃ cs : List Nat, cs.length = rs.length ∧ B.get h = some (.cells false (cs.map fun c => .slice (some ⟨c, 0, none⟩) 8 1)) ∧ (∀ c ∈ cs, base ≤ c ∧ c ≠ h) ∧ ∀ (j c : Nat) r, cs[j]? = some c → rs[j]? = some r → B.get c = some (.cells false (ints r))
theorem Rs.later {base : Nat} {B C : AHeap} {h : Nat} {rs : List (List Int)} (r : Rs base B h rs) (e : Ext B C) : Rs base C h rs := by
  obtain ⟨cs, h1, h2, h3, h4⟩ := r.cs
  exact ⟨r.new, cs, h1, e.keeps h2, h3, fun j c r a b => e.keeps (h4 j c r a b)⟩
theorem Rs.snoc {base : Nat} {B C : AHeap} {h h' c : Nat} {rs : List (List Int)} {r : List Int} (R : Rs base B h rs) {cs : List Nat} (hl : cs.length = rs.length) (hcs : B.get h = some (.cells false (cs.map fun c => .slice (some ⟨c, 0, none⟩) 8 1)))
    (hk : ∀ x, x ≠ h → ∀ o, B.get x = some o → C.get x = some o) (hc : C.get c = some (.cells false (ints r))) (hb : base ≤ c) (hC : C.get h' = some (.cells false ((cs ++ [c]).map fun c => .slice (some ⟨c, 0, none⟩) 8 1))) (hn : B.next ≤ h') (hne : c ≠ h') : Rs base C h' (rs ++ [r]) := by
  obtain ⟨cs2, h1, h2, h3, h4⟩ := R.cs
  rw [hcs] at h2
  have e : cs = cs2 := by
    have h2' : (cs.map fun c => Value.slice (some ⟨c, 0, none⟩) 8 1) = cs2.map fun c => .slice (some ⟨c, 0, none⟩) 8 1 := by injection h2 with h2; injection h2
    refine List.map_inj_right (f := fun c : Nat => Value.slice (some ⟨c, 0, none⟩) 8 1) ?_ |>.1 h2'
    intro x y e
    injection e with e
    injection e with e
    injection e
  subst e
  have hlt := B.lt hcs
  refine ⟨by have := R.new; omega, cs ++ [c], by simp [hl], hC, fun x hx => ?_, fun j x y hx hy => ?_⟩
  · rcases List.mem_append.1 hx with hx | hx
    · have := h3 x hx
      obtain ⟨j, hj⟩ := List.mem_iff_getElem?.1 hx
      obtain ⟨y, hy⟩ : ∃ y, rs[j]? = some y := ⟨rs[j]'(by rw [← hl]; exact getElem?_lt hj), by simp [show j < rs.length by rw [← hl]; exact getElem?_lt hj]⟩
      have := B.lt (h4 j x y hj hy)
      exact ⟨by omega, by omega⟩
    · simp at hx; subst hx; exact ⟨hb, hne⟩
  · rcases Nat.lt_or_ge j cs.length with hj | hj
    · rw [List.getElem?_append_left hj] at hx
      rw [List.getElem?_append_left (by omega)] at hy
      exact hk x (h3 x (List.mem_of_getElem? hx)).2 _ (h4 j x y hx hy)
    · rw [List.getElem?_append_right hj] at hx
      rw [List.getElem?_append_right (by omega)] at hy
      have e : j - cs.length = 0 := by
        rcases Nat.eq_zero_or_pos (j - cs.length) with e | e
        · exact e
        · rw [List.getElem?_eq_none (by simp; omega)] at hx; cases hx
      rw [e] at hx
      rw [← hl, e] at hy
      simp at hx hy
      subst hx; subst hy
      exact hc
def env9 (R : Rw) (n : Nat) (now : Int) (hg : Nat) (rv : Value) (k h i : Nat) (rest : Env) : Env := env6 R n now hg rv k (.slice (some ⟨h, 0, none⟩) i 1) i rest
theorem leaf6 {Ab A3 : AHeap} {h' c : Nat} {rs : List (List Int)} {r : List Int} (e : Ext Ab A3) (R3 : Rs Ab.next A3 h' rs) {cs : List Nat} (hl : cs.length = rs.length) (hcs : A3.get h' = some (.cells false (cs.map fun c => .slice (some ⟨c, 0, none⟩) 8 1))) (hc : A3.get c = some (.cells false (ints r))) (hb : Ab.next ≤ c) (hne : c ≠ h') :
    Ext Ab ((A3.del h').plus A3.next [some (.cells false [.slice (some ⟨c, 0, none⟩) 8 1]), some (.cells false (cs.map (fun c => .slice (some ⟨c, 0, none⟩) 8 1) ++ [.slice (some ⟨c, 0, none⟩) 8 1]))]) ∧
    Rs Ab.next ((A3.del h').plus A3.next [some (.cells false [.slice (some ⟨c, 0, none⟩) 8 1]), some (.cells false (cs.map (fun c => .slice (some ⟨c, 0, none⟩) 8 1) ++ [.slice (some ⟨c, 0, none⟩) 8 1]))]) (A3.next + 1) (rs ++ [r]) := by
  have hk : ∀ x, x ≠ h' → ∀ o, A3.get x = some o → ((A3.del h').plus A3.next [some (.cells false [.slice (some ⟨c, 0, none⟩) 8 1]), some (.cells false (cs.map (fun c => .slice (some ⟨c, 0, none⟩) 8 1) ++ [.slice (some ⟨c, 0, none⟩) 8 1]))]).get x = some o := by
    intro x hx o ho
    rw [plus_get_old (A3.lt ho), get_del_ne hx]; exact ho
  refine ⟨?_, R3.snoc hl hcs hk (hk c hne _ hc) hb (by rw [plus_get_new, List.map_append]; rfl) (by omega) (by have := A3.lt hc; omega)⟩
  have := (e.del' R3.new).trans (ext_plus (A3.del h') [some (.cells false [.slice (some ⟨c, 0, none⟩) 8 1]), some (.cells false (cs.map (fun c => .slice (some ⟨c, 0, none⟩) 8 1) ++ [.slice (some ⟨c, 0, none⟩) 8 1]))])
  rw [nx_del] at this
  exact this
set_option maxHeartbeats 8000000 in
theorem loop6 {ps : List Pr} {n : Nat} (hps : ps.length = n) (hn7 : n ≤ 7) {A0 A : AHeap} {Hs : List TH} {R : Rw} {ws : List Wire} (N : Net n (priOf ps) ws) {ts : List Tr} (hts : ts.length = n) {hg : Nat} {gr : List Nat} {Ab : AHeap} (hLb : L5 ps n A0 Hs Ab R ws ts hg gr) (heA : Ext Ab A) (hG : Gs n ws n [] gr) {now tmin : Int} (hnow0 : 0 ≤ now) (hnow : now ≤ 1000000)
    (S : Settled n (priOf ps) ws ts now tmin) {rv : Value} {k h0 : Nat} (hR : Rs Ab.next A h0 []) {h : Dep (DCode.loop F3c113)} {K : Exit → Env → AHeap → Prop}
    (hK : ∀ A' h' b, Ext Ab A' → Rs Ab.next A' h' (ts.map (·.roles now)) → K (.exit 16) (env9 R n now hg rv k h' n [(289, .slice (some ⟨R.ht, 0, none⟩) n 1), (290, .int .i64 n), (291, .int .i64 n), (292, .bool b)]) (A'.plus A'.next [])) :
    Cw Go.Proofs.Try.prog (.loop F3c113) h (env9 R n now hg rv k h0 0 [(289, .slice (some ⟨R.ht, 0, none⟩) n 1), (290, .int .i64 n), (291, .int .i64 0)]) (A.plus A.next []) K := by
  refine Cw_count n 0 (fun i E A' => ∃ B h', A' = B.plus B.next [] ∧ E = env9 R n now hg rv k h' i [(289, .slice (some ⟨R.ht, 0, none⟩) n 1), (290, .int .i64 n), (291, .int .i64 i)] ∧ Ext Ab B ∧ Rs Ab.next B h' ((ts.take i).map (·.roles now))) (by omega) ⟨A, h0, rfl, rfl, heA, hR⟩ ?_
  rintro i E A1 hi ⟨B, h', rfl, rfl, eB, RR⟩
  have L := hLb.later eB
  simp -implicitDefEqProofs -dsimp [go_sem, get_set_eq, get_set_ne, get_del_ne, env9, env6]
  refine cnd_mk' (fun k1 => ?_) (fun k1 => ?_)
  · have k1' : (i : Int) < n := by omega
    have k1 : i < n := by omega
    have g1 := L.l.ght
    have g2 := L.l.gpt
    have r1 := B.lt g1
    have r2 := B.lt g2
    obtain ⟨H, hH⟩ : ∃ x, Hs[i]? = some x := ⟨Hs[i]'(by rw [L.l.len]; exact k1), by simp [show i < Hs.length by rw [L.l.len]; exact k1]⟩
    obtain ⟨t, ht⟩ : ∃ x, ts[i]? = some x := ⟨ts[i]'(by rw [hts]; exact k1), by simp [show i < ts.length by rw [hts]; exact k1]⟩
    have lp : (ptrs Hs).length = n := by simp [ptrs, L.l.len]
    have np : (ptrs Hs)[i]'(by omega) = .pointer (some ⟨H.p, 0, none⟩) := by
      have : (ptrs Hs)[i]? = some (.pointer (some ⟨H.p, 0, none⟩)) := by simp [ptrs, hH]
      rw [List.getElem?_eq_getElem (by omega)] at this; exact Option.some.inj this
    simp -implicitDefEqProofs -dsimp [go_sem, get_set_eq, get_set_ne, get_del_ne, g1, g2, r1, r2, k1, k1', lp, np]
    refine loop6a hps hn7 N L hG k1 (fun m b hB hm hc => ?_)
    have hP : PortsOk t := S.inv.portsOk hnow ht
    simp -implicitDefEqProofs -dsimp [go_sem, get_set_eq, get_set_ne, get_del_ne, env7, env6]
    refine c11 hP hnow0 hnow ((L.l.tr.at' i H t hH ht).ext (ext_plus _ _)) fun c A2 e2 n2 q2 => ?_
    rw [plus_nil] at e2 n2
    obtain ⟨top1, top2⟩ := S.top N hB hm hc ht
    have sl := S.slaves N hB hm hc ht
    have lr : (t.roles now).length = 8 := by rw [t.roles_len]; exact (S.inv.own i t ht).2
    generalize hr : t.roles now = rs at q2 sl lr
    have L2 := L.later e2
    have g3 := L2.l.gpr
    have r3 := A2.lt g3
    have lc : (prsC (mixP ps n)).length = n * 4 := by rw [prsC_len, mixP_len hps]
    have p2 : List.take 4 (List.drop (m * 4) (prsC (mixP ps n))) = (priOf ps m).cells := flat_take Pr.len (mixP_all hm)
    have b2 : m * 4 + 4 ≤ n * 4 := by omega
    have hm' : (m : Int) < n := by omega
    generalize hmp : priOf ps m = pm at p2 top1
    generalize htp : t.top now = tp at top1 top2
    obtain ⟨root, steps, src, port, at'⟩ := tp
    simp only at top1 top2
    subst top1
    have T2 := L2.l.tr.at' i H t hH ht
    have lh' : h' < B.next := by
      obtain ⟨_, _, hh, _⟩ := RR.cs
      exact B.lt hh
    by_cases him : i = m
    · subst him
      rw [if_pos rfl] at sl
      have ha : at' < 0 := top2.2 rfl
      simp -implicitDefEqProofs -dsimp [go_sem, get_set_eq, get_set_ne, get_del_ne, Ve.v, Ve.cells, g3, r3, lc, p2, b2, hm, hm', Pr.cells]
      generalize hA3 : A2.plus A2.next [some _] = A3
      have e3 : Ext A2 A3 := by rw [← hA3]; exact ext_plus _ _
      rw [← plus_nil A3]
      have L3 := L2.later e3
      have R3 := (RR.later e2).later e3
      have e23 := e2.trans e3
      have lb3 : B.next ≤ A3.next := e23.next
      clear hA3
      refine loop6b lr (e3.keeps q2) (fun b => ?_)
      rw [sl]
      simp -implicitDefEqProofs -dsimp [go_sem, get_set_eq, get_set_ne, get_del_ne, env8, env6]
      refine c12 hP hnow0 hnow ((T2.ext e3).ext (ext_plus _ _)) ?_
      rw [htp]
      obtain ⟨cs, c1, c2, c3, c4⟩ := R3.cs
      have r4 := A3.lt c2
      have r5 : (cs.map fun c => Value.slice (some ⟨c, 0, none⟩) 8 1).length = i := by rw [List.length_map, c1, List.length_map, List.length_take]; omega
      have r6 : cs.length = i := by rw [List.length_map] at r5; exact r5
      simp -implicitDefEqProofs -dsimp [go_sem, get_set_eq, get_set_ne, get_del_ne, ha, c2, r4, r5, r6]
      have hl6 := leaf6 (eB.trans e23) R3 c1 c2 (e3.keeps q2) (by have := eB.next; omega) (by omega)
      have hlist : (ts.take i).map (·.roles now) ++ [rs] = (ts.map (·.roles now)).take (i + 1) := by
        rw [List.take_add_one, List.getElem?_map, ht, ← List.map_take, ← hr]; rfl
      rw [hlist] at hl6
      exact ⟨by omega, by omega, _, plus_nil2 _ _ _, A3.next + 1, by rw [wrap_i64 (by omega)]; rfl, hl6.1, hl6.2⟩
    · have him' : m ≠ i := Ne.symm him
      have hi1 : ¬ (i : Int) = m := by omega
      have hi2 : ¬ (m : Int) = i := by omega
      rw [if_neg him] at sl
      have ha : ¬ at' < 0 := fun e => him (top2.1 e)
      simp -implicitDefEqProofs -dsimp [go_sem, get_set_eq, get_set_ne, get_del_ne, Ve.v, Ve.cells, g3, r3, lc, p2, b2, hm, hm', Pr.cells]
      generalize hA3 : A2.plus A2.next [some _] = A3
      have e3 : Ext A2 A3 := by rw [← hA3]; exact ext_plus _ _
      rw [← plus_nil A3]
      have L3 := L2.later e3
      have R3 := (RR.later e2).later e3
      have e23 := e2.trans e3
      have lb3 : B.next ≤ A3.next := e23.next
      clear hA3
      refine loop6b lr (e3.keeps q2) (fun b => ?_)
      rw [sl]
      simp -implicitDefEqProofs -dsimp [go_sem, get_set_eq, get_set_ne, get_del_ne, env8, env6, him, him', hi1, hi2]
      refine c12 hP hnow0 hnow ((T2.ext e3).ext (ext_plus _ _)) ?_
      rw [htp]
      obtain ⟨cs, c1, c2, c3, c4⟩ := R3.cs
      have r4 := A3.lt c2
      have r5 : (cs.map fun c => Value.slice (some ⟨c, 0, none⟩) 8 1).length = i := by rw [List.length_map, c1, List.length_map, List.length_take]; omega
      have r6 : cs.length = i := by rw [List.length_map] at r5; exact r5
      simp -implicitDefEqProofs -dsimp [go_sem, get_set_eq, get_set_ne, get_del_ne, ha, him, him', hi1, hi2, c2, r4, r5, r6]
      have hl6 := leaf6 (eB.trans e23) R3 c1 c2 (e3.keeps q2) (by have := eB.next; omega) (by omega)
      have hlist : (ts.take i).map (·.roles now) ++ [rs] = (ts.map (·.roles now)).take (i + 1) := by
        rw [List.take_add_one, List.getElem?_map, ht, ← List.map_take, ← hr]; rfl
      rw [hlist] at hl6
      exact ⟨by omega, by omega, _, plus_nil2 _ _ _, A3.next + 1, by rw [wrap_i64 (by omega)]; rfl, hl6.1, hl6.2⟩
  · have k2 : i = n := by omega
    subst k2
    rw [List.take_of_length_le (by omega)] at RR
    simp -implicitDefEqProofs -dsimp [go_sem, get_set_eq, get_set_ne, get_del_ne, k1]
    exact hK B h' _ eB RR
end Go.Proofs.Ytckdmhjhjfmcdaa.Sx
