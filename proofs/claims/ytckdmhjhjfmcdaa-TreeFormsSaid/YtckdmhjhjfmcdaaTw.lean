/-
  TreeForms, third stage: what is said ahead, and the rounds.
-/
import Derived.Test.YtckdmhjhjfmcdaaTv
namespace Go.Proofs.Ytckdmhjhjfmcdaa.Sx
set_option linter.unusedSimpArgs false
set_option linter.unusedVariables false
open Go
set_option maxRecDepth 40000
attribute [local go_sem] hide1 Un_succ z_skip z_exit z_ret z_row z_seq z_cond z_block z_inBlock_exit z_end_ret z_end_normal z_light z_alloc z_heavy z_guard z_dnil z_dlight z_dalloc z_dguard z_dheavy z_dheavyg z_store z_call z_callv z_append z_apd_nil z_apd_some z_copy z_pick z_load z_nilchk z_bin z_un z_min2 z_mkfunc z_conv z_fieldAddr z_field z_idxArr z_idxSl z_indexA z_extract z_lenS z_build z_box z_mkslice z_makeslice z_cnd_true z_cnd_false z_gd_bool z_gd_tup wpR_nil re_nil z_re z_reg cpy_nil cpy_some l_mov a_alloc a_mkmap ev_tmp ev_int ev_bool ev_nilp ev_nils ev_nilm ev_nilf ev_str ev_func kc_some kc_none keep_kc keep_nil keep_empty thenK_normal thenK_ret thenK_exit keepK_normal keepK_ret keepK_exit inBlockK_normal inBlockK_ret Env.get Env.put enterE evalL evalParts fillL putCells cellsOf partV loadV bnd dbin dint dun dcmp deq sameL same0 noTup closedV closedS retV resL sliceCells rc_nil rc_cons rc_consg rck_load ldV_some ldO_cells evalG plus_next plus_get_new plus_get_new0 plus_get_old plus_alloc plus_set_new plus_set_new0 plus_set_old plus_del_new plus_del_new0 plus_del_old plus_reserve0 plus_reserve1 plus_reserve2 plus_reserve3 plus_reserve4 plus_reserve5 plus_reserve6 plus_plus nx_set nx_del set_set obl_some obl_none obP_some obP_none obS_some obI_int obB_bool obA_agg obT_tup obF_func obC_cells obM_map obL_slice Nat.add_assoc
structure L3 (ps : List Pr) (n : Nat) (A0 : AHeap) (Hs : List TH) (A : AHeap) (R : Rw) (ws : List Wire) (ts : List Tr) : Prop where
  ext : Ext A0 A
  len : Hs.length = n
  gpr : A.get R.hp = some (.cells false (prsC (mixP ps n)))
  gpt : A.get R.pt = some (.cells false [.slice (some ⟨R.ht, 0, none⟩) n 1])
  ght : A.get R.ht = some (.cells false (ptrs Hs))
  gpw : A.get R.pw = some (.cells false [.slice (some ⟨R.hw, 0, none⟩) ws.length 4])
  ghw : A.get R.hw = some (.cells false (wiresC ws))
  tr : TsAt A Hs ts
  nd : R.list.Nodup
  new : ∀ x ∈ R.list, A0.next ≤ x
  rows : ∀ x ∈ R.list, x ∉ allRows Hs
  nrows : ∀ x ∈ allRows Hs, A0.next ≤ x
section
variable {ps : List Pr} {n : Nat} {A0 A B : AHeap} {Hs : List TH} {R : Rw} {ws : List Wire} {ts ts' : List Tr} {fr : List Nat}
theorem L2.l3 (L : L2 ps n A0 Hs A R ws fr) : L3 ps n A0 Hs A R ws (tsOf ps n fr) := ⟨L.ext, L.len, L.gpr, L.gpt, L.ght, L.gpw, L.ghw, L.tr, L.nd, L.new, L.rows, L.nrows⟩
theorem L3.mod (L : L3 ps n A0 Hs A R ws ts) (m : Mod (allRows Hs) A B) (t : TsAt B Hs ts') : L3 ps n A0 Hs B R ws ts' :=
  ⟨L.ext.ofMod m L.nrows, L.len, m.keeps (L.rows _ (by simp [Rw.list])) L.gpr, m.keeps (L.rows _ (by simp [Rw.list])) L.gpt, m.keeps (L.rows _ (by simp [Rw.list])) L.ght, m.keeps (L.rows _ (by simp [Rw.list])) L.gpw, m.keeps (L.rows _ (by simp [Rw.list])) L.ghw, t, L.nd, L.new, L.rows, L.nrows⟩
theorem L3.later (L : L3 ps n A0 Hs A R ws ts) (e : Ext A B) : L3 ps n A0 Hs B R ws ts := L.mod (e.mod _) (L.tr.ext e)
end
/-- What is said ahead is a lie at most. -/
theorem lie_inv {n : Nat} {pri : Nat → Pr} {ws : List Wire} (N : Net n pri ws) {ts : List Tr} (I : Inv n pri ws ts 0) {v : Nat} {tv : Tr} (hv : ts[v]? = some tv) (at' : Int) (g : Mg) : Inv n pri ws (ts.set v (tv.inn at' g 0).1) 0 := by
  unfold Tr.inn
  split
  · rw [set_self hv]; exact I
  split
  · rw [set_self hv]; exact I
  split
  · rw [set_self hv]; exact I
  · rename_i h1 h2 h3
    simp only [Classical.not_not] at h1
    simp only [not_or] at h2 h3
    have hsteps : 0 ≤ g.m.steps := by
      have := h1.1
      simp only [Ms.ok, Bool.and_eq_true, inB, decide_eq_true_eq] at this
      omega
    obtain ⟨o1, o2⟩ := I.own v tv hv
    have hvl := getElem?_lt hv
    obtain ⟨i, rfl⟩ := Int.eq_ofNat_of_zero_le (show 0 ≤ at' by omega)
    have hi : i < 8 := by omega
    simp only [Int.toNat_natCast] at h2 ⊢
    obtain ⟨x0, hx0⟩ : ∃ x, tv.ps[i]? = some x := ⟨tv.ps[i]'(by omega), by simp [show i < tv.ps.length by omega]⟩
    have hup0 : x0.up = true := by
      have := h2.2.2
      simp [hx0] at this; exact this
    have port : ∀ (p : Nat) x, (tv.ps.set i ⟨true, true, ⟨g.m.best, g.m.steps, g.m.src, g.m.port, 0⟩, g.path, 0⟩)[p]? = some x → (p = i ∧ x = ⟨true, true, ⟨g.m.best, g.m.steps, g.m.src, g.m.port, 0⟩, g.path, 0⟩) ∨ (p ≠ i ∧ tv.ps[p]? = some x) := by
      intro p x hx
      by_cases e : p = i
      · subst e
        rw [List.getElem?_set_self (by omega)] at hx
        exact .inl ⟨rfl, (Option.some.inj hx).symm⟩
      · rw [List.getElem?_set_ne (Ne.symm e)] at hx
        exact .inr ⟨e, hx⟩
    refine ⟨by simp [I.len], ?_, ?_, ?_, ?_⟩
    · intro j t2 ht
      rcases get_set_tr hvl ht with ⟨rfl, rfl⟩ | ⟨_, ht⟩
      · exact ⟨o1, by simpa using o2⟩
      · exact I.own j t2 ht
    · intro j t2 p x ht hx
      rcases get_set_tr hvl ht with ⟨rfl, rfl⟩ | ⟨_, ht⟩
      · rcases port p x hx with ⟨rfl, rfl⟩ | ⟨_, hx⟩
        · have := I.up _ tv p x0 hv hx0
          rw [hup0] at this
          exact this
        · exact I.up _ tv p x hv hx
      · exact I.up j t2 p x ht hx
    · intro j t2 p x ht hx
      rcases get_set_tr hvl ht with ⟨rfl, rfl⟩ | ⟨_, ht⟩
      · rcases port p x hx with ⟨rfl, rfl⟩ | ⟨_, hx⟩
        · exact ⟨by simp, by simp, hsteps, by simp only; omega, by simp only; omega⟩
        · exact I.rng _ tv p x hv hx
      · exact I.rng j t2 p x ht hx
    · intro j t2 p x ht hx hok
      rcases get_set_tr hvl ht with ⟨rfl, rfl⟩ | ⟨_, ht⟩
      · rcases port p x hx with ⟨rfl, rfl⟩ | ⟨_, hx⟩
        · exact .inl ⟨g.path, [], by simp, by simp, by simp, by simp, by simp⟩
        · exact I.rec' _ tv p x hv hx hok
      · exact I.rec' j t2 p x ht hx hok
structure Lr where
  k : Int
  at' : Int
  kind : Int
  m : Ms
  pv : Value
  path : List Int
  now : Int
  on : Bool
  nn : Int
def Lr.cells (x : Lr) : List Value := .int .i64 x.k :: .int .i64 x.at' :: .int .i64 x.kind :: ((x.m.cells x.pv).drop 1 ++ [.int .i64 x.now, .bool x.on, .int .i64 x.nn])
theorem Lr.len (x : Lr) : x.cells.length = 21 := rfl
def liesC (xs : List Lr) : List Value := xs.flatMap Lr.cells
theorem liesC_len (xs : List Lr) : (liesC xs).length = xs.length * 21 := flat_len Lr.len xs
def env3 (R : Rw) (n : Nat) (lv : Value) (j : Nat) : Env := [(0, .slice (some ⟨R.hp, 0, none⟩) n 4), (2, lv), (7, .int .i64 n), (8, .pointer (some ⟨R.pt, 0, none⟩)), (14, .pointer (some ⟨R.pw, 0, none⟩)), (19, .int .i64 j)]
set_option maxHeartbeats 4000000 in
theorem loop3 {ps : List Pr} {n : Nat} (hn1 : 1 ≤ n) (hn7 : n ≤ 7) {A0 A : AHeap} {Hs : List TH} {R : Rw} {ws : List Wire} {ts : List Tr} (N : Net n (priOf ps) ws) (hI : Inv n (priOf ps) ws ts 0) (hL : L3 ps n A0 Hs A R ws ts) {xs : List Lr} {lv : Value}
    (hlv : ((∃ a s, lv = .slice a 0 s) ∧ xs = []) ∨ ∃ lb ro, lv = .slice (some ⟨lb, 0, none⟩) xs.length 21 ∧ A0.get lb = some (.cells ro (liesC xs))) (hxs : ∀ x ∈ xs, IntsAt A0 x.pv x.path) {h : Dep (DCode.loop F3c40)} {K : Exit → Env → AHeap → Prop}
    (hK : ∀ A' ts' j b, Inv n (priOf ps) ws ts' 0 → L3 ps n A0 Hs A' R ws ts' → K (.exit 4) (env3 R n lv j ++ [(190, .bool b)]) (A'.plus A'.next [])) :
    Cw Go.Proofs.Try.prog (.loop F3c40) h (env3 R n lv 0) (A.plus A.next []) K := by
  refine Cw_count 10 0 (fun j E A' => E = env3 R n lv j ∧ ∃ B ts', A' = B.plus B.next [] ∧ Inv n (priOf ps) ws ts' 0 ∧ L3 ps n A0 Hs B R ws ts') (by omega) ⟨rfl, A, ts, rfl, hI, hL⟩ ?_
  rintro j E A1 hj ⟨rfl, B, ts', rfl, I, L⟩
  rcases hlv with ⟨⟨a0, s0, rfl⟩, rfl⟩ | ⟨lb, ro, rfl, hlb⟩
  · simp -implicitDefEqProofs -dsimp [go_sem, get_set_eq, get_set_ne, get_del_ne, env3]
    refine cnd_mk' (fun k => by omega) (fun k => ?_)
    simp -implicitDefEqProofs -dsimp [go_sem, get_set_eq, get_set_ne, get_del_ne, k]
    exact hK B ts' j false I L
  simp -implicitDefEqProofs -dsimp [go_sem, get_set_eq, get_set_ne, get_del_ne, env3]
  refine cnd_mk' (fun k1 => ?_) (fun k1 => ?_)
  rotate_left
  · simp -implicitDefEqProofs -dsimp [go_sem, get_set_eq, get_set_ne, get_del_ne, k1]
    have := hK B ts' j false I L
    exact this
  simp -implicitDefEqProofs -dsimp [go_sem, get_set_eq, get_set_ne, get_del_ne, k1]
  refine cnd_mk' (fun k2 => ?_) (fun k2 => ?_)
  rotate_left
  · simp -implicitDefEqProofs -dsimp [go_sem, get_set_eq, get_set_ne, get_del_ne, k1, k2]
    exact hK B ts' j _ I L
  obtain ⟨x, hx⟩ : ∃ x, xs[j]? = some x := ⟨xs[j], by simp [k1]⟩
  have hv := hxs x (List.mem_of_getElem? hx)
  obtain ⟨pq, pc, hpv⟩ : ∃ q c, x.pv = .slice q x.path.length c := by
    rcases hv with ⟨h1, h2⟩ | ⟨b, ro, h1, _⟩
    · exact ⟨_, _, by rw [h1, h2]; rfl⟩
    · exact ⟨_, _, h1⟩
  have q0 := L.ext.keeps hlb
  have r0 := B.lt q0
  have hlc := liesC_len xs
  have bd : j * 21 + 21 ≤ xs.length * 21 := by omega
  have k1' : (j : Int) < xs.length := by omega
  have hc : x.cells = [.int .i64 x.k, .int .i64 x.at', .int .i64 x.kind, .int .i64 x.m.domain, .int .i64 x.m.seq, .int .i64 x.m.src, .int .i64 x.m.port, .int .i64 x.m.corr, .int .i64 x.m.time, .int .i64 x.m.to, .int .i64 x.m.toPort, .int .i64 x.m.rate, .int .i64 x.m.best.one, .int .i64 x.m.best.cls, .int .i64 x.m.best.two, .int .i64 x.m.best.id, .int .i64 x.m.steps, x.pv, .int .i64 x.now, .bool x.on, .int .i64 x.nn] := rfl
  have cg : ∀ (o : Nat), o < 21 → (liesC xs)[j * 21 + o]? = x.cells[o]? := fun o ho => flat_get Lr.len hx ho
  have c1 : (liesC xs)[j * 21 + 1]? = some (.int .i64 x.at') := cg 1 (by omega)
  have c17 : (liesC xs)[j * 21 + 17]? = some x.pv := cg 17 (by omega)
  have c20 : (liesC xs)[j * 21 + 20]? = some (.int .i64 x.nn) := cg 20 (by omega)
  have hld : List.take 16 (List.drop (j * 21 + 2) (liesC xs)) = .int .i64 x.kind :: (x.m.cells x.pv).drop 1 := by
    obtain ⟨r, hr⟩ := flat_drop Lr.len hx
    rw [← List.drop_drop]
    change List.take 16 (List.drop 2 (List.drop (j * 21) (xs.flatMap Lr.cells))) = _
    rw [hr, hc]; rfl
  have k2' : (j : Int) < 10 := by omega
  simp -implicitDefEqProofs -dsimp [go_sem, get_set_eq, get_set_ne, get_del_ne, q0, r0, k1, k1', k2, c1, c17, c20, hlc, bd, hpv]
  refine cnd_mk' (fun k3 => ?_) (fun k3 => ?_)
  rotate_left
  · simp -implicitDefEqProofs -dsimp [go_sem, get_set_eq, get_set_ne, get_del_ne, k3]
    refine ⟨by omega, by rw [wrap_i64 (by omega)]; rfl, ?_⟩
    first | exact ⟨B, ts', rfl, I, L⟩ | exact ⟨B, rfl, ts', I, L⟩
  obtain ⟨v, hvn, hve⟩ := rem_mask x.nn (n := n) (by omega)
  have m2 := and_mask x.nn 10 (by omega)
  have hn0 : ¬ n = 0 := by omega
  have g1 := L.gpt
  have g2 := L.ght
  have r1 := B.lt g1
  have r2 := B.lt g2
  have lp : (ptrs Hs).length = n := by simp [ptrs, L.len]
  have lv : v < Hs.length := by rw [L.len]; exact hvn
  have pv : (ptrs Hs)[v]'(by omega) = .pointer (some ⟨(Hs[v]).p, 0, none⟩) := by simp [ptrs]
  have bd2 : j * 21 + 18 ≤ xs.length * 21 := by omega
  simp -implicitDefEqProofs -dsimp [go_sem, get_set_eq, get_set_ne, get_del_ne, q0, r0, k1, k1', k2, c1, c17, c20, hlc, bd, bd2, hpv, hld, m2, hve, hn0, g1, g2, r1, r2, lp, hvn, pv, Ms.cells]
  have hHv : Hs[v]? = some Hs[v] := by simp [lv]
  obtain ⟨tv, htv⟩ : ∃ t, ts'[v]? = some t := ⟨ts'[v]'(by rw [I.len]; exact hvn), by simp [show v < ts'.length by rw [I.len]; exact hvn]⟩
  have hvB : IntsAt B x.pv x.path := hv.ext L.ext
  rw [hpv] at hvB
  refine c7 (t := tv) (H := Hs[v]) (kind := x.kind) (g := ⟨x.m, x.path⟩) (at' := x.at') (by simp only; omega) ((L.tr.at' v _ tv hHv htv).ext (ext_plus _ _)) (hvB.ext (ext_plus _ _)) (fun _ A3 e3 => ?_) (fun _ A3 m3 T3 => ?_)
  · rw [plus_nil] at e3
    simp -implicitDefEqProofs -dsimp [go_sem, get_set_eq, get_set_ne, get_del_ne, ]
    refine ⟨by omega, by rw [wrap_i64 (by omega)]; rfl, ?_⟩
    first | exact ⟨A3, ts', rfl, I, L.later e3⟩ | exact ⟨A3, rfl, ts', I, L.later e3⟩
  · rw [plus_nil] at m3
    have I3 := lie_inv N I htv x.at' ⟨x.m, x.path⟩
    have L3' := L.mod (m3.sub (rows_all hHv)) (L.tr.put hHv m3 T3)
    simp -implicitDefEqProofs -dsimp [go_sem, get_set_eq, get_set_ne, get_del_ne, ]
    refine ⟨by omega, by rw [wrap_i64 (by omega)]; rfl, ?_⟩
    first | exact ⟨A3, _, rfl, I3, L3'⟩ | exact ⟨A3, rfl, _, I3, L3'⟩
end Go.Proofs.Ytckdmhjhjfmcdaa.Sx
