/-
  TreeForms, second stage: the links, in the program.
-/
import Derived.Test.YtckdmhjhjfmcdaaTu
namespace Go.Proofs.Ytckdmhjhjfmcdaa.Sx
set_option linter.unusedSimpArgs false
set_option linter.unusedVariables false
open Go
set_option maxRecDepth 40000
attribute [local go_sem] hide1 Un_succ z_skip z_exit z_ret z_row z_seq z_cond z_block z_inBlock_exit z_end_ret z_end_normal z_light z_alloc z_heavy z_guard z_dnil z_dlight z_dalloc z_dguard z_dheavy z_dheavyg z_store z_call z_callv z_append z_apd_nil z_apd_some z_copy z_pick z_load z_nilchk z_bin z_un z_min2 z_mkfunc z_conv z_fieldAddr z_field z_idxArr z_idxSl z_indexA z_extract z_lenS z_build z_box z_mkslice z_makeslice z_cnd_true z_cnd_false z_gd_bool z_gd_tup wpR_nil re_nil z_re z_reg cpy_nil cpy_some l_mov a_alloc a_mkmap ev_tmp ev_int ev_bool ev_nilp ev_nils ev_nilm ev_nilf ev_str ev_func kc_some kc_none keep_kc keep_nil keep_empty thenK_normal thenK_ret thenK_exit keepK_normal keepK_ret keepK_exit inBlockK_normal inBlockK_ret Env.get Env.put enterE evalL evalParts fillL putCells cellsOf partV loadV bnd dbin dint dun dcmp deq sameL same0 noTup closedV closedS retV resL sliceCells rc_nil rc_cons rc_consg rck_load ldV_some ldO_cells evalG plus_next plus_get_new plus_get_new0 plus_get_old plus_alloc plus_set_new plus_set_new0 plus_set_old plus_del_new plus_del_new0 plus_del_old plus_reserve0 plus_reserve1 plus_reserve2 plus_reserve3 plus_reserve4 plus_reserve5 plus_reserve6 plus_plus nx_set nx_del set_set obl_some obl_none obP_some obP_none obS_some obI_int obB_bool obA_agg obT_tup obF_func obC_cells obM_map obL_slice Nat.add_assoc
def natsC (l : List Nat) : List Value := l.map fun x : Nat => .int .i64 (x : Int)
theorem natsC_get (l : List Nat) (i : Nat) : (natsC l)[i]? = (l[i]?).map fun x : Nat => .int .i64 (x : Int) := by simp [natsC]
theorem natsC_len (l : List Nat) : (natsC l).length = l.length := by simp [natsC]
theorem natsC_set (l : List Nat) (i x : Nat) : (natsC l).set i (.int .i64 (x : Int)) = natsC (l.set i x) := by simp [natsC, List.map_set]
/-- The rows of TreeForms that are no tree's. -/
structure Rw where
  hp : Nat
  pt : Nat
  ht : Nat
  hf : Nat
  pw : Nat
  hw : Nat
def Rw.list (R : Rw) : List Nat := [R.hp, R.pt, R.ht, R.hf, R.pw, R.hw]
structure L2 (ps : List Pr) (n : Nat) (A0 : AHeap) (Hs : List TH) (A : AHeap) (R : Rw) (ws : List Wire) (fr : List Nat) : Prop where
  ext : Ext A0 A
  len : Hs.length = n
  gpr : A.get R.hp = some (.cells false (prsC (mixP ps n)))
  gpt : A.get R.pt = some (.cells false [.slice (some ⟨R.ht, 0, none⟩) n 1])
  ght : A.get R.ht = some (.cells false (ptrs Hs))
  gf : A.get R.hf = some (.cells false (natsC fr))
  gpw : A.get R.pw = some (.cells false [.slice (some ⟨R.hw, 0, none⟩) ws.length 4])
  ghw : A.get R.hw = some (.cells false (wiresC ws))
  tr : TsAt A Hs (tsOf ps n fr)
  nt : Nt n ws fr
  nd : R.list.Nodup
  new : ∀ x ∈ R.list, A0.next ≤ x
  rows : ∀ x ∈ R.list, x ∉ allRows Hs
  nrows : ∀ x ∈ allRows Hs, A0.next ≤ x
theorem L2.later {ps : List Pr} {n : Nat} {A0 A B : AHeap} {Hs : List TH} {R : Rw} {ws : List Wire} {fr : List Nat} (L : L2 ps n A0 Hs A R ws fr) (e : Ext A B) : L2 ps n A0 Hs B R ws fr :=
  ⟨L.ext.trans e, L.len, e.keeps L.gpr, e.keeps L.gpt, e.keeps L.ght, e.keeps L.gf, e.keeps L.gpw, e.keeps L.ghw, L.tr.ext e, L.nt, L.nd, L.new, L.rows, L.nrows⟩
theorem Ext.ofMod {S : List Nat} {A B C : AHeap} (e : Ext A B) (m : Mod S B C) (hs : ∀ x ∈ S, A.next ≤ x) : Ext A C :=
  ⟨Nat.le_trans e.next m.next, fun x hx => (m.get x (Nat.lt_of_lt_of_le hx e.next) (fun hm => by have := hs x hm; omega)).trans (e.get x hx)⟩
theorem Rw.ne {R : Rw} (h : R.list.Nodup) : R.hp ≠ R.pt ∧ R.hp ≠ R.ht ∧ R.hp ≠ R.hf ∧ R.hp ≠ R.pw ∧ R.hp ≠ R.hw ∧ R.pt ≠ R.ht ∧ R.pt ≠ R.hf ∧ R.pt ≠ R.pw ∧ R.pt ≠ R.hw ∧ R.ht ≠ R.hf ∧ R.ht ≠ R.pw ∧ R.ht ≠ R.hw ∧ R.hf ≠ R.pw ∧ R.hf ≠ R.hw ∧ R.pw ≠ R.hw := by
  simp [Rw.list] at h
  refine ⟨?_, ?_, ?_, ?_, ?_, ?_, ?_, ?_, ?_, ?_, ?_, ?_, ?_, ?_, ?_⟩ <;> (intro e; simp_all)
def lC (l : Int × Int) : List Value := [.int .i64 l.1, .int .i64 l.2]
theorem lC_len (l : Int × Int) : (lC l).length = 2 := rfl
def lsC (ls : List (Int × Int)) : List Value := ls.flatMap lC
theorem lsC_len (ls : List (Int × Int)) : (lsC ls).length = ls.length * 2 := flat_len lC_len ls
theorem rem_mask (x : Int) {n : Nat} (hn : 0 < n) : ∃ a : Nat, a < n ∧ (x % 1024).tmod n = (a : Nat) := by
  have h0 : 0 ≤ x % 1024 := Int.emod_nonneg _ (by omega)
  refine ⟨(x % 1024).toNat % n, Nat.mod_lt _ hn, ?_⟩
  have e : x % 1024 = ((x % 1024).toNat : Int) := (Int.toNat_of_nonneg h0).symm
  rw [e, Int.tmod_eq_emod_of_nonneg (by omega)]
  simp
def env2 (R : Rw) (n m : Nat) (a2 lv : Value) (j : Nat) : Env := [(0, .slice (some ⟨R.hp, 0, none⟩) n 4), (2, a2), (7, .int .i64 n), (8, .pointer (some ⟨R.pt, 0, none⟩)), (13, .slice (some ⟨R.hf, 0, none⟩) n 1), (14, .pointer (some ⟨R.pw, 0, none⟩)), (103, lv), (104, .int .i64 m), (105, .int .i64 j)]
set_option maxHeartbeats 4000000 in
theorem loop2 {ps : List Pr} {n : Nat} (hn1 : 1 ≤ n) (hn7 : n ≤ 7) {A0 A : AHeap} {Hs : List TH} {R : Rw} (hL : L2 ps n A0 Hs A R [] (List.replicate n 0)) {ls : List (Int × Int)} (hls : ls.length ≤ 12) {lv a2 : Value}
    (hlv : ((∃ a s, lv = .slice a 0 s) ∧ ls = []) ∨ ∃ lb ro, lv = .slice (some ⟨lb, 0, none⟩) ls.length 2 ∧ A0.get lb = some (.cells ro (lsC ls))) {h : Dep (DCode.loop F3c31)} {K : Exit → Env → AHeap → Prop}
    (hK : ∀ A' R' ws fr, R'.hp = R.hp → R'.pt = R.pt → R'.pw = R.pw → ws.length ≤ 12 → L2 ps n A0 Hs A' R' ws fr → K (.exit 2) ((0, .slice (some ⟨R.hp, 0, none⟩) n 4) :: (2, a2) :: (7, .int .i64 n) :: (8, .pointer (some ⟨R.pt, 0, none⟩)) :: (13, .slice (some ⟨R.hf, 0, none⟩) n 1) :: (14, .pointer (some ⟨R.pw, 0, none⟩)) :: [(103, lv), (104, .int .i64 ls.length), (105, .int .i64 ls.length), (106, .bool false)]) (A'.plus A'.next [])) :
    Cw Go.Proofs.Try.prog (.loop F3c31) h (env2 R n ls.length a2 lv 0) (A.plus A.next []) K := by
  refine Cw_count ls.length 0 (fun j E A' => E = env2 R n ls.length a2 lv j ∧
    ∃ B hw ws fr, A' = B.plus B.next [] ∧ ws.length ≤ j ∧ L2 ps n A0 Hs B { R with hw := hw } ws fr) (by omega) ⟨rfl, A, R.hw, [], _, rfl, by simp, hL⟩ ?_
  rintro j E A1 hj ⟨rfl, B, hw, ws, fr, rfl, hwj, L⟩
  simp -implicitDefEqProofs -dsimp [go_sem, get_set_eq, get_set_ne, get_del_ne, env2]
  refine cnd_mk' (fun hlt' => ?_) (fun hge => ?_)
  · have hlt : j < ls.length := by omega
    obtain ⟨l, hl0⟩ : ∃ l, ls[j]? = some l := ⟨ls[j], by simp [hlt]⟩
    rcases hlv with ⟨_, hnil⟩ | ⟨lb, ro, rfl, hlb⟩
    · rw [hnil] at hlt; simp at hlt
    have q0 := L.ext.keeps hlb
    have r0 := B.lt q0
    have hld : List.take 2 (List.drop (j * 2) (lsC ls)) = [.int .i64 l.1, .int .i64 l.2] := flat_take lC_len hl0
    have hlc := lsC_len ls
    have bd : j * 2 + 2 ≤ ls.length * 2 := by omega
    have m1 := and_mask l.1 10 (by omega)
    have m2 := and_mask l.2 10 (by omega)
    obtain ⟨a, ha, hae⟩ := rem_mask l.1 (n := n) (by omega)
    obtain ⟨b, hb, hbe⟩ := rem_mask l.2 (n := n) (by omega)
    have hn0 : ¬ n = 0 := by omega
    simp -implicitDefEqProofs -dsimp [go_sem, get_set_eq, get_set_ne, get_del_ne, q0, r0, hlt, hlt', hld, hlc, bd, m1, m2, hae, hbe, hn0]
    have gf := L.gf
    have rf := B.lt gf
    have lf : (natsC fr).length = n := by rw [natsC_len, L.nt.len]
    have gget : ∀ (i : Nat) (hi : i < n), (natsC fr)[i]'(by omega) = .int .i64 (fr.getD i 0 : Nat) := by
      intro i hi
      have : (natsC fr)[i]? = some (.int .i64 (fr.getD i 0 : Nat)) := by
        rw [natsC_get, List.getD_eq_getElem?_getD, List.getElem?_eq_getElem (by rw [L.nt.len]; exact hi)]; rfl
      rw [List.getElem?_eq_getElem (by omega)] at this; exact Option.some.inj this
    have gfa := gget a ha
    have gfb := gget b hb
    generalize hfa : fr.getD a 0 = fa at gfa
    generalize hfb : fr.getD b 0 = fb at gfb
    have ha' : (a : Int) < n := by omega
    have hb' : (b : Int) < n := by omega
    have cont : ∀ L', j + 1 ≤ ls.length ∧ [(0, .slice (some ⟨R.hp, 0, none⟩) n 4), (2, a2), (7, .int .i64 n), (8, .pointer (some ⟨R.pt, 0, none⟩)), (13, .slice (some ⟨R.hf, 0, none⟩) n 1), (14, .pointer (some ⟨R.pw, 0, none⟩)), (103, .slice (some ⟨lb, 0, none⟩) ls.length 2), (104, .int .i64 ls.length), (105, .int .i64 (IntKind.i64.wrap ((j : Int) + 1)))] = env2 R n ls.length a2 (.slice (some ⟨lb, 0, none⟩) ls.length 2) (j + 1) ∧
        ∃ B1 : AHeap, B.plus B.next L' = B1.plus B1.next [] ∧ ∃ hw, ∃ ws : List Wire, ws.length ≤ j + 1 ∧ ∃ fr, L2 ps n A0 Hs B1 { hp := R.hp, pt := R.pt, ht := R.ht, hf := R.hf, pw := R.pw, hw := hw } ws fr :=
      fun L' => ⟨hlt, by rw [wrap_i64 (by omega)]; rfl, B.plus B.next L', (plus_nil _).symm, hw, ws, by omega, fr, L.later (ext_plus _ _)⟩
    refine cnd_mk' (fun k1 => ?_) (fun k1 => ?_)
    · simp -implicitDefEqProofs -dsimp [go_sem, get_set_eq, get_set_ne, get_del_ne, gf, rf, lf, gfa, gfb, ha, hb, ha', hb', k1]
      refine cnd_mk' (fun k2 => ?_) (fun k2 => ?_)
      · simp -implicitDefEqProofs -dsimp [go_sem, get_set_eq, get_set_ne, get_del_ne, gf, rf, lf, gfa, gfb, ha, hb, ha', hb', k1, k2]
        refine cnd_mk' (fun k3 => ?_) (fun k3 => ?_)
        · simp -implicitDefEqProofs -dsimp [go_sem, get_set_eq, get_set_ne, get_del_ne, gf, rf, lf, gfa, gfb, ha, hb, ha', hb', k1, k2, k3]
          exact cont _
        · obtain ⟨d1, d2, d3, d4, d5, d6, d7, d8, d9, d10, d11, d12, d13, d14, d15⟩ := Rw.ne L.nd
          simp only at d1 d2 d3 d4 d5 d6 d7 d8 d9 d10 d11 d12 d13 d14 d15
          have gpw := L.gpw
          have ghw := L.ghw
          have gpt := L.gpt
          have ght := L.ght
          simp only at gpw ghw gpt ght gf
          have rpw := B.lt gpw
          have rhw := B.lt ghw
          have rpt := B.lt gpt
          have rht := B.lt ght
          have lwc := wiresC_len ws
          have lp : (ptrs Hs).length = n := by simp [ptrs, L.len]
          have la : a < Hs.length := by rw [L.len]; exact ha
          have lb' : b < Hs.length := by rw [L.len]; exact hb
          have pga : ∀ {i : Nat} (hi : i < Hs.length), (ptrs Hs)[i]'(by rw [lp, ← L.len]; exact hi) = .pointer (some ⟨(Hs[i]).p, 0, none⟩) := by
            intro i hi
            simp [ptrs]
          have pa := pga la
          have pb := pga lb'
          simp -implicitDefEqProofs -dsimp [go_sem, get_set_eq, get_set_ne, get_del_ne, gpw, ghw, gpt, ght, gf, rpw, rhw, rpt, rht, rf, gfa, gfb, lf, lp, ha, hb, ha', hb', lwc, d1, d2, d3, d4, d5, d6, d7, d8, d9, d10, d11, d12, d13, d14, d15, d1.symm, d2.symm, d3.symm, d4.symm, d5.symm, d6.symm, d7.symm, d8.symm, d9.symm, d10.symm, d11.symm, d12.symm, d13.symm, d14.symm, d15.symm, pa, pb]
          refine ⟨by omega, ?_⟩
          have fa8 : fa < 8 := by
            have := L.nt.le8 a; rw [hfa] at this
            have : ¬ fa = 8 := fun e => k2 (by rw [e]; rfl)
            omega
          have fb8 : fb < 8 := by
            have := L.nt.le8 b; rw [hfb] at this
            have : ¬ fb = 8 := fun e => k3 (by rw [e]; rfl)
            omega
          have hab : a ≠ b := fun e => k1 (by rw [e])
          have hsnoc : wiresC (ws ++ [((a, fa), (b, fb))]) = wiresC ws ++ [.int .i64 a, .int .i64 fa, .int .i64 b, .int .i64 fb] := by simp [wiresC, wireC]
          have M1 : Mod [hw, R.pw] B (((B.del hw).set R.pw (.cells false [.slice (some ⟨B.next + 2, 0, none⟩) (ws.length + 1) 4])).plus B.next [some (.cells false [.int .i64 l.1, .int .i64 l.2]), some (.cells false [.int .i64 a, .int .i64 fa, .int .i64 b, .int .i64 fb]), some (.cells false (wiresC ws ++ [.int .i64 a, .int .i64 fa, .int .i64 b, .int .i64 fb]))]) :=
            mod_plus (((Mod.refl _ B).del (by simp) ghw).set (cs := _) (by simp) (by rw [get_del_ne d15]; exact gpw)) _ (by rw [nx_set, nx_del])
          have E1 : Ext A0 (((B.del hw).set R.pw (.cells false [.slice (some ⟨B.next + 2, 0, none⟩) (ws.length + 1) 4])).plus B.next [some (.cells false [.int .i64 l.1, .int .i64 l.2]), some (.cells false [.int .i64 a, .int .i64 fa, .int .i64 b, .int .i64 fb]), some (.cells false (wiresC ws ++ [.int .i64 a, .int .i64 fa, .int .i64 b, .int .i64 fb]))]) := by
            have := ((L.ext.del' (L.new hw (by simp [Rw.list]))).set' (L.new R.pw (by simp [Rw.list])) (.cells false [.slice (some ⟨B.next + 2, 0, none⟩) (ws.length + 1) 4])).trans (ext_plus _ [some (.cells false [.int .i64 l.1, .int .i64 l.2]), some (.cells false [.int .i64 a, .int .i64 fa, .int .i64 b, .int .i64 fb]), some (.cells false (wiresC ws ++ [.int .i64 a, .int .i64 fa, .int .i64 b, .int .i64 fb]))])
            rw [nx_set, nx_del] at this
            exact this
          have gw1 : (((B.del hw).set R.pw (.cells false [.slice (some ⟨B.next + 2, 0, none⟩) (ws.length + 1) 4])).plus B.next [some (.cells false [.int .i64 l.1, .int .i64 l.2]), some (.cells false [.int .i64 a, .int .i64 fa, .int .i64 b, .int .i64 fb]), some (.cells false (wiresC ws ++ [.int .i64 a, .int .i64 fa, .int .i64 b, .int .i64 fb]))]).get R.pw = some (.cells false [.slice (some ⟨B.next + 2, 0, none⟩) (ws.length + 1) 4]) := by
            rw [plus_get_old rpw, get_set_eq rfl (by rw [nx_del]; exact rpw)]
          have gw2 : (((B.del hw).set R.pw (.cells false [.slice (some ⟨B.next + 2, 0, none⟩) (ws.length + 1) 4])).plus B.next [some (.cells false [.int .i64 l.1, .int .i64 l.2]), some (.cells false [.int .i64 a, .int .i64 fa, .int .i64 b, .int .i64 fb]), some (.cells false (wiresC ws ++ [.int .i64 a, .int .i64 fa, .int .i64 b, .int .i64 fb]))]).get (B.next + 2) = some (.cells false (wiresC ws ++ [.int .i64 a, .int .i64 fa, .int .i64 b, .int .i64 fb])) := by
            rw [plus_get_new]; rfl
          have nB1 : (((B.del hw).set R.pw (.cells false [.slice (some ⟨B.next + 2, 0, none⟩) (ws.length + 1) 4])).plus B.next [some (.cells false [.int .i64 l.1, .int .i64 l.2]), some (.cells false [.int .i64 a, .int .i64 fa, .int .i64 b, .int .i64 fb]), some (.cells false (wiresC ws ++ [.int .i64 a, .int .i64 fa, .int .i64 b, .int .i64 fb]))]).next = B.next + 3 := by rw [plus_next]; rfl
          generalize ((B.del hw).set R.pw (.cells false [.slice (some ⟨B.next + 2, 0, none⟩) (ws.length + 1) 4])).plus B.next [some (.cells false [.int .i64 l.1, .int .i64 l.2]), some (.cells false [.int .i64 a, .int .i64 fa, .int .i64 b, .int .i64 fb]), some (.cells false (wiresC ws ++ [.int .i64 a, .int .i64 fa, .int .i64 b, .int .i64 fb]))] = B1 at M1 E1 gw1 gw2 nB1 ⊢
          have hpw : R.pw ∉ allRows Hs := L.rows R.pw (by simp [Rw.list])
          have hhw : hw ∉ allRows Hs := L.rows hw (by simp [Rw.list])
          have T1 : TsAt B1 Hs (tsOf ps n fr) := L.tr.mod' M1 (fun x hx hm => by
            simp at hm
            rcases hm with rfl | rfl
            · exact hhw hx
            · exact hpw hx)
          have hHa : Hs[a]? = some Hs[a] := by simp [la]
          have hHb : Hs[b]? = some Hs[b] := by simp [lb']
          have hta := tsOf_get ps fr ha
          have htb := tsOf_get ps fr hb
          rw [hfa] at hta
          rw [hfb] at htb
          refine c6 fa8 (x := port0) (by rw [mkT_get _ _ fa8, if_neg (Nat.lt_irrefl _)]) rfl (T1.at' a _ _ hHa hta) fun B2 M2 n2 t2 => ?_
          rw [show (⟨true, false, zv, [], port0.when⟩ : Port) = portU from rfl, mkT_put _ fa8] at t2
          have T2 : TsAt B2 Hs (tsOf ps n (fr.set a (fa + 1))) := by
            rw [tsOf_set ps L.nt.len ha]; exact T1.put hHa M2 t2
          have rowsR : ∀ x ∈ ({ R with hw := hw } : Rw).list, x ∉ allRows Hs := L.rows
          have hnr : ∀ {q : Nat} {o : AObj}, q ∉ allRows Hs → B1.get q = some o → B2.get q = some o := fun hq hg => M2.keeps (fun hm => hq (rows_all hHa _ hm)) hg
          have hpt : R.pt ∉ allRows Hs := L.rows R.pt (by simp [Rw.list])
          have hht : R.ht ∉ allRows Hs := L.rows R.ht (by simp [Rw.list])
          have hhf : R.hf ∉ allRows Hs := L.rows R.hf (by simp [Rw.list])
          have hhp : R.hp ∉ allRows Hs := L.rows R.hp (by simp [Rw.list])
          have b1pt := M1.keeps (by simp [d9, d8]) gpt
          have b1ht := M1.keeps (by simp [d12, d11]) ght
          have b1hf := M1.keeps (by simp [d14, d13]) gf
          have b1hp := M1.keeps (by simp [d5, d4]) L.gpr
          have b2pt := hnr hpt b1pt
          have b2ht := hnr hht b1ht
          have b2hf := hnr hhf b1hf
          have s2pt := B2.lt b2pt
          have s2ht := B2.lt b2ht
          have s2hf := B2.lt b2hf
          simp -implicitDefEqProofs -dsimp [go_sem, get_set_eq, get_set_ne, get_del_ne, b2pt, b2ht, b2hf, s2pt, s2ht, s2hf, gfa, gfb, lf, lp, ha, hb, ha', hb', pa, pb]
          have htb2 : (tsOf ps n (fr.set a (fa + 1)))[b]? = some (mkT (priOf ps b) fb) := by
            rw [tsOf_set ps L.nt.len ha, List.getElem?_set_ne hab]; exact htb
          refine c6 fb8 (x := port0) (by rw [mkT_get _ _ fb8, if_neg (Nat.lt_irrefl _)]) rfl ((T2.ext (ext_plus B2 [])).at' b _ _ hHb htb2) fun B3 M3 n3 t3 => ?_
          rw [plus_nil] at M3 n3
          rw [show (⟨true, false, zv, [], port0.when⟩ : Port) = portU from rfl, mkT_put _ fb8] at t3
          have T3 : TsAt B3 Hs (tsOf ps n ((fr.set a (fa + 1)).set b (fb + 1))) := by
            rw [tsOf_set ps (by simp [L.nt.len]) hb]; exact T2.put hHb M3 t3
          have hnr3 : ∀ {q : Nat} {o : AObj}, q ∉ allRows Hs → B2.get q = some o → B3.get q = some o := fun hq hg => M3.keeps (fun hm => hq (rows_all hHb _ hm)) hg
          have b3hf := hnr3 hhf b2hf
          have s3hf := B3.lt b3hf
          have wfa : IntKind.i64.wrap ((fa : Int) + 1) = (fa : Int) + 1 := wrap_i64 (by omega)
          have wfb : IntKind.i64.wrap ((fb : Int) + 1) = (fb : Int) + 1 := wrap_i64 (by omega)
          have st1 : (natsC fr).set a (.int .i64 ((fa : Int) + 1)) = natsC (fr.set a (fa + 1)) := natsC_set fr a (fa + 1)
          have st2 : (natsC (fr.set a (fa + 1))).set b (.int .i64 ((fb : Int) + 1)) = natsC ((fr.set a (fa + 1)).set b (fb + 1)) := natsC_set (fr.set a (fa + 1)) b (fb + 1)
          have lf2 : (natsC (fr.set a (fa + 1))).length = n := by rw [natsC_len]; simp [L.nt.len]
          have gfb2 : (natsC (fr.set a (fa + 1)))[b]'(by omega) = .int .i64 fb := by
            have h0 : (natsC (fr.set a (fa + 1)))[b]? = some (.int .i64 fb) := by
              rw [natsC_get, List.getElem?_set_ne hab, List.getElem?_eq_getElem (by rw [L.nt.len]; exact hb)]
              rw [← hfb, List.getD_eq_getElem?_getD, List.getElem?_eq_getElem (by rw [L.nt.len]; exact hb)]; rfl
            rw [List.getElem?_eq_getElem (by omega)] at h0; exact Option.some.inj h0
          simp -implicitDefEqProofs -dsimp [go_sem, get_set_eq, get_set_ne, get_del_ne, b3hf, s3hf, gfa, gfb2, lf, lf2, ha, hb, ha', hb', wfa, wfb, st1, st2]
          have e2 := E1.ofMod M2 (fun x hx => L.nrows x (rows_all hHa x hx))
          have e3 := e2.ofMod M3 (fun x hx => L.nrows x (rows_all hHb x hx))
          have up : ∀ {q : Nat} {o : AObj}, q ∉ allRows Hs → q ≠ R.hf → B1.get q = some o → (B3.set R.hf (.cells false (natsC ((fr.set a (fa + 1)).set b (fb + 1))))).get q = some o := by
            intro q o hq hne hg
            rw [get_set_ne hne]
            exact hnr3 hq (hnr hq hg)
          have rlt := L.tr.rows_lt
          have hnew : B.next + 2 ∉ allRows Hs := fun hm => by have := rlt _ hm; omega
          have rhp := B.lt L.gpr
          simp only at rhp
          have rf' : R.hf < B.next := rf
          have rpw' : R.pw < B.next := rpw
          have rpt' : R.pt < B.next := rpt
          have rht' : R.ht < B.next := rht
          have rhp' : R.hp < B.next := rhp
          have hft := L.nt.step ha hb hab (by rw [hfa]; exact fa8) (by rw [hfb]; exact fb8)
          rw [hfa, hfb] at hft
          refine ⟨by omega, by omega, hlt, by rw [wrap_i64 (by omega)]; rfl, B3.set R.hf (.cells false (natsC ((fr.set a (fa + 1)).set b (fb + 1)))), (plus_nil' (nx_set _ _ _)).trans (plus_nil _).symm, B.next + 2, ws ++ [((a, fa), (b, fb))], by simp; omega, (fr.set a (fa + 1)).set b (fb + 1), ?_⟩
          refine ⟨e3.set' (L.new R.hf (by simp [Rw.list])) _, L.len, up hhp d3 b1hp, up hpt d7 b1pt, up hht d10 b1ht, get_set_eq rfl s3hf, ?_, ?_, T3.set hhf b3hf, hft, ?_, ?_, ?_, L.nrows⟩
          · have := up hpw d13.symm gw1
            simpa using this
          · rw [hsnoc]
            exact up hnew (show B.next + 2 ≠ R.hf by omega) gw2
          · simp only [Rw.list, List.nodup_cons, List.mem_cons, List.not_mem_nil, or_false, not_or, not_false_eq_true, List.nodup_nil, and_true]
            exact ⟨⟨d1, d2, d3, d4, by omega⟩, ⟨d6, d7, d8, by omega⟩, ⟨d10, d11, by omega⟩, ⟨d13, by omega⟩, by omega⟩
          · intro x hx
            simp only [Rw.list, List.mem_cons, List.not_mem_nil, or_false] at hx
            rcases hx with rfl | rfl | rfl | rfl | rfl | rfl
            · exact L.new _ (by simp [Rw.list])
            · exact L.new _ (by simp [Rw.list])
            · exact L.new _ (by simp [Rw.list])
            · exact L.new _ (by simp [Rw.list])
            · exact L.new _ (by simp [Rw.list])
            · have := L.ext.next; omega
          · intro x hx
            simp only [Rw.list, List.mem_cons, List.not_mem_nil, or_false] at hx
            rcases hx with rfl | rfl | rfl | rfl | rfl | rfl
            · exact hhp
            · exact hpt
            · exact hht
            · exact hhf
            · exact hpw
            · exact hnew
      · simp -implicitDefEqProofs -dsimp [go_sem, get_set_eq, get_set_ne, get_del_ne, gf, rf, lf, gfa, gfb, ha, hb, ha', hb', k1, k2]
        exact cont _
    · simp -implicitDefEqProofs -dsimp [go_sem, get_set_eq, get_set_ne, get_del_ne, gf, rf, lf, gfa, gfb, ha, hb, ha', hb', k1]
      exact cont _
  · have hi2 : j = ls.length := by omega
    subst hi2
    simp -implicitDefEqProofs -dsimp [go_sem, get_set_eq, get_set_ne, get_del_ne, hge]
    exact hK B { R with hw := hw } ws fr rfl rfl rfl (by omega) L
end Go.Proofs.Ytckdmhjhjfmcdaa.Sx
