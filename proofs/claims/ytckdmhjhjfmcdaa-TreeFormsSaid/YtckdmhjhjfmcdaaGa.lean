/-
  TreeForms, fifth stage: the groups.
-/
import Derived.Test.YtckdmhjhjfmcdaaTy
namespace Go.Proofs.Ytckdmhjhjfmcdaa.Sx
set_option linter.unusedSimpArgs false
set_option linter.unusedVariables false
open Go
set_option maxRecDepth 40000
attribute [local go_sem] hide1 Un_succ z_skip z_exit z_ret z_row z_seq z_cond z_block z_inBlock_exit z_end_ret z_end_normal z_light z_alloc z_heavy z_guard z_dnil z_dlight z_dalloc z_dguard z_dheavy z_dheavyg z_store z_call z_callv z_append z_apd_nil z_apd_some z_copy z_pick z_load z_nilchk z_bin z_un z_min2 z_mkfunc z_conv z_fieldAddr z_field z_idxArr z_idxSl z_indexA z_extract z_lenS z_build z_box z_mkslice z_makeslice z_cnd_true z_cnd_false z_gd_bool z_gd_tup wpR_nil re_nil z_re z_reg cpy_nil cpy_some l_mov a_alloc a_mkmap ev_tmp ev_int ev_bool ev_nilp ev_nils ev_nilm ev_nilf ev_str ev_func kc_some kc_none keep_kc keep_nil keep_empty thenK_normal thenK_ret thenK_exit keepK_normal keepK_ret keepK_exit inBlockK_normal inBlockK_ret Env.get Env.put enterE evalL evalParts fillL putCells cellsOf partV loadV bnd dbin dint dun dcmp deq sameL same0 noTup closedV closedS retV resL sliceCells rc_nil rc_cons rc_consg rck_load ldV_some ldO_cells evalG plus_next plus_get_new plus_get_new0 plus_get_old plus_alloc plus_set_new plus_set_new0 plus_set_old plus_del_new plus_del_new0 plus_del_old plus_reserve0 plus_reserve1 plus_reserve2 plus_reserve3 plus_reserve4 plus_reserve5 plus_reserve6 plus_plus nx_set nx_del set_set obl_some obl_none obP_some obP_none obS_some obI_int obB_bool obA_agg obT_tup obF_func obC_cells obM_map obL_slice Nat.add_assoc
/-- Those that are still in use. -/
def Rw.now (R : Rw) : List Nat := [R.hp, R.pt, R.ht, R.pw, R.hw]
section
variable {ps : List Pr} {n : Nat} {A0 A B : AHeap} {Hs : List TH} {R : Rw} {ws : List Wire} {ts ts' : List Tr} {fr : List Nat}
/-- A row of its own is written anew. -/
theorem L3.set (L : L3 ps n A0 Hs A R ws ts) {q : Nat} {cs cs' : List Value} (hg : A.get q = some (.cells false cs)) (hq : A0.next ≤ q) (hR : q ∉ R.now) (hr : q ∉ allRows Hs) : L3 ps n A0 Hs (A.set q (.cells false cs')) R ws ts := by
  have ne : ∀ {x}, x ∈ R.now → x ≠ q := fun hx e => hR (e ▸ hx)
  exact ⟨L.ext.set' hq _, L.len, by rw [get_set_ne (ne (by simp [Rw.now]))]; exact L.gpr, by rw [get_set_ne (ne (by simp [Rw.now]))]; exact L.gpt, by rw [get_set_ne (ne (by simp [Rw.now]))]; exact L.ght,
    by rw [get_set_ne (ne (by simp [Rw.now]))]; exact L.gpw, by rw [get_set_ne (ne (by simp [Rw.now]))]; exact L.ghw, L.tr.set hr hg, L.nd, L.new, L.rows, L.nrows⟩
end
/-- With the groups' row. -/
structure L5 (ps : List Pr) (n : Nat) (A0 : AHeap) (Hs : List TH) (A : AHeap) (R : Rw) (ws : List Wire) (ts : List Tr) (hg : Nat) (gr : List Nat) : Prop where
  l : L3 ps n A0 Hs A R ws ts
  gg : A.get hg = some (.cells false (natsC gr))
  len : gr.length = n
  new : A0.next ≤ hg
  nr : hg ∉ R.now
  rows : hg ∉ allRows Hs
section
variable {ps : List Pr} {n : Nat} {A0 A B : AHeap} {Hs : List TH} {R : Rw} {ws : List Wire} {ts ts' : List Tr} {hg : Nat} {gr : List Nat}
theorem L5.later (L : L5 ps n A0 Hs A R ws ts hg gr) (e : Ext A B) : L5 ps n A0 Hs B R ws ts hg gr := ⟨L.l.later e, e.keeps L.gg, L.len, L.new, L.nr, L.rows⟩
theorem L5.mod (L : L5 ps n A0 Hs A R ws ts hg gr) (m : Mod (allRows Hs) A B) (t : TsAt B Hs ts') : L5 ps n A0 Hs B R ws ts' hg gr := ⟨L.l.mod m t, m.keeps L.rows L.gg, L.len, L.new, L.nr, L.rows⟩
theorem L5.set (L : L5 ps n A0 Hs A R ws ts hg gr) {gr' : List Nat} (h : gr'.length = n) : L5 ps n A0 Hs (A.set hg (.cells false (natsC gr'))) R ws ts hg gr' :=
  ⟨L.l.set L.gg L.new L.nr L.rows, get_set_eq rfl (A.lt L.gg), h, L.new, L.nr, L.rows⟩
theorem nats_at {gr : List Nat} {i x : Nat} (h : gr[i]? = some x) : (natsC gr)[i]? = some (.int .i64 (x : Int)) := by rw [natsC_get, h]; rfl
end
theorem plus_nil2 (A : AHeap) (n : Nat) (l : List (Option AObj)) : A.plus n l = (A.plus n l).plus (A.plus n l).next [] := (plus_nil _).symm
def env5 (R : Rw) (n t hg : Nat) : Env := [(0, .slice (some ⟨R.hp, 0, none⟩) n 4), (7, .int .i64 n), (8, .pointer (some ⟨R.pt, 0, none⟩)), (14, .pointer (some ⟨R.pw, 0, none⟩)), (20, clos R), (21, .int .i64 ((t : Int) + 1)), (22, .slice (some ⟨hg, 0, none⟩) n 1)]
def initG (n i : Nat) : List Nat := List.range i ++ List.replicate (n - i) 0
theorem initG_len {n i : Nat} (h : i ≤ n) : (initG n i).length = n := by simp [initG]; omega
theorem initG_step {n i : Nat} (h : i < n) : (initG n i).set i i = initG n (i + 1) := by
  rw [initG, initG, List.set_append_right _ _ (by simp), List.length_range, Nat.sub_self, List.range_succ, show n - i = (n - (i + 1)) + 1 by omega, List.replicate_succ, List.set_cons_zero]
  simp
set_option maxHeartbeats 2000000 in
theorem loop5a {ps : List Pr} {n : Nat} (hn7 : n ≤ 7) {A0 A : AHeap} {Hs : List TH} {R : Rw} {ws : List Wire} {ts : List Tr} {hg t : Nat} (hL : L5 ps n A0 Hs A R ws ts hg (initG n 0)) {h : Dep (DCode.loop F3c56)} {K : Exit → Env → AHeap → Prop}
    (hK : ∀ A' b, L5 ps n A0 Hs A' R ws ts hg (List.range n) → K (.exit 8) (env5 R n t hg ++ [(238, .int .i64 n), (239, .int .i64 n), (240, .bool b)]) (A'.plus A'.next [])) :
    Cw Go.Proofs.Try.prog (.loop F3c56) h (env5 R n t hg ++ [(238, .int .i64 n), (239, .int .i64 0)]) (A.plus A.next []) K := by
  refine Cw_count n 0 (fun i E A' => E = env5 R n t hg ++ [(238, .int .i64 n), (239, .int .i64 i)] ∧ ∃ B, A' = B.plus B.next [] ∧ L5 ps n A0 Hs B R ws ts hg (initG n i)) (by omega) ⟨rfl, A, rfl, hL⟩ ?_
  rintro i E A1 hi ⟨rfl, B, rfl, L⟩
  simp -implicitDefEqProofs -dsimp [go_sem, get_set_eq, get_set_ne, get_del_ne, env5]
  refine cnd_mk' (fun k1 => ?_) (fun k1 => ?_)
  · have k1' : (i : Int) < n := by omega
    have k1 : i < n := by omega
    have g := L.gg
    have r := B.lt g
    have lg : (natsC (initG n i)).length = n := by rw [natsC_len, initG_len hi]
    have st : (natsC (initG n i)).set i (.int .i64 (i : Int)) = natsC (initG n (i + 1)) := by rw [natsC_set, initG_step k1]
    simp -implicitDefEqProofs -dsimp [go_sem, get_set_eq, get_set_ne, get_del_ne, g, r, lg, k1, k1', st]
    have := L.set (gr' := initG n (i + 1)) (initG_len (by omega))
    refine ⟨by omega, by rw [wrap_i64 (by omega)]; rfl, B.set hg (.cells false (natsC (initG n (i + 1)))), (plus_nil' (nx_set _ _ _)).trans (plus_nil _).symm, this⟩
  · have k2 : i = n := by omega
    subst k2
    simp -implicitDefEqProofs -dsimp [go_sem, get_set_eq, get_set_ne, get_del_ne, k1]
    have e : initG i i = List.range i := by simp [initG]
    rw [e] at L
    exact hK B _ L
theorem wires_at {ws : List Wire} {i : Nat} {w : Wire} (h : ws[i]? = some w) : List.take 4 (List.drop (i * 4) (wiresC ws)) = wireC w := flat_take wireC_len h
/-- How far the groups are. -/
structure Gs (n : Nat) (ws : List Wire) (k : Nat) (dn : List Wire) (gr : List Nat) : Prop where
  g0 : Gr n ws gr
  gq : ∀ r, r < n → Least ws r → Gq ws r k dn gr
theorem Gs.zero (n : Nat) (ws : List Wire) : Gs n ws 0 [] (List.range n) := by
  refine ⟨⟨by simp, fun i l h => ?_⟩, fun r hr _ => ⟨fun v hv => ?_, fun w hw => by cases hw⟩⟩
  · have hi := getElem?_lt h
    simp at hi
    simp [hi] at h
    subst h
    exact ⟨hi, .refl _⟩
  · simp [lay] at hv
    subst hv
    simp [hr]
theorem Gs.sweep {n : Nat} {pri : Nat → Pr} {ws : List Wire} (N : Net n pri ws) {k : Nat} {dn : List Wire} {gr : List Nat} (h : Gs n ws k dn gr) (hd : ∀ w ∈ dn, w ∈ ws) {w : Wire} (hw : w ∈ ws) : Gs n ws k (dn ++ [w]) (sweep1 gr w) :=
  ⟨h.g0.sweep N hw, fun r hr hl => (h.gq r hr hl).sweep N h.g0 hl hd hw⟩
theorem Gs.next {n : Nat} {ws : List Wire} {k : Nat} {gr : List Nat} (h : Gs n ws k ws gr) : Gs n ws (k + 1) [] gr := ⟨h.g0, fun r hr hl => (h.gq r hr hl).next⟩
set_option maxHeartbeats 4000000 in
theorem loop5c {ps : List Pr} {n : Nat} (hn7 : n ≤ 7) {A0 A : AHeap} {Hs : List TH} {R : Rw} {ws : List Wire} (hws : ws.length ≤ 12) (N : Net n (priOf ps) ws) {ts : List Tr} {hg t k kk : Nat} {gr : List Nat} (hL : L5 ps n A0 Hs A R ws ts hg gr) (hG : Gs n ws k [] gr) {h : Dep (DCode.loop F3c67)} {K : Exit → Env → AHeap → Prop}
    (hK : ∀ A' gr' b, L5 ps n A0 Hs A' R ws ts hg gr' → Gs n ws k ws gr' → K (.exit 12) (env5 R n t hg ++ [(24, .int .i64 kk), (252, .slice (some ⟨R.hw, 0, none⟩) ws.length 4), (253, .int .i64 ws.length), (254, .int .i64 ws.length), (255, .bool b)]) (A'.plus A'.next [])) :
    Cw Go.Proofs.Try.prog (.loop F3c67) h (env5 R n t hg ++ [(24, .int .i64 kk), (252, .slice (some ⟨R.hw, 0, none⟩) ws.length 4), (253, .int .i64 ws.length), (254, .int .i64 0)]) (A.plus A.next []) K := by
  refine Cw_count ws.length 0 (fun j E A' => E = env5 R n t hg ++ [(24, .int .i64 kk), (252, .slice (some ⟨R.hw, 0, none⟩) ws.length 4), (253, .int .i64 ws.length), (254, .int .i64 j)] ∧ ∃ B gr', A' = B.plus B.next [] ∧ L5 ps n A0 Hs B R ws ts hg gr' ∧ Gs n ws k (ws.take j) gr') (by omega) ⟨rfl, A, gr, rfl, hL, hG⟩ ?_
  rintro j E A1 hj ⟨rfl, B, gr', rfl, L, G⟩
  simp -implicitDefEqProofs -dsimp [go_sem, get_set_eq, get_set_ne, get_del_ne, env5]
  refine cnd_mk' (fun k1 => ?_) (fun k1 => ?_)
  · have k1' : (j : Int) < ws.length := by omega
    have k1 : j < ws.length := by omega
    obtain ⟨w, hw⟩ : ∃ w, ws[j]? = some w := ⟨ws[j], by simp [k1]⟩
    have hmem := List.mem_of_getElem? hw
    obtain ⟨b1, b2, b3, b4, b5⟩ := N.bound w hmem
    have g1 := L.gg
    have g2 := L.l.ghw
    have r1 := B.lt g1
    have r2 := B.lt g2
    have hld := wires_at hw
    have hlc := wiresC_len ws
    have bd : j * 4 + 4 ≤ ws.length * 4 := by omega
    have lg : (natsC gr').length = n := by rw [natsC_len, L.len]
    have G' := G.sweep N (fun w hw => List.mem_of_mem_take hw) hmem
    obtain ⟨⟨a, pa⟩, ⟨b, pb⟩⟩ := w
    simp only at b1 b2 b3 b4 b5
    obtain ⟨va, hva⟩ : ∃ x, gr'[a]? = some x := ⟨gr'[a]'(by rw [L.len]; exact b1), by simp [show a < gr'.length by rw [L.len]; exact b1]⟩
    obtain ⟨vb, hvb⟩ : ∃ x, gr'[b]? = some x := ⟨gr'[b]'(by rw [L.len]; exact b3), by simp [show b < gr'.length by rw [L.len]; exact b3]⟩
    have na : (natsC gr')[a]'(by omega) = .int .i64 va := by
      have := nats_at hva
      rw [List.getElem?_eq_getElem (by omega)] at this; exact Option.some.inj this
    have nb : (natsC gr')[b]'(by omega) = .int .i64 vb := by
      have := nats_at hvb
      rw [List.getElem?_eq_getElem (by omega)] at this; exact Option.some.inj this
    have b1' : (a : Int) < n := by omega
    have b3' : (b : Int) < n := by omega
    have hmn : (if vb < va then (vb : Int) else va) = ((min va vb : Nat) : Int) := by omega
    simp -implicitDefEqProofs -dsimp [go_sem, get_set_eq, get_set_ne, get_del_ne, g1, g2, r1, r2, hld, hlc, bd, lg, k1, k1', wireC, b1, b3, b1', b3', na, nb, hmn]
    have sw : sweep1 gr' ((a, pa), b, pb) = (gr'.set a (min va vb)).set b (min va vb) := by simp [sweep1, List.getD_eq_getElem?_getD, hva, hvb]
    rw [sw] at G'
    have G'' : Gs n ws k (ws.take (j + 1)) ((gr'.set a (min va vb)).set b (min va vb)) := by rw [List.take_add_one, hw]; exact G'
    have L' := L.set (gr' := (gr'.set a (min va vb)).set b (min va vb)) (by simp [L.len])
    refine ⟨b1, b3, k1, by rw [wrap_i64 (by omega)]; rfl, _, plus_nil2 _ _ _, (gr'.set a (min va vb)).set b (min va vb), ?_, G''⟩
    rw [natsC_set, natsC_set]
    exact L'.later (by have := ext_plus (B.set hg (.cells false (natsC ((gr'.set a (min va vb)).set b (min va vb))))) [some (.cells false [.int .i64 a, .int .i64 pa, .int .i64 b, .int .i64 pb])]; rwa [nx_set] at this)
  · have k2 : j = ws.length := by omega
    subst k2
    rw [List.take_length] at G
    simp -implicitDefEqProofs -dsimp [go_sem, get_set_eq, get_set_ne, get_del_ne, k1]
    exact hK B gr' _ L G
set_option maxHeartbeats 4000000 in
theorem loop5b {ps : List Pr} {n : Nat} (hn7 : n ≤ 7) {A0 A : AHeap} {Hs : List TH} {R : Rw} {ws : List Wire} (hws : ws.length ≤ 12) (N : Net n (priOf ps) ws) {ts : List Tr} {hg t : Nat} (hL : L5 ps n A0 Hs A R ws ts hg (List.range n)) {h : Dep (DCode.loop F3c73)} {K : Exit → Env → AHeap → Prop}
    (hK : ∀ A' gr b, L5 ps n A0 Hs A' R ws ts hg gr → Gs n ws n [] gr → K (.exit 10) (env5 R n t hg ++ [(24, .int .i64 n), (249, .bool b)]) (A'.plus A'.next [])) :
    Cw Go.Proofs.Try.prog (.loop F3c73) h (env5 R n t hg ++ [(24, .int .i64 0)]) (A.plus A.next []) K := by
  refine Cw_count n 0 (fun k E A' => E = env5 R n t hg ++ [(24, .int .i64 k)] ∧ ∃ B gr, A' = B.plus B.next [] ∧ L5 ps n A0 Hs B R ws ts hg gr ∧ Gs n ws k [] gr) (by omega) ⟨rfl, A, _, rfl, hL, Gs.zero n ws⟩ ?_
  rintro k E A1 hj ⟨rfl, B, gr, rfl, L, G⟩
  simp -implicitDefEqProofs -dsimp [go_sem, get_set_eq, get_set_ne, get_del_ne, env5]
  refine cnd_mk' (fun k1 => ?_) (fun k1 => ?_)
  · have k1' : (k : Int) < n := by omega
    have k1 : k < n := by omega
    have g1 := L.l.gpw
    have r1 := B.lt g1
    simp -implicitDefEqProofs -dsimp [go_sem, get_set_eq, get_set_ne, get_del_ne, g1, r1]
    refine loop5c hn7 hws N L G (fun B' gr' b L' G' => ?_)
    simp -implicitDefEqProofs -dsimp [go_sem, get_set_eq, get_set_ne, get_del_ne, env5]
    exact ⟨by omega, by rw [wrap_i64 (by omega)], B', rfl, gr', L', G'.next⟩
  · have k2 : k = n := by omega
    subst k2
    simp -implicitDefEqProofs -dsimp [go_sem, get_set_eq, get_set_ne, get_del_ne, k1]
    exact hK B gr _ L G
end Go.Proofs.Ytckdmhjhjfmcdaa.Sx
