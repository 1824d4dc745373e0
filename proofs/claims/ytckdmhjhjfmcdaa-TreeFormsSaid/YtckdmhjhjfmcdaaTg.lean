/-
  Contracts: a tree's memory; what counts of what its ports heard.
-/
import Derived.Test.YtckdmhjhjfmcdaaTf
import Derived.Test.YtckdmhjhjfmcdaaTn
namespace Go.Proofs.Ytckdmhjhjfmcdaa.Sx
set_option linter.unusedSimpArgs false
set_option linter.unusedVariables false
open Go
set_option maxRecDepth 40000
attribute [local go_sem] hide1 Un_succ z_skip z_exit z_ret z_row z_seq z_cond z_block z_inBlock_exit z_end_ret z_end_normal z_light z_alloc z_heavy z_guard z_dnil z_dlight z_dalloc z_dguard z_dheavy z_dheavyg z_store z_call z_callv z_append z_apd_nil z_apd_some z_copy z_pick z_load z_nilchk z_bin z_un z_min2 z_mkfunc z_conv z_fieldAddr z_field z_idxArr z_idxSl z_indexA z_extract z_lenS z_build z_box z_mkslice z_makeslice z_cnd_true z_cnd_false z_gd_bool z_gd_tup wpR_nil re_nil z_re z_reg cpy_nil cpy_some l_mov a_alloc a_mkmap ev_tmp ev_int ev_bool ev_nilp ev_nils ev_nilm ev_nilf ev_str ev_func kc_some kc_none keep_kc keep_nil keep_empty thenK_normal thenK_ret thenK_exit keepK_normal keepK_ret keepK_exit inBlockK_normal inBlockK_ret Env.get Env.put enterE evalL evalParts fillL putCells cellsOf partV loadV bnd dbin dint dun dcmp deq sameL same0 noTup closedV closedS retV resL sliceCells rc_nil rc_cons rc_consg rck_load ldV_some ldO_cells evalG plus_next plus_get_new plus_get_new0 plus_get_old plus_alloc plus_set_new plus_set_new0 plus_set_old plus_del_new plus_del_new0 plus_del_old plus_reserve0 plus_reserve1 plus_reserve2 plus_reserve3 plus_reserve4 plus_reserve5 plus_reserve6 plus_plus nx_set nx_del set_set obl_some obl_none obP_some obP_none obS_some obI_int obB_bool obA_agg obT_tup obF_func obC_cells obM_map obL_slice Nat.add_assoc
/-- A row of numbers that nobody writes to. -/
def IntsRo (A : AHeap) (v : Value) (xs : List Int) : Prop :=
  (v = .slice none 0 0 ∧ xs = []) ∨ ∃ b, v = .slice (some ⟨b, 0, none⟩) xs.length 1 ∧ A.get b = some (.cells true (ints xs))
theorem IntsRo.at {A : AHeap} {v : Value} {xs : List Int} (h : IntsRo A v xs) : IntsAt A v xs := by
  rcases h with h | ⟨b, h1, h2⟩
  · exact .inl h
  · exact .inr ⟨b, true, h1, h2⟩
theorem IntsRo.mod {S : List Nat} {A B : AHeap} {v : Value} {xs : List Int} (e : Mod S A B) (h : IntsRo A v xs) : IntsRo B v xs := by
  rcases h with h | ⟨b, h1, h2⟩
  · exact .inl h
  · exact .inr ⟨b, h1, e.ro b _ h2⟩
structure TH where
  p : Nat
  u : Nat
  h : Nat
  pa : Nat
  w : Nat
def TH.rows (H : TH) : List Nat := [H.p, H.u, H.h, H.pa, H.w]
def Tr.hes0 (t : Tr) : List He := t.ps.map fun x => ⟨false, x.ok, x.vec⟩
structure TrAt (A : AHeap) (H : TH) (t : Tr) : Prop where
  st : A.get H.p = some (.cells false [.int .i64 0, .int .i64 t.own.one, .int .i64 t.own.cls, .int .i64 t.own.two, .int .i64 t.own.id, .int .i64 5, .slice (some ⟨H.u, 0, none⟩) 8 1, .slice (some ⟨H.h, 0, none⟩) 8 10, .slice (some ⟨H.pa, 0, none⟩) 8 1, .slice (some ⟨H.w, 0, none⟩) 8 1])
  up : A.get H.u = some (.cells false (t.ps.map fun x => .bool x.up))
  he : A.get H.h = some (.cells false (hes t.hes0))
  pa : ∃ vs, A.get H.pa = some (.cells false vs) ∧ All2 (fun v x => IntsRo A v x.path) vs t.ps
  wh : A.get H.w = some (.cells false (ints (t.ps.map Port.when)))
  len : t.ps.length = 8
  nd : H.rows.Nodup
theorem TrAt.mod {S : List Nat} {A B : AHeap} {H : TH} {t : Tr} (e : Mod S A B) (hs : ∀ x ∈ H.rows, x ∉ S) (h : TrAt A H t) : TrAt B H t where
  st := e.keeps (hs _ (by simp [TH.rows])) h.st
  up := e.keeps (hs _ (by simp [TH.rows])) h.up
  he := e.keeps (hs _ (by simp [TH.rows])) h.he
  pa := by obtain ⟨vs, h1, h2⟩ := h.pa; exact ⟨vs, e.keeps (hs _ (by simp [TH.rows])) h1, h2.mono fun _ _ h => h.mod e⟩
  wh := e.keeps (hs _ (by simp [TH.rows])) h.wh
  len := h.len
  nd := h.nd
theorem TrAt.ext {A B : AHeap} {H : TH} {t : Tr} (e : Ext A B) (h : TrAt A H t) : TrAt B H t := h.mod (e.mod []) (by simp)
/-- Times and steps are within some bounds. -/
def PortsOk (t : Tr) : Prop := ∀ x ∈ t.ps, 0 ≤ x.when ∧ x.when ≤ 1000000 ∧ StepsOk x.vec ∧ x.path.length ≤ 1000

theorem hes_set {hs : List He} {i : Nat} {x y : He} (h : hs[i]? = some x) {o : Nat} {v : Value} (ho : o < 10) (hy : y.cells = x.cells.set o v) : (hes hs).set (i * 10 + o) v = hes (hs.set i y) :=
  flat_put He.len (by omega) h (o := o) (vs := [v]) (by simp; omega) (by rw [hy]; rfl)
theorem hes_put {hs : List He} {i : Nat} {x : He} (h : hs[i]? = some x) (y : He) : putCells (hes hs) (i * 10) y.cells = hes (hs.set i y) :=
  flat_put He.len (by omega) h (o := 0) (vs := y.cells) (by simp [He.len]) rfl
theorem mix_get {α : Type} {xs ys : List α} (hl : xs.length = ys.length) {i : Nat} {y : α} (h : ys[i]? = some y) : (xs.take i ++ ys.drop i)[i]? = some y := by
  have := getElem?_lt h
  rw [List.getElem?_append_right (by simp; omega), List.length_take, Nat.min_eq_left (by omega)]
  simpa using h
theorem mix_step {α : Type} {xs ys : List α} (hl : xs.length = ys.length) {i : Nat} {x y : α} (hx : xs[i]? = some x) (hy : ys[i]? = some y) : (xs.take i ++ ys.drop i).set i x = xs.take (i + 1) ++ ys.drop (i + 1) := by
  have := getElem?_lt hy
  rw [List.set_append_right _ _ (by simp; omega), List.length_take, Nat.min_eq_left (by omega), Nat.sub_self, List.take_add_one, hx]
  rw [List.drop_eq_getElem_cons this, List.set_cons_zero]
  simp
theorem c24r {hs : List He} {b n : Nat} {ro : Bool} (hn : hs.length = n) (hl : n ≤ 1000) {A : AHeap} (hb : A.get b = some (.cells ro (hes hs))) {K : Value → AHeap → Prop}
    (h : ∀ c A', Ext A A' → A.next ≤ c → c < A'.next → A'.get c = some (.cells false (hes hs)) → K (.slice (some ⟨c, 0, none⟩) n 10) (A'.plus A'.next [])) :
    dcall Go.Proofs.Try.prog 24 [.slice (some ⟨b, 0, none⟩) n 10] A K := by
  subst hn
  refine c24 hl hb fun c A' e1 e2 e3 e4 => ?_
  have := h c A' e1 e2 e3 e4
  rwa [plus_nil] at this
theorem wrap_u64 {x : Int} (h : 0 ≤ x ∧ x ≤ 9223372036854775807) : IntKind.u64.wrap x = x := by
  simp [IntKind.wrap, IntKind.bits, IntKind.signed]; omega
/-- What counts of what a port has heard. -/
def heFor (most now : Int) (x : Port) : He := ⟨x.up, x.ok && decide (x.when ≤ now) && decide (now - x.when ≤ most), x.vec⟩
def he0 (x : Port) : He := ⟨false, x.ok, x.vec⟩
set_option maxHeartbeats 1000000 in
theorem c19g {ps : List Port} {n : Nat} (hps : ps.length = n) (hn8 : n ≤ 8) (hP : ∀ x ∈ ps, 0 ≤ x.when ∧ x.when ≤ 1000000) {most now d o1 o2 o3 o4 : Int} (hm : 1 ≤ most ∧ most ≤ 1000000) (hn0 : 0 ≤ now) (hn1 : now ≤ 1000000) {A : AHeap} {p u h' pa w : Nat}
    (h1 : A.get p = some (.cells false [.int .i64 d, .int .i64 o1, .int .i64 o2, .int .i64 o3, .int .i64 o4, .int .i64 most, .slice (some ⟨u, 0, none⟩) n 1, .slice (some ⟨h', 0, none⟩) n 10, .slice (some ⟨pa, 0, none⟩) n 1, .slice (some ⟨w, 0, none⟩) n 1]))
    (h2 : A.get u = some (.cells false (ps.map fun x => .bool x.up))) (h3 : A.get h' = some (.cells false (hes (ps.map he0)))) (h5 : A.get w = some (.cells false (ints (ps.map Port.when)))) {K : Value → AHeap → Prop}
    (h : ∀ c A', Ext A A' → A.next ≤ c → A'.get c = some (.cells false (hes (ps.map (heFor most now)))) → K (.slice (some ⟨c, 0, none⟩) n 10) (A'.plus A'.next [])) :
    dcall Go.Proofs.Try.prog 19 [.pointer (some ⟨p, 0, none⟩), .int .i64 now] A K := by
  refine F19_call (by simp) (start ?_)
  have l1 := A.lt h1
  generalize hxs : ps.map he0 = xs at h3
  generalize hys : ps.map (heFor most now) = ys at h
  have l8 : xs.length = n := by rw [← hxs, List.length_map, hps]
  have l9 : ys.length = n := by rw [← hys, List.length_map, hps]
  simp -implicitDefEqProofs -dsimp [go_sem, get_set_eq, get_set_ne, get_del_ne, h1, l1]
  refine c24r l8 (by omega) (by rw [plus_nil]; exact h3) fun c A1 e1 n1 n2 k1 => ?_
  rw [plus_nil] at e1 n1
  simp -implicitDefEqProofs -dsimp [go_sem, get_set_eq, get_set_ne, get_del_ne, ]
  refine Cw_count n 0 (fun i E A' => E = [(0, .pointer (some ⟨p, 0, none⟩)), (1, .int .i64 now), (5, .slice (some ⟨c, 0, none⟩) n 10), (13, .int .i64 n), (14, .int .i64 i)] ∧
    A' = (A1.set c (.cells false (hes (ys.take i ++ xs.drop i)))).plus A1.next []) (by omega) ⟨rfl, by simp [set_same k1]⟩ ?_
  rintro i E A2 hi ⟨rfl, rfl⟩
  have g1 := e1.keeps h1
  have g2 := e1.keeps h2
  have g5 := e1.keeps h5
  have m1 := A1.lt g1
  have m2 := A1.lt g2
  have m5 := A1.lt g5
  have d1 : p ≠ c := by omega
  simp -implicitDefEqProofs -dsimp [go_sem, get_set_eq, get_set_ne, get_del_ne, g1, g2, g5, m1, m2, m5, n2]
  refine cnd_mk' (fun hlt' => ?_) (fun hge => ?_)
  · have hlt : i < n := by omega
    obtain ⟨x, hx⟩ : ∃ x, ps[i]? = some x := ⟨ps[i]'(by omega), by simp [hps, hlt]⟩
    have hxe : ps[i]'(by omega) = x := by
      rw [List.getElem?_eq_getElem (by omega)] at hx; exact Option.some.inj hx
    have d2 : u ≠ c := by have := A.lt h2; omega
    have d5 : w ≠ c := by have := A.lt h5; omega
    have x0 : xs[i]? = some ⟨false, x.ok, x.vec⟩ := by rw [← hxs, List.getElem?_map, hx]; rfl
    have x1 : ys[i]? = some (heFor most now x) := by rw [← hys, List.getElem?_map, hx]; rfl
    have y0 := mix_get (xs := ys) (ys := xs) (by omega) x0
    have lm : (hes (ys.take i ++ xs.drop i)).length = n * 10 := by rw [hes_len]; simp; omega
    have bd : i * 10 < n * 10 := by omega
    have s1 := hes_set y0 (o := 0) (y := ⟨x.up, x.ok, x.vec⟩) (v := .bool x.up) (by omega) rfl
    obtain ⟨w0, w1⟩ := hP x (List.mem_of_getElem? hx)
    have gw : (ints (ps.map Port.when))[i]? = some (.int .i64 x.when) := by simp [ints_get, hx]
    simp only [Nat.add_zero] at s1
    have s2 := mix_step (xs := ys) (ys := xs) (by omega) x1 x0
    have e1' : IntKind.u64.wrap now = now := wrap_u64 (by omega)
    have e2' : IntKind.u64.wrap x.when = x.when := wrap_u64 (by omega)
    have e3' : IntKind.u64.wrap most = most := wrap_u64 (by omega)
    have lm2 : ∀ y, (hes ((ys.take i ++ xs.drop i).set i y)).length = n * 10 := fun y => by rw [hes_len]; simp; omega
    have s3 := hes_set (hs := (ys.take i ++ xs.drop i).set i ⟨x.up, x.ok, x.vec⟩) (i := i) (List.getElem?_set_self (getElem?_lt y0)) (o := 1) (y := ⟨x.up, false, x.vec⟩) (v := .bool false) (by omega) rfl
    rw [List.set_set] at s3
    have fin : ∀ b : Bool, b = (heFor most now x).ok → (A1.set c (.cells false (hes ((ys.take i ++ xs.drop i).set i ⟨x.up, b, x.vec⟩)))).plus A1.next [] = (A1.set c (.cells false (hes (ys.take (i + 1) ++ xs.drop (i + 1))))).plus A1.next [] := by
      intro b hb
      rw [← s2, hb]; rfl
    simp -implicitDefEqProofs -dsimp [go_sem, get_set_eq, get_set_ne, get_del_ne, g1, g2, g5, m1, m2, m5, n2, d1, d2, d5, hlt, hlt', hxe, lm, bd, s1, gw, hps]
    refine ⟨by omega, cnd_mk' (fun k1 => ?_) (fun k1 => ?_)⟩
    · have e4' : IntKind.u64.wrap (now - x.when) = now - x.when := wrap_u64 (by omega)
      simp -implicitDefEqProofs -dsimp [go_sem, get_set_eq, get_set_ne, get_del_ne, g1, g2, g5, m1, m2, m5, n2, d1, d2, d5, hlt, hlt', hxe, lm, bd, s1, gw, e1', e2', e3', e4', k1, hps]
      refine cnd_mk' (fun k2 => ?_) (fun k2 => ?_)
      · have hd : (heFor most now x).ok = false := by simp [heFor, show ¬ (now - x.when ≤ most) by omega]
        simp -implicitDefEqProofs -dsimp [go_sem, get_set_eq, get_set_ne, get_del_ne, lm2, n2, hlt, bd, k2, s3]
        repeat' apply And.intro
        all_goals first | omega | exact wrap_i64 (by omega) | exact fin false hd.symm
      · have hd : (heFor most now x).ok = x.ok := by simp [heFor, k1, show now - x.when ≤ most by omega]
        simp -implicitDefEqProofs -dsimp [go_sem, get_set_eq, get_set_ne, get_del_ne, lm2, n2, hlt, bd, k2]
        repeat' apply And.intro
        all_goals first | omega | exact wrap_i64 (by omega) | exact fin x.ok hd.symm
    · have hd : (heFor most now x).ok = false := by simp [heFor, k1]
      simp -implicitDefEqProofs -dsimp [go_sem, get_set_eq, get_set_ne, get_del_ne, g1, g2, g5, m1, m2, m5, n2, d1, d2, d5, hlt, hlt', hxe, lm, lm2, bd, s1, gw, k1, s3, hps]
      repeat' apply And.intro
      all_goals first | omega | exact wrap_i64 (by omega) | exact fin false hd.symm
  · have hi8 : i = n := by omega
    subst hi8
    simp -implicitDefEqProofs -dsimp [go_sem, get_set_eq, get_set_ne, get_del_ne, hge]
    rw [List.take_of_length_le (by omega), List.drop_eq_nil_of_le (by omega), List.append_nil]
    refine h c (A1.set c (.cells false (hes ys))) (e1.set' (by omega) _) n1 (get_set_eq rfl n2)
theorem c19 {t : Tr} {H : TH} (hP : PortsOk t) {now : Int} (hn0 : 0 ≤ now) (hn1 : now ≤ 1000000) {A : AHeap} (hT : TrAt A H t) {K : Value → AHeap → Prop}
    (h : ∀ c A', Ext A A' → A.next ≤ c → A'.get c = some (.cells false (hes (t.hes now))) → K (.slice (some ⟨c, 0, none⟩) 8 10) (A'.plus A'.next [])) :
    dcall Go.Proofs.Try.prog 19 [.pointer (some ⟨H.p, 0, none⟩), .int .i64 now] A K :=
  c19g hT.len (by omega) (fun x hx => ⟨(hP x hx).1, (hP x hx).2.1⟩) (most := 5) (by omega) hn0 hn1 hT.st hT.up hT.he hT.wh h
end Go.Proofs.Ytckdmhjhjfmcdaa.Sx
