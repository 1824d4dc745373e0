/-
  TreeForms, first stage: the clocks' numbers, the trees.
-/
import Derived.Test.YtckdmhjhjfmcdaaTq
import Derived.Test.YtckdmhjhjfmcdaaTp
namespace Go.Proofs.Ytckdmhjhjfmcdaa.Sx
set_option linter.unusedSimpArgs false
set_option linter.unusedVariables false
open Go
set_option maxRecDepth 40000
attribute [local go_sem] hide1 Un_succ z_skip z_exit z_ret z_row z_seq z_cond z_block z_inBlock_exit z_end_ret z_end_normal z_light z_alloc z_heavy z_guard z_dnil z_dlight z_dalloc z_dguard z_dheavy z_dheavyg z_store z_call z_callv z_append z_apd_nil z_apd_some z_copy z_pick z_load z_nilchk z_bin z_un z_min2 z_mkfunc z_conv z_fieldAddr z_field z_idxArr z_idxSl z_indexA z_extract z_lenS z_build z_box z_mkslice z_makeslice z_cnd_true z_cnd_false z_gd_bool z_gd_tup wpR_nil re_nil z_re z_reg cpy_nil cpy_some l_mov a_alloc a_mkmap ev_tmp ev_int ev_bool ev_nilp ev_nils ev_nilm ev_nilf ev_str ev_func kc_some kc_none keep_kc keep_nil keep_empty thenK_normal thenK_ret thenK_exit keepK_normal keepK_ret keepK_exit inBlockK_normal inBlockK_ret Env.get Env.put enterE evalL evalParts fillL putCells cellsOf partV loadV bnd dbin dint dun dcmp deq sameL same0 noTup closedV closedS retV resL sliceCells rc_nil rc_cons rc_consg rck_load ldV_some ldO_cells evalG plus_next plus_get_new plus_get_new0 plus_get_old plus_alloc plus_set_new plus_set_new0 plus_set_old plus_del_new plus_del_new0 plus_del_old plus_reserve0 plus_reserve1 plus_reserve2 plus_reserve3 plus_reserve4 plus_reserve5 plus_reserve6 plus_plus nx_set nx_del set_set obl_some obl_none obP_some obP_none obS_some obI_int obB_bool obA_agg obT_tup obF_func obC_cells obM_map obL_slice Nat.add_assoc
theorem Mod.del {S : List Nat} {A B : AHeap} (h : Mod S A B) {p : Nat} {cs : List Value} (hp : p ∈ S) (hg : B.get p = some (.cells false cs)) : Mod S A (B.del p) := by
  refine ⟨h.next, fun x hx hn => (get_del_ne (fun e => hn (by rw [e]; exact hp))).trans (h.get x hx hn), fun x cs2 hx => ?_⟩
  rw [get_del_ne]
  · exact h.ro x cs2 hx
  · intro e
    subst e
    rw [h.ro x cs2 hx] at hg
    cases hg
theorem nx_set_n {A : AHeap} {p : Nat} {o : AObj} : (A.set p o).next = A.next := nx_set _ _ _
theorem Mod.plus {S : List Nat} {A B : AHeap} (h : Mod S A B) (L : List (Option AObj)) : Mod S A (B.plus B.next L) := h.trans ((ext_plus B L).mod S)
theorem c5r {own : Pr} (ho : ownOk own) {A : AHeap} {K : Value → AHeap → Prop}
    (h : ∀ H A', Ext A A' → TrAt A' H (Tr.new own) → (∀ x ∈ H.rows, A.next ≤ x) → K (.tuple #[.pointer (some ⟨H.p, 0, none⟩), .int .i64 0]) (A'.plus A'.next [])) :
    dcall Go.Proofs.Try.prog 5 [.int .i64 0, own.v, .int .i64 8, .int .i64 5] A K := by
  refine c5 ho (n := 8) (by omega) (most := 5) (by omega) ?_
  have := h ⟨A.next + 5, A.next + 1, A.next + 2, A.next + 3, A.next + 4⟩ _ (ext_plus A _) (newTr A own) (by intro x hx; simp [TH.rows] at hx; omega)
  rw [plus_nil] at this
  exact this
theorem and_one (x : Int) : IntKind.i64.wrap (max (x % 18446744073709551616) 0 % 2) = x % 2 := by
  rw [Int.max_eq_left (Int.emod_nonneg _ (by omega))]
  have : x % 18446744073709551616 % 2 = x % 2 := by omega
  rw [this]
  exact wrap_i64 (by omega)
/-- The clocks' numbers as they are taken. -/
def priOf (ps : List Pr) (k : Nat) : Pr := let p := ps.getD k ⟨0, 0, 0, 0⟩; ⟨p.one % 4, p.cls % 2, p.two % 2, idn k⟩
def prsC (ps : List Pr) : List Value := ps.flatMap Pr.cells
theorem Pr.len (p : Pr) : p.cells.length = 4 := rfl
theorem prsC_len (ps : List Pr) : (prsC ps).length = ps.length * 4 := flat_len Pr.len ps
theorem priOk (ps : List Pr) {k : Nat} (hk : k ≤ 100) : ownOk (priOf ps k) := by
  simp only [ownOk, priOf, idn]
  omega
def mixP (ps : List Pr) (i : Nat) : List Pr := (List.range i).map (priOf ps) ++ ps.drop i
theorem mixP_get {ps : List Pr} {i : Nat} {p : Pr} (h : ps[i]? = some p) : (mixP ps i)[i]? = some p := by
  rw [mixP, List.getElem?_append_right (by simp)]; simpa using h
theorem mixP_step {ps : List Pr} {i : Nat} {p : Pr} (h : ps[i]? = some p) : (mixP ps i).set i (priOf ps i) = mixP ps (i + 1) := by
  have hl := getElem?_lt h
  rw [mixP, mixP, List.set_append_right _ _ (by simp), List.length_map, List.length_range, Nat.sub_self, List.drop_eq_getElem_cons hl, List.set_cons_zero, List.range_succ]
  simp
def newTs (ps : List Pr) (i : Nat) : List Tr := (List.range i).map fun k => Tr.new (priOf ps k)
/-- Memory behind so many clocks. -/
structure L1 (ps : List Pr) (hp pt : Nat) (A0 : AHeap) (i : Nat) (A : AHeap) (Hs : List TH) (ht : Nat) : Prop where
  ext : Ext A0 A
  len : Hs.length = i
  gpr : A.get hp = some (.cells false (prsC (mixP ps i)))
  gpt : A.get pt = some (.cells false [.slice (some ⟨ht, 0, none⟩) i 1])
  ght : A.get ht = some (.cells false (ptrs Hs))
  tr : TsAt A Hs (newTs ps i)
  new : A0.next ≤ hp ∧ A0.next ≤ pt ∧ A0.next ≤ ht
  ne : hp ≠ pt ∧ hp ≠ ht ∧ pt ≠ ht
  rows : hp ∉ allRows Hs ∧ pt ∉ allRows Hs ∧ ht ∉ allRows Hs
  nrows : ∀ x ∈ allRows Hs, A0.next ≤ x
theorem TsAt.mod' {S : List Nat} {A B : AHeap} {Hs : List TH} {ts : List Tr} (e : Mod S A B) (hs : ∀ x ∈ allRows Hs, x ∉ S) (h : TsAt A Hs ts) : TsAt B Hs ts :=
  ⟨h.len, fun i H t a b => (h.at' i H t a b).mod e (fun x hx => hs x (rows_all a x hx)), h.apart⟩
theorem TsAt.snoc {A : AHeap} {Hs : List TH} {ts : List Tr} (h : TsAt A Hs ts) {H : TH} {t : Tr} (hT : TrAt A H t) (hn : ∀ x ∈ H.rows, x ∉ allRows Hs) : TsAt A (Hs ++ [H]) (ts ++ [t]) := by
  have key : ∀ {i : Nat} {G : TH}, (Hs ++ [H])[i]? = some G → (i < Hs.length ∧ Hs[i]? = some G) ∨ (i = Hs.length ∧ G = H) := by
    intro i G hi
    rcases Nat.lt_or_ge i Hs.length with hh | hh
    · rw [List.getElem?_append_left hh] at hi; exact .inl ⟨hh, hi⟩
    · rw [List.getElem?_append_right hh] at hi
      have e : i - Hs.length = 0 := by
        rcases Nat.eq_zero_or_pos (i - Hs.length) with e | e
        · exact e
        · rw [List.getElem?_eq_none (by simp; omega)] at hi; cases hi
      rw [e] at hi; simp at hi
      exact .inr ⟨by omega, hi.symm⟩
  refine ⟨by simp [h.len], fun i G t' hi ht => ?_, fun i j G G' hi hj hne => ?_⟩
  · rcases key hi with ⟨hl, hi⟩ | ⟨rfl, rfl⟩
    · rw [List.getElem?_append_left (by rw [← h.len]; exact hl)] at ht
      exact h.at' i G t' hi ht
    · rw [List.getElem?_append_right (by rw [h.len]; exact Nat.le_refl _), h.len] at ht
      simp at ht; subst ht; exact hT
  · rcases key hi with ⟨hl, hi2⟩ | ⟨e1, e2⟩
    · rcases key hj with ⟨hl2, hj2⟩ | ⟨e3, e4⟩
      · exact h.apart i j G G' hi2 hj2 hne
      · intro x hx hx2; rw [e4] at hx2; exact hn x hx2 (rows_all hi2 x hx)
    · rcases key hj with ⟨hl2, hj2⟩ | ⟨e3, e4⟩
      · intro x hx hx2; rw [e2] at hx; exact hn x hx (rows_all hj2 x hx2)
      · exact (hne (by omega)).elim
set_option maxHeartbeats 2000000 in
theorem loop1 {ps : List Pr} {n : Nat} (hn : ps.length = n) (hn7 : n ≤ 7) {hp pt hp0 : Nat} {A0 A : AHeap} {Hs : List TH} {ht : Nat} (hL : L1 ps hp pt A0 0 A Hs ht) {a1 a2 : Value} {h : Dep (DCode.loop F3c15)} {K : Exit → Env → AHeap → Prop}
    (hK : ∀ A' Hs ht, L1 ps hp pt A0 n A' Hs ht → K (.exit 0) [(0, .slice (some ⟨hp, 0, none⟩) n 4), (1, a1), (2, a2), (7, .int .i64 n), (8, .pointer (some ⟨pt, 0, none⟩)), (65, .slice (some ⟨hp, 0, none⟩) n 4), (66, .int .i64 n), (67, .int .i64 n), (68, .bool false)] (A'.plus A'.next [])) :
    Cw Go.Proofs.Try.prog (.loop F3c15) h [(0, .slice (some ⟨hp, 0, none⟩) n 4), (1, a1), (2, a2), (7, .int .i64 n), (8, .pointer (some ⟨pt, 0, none⟩)), (65, .slice (some ⟨hp, 0, none⟩) n 4), (66, .int .i64 n), (67, .int .i64 0)] (A.plus A.next []) K := by
  refine Cw_count n 0 (fun i E A' => E = [(0, .slice (some ⟨hp, 0, none⟩) n 4), (1, a1), (2, a2), (7, .int .i64 n), (8, .pointer (some ⟨pt, 0, none⟩)), (65, .slice (some ⟨hp, 0, none⟩) n 4), (66, .int .i64 n), (67, .int .i64 i)] ∧
    ∃ B Hs ht, A' = B.plus B.next [] ∧ L1 ps hp pt A0 i B Hs ht) (by omega) ⟨rfl, A, Hs, ht, rfl, hL⟩ ?_
  rintro i E A1 hi ⟨rfl, B, Hs, ht, rfl, L⟩
  simp -implicitDefEqProofs -dsimp [go_sem, get_set_eq, get_set_ne, get_del_ne, ]
  refine cnd_mk' (fun hlt' => ?_) (fun hge => ?_)
  · have hlt : i < n := by omega
    obtain ⟨p, hpi⟩ : ∃ p, ps[i]? = some p := ⟨ps[i]'(by omega), by simp [hn, hlt]⟩
    have g1 := L.gpr
    have m1 := B.lt g1
    have hld : List.take 4 (List.drop (i * 4) (prsC (mixP ps i))) = p.cells := flat_take Pr.len (mixP_get hpi)
    have hlc : (prsC (mixP ps i)).length = n * 4 := by rw [prsC_len]; simp [mixP, hn]; omega
    have bd : i * 4 + 4 ≤ n * 4 := by omega
    have w10 : IntKind.i64.wrap (10 + (i : Int)) = 10 + (i : Int) := wrap_i64 (by omega)
    have a3 := and_mask p.one 2 (by omega)
    have a1' := and_one p.cls
    have a2' := and_one p.two
    have hst : putCells (prsC (mixP ps i)) (i * 4) (priOf ps i).cells = prsC (mixP ps (i + 1)) := by
      rw [← mixP_step hpi]
      exact flat_put Pr.len (by omega) (mixP_get hpi) (o := 0) (vs := (priOf ps i).cells) (by simp [Pr.len]) rfl
    have hpri : (priOf ps i) = ⟨p.one % 4, p.cls % 2, p.two % 2, 10 + i⟩ := by simp [priOf, idn, List.getD_eq_getElem?_getD, hpi]
    rw [hpri] at hst
    simp only [Pr.cells, putCells, Nat.add_assoc, Nat.reduceAdd] at hst
    simp -implicitDefEqProofs -dsimp [go_sem, get_set_eq, get_set_ne, get_del_ne, g1, m1, hlt, hlt', hld, hlc, bd, Pr.cells, w10, a3, a1', a2', hst]
    have hown : ownOk ⟨p.one % 4, p.cls % 2, p.two % 2, 10 + i⟩ := by rw [← hpri]; exact priOk ps (by omega)
    refine c5r hown fun H5 A5 e5 T5 n5 => ?_
    rw [plus_next] at n5
    simp only [List.length_cons, List.length_nil] at n5
    rw [← hpri] at T5
    have keepB : ∀ {q : Nat} {o : AObj}, q ≠ hp → B.get q = some o → A5.get q = some o := by
      intro q o hne hg
      refine e5.keeps ?_
      rw [plus_get_old (B.lt hg), get_set_ne hne]; exact hg
    have k1 := keepB L.ne.1.symm L.gpt
    have k2 := keepB L.ne.2.1.symm L.ght
    have k0 : A5.get hp = some (.cells false (prsC (mixP ps (i + 1)))) := by
      refine e5.keeps ?_
      rw [plus_get_old m1, get_set_eq rfl m1]
    have r1 := A5.lt k1
    have r2 := A5.lt k2
    have lp : (ptrs Hs).length = i := by simp [ptrs, L.len]
    have d3 := L.ne.2.2
    simp -implicitDefEqProofs -dsimp [go_sem, get_set_eq, get_set_ne, get_del_ne, k1, k2, r1, r2, lp, d3, d3.symm]
    have hptr : ptrs (Hs ++ [H5]) = ptrs Hs ++ [.pointer (some ⟨H5.p, 0, none⟩)] := by simp [ptrs]
    refine ⟨by omega, hlt, wrap_i64 (by omega), (((A5.del ht).set pt (.cells false [.slice (some ⟨A5.next + 1, 0, none⟩) (i + 1) 1])).plus A5.next [some (.cells false [.pointer (some ⟨H5.p, 0, none⟩)]), some (.cells false (ptrs Hs ++ [.pointer (some ⟨H5.p, 0, none⟩)]))]), (plus_nil _).symm, Hs ++ [H5], A5.next + 1, ?_⟩
    have eB : Ext A0 A5 := by
      have h1 := (L.ext.set' L.new.1 (.cells false (prsC (mixP ps (i + 1))))).trans (ext_plus (B.set hp (.cells false (prsC (mixP ps (i + 1))))) [some (.cells false [.int .i64 (p.one % 4), .int .i64 (p.cls % 2), .int .i64 (p.two % 2), .int .i64 (10 + i)])])
      rw [nx_set] at h1
      exact h1.trans e5
    have hnext : B.next + 1 ≤ A5.next := by have := e5.next; rw [plus_next] at this; simpa using this
    have M : Mod [ht, pt] A5 (((A5.del ht).set pt (.cells false [.slice (some ⟨A5.next + 1, 0, none⟩) (i + 1) 1])).plus A5.next [some (.cells false [.pointer (some ⟨H5.p, 0, none⟩)]), some (.cells false (ptrs Hs ++ [.pointer (some ⟨H5.p, 0, none⟩)]))]) :=
      mod_plus ((((Mod.refl _ A5).del (by simp) k2)).set (cs := _) (by simp) (by rw [get_del_ne d3]; exact k1)) _ (by rw [nx_set, nx_del])
    have hrowsB : ∀ x ∈ allRows Hs, x < B.next := L.tr.rows_lt
    have T5s : TsAt A5 Hs (newTs ps i) := by
      have h1 : TsAt (B.set hp (.cells false (prsC (mixP ps (i + 1))))) Hs (newTs ps i) := L.tr.set L.rows.1 g1
      have h2 := h1.ext (ext_plus _ [some (.cells false [.int .i64 (p.one % 4), .int .i64 (p.cls % 2), .int .i64 (p.two % 2), .int .i64 (10 + i)])])
      rw [nx_set] at h2
      exact h2.ext e5
    have T6 : TsAt A5 (Hs ++ [H5]) (newTs ps (i + 1)) := by
      have := T5s.snoc T5 (fun x hx hm => by have := n5 x hx; have := hrowsB x hm; omega)
      rw [newTs, List.range_succ, List.map_append]
      exact this
    have hall : ∀ x, x ∈ allRows (Hs ++ [H5]) ↔ x ∈ allRows Hs ∨ x ∈ H5.rows := by intro x; simp [allRows]
    have hold : ∀ x, x < B.next → x ∉ allRows Hs → x ∉ allRows (Hs ++ [H5]) := by
      intro x hx hn hm
      rcases (hall x).1 hm with h | h
      · exact hn h
      · have := n5 x h; omega
    have lpt := B.lt L.gpt
    have lht := B.lt L.ght
    refine ⟨?_, by simp [L.len], ?_, ?_, ?_, ?_, ?_, ?_, ?_, ?_⟩
    · have := ((eB.del' L.new.2.2).set' L.new.2.1 (.cells false [.slice (some ⟨A5.next + 1, 0, none⟩) (i + 1) 1])).trans (ext_plus _ [some (.cells false [.pointer (some ⟨H5.p, 0, none⟩)]), some (.cells false (ptrs Hs ++ [.pointer (some ⟨H5.p, 0, none⟩)]))])
      rw [nx_set, nx_del] at this
      exact this
    · exact M.keeps (by simp [L.ne.1, L.ne.2.1]) k0
    · rw [plus_get_old r1, get_set_eq rfl (by rw [nx_del]; exact r1)]
    · rw [plus_get_new, hptr]; rfl
    · refine T6.mod' M ?_
      intro x hx hm
      simp at hm
      rcases hm with rfl | rfl
      · exact hold _ lht L.rows.2.2 hx
      · exact hold _ lpt L.rows.2.1 hx
    · exact ⟨L.new.1, L.new.2.1, by have := eB.next; omega⟩
    · exact ⟨L.ne.1, by omega, by omega⟩
    · refine ⟨hold _ m1 L.rows.1, hold _ lpt L.rows.2.1, fun hm => ?_⟩
      have := T6.rows_lt _ hm
      omega
    · intro x hx
      rcases (hall x).1 hx with h | h
      · exact L.nrows x h
      · have := n5 x h; have := L.ext.next; omega
  · have hi2 : i = n := by omega
    subst hi2
    simp -implicitDefEqProofs -dsimp [go_sem, get_set_eq, get_set_ne, get_del_ne, hge]
    exact hK B Hs ht L
end Go.Proofs.Ytckdmhjhjfmcdaa.Sx
