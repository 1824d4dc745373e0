/-
  TreeForms: all of it.
-/
import Derived.Test.YtckdmhjhjfmcdaaGd
namespace Go.Proofs.Ytckdmhjhjfmcdaa.Sx
set_option linter.unusedSimpArgs false
set_option linter.unusedVariables false
open Go
set_option maxRecDepth 40000
attribute [local go_sem] hide1 Un_succ z_skip z_exit z_ret z_row z_seq z_cond z_block z_inBlock_exit z_end_ret z_end_normal z_light z_alloc z_heavy z_guard z_dnil z_dlight z_dalloc z_dguard z_dheavy z_dheavyg z_store z_call z_callv z_append z_apd_nil z_apd_some z_copy z_pick z_load z_nilchk z_bin z_un z_min2 z_mkfunc z_conv z_fieldAddr z_field z_idxArr z_idxSl z_indexA z_extract z_lenS z_build z_box z_mkslice z_makeslice z_cnd_true z_cnd_false z_gd_bool z_gd_tup wpR_nil re_nil z_re z_reg cpy_nil cpy_some l_mov a_alloc a_mkmap ev_tmp ev_int ev_bool ev_nilp ev_nils ev_nilm ev_nilf ev_str ev_func kc_some kc_none keep_kc keep_nil keep_empty thenK_normal thenK_ret thenK_exit keepK_normal keepK_ret keepK_exit inBlockK_normal inBlockK_ret Env.get Env.put enterE evalL evalParts fillL putCells cellsOf partV loadV bnd dbin dint dun dcmp deq sameL same0 noTup closedV closedS retV resL sliceCells rc_nil rc_cons rc_consg rck_load ldV_some ldO_cells evalG plus_next plus_get_new plus_get_new0 plus_get_old plus_alloc plus_set_new plus_set_new0 plus_set_old plus_del_new plus_del_new0 plus_del_old plus_reserve0 plus_reserve1 plus_reserve2 plus_reserve3 plus_reserve4 plus_reserve5 plus_reserve6 plus_plus nx_set nx_del set_set obl_some obl_none obP_some obP_none obS_some obI_int obB_bool obA_agg obT_tup obF_func obC_cells obM_map obL_slice Nat.add_assoc
/-- An argument that is a slice: none, or a row. -/
def SlAt {α : Type} (A : AHeap) (s : Nat) (C : List α → List Value) (v : Value) (xs : List α) : Prop := ((∃ a s, v = .slice a 0 s) ∧ xs = []) ∨ ∃ b ro, v = .slice (some ⟨b, 0, none⟩) xs.length s ∧ A.get b = some (.cells ro (C xs))
theorem natsC_zero (n : Nat) : rowOf [.int .i64 0] n = natsC (List.replicate n 0) := by
  induction n with
  | zero => rfl
  | succ n ih => rw [rowOf, ih]; simp [natsC, List.replicate_succ]
set_option maxHeartbeats 8000000 in
theorem c3 {ps : List Pr} {ls : List (Int × Int)} {xs : List Lr} {v0 v1 v2 : Value} {A : AHeap} (h0 : SlAt A 4 prsC v0 ps) (h1 : SlAt A 2 lsC v1 ls) (h2 : SlAt A 21 liesC v2 xs) (hxs : ∀ x ∈ xs, IntsAt A x.pv x.path) {K : Value → AHeap → Prop}
    (h : ∀ A', Ext A A' → K (.bool true) A') : dcall Go.Proofs.Try.prog 3 [v0, v1, v2] A K := by
  have l0 : ∃ a s, v0 = .slice a ps.length s := by
    rcases h0 with ⟨⟨a, s, rfl⟩, rfl⟩ | ⟨b, ro, rfl, _⟩
    · exact ⟨_, _, rfl⟩
    · exact ⟨_, _, rfl⟩
  have l1 : ∃ a s, v1 = .slice a ls.length s := by
    rcases h1 with ⟨⟨a, s, rfl⟩, rfl⟩ | ⟨b, ro, rfl, _⟩
    · exact ⟨_, _, rfl⟩
    · exact ⟨_, _, rfl⟩
  refine F3_call (by simp) (start ?_)
  simp -implicitDefEqProofs -dsimp [go_sem, get_set_eq, get_set_ne, get_del_ne, ]
  refine c4 ?_
  by_cases hc : ps.length < 1 ∨ 7 < ps.length ∨ 12 < ls.length
  · obtain ⟨a0, s0, rfl⟩ := l0
    obtain ⟨a1, s1, rfl⟩ := l1
    by_cases c1 : ps.length < 1
    · have c1' : ps.length = 0 := by omega
      simp -implicitDefEqProofs -dsimp [go_sem, get_set_eq, get_set_ne, get_del_ne, c1']
      rw [plus_nil]
      exact h _ (Ext.refl _)
    · have i1 : ¬ (ps.length : Int) < 1 := by omega
      by_cases c2 : 7 < ps.length
      · have i2 : (7 : Int) < ps.length := by omega
        simp -implicitDefEqProofs -dsimp [go_sem, get_set_eq, get_set_ne, get_del_ne, c1, i1, c2, i2]
        rw [plus_nil]
        exact h _ (Ext.refl _)
      · have i2 : ¬ (7 : Int) < ps.length := by omega
        have c3 : 12 < ls.length := by omega
        have i3 : (12 : Int) < ls.length := by omega
        simp -implicitDefEqProofs -dsimp [go_sem, get_set_eq, get_set_ne, get_del_ne, c1, i1, c2, i2, c3, i3]
        rw [plus_nil]
        exact h _ (Ext.refl _)
  · have n1 : 1 ≤ ps.length := by omega
    have n7 : ps.length ≤ 7 := by omega
    have m12 : ls.length ≤ 12 := by omega
    obtain ⟨b, ro, rfl, hb⟩ := h0.resolve_left (fun e => by rw [e.2] at n1; simp at n1)
    obtain ⟨a1, s1, e1⟩ := l1
    generalize hn : ps.length = n at *
    have i1 : ¬ (n : Int) < 1 := by omega
    have i7 : ¬ (7 : Int) < n := by omega
    have i12 : ¬ (12 : Int) < ls.length := by omega
    have lb := A.lt hb
    have n0 : ¬ n = 0 := by omega
    have lc : (prsC ps).length = n * 4 := by rw [prsC_len, hn]
    have tk : List.take (n * 4) (prsC ps) = prsC ps := List.take_of_length_le (by omega)
    simp -implicitDefEqProofs -dsimp [go_sem, get_set_eq, get_set_ne, get_del_ne, e1, i1, i7, i12, lb, hb, n0, lc, tk]
    refine ⟨by omega, ?_⟩
    generalize hA1 : A.plus A.next [some _, some _, none, some _] = A1
    have x1 : Ext A A1 := by rw [← hA1]; exact ext_plus _ _
    have m0 : mixP ps 0 = ps := by simp [mixP]
    have LL : L1 ps (A.next + 3) (A.next + 1) A 0 A1 [] A.next := by
      refine ⟨x1, rfl, ?_, ?_, ?_, ⟨rfl, fun i H t hi => by simp at hi, fun i j H G hi => by simp at hi⟩, ⟨by omega, by omega, by omega⟩, ⟨by omega, by omega, by omega⟩, by simp [allRows], by simp [allRows]⟩
      · rw [← hA1, plus_get_new, m0]; rfl
      · rw [← hA1, plus_get_new]; rfl
      · rw [← hA1, plus_get_new0]; rfl
    clear hA1
    rw [← plus_nil A1, ← e1]
    refine loop1 hn n7 LL (hp0 := 0) (fun A2 Hs ht L => ?_)
    have wz : ((n : Int) * 8 ≤ 281474976710656) := by omega
    have wz0 : (0 : Int) ≤ n := by omega
    simp -implicitDefEqProofs -dsimp [go_sem, get_set_eq, get_set_ne, get_del_ne, rowOf, e1, wz, wz0]
    generalize hA3 : A2.plus A2.next [some _, some _, some _] = A3
    have x3 : Ext A2 A3 := by rw [← hA3]; exact ext_plus _ _
    have lt1 := A2.lt L.gpr
    have lt2 := A2.lt L.gpt
    have lt3 := A2.lt L.ght
    have lrows := L.tr.rows_lt
    have hz : tsOf ps n (List.replicate n 0) = newTs ps n := by
      unfold tsOf newTs
      refine List.map_congr_left fun i hi => ?_
      rw [← mkT_zero]
      have : (List.replicate n 0).getD i 0 = 0 := by
        simp only [List.getD_eq_getElem?_getD, List.getElem?_replicate]
        split <;> rfl
      rw [this]
    have L2' : L2 ps n A Hs A3 ⟨A.next + 3, A.next + 1, ht, A2.next, A2.next + 2, A2.next + 1⟩ [] (List.replicate n 0) := by
      refine ⟨L.ext.trans x3, L.len, x3.keeps L.gpr, x3.keeps L.gpt, x3.keeps L.ght, ?_, ?_, ?_, by rw [hz]; exact L.tr.ext x3, Nt.zero n, ?_, ?_, ?_, L.nrows⟩
      · rw [← hA3, plus_get_new0, natsC_zero]; rfl
      · rw [← hA3, plus_get_new]; rfl
      · rw [← hA3, plus_get_new]; rfl
      · have a1 := L.ne.1
        have a2 := L.ne.2.1
        have a3 := L.ne.2.2
        simp only [Rw.list, List.nodup_cons, List.mem_cons, List.not_mem_nil, or_false, not_or, List.nodup_nil, and_true, not_false_eq_true]
        refine ⟨⟨a1, a2, by omega, by omega, by omega⟩, ⟨a3, by omega, by omega, by omega⟩, ⟨by omega, by omega, by omega⟩, ⟨by omega, by omega⟩, by omega⟩
      · have a1 := L.new.1
        have a2 := L.new.2.1
        have a3 := L.new.2.2
        have a4 := L.ext.next
        intro x hx
        simp only [Rw.list, List.mem_cons, List.not_mem_nil, or_false] at hx
        omega
      · have a1 := L.rows.1
        have a2 := L.rows.2.1
        have a3 := L.rows.2.2
        intro x hx hm
        have := lrows x hm
        simp only [Rw.list, List.mem_cons, List.not_mem_nil, or_false] at hx
        rcases hx with rfl | rfl | rfl | rfl | rfl | rfl
        · exact a1 hm
        · exact a2 hm
        · exact a3 hm
        all_goals omega
    clear hA3
    rw [← plus_nil A3, ← e1]
    refine loop2 n1 n7 L2' m12 h1 (fun A4 R4 ws fr q1 q2 q3 hws L4 => ?_)
    obtain ⟨hp4, pt4, ht4, hf4, pw4, hw4⟩ := R4
    simp only at q1 q2 q3
    subst q1; subst q2; subst q3
    have N := L4.nt.net (ps := ps) n7
    have I0 := L4.nt.inv (ps := ps)
    simp -implicitDefEqProofs -dsimp [go_sem, get_set_eq, get_set_ne, get_del_ne, ]
    refine loop3 n1 n7 N I0 L4.l3 h2 hxs (fun A5 ts5 j b I5 L5' => ?_)
    simp -implicitDefEqProofs -dsimp [go_sem, get_set_eq, get_set_ne, get_del_ne, env3, ok8, scalarB]
    refine loop4 n1 n7 hws N I5 L5' (fun A6 ts6 b R6 L6 => ?_)
    simp -implicitDefEqProofs -dsimp [go_sem, get_set_eq, get_set_ne, get_del_ne, env4, rowOf, wz, wz0]
    obtain ⟨t, ht⟩ : ∃ t : Nat, t = 8 * (n + 2) := ⟨_, rfl⟩
    have et : (8 * ((n : Int) + 2) + 1) = (t : Int) + 1 := by omega
    rw [← ht] at R6
    rw [et]
    generalize hR : Rw.mk _ _ _ _ _ _ = R at L6
    have f1 : R.hp = A.next + 3 := by rw [← hR]
    have f2 : R.pt = A.next + 1 := by rw [← hR]
    have f3 : R.pw = A2.next + 2 := by rw [← hR]
    rw [← f1, ← f2, ← f3]
    generalize hA7 : A6.plus A6.next [some _] = A7
    have x7 : Ext A6 A7 := by rw [← hA7]; exact ext_plus _ _
    have L7 : L5 ps n A Hs A7 R ws ts6 A6.next (initG n 0) := by
      refine ⟨L6.later x7, ?_, initG_len (by omega), L6.ext.next, fun hm => ?_, fun hm => ?_⟩
      · rw [← hA7, plus_get_new0, natsC_zero]; rfl
      · have l1 := A6.lt L6.gpr
        have l2 := A6.lt L6.gpt
        have l3 := A6.lt L6.ght
        have l4 := A6.lt L6.gpw
        have l5 := A6.lt L6.ghw
        simp only [Rw.now, List.mem_cons, List.not_mem_nil, or_false] at hm
        omega
      · exact Nat.lt_irrefl _ (L6.tr.rows_lt _ hm)
    clear hA7
    rw [← plus_nil A7]
    refine loop5a n7 (t := t) L7 (fun A8 b L8 => ?_)
    simp -implicitDefEqProofs -dsimp [go_sem, get_set_eq, get_set_ne, get_del_ne, env5]
    refine loop5b n7 hws N L8 (fun A9 gr b L9 G9 => ?_)
    simp -implicitDefEqProofs -dsimp [go_sem, get_set_eq, get_set_ne, get_del_ne, env5]
    refine loop7 hn n7 hws N ?_ L9 G9 ht R6 (fun A10 now rv b x10 => ?_)
    · rw [← L6.tr.len, L6.len]
    simp -implicitDefEqProofs -dsimp [go_sem, get_set_eq, get_set_ne, get_del_ne, env10]
    rw [plus_nil]
    exact h A10 x10
end Go.Proofs.Ytckdmhjhjfmcdaa.Sx
