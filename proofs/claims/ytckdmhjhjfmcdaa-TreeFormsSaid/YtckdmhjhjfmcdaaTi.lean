/-
  Contracts: what a tree hears.
-/
import Derived.Test.YtckdmhjhjfmcdaaTh
namespace Go.Proofs.Ytckdmhjhjfmcdaa.Sx
set_option linter.unusedSimpArgs false
set_option linter.unusedVariables false
open Go
set_option maxRecDepth 40000
attribute [local go_sem] hide1 Un_succ z_skip z_exit z_ret z_row z_seq z_cond z_block z_inBlock_exit z_end_ret z_end_normal z_light z_alloc z_heavy z_guard z_dnil z_dlight z_dalloc z_dguard z_dheavy z_dheavyg z_store z_call z_callv z_append z_apd_nil z_apd_some z_copy z_pick z_load z_nilchk z_bin z_un z_min2 z_mkfunc z_conv z_fieldAddr z_field z_idxArr z_idxSl z_indexA z_extract z_lenS z_build z_box z_mkslice z_makeslice z_cnd_true z_cnd_false z_gd_bool z_gd_tup wpR_nil re_nil z_re z_reg cpy_nil cpy_some l_mov a_alloc a_mkmap ev_tmp ev_int ev_bool ev_nilp ev_nils ev_nilm ev_nilf ev_str ev_func kc_some kc_none keep_kc keep_nil keep_empty thenK_normal thenK_ret thenK_exit keepK_normal keepK_ret keepK_exit inBlockK_normal inBlockK_ret Env.get Env.put enterE evalL evalParts fillL putCells cellsOf partV loadV bnd dbin dint dun dcmp deq sameL same0 noTup closedV closedS retV resL sliceCells rc_nil rc_cons rc_consg rck_load ldV_some ldO_cells evalG plus_next plus_get_new plus_get_new0 plus_get_old plus_alloc plus_set_new plus_set_new0 plus_set_old plus_del_new plus_del_new0 plus_del_old plus_reserve0 plus_reserve1 plus_reserve2 plus_reserve3 plus_reserve4 plus_reserve5 plus_reserve6 plus_plus nx_set nx_del set_set obl_some obl_none obP_some obP_none obS_some obI_int obB_bool obA_agg obT_tup obF_func obC_cells obM_map obL_slice Nat.add_assoc
theorem c15x {xs : List Int} {v : Value} (hl : xs.length ≤ 1000000) {A : AHeap} (hv : IntsAt A v xs) {K : Value → AHeap → Prop} (h0 : v = .slice none 0 0 → xs = [] → K (.slice none 0 0) (A.plus A.next []))
    (h1 : xs = [] → K (.slice (some ⟨A.next, 0, none⟩) 0 1) (A.plus A.next [some (.cells false [])])) (h2 : K (.slice (some ⟨A.next + 1, 0, none⟩) xs.length 1) (A.plus A.next [none, some (.cells false (ints xs))])) :
    dcall Go.Proofs.Try.prog 15 [v] A K := by
  refine F15_call (by simp) (start ?_)
  rcases hv with ⟨rfl, rfl⟩ | ⟨b, ro, rfl, hb⟩
  · simp -implicitDefEqProofs -dsimp [go_sem, get_set_eq, get_set_ne, get_del_ne, ]
    exact h0 rfl rfl
  · have lb := A.lt hb
    by_cases hx : xs = []
    · subst hx
      simp -implicitDefEqProofs -dsimp [go_sem, get_set_eq, get_set_ne, get_del_ne, hb, lb]
      exact h1 rfl
    · have hx' : xs.length ≠ 0 := by simpa using hx
      simp -implicitDefEqProofs -dsimp [go_sem, get_set_eq, get_set_ne, get_del_ne, hb, lb, hx, hx', ints_len]
      refine ⟨by omega, ?_⟩
      rw [List.take_of_length_le (by rw [ints_len]; omega)]
      exact h2
theorem c15r {xs : List Int} {v : Value} (hl : xs.length ≤ 1000000) {A : AHeap} (hv : IntsAt A v xs) {K : Value → AHeap → Prop} (h : ∀ u A', Ext A A' → IntsRo A' u xs → K u (A'.plus A'.next [])) :
    dcall Go.Proofs.Try.prog 15 [v] A K := by
  refine dcall_weak (c15x hl hv ?_ ?_ ?_)
  · rintro rfl rfl
    refine ⟨_, Weak.refl _, ?_⟩
    have := h (.slice none 0 0) A (Ext.refl A) (.inl ⟨rfl, rfl⟩)
    exact this
  · rintro rfl
    have g : (A.plus A.next [some (.cells false [])]).get A.next = some (.cells false []) := by rw [plus_get_new0]; rfl
    refine ⟨_, Weak.freeze g, ?_⟩
    rw [← plus_nil (AHeap.set _ _ _)]
    refine h _ _ ((ext_plus A _).set' (Nat.le_refl _) _) (.inr ⟨A.next, rfl, ?_⟩)
    rw [get_set_eq rfl (AHeap.lt _ g)]; rfl
  · have g : (A.plus A.next [none, some (.cells false (ints xs))]).get (A.next + 1) = some (.cells false (ints xs)) := by rw [plus_get_new]; rfl
    refine ⟨_, Weak.freeze g, ?_⟩
    rw [← plus_nil (AHeap.set _ _ _)]
    refine h _ _ ((ext_plus A _).set' (by omega) _) (.inr ⟨A.next + 1, rfl, ?_⟩)
    rw [get_set_eq rfl (AHeap.lt _ g)]
/-- A message of any kind. -/
def msV (kind : Int) (m : Ms) (path : Value) : Value := .agg (#[.int .i64 kind] ++ ((m.cells path).drop 1).toArray)
set_option maxHeartbeats 2000000 in
theorem c7 {t : Tr} {H : TH} {at' now kind : Int} {g : Mg} {pv : Value} (hl : g.path.length ≤ 1000) {A : AHeap} (hT : TrAt A H t) (hp : IntsAt A pv g.path) {K : Value → AHeap → Prop}
    (h0 : kind ≠ 11 → ∀ A', Ext A A' → K (.int .i64 23) (A'.plus A'.next []))
    (h1 : kind = 11 → ∀ A', Mod H.rows A A' → TrAt A' H (t.inn at' g now).1 → K (.int .i64 (t.inn at' g now).2) (A'.plus A'.next [])) :
    dcall Go.Proofs.Try.prog 7 [.pointer (some ⟨H.p, 0, none⟩), .int .i64 at', msV kind g.m pv, .int .i64 now] A K := by
  refine F7_call (by simp) (start ?_)
  have hpl : noTup pv = true := by rcases hp with ⟨rfl, _⟩ | ⟨b, ro, rfl, _⟩ <;> rfl
  obtain ⟨vs, hvs, hpa⟩ := hT.pa
  have lvs : vs.length = 8 := by rw [hpa.length, hT.len]
  have s1 := hT.st
  have s2 := hT.up
  have s3 := hT.he
  have s5 := hT.wh
  have l1 := A.lt s1
  have l2 := A.lt s2
  have l3 := A.lt s3
  have l4 := A.lt hvs
  have l5 := A.lt s5
  obtain ⟨n1, n2, n3, n4, n5, n6, n7, n8, n9, n10⟩ := TH.ne hT.nd
  have lt8 : t.ps.length = 8 := hT.len
  have lm : (hes t.hes0).length = 80 := by rw [hes_len]; simp [Tr.hes0, hT.len]
  have e0 : ∀ L, Mod H.rows A (A.plus A.next L) := fun L => (ext_plus A L).mod _
  simp -implicitDefEqProofs -dsimp [go_sem, get_set_eq, get_set_ne, get_del_ne, msV, Ms.cells, s1, l1]
  refine cnd_mk' (fun k1 => ?_) (fun k1 => ?_)
  · subst k1
    have h1 := h1 rfl
    have err : ∀ (c : Int) (L : List (Option AObj)), t.inn at' g now = (t, c) → K (.int .i64 c) (A.plus A.next L) := by
      intro c L hc
      rw [hc] at h1
      have := h1 (A.plus A.next L) (e0 L) (hT.ext (ext_plus A L))
      rwa [plus_nil] at this
    simp -implicitDefEqProofs -dsimp [go_sem, get_set_eq, get_set_ne, get_del_ne, s1, l1]
    refine c13 g.m (by omega) (hp.ext (ext_plus _ _)) fun e he => ?_
    by_cases hok : g.m.ok g.path = true
    · have e0' := he.2 hok
      subst e0'
      simp -implicitDefEqProofs -dsimp [go_sem, get_set_eq, get_set_ne, get_del_ne, s1, l1]
      refine cnd_mk' (fun k2 => ?_) (fun k2 => ?_)
      · simp -implicitDefEqProofs -dsimp [go_sem, get_set_eq, get_set_ne, get_del_ne, s1, l1, k2]
        exact err 23 _ (by rw [Tr.inn, if_pos (by simp [k2])])
      · have k2 : g.m.domain = 0 := Classical.byContradiction k2
        simp -implicitDefEqProofs -dsimp [go_sem, get_set_eq, get_set_ne, get_del_ne, s1, l1, k2]
        have skip1 : ¬ ¬ (g.m.ok g.path = true ∧ g.m.domain = 0) := by simp [hok, k2]
        have e40 : (at' < 0 ∨ 8 ≤ at' ∨ ((t.ps[at'.toNat]?).map Port.up).getD false = false) → t.inn at' g now = (t, 40) := by
          intro hh
          rw [Tr.inn, if_neg skip1, if_pos hh]
        refine cnd_mk' (fun k3 => ?_) (fun k3 => ?_)
        · simp -implicitDefEqProofs -dsimp [go_sem, get_set_eq, get_set_ne, get_del_ne, s1, l1, k3]
          refine cnd_mk' (fun k4 => ?_) (fun k4 => ?_)
          · obtain ⟨i, rfl⟩ := Int.eq_ofNat_of_zero_le k3
            have hi : i < 8 := by omega
            obtain ⟨x, hx⟩ : ∃ x, t.ps[i]? = some x := ⟨t.ps[i]'(by omega), by simp [hi, lt8]⟩
            have hxe : t.ps[i]'(by omega) = x := by
              rw [List.getElem?_eq_getElem (by omega)] at hx; exact Option.some.inj hx
            cases hup : x.up with
            | false =>
              simp -implicitDefEqProofs -dsimp [go_sem, get_set_eq, get_set_ne, get_del_ne, s1, l1, s2, l2, k4, hi, lt8, hxe, hup]
              exact err 40 _ (e40 (by simp [hx, hup]))
            | true =>
              have skip2 : ¬ ((i : Int) < 0 ∨ 8 ≤ (i : Int) ∨ ((t.ps[(i : Int).toNat]?).map Port.up).getD false = false) := by simp [hx, hup]; omega
              have e31 : (g.m.src = t.own.id ∨ t.own.id ∈ g.path ∨ 255 ≤ g.m.steps ∨ 32 ≤ g.path.length) → t.inn i g now = (t, 31) := by
                intro hh
                rw [Tr.inn, if_neg skip1, if_neg skip2, if_pos hh]
              simp -implicitDefEqProofs -dsimp [go_sem, get_set_eq, get_set_ne, get_del_ne, s1, l1, s2, l2, k4, hi, lt8, hxe, hup]
              refine cnd_mk' (fun k5 => ?_) (fun k5 => ?_)
              rotate_left
              · have k5 : g.m.src = t.own.id := Classical.byContradiction k5
                simp -implicitDefEqProofs -dsimp [go_sem, get_set_eq, get_set_ne, get_del_ne, s1, l1, k5]
                exact err 31 _ (e31 (.inl k5))
              simp -implicitDefEqProofs -dsimp [go_sem, get_set_eq, get_set_ne, get_del_ne, s1, l1, k5]
              refine c14 t.own.id (xs := g.path) (by omega) (hp.ext (ext_plus _ _)) ?_
              cases hc : g.path.contains t.own.id with
              | true =>
                simp -implicitDefEqProofs -dsimp [go_sem, get_set_eq, get_set_ne, get_del_ne, s1, l1]
                exact err 31 _ (e31 (.inr (.inl (by simpa using hc))))
              | false =>
                simp -implicitDefEqProofs -dsimp [go_sem, get_set_eq, get_set_ne, get_del_ne, s1, l1]
                refine cnd_mk' (fun k6 => ?_) (fun k6 => ?_)
                rotate_left
                · simp -implicitDefEqProofs -dsimp [go_sem, get_set_eq, get_set_ne, get_del_ne, s1, l1, k6]
                  exact err 31 _ (e31 (.inr (.inr (.inl (by omega)))))
                obtain ⟨pb, psz, hpv⟩ : ∃ b s, pv = .slice b g.path.length s := by
                  rcases hp with ⟨rfl, hnil⟩ | ⟨b, ro, rfl, _⟩
                  · exact ⟨_, _, by rw [hnil]; rfl⟩
                  · exact ⟨_, _, rfl⟩
                simp -implicitDefEqProofs -dsimp [go_sem, get_set_eq, get_set_ne, get_del_ne, s1, l1, k6, hpv]
                refine cnd_mk' (fun k7 => ?_) (fun k7 => ?_)
                · simp -implicitDefEqProofs -dsimp [go_sem, get_set_eq, get_set_ne, get_del_ne, s1, l1, k7, hpv]
                  exact err 31 _ (e31 (.inr (.inr (.inr (by omega)))))
                have hmem : t.own.id ∉ g.path := by simpa using hc
                have x0 : t.hes0[i]? = some ⟨false, x.ok, x.vec⟩ := by simp [Tr.hes0, hx]
                have bd : i * 10 ≤ 70 := by omega
                have fp := hes_put x0 ⟨false, true, ⟨g.m.best, g.m.steps, g.m.src, g.m.port, 0⟩⟩
                simp only [He.cells, Ve.cells, putCells, Nat.add_assoc, Nat.reduceAdd] at fp
                have hi' : (i : Int) < 8 := by omega
                simp -implicitDefEqProofs -dsimp [go_sem, get_set_eq, get_set_ne, get_del_ne, s1, l1, s3, l3, k7, hpv, fp, lm, bd, hi, hi', n2, n2.symm]
                have hpB : ∀ L, IntsAt ((A.set H.h (.cells false (hes (t.hes0.set i ⟨false, true, ⟨g.m.best, g.m.steps, g.m.src, g.m.port, 0⟩⟩)))).plus A.next L) pv g.path := by
                  intro L
                  rcases hp with h | ⟨b, ro, h1, h2⟩
                  · exact .inl h
                  · refine .inr ⟨b, ro, h1, ?_⟩
                    have hne : b ≠ H.h := by
                      intro e
                      rw [e, s3] at h2
                      have e2 : hes t.hes0 = ints g.path := (AObj.cells.inj (Option.some.inj h2)).2
                      have e3 := congrArg (fun l : List Value => l[0]?) e2
                      obtain ⟨x1, hx1⟩ : ∃ x, t.hes0 = x :: t.hes0.drop 1 := by
                        cases h : t.hes0 with
                        | nil => rw [h] at lm; simp [hes] at lm
                        | cons a l => exact ⟨a, by simp⟩
                      rw [hx1] at e3
                      cases hg : g.path with
                      | nil => rw [hg] at e3; simp [hes, He.cells, ints] at e3
                      | cons a l => rw [hg] at e3; simp [hes, He.cells, ints] at e3
                    rw [plus_get_old (A.lt h2), get_set_ne hne]; exact h2
                have mB : ∀ L, Mod H.rows A ((A.set H.h (.cells false (hes (t.hes0.set i ⟨false, true, ⟨g.m.best, g.m.steps, g.m.src, g.m.port, 0⟩⟩)))).plus A.next L) := fun L => mod_plus ((Mod.refl _ A).set (by simp [TH.rows]) s3) L (nx_set _ _ _)
                rw [hpv] at hpB
                refine c15r (xs := g.path) (by omega) (hpB _) fun u A2 e2 hu => ?_
                have keep : ∀ {p : Nat} {o : AObj}, p ≠ H.h → A.get p = some o → A2.get p = some o := by
                  intro p o hne hg
                  refine e2.keeps ?_
                  rw [plus_get_old (A.lt hg), get_set_ne hne]; exact hg
                have q1 := keep n2 s1
                have q2 := keep n5 s2
                have q4 := keep n8.symm hvs
                have q5 := keep n9.symm s5
                have q3 : A2.get H.h = some (.cells false (hes (t.hes0.set i ⟨false, true, ⟨g.m.best, g.m.steps, g.m.src, g.m.port, 0⟩⟩))) := by
                  refine e2.keeps ?_
                  rw [plus_get_old l3, get_set_eq rfl l3]
                have r1 := A2.lt q1
                have r4 := A2.lt q4
                have r5 := A2.lt q5
                obtain ⟨uq, ul, uc, rfl⟩ : ∃ q l c, u = .slice q l c := by
                  rcases hu with ⟨rfl, _⟩ | ⟨b, rfl, _⟩
                  · exact ⟨_, _, _, rfl⟩
                  · exact ⟨_, _, _, rfl⟩
                have li : (ints (t.ps.map Port.when)).length = 8 := by rw [ints_len]; simp [lt8]
                simp -implicitDefEqProofs -dsimp [go_sem, get_set_eq, get_set_ne, get_del_ne, q1, q4, q5, r1, r4, r5, lvs, hi, hi', li, n3, n4, n10, n10.symm]
                repeat' apply And.intro
                iterate 2 first | omega | skip
                generalize hB : AHeap.set _ H.w _ = B
                have hBn : B.next = A2.next := by rw [← hB, nx_set, nx_set]
                rw [← hBn]
                have m2 : Mod H.rows A2 B := by
                  rw [← hB]
                  exact ((Mod.refl _ A2).set (by simp [TH.rows]) q4).set (cs := _) (by simp [TH.rows]) (by rw [get_set_ne n10.symm]; exact q5)
                have mA : Mod H.rows A B := ((mB _).trans (e2.mod _)).trans m2
                have hin : t.inn i g now = (t.put i (taken g now), 0) := by
                  rw [Tr.inn, if_neg skip1, if_neg skip2, if_neg (by
                    rintro (h | h | h | h)
                    · exact k5 h
                    · exact hmem h
                    · omega
                    · omega)]
                  rfl
                rw [hin] at h1
                refine h1 B mA (hT.put mA (v := .slice uq ul uc) ?_ ?_ ?_ ?_ ?_ ?_)
                · rw [← hB, get_set_ne n4, get_set_ne n3, q1, s1]
                · rw [← hB, get_set_ne n7, get_set_ne n6, q2]
                  show _ = some (AObj.cells false (List.set _ i (Value.bool true)))
                  rw [set_self (by simp [hx, hup])]
                · rw [← hB, get_set_ne n9, get_set_ne n8, q3]; rfl
                · intro vs' hvs'
                  rw [hvs] at hvs'; cases hvs'
                  rw [← hB, get_set_ne n10, get_set_eq rfl r4]
                · exact hu.mod m2
                · rw [← hB, get_set_eq rfl (by rw [nx_set]; exact r5)]; rfl
          · simp -implicitDefEqProofs -dsimp [go_sem, get_set_eq, get_set_ne, get_del_ne, s1, l1, k4]
            exact err 40 _ (e40 (by omega))
        · simp -implicitDefEqProofs -dsimp [go_sem, get_set_eq, get_set_ne, get_del_ne, s1, l1, k3]
          exact err 40 _ (e40 (by omega))
    · have e0' : e ≠ 0 := fun h => hok (he.1 h)
      simp -implicitDefEqProofs -dsimp [go_sem, get_set_eq, get_set_ne, get_del_ne, s1, l1, e0']
      exact err 23 _ (by rw [Tr.inn, if_pos (by simp [hok])])
  · simp -implicitDefEqProofs -dsimp [go_sem, get_set_eq, get_set_ne, get_del_ne, k1]
    have := fun L => h0 k1 (A.plus A.next L) (ext_plus A L)
    simp only [plus_nil] at this
    exact this _
end Go.Proofs.Ytckdmhjhjfmcdaa.Sx
