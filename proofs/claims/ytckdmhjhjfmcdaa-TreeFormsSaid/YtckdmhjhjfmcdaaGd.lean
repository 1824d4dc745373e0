/-
  TreeForms, sixth stage: a turn, both turns.
-/
import Derived.Test.YtckdmhjhjfmcdaaGc
namespace Go.Proofs.Ytckdmhjhjfmcdaa.Sx
set_option linter.unusedSimpArgs false
set_option linter.unusedVariables false
open Go
set_option maxRecDepth 40000
attribute [local go_sem] hide1 Un_succ z_skip z_exit z_ret z_row z_seq z_cond z_block z_inBlock_exit z_end_ret z_end_normal z_light z_alloc z_heavy z_guard z_dnil z_dlight z_dalloc z_dguard z_dheavy z_dheavyg z_store z_call z_callv z_append z_apd_nil z_apd_some z_copy z_pick z_load z_nilchk z_bin z_un z_min2 z_mkfunc z_conv z_fieldAddr z_field z_idxArr z_idxSl z_indexA z_extract z_lenS z_build z_box z_mkslice z_makeslice z_cnd_true z_cnd_false z_gd_bool z_gd_tup wpR_nil re_nil z_re z_reg cpy_nil cpy_some l_mov a_alloc a_mkmap ev_tmp ev_int ev_bool ev_nilp ev_nils ev_nilm ev_nilf ev_str ev_func kc_some kc_none keep_kc keep_nil keep_empty thenK_normal thenK_ret thenK_exit keepK_normal keepK_ret keepK_exit inBlockK_normal inBlockK_ret Env.get Env.put enterE evalL evalParts fillL putCells cellsOf partV loadV bnd dbin dint dun dcmp deq sameL same0 noTup closedV closedS retV resL sliceCells rc_nil rc_cons rc_consg rck_load ldV_some ldO_cells evalG plus_next plus_get_new plus_get_new0 plus_get_old plus_alloc plus_set_new plus_set_new0 plus_set_old plus_del_new plus_del_new0 plus_del_old plus_reserve0 plus_reserve1 plus_reserve2 plus_reserve3 plus_reserve4 plus_reserve5 plus_reserve6 plus_plus nx_set nx_del set_set obl_some obl_none obP_some obP_none obS_some obI_int obB_bool obA_agg obT_tup obF_func obC_cells obM_map obL_slice Nat.add_assoc
theorem Rs.mod {base : Nat} {B C : AHeap} {h : Nat} {rs : List (List Int)} {S : List Nat} (r : Rs base B h rs) (m : Mod S B C) (hS : ∀ x ∈ S, x < base) : Rs base C h rs := by
  obtain ⟨cs, h1, h2, h3, h4⟩ := r.cs
  have hn : ∀ x, base ≤ x → x ∉ S := fun x hx hm => by have := hS x hm; omega
  refine ⟨r.new, cs, h1, m.keeps (hn _ r.new) h2, h3, fun j c rr a b => m.keeps (hn _ (h3 c (List.mem_of_getElem? a)).1) (h4 j c rr a b)⟩
theorem Rs.nil {base : Nat} {B : AHeap} {h : Nat} (hb : base ≤ h) (hg : B.get h = some (.cells false [])) : Rs base B h [] :=
  ⟨hb, [], rfl, by simpa using hg, fun c hc => (by cases hc), fun j c r hc => by simp at hc⟩
/-- What the turn ahead left. -/
def Ahead (A : AHeap) (rv : Value) (n : Nat) (rs : List (List Int)) : Prop := rv = .slice none 0 0 ∨ ∃ base h1, rv = .slice (some ⟨h1, 0, none⟩) n 1 ∧ Rs base A h1 rs
def env10 (R : Rw) (n : Nat) (now : Int) (hg : Nat) (rv : Value) (k : Nat) : Env :=
  [(0, .slice (some ⟨R.hp, 0, none⟩) n 4), (8, .pointer (some ⟨R.pt, 0, none⟩)), (14, .pointer (some ⟨R.pw, 0, none⟩)), (20, clos R), (21, .int .i64 now), (22, .slice (some ⟨hg, 0, none⟩) n 1), (28, rv), (29, .int .i64 k)]
set_option maxHeartbeats 8000000 in
theorem turn {ps : List Pr} {n : Nat} (hps : ps.length = n) (hn7 : n ≤ 7) {A0 A : AHeap} {Hs : List TH} {R : Rw} {ws : List Wire} (hws : ws.length ≤ 12) (N : Net n (priOf ps) ws) {ts : List Tr} (hts : ts.length = n) {hg : Nat} {gr : List Nat} (hL : L5 ps n A0 Hs A R ws ts hg gr) (hG : Gs n ws n [] gr) {now tmin : Int} (hnow0 : 0 ≤ now) (hnow : now ≤ 900)
    (S : Settled n (priOf ps) ws ts now tmin) (hI : Inv n (priOf ps) ws ts (now + 1)) {rv : Value} (hrv : Ahead A rv n (ts.map (·.roles now))) {k : Nat} (hk : k < 2) {K : Exit → Env → AHeap → Prop} {q : Env → AHeap → Prop}
    (hq : ∀ C h2, L5 ps n A0 Hs C R ws (runHops (now + 1) (hops ws) ts) hg gr → Rs A.next C h2 (ts.map (·.roles now)) → q (env10 R n (now + 1) hg (.slice (some ⟨h2, 0, none⟩) n 1) (k + 1)) (C.plus C.next [])) :
    Cw Go.Proofs.Try.prog F3c157 .mk (env10 R n now hg rv k) (A.plus A.next []) (hide (thenK (hide (fun E' => hide (fun A' => q E' A') .mk) .mk) K) .mk) := by
  have hk' : (k : Int) < 2 := by omega
  have g2 := hL.l.gpt
  have r2 := A.lt g2
  simp -implicitDefEqProofs -dsimp [go_sem, get_set_eq, get_set_ne, get_del_ne, F3c157, env10, hk, hk', g2, r2]
  generalize hA1 : A.plus A.next [some _] = A1
  have e1 : Ext A A1 := by rw [← hA1]; exact ext_plus _ _
  have R0 : Rs A.next A1 A.next [] := Rs.nil (Nat.le_refl _) (by rw [← hA1, plus_get_new0]; rfl)
  clear hA1
  rw [← plus_nil A1]
  refine loop6 hps hn7 N hts hL e1 hG hnow0 (by omega) S R0 (fun A2 h2 b e2 R2 => ?_)
  have L2 := hL.later e2
  have g3 := L2.l.gpw
  have r3 := A2.lt g3
  simp -implicitDefEqProofs -dsimp [go_sem, get_set_eq, get_set_ne, get_del_ne, env9, env6, g3, r3]
  refine loop6c hn7 hws N hts hL e2 S R2 (fun A3 b e3 R3 => ?_)
  have L3 := hL.later e3
  have hrl : (ts.map (·.roles now)).length = n := by simp [hts]
  have h8 : ∀ r ∈ ts.map (·.roles now), r.length = 8 := by
    intro r hr
    obtain ⟨t, ht, rfl⟩ := List.mem_map.1 hr
    obtain ⟨i, hi⟩ := List.mem_iff_getElem?.1 ht
    rw [t.roles_len]; exact (S.inv.own i t hi).2
  have hrows : ∀ x ∈ allRows Hs, x < A.next := hL.l.tr.rows_lt
  have wn : IntKind.i64.wrap (now + 1) = now + 1 := wrap_i64 (by omega)
  have wk : IntKind.i64.wrap ((k : Int) + 1) = (k : Int) + 1 := wrap_i64 (by omega)
  have fin : ∀ A4, Mod (allRows Hs) A3 A4 → TsAt A4 Hs (runHops (now + 1) (hops ws) ts) → q (env10 R n (now + 1) hg (.slice (some ⟨h2, 0, none⟩) n 1) (k + 1)) (A4.plus A4.next []) := fun A4 m4 T4 => hq A4 h2 (L3.mod m4 T4) (R3.mod m4 hrows)
  rcases hrv with rfl | ⟨base, h1, rfl, R1⟩
  · simp -implicitDefEqProofs -dsimp [go_sem, get_set_eq, get_set_ne, get_del_ne, env9, env6]
    refine loop6z (fun b => ?_)
    simp -implicitDefEqProofs -dsimp [go_sem, get_set_eq, get_set_ne, get_del_ne, env9, env6, clos, ok8, wn]
    refine c8 N (ts := ts) (now := now + 1) (by omega) (by omega) hI (L3.l.tr.ext (ext_plus _ _)) ((L3.l.later (ext_plus _ _)).still) hws fun A4 m4 T4 => ?_
    rw [plus_nil] at m4
    simp -implicitDefEqProofs -dsimp [go_sem, get_set_eq, get_set_ne, get_del_ne, wk]
    exact fin A4 m4 T4
  · simp -implicitDefEqProofs -dsimp [go_sem, get_set_eq, get_set_ne, get_del_ne, env9, env6]
    refine loop6d hn7 hrl h8 (R1.later e3) R3 (fun b => ?_)
    simp -implicitDefEqProofs -dsimp [go_sem, get_set_eq, get_set_ne, get_del_ne, env9, env6, clos, ok8, wn]
    refine c8 N (ts := ts) (now := now + 1) (by omega) (by omega) hI (L3.l.tr.ext (ext_plus _ _)) ((L3.l.later (ext_plus _ _)).still) hws fun A4 m4 T4 => ?_
    rw [plus_nil] at m4
    simp -implicitDefEqProofs -dsimp [go_sem, get_set_eq, get_set_ne, get_del_ne, wk]
    exact fin A4 m4 T4
theorem half_len (ts : List Tr) (u pu v pv : Nat) (now : Int) : (half ts u pu v pv now).1.length = ts.length := by
  unfold half
  repeat' split
  all_goals simp
theorem runHops_len (now : Int) : ∀ (a : List (End × End)) (ts : List Tr), (runHops now a ts).length = ts.length
  | [], _ => rfl
  | h :: r, ts => by rw [runHops, runHops_len now r, half_len]
set_option maxHeartbeats 8000000 in
theorem loop7 {ps : List Pr} {n : Nat} (hps : ps.length = n) (hn7 : n ≤ 7) {A0 A : AHeap} {Hs : List TH} {R : Rw} {ws : List Wire} (hws : ws.length ≤ 12) (N : Net n (priOf ps) ws) {ts : List Tr} (hts : ts.length = n) {hg : Nat} {gr : List Nat} (hL : L5 ps n A0 Hs A R ws ts hg gr) (hG : Gs n ws n [] gr) {t : Nat} (ht : t = 8 * (n + 2))
    (hr : Run n (priOf ps) ws ts t) {h : Dep (DCode.loop F3c157)} {K : Exit → Env → AHeap → Prop}
    (hK : ∀ C now rv b, Ext A0 C → K (.exit 14) (env10 R n now hg rv 2 ++ [(285, .bool b)]) (C.plus C.next [])) :
    Cw Go.Proofs.Try.prog (.loop F3c157) h (env10 R n ((t : Int) + 1) hg (.slice none 0 0) 0) (A.plus A.next []) K := by
  have S : Settled n (priOf ps) ws ts ((t + 1 : Nat) : Int) t := hr.settled N (by omega) (by omega) (by omega) (by omega)
  obtain ⟨I1, I2, P2⟩ := hr.step N (s := t + 2) (by omega) (by omega)
  have S' : Settled n (priOf ps) ws (runHops ((t + 2 : Nat) : Int) (hops ws) ts) ((t + 2 : Nat) : Int) ((t + 2 : Nat) : Int) := ⟨I2, by omega, by omega, fun g hB => (P2 g hB (by omega)).less (by omega)⟩
  have hsame : ts.map (·.roles ((t + 1 : Nat) : Int)) = (runHops ((t + 2 : Nat) : Int) (hops ws) ts).map (·.roles ((t + 2 : Nat) : Int)) := by
    have hl := runHops_len ((t + 2 : Nat) : Int) (hops ws) ts
    apply List.ext_getElem?
    intro i
    rw [List.getElem?_map, List.getElem?_map]
    rcases Nat.lt_or_ge i n with hi | hi
    · obtain ⟨m, hB, hm, hc⟩ := best_ex N hi
      obtain ⟨x, hx⟩ : ∃ x, ts[i]? = some x := ⟨ts[i]'(by omega), by simp [show i < ts.length by omega]⟩
      obtain ⟨y, hy⟩ : ∃ y, (runHops ((t + 2 : Nat) : Int) (hops ws) ts)[i]? = some y := ⟨(runHops ((t + 2 : Nat) : Int) (hops ws) ts)[i]'(by omega), by simp [show i < (runHops ((t + 2 : Nat) : Int) (hops ws) ts).length by omega]⟩
      rw [hx, hy, Option.map_some, Option.map_some, roles_same N S S' hB hm hc hx hy]
    · rw [List.getElem?_eq_none (by omega), List.getElem?_eq_none (by omega)]; rfl
  have e1 : ((t + 1 : Nat) : Int) = (t : Int) + 1 := rfl
  have e2 : ((t + 2 : Nat) : Int) = (t : Int) + 1 + 1 := by omega
  rw [e1] at S hsame
  refine Cw_count 2 0 (fun k E A' => ∃ B, A' = B.plus B.next [] ∧ ((k = 0 ∧ B = A ∧ E = env10 R n ((t : Int) + 1) hg (.slice none 0 0) 0)
    ∨ (k = 1 ∧ ∃ h1 base, E = env10 R n ((t : Int) + 1 + 1) hg (.slice (some ⟨h1, 0, none⟩) n 1) 1 ∧ L5 ps n A0 Hs B R ws (runHops ((t + 2 : Nat) : Int) (hops ws) ts) hg gr ∧ Rs base B h1 ((runHops ((t + 2 : Nat) : Int) (hops ws) ts).map (·.roles ((t + 2 : Nat) : Int))))
    ∨ (k = 2 ∧ ∃ now rv, E = env10 R n now hg rv 2 ∧ Ext A0 B))) (by omega) ⟨A, rfl, .inl ⟨rfl, rfl, rfl⟩⟩ ?_
  rintro k E A1 hk ⟨B, rfl, h⟩
  rcases h with ⟨rfl, rfl, rfl⟩ | ⟨rfl, h1, base, rfl, L1, R1⟩ | ⟨rfl, now, rv, rfl, eB⟩
  · refine turn hps hn7 hws N hts hL hG (now := (t : Int) + 1) (by omega) (by omega) S (I1.later (by omega)) (.inl rfl) (by omega) (fun C h2 L2 R2 => ?_)
    rw [hsame] at R2
    rw [← e2] at L2
    exact ⟨by omega, C, rfl, .inr (.inl ⟨rfl, h2, _, rfl, L2, R2⟩)⟩
  · have hl := runHops_len ((t + 2 : Nat) : Int) (hops ws) ts
    refine turn hps hn7 hws N (by omega) L1 hG (now := (t : Int) + 1 + 1) (by omega) (by omega) (by rw [← e2]; exact S') (by rw [← e2]; exact S'.inv.later (by omega)) (.inr ⟨base, h1, rfl, by rw [← e2]; exact R1⟩) (by omega) (fun C h2 L2 R2 => ?_)
    exact ⟨by omega, C, rfl, .inr (.inr ⟨rfl, _, _, rfl, L2.l.ext⟩)⟩
  · simp -implicitDefEqProofs -dsimp [go_sem, get_set_eq, get_set_ne, get_del_ne, env10]
    exact hK B now rv _ eB
end Go.Proofs.Ytckdmhjhjfmcdaa.Sx
