/-
  TreeForms, second stage: the links.
-/
import Derived.Test.YtckdmhjhjfmcdaaTt
namespace Go.Proofs.Ytckdmhjhjfmcdaa.Sx
set_option linter.unusedSimpArgs false
set_option linter.unusedVariables false
open Go
set_option maxRecDepth 40000
attribute [local go_sem] hide1 Un_succ z_skip z_exit z_ret z_row z_seq z_cond z_block z_inBlock_exit z_end_ret z_end_normal z_light z_alloc z_heavy z_guard z_dnil z_dlight z_dalloc z_dguard z_dheavy z_dheavyg z_store z_call z_callv z_append z_apd_nil z_apd_some z_copy z_pick z_load z_nilchk z_bin z_un z_min2 z_mkfunc z_conv z_fieldAddr z_field z_idxArr z_idxSl z_indexA z_extract z_lenS z_build z_box z_mkslice z_makeslice z_cnd_true z_cnd_false z_gd_bool z_gd_tup wpR_nil re_nil z_re z_reg cpy_nil cpy_some l_mov a_alloc a_mkmap ev_tmp ev_int ev_bool ev_nilp ev_nils ev_nilm ev_nilf ev_str ev_func kc_some kc_none keep_kc keep_nil keep_empty thenK_normal thenK_ret thenK_exit keepK_normal keepK_ret keepK_exit inBlockK_normal inBlockK_ret Env.get Env.put enterE evalL evalParts fillL putCells cellsOf partV loadV bnd dbin dint dun dcmp deq sameL same0 noTup closedV closedS retV resL sliceCells rc_nil rc_cons rc_consg rck_load ldV_some ldO_cells evalG plus_next plus_get_new plus_get_new0 plus_get_old plus_alloc plus_set_new plus_set_new0 plus_set_old plus_del_new plus_del_new0 plus_del_old plus_reserve0 plus_reserve1 plus_reserve2 plus_reserve3 plus_reserve4 plus_reserve5 plus_reserve6 plus_plus nx_set nx_del set_set obl_some obl_none obP_some obP_none obS_some obI_int obB_bool obA_agg obT_tup obF_func obC_cells obM_map obL_slice Nat.add_assoc
/-! Plain. -/
def portU : Port := ⟨true, false, zv, [], 0⟩
def mkT (own : Pr) (k : Nat) : Tr := ⟨own, (List.range 8).map fun p => if p < k then portU else port0⟩
theorem mkT_zero (own : Pr) : mkT own 0 = Tr.new own := by
  simp only [mkT, Tr.new, Nat.not_lt_zero, if_false]
  congr 1
theorem mkT_get (own : Pr) (k : Nat) {p : Nat} (hp : p < 8) : (mkT own k).ps[p]? = some (if p < k then portU else port0) := by simp [mkT, hp]
theorem mkT_put (own : Pr) {k : Nat} (hk : k < 8) : (mkT own k).put k portU = mkT own (k + 1) := by
  simp only [Tr.put, mkT, Tr.mk.injEq, true_and]
  apply List.ext_getElem?
  intro i
  by_cases e : i = k
  · subst e
    rw [List.getElem?_set_self (by simpa using hk)]
    simp [hk]
  · rw [List.getElem?_set_ne (Ne.symm e)]
    simp only [List.getElem?_map, List.getElem?_range']
    cases h : (List.range 8)[i]? with
    | none => rfl
    | some j =>
      have : j = i := by
        have := getElem?_lt h
        simp at this
        simp [this] at h
        exact h.symm
      subst this
      simp only [Option.map_some]
      congr 1
      by_cases h1 : j < k
      · rw [if_pos h1, if_pos (by omega)]
      · rw [if_neg h1, if_neg (by omega)]
def tsOf (ps : List Pr) (n : Nat) (fr : List Nat) : List Tr := (List.range n).map fun i => mkT (priOf ps i) (fr.getD i 0)
theorem tsOf_len (ps : List Pr) (n : Nat) (fr : List Nat) : (tsOf ps n fr).length = n := by simp [tsOf]
theorem tsOf_get (ps : List Pr) {n : Nat} (fr : List Nat) {i : Nat} (hi : i < n) : (tsOf ps n fr)[i]? = some (mkT (priOf ps i) (fr.getD i 0)) := by simp [tsOf, hi]
theorem tsOf_set (ps : List Pr) {n : Nat} {fr : List Nat} (hf : fr.length = n) {a : Nat} (ha : a < n) (k : Nat) : tsOf ps n (fr.set a k) = (tsOf ps n fr).set a (mkT (priOf ps a) k) := by
  apply List.ext_getElem?
  intro i
  by_cases e : i = a
  · subst e
    rw [List.getElem?_set_self (by rw [tsOf_len]; exact ha), tsOf_get _ _ ha]
    simp [List.getD_eq_getElem?_getD, hf, ha]
  · rw [List.getElem?_set_ne (Ne.symm e)]
    rcases Nat.lt_or_ge i n with hi | hi
    · rw [tsOf_get _ _ hi, tsOf_get _ _ hi]
      simp [List.getD_eq_getElem?_getD, List.getElem?_set_ne (Ne.symm e)]
    · rw [List.getElem?_eq_none (by rw [tsOf_len]; exact hi), List.getElem?_eq_none (by rw [tsOf_len]; exact hi)]
/-- Links between ports that were free. -/
structure Nt (n : Nat) (ws : List Wire) (fr : List Nat) : Prop where
  len : fr.length = n
  le8 : ∀ i, fr.getD i 0 ≤ 8
  bound : ∀ w ∈ ws, w.1.1 < n ∧ w.1.2 < 8 ∧ w.2.1 < n ∧ w.2.2 < 8 ∧ w.1.1 ≠ w.2.1
  nodup : (ends ws).Nodup
  used : ∀ i p, (i, p) ∈ ends ws ↔ i < n ∧ p < fr.getD i 0
theorem ends_snoc (ws : List Wire) (w : Wire) : ends (ws ++ [w]) = ends ws ++ [w.1, w.2] := by simp [ends]
theorem Nt.zero (n : Nat) : Nt n [] (List.replicate n 0) := by
  have h0 : ∀ i, (List.replicate n 0).getD i 0 = 0 := by
    intro i
    simp only [List.getD_eq_getElem?_getD, List.getElem?_replicate]
    split <;> rfl
  refine ⟨by simp, fun i => by rw [h0]; omega, fun w hw => (by cases hw), by simp [ends], fun i p => ?_⟩
  rw [h0]; simp [ends]
theorem Nt.step {n : Nat} {ws : List Wire} {fr : List Nat} (h : Nt n ws fr) {a b : Nat} (ha : a < n) (hb : b < n) (hab : a ≠ b) (fa : fr.getD a 0 < 8) (fb : fr.getD b 0 < 8) :
    Nt n (ws ++ [((a, fr.getD a 0), (b, fr.getD b 0))]) ((fr.set a (fr.getD a 0 + 1)).set b (fr.getD b 0 + 1)) := by
  have hget : ∀ i, ((fr.set a (fr.getD a 0 + 1)).set b (fr.getD b 0 + 1)).getD i 0 = if i = b then fr.getD b 0 + 1 else if i = a then fr.getD a 0 + 1 else fr.getD i 0 := by
    intro i
    simp only [List.getD_eq_getElem?_getD]
    by_cases e : i = b
    · subst e; rw [if_pos rfl, List.getElem?_set_self (by simp [h.len, hb])]; rfl
    · rw [if_neg e, List.getElem?_set_ne (Ne.symm e)]
      by_cases e2 : i = a
      · subst e2; rw [if_pos rfl, List.getElem?_set_self (by simp [h.len, ha])]; rfl
      · rw [if_neg e2, List.getElem?_set_ne (Ne.symm e2)]
  have na : (a, fr.getD a 0) ∉ ends ws := fun hm => by have := (h.used _ _).1 hm; omega
  have nb : (b, fr.getD b 0) ∉ ends ws := fun hm => by have := (h.used _ _).1 hm; omega
  refine ⟨by simp [h.len], fun i => ?_, fun w hw => ?_, ?_, fun i p => ?_⟩
  · rw [hget]
    have := h.le8 i
    split
    · omega
    · split <;> omega
  · rcases List.mem_append.1 hw with hw | hw
    · exact h.bound w hw
    · simp at hw; subst hw; exact ⟨ha, fa, hb, fb, hab⟩
  · rw [ends_snoc, List.nodup_append]
    refine ⟨h.nodup, by simp [hab], fun x hx y hy e => ?_⟩
    subst e
    simp at hy
    rcases hy with rfl | rfl
    · exact na hx
    · exact nb hx
  · rw [ends_snoc, hget, List.mem_append, h.used]
    simp only [List.mem_cons, Prod.mk.injEq, List.not_mem_nil, or_false]
    by_cases e : i = b
    · subst e
      rw [if_pos rfl]
      constructor
      · rintro (⟨h1, h2⟩ | ⟨h1, h2⟩ | ⟨h1, h2⟩)
        · exact ⟨h1, by omega⟩
        · exact (hab h1.symm).elim
        · exact ⟨hb, by omega⟩
      · rintro ⟨h1, h2⟩
        rcases Nat.lt_or_ge p (fr.getD i 0) with hh | hh
        · exact .inl ⟨h1, hh⟩
        · exact .inr (.inr ⟨rfl, by omega⟩)
    · rw [if_neg e]
      by_cases e2 : i = a
      · subst e2
        rw [if_pos rfl]
        constructor
        · rintro (⟨h1, h2⟩ | ⟨h1, h2⟩ | ⟨h1, h2⟩)
          · exact ⟨h1, by omega⟩
          · exact ⟨ha, by omega⟩
          · exact (e h1).elim
        · rintro ⟨h1, h2⟩
          rcases Nat.lt_or_ge p (fr.getD i 0) with hh | hh
          · exact .inl ⟨h1, hh⟩
          · exact .inr (.inl ⟨rfl, by omega⟩)
      · rw [if_neg e2]
        constructor
        · rintro (h1 | ⟨h1, h2⟩ | ⟨h1, h2⟩)
          · exact h1
          · exact (e2 h1).elim
          · exact (e h1).elim
        · exact .inl
theorem Nt.net {ps : List Pr} {n : Nat} (hn : n ≤ 7) {ws : List Wire} {fr : List Nat} (h : Nt n ws fr) : Net n (priOf ps) ws :=
  ⟨hn, fun _ => rfl, fun i => by simp only [priOf]; omega, fun i => by simp only [priOf]; omega, fun i => by simp only [priOf]; omega, h.bound, h.nodup⟩
theorem end_lnk {ws : List Wire} {a : End} (h : a ∈ ends ws) : ∃ b, Lnk ws a b := by
  unfold ends at h
  rw [List.mem_flatMap] at h
  obtain ⟨w, hw, h⟩ := h
  simp at h
  rcases h with rfl | rfl
  · exact ⟨w.2, .inl hw⟩
  · exact ⟨w.1, .inr hw⟩
theorem Nt.inv {ps : List Pr} {n : Nat} {ws : List Wire} {fr : List Nat} (h : Nt n ws fr) : Inv n (priOf ps) ws (tsOf ps n fr) 0 := by
  have port : ∀ (i : Nat) t (p : Nat) x, (tsOf ps n fr)[i]? = some t → t.ps[p]? = some x → i < n ∧ x = if p < fr.getD i 0 then portU else port0 := by
    intro i t p x ht hx
    have hi := getElem?_lt ht
    rw [tsOf_len] at hi
    rw [tsOf_get _ _ hi] at ht
    cases ht
    have hp := getElem?_lt hx
    simp [mkT] at hp
    rw [mkT_get _ _ hp] at hx
    cases hx
    exact ⟨hi, rfl⟩
  refine ⟨tsOf_len _ _ _, fun i t ht => ?_, fun i t p x ht hx => ?_, fun i t p x ht hx => ?_, fun i t p x ht hx hok => ?_⟩
  · have hi := getElem?_lt ht
    rw [tsOf_len] at hi
    rw [tsOf_get _ _ hi] at ht
    cases ht
    exact ⟨rfl, by simp [mkT]⟩
  · obtain ⟨hi, rfl⟩ := port i t p x ht hx
    constructor
    · intro hu
      refine end_lnk ((h.used i p).2 ⟨hi, ?_⟩)
      by_cases hp : p < fr.getD i 0
      · exact hp
      · rw [if_neg hp] at hu; cases hu
    · rintro ⟨b, hb⟩
      rw [if_pos ((h.used i p).1 (lnk_mem hb)).2]; rfl
  · obtain ⟨hi, rfl⟩ := port i t p x ht hx
    split <;> simp [portU, port0, zv]
  · obtain ⟨hi, rfl⟩ := port i t p x ht hx
    split at hok <;> cases hok
end Go.Proofs.Ytckdmhjhjfmcdaa.Sx
