/-
  Stepping by one simp: words that simp does not look behind; heaps written out; calls whose new memory is named anew.
-/
import Derived.Test.YtckdmhjhjfmcdaaSv
namespace Go.Proofs.Ytckdmhjhjfmcdaa.Sx
set_option linter.unusedSimpArgs false
set_option linter.unusedVariables false
open Go

/-! A heap, and new rows behind a place. -/
def AHeap.plus (B : AHeap) (n : Nat) (L : List (Option AObj)) : AHeap where
  next := n + L.length
  get h := if h < n then B.get h else (L[h - n]?).join
  wf h hh := by rw [if_neg (by omega), List.getElem?_eq_none (by omega)]; rfl
theorem AHeap.ext {A B : AHeap} (h1 : A.next = B.next) (h2 : ∀ h, A.get h = B.get h) : A = B := by
  cases A; cases B; simp only at h1; subst h1
  have : (fun h => _) = _ := funext h2
  simp only [AHeap.mk.injEq, true_and]; exact this
theorem plus_nil (A : AHeap) : A.plus A.next [] = A := by
  apply AHeap.ext
  · simp [AHeap.plus]
  · intro h
    show (if h < A.next then A.get h else _) = _
    split
    · rfl
    · rw [A.wf h (by omega)]; simp
section
variable {B : AHeap} {n m k h : Nat} {L L2 : List (Option AObj)} {o : AObj}
theorem plus_next : (B.plus n L).next = n + L.length := Nat.le_antisymm (Nat.le_refl _) (Nat.le_refl _)
theorem plus_get_def : (B.plus n L).get h = if h < n then B.get h else (L[h - n]?).join := by rw [AHeap.plus]
theorem plus_get_new : (B.plus n L).get (n + k) = (L[k]?).join := by rw [plus_get_def, if_neg (by omega), Nat.add_sub_cancel_left]
theorem plus_get_new0 : (B.plus n L).get n = (L[0]?).join := plus_get_new (k := 0)
theorem plus_get_old (hh : h < n) : (B.plus n L).get h = B.get h := by rw [plus_get_def, if_pos hh]
theorem plus_alloc : (B.plus n L).alloc o = B.plus n (L ++ [some o]) := by
  apply AHeap.ext
  · rw [nx_alloc, plus_next, plus_next]; simp [Nat.add_assoc]
  · intro i
    by_cases e : i = n + L.length
    · rw [get_alloc_eq (by rw [plus_next]; exact e), e, plus_get_new]; simp
    · rw [get_alloc_ne (by rw [plus_next]; exact e), plus_get_def, plus_get_def]
      split
      · rfl
      · rcases Nat.lt_or_ge (i - n) L.length with hh | hh
        · rw [List.getElem?_append_left hh]
        · rw [List.getElem?_eq_none hh, List.getElem?_append_right hh, List.getElem?_eq_none (by simp; omega)]
theorem plus_set_new (hk : k < L.length) : (B.plus n L).set (n + k) o = B.plus n (L.set k (some o)) := by
  apply AHeap.ext
  · rw [nx_set, plus_next, plus_next, List.length_set]
  · intro i
    by_cases e : i = n + k
    · rw [get_set_eq e (by rw [plus_next]; omega), e, plus_get_new, List.getElem?_set_self hk]; rfl
    · rw [get_set_ne e, plus_get_def, plus_get_def]
      split
      · rfl
      · rw [List.getElem?_set_ne (by omega)]
theorem plus_set_new0 (hk : 0 < L.length) : (B.plus n L).set n o = B.plus n (L.set 0 (some o)) := plus_set_new (k := 0) hk
theorem plus_set_old (hh : h < n) (hb : h < B.next) : (B.plus n L).set h o = (B.set h o).plus n L := by
  apply AHeap.ext
  · rw [nx_set, plus_next, plus_next]
  · intro i
    by_cases e : i = h
    · rw [get_set_eq e (by rw [plus_next]; omega), plus_get_old (by omega), get_set_eq e hb]
    · rw [get_set_ne e, plus_get_def, plus_get_def]
      split
      · rw [get_set_ne e]
      · rfl
theorem get_del_eq {A : AHeap} {p : Nat} : (A.del p).get p = none := A.get_del_same p
theorem plus_del_new : (B.plus n L).del (n + k) = B.plus n (L.set k none) := by
  apply AHeap.ext
  · rw [nx_del, plus_next, plus_next, List.length_set]
  · intro i
    by_cases e : i = n + k
    · subst e
      rw [get_del_eq, plus_get_new]
      rcases Nat.lt_or_ge k L.length with hh | hh
      · rw [List.getElem?_set_self hh]; rfl
      · rw [List.getElem?_eq_none (by simpa using hh)]; rfl
    · rw [get_del_ne e, plus_get_def, plus_get_def]
      split
      · rfl
      · rw [List.getElem?_set_ne (by omega)]
theorem plus_del_new0 : (B.plus n L).del n = B.plus n (L.set 0 none) := plus_del_new (k := 0)
theorem plus_del_old (hh : h < n) : (B.plus n L).del h = (B.del h).plus n L := by
  apply AHeap.ext
  · rw [nx_del, plus_next, plus_next]
  · intro i
    by_cases e : i = h
    · subst e; rw [get_del_eq, plus_get_old hh, get_del_eq]
    · rw [get_del_ne e, plus_get_def, plus_get_def]
      split
      · rw [get_del_ne e]
      · rfl
theorem plus_reserve : (B.plus n L).reserve m = B.plus n (L ++ List.replicate m none) := by
  apply AHeap.ext
  · rw [nx_reserve, plus_next, plus_next]; simp [Nat.add_assoc]
  · intro i
    rw [AHeap.get_reserve, plus_get_def, plus_get_def]
    split
    · rfl
    · rcases Nat.lt_or_ge (i - n) L.length with hh | hh
      · rw [List.getElem?_append_left hh]
      · rw [List.getElem?_append_right hh, List.getElem?_eq_none hh, List.getElem?_replicate]
        split <;> rfl
theorem plus_reserve0 : (B.plus n L).reserve 0 = B.plus n L := by rw [plus_reserve]; simp
theorem plus_reserve1 : (B.plus n L).reserve 1 = B.plus n (L ++ [none]) := plus_reserve
theorem plus_reserve2 : (B.plus n L).reserve 2 = B.plus n (L ++ [none, none]) := plus_reserve
theorem plus_reserve3 : (B.plus n L).reserve 3 = B.plus n (L ++ [none, none, none]) := plus_reserve
theorem plus_reserve4 : (B.plus n L).reserve 4 = B.plus n (L ++ [none, none, none, none]) := plus_reserve
theorem plus_reserve5 : (B.plus n L).reserve 5 = B.plus n (L ++ [none, none, none, none, none]) := plus_reserve
theorem plus_reserve6 : (B.plus n L).reserve 6 = B.plus n (L ++ [none, none, none, none, none, none]) := plus_reserve
theorem plus_plus (hm : m = n + L.length) : (B.plus n L).plus m L2 = B.plus n (L ++ L2) := by
  subst hm
  apply AHeap.ext
  · rw [plus_next, plus_next]; simp [Nat.add_assoc]
  · intro i
    rw [plus_get_def, plus_get_def, plus_get_def]
    by_cases h1 : i < n
    · rw [if_pos (by omega), if_pos h1, if_pos h1]
    · rw [if_neg h1, if_neg h1]
      by_cases h2 : i < n + L.length
      · rw [if_pos h2, List.getElem?_append_left (by omega)]
      · rw [if_neg h2, List.getElem?_append_right (by omega)]
        congr 2; omega
theorem ext_plus (A : AHeap) (L : List (Option AObj)) : Ext A (A.plus A.next L) := ⟨by rw [plus_next]; omega, fun _ hh => plus_get_old hh⟩
theorem mod_plus {S : List Nat} {A : AHeap} (h : Mod S A B) (L : List (Option AObj)) (hn : B.next = A.next) : Mod S A (B.plus A.next L) :=
  ⟨by rw [plus_next]; omega, fun x hx hm => (plus_get_old hx).trans (h.get x hx hm), fun x cs hx => (plus_get_old (A.lt hx)).trans (h.ro x cs hx)⟩
end

/-! What a call made, named anew. -/
def Addr.ren (r : Nat → Nat) (a : Addr) : Addr := { a with block := r a.block }
def renP (r : Nat → Nat) : Value → Value
  | .pointer a => .pointer (a.map (Addr.ren r))
  | .slice a l c => .slice (a.map (Addr.ren r)) l c
  | .map m => .map (m.map r)
  | v => v
def renS (r : Nat → Nat) : Value → Value
  | .func f a cs => .func f a (cs.toList.map (renP r)).toArray
  | v => renP r v
def renV (r : Nat → Nat) : Value → Value
  | .agg cs => .agg (cs.toList.map (renS r)).toArray
  | v => renS r v
def renT (r : Nat → Nat) : Value → Value
  | .tuple vs => .tuple (vs.toList.map (renV r)).toArray
  | v => renV r v
def renO (r : Nat → Nat) : AObj → AObj
  | .cells ro cs => .cells ro (cs.map (renS r))
  | .map es => .map (es.map fun e => (renV r e.1, renV r e.2))
/-- All places that it names lie ahead of a number. -/
def belowP (n : Nat) : Value → Prop
  | .pointer (some a) => a.block < n
  | .slice (some a) _ _ => a.block < n
  | .map (some m) => m < n
  | _ => True
def belowS (n : Nat) : Value → Prop
  | .func _ _ cs => ∀ c ∈ cs.toList, belowP n c
  | v => belowP n v
def belowV (n : Nat) : Value → Prop
  | .agg cs => ∀ c ∈ cs.toList, belowS n c
  | v => belowS n v
def belowT (n : Nat) : Value → Prop
  | .tuple vs => ∀ c ∈ vs.toList, belowV n c
  | v => belowV n v
def belowO (n : Nat) : AObj → Prop
  | .cells _ cs => ∀ c ∈ cs, belowS n c
  | .map es => ∀ e ∈ es, belowV n e.1 ∧ belowV n e.2

theorem notfn {v : Value} (hf : ¬ ∃ f a cs, v = .func f a cs) : (∀ r, renS r v = renP r v) ∧ ∀ n, belowS n v = belowP n v := by
  cases v <;> first | exact ⟨fun _ => rfl, fun _ => rfl⟩ | exact (hf ⟨_, _, _, rfl⟩).elim
theorem notagg {v : Value} (hf : ¬ ∃ cs, v = .agg cs) : (∀ r, renV r v = renS r v) ∧ ∀ n, belowV n v = belowS n v := by
  cases v <;> first | exact ⟨fun _ => rfl, fun _ => rfl⟩ | exact (hf ⟨_, rfl⟩).elim
theorem nottup {v : Value} (hf : ¬ ∃ cs, v = .tuple cs) : (∀ r, renT r v = renV r v) ∧ ∀ n, belowT n v = belowV n v := by
  cases v <;> first | exact ⟨fun _ => rfl, fun _ => rfl⟩ | exact (hf ⟨_, rfl⟩).elim
section
variable {ρ ρ' : Ren} {r : Nat → Nat} {n : Nat}
/-- The renaming as it is seen through the new names. -/
def Ren.thru (ρ : Ren) (r : Nat → Nat) (n : Nat) : Ren := fun h => if h < n then ρ (r h) else ⟨0, 0, 0, false⟩
theorem Ren.thru_lt {h : Nat} (hh : h < n) : ρ.thru r n h = ρ (r h) := by simp [Ren.thru, hh]
theorem PRel.thru {v v' : Value} (hb : belowP n v) (h : PRel ρ (renP r v) v') : PRel (ρ.thru r n) v v' := by
  cases v with
  | pointer a =>
    cases a with
    | none => simp only [renP, Option.map_none] at h; cases h; exact .nilp
    | some a =>
      have hb : a.block < n := hb
      simp only [renP, Option.map_some] at h
      obtain ⟨ab, ao, as⟩ := a
      simp only [Addr.ren] at h
      cases h
      have e := Ren.thru_lt (ρ := ρ) (r := r) hb
      rw [show Ren.addr ρ (r ab) ao = (ρ.thru r n).addr ab ao by simp only [Ren.addr, e]]
      exact .ptr _ _ (by rw [e]; assumption)
  | slice a l c =>
    cases a with
    | none => simp only [renP, Option.map_none] at h; cases h; exact .nilsl
    | some a =>
      have hb : a.block < n := hb
      simp only [renP, Option.map_some] at h
      obtain ⟨ab, ao, as⟩ := a
      simp only [Addr.ren] at h
      have e := Ren.thru_lt (ρ := ρ) (r := r) hb
      cases h with
      | sl _ _ _ _ c' hn hl hc hs =>
        rw [show Ren.addr ρ (r ab) ao = (ρ.thru r n).addr ab ao by simp only [Ren.addr, e]]
        exact .sl _ _ _ _ _ (by rw [e]; exact hn) hl (by rw [e]; exact hc) hs
      | sl0 _ _ _ a hn => exact .sl0 _ _ _ _ (by rw [e]; exact hn)
      | cap _ _ _ _ hn hc hs =>
        rw [show Ren.addr ρ (r ab) ao = (ρ.thru r n).addr ab ao by simp only [Ren.addr, e]]
        exact .cap _ _ _ _ (by rw [e]; exact hn) (by rw [e]; exact hc) hs
      | cap0 _ _ _ a hn => exact .cap0 _ _ _ _ (by rw [e]; exact hn)
  | map m =>
    cases m with
    | none => simp only [renP, Option.map_none] at h; cases h; exact .nilmap
    | some m =>
      have hb : m < n := hb
      simp only [renP, Option.map_some] at h
      have e := Ren.thru_lt (ρ := ρ) (r := r) hb
      cases h
      rename_i hn
      have := PRel.map (ρ := ρ.thru r n) m (by rw [e]; exact hn)
      rwa [e] at this
  | bool b => cases h; exact .bool _
  | int k x => cases h; exact .int _ _
  | string s => cases h; exact .str _
  | _ => cases h
theorem all2_map_left {α β γ : Type} {R : γ → β → Prop} {f : α → γ} : ∀ {xs : List α} {ys : List β}, All2 R (xs.map f) ys → All2 (fun x y => R (f x) y) xs ys
  | [], _, h => by cases h; exact .nil
  | x :: xs, _, h => by cases h with | cons h1 h2 => exact .cons h1 (all2_map_left h2)
theorem All2.mono_mem {α β : Type} {R S : α → β → Prop} : ∀ {xs : List α} {ys : List β}, (∀ x y, x ∈ xs → R x y → S x y) → All2 R xs ys → All2 S xs ys
  | _, _, _, .nil => .nil
  | _, _, h, .cons h1 h2 => .cons (h _ _ (by simp) h1) (h2.mono_mem fun x y hx => h x y (by simp [hx]))
theorem SRel.thru {v v' : Value} (hb : belowS n v) (h : SRel ρ (renS r v) v') : SRel (ρ.thru r n) v v' := by
  by_cases hf : ∃ f a cs, v = .func f a cs
  · obtain ⟨f, a, cs, rfl⟩ := hf
    simp only [renS] at h
    cases h with
    | p h => cases h
    | fn _ cs1 cs' h1 =>
      have := SRel.fn (ρ := ρ.thru r n) f cs.toList cs' ((all2_map_left h1).mono_mem fun x y hx hxy => hxy.thru (hb x hx))
      simpa using this
  · have e : renS r v = renP r v := by cases v <;> first | rfl | exact (hf ⟨_, _, _, rfl⟩).elim
    have hb' : belowP n v := by cases v <;> first | exact hb | exact (hf ⟨_, _, _, rfl⟩).elim
    rw [e] at h
    cases v with
    | nilFunc => cases h with
      | p h => cases h
      | nilf => exact .nilf
    | func => exact (hf ⟨_, _, _, rfl⟩).elim
    | _ => cases h with
      | p h => exact .p (h.thru hb')
theorem VRel.thru {v v' : Value} (hb : belowV n v) (h : VRel ρ (renV r v) v') : VRel (ρ.thru r n) v v' := by
  by_cases hf : ∃ cs, v = .agg cs
  · obtain ⟨cs, rfl⟩ := hf
    simp only [renV] at h
    cases h with
    | s h => cases h with | p h => cases h
    | agg cs1 cs' h1 =>
      have := VRel.agg (ρ := ρ.thru r n) cs.toList cs' ((all2_map_left h1).mono_mem fun x y hx hxy => hxy.thru (hb x hx))
      simpa using this
  · have e : renV r v = renS r v := by cases v <;> first | rfl | exact (hf ⟨_, rfl⟩).elim
    have hb' : belowS n v := by cases v <;> first | exact hb | exact (hf ⟨_, rfl⟩).elim
    rw [e] at h
    generalize hu : renS r v = u at h
    cases h with
    | s h => subst hu; exact .s (h.thru hb')
    | agg cs cs' _ =>
      exfalso
      cases v <;> first | (exact hf ⟨_, rfl⟩) | (simp [renS, renP] at hu)
theorem TRel.thru {v v' : Value} (hb : belowT n v) (h : TRel ρ (renT r v) v') : TRel (ρ.thru r n) v v' := by
  by_cases hf : ∃ vs, v = .tuple vs
  · obtain ⟨cs, rfl⟩ := hf
    simp only [renT] at h
    cases h with
    | v h => cases h with | s h => cases h with | p h => cases h
    | tup cs1 cs' h1 =>
      have := TRel.tup (ρ := ρ.thru r n) cs.toList cs' ((all2_map_left h1).mono_mem fun x y hx hxy => hxy.thru (hb x hx))
      simpa using this
  · have e : renT r v = renV r v := by cases v <;> first | rfl | exact (hf ⟨_, rfl⟩).elim
    have hb' : belowV n v := by cases v <;> first | exact hb | exact (hf ⟨_, rfl⟩).elim
    rw [e] at h
    generalize hu : renV r v = u at h
    cases h with
    | v h => subst hu; exact .v (h.thru hb')
    | tup cs cs' _ =>
      exfalso
      cases v <;> first | (exact hf ⟨_, rfl⟩) | (simp [renV, renS, renP] at hu)
/-- What lay there ahead names nothing new. -/
theorem PRel.below {N : Nat} (hf : ∀ h, N ≤ h → (ρ h).ok = false) {v v' : Value} (h : PRel ρ v v') : belowP N v := by
  have lt : ∀ {x : Nat}, (ρ x).ok = true → x < N := fun {x} hx => Nat.lt_of_not_le fun hh => by rw [hf x hh] at hx; cases hx
  cases h <;> first | trivial | exact lt (by assumption)
theorem SRel.below {N : Nat} (hf : ∀ h, N ≤ h → (ρ h).ok = false) {v v' : Value} (h : SRel ρ v v') : belowS N v := by
  cases h with
  | p h => cases h <;> first | trivial | exact PRel.below hf (by assumption) | (rename_i hn; exact Nat.lt_of_not_le fun hh => by rw [hf _ hh] at hn; cases hn) | (rename_i hn _ _ _; exact Nat.lt_of_not_le fun hh => by rw [hf _ hh] at hn; cases hn) | (rename_i hn _ _; exact Nat.lt_of_not_le fun hh => by rw [hf _ hh] at hn; cases hn)
  | nilf => trivial
  | fn f cs cs' h =>
    intro c hc
    simp only at hc
    obtain ⟨k, hk⟩ := List.mem_iff_getElem?.1 hc
    obtain ⟨_, _, h2⟩ := h.get hk
    exact h2.below hf
theorem VRel.below {N : Nat} (hf : ∀ h, N ≤ h → (ρ h).ok = false) {v v' : Value} (h : VRel ρ v v') : belowV N v := by
  cases h with
  | s h =>
    have := h.below hf
    cases v <;> first | exact this | (cases h with | p h => cases h)
  | agg cs cs' h =>
    intro c hc
    obtain ⟨k, hk⟩ := List.mem_iff_getElem?.1 hc
    obtain ⟨_, _, h2⟩ := h.get hk
    exact h2.below hf
theorem belowP.ren {v : Value} (h : belowP n v) (hr : ∀ x, x < n → r x = x) : renP r v = v := by
  cases v with
  | pointer a => cases a with
    | none => rfl
    | some a => simp [renP, Addr.ren, hr _ h]
  | slice a l c => cases a with
    | none => rfl
    | some a => simp [renP, Addr.ren, hr _ h]
  | map m => cases m with
    | none => rfl
    | some m => simp [renP, hr _ h]
  | _ => rfl
theorem belowS.ren {v : Value} (h : belowS n v) (hr : ∀ x, x < n → r x = x) : renS r v = v := by
  by_cases hf : ∃ f a cs, v = .func f a cs
  · obtain ⟨f, a, cs, rfl⟩ := hf
    simp only [renS]
    congr 1
    apply Array.ext'
    simp only
    conv => rhs; rw [← List.map_id cs.toList]
    exact List.map_congr_left fun c hc => belowP.ren (h c hc) hr
  · have e : renS r v = renP r v := by cases v <;> first | rfl | exact (hf ⟨_, _, _, rfl⟩).elim
    have hb' : belowP n v := by cases v <;> first | exact h | exact (hf ⟨_, _, _, rfl⟩).elim
    rw [e]; exact hb'.ren hr
theorem belowV.ren {v : Value} (h : belowV n v) (hr : ∀ x, x < n → r x = x) : renV r v = v := by
  by_cases hf : ∃ cs, v = .agg cs
  · obtain ⟨cs, rfl⟩ := hf
    simp only [renV]
    congr 1
    apply Array.ext'
    simp only
    conv => rhs; rw [← List.map_id cs.toList]
    exact List.map_congr_left fun c hc => belowS.ren (h c hc) hr
  · have e : renV r v = renS r v := by cases v <;> first | rfl | exact (hf ⟨_, rfl⟩).elim
    have hb' : belowS n v := by cases v <;> first | exact h | exact (hf ⟨_, rfl⟩).elim
    rw [e]; exact hb'.ren hr
theorem belowP.mono {m : Nat} (hm : n ≤ m) {v : Value} (h : belowP n v) : belowP m v := by
  cases v with
  | pointer a => cases a with
    | none => trivial
    | some a => exact Nat.lt_of_lt_of_le h hm
  | slice a l c => cases a with
    | none => trivial
    | some a => exact Nat.lt_of_lt_of_le h hm
  | map m => cases m with
    | none => trivial
    | some m => exact Nat.lt_of_lt_of_le h hm
  | _ => trivial
theorem belowS.mono {m : Nat} (hm : n ≤ m) {v : Value} (h : belowS n v) : belowS m v := by
  by_cases hf : ∃ f a cs, v = .func f a cs
  · obtain ⟨f, a, cs, rfl⟩ := hf
    exact fun c hc => belowP.mono hm (h c hc)
  · rw [(notfn hf).2] at h ⊢
    exact h.mono hm
theorem belowV.mono {m : Nat} (hm : n ≤ m) {v : Value} (h : belowV n v) : belowV m v := by
  by_cases hf : ∃ cs, v = .agg cs
  · obtain ⟨cs, rfl⟩ := hf
    exact fun c hc => belowS.mono hm (h c hc)
  · rw [(notagg hf).2] at h ⊢
    exact h.mono hm
theorem renO_writes (o : AObj) : (renO r o).writes = o.writes := by cases o <;> rfl
theorem ObjAt.thru {b : Base} {o : AObj} {w : World} (hb : belowO n o) (h : ObjAt ρ b (renO r o) w) : ObjAt (ρ.thru r n) b o w := by
  cases o with
  | cells ro cs =>
    obtain ⟨C, t, fr, h1, h2, h3, h4, h5⟩ := h
    refine ⟨C, t, fr, h1, h2, by simpa using h3, fun k v hk => ?_, h5⟩
    obtain ⟨v', h6, h7⟩ := h4 k (renS r v) (by simp [hk])
    exact ⟨v', h6, h7.thru (hb v (List.mem_of_getElem? hk))⟩
  | map es =>
    obtain ⟨es', c, h1, h2, h3⟩ := h
    exact ⟨es', c, h1, (all2_map_left h2).mono_mem fun e e' he hx => ⟨hx.1.thru (hb e he).1, hx.2.1.thru (hb e he).2, hx.2.2⟩, h3⟩
theorem HRel.below {A : AHeap} {w : World} (hr : HRel ρ A w) {h : Nat} {o : AObj} (hg : A.get h = some o) : belowO A.next o := by
  cases o with
  | cells ro cs =>
    intro c hc
    obtain ⟨k, hk⟩ := List.mem_iff_getElem?.1 hc
    obtain ⟨C, t, fr, _, _, _, h4, _⟩ := hr.cells h ro cs hg
    obtain ⟨v', _, h7⟩ := h4 k c hk
    exact h7.below hr.fresh
  | map es =>
    intro e he
    obtain ⟨k, hk⟩ := List.mem_iff_getElem?.1 he
    obtain ⟨es', c, _, h2, _⟩ := hr.map h es hg
    obtain ⟨_, _, h3⟩ := h2.get hk
    exact ⟨h3.1.below hr.fresh, h3.2.1.below hr.fresh⟩
theorem belowO.mono {m : Nat} (hm : n ≤ m) {o : AObj} (h : belowO n o) : belowO m o := by
  cases o with
  | cells => exact fun c hc => (h c hc).mono hm
  | map => exact fun e he => ⟨(h e he).1.mono hm, (h e he).2.mono hm⟩
theorem belowO.ren {o : AObj} (h : belowO n o) (hr : ∀ x, x < n → r x = x) : renO r o = o := by
  cases o with
  | cells ro cs =>
    simp only [renO]
    congr 1
    conv => rhs; rw [← List.map_id cs]
    exact List.map_congr_left fun c hc => belowS.ren (h c hc) hr
  | map es =>
    simp only [renO]
    congr 1
    conv => rhs; rw [← List.map_id es]
    exact List.map_congr_left fun e he => by rw [(h e he).1.ren hr, (h e he).2.ren hr]; rfl
end

/-- The second heap is the first one's, its new rows named anew; what has no name is forgotten. -/
structure Named (A A' : AHeap) (r : Nat → Nat) (B : AHeap) : Prop where
  next : A.next ≤ B.next
  old : ∀ h, h < A.next → r h = h
  inj : ∀ h h' o o', B.get h = some o → B.get h' = some o' → r h = r h' → h = h'
  get : ∀ h o, B.get h = some o → (A.get h = some o ∧ A'.get h = some o) ∨ (belowO B.next o ∧ A'.get (r h) = some (renO r o))
theorem dcall_named {P : Program} {f : FuncId} {args : List Value} {A : AHeap} {K : Value → AHeap → Prop} (h : dcall P f args A fun v A' => ∃ r B u, Named A A' r B ∧ belowT B.next u ∧ v = renT r u ∧ K u B) : dcall P f args A K := by
  intro ρ w args' hr ha
  refine (h ρ w args' hr ha).mono ?_
  rintro e w' ⟨v, v', ρ', A', rfl, ⟨r, B, u, N, hu, rfl, hk⟩, hv, hr', hs⟩
  have get : ∀ h o, B.get h = some o → belowO B.next o ∧ A'.get (r h) = some (renO r o) := by
    intro h o ho
    rcases N.get h o ho with ⟨h1, h2⟩ | h1
    · have hb := hr.below h1
      exact ⟨hb.mono N.next, by rw [hb.ren N.old, N.old h (A.lt h1)]; exact h2⟩
    · exact h1
  refine ⟨u, v', ρ'.thru r B.next, B, rfl, hk, hv.thru hu, ?_, ?_⟩
  · refine HRel.of_obj (fun h hh => by simp [Ren.thru, Nat.not_lt.2 hh]) ?_ ?_ ?_
    · intro h o ho
      rw [Ren.thru_lt (B.lt ho)]
      exact hr'.ok _ _ (get h o ho).2
    · intro h o ho
      rw [Ren.thru_lt (B.lt ho)]
      exact (hr'.obj (get h o ho).2).thru (get h o ho).1
    · intro h h' o o' hne ho ho' hw
      rw [Ren.thru_lt (B.lt ho), Ren.thru_lt (B.lt ho')]
      exact hr'.apart _ _ _ _ (fun e => hne (N.inj h h' o o' ho ho' e)) (get h o ho).2 (get h' o' ho').2 (by rw [renO_writes]; exact hw)
  · refine ⟨hs.size, N.next, fun h hh => ?_, hs.keep, fun b hb => ?_, fun b hb => ?_, hs.os, hs.output, hs.tape⟩
    · rw [Ren.thru_lt (Nat.lt_of_lt_of_le hh N.next), N.old h hh]
      exact hs.agree h hh
    · obtain ⟨h, o, h1, h2, h3⟩ := hb
      rw [Ren.thru_lt (B.lt h1)] at h3
      exact hs.incl b ⟨r h, _, (get h o h1).2, by rw [renO_writes]; exact h2, h3⟩
    · obtain ⟨h, o, h1, h3⟩ := hb
      rw [Ren.thru_lt (B.lt h1)] at h3
      exact hs.incl2 b ⟨r h, _, (get h o h1).2, h3⟩
theorem renT_id (v : Value) : renT id v = v := by
  have hP : ∀ v, renP id v = v := by
    intro v
    cases v with
    | pointer a => cases a <;> rfl
    | slice a => cases a <;> rfl
    | map a => cases a <;> rfl
    | _ => rfl
  have hS : ∀ v, renS id v = v := by
    intro v
    by_cases hf : ∃ f a cs, v = .func f a cs
    · obtain ⟨f, a, cs, rfl⟩ := hf
      simp only [renS]; congr 1; apply Array.ext'; simp only; conv => rhs; rw [← List.map_id cs.toList]
      exact List.map_congr_left fun c _ => hP c
    · rw [(notfn hf).1]; exact hP v
  have hV : ∀ v, renV id v = v := by
    intro v
    by_cases hf : ∃ cs, v = .agg cs
    · obtain ⟨cs, rfl⟩ := hf
      simp only [renV]; congr 1; apply Array.ext'; simp only; conv => rhs; rw [← List.map_id cs.toList]
      exact List.map_congr_left fun c _ => hS c
    · rw [(notagg hf).1]; exact hS v
  by_cases hf : ∃ cs, v = .tuple cs
  · obtain ⟨cs, rfl⟩ := hf
    simp only [renT]; congr 1; apply Array.ext'; simp only; conv => rhs; rw [← List.map_id cs.toList]
    exact List.map_congr_left fun c _ => hV c
  · rw [(nottup hf).1]; exact hV v
/-- A call that makes nothing that lasts. -/
theorem dcall_pure {P : Program} {f : FuncId} {args : List Value} {A : AHeap} {K : Value → AHeap → Prop} (h : dcall P f args A fun v A' => Ext A A' ∧ belowT A.next v ∧ K v A) : dcall P f args A K := by
  refine dcall_named (dcall_mono h ?_)
  rintro v A' ⟨h1, h2, h3⟩
  exact ⟨id, A, v, ⟨Nat.le_refl _, fun _ _ => rfl, fun _ _ _ _ _ _ e => e, fun h o ho => .inl ⟨ho, h1.keeps ho⟩⟩, h2, (renT_id v).symm, h3⟩
end Go.Proofs.Ytckdmhjhjfmcdaa.Sx
