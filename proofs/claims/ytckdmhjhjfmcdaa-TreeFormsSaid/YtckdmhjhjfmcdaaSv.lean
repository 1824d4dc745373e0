/-
  Weaker heaps: what is said of a heap may be forgotten, and rows may be frozen.
-/
import Derived.Test.YtckdmhjhjfmcdaaSu
namespace Go.Proofs.Ytckdmhjhjfmcdaa.Sx
set_option linter.unusedSimpArgs false
set_option linter.unusedVariables false
open Go
/-- What the second says the first says too; some rows are frozen, some forgotten. -/
structure Weak (A B : AHeap) : Prop where
  next : B.next = A.next
  get : ∀ h o, B.get h = some o → A.get h = some o ∨ ∃ cs, A.get h = some (.cells false cs) ∧ o = .cells true cs
theorem Weak.refl (A : AHeap) : Weak A A := ⟨rfl, fun _ _ h => .inl h⟩
theorem Weak.had {A B : AHeap} (h : Weak A B) {i : Nat} {o : AObj} (hg : B.get i = some o) : ∃ o', A.get i = some o' ∧ (o.writes = true → o'.writes = true) := by
  rcases h.get i o hg with h1 | ⟨cs, h1, rfl⟩
  · exact ⟨_, h1, id⟩
  · exact ⟨_, h1, fun h => by cases h⟩
theorem HRel.weak {ρ : Ren} {A B : AHeap} {w : World} (h : HRel ρ A w) (k : Weak A B) : HRel ρ B w where
  fresh i hi := h.fresh i (by rw [← k.next]; exact hi)
  ok i o ho := by obtain ⟨o', h1, _⟩ := k.had ho; exact h.ok i o' h1
  cells i ro cs hi := by
    rcases k.get i _ hi with h1 | ⟨cs', h1, e⟩
    · exact h.cells i ro cs h1
    · cases e
      obtain ⟨C, t, fr, a, b, c, d, _⟩ := h.cells i false cs h1
      exact ⟨C, t, fr, a, b, c, d, fun e => by cases e⟩
  map i es hi := by
    rcases k.get i _ hi with h1 | ⟨cs', _, e⟩
    · exact h.map i es h1
    · cases e
  apart i j o o' hne hi hj hw := by
    obtain ⟨p, h1, h2⟩ := k.had hi
    obtain ⟨q, h3, _⟩ := k.had hj
    exact h.apart i j p q hne h1 h3 (h2 hw)
theorem Step.weak {ρ ρ' : Ren} {A A' B : AHeap} {w w' : World} (h : Step ρ A w ρ' A' w') (k : Weak A' B) : Step ρ A w ρ' B w' where
  size := h.size
  next := by rw [k.next]; exact h.next
  agree := h.agree
  keep := h.keep
  incl b hb := by
    obtain ⟨i, o, h1, h2, h3⟩ := hb
    obtain ⟨p, h4, h5⟩ := k.had h1
    exact h.incl b ⟨i, p, h4, h5 h2, h3⟩
  incl2 b hb := by
    obtain ⟨i, o, h1, h2⟩ := hb
    obtain ⟨p, h4, _⟩ := k.had h1
    exact h.incl2 b ⟨i, p, h4, h2⟩
  os := h.os
  output := h.output
  tape := h.tape
theorem dcall_weak {P : Program} {f : FuncId} {args : List Value} {A : AHeap} {K : Value → AHeap → Prop} (h : dcall P f args A fun v A' => ∃ B, Weak A' B ∧ K v B) : dcall P f args A K :=
  fun ρ w args' hr ha => (h ρ w args' hr ha).mono fun _ _ ⟨v, v', ρ', A', h1, ⟨B, h2, h3⟩, h4, h5, h6⟩ => ⟨v, v', ρ', B, h1, h3, h4, h5.weak h2, h6.weak h2⟩
theorem Weak.freeze {A : AHeap} {b : Nat} {cs : List Value} (h : A.get b = some (.cells false cs)) : Weak A (A.set b (.cells true cs)) := by
  refine ⟨rfl, fun i o hi => ?_⟩
  by_cases e : i = b
  · subst e
    rw [get_set_eq rfl (A.lt h)] at hi
    cases hi
    exact .inr ⟨cs, h, rfl⟩
  · rw [get_set_ne e] at hi
    exact .inl hi

/-- A later heap in which only some rows have turned; what is frozen stays. -/
structure Mod (S : List Nat) (A A' : AHeap) : Prop where
  next : A.next ≤ A'.next
  get : ∀ h, h < A.next → h ∉ S → A'.get h = A.get h
  ro : ∀ h cs, A.get h = some (.cells true cs) → A'.get h = some (.cells true cs)
theorem Ext.mod {A A' : AHeap} (h : Ext A A') (S : List Nat) : Mod S A A' := ⟨h.next, fun x hx _ => h.get x hx, fun x cs hx => h.keeps hx⟩
theorem Mod.refl (S : List Nat) (A : AHeap) : Mod S A A := (Ext.refl A).mod S
theorem Mod.keeps {S : List Nat} {A A' : AHeap} (h : Mod S A A') {x : Nat} {o : AObj} (hx : x ∉ S) (hg : A.get x = some o) : A'.get x = some o := (h.get x (A.lt hg) hx).trans hg
theorem Mod.trans {S : List Nat} {A B C : AHeap} (h : Mod S A B) (k : Mod S B C) : Mod S A C :=
  ⟨Nat.le_trans h.next k.next, fun x hx hn => (k.get x (Nat.lt_of_lt_of_le hx h.next) hn).trans (h.get x hx hn), fun x cs hx => k.ro x cs (h.ro x cs hx)⟩
theorem Mod.sub {S S' : List Nat} {A B : AHeap} (h : Mod S A B) (hs : ∀ x ∈ S, x ∈ S') : Mod S' A B :=
  ⟨h.next, fun x hx hn => h.get x hx fun hm => hn (hs x hm), h.ro⟩
theorem Mod.set {S : List Nat} {A B : AHeap} (h : Mod S A B) {p : Nat} {cs cs' : List Value} (hp : p ∈ S) (hg : B.get p = some (.cells false cs)) : Mod S A (B.set p (.cells false cs')) := by
  refine ⟨h.next, fun x hx hn => (get_set_ne (fun e => hn (by rw [e]; exact hp))).trans (h.get x hx hn), fun x cs2 hx => ?_⟩
  rw [get_set_ne]
  · exact h.ro x cs2 hx
  · intro e
    subst e
    rw [h.ro x cs2 hx] at hg
    cases hg
end Go.Proofs.Ytckdmhjhjfmcdaa.Sx
