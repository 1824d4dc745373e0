/-
  The abstract heap, and how its values stand to the machine's: a renaming of blocks. Plain definitions and lemmas, over any program.
-/
import Derived.Orders
import Derived.LoopN
namespace Go.Proofs.Ytckdmhjhjfmcdaa.Sx
set_option linter.unusedSimpArgs false
set_option linter.unusedVariables false
open Go

/-- Two lists, element by element. -/
inductive All2 {α β : Type} (R : α → β → Prop) : List α → List β → Prop
  | nil : All2 R [] []
  | cons {x y xs ys} : R x y → All2 R xs ys → All2 R (x :: xs) (y :: ys)

namespace All2
variable {α β γ δ : Type} {R : α → β → Prop}
theorem length {xs : List α} {ys : List β} (h : All2 R xs ys) : xs.length = ys.length := by
  induction h with
  | nil => rfl
  | cons _ _ ih => simp [ih]
theorem mono {R' : α → β → Prop} (hr : ∀ x y, R x y → R' x y) {xs : List α} {ys : List β} (h : All2 R xs ys) : All2 R' xs ys := by
  induction h with
  | nil => exact .nil
  | cons hx _ ih => exact .cons (hr _ _ hx) ih
theorem get {xs : List α} {ys : List β} (h : All2 R xs ys) {k : Nat} {x : α} (hx : xs[k]? = some x) : ∃ y, ys[k]? = some y ∧ R x y := by
  induction h generalizing k with
  | nil => simp at hx
  | cons hxy _ ih =>
    cases k with
    | zero => simp only [List.getElem?_cons_zero, Option.some.injEq] at hx; exact ⟨_, by simp, hx ▸ hxy⟩
    | succ k => simp only [List.getElem?_cons_succ] at hx ⊢; exact ih hx
theorem get' {xs : List α} {ys : List β} (h : All2 R xs ys) {k : Nat} {y : β} (hy : ys[k]? = some y) : ∃ x, xs[k]? = some x ∧ R x y := by
  induction h generalizing k with
  | nil => simp at hy
  | cons hxy _ ih =>
    cases k with
    | zero => simp only [List.getElem?_cons_zero, Option.some.injEq] at hy; exact ⟨_, by simp, hy ▸ hxy⟩
    | succ k => simp only [List.getElem?_cons_succ] at hy ⊢; exact ih hy
theorem of_get : ∀ {xs : List α} {ys : List β}, xs.length = ys.length → (∀ (k : Nat) x y, xs[k]? = some x → ys[k]? = some y → R x y) → All2 R xs ys
  | [], [], _, _ => .nil
  | [], _ :: _, h, _ => by simp at h
  | _ :: _, [], h, _ => by simp at h
  | x :: xs, y :: ys, h, hr => .cons (hr 0 x y rfl rfl) (of_get (by simpa using h) fun k a b ha hb => hr (k + 1) a b (by simpa using ha) (by simpa using hb))
theorem append {xs xs' : List α} {ys ys' : List β} (h : All2 R xs ys) (h' : All2 R xs' ys') : All2 R (xs ++ xs') (ys ++ ys') := by
  induction h with
  | nil => exact h'
  | cons hx _ ih => exact .cons hx ih
theorem drop {xs : List α} {ys : List β} (h : All2 R xs ys) (n : Nat) : All2 R (xs.drop n) (ys.drop n) := by
  induction h generalizing n with
  | nil => simp; exact .nil
  | cons hx hs ih => cases n with
    | zero => exact .cons hx hs
    | succ n => exact ih n
theorem take {xs : List α} {ys : List β} (h : All2 R xs ys) (n : Nat) : All2 R (xs.take n) (ys.take n) := by
  induction h generalizing n with
  | nil => simp; exact .nil
  | cons hx hs ih => cases n with
    | zero => exact .nil
    | succ n => exact .cons hx (ih n)
theorem map {f : α → γ} {g : β → δ} {S : γ → δ → Prop} (hf : ∀ x y, R x y → S (f x) (g y)) {xs : List α} {ys : List β} (h : All2 R xs ys) : All2 S (xs.map f) (ys.map g) := by
  induction h with
  | nil => exact .nil
  | cons hx _ ih => exact .cons (hf _ _ hx) ih
end All2

/-- Where a handle's cells lie in the machine: from 'off' on, 'ext' of them are its own; 'ok': the handle has a place. -/
structure Base where
  blk : Nat
  off : Nat
  ext : Nat
  ok : Bool
abbrev Ren := Nat → Base
def Ren.addr (ρ : Ren) (h o : Nat) : Addr := ⟨(ρ h).blk, (ρ h).off + o, none⟩

/-- A scalar's abstract form and its form in the machine. An abstract slice bears in place of its capacity how many cells an element has. -/
inductive PRel (ρ : Ren) : Value → Value → Prop
  | bool (b : Bool) : PRel ρ (.bool b) (.bool b)
  | int (k : IntKind) (x : Int) : PRel ρ (.int k x) (.int k x)
  | str (s : ByteArray) : PRel ρ (.string s) (.string s)
  | nilp : PRel ρ (.pointer none) (.pointer none)
  | ptr (h o : Nat) (hn : (ρ h).ok = true) : PRel ρ (.pointer (some ⟨h, o, none⟩)) (.pointer (some (ρ.addr h o)))
  | nilsl : PRel ρ (.slice none 0 0) (.slice none 0 0)
  | sl (h o l s c : Nat) (hn : (ρ h).ok = true) (hl : l ≤ c) (hc : o + c * s ≤ (ρ h).ext) (hs : 0 < s) : PRel ρ (.slice (some ⟨h, o, none⟩) l s) (.slice (some (ρ.addr h o)) l c)
  | sl0 (h o s : Nat) (a : Addr) (hn : (ρ h).ok = true) : PRel ρ (.slice (some ⟨h, o, none⟩) 0 s) (.slice (some a) 0 0)
  | cap (h o l s : Nat) (hn : (ρ h).ok = true) (hc : o + l * s ≤ (ρ h).ext) (hs : 0 < s) : PRel ρ (.slice (some ⟨h, o, some 0⟩) l s) (.slice (some (ρ.addr h o)) l l)
  | cap0 (h o s : Nat) (a : Addr) (hn : (ρ h).ok = true) : PRel ρ (.slice (some ⟨h, o, some 0⟩) 0 s) (.slice (some a) 0 0)
  | nilmap : PRel ρ (.map none) (.map none)
  | map (h : Nat) (hn : (ρ h).ok = true) : PRel ρ (.map (some h)) (.map (some (ρ h).blk))

/-- One cell's value: a scalar, or a function that has captured scalars. -/
inductive SRel (ρ : Ren) : Value → Value → Prop
  | p {v v' : Value} (h : PRel ρ v v') : SRel ρ v v'
  | nilf : SRel ρ .nilFunc .nilFunc
  | fn (f : Fn) (cs cs' : List Value) (h : All2 (PRel ρ) cs cs') : SRel ρ (.func f #[] cs.toArray) (.func f #[] cs'.toArray)

/-- A value: one cell's, or a struct's or an array's. -/
inductive VRel (ρ : Ren) : Value → Value → Prop
  | s {v v' : Value} (h : SRel ρ v v') : VRel ρ v v'
  | agg (cs cs' : List Value) (h : All2 (SRel ρ) cs cs') : VRel ρ (.agg cs.toArray) (.agg cs'.toArray)

/-- What a slot of a frame may hold: a value, or some of them. -/
inductive TRel (ρ : Ren) : Value → Value → Prop
  | v {v v' : Value} (h : VRel ρ v v') : TRel ρ v v'
  | tup (vs vs' : List Value) (h : All2 (VRel ρ) vs vs') : TRel ρ (.tuple vs.toArray) (.tuple vs'.toArray)

/-- A later renaming says of the handles that have a place what the earlier one said. -/
def Agree (ρ ρ' : Ren) : Prop := ∀ h, (ρ h).ok = true → ρ' h = ρ h

section mono
variable {ρ ρ' : Ren} {v v' : Value}
theorem addr_agree (ha : Agree ρ ρ') {h : Nat} (hn : (ρ h).ok = true) (o : Nat) : ρ.addr h o = ρ'.addr h o := by simp [Ren.addr, ha h hn]
theorem PRel.mono (ha : Agree ρ ρ') (h : PRel ρ v v') : PRel ρ' v v' := by
  cases h with
  | bool => exact .bool _
  | int => exact .int _ _
  | str => exact .str _
  | nilp => exact .nilp
  | ptr h o hn => rw [addr_agree ha hn]; exact .ptr h o (by rw [ha h hn]; exact hn)
  | nilsl => exact .nilsl
  | sl h o l s c hn hl hc hs => rw [addr_agree ha hn]; exact .sl h o l s c (by rw [ha h hn]; exact hn) hl (by rw [ha h hn]; exact hc) hs
  | sl0 h o s a hn => exact .sl0 h o s a (by rw [ha h hn]; exact hn)
  | cap h o l s hn hc hs => rw [addr_agree ha hn]; exact .cap h o l s (by rw [ha h hn]; exact hn) (by rw [ha h hn]; exact hc) hs
  | cap0 h o s a hn => exact .cap0 h o s a (by rw [ha h hn]; exact hn)
  | nilmap => exact .nilmap
  | map h hn => rw [← ha h hn]; exact .map h (by rw [ha h hn]; exact hn)
theorem SRel.mono (ha : Agree ρ ρ') (h : SRel ρ v v') : SRel ρ' v v' := by
  cases h with
  | p h => exact .p (h.mono ha)
  | nilf => exact .nilf
  | fn f cs cs' h => exact .fn f cs cs' (h.mono fun _ _ h => h.mono ha)
theorem VRel.mono (ha : Agree ρ ρ') (h : VRel ρ v v') : VRel ρ' v v' := by
  cases h with
  | s h => exact .s (h.mono ha)
  | agg cs cs' h => exact .agg cs cs' (h.mono fun _ _ h => h.mono ha)
theorem TRel.mono (ha : Agree ρ ρ') (h : TRel ρ v v') : TRel ρ' v v' := by
  cases h with
  | v h => exact .v (h.mono ha)
  | tup cs cs' h => exact .tup cs cs' (h.mono fun _ _ h => h.mono ha)
end mono

/-- What a handle names: a row of cells (one that nobody may write to: 'ro'), or a map. -/
inductive AObj where
  | cells (ro : Bool) (cs : List Value)
  | map (es : List (Value × Value))

def AObj.writes : AObj → Bool
  | .cells ro _ => !ro
  | .map _ => true

structure AHeap where
  next : Nat
  get : Nat → Option AObj
  wf : ∀ h, next ≤ h → get h = none

namespace AHeap
theorem lt (A : AHeap) {h : Nat} {o : AObj} (hg : A.get h = some o) : h < A.next := by
  rcases Nat.lt_or_ge h A.next with hh | hh
  · exact hh
  · rw [A.wf h hh] at hg; cases hg
def alloc (A : AHeap) (o : AObj) : AHeap where
  next := A.next + 1
  get i := if i = A.next then some o else A.get i
  wf h hh := by rw [if_neg (by omega)]; exact A.wf h (by omega)
def set (A : AHeap) (p : Nat) (o : AObj) : AHeap where
  next := A.next
  get i := if i = p ∧ p < A.next then some o else A.get i
  wf h hh := by rw [if_neg (by omega)]; exact A.wf h hh
def del (A : AHeap) (p : Nat) : AHeap where
  next := A.next
  get i := if i = p then none else A.get i
  wf h hh := by split; rfl; exact A.wf h hh
def reserve (A : AHeap) (m : Nat) : AHeap where
  next := A.next + m
  get := A.get
  wf h hh := A.wf h (by omega)
def empty : AHeap := ⟨0, fun _ => none, fun _ _ => rfl⟩
theorem next_alloc (A : AHeap) (o : AObj) : (A.alloc o).next = A.next + 1 := rfl
theorem next_set (A : AHeap) (p : Nat) (o : AObj) : (A.set p o).next = A.next := rfl
theorem next_del (A : AHeap) (p : Nat) : (A.del p).next = A.next := rfl
theorem next_reserve (A : AHeap) (m : Nat) : (A.reserve m).next = A.next + m := rfl
theorem get_alloc_new (A : AHeap) (o : AObj) : (A.alloc o).get A.next = some o := by simp [alloc]
theorem get_alloc (A : AHeap) (o : AObj) {h : Nat} (hh : h ≠ A.next) : (A.alloc o).get h = A.get h := by simp [alloc, hh]
theorem get_set_same (A : AHeap) (o : AObj) {p : Nat} (hp : p < A.next) : (A.set p o).get p = some o := by simp [set, hp]
theorem get_set (A : AHeap) (o : AObj) {p h : Nat} (hh : h ≠ p) : (A.set p o).get h = A.get h := by simp [set, hh]
theorem get_del_same (A : AHeap) (p : Nat) : (A.del p).get p = none := by simp [del]
theorem get_del (A : AHeap) {p h : Nat} (hh : h ≠ p) : (A.del p).get h = A.get h := by simp [del, hh]
theorem get_reserve (A : AHeap) (m h : Nat) : (A.reserve m).get h = A.get h := rfl
end AHeap

/-- A handle's cells lie in the machine as they should. -/
def CellsAt (ρ : Ren) (b : Base) (ro : Bool) (cs : List Value) (w : World) : Prop :=
  ∃ C t fr, w.heap[b.blk]? = some (.cells C t fr) ∧ b.off + b.ext ≤ C.size ∧ cs.length ≤ b.ext ∧
    (∀ (k : Nat) v, cs[k]? = some v → ∃ v', C[b.off + k]? = some v' ∧ SRel ρ v v') ∧
    (ro = false → ∀ k, k < b.ext → ¬ (fr.1 ≤ b.off + k ∧ b.off + k < fr.2))

def MapAt (ρ : Ren) (b : Base) (es : List (Value × Value)) (w : World) : Prop :=
  ∃ es' c, w.heap[b.blk]? = some (.map es' c) ∧ All2 (fun e (e' : MapEntry) => VRel ρ e.1 e'.key ∧ VRel ρ e.2 e'.val ∧ e'.born < c) es es'.toList ∧
    ∀ (i j : Nat) x y, es'[i]? = some x → es'[j]? = some y → x.born = y.born → i = j

structure HRel (ρ : Ren) (A : AHeap) (w : World) : Prop where
  fresh : ∀ h, A.next ≤ h → (ρ h).ok = false
  ok : ∀ h o, A.get h = some o → (ρ h).ok = true
  cells : ∀ h ro cs, A.get h = some (.cells ro cs) → CellsAt ρ (ρ h) ro cs w
  map : ∀ h es, A.get h = some (.map es) → MapAt ρ (ρ h) es w
  apart : ∀ h h' o o', h ≠ h' → A.get h = some o → A.get h' = some o' → o.writes = true → (ρ h).blk ≠ (ρ h').blk

theorem CellsAt.lt {ρ : Ren} {b : Base} {ro : Bool} {cs : List Value} {w : World} (h : CellsAt ρ b ro cs w) : b.blk < w.heap.size := by
  obtain ⟨C, t, fr, h, _⟩ := h
  rcases Nat.lt_or_ge b.blk w.heap.size with hh | hh
  · exact hh
  · simp [Array.getElem?_eq_none hh] at h
theorem MapAt.lt {ρ : Ren} {b : Base} {es : List (Value × Value)} {w : World} (h : MapAt ρ b es w) : b.blk < w.heap.size := by
  obtain ⟨C, t, h, _⟩ := h
  rcases Nat.lt_or_ge b.blk w.heap.size with hh | hh
  · exact hh
  · simp [Array.getElem?_eq_none hh] at h
theorem HRel.lt {ρ : Ren} {A : AHeap} {w : World} (hr : HRel ρ A w) {h : Nat} {o : AObj} (ho : A.get h = some o) : (ρ h).blk < w.heap.size := by
  cases o with
  | cells ro cs => exact (hr.cells h ro cs ho).lt
  | map es => exact (hr.map h es ho).lt
theorem HRel.apart' {ρ : Ren} {A : AHeap} {w : World} (hr : HRel ρ A w) {h h' : Nat} {o o' : AObj} (hne : h ≠ h') (ho : A.get h = some o) (ho' : A.get h' = some o') (hw : o.writes = true ∨ o'.writes = true) : (ρ h).blk ≠ (ρ h').blk := by
  rcases hw with hw | hw
  · exact hr.apart h h' o o' hne ho ho' hw
  · exact fun e => hr.apart h' h o' o (Ne.symm hne) ho' ho hw e.symm

theorem CellsAt.mono {ρ ρ' : Ren} {b : Base} {ro : Bool} {cs : List Value} {w w' : World} (ha : Agree ρ ρ') (hb : w'.heap[b.blk]? = w.heap[b.blk]?) (h : CellsAt ρ b ro cs w) : CellsAt ρ' b ro cs w' := by
  obtain ⟨C, t, fr, h1, h2, h3, h4, h5⟩ := h
  exact ⟨C, t, fr, hb.trans h1, h2, h3, fun k v hk => let ⟨v', a, b⟩ := h4 k v hk; ⟨v', a, b.mono ha⟩, h5⟩
theorem MapAt.mono {ρ ρ' : Ren} {b : Base} {es : List (Value × Value)} {w w' : World} (ha : Agree ρ ρ') (hb : w'.heap[b.blk]? = w.heap[b.blk]?) (h : MapAt ρ b es w) : MapAt ρ' b es w' := by
  obtain ⟨es', c, h1, h2, h3⟩ := h
  exact ⟨es', c, hb.trans h1, h2.mono fun _ _ h => ⟨h.1.mono ha, h.2.1.mono ha, h.2.2⟩, h3⟩

/-- A block in which some handle may write. -/
def wblk (ρ : Ren) (A : AHeap) (b : Nat) : Prop := ∃ h o, A.get h = some o ∧ o.writes = true ∧ (ρ h).blk = b

/-- A block in which something lies that some handle names. -/
def lblk (ρ : Ren) (A : AHeap) (b : Nat) : Prop := ∃ h o, A.get h = some o ∧ (ρ h).blk = b

/-- From one state to a later one. -/
structure Step (ρ : Ren) (A : AHeap) (w : World) (ρ' : Ren) (A' : AHeap) (w' : World) : Prop where
  size : w.heap.size ≤ w'.heap.size
  next : A.next ≤ A'.next
  agree : ∀ h, h < A.next → ρ' h = ρ h
  keep : ∀ b, b < w.heap.size → ¬ wblk ρ A b → w'.heap[b]? = w.heap[b]?
  incl : ∀ b, wblk ρ' A' b → wblk ρ A b ∨ w.heap.size ≤ b
  incl2 : ∀ b, lblk ρ' A' b → lblk ρ A b ∨ w.heap.size ≤ b
  os : w'.os = w.os
  output : w'.output = w.output
  tape : w'.tape = w.tape

theorem Step.refl (ρ : Ren) (A : AHeap) (w : World) : Step ρ A w ρ A w := ⟨Nat.le_refl _, Nat.le_refl _, fun _ _ => rfl, fun _ _ _ => rfl, fun _ h => .inl h, fun _ h => .inl h, rfl, rfl, rfl⟩
theorem Step.trans {ρ ρ' ρ'' : Ren} {A A' A'' : AHeap} {w w' w'' : World} (h : Step ρ A w ρ' A' w') (k : Step ρ' A' w' ρ'' A'' w'') : Step ρ A w ρ'' A'' w'' where
  size := Nat.le_trans h.size k.size
  next := Nat.le_trans h.next k.next
  agree x hx := (k.agree x (Nat.lt_of_lt_of_le hx h.next)).trans (h.agree x hx)
  keep b hb hn := (k.keep b (Nat.lt_of_lt_of_le hb h.size) (fun hw => by rcases h.incl b hw with h1 | h1; exact hn h1; omega)).trans (h.keep b hb hn)
  incl b hb := by
    rcases k.incl b hb with h1 | h1
    · exact h.incl b h1
    · exact .inr (Nat.le_trans h.size h1)
  incl2 b hb := by
    rcases k.incl2 b hb with h1 | h1
    · exact h.incl2 b h1
    · exact .inr (Nat.le_trans h.size h1)
  os := k.os.trans h.os
  output := k.output.trans h.output
  tape := k.tape.trans h.tape

theorem HRel.lt_of_ok {ρ : Ren} {A : AHeap} {w : World} (hr : HRel ρ A w) {h : Nat} (ho : (ρ h).ok = true) : h < A.next := by
  rcases Nat.lt_or_ge h A.next with hh | hh
  · exact hh
  · rw [hr.fresh h hh] at ho; cases ho
theorem Step.to_agree {ρ ρ' : Ren} {A A' : AHeap} {w w' : World} (h : Step ρ A w ρ' A' w') (hr : HRel ρ A w) : Agree ρ ρ' := fun x hx => h.agree x (hr.lt_of_ok hx)

/-- A frame's slots, as far as they are known. -/
abbrev Env := List (Nat × Value)
def Env.get : Env → Nat → Option Value
  | [], _ => none
  | (t, v) :: E, i => if t = i then some v else Env.get E i
def Env.put (E : Env) (d : Option Nat) (v : Value) : Env :=
  match d with
  | some t => (t, v) :: E
  | none => E
def Env.keep (E : Env) : List Nat → Env
  | [] => []
  | t :: ts => match E.get t with
    | some v => (t, v) :: Env.keep E ts
    | none => Env.keep E ts
theorem Env.get_put (E : Env) (d : Option Nat) (v : Value) (i : Nat) : (E.put d v).get i = if d = some i then some v else E.get i := by
  cases d with
  | none => simp [Env.put]
  | some t => simp [Env.put, Env.get]
theorem Env.get_keep (E : Env) (ts : List Nat) (i : Nat) (v : Value) (h : (E.keep ts).get i = some v) : E.get i = some v := by
  induction ts with
  | nil => simp [Env.keep, Env.get] at h
  | cons t ts ih =>
    simp only [Env.keep] at h
    split at h
    · rename_i u hu
      simp only [Env.get] at h
      split at h
      · rename_i e; subst e; rw [hu]; exact h
      · exact ih h
    · exact ih h

/-- A frame's slots hold what is known of them. -/
structure ERel (ρ : Ren) (N : Nat) (E : Env) (a : Act) : Prop where
  defers : a.defers = []
  size : a.tmps.size = N
  get : ∀ t v, E.get t = some v → ∃ v', a.tmps[t]? = some v' ∧ TRel ρ v v'

theorem ERel.mono {N : Nat} {ρ ρ' : Ren} {E : Env} {a : Act} (ha : Agree ρ ρ') (h : ERel ρ N E a) : ERel ρ' N E a :=
  ⟨h.defers, h.size, fun t v ht => let ⟨v', a, b⟩ := h.get t v ht; ⟨v', a, b.mono ha⟩⟩
theorem ERel.sub {N : Nat} {ρ : Ren} {E E' : Env} {a : Act} (h : ERel ρ N E a) (hs : ∀ t v, E'.get t = some v → E.get t = some v) : ERel ρ N E' a :=
  ⟨h.defers, h.size, fun t v ht => h.get t v (hs t v ht)⟩
theorem ERel.put {N : Nat} {ρ : Ren} {E : Env} {a : Act} (h : ERel ρ N E a) (d : Option Nat) (hd : ∀ t, d = some t → t < N) {v v' : Value} (hv : TRel ρ v v') : ERel ρ N (E.put d v) (a.put d v') := by
  cases d with
  | none => exact h
  | some t =>
    have ht := hd t rfl
    refine ⟨h.defers, by simpa [Act.put] using h.size, fun i u hu => ?_⟩
    rw [Env.get_put] at hu
    by_cases e : t = i
    · subst e
      simp only [if_true, Option.some.injEq] at hu
      subst hu
      exact ⟨v', by simp [Act.put, h.size, ht], hv⟩
    · rw [if_neg (by simpa using e)] at hu
      obtain ⟨u', h1, h2⟩ := h.get i u hu
      exact ⟨u', by simp [Act.put, Array.getElem?_setIfInBounds_ne e, h1], h2⟩

/-- The whole state: slots and heap. -/
structure St (ρ : Ren) (N : Nat) (E : Env) (A : AHeap) (a : Act) (w : World) : Prop where
  e : ERel ρ N E a
  h : HRel ρ A w
end Go.Proofs.Ytckdmhjhjfmcdaa.Sx
