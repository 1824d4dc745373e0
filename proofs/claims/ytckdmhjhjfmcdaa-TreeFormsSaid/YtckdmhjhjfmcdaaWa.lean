/-
  Arguments that are plain data, as rows of the abstract heap that nobody writes to.
-/
import Derived.Test.YtckdmhjhjfmcdaaSz
import Derived.Deep.Slices
namespace Go.Proofs.Ytckdmhjhjfmcdaa.Sx
set_option linter.unusedSimpArgs false
set_option linter.unusedVariables false
open Go Go.Deep

open Classical in
/-- Some block of cells, if there is one. -/
noncomputable def dum (w : World) : Option Nat := if h : ∃ b C t fr, w.heap[b]? = some (.cells C t fr) then some (Classical.choose h) else none
theorem dum_some {w : World} {b : Nat} (h : dum w = some b) : ∃ C t fr, w.heap[b]? = some (.cells C t fr) := by
  unfold dum at h
  split at h
  · rename_i hh
    cases h
    exact Classical.choose_spec hh
  · cases h
theorem dum_ex {w : World} {b : Nat} {C : Array Value} {t : TypeId} {fr : Nat × Nat} (h : w.heap[b]? = some (.cells C t fr)) : ∃ d, dum w = some d := by
  unfold dum
  rw [dif_pos ⟨b, C, t, fr, h⟩]
  exact ⟨_, rfl⟩
abbrev Vw := Base × List Value
noncomputable def ren (w : World) (L : List Vw) : Ren := fun h => match h with
  | 0 => ⟨(dum w).getD 0, 0, 0, true⟩
  | h + 1 => match L[h]? with
    | some r => r.1
    | none => ⟨0, 0, 0, false⟩
noncomputable def hpOf (w : World) (L : List Vw) : AHeap where
  next := L.length + 1
  get h := match h with
    | 0 => (dum w).map fun _ => .cells true []
    | h + 1 => (L[h]?).map fun r => .cells true r.2
  wf h hh := by
    cases h with
    | zero => omega
    | succ h => simp only; rw [List.getElem?_eq_none (by omega)]; rfl
structure Good (w : World) (L : List Vw) : Prop where
  ok : ∀ (h : Nat) r, L[h]? = some r → r.1.ok = true
  at' : ∀ (h : Nat) r, L[h]? = some r → CellsAt (ren w L) r.1 true r.2 w
section
variable {w : World} {L M : List Vw}
theorem ren_agree : Agree (ren w L) (ren w (L ++ M)) := by
  intro h hh
  cases h with
  | zero => rfl
  | succ h =>
    simp only [ren] at hh ⊢
    cases hl : L[h]? with
    | none => rw [hl] at hh; cases hh
    | some r =>
      have := (List.getElem?_eq_some_iff.1 hl).1
      rw [List.getElem?_append_left this, hl]
theorem hpOf_keeps {h : Nat} {o : AObj} (hg : (hpOf w L).get h = some o) : (hpOf w (L ++ M)).get h = some o := by
  cases h with
  | zero => exact hg
  | succ h =>
    simp only [hpOf] at hg ⊢
    cases hl : L[h]? with
    | none => rw [hl] at hg; cases hg
    | some r =>
      have := (List.getElem?_eq_some_iff.1 hl).1
      rw [List.getElem?_append_left this, hl]
      rw [hl] at hg; exact hg
theorem Good.nil (w : World) : Good w [] := ⟨fun h r hr => by simp at hr, fun h r hr => by simp at hr⟩
theorem Good.rel (G : Good w L) : HRel (ren w L) (hpOf w L) w := by
  refine ⟨fun h hh => ?_, fun h o ho => ?_, fun h ro cs hg => ?_, fun h es hg => ?_, fun h h' o o' _ hg _ hw => ?_⟩
  · cases h with
    | zero => simp [hpOf] at hh
    | succ h =>
      simp only [hpOf] at hh
      simp only [ren]
      rw [List.getElem?_eq_none (by omega)]
  · cases h with
    | zero => rfl
    | succ h =>
      simp only [hpOf] at ho
      simp only [ren]
      cases hl : L[h]? with
      | none => rw [hl] at ho; cases ho
      | some r => exact G.ok h r hl
  · cases h with
    | zero =>
      simp only [hpOf] at hg
      cases hd : dum w with
      | none => rw [hd] at hg; cases hg
      | some b =>
        rw [hd] at hg
        simp only [Option.map_some, Option.some.injEq, AObj.cells.injEq] at hg
        obtain ⟨rfl, rfl⟩ := hg
        obtain ⟨C, t, fr, hb⟩ := dum_some hd
        refine ⟨C, t, fr, by simp only [ren, hd]; exact hb, by simp [ren], by simp [ren], fun k v hk => by simp at hk, fun h => by cases h⟩
    | succ h =>
      simp only [hpOf] at hg
      cases hl : L[h]? with
      | none => rw [hl] at hg; cases hg
      | some r =>
        rw [hl] at hg
        simp only [Option.map_some, Option.some.injEq, AObj.cells.injEq] at hg
        obtain ⟨rfl, rfl⟩ := hg
        have := G.at' h r hl
        simpa only [ren, hl] using this
  · cases h with
    | zero =>
      simp only [hpOf] at hg
      cases hd : dum w with
      | none => rw [hd] at hg; cases hg
      | some b => rw [hd] at hg; cases hg
    | succ h =>
      simp only [hpOf] at hg
      cases hl : L[h]? with
      | none => rw [hl] at hg; cases hg
      | some r => rw [hl] at hg; cases hg
  · exfalso
    cases h with
    | zero =>
      simp only [hpOf] at hg
      cases hd : dum w with
      | none => rw [hd] at hg; cases hg
      | some b => rw [hd] at hg; cases hg; cases hw
    | succ h =>
      simp only [hpOf] at hg
      cases hl : L[h]? with
      | none => rw [hl] at hg; cases hg
      | some r => rw [hl] at hg; cases hg; cases hw
theorem Good.snoc (G : Good w L) {b : Base} {cs : List Value} (hb : b.ok = true) (hc : CellsAt (ren w L) b true cs w) : Good w (L ++ [(b, cs)]) := by
  have key : ∀ {h : Nat} {r : Vw}, (L ++ [(b, cs)])[h]? = some r → L[h]? = some r ∨ r = (b, cs) := by
    intro h r hr
    rcases Nat.lt_or_ge h L.length with hh | hh
    · rw [List.getElem?_append_left hh] at hr; exact .inl hr
    · rw [List.getElem?_append_right hh] at hr
      have := List.mem_of_getElem? hr
      exact .inr (by simpa using this)
  refine ⟨fun h r hr => ?_, fun h r hr => ?_⟩
  · rcases key hr with h | rfl
    · exact G.ok _ _ h
    · exact hb
  · rcases key hr with h | rfl
    · exact (G.at' _ _ h).mono ren_agree rfl
    · exact hc.mono ren_agree rfl
end
/-! Which types are plain. -/
def tileB (P : Program) : List Field → Nat → Nat → Bool
  | [], o, e => o == e
  | f :: fs, o, e => f.offset == o && tileB P fs (o + P.cellsOf f.type) e
def plainT (P : Program) : Nat → TypeId → Bool
  | 0, _ => false
  | n + 1, t => match P.underlying t with
    | some .bool => true
    | some (.int _) => true
    | some .string => true
    | some (.struct fs) => tileB P fs.toList 0 (P.cellsOf t) && fs.toList.all fun f => plainT P n f.type
    | some (.array m e) => m * P.cellsOf e == P.cellsOf t && plainT P n e
    | some (.slice e) => decide (0 < P.cellsOf e) && plainT P n e
    | _ => false
/-! What their values look like. -/
def shapeL (c : TypeId → Nat) (S : TypeId → List Value → Prop) : List TypeId → List Value → Prop
  | [], acs => acs = []
  | t :: ts, acs => ∃ a r, acs = a ++ r ∧ a.length = c t ∧ S t a ∧ shapeL c S ts r
def SlOf (A : AHeap) (s : Nat) (v : Value) (rows : List (List Value)) : Prop :=
  (v = .slice none 0 0 ∧ rows = []) ∨ (v = .slice (some ⟨0, 0, none⟩) 0 s ∧ rows = []) ∨ ∃ h, v = .slice (some ⟨h, 0, none⟩) rows.length s ∧ A.get h = some (.cells true rows.flatten)
def Shape (P : Program) (A : AHeap) : Nat → TypeId → List Value → Prop
  | 0, _, _ => False
  | n + 1, t, acs => match P.underlying t with
    | some .bool => ∃ b, acs = [.bool b]
    | some (.int k) => ∃ x, acs = [.int k x] ∧ (Lit.int k x).wf = true
    | some .string => ∃ s : ByteArray, acs = [.string s] ∧ s.size ≤ maxLen
    | some (.struct fs) => shapeL P.cellsOf (Shape P A n) (fs.toList.map (·.type)) acs
    | some (.array m e) => shapeL P.cellsOf (Shape P A n) (List.replicate m e) acs
    | some (.slice e) => ∃ v rows, acs = [v] ∧ rows.length ≤ maxLen ∧ (∀ r ∈ rows, r.length = P.cellsOf e ∧ Shape P A n e r) ∧ SlOf A (P.cellsOf e) v rows
    | _ => False
theorem shapeL_mono {c : TypeId → Nat} {S S' : TypeId → List Value → Prop} (hs : ∀ t a, S t a → S' t a) : ∀ {ts : List TypeId} {acs : List Value}, shapeL c S ts acs → shapeL c S' ts acs
  | [], _, h => h
  | _ :: _, _, ⟨a, r, h1, h2, h3, h4⟩ => ⟨a, r, h1, h2, hs _ _ h3, shapeL_mono hs h4⟩
theorem SlOf.mono {A B : AHeap} (hk : ∀ h o, A.get h = some o → B.get h = some o) {s : Nat} {v : Value} {rows : List (List Value)} (h : SlOf A s v rows) : SlOf B s v rows := by
  rcases h with h | h | ⟨x, h1, h2⟩
  · exact .inl h
  · exact .inr (.inl h)
  · exact .inr (.inr ⟨x, h1, hk _ _ h2⟩)
theorem Shape.mono {P : Program} {A B : AHeap} (hk : ∀ h o, A.get h = some o → B.get h = some o) : ∀ {n : Nat} {t : TypeId} {acs : List Value}, Shape P A n t acs → Shape P B n t acs := by
  intro n
  induction n with
  | zero => intro t acs h; exact h.elim
  | succ n ih =>
    intro t acs h
    unfold Shape at h ⊢
    cases hu : P.underlying t with
    | none => rw [hu] at h; exact h.elim
    | some d =>
      rw [hu] at h
      cases d <;> first | exact h | exact shapeL_mono (fun _ _ => ih) h | (obtain ⟨v, rows, h1, h2, h3, h4⟩ := h; exact ⟨v, rows, h1, h2, fun r hr => ⟨(h3 r hr).1, ih (h3 r hr).2⟩, h4.mono hk⟩)
end Go.Proofs.Ytckdmhjhjfmcdaa.Sx
