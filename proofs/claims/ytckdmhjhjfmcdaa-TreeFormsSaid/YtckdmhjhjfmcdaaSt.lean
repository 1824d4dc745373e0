/-
  Words for stepping through code on the abstract state.
-/
import Derived.Test.YtckdmhjhjfmcdaaSs
namespace Go.Proofs.Ytckdmhjhjfmcdaa.Sx
set_option linter.unusedSimpArgs false
set_option linter.unusedVariables false
open Go
theorem nx_alloc (A : AHeap) (o : AObj) : (A.alloc o).next = A.next + 1 := Nat.le_antisymm (Nat.le_refl _) (Nat.le_refl _)
theorem nx_set (A : AHeap) (p : Nat) (o : AObj) : (A.set p o).next = A.next := Nat.le_antisymm (Nat.le_refl _) (Nat.le_refl _)
theorem nx_del (A : AHeap) (p : Nat) : (A.del p).next = A.next := Nat.le_antisymm (Nat.le_refl _) (Nat.le_refl _)
theorem nx_reserve (A : AHeap) (m : Nat) : (A.reserve m).next = A.next + m := Nat.le_antisymm (Nat.le_refl _) (Nat.le_refl _)
theorem get_alloc_eq {A : AHeap} {o : AObj} {h : Nat} (e : h = A.next) : (A.alloc o).get h = some o := by rw [e]; exact A.get_alloc_new o
theorem get_alloc_ne {A : AHeap} {o : AObj} {h : Nat} (e : h ≠ A.next) : (A.alloc o).get h = A.get h := A.get_alloc o e
theorem get_set_eq {A : AHeap} {o : AObj} {p h : Nat} (e : h = p) (l : p < A.next) : (A.set p o).get h = some o := by rw [e]; exact A.get_set_same o l
theorem get_set_ne {A : AHeap} {o : AObj} {p h : Nat} (e : h ≠ p) : (A.set p o).get h = A.get h := A.get_set o e
theorem get_del_ne {A : AHeap} {p h : Nat} (e : h ≠ p) : (A.del p).get h = A.get h := A.get_del e
theorem keep_cons {x : Nat × Value} {E : Env} {t : Nat} {ts : List Nat} : Env.keep (x :: E) (t :: ts) = match Env.get (x :: E) t with
    | some v => (t, v) :: Env.keep (x :: E) ts
    | none => Env.keep (x :: E) ts := by rw [Env.keep]; cases Env.get (x :: E) t <;> rfl
theorem keep_nil {E : Env} : Env.keep E [] = [] := by rw [Env.keep]
theorem keep_empty : ∀ ts : List Nat, Env.keep [] ts = []
  | [] => by rw [Env.keep]
  | t :: ts => by rw [Env.keep, Env.get]; exact keep_empty ts
theorem and_guard {b want : Bool} {p q : Prop} : ((b = want → p) ∧ (b = !want → q)) ↔ if b = want then p else q := by
  by_cases h : b = want
  · subst h; simp
  · have : b = !want := by cases b <;> cases want <;> simp_all
    simp [this]

/-- A later heap that keeps what was there. -/
structure Ext (A A' : AHeap) : Prop where
  next : A.next ≤ A'.next
  get : ∀ h, h < A.next → A'.get h = A.get h
theorem Ext.refl (A : AHeap) : Ext A A := ⟨Nat.le_refl _, fun _ _ => rfl⟩
theorem Ext.trans {A B C : AHeap} (h : Ext A B) (k : Ext B C) : Ext A C := ⟨Nat.le_trans h.next k.next, fun x hx => (k.get x (Nat.lt_of_lt_of_le hx h.next)).trans (h.get x hx)⟩
theorem Ext.alloc (A : AHeap) (o : AObj) : Ext A (A.alloc o) := ⟨by simp [AHeap.next_alloc], fun x hx => get_alloc_ne (by omega)⟩
theorem Ext.alloc' {A B : AHeap} (h : Ext A B) (o : AObj) : Ext A (B.alloc o) := h.trans (Ext.alloc B o)
theorem Ext.set' {A B : AHeap} (h : Ext A B) {p : Nat} (hp : A.next ≤ p) (o : AObj) : Ext A (B.set p o) :=
  ⟨h.next, fun x hx => (get_set_ne (by omega)).trans (h.get x hx)⟩
theorem Ext.del' {A B : AHeap} (h : Ext A B) {p : Nat} (hp : A.next ≤ p) : Ext A (B.del p) :=
  ⟨h.next, fun x hx => (get_del_ne (by omega)).trans (h.get x hx)⟩
theorem Ext.keeps {A B : AHeap} (h : Ext A B) {x : Nat} {o : AObj} (hg : A.get x = some o) : B.get x = some o := (h.get x (A.lt hg)).trans hg
theorem Ext.lt {A B : AHeap} (h : Ext A B) {x : Nat} {o : AObj} (hg : A.get x = some o) : x < B.next := Nat.lt_of_lt_of_le (A.lt hg) h.next

theorem dheavy_mono {P : Program} {d : HOp} {E : Env} {A : AHeap} {K K' : Value → AHeap → Prop} (hk : ∀ v A', K v A' → K' v A') : dheavy P d E A K → dheavy P d E A K' := by
  cases d <;> simp only [dheavy] <;> (repeat' split) <;> first
    | exact fun h => h.elim
    | exact fun h => dcall_mono h hk
    | exact fun h => ⟨h.1, dcall_mono h.2 hk⟩
    | exact fun h => hk _ _ h
    | exact fun h => ⟨h.1, hk _ _ h.2⟩
    | exact fun h => ⟨h.1, h.2.1, hk _ _ h.2.2⟩
    | exact fun h => ⟨h.1, h.2.1, h.2.2.1, hk _ _ h.2.2.2⟩
    | exact fun h => ⟨h.1, h.2.1, h.2.2.1, h.2.2.2.1, hk _ _ h.2.2.2.2⟩
theorem dop_mono {P : Program} {d : DOp} {E : Env} {A : AHeap} {K K' : Value → AHeap → Prop} (hk : ∀ v A', K v A' → K' v A') : dop P d E A K → dop P d E A K' := by
  cases d <;> simp only [dop]
  case heavy => exact dheavy_mono hk
  all_goals split
  all_goals first
    | exact fun h => h.elim
    | exact fun h => hk _ _ h
theorem dops_mono {P : Program} : ∀ {ds : List DOper} {E : Env} {A : AHeap} {K K' : Env → AHeap → Prop}, (∀ E' A', K E' A' → K' E' A') → dops P ds E A K → dops P ds E A K'
  | [], E, A, K, K', hk => hk E A
  | d :: ds, E, A, K, K', hk => by
    simp only [dops]
    split
    · exact dop_mono fun v A' => dops_mono hk
    · split
      · exact fun h => ⟨fun hb => dop_mono (fun v A' => dops_mono hk) (h.1 hb), fun hb => dops_mono hk (h.2 hb)⟩
      · exact fun h => ⟨h.1, dops_mono hk h.2⟩
      · exact fun h => h.elim
theorem guarded_mono {g : Option (Nat × Bool)} {E : Env} {r s r' s' : Env → Prop} (hr : ∀ E, r E → r' E) (hs : ∀ E, s E → s' E) : guarded g E r s → guarded g E r' s' := by
  cases g with
  | none => exact hr E
  | some x =>
    simp only [guarded]
    split
    · exact fun h => ⟨fun hb => hr _ (h.1 hb), fun hb => hs _ (h.2 hb)⟩
    · exact fun h => ⟨h.1, hs _ h.2⟩
    · exact fun h => h.elim
theorem dgo_mono {P : Program} {ds : List DOper} {made last : List Nat} {base : Nat} {K K' : Env → AHeap → Prop} (hk : ∀ E' A', K E' A' → K' E' A') : ∀ {r : List PStep} {E : Env} {A : AHeap}, dgo P ds made last base r E A K → dgo P ds made last base r E A K'
  | [], E, A => by
    simp only [dgo]
    split
    · exact hk _ _
    · exact fun h => h.elim
  | .light i :: r, E, A => by
    simp only [dgo]
    split
    · refine guarded_mono (fun E => ?_) (fun E => dgo_mono hk)
      split
      · exact dgo_mono hk
      · exact fun h => h.elim
    · exact fun h => h.elim
  | .heavy i R C :: r, E, A => by
    simp only [dgo]
    split
    · split
      · exact guarded_mono (fun E => dheavy_mono fun v A' h => ⟨h.1, dgo_mono hk h.2⟩) (fun E h => ⟨h.1, dgo_mono hk h.2⟩)
      · exact fun h => h.elim
    · exact fun h => h.elim
theorem thenK_mono {n n' : Env → AHeap → Prop} {K K' : Exit → Env → AHeap → Prop} (hn : ∀ E A, n E A → n' E A) (hk : ∀ e E A, K e E A → K' e E A) : ∀ e E A, thenK n K e E A → thenK n' K' e E A := by
  intro e E A
  cases e <;> first | exact hn E A | exact hk _ E A
theorem dwp_mono' {P : Program} : ∀ {x : DCode} {E : Env} {A : AHeap} {K K' : Exit → Env → AHeap → Prop}, (∀ e E' A', K e E' A' → K' e E' A') → dwp P x E A K → dwp P x E A K' := by
  intro x
  induction x with
  | skip | exit | ret => exact fun hk => hk _ _ _
  | row ds live => exact fun hk => dops_mono fun E' A' => hk _ _ _
  | draw ds p live => exact fun hk => dgo_mono fun E' A' => hk _ _ _
  | seq x y ihx ihy => exact fun hk => ihx (thenK_mono (fun E A => ihy hk) hk)
  | cond c x y live ihx ihy =>
    intro E A K K' hk
    have hk' : ∀ e E' A', keepK live K e E' A' → keepK live K' e E' A' := by
      intro e E' A'
      cases e <;> exact hk _ _ _
    simp only [dwp]
    split
    · exact fun h => ⟨fun hb => ihx hk' (h.1 hb), fun hb => ihy hk' (h.2 hb)⟩
    · exact fun h => h.elim
  | block id x live ih =>
    intro E A K K' hk
    refine ih fun e E' A' => ?_
    cases e with
    | exit id' =>
      simp only [inBlockK]
      split
      · exact hk _ _ _
      · exact hk _ _ _
    | _ => exact hk _ _ _
  | loop x ih =>
    rintro E A K K' hk ⟨I, h0, hs⟩
    exact ⟨I, h0, fun n E A hI => ih (thenK_mono (fun _ _ h => h) hk) (hs n E A hI)⟩
theorem dwp_mono {P : Program} {x : DCode} {E : Env} {A : AHeap} {K K' : Exit → Env → AHeap → Prop} (h : dwp P x E A K) (hk : ∀ e E' A', K e E' A' → K' e E' A') : dwp P x E A K' := dwp_mono' hk h

/-! A plan's walk with the operations written out. -/
inductive RStep
  | light (h : Nat) (d : DOper)
  | heavy (d : DOper) (real : List (Nat × DOper)) (rech : List DOper)

def realOne (base : Nat) (x : Nat × DOper) (E : Env) (A : AHeap) : Option AHeap :=
  match x.2.op with
  | .alloc d' => match evalG x.2.guard E with
    | some true => match dal d' E with
      | some y => some (A.set (base + x.1) y.1)
      | none => none
    | some false => some A
    | none => none
  | _ => none
def realizeR (base : Nat) : List (Nat × DOper) → Env → AHeap → Option AHeap
  | [], _, A => some A
  | x :: r, E, A => match realOne base x E A with
    | some A' => realizeR base r E A'
    | none => none
def recheckR (E : Env) (A : AHeap) : List DOper → Prop
  | [] => True
  | d :: r => (match d.op, d.dst with
      | .light d', some t => match evalG d.guard E with
        | some true => dlight d' E A = E.get t
        | some false => True
        | none => False
      | _, _ => False) ∧ recheckR E A r
def dgoR (P : Program) (last : List (Nat × DOper)) (base : Nat) : List RStep → Env → AHeap → (Env → AHeap → Prop) → Prop
  | [], E, A, K => match realizeR base last E A with
    | some A' => K E A'
    | none => False
  | .light h d :: r, E, A, K => guarded d.guard E (fun E => match lightV d.op (base + h) E A with
        | some v => dgoR P last base r (E.put d.dst v) A K
        | none => False) (fun E => dgoR P last base r (E.put d.dst (.tuple #[])) A K)
  | .heavy d R C :: r, E, A, K => match realizeR base R E A with
    | some A1 => match d.op with
      | .heavy h => guarded d.guard E (fun E => dheavy P h E A1 fun v A' => recheckR E A' C ∧ dgoR P last base r (E.put d.dst v) A' K) (fun E => recheckR E A1 C ∧ dgoR P last base r (E.put d.dst (.tuple #[])) A1 K)
      | _ => False
    | none => False

def resL1 (ds : List DOper) (made : List Nat) : List Nat → Option (List (Nat × DOper))
  | [] => some []
  | i :: r => match ds[i]?, resL1 ds made r with
    | some d, some l => some ((posOf made i, d) :: l)
    | _, _ => none
def resC (ds : List DOper) : List Nat → Option (List DOper)
  | [] => some []
  | i :: r => match ds[i]?, resC ds r with
    | some d, some l => some (d :: l)
    | _, _ => none
def resolve (ds : List DOper) (made : List Nat) : List PStep → Option (List RStep)
  | [] => some []
  | .light i :: r => match ds[i]?, resolve ds made r with
    | some d, some l => some (.light (posOf made i) d :: l)
    | _, _ => none
  | .heavy i R C :: r => match ds[i]?, resL1 ds made R, resC ds C, resolve ds made r with
    | some d, some R', some C', some l => some (.heavy d R' C' :: l)
    | _, _, _, _ => none

theorem realize_res {ds : List DOper} {made : List Nat} {base : Nat} : ∀ {R : List Nat} {R' : List (Nat × DOper)}, resL1 ds made R = some R' → ∀ E A, realize ds made base R E A = realizeR base R' E A
  | [], R', h, E, A => by simp [resL1] at h; subst h; rfl
  | i :: R, R', h, E, A => by
    simp only [resL1] at h
    split at h
    · rename_i d l hd hl
      cases h
      simp only [realize, hd, realizeR, realOne]
      cases d.op with
      | alloc d' =>
        simp only
        cases evalG d.guard E with
        | none => rfl
        | some b =>
          cases b with
          | false => exact realize_res hl E A
          | true =>
            simp only
            cases dal d' E with
            | none => rfl
            | some x => exact realize_res hl E _
      | _ => rfl
    · cases h
theorem recheck_res {ds : List DOper} {E : Env} {A : AHeap} : ∀ {C : List Nat} {C' : List DOper}, resC ds C = some C' → recheck ds E A C = recheckR E A C'
  | [], C', h => by simp [resC] at h; subst h; rfl
  | i :: C, C', h => by
    simp only [resC] at h
    split at h
    · rename_i d l hd hl
      cases h
      simp only [recheck, hd, recheckR]
      rw [recheck_res hl]
      rfl
    · cases h
theorem dgo_res {P : Program} {ds : List DOper} {made last : List Nat} {base : Nat} {ls : List (Nat × DOper)} (hl : resL1 ds made last = some ls) {K : Env → AHeap → Prop} :
    ∀ {steps : List PStep} {rs : List RStep}, resolve ds made steps = some rs → ∀ {E : Env} {A : AHeap}, dgo P ds made last base steps E A K = dgoR P ls base rs E A K
  | [], rs, h, E, A => by
    simp [resolve] at h; subst h
    simp only [dgo, dgoR]
    rw [realize_res hl]
    rfl
  | .light i :: r, rs, h, E, A => by
    simp only [resolve] at h
    split at h
    · rename_i d l hd hr
      cases h
      simp only [dgo, hd, dgoR]
      have hi : ∀ E A, dgo P ds made last base r E A K = dgoR P ls base l E A K := fun E A => dgo_res hl hr
      simp only [hi]
      rfl
    · cases h
  | .heavy i R C :: r, rs, h, E, A => by
    simp only [resolve] at h
    split at h
    · rename_i d R' C' l hd hR hC hr
      cases h
      have hi : ∀ E A, dgo P ds made last base r E A K = dgoR P ls base l E A K := fun E A => dgo_res hl hr
      obtain ⟨dst, op, g⟩ := d
      simp only [dgo, hd, dgoR, hi, realize_res hR, recheck_res hC]
      cases realizeR base R' E A with
      | none => rfl
      | some A1 => cases op <;> rfl
    · cases h
theorem dwp_res {P : Program} {ds : List DOper} {p : Plan} {live : List Nat} {rs : List RStep} {ls : List (Nat × DOper)} (hr : resolve ds p.made p.steps = some rs) (hl : resL1 ds p.made p.last = some ls) {m : Nat} (hm : p.made.length = m) {E : Env} {A : AHeap} {K : Exit → Env → AHeap → Prop} :
    dwp P (.draw ds p live) E A K = dgoR P ls A.next rs E (A.reserve m) fun E' A' => K .normal (E'.keep live) A' := by
  subst hm
  exact dgo_res hl hr

/-! The same, in words that nobody can unfold (a check of a step never runs the text). -/
theorem wpC_ex (P : Program) : ∃ f : DCode → Env → AHeap → (Exit → Env → AHeap → Prop) → Prop, f = dwp P := ⟨_, rfl⟩
noncomputable def wpC (P : Program) : DCode → Env → AHeap → (Exit → Env → AHeap → Prop) → Prop := Classical.choose (wpC_ex P)
theorem wpC_eq (P : Program) : wpC P = dwp P := Classical.choose_spec (wpC_ex P)
theorem wpR_ex (P : Program) : ∃ f : List DOper → Env → AHeap → (Env → AHeap → Prop) → Prop, f = dops P := ⟨_, rfl⟩
noncomputable def wpR (P : Program) : List DOper → Env → AHeap → (Env → AHeap → Prop) → Prop := Classical.choose (wpR_ex P)
theorem wpR_eq (P : Program) : wpR P = dops P := Classical.choose_spec (wpR_ex P)
theorem wpD_ex (P : Program) : ∃ f : List (Nat × DOper) → Nat → List RStep → Env → AHeap → (Env → AHeap → Prop) → Prop, f = dgoR P := ⟨_, rfl⟩
noncomputable def wpD (P : Program) : List (Nat × DOper) → Nat → List RStep → Env → AHeap → (Env → AHeap → Prop) → Prop := Classical.choose (wpD_ex P)
theorem wpD_eq (P : Program) : wpD P = dgoR P := Classical.choose_spec (wpD_ex P)

section
variable {P : Program} {E : Env} {A : AHeap} {K : Exit → Env → AHeap → Prop} {x y : DCode}
theorem wpC_skip : wpC P .skip E A K = K .normal E A := by rw [wpC_eq]; rfl
theorem wpC_exit {id : Nat} : wpC P (.exit id) E A K = K (.exit id) E A := by rw [wpC_eq]; rfl
theorem wpC_ret : wpC P .ret E A K = K .ret E A := by rw [wpC_eq]; rfl
theorem wpC_row {ds : List DOper} {live : List Nat} : wpC P (.row ds live) E A K = wpR P ds E A fun E' A' => K .normal (E'.keep live) A' := by rw [wpC_eq, wpR_eq]; rfl
theorem wpC_seq : wpC P (.seq x y) E A K = wpC P x E A (thenK (fun E' A' => wpC P y E' A' K) K) := by rw [wpC_eq]; rfl
theorem wpC_cond {c : Operand} {live : List Nat} : wpC P (.cond c x y live) E A K = match E.eval c with
    | some (.bool t) => if t = true then wpC P x E A (keepK live K) else wpC P y E A (keepK live K)
    | _ => False := by
  rw [wpC_eq]
  simp only [dwp]
  generalize E.eval c = g
  rcases g with _ | v
  · rfl
  · cases v with
    | bool t => cases t <;> simp
    | _ => rfl
theorem wpC_block {id : Nat} {live : List Nat} : wpC P (.block id x live) E A K = wpC P x E A (inBlockK id (keepK live K)) := by rw [wpC_eq]; rfl
theorem wpC_loop (I : Nat → Env → AHeap → Prop) (h0 : ∃ n, I n E A) (hs : ∀ n E A, I n E A → wpC P x E A (thenK (fun E' A' => ∃ m, m < n ∧ I m E' A') K)) : wpC P (.loop x) E A K := by
  rw [wpC_eq] at hs ⊢
  exact ⟨I, h0, hs⟩
theorem wpC_mono {K' : Exit → Env → AHeap → Prop} (h : wpC P x E A K) (hk : ∀ e E' A', K e E' A' → K' e E' A') : wpC P x E A K' := by
  rw [wpC_eq] at h ⊢
  exact dwp_mono h hk
/-- A loop that counts up to a bound. -/
theorem wpC_count (L i0 : Nat) (I : Nat → Env → AHeap → Prop) (hle : i0 ≤ L) (h0 : I i0 E A) (hs : ∀ i E A, i ≤ L → I i E A → wpC P x E A (thenK (fun E' A' => i + 1 ≤ L ∧ I (i + 1) E' A') K)) : wpC P (.loop x) E A K := by
  refine wpC_loop (fun n E A => ∃ i, i ≤ L ∧ n = L - i ∧ I i E A) ⟨L - i0, i0, hle, rfl, h0⟩ ?_
  rintro n E A ⟨i, h1, rfl, h2⟩
  refine wpC_mono (hs i E A h1 h2) ?_
  intro e E' A' hk
  cases e with
  | normal => exact ⟨L - (i + 1), by have := hk.1; omega, i + 1, hk.1, rfl, hk.2⟩
  | _ => exact hk
/-- A loop that leaves at once. -/
theorem wpC_once (h : wpC P x E A (thenK (fun _ _ => False) K)) : wpC P (.loop x) E A K := by
  refine wpC_loop (fun _ E' A' => E' = E ∧ A' = A) ⟨0, rfl, rfl⟩ ?_
  rintro n _ _ ⟨rfl, rfl⟩
  refine wpC_mono h ?_
  intro e E' A' hk
  cases e with
  | normal => exact hk.elim
  | _ => exact hk
theorem wpC_res {ds : List DOper} {p : Plan} {live : List Nat} {rs : List RStep} {ls : List (Nat × DOper)} (hr : resolve ds p.made p.steps = some rs) (hl : resL1 ds p.made p.last = some ls) {m : Nat} (hm : p.made.length = m) :
    wpC P (.draw ds p live) E A K = wpD P ls A.next rs E (A.reserve m) fun E' A' => K .normal (E'.keep live) A' := by
  rw [wpC_eq, wpD_eq]; exact dwp_res hr hl hm
end
section
variable {P : Program} {E : Env} {A : AHeap} {K : Env → AHeap → Prop} {dst : Option Nat} {op : DOp} {ds : List DOper} {t : Nat} {want : Bool} {ls : List (Nat × DOper)} {base h : Nat} {rs : List RStep} {d : LOp} {d' : AOp} {dh : HOp} {R : List (Nat × DOper)} {C : List DOper}
theorem wpR_nil : wpR P [] E A K = K E A := by rw [wpR_eq]; rfl
theorem wpR_none : wpR P (⟨dst, op, none⟩ :: ds) E A K = dop P op E A fun v A' => wpR P ds (E.put dst v) A' K := by rw [wpR_eq]; rfl
theorem wpR_some : wpR P (⟨dst, op, some (t, want)⟩ :: ds) E A K = match E.get t with
    | some (.bool b) => if b = want then dop P op (E.put (some t) (.bool want)) A fun v A' => wpR P ds ((E.put (some t) (.bool want)).put dst v) A' K else wpR P ds ((E.put (some t) (.bool !want)).put dst (.tuple #[])) A K
    | some (.tuple vs) => vs.size = 0 ∧ wpR P ds (E.put dst (.tuple #[])) A K
    | _ => False := by
  rw [wpR_eq]
  simp only [dops]
  generalize E.get t = g
  rcases g with _ | v
  · rfl
  · cases v with
    | bool b => exact propext and_guard
    | _ => rfl
theorem wpD_nil : wpD P ls base [] E A K = match realizeR base ls E A with
    | some A' => K E A'
    | none => False := by rw [wpD_eq]; rfl
theorem wpD_light : wpD P ls base (.light h ⟨dst, op, none⟩ :: rs) E A K = match lightV op (base + h) E A with
    | some v => wpD P ls base rs (E.put dst v) A K
    | none => False := by rw [wpD_eq]; rfl
theorem wpD_lightg : wpD P ls base (.light h ⟨dst, op, some (t, want)⟩ :: rs) E A K = match E.get t with
    | some (.bool b) => if b = want then (match lightV op (base + h) (E.put (some t) (.bool want)) A with
        | some v => wpD P ls base rs ((E.put (some t) (.bool want)).put dst v) A K
        | none => False) else wpD P ls base rs ((E.put (some t) (.bool !want)).put dst (.tuple #[])) A K
    | some (.tuple vs) => vs.size = 0 ∧ wpD P ls base rs (E.put dst (.tuple #[])) A K
    | _ => False := by
  rw [wpD_eq]
  simp only [dgoR, guarded]
  generalize E.get t = g
  rcases g with _ | v
  · rfl
  · cases v with
    | bool b => exact propext and_guard
    | _ => rfl
theorem wpD_heavy : wpD P ls base (.heavy ⟨dst, .heavy dh, none⟩ R C :: rs) E A K = match realizeR base R E A with
    | some A1 => dheavy P dh E A1 fun v A' => recheckR E A' C ∧ wpD P ls base rs (E.put dst v) A' K
    | none => False := by
  rw [wpD_eq]
  rfl
theorem wpD_heavyg : wpD P ls base (.heavy ⟨dst, .heavy dh, some (t, want)⟩ R C :: rs) E A K = match realizeR base R E A with
    | some A1 => match E.get t with
      | some (.bool b) => if b = want then dheavy P dh (E.put (some t) (.bool want)) A1 fun v A' => recheckR (E.put (some t) (.bool want)) A' C ∧ wpD P ls base rs ((E.put (some t) (.bool want)).put dst v) A' K
          else recheckR (E.put (some t) (.bool !want)) A1 C ∧ wpD P ls base rs ((E.put (some t) (.bool !want)).put dst (.tuple #[])) A1 K
      | some (.tuple vs) => vs.size = 0 ∧ recheckR E A1 C ∧ wpD P ls base rs (E.put dst (.tuple #[])) A1 K
      | _ => False
    | none => False := by
  rw [wpD_eq]
  simp only [dgoR, guarded]
  generalize realizeR base R E A = x
  cases x with
  | none => rfl
  | some A1 =>
    simp only
    generalize E.get t = g
    rcases g with _ | v
    · rfl
    · cases v with
      | bool b => exact propext and_guard
      | _ => rfl
end
theorem dcall_by {P : Program} (hm : P.follows .mixedOrders = true) {f : FuncId} {fn : Func} {ann : Ann} {d : DCode} {rs : List DRes} (hf : P.funcs[f]? = some fn) (hbc : fn.body.bind (compC P fn.ntmps ann) = some d) (hr : compR P fn.results.toList = some rs)
    {args : List Value} (hn : args.length ≤ fn.ntmps) {A : AHeap} {K : Value → AHeap → Prop} (h : wpC P d (enterE 0 args) A (endK rs K)) : dcall P f args A K := by
  rw [wpC_eq] at h
  exact dcall_of hm hf hbc hr hn h
theorem wrap_i64 {x : Int} (h : -9223372036854775808 ≤ x ∧ x ≤ 9223372036854775807) : IntKind.i64.wrap x = x := wrap64_id h.1 h.2
end Go.Proofs.Ytckdmhjhjfmcdaa.Sx
