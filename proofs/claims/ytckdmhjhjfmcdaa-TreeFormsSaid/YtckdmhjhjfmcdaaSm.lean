/-
  Regions that draw their order: what is asked of one, and what it then comes to.
-/
import Derived.Test.YtckdmhjhjfmcdaaSl
namespace Go.Proofs.Ytckdmhjhjfmcdaa.Sx
set_option linter.unusedSimpArgs false
set_option linter.unusedVariables false
open Go
variable {P : Program} {ρ : Ren} {N : Nat} {E : Env} {A : AHeap} {a : Act} {w : World}

def optL (o : Option Operand) : List Operand := match o with | some x => [x] | none => []
def LOp.opers : LOp → List Operand
  | .mov x | .load _ x | .nilchk x | .un _ x | .conv _ x | .fieldAddr _ x | .field _ _ x | .extract x _ | .lenS x | .lenStr x | .lenM x => [x]
  | .pick c a b => [c, a, b]
  | .build _ ps => ps.map (·.2.2)
  | .bin _ _ x y | .idxArr _ _ x y | .idxSl _ x y | .indexA _ _ _ x y | .indexS x y => [x, y]
  | .slcS _ x lo hi | .slcA _ _ x lo hi | .slcStr x lo hi => x :: (optL lo ++ optL hi)
  | .slc3 _ x lo hi mx => x :: hi :: mx :: optL lo
  | .mkfunc _ cs => cs
  | .lenC _ => []
  | .minmax _ x r => x :: r
def AOp.opers : AOp → List Operand
  | .alloc _ | .mkmap => []
  | .box x => [x]
  | .mkslice _ _ _ ps => ps.map (·.2.2)
  | .makeslice _ _ _ l c => [l, c]
def HOp.opers : HOp → List Operand
  | .store _ x v => [x, v]
  | .call _ as => as
  | .callv x as => x :: as
  | .append _ _ x y | .copy _ x y => [x, y]
def DOp.opers : DOp → List Operand
  | .light d => d.opers
  | .alloc d => d.opers
  | .heavy d => d.opers
def opTmps : Operand → List Nat
  | .tmp t => [t]
  | _ => []
def DOper.reads (d : DOper) : List Nat := d.op.opers.flatMap opTmps ++ (match d.guard with | some (t, _) => [t] | none => [])

/-- Does it read memory? -/
def LOp.isRead : LOp → Bool
  | .load _ _ | .slcA _ _ _ _ _ | .lenM _ => true
  | _ => false

theorem eval_congr {E E' : Env} {x : Operand} (h : ∀ t ∈ opTmps x, E.get t = E'.get t) : E.eval x = E'.eval x := by
  cases x with
  | tmp t => exact h t (by simp [opTmps])
  | _ => rfl
theorem evalL_congr {E E' : Env} : ∀ {xs : List Operand}, (∀ x ∈ xs, E.eval x = E'.eval x) → evalL E xs = evalL E' xs
  | [], _ => rfl
  | x :: xs, h => by simp only [evalL]; rw [h x (by simp), evalL_congr fun y hy => h y (by simp [hy])]
theorem evalParts_congr {E E' : Env} : ∀ {ps : List (Nat × Nat × Operand)}, (∀ p ∈ ps, E.eval p.2.2 = E'.eval p.2.2) → evalParts E ps = evalParts E' ps
  | [], _ => rfl
  | (o, s, x) :: ps, h => by simp only [evalParts]; rw [h (o, s, x) (by simp), evalParts_congr fun y hy => h y (by simp [hy])]
theorem bnd_congr {E E' : Env} {d : Nat} {x : Option Operand} (h : ∀ y ∈ optL x, E.eval y = E'.eval y) : bnd E d x = bnd E' d x := by
  cases x with
  | none => rfl
  | some y => simp only [bnd]; rw [h y (by simp [optL])]

theorem dlight_congr {E E' : Env} {d : LOp} (h : ∀ x ∈ d.opers, E.eval x = E'.eval x) (A : AHeap) : dlight d E A = dlight d E' A := by
  cases d <;> simp only [LOp.opers, List.mem_cons, List.not_mem_nil, or_false, forall_eq_or_imp, forall_eq, List.mem_map, List.mem_append, forall_exists_index, and_imp, forall_apply_eq_imp_iff₂] at h <;> simp only [dlight]
  case mov => exact h
  case pick => rw [h.1, h.2.1, h.2.2]
  case build => rw [evalParts_congr fun p hp => h p hp]
  case bin => rw [h.1, h.2]
  case idxArr => rw [h.1, h.2]
  case idxSl => rw [h.1, h.2]
  case indexA => rw [h.1, h.2]
  case indexS => rw [h.1, h.2]
  case slcS lo hi => simp only [h.1, bnd_congr (x := lo) fun y hy => h.2 y (.inl hy), bnd_congr (x := hi) fun y hy => h.2 y (.inr hy)]
  case slcA lo hi => simp only [h.1, bnd_congr (x := lo) fun y hy => h.2 y (.inl hy), bnd_congr (x := hi) fun y hy => h.2 y (.inr hy)]
  case slcStr lo hi => simp only [h.1, bnd_congr (x := lo) fun y hy => h.2 y (.inl hy), bnd_congr (x := hi) fun y hy => h.2 y (.inr hy)]
  case slc3 lo hi mx =>
    have e1 : ∀ d, bnd E d (some hi) = bnd E' d (some hi) := fun d => bnd_congr fun y hy => by simp [optL] at hy; subst hy; exact h.2.1
    have e2 : ∀ d, bnd E d (some mx) = bnd E' d (some mx) := fun d => bnd_congr fun y hy => by simp [optL] at hy; subst hy; exact h.2.2.1
    simp only [h.1, e1, e2, bnd_congr (x := lo) fun y hy => h.2.2.2 y hy]
  case mkfunc => rw [evalL_congr h]
  case minmax => rw [h.1, evalL_congr h.2]
  all_goals rw [h]

theorem dlight_pure {d : LOp} (h : d.isRead = false) (E : Env) (A A' : AHeap) : dlight d E A = dlight d E A' := by
  cases d <;> first | rfl | (cases h; done)

theorem dal_congr {E E' : Env} {d : AOp} (h : ∀ x ∈ d.opers, E.eval x = E'.eval x) : dal d E = dal d E' := by
  cases d <;> simp only [AOp.opers, List.mem_cons, List.not_mem_nil, or_false, forall_eq_or_imp, forall_eq, List.mem_map, forall_exists_index, and_imp, forall_apply_eq_imp_iff₂] at h <;> simp only [dal]
  case box => rw [h]
  case mkslice => rw [evalParts_congr fun p hp => h p hp]
  case makeslice => rw [h.1, h.2]

theorem dheavy_congr {E E' : Env} {d : HOp} (h : ∀ x ∈ d.opers, E.eval x = E'.eval x) (A : AHeap) (K : Value → AHeap → Prop) : dheavy P d E A K = dheavy P d E' A K := by
  cases d <;> simp only [HOp.opers, List.mem_cons, List.not_mem_nil, or_false, forall_eq_or_imp, forall_eq] at h <;> simp only [dheavy]
  case store => rw [h.1, h.2]
  case call => rw [evalL_congr h]
  case callv => rw [h.1, evalL_congr h.2]
  case append => rw [h.1, h.2]
  case copy => rw [h.1, h.2]

theorem Env.get_keep_mem (E : Env) : ∀ {ts : List Nat} {t : Nat}, t ∈ ts → (E.keep ts).get t = E.get t
  | [], t, h => by simp at h
  | s :: ts, t, h => by
    simp only [Env.keep]
    cases hs : E.get s with
    | some v =>
      simp only [Env.get]
      by_cases e : s = t
      · subst e; simp [hs]
      · rw [if_neg e]
        exact Env.get_keep_mem E (by simpa [Ne.symm e] using h)
    | none =>
      simp only
      by_cases e : s = t
      · subst e
        rw [hs]
        cases hk : (E.keep ts).get s with
        | none => rfl
        | some v => have := Env.get_keep E ts s v hk; rw [hs] at this; cases this
      · exact Env.get_keep_mem E (by simpa [Ne.symm e] using h)

theorem op_keep {E : Env} {d : DOper} : ∀ x ∈ d.op.opers, (E.keep d.reads).eval x = E.eval x := by
  intro x hx
  refine eval_congr fun t ht => Env.get_keep_mem E ?_
  simp only [DOper.reads, List.mem_append, List.mem_flatMap]
  exact .inl ⟨x, hx, ht⟩

/-- Is the guard's answer the wanted one? -/
def evalG (g : Option (Nat × Bool)) (E : Env) : Option Bool :=
  match g with
  | none => some true
  | some (t, want) => match E.get t with
    | some (.bool b) => some (b == want)
    | some (.tuple vs) => if vs.size = 0 then some false else none
    | _ => none

def lightV (d : DOp) (h : Nat) (E : Env) (A : AHeap) : Option Value :=
  match d with
  | .light d => dlight d E A
  | .alloc d => match dal d E with
    | some x => some (x.2 h)
    | none => none
  | .heavy _ => none

inductive PStep
  | light (i : Nat)
  | heavy (i : Nat) (real rech : List Nat)
def PStep.ix : PStep → Nat
  | .light i => i
  | .heavy i _ _ => i

/-- How a region that draws is walked: in which order; which operations make memory; which that memory is there from the end on; who must stand behind whom. -/
structure Plan where
  steps : List PStep
  made : List Nat
  last : List Nat
  anc : List (List Nat)

def posOf (l : List Nat) (i : Nat) : Nat :=
  match l with
  | [] => 0
  | x :: r => if x = i then 0 else posOf r i + 1

def realize (ds : List DOper) (made : List Nat) (base : Nat) : List Nat → Env → AHeap → Option AHeap
  | [], _, A => some A
  | i :: r, E, A => match ds[i]? with
    | some d => match d.op with
      | .alloc d' => match evalG d.guard E with
        | some true => match dal d' E with
          | some x => realize ds made base r E (A.set (base + posOf made i) x.1)
          | none => none
        | some false => realize ds made base r E A
        | none => none
      | _ => none
    | none => none

def recheck (ds : List DOper) (E : Env) (A : AHeap) : List Nat → Prop
  | [] => True
  | i :: r => (match ds[i]? with
    | some d => match d.op, d.dst with
      | .light d', some t => match evalG d.guard E with
        | some true => dlight d' E A = E.get t
        | some false => True
        | none => False
      | _, _ => False
    | none => False) ∧ recheck ds E A r

def guarded (g : Option (Nat × Bool)) (E : Env) (run skip : Env → Prop) : Prop :=
  match g with
  | none => run E
  | some (t, want) => match E.get t with
    | some (.bool b) => (b = want → run (E.put (some t) (.bool want))) ∧ (b = !want → skip (E.put (some t) (.bool !want)))
    | some (.tuple vs) => vs.size = 0 ∧ skip E
    | _ => False

def dgo (P : Program) (ds : List DOper) (made last : List Nat) (base : Nat) : List PStep → Env → AHeap → (Env → AHeap → Prop) → Prop
  | [], E, A, K => match realize ds made base last E A with
    | some A' => K E A'
    | none => False
  | .light i :: r, E, A, K => match ds[i]? with
    | some d => guarded d.guard E (fun E => match lightV d.op (base + posOf made i) E A with
        | some v => dgo P ds made last base r (E.put d.dst v) A K
        | none => False) (fun E => dgo P ds made last base r (E.put d.dst (.tuple #[])) A K)
    | none => False
  | .heavy i R C :: r, E, A, K => match realize ds made base R E A, ds[i]? with
    | some A1, some d => match d.op with
      | .heavy h => guarded d.guard E (fun E => dheavy P h E A1 fun v A' => recheck ds E A' C ∧ dgo P ds made last base r (E.put d.dst v) A' K) (fun E => recheck ds E A1 C ∧ dgo P ds made last base r (E.put d.dst (.tuple #[])) A1 K)
      | _ => False
    | _, _ => False

def ddraw (P : Program) (ds : List DOper) (p : Plan) (E : Env) (A : AHeap) (K : Env → AHeap → Prop) : Prop :=
  dgo P ds p.made p.last A.next p.steps E (A.reserve p.made.length) K

/-! What a plan must be. -/
def ancOf (p : Plan) (i : Nat) : List Nat := p.anc.getD i []
def isHeavy : DOp → Bool
  | .heavy _ => true
  | _ => false
def isAlloc : DOp → Bool
  | .alloc _ => true
  | _ => false
def readsMem : DOp → Bool
  | .light d => d.isRead
  | _ => false
def heavyAt (ds : List DOper) (i : Nat) : Bool := match ds[i]? with | some d => isHeavy d.op | none => false
def allocAt (ds : List DOper) (i : Nat) : Bool := match ds[i]? with | some d => isAlloc d.op | none => false
def readAt (ds : List DOper) (i : Nat) : Bool := match ds[i]? with | some d => readsMem d.op | none => false

/-- From here on: each step's ancestors lie behind it, and what follows a writing step has it for an ancestor. -/
def stepsOk (ds : List DOper) (p : Plan) : List Nat → List Nat → List PStep → Bool
  | _, _, [] => true
  | before, done, .light i :: r => !heavyAt ds i && (ancOf p i).all before.contains && stepsOk ds p (i :: before) done r
  | before, done, .heavy i R C :: r => heavyAt ds i && (ancOf p i).all before.contains && r.all (fun s => (ancOf p s.ix).contains i) &&
      R.all (fun j => allocAt ds j && (ancOf p i).contains j && !done.contains j) && decide R.Nodup &&
      before.all (fun j => !readAt ds j || (ancOf p i).contains j || C.contains j) && C.all before.contains &&
      stepsOk ds p (i :: before) (R ++ done) r

def realsOf : List PStep → List Nat
  | [] => []
  | .light _ :: r => realsOf r
  | .heavy _ R _ :: r => R ++ realsOf r

def tmpsOk (ds : List DOper) (p : Plan) : Bool :=
  (List.range ds.length).all fun i => match ds[i]? with
    | some d => (List.range ds.length).all fun j => match ds[j]? with
      | some e => match e.dst with
        | some t => (i == j || d.dst != some t) && (!d.reads.contains t || (i != j && ((ancOf p i).contains j || (!readsMem d.op && !isAlloc d.op && (ancOf p j).contains i))))
        | none => true
      | none => false
    | none => false

def planOk (pre : List (List Nat)) (ds : List DOper) (p : Plan) : Bool :=
  pre.length == ds.length &&
  decide (p.steps.map (·.ix)).Nodup && (p.steps.map (·.ix)).all (fun i => decide (i < ds.length)) && (List.range ds.length).all (fun i => (p.steps.map (·.ix)).contains i) &&
  (List.range ds.length).all (fun i => (pre.getD i []).all (fun j => decide (j < i)) && (ancOf p i).all fun j => (pre.getD i []).contains j || (pre.getD i []).any fun k => (ancOf p k).contains j) &&
  decide p.made.Nodup && (List.range ds.length).all (fun i => !allocAt ds i || p.made.contains i) &&
  stepsOk ds p [] [] p.steps &&
  p.last.all (fun j => allocAt ds j && decide (j < ds.length) && !(realsOf p.steps).contains j) && decide p.last.Nodup &&
  tmpsOk ds p
end Go.Proofs.Ytckdmhjhjfmcdaa.Sx
