/-
  Operations that only read: what each gives on abstract values, and that the machine gives the same.
-/
import Derived.Test.YtckdmhjhjfmcdaaSa
import Derived.Laws.Cells
import Derived.ChangeKeysEq
namespace Go.Proofs.Ytckdmhjhjfmcdaa.Sx
set_option linter.unusedSimpArgs false
set_option linter.unusedVariables false
open Go

def closedS : Value → Bool
  | .bool _ | .int _ _ | .string _ | .pointer none | .slice none 0 0 | .map none | .nilFunc => true
  | _ => false
def closedV : Value → Bool
  | .agg cs => cs.toList.all closedS
  | v => closedS v

theorem closedS_rel {v : Value} (h : closedS v = true) (ρ : Ren) : SRel ρ v v := by
  unfold closedS at h
  split at h <;> first
    | exact .nilf
    | exact .p (by constructor)
    | (cases h; done)
theorem closedL_rel : ∀ {cs : List Value}, cs.all closedS = true → ∀ (ρ : Ren), All2 (SRel ρ) cs cs
  | [], _, _ => .nil
  | c :: cs, h, ρ => by
    simp only [List.all_cons, Bool.and_eq_true] at h
    exact .cons (closedS_rel h.1 ρ) (closedL_rel h.2 ρ)
theorem closedV_rel {v : Value} (h : closedV v = true) (ρ : Ren) : VRel ρ v v := by
  unfold closedV at h
  split at h
  · rename_i cs; have := VRel.agg _ _ (closedL_rel h ρ); simpa using this
  · exact .s (closedS_rel h ρ)

def Env.eval (E : Env) : Operand → Option Value
  | .tmp t => E.get t
  | .const v => if closedV v then some v else none
  | .func f => some (.func (.func f) #[] #[])
  | .global _ => none

theorem eval_rel {N : Nat} {ρ : Ren} {E : Env} {a : Act} (h : ERel ρ N E a) {x : Operand} {v : Value} (hx : E.eval x = some v) : TRel ρ v (a.eval x) := by
  cases x with
  | tmp t =>
    obtain ⟨v', h1, h2⟩ := h.get t v hx
    have : a.eval (.tmp t) = v' := by simp [Act.eval, Array.getD_eq_getD_getElem?, h1]
    rw [this]; exact h2
  | const c =>
    simp only [Env.eval] at hx
    split at hx
    · rename_i hc; cases hx; exact .v (closedV_rel hc ρ)
    · cases hx
  | func f =>
    simp only [Env.eval, Option.some.injEq] at hx
    subst hx
    exact .v (.s (.fn _ [] [] .nil))
  | global g => cases hx

/-- The cells of a value. -/
def cellsOf : Value → List Value
  | .agg cs => cs.toList
  | v => [v]
theorem cells_toList (v : Value) : v.cells.toList = cellsOf v := by cases v <;> rfl

/-! Inversions: a related value's shape. -/
section inv
variable {ρ : Ren} {v' : Value}
theorem TRel.int_inv {k : IntKind} {x : Int} (h : TRel ρ (.int k x) v') : v' = .int k x := by
  cases h with | v h => cases h with | s h => cases h with | p h => cases h; rfl
theorem TRel.bool_inv {b : Bool} (h : TRel ρ (.bool b) v') : v' = .bool b := by
  cases h with | v h => cases h with | s h => cases h with | p h => cases h; rfl
theorem TRel.str_inv {s : ByteArray} (h : TRel ρ (.string s) v') : v' = .string s := by
  cases h with | v h => cases h with | s h => cases h with | p h => cases h; rfl
theorem TRel.nilp_inv (h : TRel ρ (.pointer none) v') : v' = .pointer none := by
  cases h with | v h => cases h with | s h => cases h with | p h => cases h; rfl
theorem TRel.ptr_inv {a : Addr} (h : TRel ρ (.pointer (some a)) v') : a.spot = none ∧ (ρ a.block).ok = true ∧ v' = .pointer (some (ρ.addr a.block a.off)) := by
  cases h with | v h => cases h with | s h => cases h with | p h => cases h with | ptr h o hn => exact ⟨rfl, hn, rfl⟩
theorem TRel.prel_inv {v : Value} (h : TRel ρ v v') (hv : match v with | .agg _ | .tuple _ | .func .. | .nilFunc => False | _ => True) : PRel ρ v v' := by
  cases h with
  | v h => cases h with
    | s h => cases h with
      | p h => exact h
      | nilf => exact hv.elim
      | fn => exact hv.elim
    | agg => exact hv.elim
  | tup => exact hv.elim
theorem TRel.agg_inv {cs : Array Value} (h : TRel ρ (.agg cs) v') : ∃ cs', v' = .agg cs' ∧ All2 (SRel ρ) cs.toList cs'.toList := by
  cases h with | v h => cases h with
    | s h => cases h with | p h => cases h
    | agg cs cs' h => exact ⟨cs'.toArray, rfl, by simpa using h⟩
theorem TRel.tup_inv {vs : Array Value} (h : TRel ρ (.tuple vs) v') : ∃ vs', v' = .tuple vs' ∧ All2 (VRel ρ) vs.toList vs'.toList := by
  cases h with
  | v h => cases h with | s h => cases h with | p h => cases h
  | tup cs cs' h => exact ⟨cs'.toArray, rfl, by simpa using h⟩
theorem TRel.nilf_inv (h : TRel ρ .nilFunc v') : v' = .nilFunc := by
  cases h with | v h => cases h with | s h => cases h with
    | p h => cases h
    | nilf => rfl
theorem TRel.fn_inv {f : Fn} {a b : Array Value} (h : TRel ρ (.func f a b) v') : a = #[] ∧ ∃ b', v' = .func f #[] b' ∧ All2 (PRel ρ) b.toList b'.toList := by
  cases h with | v h => cases h with | s h => cases h with
    | p h => cases h
    | fn f cs cs' h => exact ⟨rfl, cs'.toArray, rfl, by simpa using h⟩
theorem SRel.t {v : Value} (h : SRel ρ v v') : TRel ρ v v' := .v (.s h)
theorem PRel.t {v : Value} (h : PRel ρ v v') : TRel ρ v v' := .v (.s (.p h))
theorem SRel.one {v : Value} (h : SRel ρ v v') : v.oneCell' = true ∧ v'.oneCell' = true := by
  cases h with
  | p h => cases h <;> exact ⟨rfl, rfl⟩
  | nilf => exact ⟨rfl, rfl⟩
  | fn => exact ⟨rfl, rfl⟩
theorem SRel.cell1 {v : Value} (h : SRel ρ v v') : cellsOf v = [v] ∧ cellsOf v' = [v'] := by
  cases h with
  | p h => cases h <;> exact ⟨rfl, rfl⟩
  | nilf => exact ⟨rfl, rfl⟩
  | fn => exact ⟨rfl, rfl⟩
theorem VRel.cells {v : Value} (h : VRel ρ v v') : All2 (SRel ρ) (cellsOf v) (cellsOf v') := by
  cases h with
  | s h => rw [h.cell1.1, h.cell1.2]; exact .cons h .nil
  | agg cs cs' h => simpa [cellsOf] using h
end inv

/-- What '==' is asked of. -/
inductive Kd | int | bool | str | ptr | slice | map | func | agg (n : Nat)
  deriving DecidableEq

/-- Integers under an operator. -/
def dint (op : BinOp) (k : IntKind) (a : Int) (k' : IntKind) (b : Int) : Option Value :=
  match op with
  | .shl => if b < 0 then none else some (.int k (k.wrap (a * 2 ^ (min b.toNat k.bits))))
  | .shr => if b < 0 then none else some (.int k (a.fdiv (2 ^ (min b.toNat k.bits))))
  | .add => if k = k' then some (.int k (k.wrap (a + b))) else none
  | .sub => if k = k' then some (.int k (k.wrap (a - b))) else none
  | .mul => if k = k' then some (.int k (k.wrap (a * b))) else none
  | .quo => if k = k' then if b = 0 then none else some (.int k (k.wrap (a.tdiv b))) else none
  | .rem => if k = k' then if b = 0 then none else some (.int k (a.tmod b)) else none
  | .and => if k = k' then some (.int k (k.wrap (BitVec.ofInt k.bits a &&& BitVec.ofInt k.bits b).toNat)) else none
  | .or => if k = k' then some (.int k (k.wrap (BitVec.ofInt k.bits a ||| BitVec.ofInt k.bits b).toNat)) else none
  | .xor => if k = k' then some (.int k (k.wrap (BitVec.ofInt k.bits a ^^^ BitVec.ofInt k.bits b).toNat)) else none
  | .andNot => if k = k' then some (.int k (k.wrap (BitVec.ofInt k.bits a &&& ~~~ BitVec.ofInt k.bits b).toNat)) else none
  | .eql => if k = k' then some (.bool (a == b)) else none
  | .neq => if k = k' then some (.bool (a != b)) else none
  | .lss => if k = k' then some (.bool (decide (a < b))) else none
  | .leq => if k = k' then some (.bool (decide (a ≤ b))) else none
  | .gtr => if k = k' then some (.bool (decide (a > b))) else none
  | .geq => if k = k' then some (.bool (decide (a ≥ b))) else none

/-- Two numbers: the same? -/
def same0 : Value → Value → Option Bool
  | .int k a, .int k' b => if k = k' then some (a == b) else none
  | _, _ => none
def sameL : List Value → List Value → Option Bool
  | [], [] => some true
  | x :: xs, y :: ys => match same0 x y, sameL xs ys with
    | some b, some c => some (b && c)
    | _, _ => none
  | _, _ => none

/-- '==' -/
def deq : Kd → Value → Value → Option Bool
  | .bool, .bool a, .bool b => some (a == b)
  | .str, .string a, .string b => some (a == b)
  | .ptr, .pointer none, .pointer b => some b.isNone
  | .ptr, .pointer (some _), .pointer none => some false
  | .slice, .slice none _ _, .slice b _ _ => some b.isNone
  | .slice, .slice (some _) _ _, .slice none _ _ => some false
  | .map, .map none, .map b => some b.isNone
  | .map, .map (some _), .map none => some false
  | .func, .nilFunc, .nilFunc => some true
  | .func, .nilFunc, .func _ _ _ => some false
  | .func, .func _ _ _, .nilFunc => some false
  | .agg n, .agg xs, .agg ys => if xs.toList.length = n then sameL xs.toList ys.toList else none
  | _, _, _ => none

def dcmp (kd : Kd) (op : BinOp) (x y : Value) : Option Value :=
  match op with
  | .eql => (deq kd x y).map .bool
  | .neq => (deq kd x y).map fun b => .bool (!b)
  | _ => none

def dbin (kd : Kd) (op : BinOp) (x y : Value) : Option Value :=
  match x, y with
  | .int k a, .int k' b => dint op k a k' b
  | x, y => dcmp kd op x y

def dun (op : UnOp) (x : Value) : Option Value :=
  match op, x with
  | .neg, .int k n => some (.int k (k.wrap (0 - n)))
  | .xor, .int k n => some (.int k (k.wrap (BitVec.ofInt k.bits (if k.signed then -1 else k.max) ^^^ BitVec.ofInt k.bits n).toNat))
  | .not, .bool b => some (.bool (!b))
  | _, _ => none

theorem run_dint {P : Program} {op : BinOp} {t : TypeId} {k k' : IntKind} {a b : Int} {v : Value} (h : dint op k a k' b = some v) (w : World) :
    (binOp op t (.int k a) (.int k' b)).run P w = .ok v w := by
  cases op <;> simp only [dint] at h <;> (repeat' split at h) <;> first
    | (cases h; done)
    | (cases h; simp_all [binOp, Op.shift, Op.intArith, Op.intDiv, Op.intBits, Op.intCmp]; done)
    | (cases h; simp_all [binOp, Op.shift]; intro; omega)

theorem run_dun {P : Program} {op : UnOp} {x v : Value} (h : dun op x = some v) (w : World) : (Op.unary op x).run P w = .ok v w := by
  unfold dun at h
  split at h <;> cases h <;> simp [Op.unary, Op.intArith, Op.intBits]

theorem dint_flat {ρ : Ren} {op : BinOp} {k k' : IntKind} {a b : Int} {v : Value} (h : dint op k a k' b = some v) : TRel ρ v v := by
  cases op <;> simp only [dint] at h <;> (repeat' split at h) <;> first
    | (cases h; done)
    | (cases h; exact .v (.s (.p (by constructor))))
theorem dun_flat {ρ : Ren} {op : UnOp} {x v : Value} (h : dun op x = some v) : TRel ρ v v := by
  unfold dun at h
  split at h <;> cases h <;> exact .v (.s (.p (by constructor)))
end Go.Proofs.Ytckdmhjhjfmcdaa.Sx
