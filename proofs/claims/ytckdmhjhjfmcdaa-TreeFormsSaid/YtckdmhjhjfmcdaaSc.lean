/-
  Operations that only read, on the abstract state, and that the machine gives the same.
-/
import Derived.Test.YtckdmhjhjfmcdaaSb
namespace Go.Proofs.Ytckdmhjhjfmcdaa.Sx
set_option linter.unusedSimpArgs false
set_option linter.unusedVariables false
open Go

inductive LOp
  | mov (x : Operand)
  | pick (c a b : Operand)
  | build (zs : List Value) (parts : List (Nat × Nat × Operand))
  | load (ag : Option Nat) (x : Operand)
  | nilchk (x : Operand)
  | bin (kd : Kd) (op : BinOp) (x y : Operand)
  | un (op : UnOp) (x : Operand)
  | conv (k : IntKind) (x : Operand)
  | fieldAddr (off : Nat) (x : Operand)
  | field (off : Nat) (ag : Option Nat) (x : Operand)
  | idxArr (len s : Nat) (x i : Operand)
  | idxSl (s : Nat) (x i : Operand)
  | indexA (len s : Nat) (ag : Option Nat) (x i : Operand)
  | indexS (x i : Operand)
  | slcS (s : Nat) (x : Operand) (lo hi : Option Operand)
  | slc3 (s : Nat) (x : Operand) (lo : Option Operand) (hi mx : Operand)
  | slcA (n s : Nat) (x : Operand) (lo hi : Option Operand)
  | mkfunc (f : Fn) (caps : List Operand)
  | extract (x : Operand) (i : Nat)
  | slcStr (x : Operand) (lo hi : Option Operand)
  | lenS (x : Operand)
  | lenStr (x : Operand)
  | lenC (n : Nat)
  | lenM (x : Operand)
  | minmax (mx : Bool) (x : Operand) (rest : List Operand)

def putCells (cs : List Value) (o : Nat) : List Value → List Value
  | [] => cs
  | v :: r => putCells (cs.set o v) (o + 1) r
theorem putCells_length (vs : List Value) : ∀ (cs : List Value) (o : Nat), (putCells cs o vs).length = cs.length := by
  induction vs with
  | nil => intro cs o; rfl
  | cons v r ih => intro cs o; simp [putCells, ih]

def fillL (zs : List Value) : List (Nat × Nat × Value) → Option (List Value)
  | [] => some zs
  | (off, size, v) :: r => if (cellsOf v).length = size ∧ off + size ≤ zs.length then fillL (putCells zs off (cellsOf v)) r else none

def evalParts (E : Env) : List (Nat × Nat × Operand) → Option (List (Nat × Nat × Value))
  | [] => some []
  | (off, size, x) :: r => match E.eval x with
    | some v => match evalParts E r with
      | some vs => some ((off, size, v) :: vs)
      | none => none
    | none => none

def evalL (E : Env) : List Operand → Option (List Value)
  | [] => some []
  | x :: r => match E.eval x with
    | some v => match evalL E r with
      | some vs => some (v :: vs)
      | none => none
    | none => none

def partV (ag : Option Nat) (cs : List Value) (off : Nat) : Option Value :=
  match ag with
  | none => cs[off]?
  | some n => some (.agg ((cs.drop off).take n).toArray)

def loadV (ag : Option Nat) (cs : List Value) (o : Nat) : Option Value :=
  match ag with
  | none => cs[o]?
  | some n => if o + n ≤ cs.length then some (.agg ((cs.drop o).take n).toArray) else none

/-- A bound of a slice expression. -/
def bnd (E : Env) (d : Nat) : Option Operand → Option Int
  | none => some d
  | some x => match E.eval x with
    | some (.int _ i) => some i
    | _ => none

/-- A tuple is filled into nothing. -/
def noTup : Value → Bool
  | .tuple _ => false
  | _ => true

def scalarB : Value → Bool
  | .agg _ | .tuple _ | .func .. | .nilFunc => false
  | _ => true

def dlight (d : LOp) (E : Env) (A : AHeap) : Option Value :=
  match d with
  | .mov x => E.eval x
  | .pick c a b => match E.eval c with
    | some (.bool t) => if t then E.eval a else E.eval b
    | _ => none
  | .build zs parts => match evalParts E parts with
    | some vs => if vs.all (fun x => noTup x.2.2) then match fillL zs vs with
        | some cs => some (.agg cs.toArray)
        | none => none
      else none
    | none => none
  | .load ag x => match E.eval x with
    | some (.pointer (some a)) => match A.get a.block with
      | some (.cells _ cs) => loadV ag cs a.off
      | _ => none
    | _ => none
  | .nilchk x => match E.eval x with
    | some (.pointer (some a)) => some (.pointer (some a))
    | _ => none
  | .bin kd op x y => match E.eval x, E.eval y with
    | some u, some v => dbin kd op u v
    | _, _ => none
  | .un op x => match E.eval x with
    | some v => dun op v
    | none => none
  | .conv k x => match E.eval x with
    | some (.int _ i) => some (.int k (k.wrap i))
    | _ => none
  | .fieldAddr off x => match E.eval x with
    | some (.pointer (some a)) => some (.pointer (some ⟨a.block, a.off + off, none⟩))
    | _ => none
  | .field off ag x => match E.eval x with
    | some (.agg cs) => partV ag cs.toList off
    | _ => none
  | .idxArr len s x i => match E.eval x, E.eval i with
    | some (.pointer (some a)), some (.int _ i) => if 0 ≤ i ∧ i < len then some (.pointer (some ⟨a.block, a.off + i.toNat * s, none⟩)) else none
    | _, _ => none
  | .idxSl s x i => match E.eval x, E.eval i with
    | some (.slice (some a) l s'), some (.int _ i) => if s' = s ∧ 0 ≤ i ∧ i < l then some (.pointer (some ⟨a.block, a.off + i.toNat * s, none⟩)) else none
    | _, _ => none
  | .indexA len s ag x i => match E.eval x, E.eval i with
    | some (.agg cs), some (.int _ i) => if 0 ≤ i ∧ i < len then partV ag cs.toList (i.toNat * s) else none
    | _, _ => none
  | .indexS x i => match E.eval x, E.eval i with
    | some (.string b), some (.int _ i) => if 0 ≤ i then match b[i.toNat]? with
        | some c => some (.int .u8 c.toNat)
        | none => none
      else none
    | _, _ => none
  | .slcS s x lo hi => match E.eval x with
    | some (.slice none 0 0) => match bnd E 0 lo, bnd E 0 hi with
      | some l, some h => if l = 0 ∧ h = 0 then some (.slice none 0 0) else none
      | _, _ => none
    | some (.slice (some a) n s') => match bnd E 0 lo, bnd E n hi with
      | some l, some h => if s' = s ∧ 0 ≤ l ∧ l ≤ h ∧ h ≤ n then some (.slice (some ⟨a.block, a.off + l.toNat * s, none⟩) (h - l).toNat s) else none
      | _, _ => none
    | _ => none
  | .slcStr x lo hi => match E.eval x with
    | some (.string b) => match bnd E 0 lo, bnd E b.size hi with
      | some l, some h => if 0 ≤ l ∧ l ≤ h ∧ h ≤ b.size then some (.string (b.extract l.toNat h.toNat)) else none
      | _, _ => none
    | _ => none
  | .slc3 s x lo hi mx => match E.eval x with
    | some (.slice none 0 0) => match bnd E 0 lo, bnd E 0 (some hi), bnd E 0 (some mx) with
      | some l, some h, some m => if l = 0 ∧ h = 0 ∧ m = 0 then some (.slice none 0 0) else none
      | _, _, _ => none
    | some (.slice (some a) n s') => match bnd E 0 lo, bnd E n (some hi), bnd E n (some mx) with
      | some l, some h, some m => if s' = s ∧ 0 ≤ l ∧ l ≤ h ∧ h = m ∧ h ≤ n then some (.slice (some ⟨a.block, a.off + l.toNat * s, some 0⟩) (h - l).toNat s) else none
      | _, _, _ => none
    | _ => none
  | .slcA n s x lo hi => match E.eval x with
    | some (.pointer (some a)) => match A.get a.block with
      | some (.cells _ cs) => match bnd E 0 lo, bnd E n hi with
        | some l, some h => if 0 < s ∧ a.off + n * s ≤ cs.length ∧ 0 ≤ l ∧ l ≤ h ∧ h ≤ n then some (.slice (some ⟨a.block, a.off + l.toNat * s, none⟩) (h - l).toNat s) else none
        | _, _ => none
      | _ => none
    | _ => none
  | .mkfunc f caps => match evalL E caps with
    | some vs => if vs.all scalarB then some (.func f #[] vs.toArray) else none
    | none => none
  | .extract x i => match E.eval x with
    | some (.tuple vs) => vs[i]?
    | _ => none
  | .lenS x => match E.eval x with
    | some (.slice _ l _) => some (.int .i64 l)
    | _ => none
  | .lenStr x => match E.eval x with
    | some (.string b) => some (.int .i64 b.size)
    | _ => none
  | .lenC n => some (.int .i64 n)
  | .lenM x => match E.eval x with
    | some (.map none) => some (.int .i64 0)
    | some (.map (some h)) => match A.get h with
      | some (.map es) => some (.int .i64 es.length)
      | _ => none
    | _ => none
  | .minmax mx x rest => match E.eval x, evalL E rest with
    | some (.int k i), some vs => vs.foldlM (m := Option) (fun acc v => match acc, v with
        | .int k x, .int _ y => some (.int k (if mx then (if y > x then y else x) else (if y < x then y else x)))
        | _, _ => none) (.int k i)
    | _, _ => none

/-! What an operation of the program is. -/
def aggSz (P : Program) (t : TypeId) : Option (Option Nat) :=
  match P.underlying t, P.info? t with
  | some (.struct _), some i => some (some i.size)
  | some (.array _ _), some i => some (some i.size)
  | some _, some i => if i.size = 1 then some none else none
  | _, _ => none

/-- The fields lie one behind the other, from 'off' on, each of a type of which 'f' holds; where they end. -/
def flatFs (P : Program) (f : TypeId → Bool) : List Field → Nat → Option Nat
  | [], off => some off
  | x :: xs, off => if x.name ≠ "_" ∧ x.offset = off ∧ f x.type = true then flatFs P f xs (off + P.cellsOf x.type) else none
/-- A type whose values are whole numbers, however deep. -/
def flatTy (P : Program) : Nat → TypeId → Bool
  | 0, _ => false
  | d + 1, t => match P.underlying t with
    | some (.int _) => P.cellsOf t == 1
    | some (.struct fs) => !P.stoodInHeld t && flatFs P (flatTy P d) fs.toList 0 == some (P.cellsOf t)
    | some (.array n e) => flatTy P d e && P.cellsOf t == n * P.cellsOf e
    | _ => false

def kdOf (P : Program) (t : TypeId) (op : BinOp) : Option Kd :=
  match op with
  | .eql | .neq => match P.underlying t with
    | some (.int _) => some .int
    | some .bool => some .bool
    | some .string => some .str
    | some (.pointer _) => some .ptr
    | some (.slice _) => some .slice
    | some (.map _ _) => some .map
    | some (.func _ _ _) => some .func
    | some (.struct _) | some (.array _ _) => if flatTy P 8 t && !P.eqGuardType P.depth t then some (.agg (P.cellsOf t)) else none
    | _ => none
  | _ => some .int

def zeroL (P : Program) (t : TypeId) : Option (List Value) :=
  match (P.info? t).bind (·.zero) with
  | some z => if (cellsOf z).all closedS then some (cellsOf z) else none
  | none => none

def partsOf (P : Program) (fs : Array Field) : List (Nat × Operand) → Option (List (Nat × Nat × Operand))
  | [] => some []
  | (i, x) :: r => match fs[i]? with
    | some f => match P.info? f.type, partsOf P fs r with
      | some ti, some ps => some ((f.offset, ti.size, x) :: ps)
      | _, _ => none
    | none => none

def compL (P : Program) (o : Op) : Option LOp :=
  match o with
  | .move x | .assign x => some (.mov x)
  | .pick c a b => some (.pick c a b)
  | .load t x => (aggSz P t).map (.load · x)
  | .nilCheck x => some (.nilchk x)
  | .binOp op t x y _ => (kdOf P t op).map (.bin · op x y)
  | .unOp op _ x => some (.un op x)
  | .convert src dst x => match P.underlying src, P.underlying dst with
    | some (.int _), some (.int k) => some (.conv k x)
    | _, _ => none
  | .fieldAddr s x f => match P.underlying s with
    | some (.struct fs) => match fs[f]? with
      | some fd => match P.info? fd.type with
        | some i => if i.size = 0 then none else some (.fieldAddr fd.offset x)
        | none => none
      | none => none
    | _ => none
  | .field t x f => match P.underlying t with
    | some (.struct fs) => match fs[f]? with
      | some fd => (aggSz P fd.type).map (.field fd.offset · x)
      | none => none
    | _ => none
  | .indexAddr t x i => match P.underlying t with
    | some (.array len e) => (P.info? e).map fun ti => .idxArr len ti.size x i
    | some (.slice e) => (P.info? e).map fun ti => .idxSl ti.size x i
    | _ => none
  | .index t x i => match P.underlying t with
    | some (.array len e) => match P.info? e, aggSz P e with
      | some ti, some ag => some (.indexA len ti.size ag x i)
      | _, _ => none
    | some .string => some (.indexS x i)
    | _ => none
  | .slice t x lo hi mx => match P.underlying t with
    | some (.slice e) => match P.info? e with
      | some ti => if ti.size = 0 then none else match mx with
        | none => some (.slcS ti.size x lo hi)
        | some m => match hi with
          | some h => some (.slc3 ti.size x lo h m)
          | none => none
      | none => none
    | some (.array n e) => match P.info? e, mx with
      | some ti, none => some (.slcA n ti.size x lo hi)
      | _, _ => none
    | some .string => match mx with
      | none => some (.slcStr x lo hi)
      | some _ => none
    | _ => none
  | .makeFunc f first caps => if first.size = 0 then some (.mkfunc f caps.toList) else none
  | .extract x i => some (.extract x i)
  | .build t parts => match P.underlying t, zeroL P t with
    | some (.struct fs), some zs => if fs.all (fun f => (P.info? f.type).isSome) then (partsOf P fs parts.toList).map (.build zs ·) else none
    | some (.array _ e), some zs => (P.info? e).map fun ti => .build zs (parts.toList.map fun p => (p.1 * ti.size, ti.size, p.2))
    | _, _ => none
  | .call { callee := .builtin b, args, argTypes } => match b, args.toList with
    | .len, [x] => match (argTypes[0]?).bind P.underlying with
      | some (.slice _) => some (.lenS x)
      | some .string => some (.lenStr x)
      | some (.array n _) => some (.lenC n)
      | some (.map _ _) => some (.lenM x)
      | _ => none
    | .max, x :: rest => some (.minmax true x rest)
    | .min, x :: rest => some (.minmax false x rest)
    | _, _ => none
  | _ => none
end Go.Proofs.Ytckdmhjhjfmcdaa.Sx
