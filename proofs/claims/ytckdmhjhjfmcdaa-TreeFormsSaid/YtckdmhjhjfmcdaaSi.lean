/-
  Operations that write, and calls.
-/
import Derived.Test.YtckdmhjhjfmcdaaSh
namespace Go.Proofs.Ytckdmhjhjfmcdaa.Sx
set_option linter.unusedSimpArgs false
set_option linter.unusedVariables false
open Go
variable {P : Program} {ρ : Ren} {N : Nat} {E : Env} {A : AHeap} {a : Act} {w : World}

/-- What a call comes to, whatever the machine's memory around the abstract heap. -/
def dcall (P : Program) (f : FuncId) (args : List Value) (A : AHeap) (K : Value → AHeap → Prop) : Prop :=
  ∀ (ρ : Ren) (w : World) (args' : List Value), HRel ρ A w → All2 (TRel ρ) args args' → Calls P f args'.toArray w fun e w' =>
    ∃ v v' ρ' A', e = .returned v' ∧ K v A' ∧ TRel ρ' v v' ∧ HRel ρ' A' w' ∧ Step ρ A w ρ' A' w'

theorem dcall_mono {f : FuncId} {args : List Value} {K K' : Value → AHeap → Prop} (h : dcall P f args A K) (hk : ∀ v A', K v A' → K' v A') : dcall P f args A K' :=
  fun ρ w args' hr ha => (h ρ w args' hr ha).mono fun _ _ ⟨v, v', ρ', A', h1, h2, h3⟩ => ⟨v, v', ρ', A', h1, hk _ _ h2, h3⟩

inductive HOp
  | store (n : Nat) (x v : Operand)
  | call (f : FuncId) (args : List Operand)
  | callv (x : Operand) (args : List Operand)
  | append (s bytes : Nat) (x y : Operand)
  | copy (s : Nat) (x y : Operand)

/-- Does a call of this function run its text? -/
def okFn (P : Program) (f : FuncId) : Bool :=
  match P.funcs[f]? with
  | some fn => fn.body.isSome && fn.name != "runtime.NumGoroutine"
  | none => false

/-- The elements of a slice, as cells. -/
def sliceCells (A : AHeap) (s : Nat) (v : Value) : Option (Nat × List Value) :=
  match v with
  | .slice none 0 0 => some (0, [])
  | .slice (some b) l s' => if l = 0 then some (0, []) else match A.get b.block with
    | some (.cells _ cs) => if s' = s ∧ b.off + l * s ≤ cs.length then some (l, (cs.drop b.off).take (l * s)) else none
    | _ => none
  | _ => none

def dheavy (P : Program) (d : HOp) (E : Env) (A : AHeap) (K : Value → AHeap → Prop) : Prop :=
  match d with
  | .store n x v => match E.eval x, E.eval v with
    | some (.pointer (some b)), some u => match A.get b.block with
      | some (.cells false cs) => (cellsOf u).length = n ∧ noTup u = true ∧ b.off + n ≤ cs.length ∧ K (.tuple #[]) (A.set b.block (.cells false (putCells cs b.off (cellsOf u))))
      | _ => False
    | _, _ => False
  | .call f args => match evalL E args with
    | some vs => dcall P f vs A K
    | none => False
  | .callv x args => match E.eval x, evalL E args with
    | some (.func (.func f) _ caps), some vs => okFn P f = true ∧ dcall P f (vs ++ caps.toList) A K
    | _, _ => False
  | .append s bytes x y => match E.eval x, E.eval y with
    | some vx, some vy => match sliceCells A s vy with
      | some (ly, ys) => match vx with
        | .slice none 0 0 => if ly = 0 then K (.slice none 0 0) A else ly * bytes ≤ 140737488355328 ∧ K (.slice (some ⟨A.next, 0, none⟩) ly s) (A.alloc (.cells false ys))
        | .slice (some b) lx s' => if ly = 0 then K vx A else match A.get b.block with
          | some (.cells ro cs) => if b.spot = some 0 then
              s' = s ∧ b.off + lx * s ≤ cs.length ∧ (lx + ly) * bytes ≤ 140737488355328 ∧ K (.slice (some ⟨A.next, 0, none⟩) (lx + ly) s) (A.alloc (.cells false ((cs.drop b.off).take (lx * s) ++ ys)))
            else s' = s ∧ ro = false ∧ b.off + lx * s = cs.length ∧ (lx + ly) * bytes ≤ 140737488355328 ∧ K (.slice (some ⟨A.next, 0, none⟩) (lx + ly) s) ((A.del b.block).alloc (.cells false (cs.drop b.off ++ ys)))
          | _ => False
        | _ => False
      | none => False
    | _, _ => False
  | .copy s x y => match E.eval x, E.eval y with
    | some vx, some vy => match sliceCells A s vy with
      | some (ly, ys) => match vx with
        | .slice none 0 0 => K (.int .i64 0) A
        | .slice (some b) lx s' => match A.get b.block with
          | some (.cells false cs) => s' = s ∧ b.off + (min ly lx) * s ≤ cs.length ∧ K (.int .i64 ((min ly lx : Nat) : Int)) (A.set b.block (.cells false (putCells cs b.off (ys.take ((min ly lx) * s)))))
          | _ => False
        | _ => False
      | none => False
    | _, _ => False

def compH (P : Program) (o : Op) : Option HOp :=
  match o with
  | .store t x v => (P.info? t).map fun ti => .store ti.size x v
  | .call { callee := .value (.func f), args, .. } => if okFn P f then some (.call f args.toList) else none
  | .call { callee := .value (.tmp t), args, .. } => some (.callv (.tmp t) args.toList)
  | .call { callee := .builtin b, args, argTypes } => match b, args.toList with
    | .append, [x, y] => match (argTypes[0]?).bind P.underlying, (argTypes[1]?).bind P.underlying with
      | some (.slice e), some (.slice _) => match P.info? e, zeroL P e with
        | some ti, some zs => if 0 < ti.size ∧ zs.length = ti.size ∧ 0 < ti.bytes then some (.append ti.size ti.bytes x y) else none
        | _, _ => none
      | _, _ => none
    | .copy, [x, y] => match (argTypes[0]?).bind P.underlying with
      | some (.slice e) => match P.info? e with
        | some ti => if 0 < ti.size then some (.copy ti.size x y) else none
        | none => none
      | _ => none
    | _, _ => none
  | _ => none

/-- A world in which one block's cells alone have turned. -/
structure Turned (w w' : World) (b : Nat) (C' : Array Value) (t : TypeId) (fr : Nat × Nat) : Prop where
  blk : w'.heap[b]? = some (.cells C' t fr)
  other : ∀ i, i ≠ b → w'.heap[i]? = w.heap[i]?
  size : w'.heap.size = w.heap.size
  os : w'.os = w.os
  output : w'.output = w.output
  tape : w'.tape = w.tape

theorem run_storeCells_blk {b o : Nat} {t : TypeId} {fr : Nat × Nat} : ∀ (vs : List Value) (i : Nat) (C : Array Value) (w : World), w.heap[b]? = some (.cells C t fr) → o + i + vs.length ≤ C.size → (∀ j, j < vs.length → ¬ (fr.1 ≤ o + i + j ∧ o + i + j < fr.2)) →
    (∀ v ∈ vs, v.oneCell' = true) → ∃ w', (storeCells ⟨b, o, none⟩ vs i).run P w = .ok () w' ∧ ∃ C', C'.toList = putCells C.toList (o + i) vs ∧ Turned w w' b C' t fr
  | [], i, C, w, h, _, _, _ => ⟨w, rfl, C, rfl, ⟨h, fun _ _ => rfl, rfl, rfl, rfl, rfl⟩⟩
  | v :: r, i, C, w, h, hl, hf, h1 => by
    have hadd : (⟨b, o, none⟩ : Addr).add i = ⟨b, o + i, none⟩ := by unfold Addr.add; split <;> simp_all
    have hlt : b < w.heap.size := by
      rcases Nat.lt_or_ge b w.heap.size with hh | hh
      · exact hh
      · simp [Array.getElem?_eq_none hh] at h
    simp only [List.length_cons] at hl
    have hi : o + i < C.size := by omega
    have hc : w.cell? ⟨b, o + i, none⟩ = some C[o + i] := by simp [World.cell?, h, hi]
    have hz : w.frozen? ⟨b, o + i, none⟩ = false := by
      have := hf 0 (by simp)
      simp only [Nat.add_zero] at this
      simp only [World.frozen?, h]
      simpa using this
    have hst : (store ((⟨b, o, none⟩ : Addr).add i) v).run P w = .ok () (w.setCell ⟨b, o + i, none⟩ v) := by
      rw [hadd, run_store P w _ v _ (h1 v (by simp)), hc]
      simp [hz]
    have hb : (w.setCell ⟨b, o + i, none⟩ v).heap[b]? = some (.cells (C.setIfInBounds (o + i) v) t fr) := by
      simp [World.setCell, Array.getElem?_modify, h]
    have ho : ∀ j, j ≠ b → (w.setCell ⟨b, o + i, none⟩ v).heap[j]? = w.heap[j]? := by
      intro j hj
      simp only [World.setCell, Array.getElem?_modify]
      rw [if_neg (by omega)]
    obtain ⟨w', h2, C', h3, h4⟩ := run_storeCells_blk (b := b) (o := o) (t := t) (fr := fr) r (i + 1) (C.setIfInBounds (o + i) v) (w.setCell ⟨b, o + i, none⟩ v) hb (by simp; omega)
      (fun j hj => by have := hf (j + 1) (by simp; omega); rwa [show o + i + (j + 1) = o + (i + 1) + j by omega] at this) (fun u hu => h1 u (by simp [hu]))
    refine ⟨w', ?_, C', ?_, ⟨h4.blk, fun j hj => (h4.other j hj).trans (ho j hj), h4.size.trans (by simp [World.setCell]), h4.os, h4.output, h4.tape⟩⟩
    · simp only [storeCells, Sem.run_bind, hst, Result.andThen_ok]; exact h2
    · rw [h3]; simp [putCells, Nat.add_assoc]

theorem putCells_get (vs : List Value) : ∀ (cs : List Value) (o k : Nat), o + vs.length ≤ cs.length → (putCells cs o vs)[k]? = if o ≤ k ∧ k < o + vs.length then vs[k - o]? else cs[k]? := by
  induction vs with
  | nil => intro cs o k _; simp [putCells]; intro h1 h2; omega
  | cons v r ih =>
    intro cs o k h
    simp only [List.length_cons] at h
    simp only [putCells]
    rw [ih _ _ _ (by simp; omega)]
    by_cases h1 : o + 1 ≤ k ∧ k < o + 1 + r.length
    · rw [if_pos h1, if_pos (by simp; omega)]
      rw [show k - o = (k - (o + 1)) + 1 by omega, List.getElem?_cons_succ]
    · rw [if_neg h1]
      by_cases h2 : k = o
      · subst h2
        rw [if_pos (by simp), Nat.sub_self, List.getElem?_cons_zero, List.getElem?_set_self (by omega)]
      · rw [if_neg (by simp; omega), List.getElem?_set_ne (Ne.symm h2)]

/-- The cells of a handle written to. -/
theorem cellsAt_put {b : Base} {cs : List Value} {C C' : Array Value} {t : TypeId} {fr : Nat × Nat} {w' : World} (h1 : w.heap[b.blk]? = some (.cells C t fr)) (hc : CellsAt ρ b false cs w) {o : Nat} {vs vs' : List Value} (hv : All2 (SRel ρ) vs vs')
    (hl : o + vs.length ≤ cs.length) (hC : C'.toList = putCells C.toList (b.off + o) vs') (ht : w'.heap[b.blk]? = some (.cells C' t fr)) : CellsAt ρ b false (putCells cs o vs) w' := by
  obtain ⟨C0, t0, fr0, h0, h2, h3, h4, h5⟩ := hc
  rw [h1] at h0; cases h0
  have hsz : C'.size = C.size := by
    have : C'.toList.length = C.toList.length := by rw [hC, putCells_length]
    simpa using this
  have hlen := hv.length
  refine ⟨C', t, fr, ht, by omega, by rw [putCells_length]; exact h3, fun k v hk => ?_, h5⟩
  rw [putCells_get _ _ _ _ hl] at hk
  have hk' : C'[b.off + k]? = if b.off + o ≤ b.off + k ∧ b.off + k < b.off + o + vs'.length then vs'[b.off + k - (b.off + o)]? else C[b.off + k]? := by
    have := putCells_get vs' C.toList (b.off + o) (b.off + k) (by simp; omega)
    rw [← hC] at this
    simpa using this
  rw [hk']
  by_cases hin : o ≤ k ∧ k < o + vs.length
  · rw [if_pos hin] at hk
    rw [if_pos (by omega), show b.off + k - (b.off + o) = k - o by omega]
    exact hv.get hk
  · rw [if_neg hin] at hk
    rw [if_neg (by omega)]
    exact h4 k v hk

/-- A store into a handle's cells. -/
theorem HRel.write (hr : HRel ρ A w) {h : Nat} {cs : List Value} (hg : A.get h = some (.cells false cs)) {o : Nat} {vs vs' : List Value} (hv : All2 (SRel ρ) vs vs') (hl : o + vs.length ≤ cs.length) :
    ∃ w', (storeCells (ρ.addr h o) vs').run P w = .ok () w' ∧ HRel ρ (A.set h (.cells false (putCells cs o vs))) w' ∧ Step ρ A w ρ (A.set h (.cells false (putCells cs o vs))) w' := by
  have hc := hr.cells h false cs hg
  obtain ⟨C, t, fr, h1, h2, h3, h4, h5⟩ := id hc
  have hlen := hv.length
  have hone : ∀ v ∈ vs', v.oneCell' = true := by
    intro v hv'
    obtain ⟨k, hk⟩ := List.mem_iff_getElem?.1 hv'
    obtain ⟨u, _, hu⟩ := hv.get' hk
    exact hu.one.2
  obtain ⟨w', r1, C', r2, r3⟩ := run_storeCells_blk (P := P) (b := (ρ h).blk) (o := (ρ h).off + o) vs' 0 C w h1 (by omega) (fun j hj => by
    have := h5 rfl (o + j) (by omega)
    rwa [show (ρ h).off + o + 0 + j = (ρ h).off + (o + j) by omega]) hone
  have hlt := A.lt hg
  have hget : ∀ i, (A.set h (.cells false (putCells cs o vs))).get i = if i = h then some (.cells false (putCells cs o vs)) else A.get i := by
    intro i; simp [AHeap.set, hlt]
  refine ⟨w', r1, HRel.of_obj (fun i hi => hr.fresh i hi) ?_ ?_ ?_, ?_⟩
  · intro i o' hi
    rw [hget] at hi
    split at hi
    · rename_i e; subst e; exact hr.ok _ _ hg
    · exact hr.ok _ _ hi
  · intro i o' hi
    rw [hget] at hi
    split at hi
    · rename_i e; subst e; cases hi
      exact cellsAt_put h1 hc hv hl r2 r3.blk
    · rename_i e
      have := hr.obj hi
      exact this.mono (Agree.refl ρ) (r3.other _ (hr.apart' e hi hg (.inr rfl)))
  · intro i j oi oj hij hi hj hw
    rw [hget] at hi hj
    have hi' : ∃ o, A.get i = some o ∧ o.writes = true := by
      split at hi
      · rename_i e; subst e; exact ⟨_, hg, rfl⟩
      · exact ⟨_, hi, hw⟩
    have hj' : ∃ o, A.get j = some o := by
      split at hj
      · rename_i e; subst e; exact ⟨_, hg⟩
      · exact ⟨_, hj⟩
    obtain ⟨o1, h1', h2'⟩ := hi'
    obtain ⟨o2, h3'⟩ := hj'
    exact hr.apart i j o1 o2 hij h1' h3' h2'
  · refine ⟨by rw [r3.size]; exact Nat.le_refl _, Nat.le_refl _, fun _ _ => rfl, fun b hb hn => r3.other b (fun e => hn ⟨h, _, hg, rfl, e.symm⟩), fun b hb => ?_, fun b hb => ?_, r3.os, r3.output, r3.tape⟩
    · obtain ⟨i, oi, hi, hw, hbi⟩ := hb
      rw [hget] at hi
      split at hi
      · rename_i e; subst e; exact .inl ⟨_, _, hg, rfl, hbi⟩
      · exact .inl ⟨i, oi, hi, hw, hbi⟩
    · obtain ⟨i, oi, hi, hbi⟩ := hb
      rw [hget] at hi
      split at hi
      · rename_i e; subst e; exact .inl ⟨_, _, hg, hbi⟩
      · exact .inl ⟨i, oi, hi, hbi⟩

/-- What the operation's end owes: whatever came of it, the rest goes on. -/
def Onward (ρ : Ren) (A : AHeap) (w : World) (a : Act) (dst : Option Tmp) (K : Value → AHeap → Prop) (next : Act → World → Prop) : Prop :=
  ∀ v v' ρ' A' w', K v A' → TRel ρ' v v' → HRel ρ' A' w' → Step ρ A w ρ' A' w' → next (a.put dst v') w'

theorem wp_value {o : Oper} {v' : Value} {w' : World} (h : (execOp a.eval o).run P w = .ok (.value v') w') {next : Act → World → Prop} {Q : Exit → Act → World → Prop} (hn : next (a.put o.dst v') w') : o.wp P a w next Q := by
  simp only [Oper.wp, h, Oper.upon]; exact hn
theorem wp_skip' {o : Oper} {w' : World} (h : (execOp a.eval o).run P w = .ok .skip w') {next : Act → World → Prop} {Q : Exit → Act → World → Prop} (hn : next (a.put o.dst (.tuple #[])) w') : o.wp P a w next Q := by
  simp only [Oper.wp, h, Oper.upon]; exact hn
theorem unit_rel : TRel ρ (.tuple #[]) (.tuple #[]) := TRel.tup [] [] .nil

theorem run_callFunc {f : FuncId} (hf : okFn P f = true) (args : Array Value) (w : World) : (callFunc f args).run P w = .ok (.enter f args) w := by
  unfold okFn at hf
  split at hf
  · rename_i fn hfn
    simp only [Bool.and_eq_true, bne_iff_ne, ne_eq] at hf
    have h2 : (fn.name == "runtime.NumGoroutine") = false := by simpa using hf.2
    have h3 : fn.body.isNone = false := by simp [hf.1]
    simp only [callFunc, Sem.run_bind, run_program, Result.andThen_ok, hfn, h2, h3, Bool.false_eq_true, if_false, Sem.run_pure]
  · cases hf

theorem wp_enter {o : Oper} {f : FuncId} {args : List Value} {args' : List Value} {K : Value → AHeap → Prop} (hrun : (execOp a.eval o).run P w = .ok (.enter f args'.toArray) w) (hd : dcall P f args A K) (hr : HRel ρ A w) (ha : All2 (TRel ρ) args args')
    {next : Act → World → Prop} {Q : Exit → Act → World → Prop} (hn : Onward ρ A w a o.dst K next) : o.wp P a w next Q := by
  simp only [Oper.wp, hrun, Oper.upon]
  refine (hd ρ w args' hr ha).mono ?_
  rintro e w' ⟨v, v', ρ', A', rfl, h2, h3, h4, h5⟩
  exact hn v v' ρ' A' w' h2 h3 h4 h5

/-- The cells of a slice, read in the machine. -/
theorem sliceCells_run (hr : HRel ρ A w) {s : Nat} {v v' : Value} (hv : TRel ρ v v') {l : Nat} {cs : List Value} (hc : sliceCells A s v = some (l, cs)) :
    (∃ q c, v' = .slice q l c) ∧ cs.length = l * s ∧ ∃ cs' : List Value, All2 (SRel ρ) cs cs' ∧ ∀ m, m ≤ l → ∀ w0 : World, w0.heap = w.heap → (Builtin.firstCells s m v').run P w0 = .ok (cs'.take (m * s)).toArray w0 := by
  unfold sliceCells at hc
  split at hc
  · cases hc
    obtain ⟨rfl, _, _⟩ := slice_inv0 hv
    exact ⟨⟨_, _, rfl⟩, by simp, [], .nil, fun m hm w0 _ => by simp [Builtin.firstCells]⟩
  · rename_i b l' s'
    obtain ⟨b', c, rfl, hlc, hok, hpos, _, _, _⟩ := slice_inv hv
    split at hc
    · rename_i hl0
      cases hc
      subst hl0
      refine ⟨⟨_, _, rfl⟩, by simp, [], .nil, fun m hm w0 _ => ?_⟩
      obtain rfl : m = 0 := by omega
      simp [Builtin.firstCells, loadCells, loadCellsFrom]
    · rename_i hl0
      split at hc
      · rename_i ro cs0 hg
        split at hc
        · rename_i hb
          cases hc
          obtain ⟨rfl, hb⟩ := hb
          obtain ⟨rfl, _, _⟩ := hpos (by omega)
          have hcell := hr.cells _ _ _ hg
          refine ⟨⟨_, _, rfl⟩, by simp; omega, ?_⟩
          obtain ⟨xs, h4, h5, h6⟩ := cells_list hcell b.off (l * s') hb
          refine ⟨xs, h5, fun m hm w0 hw0 => ?_⟩
          have hms : m * s' ≤ l * s' := Nat.mul_le_mul_right _ hm
          have := run_loadCells_list (P := P) w0 (ρ.addr b.block b.off) (xs.take (m * s')) (fun j v hv => by
            rw [List.getElem?_take] at hv
            split at hv
            · have := h6 j v hv
              simpa [World.cell?, hw0] using this
            · cases hv)
          rw [show (xs.take (m * s')).length = m * s' by simp; omega] at this
          simpa [Builtin.firstCells] using this
        · cases hc
      · cases hc
  · cases hc
end Go.Proofs.Ytckdmhjhjfmcdaa.Sx
