/-
  Operations that make memory.
-/
import Derived.Test.YtckdmhjhjfmcdaaSg
namespace Go.Proofs.Ytckdmhjhjfmcdaa.Sx
set_option linter.unusedSimpArgs false
set_option linter.unusedVariables false
open Go
variable {P : Program} {ρ : Ren} {N : Nat} {E : Env} {A : AHeap} {a : Act} {w : World}

theorem wrap64_id {x : Int} (h0 : -9223372036854775808 ≤ x) (h1 : x ≤ 9223372036854775807) : IntKind.i64.wrap x = x := by
  simp [IntKind.wrap, IntKind.bits, IntKind.signed]
  split <;> omega

def Ren.at (ρ : Ren) (h : Nat) (b : Base) : Ren := fun i => if i = h then b else ρ i
theorem Ren.at_same (ρ : Ren) (h : Nat) (b : Base) : ρ.at h b h = b := by simp [Ren.at]
theorem Ren.at_ne (ρ : Ren) {h i : Nat} (b : Base) (hi : i ≠ h) : ρ.at h b i = ρ i := by simp [Ren.at, hi]
theorem Agree.at {h : Nat} (hn : (ρ h).ok = false) (b : Base) : Agree ρ (ρ.at h b) := fun i hi => Ren.at_ne ρ b (fun e => by rw [e, hn] at hi; cases hi)
theorem Agree.trans {ρ' ρ'' : Ren} (h : Agree ρ ρ') (k : Agree ρ' ρ'') : Agree ρ ρ'' := fun i hi => (k i (by rw [h i hi]; exact hi)).trans (h i hi)
theorem Agree.refl (ρ : Ren) : Agree ρ ρ := fun _ _ => rfl

def ObjAt (ρ : Ren) (b : Base) (o : AObj) (w : World) : Prop :=
  match o with
  | .cells ro cs => CellsAt ρ b ro cs w
  | .map es => MapAt ρ b es w
theorem ObjAt.mono {ρ ρ' : Ren} {b : Base} {o : AObj} {w w' : World} (ha : Agree ρ ρ') (hb : w'.heap[b.blk]? = w.heap[b.blk]?) (h : ObjAt ρ b o w) : ObjAt ρ' b o w' := by
  cases o with
  | cells => exact CellsAt.mono ha hb h
  | map => exact MapAt.mono ha hb h
theorem ObjAt.lt {b : Base} {o : AObj} (h : ObjAt ρ b o w) : b.blk < w.heap.size := by
  cases o with
  | cells => exact CellsAt.lt h
  | map => exact MapAt.lt h
theorem HRel.obj (hr : HRel ρ A w) {h : Nat} {o : AObj} (ho : A.get h = some o) : ObjAt ρ (ρ h) o w := by
  cases o with
  | cells ro cs => exact hr.cells h ro cs ho
  | map es => exact hr.map h es ho
theorem HRel.of_obj (fresh : ∀ h, A.next ≤ h → (ρ h).ok = false) (ok : ∀ h o, A.get h = some o → (ρ h).ok = true) (obj : ∀ h o, A.get h = some o → ObjAt ρ (ρ h) o w)
    (apart : ∀ h h' o o', h ≠ h' → A.get h = some o → A.get h' = some o' → o.writes = true → (ρ h).blk ≠ (ρ h').blk) : HRel ρ A w :=
  ⟨fresh, ok, fun h _ _ hg => obj h _ hg, fun h _ hg => obj h _ hg, apart⟩

theorem HRel.add (hr : HRel ρ A w) {h : Nat} {b : Base} {o : AObj} {A1 : AHeap} {w1 : World} (hnok : (ρ h).ok = false) (hb : b.ok = true) (hget : ∀ i, A1.get i = if i = h then some o else A.get i) (hnext : A.next ≤ A1.next) (hlt : h < A1.next)
    (hw : ∀ i, i < w.heap.size → w1.heap[i]? = w.heap[i]?) (hapart : ∀ h' o', A.get h' = some o' → (ρ h').blk ≠ b.blk) (hc : ObjAt (ρ.at h b) b o w1) : HRel (ρ.at h b) A1 w1 := by
  refine HRel.of_obj ?_ ?_ ?_ ?_
  · intro i hi
    rw [Ren.at_ne _ _ (by omega)]
    exact hr.fresh i (by omega)
  · intro i o' hi
    rw [hget] at hi
    by_cases e : i = h
    · subst e; rw [Ren.at_same]; exact hb
    · rw [if_neg e] at hi; rw [Ren.at_ne _ _ e]; exact hr.ok i o' hi
  · intro i o' hi
    rw [hget] at hi
    by_cases e : i = h
    · subst e; rw [if_pos rfl] at hi; cases hi; rw [Ren.at_same]; exact hc
    · rw [if_neg e] at hi; rw [Ren.at_ne _ _ e]
      have := hr.obj hi
      exact this.mono (Agree.at hnok b) (hw _ this.lt)
  · intro i j oi oj hij hi hj hwr
    rw [hget] at hi hj
    by_cases e : i = h
    · subst e
      rw [if_neg (Ne.symm hij)] at hj
      rw [Ren.at_same, Ren.at_ne _ _ (Ne.symm hij)]
      exact Ne.symm (hapart j oj hj)
    · rw [if_neg e] at hi
      rw [Ren.at_ne _ _ e]
      by_cases e2 : j = h
      · subst e2; rw [Ren.at_same]; exact hapart i oi hi
      · rw [if_neg e2] at hj; rw [Ren.at_ne _ _ e2]; exact hr.apart i j oi oj hij hi hj hwr

/-- What an operation makes: what lies there, and what it gives, of the handle. -/
inductive AOp
  | alloc (zs : List Value)
  | box (x : Operand)
  | mkslice (zs : List Value) (s len : Nat) (parts : List (Nat × Nat × Operand))
  | mkmap
  | makeslice (zs : List Value) (s bytes : Nat) (len cap : Operand)

def rowOf (zs : List Value) : Nat → List Value
  | 0 => []
  | n + 1 => zs ++ rowOf zs n
theorem rowOf_length (zs : List Value) (n : Nat) : (rowOf zs n).length = n * zs.length := by
  induction n with
  | zero => simp [rowOf]
  | succ n ih => simp [rowOf, ih, Nat.add_mul]; omega

def dal (d : AOp) (E : Env) : Option (AObj × (Nat → Value)) :=
  match d with
  | .alloc zs => some (.cells false zs, fun h => .pointer (some ⟨h, 0, none⟩))
  | .box x => match E.eval x with
    | some v => if noTup v then some (.cells false (cellsOf v), fun h => .pointer (some ⟨h, 0, none⟩)) else none
    | none => none
  | .mkslice zs s len parts => match evalParts E parts with
    | some vs => if vs.all (fun x => noTup x.2.2) then match fillL zs vs with
        | some cs => some (.cells false cs, fun h => .slice (some ⟨h, 0, none⟩) len s)
        | none => none
      else none
    | none => none
  | .mkmap => some (.map [], fun h => .map (some h))
  | .makeslice zs s bytes len cap => match E.eval len, E.eval cap with
    | some (.int _ l), some (.int _ c) => if 0 ≤ l ∧ l ≤ c ∧ c * bytes ≤ 2 ^ 48 then some (.cells false (rowOf zs l.toNat), fun h => .slice (some ⟨h, 0, none⟩) l.toNat s) else none
    | _, _ => none

def compA (P : Program) (o : Op) : Option AOp :=
  match o with
  | .alloc t => (zeroL P t).map .alloc
  | .box _ x => some (.box x)
  | .buildSlice t len parts => match P.underlying t with
    | some (.slice e) => match P.info? e, zeroL P e with
      | some ti, some zs => if 0 < ti.size ∧ zs.length = ti.size ∧ len * ti.size ≤ 2 ^ 24 then
          some (.mkslice (rowOf zs len) ti.size len (parts.toList.map fun p => (p.1 * ti.size, ti.size, p.2))) else none
      | _, _ => none
    | _ => none
  | .makeMap _ none => some .mkmap
  | .makeSlice t len cap => match P.underlying t with
    | some (.slice e) => match P.info? e, zeroL P e with
      | some ti, some zs => if 0 < ti.size ∧ zs.length = ti.size ∧ 0 < ti.bytes then some (.makeslice zs ti.size ti.bytes len cap) else none
      | _, _ => none
    | _ => none
  | _ => none

theorem rowOf_get (zs : List Value) : ∀ (n i : Nat), i < n * zs.length → (rowOf zs n)[i]? = zs[i % zs.length]?
  | 0, i, h => by simp at h
  | n + 1, i, h => by
    simp only [rowOf]
    rw [List.getElem?_append]
    split
    · rename_i hi; rw [Nat.mod_eq_of_lt hi]
    · rename_i hi
      have e : (n + 1) * zs.length = n * zs.length + zs.length := by rw [Nat.add_mul]; omega
      rw [rowOf_get zs n (i - zs.length) (by omega)]
      congr 1
      exact (Nat.mod_eq_sub_mod (by omega)).symm

theorem zero_rep (z : Array Value) (zs : List Value) (hz : z.toList = zs) (n : Nat) : ((Array.range (n * zs.length)).map (fun i => z[i % z.size]!)).toList = rowOf zs n := by
  have hsz : z.size = zs.length := by rw [← hz]; simp
  apply List.ext_getElem?
  intro i
  by_cases hi : i < n * zs.length
  · rw [rowOf_get zs n i hi]
    have h0 : 0 < zs.length := by
      rcases Nat.eq_zero_or_pos zs.length with h | h
      · rw [h] at hi; omega
      · exact h
    have hm : i % zs.length < zs.length := Nat.mod_lt _ h0
    have h1 : z[i % z.size]! = zs[i % zs.length] := by
      rw [hsz, getElem!_pos z _ (by omega)]
      simp [← hz]
    simp [hi, h1, hm]
  · rw [List.getElem?_eq_none (l := rowOf zs n) (by rw [rowOf_length]; omega), List.getElem?_eq_none (by simp; omega)]

/-- The world with one block more. -/
abbrev more (w : World) (o : Obj) : World := w.alloc o
theorem more_old (w : World) (o : Obj) {i : Nat} (hi : i < w.heap.size) : (more w o).heap[i]? = w.heap[i]? := by
  show (w.heap.push o)[i]? = _
  rw [Array.getElem?_push, if_neg (by omega)]
theorem more_new (w : World) (o : Obj) : (more w o).heap[w.heap.size]? = some o := by
  show (w.heap.push o)[w.heap.size]? = _
  simp

theorem cells_more {cs : List Value} {C : Array Value} {t : TypeId} (hc : All2 (SRel ρ) cs (C.toList.take cs.length)) (ext : Nat) (hext : ext ≤ C.size) (hle : cs.length ≤ ext) (w : World) :
    CellsAt ρ ⟨w.heap.size, 0, ext, true⟩ false cs (more w (.cells C t)) := by
  refine ⟨C, t, (0, 0), more_new w _, by simp; omega, hle, fun k v hk => ?_, fun _ k _ => by simp⟩
  obtain ⟨v', h1, h2⟩ := hc.get hk
  rw [List.getElem?_take] at h1
  split at h1
  · exact ⟨v', by simpa using h1, h2⟩
  · cases h1

/-- What is made, and where. -/
def Makes (P : Program) (o : Oper) (a : Act) (w : World) (ρ : Ren) (obj : AObj) (f : Nat → Value) : Prop :=
  ∃ v' C b, (execOp a.eval o).run P w = .ok (.value v') (more w C) ∧ b.ok = true ∧ b.blk = w.heap.size ∧ ∀ h, (ρ h).ok = false → ObjAt (ρ.at h b) b obj (more w C) ∧ TRel (ρ.at h b) (f h) v'

theorem makes_cells {o : Oper} {cs : List Value} {C : Array Value} {t : TypeId} {ext : Nat} {f : Nat → Value} {v' : Value} (hrun : (execOp a.eval o).run P w = .ok (.value v') (more w (.cells C t)))
    (hc : All2 (SRel ρ) cs (C.toList.take cs.length)) (hext : ext ≤ C.size) (hle : cs.length ≤ ext) (hf : ∀ h (ρ' : Ren), ρ' h = ⟨w.heap.size, 0, ext, true⟩ → TRel ρ' (f h) v') : Makes P o a w ρ (.cells false cs) f := by
  refine ⟨v', _, ⟨w.heap.size, 0, ext, true⟩, hrun, rfl, rfl, fun h hh => ⟨?_, hf h _ (Ren.at_same _ _ _)⟩⟩
  exact (cells_more (hc.mono fun _ _ x => x.mono (Agree.at hh _)) ext hext hle w)

theorem ptr_new (h : Nat) (ρ' : Ren) (b ext : Nat) (hb : ρ' h = ⟨b, 0, ext, true⟩) : TRel ρ' (.pointer (some ⟨h, 0, none⟩)) (.pointer (some ⟨b, 0, none⟩)) := by
  have := PRel.ptr (ρ := ρ') h 0 (by rw [hb])
  simp only [Ren.addr, hb] at this
  exact this.t
theorem slice_new (h : Nat) (ρ' : Ren) (b ext l c s : Nat) (hb : ρ' h = ⟨b, 0, ext, true⟩) (hl : l ≤ c) (hc : c * s ≤ ext) (hs : 0 < s) : TRel ρ' (.slice (some ⟨h, 0, none⟩) l s) (.slice (some ⟨b, 0, none⟩) l c) := by
  have := PRel.sl (ρ := ρ') h 0 l s c (by rw [hb]) hl (by rw [hb]; simpa using hc) hs
  simp only [Ren.addr, hb] at this
  exact this.t

theorem alloc_sound {o : Oper} {d : AOp} (hc : compA P o.op = some d) (he : ERel ρ N E a) {obj : AObj} {f : Nat → Value} (hv : dal d E = some (obj, f)) : Makes P o a w ρ obj f := by
  rcases o with ⟨dst, op, type, pos, after, guard⟩
  simp only at hc
  cases op with
  | alloc t =>
    obtain ⟨zs, hz, rfl⟩ := Option.map_eq_some_iff.1 hc
    simp only [dal, Option.some.injEq, Prod.mk.injEq] at hv
    obtain ⟨rfl, rfl⟩ := hv
    obtain ⟨z, h3, h4, h5⟩ := zeroL_some hz
    have hl : z.cells.size = zs.length := by rw [← h4]; simp
    refine makes_cells (C := z.cells) (t := t) (ext := zs.length) (v' := .pointer (some ⟨w.heap.size, 0, none⟩)) ?_ (by rw [h4, List.take_length]; exact h5 ρ) (by omega) (Nat.le_refl _) (fun h ρ' hb => ptr_new h ρ' _ _ hb)
    simp [execOp, Instr.alloc, h3, newVar, newRow, more]
  | box t x =>
    simp only [compA, Option.some.injEq] at hc; subst hc
    simp only [dal] at hv
    split at hv
    · rename_i v hx
      split at hv
      · rename_i hnt
        simp only [Option.some.injEq, Prod.mk.injEq] at hv
        obtain ⟨rfl, rfl⟩ := hv
        have hrel := (eval_rel he hx).v_of (fun vs e => by rw [e] at hnt; cases hnt)
        have hcells := hrel.cells
        have hl := hcells.length
        have hsz : (a.eval x).cells.size = (cellsOf v).length := by rw [hl, ← cells_toList]; simp
        refine makes_cells (C := (a.eval x).cells) (t := t) (ext := (cellsOf v).length) (v' := .pointer (some ⟨w.heap.size, 0, none⟩)) ?_ (by rw [cells_toList, hl, List.take_length]; exact hcells) (by omega) (Nat.le_refl _) (fun h ρ' hb => ptr_new h ρ' _ _ hb)
        simp [execOp, Instr.box, newVar, newRow, more]
      · cases hv
    · cases hv
  | buildSlice t len parts =>
    simp only [compA] at hc
    split at hc
    · rename_i e hu
      split at hc
      · rename_i ti zs hi hz
        split at hc
        · rename_i hcond
          cases hc
          obtain ⟨hs0, hzl, hlim⟩ := hcond
          simp only [dal] at hv
          split at hv
          · rename_i vs hvs
            split at hv
            · rename_i hnt
              split at hv
              · rename_i cs hf
                simp only [Option.some.injEq, Prod.mk.injEq] at hv
                obtain ⟨rfl, rfl⟩ := hv
                obtain ⟨z, h3, h4, h5⟩ := zeroL_some hz
                have hvr : ∀ x ∈ vs, ∀ y, TRel ρ x.2.2 y → VRel ρ x.2.2 y := by
                  intro x hx y hy
                  have := List.all_eq_true.1 hnt x hx
                  exact hy.v_of (fun us e => by rw [e] at this; cases this)
                have hrel := partsArr_rel (s := ti.size) he (xs := parts.toList) hvs hvr
                have hrow : All2 (SRel ρ) (rowOf zs len) (rowOf zs len) := by
                  have : ∀ n, All2 (SRel ρ) (rowOf zs n) (rowOf zs n) := by
                    intro n
                    induction n with
                    | zero => exact .nil
                    | succ n ih => exact (h5 ρ).append ih
                  exact this len
                obtain ⟨cs', h6, h7⟩ := fill_rel (place := fun i => some (i * ti.size, ti.size)) hrel hrow hf
                have hlen := h7.length
                have hfl : cs.length = (rowOf zs len).length := by
                  have : ∀ (vs : List (Nat × Nat × Value)) (zs cs : List Value), fillL zs vs = some cs → cs.length = zs.length := by
                    intro vs
                    induction vs with
                    | nil => intro zs cs h; simp [fillL] at h; rw [h]
                    | cons x xs ih =>
                      intro zs cs h
                      simp only [fillL] at h
                      split at h
                      · rw [ih _ _ h, putCells_length]
                      · cases h
                  exact this _ _ _ hf
                rw [rowOf_length, hzl] at hfl
                have hsz : cs'.size = len * ti.size := by simp at hlen; omega
                refine makes_cells (C := cs') (t := e) (ext := len * ti.size) (v' := .slice (some ⟨w.heap.size, 0, none⟩) len len) ?_ (by rw [hlen, List.take_length]; exact h7) (by omega) (by omega)
                  (fun h ρ' hb => slice_new h ρ' _ _ _ _ _ hb (Nat.le_refl _) (Nat.le_refl _) hs0)
                have e2 : (Array.map (fun x => (x.1, a.eval x.2)) parts).toList = parts.toList.map (fun p => (p.1, a.eval p.2)) := by simp
                have hlim' : ¬ len * ti.size > 2 ^ 24 := by omega
                by_cases h0 : len * ti.size = 0
                · have hr0 : rowOf zs len = [] := List.length_eq_zero_iff.1 (by rw [rowOf_length, hzl]; exact h0)
                  have e4 : ((Array.range (len * ti.size)).map (fun i => (#[] : Array Value)[i % (#[] : Array Value).size]!)) = (rowOf zs len).toArray := by
                    rw [hr0, h0]; simp
                  simp only [execOp, Instr.buildSlice, Sem.run_bind, run_under hu, run_size hi, Result.andThen_ok, if_neg hlim', if_pos h0, Sem.run_pure]
                  rw [e4, e2, h6]
                  simp [newRow]
                · have e4 : ((Array.range (len * ti.size)).map (fun i => z.cells[i % z.cells.size]!)) = (rowOf zs len).toArray := by
                    apply Array.ext'
                    have := zero_rep z.cells zs h4 len
                    rw [hzl] at this
                    rw [this]
                  simp only [execOp, Instr.buildSlice, Sem.run_bind, run_under hu, run_size hi, Result.andThen_ok, if_neg hlim', if_neg h0, h3, Sem.run_pure]
                  rw [e4, e2, h6]
                  simp [newRow]
              · cases hv
            · cases hv
          · cases hv
        · cases hc
      · cases hc
    · cases hc
  | makeMap t r =>
    cases r with
    | none =>
      simp only [compA, Option.some.injEq] at hc; subst hc
      simp only [dal, Option.some.injEq, Prod.mk.injEq] at hv
      obtain ⟨rfl, rfl⟩ := hv
      refine ⟨.map (some w.heap.size), .map #[] 0, ⟨w.heap.size, 0, 0, true⟩, by simp [execOp, Instr.makeMap, more], rfl, rfl, fun h hh => ⟨⟨#[], 0, more_new w _, .nil, by simp⟩, ?_⟩⟩
      have := PRel.map (ρ := ρ.at h ⟨w.heap.size, 0, 0, true⟩) h (by rw [Ren.at_same])
      rw [Ren.at_same] at this
      exact this.t
    | some r => simp [compA] at hc
  | makeSlice t len cap =>
    simp only [compA] at hc
    split at hc
    · rename_i e hu
      split at hc
      · rename_i ti zs hi hz
        split at hc
        · rename_i hcond
          cases hc
          obtain ⟨hs0, hzl, hb0⟩ := hcond
          simp only [dal] at hv
          split at hv
          · rename_i k1 l k2 c hl hcap
            split at hv
            · rename_i hb
              simp only [Option.some.injEq, Prod.mk.injEq] at hv
              obtain ⟨rfl, rfl⟩ := hv
              obtain ⟨z, h3, h4, h5⟩ := zeroL_some hz
              have hl' := (eval_rel he hl).int_inv
              have hc' := (eval_rel he hcap).int_inv
              obtain ⟨h0, h1, h2⟩ := hb
              have hbig : c ≤ 2 ^ 48 := by
                have : c * 1 ≤ c * (ti.bytes : Int) := Int.mul_le_mul_of_nonneg_left (by omega) (by omega)
                omega
              have hw : ∀ x : Int, 0 ≤ x → x ≤ 2 ^ 48 → IntKind.i64.wrap x = x := by
                intro x hx0 hx1
                exact wrap64_id (by omega) (by omega)
              have hwl := hw l h0 (by omega)
              have hwc := hw c (by omega) hbig
              have hcomm : (ti.bytes : Int) * c = c * ti.bytes := Int.mul_comm _ _
              have hcb : c.toNat * ti.size = c.toNat * zs.length := by rw [hzl]
              have hle : l.toNat * ti.size ≤ c.toNat * ti.size := Nat.mul_le_mul_right _ (by omega)
              have hrow : All2 (SRel ρ) (rowOf zs l.toNat) ((rowOf zs c.toNat).take (rowOf zs l.toNat).length) := by
                have self : ∀ n, All2 (SRel ρ) (rowOf zs n) (rowOf zs n) := by
                  intro n
                  induction n with
                  | zero => exact .nil
                  | succ n ih => exact (h5 ρ).append ih
                have : (rowOf zs c.toNat).take (rowOf zs l.toNat).length = rowOf zs l.toNat := by
                  apply List.ext_getElem?
                  intro i
                  rw [List.getElem?_take, rowOf_length]
                  split
                  · rename_i hi'
                    rw [rowOf_get zs _ i (by rw [← hzl] at hle; omega), rowOf_get zs _ i hi']
                  · rw [List.getElem?_eq_none (by rw [rowOf_length]; omega)]
                rw [this]; exact self _
              have hfin : ∀ D : Array Value, D.toList = rowOf zs c.toNat → (execOp a.eval { dst, op := .makeSlice t len cap, type, pos, after, guard }).run P w = .ok (.value (.slice (some ⟨w.heap.size, 0, none⟩) l.toNat c.toNat)) (more w (.cells D e)) →
                  Makes P { dst, op := .makeSlice t len cap, type, pos, after, guard } a w ρ (.cells false (rowOf zs l.toNat)) (fun h => .slice (some ⟨h, 0, none⟩) l.toNat ti.size) := by
                intro D hD hrun
                have hDs : D.size = c.toNat * ti.size := by
                  have : D.toList.length = c.toNat * ti.size := by rw [hD, rowOf_length, hzl]
                  simpa using this
                refine makes_cells (C := D) (t := e) (ext := c.toNat * ti.size) hrun (by rw [hD]; exact hrow) (by omega) (by rw [rowOf_length, hzl]; exact hle) (fun h ρ' hb => slice_new h ρ' _ _ _ _ _ hb (by omega) (Nat.le_refl _) hs0)
              have hnot : ¬ (c < 0 ∨ (ti.bytes : Int) * c > 2 ^ 48) := by rw [hcomm]; omega
              have hcond : (decide (c < 0) || decide ((ti.bytes : Int) * c > 2 ^ 48) || decide (l < 0) || decide (l > c)) = false := by
                simp only [Bool.or_eq_false_iff, decide_eq_false_iff_not]
                omega
              by_cases hn : c.toNat * ti.size = 0
              · refine hfin #[] ?_ ?_
                · exact (List.length_eq_zero_iff.1 (by rw [rowOf_length, hzl]; exact hn)).symm
                · simp only [execOp, Instr.makeSlice, Sem.run_bind, run_under hu, Result.andThen_ok, hl', hc', asInt, asIntOf, Sem.run_pure, run_info hi, hwl, hwc, hcond, Bool.false_eq_true, if_false, run_askRoom, run_size hi, hn, if_true]
                  have e0 : Array.range 0 = (#[] : Array Nat) := by apply Array.ext'; simp
                  simp [newRow, e0]
              · refine hfin ((Array.range (c.toNat * ti.size)).map (fun i => z.cells[i % z.cells.size]!)) ?_ ?_
                · rw [← hzl]; exact zero_rep z.cells zs h4 _
                · simp only [execOp, Instr.makeSlice, Sem.run_bind, run_under hu, Result.andThen_ok, hl', hc', asInt, asIntOf, Sem.run_pure, run_info hi, hwl, hwc, hcond, Bool.false_eq_true, if_false, run_askRoom, run_size hi, hn, h3]
                  simp [newRow]
            · cases hv
          · cases hv
        · cases hc
      · cases hc
    · cases hc
  | _ => simp [compA] at hc
end Go.Proofs.Ytckdmhjhjfmcdaa.Sx
