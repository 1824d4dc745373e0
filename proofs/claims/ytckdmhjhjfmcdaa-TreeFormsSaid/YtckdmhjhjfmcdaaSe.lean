/-
  Each reading operation of the program: the machine gives what the abstract one gives.
-/
import Derived.Test.YtckdmhjhjfmcdaaSd
import Derived.Laws.StructEq
namespace Go.Proofs.Ytckdmhjhjfmcdaa.Sx
set_option linter.unusedSimpArgs false
set_option linter.unusedVariables false
open Go
variable {P : Program} {ρ : Ren} {N : Nat} {E : Env} {A : AHeap} {a : Act} {w : World}

theorem putCells_rel {vs vs' : List Value} (hv : All2 (SRel ρ) vs vs') : ∀ {cs cs' : List Value} (o : Nat), All2 (SRel ρ) cs cs' → All2 (SRel ρ) (putCells cs o vs) (putCells cs' o vs') := by
  induction hv with
  | nil => exact fun o h => h
  | @cons x y xs ys hx hs ih =>
    intro cs cs' o h
    refine ih (o + 1) (All2.of_get (by simp [h.length]) fun k u u' hu hu' => ?_)
    rw [List.getElem?_set] at hu hu'
    split at hu
    · rename_i e
      rw [if_pos e] at hu'
      split at hu
      · cases hu
        split at hu'
        · cases hu'; exact hx
        · cases hu'
      · cases hu
    · rename_i e
      rw [if_neg e] at hu'
      obtain ⟨y', h1, h2⟩ := h.get hu
      rw [h1] at hu'; cases hu'; exact h2

theorem foldl_zip (off : Nat) : ∀ (l : List Value) (cs : Array Value) (j : Nat), ((l.zipIdx j).foldl (fun cs (x : Value × Nat) => cs.setIfInBounds (off + x.2) x.1) cs).toList = putCells cs.toList (off + j) l
  | [], cs, j => rfl
  | v :: r, cs, j => by
    simp only [List.zipIdx_cons, List.foldl_cons]
    rw [foldl_zip off r _ (j + 1)]
    simp [putCells, Nat.add_assoc]

theorem array_foldl_zip (off : Nat) (l cs : Array Value) : (l.zipIdx.foldl (fun cs (x : Value × Nat) => cs.setIfInBounds (off + x.2) x.1) cs).toList = putCells cs.toList off l.toList := by
  rw [← Array.foldl_toList, Array.toList_zipIdx]
  have := foldl_zip off l.toList cs 0
  simpa using this

theorem fill_rel {place : Nat → Option (Nat × Nat)} : ∀ {ps : List (Nat × Value)} {vs : List (Nat × Nat × Value)} {zs zs' : List Value} {cs : List Value},
    All2 (fun (x : Nat × Nat × Value) (y : Nat × Value) => place y.1 = some (x.1, x.2.1) ∧ VRel ρ x.2.2 y.2) vs ps → All2 (SRel ρ) zs zs' → fillL zs vs = some cs →
    ∃ cs', Instr.fill place zs'.toArray ps = some cs' ∧ All2 (SRel ρ) cs cs'.toList := by
  intro ps vs zs zs' cs h
  induction h generalizing zs zs' with
  | nil => intro hz hf; simp only [fillL, Option.some.injEq] at hf; subst hf; exact ⟨_, rfl, by simpa using hz⟩
  | @cons x y xs ys hxy hs ih =>
    intro hz hf
    obtain ⟨off, size, v⟩ := x
    obtain ⟨i, v'⟩ := y
    obtain ⟨hp, hv⟩ := hxy
    simp only [fillL] at hf
    split at hf
    · rename_i hc
      have hcells := hv.cells
      have hl := hcells.length
      have hl2 : v'.cells.size = size := by rw [← hc.1, hl, ← cells_toList]; simp
      have hzl := hz.length
      have e : ((v'.cells.zipIdx.foldl (fun cs (c, j) => cs.setIfInBounds (off + j) c) zs'.toArray)) = (putCells zs' off (cellsOf v')).toArray := by
        apply Array.ext'
        have := array_foldl_zip off v'.cells zs'.toArray
        rw [cells_toList] at this
        simpa using this
      obtain ⟨cs', h1, h2⟩ := ih (putCells_rel hcells off hz) hf
      refine ⟨cs', ?_, h2⟩
      simp only at hp
      simp only [Instr.fill, hp]
      rw [if_neg (by simp [hl2]; omega), e]
      exact h1
    · cases hf

theorem zeroL_some {t : TypeId} {zs : List Value} (h : zeroL P t = some zs) : ∃ z, (∀ w, (zeroValue t).run P w = .ok z w) ∧ z.cells.toList = zs ∧ ∀ ρ, All2 (SRel ρ) zs zs := by
  unfold zeroL at h
  split at h
  · rename_i z hz
    split at h
    · rename_i hcl
      cases h
      refine ⟨z, fun w => ?_, cells_toList z, fun ρ => closedL_rel hcl ρ⟩
      cases hi : P.info? t with
      | none => simp [hi] at hz
      | some i =>
        simp [hi] at hz
        simp [zeroValue, typeInfo, hi, hz]
    · cases h
  · cases h

theorem partsOf_rel {fs : Array Field} {places : Array (Nat × Nat)} (hp : ∀ (i : Nat) f, fs[i]? = some f → ∃ ti, P.info? f.type = some ti ∧ places[i]? = some (f.offset, ti.size)) (he : ERel ρ N E a) :
    ∀ {xs : List (Nat × Operand)} {ps : List (Nat × Nat × Operand)} {vs : List (Nat × Nat × Value)}, partsOf P fs xs = some ps → evalParts E ps = some vs → (∀ x ∈ vs, ∀ y, TRel ρ x.2.2 y → VRel ρ x.2.2 y) →
    All2 (fun (x : Nat × Nat × Value) (y : Nat × Value) => places[y.1]? = some (x.1, x.2.1) ∧ VRel ρ x.2.2 y.2) vs (xs.map fun p => (p.1, a.eval p.2))
  | [], ps, vs, h1, h2, _ => by
    simp [partsOf] at h1; subst h1; simp [evalParts] at h2; subst h2; exact .nil
  | (i, x) :: xs, ps, vs, h1, h2, hv => by
    simp only [partsOf] at h1
    split at h1
    · rename_i f hf
      split at h1
      · rename_i ti ps' hti hps
        cases h1
        simp only [evalParts] at h2
        split at h2
        · rename_i v hev
          split at h2
          · rename_i vs' hvs
            cases h2
            obtain ⟨ti', h3, h4⟩ := hp i f hf
            rw [h3] at hti; cases hti
            exact .cons ⟨h4, hv _ (by simp) _ (eval_rel he hev)⟩ (partsOf_rel hp he hps hvs fun x hx => hv x (by simp [hx]))
          · cases h2
        · cases h2
      · cases h1
    · cases h1

theorem partsArr_rel {s : Nat} (he : ERel ρ N E a) : ∀ {xs : List (Nat × Operand)} {vs : List (Nat × Nat × Value)}, evalParts E (xs.map fun p => (p.1 * s, s, p.2)) = some vs → (∀ x ∈ vs, ∀ y, TRel ρ x.2.2 y → VRel ρ x.2.2 y) →
    All2 (fun (x : Nat × Nat × Value) (y : Nat × Value) => (fun i => some (i * s, s)) y.1 = some (x.1, x.2.1) ∧ VRel ρ x.2.2 y.2) vs (xs.map fun p => (p.1, a.eval p.2))
  | [], vs, h2, _ => by simp [evalParts] at h2; subst h2; exact .nil
  | (i, x) :: xs, vs, h2, hv => by
    simp only [List.map_cons, evalParts] at h2
    split at h2
    · rename_i v hev
      split at h2
      · rename_i vs' hvs
        cases h2
        exact .cons ⟨rfl, hv _ (by simp) _ (eval_rel he hev)⟩ (partsArr_rel he hvs fun x hx => hv x (by simp [hx]))
      · cases h2
    · cases h2

/-- What is filled in is no tuple: its cells are as many as asked. -/
theorem TRel.v_of {v v' : Value} (h : TRel ρ v v') (hv : ∀ vs, v ≠ .tuple vs) : VRel ρ v v' := by
  cases h with
  | v h => exact h
  | tup vs vs' _ => exact (hv _ rfl).elim

section eqs
variable {t : TypeId} (d : Nat) (w : World)
theorem eqIn_bool (hu : P.underlying t = some .bool) (x y : Bool) : (Op.equalIn (d + 1) t (.bool x) (.bool y)).run P w = .ok (x == y) w := by
  simp only [Op.equalIn, Sem.run_bind, run_under hu, Result.andThen_ok, Sem.run_pure]
theorem eqIn_int {k0 : IntKind} (hu : P.underlying t = some (.int k0)) (k : IntKind) (x y : Int) : (Op.equalIn (d + 1) t (.int k x) (.int k y)).run P w = .ok (x == y) w := by
  simp only [Op.equalIn, Sem.run_bind, run_under hu, Result.andThen_ok, Sem.run_pure, if_true]
theorem eqIn_str (hu : P.underlying t = some .string) (x y : ByteArray) : (Op.equalIn (d + 1) t (.string x) (.string y)).run P w = .ok (x == y) w := by
  simp only [Op.equalIn, Sem.run_bind, run_under hu, Result.andThen_ok, Sem.run_pure]
theorem eqIn_ptr0 {e : TypeId} (hu : P.underlying t = some (.pointer e)) (y : Option Addr) : (Op.equalIn (d + 1) t (.pointer none) (.pointer y)).run P w = .ok y.isNone w := by
  simp only [Op.equalIn, Sem.run_bind, run_under hu, Result.andThen_ok, Sem.run_pure]
theorem eqIn_ptr1 {e : TypeId} (hu : P.underlying t = some (.pointer e)) (x : Addr) : (Op.equalIn (d + 1) t (.pointer (some x)) (.pointer none)).run P w = .ok false w := by
  simp only [Op.equalIn, Sem.run_bind, run_under hu, Result.andThen_ok, Sem.run_pure]
theorem eqIn_sl0 {e : TypeId} (hu : P.underlying t = some (.slice e)) (y : Option Addr) (l c l' c' : Nat) : (Op.equalIn (d + 1) t (.slice none l c) (.slice y l' c')).run P w = .ok y.isNone w := by
  simp only [Op.equalIn, Sem.run_bind, run_under hu, Result.andThen_ok, Sem.run_pure]
theorem eqIn_sl1 {e : TypeId} (hu : P.underlying t = some (.slice e)) (x : Addr) (l c l' c' : Nat) : (Op.equalIn (d + 1) t (.slice (some x) l c) (.slice none l' c')).run P w = .ok false w := by
  simp only [Op.equalIn, Sem.run_bind, run_under hu, Result.andThen_ok, Sem.run_pure]
theorem eqIn_map0 {k e : TypeId} (hu : P.underlying t = some (.map k e)) (y : Option Nat) : (Op.equalIn (d + 1) t (.map none) (.map y)).run P w = .ok y.isNone w := by
  simp only [Op.equalIn, Sem.run_bind, run_under hu, Result.andThen_ok, Sem.run_pure]
theorem eqIn_map1 {k e : TypeId} (hu : P.underlying t = some (.map k e)) (x : Nat) : (Op.equalIn (d + 1) t (.map (some x)) (.map none)).run P w = .ok false w := by
  simp only [Op.equalIn, Sem.run_bind, run_under hu, Result.andThen_ok, Sem.run_pure]
theorem eqIn_fn00 {k e : Array TypeId} {b : Bool} (hu : P.underlying t = some (.func k e b)) : (Op.equalIn (d + 1) t .nilFunc .nilFunc).run P w = .ok true w := by
  simp only [Op.equalIn, Sem.run_bind, run_under hu, Result.andThen_ok, Sem.run_pure]
theorem eqIn_fn01 {k e : Array TypeId} {b : Bool} (hu : P.underlying t = some (.func k e b)) (f : Fn) (x y : Array Value) : (Op.equalIn (d + 1) t .nilFunc (.func f x y)).run P w = .ok false w := by
  simp only [Op.equalIn, Sem.run_bind, run_under hu, Result.andThen_ok, Sem.run_pure]
theorem eqIn_fn10 {k e : Array TypeId} {b : Bool} (hu : P.underlying t = some (.func k e b)) (f : Fn) (x y : Array Value) : (Op.equalIn (d + 1) t (.func f x y) .nilFunc).run P w = .ok false w := by
  simp only [Op.equalIn, Sem.run_bind, run_under hu, Result.andThen_ok, Sem.run_pure]
end eqs

theorem equal_eq (t : TypeId) (x y : Value) : Op.equal t x y = Op.equalIn (9999 + 1) t x y := rfl

theorem sameL_append {xs ys xs' ys' : List Value} {b : Bool} (hl : xs.length = ys.length) (h : sameL (xs ++ xs') (ys ++ ys') = some b) : ∃ b1 b2, sameL xs ys = some b1 ∧ sameL xs' ys' = some b2 ∧ b = (b1 && b2) := by
  induction xs generalizing ys b with
  | nil =>
    cases ys with
    | nil => exact ⟨true, b, rfl, h, by simp⟩
    | cons => simp at hl
  | cons x xs ih =>
    cases ys with
    | nil => simp at hl
    | cons y ys =>
      simp only [List.cons_append, sameL] at h ⊢
      split at h
      · rename_i c d hc hd
        cases h
        obtain ⟨b1, b2, h1, h2, rfl⟩ := ih (by simpa using hl) hd
        exact ⟨c && b1, b2, by simp [hc, h1], h2, by simp [Bool.and_assoc]⟩
      · cases h

theorem info_of_cells {t : TypeId} {m : Nat} (h : P.cellsOf t = m + 1) : ∃ i, P.info? t = some i := by
  unfold Program.cellsOf at h
  cases hi : P.info? t with
  | none => simp [hi] at h
  | some i => exact ⟨i, rfl⟩

theorem under_info {t : TypeId} {d : TypeDesc} (h : P.underlying t = some d) : ∃ i, P.info? t = some i := by
  unfold Program.underlying at h
  cases hi : P.info? t with
  | none => simp [hi] at h
  | some i => exact ⟨i, rfl⟩

/-- Two parts of a flat type. -/
def FlatOk (P : Program) (d : Nat) (t : TypeId) : Prop := ∀ (D : Nat) (xs ys : Array Value) (off : Nat) (b : Bool) (w : World), off + P.cellsOf t ≤ xs.size → off + P.cellsOf t ≤ ys.size →
    sameL ((xs.toList.drop off).take (P.cellsOf t)) ((ys.toList.drop off).take (P.cellsOf t)) = some b →
    ∃ u v, (part t xs off).run P w = .ok u w ∧ (part t ys off).run P w = .ok v w ∧ (Op.equalIn (D + d) t u v).run P w = .ok b w

theorem part_agg {t : TypeId} (ht : ∀ w, (isAgg t).run P w = .ok true w) {i : TypeInfo} (hi : P.info? t = some i) (xs : Array Value) (off : Nat) (w : World) :
    (part t xs off).run P w = .ok (.agg (xs.extract off (off + P.cellsOf t))) w := by
  simp [part, ht, run_size hi, Program.cellsOf, hi]
theorem part_one {t : TypeId} (ht : ∀ w, (isAgg t).run P w = .ok false w) {xs : Array Value} {off : Nat} {v : Value} (h : xs[off]? = some v) (w : World) : (part t xs off).run P w = .ok v w := by
  simp [part, ht, h]

theorem flat_fields {d : Nat} (hd : ∀ t, flatTy P d t = true → FlatOk P d t) (D : Nat) (xs ys : Array Value) (w : World) : ∀ (fs : List Field) (off m : Nat) (b : Bool), flatFs P (flatTy P d) fs off = some m → m ≤ xs.size → m ≤ ys.size →
    sameL ((xs.toList.take m).drop off) ((ys.toList.take m).drop off) = some b → (Op.eqFields (D + d) xs ys fs).run P w = .ok b w
  | [], off, m, b, h, hx, hy, hs => by
    simp only [flatFs, Option.some.injEq] at h
    subst h
    simp at hs
    simp [Op.eqFields]
    simpa [sameL] using hs
  | f :: fs, off, m, b, h, hx, hy, hs => by
    simp only [flatFs] at h
    split at h
    · rename_i hc
      obtain ⟨hn, ho, hf⟩ := hc
      have hm : off + P.cellsOf f.type ≤ m := by
        clear hs hd
        have : ∀ (fs : List Field) o, flatFs P (flatTy P d) fs o = some m → o ≤ m := by
          intro fs
          induction fs with
          | nil => intro o h; simp [flatFs] at h; omega
          | cons x xs ih => intro o h; simp only [flatFs] at h; split at h; have := ih _ h; omega; cases h
        exact this _ _ h
      have e1 : ∀ zs : Array Value, m ≤ zs.size → (zs.toList.take m).drop off = ((zs.toList.drop off).take (P.cellsOf f.type)) ++ ((zs.toList.take m).drop (off + P.cellsOf f.type)) := by
        intro zs hz
        rw [← List.drop_drop, List.drop_take]
        have e : (zs.toList.drop off).take (P.cellsOf f.type) = ((zs.toList.drop off).take (m - off)).take (P.cellsOf f.type) := by
          rw [List.take_take]; congr 1; omega
        rw [e]
        exact (List.take_append_drop _ _).symm
      rw [e1 xs hx, e1 ys hy] at hs
      obtain ⟨b1, b2, h1, h2, rfl⟩ := sameL_append (by simp; omega) hs
      obtain ⟨u, v, p1, p2, p3⟩ := hd _ hf D xs ys off b1 w (by omega) (by omega) h1
      have hrec := flat_fields hd D xs ys w fs _ m b2 h hx hy h2
      simp only [Op.eqFields, Sem.run_ite, if_pos hn, Sem.run_bind, ho, p1, p2, p3, Result.andThen_ok]
      cases b1 <;> simp [hrec]
    · cases h

theorem flat_items {d : Nat} {e : TypeId} (hd : FlatOk P d e) (D : Nat) (xs ys : Array Value) (w : World) : ∀ (n k : Nat) (b : Bool), (k + n) * P.cellsOf e ≤ xs.size → (k + n) * P.cellsOf e ≤ ys.size →
    sameL ((xs.toList.take ((k + n) * P.cellsOf e)).drop (k * P.cellsOf e)) ((ys.toList.take ((k + n) * P.cellsOf e)).drop (k * P.cellsOf e)) = some b → (Op.eqItems (D + d) e (P.cellsOf e) xs ys (List.range' k n)).run P w = .ok b w
  | 0, k, b, hx, hy, hs => by
    have : sameL [] [] = some b := by
      have e1 : ∀ zs : Array Value, (zs.toList.take ((k + 0) * P.cellsOf e)).drop (k * P.cellsOf e) = [] := fun zs => List.drop_eq_nil_of_le (by simp; omega)
      rwa [e1, e1] at hs
    simp [sameL] at this
    simp [Op.eqItems, ← this]
  | n + 1, k, b, hx, hy, hs => by
    have hk : (k + (n + 1)) * P.cellsOf e = k * P.cellsOf e + P.cellsOf e + n * P.cellsOf e := by rw [Nat.add_mul, Nat.add_mul]; omega
    have hk2 : (k + 1 + n) * P.cellsOf e = k * P.cellsOf e + P.cellsOf e + n * P.cellsOf e := by rw [Nat.add_mul, Nat.add_mul]; omega
    have hk3 : (k + 1) * P.cellsOf e = k * P.cellsOf e + P.cellsOf e := by rw [Nat.add_mul]; omega
    have e1 : ∀ zs : Array Value, (k + (n + 1)) * P.cellsOf e ≤ zs.size → (zs.toList.take ((k + (n + 1)) * P.cellsOf e)).drop (k * P.cellsOf e) =
        ((zs.toList.drop (k * P.cellsOf e)).take (P.cellsOf e)) ++ ((zs.toList.take ((k + 1 + n) * P.cellsOf e)).drop ((k + 1) * P.cellsOf e)) := by
      intro zs hz
      rw [hk, hk2, hk3, ← List.drop_drop, List.drop_take]
      have e' : (zs.toList.drop (k * P.cellsOf e)).take (P.cellsOf e) = ((zs.toList.drop (k * P.cellsOf e)).take (k * P.cellsOf e + P.cellsOf e + n * P.cellsOf e - k * P.cellsOf e)).take (P.cellsOf e) := by
        rw [List.take_take]; congr 1; omega
      rw [e']
      exact (List.take_append_drop _ _).symm
    rw [e1 xs hx, e1 ys hy] at hs
    obtain ⟨b1, b2, h1, h2, rfl⟩ := sameL_append (by simp; omega) hs
    obtain ⟨u, v, p1, p2, p3⟩ := hd D xs ys (k * P.cellsOf e) b1 w (by omega) (by omega) h1
    have hrec := flat_items hd D xs ys w n (k + 1) b2 (by omega) (by omega) h2
    simp only [List.range'_succ, Op.eqItems, Sem.run_bind, p1, p2, p3, Result.andThen_ok]
    cases b1 <;> simp [hrec]

theorem sameL_one {x y : Value} {b : Bool} (h : sameL [x] [y] = some b) : same0 x y = some b := by
  simp only [sameL] at h
  split at h
  · rename_i c d hc hd; cases hd; simp at h; subst h; exact hc
  · cases h

theorem flat_ok : ∀ (d : Nat) (t : TypeId), flatTy P d t = true → FlatOk P d t
  | 0, _, h => by simp [flatTy] at h
  | d + 1, t, h => by
    intro D xs ys off b w hx hy hs
    have one : P.cellsOf t = 1 → ∃ x y, xs[off]? = some x ∧ ys[off]? = some y ∧ same0 x y = some b := by
      intro h1
      rw [h1] at hs hx hy
      refine ⟨xs[off], ys[off], by simp, by simp, sameL_one ?_⟩
      have e1 : ∀ zs : Array Value, (hz : off + 1 ≤ zs.size) → (zs.toList.drop off).take 1 = [zs[off]] := by
        intro zs hz
        rw [List.drop_eq_getElem_cons (by simp; omega)]
        simp
      rwa [e1 xs hx, e1 ys hy] at hs
    unfold flatTy at h
    split at h
    · rename_i k hu
      obtain ⟨x, y, hx1, hy1, h0⟩ := one (by simpa using h)
      have ha : ∀ w, (isAgg t).run P w = .ok false w := fun w => by simp [isAgg, run_under hu]
      refine ⟨x, y, part_one ha hx1 w, part_one ha hy1 w, ?_⟩
      cases x <;> cases y <;> simp only [same0] at h0 <;> first | (cases h0; done) | skip
      split at h0
      · rename_i hk; cases hk; cases h0; exact eqIn_int _ _ hu _ _ _
      · cases h0
    · rename_i fs hu
      simp only [Bool.and_eq_true, Bool.not_eq_true', beq_iff_eq] at h
      obtain ⟨i, hi⟩ := under_info hu
      have ha : ∀ w, (isAgg t).run P w = .ok true w := fun w => by simp [isAgg, run_under hu]
      refine ⟨_, _, part_agg ha hi xs off w, part_agg ha hi ys off w, ?_⟩
      have hfo : P.fieldsOf t = fs := by simp [Program.fieldsOf, hu]
      rw [show D + (d + 1) = (D + d) + 1 from rfl, run_equalIn_struct w (D + d) t _ _ (by rw [hfo]; exact hu) h.1, hfo]
      refine flat_fields (flat_ok d) D _ _ w fs.toList 0 _ b h.2 (by simp; omega) (by simp; omega) ?_
      have e1 : ∀ zs : Array Value, ((zs.extract off (off + P.cellsOf t)).toList.take (P.cellsOf t)).drop 0 = (zs.toList.drop off).take (P.cellsOf t) := by
        intro zs; simp [List.take_take]
      rw [e1, e1]; exact hs
    · rename_i n e hu
      simp only [Bool.and_eq_true, beq_iff_eq] at h
      obtain ⟨i, hi⟩ := under_info hu
      have ha : ∀ w, (isAgg t).run P w = .ok true w := fun w => by simp [isAgg, run_under hu]
      refine ⟨_, _, part_agg ha hi xs off w, part_agg ha hi ys off w, ?_⟩
      have hie : ∃ j, P.info? e = some j := by
        have h1 := h.1
        cases d with
        | zero => simp [flatTy] at h1
        | succ d =>
          unfold flatTy at h1
          split at h1 <;> first | (rename_i hu2; exact under_info hu2) | (cases h1; done)
      obtain ⟨j, hj⟩ := hie
      rw [show D + (d + 1) = (D + d) + 1 from rfl, run_equalIn_array w (D + d) _ _ hu hj, List.range_eq_range']
      refine flat_items (flat_ok d e h.1) D _ _ w n 0 b (by simp; omega) (by simp; omega) ?_
      have e1 : ∀ zs : Array Value, ((zs.extract off (off + P.cellsOf t)).toList.take ((0 + n) * P.cellsOf e)).drop (0 * P.cellsOf e) = (zs.toList.drop off).take (P.cellsOf t) := by
        intro zs; simp [h.2, List.take_take]
      rw [e1, e1]; exact hs
    · cases h

theorem sameL_same : ∀ {xs ys : List Value} {b : Bool}, sameL xs ys = some b → ∀ {xs' : List Value}, All2 (SRel ρ) xs xs' → xs' = xs
  | [], _, _, _, _, hr => by cases hr; rfl
  | x :: xs, [], _, h, _, _ => by simp [sameL] at h
  | x :: xs, y :: ys, b, h, _, hr => by
    simp only [sameL] at h
    split at h
    · rename_i c d hc hd
      cases hr with
      | cons hx hs =>
        rw [sameL_same hd hs]
        cases x <;> cases y <;> simp only [same0] at hc <;> first | (cases hc; done) | skip
        rw [hx.t.int_inv]
    · cases h
theorem sameL_same' : ∀ {xs ys : List Value} {b : Bool}, sameL xs ys = some b → ∀ {ys' : List Value}, All2 (SRel ρ) ys ys' → ys' = ys
  | _, [], _, _, _, hr => by cases hr; rfl
  | [], y :: ys, _, h, _, _ => by simp [sameL] at h
  | x :: xs, y :: ys, b, h, _, hr => by
    simp only [sameL] at h
    split at h
    · rename_i c d hc hd
      cases hr with
      | cons hx hs =>
        rw [sameL_same' hd hs]
        cases x <;> cases y <;> simp only [same0] at hc <;> first | (cases hc; done) | skip
        rw [hx.t.int_inv]
    · cases h

theorem sameL_length : ∀ {xs ys : List Value} {b : Bool}, sameL xs ys = some b → xs.length = ys.length
  | [], [], _, _ => rfl
  | [], _ :: _, _, h => by simp [sameL] at h
  | _ :: _, [], _, h => by simp [sameL] at h
  | x :: xs, y :: ys, b, h => by
    simp only [sameL] at h
    split at h
    · rename_i c d hc hd; simp [sameL_length hd]
    · cases h

/-- Two structs or arrays of numbers. -/
theorem flat_top {d : Nat} {t : TypeId} (h : flatTy P d t = true) (hag : ∀ w, (isAgg t).run P w = .ok true w) {xs ys : Array Value} {b : Bool} (hl : xs.size = P.cellsOf t) (hs : sameL xs.toList ys.toList = some b) (D : Nat) (w : World) :
    (Op.equalIn (D + d) t (.agg xs) (.agg ys)).run P w = .ok b w := by
  have hl2 : ys.size = P.cellsOf t := by have := sameL_length hs; simp at this; omega
  obtain ⟨u, v, h1, h2, h3⟩ := flat_ok d t h D xs ys 0 b w (by omega) (by omega) (by rw [List.drop_zero, List.drop_zero, List.take_of_length_le (by simp; omega), List.take_of_length_le (by simp; omega)]; exact hs)
  have hi : ∃ i, P.info? t = some i := by
    cases d with
    | zero => simp [flatTy] at h
    | succ d => unfold flatTy at h; split at h <;> first | (rename_i hu2; exact under_info hu2) | (cases h; done)
  obtain ⟨i, hi⟩ := hi
  rw [part_agg hag hi xs 0 w] at h1
  rw [part_agg hag hi ys 0 w] at h2
  cases h1; cases h2
  have e1 : ∀ zs : Array Value, zs.size = P.cellsOf t → zs.extract 0 (0 + P.cellsOf t) = zs := by
    intro zs hz; rw [← hz]; simp
  rw [e1 xs hl, e1 ys hl2] at h3
  exact h3

theorem kd_of {t : TypeId} {op : BinOp} {kd : Kd} (hop : op = .eql ∨ op = .neq) (hk : kdOf P t op = some kd) :
    (kd = .int ∧ ∃ k, P.underlying t = some (.int k)) ∨ (kd = .bool ∧ P.underlying t = some .bool) ∨ (kd = .str ∧ P.underlying t = some .string) ∨ (kd = .ptr ∧ ∃ e, P.underlying t = some (.pointer e)) ∨
    (kd = .slice ∧ ∃ e, P.underlying t = some (.slice e)) ∨ (kd = .map ∧ ∃ k e, P.underlying t = some (.map k e)) ∨ (kd = .func ∧ ∃ k e b, P.underlying t = some (.func k e b)) ∨
    (kd = .agg (P.cellsOf t) ∧ (∀ w, (isAgg t).run P w = .ok true w) ∧ flatTy P 8 t = true ∧ P.eqGuardType P.depth t = false) := by
  have hk' : (match P.underlying t with
    | some (.int _) => some Kd.int
    | some .bool => some .bool
    | some .string => some .str
    | some (.pointer _) => some .ptr
    | some (.slice _) => some .slice
    | some (.map _ _) => some .map
    | some (.func _ _ _) => some .func
    | some (.struct _) | some (.array _ _) => if flatTy P 8 t && !P.eqGuardType P.depth t then some (.agg (P.cellsOf t)) else none
    | _ => none) = some kd := by rcases hop with rfl | rfl <;> exact hk
  split at hk' <;> (try split at hk') <;> simp_all [isAgg, run_under]

theorem slice_inv0 {l c : Nat} {v' : Value} (h : TRel ρ (.slice none l c) v') : v' = .slice none 0 0 ∧ l = 0 ∧ c = 0 := by
  have h := h.prel_inv trivial
  cases h; exact ⟨rfl, rfl, rfl⟩
theorem map_inv {h : Option Nat} {v' : Value} (hr : TRel ρ (.map h) v') : v' = .map (h.map fun h => (ρ h).blk) ∧ ∀ x, h = some x → (ρ x).ok = true := by
  have hr := hr.prel_inv trivial
  cases hr with
  | nilmap => exact ⟨rfl, by simp⟩
  | map h hn => exact ⟨rfl, by simpa using hn⟩

theorem deq_run {t : TypeId} {kd : Kd} {op : BinOp} (hop : op = .eql ∨ op = .neq) (hk : kdOf P t op = some kd) {x y x' y' : Value} (hx : TRel ρ x x') (hy : TRel ρ y y') {b : Bool} (hd : deq kd x y = some b) (w : World) :
    (Op.equal t x' y').run P w = .ok b w := by
  rw [equal_eq]
  rcases kd_of hop hk with ⟨rfl, k, hu⟩ | ⟨rfl, hu⟩ | ⟨rfl, hu⟩ | ⟨rfl, e, hu⟩ | ⟨rfl, e, hu⟩ | ⟨rfl, k, e, hu⟩ | ⟨rfl, k, e, c, hu⟩ | ⟨rfl, hag, hfl, hgu⟩
  · cases x <;> simp [deq] at hd
  · cases x with
    | bool p => cases y with
      | bool q => simp only [deq, Option.some.injEq] at hd; subst hd; obtain rfl := hx.bool_inv; obtain rfl := hy.bool_inv; exact eqIn_bool _ _ hu _ _
      | _ => simp [deq] at hd
    | _ => simp [deq] at hd
  · cases x with
    | string p => cases y with
      | string q => simp only [deq, Option.some.injEq] at hd; subst hd; obtain rfl := hx.str_inv; obtain rfl := hy.str_inv; exact eqIn_str _ _ hu _ _
      | _ => simp [deq] at hd
    | _ => simp [deq] at hd
  · cases x with
    | pointer p => cases y with
      | pointer q =>
        cases p with
        | none =>
          simp only [deq, Option.some.injEq] at hd; subst hd; obtain rfl := hx.nilp_inv
          cases q with
          | none => obtain rfl := hy.nilp_inv; exact eqIn_ptr0 _ _ hu _
          | some q => obtain ⟨_, _, rfl⟩ := hy.ptr_inv; exact eqIn_ptr0 _ _ hu _
        | some p =>
          cases q with
          | none => simp only [deq, Option.some.injEq] at hd; subst hd; obtain ⟨_, _, rfl⟩ := hx.ptr_inv; obtain rfl := hy.nilp_inv; exact eqIn_ptr1 _ _ hu _
          | some q => simp [deq] at hd
      | _ => cases p <;> simp [deq] at hd
    | _ => simp [deq] at hd
  · cases x with
    | slice p l c => cases y with
      | slice q l' c' =>
        cases p with
        | none =>
          simp only [deq, Option.some.injEq] at hd; subst hd; obtain ⟨rfl, _, _⟩ := slice_inv0 hx
          cases q with
          | none => obtain ⟨rfl, _, _⟩ := slice_inv0 hy; exact eqIn_sl0 _ _ hu _ _ _ _ _
          | some q => obtain ⟨_, _, rfl, _⟩ := slice_inv hy; exact eqIn_sl0 _ _ hu _ _ _ _ _
        | some p =>
          cases q with
          | none => simp only [deq, Option.some.injEq] at hd; subst hd; obtain ⟨_, _, rfl, _⟩ := slice_inv hx; obtain ⟨rfl, _, _⟩ := slice_inv0 hy; exact eqIn_sl1 _ _ hu _ _ _ _ _
          | some q => simp [deq] at hd
      | _ => cases p <;> simp [deq] at hd
    | _ => simp [deq] at hd
  · cases x with
    | map p => cases y with
      | map q =>
        cases p with
        | none =>
          simp only [deq, Option.some.injEq] at hd; subst hd
          obtain ⟨rfl, _⟩ := map_inv hx; obtain ⟨rfl, _⟩ := map_inv hy
          cases q <;> exact eqIn_map0 _ _ hu _
        | some p =>
          cases q with
          | none => simp only [deq, Option.some.injEq] at hd; subst hd; obtain ⟨rfl, _⟩ := map_inv hx; obtain ⟨rfl, _⟩ := map_inv hy; exact eqIn_map1 _ _ hu _
          | some q => simp [deq] at hd
      | _ => cases p <;> simp [deq] at hd
    | _ => simp [deq] at hd
  · cases x with
    | nilFunc => cases y with
      | nilFunc => simp only [deq, Option.some.injEq] at hd; subst hd; obtain rfl := hx.nilf_inv; obtain rfl := hy.nilf_inv; exact eqIn_fn00 _ _ hu
      | func f p q => simp only [deq, Option.some.injEq] at hd; subst hd; obtain rfl := hx.nilf_inv; obtain ⟨_, _, rfl, _⟩ := hy.fn_inv; exact eqIn_fn01 _ _ hu _ _ _
      | _ => simp [deq] at hd
    | func f p q => cases y with
      | nilFunc => simp only [deq, Option.some.injEq] at hd; subst hd; obtain ⟨_, _, rfl, _⟩ := hx.fn_inv; obtain rfl := hy.nilf_inv; exact eqIn_fn10 _ _ hu _ _ _
      | _ => simp [deq] at hd
    | _ => simp [deq] at hd
  · cases x with
    | agg xs => cases y with
      | agg ys =>
        simp only [deq] at hd
        split at hd
        · rename_i hl
          obtain ⟨xs', rfl, h1⟩ := hx.agg_inv
          obtain ⟨ys', rfl, h2⟩ := hy.agg_inv
          have e1 := sameL_same hd h1
          have e2 := sameL_same' hd h2
          have e1' : xs' = xs := by cases xs; cases xs'; simpa using e1
          have e2' : ys' = ys := by cases ys; cases ys'; simpa using e2
          subst e1'; subst e2'
          exact flat_top (d := 8) hfl hag (by simpa using hl) hd 9992 w
        · cases hd
      | _ => simp [deq] at hd
    | _ => simp [deq] at hd
end Go.Proofs.Ytckdmhjhjfmcdaa.Sx
