/-
  The machine gives what the abstract reading operations give.
-/
import Derived.Test.YtckdmhjhjfmcdaaSc
namespace Go.Proofs.Ytckdmhjhjfmcdaa.Sx
set_option linter.unusedSimpArgs false
set_option linter.unusedVariables false
open Go
variable {P : Program} {ρ : Ren} {N : Nat} {E : Env} {A : AHeap} {a : Act} {w : World}

theorem addr_add (ρ : Ren) (h o j : Nat) : (ρ.addr h o).add j = ρ.addr h (o + j) := by
  unfold Addr.add Ren.addr
  split
  · rename_i e; simp [e]
  · simp only [Addr.mk.injEq, and_true, true_and]; omega

theorem cell_at {h o : Nat} {ro : Bool} {cs : List Value} (hc : CellsAt ρ (ρ h) ro cs w) {v : Value} (hv : cs[o]? = some v) : ∃ v', w.cell? (ρ.addr h o) = some v' ∧ SRel ρ v v' := by
  obtain ⟨C, t, fr, h1, _, _, h4, _⟩ := hc
  obtain ⟨v', h5, h6⟩ := h4 o v hv
  exact ⟨v', by simp [World.cell?, Ren.addr, h1, h5], h6⟩

theorem cells_list {h : Nat} {ro : Bool} {cs : List Value} (hc : CellsAt ρ (ρ h) ro cs w) (o m : Nat) (hm : o + m ≤ cs.length) :
    ∃ xs : List Value, xs.length = m ∧ All2 (SRel ρ) ((cs.drop o).take m) xs ∧ ∀ (j : Nat) v, xs[j]? = some v → w.cell? ((ρ.addr h o).add j) = some v := by
  obtain ⟨C, t, fr, h1, h2, h3, h4, _⟩ := hc
  have hlen : ((C.toList.drop ((ρ h).off + o)).take m).length = m := by simp; omega
  refine ⟨(C.toList.drop ((ρ h).off + o)).take m, hlen, ?_, ?_⟩
  · refine All2.of_get (by rw [hlen]; simp; omega) fun k x y hx hy => ?_
    rw [List.getElem?_take, List.getElem?_drop] at hx hy
    split at hx
    · rename_i hk
      rw [if_pos hk] at hy
      obtain ⟨v', h5, h6⟩ := h4 (o + k) x hx
      rw [← Nat.add_assoc] at h5
      have : C[(ρ h).off + o + k]? = some y := by simpa using hy
      rw [this] at h5; cases h5; exact h6
    · cases hx
  · intro j v hv
    rw [List.getElem?_take, List.getElem?_drop] at hv
    split at hv
    · rw [addr_add]
      have : C[(ρ h).off + o + j]? = some v := by simpa using hv
      simp [World.cell?, Ren.addr, h1, ← Nat.add_assoc, this]
    · cases hv

theorem run_under {t : TypeId} {d : TypeDesc} (h : P.underlying t = some d) (w : World) : (underlying t).run P w = .ok d w := run_underlying h w
theorem run_info {t : TypeId} {i : TypeInfo} (h : P.info? t = some i) (w : World) : (typeInfo t).run P w = .ok i w := by simp [typeInfo, h]
theorem run_size {t : TypeId} {i : TypeInfo} (h : P.info? t = some i) (w : World) : (sizeOf t).run P w = .ok i.size w := by simp [sizeOf, run_info h]

theorem aggSz_none {t : TypeId} (h : aggSz P t = some none) : (∀ w, (isAgg t).run P w = .ok false w) ∧ ∃ i, P.info? t = some i ∧ i.size = 1 := by
  unfold aggSz at h
  split at h
  · simp at h
  · simp at h
  · rename_i d i h1 h2 h3 h4
    split at h
    · rename_i hs
      refine ⟨fun w => ?_, i, h4, hs⟩
      simp only [isAgg, Sem.run_bind, run_under h3, Result.andThen]
      cases d <;> first
        | exact (h1 _ _ rfl rfl).elim
        | exact (h2 _ _ _ rfl rfl).elim
        | rfl
        | (simp_all; done)
    · cases h
  · cases h
theorem aggSz_some {t : TypeId} {m : Nat} (h : aggSz P t = some (some m)) : (∀ w, (isAgg t).run P w = .ok true w) ∧ ∃ i, P.info? t = some i ∧ i.size = m := by
  unfold aggSz at h
  split at h
  · rename_i fs i h1 h2
    cases h
    exact ⟨fun w => by simp [isAgg, run_under h1], i, h2, rfl⟩
  · rename_i fs e i h1 h2
    cases h
    exact ⟨fun w => by simp [isAgg, run_under h1], i, h2, rfl⟩
  · split at h <;> cases h
  · cases h

theorem run_part {t : TypeId} {ag : Option Nat} (ha : aggSz P t = some ag) {cs cs' : Array Value} (hcs : All2 (SRel ρ) cs.toList cs'.toList) {off : Nat} {v : Value} (hv : partV ag cs.toList off = some v) :
    ∃ v', (part t cs' off).run P w = .ok v' w ∧ VRel ρ v v' := by
  cases ag with
  | none =>
    obtain ⟨h1, i, h2, h3⟩ := aggSz_none ha
    simp only [partV] at hv
    obtain ⟨v', h4, h5⟩ := hcs.get hv
    have : cs'[off]? = some v' := by simpa using h4
    exact ⟨v', by simp [part, h1, this], .s h5⟩
  | some m =>
    obtain ⟨h1, i, h2, h3⟩ := aggSz_some ha
    simp only [partV, Option.some.injEq] at hv
    subst hv
    refine ⟨.agg (cs'.extract off (off + m)), by simp [part, h1, run_size h2, h3], ?_⟩
    have := VRel.agg _ _ ((hcs.drop off).take m)
    have e : (List.take m (List.drop off cs'.toList)).toArray = cs'.extract off (off + m) := by
      apply Array.ext'
      simp
    rwa [e] at this

theorem snd_load {t : TypeId} {ag : Option Nat} (ha : aggSz P t = some ag) (hr : HRel ρ A w) {h o : Nat} {ro : Bool} {cs : List Value} (hg : A.get h = some (.cells ro cs)) {v : Value} (hv : loadV ag cs o = some v) :
    ∃ v', (loadVar t (ρ.addr h o)).run P w = .ok v' w ∧ VRel ρ v v' := by
  have hc := hr.cells h ro cs hg
  cases ag with
  | none =>
    obtain ⟨h1, i, h2, h3⟩ := aggSz_none ha
    obtain ⟨v', h4, h5⟩ := cell_at hc (o := o) (v := v) hv
    exact ⟨v', by simp [loadVar, h1, h4], .s h5⟩
  | some m =>
    obtain ⟨h1, i, h2, h3⟩ := aggSz_some ha
    simp only [loadV] at hv
    split at hv
    · rename_i hm
      cases hv
      obtain ⟨xs, h4, h5, h6⟩ := cells_list hc o m hm
      refine ⟨.agg xs.toArray, ?_, .agg _ _ h5⟩
      have := run_loadCells_list (P := P) w (ρ.addr h o) xs h6
      rw [h4] at this
      simp [loadVar, h1, run_size h2, h3, this]
    · cases hv

theorem evalL_rel (he : ERel ρ N E a) : ∀ {xs : List Operand} {vs : List Value}, evalL E xs = some vs → All2 (TRel ρ) vs (xs.map a.eval)
  | [], vs, h => by simp [evalL] at h; subst h; exact .nil
  | x :: xs, vs, h => by
    simp only [evalL] at h
    split at h
    · rename_i v hv
      split at h
      · rename_i vs' hvs; cases h; exact .cons (eval_rel he hv) (evalL_rel he hvs)
      · cases h
    · cases h

theorem bnd_rel (he : ERel ρ N E a) {d : Nat} {x : Option Operand} {i : Int} (h : bnd E d x = some i) :
    (x = none ∧ i = d) ∨ ∃ y k, x = some y ∧ a.eval y = .int k i := by
  cases x with
  | none => simp [bnd] at h; exact .inl ⟨rfl, h.symm⟩
  | some y =>
    simp only [bnd] at h
    split at h
    · rename_i k i' hy
      cases h
      have := (eval_rel he hy).int_inv
      exact .inr ⟨y, k, rfl, this⟩
    · cases h

theorem int_bound (he : ERel ρ N E a) {x : Operand} {k : IntKind} {i : Int} (h : E.eval x = some (.int k i)) : a.eval x = .int k i := (eval_rel he h).int_inv

/-- A slice in the machine, of an abstract slice. -/
theorem slice_inv {b : Addr} {l s : Nat} {v' : Value} (h : TRel ρ (.slice (some b) l s) v') :
    ∃ b' c, v' = .slice (some b') l c ∧ l ≤ c ∧ (ρ b.block).ok = true ∧ (0 < l → b' = ρ.addr b.block b.off ∧ b.off + c * s ≤ (ρ b.block).ext ∧ 0 < s) ∧
      ((b' = ρ.addr b.block b.off ∧ b.off + c * s ≤ (ρ b.block).ext ∧ 0 < s) ∨ (l = 0 ∧ c = 0)) ∧ (b.spot = some 0 → c = l) ∧ (b.spot = none ∨ b.spot = some 0) := by
  have h := h.prel_inv trivial
  cases h with
  | sl h o l s c hn hl hc hs => exact ⟨_, c, rfl, hl, hn, fun _ => ⟨rfl, hc, hs⟩, .inl ⟨rfl, hc, hs⟩, by simp, .inl rfl⟩
  | sl0 h o s a hn => exact ⟨a, 0, rfl, Nat.le_refl _, hn, by omega, .inr ⟨rfl, rfl⟩, by simp, .inl rfl⟩
  | cap h o l s hn hc hs => exact ⟨_, l, rfl, Nat.le_refl _, hn, fun _ => ⟨rfl, hc, hs⟩, .inl ⟨rfl, hc, hs⟩, by simp, .inr rfl⟩
  | cap0 h o s a hn => exact ⟨a, 0, rfl, Nat.le_refl _, hn, by omega, .inr ⟨rfl, rfl⟩, by simp, .inr rfl⟩

theorem run_sliceBound {x : Value} {k : IntKind} {i : Int} {y : Nat} {code : BoundsCode} (hx : x = .int k i) (h0 : 0 ≤ i) (h1 : i ≤ y) (w : World) : (Instr.sliceBound x y code).run P w = .ok i.toNat w := by
  subst hx; simp [Instr.sliceBound, asIntOf, h0, h1]

theorem run_sliceBounds (he : ERel ρ N E a) {isS : Bool} {len cap : Nat} {lo hi : Option Operand} {l h : Int} (hl : bnd E 0 lo = some l) (hh : bnd E len hi = some h)
    (h0 : 0 ≤ l) (h1 : l ≤ h) (h2 : h ≤ len) (hc : len ≤ cap) (w : World) :
    (Instr.sliceBounds isS len cap (lo.map a.eval) (hi.map a.eval) none).run P w = .ok (l.toNat, h.toNat, cap) w := by
  rcases bnd_rel he hh with ⟨rfl, rfl⟩ | ⟨y, k, rfl, hy⟩ <;> rcases bnd_rel he hl with ⟨rfl, rfl⟩ | ⟨z, k2, rfl, hz⟩
  · simp [Instr.sliceBounds]
  · have e2 := fun code => run_sliceBound (P := P) (y := len) (code := code) hz (by omega) (by omega) w
    simp [Instr.sliceBounds, e2]
  · have e1 := fun code => run_sliceBound (P := P) (y := cap) (code := code) hy (by omega) (by omega) w
    simp [Instr.sliceBounds, e1]
  · have e1 := fun code => run_sliceBound (P := P) (y := cap) (code := code) hy (by omega) (by omega) w
    have e2 := fun code => run_sliceBound (P := P) (y := h.toNat) (code := code) hz (by omega) (by omega) w
    simp [Instr.sliceBounds, e1, e2]

theorem run_sliceBounds3 (he : ERel ρ N E a) {isS : Bool} {len cap : Nat} {lo : Option Operand} {hi mx : Operand} {l h m : Int} (hl : bnd E 0 lo = some l) (hh : bnd E len (some hi) = some h)
    (hm : bnd E len (some mx) = some m) (h0 : 0 ≤ l) (h1 : l ≤ h) (h2 : h ≤ m) (h3 : m ≤ cap) (w : World) :
    (Instr.sliceBounds isS len cap (lo.map a.eval) (some (a.eval hi)) (some (a.eval mx))).run P w = .ok (l.toNat, h.toNat, m.toNat) w := by
  rcases bnd_rel he hm with ⟨hn, _⟩ | ⟨y, k, hy', hy⟩
  · cases hn
  cases hy'
  rcases bnd_rel he hh with ⟨hn, _⟩ | ⟨z, k2, hz', hz⟩
  · cases hn
  cases hz'
  have e1 := fun code => run_sliceBound (P := P) (y := cap) (code := code) hy (by omega) (by omega) w
  have e2 := fun code => run_sliceBound (P := P) (y := m.toNat) (code := code) hz (by omega) (by omega) w
  rcases bnd_rel he hl with ⟨rfl, rfl⟩ | ⟨u, k3, rfl, hu⟩
  · simp [Instr.sliceBounds, e1, e2]
  · have e3 := fun code => run_sliceBound (P := P) (y := h.toNat) (code := code) hu (by omega) (by omega) w
    simp [Instr.sliceBounds, e1, e2, e3]

/-- The slice of a slice. -/
theorem slice_sub {b b' : Addr} {len c s : Nat} {l h : Int} {m : Nat} (hn : (ρ b.block).ok = true) (hd : (b' = ρ.addr b.block b.off ∧ b.off + c * s ≤ (ρ b.block).ext ∧ 0 < s) ∨ (len = 0 ∧ c = 0))
    (h0 : 0 ≤ l) (h1 : l ≤ h) (h2 : h ≤ len) (hm : h.toNat ≤ m) (hmc : m ≤ c) :
    (TRel ρ (.slice (some ⟨b.block, b.off + l.toNat * s, none⟩) (h - l).toNat s) (.slice (if m = l.toNat then some b' else (some b').map (·.add (l.toNat * s))) (h.toNat - l.toNat) (m - l.toNat))) ∧
    (m = h.toNat → TRel ρ (.slice (some ⟨b.block, b.off + l.toNat * s, some 0⟩) (h - l).toNat s) (.slice (if m = l.toNat then some b' else (some b').map (·.add (l.toNat * s))) (h.toNat - l.toNat) (m - l.toNat))) := by
  have e : (h - l).toNat = h.toNat - l.toNat := by omega
  rw [e]
  by_cases hml : m = l.toNat
  · have e2 : h.toNat - l.toNat = 0 := by omega
    have e3 : m - l.toNat = 0 := by omega
    rw [if_pos hml, e2, e3]
    exact ⟨(PRel.sl0 _ _ _ _ hn).t, fun _ => (PRel.cap0 _ _ _ _ hn).t⟩
  · rw [if_neg hml]
    rcases hd with ⟨rfl, h3, h4⟩ | ⟨h3, h4⟩
    · simp only [Option.map_some, addr_add]
      have hbound : b.off + l.toNat * s + (m - l.toNat) * s ≤ (ρ b.block).ext := by
        have : l.toNat * s + (m - l.toNat) * s = m * s := by rw [← Nat.add_mul]; congr 1; omega
        have : m * s ≤ c * s := Nat.mul_le_mul_right s hmc
        omega
      refine ⟨(PRel.sl _ _ _ _ _ hn (by omega) hbound h4).t, fun hmh => ?_⟩
      rw [show m - l.toNat = h.toNat - l.toNat by omega] at hbound ⊢
      exact (PRel.cap _ _ _ _ hn hbound h4).t
    · omega
end Go.Proofs.Ytckdmhjhjfmcdaa.Sx
