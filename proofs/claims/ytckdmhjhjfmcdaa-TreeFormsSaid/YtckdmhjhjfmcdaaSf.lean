/-
  Every operation that only reads: the machine gives what the abstract one gives.
-/
import Derived.Test.YtckdmhjhjfmcdaaSe
namespace Go.Proofs.Ytckdmhjhjfmcdaa.Sx
set_option linter.unusedSimpArgs false
set_option linter.unusedVariables false
open Go
variable {P : Program} {ρ : Ren} {N : Nat} {E : Env} {A : AHeap} {a : Act} {w : World}

/-- Values that no arithmetic takes. -/
def noNum : Value → Bool
  | .bool _ | .pointer _ | .slice _ _ _ | .map _ | .func _ _ _ | .nilFunc | .agg _ => true
  | _ => false

theorem TRel.noNum {v v' : Value} (h : TRel ρ v v') (hn : noNum v = true) : Sx.noNum v' = true := by
  cases h with
  | v h => cases h with
    | s h => cases h with
      | p h => cases h <;> first | rfl | (cases hn; done)
      | nilf => rfl
      | fn => rfl
    | agg => rfl
  | tup => cases hn

theorem binOp_eql (t : TypeId) (x y : Value) (hx : noNum x = true) : binOp .eql t x y = (do pure (.bool (← Op.equal t x y))) := by
  cases x <;> first | (cases hx; done) | (cases y <;> rfl)
theorem binOp_neq (t : TypeId) (x y : Value) (hx : noNum x = true) : binOp .neq t x y = (do pure (.bool (!(← Op.equal t x y)))) := by
  cases x <;> first | (cases hx; done) | (cases y <;> rfl)
theorem eqGuard_plain (op : BinOp) (t : TypeId) (ox oy : Operand) (x y : Value) (hx : ∀ cs, x ≠ .agg cs) (hn : x ≠ .nilIface) (w : World) : (eqGuard op t ox oy x y).run P w = .ok () w := by
  cases op <;> simp only [eqGuard, Bool.not_true, Bool.not_false, if_true, if_false, Sem.run_pure, Bool.false_eq_true] <;> cases x <;> first | rfl | (exact (hn rfl).elim) | (exact (hx _ rfl).elim) | (cases y <;> rfl)

theorem deq_noNum {kd : Kd} {x y : Value} {b : Bool} (h : deq kd x y = some b) : noNum x = true ∨ kd = .str := by
  cases kd <;> first | exact .inr rfl | (cases x <;> first | exact .inl rfl | (simp [deq] at h))

theorem dbin_run {t : TypeId} {kd : Kd} {op : BinOp} (hk : kdOf P t op = some kd) {x y : Value} {x' y' : Value} (hx : TRel ρ x x') (hy : TRel ρ y y') {v : Value} (hd : dbin kd op x y = some v) (ox oy : Operand) (w : World) :
    (do eqGuard op t ox oy x' y'; binOp op t x' y').run P w = .ok v w ∧ TRel ρ v v := by
  by_cases hint : ∃ k i k' j, x = .int k i ∧ y = .int k' j
  · obtain ⟨k, i, k', j, rfl, rfl⟩ := hint
    simp only [dbin] at hd
    obtain rfl := hx.int_inv; obtain rfl := hy.int_inv
    refine ⟨?_, dint_flat hd⟩
    rw [Sem.run_bind, eqGuard_plain op t ox oy _ _ (by simp) (by simp)]
    exact run_dint hd w
  · have hd' : dcmp kd op x y = some v := by
      unfold dbin at hd
      split at hd
      · exact (hint ⟨_, _, _, _, rfl, rfl⟩).elim
      · exact hd
    have key : ∀ b, (op = .eql ∨ op = .neq) → deq kd x y = some b → (eqGuard op t ox oy x' y').run P w = .ok () w ∧ (binOp .eql t x' y').run P w = .ok (.bool b) w ∧ (binOp .neq t x' y').run P w = .ok (.bool (!b)) w := by
      intro b hop hdq
      have hrun := deq_run hop hk hx hy hdq w
      rcases deq_noNum hdq with hno | hstr
      · have hno' := hx.noNum hno
        refine ⟨?_, by rw [binOp_eql t x' y' hno']; simp [hrun], by rw [binOp_neq t x' y' hno']; simp [hrun]⟩
        by_cases hagg : ∃ cs, x' = .agg cs
        · obtain ⟨xs', rfl⟩ := hagg
          have hxa : ∃ xs, x = .agg xs := by
            cases hx with
            | v h => cases h with
              | s h => cases h with | p h => cases h
              | agg cs cs' h => exact ⟨_, rfl⟩
          obtain ⟨xs, rfl⟩ := hxa
          cases y with
          | agg ys =>
            obtain ⟨ys', rfl, _⟩ := hy.agg_inv
            rcases kd_of hop hk with ⟨rfl, k, hu⟩ | ⟨rfl, hu⟩ | ⟨rfl, hu⟩ | ⟨rfl, e, hu⟩ | ⟨rfl, e, hu⟩ | ⟨rfl, k, e, hu⟩ | ⟨rfl, k, e, c, hu⟩ | ⟨rfl, hag, hfl, hgu⟩ <;> first
              | (simp [deq] at hdq; done)
              | exact run_eqGuard_agg w op t ox oy xs' ys' hgu
          | _ => cases kd <;> simp [deq] at hdq
        · exact eqGuard_plain op t ox oy x' y' (fun cs e => hagg ⟨cs, e⟩) (fun e => by rw [e] at hno'; cases hno') w
      · subst hstr
        cases x <;> cases y <;> simp [deq] at hdq
        obtain rfl := hx.str_inv; obtain rfl := hy.str_inv
        subst hdq
        refine ⟨eqGuard_plain op t ox oy _ _ (by simp) (by simp) w, ?_, ?_⟩ <;> simp [binOp, Op.stringOp, beq_toListBytes]
    cases op <;> simp only [dcmp] at hd' <;> first | (cases hd'; done) | skip
    · obtain ⟨b, hb, rfl⟩ := Option.map_eq_some_iff.1 hd'
      obtain ⟨h1, h2, h3⟩ := key b (.inl rfl) hb
      exact ⟨by rw [Sem.run_bind, h1]; exact h2, .v (.s (.p (.bool _)))⟩
    · obtain ⟨b, hb, rfl⟩ := Option.map_eq_some_iff.1 hd'
      obtain ⟨h1, h2, h3⟩ := key b (.inr rfl) hb
      exact ⟨by rw [Sem.run_bind, h1]; exact h3, .v (.s (.p (.bool _)))⟩

/-- The machine gives 'v'' and leaves the world. -/
def Gives (P : Program) (o : Oper) (a : Act) (w : World) (ρ : Ren) (v : Value) : Prop := ∃ v', (execOp a.eval o).run P w = .ok (.value v') w ∧ TRel ρ v v'

theorem gives_of {o : Oper} {s : Sem Value} {v : Value} (ho : execOp a.eval o = (do pure (.value (← s)))) (h : ∃ v', s.run P w = .ok v' w ∧ TRel ρ v v') : Gives P o a w ρ v := by
  obtain ⟨v', h1, h2⟩ := h
  exact ⟨v', by rw [ho]; simp [h1], h2⟩

theorem snd_build {P : Program} {t : TypeId} {parts : Array (Nat × Operand)} {zs : List Value} {ps : List (Nat × Nat × Operand)} (hc : compL P (.build t parts) = some (.build zs ps)) (he : ERel ρ N E a)
    {vs : List (Nat × Nat × Value)} (hv : evalParts E ps = some vs) (hnt : vs.all (fun x => noTup x.2.2) = true) {cs : List Value} (hf : fillL zs vs = some cs) :
    ∃ v', (Instr.build t (parts.map fun (i, x) => (i, a.eval x))).run P w = .ok v' w ∧ TRel ρ (.agg cs.toArray) v' := by
  have hvr : ∀ x ∈ vs, ∀ y, TRel ρ x.2.2 y → VRel ρ x.2.2 y := by
    intro x hx y hy
    have := List.all_eq_true.1 hnt x hx
    exact hy.v_of (fun us e => by rw [e] at this; cases this)
  simp only [compL] at hc
  split at hc
  · rename_i fs zs' hu hz
    split at hc
    · rename_i hall
      obtain ⟨ps', h1, h2⟩ := Option.map_eq_some_iff.1 hc
      cases h2
      obtain ⟨z, h3, h4, h5⟩ := zeroL_some hz
      have hm : ∀ (l : List Field), (∀ f ∈ l, (P.info? f.type).isSome) → (l.mapM (m := Sem) fun f => do pure (f.offset, ← sizeOf f.type)).run P w = .ok (l.map fun f => (f.offset, P.cellsOf f.type)) w := by
        intro l
        induction l with
        | nil => intro _; simp
        | cons f l ih =>
          intro hl
          obtain ⟨i, hi⟩ := Option.isSome_iff_exists.1 (hl f (by simp))
          have := ih (fun g hg => hl g (by simp [hg]))
          simp only [List.mapM_cons, Sem.run_bind, run_size hi, Result.andThen_ok, Sem.run_pure, this, List.map_cons, Program.cellsOf, hi, Option.map_some, Option.getD_some]
      have hall' : ∀ f ∈ fs.toList, (P.info? f.type).isSome := by
        intro f hf
        have := Array.all_eq_true'.1 hall f (by simpa using hf)
        simpa using this
      have hmf := hm fs.toList hall'
      have hrel := partsOf_rel (P := P) (fs := fs) (places := (fs.toList.map fun f => (f.offset, P.cellsOf f.type)).toArray) (fun i f hf => by
        have hfm : f ∈ fs.toList := by
          have : fs.toList[i]? = some f := by simpa using hf
          exact List.mem_of_getElem? this
        obtain ⟨ti, hti⟩ := Option.isSome_iff_exists.1 (hall' f hfm)
        exact ⟨ti, hti, by simp [hf, Program.cellsOf, hti]⟩) he h1 hv hvr
      obtain ⟨cs', h6, h7⟩ := fill_rel hrel (h5 ρ) hf
      refine ⟨.agg cs', ?_, .v (by simpa using VRel.agg _ _ h7)⟩
      have hz' : z.cells = zs.toArray := by rw [← h4]
      simp only [Instr.build, Sem.run_bind, h3, run_under hu, Result.andThen_ok]
      rw [Array.mapM_eq_mapM_toList]
      simp only [Sem.run_map, hmf, Result.andThen_ok]
      have e2 : (Array.map (fun x => (x.1, a.eval x.2)) parts).toList = parts.toList.map (fun p => (p.1, a.eval p.2)) := by simp
      rw [hz', e2, h6]
      rfl
    · cases hc
  · rename_i m e zs' hu hz
    obtain ⟨ti, h1, h2⟩ := Option.map_eq_some_iff.1 hc
    cases h2
    obtain ⟨z, h3, h4, h5⟩ := zeroL_some hz
    have hrel := partsArr_rel (s := ti.size) he (xs := parts.toList) hv hvr
    obtain ⟨cs', h6, h7⟩ := fill_rel (place := fun i => some (i * ti.size, ti.size)) hrel (h5 ρ) hf
    refine ⟨.agg cs', ?_, .v (by simpa using VRel.agg _ _ h7)⟩
    have hz' : z.cells = zs.toArray := by rw [← h4]
    have e2 : (Array.map (fun x => (x.1, a.eval x.2)) parts).toList = parts.toList.map (fun p => (p.1, a.eval p.2)) := by simp
    simp only [Instr.build, Sem.run_bind, h3, run_under hu, run_size h1, Result.andThen_ok]
    rw [hz', e2, h6]
    rfl
  · cases hc
end Go.Proofs.Ytckdmhjhjfmcdaa.Sx
