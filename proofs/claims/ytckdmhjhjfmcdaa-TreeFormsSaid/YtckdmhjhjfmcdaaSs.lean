/-
  Code as a whole: what it comes to on the abstract state, and that the machine comes to the same.
-/
import Derived.Test.YtckdmhjhjfmcdaaSr
namespace Go.Proofs.Ytckdmhjhjfmcdaa.Sx
set_option linter.unusedSimpArgs false
set_option linter.unusedVariables false
open Go
variable {P : Program} {N : Nat} {ρ : Ren} {E : Env} {A : AHeap} {a : Act} {w : World}

inductive DCode
  | skip
  | exit (id : Nat)
  | ret
  | row (ds : List DOper) (live : List Nat)
  | draw (ds : List DOper) (p : Plan) (live : List Nat)
  | seq (x y : DCode)
  | cond (c : Operand) (x y : DCode) (live : List Nat)
  | block (id : Nat) (x : DCode) (live : List Nat)
  | loop (x : DCode)

def thenK (next : Env → AHeap → Prop) (K : Exit → Env → AHeap → Prop) : Exit → Env → AHeap → Prop
  | .normal, E, A => next E A
  | e, E, A => K e E A
def inBlockK (id : Nat) (K : Exit → Env → AHeap → Prop) : Exit → Env → AHeap → Prop
  | .exit id', E, A => if id' = id then K .normal E A else K (.exit id') E A
  | e, E, A => K e E A

def keepK (live : List Nat) (K : Exit → Env → AHeap → Prop) : Exit → Env → AHeap → Prop
  | .normal, E, A => K .normal (E.keep live) A
  | e, E, A => K e E A

def dwp (P : Program) : DCode → Env → AHeap → (Exit → Env → AHeap → Prop) → Prop
  | .skip, E, A, K => K .normal E A
  | .exit id, E, A, K => K (.exit id) E A
  | .ret, E, A, K => K .ret E A
  | .row ds live, E, A, K => dops P ds E A fun E' A' => K .normal (E'.keep live) A'
  | .draw ds p live, E, A, K => ddraw P ds p E A fun E' A' => K .normal (E'.keep live) A'
  | .seq x y, E, A, K => dwp P x E A (thenK (fun E' A' => dwp P y E' A' K) K)
  | .cond c x y live, E, A, K => match E.eval c with
    | some (.bool t) => (t = true → dwp P x E A (keepK live K)) ∧ (t = false → dwp P y E A (keepK live K))
    | _ => False
  | .block id x live, E, A, K => dwp P x E A (inBlockK id (keepK live K))
  | .loop x, E, A, K => ∃ I : Nat → Env → AHeap → Prop, (∃ n, I n E A) ∧ ∀ n E A, I n E A → dwp P x E A (thenK (fun E' A' => ∃ m, m < n ∧ I m E' A') K)

/-- What is said of a text from outside: the slots that are looked at later, and how a region is walked that draws its order. -/
inductive Ann
  | nil
  | reg (live : List Nat) (plan : Option Plan)
  | two (x y : Ann) (live : List Nat)
  | one (x : Ann) (live : List Nat)

def compC (P : Program) (N : Nat) : Ann → Code → Option DCode
  | .nil, .skip => some .skip
  | .nil, .exit id => some (.exit id)
  | .nil, .ret => some .ret
  | .reg live plan, .region _ ops draw => match compOpers P N ops ops.toList with
    | some ds => if draw then match plan with
        | some p => if planOk (ops.toList.map preOf) ds p then some (.draw ds p live) else none
        | none => none
      else some (.row ds live)
    | none => none
  | .two ax ay _, .seq x y => match compC P N ax x, compC P N ay y with
    | some x', some y' => some (.seq x' y')
    | _, _ => none
  | .two ax ay live, .cond c x y => match compC P N ax x, compC P N ay y with
    | some x', some y' => some (.cond c x' y' live)
    | _, _ => none
  | .one a live, .block id x => (compC P N a x).map (.block id · live)
  | .one a _, .loop x => (compC P N a x).map .loop
  | _, _ => none

theorem wp_loop_rank {c : Code} {Q : Exit → Act → World → Prop} (J : Nat → Act → World → Prop) (h0 : ∃ n, J n a w)
    (round : ∀ n a w, J n a w → c.wp P (Exit.then (fun a' w' => ∃ m, m < n ∧ J m a' w') Q) a w) : (Code.loop c).wp P Q a w := by
  classical
  have least : ∀ a w, (∃ n, J n a w) → ∃ n, J n a w ∧ ∀ m, J m a w → n ≤ m := by
    intro a w ⟨n, hn⟩
    induction n using Nat.strongRecOn with
    | _ n ih =>
      by_cases h : ∃ m, m < n ∧ J m a w
      · obtain ⟨m, h1, h2⟩ := h; exact ih m h1 h2
      · exact ⟨n, hn, fun m hm => Nat.le_of_not_lt fun hl => h ⟨m, hl, hm⟩⟩
  let μ : Act → World → Nat := fun a w => if h : ∃ n, J n a w then (least a w h).choose else 0
  have hμ : ∀ a w, (h : ∃ n, J n a w) → J (μ a w) a w ∧ ∀ m, J m a w → μ a w ≤ m := by
    intro a w h
    simp only [μ, h, dif_pos]
    exact (least a w h).choose_spec
  refine wp_loop (fun a w => ∃ n, J n a w) μ h0 fun a w hI => ?_
  obtain ⟨h1, _⟩ := hμ a w hI
  refine wp_mono (round _ a w h1) fun e a' w' hq => ?_
  cases e with
  | normal =>
    obtain ⟨m, h3, h4⟩ := hq
    exact ⟨⟨m, h4⟩, Nat.lt_of_le_of_lt ((hμ a' w' ⟨m, h4⟩).2 m h4) h3⟩
  | _ => exact hq

theorem St.keep (hs : St ρ N E A a w) (live : List Nat) : St ρ N (E.keep live) A a w := ⟨hs.e.sub fun t v h => Env.get_keep E live t v h, hs.h⟩

theorem keepK_of {live : List Nat} {K : Exit → Env → AHeap → Prop} {Q : Exit → Act → World → Prop}
    (hq : ∀ e ρ' E' A' a' w', K e E' A' → St ρ' N E' A' a' w' → Step ρ A w ρ' A' w' → Q e a' w') :
    ∀ e ρ' E' A' a' w', keepK live K e E' A' → St ρ' N E' A' a' w' → Step ρ A w ρ' A' w' → Q e a' w' := by
  intro e ρ' E' A' a' w' hk hs hst
  cases e with
  | normal => exact hq _ _ _ _ _ _ hk (hs.keep live) hst
  | _ => exact hq _ _ _ _ _ _ hk hs hst

theorem dwp_sound (hm : P.follows .mixedOrders = true) : ∀ {c : Code} {an : Ann} {d : DCode}, compC P N an c = some d → ∀ {ρ : Ren} {E : Env} {A : AHeap} {a : Act} {w : World} {K : Exit → Env → AHeap → Prop} {Q : Exit → Act → World → Prop}, St ρ N E A a w → dwp P d E A K →
    (∀ e ρ' E' A' a' w', K e E' A' → St ρ' N E' A' a' w' → Step ρ A w ρ' A' w' → Q e a' w') → c.wp P Q a w := by
  intro c
  induction c with
  | skip =>
    intro an d hc ρ E A a w K Q hs hd hq
    cases an <;> simp only [compC, reduceCtorEq, Option.some.injEq] at hc
    subst hc; exact wp_skip (hq _ _ _ _ _ _ hd hs (Step.refl _ _ _))
  | exit id =>
    intro an d hc ρ E A a w K Q hs hd hq
    cases an <;> simp only [compC, reduceCtorEq, Option.some.injEq] at hc
    subst hc; exact wp_exit (hq _ _ _ _ _ _ hd hs (Step.refl _ _ _))
  | ret =>
    intro an d hc ρ E A a w K Q hs hd hq
    cases an <;> simp only [compC, reduceCtorEq, Option.some.injEq] at hc
    subst hc; exact wp_ret (hq _ _ _ _ _ _ hd hs (Step.refl _ _ _))
  | region id ops draw =>
    intro an d hc ρ E A a w K Q hs hd hq
    cases an <;> simp only [compC, reduceCtorEq] at hc
    split at hc
    · rename_i ds hds
      split at hc
      · rename_i hdr
        subst hdr
        split at hc
        · rename_i p
          split at hc
          · rename_i hok
            cases hc
            exact draw_sound hm hds hok hs hd fun ρ' E' A' a' w' hk hs' hst => hq _ _ _ _ _ _ hk (hs'.keep _) hst
          · cases hc
        · cases hc
      · rename_i hdr
        cases hc
        rw [Bool.not_eq_true] at hdr
        subst hdr
        exact region_sound hds hs hd fun ρ' E' A' a' w' hk hs' hst => hq _ _ _ _ _ _ hk (hs'.keep _) hst
    · cases hc
  | seq x y ihx ihy =>
    intro an d hc ρ E A a w K Q hs hd hq
    cases an <;> simp only [compC, reduceCtorEq] at hc
    split at hc
    · rename_i x' y' hx hy
      cases hc
      refine wp_seq (ihx hx hs hd ?_)
      intro e ρ' E' A' a' w' hk hs' hst
      cases e with
      | normal => exact ihy hy hs' hk fun e ρ'' E'' A'' a'' w'' hk' hs'' hst' => hq _ _ _ _ _ _ hk' hs'' (hst.trans hst')
      | _ => exact hq _ _ _ _ _ _ hk hs' hst
    · cases hc
  | cond o x y ihx ihy =>
    intro an d hc ρ E A a w K Q hs hd hq
    cases an <;> simp only [compC, reduceCtorEq] at hc
    split at hc
    · rename_i x' y' hx hy
      cases hc
      simp only [dwp] at hd
      split at hd
      · rename_i t ht
        have hv := (eval_rel hs.e ht).bool_inv
        exact wp_cond_split hv (fun h => ihx hx hs (hd.1 h) (keepK_of hq)) (fun h => ihy hy hs (hd.2 h) (keepK_of hq))
      · exact hd.elim
    · cases hc
  | block id x ih =>
    intro an d hc ρ E A a w K Q hs hd hq
    cases an <;> simp only [compC, reduceCtorEq] at hc
    obtain ⟨x', hx, rfl⟩ := Option.map_eq_some_iff.1 hc
    refine wp_block (ih hx hs hd ?_)
    intro e ρ' E' A' a' w' hk hs' hst
    cases e with
    | exit id' =>
      simp only [inBlockK] at hk
      simp only [Exit.inBlock]
      split
      · rename_i h; rw [if_pos h] at hk; exact hq _ _ _ _ _ _ hk (hs'.keep _) hst
      · rename_i h; rw [if_neg h] at hk; exact hq _ _ _ _ _ _ hk hs' hst
    | normal => exact hq _ _ _ _ _ _ hk (hs'.keep _) hst
    | _ => exact hq _ _ _ _ _ _ hk hs' hst
  | loop x ih =>
    intro an d hc ρ E A a w K Q hs hd hq
    cases an <;> simp only [compC, reduceCtorEq] at hc
    obtain ⟨x', hx, rfl⟩ := Option.map_eq_some_iff.1 hc
    obtain ⟨I, ⟨n0, h0⟩, hI⟩ := hd
    refine wp_loop_rank (fun n a' w' => ∃ ρ' E' A', I n E' A' ∧ St ρ' N E' A' a' w' ∧ Step ρ A w ρ' A' w') ⟨n0, ρ, E, A, h0, hs, Step.refl _ _ _⟩ ?_
    rintro n a1 w1 ⟨ρ1, E1, A1, h1, hs1, hst1⟩
    refine ih hx hs1 (hI n E1 A1 h1) ?_
    intro e ρ' E' A' a' w' hk hs' hst
    cases e with
    | normal =>
      obtain ⟨m, h2, h3⟩ := hk
      exact ⟨m, h2, ρ', E', A', h3, hs', hst1.trans hst⟩
    | _ => exact hq _ _ _ _ _ _ hk hs' (hst1.trans hst)
  | _ => intro an d hc; cases an <;> simp [compC] at hc

/-! Functions. -/
inductive DRes
  | tmp (t : Nat)
  | cell (t : Nat) (ag : Option Nat)

def compR (P : Program) : List ResultVar → Option (List DRes)
  | [] => some []
  | .tmp t :: r => (compR P r).map (.tmp t :: ·)
  | .cell t ty :: r => match aggSz P ty, compR P r with
    | some ag, some rs => some (.cell t ag :: rs)
    | _, _ => none

def resL : List DRes → Env → AHeap → Option (List Value)
  | [], _, _ => some []
  | .tmp t :: r, E, A => match E.get t, resL r E A with
    | some v, some vs => if noTup v then some (v :: vs) else none
    | _, _ => none
  | .cell t ag :: r, E, A => match E.get t with
    | some (.pointer (some b)) => match A.get b.block with
      | some (.cells _ cs) => match loadV ag cs b.off, resL r E A with
        | some v, some vs => some (v :: vs)
        | _, _ => none
      | _ => none
    | _ => none

def retV (rs : List DRes) (E : Env) (A : AHeap) : Option Value :=
  match resL rs E A with
  | some [v] => some v
  | some vs => some (.tuple vs.toArray)
  | none => none

theorem TRel.vrel {v v' : Value} (h : TRel ρ v v') (hn : noTup v = true) : VRel ρ v v' := by
  cases h with
  | v h => exact h
  | tup => cases hn

def resF (tmps : Array Value) : ResultVar → Sem Value
  | .tmp t => pure (tmps.getD t undef)
  | .cell x t => do loadVar t (← asAddr (tmps.getD x undef))
theorem results_eq (fn : Func) (tmps : Array Value) : results fn tmps = (do
    let vs ← fn.results.mapM (resF tmps)
    pure (if h : vs.size = 1 then vs[0] else .tuple vs)) := by
  unfold results
  congr 1
theorem asAddr_some (b : Addr) : asAddr (.pointer (some b)) = pure b := rfl

theorem resL_run (hs : St ρ N E A a w) : ∀ {xs : List ResultVar} {rs : List DRes} {vs : List Value}, compR P xs = some rs → resL rs E A = some vs → ∃ vs', All2 (VRel ρ) vs vs' ∧
    (xs.mapM (resF a.tmps)).run P w = .ok vs' w
  | [], rs, vs, hc, hv => by
    simp [compR] at hc; subst hc
    simp [resL] at hv; subst hv
    exact ⟨[], .nil, rfl⟩
  | .tmp t :: xs, rs, vs, hc, hv => by
    simp only [compR] at hc
    obtain ⟨rs', h1, rfl⟩ := Option.map_eq_some_iff.1 hc
    simp only [resL] at hv
    split at hv
    · rename_i v vs1 h2 h3
      split at hv
      · rename_i h4
        cases hv
        obtain ⟨vs', h5, h6⟩ := resL_run hs h1 h3
        obtain ⟨v', h7, h8⟩ := hs.e.get t v h2
        refine ⟨v' :: vs', .cons (h8.vrel h4) h5, ?_⟩
        have : a.tmps.getD t undef = v' := by simp [Array.getD_eq_getD_getElem?, h7]
        simp only [List.mapM_cons, Sem.run_bind, resF, Sem.run_pure, Result.andThen_ok, this]
        rw [h6]
        simp
      · cases hv
    · cases hv
  | .cell t ty :: xs, rs, vs, hc, hv => by
    simp only [compR] at hc
    split at hc
    · rename_i ag rs' h0 h1
      cases hc
      simp only [resL] at hv
      split at hv
      · rename_i b h2
        split at hv
        · rename_i ro cs h3
          split at hv
          · rename_i v vs1 h4 h5
            cases hv
            obtain ⟨vs', h6, h7⟩ := resL_run hs h1 h5
            obtain ⟨p', h8, h9⟩ := hs.e.get t _ h2
            obtain ⟨_, h10, rfl⟩ := h9.ptr_inv
            obtain ⟨v', h11, h12⟩ := snd_load h0 hs.h h3 h4
            refine ⟨v' :: vs', .cons h12 h6, ?_⟩
            have : a.tmps.getD t undef = .pointer (some (ρ.addr b.block b.off)) := by simp [Array.getD_eq_getD_getElem?, h8]
            simp only [List.mapM_cons, Sem.run_bind, resF, this, asAddr_some, Sem.run_pure, Result.andThen_ok, h11]
            rw [h7]
            simp
          · cases hv
        · cases hv
      · cases hv
    · cases hc

def enterE : Nat → List Value → Env
  | _, [] => []
  | i, v :: r => (i, v) :: enterE (i + 1) r

theorem enterE_get : ∀ (vs : List Value) (i t : Nat) (v : Value), (enterE i vs).get t = some v → i ≤ t ∧ vs[t - i]? = some v
  | [], i, t, v, h => by simp [enterE, Env.get] at h
  | u :: vs, i, t, v, h => by
    simp only [enterE, Env.get] at h
    split at h
    · rename_i e; subst e; cases h; simp
    · rename_i e
      obtain ⟨h1, h2⟩ := enterE_get vs (i + 1) t v h
      refine ⟨by omega, ?_⟩
      rw [show t - i = (t - (i + 1)) + 1 by omega]
      simpa using h2

/-- What a body's end comes to. -/
def endK (rs : List DRes) (K : Value → AHeap → Prop) : Exit → Env → AHeap → Prop
  | .normal, E, A | .ret, E, A => match retV rs E A with
    | some v => K v A
    | none => False
  | _, _, _ => False

theorem All2.at {α β : Type} {R : α → β → Prop} : ∀ {xs : List α} {ys : List β}, All2 R xs ys → ∀ {i : Nat} {x : α}, xs[i]? = some x → ∃ y, ys[i]? = some y ∧ R x y
  | _, _, .nil, i, x, h => by simp at h
  | _, _, .cons h hs, 0, x, hx => by simp at hx; subst hx; exact ⟨_, rfl, h⟩
  | _, _, .cons h hs, i + 1, x, hx => by simpa using All2.at hs (by simpa using hx)
theorem All2.len {α β : Type} {R : α → β → Prop} : ∀ {xs : List α} {ys : List β}, All2 R xs ys → xs.length = ys.length
  | _, _, .nil => rfl
  | _, _, .cons _ hs => by simp [All2.len hs]

theorem dcall_of (hm : P.follows .mixedOrders = true) {f : FuncId} {fn : Func} {ann : Ann} {d : DCode} {rs : List DRes} (hf : P.funcs[f]? = some fn) (hbc : fn.body.bind (compC P fn.ntmps ann) = some d) (hr : compR P fn.results.toList = some rs)
    {args : List Value} (hn : args.length ≤ fn.ntmps) {A : AHeap} {K : Value → AHeap → Prop} (h : dwp P d (enterE 0 args) A (endK rs K)) : dcall P f args A K := by
  obtain ⟨c, hb, hc⟩ := Option.bind_eq_some_iff.1 hbc
  intro ρ w args' hA ha
  refine calls_of_wp hf hb ?_
  have hlen := ha.len
  refine dwp_sound hm hc (K := endK rs K) (ρ := ρ) (E := enterE 0 args) (A := A) ⟨⟨rfl, by simp; omega, ?_⟩, hA⟩ h ?_
  · intro t v ht
    obtain ⟨_, h2⟩ := enterE_get _ _ _ _ ht
    obtain ⟨v', h3, h4⟩ := ha.at h2
    have h3' : args'[t]? = some v' := by simpa using h3
    have hlt : t < args'.length := by
      rcases Nat.lt_or_ge t args'.length with hh | hh
      · exact hh
      · rw [List.getElem?_eq_none hh] at h3'; cases h3'
    have h5 : args'[t] = v' := by rw [List.getElem?_eq_getElem hlt] at h3'; exact Option.some.inj h3'
    exact ⟨v', by simp [Array.getElem?_append, hlt, h5], h4⟩
  · intro e ρ' E' A' a' w' hk hs hst
    have key : (match retV rs E' A' with | some v => K v A' | none => False) → a'.defers = [] ∧ ∃ v, (results fn a'.tmps).run P w' = .ok v w' ∧ ∃ u v' ρ' A', Ending.returned v = .returned v' ∧ K u A' ∧ TRel ρ' u v' ∧ HRel ρ' A' w' ∧ Step ρ A w ρ' A' w' := by
      intro hk
      refine ⟨hs.e.defers, ?_⟩
      split at hk
      · rename_i v hv
        unfold retV at hv
        have hres : ∀ vs', (fn.results.toList.mapM (resF a'.tmps)).run P w' = .ok vs' w' →
            (results fn a'.tmps).run P w' = .ok (if h : vs'.toArray.size = 1 then vs'.toArray[0] else .tuple vs'.toArray) w' := by
          intro vs' h
          rw [results_eq, Array.mapM_eq_mapM_toList]
          simp only [Sem.run_bind, Sem.run_map, h, Result.andThen_ok]
          simp
        split at hv
        · rename_i v1 h1
          cases hv
          obtain ⟨vs', h2, h3⟩ := resL_run hs hr h1
          cases h2 with
          | cons h4 h5 =>
            cases h5
            exact ⟨_, hres _ h3, v, _, ρ', A', rfl, hk, .v h4, hs.h, hst⟩
        · rename_i vs hne h1
          cases hv
          obtain ⟨vs', h2, h3⟩ := resL_run hs hr h1
          refine ⟨_, hres _ h3, .tuple vs.toArray, _, ρ', A', rfl, hk, ?_, hs.h, hst⟩
          have hl := h2.len
          have : ¬ vs'.toArray.size = 1 := by
            intro h
            simp only [List.size_toArray] at h
            rw [← hl] at h
            obtain ⟨x, rfl⟩ := List.length_eq_one_iff.1 h
            exact hne x rfl
          rw [dif_neg this]
          exact .tup _ _ h2
        · cases hv
      · exact hk.elim
    cases e with
    | normal => exact key hk
    | ret => exact key hk
    | _ => exact hk.elim
end Go.Proofs.Ytckdmhjhjfmcdaa.Sx
