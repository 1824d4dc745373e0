/-
  Rows of operations in the order of the text.
-/
import Derived.Test.YtckdmhjhjfmcdaaSk
namespace Go.Proofs.Ytckdmhjhjfmcdaa.Sx
set_option linter.unusedSimpArgs false
set_option linter.unusedVariables false
open Go
variable {P : Program} {ρ : Ren} {N : Nat} {E : Env} {A : AHeap} {a : Act} {w : World}

inductive DOp
  | light (d : LOp)
  | alloc (d : AOp)
  | heavy (d : HOp)

structure DOper where
  dst : Option Nat
  op : DOp
  guard : Option (Nat × Bool)

def compOp (P : Program) (o : Op) : Option DOp :=
  match compL P o with
  | some d => some (.light d)
  | none => match compA P o with
    | some d => some (.alloc d)
    | none => (compH P o).map .heavy

def compGuard (ops : Array Oper) : Option (Nat × Bool) → Option (Option (Nat × Bool))
  | none => some none
  | some (j, want) => ((ops[j]?).bind (·.dst)).map fun t => some (t, want)

def dstOk (N : Nat) : Option Nat → Bool
  | some t => decide (t < N)
  | none => true

def compOper (P : Program) (N : Nat) (ops : Array Oper) (o : Oper) : Option DOper :=
  match compOp P o.op, compGuard ops o.guard with
  | some d, some g => if dstOk N o.dst = true then some ⟨o.dst, d, g⟩ else none
  | _, _ => none

def compOpers (P : Program) (N : Nat) (ops : Array Oper) : List Oper → Option (List DOper)
  | [] => some []
  | o :: r => match compOper P N ops o, compOpers P N ops r with
    | some d, some ds => some (d :: ds)
    | _, _ => none

def dop (P : Program) (d : DOp) (E : Env) (A : AHeap) (K : Value → AHeap → Prop) : Prop :=
  match d with
  | .light d => match dlight d E A with
    | some v => K v A
    | none => False
  | .alloc d => match dal d E with
    | some (o, f) => K (f A.next) (A.alloc o)
    | none => False
  | .heavy d => dheavy P d E A K

def dops (P : Program) : List DOper → Env → AHeap → (Env → AHeap → Prop) → Prop
  | [], E, A, K => K E A
  | d :: ds, E, A, K => match d.guard with
    | none => dop P d.op E A fun v A' => dops P ds (E.put d.dst v) A' K
    | some (t, want) => match E.get t with
      | some (.bool b) => (b = want → dop P d.op (E.put (some t) (.bool want)) A fun v A' => dops P ds ((E.put (some t) (.bool want)).put d.dst v) A' K) ∧
          (b = !want → dops P ds ((E.put (some t) (.bool !want)).put d.dst (.tuple #[])) A K)
      | some (.tuple vs) => vs.size = 0 ∧ dops P ds (E.put d.dst (.tuple #[])) A K
      | _ => False

theorem compOper_inv {ops : Array Oper} {o : Oper} {d : DOper} (h : compOper P N ops o = some d) : compOp P o.op = some d.op ∧ compGuard ops o.guard = some d.guard ∧ d.dst = o.dst ∧ ∀ t, d.dst = some t → t < N := by
  unfold compOper at h
  split at h
  · rename_i d' g hd hg
    split at h
    · rename_i hlt
      cases h
      refine ⟨hd, hg, rfl, fun t ht => ?_⟩
      change o.dst = some t at ht
      rw [ht] at hlt
      simpa [dstOk] using hlt
    · cases h
  · cases h

theorem dop_sound {o : Oper} {d : DOp} (hc : compOp P o.op = some d) (hs : St ρ N E A a w) {K : Value → AHeap → Prop} (hd : dop P d E A K) {next : Act → World → Prop} {Q : Exit → Act → World → Prop} (hn : Onward ρ A w a o.dst K next) : o.wp P a w next Q := by
  unfold compOp at hc
  split at hc
  · rename_i d' hL
    cases hc
    simp only [dop] at hd
    split at hd
    · rename_i v hv
      obtain ⟨v', h1, h2⟩ := light_sound hL hs hv
      exact wp_value h1 (hn v v' ρ A w hd h2 hs.h (Step.refl _ _ _))
    · exact hd.elim
  · split at hc
    · rename_i d' hA
      cases hc
      simp only [dop] at hd
      split at hd
      · rename_i obj f hv
        obtain ⟨v', C, b, h1, h2, h3, h4⟩ := alloc_sound (w := w) hA hs.e hv
        obtain ⟨h5, h6⟩ := h4 A.next (hs.h.fresh _ (Nat.le_refl _))
        obtain ⟨h7, h8⟩ := hs.h.more h2 h3 h5
        exact wp_value h1 (hn _ v' _ _ _ hd h6 h7 h8)
      · exact hd.elim
    · obtain ⟨d', hH, rfl⟩ := Option.map_eq_some_iff.1 hc
      exact heavy_sound hH hs hd hn

theorem ERel.know {t : Nat} {v : Value} (h : ERel ρ N E a) (ht : E.get t = some v) : ERel ρ N (E.put (some t) v) a :=
  h.sub fun i u hu => by
    rw [Env.get_put] at hu
    split at hu
    · rename_i e; cases e; cases hu; exact ht
    · exact hu

theorem St.next {E' : Env} {ρ' : Ren} {A' : AHeap} {w' : World} {dst : Option Nat} {v v' : Value} (hs : St ρ N E A a w) (hE : ∀ i u, E'.get i = some u → E.get i = some u) (hd : ∀ t, dst = some t → t < N) (hv : TRel ρ' v v') (hr : HRel ρ' A' w') (hst : Step ρ A w ρ' A' w') :
    St ρ' N (E'.put dst v) A' (a.put dst v') w' :=
  ⟨((hs.e.mono (hst.to_agree hs.h)).sub hE).put dst hd hv, hr⟩

/-- Is the guard's answer the wanted one? -/
theorem wanted_of {ops : Array Oper} {o : Oper} {t : Nat} {want b : Bool} (hg : compGuard ops o.guard = some (some (t, want))) (ht : a.tmps[t]? = some (.bool b)) : Region.wanted o (yielded ops a.tmps) = (b == want) := by
  cases hgo : o.guard with
  | none => rw [hgo] at hg; simp [compGuard] at hg
  | some g =>
    obtain ⟨j, wt⟩ := g
    rw [hgo] at hg
    simp only [compGuard] at hg
    obtain ⟨t', h1, h2⟩ := Option.map_eq_some_iff.1 hg
    cases h2
    simp only [Region.wanted, hgo, yielded, h1, Option.bind_some, ht]
    cases b <;> cases want <;> rfl
theorem wanted_undef {ops : Array Oper} {o : Oper} {t : Nat} {want : Bool} (hg : compGuard ops o.guard = some (some (t, want))) (ht : a.tmps[t]? = some (.tuple #[])) : Region.wanted o (yielded ops a.tmps) = false := by
  cases hgo : o.guard with
  | none => rw [hgo] at hg; simp [compGuard] at hg
  | some g =>
    obtain ⟨j, wt⟩ := g
    rw [hgo] at hg
    simp only [compGuard] at hg
    obtain ⟨t', h1, h2⟩ := Option.map_eq_some_iff.1 hg
    cases h2
    simp only [Region.wanted, hgo, yielded, h1, Option.bind_some, ht]
    rfl
theorem TRel.unit_inv {vs : Array Value} {v' : Value} (h : TRel ρ (.tuple vs) v') (hs : vs.size = 0) : v' = .tuple #[] := by
  cases h with
  | v h => cases h with | s h => cases h with | p h => cases h
  | tup l l' h =>
    simp only [List.size_toArray, List.length_eq_zero_iff] at hs
    subst hs
    cases h
    rfl
theorem wanted_none {ops : Array Oper} {o : Oper} (hg : compGuard ops o.guard = some none) : Region.wanted o (yielded ops a.tmps) = true := by
  cases hgo : o.guard with
  | none => simp [Region.wanted, hgo]
  | some g =>
    obtain ⟨j, wt⟩ := g
    rw [hgo] at hg
    simp only [compGuard] at hg
    obtain ⟨t', h1, h2⟩ := Option.map_eq_some_iff.1 hg
    cases h2

theorem put_undef_rel : TRel ρ (.tuple #[]) undef := unit_rel

theorem seq_sound {ops : Array Oper} {Q : Exit → Act → World → Prop} : ∀ (ds : List DOper) (k : Nat) (ρ : Ren) (E : Env) (A : AHeap) (a : Act) (w : World) (K : Env → AHeap → Prop),
    (∀ (i : Nat) d, ds[i]? = some d → ∃ o, ops[k + i]? = some o ∧ compOper P N ops o = some d) → St ρ N E A a w → dops P ds E A K →
    (∀ ρ' E' A' a' w', K E' A' → St ρ' N E' A' a' w' → Step ρ A w ρ' A' w' → Q .normal a' w') → wpOps P ops Q (List.range' k ds.length) a w
  | [], k, ρ, E, A, a, w, K, _, hs, hd, hq => hq ρ E A a w hd hs (Step.refl _ _ _)
  | d :: ds, k, ρ, E, A, a, w, K, hc, hs, hd, hq => by
    obtain ⟨o, ho, hco⟩ := hc 0 d rfl
    simp only [Nat.add_zero] at ho
    obtain ⟨h1, h2, h3, h4⟩ := compOper_inv hco
    have hrest : ∀ (i : Nat) d', ds[i]? = some d' → ∃ o, ops[k + 1 + i]? = some o ∧ compOper P N ops o = some d' := by
      intro i d' hi
      have := hc (i + 1) d' (by simpa using hi)
      rwa [show k + (i + 1) = k + 1 + i by omega] at this
    simp only [List.length_cons, List.range'_succ, wpOps, ho]
    simp only [dops] at hd
    split at hd
    · rename_i hg
      rw [hg] at h2
      rw [if_pos (wanted_none h2)]
      refine .inl (dop_sound h1 hs hd ?_)
      intro v v' ρ' A' w' hk hv hr hst
      rw [h3] at h4
      refine seq_sound ds (k + 1) ρ' _ A' _ w' K hrest (hs.next (fun _ _ h => h) h4 hv hr hst) (by rw [h3] at hk; exact hk) ?_
      intro ρ'' E'' A'' a'' w'' hk' hs' hst'
      exact hq ρ'' E'' A'' a'' w'' hk' hs' (hst.trans hst')
    · rename_i t want hg
      rw [hg] at h2
      split at hd
      · rename_i b ht
        obtain ⟨v', hv', hvr⟩ := hs.e.get t _ ht
        obtain rfl := hvr.bool_inv
        rw [wanted_of h2 hv']
        by_cases hb : b = want
        · rw [if_pos (by simp [hb])]
          have hd1 := hd.1 hb
          subst hb
          refine .inl (dop_sound h1 ⟨hs.e.know ht, hs.h⟩ hd1 ?_)
          intro v v' ρ' A' w' hk hv hr hst
          rw [h3] at h4
          refine seq_sound ds (k + 1) ρ' _ A' _ w' K hrest ((St.mk (hs.e.know ht) hs.h).next (fun _ _ h => h) h4 hv hr hst) (by rw [h3] at hk; exact hk) ?_
          intro ρ'' E'' A'' a'' w'' hk' hs' hst'
          exact hq ρ'' E'' A'' a'' w'' hk' hs' (hst.trans hst')
        · rw [if_neg (by simp [hb])]
          have hb' : b = !want := by cases b <;> cases want <;> simp_all
          have hd2 := hd.2 hb'
          subst hb'
          rw [h3] at h4 hd2
          exact seq_sound ds (k + 1) ρ _ A _ w K hrest ((St.mk (hs.e.know ht) hs.h).next (fun _ _ h => h) h4 put_undef_rel hs.h (Step.refl _ _ _)) hd2 hq
      · rename_i vs ht
        obtain ⟨v', hv', hvr⟩ := hs.e.get t _ ht
        obtain rfl := hvr.unit_inv hd.1
        rw [wanted_undef h2 hv', if_neg (by simp)]
        have hd2 := hd.2
        rw [h3] at h4 hd2
        exact seq_sound ds (k + 1) ρ _ A _ w K hrest (hs.next (fun _ _ h => h) h4 put_undef_rel hs.h (Step.refl _ _ _)) hd2 hq
      · exact hd.elim

theorem compOpers_inv {ops : Array Oper} : ∀ {os : List Oper} {ds : List DOper}, compOpers P N ops os = some ds → ds.length = os.length ∧ ∀ (i : Nat) d, ds[i]? = some d → ∃ o, os[i]? = some o ∧ compOper P N ops o = some d
  | [], ds, h => by simp [compOpers] at h; subst h; exact ⟨rfl, by simp⟩
  | o :: os, ds, h => by
    simp only [compOpers] at h
    split at h
    · rename_i d ds' hd hds
      cases h
      obtain ⟨h1, h2⟩ := compOpers_inv hds
      refine ⟨by simp [h1], fun i d' hi => ?_⟩
      cases i with
      | zero => simp at hi; subst hi; exact ⟨o, rfl, hd⟩
      | succ i => simpa using h2 i d' (by simpa using hi)
    · cases h

/-- A region in the order of the text. -/
theorem region_sound {id : Nat} {ops : Array Oper} {ds : List DOper} (hc : compOpers P N ops ops.toList = some ds) {K : Env → AHeap → Prop} (hs : St ρ N E A a w) (hd : dops P ds E A K) {Q : Exit → Act → World → Prop}
    (hq : ∀ ρ' E' A' a' w', K E' A' → St ρ' N E' A' a' w' → Step ρ A w ρ' A' w' → Q .normal a' w') : (Code.region id ops false).wp P Q a w := by
  obtain ⟨h1, h2⟩ := compOpers_inv hc
  refine wp_region ?_
  have := seq_sound (P := P) (N := N) (ops := ops) (Q := Q) ds 0 ρ E A a w K (fun i d hi => by obtain ⟨o, ho, hco⟩ := h2 i d hi; exact ⟨o, by simpa using ho, hco⟩) hs hd hq
  rw [h1] at this
  rw [List.range_eq_range']
  simpa using this
end Go.Proofs.Ytckdmhjhjfmcdaa.Sx
