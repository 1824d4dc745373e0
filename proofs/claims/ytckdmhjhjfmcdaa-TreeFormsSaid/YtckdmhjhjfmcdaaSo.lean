/-
  The walk through a region that draws its order.
-/
import Derived.Test.YtckdmhjhjfmcdaaSn
namespace Go.Proofs.Ytckdmhjhjfmcdaa.Sx
set_option linter.unusedSimpArgs false
set_option linter.unusedVariables false
open Go
variable {P : Program} {N : Nat}

/-- Of an operation that the walk has passed and the machine has not run yet: what it will give. -/
structure Fact (ds : List DOper) (p : Plan) (base : Nat) (E0 E : Env) (A : AHeap) (i : Nat) : Prop where
  ok : ∃ d Ei g v, ds[i]? = some d ∧ isHeavy d.op = false ∧ evalG d.guard Ei = some g ∧ (g = true → lightV d.op (hOf p base i) Ei A = some v) ∧ (g = false → v = .tuple #[]) ∧ (∀ t, d.dst = some t → E.get t = some v) ∧
    (∀ t ∈ d.reads, (∃ j ∈ ancOf p i, ∃ e, ds[j]? = some e ∧ e.dst = some t ∧ Ei.get t = E.get t) ∨ ((∀ (j : Nat) e, ds[j]? = some e → e.dst = some t → i ∈ ancOf p j) ∧ Ei.get t = E0.get t))

structure DInv (ds : List DOper) (p : Plan) (N : Nat) (ρ0 : Ren) (E0 : Env) (A0 : AHeap) (w0 : World) (S : Nat → Prop) (ρ : Ren) (E : Env) (A : AHeap) (a : Act) (w : World) (before done : List Nat) : Prop where
  defers : a.defers = []
  size : a.tmps.size = N
  closed : ∀ i, S i → i < ds.length → ∀ j ∈ ancOf p i, S j
  bclosed : ∀ i ∈ before, ∀ j ∈ ancOf p i, j ∈ before
  sub : ∀ i, S i → i ∈ before
  blt : ∀ i ∈ before, i < ds.length
  dsub : ∀ i ∈ done, i ∈ before
  doneS : ∀ i ∈ done, S i
  env1 : ∀ i ∈ before, ∀ d t, ds[i]? = some d → d.dst = some t → ∃ v, E.get t = some v ∧ (S i → ∃ v', a.tmps[t]? = some v' ∧ TRel ρ v v')
  env2 : ∀ t, (∀ i ∈ before, ∀ d, ds[i]? = some d → d.dst ≠ some t) → E.get t = E0.get t
  env3 : ∀ t v, E0.get t = some v → (∀ i, S i → ∀ d, ds[i]? = some d → d.dst ≠ some t) → ∃ v', a.tmps[t]? = some v' ∧ TRel ρ v v'
  heap : HRel ρ A w
  next : A0.next + p.made.length ≤ A.next
  fresh : ∀ i ∈ p.made, ¬ S i → (ρ (hOf p A0.next i)).ok = false
  pend : ∀ i, S i → i ∈ p.made → i ∉ done → Pend ds p A0.next ρ E A w w0.heap.size i
  pend2 : ∀ i j, S i → i ∈ p.made → i ∉ done → allocAt ds i = true → S j → j ∈ p.made → j ∉ done → allocAt ds j = true → runs ds E i → runs ds E j → i ≠ j → (ρ (hOf p A0.next i)).blk ≠ (ρ (hOf p A0.next j)).blk
  fact : ∀ i ∈ before, ¬ S i → Fact ds p A0.next E0 E A i
  wsize : w0.heap.size ≤ w.heap.size
  agree : ∀ h, h < A0.next → ρ h = ρ0 h
  keep : ∀ b, b < w0.heap.size → ¬ wblk ρ0 A0 b → w.heap[b]? = w0.heap[b]?
  incl : ∀ b, wblk ρ A b → wblk ρ0 A0 b ∨ w0.heap.size ≤ b
  incl2 : ∀ b, lblk ρ A b → lblk ρ0 A0 b ∨ w0.heap.size ≤ b
  os : w.os = w0.os
  output : w.output = w0.output
  tape : w.tape = w0.tape

theorem evalG_congr {E E' : Env} {g : Option (Nat × Bool)} (h : ∀ t b, g = some (t, b) → E.get t = E'.get t) : evalG g E = evalG g E' := by
  cases g with
  | none => rfl
  | some x => obtain ⟨t, b⟩ := x; simp only [evalG]; rw [h t b rfl]
theorem reads_guard {d : DOper} {t : Nat} {b : Bool} (h : d.guard = some (t, b)) : t ∈ d.reads := by simp [DOper.reads, h]
theorem reads_op {d : DOper} {x : Operand} (hx : x ∈ d.op.opers) {t : Nat} (ht : t ∈ opTmps x) : t ∈ d.reads := by
  simp only [DOper.reads, List.mem_append, List.mem_flatMap]
  exact .inl ⟨x, hx, ht⟩
theorem evalG_reads {E E' : Env} {d : DOper} (h : ∀ t ∈ d.reads, E.get t = E'.get t) : evalG d.guard E = evalG d.guard E' := evalG_congr fun _ _ hg => h _ (reads_guard hg)
theorem eval_reads {E E' : Env} {d : DOper} (h : ∀ t ∈ d.reads, E.get t = E'.get t) : ∀ x ∈ d.op.opers, E.eval x = E'.eval x := fun _ hx => eval_congr fun _ ht => h _ (reads_op hx ht)
theorem lightV_reads {E E' : Env} {d : DOper} (h : ∀ t ∈ d.reads, E.get t = E'.get t) (k : Nat) (A : AHeap) : lightV d.op k E A = lightV d.op k E' A := by
  have he := eval_reads h
  cases hop : d.op with
  | light d' => rw [hop] at he; exact dlight_congr he A
  | alloc d' => rw [hop] at he; simp only [lightV]; rw [dal_congr he]
  | heavy d' => rfl

theorem guarded_inv {g : Option (Nat × Bool)} {E : Env} {run skip : Env → Prop} (h : guarded g E run skip) :
    (evalG g E = some true ∧ ∃ E1, (∀ t, E1.get t = E.get t) ∧ run E1) ∨ (evalG g E = some false ∧ ∃ E1, (∀ t, E1.get t = E.get t) ∧ skip E1) := by
  cases g with
  | none => exact .inl ⟨rfl, E, fun _ => rfl, h⟩
  | some x =>
    obtain ⟨t, want⟩ := x
    simp only [guarded] at h
    split at h
    · rename_i b hb
      have same : ∀ c, b = c → ∀ i, (E.put (some t) (.bool c)).get i = E.get i := by
        intro c hc i
        rw [Env.get_put]
        split
        · rename_i e; cases e; rw [hb, hc]
        · rfl
      by_cases hbw : b = want
      · exact .inl ⟨by simp [evalG, hb, hbw], _, same _ hbw, h.1 hbw⟩
      · have hbw' : b = !want := by cases b <;> cases want <;> simp_all
        exact .inr ⟨by simp [evalG, hb, hbw'], _, same _ hbw', h.2 hbw'⟩
    · rename_i vs hb
      exact .inr ⟨by simp [evalG, hb, h.1], E, fun _ => rfl, h.2⟩
    · exact h.elim

section
variable {ops : Array Oper} {ds : List DOper} {p : Plan} {pre : List (List Nat)} {ρ0 : Ren} {E0 : Env} {A0 : AHeap} {w0 : World}

theorem ds_lt {i : Nat} {d : DOper} (h : ds[i]? = some d) : i < ds.length := by
  rcases Nat.lt_or_ge i ds.length with hh | hh
  · exact hh
  · rw [List.getElem?_eq_none hh] at h; cases h

theorem reads_split (hp : PlanOk pre ds p) {S : Nat → Prop} {ρ : Ren} {E : Env} {A : AHeap} {a : Act} {w : World} {before done : List Nat} (hI : DInv ds p N ρ0 E0 A0 w0 S ρ E A a w before done) {i : Nat} {d : DOper} (hd : ds[i]? = some d) (hi : i ∉ before) :
    ∀ t ∈ d.reads, (∃ j ∈ ancOf p i, ∃ e, ds[j]? = some e ∧ e.dst = some t) ∨ ((∀ (j : Nat) e, ds[j]? = some e → e.dst = some t → i ∈ ancOf p j) ∧ E.get t = E0.get t) := by
  intro t ht
  by_cases hw : ∃ (j : Nat) (e : DOper), ds[j]? = some e ∧ e.dst = some t
  · obtain ⟨j, e, hj, he⟩ := hw
    rcases hp.reads i j d e t hd hj he ht with h | ⟨h, _, _⟩
    · exact .inl ⟨j, h, e, hj, he⟩
    · refine .inr ⟨fun j' e' hj' he' => by rw [hp.dst j' j e' e t hj' hj he' he]; exact h, hI.env2 t fun k hk e' he' hte => ?_⟩
      have : k = j := hp.dst k j e' e t he' hj hte he
      subst this
      exact hi (hI.bclosed k hk i h)
  · exact .inr ⟨fun j e hj he => (hw ⟨j, e, hj, he⟩).elim, hI.env2 t fun k hk e he hte => hw ⟨k, e, he, hte⟩⟩

/-- The walk passes an operation that only reads or makes memory; the machine does nothing yet. -/
theorem absorb (hp : PlanOk pre ds p) {S : Nat → Prop} {ρ : Ren} {E : Env} {A : AHeap} {a : Act} {w : World} {before done : List Nat} (hI : DInv ds p N ρ0 E0 A0 w0 S ρ E A a w before done) {i : Nat} {d : DOper} (hd : ds[i]? = some d)
    (hlt : isHeavy d.op = false) (hi : i ∉ before) (hanc : ∀ j ∈ ancOf p i, j ∈ before) {g : Bool} {v : Value} {E1 : Env} (hsame : ∀ t, E1.get t = E.get t) (hg : evalG d.guard E = some g) (hv : g = true → lightV d.op (hOf p A0.next i) E1 A = some v) (hv0 : g = false → v = .tuple #[]) :
    DInv ds p N ρ0 E0 A0 w0 S ρ (E1.put d.dst v) A a w (i :: before) done := by
  have hnS : ¬ S i := fun h => hi (hI.sub i h)
  have hget : ∀ t, d.dst ≠ some t → (E1.put d.dst v).get t = E.get t := by
    intro t ht; rw [Env.get_put, if_neg ht, hsame]
  -- slots of what was passed before are other ones
  have hold : ∀ j ∈ before, ∀ e t, ds[j]? = some e → e.dst = some t → d.dst ≠ some t := by
    intro j hj e t he ht hdt
    exact hi ((hp.dst i j d e t hd he hdt ht) ▸ hj)
  have hreads := reads_split hp hI hd hi
  -- what a passed operation that makes memory, or reads it, looks at, does not turn
  have hstable : ∀ j ∈ before, ∀ e, ds[j]? = some e → (isAlloc e.op = true ∨ readsMem e.op = true) → ∀ t ∈ e.reads, (E1.put d.dst v).get t = E.get t := by
    intro j hj e he hk t ht
    refine hget t fun hdt => ?_
    rcases hp.reads j i e d t he hd hdt ht with h | ⟨h, h2, h3⟩
    · exact hi (hI.bclosed j hj i h)
    · rcases hk with hk | hk
      · rw [h3] at hk; cases hk
      · rw [h2] at hk; cases hk
  have hstableA : ∀ j ∈ before, ∀ e d', ds[j]? = some e → e.op = .alloc d' → evalG e.guard (E1.put d.dst v) = evalG e.guard E ∧ dal d' (E1.put d.dst v) = dal d' E := by
    intro j hj e d' he hop
    have hs := hstable j hj e he (.inl (by rw [hop]; rfl))
    refine ⟨evalG_reads hs, ?_⟩
    have := eval_reads hs
    rw [hop] at this
    exact dal_congr this
  have hrunsA : ∀ j ∈ before, allocAt ds j = true → (runs ds (E1.put d.dst v) j ↔ runs ds E j) := by
    intro j hj ha
    unfold allocAt at ha
    split at ha
    · rename_i e he
      cases hop : e.op with
      | alloc d' =>
        have := (hstableA j hj e d' he hop).1
        constructor
        · rintro ⟨e', he', hg'⟩; rw [he] at he'; cases he'; exact ⟨e, he, this ▸ hg'⟩
        · rintro ⟨e', he', hg'⟩; rw [he] at he'; cases he'; exact ⟨e, he, this ▸ hg'⟩
      | light d' => rw [hop] at ha; cases ha
      | heavy d' => rw [hop] at ha; cases ha
    · cases ha
  refine { hI with bclosed := ?_, sub := ?_, blt := ?_, dsub := ?_, env1 := ?_, env2 := ?_, pend := ?_, pend2 := ?_, fact := ?_ }
  · intro j hj k hk
    rcases List.mem_cons.1 hj with rfl | hj
    · exact List.mem_cons_of_mem _ (hanc k hk)
    · exact List.mem_cons_of_mem _ (hI.bclosed j hj k hk)
  · exact fun j hj => List.mem_cons_of_mem _ (hI.sub j hj)
  · intro j hj
    rcases List.mem_cons.1 hj with rfl | hj
    · exact ds_lt hd
    · exact hI.blt j hj
  · exact fun j hj => List.mem_cons_of_mem _ (hI.dsub j hj)
  · intro j hj e t he ht
    rcases List.mem_cons.1 hj with rfl | hj
    · rw [hd] at he; cases he
      exact ⟨v, by rw [Env.get_put, if_pos ht], fun h => (hnS h).elim⟩
    · rw [hget t (hold j hj e t he ht)]
      exact hI.env1 j hj e t he ht
  · intro t ht
    rw [hget t (ht i (by simp) d hd)]
    exact hI.env2 t fun j hj e he => ht j (List.mem_cons_of_mem _ hj) e he
  · intro j hS hm hnd
    have hj := hI.sub j hS
    obtain ⟨h1, h2⟩ := hI.pend j hS hm hnd
    refine ⟨h1, fun e d' he hop hg' => ?_⟩
    obtain ⟨h3, h4⟩ := hstableA j hj e d' he hop
    rw [h3] at hg'
    rw [h4]
    exact h2 e d' he hop hg'
  · intro j k hj1 hj2 hj3 hj4 hk1 hk2 hk3 hk4 hjr hkr
    exact hI.pend2 j k hj1 hj2 hj3 hj4 hk1 hk2 hk3 hk4 ((hrunsA j (hI.sub j hj1) hj4).1 hjr) ((hrunsA k (hI.sub k hk1) hk4).1 hkr)
  · intro j hj hS
    rcases List.mem_cons.1 hj with rfl | hj
    · refine ⟨d, E1, g, v, hd, hlt, by rw [← hg]; exact evalG_congr fun t _ _ => hsame t, hv, hv0, fun t ht => by rw [Env.get_put, if_pos ht], fun t ht => ?_⟩
      rcases hreads t ht with ⟨k, hk, e, he, hte⟩ | ⟨h1, h2⟩
      · exact .inl ⟨k, hk, e, he, hte, by rw [hget t (hold k (hanc k hk) e t he hte)]; exact hsame t⟩
      · exact .inr ⟨h1, (hsame t).trans h2⟩
    · obtain ⟨e, Ei, g', v', h1, h2, h3, h4, h5, h6, h7⟩ := (hI.fact j hj hS).ok
      refine ⟨e, Ei, g', v', h1, h2, h3, h4, h5, fun t ht => by rw [hget t (hold j hj e t h1 ht)]; exact h6 t ht, fun t ht => ?_⟩
      rcases h7 t ht with ⟨k, hk, e', he', hte', h8⟩ | h8
      · exact .inl ⟨k, hk, e', he', hte', by rw [hget t (hold k (hI.bclosed j hj k hk) e' t he' hte')]; exact h8⟩
      · exact .inr h8
end
end Go.Proofs.Ytckdmhjhjfmcdaa.Sx
