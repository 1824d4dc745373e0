/-
  The law TreeForms holds: whatever the clocks' numbers, the links and what each has heard ahead, the call returns true, and the arguments read as they did.
-/
import Derived.Test.YtckdmhjhjfmcdaaGe
import Derived.Test.YtckdmhjhjfmcdaaWd
import Derived.Test.YtckdmhjhjfmcdaaRows
import Derived.ProofKit
import Derived.WalkKit
import Derived.OpenShut
import Derived.JoinedCond
namespace Go.Proofs.Ytckdmhjhjfmcdaa.treeForms
set_option linter.unusedSimpArgs false
set_option linter.unusedVariables false
open Go Go.ChangeShapes Go.WideShapes Go.ChangeAt Go.RowKit Go.Proofs.Ytckdmhjhjfmcdaa.Sx
set_option maxRecDepth 100000
theorem c28 : Try.prog.cellsOf 28 = 4 := by kernel_rfl
theorem c35 : Try.prog.cellsOf 35 = 2 := by kernel_rfl
theorem c45 : Try.prog.cellsOf 45 = 21 := by kernel_rfl
theorem c3 : Try.prog.cellsOf 3 = 1 := by kernel_rfl
theorem own : ownKnob Try.prog.godebug = none := by kernel_rfl
theorem laidOut : laidOutB Try.prog = true := by kernel_rfl
section
variable {A : AHeap} {n : Nat} {acs : List Value}
theorem sh_prior (h : Shape Try.prog A (n + 2) 28 acs) : ∃ p : Pr, acs = p.cells := by
  have h := shape_struct Try.underlying28 h
  simp only [List.map_cons, List.map_nil, shapeL] at h
  obtain ⟨a1, r1, rfl, _, h1, a2, r2, rfl, _, h2, a3, r3, rfl, _, h3, a4, r4, rfl, _, h4, rfl⟩ := h
  obtain ⟨x1, rfl, _⟩ := shape_int Try.underlying3 h1
  obtain ⟨x2, rfl, _⟩ := shape_int Try.underlying3 h2
  obtain ⟨x3, rfl, _⟩ := shape_int Try.underlying3 h3
  obtain ⟨x4, rfl, _⟩ := shape_int Try.underlying3 h4
  exact ⟨⟨x1, x2, x3, x4⟩, rfl⟩
theorem sh_link (h : Shape Try.prog A (n + 2) 35 acs) : ∃ l : Int × Int, acs = lC l := by
  have h := shape_array Try.underlying35 h
  simp only [List.replicate, shapeL] at h
  obtain ⟨a1, r1, rfl, _, h1, a2, r2, rfl, _, h2, rfl⟩ := h
  obtain ⟨x1, rfl, _⟩ := shape_int Try.underlying3 h1
  obtain ⟨x2, rfl, _⟩ := shape_int Try.underlying3 h2
  exact ⟨(x1, x2), rfl⟩
theorem ints_flat : ∀ xs : List Int, (xs.map fun x : Int => [Value.int .i64 x]).flatten = ints xs
  | [] => rfl
  | x :: xs => by rw [List.map_cons, List.flatten_cons, ints_flat xs]; rfl
theorem sh_path (hz : A.get 0 = some (.cells true [])) (h : Shape Try.prog A (n + 2) 33 acs) : ∃ pv path, acs = [pv] ∧ IntsAt A pv path := by
  obtain ⟨v, rows, rfl, _, hr, hs⟩ := shape_slice Try.underlying33 h
  rw [c3] at hs
  obtain ⟨xs, rfl, _⟩ := rows_map (f := fun x : Int => [Value.int .i64 x]) (p := fun _ => True) fun r hm => by
    obtain ⟨x, rfl, _⟩ := shape_int Try.underlying3 (hr r hm).2
    exact ⟨x, rfl, trivial⟩
  refine ⟨v, xs, rfl, ?_⟩
  rcases hs with ⟨rfl, he⟩ | ⟨rfl, he⟩ | ⟨b, rfl, hb⟩
  · have : xs = [] := by simpa using he
    exact .inl ⟨rfl, this⟩
  · have : xs = [] := by simpa using he
    subst this
    exact .inr ⟨0, true, rfl, hz⟩
  · refine .inr ⟨b, true, by simp, ?_⟩
    rw [hb, ints_flat]
theorem sh_step (hz : A.get 0 = some (.cells true [])) (h : Shape Try.prog A (n + 4) 45 acs) : ∃ x : Lr, acs = x.cells ∧ IntsAt A x.pv x.path := by
  have h := shape_struct Try.underlying45 h
  simp only [List.map_cons, List.map_nil, shapeL] at h
  obtain ⟨a1, r1, rfl, _, h1, a2, r2, rfl, _, h2, a3, r3, rfl, _, h3, a4, r4, rfl, _, h4, a5, r5, rfl, _, h5, a6, r6, rfl, _, h6, rfl⟩ := h
  have h3 := shape_struct Try.underlying43 h3
  simp only [List.map_cons, List.map_nil, shapeL] at h3
  obtain ⟨b1, s1, rfl, _, k1, b2, s2, rfl, _, k2, b3, s3, rfl, _, k3, b4, s4, rfl, _, k4, b5, s5, rfl, _, k5, b6, s6, rfl, _, k6, b7, s7, rfl, _, k7, b8, s8, rfl, _, k8, b9, s9, rfl, _, k9, b10, s10, rfl, _, k10, b11, s11, rfl, _, k11, b12, s12, rfl, _, k12, b13, s13, rfl, _, k13, rfl⟩ := h3
  obtain ⟨y1, rfl, _⟩ := shape_int Try.underlying3 h1
  obtain ⟨y2, rfl, _⟩ := shape_int Try.underlying3 h2
  obtain ⟨y4, rfl, _⟩ := shape_int Try.underlying3 h4
  obtain ⟨y5, rfl⟩ := shape_bool Try.underlying4 h5
  obtain ⟨y6, rfl, _⟩ := shape_int Try.underlying3 h6
  obtain ⟨x1, rfl, _⟩ := shape_int Try.underlying3 k1
  obtain ⟨x2, rfl, _⟩ := shape_int Try.underlying3 k2
  obtain ⟨x3, rfl, _⟩ := shape_int Try.underlying3 k3
  obtain ⟨x4, rfl, _⟩ := shape_int Try.underlying3 k4
  obtain ⟨x5, rfl, _⟩ := shape_int Try.underlying3 k5
  obtain ⟨x6, rfl, _⟩ := shape_int Try.underlying40 k6
  obtain ⟨x7, rfl, _⟩ := shape_int Try.underlying40 k7
  obtain ⟨x8, rfl, _⟩ := shape_int Try.underlying3 k8
  obtain ⟨x9, rfl, _⟩ := shape_int Try.underlying3 k9
  obtain ⟨x10, rfl, _⟩ := shape_int Try.underlying41 k10
  obtain ⟨p, rfl⟩ := sh_prior k11
  obtain ⟨x12, rfl, _⟩ := shape_int Try.underlying3 k12
  obtain ⟨pv, path, rfl, hp⟩ := sh_path hz k13
  exact ⟨⟨y1, y2, x1, ⟨x2, x3, x4, x5, x6, x7, x8, x9, x10, p, x12⟩, pv, path, y4, y5, y6⟩, rfl, hp⟩
theorem sl_of {α : Type} {s : Nat} {f : α → List Value} {v : Value} {xs : List α} (h : SlOf A s v (xs.map f)) : SlAt A s (fun xs => xs.flatMap f) v xs := by
  rcases h with ⟨rfl, he⟩ | ⟨rfl, he⟩ | ⟨b, rfl, hb⟩
  · have : xs = [] := by simpa using he
    exact .inl ⟨⟨_, _, rfl⟩, this⟩
  · have : xs = [] := by simpa using he
    exact .inl ⟨⟨_, _, rfl⟩, this⟩
  · exact .inr ⟨b, true, by simp, hb.trans (by simp only [List.flatMap_def])⟩
end
/-- WHAT THE CALL GIVES, FOR EVERY ARGUMENT. -/
theorem contract (H : Type) (enc : TypeId × Value → H) (W : World) (base : Nat) (args : Array Value) (ds gs : List (DataW H)) (before : List MemPlace)
    (hval : ∀ (j : Nat) t v, Try.f3.params[j]? = some t → args[j]? = some v → Value.okWide Try.prog W .any base t v)
    (hW : DataW.Whole enc Try.prog Try.f3.params.toList Rows.treeFormsSpec.vars false W args.toList ds gs before) :
    Calls Try.prog 3 args W fun e W' => ∃ v, e = .returned v ∧ Rows.treeFormsSpec.post enc Try.prog Try.f3 false true false false W args v W' := by
  have hW' := hW
  obtain ⟨p, q, hA0, hV, rfl, hfz, hnd⟩ := hW
  have hA : DataW.TrodAll enc Try.prog W 0 (fun _ => true) true Try.f3.params.toList args.toList ds p := hA0
  rw [Try.params3] at hA hval
  obtain ⟨v0, vs0, d0, ds0, p0, q0, hargs, rfl, rfl, h0, r0⟩ := trodAll_cons hA
  obtain ⟨v1, vs1, d1, ds1, p1, q1, hargs1, rfl, rfl, h1, r1⟩ := trodAll_cons r0
  obtain ⟨v2, vs2, d2, ds2, p2, q2, hargs2, rfl, rfl, h2, r2⟩ := trodAll_cons r1
  obtain ⟨rfl, rfl, rfl⟩ := trodAll_nil r2
  subst hargs2
  subst hargs1
  obtain rfl : args = #[v0, v1, v2] := by cases args; simp_all
  obtain ⟨rfl, rfl⟩ := trodVars_none hV
  clear hA0
  simp only [List.append_nil] at hW'
  have hlt := hW'.lt
  obtain ⟨M0, a0, G0, e0, s0⟩ := In.arg (n := 7) (by kernel_rfl) (by rw [Try.underlying22]; intro _ h; cases h) (by rw [Try.underlying22]; intro _ _ h; cases h) (hval 0 22 v0 rfl rfl) h0 (Good.nil W)
  obtain ⟨M1, a1, G1, e1, s1⟩ := In.arg (n := 7) (by kernel_rfl) (by rw [Try.underlying23]; intro _ h; cases h) (by rw [Try.underlying23]; intro _ _ h; cases h) (hval 1 23 v1 rfl rfl) h1 G0
  obtain ⟨M2, a2, G2, e2, s2⟩ := In.arg (n := 7) (by kernel_rfl) (by rw [Try.underlying24]; intro _ h; cases h) (by rw [Try.underlying24]; intro _ _ h; cases h) (hval 2 24 v2 rfl rfl) h2 G1
  have s0 := (s0.mono (fun _ _ => hpOf_keeps (M := M1))).mono (fun _ _ => hpOf_keeps (M := M2))
  have s1 := s1.mono (fun _ _ => hpOf_keeps (M := M2))
  have e0 := ((e0.mono (ren_agree (M := M1))).mono (ren_agree (M := M2)))
  have e1 := e1.mono (ren_agree (M := M2))
  generalize [] ++ M0 ++ M1 ++ M2 = L at G2 s0 s1 s2 e0 e1 e2
  obtain ⟨u0, rows0, hu0, _, hr0, hs0⟩ := shape_slice Try.underlying22 s0
  obtain ⟨u1, rows1, hu1, _, hr1, hs1⟩ := shape_slice Try.underlying23 s1
  obtain ⟨u2, rows2, hu2, _, hr2, hs2⟩ := shape_slice Try.underlying24 s2
  cases hu0; cases hu1; cases hu2
  rw [c28] at hs0; rw [c35] at hs1; rw [c45] at hs2
  obtain ⟨ps, rfl, _⟩ := rows_map (f := Pr.cells) (p := fun _ => True) fun r hm => by
    obtain ⟨x, rfl⟩ := sh_prior (hr0 r hm).2
    exact ⟨x, rfl, trivial⟩
  obtain ⟨ls, rfl, _⟩ := rows_map (f := lC) (p := fun _ => True) fun r hm => by
    obtain ⟨x, rfl⟩ := sh_link (hr1 r hm).2
    exact ⟨x, rfl, trivial⟩
  have hz : rows2 ≠ [] → (hpOf W L).get 0 = some (.cells true []) := by
    intro hne
    rcases hs2 with ⟨_, he⟩ | ⟨_, he⟩ | ⟨b, _, hb⟩
    · exact (hne he).elim
    · exact (hne he).elim
    · exact hpOf_zero G2 hb
  obtain ⟨xs, rfl, hxs⟩ := rows_map (f := Lr.cells) (p := fun x => IntsAt (hpOf W L) x.pv x.path) fun r hm => by
    obtain ⟨x, rfl, hx⟩ := sh_step (hz (fun e => by rw [e] at hm; cases hm)) (hr2 r hm).2
    exact ⟨x, rfl, hx⟩
  have hc : dcall Try.prog 3 [a0, a1, a2] (hpOf W L) fun v _ => v = .bool true := Sx.c3 (sl_of hs0) (sl_of hs1) (sl_of hs2) hxs (fun _ _ => rfl)
  have hcall := calls_of_dcall (vs := [v0, v1, v2]) G2 (.cons (.v (.s (.p e0))) (.cons (.v (.s (.p e1))) (.cons (.v (.s (.p e2))) .nil))) hc
  refine hcall.mono fun e W' ⟨he, hB⟩ => ?_
  subst he
  have st : ∀ {t : TypeId} {v : Value} {d : DataW H} {ps : List MemPlace}, Try.prog.readableRec t = true → t < Try.prog.types.size → DataW.Trod enc Try.prog W 0 (fun _ => true) true t v d ps → (∀ x ∈ ps, x ∈ p0 ++ (p1 ++ p2)) → DataW.Trod enc Try.prog W' 0 (fun b => decide (b < W.heap.size)) true t v d ps :=
    fun hr hs h hm => Below.trod laidOut hr hs h hB (fun x hx => hlt x (hm x hx))
  refine ⟨_, rfl, _, _, _, [], p0 ++ (p1 ++ (p2 ++ [])), [], hW', (trodAll_cons_mk (shut_bool Try.underlying4 _) trodAll_mk0), ?_, rfl, hB.frame _, fun h => by cases h⟩
  exact trodAll_cons_mk (st (by kernel_rfl) (of_decide_eq_true (by kernel_rfl)) h0 (fun x hx => by simp [hx])) (trodAll_cons_mk (st (by kernel_rfl) (of_decide_eq_true (by kernel_rfl)) h1 (fun x hx => by simp [hx])) (trodAll_cons_mk (st (by kernel_rfl) (of_decide_eq_true (by kernel_rfl)) h2 (fun x hx => by simp [hx])) trodAll_mk0))
theorem lifted (os : Os) (started : os.Started) (H : Type) (enc : TypeId × Value → H) :
    ReturnsInHanded {} Try.checked os 3 .any (Rows.treeFormsSpec.pre6 enc Try.prog Try.f3 Rows.treeFormsRow.domain false) (Rows.treeFormsSpec.post enc Try.prog Try.f3 false true false false) := by
  refine returnsInHanded_of_change (C := Try.checked) own started (by kernel_rfl) Try.func3
    (ChangeSpec.witness6 (enc := enc) (C := Try.checked) false ⟨#[], #[.slice none 0 0, .slice none 0 0, .slice none 0 0], []⟩ 8 (by kernel_rfl) (by kernel_rfl) (by kernel_rfl) (by kernel_rfl)) ?_
  intro W base args ds gs before hval hW _ _
  exact contract H enc W base args ds gs before hval hW
theorem proved : Rows.TreeFormsSaid :=
  OpenClaim.holds_of_wide 3 Try.f3 rfl rfl rfl rfl rfl rfl rfl ⟨rfl, rfl, rfl, rfl, rfl⟩ rfl rfl rfl rfl rfl (by kernel_rfl) Try.func3 (by kernel_rfl)
    (of_decide_eq_true (by kernel_rfl)) (by unfold Func.isWrapper; first | (rw [if_pos (by decide +kernel)]; kernel_rfl) | (rw [if_neg (by decide +kernel)]; exact ⟨rfl, rfl⟩))
    (fun os started H enc _ => lifted os started H enc)
#print axioms proved
end Go.Proofs.Ytckdmhjhjfmcdaa.treeForms
