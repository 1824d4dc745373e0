/-
  Each writing operation, and each call, in the machine.
-/
import Derived.Test.YtckdmhjhjfmcdaaSi
import Derived.Laws.Append
namespace Go.Proofs.Ytckdmhjhjfmcdaa.Sx
set_option linter.unusedSimpArgs false
set_option linter.unusedVariables false
open Go
variable {P : Program} {ρ : Ren} {N : Nat} {E : Env} {A : AHeap} {a : Act} {w : World}

/-- The world behind a draw. -/
abbrev drawn (w : World) : World := w.drew
theorem HRel.drawn (hr : HRel ρ A w) : HRel ρ A (Sx.drawn w) := ⟨hr.fresh, hr.ok, hr.cells, hr.map, hr.apart⟩
theorem Step.drawn : Step ρ A w ρ A (Sx.drawn w) := ⟨Nat.le_refl _, Nat.le_refl _, fun _ _ => rfl, fun _ _ _ => rfl, fun _ h => .inl h, fun _ h => .inl h, rfl, rfl, rfl⟩

/-- One block more, for a new handle. -/
theorem HRel.more (hr : HRel ρ A w) {o : AObj} {C : Obj} {b : Base} (hb : b.ok = true) (hblk : b.blk = w.heap.size) (hc : ObjAt (ρ.at A.next b) b o (Sx.more w C)) :
    HRel (ρ.at A.next b) (A.alloc o) (Sx.more w C) ∧ Step ρ A w (ρ.at A.next b) (A.alloc o) (Sx.more w C) := by
  have hnok := hr.fresh A.next (Nat.le_refl _)
  have hsz : (Sx.more w C).heap.size = w.heap.size + 1 := by show (w.heap.push C).size = _; simp
  refine ⟨hr.add hnok hb (fun i => rfl) (by simp [AHeap.alloc]) (by simp [AHeap.alloc]) (fun i hi => more_old w C hi) (fun h' o' hg => by have := hr.lt hg; omega) hc, ?_⟩
  refine ⟨by omega, by simp [AHeap.alloc], fun h hh => Ren.at_ne _ _ (by omega), fun i hi _ => more_old w C hi, fun x hx => ?_, fun x hx => ?_, rfl, rfl, rfl⟩
  · obtain ⟨i, oi, hi, hw, hbi⟩ := hx
    by_cases e : i = A.next
    · subst e; rw [Ren.at_same] at hbi; exact .inr (by omega)
    · rw [AHeap.get_alloc _ _ e] at hi
      rw [Ren.at_ne _ _ e] at hbi
      exact .inl ⟨i, oi, hi, hw, hbi⟩
  · obtain ⟨i, oi, hi, hbi⟩ := hx
    by_cases e : i = A.next
    · subst e; rw [Ren.at_same] at hbi; exact .inr (by omega)
    · rw [AHeap.get_alloc _ _ e] at hi
      rw [Ren.at_ne _ _ e] at hbi
      exact .inl ⟨i, oi, hi, hbi⟩

theorem mul_le {a b c : Nat} (h : a ≤ b) : a * c ≤ b * c := Nat.mul_le_mul_right _ h

/-- The cells of a fresh row that holds some known ones, then others. -/
theorem row_new {cs cs' : List Value} (hc : All2 (SRel ρ) cs cs') (C : Array Value) (hC : C.toList.take cs'.length = cs') (t : TypeId) (w : World) {h : Nat} (hh : (ρ h).ok = false) (hle : cs.length ≤ C.size) :
    ObjAt (ρ.at h ⟨w.heap.size, 0, C.size, true⟩) ⟨w.heap.size, 0, C.size, true⟩ (.cells false cs) (Sx.more w (.cells C t)) :=
  cells_more (by rw [hc.length, hC]; exact hc.mono fun _ _ x => x.mono (Agree.at hh _)) _ (Nat.le_refl _) hle w

theorem append_grow (hr : HRel ρ A w) {e : TypeId} {ti : TypeInfo} (hi : P.info? e = some ti) (hs0 : 0 < ti.size) {t0 : TypeId} {argTypes : Array TypeId} (h0 : argTypes[0]? = some t0) (hu : P.underlying t0 = some (.slice e))
    {t1 e1 : TypeId} (h1 : argTypes[1]? = some t1) (hu1 : P.underlying t1 = some (.slice e1)) (hb0 : 0 < ti.bytes) {zs : List Value} (hz : zeroL P e = some zs) (hzl : zs.length = ti.size) (type : TypeId)
    {q : Option Addr} {lx c ly : Nat} {v2 : Value} (hv2 : ∃ q l c, v2 = .slice q l c ∧ l = ly) {xs xs' ys ys' : List Value} (hx : All2 (SRel ρ) xs xs') (hy : All2 (SRel ρ) ys ys') (hxl : xs.length = lx * ti.size) (hyl : ys.length = ly * ti.size)
    (hxr : ∀ w0, w0.heap = w.heap → (Builtin.firstCells ti.size lx (.slice q lx c)).run P w0 = .ok xs'.toArray w0) (hyr : ∀ w0, w0.heap = w.heap → (Builtin.firstCells ti.size ly v2).run P w0 = .ok ys'.toArray w0) (hneed : c < lx + ly) (hbound : (lx + ly) * ti.bytes ≤ 140737488355328) :
    ∃ v' b w', (Builtin.append_ argTypes type #[.slice q lx c, v2]).run P w = .ok v' w' ∧ HRel (ρ.at A.next b) (A.alloc (.cells false (xs ++ ys))) w' ∧ Step ρ A w (ρ.at A.next b) (A.alloc (.cells false (xs ++ ys))) w' ∧
      TRel (ρ.at A.next b) (.slice (some ⟨A.next, 0, none⟩) (lx + ly) ti.size) v' := by
  obtain ⟨q2, l2, c2, rfl, rfl⟩ := hv2
  obtain ⟨z, h3, h4, h5⟩ := zeroL_some hz
  have hsmall : lx + l2 ≤ 140737488355328 := by
    have := Nat.mul_le_mul_left (lx + l2) hb0
    omega
  obtain ⟨nc, hnc⟩ : ∃ nc, nc = (Question.appendCap (lx + l2) c e).cut (w.tape w.drawn (.appendCap (lx + l2) c e)) := ⟨_, rfl⟩
  have hncge : lx + l2 ≤ nc := by rw [hnc]; exact Nat.le_add_right _ _
  let C : Array Value := xs'.toArray ++ ys'.toArray ++ Builtin.zeroCells z.cells (nc - (lx + l2))
  have hzsz : z.cells.size = ti.size := by rw [← hzl, ← h4]; simp
  have hCsz : C.size = nc * ti.size := by
    have e1 := hx.length; have e2 := hy.length
    have : (Builtin.zeroCells z.cells (nc - (lx + l2))).size = (nc - (lx + l2)) * ti.size := by simp [Builtin.zeroCells, hzsz]
    simp only [C, Array.size_append, List.size_toArray, this]
    rw [← e1, ← e2, hxl, hyl, ← Nat.add_mul, ← Nat.add_mul]
    congr 1; omega
  have hrun : (Builtin.append_ argTypes type #[.slice q lx c, .slice q2 l2 c2]).run P w = .ok (.slice (some ⟨w.heap.size, 0, none⟩) (lx + l2) nc) (more (drawn w) (.cells C e)) := by
    have hn : ¬ (lx + l2 ≤ c) := by omega
    have h63' : ¬ (9223372036854775807 < ((lx : Int) + (l2 : Int))) := by omega
    have h48' : ¬ (281474976710656 < Builtin.nextslicecap (lx + l2) c * ti.bytes) := by have := growslice_fits (bytes := ti.bytes) hneed hbound; omega
    have hx' := hxr w.drew rfl
    have hy' := hyr w.drew rfl
    have hzr := h3 w.drew
    simp [Builtin.append_, h0, h1, run_underlying hu, run_underlying hu1, sizeOf, typeInfo, hi, Builtin.lenOf, hn, h63', h48', Question.forced, hx', hy', hzr, newRow]
    simp [C, hnc]
  have hmore := hr.drawn.more (o := .cells false (xs ++ ys)) (C := .cells C e) (b := ⟨w.heap.size, 0, C.size, true⟩) rfl rfl ?_
  · refine ⟨_, _, _, hrun, hmore.1, Step.drawn.trans hmore.2, ?_⟩
    exact slice_new _ _ w.heap.size C.size _ _ _ (Ren.at_same _ _ _) hncge (by omega) hs0
  · have e1 := hx.length
    have e2 := hy.length
    refine row_new (w := drawn w) (hx.append hy) C ?_ e (hr.fresh _ (Nat.le_refl _)) ?_
    · show ((xs'.toArray ++ ys'.toArray ++ _ : Array Value).toList).take _ = _
      rw [Array.toList_append, Array.toList_append]
      exact List.take_left' (by simp)
    · rw [List.length_append, hxl, hyl, ← Nat.add_mul, hCsz]; exact mul_le hncge

theorem append_room (hr : HRel ρ A w) {e : TypeId} {ti : TypeInfo} (hi : P.info? e = some ti) {t0 : TypeId} {argTypes : Array TypeId} (h0 : argTypes[0]? = some t0) (hu : P.underlying t0 = some (.slice e))
    {t1 e1 : TypeId} (h1 : argTypes[1]? = some t1) (hu1 : P.underlying t1 = some (.slice e1)) (type : TypeId)
    {h off lx c ly : Nat} {cs : List Value} (hg : A.get h = some (.cells false cs)) (hoff : off + lx * ti.size = cs.length) (hext : off + c * ti.size ≤ (ρ h).ext) (hs0 : 0 < ti.size)
    {v2 : Value} (hv2 : ∃ q l c, v2 = .slice q l c ∧ l = ly) {ys ys' : List Value} (hy : All2 (SRel ρ) ys ys') (hyl : ys.length = ly * ti.size)
    (hyr : (Builtin.firstCells ti.size ly v2).run P w = .ok ys'.toArray w) (hneed : lx + ly ≤ c) :
    ∃ v' b w', (Builtin.append_ argTypes type #[.slice (some (ρ.addr h off)) lx c, v2]).run P w = .ok v' w' ∧ HRel (ρ.at A.next b) ((A.del h).alloc (.cells false (cs.drop off ++ ys))) w' ∧ Step ρ A w (ρ.at A.next b) ((A.del h).alloc (.cells false (cs.drop off ++ ys))) w' ∧
      TRel (ρ.at A.next b) (.slice (some ⟨A.next, 0, none⟩) (lx + ly) ti.size) v' := by
  obtain ⟨q2, l2, c2, rfl, rfl⟩ := hv2
  have hc := hr.cells h false cs hg
  obtain ⟨C, t, fr, g1, g2, g3, g4, g5⟩ := id hc
  have hlen := hy.length
  have hone : ∀ v ∈ ys', v.oneCell' = true := by
    intro v hv'
    obtain ⟨k, hk⟩ := List.mem_iff_getElem?.1 hv'
    obtain ⟨u, _, hu⟩ := hy.get' hk
    exact hu.one.2
  have hfit : cs.length + ys'.length ≤ (ρ h).ext := by
    have : (lx + l2) * ti.size ≤ c * ti.size := mul_le hneed
    rw [Nat.add_mul] at this
    omega
  obtain ⟨w', r1, C', r2, r3⟩ := run_storeCells_blk (P := P) (b := (ρ h).blk) (o := (ρ h).off + cs.length) (t := t) (fr := fr) ys' 0 C w g1 (by omega) (fun j hj => by
    have := g5 rfl (cs.length + j) (by omega)
    rwa [show (ρ h).off + cs.length + 0 + j = (ρ h).off + (cs.length + j) by omega]) hone
  have hadd : (ρ.addr h off).add (lx * ti.size) = ⟨(ρ h).blk, (ρ h).off + cs.length, none⟩ := by rw [addr_add, hoff]; rfl
  have hrun : (Builtin.append_ argTypes type #[.slice (some (ρ.addr h off)) lx c, .slice q2 l2 c2]).run P w = .ok (.slice (some (ρ.addr h off)) (lx + l2) c) w' := by
    simp [Builtin.append_, h0, h1, run_underlying hu, run_underlying hu1, sizeOf, typeInfo, hi, Builtin.lenOf, hneed, hyr, hadd, r1]
  have hnok := hr.fresh A.next (Nat.le_refl _)
  have hlt := A.lt hg
  let b : Base := ⟨(ρ h).blk, (ρ h).off + off, (ρ h).ext - off, true⟩
  have hCs : C'.size = C.size := by
    have : C'.toList.length = C.toList.length := by rw [r2, putCells_length]
    simpa using this
  have hobj : CellsAt (ρ.at A.next b) b false (cs.drop off ++ ys) w' := by
    refine ⟨C', t, fr, r3.blk, by show (ρ h).off + off + ((ρ h).ext - off) ≤ _; omega, by show _ ≤ (ρ h).ext - off; simp; omega, fun k v hk => ?_, fun _ k hk => ?_⟩
    · have hk' : C'[b.off + k]? = if (ρ h).off + cs.length ≤ b.off + k ∧ b.off + k < (ρ h).off + cs.length + ys'.length then ys'[b.off + k - ((ρ h).off + cs.length)]? else C[b.off + k]? := by
        have := putCells_get ys' C.toList ((ρ h).off + cs.length) (b.off + k) (by simp; omega)
        rw [show (ρ h).off + cs.length + 0 = (ρ h).off + cs.length from rfl] at r2
        rw [← r2] at this
        simpa using this
      rw [hk']
      have hboff : b.off = (ρ h).off + off := rfl
      rw [List.getElem?_append] at hk
      split at hk
      · rename_i hkl
        simp at hkl
        rw [List.getElem?_drop] at hk
        rw [if_neg (by omega)]
        obtain ⟨v', e1, e2⟩ := g4 _ v hk
        exact ⟨v', by rw [hboff, Nat.add_assoc]; exact e1, e2.mono (Agree.at hnok b)⟩
      · rename_i hkl
        simp at hkl hk
        obtain ⟨v', e1, e2⟩ := hy.get hk
        have hky : k - (cs.length - off) < ys'.length := by
          rcases Nat.lt_or_ge (k - (cs.length - off)) ys'.length with hh | hh
          · exact hh
          · rw [List.getElem?_eq_none hh] at e1; cases e1
        rw [if_pos (by omega), show b.off + k - ((ρ h).off + cs.length) = k - (cs.length - off) by omega]
        exact ⟨v', e1, e2.mono (Agree.at hnok b)⟩
    · have hboff : b.off = (ρ h).off + off := rfl
      have hbext : b.ext = (ρ h).ext - off := rfl
      rw [hbext] at hk
      have := g5 rfl (off + k) (by omega)
      rw [hboff, Nat.add_assoc]; exact this
  have hget : ∀ i, ((A.del h).alloc (.cells false (cs.drop off ++ ys))).get i = if i = A.next then some (.cells false (cs.drop off ++ ys)) else if i = h then none else A.get i := fun i => rfl
  have hH : HRel (ρ.at A.next b) ((A.del h).alloc (.cells false (cs.drop off ++ ys))) w' := by
    refine HRel.of_obj ?_ ?_ ?_ ?_
    · intro i hi
      have : A.next + 1 ≤ i := hi
      rw [Ren.at_ne _ _ (by omega)]; exact hr.fresh i (by omega)
    · intro i o' hi
      rw [hget] at hi
      split at hi
      · rename_i e; subst e; rw [Ren.at_same]
      · rename_i e
        split at hi
        · cases hi
        · rw [Ren.at_ne _ _ e]; exact hr.ok _ _ hi
    · intro i o' hi
      rw [hget] at hi
      split at hi
      · rename_i e; subst e; cases hi; rw [Ren.at_same]; exact hobj
      · rename_i e
        split at hi
        · cases hi
        · rename_i e2
          rw [Ren.at_ne _ _ e]
          exact (hr.obj hi).mono (Agree.at hnok b) (r3.other _ (hr.apart' e2 hi hg (.inr rfl)))
    · intro i j oi oj hij hi' hj' hw
      rw [hget] at hi' hj'
      split at hi'
      · rename_i e; subst e
        rw [if_neg (Ne.symm hij)] at hj'
        split at hj'
        · cases hj'
        · rename_i e2
          rw [Ren.at_same, Ren.at_ne _ _ (Ne.symm hij)]
          exact Ne.symm (hr.apart' e2 hj' hg (.inr rfl))
      · rename_i e
        split at hi'
        · cases hi'
        · rename_i e2
          rw [Ren.at_ne _ _ e]
          split at hj'
          · rename_i e3; subst e3; rw [Ren.at_same]; exact hr.apart' e2 hi' hg (.inr rfl)
          · rename_i e3
            split at hj'
            · cases hj'
            · rw [Ren.at_ne _ _ e3]; exact hr.apart i j oi oj hij hi' hj' hw
  refine ⟨_, b, w', hrun, hH, ⟨by rw [r3.size]; exact Nat.le_refl _, by show A.next ≤ A.next + 1; omega, fun i hi' => Ren.at_ne _ _ (by omega), fun x hx hn => r3.other x (fun ex => hn ⟨h, _, hg, rfl, ex.symm⟩), fun x hx => ?_, fun x hx => ?_, r3.os, r3.output, r3.tape⟩, ?_⟩
  · obtain ⟨i, oi, hi', hw, hbi⟩ := hx
    rw [hget] at hi'
    split at hi'
    · rename_i e; subst e; rw [Ren.at_same] at hbi; exact .inl ⟨h, _, hg, rfl, hbi⟩
    · rename_i e
      split at hi'
      · cases hi'
      · rw [Ren.at_ne _ _ e] at hbi; exact .inl ⟨i, oi, hi', hw, hbi⟩
  · obtain ⟨i, oi, hi', hbi⟩ := hx
    rw [hget] at hi'
    split at hi'
    · rename_i e; subst e; rw [Ren.at_same] at hbi; exact .inl ⟨h, _, hg, hbi⟩
    · rename_i e
      split at hi'
      · cases hi'
      · rw [Ren.at_ne _ _ e] at hbi; exact .inl ⟨i, oi, hi', hbi⟩
  · have := PRel.sl (ρ := ρ.at A.next b) A.next 0 (lx + l2) ti.size c (by rw [Ren.at_same]) hneed (by rw [Ren.at_same]; show 0 + c * ti.size ≤ (ρ h).ext - off; omega) hs0
    have e : (ρ.at A.next b).addr A.next 0 = ρ.addr h off := by simp [Ren.addr, Ren.at_same, b]
    rw [e] at this
    exact this.t
end Go.Proofs.Ytckdmhjhjfmcdaa.Sx
