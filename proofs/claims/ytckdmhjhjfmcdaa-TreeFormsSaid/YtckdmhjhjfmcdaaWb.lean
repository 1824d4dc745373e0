/-
  What reads as plain data stands in the abstract heap.
-/
import Derived.Test.YtckdmhjhjfmcdaaWa
namespace Go.Proofs.Ytckdmhjhjfmcdaa.Sx
set_option linter.unusedSimpArgs false
set_option linter.unusedVariables false
open Go Go.Deep

section
variable {H : Type} {enc : TypeId × Value → H} {P : Program} {w : World}
def trodL (c : TypeId → Nat) (T : TypeId → List Value → Prop) : List TypeId → List Value → Prop
  | [], cs => cs = []
  | t :: ts, cs => c t ≤ cs.length ∧ T t (cs.take (c t)) ∧ trodL c T ts (cs.drop (c t))
theorem tile_le : ∀ {fs : List Field} {o e : Nat}, tileB P fs o e = true → o ≤ e
  | [], o, e, h => by simp [tileB] at h; omega
  | f :: fs, o, e, h => by
    simp [tileB] at h
    have := tile_le h.2
    omega
theorem tile_trodL {T : TypeId → List Value → Prop} {cs : List Value} : ∀ {fs : List Field} {o : Nat}, tileB P fs o cs.length = true → (∀ f ∈ fs, T f.type ((cs.drop f.offset).take (P.cellsOf f.type))) → trodL P.cellsOf T (fs.map (·.type)) (cs.drop o)
  | [], o, h, _ => by
    simp [tileB] at h
    simp [trodL, h]
  | f :: fs, o, h, hT => by
    simp [tileB] at h
    have := tile_le h.2
    refine ⟨by simp; omega, ?_, ?_⟩
    · have := hT f (by simp)
      rw [h.1] at this; exact this
    · rw [List.drop_drop]
      exact tile_trodL h.2 fun g hg => hT g (by simp [hg])
theorem arr_trodL {T : TypeId → List Value → Prop} {c : TypeId → Nat} {e : TypeId} {cs : List Value} : ∀ (m i : Nat), (i + m) * c e = cs.length → (∀ j, j < i + m → T e ((cs.drop (j * c e)).take (c e))) → trodL c T (List.replicate m e) (cs.drop (i * c e))
  | 0, i, h, _ => by
    simp [trodL] at h ⊢; omega
  | m + 1, i, h, hT => by
    rw [List.replicate_succ]
    have e1 : (i + (m + 1)) * c e = i * c e + c e + m * c e := by rw [Nat.add_mul, Nat.succ_mul]; omega
    refine ⟨by rw [List.length_drop]; omega, hT i (by omega), ?_⟩
    rw [List.drop_drop, show i * c e + c e = (i + 1) * c e by rw [Nat.succ_mul]]
    exact arr_trodL m (i + 1) (by rw [show i + 1 + m = i + (m + 1) by omega]; exact h) fun j hj => hT j (by omega)
/-- It can be read as data. -/
def Tr0 (enc : TypeId × Value → H) (P : Program) (w : World) (t : TypeId) (cs : List Value) : Prop := ∃ fuel x, DataW.trod enc P w 0 (fun _ => true) true fuel t cs = some x
theorem tr_array {m : Nat} {e t : TypeId} {cs : List Value} (ht : P.underlying t = some (.array m e)) (h : Tr0 enc P w t cs) : cs.length = P.cellsOf t ∧ ∀ i, i < m → Tr0 enc P w e ((cs.drop (i * P.cellsOf e)).take (P.cellsOf e)) := by
  obtain ⟨fuel, x, h⟩ := h
  cases fuel with
  | zero => simp [DataW.trod] at h
  | succ n =>
    unfold DataW.trod at h
    rw [ht] at h
    simp only at h
    split at h
    · rename_i hl
      refine ⟨hl, fun i hi => ?_⟩
      obtain ⟨xs, h1, _⟩ := Option.map_eq_some_iff.1 h
      have := mapM_some_get h1 i i (by simp [hi])
      have hlen := mapM_some_length h1
      rw [List.length_range] at hlen
      rw [List.getElem?_eq_getElem (by omega)] at this
      exact ⟨n, _, this⟩
    · cases h
theorem tr_struct {fs : Array Field} {t : TypeId} {cs : List Value} (ht : P.underlying t = some (.struct fs)) (h : Tr0 enc P w t cs) : cs.length = P.cellsOf t ∧ ∀ f ∈ fs.toList, Tr0 enc P w f.type ((cs.drop f.offset).take (P.cellsOf f.type)) := by
  obtain ⟨fuel, x, h⟩ := h
  obtain ⟨xs, n, _, _, hl, hlen, hf⟩ := DataW.trod_struct ht h
  refine ⟨hl, fun f hm => ?_⟩
  obtain ⟨i, hi⟩ := List.mem_iff_getElem?.1 hm
  have hi' : fs[i]? = some f := by rw [← hi, Array.getElem?_toList]
  have := hf i f hi'
  have hlt : i < xs.length := by
    rw [hlen, ← Array.length_toList]
    exact (List.getElem?_eq_some_iff.1 hi).1
  rw [List.getElem?_eq_getElem hlt] at this
  exact ⟨n, _, this⟩
/-- A slice's rows, as they lie. -/
theorem tr_slice {e t : TypeId} {cs : List Value} (ht : P.underlying t = some (.slice e)) (hs : 0 < P.cellsOf e) (h : Tr0 enc P w t cs) :
    cs = [.slice none 0 0] ∨ (∃ a, cs = [.slice (some a) 0 0]) ∨ ∃ b o len cap C tt fr, cs = [.slice (some ⟨b, o, none⟩) len cap] ∧ len ≤ cap ∧ cap ≤ maxLen ∧ w.heap[b]? = some (.cells C tt fr) ∧ o + cap * P.cellsOf e ≤ C.size ∧
      ∀ i, i < len → Tr0 enc P w e ((C.toList.drop (o + i * P.cellsOf e)).take (P.cellsOf e)) := by
  obtain ⟨fuel, x, h⟩ := h
  rcases open_slice ht h with ⟨rfl, _⟩ | ⟨a, len, cap, m, n, D, Pl, rfl, _, hl, hm, hmm, _, hx⟩
  · exact .inl rfl
  right
  simp at hmm
  subst hmm
  rcases Nat.eq_zero_or_pos m with rfl | hpos
  · obtain rfl : len = 0 := by omega
    exact .inl ⟨a, rfl⟩
  right
  generalize hse : P.cellsOf e = s at *
  obtain ⟨b, o, sp⟩ := a
  obtain ⟨c0, h1, _⟩ := hx 0 hpos
  obtain ⟨_, h2, h3⟩ := World.cells?_some h1
  have h4 := h3 0 hs
  rw [List.getElem?_eq_getElem (by omega)] at h4
  simp only [Addr.add, Nat.zero_mul, if_true] at h4
  unfold World.cell? at h4
  simp only at h4
  cases hb : w.heap[b]? with
  | none => rw [hb] at h4; cases h4
  | some blk =>
    rw [hb] at h4
    cases blk with
    | cells C tt fr =>
      simp only at h4
      cases sp with
      | some _ => simp at h4
      | none =>
        have hcell : ∀ k, w.cell? ⟨b, o + k, none⟩ = C[o + k]? := by intro k; unfold World.cell?; simp [hb]
        have hrow : ∀ i, i < m → ∃ c, w.cells? 0 (Addr.add ⟨b, o, none⟩ (i * s)) s = some c ∧ c = (C.toList.drop (o + i * s)).take s ∧ c.length = s := by
          intro i hi
          obtain ⟨c, g1, _⟩ := hx i hi
          obtain ⟨_, g2, g3⟩ := World.cells?_some g1
          refine ⟨c, g1, ?_, g2⟩
          apply List.ext_getElem?
          intro j
          rw [List.getElem?_take]
          split
          · rename_i hj
            rw [← g3 j hj, Go.WideShapes.add_plain, Go.WideShapes.add_plain, Nat.add_assoc, hcell, List.getElem?_drop, Array.getElem?_toList]
            congr 1; omega
          · rename_i hj
            rw [List.getElem?_eq_none (by omega)]
        refine ⟨b, o, len, m, C, tt, fr, rfl, hl, hm, hb, ?_, fun i hi => ?_⟩
        · obtain ⟨c, _, g2, g3⟩ := hrow (m - 1) (by omega)
          rw [g2, List.length_take, List.length_drop, Array.length_toList] at g3
          have : m * s = (m - 1) * s + s := by
            conv => lhs; rw [show m = (m - 1) + 1 by omega, Nat.succ_mul]
          omega
        · obtain ⟨c, g1, g2, _⟩ := hrow i (by omega)
          obtain ⟨c', g3, g4⟩ := hx i (by omega)
          rw [g1] at g3
          cases g3
          rw [← g2]
          exact ⟨n, _, g4⟩
    | _ => simp at h4

/-- What is known when a value has been taken in. -/
def In (P : Program) (w : World) (n : Nat) (t : TypeId) (L : List Vw) (cs acs : List Value) : Prop :=
  Good w L ∧ All2 (PRel (ren w L)) acs cs ∧ Shape P (hpOf w L) n t acs
theorem All2.pmono {L M : List Vw} {acs cs : List Value} (h : All2 (PRel (ren w L)) acs cs) : All2 (PRel (ren w (L ++ M))) acs cs := h.mono fun _ _ h => h.mono ren_agree
theorem In.list {n : Nat} (hn : ∀ t, plainT P n t = true → ∀ cs (L : List Vw), Good w L → Tr0 enc P w t cs → ∃ M acs, In P w n t (L ++ M) cs acs) : ∀ (ts : List TypeId), (∀ t ∈ ts, plainT P n t = true) → ∀ cs (L : List Vw), Good w L → trodL P.cellsOf (Tr0 enc P w) ts cs →
    ∃ M acs, Good w (L ++ M) ∧ All2 (PRel (ren w (L ++ M))) acs cs ∧ shapeL P.cellsOf (Shape P (hpOf w (L ++ M)) n) ts acs
  | [], _, cs, L, G, h => by
    cases h
    exact ⟨[], [], by simpa using G, .nil, rfl⟩
  | t :: ts, hp, cs, L, G, ⟨h1, h2, h3⟩ => by
    obtain ⟨M1, a1, G1, r1, s1⟩ := hn t (hp t (by simp)) _ L G h2
    obtain ⟨M2, a2, G2, r2, s2⟩ := In.list hn ts (fun t ht => hp t (by simp [ht])) _ (L ++ M1) G1 h3
    have r1' := r1.pmono (M := M2)
    have s1' := s1.mono (B := hpOf w ((L ++ M1) ++ M2)) fun _ _ => hpOf_keeps
    rw [List.append_assoc] at G2 r2 s2 r1' s1'
    refine ⟨M1 ++ M2, a1 ++ a2, G2, ?_, a1, a2, rfl, ?_, s1', s2⟩
    · have := r1'.append r2
      rwa [List.take_append_drop] at this
    · rw [r1.length, List.length_take]; omega
theorem In.rows {n : Nat} {e : TypeId} {s : Nat} (hn : ∀ cs (L : List Vw), Good w L → Tr0 enc P w e cs → ∃ M acs, In P w n e (L ++ M) cs acs) : ∀ (css : List (List Value)), (∀ c ∈ css, Tr0 enc P w e c ∧ c.length = s) → ∀ (L : List Vw), Good w L →
    ∃ M rows, Good w (L ++ M) ∧ All2 (PRel (ren w (L ++ M))) (List.flatten rows) css.flatten ∧ rows.length = css.length ∧ ∀ r ∈ rows, r.length = s ∧ Shape P (hpOf w (L ++ M)) n e r
  | [], _, L, G => ⟨[], [], by simpa using G, .nil, rfl, fun r hr => (by cases hr)⟩
  | c :: css, h, L, G => by
    obtain ⟨M1, a1, G1, r1, s1⟩ := hn c L G (h c (by simp)).1
    obtain ⟨M2, rows, G2, r2, l2, s2⟩ := In.rows hn css (fun c hc => h c (by simp [hc])) (L ++ M1) G1
    have r1' := r1.pmono (M := M2)
    have s1' := s1.mono (B := hpOf w ((L ++ M1) ++ M2)) fun _ _ => hpOf_keeps
    rw [List.append_assoc] at G2 r2 s2 r1' s1'
    refine ⟨M1 ++ M2, a1 :: rows, G2, by rw [List.flatten_cons, List.flatten_cons]; exact r1'.append r2, by simp [l2], fun r hr => ?_⟩
    rcases List.mem_cons.1 hr with rfl | hr
    · exact ⟨by rw [r1.length]; exact (h c (by simp)).2, s1'⟩
    · exact s2 r hr
theorem flat_pieces (l : List Value) (s : Nat) : ∀ n, n * s ≤ l.length → ((List.range n).map fun i => (l.drop (i * s)).take s).flatten = l.take (n * s)
  | 0, _ => by simp
  | n + 1, h => by
    rw [Nat.succ_mul] at h
    rw [List.range_succ, List.map_append, List.flatten_append, flat_pieces l s n (by omega), Nat.succ_mul, List.take_add]
    simp
theorem In.open (n : Nat) : ∀ t, plainT P n t = true → ∀ cs (L : List Vw), Good w L → Tr0 enc P w t cs → ∃ M acs, In P w n t (L ++ M) cs acs := by
  induction n with
  | zero => intro t h; simp [plainT] at h
  | succ n ih =>
    intro t hp cs L G h
    unfold plainT at hp
    cases hu : P.underlying t with
    | none => rw [hu] at hp; simp at hp
    | some d =>
      rw [hu] at hp
      cases d with
      | bool =>
        obtain ⟨f, x, h⟩ := h
        obtain ⟨b, rfl, _⟩ := DataW.trod_bool hu h
        exact ⟨[], [.bool b], by simpa using G, .cons (.bool b) .nil, by unfold Shape; rw [hu]; exact ⟨b, rfl⟩⟩
      | int k =>
        obtain ⟨f, x, h⟩ := h
        obtain ⟨b, rfl, _, hw⟩ := DataW.trod_int hu h
        exact ⟨[], [.int k b], by simpa using G, .cons (.int k b) .nil, by unfold Shape; rw [hu]; exact ⟨b, rfl, hw⟩⟩
      | string =>
        obtain ⟨f, x, h⟩ := h
        obtain ⟨b, rfl, _, hw⟩ := DataW.trod_string hu h
        exact ⟨[], [.string b], by simpa using G, .cons (.str b) .nil, by unfold Shape; rw [hu]; exact ⟨b, rfl, hw⟩⟩
      | struct fs =>
        simp only [Bool.and_eq_true, List.all_eq_true] at hp
        obtain ⟨hl, hf⟩ := tr_struct hu h
        have ht := tile_trodL (P := P) (T := Tr0 enc P w) (cs := cs) (o := 0) (by rw [hl]; exact hp.1) hf
        rw [List.drop_zero] at ht
        obtain ⟨M, acs, G1, r1, s1⟩ := In.list ih (fs.toList.map (·.type)) (fun t ht => by
          obtain ⟨f, hf, rfl⟩ := List.mem_map.1 ht
          exact hp.2 f hf) cs L G ht
        exact ⟨M, acs, G1, r1, by unfold Shape; rw [hu]; exact s1⟩
      | array m e =>
        simp only [Bool.and_eq_true, beq_iff_eq] at hp
        obtain ⟨hl, hf⟩ := tr_array hu h
        have ht := arr_trodL (T := Tr0 enc P w) (c := P.cellsOf) (e := e) (cs := cs) m 0 (by rw [Nat.zero_add, hl]; exact hp.1) (fun j hj => hf j (by omega))
        rw [Nat.zero_mul, List.drop_zero] at ht
        obtain ⟨M, acs, G1, r1, s1⟩ := In.list ih (List.replicate m e) (fun t ht => by
          rw [List.eq_of_mem_replicate ht]; exact hp.2) cs L G ht
        exact ⟨M, acs, G1, r1, by unfold Shape; rw [hu]; exact s1⟩
      | slice e =>
        simp only [Bool.and_eq_true, decide_eq_true_eq] at hp
        rcases tr_slice hu hp.1 h with rfl | ⟨a, rfl⟩ | ⟨b, o, len, cap, C, tt, fr, rfl, hl, hm, hb, hC, hx⟩
        · exact ⟨[], [.slice none 0 0], by simpa using G, .cons .nilsl .nil, by unfold Shape; rw [hu]; exact ⟨_, [], rfl, by simp, fun r hr => (by cases hr), .inl ⟨rfl, rfl⟩⟩⟩
        · exact ⟨[], [.slice (some ⟨0, 0, none⟩) 0 (P.cellsOf e)], by simpa using G, .cons (.sl0 0 0 _ a rfl) .nil, by unfold Shape; rw [hu]; exact ⟨_, [], rfl, by simp, fun r hr => (by cases hr), .inr (.inl ⟨rfl, rfl⟩)⟩⟩
        · have hlen : len * P.cellsOf e ≤ cap * P.cellsOf e := Nat.mul_le_mul_right _ hl
          have hD : (C.toList.drop o).length = C.size - o := by simp
          obtain ⟨M, rows, G1, r1, l1, s1⟩ := In.rows (s := P.cellsOf e) (ih e hp.2) ((List.range len).map fun i => ((C.toList.drop o).drop (i * P.cellsOf e)).take (P.cellsOf e)) (fun c hc => by
            obtain ⟨i, hi, rfl⟩ := List.mem_map.1 hc
            have hi : i < len := by simpa using hi
            have : (i + 1) * P.cellsOf e ≤ len * P.cellsOf e := Nat.mul_le_mul_right _ hi
            rw [Nat.succ_mul] at this
            refine ⟨by rw [List.drop_drop]; exact hx i hi, ?_⟩
            rw [List.length_take, List.length_drop, hD]; omega) L G
          rw [flat_pieces _ _ len (by rw [hD]; omega)] at r1
          simp at l1
          have hc : CellsAt (ren w (L ++ M)) ⟨b, o, cap * P.cellsOf e, true⟩ true rows.flatten w := by
            refine ⟨C, tt, fr, hb, hC, ?_, fun k v hk => ?_, fun h => by cases h⟩
            · rw [r1.length, List.length_take]; simp only; omega
            · obtain ⟨v', hv, hr⟩ := r1.get hk
              rw [List.getElem?_take] at hv
              split at hv
              · rw [List.getElem?_drop, Array.getElem?_toList] at hv
                exact ⟨v', hv, .p hr⟩
              · cases hv
          have G2 := G1.snoc rfl hc
          have hat : (L ++ M ++ [(⟨b, o, cap * P.cellsOf e, true⟩, rows.flatten)])[(L ++ M).length]? = some (⟨b, o, cap * P.cellsOf e, true⟩, rows.flatten) := by simp
          have hren : ren w (L ++ M ++ [(⟨b, o, cap * P.cellsOf e, true⟩, rows.flatten)]) ((L ++ M).length + 1) = ⟨b, o, cap * P.cellsOf e, true⟩ := by
            simp only [ren]; rw [hat]
          have hget : (hpOf w (L ++ M ++ [(⟨b, o, cap * P.cellsOf e, true⟩, rows.flatten)])).get ((L ++ M).length + 1) = some (.cells true rows.flatten) := by
            simp only [hpOf]; rw [hat]; rfl
          have s2 : ∀ r ∈ rows, r.length = P.cellsOf e ∧ Shape P (hpOf w (L ++ M ++ [(⟨b, o, cap * P.cellsOf e, true⟩, rows.flatten)])) n e r := fun r hr => ⟨(s1 r hr).1, (s1 r hr).2.mono fun _ _ => hpOf_keeps⟩
          have hPR : PRel (ren w (L ++ M ++ [(⟨b, o, cap * P.cellsOf e, true⟩, rows.flatten)])) (.slice (some ⟨(L ++ M).length + 1, 0, none⟩) len (P.cellsOf e)) (.slice (some ⟨b, o, none⟩) len cap) := by
            have := PRel.sl (ρ := ren w (L ++ M ++ [(⟨b, o, cap * P.cellsOf e, true⟩, rows.flatten)])) ((L ++ M).length + 1) 0 len (P.cellsOf e) cap (by rw [hren]) hl (by rw [hren]; simp) hp.1
            simpa only [Ren.addr, hren, Nat.add_zero] using this
          rw [List.append_assoc] at G2 hget s2 hPR
          refine ⟨M ++ [(⟨b, o, cap * P.cellsOf e, true⟩, rows.flatten)], [.slice (some ⟨(L ++ M).length + 1, 0, none⟩) len (P.cellsOf e)], G2, .cons hPR .nil, ?_⟩
          unfold Shape
          rw [hu]
          exact ⟨_, rows, rfl, by omega, s2, .inr (.inr ⟨_, by rw [l1], hget⟩)⟩
      | _ => simp at hp
end
end Go.Proofs.Ytckdmhjhjfmcdaa.Sx
