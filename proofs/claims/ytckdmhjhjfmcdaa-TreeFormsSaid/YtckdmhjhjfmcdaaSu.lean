/-
  Rows of records.
-/
import Derived.Test.YtckdmhjhjfmcdaaSt
namespace Go.Proofs.Ytckdmhjhjfmcdaa.Sx
set_option linter.unusedSimpArgs false
set_option linter.unusedVariables false
open Go
section
variable {α : Type} {f : α → List Value} {s : Nat}
theorem flat_len (hf : ∀ a, (f a).length = s) : ∀ xs : List α, (xs.flatMap f).length = xs.length * s
  | [] => by simp
  | x :: xs => by simp [hf, flat_len hf xs, Nat.add_mul, Nat.add_comm]
theorem flat_drop (hf : ∀ a, (f a).length = s) : ∀ {xs : List α} {i : Nat} {x : α}, xs[i]? = some x → ∃ r, (xs.flatMap f).drop (i * s) = f x ++ r
  | [], i, x, h => by simp at h
  | y :: xs, 0, x, h => by simp at h; subst h; exact ⟨xs.flatMap f, by simp⟩
  | y :: xs, i + 1, x, h => by
    obtain ⟨r, hr⟩ := flat_drop hf (xs := xs) (i := i) (x := x) (by simpa using h)
    refine ⟨r, ?_⟩
    rw [← hr, List.flatMap_cons, List.drop_append, hf, List.drop_eq_nil_of_le (by rw [hf, Nat.add_mul]; omega), show (i + 1) * s - s = i * s by rw [Nat.add_mul]; omega]
    simp
theorem flat_take (hf : ∀ a, (f a).length = s) {xs : List α} {i : Nat} {x : α} (h : xs[i]? = some x) : ((xs.flatMap f).drop (i * s)).take s = f x := by
  obtain ⟨r, hr⟩ := flat_drop hf h
  rw [hr, List.take_append_of_le_length (by rw [hf]; omega), List.take_of_length_le (by rw [hf]; omega)]
theorem flat_get (hf : ∀ a, (f a).length = s) {xs : List α} {i : Nat} {x : α} (h : xs[i]? = some x) {j : Nat} (hj : j < s) : (xs.flatMap f)[i * s + j]? = (f x)[j]? := by
  rw [← List.getElem?_drop]
  obtain ⟨r, hr⟩ := flat_drop hf h
  rw [hr, List.getElem?_append_left (by rw [hf]; exact hj)]
theorem flat_bound (hf : ∀ a, (f a).length = s) {xs : List α} {i : Nat} {x : α} (h : xs[i]? = some x) : i * s + s ≤ (xs.flatMap f).length := by
  rw [flat_len hf]
  have hi : i < xs.length := by
    rcases Nat.lt_or_ge i xs.length with hh | hh
    · exact hh
    · rw [List.getElem?_eq_none hh] at h; cases h
  calc i * s + s = (i + 1) * s := by rw [Nat.add_mul]; omega
    _ ≤ xs.length * s := Nat.mul_le_mul_right _ hi
theorem putCells_at : ∀ (vs cs : List Value) (o j : Nat), o + vs.length ≤ cs.length → (putCells cs o vs)[j]? = if o ≤ j ∧ j < o + vs.length then vs[j - o]? else cs[j]?
  | [], cs, o, j, _ => by simp [putCells]; omega
  | v :: vs, cs, o, j, h => by
    simp only [List.length_cons] at h
    rw [putCells, putCells_at vs (cs.set o v) (o + 1) j (by simp; omega)]
    simp only [List.length_cons]
    by_cases h1 : o + 1 ≤ j ∧ j < o + 1 + vs.length
    · rw [if_pos h1, if_pos (by omega), show j - o = (j - (o + 1)) + 1 by omega]
      simp
    · rw [if_neg h1]
      by_cases h2 : j = o
      · subst h2
        rw [if_pos (by omega), List.getElem?_set_self (by omega)]
        simp
      · rw [if_neg (by omega)]
        simp [Ne.symm h2]
theorem flat_at (hf : ∀ a, (f a).length = s) (hs : 0 < s) (xs : List α) (k : Nat) : (xs.flatMap f)[k]? = (xs[k / s]?).bind fun x => (f x)[k % s]? := by
  have hk : k = k / s * s + k % s := by rw [Nat.mul_comm]; exact (Nat.div_add_mod k s).symm
  cases hx : xs[k / s]? with
  | some x =>
    simp only [Option.bind_some]
    rw [hk, flat_get hf hx (Nat.mod_lt _ hs)]
    rw [← hk]
  | none =>
    simp only [Option.bind_none]
    rw [List.getElem?_eq_none_iff] at hx ⊢
    rw [flat_len hf]
    calc xs.length * s ≤ k / s * s := Nat.mul_le_mul_right _ hx
      _ ≤ k := Nat.div_mul_le_self k s
/-- One record is written anew. -/
theorem flat_put (hf : ∀ a, (f a).length = s) (hs : 0 < s) {xs : List α} {i : Nat} {x y : α} (h : xs[i]? = some x) {o : Nat} {vs : List Value} (ho : o + vs.length ≤ s) (hy : f y = putCells (f x) o vs) :
    putCells (xs.flatMap f) (i * s + o) vs = (xs.set i y).flatMap f := by
  have hb := flat_bound hf h
  have hi : i < xs.length := by
    rcases Nat.lt_or_ge i xs.length with hh | hh
    · exact hh
    · rw [List.getElem?_eq_none hh] at h; cases h
  apply List.ext_getElem?
  intro k
  rw [putCells_at _ _ _ _ (by omega), flat_at hf hs (xs.set i y) k]
  have hk : k = k / s * s + k % s := by rw [Nat.mul_comm]; exact (Nat.div_add_mod k s).symm
  have hm := Nat.mod_lt k hs
  by_cases hki : k / s = i
  · rw [hki, List.getElem?_set_self (by simpa using hi)]
    simp only [Option.bind_some]
    rw [hy, putCells_at _ _ _ _ (by rw [hf]; exact ho)]
    rw [hki] at hk
    by_cases hin : o ≤ k % s ∧ k % s < o + vs.length
    · rw [if_pos hin, if_pos (by omega)]
      congr 1; omega
    · rw [if_neg hin, if_neg (by omega)]
      rw [hk, flat_get hf h hm, ← hk]
  · rw [List.getElem?_set_ne (Ne.symm hki), ← flat_at hf hs]
    rw [if_neg]
    intro hin
    apply hki
    have h1 : i * s ≤ k := by omega
    have h2 : k < (i + 1) * s := by rw [Nat.add_mul]; omega
    have h3 : i ≤ k / s := (Nat.le_div_iff_mul_le hs).2 h1
    have h4 : k / s < i + 1 := (Nat.div_lt_iff_lt_mul hs).2 h2
    omega
end
end Go.Proofs.Ytckdmhjhjfmcdaa.Sx
