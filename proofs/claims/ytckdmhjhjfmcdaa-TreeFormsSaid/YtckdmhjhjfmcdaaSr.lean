/-
  A region that draws its order, as a whole.
-/
import Derived.Test.YtckdmhjhjfmcdaaSq
namespace Go.Proofs.Ytckdmhjhjfmcdaa.Sx
set_option linter.unusedSimpArgs false
set_option linter.unusedVariables false
open Go
variable {P : Program} {N : Nat} {ρ : Ren} {E : Env} {A : AHeap} {a : Act} {w : World}

theorem Lst_none (n i : Nat) : ¬ Lst (Array.replicate n false) i := by
  rintro ⟨h1, h2⟩
  simp at h1
  simp [Array.getD_eq_getD_getElem?, h1] at h2

theorem cntL_le (l : Array Bool) : ∀ k, cntL l k ≤ k
  | 0 => Nat.le_refl _
  | k + 1 => by simp only [cntL]; have := cntL_le l k; split <;> omega

theorem start_inv (ds : List DOper) (p : Plan) (hs : St ρ N E A a w) (n : Nat) : DInv ds p N ρ E A w (Lst (Array.replicate n false)) ρ E (A.reserve p.made.length) a w [] [] where
  defers := hs.e.defers
  size := hs.e.size
  closed i h := (Lst_none n i h).elim
  bclosed i h := by simp at h
  sub i h := (Lst_none n i h).elim
  blt i h := by simp at h
  dsub i h := by simp at h
  doneS i h := by simp at h
  env1 i h := by simp at h
  env2 _ _ := rfl
  env3 t v h _ := hs.e.get t v h
  heap := ⟨fun h hh => hs.h.fresh h (by rw [AHeap.next_reserve] at hh; omega), hs.h.ok, hs.h.cells, hs.h.map, hs.h.apart⟩
  next := Nat.le_refl _
  fresh i _ _ := hs.h.fresh _ (by simp [hOf])
  pend i h := (Lst_none n i h).elim
  pend2 i _ h := (Lst_none n i h).elim
  fact i h := by simp at h
  wsize := Nat.le_refl _
  agree _ _ := rfl
  keep _ _ _ := rfl
  incl b h := .inl h
  incl2 b h := .inl h
  os := rfl
  output := rfl
  tape := rfl

theorem draw_sound {id : Nat} {ops : Array Oper} {ds : List DOper} {p : Plan} (hm : P.follows .mixedOrders = true) (hc : compOpers P N ops ops.toList = some ds) (hp0 : planOk (ops.toList.map preOf) ds p = true)
    {K : Env → AHeap → Prop} (hs : St ρ N E A a w) (hd : ddraw P ds p E A K) {Q : Exit → Act → World → Prop}
    (hq : ∀ ρ' E' A' a' w', K E' A' → St ρ' N E' A' a' w' → Step ρ A w ρ' A' w' → Q .normal a' w') : (Code.region id ops true).wp P Q a w := by
  have hp := planOk_ok hp0
  obtain ⟨h1, h2⟩ := compOpers_inv hc
  refine wp_region_any hm ?_
  have hs' : St ρ N E A a { w with drawn := w.drawn + 1 } := ⟨hs.e, ⟨hs.h.fresh, hs.h.ok, hs.h.cells, hs.h.map, hs.h.apart⟩⟩
  have hI := start_inv ds p hs' ops.size
  obtain ⟨q, r, E2, before2, e1, e2, e3, e4, e5, e6, e7⟩ := absorb_all hp p.steps E [] [] hI hp.steps
    (fun s hs => ⟨by simp, hp.bound s.ix (List.mem_map.2 ⟨s, hs, rfl⟩)⟩) hp.nodup hd
  refine any_sound (K := K) (Q := Q) hp ?_ (by simpa using h1) ?_ ?_ ops.size _ ρ E2 _ a _ before2 [] q r (by simp) (cntL_le _ _) e1 (by simpa using e2) (by simp) e5 e6 e4 e7
  · intro i d hi
    obtain ⟨o, ho, hco⟩ := h2 i d hi
    exact ⟨o, by simpa using ho, hco⟩
  · intro i o ho
    have : ops.toList[i]? = some o := by simpa using ho
    simp [List.getD_eq_getElem?_getD, this]
  · rintro ρ' E' A' a' w' hk hr he ⟨g1, g2, g3, g4, g5, g6, g7, g8, g9⟩
    exact hq ρ' E' A' a' w' hk ⟨he, hr⟩ ⟨g1, g2, g3, g4, g5, g6, g7, g8, g9⟩
end Go.Proofs.Ytckdmhjhjfmcdaa.Sx
