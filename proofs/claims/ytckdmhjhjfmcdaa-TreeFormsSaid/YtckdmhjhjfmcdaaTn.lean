/-
  The plain law of TreeForms, third part: behind the rounds; which are of one group.
-/
import Derived.Test.YtckdmhjhjfmcdaaTm
namespace Go.Proofs.Ytckdmhjhjfmcdaa.Sx
set_option linter.unusedSimpArgs false
set_option linter.unusedVariables false
open Go
section
variable {n : Nat} {pri : Nat → Pr} {ws : List Wire}
/-- So it stands behind the round of a time. -/
def Run (n : Nat) (pri : Nat → Pr) (ws : List Wire) (ts : List Tr) (t : Nat) : Prop :=
  Inv n pri ws ts t ∧ ∀ g, Best pri ws g → Pk pri ws ts g (min (t - 5 * n) 20) t
theorem Run.step (N : Net n pri ws) {ts : List Tr} {t : Nat} (h : Run n pri ws ts t) {s : Nat} (hs : t + 1 ≤ s) (hs' : s ≤ t + 5) : Inv n pri ws ts s ∧ (Inv n pri ws (runHops s (hops ws) ts) s) ∧
    ∀ g, Best pri ws g → 5 * n < s → Pk pri ws (runHops s (hops ws) ts) g (min (t - 5 * n) 20 + 1) s := by
  have I := h.1.later (now := (s : Int)) (by omega)
  exact ⟨I, round_inv N (by omega) I, fun g hB hn => round_stored N (by omega) I hB (h.2 g hB) (by omega) (by omega) (by omega) (by omega)⟩
theorem Run.next (N : Net n pri ws) {ts : List Tr} {t : Nat} (h : Run n pri ws ts t) : Run n pri ws (runHops ((t + 1 : Nat) : Int) (hops ws) ts) (t + 1) := by
  obtain ⟨_, h2, h3⟩ := h.step N (s := t + 1) (by omega) (by omega)
  refine ⟨h2, fun g hB => ?_⟩
  by_cases hn : 5 * n < t + 1
  · exact (h3 g hB hn).less (by omega)
  · rw [show t + 1 - 5 * n = 0 by omega]; simpa using Pk.zero

/-- Nothing goes any more. -/
structure Settled (n : Nat) (pri : Nat → Pr) (ws : List Wire) (ts : List Tr) (now : Int) (tmin : Int) : Prop where
  inv : Inv n pri ws ts now
  late : 5 * (n : Int) < now
  new : now ≤ tmin + 5
  pk : ∀ g, Best pri ws g → Pk pri ws ts g n tmin
theorem Run.settled (N : Net n pri ws) {ts : List Tr} {t s : Nat} (h : Run n pri ws ts t) (hl : 6 * n ≤ t) (hs : t ≤ s) (hs' : s ≤ t + 5) (hn : 5 * n < s) : Settled n pri ws ts s t :=
  ⟨h.1.later (by omega), by omega, by omega, fun g hB => (h.2 g hB).less (by have := N.most; omega)⟩

theorem conn_lt (N : Net n pri ws) {a b : Nat} (h : Conn ws a b) (ha : a < n) : b < n := by
  cases h with
  | refl => exact ha
  | step _ k => exact (N.adj k).2
theorem dist_ex (N : Net n pri ws) {g u : Nat} (hg : g < n) (h : Conn ws g u) : ∃ j, j < n ∧ Dist ws g j u := by
  obtain ⟨j, h1, h2⟩ := dist_of (lay_all hg (fun _ _ => N.adj) h)
  exact ⟨j, by omega, h2⟩
theorem cl_ex (N : Net n pri ws) {g u v : Nat} (hg : g < n) (h : Conn ws g u) (ha : Adj ws u v) (hne : u ≠ v) : ∃ j, Cl ws g n u v j ∨ Cl ws g n v u j := by
  obtain ⟨j, h1, h2⟩ := dist_ex N hg h
  obtain ⟨k, h3, h4⟩ := dist_ex N hg (.step h ha)
  obtain ⟨k', h5, h6, h7⟩ := h2.adj ha
  have := h4.uniq h7
  subst this
  rcases Nat.lt_trichotomy j k with hh | hh | hh
  · exact ⟨j, .inl ⟨h1, h2, .inl (by rw [show j + 1 = k by omega]; exact h4)⟩⟩
  · subst hh
    rcases Nat.lt_or_gt_of_ne hne with h | h
    · exact ⟨j, .inl ⟨h1, h2, .inr ⟨h4, h⟩⟩⟩
    · exact ⟨j, .inr ⟨h1, h4, .inr ⟨h2, h⟩⟩⟩
  · exact ⟨k, .inr ⟨h3, h4, .inl (by rw [show k + 1 = j by omega]; exact h2)⟩⟩

variable {ts : List Tr} {now tmin : Int} {g u : Nat} {t : Tr}
theorem Settled.top_at (N : Net n pri ws) (S : Settled n pri ws ts now tmin) (hB : Best pri ws g) {j : Nat} (hj : j ≤ n) (hD : Dist ws g j u) (hu : ts[u]? = some t) :
    (j = 0 ∧ u = g ∧ t.top now = top0 (pri g)) ∨ ∃ p x l w q, 0 < j ∧ TopAt pri ws g j u t now p x l w q :=
  Sx.top_at N S.inv hB (S.pk g hB) S.late S.new hj hD hu
theorem Settled.top (N : Net n pri ws) (S : Settled n pri ws ts now tmin) (hB : Best pri ws g) (hg : g < n) (hc : Conn ws g u) (hu : ts[u]? = some t) : (t.top now).root = pri g ∧ ((t.top now).at' < 0 ↔ u = g) := by
  obtain ⟨j, h1, h2⟩ := dist_ex N hg hc
  rcases S.top_at N hB (by omega) h2 hu with ⟨_, h3, h4⟩ | ⟨p, x, l, w, q, h3, h4⟩
  · rw [h4]; simp [top0, h3]
  · rw [h4.top, here_root, here_at, h4.tru.vec]
    refine ⟨rfl, by omega, fun e => ?_⟩
    have := h2.le (i := 0) (by simp [lay, e])
    omega
theorem Settled.low (N : Net n pri ws) (S : Settled n pri ws ts now tmin) (hB : Best pri ws g) {j v p q : Nat} (hl : Lnk ws (u, p) (v, q)) (hC : Cl ws g n u v j) (hu : ts[u]? = some t) : (t.roles now)[p]? = some 1 :=
  role_low N S.inv hB (S.pk g hB) S.late S.new hl ⟨by have := hC.1; omega, hC.2⟩ hu
theorem Settled.high (N : Net n pri ws) (S : Settled n pri ws ts now tmin) (hB : Best pri ws g) {j v p q : Nat} (hl : Lnk ws (v, q) (u, p)) (hC : Cl ws g n v u j) (hu : ts[u]? = some t) : (t.roles now)[p]? = some (if (p : Int) = (t.top now).at' then 2 else 3) := by
  obtain ⟨t', x, s1, s2, s3, s4, s5⟩ := S.pk g hB v q u p j hl hC
  rw [hu] at s1; cases s1
  obtain ⟨hown, hlen⟩ := S.inv.own u t hu
  obtain ⟨hj, hD, hV⟩ := hC
  obtain ⟨b1, b2, b3, b4, b5⟩ := N.lnk hl
  have hup := (S.inv.up u t p x hu s2).2 ⟨_, hl.symm⟩
  have hlive : x.live now = true := live_iff.2 ⟨s3, (S.inv.rng u t p x hu s2).2.1, by have := S.new; omega⟩
  rw [t.roles_get now s2, roleOf, if_neg (by simp [Port.he, hup])]
  have hlev : ∃ k, k ≤ n ∧ 0 < k ∧ Dist ws g k u ∧ (k = j + 1 ∨ (k = j ∧ v < u)) := by
    rcases hV with h | ⟨h, hvu⟩
    · exact ⟨j + 1, by omega, by omega, h, .inl rfl⟩
    · refine ⟨j, by omega, ?_, h, .inr ⟨rfl, hvu⟩⟩
      rcases Nat.eq_zero_or_pos j with e | e
      · subst e
        have h1 := hD.1
        have h2 := h.1
        simp [lay] at h1 h2
        omega
      · exact e
  obtain ⟨k, hk1, hk2, hk3, hk4⟩ := hlev
  rcases S.top_at N hB hk1 hk3 hu with ⟨e, _⟩ | ⟨p', x', l, w, q', _, h⟩
  · omega
  · by_cases e : (p : Int) = (t.top now).at'
    · rw [if_pos e, if_pos e]
    · rw [if_neg e, if_neg e, if_pos]
      refine ⟨by rw [h.top, here_at]; omega, hlive, ?_⟩
      have hm : mineOf t.own (t.top now) p = ⟨pri g, k, idn u, p, 0⟩ := by
        rw [mineOf, h.top, here_at, here_root, here_steps, h.tru.vec, hown, N.ids, if_neg (by omega)]
        simp only [Ve.mk.injEq, true_and, and_true]
        have := h.len
        omega
      rw [hm]
      show (x.vec.here 0).cmp _ < 0
      rcases hk4 with hk4 | ⟨hk4, hvu⟩
      · rw [Ve.cmp_steps _ _ (by rw [here_root, s4]) (by rw [here_steps, s4]; simp only; omega), here_steps, s4, cmpI_neg]
        simp only; omega
      · rw [Ve.cmp_src _ _ (by rw [here_root, s4]) (by rw [here_steps, s4]; simp only; omega) (by rw [here_src, s4]; simp only [idn]; omega), here_src, s4, cmpI_neg]
        simp only [idn]; omega
theorem Settled.off (S : Settled n pri ws ts now tmin) {p : Nat} (hp : p < 8) (hn : ¬ ∃ b, Lnk ws (u, p) b) (hu : ts[u]? = some t) : (t.roles now)[p]? = some 0 := by
  obtain ⟨hown, hlen⟩ := S.inv.own u t hu
  obtain ⟨y, hy⟩ : ∃ y, t.ps[p]? = some y := ⟨t.ps[p]'(by omega), by simp [show p < t.ps.length by omega]⟩
  have : y.up = false := by
    cases h : y.up with
    | false => rfl
    | true => exact (hn ((S.inv.up u t p y hu hy).1 h)).elim
  rw [t.roles_get now hy, roleOf, if_pos (by simp [Port.he, this])]
/-- Over each link one is the master. -/
theorem Settled.wire (N : Net n pri ws) (S : Settled n pri ws ts now tmin) (hB : Best pri ws g) (hg : g < n) (hc : Conn ws g u) {v p q : Nat} {t' : Tr} (hl : Lnk ws (u, p) (v, q)) (hu : ts[u]? = some t) (hv : ts[v]? = some t') :
    ∃ a b, (t.roles now)[p]? = some a ∧ (t'.roles now)[q]? = some b ∧ (a = 1 ↔ b ≠ 1) ∧ a ≠ 0 ∧ b ≠ 0 := by
  obtain ⟨_, _, _, _, b5⟩ := N.lnk hl
  obtain ⟨j, h | h⟩ := cl_ex N hg hc (lnk_adj hl) b5
  · refine ⟨_, _, S.low N hB hl h hu, S.high N hB hl h hv, ?_⟩
    split <;> omega
  · refine ⟨_, _, S.high N hB hl.symm h hu, S.low N hB hl.symm h hv, ?_⟩
    split <;> omega
theorem top_same (N : Net n pri ws) {ts' : List Tr} {now' tmin' : Int} {t' : Tr} (S : Settled n pri ws ts now tmin) (S' : Settled n pri ws ts' now' tmin') (hB : Best pri ws g) (hg : g < n) (hc : Conn ws g u) (hu : ts[u]? = some t) (hu' : ts'[u]? = some t') : (t.top now) = (t'.top now') := by
  obtain ⟨j, h1, h2⟩ := dist_ex N hg hc
  have le : ∀ {ts ts' : List Tr} {now now' tmin tmin' : Int} {t t' : Tr}, Settled n pri ws ts now tmin → Settled n pri ws ts' now' tmin' → ts[u]? = some t → ts'[u]? = some t' →
      ∀ {p : Nat} {x : Port} {l : List Nat} {w q : Nat}, TopAt pri ws g j u t now p x l w q → ∀ {p' x' l' w' q'}, TopAt pri ws g j u t' now' p' x' l' w' q' → 0 < j → (t'.top now').cmp (t.top now) ≤ 0 := by
    intro ts ts' now now' tmin tmin' t t' S S' hu hu' p x l w q h p' x' l' w' q' h' hj
    have hl := h.tru.lay
    obtain ⟨i, i1, i2⟩ := dist_of hl
    obtain ⟨i', i3, i4, i5⟩ := i2.adj (lnk_adj h.tru.lnk.symm)
    have := h2.uniq i5
    have hlen := h.len
    have e : i = j - 1 := by omega
    subst e
    obtain ⟨t2, x2, s1, s2, s3, s4, s5⟩ := S'.pk g hB w q u p (j - 1) h.tru.lnk.symm ⟨by omega, i2, .inl (by rw [show j - 1 + 1 = j by omega]; exact h2)⟩
    rw [hu'] at s1; cases s1
    have hc0 : Cand t'.own (x2.he now') := by
      refine ⟨(S'.inv.up u t' p x2 hu' s2).2 ⟨_, h.tru.lnk⟩, live_iff.2 ⟨s3, (S'.inv.rng u t' p x2 hu' s2).2.1, by have := S'.new; omega⟩, ?_⟩
      show x2.vec.root.cmp t'.own < 0
      rw [s4, (S'.inv.own u t' hu').1]
      refine (hB u hc).resolve_left fun e => ?_
      have := h2.le (i := 0) (by simp [lay, e])
      omega
    have := h'.le p x2 s2 hc0
    have e : x2.vec.here p = t.top now := by
      rw [h.top, s4, h.tru.vec]
      simp only [Ve.here, Ve.mk.injEq, true_and, and_true]
      omega
    rwa [e] at this
  rcases S.top_at N hB (by omega) h2 hu with ⟨e, _, h3⟩ | ⟨p, x, l, w, q, h3, h4⟩
  · rcases S'.top_at N hB (by omega) h2 hu' with ⟨_, _, h3'⟩ | ⟨p', x', l', w', q', h3', h4'⟩
    · rw [h3, h3']
    · omega
  · rcases S'.top_at N hB (by omega) h2 hu' with ⟨e', _, h3'⟩ | ⟨p', x', l', w', q', h3', h4'⟩
    · omega
    · exact Ve.cmp_antisymm (le S' S hu' hu h4' h4 h3) (le S S' hu hu' h4 h4' h3)
theorem roles_same (N : Net n pri ws) {ts' : List Tr} {now' tmin' : Int} {t' : Tr} (S : Settled n pri ws ts now tmin) (S' : Settled n pri ws ts' now' tmin') (hB : Best pri ws g) (hg : g < n) (hc : Conn ws g u) (hu : ts[u]? = some t) (hu' : ts'[u]? = some t') : t.roles now = t'.roles now' := by
  have l1 : (t.roles now).length = 8 := by rw [t.roles_len, (S.inv.own u t hu).2]
  have l2 : (t'.roles now').length = 8 := by rw [t'.roles_len, (S'.inv.own u t' hu').2]
  apply List.ext_getElem?
  intro p
  rcases Nat.lt_or_ge p 8 with hp | hp
  · by_cases hn : ∃ b, Lnk ws (u, p) b
    · obtain ⟨⟨v, q⟩, hl⟩ := hn
      obtain ⟨_, _, _, _, b5⟩ := N.lnk hl
      obtain ⟨j, h | h⟩ := cl_ex N hg hc (lnk_adj hl) b5
      · rw [S.low N hB hl h hu, S'.low N hB hl h hu']
      · rw [S.high N hB hl.symm h hu, S'.high N hB hl.symm h hu', top_same N S S' hB hg hc hu hu']
    · rw [S.off hp hn hu, S'.off hp hn hu']
  · rw [List.getElem?_eq_none (by omega), List.getElem?_eq_none (by omega)]

/-- How many slaves. -/
def twos : List Int → Nat
  | [] => 0
  | x :: r => (if x = 2 then 1 else 0) + twos r
theorem twos_none (own : Pr) (top : Ve) : ∀ (i : Nat) (hs : List He), (top.at' < i ∨ (i : Int) + hs.length ≤ top.at') → twos (rolesGo own top i hs) = 0
  | _, [], _ => rfl
  | i, h :: r, hh => by
    simp only [List.length_cons] at hh
    rw [rolesGo, twos, twos_none own top (i + 1) r (by omega), if_neg]
    unfold roleOf
    split
    · omega
    · rw [if_neg (by omega)]
      split <;> omega
theorem twos_one (own : Pr) (top : Ve) : ∀ (i : Nat) (hs : List He) (j : Nat) (h : He), hs[j]? = some h → h.up = true → top.at' = (i : Int) + j → twos (rolesGo own top i hs) = 1
  | _, [], j, h, e, _, _ => by simp at e
  | i, x :: r, 0, h, e, hu, ha => by
    simp at e; subst e
    have e : roleOf own top i x = 2 := by rw [roleOf, if_neg (by simp [hu]), if_pos (by omega)]
    rw [rolesGo, twos, twos_none own top (i + 1) r (by omega), e]
    rfl
  | i, x :: r, j + 1, h, e, hu, ha => by
    rw [rolesGo, twos, twos_one own top (i + 1) r j h (by simpa using e) hu (by omega), if_neg]
    unfold roleOf
    split
    · omega
    · rw [if_neg (by omega)]
      split <;> omega
theorem Settled.slaves (N : Net n pri ws) (S : Settled n pri ws ts now tmin) (hB : Best pri ws g) (hg : g < n) (hc : Conn ws g u) (hu : ts[u]? = some t) : twos (t.roles now) = if u = g then 0 else 1 := by
  obtain ⟨j, h1, h2⟩ := dist_ex N hg hc
  unfold Tr.roles rolesOf
  change twos (rolesGo t.own (t.top now) 0 (t.hes now)) = _
  rcases S.top_at N hB (by omega) h2 hu with ⟨_, h3, h4⟩ | ⟨p, x, l, w, q, h3, h4⟩
  · rw [if_pos h3]
    exact twos_none _ _ 0 _ (.inl (by rw [h4]; simp [top0]))
  · rw [if_neg (fun e => by have := h2.le (i := 0) (by simp [lay, e]); omega)]
    exact twos_one _ _ 0 _ p _ (t.hes_get now h4.ps) h4.up (by rw [h4.top, here_at]; omega)

/-! Groups. -/
def sweep1 (gr : List Nat) (w : Wire) : List Nat := (gr.set w.1.1 (min (gr.getD w.1.1 0) (gr.getD w.2.1 0))).set w.2.1 (min (gr.getD w.1.1 0) (gr.getD w.2.1 0))
structure Gr (n : Nat) (ws : List Wire) (gr : List Nat) : Prop where
  len : gr.length = n
  conn : ∀ (i l : Nat), gr[i]? = some l → l < n ∧ Conn ws l i
/-- The least of those that it reaches. -/
def Least (ws : List Wire) (r : Nat) : Prop := ∀ v, Conn ws r v → r ≤ v
def Gq (ws : List Wire) (r k : Nat) (dn : List Wire) (gr : List Nat) : Prop :=
  (∀ v, lay ws r k v = true → gr[v]? = some r) ∧ ∀ w ∈ dn, (lay ws r k w.1.1 = true → gr[w.2.1]? = some r) ∧ (lay ws r k w.2.1 = true → gr[w.1.1]? = some r)
theorem sweep_get (N : Net n pri ws) {gr : List Nat} (G : Gr n ws gr) {w : Wire} (hw : w ∈ ws) (i : Nat) : ∃ a b, gr[w.1.1]? = some a ∧ gr[w.2.1]? = some b ∧ (sweep1 gr w)[i]? = if i = w.1.1 ∨ i = w.2.1 then some (min a b) else gr[i]? := by
  obtain ⟨b1, b2, b3, b4, b5⟩ := N.bound w hw
  have l1 : w.1.1 < gr.length := by rw [G.len]; exact b1
  have l2 : w.2.1 < gr.length := by rw [G.len]; exact b3
  refine ⟨gr[w.1.1], gr[w.2.1], by simp [l1], by simp [l2], ?_⟩
  have e1 : gr.getD w.1.1 0 = gr[w.1.1] := by simp [List.getD_eq_getElem?_getD, l1]
  have e2 : gr.getD w.2.1 0 = gr[w.2.1] := by simp [List.getD_eq_getElem?_getD, l2]
  unfold sweep1
  rw [e1, e2]
  by_cases h2 : i = w.2.1
  · subst h2
    rw [List.getElem?_set_self (by simpa using l2), if_pos (.inr rfl)]
  · rw [List.getElem?_set_ne (Ne.symm h2)]
    by_cases h1 : i = w.1.1
    · subst h1
      rw [List.getElem?_set_self l1, if_pos (.inl rfl)]
    · rw [List.getElem?_set_ne (Ne.symm h1), if_neg (by simp [h1, h2])]
theorem wire_adj {w : Wire} (hw : w ∈ ws) : Adj ws w.1.1 w.2.1 := ⟨w.1.2, w.2.2, .inl hw⟩
theorem Gr.sweep (N : Net n pri ws) {gr : List Nat} (G : Gr n ws gr) {w : Wire} (hw : w ∈ ws) : Gr n ws (sweep1 gr w) := by
  refine ⟨by simp [sweep1, G.len], fun i l h => ?_⟩
  obtain ⟨a, b, h1, h2, h3⟩ := sweep_get N G hw i
  rw [h3] at h
  split at h
  · rename_i hi
    cases h
    obtain ⟨c1, c2⟩ := G.conn _ _ h1
    obtain ⟨c3, c4⟩ := G.conn _ _ h2
    have ha := wire_adj hw
    rcases Nat.le_total a b with hab | hab
    · rw [Nat.min_eq_left hab]
      rcases hi with rfl | rfl
      · exact ⟨c1, c2⟩
      · exact ⟨c1, .step c2 ha⟩
    · rw [Nat.min_eq_right hab]
      rcases hi with rfl | rfl
      · exact ⟨c3, .step c4 ha.symm⟩
      · exact ⟨c3, c4⟩
  · exact G.conn i l h
theorem Gr.stay (N : Net n pri ws) {gr : List Nat} (G : Gr n ws gr) {r : Nat} (hL : Least ws r) {w : Wire} (hw : w ∈ ws) {v : Nat} (hv : gr[v]? = some r) : (sweep1 gr w)[v]? = some r := by
  obtain ⟨a, b, h1, h2, h3⟩ := sweep_get N G hw v
  rw [h3]
  split
  · rename_i hi
    have ha := wire_adj hw
    have ca := (G.conn _ _ h1).2
    have cb := (G.conn _ _ h2).2
    rcases hi with rfl | rfl
    · rw [h1] at hv; cases hv
      rw [Nat.min_eq_left (hL b (.trans (.step ca ha) cb.symm))]
    · rw [h2] at hv; cases hv
      rw [Nat.min_eq_right (hL a (.trans (.step cb ha.symm) ca.symm))]
  · exact hv
theorem Gr.take (N : Net n pri ws) {gr : List Nat} (G : Gr n ws gr) {r : Nat} (hL : Least ws r) {w : Wire} (hw : w ∈ ws) : (gr[w.1.1]? = some r → (sweep1 gr w)[w.2.1]? = some r) ∧ (gr[w.2.1]? = some r → (sweep1 gr w)[w.1.1]? = some r) := by
  obtain ⟨a, b, h1, h2, h3⟩ := sweep_get N G hw w.1.1
  obtain ⟨a', b', h1', h2', h3'⟩ := sweep_get N G hw w.2.1
  have ha := wire_adj hw
  have ca := (G.conn _ _ h1).2
  have cb := (G.conn _ _ h2).2
  rw [h1] at h1'; cases h1'
  rw [h2] at h2'; cases h2'
  rw [if_pos (.inl rfl)] at h3
  rw [if_pos (.inr rfl)] at h3'
  refine ⟨fun h => ?_, fun h => ?_⟩
  · rw [h1] at h; cases h
    rw [h3', Nat.min_eq_left (hL b (.trans (.step ca ha) cb.symm))]
  · rw [h2] at h; cases h
    rw [h3, Nat.min_eq_right (hL a (.trans (.step cb ha.symm) ca.symm))]
theorem Gq.sweep (N : Net n pri ws) {gr : List Nat} (G : Gr n ws gr) {r k : Nat} (hL : Least ws r) {dn : List Wire} (hd : ∀ w ∈ dn, w ∈ ws) {w : Wire} (hw : w ∈ ws) (h : Gq ws r k dn gr) : Gq ws r k (dn ++ [w]) (sweep1 gr w) := by
  refine ⟨fun v hv => G.stay N hL hw (h.1 v hv), fun w' hw' => ?_⟩
  rcases List.mem_append.1 hw' with h' | h'
  · exact ⟨fun hl => G.stay N hL hw ((h.2 w' h').1 hl), fun hl => G.stay N hL hw ((h.2 w' h').2 hl)⟩
  · simp at h'; subst h'
    exact ⟨fun hl => (G.take N hL hw).1 (h.1 _ hl), fun hl => (G.take N hL hw).2 (h.1 _ hl)⟩
theorem Gq.next {gr : List Nat} {r k : Nat} (h : Gq ws r k ws gr) : Gq ws r (k + 1) [] gr := by
  refine ⟨fun v hv => ?_, fun w hw => by cases hw⟩
  rcases lay_succ.1 hv with hv | ⟨u, ⟨p, q, hl⟩, hu⟩
  · exact h.1 v hv
  · rcases hl with hl | hl
    · exact (h.2 _ hl).1 hu
    · exact (h.2 _ hl).2 hu
theorem least_ex : ∀ v : Nat, ∃ r, Conn ws r v ∧ Least ws r := by
  intro v
  induction v using Nat.strongRecOn with
  | _ v ih =>
    by_cases h : ∃ w, w < v ∧ Conn ws v w
    · obtain ⟨w, h1, h2⟩ := h
      obtain ⟨r, h3, h4⟩ := ih w h1
      exact ⟨r, h3.trans h2.symm, h4⟩
    · exact ⟨v, .refl _, fun w hw => Nat.le_of_not_lt fun hl => h ⟨w, hl, hw⟩⟩
/-- All sweeps done. -/
theorem group_iff (N : Net n pri ws) {gr : List Nat} (G : Gr n ws gr) (h : ∀ r, r < n → Least ws r → Gq ws r n [] gr) {i k a b : Nat} (hi : gr[i]? = some a) (hk : gr[k]? = some b) : a = b ↔ Conn ws i k := by
  constructor
  · intro e
    subst e
    exact (G.conn _ _ hi).2.symm.trans (G.conn _ _ hk).2
  · intro hc
    obtain ⟨r, h1, h2⟩ := least_ex (ws := ws) i
    have hin : i < n := by rw [← G.len]; exact getElem?_lt hi
    have hr : r < n := conn_lt N h1.symm hin
    have e1 := (h r hr h2).1 i (lay_mono (by omega) (lay_all hr (fun _ _ => N.adj) h1))
    have e2 := (h r hr h2).1 k (lay_mono (by omega) (lay_all hr (fun _ _ => N.adj) (h1.trans hc)))
    rw [hi] at e1; rw [hk] at e2
    cases e1; cases e2; rfl
end
end Go.Proofs.Ytckdmhjhjfmcdaa.Sx
