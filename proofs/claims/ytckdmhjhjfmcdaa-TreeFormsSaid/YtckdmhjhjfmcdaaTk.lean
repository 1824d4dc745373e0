/-
  The plain law of TreeForms, first part: the order of clocks; what is best; trees as plain data; which nodes reach which.
-/
import Derived.Test.YtckdmhjhjfmcdaaTe
namespace Go.Proofs.Ytckdmhjhjfmcdaa.Sx
set_option linter.unusedSimpArgs false
set_option linter.unusedVariables false
open Go

/-! The order. -/
theorem cmpI_self (x : Int) : cmpI x x = 0 := by unfold cmpI; simp
theorem cmpI_anti (x y : Int) : cmpI y x = - cmpI x y := by unfold cmpI; repeat' split <;> try omega
theorem cmpI_zero {x y : Int} : cmpI x y = 0 ↔ x = y := by unfold cmpI; repeat' split <;> try omega
theorem cmpI_neg {x y : Int} : cmpI x y < 0 ↔ x < y := by unfold cmpI; repeat' split <;> try omega

def lexc : List Int → List Int → Int
  | x :: xs, y :: ys => if cmpI x y = 0 then lexc xs ys else cmpI x y
  | _, _ => 0
theorem lexc_self : ∀ xs : List Int, lexc xs xs = 0
  | [] => rfl
  | x :: xs => by simp [lexc, cmpI_self, lexc_self xs]
theorem lexc_anti : ∀ xs ys : List Int, lexc ys xs = - lexc xs ys
  | [], [] => rfl
  | [], _ :: _ => rfl
  | _ :: _, [] => rfl
  | x :: xs, y :: ys => by
    simp only [lexc]
    rw [cmpI_anti x y, lexc_anti xs ys]
    by_cases h : cmpI x y = 0
    · simp [h]
    · rw [if_neg h, if_neg (by omega)]
theorem lexc_zero : ∀ {xs ys : List Int}, xs.length = ys.length → lexc xs ys = 0 → xs = ys
  | [], [], _, _ => rfl
  | [], _ :: _, h, _ => by simp at h
  | _ :: _, [], h, _ => by simp at h
  | x :: xs, y :: ys, h, h0 => by
    simp only [lexc] at h0
    by_cases hc : cmpI x y = 0
    · rw [if_pos hc] at h0
      rw [cmpI_zero.1 hc, lexc_zero (by simpa using h) h0]
    · rw [if_neg hc] at h0; exact (hc h0).elim
theorem lexc_trans : ∀ {xs ys zs : List Int}, xs.length = ys.length → ys.length = zs.length → lexc xs ys ≤ 0 → lexc ys zs ≤ 0 → lexc xs zs ≤ 0
  | [], _, _, _, _, _, _ => by simp [lexc]
  | _ :: _, [], _, h, _, _, _ => by simp at h
  | _ :: _, _ :: _, [], _, h, _, _ => by simp at h
  | x :: xs, y :: ys, z :: zs, h1, h2, h3, h4 => by
    simp only [lexc] at h3 h4 ⊢
    by_cases a : cmpI x y = 0
    · have a' := cmpI_zero.1 a
      subst a'
      rw [if_pos a] at h3
      by_cases b : cmpI x z = 0
      · rw [if_pos b] at h4 ⊢
        exact lexc_trans (by simpa using h1) (by simpa using h2) h3 h4
      · rw [if_neg b] at h4 ⊢; exact h4
    · rw [if_neg a] at h3
      have a' : x < y := cmpI_neg.1 (by omega)
      by_cases b : cmpI y z = 0
      · have b' := cmpI_zero.1 b
        subst b'
        rw [if_neg a]; exact h3
      · rw [if_neg b] at h4
        have b' : y < z := cmpI_neg.1 (by omega)
        have c : cmpI x z < 0 := cmpI_neg.2 (by omega)
        rw [if_neg (by omega)]; omega

def Pr.nums (p : Pr) : List Int := [p.one, p.cls, p.two, p.id]
def Ve.nums (v : Ve) : List Int := [v.root.one, v.root.cls, v.root.two, v.root.id, v.steps, v.src, v.port, v.at']
theorem Pr.cmp_lex (p q : Pr) : p.cmp q = lexc p.nums q.nums := by simp [Pr.cmp, orI, Pr.nums, lexc]
theorem Ve.cmp_lex (v w : Ve) : v.cmp w = lexc v.nums w.nums := by
  simp only [Ve.cmp, Pr.cmp, orI, Ve.nums, lexc]
  repeat' split
  all_goals simp_all
theorem Pr.cmp_self (p : Pr) : p.cmp p = 0 := by rw [Pr.cmp_lex, lexc_self]
theorem Pr.cmp_anti (p q : Pr) : q.cmp p = - p.cmp q := by rw [Pr.cmp_lex, Pr.cmp_lex, lexc_anti]
theorem Pr.cmp_zero {p q : Pr} (h : p.cmp q = 0) : p = q := by
  rw [Pr.cmp_lex] at h
  have := lexc_zero (xs := p.nums) (ys := q.nums) rfl h
  cases p; cases q; simp [Pr.nums] at this; simp [this]
theorem Pr.cmp_trans {p q r : Pr} (h : p.cmp q ≤ 0) (k : q.cmp r ≤ 0) : p.cmp r ≤ 0 := by
  rw [Pr.cmp_lex] at *; exact lexc_trans (xs := p.nums) (ys := q.nums) (zs := r.nums) rfl rfl h k
theorem Ve.cmp_self (p : Ve) : p.cmp p = 0 := by rw [Ve.cmp_lex, lexc_self]
theorem Ve.cmp_anti (p q : Ve) : q.cmp p = - p.cmp q := by rw [Ve.cmp_lex, Ve.cmp_lex, lexc_anti]
theorem Ve.cmp_zero {p q : Ve} (h : p.cmp q = 0) : p = q := by
  rw [Ve.cmp_lex] at h
  have := lexc_zero (xs := p.nums) (ys := q.nums) rfl h
  obtain ⟨⟨_, _, _, _⟩, _, _, _, _⟩ := p
  obtain ⟨⟨_, _, _, _⟩, _, _, _, _⟩ := q
  simp [Ve.nums] at this; simp [this]
theorem Ve.cmp_trans {p q r : Ve} (h : p.cmp q ≤ 0) (k : q.cmp r ≤ 0) : p.cmp r ≤ 0 := by
  rw [Ve.cmp_lex] at *; exact lexc_trans (xs := p.nums) (ys := q.nums) (zs := r.nums) rfl rfl h k
theorem Ve.cmp_antisymm {p q : Ve} (h : p.cmp q ≤ 0) (k : q.cmp p ≤ 0) : p = q := by
  rw [Ve.cmp_anti p q] at k; exact Ve.cmp_zero (by omega)
theorem Ve.cmp_root (v w : Ve) (h : v.root.cmp w.root ≠ 0) : v.cmp w = v.root.cmp w.root := by simp [Ve.cmp, orI, h]
theorem Ve.cmp_same (v w : Ve) (h : v.root = w.root) : v.cmp w = orI [cmpI v.steps w.steps, cmpI v.src w.src, cmpI v.port w.port, cmpI v.at' w.at'] := by
  simp [Ve.cmp, orI, h, Pr.cmp_self]
theorem Ve.cmp_steps (v w : Ve) (h : v.root = w.root) (hs : v.steps ≠ w.steps) : v.cmp w = cmpI v.steps w.steps := by
  rw [Ve.cmp_same _ _ h]; simp [orI, cmpI_zero, hs]
theorem Ve.cmp_src (v w : Ve) (h : v.root = w.root) (hs : v.steps = w.steps) (hf : v.src ≠ w.src) : v.cmp w = cmpI v.src w.src := by
  rw [Ve.cmp_same _ _ h]; simp [orI, cmpI_zero, hs, hf, cmpI_self]
/-- Of two that are not worse than the other: the root, and the steps. -/
theorem Ve.le_steps {v w : Ve} (h : v.cmp w ≤ 0) (hr : w.root.cmp v.root ≤ 0) : v.root = w.root ∧ v.steps ≤ w.steps := by
  have hroot : v.root = w.root := by
    by_cases e : v.root.cmp w.root = 0
    · exact Pr.cmp_zero e
    · rw [Ve.cmp_root _ _ e] at h
      rw [Pr.cmp_anti v.root w.root] at hr; omega
  refine ⟨hroot, ?_⟩
  by_cases e : v.steps = w.steps
  · omega
  · rw [Ve.cmp_steps _ _ hroot e] at h
    have : ¬ w.steps < v.steps := fun hh => by
      have := cmpI_neg.2 hh
      rw [cmpI_anti v.steps w.steps] at this; omega
    omega

/-! What is best. -/
def Cand (own : Pr) (h : He) : Prop := h.up = true ∧ h.ok = true ∧ h.vec.root.cmp own < 0
structure TopIs (own : Pr) (hs : List He) (v : Ve) (i : Nat) (h : He) : Prop where
  at' : hs[i]? = some h
  cand : Cand own h
  eq : v = h.vec.here i
  le : ∀ (j : Nat) h', hs[j]? = some h' → Cand own h' → v.cmp (h'.vec.here j) ≤ 0
theorem here_at (v : Ve) (i : Int) : (v.here i).at' = i := rfl
theorem here_root (v : Ve) (i : Int) : (v.here i).root = v.root := rfl
theorem here_steps (v : Ve) (i : Int) : (v.here i).steps = v.steps := rfl
theorem here_src (v : Ve) (i : Int) : (v.here i).src = v.src := rfl
theorem here_port (v : Ve) (i : Int) : (v.here i).port = v.port := rfl
theorem top_take (own : Pr) (hs : List He) : ∀ n, n ≤ hs.length →
    (topGo own 0 (hs.take n) (top0 own) = top0 own ∧ ∀ (i : Nat) h, (hs.take n)[i]? = some h → ¬ Cand own h) ∨ ∃ i h, TopIs own (hs.take n) (topGo own 0 (hs.take n) (top0 own)) i h := by
  intro n
  induction n with
  | zero => intro _; exact .inl ⟨by simp [topGo], by simp⟩
  | succ n ih =>
    intro hn
    obtain ⟨x, hx⟩ : ∃ x, hs[n]? = some x := ⟨hs[n], by simp [hn]⟩
    have htk : hs.take (n + 1) = hs.take n ++ [x] := by rw [List.take_add_one, hx]; rfl
    have hlen : (hs.take n).length = n := by simp; omega
    have hold : ∀ (i : Nat) h, (hs.take n)[i]? = some h → (hs.take (n + 1))[i]? = some h := by
      intro i h hi
      rw [htk, List.getElem?_append_left]
      · exact hi
      · rcases Nat.lt_or_ge i (hs.take n).length with hh | hh
        · exact hh
        · rw [List.getElem?_eq_none hh] at hi; cases hi
    have hinv : ∀ (i : Nat) h, (hs.take (n + 1))[i]? = some h → (hs.take n)[i]? = some h ∨ (i = n ∧ h = x) := by
      intro i h hi
      rw [htk] at hi
      rcases Nat.lt_or_ge i (hs.take n).length with hh | hh
      · rw [List.getElem?_append_left hh] at hi; exact .inl hi
      · rw [List.getElem?_append_right hh, hlen] at hi
        rcases Nat.lt_or_ge n i with h2 | h2
        · rw [List.getElem?_eq_none (by simp; omega)] at hi; cases hi
        · have : i = n := by omega
          subst this; simp at hi; exact .inr ⟨rfl, hi.symm⟩
    have hnew : (hs.take (n + 1))[n]? = some x := by rw [List.getElem?_take]; simp [hx]
    rw [htk, topGo_snoc, hlen, Nat.zero_add, ← htk]
    rcases ih (by omega) with ⟨h1, h2⟩ | ⟨i, h, hT⟩
    · rw [h1]
      by_cases hc : Cand own x
      · right
        refine ⟨n, x, hnew, hc, ?_, ?_⟩
        · rw [pickTop, if_pos ⟨hc.1, hc.2.1, hc.2.2, .inl (by simp [top0])⟩]
        · intro j h' hj hc'
          rcases hinv j h' hj with hj | ⟨rfl, rfl⟩
          · exact (h2 j h' hj hc').elim
          · rw [pickTop, if_pos ⟨hc.1, hc.2.1, hc.2.2, .inl (by simp [top0])⟩, Ve.cmp_self]; omega
      · left
        refine ⟨?_, ?_⟩
        · rw [pickTop, if_neg (fun hh => hc ⟨hh.1, hh.2.1, hh.2.2.1⟩)]
        · intro i h hi
          rcases hinv i h hi with hi | ⟨rfl, rfl⟩
          · exact h2 i h hi
          · exact hc
    · right
      generalize topGo own 0 (hs.take n) (top0 own) = top at hT
      have hat : ¬ top.at' < 0 := by rw [hT.eq, here_at]; omega
      by_cases hp : Cand own x ∧ (x.vec.here n).cmp top < 0
      · refine ⟨n, x, hnew, hp.1, ?_, ?_⟩
        · rw [pickTop, if_pos ⟨hp.1.1, hp.1.2.1, hp.1.2.2, .inr hp.2⟩]
        · rw [pickTop, if_pos ⟨hp.1.1, hp.1.2.1, hp.1.2.2, .inr hp.2⟩]
          intro j h' hj hc'
          rcases hinv j h' hj with hj | ⟨rfl, rfl⟩
          · exact Ve.cmp_trans (by omega) (hT.le j h' hj hc')
          · rw [Ve.cmp_self]; omega
      · have e : pickTop own n x top = top := by
          rw [pickTop, if_neg]
          intro hh
          exact hp ⟨⟨hh.1, hh.2.1, hh.2.2.1⟩, hh.2.2.2.resolve_left hat⟩
        rw [e]
        refine ⟨i, h, hold i h hT.at', hT.cand, hT.eq, ?_⟩
        intro j h' hj hc'
        rcases hinv j h' hj with hj | ⟨rfl, rfl⟩
        · exact hT.le j h' hj hc'
        · have : ¬ (h'.vec.here j).cmp top < 0 := fun hh => hp ⟨hc', hh⟩
          rw [Ve.cmp_anti]; omega
theorem top_spec (own : Pr) (hs : List He) : (topOf own hs = top0 own ∧ ∀ (i : Nat) h, hs[i]? = some h → ¬ Cand own h) ∨ ∃ i h, TopIs own hs (topOf own hs) i h := by
  have := top_take own hs hs.length (Nat.le_refl _)
  rw [List.take_length] at this
  exact this

/-! Trees as plain data. -/
/-- An announcement, its way apart. -/
structure Ms where
  domain : Int
  seq : Int
  src : Int
  port : Int
  corr : Int
  time : Int
  to : Int
  toPort : Int
  rate : Int
  best : Pr
  steps : Int
def inB (b x : Int) : Bool := decide (0 ≤ x ∧ x ≤ b)
def ids : Int := 281474976710655
def Ms.ok (m : Ms) (path : List Int) : Bool :=
  inB 127 m.domain && inB 65535 m.seq && inB 65535 m.port && inB 65535 m.toPort && inB ids m.src && inB ids m.to && inB 255 m.best.one && inB 255 m.best.cls && inB 255 m.best.two && inB 255 m.steps && inB ids m.best.id &&
  decide (m.to = 0) && decide (m.toPort = 0) && decide (m.time = 0) && decide (m.rate = 0) && decide (path.length ≤ 32) && path.all (inB ids)
structure Port where
  up : Bool
  ok : Bool
  vec : Ve
  path : List Int
  when : Int
structure Tr where
  own : Pr
  ps : List Port
structure Mg where
  m : Ms
  path : List Int
def Port.live (p : Port) (now : Int) : Bool := p.ok && decide (p.when ≤ now) && decide (now - p.when ≤ 5)
def Port.he (now : Int) (p : Port) : He := ⟨p.up, p.live now, p.vec⟩
def Tr.hes (t : Tr) (now : Int) : List He := t.ps.map (Port.he now)
def Tr.top (t : Tr) (now : Int) : Ve := topOf t.own (t.hes now)
def Tr.roles (t : Tr) (now : Int) : List Int := rolesOf t.own (t.hes now)
def Tr.pathOf (t : Tr) (now : Int) : List Int :=
  if 0 ≤ (t.top now).at' then ((t.ps[(t.top now).at'.toNat]?).map Port.path).getD [] ++ [t.own.id] else [t.own.id]
def Tr.ms (t : Tr) (at' : Int) (seq now : Int) : Ms :=
  ⟨0, seq, t.own.id, at', 0, 0, 0, 0, 0, (t.top now).root, if 0 ≤ (t.top now).at' then (t.top now).steps + 1 else 0⟩
def Tr.out (t : Tr) (at' : Nat) (seq now : Int) : Option Mg :=
  if (t.roles now)[at']? = some 1 ∧ (t.ms at' seq now).ok (t.pathOf now) = true then some ⟨t.ms at' seq now, t.pathOf now⟩ else none
def Tr.inn (t : Tr) (at' : Int) (g : Mg) (now : Int) : Tr × Int :=
  if ¬ (g.m.ok g.path = true ∧ g.m.domain = 0) then (t, 23)
  else if at' < 0 ∨ 8 ≤ at' ∨ ((t.ps[at'.toNat]?).map Port.up).getD false = false then (t, 40)
  else if g.m.src = t.own.id ∨ t.own.id ∈ g.path ∨ 255 ≤ g.m.steps ∨ 32 ≤ g.path.length then (t, 31)
  else ({ t with ps := t.ps.set at'.toNat ⟨true, true, ⟨g.m.best, g.m.steps, g.m.src, g.m.port, 0⟩, g.path, now⟩ }, 0)
def half (ts : List Tr) (u pu v pv : Nat) (now : Int) : List Tr × Int :=
  match ts[u]?, ts[v]? with
  | some t, some t' => match t.out pu (now % 256) now with
    | some g => (ts.set v (t'.inn pv g now).1, (t'.inn pv g now).2)
    | none => (ts, 0)
  | _, _ => (ts, 0)

theorem Tr.hes_get (t : Tr) (now : Int) {i : Nat} {p : Port} (h : t.ps[i]? = some p) : (t.hes now)[i]? = some (p.he now) := by simp [Tr.hes, h]
theorem Tr.hes_inv (t : Tr) (now : Int) {i : Nat} {h : He} (hh : (t.hes now)[i]? = some h) : ∃ p, t.ps[i]? = some p ∧ h = p.he now := by
  simp only [Tr.hes, List.getElem?_map, Option.map_eq_some_iff] at hh
  obtain ⟨p, h1, h2⟩ := hh
  exact ⟨p, h1, h2.symm⟩
theorem Tr.roles_get (t : Tr) (now : Int) {i : Nat} {p : Port} (h : t.ps[i]? = some p) : (t.roles now)[i]? = some (roleOf t.own (t.top now) i (p.he now)) := by
  have := rolesGo_get t.own (t.top now) 0 (t.hes now) i _ (t.hes_get now h)
  simpa [Tr.roles, rolesOf, Tr.top] using this
theorem Tr.roles_len (t : Tr) (now : Int) : (t.roles now).length = t.ps.length := by
  rw [Tr.roles, rolesOf, rolesGo_len]; simp [Tr.hes]

/-! Which nodes reach which. -/
abbrev End := Nat × Nat
abbrev Wire := End × End
def Lnk (ws : List Wire) (a b : End) : Prop := (a, b) ∈ ws ∨ (b, a) ∈ ws
theorem Lnk.symm {ws : List Wire} {a b : End} (h : Lnk ws a b) : Lnk ws b a := h.elim .inr .inl
def Adj (ws : List Wire) (u v : Nat) : Prop := ∃ p q, Lnk ws (u, p) (v, q)
theorem Adj.symm {ws : List Wire} {u v : Nat} : Adj ws u v → Adj ws v u := fun ⟨p, q, h⟩ => ⟨q, p, h.symm⟩
inductive Conn (ws : List Wire) : Nat → Nat → Prop
  | refl (a : Nat) : Conn ws a a
  | step {a b c : Nat} (h : Conn ws a b) (k : Adj ws b c) : Conn ws a c
theorem Conn.trans {ws : List Wire} {a b c : Nat} (h : Conn ws a b) (k : Conn ws b c) : Conn ws a c := by
  induction k with
  | refl => exact h
  | step _ k ih => exact .step ih k
theorem Conn.symm {ws : List Wire} {a b : Nat} (h : Conn ws a b) : Conn ws b a := by
  induction h with
  | refl => exact .refl _
  | step _ k ih => exact Conn.trans (.step (.refl _) k.symm) ih
/-- Reached in so many steps. -/
def lay (ws : List Wire) (r : Nat) : Nat → Nat → Bool
  | 0, v => decide (v = r)
  | k + 1, v => lay ws r k v || ws.any fun w => (decide (w.1.1 = v) && lay ws r k w.2.1) || (decide (w.2.1 = v) && lay ws r k w.1.1)
theorem lay_succ {ws : List Wire} {r k v : Nat} : lay ws r (k + 1) v = true ↔ lay ws r k v = true ∨ ∃ u, Adj ws u v ∧ lay ws r k u = true := by
  simp only [lay, Bool.or_eq_true, List.any_eq_true, Bool.and_eq_true, decide_eq_true_eq]
  constructor
  · rintro (h | ⟨w, hw, (⟨h1, h2⟩ | ⟨h1, h2⟩)⟩)
    · exact .inl h
    · exact .inr ⟨w.2.1, ⟨w.2.2, w.1.2, .inr (by obtain ⟨⟨a, b⟩, ⟨c, d⟩⟩ := w; subst h1; exact hw)⟩, h2⟩
    · exact .inr ⟨w.1.1, ⟨w.1.2, w.2.2, .inl (by obtain ⟨⟨a, b⟩, ⟨c, d⟩⟩ := w; subst h1; exact hw)⟩, h2⟩
  · rintro (h | ⟨u, ⟨p, q, h1 | h1⟩, h2⟩)
    · exact .inl h
    · exact .inr ⟨_, h1, .inr ⟨rfl, h2⟩⟩
    · exact .inr ⟨_, h1, .inl ⟨rfl, h2⟩⟩
theorem lay_mono {ws : List Wire} {r v : Nat} : ∀ {k m : Nat}, k ≤ m → lay ws r k v = true → lay ws r m v = true := by
  intro k m h hk
  induction h with
  | refl => exact hk
  | step _ ih => exact lay_succ.2 (.inl ih)
theorem lay_conn {ws : List Wire} {r : Nat} : ∀ {k v : Nat}, lay ws r k v = true → Conn ws r v
  | 0, v, h => by simp [lay] at h; subst h; exact .refl _
  | k + 1, v, h => by
    rcases lay_succ.1 h with h | ⟨u, h1, h2⟩
    · exact lay_conn h
    · exact .step (lay_conn h2) h1
theorem conn_lay {ws : List Wire} {r v : Nat} (h : Conn ws r v) : ∃ k, lay ws r k v = true := by
  induction h with
  | refl => exact ⟨0, by simp [lay]⟩
  | step _ k ih => obtain ⟨m, hm⟩ := ih; exact ⟨m + 1, lay_succ.2 (.inr ⟨_, k, hm⟩)⟩

/-- How many of the first n. -/
def count (f : Nat → Bool) : Nat → Nat
  | 0 => 0
  | n + 1 => count f n + (if f n then 1 else 0)
theorem count_le (f : Nat → Bool) : ∀ n, count f n ≤ n
  | 0 => Nat.le_refl _
  | n + 1 => by have := count_le f n; simp only [count]; split <;> omega
theorem count_mono {f g : Nat → Bool} : ∀ n, (∀ i, i < n → f i = true → g i = true) → count f n ≤ count g n
  | 0, _ => Nat.le_refl _
  | n + 1, h => by
    have h1 := count_mono n fun i hi => h i (by omega)
    have h2 := h n (by omega)
    simp only [count]
    cases hf : f n <;> cases hg : g n <;> simp_all <;> omega
theorem count_eq {f g : Nat → Bool} : ∀ n, (∀ i, i < n → f i = true → g i = true) → count g n ≤ count f n → ∀ i, i < n → g i = true → f i = true
  | 0, _, _ => fun i hi => by omega
  | n + 1, h, hc => by
    have h1 := count_mono n fun i hi => h i (by omega)
    have h2 := h n (by omega)
    simp only [count] at hc
    intro i hi hgi
    by_cases e : i = n
    · subst e
      cases hf : f i with
      | true => rfl
      | false => simp [hf, hgi] at hc; omega
    · refine count_eq n (fun i hi => h i (by omega)) ?_ i (by omega) hgi
      cases hf : f n <;> cases hg : g n <;> simp_all <;> omega
theorem count_pos {f : Nat → Bool} : ∀ {n i : Nat}, i < n → f i = true → 1 ≤ count f n
  | n + 1, i, hi, hf => by
    simp only [count]
    by_cases e : i = n
    · subst e; simp [hf]
    · have := count_pos (n := n) (i := i) (by omega) hf; omega

/-- All that is reached is reached in fewer steps than there are nodes. -/
theorem lay_all {ws : List Wire} {r n : Nat} (hr : r < n) (hw : ∀ u v, Adj ws u v → u < n ∧ v < n) {v : Nat} (h : Conn ws r v) : lay ws r (n - 1) v = true := by
  have hlt : ∀ {k v : Nat}, lay ws r k v = true → v < n := by
    intro k v hk
    cases lay_conn hk with
    | refl => exact hr
    | step _ a => exact (hw _ _ a).2
  have key : ∀ k, k + 1 ≤ count (lay ws r k) n ∨ ∃ j, j < k ∧ ∀ v, lay ws r (j + 1) v = true → lay ws r j v = true := by
    intro k
    induction k with
    | zero => exact .inl (count_pos hr (by simp [lay]))
    | succ k ih =>
      rcases ih with ih | ⟨j, h1, h2⟩
      · by_cases hc : count (lay ws r (k + 1)) n ≤ count (lay ws r k) n
        · exact .inr ⟨k, by omega, fun v hv => count_eq n (fun i _ hi => lay_succ.2 (.inl hi)) hc v (hlt hv) hv⟩
        · exact .inl (by omega)
      · exact .inr ⟨j, by omega, h2⟩
  rcases key n with hk | ⟨j, h1, h2⟩
  · have := count_le (lay ws r n) n; omega
  · have stay : ∀ m v, lay ws r m v = true → lay ws r j v = true := by
      intro m
      induction m with
      | zero => intro v hv; exact lay_mono (Nat.zero_le _) hv
      | succ m ih =>
        intro v hv
        rcases lay_succ.1 hv with hv | ⟨u, ha, hu⟩
        · exact ih v hv
        · exact h2 v (lay_succ.2 (.inr ⟨u, ha, ih u hu⟩))
    obtain ⟨m, hm⟩ := conn_lay h
    exact lay_mono (by omega) (stay m v hm)

/-- Just so far away. -/
def Dist (ws : List Wire) (r j v : Nat) : Prop := lay ws r j v = true ∧ ∀ i, i < j → lay ws r i v = false
theorem Dist.le {ws : List Wire} {r j v i : Nat} (h : Dist ws r j v) (hi : lay ws r i v = true) : j ≤ i := by
  rcases Nat.lt_or_ge i j with hh | hh
  · rw [h.2 i hh] at hi; cases hi
  · exact hh
theorem Dist.uniq {ws : List Wire} {r j k v : Nat} (h : Dist ws r j v) (h' : Dist ws r k v) : j = k := Nat.le_antisymm (h.le h'.1) (h'.le h.1)
theorem dist_of {ws : List Wire} {r v : Nat} : ∀ {m : Nat}, lay ws r m v = true → ∃ j, j ≤ m ∧ Dist ws r j v
  | 0, h => ⟨0, Nat.le_refl _, h, fun i hi => by omega⟩
  | m + 1, h => by
    cases h' : lay ws r m v with
    | true => obtain ⟨j, h1, h2⟩ := dist_of h'; exact ⟨j, by omega, h2⟩
    | false =>
      refine ⟨m + 1, Nat.le_refl _, h, fun i hi => ?_⟩
      cases h2 : lay ws r i v with
      | false => rfl
      | true => rw [lay_mono (by omega) h2] at h'; cases h'
theorem Dist.adj {ws : List Wire} {r j u v : Nat} (h : Dist ws r j u) (ha : Adj ws u v) : ∃ k, k ≤ j + 1 ∧ j ≤ k + 1 ∧ Dist ws r k v := by
  obtain ⟨k, h1, h2⟩ := dist_of (lay_succ.2 (.inr ⟨u, ha, h.1⟩))
  refine ⟨k, h1, ?_, h2⟩
  exact h.le (lay_succ.2 (.inr ⟨v, ha.symm, h2.1⟩))
theorem Dist.lower {ws : List Wire} {r j v : Nat} (h : Dist ws r (j + 1) v) : ∃ u, Adj ws u v ∧ Dist ws r j u := by
  rcases lay_succ.1 h.1 with h1 | ⟨u, h1, h2⟩
  · rw [h.2 j (by omega)] at h1; cases h1
  · obtain ⟨i, h3, h4⟩ := dist_of h2
    obtain ⟨k, h5, _, h6⟩ := h4.adj h1
    have := h.uniq h6
    have : i = j := by omega
    subst this
    exact ⟨u, h1, h4⟩
/-- A way from the root: each is next to the one ahead of it. -/
inductive Way (ws : List Wire) (r : Nat) : List Nat → Nat → Prop
  | one : Way ws r [r] r
  | more {l : List Nat} {u v : Nat} (h : Way ws r l u) (k : Adj ws u v) : Way ws r (l ++ [v]) v
theorem Way.lay {ws : List Wire} {r : Nat} {l : List Nat} {u : Nat} (h : Way ws r l u) : ∀ (i : Nat) x, l[i]? = some x → lay ws r i x = true := by
  induction h with
  | one => intro i x hx; cases i with
    | zero => simp at hx; subst hx; simp [Sx.lay]
    | succ i => simp at hx
  | more h k ih =>
    rename_i l u v
    intro i x hx
    rcases Nat.lt_or_ge i l.length with hh | hh
    · rw [List.getElem?_append_left hh] at hx; exact ih i x hx
    · rw [List.getElem?_append_right hh] at hx
      have e : i - l.length = 0 := by
        rcases Nat.eq_zero_or_pos (i - l.length) with e | e
        · exact e
        · rw [List.getElem?_eq_none (by simp; omega)] at hx; cases hx
      rw [e] at hx; simp at hx; subst hx
      have hl : 0 < l.length := by cases h <;> simp
      have hlast : l[l.length - 1]? = some u := by cases h <;> simp
      have := ih _ _ hlast
      rw [show i = (l.length - 1) + 1 by omega]
      exact lay_succ.2 (.inr ⟨u, k, this⟩)
theorem Way.pos {ws : List Wire} {r : Nat} {l : List Nat} {u : Nat} (h : Way ws r l u) : 0 < l.length := by cases h <;> simp
theorem Way.last {ws : List Wire} {r : Nat} {l : List Nat} {u : Nat} (h : Way ws r l u) : l[l.length - 1]? = some u := by cases h <;> simp
theorem Way.conn {ws : List Wire} {r : Nat} {l : List Nat} {u : Nat} (h : Way ws r l u) : Conn ws r u := by
  induction h with
  | one => exact .refl _
  | more _ k ih => exact .step ih k
end Go.Proofs.Ytckdmhjhjfmcdaa.Sx
