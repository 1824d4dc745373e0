/-
  The plain law of TreeForms, second part: what the rounds keep, and what they come to.
-/
import Derived.Test.YtckdmhjhjfmcdaaTk
namespace Go.Proofs.Ytckdmhjhjfmcdaa.Sx
set_option linter.unusedSimpArgs false
set_option linter.unusedVariables false
open Go

def idn (i : Nat) : Int := 10 + i
theorem idn_inj {i j : Nat} (h : idn i = idn j) : i = j := by unfold idn at h; omega
def ends (ws : List Wire) : List End := ws.flatMap fun w => [w.1, w.2]
structure Net (n : Nat) (pri : Nat → Pr) (ws : List Wire) : Prop where
  most : n ≤ 7
  ids : ∀ i, (pri i).id = idn i
  one : ∀ i, 0 ≤ (pri i).one ∧ (pri i).one ≤ 255
  cls : ∀ i, 0 ≤ (pri i).cls ∧ (pri i).cls ≤ 255
  two : ∀ i, 0 ≤ (pri i).two ∧ (pri i).two ≤ 255
  bound : ∀ w ∈ ws, w.1.1 < n ∧ w.1.2 < 8 ∧ w.2.1 < n ∧ w.2.2 < 8 ∧ w.1.1 ≠ w.2.1
  nodup : (ends ws).Nodup
theorem lnk_mem {ws : List Wire} {a b : End} (h : Lnk ws a b) : a ∈ ends ws := by
  unfold ends
  rw [List.mem_flatMap]
  rcases h with h | h
  · exact ⟨_, h, by simp⟩
  · exact ⟨_, h, by simp⟩
theorem lnk_fun : ∀ {ws : List Wire}, (ends ws).Nodup → ∀ {a b c : End}, Lnk ws a b → Lnk ws a c → b = c
  | [], _, a, b, c, h, _ => by rcases h with h | h <;> cases h
  | w :: ws, hn, a, b, c, h1, h2 => by
    have hn' : (w.1 :: w.2 :: ends ws).Nodup := hn
    rw [List.nodup_cons, List.nodup_cons] at hn'
    obtain ⟨n1, n2, n3⟩ := hn'
    have sp : ∀ {a b : End}, Lnk (w :: ws) a b → (a = w.1 ∧ b = w.2) ∨ (a = w.2 ∧ b = w.1) ∨ Lnk ws a b := by
      intro a b h
      rcases h with h | h
      · rcases List.mem_cons.1 h with h | h
        · subst h; exact .inl ⟨rfl, rfl⟩
        · exact .inr (.inr (.inl h))
      · rcases List.mem_cons.1 h with h | h
        · subst h; exact .inr (.inl ⟨rfl, rfl⟩)
        · exact .inr (.inr (.inr h))
    have e12 : w.1 ≠ w.2 := fun e => n1 (by rw [e]; simp)
    have e1 : w.1 ∉ ends ws := fun h => n1 (by simp [h])
    rcases sp h1 with ⟨rfl, rfl⟩ | ⟨rfl, rfl⟩ | h1
    · rcases sp h2 with ⟨_, rfl⟩ | ⟨h, _⟩ | h2
      · rfl
      · exact (e12 h).elim
      · exact (e1 (lnk_mem h2)).elim
    · rcases sp h2 with ⟨h, _⟩ | ⟨_, rfl⟩ | h2
      · exact (e12 h.symm).elim
      · rfl
      · exact (n2 (lnk_mem h2)).elim
    · rcases sp h2 with ⟨rfl, _⟩ | ⟨rfl, _⟩ | h2
      · exact (e1 (lnk_mem h1)).elim
      · exact (n2 (lnk_mem h1)).elim
      · exact lnk_fun n3 h1 h2
section
variable {n g : Nat} {pri : Nat → Pr} {ws : List Wire}
theorem Net.lnk (N : Net n pri ws) {u p v q : Nat} (h : Lnk ws (u, p) (v, q)) : u < n ∧ p < 8 ∧ v < n ∧ q < 8 ∧ u ≠ v := by
  rcases h with h | h
  · exact N.bound _ h
  · obtain ⟨a, b, c, d, e⟩ := N.bound _ h; exact ⟨c, d, a, b, Ne.symm e⟩
theorem Net.adj (N : Net n pri ws) {u v : Nat} : Adj ws u v → u < n ∧ v < n := fun ⟨_, _, h⟩ => ⟨(N.lnk h).1, (N.lnk h).2.2.1⟩
theorem Net.inj (N : Net n pri ws) {i j : Nat} (h : pri i = pri j) : i = j := idn_inj (by rw [← N.ids, ← N.ids, h])
theorem nodup_le : ∀ (n : Nat) (l : List Nat), l.Nodup → (∀ x ∈ l, x < n) → l.length ≤ n
  | 0, l, _, h => by
    cases l with
    | nil => simp
    | cons x r => have := h x (by simp); omega
  | n + 1, l, hn, h => by
    by_cases hm : n ∈ l
    · have h1 := nodup_le n (l.erase n) (hn.erase n) fun x hx => by
        have := (hn.mem_erase_iff).1 hx
        have := h x this.2; omega
      have h2 := List.length_erase_of_mem hm
      omega
    · have := nodup_le n l hn fun x hx => by
        have := h x hx
        have : x ≠ n := fun e => hm (e ▸ hx)
        omega
      omega

/-- What came of something said ahead: it has gone over so many real nodes. -/
def Lie (n : Nat) (i : Nat) (x : Port) : Prop := ∃ (q : List Int) (l : List Nat), x.path = q ++ l.map idn ∧ l.Nodup ∧ (∀ w ∈ l, w < n) ∧ i ∉ l ∧ x.when ≤ 5 * (l.length : Int)
/-- What a node's own clock told, along a way. -/
structure Tru (pri : Nat → Pr) (ws : List Wire) (i p : Nat) (x : Port) (l : List Nat) (r u q : Nat) : Prop where
  path : x.path = l.map idn
  way : Way ws r l u
  vec : x.vec = ⟨pri r, (l.length : Int) - 1, idn u, q, 0⟩
  lnk : Lnk ws (i, p) (u, q)
  not : i ∉ l
structure Inv (n : Nat) (pri : Nat → Pr) (ws : List Wire) (ts : List Tr) (now : Int) : Prop where
  len : ts.length = n
  own : ∀ (i : Nat) t, ts[i]? = some t → t.own = pri i ∧ t.ps.length = 8
  up : ∀ (i : Nat) t (p : Nat) x, ts[i]? = some t → t.ps[p]? = some x → (x.up = true ↔ ∃ b, Lnk ws (i, p) b)
  rng : ∀ (i : Nat) t (p : Nat) x, ts[i]? = some t → t.ps[p]? = some x → 0 ≤ x.when ∧ x.when ≤ now ∧ 0 ≤ x.vec.steps ∧ x.vec.steps ≤ 254 ∧ x.path.length ≤ 31
  rec' : ∀ (i : Nat) t (p : Nat) x, ts[i]? = some t → t.ps[p]? = some x → x.ok = true → Lie n i x ∨ ∃ l r u q, Tru pri ws i p x l r u q
theorem Inv.later {ts : List Tr} {t0 now : Int} (h : Inv n pri ws ts t0) (hn : t0 ≤ now) : Inv n pri ws ts now :=
  ⟨h.len, h.own, h.up, fun i t p x a b => by obtain ⟨c, d, e⟩ := h.rng i t p x a b; exact ⟨c, Int.le_trans d hn, e⟩, h.rec'⟩
theorem live_iff {x : Port} {now : Int} : x.live now = true ↔ x.ok = true ∧ x.when ≤ now ∧ now - x.when ≤ 5 := by simp [Port.live, and_assoc]
theorem Lie.dead {i : Nat} (hi : i < n) {x : Port} (h : Lie n i x) {now : Int} (hn : 5 * (n : Int) < now) : ¬ x.live now = true := by
  intro hl
  obtain ⟨_, _, h1⟩ := live_iff.1 hl
  obtain ⟨q, l, _, h2, h3, h4, h5⟩ := h
  have := nodup_le n (i :: l) (List.nodup_cons.2 ⟨h4, h2⟩) (fun x hx => by
    rcases List.mem_cons.1 hx with e | e
    · subst e; exact hi
    · exact h3 x e)
  simp only [List.length_cons] at this
  omega
theorem getElem?_lt {α : Type} {l : List α} {i : Nat} {x : α} (h : l[i]? = some x) : i < l.length := by
  rcases Nat.lt_or_ge i l.length with hh | hh
  · exact hh
  · rw [List.getElem?_eq_none hh] at h; cases h

/-- What a node tells. -/
structure Says (n : Nat) (pri : Nat → Pr) (ws : List Wire) (u pu : Nat) (g : Mg) (now : Int) : Prop where
  ok : g.m.ok g.path = true
  dom : g.m.domain = 0
  src : g.m.src = idn u
  port : g.m.port = pu
  how : (∃ (q : List Int) (l : List Nat), g.path = q ++ (l ++ [u]).map idn ∧ (l ++ [u]).Nodup ∧ (∀ w ∈ l ++ [u], w < n) ∧ now ≤ 5 * ((l ++ [u]).length : Int)) ∨
    ∃ l r, g.path = l.map idn ∧ Way ws r l u ∧ g.m.best = pri r ∧ g.m.steps = (l.length : Int) - 1
theorem here_root' (v : Ve) (i : Int) : (v.here i).root = v.root := rfl
theorem out_says (N : Net n pri ws) {ts : List Tr} {now : Int} (I : Inv n pri ws ts now) {u pu : Nat} {t : Tr} (hu : ts[u]? = some t) {seq : Int} {g : Mg} (ho : t.out pu seq now = some g) : Says n pri ws u pu g now := by
  obtain ⟨hown, _⟩ := I.own u t hu
  have hun : u < n := by have := getElem?_lt hu; rw [I.len] at this; exact this
  unfold Tr.out at ho
  split at ho
  · rename_i hc
    cases ho
    refine ⟨hc.2, rfl, by simp only [Tr.ms]; rw [hown, N.ids], rfl, ?_⟩
    simp only [Tr.ms, Tr.pathOf]
    rcases top_spec t.own (t.hes now) with ⟨h1, _⟩ | ⟨p, h, hT⟩
    · change t.top now = _ at h1
      rw [h1]
      right
      refine ⟨[u], u, ?_, .one, ?_, ?_⟩
      · rw [if_neg (by simp [top0])]; simp [hown, N.ids]
      · rw [← hown]; rfl
      · rw [if_neg (by simp [top0])]; simp
    · obtain ⟨x, hx, rfl⟩ := t.hes_inv now hT.at'
      have heq : t.top now = x.vec.here p := hT.eq
      have hlive : x.live now = true := hT.cand.2.1
      obtain ⟨hok, _, hl⟩ := live_iff.1 hlive
      have hat : 0 ≤ (t.top now).at' := by rw [heq, here_at]; omega
      rw [if_pos hat, if_pos hat, heq]
      simp only [here_at, here_root, here_steps, Int.toNat_natCast, hx, Option.map_some, Option.getD_some]
      rw [hown, N.ids]
      rcases I.rec' u t p x hu hx hok with ⟨q, l, h1, h2, h3, h4, h5⟩ | ⟨l, r, w, q, hr⟩
      · left
        refine ⟨q, l, by rw [h1]; simp, ?_, ?_, by simp; omega⟩
        · rw [List.nodup_append]
          exact ⟨h2, by simp, fun a ha b hb e => by simp at hb; subst hb; subst e; exact h4 ha⟩
        · intro w hw
          rcases List.mem_append.1 hw with hw | hw
          · exact h3 w hw
          · simp at hw; subst hw; exact hun
      · right
        refine ⟨l ++ [u], r, by rw [hr.path]; simp, .more hr.way ⟨q, p, hr.lnk.symm⟩, by rw [hr.vec], by rw [hr.vec]; simp⟩
  · cases ho

/-- What is taken. -/
def taken (g : Mg) (now : Int) : Port := ⟨true, true, ⟨g.m.best, g.m.steps, g.m.src, g.m.port, 0⟩, g.path, now⟩
theorem inn_cases {t : Tr} {pv : Nat} (hp : pv < 8) {g : Mg} {now : Int} (hok : g.m.ok g.path = true) (hd : g.m.domain = 0) {x : Port} (hx : t.ps[pv]? = some x) (hup : x.up = true) :
    ((g.m.src = t.own.id ∨ t.own.id ∈ g.path ∨ 255 ≤ g.m.steps ∨ 32 ≤ g.path.length) ∧ t.inn pv g now = (t, 31)) ∨
    (¬ (g.m.src = t.own.id ∨ t.own.id ∈ g.path ∨ 255 ≤ g.m.steps ∨ 32 ≤ g.path.length) ∧ t.inn pv g now = ({ t with ps := t.ps.set pv (taken g now) }, 0)) := by
  unfold Tr.inn
  rw [if_neg (by simp [hok, hd]), if_neg (by simp [hx, hup]; omega)]
  split
  · exact .inl ⟨by assumption, rfl⟩
  · exact .inr ⟨by assumption, rfl⟩
theorem says_taken (N : Net n pri ws) {u pu v pv : Nat} {g : Mg} {now : Int} (hS : Says n pri ws u pu g now) (hl : Lnk ws (u, pu) (v, pv)) (hv : idn v ∉ g.path) : Lie n v (taken g now) ∨ ∃ l r u q, Tru pri ws v pv (taken g now) l r u q := by
  rcases hS.how with ⟨q, l, h1, h2, h3, h4⟩ | ⟨l, r, h1, h2, h3, h4⟩
  · left
    refine ⟨q, l ++ [u], h1, h2, h3, fun hm => hv ?_, h4⟩
    rw [h1]
    exact List.mem_append.2 (.inr (List.mem_map.2 ⟨v, hm, rfl⟩))
  · right
    refine ⟨l, r, u, pu, h1, h2, ?_, hl.symm, fun hm => hv ?_⟩
    · simp only [taken, h3, h4, hS.src, hS.port]
    · rw [h1]; exact List.mem_map.2 ⟨v, hm, rfl⟩
theorem get_set_tr {ts : List Tr} {v : Nat} {t' : Tr} (hv : v < ts.length) {i : Nat} {t : Tr} (h : (ts.set v t')[i]? = some t) : (i = v ∧ t = t') ∨ (i ≠ v ∧ ts[i]? = some t) := by
  by_cases e : i = v
  · subst e
    rw [List.getElem?_set_self hv] at h
    exact .inl ⟨rfl, (Option.some.inj h).symm⟩
  · rw [List.getElem?_set_ne (Ne.symm e)] at h
    exact .inr ⟨e, h⟩

/-- What the half of a round does. -/
inductive HalfIs (n : Nat) (pri : Nat → Pr) (ws : List Wire) (ts : List Tr) (u pu v pv : Nat) (now : Int) : List Tr × Int → Prop
  | none (e : Int) (he : e = 0 ∨ e = 31) : HalfIs n pri ws ts u pu v pv now (ts, e)
  | some (t t' : Tr) (g : Mg) (hu : ts[u]? = some t) (ho : t.out pu (now % 256) now = some g) (hv : ts[v]? = some t') (hn : idn v ∉ g.path) (hs : g.m.steps ≤ 254) (hl : g.path.length ≤ 31) : HalfIs n pri ws ts u pu v pv now (ts.set v { t' with ps := t'.ps.set pv (taken g now) }, 0)
theorem set_self {α : Type} : ∀ {l : List α} {i : Nat} {x : α}, l[i]? = some x → l.set i x = l
  | [], i, x, h => by simp at h
  | y :: l, 0, x, h => by simp at h; subst h; rfl
  | y :: l, i + 1, x, h => by simp only [List.set_cons_succ]; rw [set_self (by simpa using h)]
theorem half_is (N : Net n pri ws) {ts : List Tr} {now : Int} (I : Inv n pri ws ts now) {u pu v pv : Nat} (hl : Lnk ws (u, pu) (v, pv)) : HalfIs n pri ws ts u pu v pv now (half ts u pu v pv now) := by
  obtain ⟨b1, b2, b3, b4, b5⟩ := N.lnk hl
  unfold half
  split
  · rename_i t t' hu hv
    cases ho : t.out pu (now % 256) now with
    | none => exact .none 0 (.inl rfl)
    | some g =>
      have hS := out_says N I hu ho
      obtain ⟨o1, o2⟩ := I.own v t' hv
      obtain ⟨x, hx⟩ : ∃ x, t'.ps[pv]? = some x := ⟨t'.ps[pv]'(by omega), by simp [show pv < t'.ps.length by omega]⟩
      have hup := (I.up v t' pv x hv hx).2 ⟨_, hl.symm⟩
      simp only
      rcases inn_cases (now := now) b4 hS.ok hS.dom hx hup with ⟨_, h2⟩ | ⟨h1, h2⟩
      · rw [h2]
        simp only [set_self hv]
        exact .none 31 (.inr rfl)
      · rw [h2]
        simp only [not_or] at h1
        refine .some t t' g hu ho hv ?_ (by omega) (by omega)
        have := h1.2.1
        rwa [o1, N.ids] at this
  · exact .none 0 (.inl rfl)
theorem half_inv (N : Net n pri ws) {ts : List Tr} {now : Int} (h0 : 0 ≤ now) (I : Inv n pri ws ts now) {u pu v pv : Nat} (hl : Lnk ws (u, pu) (v, pv)) : Inv n pri ws (half ts u pu v pv now).1 now ∧ ((half ts u pu v pv now).2 = 0 ∨ (half ts u pu v pv now).2 = 31) := by
  have H := half_is N I hl
  generalize half ts u pu v pv now = r at H
  cases H with
  | none e he => exact ⟨I, he⟩
  | some t t' g hu ho hv hn hs hlen =>
    refine ⟨?_, .inl rfl⟩
    have hS := out_says N I hu ho
    obtain ⟨b1, b2, b3, b4, b5⟩ := N.lnk hl
    have hvl := getElem?_lt hv
    obtain ⟨o1, o2⟩ := I.own v t' hv
    have hsteps : 0 ≤ g.m.steps := by
      have := hS.ok
      simp only [Ms.ok, Bool.and_eq_true, inB, decide_eq_true_eq] at this
      omega
    have port : ∀ (p : Nat) x, (t'.ps.set pv (taken g now))[p]? = some x → (p = pv ∧ x = taken g now) ∨ (p ≠ pv ∧ t'.ps[p]? = some x) := by
      intro p x hx
      by_cases e : p = pv
      · subst e
        rw [List.getElem?_set_self (by omega)] at hx
        exact .inl ⟨rfl, (Option.some.inj hx).symm⟩
      · rw [List.getElem?_set_ne (Ne.symm e)] at hx
        exact .inr ⟨e, hx⟩
    refine ⟨by simp [I.len], ?_, ?_, ?_, ?_⟩
    · intro i t2 h2
      rcases get_set_tr hvl h2 with ⟨rfl, rfl⟩ | ⟨_, h2⟩
      · exact ⟨o1, by simpa using o2⟩
      · exact I.own i t2 h2
    · intro i t2 p x h2 hx
      rcases get_set_tr hvl h2 with ⟨rfl, rfl⟩ | ⟨_, h2⟩
      · rcases port p x hx with ⟨rfl, rfl⟩ | ⟨_, hx⟩
        · exact ⟨fun _ => ⟨_, hl.symm⟩, fun _ => rfl⟩
        · exact I.up _ t' p x hv hx
      · exact I.up i t2 p x h2 hx
    · intro i t2 p x h2 hx
      rcases get_set_tr hvl h2 with ⟨rfl, rfl⟩ | ⟨_, h2⟩
      · rcases port p x hx with ⟨rfl, rfl⟩ | ⟨_, hx⟩
        · exact ⟨h0, Int.le_refl _, hsteps, hs, hlen⟩
        · exact I.rng _ t' p x hv hx
      · exact I.rng i t2 p x h2 hx
    · intro i t2 p x h2 hx hok
      rcases get_set_tr hvl h2 with ⟨rfl, rfl⟩ | ⟨_, h2⟩
      · rcases port p x hx with ⟨rfl, rfl⟩ | ⟨_, hx⟩
        · exact says_taken N hS hl hn
        · exact I.rec' _ t' p x hv hx hok
      · exact I.rec' i t2 p x h2 hx hok

/-! What a round brings on. -/
/-- The best of those that it reaches. -/
def Best (pri : Nat → Pr) (ws : List Wire) (g : Nat) : Prop := ∀ v, Conn ws g v → v = g ∨ (pri g).cmp (pri v) < 0
def Cl (ws : List Wire) (g k u v j : Nat) : Prop := j < k ∧ Dist ws g j u ∧ (Dist ws g (j + 1) v ∨ (Dist ws g j v ∧ u < v))
def Stored (pri : Nat → Pr) (ts : List Tr) (g j u pu v pv : Nat) (tmin : Int) : Prop :=
  ∃ t x, ts[v]? = some t ∧ t.ps[pv]? = some x ∧ x.ok = true ∧ x.vec = ⟨pri g, j, idn u, pu, 0⟩ ∧ tmin ≤ x.when
def Pk (pri : Nat → Pr) (ws : List Wire) (ts : List Tr) (g k : Nat) (tmin : Int) : Prop :=
  ∀ u pu v pv j, Lnk ws (u, pu) (v, pv) → Cl ws g k u v j → Stored pri ts g j u pu v pv tmin
theorem lnk_adj {u p v q : Nat} (h : Lnk ws (u, p) (v, q)) : Adj ws u v := ⟨_, _, h⟩
theorem Tru.conn {i p : Nat} {x : Port} {l : List Nat} {r u q : Nat} (h : Tru pri ws i p x l r u q) : Conn ws r i := .step h.way.conn (lnk_adj h.lnk.symm)
theorem Tru.lay {i p : Nat} {x : Port} {l : List Nat} {r u q : Nat} (h : Tru pri ws i p x l r u q) : Sx.lay ws r (l.length - 1) u = true := h.way.lay _ _ h.way.last
theorem Tru.lay' {i p : Nat} {x : Port} {l : List Nat} {r u q : Nat} (h : Tru pri ws i p x l r u q) : Sx.lay ws r l.length i = true := by
  have := h.way.pos
  rw [show l.length = l.length - 1 + 1 by omega]
  exact lay_succ.2 (.inr ⟨u, lnk_adj h.lnk.symm, h.lay⟩)
theorem best_le (hB : Best pri ws g) {r : Nat} (h : Conn ws g r) : (pri g).cmp (pri r) ≤ 0 := by
  rcases hB r h with e | e
  · subst e; rw [Pr.cmp_self]; omega
  · omega

/-- What a node has that is so far away. -/
structure TopAt (pri : Nat → Pr) (ws : List Wire) (g j u : Nat) (t : Tr) (now : Int) (p : Nat) (x : Port) (l : List Nat) (w q : Nat) : Prop where
  top : t.top now = x.vec.here p
  ps : t.ps[p]? = some x
  up : x.up = true
  tru : Tru pri ws u p x l g w q
  len : l.length = j
  le : ∀ (p2 : Nat) x2, t.ps[p2]? = some x2 → Cand t.own (x2.he now) → (t.top now).cmp (x2.vec.here p2) ≤ 0
theorem top_at (N : Net n pri ws) {ts : List Tr} {now tmin : Int} (I : Inv n pri ws ts now) (hB : Best pri ws g) {k : Nat} (hP : Pk pri ws ts g k tmin) (hnow : 5 * (n : Int) < now) (htm : now ≤ tmin + 5)
    {j u : Nat} {t : Tr} (hj : j ≤ k) (hD : Dist ws g j u) (hu : ts[u]? = some t) :
    (j = 0 ∧ u = g ∧ t.top now = top0 (pri g)) ∨ ∃ p x l w q, 0 < j ∧ TopAt pri ws g j u t now p x l w q := by
  obtain ⟨hown, hlen⟩ := I.own u t hu
  have hun : u < n := by have := getElem?_lt hu; rw [I.len] at this; exact this
  have hcu := lay_conn hD.1
  have hrec : ∀ (p : Nat) x, t.ps[p]? = some x → x.live now = true → ∃ l r w q, Tru pri ws u p x l r w q ∧ Conn ws g r := by
    intro p x hx hl
    rcases I.rec' u t p x hu hx (live_iff.1 hl).1 with h | ⟨l, r, w, q, h⟩
    · exact (h.dead hun hnow hl).elim
    · exact ⟨l, r, w, q, h, hcu.trans h.conn.symm⟩
  cases j with
  | zero =>
    left
    have hug : u = g := by have := hD.1; simpa [lay] using this
    subst hug
    refine ⟨rfl, rfl, ?_⟩
    rcases top_spec t.own (t.hes now) with ⟨h1, _⟩ | ⟨p, h, hT⟩
    · rw [← hown]; exact h1
    · obtain ⟨x, hx, rfl⟩ := t.hes_inv now hT.at'
      obtain ⟨l, r, w, q, h, hc⟩ := hrec p x hx hT.cand.2.1
      have h1 : x.vec.root.cmp t.own < 0 := hT.cand.2.2
      rw [h.vec, hown] at h1
      simp only at h1
      rw [Pr.cmp_anti (pri u)] at h1
      have := best_le hB hc
      omega
  | succ j =>
    right
    obtain ⟨w0, ⟨q0, p0, hl0⟩, hD0⟩ := hD.lower
    obtain ⟨t0, x0, s1, s2, s3, s4, s5⟩ := hP w0 q0 u p0 j hl0 ⟨by omega, hD0, .inl hD⟩
    rw [hu] at s1; cases s1
    have hup0 := (I.up u t p0 x0 hu s2).2 ⟨_, hl0.symm⟩
    have hlive0 : x0.live now = true := live_iff.2 ⟨s3, (I.rng u t p0 x0 hu s2).2.1, by omega⟩
    have hne : u ≠ g := by
      intro e
      have := hD.2 0 (by omega)
      simp [lay, e] at this
    have hc0 : Cand t.own (x0.he now) := by
      refine ⟨hup0, hlive0, ?_⟩
      show x0.vec.root.cmp t.own < 0
      rw [s4, hown]
      exact (hB u hcu).resolve_left hne
    have hg0 := t.hes_get now s2
    rcases top_spec t.own (t.hes now) with ⟨_, h2⟩ | ⟨p, h, hT⟩
    · exact (h2 p0 _ hg0 hc0).elim
    · obtain ⟨x, hx, rfl⟩ := t.hes_inv now hT.at'
      obtain ⟨l, r, w, q, h, hc⟩ := hrec p x hx hT.cand.2.1
      have heq : t.top now = x.vec.here p := hT.eq
      have hle := hT.le p0 _ hg0 hc0
      change (t.top now).cmp (x0.vec.here p0) ≤ 0 at hle
      rw [heq] at hle
      have hst := Ve.le_steps hle (by
        rw [here_root, here_root, s4, h.vec]; exact best_le hB hc)
      rw [here_root, here_root, here_steps, here_steps, s4, h.vec] at hst
      obtain ⟨e1, e2⟩ := hst
      have e3 := N.inj e1
      subst e3
      have h3 := hD.le h.lay'
      refine ⟨p, x, l, w, q, by omega, heq, hx, hT.cand.1, h, ?_, fun p2 x2 h2 hc2 => hT.le p2 _ (t.hes_get now h2) hc2⟩
      simp only at e2
      omega

theorem not_in_way {r : Nat} {l : List Nat} {u v j : Nat} (h : Way ws r l u) (hl : l.length ≤ j + 1) (hne : u ≠ v) (hD : ∀ i, lay ws r i v = true → j ≤ i) : v ∉ l := by
  intro hm
  obtain ⟨i, hi⟩ := List.mem_iff_getElem?.1 hm
  have h1 := hD i (h.lay i v hi)
  have h2 := getElem?_lt hi
  have h3 := h.last
  rw [show l.length - 1 = i by omega, hi] at h3
  exact hne (Option.some.inj h3).symm

/-- The lower one is the master. -/
theorem role_low (N : Net n pri ws) {ts : List Tr} {now tmin : Int} (I : Inv n pri ws ts now) (hB : Best pri ws g) {k : Nat} (hP : Pk pri ws ts g k tmin) (hnow : 5 * (n : Int) < now) (htm : now ≤ tmin + 5)
    {j u pu v pv : Nat} {t : Tr} (hl : Lnk ws (u, pu) (v, pv)) (hC : Cl ws g (k + 1) u v j) (hu : ts[u]? = some t) : (t.roles now)[pu]? = some 1 := by
  obtain ⟨hj, hD, hV⟩ := hC
  obtain ⟨b1, b2, b3, b4, b5⟩ := N.lnk hl
  obtain ⟨hown, hlen⟩ := I.own u t hu
  obtain ⟨y, hy⟩ : ∃ y, t.ps[pu]? = some y := ⟨t.ps[pu]'(by omega), by simp [show pu < t.ps.length by omega]⟩
  have hup := (I.up u t pu y hu hy).2 ⟨_, hl⟩
  have hvj : ∀ i, lay ws g i v = true → j ≤ i := by
    intro i hi
    rcases hV with h | ⟨h, _⟩
    · have := h.le hi; omega
    · exact h.le hi
  have htop := top_at N I hB hP hnow htm (by omega) hD hu
  rw [t.roles_get now hy, roleOf, if_neg (by simp [Port.he, hup])]
  have hat : ¬ (pu : Int) = (t.top now).at' := by
    rcases htop with ⟨_, _, h⟩ | ⟨p, x, l, w, q, h0, h⟩
    · rw [h]; simp [top0]
    · rw [h.top, here_at]
      intro e
      have e : pu = p := by omega
      subst e
      have e2 := lnk_fun N.nodup hl h.tru.lnk
      cases e2
      have h1 := hvj _ h.tru.lay
      have h2 := h.len
      omega
  rw [if_neg hat, if_neg]
  rintro ⟨h1, h2, h3⟩
  have h2 : y.live now = true := h2
  change (y.vec.here 0).cmp _ < 0 at h3
  have hun : u < n := b1
  rcases I.rec' u t pu y hu hy (live_iff.1 h2).1 with hh | ⟨l2, r2, w2, q2, hh⟩
  · exact hh.dead hun hnow h2
  · have e2 := lnk_fun N.nodup hl hh.lnk
    cases e2
    rcases htop with ⟨_, _, h⟩ | ⟨p, x, l, w, q, h0, h⟩
    · rw [h] at h1; simp [top0] at h1
    · have hm : mineOf t.own (t.top now) pu = ⟨pri g, j, idn u, pu, 0⟩ := by
        rw [mineOf, h.top, here_at, here_root, here_steps, h.tru.vec, hown, N.ids, if_neg (by omega)]
        simp only [Ve.mk.injEq, true_and, and_true]
        have := h.len
        omega
      rw [hm] at h3
      have hc : Conn ws g r2 := (lay_conn hD.1).trans hh.conn.symm
      by_cases er : (pri r2).cmp (pri g) = 0
      · have er := N.inj (Pr.cmp_zero er)
        subst er
        have h4 := hvj _ hh.lay
        have h5 := hh.way.pos
        rcases Nat.lt_or_ge j (l2.length - 1) with h6 | h6
        · rw [Ve.cmp_steps _ _ (by rw [here_root, hh.vec]) (by rw [here_steps, hh.vec]; simp only; omega), here_steps, hh.vec, cmpI_neg] at h3
          simp only at h3
          omega
        · rcases hV with hV | ⟨hV, huv⟩
          · have := hV.le hh.lay; omega
          · rw [Ve.cmp_src _ _ (by rw [here_root, hh.vec]) (by rw [here_steps, hh.vec]; simp only; omega) (by rw [here_src, hh.vec]; simp only [idn]; omega), here_src, hh.vec, cmpI_neg] at h3
            simp only [idn] at h3
            omega
      · rw [Ve.cmp_root _ _ (by rw [here_root, hh.vec]; exact er), here_root, hh.vec] at h3
        simp only at h3
        have := best_le hB hc
        rw [Pr.cmp_anti] at this
        omega

/-- What the lower one tells is stored. -/
theorem half_stored (N : Net n pri ws) {ts : List Tr} {now tmin : Int} (h0 : 0 ≤ now) (I : Inv n pri ws ts now) (hB : Best pri ws g) {k : Nat} (hP : Pk pri ws ts g k tmin) (hnow : 5 * (n : Int) < now) (htm : now ≤ tmin + 5) (hk : k ≤ 20)
    {j u pu v pv : Nat} (hl : Lnk ws (u, pu) (v, pv)) (hC : Cl ws g (k + 1) u v j) : Stored pri (half ts u pu v pv now).1 g j u pu v pv now := by
  obtain ⟨b1, b2, b3, b4, b5⟩ := N.lnk hl
  obtain ⟨t, hu⟩ : ∃ t, ts[u]? = some t := ⟨ts[u]'(by rw [I.len]; exact b1), by simp [show u < ts.length by rw [I.len]; exact b1]⟩
  obtain ⟨t', hv⟩ : ∃ t, ts[v]? = some t := ⟨ts[v]'(by rw [I.len]; exact b3), by simp [show v < ts.length by rw [I.len]; exact b3]⟩
  have hrole := role_low N I hB hP hnow htm hl hC hu
  obtain ⟨hj, hD, hV⟩ := hC
  obtain ⟨hown, hlen⟩ := I.own u t hu
  obtain ⟨hown', hlen'⟩ := I.own v t' hv
  have hvj : ∀ i, lay ws g i v = true → j ≤ i := by
    intro i hi
    rcases hV with h | ⟨h, _⟩
    · have := h.le hi; omega
    · exact h.le hi
  have htop := top_at N I hB hP hnow htm (by omega) hD hu
  obtain ⟨l, hway, hll, hpath, hroot, hsteps⟩ : ∃ l, Way ws g l u ∧ l.length = j + 1 ∧ t.pathOf now = l.map idn ∧ (t.top now).root = pri g ∧ (if 0 ≤ (t.top now).at' then (t.top now).steps + 1 else 0) = (j : Int) := by
    rcases htop with ⟨rfl, rfl, h⟩ | ⟨p, x, l, w, q, h0, h⟩
    · refine ⟨[u], .one, rfl, ?_, by rw [h]; rfl, by rw [h]; simp [top0]⟩
      rw [Tr.pathOf, h, if_neg (by simp [top0]), hown, N.ids]; rfl
    · refine ⟨l ++ [u], .more h.tru.way ⟨q, p, h.tru.lnk.symm⟩, by simp [h.len], ?_, by rw [h.top, here_root, h.tru.vec], ?_⟩
      · rw [Tr.pathOf, h.top, here_at, if_pos (by omega), hown, N.ids]
        simp only [Int.toNat_natCast, h.ps, Option.map_some, Option.getD_some, h.tru.path, List.map_append, List.map_cons, List.map_nil]
      · rw [h.top, here_at, if_pos (by omega), here_steps, h.tru.vec]
        have := h.len
        simp only; omega
  have hms : t.ms pu (now % 256) now = ⟨0, now % 256, idn u, pu, 0, 0, 0, 0, 0, pri g, j⟩ := by
    rw [Tr.ms, hsteps, hroot, hown, N.ids]
  have hgn : g < n := by
    cases (lay_conn hD.1).symm with
    | refl => exact b1
    | step _ a => exact (N.adj a).2
  have hlt : ∀ x ∈ l, x < n := by
    intro x hx
    obtain ⟨i, hi⟩ := List.mem_iff_getElem?.1 hx
    cases lay_conn (hway.lay i x hi) with
    | refl => exact hgn
    | step _ a => exact (N.adj a).2
  have hok : (t.ms pu (now % 256) now).ok (t.pathOf now) = true := by
    rw [hms, hpath]
    have o1 := N.one g
    have o2 := N.cls g
    have o3 := N.two g
    have hm := N.most
    simp only [Ms.ok, inB, ids, N.ids, idn, Bool.and_eq_true, decide_eq_true_eq, List.all_eq_true, List.mem_map, List.length_map, and_assoc]
    have hall : ∀ x : Int, (∃ a, a ∈ l ∧ 10 + (a : Int) = x) → 0 ≤ x ∧ x ≤ 281474976710655 := by
      rintro x ⟨a, ha, rfl⟩
      have := hlt a ha
      omega
    repeat' apply And.intro
    all_goals first | trivial | omega | (refine decide_eq_true ?_; omega) | exact hall
  have ho : t.out pu (now % 256) now = some ⟨t.ms pu (now % 256) now, t.pathOf now⟩ := by rw [Tr.out, if_pos ⟨hrole, hok⟩]
  obtain ⟨y, hy⟩ : ∃ y, t'.ps[pv]? = some y := ⟨t'.ps[pv]'(by omega), by simp [show pv < t'.ps.length by omega]⟩
  have hup := (I.up v t' pv y hv hy).2 ⟨_, hl.symm⟩
  have hS := out_says N I hu ho
  unfold half
  simp only [hu, hv, ho]
  rcases inn_cases (now := now) b4 hS.ok hS.dom hy hup with ⟨h1, h2⟩ | ⟨h1, h2⟩
  · exfalso
    rw [hms, hpath, hown', N.ids] at h1
    simp only [List.length_map] at h1
    rcases h1 with h1 | h1 | h1 | h1
    · exact b5 (idn_inj h1)
    · obtain ⟨a, ha, he⟩ := List.mem_map.1 h1
      have := idn_inj he
      subst this
      exact not_in_way hway (by omega) b5 hvj ha
    · omega
    · omega
  · rw [h2]
    refine ⟨_, _, List.getElem?_set_self (by rw [I.len]; exact b3), List.getElem?_set_self (by omega), rfl, ?_, Int.le_refl _⟩
    simp only [taken, hms]
theorem half_other {ts : List Tr} {now : Int} (N : Net n pri ws) (I : Inv n pri ws ts now) {u pu v pv : Nat} (hl : Lnk ws (u, pu) (v, pv)) {g j u' pu' v' pv' : Nat} {tmin : Int} (hne : (v', pv') ≠ (v, pv)) (h : Stored pri ts g j u' pu' v' pv' tmin) : Stored pri (half ts u pu v pv now).1 g j u' pu' v' pv' tmin := by
  have H := half_is N I hl
  generalize half ts u pu v pv now = r at H
  obtain ⟨t, x, h1, h2, h3⟩ := h
  cases H with
  | none e he => exact ⟨t, x, h1, h2, h3⟩
  | some ta t' g hu ho hv hn hs hlen =>
    by_cases e : v' = v
    · subst e
      rw [hv] at h1; cases h1
      have hne' : pv' ≠ pv := fun e => hne (by rw [e])
      exact ⟨_, x, List.getElem?_set_self (getElem?_lt hv), by rw [List.getElem?_set_ne (Ne.symm hne')]; exact h2, h3⟩
    · exact ⟨t, x, by rw [List.getElem?_set_ne (Ne.symm e)]; exact h1, h2, h3⟩

def hops (ws : List Wire) : List (End × End) := ws.flatMap fun w => [(w.1, w.2), (w.2, w.1)]
theorem mem_hops {ws : List Wire} {a b : End} : (a, b) ∈ hops ws ↔ Lnk ws a b := by
  unfold hops Lnk
  rw [List.mem_flatMap]
  constructor
  · rintro ⟨w, hw, h⟩
    simp only [List.mem_cons, Prod.mk.injEq, List.not_mem_nil, or_false] at h
    rcases h with ⟨rfl, rfl⟩ | ⟨rfl, rfl⟩
    · exact .inl hw
    · exact .inr hw
  · rintro (h | h)
    · exact ⟨_, h, by simp⟩
    · exact ⟨_, h, by simp⟩
def runHops (now : Int) : List (End × End) → List Tr → List Tr
  | [], ts => ts
  | h :: r, ts => runHops now r (half ts h.1.1 h.1.2 h.2.1 h.2.2 now).1
theorem run_inv (N : Net n pri ws) {now : Int} (h0 : 0 ≤ now) : ∀ {hs : List (End × End)} {ts : List Tr}, (∀ a b, (a, b) ∈ hs → Lnk ws a b) → Inv n pri ws ts now → Inv n pri ws (runHops now hs ts) now
  | [], ts, _, I => I
  | ⟨⟨u, pu⟩, ⟨v, pv⟩⟩ :: r, ts, hl, I => run_inv N h0 (hs := r) (fun a b h => hl a b (by simp [h])) (half_inv N h0 I (hl _ _ (by simp))).1
theorem run_stored (N : Net n pri ws) {now tmin : Int} (h0 : 0 ≤ now) (hB : Best pri ws g) {k : Nat} (hnow : 5 * (n : Int) < now) (htm : now ≤ tmin + 5) (htl : tmin ≤ now) (hk : k ≤ 20) :
    ∀ {hs dn : List (End × End)} {ts : List Tr}, (∀ a b, (a, b) ∈ hs → Lnk ws a b) → Inv n pri ws ts now → Pk pri ws ts g k tmin →
      (∀ u pu v pv j, ((u, pu), (v, pv)) ∈ dn → Lnk ws (u, pu) (v, pv) → Cl ws g (k + 1) u v j → Stored pri ts g j u pu v pv now) →
      ∀ u pu v pv j, (((u, pu), (v, pv)) ∈ dn ∨ ((u, pu), (v, pv)) ∈ hs) → Lnk ws (u, pu) (v, pv) → Cl ws g (k + 1) u v j → Stored pri (runHops now hs ts) g j u pu v pv now
  | [], dn, ts, _, I, hP, hd, u, pu, v, pv, j, hm, hl, hC => hd u pu v pv j (hm.resolve_right (by simp)) hl hC
  | ⟨⟨u0, pu0⟩, ⟨v0, pv0⟩⟩ :: r, dn, ts, hl, I, hP, hd, u, pu, v, pv, j, hm, hl', hC => by
    have hl0 := hl (u0, pu0) (v0, pv0) (by simp)
    have uniq : ∀ {u pu v pv}, Lnk ws (u, pu) (v, pv) → (v, pv) = (v0, pv0) → u = u0 ∧ pu = pu0 := by
      intro u pu v pv h e
      cases e
      have := lnk_fun N.nodup h.symm hl0.symm
      cases this; exact ⟨rfl, rfl⟩
    refine run_stored N h0 hB hnow htm htl hk (hs := r) (dn := ((u0, pu0), (v0, pv0)) :: dn) (fun a b h => hl a b (by simp [h])) (half_inv N h0 I hl0).1 ?_ ?_ u pu v pv j ?_ hl' hC
    · intro u pu v pv j hl1 hC1
      by_cases e : (v, pv) = (v0, pv0)
      · obtain ⟨rfl, rfl⟩ := uniq hl1 e
        cases e
        obtain ⟨t, x, h1, h2, h3, h4, h5⟩ := half_stored N h0 I hB hP hnow htm hk hl0 ⟨by have := hC1.1; omega, hC1.2⟩
        exact ⟨t, x, h1, h2, h3, h4, Int.le_trans htl h5⟩
      · exact half_other N I hl0 e (hP u pu v pv j hl1 hC1)
    · intro u pu v pv j hm hl1 hC1
      by_cases e : (v, pv) = (v0, pv0)
      · obtain ⟨rfl, rfl⟩ := uniq hl1 e
        cases e
        exact half_stored N h0 I hB hP hnow htm hk hl0 hC1
      · refine half_other N I hl0 e (hd u pu v pv j ?_ hl1 hC1)
        rcases List.mem_cons.1 hm with h | h
        · cases h; exact (e rfl).elim
        · exact h
    · rcases hm with h | h
      · exact .inl (by simp [h])
      · rcases List.mem_cons.1 h with h | h
        · exact .inl (by simp [h])
        · exact .inr h
/-- A round. -/
theorem round_stored (N : Net n pri ws) {ts : List Tr} {now tmin : Int} (h0 : 0 ≤ now) (I : Inv n pri ws ts now) (hB : Best pri ws g) {k : Nat} (hP : Pk pri ws ts g k tmin) (hnow : 5 * (n : Int) < now) (htm : now ≤ tmin + 5) (htl : tmin ≤ now) (hk : k ≤ 20) :
    Pk pri ws (runHops now (hops ws) ts) g (k + 1) now := fun u pu v pv j hl hC =>
  run_stored N h0 hB hnow htm htl hk (dn := []) (fun _ _ h => mem_hops.1 h) I hP (fun _ _ _ _ _ h => by cases h) u pu v pv j (.inr (mem_hops.2 hl)) hl hC
theorem round_inv (N : Net n pri ws) {ts : List Tr} {now : Int} (h0 : 0 ≤ now) (I : Inv n pri ws ts now) : Inv n pri ws (runHops now (hops ws) ts) now := run_inv N h0 (fun _ _ h => mem_hops.1 h) I
theorem Pk.less {ts : List Tr} {g k k' : Nat} {tmin : Int} (hk : k' ≤ k) (h : Pk pri ws ts g k tmin) : Pk pri ws ts g k' tmin :=
  fun u pu v pv j hl hC => h u pu v pv j hl ⟨by have := hC.1; omega, hC.2⟩
theorem Pk.zero {ts : List Tr} {g : Nat} {tmin : Int} : Pk pri ws ts g 0 tmin := fun u pu v pv j hl hC => absurd hC.1 (by omega)
end
end Go.Proofs.Ytckdmhjhjfmcdaa.Sx
