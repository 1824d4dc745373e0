/-
  Stepping by one simp: the same rules, the rest hidden from simp until it is come to.
-/
import Derived.Test.YtckdmhjhjfmcdaaSy
namespace Go.Proofs.Ytckdmhjhjfmcdaa.Sx
set_option linter.unusedSimpArgs false
set_option linter.unusedVariables false
open Go
/-- A mark that hangs on a term: simp leaves alone what such a mark hangs on. -/
inductive Dep {α : Type} (a : α) : Type | mk
def hide {α β : Type} (f : α → β) (_ : Dep f) : α → β := f
theorem hide1 {α β : Type} {f : α → β} {d : Dep f} {a : α} : hide f d a = f a := rfl
abbrev hd {α β : Type} (f : α → β) : α → β := hide f .mk
def cnd' (c p q : Prop) (_ : Dep p) (_ : Dep q) : Prop := cnd c p q
def gd' (v : Value) (want : Bool) (p q z : Prop) (_ : Dep p) (_ : Dep q) (_ : Dep z) : Prop := gd v want p q z
noncomputable def Cw (P : Program) (d : DCode) (_ : Dep d) (E : Env) (A : AHeap) (K : Exit → Env → AHeap → Prop) : Prop := wpC P d E A K
theorem cnd_mk' {c p q : Prop} {h : Dep p} {h' : Dep q} (h1 : c → p) (h2 : ¬ c → q) : cnd' c p q h h' := ⟨h1, h2⟩
section
variable {p q z c : Prop} {v : Value} {h : Dep p} {h' : Dep q} {h'' : Dep z}
theorem z_cnd_true : cnd' True p q h h' = p := cnd_true
theorem z_cnd_false : cnd' False p q h h' = q := cnd_false
theorem z_gd_bool {b want : Bool} : gd' (.bool b) want p q z h h' h'' = cnd' (b = want) p q .mk .mk := gd_bool
theorem z_gd_tup {vs : Array Value} {want : Bool} : gd' (.tuple vs) want p q z h h' h'' = (vs.size = 0 ∧ z) := gd_tup
end
section
variable {P : Program} {E : Env} {A : AHeap} {n : Env → AHeap → Prop} {K : Exit → Env → AHeap → Prop} {i j : Nat} {l : List Nat} {x y : DCode} {hx : Dep x}
theorem start (h : Cw P x .mk E (A.plus A.next []) (hide K .mk)) : wpC P x E A K := by
  rw [plus_nil] at h; exact h
theorem z_skip {h : Dep DCode.skip} : Cw P .skip h E A K = K .normal E A := wpC_skip
theorem z_exit {h : Dep (DCode.exit i)} : Cw P (.exit i) h E A K = K (.exit i) E A := wpC_exit
theorem z_ret {h : Dep DCode.ret} : Cw P .ret h E A K = K .ret E A := wpC_ret
theorem z_row {ds : List DOper} {h : Dep (DCode.row ds l)} : Cw P (.row ds l) h E A K = wpR P ds E A (hide (fun E' => hide (fun A' => K .normal (E'.keep l) A') .mk) .mk) := wpC_row
theorem z_seq {h : Dep (DCode.seq x y)} : Cw P (.seq x y) h E A K = Cw P x .mk E A (hide (thenK (hide (fun E' => hide (fun A' => Cw P y .mk E' A' K) .mk) .mk) K) .mk) := wpC_seq
theorem z_cond {c : Operand} {h : Dep (DCode.cond c x y l)} : Cw P (.cond c x y l) h E A K = obl (E.eval c) (hide (fun v => obB v (hide (fun t => cnd' (t = true) (Cw P x .mk E A (hide (keepK l K) .mk)) (Cw P y .mk E A (hide (keepK l K) .mk)) .mk .mk) .mk)) .mk) := s_cond
theorem z_block {h : Dep (DCode.block i x l)} : Cw P (.block i x l) h E A K = Cw P x .mk E A (hide (inBlockK i (hide (keepK l K) .mk)) .mk) := wpC_block
theorem z_inBlock_exit : inBlockK j K (.exit i) E A = cnd' (i = j) (K .normal E A) (K (.exit i) E A) .mk .mk := inBlockK_exit
theorem z_end_ret {rs : List DRes} {K : Value → AHeap → Prop} : endK rs K .ret E A = obl (retV rs E A) (hide (fun v => K v A) .mk) := by
  simp only [endK]; cases retV rs E A <;> rfl
theorem z_end_normal {rs : List DRes} {K : Value → AHeap → Prop} : endK rs K .normal E A = obl (retV rs E A) (hide (fun v => K v A) .mk) := by
  simp only [endK]; cases retV rs E A <;> rfl
end
section
variable {P : Program} {E : Env} {A : AHeap} {K : Env → AHeap → Prop} {dst : Option Nat} {op : DOp} {ds : List DOper} {t : Nat} {want : Bool} {ls : List (Nat × DOper)} {base h : Nat} {rs : List RStep} {d : LOp} {d' : AOp} {dh : HOp} {R : List (Nat × DOper)} {C : List DOper}
theorem z_light : wpR P (⟨dst, .light d, none⟩ :: ds) E A K = obl (dlight d E A) (hide (fun v => wpR P ds (E.put dst v) A K) .mk) := s_light
theorem z_alloc : wpR P (⟨dst, .alloc d', none⟩ :: ds) E A K = obl (dal d' E) (hide (fun q => wpR P ds (E.put dst (q.2 A.next)) (A.alloc q.1) K) .mk) := s_alloc
theorem z_heavy : wpR P (⟨dst, .heavy dh, none⟩ :: ds) E A K = dheavy P dh E A (hide (fun v => hide (fun A' => wpR P ds (E.put dst v) A' K) .mk) .mk) := s_heavy
theorem z_guard : wpR P (⟨dst, op, some (t, want)⟩ :: ds) E A K = obl (E.get t) (hide (fun v => gd' v want (wpR P (⟨dst, op, none⟩ :: ds) (E.put (some t) (.bool want)) A K) (wpR P ds ((E.put (some t) (.bool !want)).put dst (.tuple #[])) A K) (wpR P ds (E.put dst (.tuple #[])) A K) .mk .mk .mk) .mk) := s_guard
theorem z_dnil : wpD P ls base [] E A K = obl (realizeR base ls E A) (hide (fun A' => K E A') .mk) := d_nil
theorem z_dlight : wpD P ls base (.light h ⟨dst, .light d, none⟩ :: rs) E A K = obl (dlight d E A) (hide (fun v => wpD P ls base rs (E.put dst v) A K) .mk) := d_light
theorem z_dalloc : wpD P ls base (.light h ⟨dst, .alloc d', none⟩ :: rs) E A K = obl (dal d' E) (hide (fun q => wpD P ls base rs (E.put dst (q.2 (base + h))) A K) .mk) := d_alloc
theorem z_dguard : wpD P ls base (.light h ⟨dst, op, some (t, want)⟩ :: rs) E A K = obl (E.get t) (hide (fun v => gd' v want (wpD P ls base (.light h ⟨dst, op, none⟩ :: rs) (E.put (some t) (.bool want)) A K) (wpD P ls base rs ((E.put (some t) (.bool !want)).put dst (.tuple #[])) A K) (wpD P ls base rs (E.put dst (.tuple #[])) A K) .mk .mk .mk) .mk) := d_guard
theorem z_dheavy : wpD P ls base (.heavy ⟨dst, .heavy dh, none⟩ R C :: rs) E A K = obl (realizeR base R E A) (hide (fun A1 => dheavy P dh E A1 (hide (fun v => hide (fun A' => recheckR E A' C ∧ wpD P ls base rs (E.put dst v) A' K) .mk) .mk)) .mk) := d_heavy
theorem z_dheavyg : wpD P ls base (.heavy ⟨dst, .heavy dh, some (t, want)⟩ R C :: rs) E A K = obl (realizeR base R E A) (hide (fun A1 => obl (E.get t) (hide (fun v => gd' v want
    (dheavy P dh (E.put (some t) (.bool want)) A1 (hide (fun v => hide (fun A' => recheckR (E.put (some t) (.bool want)) A' C ∧ wpD P ls base rs ((E.put (some t) (.bool want)).put dst v) A' K) .mk) .mk))
    (recheckR (E.put (some t) (.bool !want)) A1 C ∧ wpD P ls base rs ((E.put (some t) (.bool !want)).put dst (.tuple #[])) A1 K)
    (recheckR E A1 C ∧ wpD P ls base rs (E.put dst (.tuple #[])) A1 K) .mk .mk .mk) .mk)) .mk) := d_heavyg
end
section
variable {P : Program} {E : Env} {A : AHeap} {K : Value → AHeap → Prop} {x y : Operand} {n s bytes : Nat} {as : List Operand} {f : FuncId}
theorem z_store : dheavy P (.store n x y) E A K = obl (E.eval x) (hide (fun p => obl (E.eval y) (hide (fun u => obP p (hide (fun b => obC (A.get b.block) (fun ro => hide (fun cs => (ro = false ∧ (cellsOf u).length = n ∧ noTup u = true ∧ b.off + n ≤ cs.length) ∧ K (.tuple #[]) (A.set b.block (.cells false (putCells cs b.off (cellsOf u))))) .mk)) .mk)) .mk)) .mk) := h_store
theorem z_call : dheavy P (.call f as) E A K = obl (evalL E as) (hide (fun vs => dcall P f vs A K) .mk) := h_call
theorem z_callv : dheavy P (.callv x as) E A K = obl (E.eval x) (hide (fun v => obl (evalL E as) (hide (fun vs => obF v (fun f cs => okFn P f = true ∧ dcall P f (vs ++ cs) A K)) .mk)) .mk) := h_callv
theorem z_append : dheavy P (.append s bytes x y) E A K = obl (E.eval x) (hide (fun vx => obl (E.eval y) (hide (fun vy => obl (sliceCells A s vy) (hide (fun q => apd A s bytes vx q.1 q.2 K) .mk)) .mk)) .mk) := h_append
theorem z_apd_nil {ly : Nat} {ys : List Value} : apd A s bytes (.slice none 0 0) ly ys K = cnd' (ly = 0) (K (.slice none 0 0) A) (ly * bytes ≤ 140737488355328 ∧ K (.slice (some ⟨A.next, 0, none⟩) ly s) (A.alloc (.cells false ys))) .mk .mk := apd_nil
theorem z_apd_some {b : Addr} {lx s' ly : Nat} {ys : List Value} : apd A s bytes (.slice (some b) lx s') ly ys K = cnd' (ly = 0) (K (.slice (some b) lx s') A) (obC (A.get b.block) (fun ro => hide (fun cs => cnd' (b.spot = some 0)
      ((s' = s ∧ b.off + lx * s ≤ cs.length ∧ (lx + ly) * bytes ≤ 140737488355328) ∧ K (.slice (some ⟨A.next, 0, none⟩) (lx + ly) s) (A.alloc (.cells false ((cs.drop b.off).take (lx * s) ++ ys))))
      ((s' = s ∧ ro = false ∧ b.off + lx * s = cs.length ∧ (lx + ly) * bytes ≤ 140737488355328) ∧ K (.slice (some ⟨A.next, 0, none⟩) (lx + ly) s) ((A.del b.block).alloc (.cells false (cs.drop b.off ++ ys)))) .mk .mk) .mk)) .mk .mk := apd_some
theorem z_copy : dheavy P (.copy s x y) E A K = obl (E.eval x) (hide (fun vx => obl (E.eval y) (hide (fun vy => obl (sliceCells A s vy) (hide (fun q => cpy A s vx q.1 q.2 K) .mk)) .mk)) .mk) := h_copy
end
section
variable {E : Env} {A : AHeap} {f : Value → Prop} {x y a b c i : Operand} {o s n : Nat} {ag : Option Nat}
theorem z_pick : obl (dlight (.pick c a b) E A) f = obl (E.eval c) (hide (fun v => obB v (hide (fun t => cnd' (t = true) (obl (E.eval a) f) (obl (E.eval b) f) .mk .mk) .mk)) .mk) := l_pick
theorem z_load : obl (dlight (.load ag x) E A) f = obl (E.eval x) (hide (fun v => obP v (hide (fun a => obC (A.get a.block) (fun _ => hide (fun cs => obl (loadV ag cs a.off) f) .mk)) .mk)) .mk) := l_load
theorem z_nilchk : obl (dlight (.nilchk x) E A) f = obl (E.eval x) (hide (fun v => obP v (hide (fun a => f (.pointer (some a))) .mk)) .mk) := l_nilchk
theorem z_bin {kd : Kd} {op : BinOp} : obl (dlight (.bin kd op x y) E A) f = obl (E.eval x) (hide (fun u => obl (E.eval y) (hide (fun v => obl (dbin kd op u v) f) .mk)) .mk) := l_bin
theorem z_min2 : obl (dlight (.minmax false x [y]) E A) f = obl (E.eval x) (hide (fun u => obl (E.eval y) (hide (fun v => obI u (fun k => hide (fun i => obI v (fun _ => hide (fun j => f (.int k (if j < i then j else i))) .mk)) .mk)) .mk)) .mk) := by
  simp only [dlight, evalL, hide]; generalize E.eval x = g1; generalize E.eval y = g2
  rcases g1 with _ | u
  · rfl
  rcases g2 with _ | v
  · cases u <;> rfl
  cases u <;> try rfl
  cases v <;> rfl
theorem z_mkfunc {g : Fn} {as : List Operand} : obl (dlight (.mkfunc g as) E A) f = obl (evalL E as) (hide (fun vs => vs.all scalarB = true ∧ f (.func g #[] vs.toArray)) .mk) := by
  simp only [dlight, hide]
  cases evalL E as with
  | none => rfl
  | some vs =>
    show obl (if vs.all scalarB = true then _ else none) f = (vs.all scalarB = true ∧ f _)
    split
    · rename_i h; simp [h, obl]
    · rename_i h; simp [h, obl]
theorem z_un {op : UnOp} : obl (dlight (.un op x) E A) f = obl (E.eval x) (hide (fun u => obl (dun op u) f) .mk) := l_un
theorem z_conv {k : IntKind} : obl (dlight (.conv k x) E A) f = obl (E.eval x) (hide (fun u => obI u (fun _ => hide (fun n => f (.int k (k.wrap n))) .mk)) .mk) := l_conv
theorem z_fieldAddr : obl (dlight (.fieldAddr o x) E A) f = obl (E.eval x) (hide (fun v => obP v (hide (fun a => f (.pointer (some ⟨a.block, a.off + o, none⟩))) .mk)) .mk) := l_fieldAddr
theorem z_field : obl (dlight (.field o ag x) E A) f = obl (E.eval x) (hide (fun v => obA v (hide (fun cs => obl (partV ag cs o) f) .mk)) .mk) := l_field
theorem z_idxArr : obl (dlight (.idxArr n s x i) E A) f = obl (E.eval x) (hide (fun v => obl (E.eval i) (hide (fun w => obP v (hide (fun a => obI w (fun _ => hide (fun i => (0 ≤ i ∧ i < n) ∧ f (.pointer (some ⟨a.block, a.off + i.toNat * s, none⟩))) .mk)) .mk)) .mk)) .mk) := l_idxArr
theorem z_idxSl : obl (dlight (.idxSl s x i) E A) f = obl (E.eval x) (hide (fun v => obl (E.eval i) (hide (fun w => obS v (fun a l => hide (fun s' => obI w (fun _ => hide (fun i => (s' = s ∧ 0 ≤ i ∧ i < l) ∧ f (.pointer (some ⟨a.block, a.off + i.toNat * s, none⟩))) .mk)) .mk)) .mk)) .mk) := l_idxSl
theorem z_indexA : obl (dlight (.indexA n s ag x i) E A) f = obl (E.eval x) (hide (fun v => obl (E.eval i) (hide (fun w => obA v (hide (fun cs => obI w (fun _ => hide (fun i => (0 ≤ i ∧ i < n) ∧ obl (partV ag cs (i.toNat * s)) f) .mk)) .mk)) .mk)) .mk) := l_indexA
theorem z_extract : obl (dlight (.extract x o) E A) f = obl (E.eval x) (hide (fun v => obT v (hide (fun vs => obl vs[o]? f) .mk)) .mk) := l_extract
theorem z_lenS : obl (dlight (.lenS x) E A) f = obl (E.eval x) (hide (fun v => obL v f) .mk) := l_lenS
theorem z_build {zs : List Value} {ps : List (Nat × Nat × Operand)} : obl (dlight (.build zs ps) E A) f = obl (evalParts E ps) (hide (fun vs => (vs.all (fun x => noTup x.2.2) = true) ∧ obl (fillL zs vs) (hide (fun cs => f (.agg cs.toArray)) .mk)) .mk) := l_build
theorem z_box {f : AObj × (Nat → Value) → Prop} : obl (dal (.box x) E) f = obl (E.eval x) (hide (fun v => noTup v = true ∧ f (.cells false (cellsOf v), fun h => .pointer (some ⟨h, 0, none⟩))) .mk) := a_box
theorem z_mkslice {zs : List Value} {ps : List (Nat × Nat × Operand)} {f : AObj × (Nat → Value) → Prop} : obl (dal (.mkslice zs s n ps) E) f = obl (evalParts E ps) (hide (fun vs => (vs.all (fun x => noTup x.2.2) = true) ∧ obl (fillL zs vs) (hide (fun cs => f (.cells false cs, fun h => .slice (some ⟨h, 0, none⟩) n s)) .mk)) .mk) := a_mkslice
theorem z_makeslice {zs : List Value} {bytes : Nat} {l c : Operand} {f : AObj × (Nat → Value) → Prop} : obl (dal (.makeslice zs s bytes l c) E) f = obl (E.eval l) (hide (fun v => obl (E.eval c) (hide (fun w => obI v (fun _ => hide (fun l => obI w (fun _ => hide (fun c => (0 ≤ l ∧ l ≤ c ∧ c * bytes ≤ 2 ^ 48) ∧ f (.cells false (rowOf zs l.toNat), fun h => .slice (some ⟨h, 0, none⟩) l.toNat s)) .mk)) .mk)) .mk)) .mk) := a_makeslice
end
section
variable {E : Env} {A : AHeap} {f : AHeap → Prop} {dst : Option Nat} {base i : Nat} {d' : AOp} {g : Nat × Bool} {r : List (Nat × DOper)}
theorem z_re : obl (realizeR base ((i, ⟨dst, .alloc d', none⟩) :: r) E A) f = obl (dal d' E) (hide (fun y => obl (realizeR base r E (A.set (base + i) y.1)) f) .mk) := by
  rw [re_cons, re_one]; cases dal d' E <;> rfl
theorem z_reg : obl (realizeR base ((i, ⟨dst, .alloc d', some g⟩) :: r) E A) f = obl (evalG (some g) E) (hide (fun b => cnd' (b = true) (obl (dal d' E) (hide (fun y => obl (realizeR base r E (A.set (base + i) y.1)) f) .mk)) (obl (realizeR base r E A) f) .mk .mk) .mk) := by
  rw [re_cons, re_oneg]
  generalize evalG (some g) E = q
  rcases q with _ | b
  · rfl
  cases b
  · simp [obl, cnd', cnd, hide]
  · cases dal d' E <;> simp [obl, cnd', cnd, hide]
end
/-! Loops. -/
section
variable {P : Program} {E : Env} {A : AHeap} {K : Exit → Env → AHeap → Prop} {x : DCode} {h : Dep (DCode.loop x)}
theorem Cw_loop (I : Nat → Env → AHeap → Prop) (h0 : ∃ n, I n E A) (hs : ∀ n E A, I n E A → Cw P x .mk E A (hide (thenK (hide (fun E' => hide (fun A' => ∃ m, m < n ∧ I m E' A') .mk) .mk) K) .mk)) : Cw P (.loop x) h E A K :=
  wpC_loop I h0 hs
theorem Cw_count (L i0 : Nat) (I : Nat → Env → AHeap → Prop) (hle : i0 ≤ L) (h0 : I i0 E A) (hs : ∀ i E A, i ≤ L → I i E A → Cw P x .mk E A (hide (thenK (hide (fun E' => hide (fun A' => i + 1 ≤ L ∧ I (i + 1) E' A') .mk) .mk) K) .mk)) : Cw P (.loop x) h E A K :=
  wpC_count L i0 I hle h0 hs
theorem Cw_once (hs : Cw P x .mk E A (hide (thenK (hide (fun _ => hide (fun _ => False) .mk) .mk) K) .mk)) : Cw P (.loop x) h E A K := wpC_once hs
/-- A part that ends normally, with something that is known of it. -/
theorem Cw_cut {hx : Dep x} (Q : Env → AHeap → Prop) (hs : Cw P x .mk E A (hide (thenK (hide (fun E' => hide (fun A' => Q E' A') .mk) .mk) (hide (fun _ => hide (fun _ => hide (fun _ => False) .mk) .mk) .mk)) .mk)) (hq : ∀ E' A', Q E' A' → K .normal E' A') : Cw P x hx E A K := by
  refine wpC_mono hs ?_
  intro e E' A' hk
  cases e with
  | normal => exact hq _ _ hk
  | _ => exact hk.elim
end
/-- A loop walked round by round, so many rounds at most. -/
noncomputable def Un (P : Program) : Nat → DCode → Env → AHeap → (Exit → Env → AHeap → Prop) → Prop
  | 0, _, _, _, _ => False
  | n + 1, x, E, A, K => Cw P x .mk E A (hide (thenK (hide (fun E' => hide (fun A' => Un P n x E' A' K) .mk) .mk) K) .mk)
theorem Un_succ {P : Program} {n : Nat} {x : DCode} {E : Env} {A : AHeap} {K : Exit → Env → AHeap → Prop} : Un P (n + 1) x E A K = Cw P x .mk E A (hide (thenK (hide (fun E' => hide (fun A' => Un P n x E' A' K) .mk) .mk) K) .mk) := by rw [Un]
theorem Cw_un {P : Program} (n : Nat) {x : DCode} {h : Dep (DCode.loop x)} {E : Env} {A : AHeap} {K : Exit → Env → AHeap → Prop} (hu : Un P n x E A K) : Cw P (.loop x) h E A K := by
  refine Cw_loop (fun m E A => Un P m x E A K) ⟨n, hu⟩ ?_
  intro m E A hm
  cases m with
  | zero => exact hm.elim
  | succ m =>
    rw [Un_succ] at hm
    refine wpC_mono hm ?_
    intro e E' A' hk
    cases e with
    | normal => exact ⟨m, Nat.lt_succ_self m, hk⟩
    | _ => exact hk
theorem enter {P : Program} {x : DCode} {E : Env} {A : AHeap} {K : Exit → Env → AHeap → Prop} (h : Cw P x .mk E A (hide K .mk)) : wpC P x E A K := h
theorem set_same {A : AHeap} {p : Nat} {o : AObj} (h : A.get p = some o) : A.set p o = A := by
  apply AHeap.ext (nx_set _ _ _)
  intro i
  by_cases e : i = p
  · subst e; rw [get_set_eq rfl (A.lt h), h]
  · rw [get_set_ne e]
theorem set_set {A : AHeap} {p : Nat} {o o' : AObj} : (A.set p o).set p o' = A.set p o' := by
  apply AHeap.ext (by rw [nx_set, nx_set, nx_set])
  intro i
  by_cases e : i = p
  · subst e
    rcases Nat.lt_or_ge i A.next with hh | hh
    · rw [get_set_eq rfl (by rw [nx_set]; exact hh), get_set_eq rfl hh]
    · rw [AHeap.wf _ i (by rw [nx_set, nx_set]; exact hh), AHeap.wf _ i (by rw [nx_set]; exact hh)]
  · rw [get_set_ne e, get_set_ne e, get_set_ne e]
end Go.Proofs.Ytckdmhjhjfmcdaa.Sx
