/-
  Stepping by one simp: the rules. Words that take the rest as a function, behind which simp does not look.
-/
import Derived.Test.YtckdmhjhjfmcdaaSw
namespace Go.Proofs.Ytckdmhjhjfmcdaa.Sx
set_option linter.unusedSimpArgs false
set_option linter.unusedVariables false
open Go
def obl {α : Type} (x : Option α) (f : α → Prop) : Prop := match x with | some v => f v | none => False
def obP (v : Value) (f : Addr → Prop) : Prop := match v with | .pointer (some a) => f a | _ => False
def obS (v : Value) (f : Addr → Nat → Nat → Prop) : Prop := match v with | .slice (some a) l s => f a l s | _ => False
def obI (v : Value) (f : IntKind → Int → Prop) : Prop := match v with | .int k n => f k n | _ => False
def obB (v : Value) (f : Bool → Prop) : Prop := match v with | .bool b => f b | _ => False
def obA (v : Value) (f : List Value → Prop) : Prop := match v with | .agg cs => f cs.toList | _ => False
def obT (v : Value) (f : Array Value → Prop) : Prop := match v with | .tuple cs => f cs | _ => False
def obF (v : Value) (f : FuncId → List Value → Prop) : Prop := match v with | .func (.func k) _ cs => f k cs.toList | _ => False
def obC (o : Option AObj) (f : Bool → List Value → Prop) : Prop := match o with | some (.cells ro cs) => f ro cs | _ => False
def obM (o : Option AObj) (f : List (Value × Value) → Prop) : Prop := match o with | some (.map es) => f es | _ => False
def cnd (c p q : Prop) : Prop := (c → p) ∧ (¬ c → q)
def gd (v : Value) (want : Bool) (p q z : Prop) : Prop := match v with | .bool b => cnd (b = want) p q | .tuple vs => vs.size = 0 ∧ z | _ => False
theorem cnd_mk {c p q : Prop} (h1 : c → p) (h2 : ¬ c → q) : cnd c p q := ⟨h1, h2⟩
section
variable {α : Type} {x x' : Option α} {f : α → Prop} {v v' : Value} {p q z c c' : Prop}
theorem obl_some {a : α} : obl (some a) f = f a := by rw [obl]
theorem obl_ite {c : Prop} [Decidable c] {x : Option α} : obl (if c then x else none) f = (c ∧ obl x f) := by by_cases h : c <;> simp [h, obl]
theorem obl_none : obl (none : Option α) f = False := by rw [obl]
theorem obP_some {a : Addr} {f : Addr → Prop} : obP (.pointer (some a)) f = f a := by rw [obP]
theorem obP_none {f : Addr → Prop} : obP (.pointer none) f = False := by rw [obP]; intro a h; cases h
theorem obS_some {a : Addr} {l s : Nat} {f : Addr → Nat → Nat → Prop} : obS (.slice (some a) l s) f = f a l s := by rw [obS]
theorem obI_int {k : IntKind} {n : Int} {f : IntKind → Int → Prop} : obI (.int k n) f = f k n := by rw [obI]
theorem obB_bool {b : Bool} {f : Bool → Prop} : obB (.bool b) f = f b := by rw [obB]
theorem obA_agg {cs : Array Value} {f : List Value → Prop} : obA (.agg cs) f = f cs.toList := by rw [obA]
theorem obT_tup {cs : Array Value} {f : Array Value → Prop} : obT (.tuple cs) f = f cs := by rw [obT]
theorem obF_func {k : FuncId} {a cs : Array Value} {f : FuncId → List Value → Prop} : obF (.func (.func k) a cs) f = f k cs.toList := by rw [obF]
theorem obC_cells {ro : Bool} {cs : List Value} {f : Bool → List Value → Prop} : obC (some (.cells ro cs)) f = f ro cs := by rw [obC]
theorem obM_map {es : List (Value × Value)} {f : List (Value × Value) → Prop} : obM (some (.map es)) f = f es := by rw [obM]
theorem cnd_true : cnd True p q = p := by simp [cnd]
theorem cnd_false : cnd False p q = q := by simp [cnd]
theorem cnd_same : cnd c True True = True := by simp [cnd]
theorem gd_bool {b want : Bool} : gd (.bool b) want p q z = cnd (b = want) p q := by rw [gd]
theorem gd_tup {vs : Array Value} {want : Bool} : gd (.tuple vs) want p q z = (vs.size = 0 ∧ z) := by rw [gd]
end
section
variable {P : Program} {E : Env} {A : AHeap} {n : Env → AHeap → Prop} {K : Exit → Env → AHeap → Prop} {i j : Nat} {l : List Nat}
theorem thenK_normal : thenK n K .normal E A = n E A := by rw [thenK]
theorem thenK_ret : thenK n K .ret E A = K .ret E A := by rw [thenK]; intro h; cases h
theorem thenK_exit : thenK n K (.exit i) E A = K (.exit i) E A := by rw [thenK]; intro h; cases h
theorem keepK_normal : keepK l K .normal E A = K .normal (E.keep l) A := by rw [keepK]
theorem keepK_ret : keepK l K .ret E A = K .ret E A := by rw [keepK]; intro h; cases h
theorem keepK_exit : keepK l K (.exit i) E A = K (.exit i) E A := by rw [keepK]; intro h; cases h
theorem inBlockK_normal : inBlockK j K .normal E A = K .normal E A := by rw [inBlockK]; intro id h; cases h
theorem inBlockK_ret : inBlockK j K .ret E A = K .ret E A := by rw [inBlockK]; intro id h; cases h
theorem inBlockK_exit : inBlockK j K (.exit i) E A = cnd (i = j) (K .normal E A) (K (.exit i) E A) := by
  rw [inBlockK]
  by_cases h : i = j
  · simp [h, cnd]
  · simp [h, cnd]
end
section
variable {P : Program} {E : Env} {A : AHeap} {K : Exit → Env → AHeap → Prop} {x y : DCode}
theorem s_cond {c : Operand} {live : List Nat} : wpC P (.cond c x y live) E A K = obl (E.eval c) fun v => obB v fun t => cnd (t = true) (wpC P x E A (keepK live K)) (wpC P y E A (keepK live K)) := by
  rw [wpC_cond]
  generalize E.eval c = g
  rcases g with _ | v
  · rfl
  · cases v <;> simp only [obl, obB]
    rename_i t
    cases t <;> simp [cnd]
end
section
variable {P : Program} {E : Env} {A : AHeap} {K : Env → AHeap → Prop} {dst : Option Nat} {op : DOp} {ds : List DOper} {t : Nat} {want : Bool} {ls : List (Nat × DOper)} {base h : Nat} {rs : List RStep} {d : LOp} {d' : AOp} {dh : HOp} {R : List (Nat × DOper)} {C : List DOper}
theorem s_light : wpR P (⟨dst, .light d, none⟩ :: ds) E A K = obl (dlight d E A) fun v => wpR P ds (E.put dst v) A K := by rw [wpR_none]; simp only [dop]; cases dlight d E A <;> rfl
theorem s_alloc : wpR P (⟨dst, .alloc d', none⟩ :: ds) E A K = obl (dal d' E) fun q => wpR P ds (E.put dst (q.2 A.next)) (A.alloc q.1) K := by
  rw [wpR_none]; simp only [dop]; generalize dal d' E = g; rcases g with _ | ⟨a, b⟩ <;> rfl
theorem s_heavy : wpR P (⟨dst, .heavy dh, none⟩ :: ds) E A K = dheavy P dh E A fun v A' => wpR P ds (E.put dst v) A' K := by rw [wpR_none]; rfl
theorem s_guard : wpR P (⟨dst, op, some (t, want)⟩ :: ds) E A K = obl (E.get t) fun v => gd v want (wpR P (⟨dst, op, none⟩ :: ds) (E.put (some t) (.bool want)) A K) (wpR P ds ((E.put (some t) (.bool !want)).put dst (.tuple #[])) A K) (wpR P ds (E.put dst (.tuple #[])) A K) := by
  rw [wpR_some, wpR_none]
  generalize E.get t = g
  rcases g with _ | v
  · rfl
  · cases v <;> simp only [obl, gd]
    rename_i b
    simp only [cnd]
    split <;> simp_all
theorem d_nil : wpD P ls base [] E A K = obl (realizeR base ls E A) fun A' => K E A' := by rw [wpD_nil]; cases realizeR base ls E A <;> rfl
theorem d_light : wpD P ls base (.light h ⟨dst, .light d, none⟩ :: rs) E A K = obl (dlight d E A) fun v => wpD P ls base rs (E.put dst v) A K := by rw [wpD_light]; simp only [lightV]; cases dlight d E A <;> rfl
theorem d_alloc : wpD P ls base (.light h ⟨dst, .alloc d', none⟩ :: rs) E A K = obl (dal d' E) fun q => wpD P ls base rs (E.put dst (q.2 (base + h))) A K := by
  rw [wpD_light]; simp only [lightV]; generalize dal d' E = g; rcases g with _ | ⟨a, b⟩ <;> rfl
theorem d_guard : wpD P ls base (.light h ⟨dst, op, some (t, want)⟩ :: rs) E A K = obl (E.get t) fun v => gd v want (wpD P ls base (.light h ⟨dst, op, none⟩ :: rs) (E.put (some t) (.bool want)) A K) (wpD P ls base rs ((E.put (some t) (.bool !want)).put dst (.tuple #[])) A K) (wpD P ls base rs (E.put dst (.tuple #[])) A K) := by
  rw [wpD_lightg, wpD_light]
  generalize E.get t = g
  rcases g with _ | v
  · rfl
  · cases v <;> simp only [obl, gd]
    rename_i b
    simp only [cnd]
    split <;> simp_all
theorem d_heavy : wpD P ls base (.heavy ⟨dst, .heavy dh, none⟩ R C :: rs) E A K = obl (realizeR base R E A) fun A1 => dheavy P dh E A1 fun v A' => recheckR E A' C ∧ wpD P ls base rs (E.put dst v) A' K := by rw [wpD_heavy]; cases realizeR base R E A <;> rfl
/-- A guarded operation that stood behind others: those are made first, whatever the guard says. -/
theorem d_heavyg : wpD P ls base (.heavy ⟨dst, .heavy dh, some (t, want)⟩ R C :: rs) E A K = obl (realizeR base R E A) fun A1 => obl (E.get t) fun v => gd v want
    (dheavy P dh (E.put (some t) (.bool want)) A1 fun v A' => recheckR (E.put (some t) (.bool want)) A' C ∧ wpD P ls base rs ((E.put (some t) (.bool want)).put dst v) A' K)
    (recheckR (E.put (some t) (.bool !want)) A1 C ∧ wpD P ls base rs ((E.put (some t) (.bool !want)).put dst (.tuple #[])) A1 K)
    (recheckR E A1 C ∧ wpD P ls base rs (E.put dst (.tuple #[])) A1 K) := by
  rw [wpD_heavyg]
  generalize realizeR base R E A = x
  cases x with
  | none => rfl
  | some A1 =>
    simp only [obl]
    generalize E.get t = g
    rcases g with _ | v
    · rfl
    · cases v <;> simp only [gd]
      rename_i b
      simp only [cnd]
      split <;> simp_all
theorem re_nil : realizeR base [] E A = some A := by rw [realizeR]
theorem re_cons {x : Nat × DOper} {r : List (Nat × DOper)} : realizeR base (x :: r) E A = (realOne base x E A).bind fun A' => realizeR base r E A' := by
  rw [realizeR]; cases realOne base x E A <;> rfl
theorem re_one {i : Nat} : realOne base (i, ⟨dst, .alloc d', none⟩) E A = (dal d' E).map fun y => A.set (base + i) y.1 := by
  simp only [realOne, evalG]; cases dal d' E <;> rfl
theorem re_oneg {i : Nat} : realOne base (i, ⟨dst, .alloc d', some (t, want)⟩) E A = (evalG (some (t, want)) E).bind fun b => cond b ((dal d' E).map fun y => A.set (base + i) y.1) (some A) := by
  simp only [realOne]
  generalize evalG (some (t, want)) E = g
  rcases g with _ | b
  · rfl
  · cases b
    · rfl
    · simp only [Option.bind_some, cond_true]; cases dal d' E <;> rfl
end
section
variable {P : Program} {E : Env} {A : AHeap} {K : Value → AHeap → Prop} {x y : Operand} {n s bytes : Nat} {as : List Operand} {f : FuncId}
theorem h_store : dheavy P (.store n x y) E A K = obl (E.eval x) fun p => obl (E.eval y) fun u => obP p fun b => obC (A.get b.block) fun ro cs => (ro = false ∧ (cellsOf u).length = n ∧ noTup u = true ∧ b.off + n ≤ cs.length) ∧ K (.tuple #[]) (A.set b.block (.cells false (putCells cs b.off (cellsOf u)))) := by
  simp only [dheavy]
  generalize E.eval x = g1
  generalize E.eval y = g2
  rcases g1 with _ | v
  · cases g2 <;> rfl
  rcases g2 with _ | u
  · cases v <;> first | rfl | (rename_i a; cases a <;> rfl)
  cases v <;> try rfl
  rename_i a
  cases a with
  | none => rfl
  | some b =>
    simp only [obl, obP]
    generalize A.get b.block = o
    rcases o with _ | o
    · rfl
    cases o with
    | cells ro cs => cases ro <;> simp [obC, and_assoc]
    | map es => rfl
theorem h_call : dheavy P (.call f as) E A K = obl (evalL E as) fun vs => dcall P f vs A K := by
  simp only [dheavy]; generalize evalL E as = g; cases g <;> rfl
theorem h_callv : dheavy P (.callv x as) E A K = obl (E.eval x) fun v => obl (evalL E as) fun vs => obF v fun f cs => okFn P f = true ∧ dcall P f (vs ++ cs) A K := by
  simp only [dheavy]
  generalize E.eval x = g1
  generalize evalL E as = g2
  rcases g1 with _ | v
  · cases g2 <;> rfl
  rcases g2 with _ | u
  · cases v <;> first | rfl | (rename_i fn _ _; cases fn <;> rfl)
  cases v <;> try rfl
  rename_i fn _ _
  cases fn <;> rfl
/-- What an append comes to. -/
def apd (A : AHeap) (s bytes : Nat) (vx : Value) (ly : Nat) (ys : List Value) (K : Value → AHeap → Prop) : Prop :=
  match vx with
  | .slice none 0 0 => cnd (ly = 0) (K (.slice none 0 0) A) (ly * bytes ≤ 140737488355328 ∧ K (.slice (some ⟨A.next, 0, none⟩) ly s) (A.alloc (.cells false ys)))
  | .slice (some b) lx s' => cnd (ly = 0) (K vx A) (obC (A.get b.block) fun ro cs => cnd (b.spot = some 0)
      ((s' = s ∧ b.off + lx * s ≤ cs.length ∧ (lx + ly) * bytes ≤ 140737488355328) ∧ K (.slice (some ⟨A.next, 0, none⟩) (lx + ly) s) (A.alloc (.cells false ((cs.drop b.off).take (lx * s) ++ ys))))
      ((s' = s ∧ ro = false ∧ b.off + lx * s = cs.length ∧ (lx + ly) * bytes ≤ 140737488355328) ∧ K (.slice (some ⟨A.next, 0, none⟩) (lx + ly) s) ((A.del b.block).alloc (.cells false (cs.drop b.off ++ ys)))))
  | _ => False
theorem apd_nil {ly : Nat} {ys : List Value} : apd A s bytes (.slice none 0 0) ly ys K = cnd (ly = 0) (K (.slice none 0 0) A) (ly * bytes ≤ 140737488355328 ∧ K (.slice (some ⟨A.next, 0, none⟩) ly s) (A.alloc (.cells false ys))) := by rw [apd]
theorem apd_some {b : Addr} {lx s' ly : Nat} {ys : List Value} : apd A s bytes (.slice (some b) lx s') ly ys K = cnd (ly = 0) (K (.slice (some b) lx s') A) (obC (A.get b.block) fun ro cs => cnd (b.spot = some 0)
      ((s' = s ∧ b.off + lx * s ≤ cs.length ∧ (lx + ly) * bytes ≤ 140737488355328) ∧ K (.slice (some ⟨A.next, 0, none⟩) (lx + ly) s) (A.alloc (.cells false ((cs.drop b.off).take (lx * s) ++ ys))))
      ((s' = s ∧ ro = false ∧ b.off + lx * s = cs.length ∧ (lx + ly) * bytes ≤ 140737488355328) ∧ K (.slice (some ⟨A.next, 0, none⟩) (lx + ly) s) ((A.del b.block).alloc (.cells false (cs.drop b.off ++ ys))))) := by rw [apd]
theorem h_append : dheavy P (.append s bytes x y) E A K = obl (E.eval x) fun vx => obl (E.eval y) fun vy => obl (sliceCells A s vy) fun q => apd A s bytes vx q.1 q.2 K := by
  simp only [dheavy]
  generalize E.eval x = g1
  generalize E.eval y = g2
  rcases g1 with _ | vx
  · cases g2 <;> rfl
  rcases g2 with _ | vy
  · rfl
  simp only [obl]
  generalize sliceCells A s vy = q
  rcases q with _ | ⟨ly, ys⟩
  · rfl
  cases vx <;> try rfl
  rename_i a l c
  cases a with
  | none =>
    cases l with
    | zero => cases c with
      | zero => simp only [apd, cnd]; split <;> simp_all
      | succ c => rfl
    | succ l => rfl
  | some b =>
    simp only [apd, cnd]
    split
    · simp_all
    · generalize A.get b.block = o
      rcases o with _ | o
      · simp_all [obC]
      cases o with
      | cells ro cs =>
        simp only [obC]
        split <;> simp_all [and_assoc]
      | map es => simp_all [obC]
/-- What a copy comes to. -/
def cpy (A : AHeap) (s : Nat) (vx : Value) (ly : Nat) (ys : List Value) (K : Value → AHeap → Prop) : Prop :=
  match vx with
  | .slice none 0 0 => K (.int .i64 0) A
  | .slice (some b) lx s' => obC (A.get b.block) fun ro cs => (ro = false ∧ s' = s ∧ b.off + (min ly lx) * s ≤ cs.length) ∧ K (.int .i64 ((min ly lx : Nat) : Int)) (A.set b.block (.cells false (putCells cs b.off (ys.take ((min ly lx) * s)))))
  | _ => False
theorem cpy_nil {ly : Nat} {ys : List Value} : cpy A s (.slice none 0 0) ly ys K = K (.int .i64 0) A := by rw [cpy]
theorem cpy_some {b : Addr} {lx s' ly : Nat} {ys : List Value} : cpy A s (.slice (some b) lx s') ly ys K = obC (A.get b.block) fun ro cs => (ro = false ∧ s' = s ∧ b.off + (min ly lx) * s ≤ cs.length) ∧ K (.int .i64 ((min ly lx : Nat) : Int)) (A.set b.block (.cells false (putCells cs b.off (ys.take ((min ly lx) * s))))) := by rw [cpy]
theorem h_copy : dheavy P (.copy s x y) E A K = obl (E.eval x) fun vx => obl (E.eval y) fun vy => obl (sliceCells A s vy) fun q => cpy A s vx q.1 q.2 K := by
  simp only [dheavy]
  generalize E.eval x = g1
  generalize E.eval y = g2
  rcases g1 with _ | vx
  · cases g2 <;> rfl
  rcases g2 with _ | vy
  · rfl
  simp only [obl]
  generalize sliceCells A s vy = q
  rcases q with _ | ⟨ly, ys⟩
  · rfl
  cases vx <;> try rfl
  rename_i a l c
  cases a with
  | none =>
    cases l with
    | zero => cases c <;> rfl
    | succ l => rfl
  | some b =>
    simp only [cpy]
    generalize A.get b.block = o
    rcases o with _ | o
    · rfl
    cases o with
    | cells ro cs => cases ro <;> simp [obC, and_assoc]
    | map es => rfl
end
/-- What an operation that reads gives, once more. -/
def rck (d : LOp) (E : Env) (A : AHeap) : Option Value := dlight d E A
section
variable {E : Env} {A : AHeap} {dst : Nat} {d : LOp} {r : List DOper} {g : Nat} {w : Bool} {ag : Option Nat} {x : Operand}
theorem rc_nil : recheckR E A [] = True := by rw [recheckR]
theorem rc_cons : recheckR E A (⟨some dst, .light d, none⟩ :: r) = (rck d E A = E.get dst ∧ recheckR E A r) := by rw [recheckR]; rfl
theorem rc_consg : recheckR E A (⟨some dst, .light d, some (g, w)⟩ :: r) = (obl (evalG (some (g, w)) E) (fun b => cnd (b = true) (rck d E A = E.get dst) True) ∧ recheckR E A r) := by
  rw [recheckR]
  simp only
  generalize evalG (some (g, w)) E = q
  rcases q with _ | b
  · rfl
  · cases b <;> simp [obl, cnd, rck]
def ldO (ag : Option Nat) (o : Nat) : Option AObj → Option Value
  | some (.cells _ cs) => loadV ag cs o
  | _ => none
theorem ldO_cells {o : Nat} {ro : Bool} {cs : List Value} : ldO ag o (some (.cells ro cs)) = loadV ag cs o := by rw [ldO]
def ldV (ag : Option Nat) (v : Option Value) (A : AHeap) : Option Value :=
  match v with
  | some (.pointer (some a)) => ldO ag a.off (A.get a.block)
  | _ => none
theorem ldV_some {a : Addr} : ldV ag (some (.pointer (some a))) A = ldO ag a.off (A.get a.block) := by rw [ldV]
theorem rck_load : rck (.load ag x) E A = ldV ag (E.eval x) A := by
  simp only [rck, dlight]
  generalize E.eval x = g
  rcases g with _ | v
  · rfl
  cases v <;> try rfl
end
/-! Operations that read. -/
section
variable {E : Env} {A : AHeap} {f : Value → Prop} {x y a b c i : Operand} {o s n : Nat} {ag : Option Nat}
theorem obl_match {α β : Type} {x : Option α} {g : α → Option β} {f : β → Prop} : obl (match x with | some v => g v | none => none) f = obl x fun v => obl (g v) f := by cases x <;> rfl
theorem l_mov : obl (dlight (.mov x) E A) f = obl (E.eval x) f := rfl
theorem l_pick : obl (dlight (.pick c a b) E A) f = obl (E.eval c) fun v => obB v fun t => cnd (t = true) (obl (E.eval a) f) (obl (E.eval b) f) := by
  simp only [dlight]; generalize E.eval c = g; rcases g with _ | v
  · rfl
  cases v <;> try rfl
  rename_i t; cases t <;> simp [obl, obB, cnd]
theorem l_load : obl (dlight (.load ag x) E A) f = obl (E.eval x) fun v => obP v fun a => obC (A.get a.block) fun _ cs => obl (loadV ag cs a.off) f := by
  simp only [dlight]; generalize E.eval x = g; rcases g with _ | v
  · rfl
  cases v <;> try rfl
  rename_i a; cases a with
  | none => rfl
  | some a =>
    simp only [obl, obP]; generalize A.get a.block = o; rcases o with _ | o
    · rfl
    cases o <;> rfl
theorem l_nilchk : obl (dlight (.nilchk x) E A) f = obl (E.eval x) fun v => obP v fun a => f (.pointer (some a)) := by
  simp only [dlight]; generalize E.eval x = g; rcases g with _ | v
  · rfl
  cases v <;> try rfl
  rename_i a; cases a <;> rfl
theorem l_bin {kd : Kd} {op : BinOp} : obl (dlight (.bin kd op x y) E A) f = obl (E.eval x) fun u => obl (E.eval y) fun v => obl (dbin kd op u v) f := by
  simp only [dlight]; generalize E.eval x = g1; generalize E.eval y = g2
  rcases g1 with _ | u
  · rfl
  rcases g2 with _ | v <;> rfl
theorem l_un {op : UnOp} : obl (dlight (.un op x) E A) f = obl (E.eval x) fun u => obl (dun op u) f := by
  simp only [dlight]; generalize E.eval x = g1; rcases g1 with _ | u <;> rfl
theorem l_conv {k : IntKind} : obl (dlight (.conv k x) E A) f = obl (E.eval x) fun u => obI u fun _ n => f (.int k (k.wrap n)) := by
  simp only [dlight]; generalize E.eval x = g1; rcases g1 with _ | u
  · rfl
  cases u <;> rfl
theorem l_fieldAddr : obl (dlight (.fieldAddr o x) E A) f = obl (E.eval x) fun v => obP v fun a => f (.pointer (some ⟨a.block, a.off + o, none⟩)) := by
  simp only [dlight]; generalize E.eval x = g; rcases g with _ | v
  · rfl
  cases v <;> try rfl
  rename_i a; cases a <;> rfl
theorem l_field : obl (dlight (.field o ag x) E A) f = obl (E.eval x) fun v => obA v fun cs => obl (partV ag cs o) f := by
  simp only [dlight]; generalize E.eval x = g; rcases g with _ | v
  · rfl
  cases v <;> rfl
theorem l_idxArr : obl (dlight (.idxArr n s x i) E A) f = obl (E.eval x) fun v => obl (E.eval i) fun w => obP v fun a => obI w fun _ i => (0 ≤ i ∧ i < n) ∧ f (.pointer (some ⟨a.block, a.off + i.toNat * s, none⟩)) := by
  simp only [dlight]; generalize E.eval x = g1; generalize E.eval i = g2
  rcases g1 with _ | u
  · rfl
  rcases g2 with _ | v
  · cases u <;> first | rfl | (rename_i a; cases a <;> rfl)
  cases u <;> try rfl
  rename_i a; cases a <;> try rfl
  cases v <;> try rfl
  simp only [obl_ite, obl_some, obP_some, obI_int]
theorem l_idxSl : obl (dlight (.idxSl s x i) E A) f = obl (E.eval x) fun v => obl (E.eval i) fun w => obS v fun a l s' => obI w fun _ i => (s' = s ∧ 0 ≤ i ∧ i < l) ∧ f (.pointer (some ⟨a.block, a.off + i.toNat * s, none⟩)) := by
  simp only [dlight]; generalize E.eval x = g1; generalize E.eval i = g2
  rcases g1 with _ | u
  · rfl
  rcases g2 with _ | v
  · cases u <;> first | rfl | (rename_i a _ _; cases a <;> rfl)
  cases u <;> try rfl
  rename_i a _ _; cases a <;> try rfl
  cases v <;> try rfl
  simp only [obl_ite, obl_some, obS_some, obI_int]
theorem l_indexA : obl (dlight (.indexA n s ag x i) E A) f = obl (E.eval x) fun v => obl (E.eval i) fun w => obA v fun cs => obI w fun _ i => (0 ≤ i ∧ i < n) ∧ obl (partV ag cs (i.toNat * s)) f := by
  simp only [dlight]; generalize E.eval x = g1; generalize E.eval i = g2
  rcases g1 with _ | u
  · rfl
  rcases g2 with _ | v
  · cases u <;> rfl
  cases u <;> try rfl
  cases v <;> try rfl
  simp only [obl_ite, obl_some, obA_agg, obI_int]
theorem l_extract : obl (dlight (.extract x o) E A) f = obl (E.eval x) fun v => obT v fun vs => obl vs[o]? f := by
  simp only [dlight]; generalize E.eval x = g; rcases g with _ | v
  · rfl
  cases v <;> rfl
def obL (v : Value) (f : Value → Prop) : Prop := match v with | .slice _ l _ => f (.int .i64 l) | _ => False
theorem obL_slice {a : Option Addr} {l s : Nat} : obL (.slice a l s) f = f (.int .i64 l) := by rw [obL]
theorem l_lenS : obl (dlight (.lenS x) E A) f = obl (E.eval x) fun v => obL v f := by
  simp only [dlight]; generalize E.eval x = g; rcases g with _ | v
  · rfl
  cases v <;> rfl
theorem l_build {zs : List Value} {ps : List (Nat × Nat × Operand)} : obl (dlight (.build zs ps) E A) f = obl (evalParts E ps) fun vs => (vs.all (fun x => noTup x.2.2) = true) ∧ obl (fillL zs vs) fun cs => f (.agg cs.toArray) := by
  simp only [dlight]; generalize evalParts E ps = g; rcases g with _ | vs
  · rfl
  simp only [obl_some]
  rw [obl_ite]
  generalize fillL zs vs = g; rcases g with _ | vs <;> rfl
theorem a_alloc {zs : List Value} {f : AObj × (Nat → Value) → Prop} : obl (dal (.alloc zs) E) f = f (.cells false zs, fun h => .pointer (some ⟨h, 0, none⟩)) := rfl
theorem a_box {f : AObj × (Nat → Value) → Prop} : obl (dal (.box x) E) f = obl (E.eval x) fun v => noTup v = true ∧ f (.cells false (cellsOf v), fun h => .pointer (some ⟨h, 0, none⟩)) := by
  simp only [dal]; generalize E.eval x = g; rcases g with _ | v
  · rfl
  simp only [obl_some]; rw [obl_ite, obl_some]
theorem a_mkslice {zs : List Value} {ps : List (Nat × Nat × Operand)} {f : AObj × (Nat → Value) → Prop} : obl (dal (.mkslice zs s n ps) E) f = obl (evalParts E ps) fun vs => (vs.all (fun x => noTup x.2.2) = true) ∧ obl (fillL zs vs) fun cs => f (.cells false cs, fun h => .slice (some ⟨h, 0, none⟩) n s) := by
  simp only [dal]; generalize evalParts E ps = g; rcases g with _ | vs
  · rfl
  simp only [obl_some]
  rw [obl_ite]
  generalize fillL zs vs = g; rcases g with _ | vs <;> rfl
theorem a_mkmap {f : AObj × (Nat → Value) → Prop} : obl (dal .mkmap E) f = f (.map [], fun h => .map (some h)) := rfl
theorem a_makeslice {zs : List Value} {bytes : Nat} {l c : Operand} {f : AObj × (Nat → Value) → Prop} : obl (dal (.makeslice zs s bytes l c) E) f = obl (E.eval l) fun v => obl (E.eval c) fun w => obI v fun _ l => obI w fun _ c => (0 ≤ l ∧ l ≤ c ∧ c * bytes ≤ 2 ^ 48) ∧ f (.cells false (rowOf zs l.toNat), fun h => .slice (some ⟨h, 0, none⟩) l.toNat s) := by
  simp only [dal]; generalize E.eval l = g1; generalize E.eval c = g2
  rcases g1 with _ | u
  · rfl
  rcases g2 with _ | v
  · cases u <;> rfl
  cases u <;> try rfl
  cases v <;> try rfl
  simp only [obl_ite, obl_some, obI_int]
end
section
variable {E : Env} {b : Bool} {k : IntKind} {n : Int} {t i : Nat} {v : Value}
theorem ev_tmp : E.eval (.tmp t) = E.get t := rfl
theorem ev_int : E.eval (.const (.int k n)) = some (.int k n) := rfl
theorem ev_bool : E.eval (.const (.bool b)) = some (.bool b) := rfl
theorem ev_nilp : E.eval (.const (.pointer none)) = some (.pointer none) := rfl
theorem ev_nils : E.eval (.const (.slice none 0 0)) = some (.slice none 0 0) := rfl
theorem ev_nilm : E.eval (.const (.map none)) = some (.map none) := rfl
theorem ev_nilf : E.eval (.const .nilFunc) = some .nilFunc := rfl
theorem ev_str {s : ByteArray} : E.eval (.const (.string s)) = some (.string s) := rfl
theorem ev_func {f : FuncId} : E.eval (.func f) = some (.func (.func f) #[] #[]) := rfl
/-- A slot taken up into what is kept. -/
def kc (t : Nat) (o : Option Value) (r : Env) : Env := match o with | some v => (t, v) :: r | none => r
theorem kc_some {r : Env} : kc t (some v) r = (t, v) :: r := by rw [kc]
theorem kc_none {r : Env} : kc t none r = r := by rw [kc]
theorem keep_kc {x : Nat × Value} {ts : List Nat} : Env.keep (x :: E) (t :: ts) = kc t (Env.get (x :: E) t) (Env.keep (x :: E) ts) := by
  rw [keep_cons]; cases Env.get (x :: E) t <;> rfl
end
end Go.Proofs.Ytckdmhjhjfmcdaa.Sx
