/- The weakest precondition as a machine with its rest as data: rules that rewrite at the head alone. -/
import Derived.Test.YtcbileongahhiaaGreatEvFn
namespace Go.Proofs.YtcbileongahhiaaGreat.Ev
open Go
set_option linter.unusedVariables false
set_option linter.unusedSimpArgs false

/-- what comes behind a code -/
inductive Kont where
  | done (Q : XT → Env → Mem → Prop)
  | seq (b : Code) (K : Kont)
  | block (id : Nat) (K : Kont)

section
variable (P : Program) (G : Nat) (call : FuncId → List AV → Mem → Option (AV × Mem))

def resume : Kont → XT → Env → Mem → Prop
  | .done Q, x, e, m => Q x e m
  | .seq b K, x, e, m => match x with
    | .normal => wpS P G call b e m (resume K)
    | .exit i => resume K (.exit i) e m
    | .ret => resume K .ret e m
  | .block id K, x, e, m => match x with
    | .exit i => if i = id then resume K .normal e m else resume K (.exit i) e m
    | .normal => resume K .normal e m
    | .ret => resume K .ret e m

def run (c : Code) (K : Kont) (e : Env) (m : Mem) : Prop := wpS P G call c e m (resume P G call K)
def runOps (ops : Array Oper) (rest : List Oper) (K : Kont) (e : Env) (m : Mem) : Prop := Ev.wpOps P G call ops rest e m fun e m => resume P G call K .normal e m
/-- b: the first name of the region's -/
def runOpsT (b : Nat) (ops : Array Oper) (rest : List Oper) (i : Nat) (rs : List (Nat × Fx)) (es : List (Nat × Mem × Mem)) (K : Kont) (e : Env) (m : Mem) : Prop :=
  Ev.wpOpsT P G call b ops rest i rs es e m fun rs es e m' => (chkRs b ops.size (ancs ops.toList []) es rs ∧ chkEs (ancs ops.toList []) es es) ∧ resume P G call K .normal e m'

def runCond (v : Option AV) (a b : Code) (K : Kont) (e : Env) (m : Mem) : Prop :=
  match v with
  | some (.bool t) => if t = true then run P G call a K e m else run P G call b K e m
  | _ => False

def after (r : Option (AV × Mem × Fx)) (ops : Array Oper) (d : Option Tmp) (rest : List Oper) (K : Kont) (e : Env) : Prop :=
  match r with
  | some (v, m', _) => runOps P G call ops rest K (setE e d v) m'
  | none => False

/-- a call in a region: by the table of calls, or by a contract -/
def afterCall (r : Option (AV × Mem)) (f : FuncId) (args : List AV) (ops : Array Oper) (d : Option Tmp) (rest : List Oper) (K : Kont) (e : Env) (m : Mem) : Prop :=
  match r with
  | some (v, m') => runOps P G call ops rest K (setE e d v) m'
  | none => ∃ R, ContrR P G f args m R ∧ ∀ v m', R v m' → Fresh m' → runOps P G call ops rest K (setE e d v) m'

def step1 (r : Option (FuncId × List AV)) (o : Oper) (ops : Array Oper) (rest : List Oper) (K : Kont) (e : Env) (m : Mem) : Prop :=
  match r with
  | some (f, args) => afterCall P G call (call f args m) f args ops o.dst rest K e m
  | none => after P G call (evOp P (opdE G e) o m) ops o.dst rest K e

def guarded (v : Option AV) (want : Bool) (o : Oper) (ops : Array Oper) (rest : List Oper) (K : Kont) (e : Env) (m : Mem) : Prop :=
  match v with
  | some (.bool b) => if b = want then step1 P G call (callTo (opdE G e) o) o ops rest K e m else runOps P G call ops rest K (setE e o.dst (.tup [])) m
  | some (.tup _) => runOps P G call ops rest K (setE e o.dst (.tup [])) m
  | _ => False

def afterT (r : Option (AV × Mem × Fx)) (b : Nat) (ops : Array Oper) (d : Option Tmp) (rest : List Oper) (i : Nat) (rs : List (Nat × Fx)) (es : List (Nat × Mem × Mem)) (K : Kont) (e : Env) (m : Mem) : Prop :=
  match r with
  | some (v, m', fx) => runOpsT P G call b ops rest (i + 1) (pushR fx i rs) (pushE fx i m m' es) K (setE e d v) m'
  | none => False

def guardedT (v : Option AV) (want : Bool) (o : Oper) (b : Nat) (ops : Array Oper) (rest : List Oper) (i : Nat) (rs : List (Nat × Fx)) (es : List (Nat × Mem × Mem)) (K : Kont) (e : Env) (m : Mem) : Prop :=
  match v with
  | some (.bool t) => if t = want then afterT P G call (operAtE P G call (b + i) o e m) b ops o.dst rest i rs es K e m else runOpsT P G call b ops rest (i + 1) rs es K (setE e o.dst (.tup [])) m
  | some (.tup _) => runOpsT P G call b ops rest (i + 1) rs es K (setE e o.dst (.tup [])) m
  | _ => False

/-- the slot of an operation of a region -/
def slotOf (ops : Array Oper) (j : Nat) : Option Tmp := (ops[j]?).bind (·.dst)
def atSlot (e : Env) (d : Option Tmp) : Option AV := d.bind e

/-- a loop with its invariant -/
def runLoop (a : Code) (K : Kont) (e : Env) (m : Mem) : Prop := run P G call (.loop a) K e m
end

section
variable {P : Program} {G : Nat} {call : FuncId → List AV → Mem → Option (AV × Mem)} {e : Env} {m : Mem} {K : Kont}

theorem run_skip : run P G call .skip K e m = resume P G call K .normal e m := (rfl)
theorem run_label {l : Nat} : run P G call (.label l) K e m = resume P G call K .normal e m := (rfl)
theorem run_exit {i : Nat} : run P G call (.exit i) K e m = resume P G call K (.exit i) e m := (rfl)
theorem run_ret : run P G call .ret K e m = resume P G call K .ret e m := (rfl)
theorem run_scope {a : Code} : run P G call (.scope a) K e m = run P G call a K e m := (rfl)
theorem run_seq {a b : Code} : run P G call (.seq a b) K e m = run P G call a (.seq b K) e m := by
  unfold run
  simp only [wpS]
  congr 1
theorem run_block {id : Nat} {a : Code} : run P G call (.block id a) K e m = run P G call a (.block id K) e m := by
  unfold run
  simp only [wpS]
  congr 1
theorem run_cond {x : Operand} {a b : Code} : run P G call (.cond x a b) K e m = runCond P G call (opdE G e x) a b K e m := by
  unfold run runCond
  simp only [wpS]
  generalize opdE G e x = v
  cases v with
  | none => rfl
  | some v =>
    cases v with
    | bool t => cases t <;> simp [run]
    | _ => rfl
theorem run_region {id : Nat} {ops : Array Oper} : run P G call (.region id ops false) K e m = runOps P G call ops ops.toList K e m := (rfl)
theorem run_draws {id : Nat} {ops : Array Oper} : run P G call (.region id ops true) K e m = runOpsT P G call m.next ops ops.toList 0 [] [] K e { m with next := m.next + ops.size } := (rfl)
theorem run_loop_stop {a : Code} : run P G call (.loop a) K e m = runLoop P G call a K e m := (rfl)

theorem resume_done {Q : XT → Env → Mem → Prop} {x : XT} : resume P G call (.done Q) x e m = Q x e m := (rfl)
theorem resume_seq {b : Code} : resume P G call (.seq b K) .normal e m = run P G call b K e m := (rfl)
theorem resume_seq_exit {b : Code} {i : Nat} : resume P G call (.seq b K) (.exit i) e m = resume P G call K (.exit i) e m := (rfl)
theorem resume_seq_ret {b : Code} : resume P G call (.seq b K) .ret e m = resume P G call K .ret e m := (rfl)
theorem resume_block {i : Nat} : resume P G call (.block i K) .normal e m = resume P G call K .normal e m := (rfl)
theorem resume_block_exit {i j : Nat} : resume P G call (.block i K) (.exit j) e m = if j = i then resume P G call K .normal e m else resume P G call K (.exit j) e m := (rfl)
theorem resume_block_ret {i : Nat} : resume P G call (.block i K) .ret e m = resume P G call K .ret e m := (rfl)

theorem runCond_bool {t : Bool} {a b : Code} : runCond P G call (some (.bool t)) a b K e m = if t = true then run P G call a K e m else run P G call b K e m := (rfl)

theorem runOps_nil {ops : Array Oper} : runOps P G call ops [] K e m = resume P G call K .normal e m := (rfl)
theorem runOps_cons {ops : Array Oper} {rest : List Oper} {d : Option Tmp} {op : Op} {t : TypeId} {p : String} {a : Array Edge} :
    runOps P G call ops (⟨d, op, t, p, a, none⟩ :: rest) K e m = step1 P G call (callTo (opdE G e) ⟨d, op, t, p, a, none⟩) ⟨d, op, t, p, a, none⟩ ops rest K e m := by
  simp only [runOps, wpOps, wantedE, step1, after, afterCall]
  simp
  rfl
theorem runOps_guard {ops : Array Oper} {rest : List Oper} {d : Option Tmp} {op : Op} {t : TypeId} {p : String} {a : Array Edge} {j : Nat} {want : Bool} :
    runOps P G call ops (⟨d, op, t, p, a, some (j, want)⟩ :: rest) K e m = guarded P G call (atSlot e (slotOf ops j)) want ⟨d, op, t, p, a, some (j, want)⟩ ops rest K e m := by
  simp only [runOps, wpOps, wantedE, guarded, atSlot, slotOf]
  cases h : (ops[j]?).bind (·.dst) with
  | none => simp
  | some d =>
    simp only [Option.bind_some]
    cases h2 : e d with
    | none => simp
    | some v =>
      cases v with
      | bool b =>
        by_cases hb : b = want
        · subst hb; simp [step1, after, afterCall] <;> rfl
        · have : (b == want) = false := by simpa using hb
          simp [this, hb] <;> rfl
      | _ => simp <;> rfl

theorem after_some {ops : Array Oper} {rest : List Oper} {d : Option Tmp} {v : AV} {m' : Mem} {fx : Fx} : after P G call (some (v, m', fx)) ops d rest K e = runOps P G call ops rest K (setE e d v) m' := (rfl)
theorem step1_none {ops : Array Oper} {rest : List Oper} {o : Oper} : step1 P G call none o ops rest K e m = after P G call (evOp P (opdE G e) o m) ops o.dst rest K e := (rfl)
theorem step1_some {ops : Array Oper} {rest : List Oper} {o : Oper} {f : FuncId} {args : List AV} : step1 P G call (some (f, args)) o ops rest K e m = afterCall P G call (call f args m) f args ops o.dst rest K e m := (rfl)
theorem afterCall_some {ops : Array Oper} {rest : List Oper} {d : Option Tmp} {f : FuncId} {args : List AV} {v : AV} {m' : Mem} : afterCall P G call (some (v, m')) f args ops d rest K e m = runOps P G call ops rest K (setE e d v) m' := (rfl)
theorem afterCall_none {ops : Array Oper} {rest : List Oper} {d : Option Tmp} {f : FuncId} {args : List AV} : afterCall P G call none f args ops d rest K e m = ∃ R, ContrR P G f args m R ∧ ∀ v m', R v m' → Fresh m' → runOps P G call ops rest K (setE e d v) m' := (rfl)
theorem guarded_bool {ops : Array Oper} {rest : List Oper} {o : Oper} {b want : Bool} : guarded P G call (some (.bool b)) want o ops rest K e m = if b = want then step1 P G call (callTo (opdE G e) o) o ops rest K e m else runOps P G call ops rest K (setE e o.dst (.tup [])) m := (rfl)
theorem guarded_tup {ops : Array Oper} {rest : List Oper} {o : Oper} {want : Bool} {l : List AV} : guarded P G call (some (.tup l)) want o ops rest K e m = runOps P G call ops rest K (setE e o.dst (.tup [])) m := (rfl)
theorem atSlot_some {d : Tmp} : atSlot e (some d) = e d := (rfl)

section
variable {b i : Nat} {rs : List (Nat × Fx)} {es : List (Nat × Mem × Mem)} {ops : Array Oper} {rest : List Oper}
theorem runOpsT_nil : runOpsT P G call b ops [] i rs es K e m = ((chkRs b ops.size (ancs ops.toList []) es rs ∧ chkEs (ancs ops.toList []) es es) ∧ resume P G call K .normal e m) := (rfl)
theorem runOpsT_cons {d : Option Tmp} {op : Op} {t : TypeId} {p : String} {a : Array Edge} :
    runOpsT P G call b ops (⟨d, op, t, p, a, none⟩ :: rest) i rs es K e m = afterT P G call (operAtE P G call (b + i) ⟨d, op, t, p, a, none⟩ e m) b ops d rest i rs es K e m := by
  simp only [runOpsT, wpOpsT, wantedE, afterT]
  simp
  rfl
theorem runOpsT_guard {d : Option Tmp} {op : Op} {t : TypeId} {p : String} {a : Array Edge} {j : Nat} {want : Bool} :
    runOpsT P G call b ops (⟨d, op, t, p, a, some (j, want)⟩ :: rest) i rs es K e m = guardedT P G call (atSlot e (slotOf ops j)) want ⟨d, op, t, p, a, some (j, want)⟩ b ops rest i rs es K e m := by
  simp only [runOpsT, wpOpsT, wantedE, guardedT, atSlot, slotOf]
  cases h : (ops[j]?).bind (·.dst) with
  | none => simp
  | some d =>
    simp only [Option.bind_some]
    cases h2 : e d with
    | none => simp
    | some v =>
      cases v with
      | bool b =>
        by_cases hb : b = want
        · subst hb; simp [afterT] <;> rfl
        · have : (b == want) = false := by simpa using hb
          simp [this, hb] <;> rfl
      | _ => simp <;> rfl
theorem afterT_some {d : Option Tmp} {v : AV} {m' : Mem} {fx : Fx} : afterT P G call (some (v, m', fx)) b ops d rest i rs es K e m = runOpsT P G call b ops rest (i + 1) (pushR fx i rs) (pushE fx i m m' es) K (setE e d v) m' := (rfl)
theorem guardedT_bool {o : Oper} {t want : Bool} : guardedT P G call (some (.bool t)) want o b ops rest i rs es K e m = if t = want then afterT P G call (operAtE P G call (b + i) o e m) b ops o.dst rest i rs es K e m else runOpsT P G call b ops rest (i + 1) rs es K (setE e o.dst (.tup [])) m := (rfl)
theorem guardedT_tup {o : Oper} {want : Bool} {vs : List AV} : guardedT P G call (some (.tup vs)) want o b ops rest i rs es K e m = runOpsT P G call b ops rest (i + 1) rs es K (setE e o.dst (.tup [])) m := (rfl)
end

/-- THE RULE FOR LOOPS -/
theorem runLoop_of {a : Code} (I : Nat → Env → Mem → Prop) (n : Nat) (h0 : I n e m)
    (h1 : ∀ n e m, I n e m → Fresh m → run P G call a (.done fun x e' m' => match x with
      | .normal => ∃ n', n' < n ∧ I n' e' m'
      | .exit i => resume P G call K (.exit i) e' m'
      | .ret => resume P G call K .ret e' m') e m) : runLoop P G call a K e m :=
  ⟨I, ⟨n, h0⟩, fun n e m hi hf => wpS_mono P G call a (fun x e m h => by cases x <;> exact h) (h1 n e m hi hf)⟩

/-- the same, where the rest behind a round is but a name -/
theorem runLoop_by {a : Code} (I : Nat → Env → Mem → Prop) (n : Nat) (h0 : I n e m)
    (h1 : ∀ L : Nat → Kont, (∀ n e m, resume P G call (L n) .normal e m = ∃ n', n' < n ∧ I n' e m) → (∀ n i e m, resume P G call (L n) (.exit i) e m = resume P G call K (.exit i) e m) →
      (∀ n e m, resume P G call (L n) .ret e m = resume P G call K .ret e m) → ∀ n e m, I n e m → Fresh m → run P G call a (L n) e m) : runLoop P G call a K e m := by
  refine runLoop_of I n h0 ?_
  have := h1 (fun n => .done fun x e' m' => match x with
      | .normal => ∃ n', n' < n ∧ I n' e' m'
      | .exit i => resume P G call K (.exit i) e' m'
      | .ret => resume P G call K .ret e' m') (fun _ _ _ => rfl) (fun _ _ _ _ => rfl) (fun _ _ _ => rfl)
  exact this

/-- a rest may be cut off by what is known ahead of it -/
theorem run_cut {a : Code} (Q : XT → Env → Mem → Prop) (h : run P G call a (.done Q) e m) (hK : ∀ x e m, Q x e m → resume P G call K x e m) : run P G call a K e m :=
  wpS_mono P G call a (fun x e m h => hK x e m h) h

theorem contr_run (hm : P.follows .mixedOrders = true) (hsane : Sane P) {f : FuncId} {fn : Func} {c : Code} (hf : P.funcs[f]? = some fn) (hb : fn.body = some c) {call : FuncId → List AV → Mem → Option (AV × Mem)} {args : List AV} {v : AV} {m' : Mem}
    (hlen : args.length ≤ fn.ntmps) (hcall : ∀ f args m v m', call f args m = some (v, m') → Contr P G f args m v m')
    (h : Fresh m → run P G call c (.done (Fin P fn m v m')) (initE args) m) : Contr P G f args m v m' :=
  contr_of hm hsane hf hb hlen hcall fun hfr => h hfr
end
end Go.Proofs.YtcbileongahhiaaGreat.Ev
