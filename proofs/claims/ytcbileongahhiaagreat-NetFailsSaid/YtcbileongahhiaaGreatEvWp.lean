/- What a code does with values that are not all known: weakest preconditions over the abstract memory. -/
import Derived.Test.YtcbileongahhiaaGreatEvCode
namespace Go.Proofs.YtcbileongahhiaaGreat.Ev
open Go
set_option linter.unusedVariables false
set_option linter.unusedSimpArgs false

abbrev Env := Nat → Option AV
def upd (e : Env) (d : Nat) (v : AV) : Env := fun j => if j = d then some v else e j
theorem upd_apply (e : Env) (d : Nat) (v : AV) (j : Nat) : upd e d v j = if j = d then some v else e j := rfl

def setE (e : Env) (d : Option Tmp) (v : AV) : Env :=
  match d with
  | some d => upd e d v
  | none => e

def opdE (G : Nat) (e : Env) : Operand → Option AV
  | .tmp t => e t
  | .const v => toAV v
  | .global g => if g < G then some (.ptr g 0) else none
  | .func f => some (.func (.func f) [] [])

def wantedE (ops : Array Oper) (e : Env) (o : Oper) : Option Bool :=
  match o.guard with
  | none => some true
  | some (j, want) =>
    match (ops[j]?).bind (·.dst) with
    | some d => match e d with
      | some (.bool b) => some (b == want)
      | some (.tup _) => some false
      | _ => none
    | none => none

theorem evOperand_E (G : Nat) (ts : Tr AV) : evOperand G ts = opdE G ts.get := by
  funext x; cases x <;> rfl
theorem wantedAV_E (ops : Array Oper) (ts : Tr AV) (o : Oper) : wantedAV ops ts o = wantedE ops ts.get o := by
  unfold wantedAV wantedE
  split <;> rename_i h <;> simp only [h]
  split <;> rename_i h2 <;> simp only [h2]
  rfl
theorem setT_E (ts : Tr AV) (d : Option Tmp) (v : AV) : (setT ts d v).get = setE ts.get d v := by
  cases d with
  | none => rfl
  | some d => funext j; simp only [setT, setE, upd_apply]; exact Tr.get_put _ _ _ _

/-- names from here on are free -/
def Fresh (m : Mem) : Prop := ∀ b, m.next ≤ b → m.get b = none

/-- a call gives a value, and leaves memory so -/
def Contr (P : Program) (G : Nat) (f : FuncId) (args : List AV) (m : Mem) (v : AV) (m' : Mem) : Prop :=
  ∀ (B0 : Nat) (ι : Inj) (w : World) (arr : Array Value), GlobR ι G → Rel P B0 ι m w → VRL ι args arr.toList →
    CallGives P f arr w fun z w' => ∃ κ, Step P B0 ι m w κ m' w' ∧ VR κ v z

/-- a call gives a value and a memory of which so much is known -/
def ContrR (P : Program) (G : Nat) (f : FuncId) (args : List AV) (m : Mem) (R : AV → Mem → Prop) : Prop :=
  ∀ (B0 : Nat) (ι : Inj) (w : World) (arr : Array Value), GlobR ι G → Rel P B0 ι m w → VRL ι args arr.toList →
    CallGives P f arr w fun z w' => ∃ v m' κ, R v m' ∧ Step P B0 ι m w κ m' w' ∧ VR κ v z

theorem CallGives.mono {P : Program} {f : FuncId} {arr : Array Value} {w : World} {R R' : Value → World → Prop} (h : CallGives P f arr w R) (hr : ∀ z w', R z w' → R' z w') : CallGives P f arr w R' := by
  rcases h with ⟨h1, h2⟩ | ⟨z, w', h1, h2⟩
  · exact .inl ⟨h1, Calls.mono h2 fun e w' ⟨z, he, h⟩ => ⟨z, he, hr _ _ h⟩⟩
  · exact .inr ⟨z, w', h1, hr _ _ h2⟩

theorem Contr.rel {P : Program} {G : Nat} {f : FuncId} {args : List AV} {m m' : Mem} {v : AV} (h : Contr P G f args m v m') : ContrR P G f args m fun v1 m1 => v1 = v ∧ m' = m1 :=
  fun B0 ι w arr hG hR ha => (h B0 ι w arr hG hR ha).mono fun z w' ⟨κ, st, r⟩ => ⟨v, m', κ, ⟨rfl, rfl⟩, st, r⟩
theorem ContrR.mono {P : Program} {G : Nat} {f : FuncId} {args : List AV} {m : Mem} {R R' : AV → Mem → Prop} (h : ContrR P G f args m R) (hr : ∀ v m', R v m' → R' v m') : ContrR P G f args m R' :=
  fun B0 ι w arr hG hR ha => (h B0 ι w arr hG hR ha).mono fun z w' ⟨v, m', κ, k, st, r⟩ => ⟨v, m', κ, hr _ _ k, st, r⟩

theorem evCall_wpR {P : Program} {B0 G : Nat} {ι : Inj} {m : Mem} {w : World} (hG : GlobR ι G) (hR : Rel P B0 ι m w) {ts : Tr AV} {a : Act} {o : Oper} {f : FuncId} {args : List AV} {R : AV → Mem → Prop}
    (hρ : OpdR ι (evOperand G ts) a.eval o) (h : callTo (evOperand G ts) o = some (f, args)) (hc : ContrR P G f args m R) {K : Act → World → Prop} {Q : Exit → Act → World → Prop}
    (hK : ∀ v m' z κ w', R v m' → Step P B0 ι m w κ m' w' → VR κ v z → K (a.put o.dst z) w') : o.wp P a w K Q := by
  obtain ⟨arr, h1, h2⟩ := callTo_run (P := P) hρ h
  unfold Oper.wp
  rw [h1]
  rcases hc B0 ι w arr hG hR h2 with ⟨h3, h4⟩ | ⟨z, w', h3, v, m', κ, k, st, r⟩
  · rw [h3]
    simp only [Oper.upon]
    refine Calls.mono h4 fun e w' he => ?_
    obtain ⟨z, rfl, v, m', κ, k, st, r⟩ := he
    exact hK v m' z κ w' k st r
  · rw [h3]
    exact hK v m' z κ w' k st r

/-! what is noted of a region that draws: the looks and the writes -/
def isRead : Fx → Bool
  | .cells _ _ _ => true
  | .obj _ => true
  | _ => false
def pushR (fx : Fx) (i : Nat) (rs : List (Nat × Fx)) : List (Nat × Fx) := if isRead fx then rs ++ [(i, fx)] else rs
def pushE (fx : Fx) (i : Nat) (m m' : Mem) (es : List (Nat × Mem × Mem)) : List (Nat × Mem × Mem) := if isEff fx then es ++ [(i, m, m')] else es
def chkR (an : List Nat) (i : Nat) (fx : Fx) : List (Nat × Mem × Mem) → Prop
  | [] => True
  | (j, m, m') :: es => (if orderedIn an i j = true then True else sameAt m m' fx = true) ∧ chkR an i fx es
def chkRs (b n : Nat) (an : List Nat) (es : List (Nat × Mem × Mem)) : List (Nat × Fx) → Prop
  | [] => True
  | (i, fx) :: rs => notAhead b n i fx = true ∧ chkR an i fx es ∧ chkRs b n an es rs
def chkE (an : List Nat) (i : Nat) : List (Nat × Mem × Mem) → Prop
  | [] => True
  | (j, _, _) :: es => (if j = i then True else orderedIn an i j = true) ∧ chkE an i es
def chkEs (an : List Nat) (all : List (Nat × Mem × Mem)) : List (Nat × Mem × Mem) → Prop
  | [] => True
  | (i, _, _) :: es => chkE an i all ∧ chkEs an all es

theorem chkR_mem {an : List Nat} {i : Nat} {fx : Fx} : ∀ {es : List (Nat × Mem × Mem)}, chkR an i fx es → ∀ x ∈ es, orderedIn an i x.1 = true ∨ sameAt x.2.1 x.2.2 fx = true
  | [], _, x, hx => by cases hx
  | (j, m, m') :: es, h, x, hx => by
    rcases List.mem_cons.1 hx with rfl | hx
    · have := h.1
      split at this
      · rename_i h2; exact .inl h2
      · exact .inr this
    · exact chkR_mem h.2 x hx
theorem chkRs_mem {b n : Nat} {an : List Nat} {es : List (Nat × Mem × Mem)} : ∀ {rs : List (Nat × Fx)}, chkRs b n an es rs → ∀ x ∈ rs, notAhead b n x.1 x.2 = true ∧ chkR an x.1 x.2 es
  | [], _, x, hx => by cases hx
  | (i, fx) :: rs, h, x, hx => by
    rcases List.mem_cons.1 hx with rfl | hx
    · exact ⟨h.1, h.2.1⟩
    · exact chkRs_mem h.2.2 x hx
theorem chkE_mem {an : List Nat} {i : Nat} : ∀ {es : List (Nat × Mem × Mem)}, chkE an i es → ∀ x ∈ es, x.1 = i ∨ orderedIn an i x.1 = true
  | [], _, x, hx => by cases hx
  | (j, m, m') :: es, h, x, hx => by
    rcases List.mem_cons.1 hx with rfl | hx
    · have := h.1
      split at this
      · rename_i h2; exact .inl h2
      · exact .inr this
    · exact chkE_mem h.2 x hx
theorem chkEs_mem {an : List Nat} {all : List (Nat × Mem × Mem)} : ∀ {es : List (Nat × Mem × Mem)}, chkEs an all es → ∀ x ∈ es, chkE an x.1 all
  | [], _, x, hx => by cases hx
  | (i, _, _) :: es, h, x, hx => by
    rcases List.mem_cons.1 hx with rfl | hx
    · exact h.1
    · exact chkEs_mem h.2 x hx

def Noted (l : List Ev1) (rs : List (Nat × Fx)) (es : List (Nat × Mem × Mem)) : Prop :=
  ∀ r ∈ l, (isRead r.fx = true → (r.i, r.fx) ∈ rs) ∧ (isEff r.fx = true → (r.i, r.m, r.m') ∈ es)

theorem Noted.push {l : List Ev1} {rs : List (Nat × Fx)} {es : List (Nat × Mem × Mem)} (h : Noted l rs es) (i : Nat) (fx : Fx) (m m' : Mem) : Noted (l ++ [⟨i, fx, m, m'⟩]) (pushR fx i rs) (pushE fx i m m' es) := by
  intro r hr
  rcases List.mem_append.1 hr with hr | hr
  · refine ⟨fun h1 => ?_, fun h1 => ?_⟩
    · have := (h r hr).1 h1
      unfold pushR; split
      · exact List.mem_append_left _ this
      · exact this
    · have := (h r hr).2 h1
      unfold pushE; split
      · exact List.mem_append_left _ this
      · exact this
  · obtain rfl : r = ⟨i, fx, m, m'⟩ := by simpa using hr
    refine ⟨fun h1 => ?_, fun h1 => ?_⟩
    · unfold pushR; rw [if_pos h1]; exact List.mem_append_right _ (by simp)
    · unfold pushE; rw [if_pos h1]; exact List.mem_append_right _ (by simp)

theorem drawOk_of {b n : Nat} {an : List Nat} {l : List Ev1} {rs : List (Nat × Fx)} {es : List (Nat × Mem × Mem)} (h : Noted l rs es) (h1 : chkRs b n an es rs) (h2 : chkEs an es es) : drawOk b n an l = true := by
  unfold drawOk
  rw [List.all_eq_true]
  intro r hr
  have hn := h r hr
  rcases r with ⟨i, fx, m, m'⟩
  have hread : isRead fx = true → isEff fx = false → (notAhead b n i fx && (if isEff fx then l.all fun e => !isEff e.fx || e.i == i || orderedIn an i e.i else fx == .none || fx == .alloc || l.all fun e => !isEff e.fx || orderedIn an i e.i || sameAt e.m e.m' fx)) = true := by
    intro hr1 hr2
    have h3 := chkRs_mem h1 _ (hn.1 hr1)
    simp only at h3
    rw [Bool.and_eq_true]
    refine ⟨h3.1, ?_⟩
    rw [hr2]
    simp only [Bool.false_eq_true, if_false]
    rw [Bool.or_eq_true]
    refine .inr ?_
    rw [List.all_eq_true]
    intro e he
    rcases Bool.eq_false_or_eq_true (isEff e.fx) with hh | hh
    · rcases chkR_mem h3.2 _ ((h e he).2 hh) with h4 | h4
      · have : orderedIn an i e.i = true := h4
        rw [this]; simp
      · have : sameAt e.m e.m' fx = true := h4
        rw [this]; simp
    · rw [hh]; simp
  cases fx with
  | none => simp [notAhead, isEff]
  | alloc => simp [notAhead, isEff]
  | eff =>
    rw [show notAhead b n i Fx.eff = true from rfl, show isEff Fx.eff = true from rfl, Bool.true_and, if_pos rfl, List.all_eq_true]
    intro e he
    have hE := chkEs_mem h2 _ (hn.2 rfl)
    rcases Bool.eq_false_or_eq_true (isEff e.fx) with hh | hh
    · rcases chkE_mem hE _ ((h e he).2 hh) with h3 | h3
      · have : (e.i == i) = true := by simpa using h3
        simp only [this, Bool.or_true, Bool.true_or]
      · have : orderedIn an i e.i = true := h3
        simp only [this, Bool.or_true]
    · rw [hh]; rfl
  | cells c off k => exact hread rfl rfl
  | obj c => exact hread rfl rfl

section
variable (P : Program) (G : Nat) (call : FuncId → List AV → Mem → Option (AV × Mem))

def operE (o : Oper) (e : Env) (m : Mem) : Option (AV × Mem × Fx) :=
  match callTo (opdE G e) o with
  | some (f, args) => (call f args m).map fun (v, m) => (v, m, .eff)
  | none => evOp P (opdE G e) o m

def operAtE (id : Nat) (o : Oper) (e : Env) (m : Mem) : Option (AV × Mem × Fx) :=
  match callTo (opdE G e) o with
  | some (f, args) => (call f args m).map fun (v, m) => (v, m, .eff)
  | none => evOpAt P id (opdE G e) o m

theorem evOper_E (o : Oper) (ts : Tr AV) (m : Mem) : evOper P G call o ts m = operE P G call o ts.get m := by
  unfold evOper operE; rw [evOperand_E]; rfl
theorem evOperAt_E (id : Nat) (o : Oper) (ts : Tr AV) (m : Mem) : evOperAt P G call id o ts m = operAtE P G call id o ts.get m := by
  unfold evOperAt operAtE; rw [evOperand_E]; rfl

/-- what must be so ahead of some operations -/
def wpOps (ops : Array Oper) : List Oper → Env → Mem → (Env → Mem → Prop) → Prop
  | [], e, m, K => K e m
  | o :: rest, e, m, K =>
    match wantedE ops e o with
    | some t =>
      (t = true → match callTo (opdE G e) o with
        | some (f, args) => (match call f args m with
          | some (v, m') => wpOps ops rest (setE e o.dst v) m' K
          | none => ∃ R, ContrR P G f args m R ∧ ∀ v m', R v m' → Fresh m' → wpOps ops rest (setE e o.dst v) m' K)
        | none => match evOp P (opdE G e) o m with
          | some (v, m', _) => wpOps ops rest (setE e o.dst v) m' K
          | none => False) ∧
      (t = false → wpOps ops rest (setE e o.dst (.tup [])) m K)
    | none => False

/-- the same for operations in any order: what was done is noted -/
def wpOpsT (base : Nat) (ops : Array Oper) : List Oper → Nat → List (Nat × Fx) → List (Nat × Mem × Mem) → Env → Mem → (List (Nat × Fx) → List (Nat × Mem × Mem) → Env → Mem → Prop) → Prop
  | [], _, rs, es, e, m, K => K rs es e m
  | o :: rest, i, rs, es, e, m, K =>
    match wantedE ops e o with
    | some t =>
      (t = true → match operAtE P G call (base + i) o e m with
        | some (v, m', fx) => wpOpsT base ops rest (i + 1) (pushR fx i rs) (pushE fx i m m' es) (setE e o.dst v) m' K
        | none => False) ∧
      (t = false → wpOpsT base ops rest (i + 1) rs es (setE e o.dst (.tup [])) m K)
    | none => False

theorem wpOpsT_ev {base : Nat} {ops : Array Oper} : ∀ {rest : List Oper} {i : Nat} {rs : List (Nat × Fx)} {es : List (Nat × Mem × Mem)} {ts : Tr AV} {m : Mem} {K : List (Nat × Fx) → List (Nat × Mem × Mem) → Env → Mem → Prop}, wpOpsT P G call base ops rest i rs es ts.get m K →
    ∃ ts' m' l' rs' es', evOpsT P G call base ops rest i ts m = some (ts', m', l') ∧ K rs' es' ts'.get m' ∧ ∀ l, Noted l rs es → Noted (l ++ l') rs' es'
  | [], i, rs, es, ts, m, K, h => ⟨ts, m, [], rs, es, rfl, h, fun l hl => by rw [List.append_nil]; exact hl⟩
  | o :: rest, i, rs, es, ts, m, K, h => by
    simp only [wpOpsT] at h
    simp only [evOpsT, wantedAV_E]
    split at h
    case h_2 => exact h.elim
    rename_i t ht
    rw [ht]
    cases t with
    | true =>
      have h := h.1 rfl
      simp only [evOperAt_E]
      split at h
      case h_2 => exact h.elim
      rename_i v m' fx hv
      rw [hv]
      simp only
      rw [← setT_E] at h
      obtain ⟨ts', m2, l', rs', es', h1, h2, h3⟩ := wpOpsT_ev h
      rw [h1]
      exact ⟨ts', m2, _, rs', es', rfl, h2, fun l hl => by have := h3 _ (hl.push i fx m m'); simpa using this⟩
    | false =>
      have h := h.2 rfl
      simp only
      rw [← setT_E] at h
      exact wpOpsT_ev h

/-- WHAT MUST BE SO AHEAD OF A CODE -/
def wpS : Code → Env → Mem → (XT → Env → Mem → Prop) → Prop
  | .skip, e, m, Q => Q .normal e m
  | .label _, e, m, Q => Q .normal e m
  | .scope a, e, m, Q => wpS a e m Q
  | .seq a b, e, m, Q => wpS a e m fun x e m => match x with
    | .normal => wpS b e m Q
    | .exit i => Q (.exit i) e m
    | .ret => Q .ret e m
  | .cond x a b, e, m, Q =>
    match opdE G e x with
    | some (.bool t) => (t = true → wpS a e m Q) ∧ (t = false → wpS b e m Q)
    | _ => False
  | .block id a, e, m, Q => wpS a e m fun x e m => match x with
    | .exit i => if i = id then Q .normal e m else Q (.exit i) e m
    | .normal => Q .normal e m
    | .ret => Q .ret e m
  | .loop a, e, m, Q => ∃ I : Nat → Env → Mem → Prop, (∃ n, I n e m) ∧ ∀ n e m, I n e m → Fresh m → wpS a e m fun x e' m' => match x with
    | .normal => ∃ n', n' < n ∧ I n' e' m'
    | .exit i => Q (.exit i) e' m'
    | .ret => Q .ret e' m'
  | .exit id, e, m, Q => Q (.exit id) e m
  | .ret, e, m, Q => Q .ret e m
  | .region _ ops false, e, m, Q => wpOps P G call ops ops.toList e m fun e m => Q .normal e m
  | .region _ ops true, e, m, Q => wpOpsT P G call m.next ops ops.toList 0 [] [] e { m with next := m.next + ops.size } fun rs es e m' =>
      (chkRs m.next ops.size (ancs ops.toList []) es rs ∧ chkEs (ancs ops.toList []) es es) ∧ Q .normal e m'
  | _, _, _, _ => False

theorem wpS_mono : ∀ (c : Code) {e : Env} {m : Mem} {Q Q' : XT → Env → Mem → Prop}, (∀ x e m, Q x e m → Q' x e m) → wpS P G call c e m Q → wpS P G call c e m Q' := by
  have ops_mono : ∀ (ops : Array Oper) (l : List Oper) {e : Env} {m : Mem} {K K' : Env → Mem → Prop}, (∀ e m, K e m → K' e m) → wpOps P G call ops l e m K → wpOps P G call ops l e m K' := by
    intro ops l
    induction l with
    | nil => intro e m K K' hk h; exact hk _ _ h
    | cons o rest ih =>
      intro e m K K' hk h
      simp only [wpOps] at h ⊢
      split at h
      case h_2 => exact h.elim
      refine ⟨fun ht => ?_, fun ht => ih hk (h.2 ht)⟩
      have h := h.1 ht
      split at h
      · split at h
        · exact ih hk h
        · obtain ⟨R, h1, h2⟩ := h
          exact ⟨R, h1, fun v m' hr hf => ih hk (h2 v m' hr hf)⟩
      · split at h
        · exact ih hk h
        · exact h.elim
  have opsT_mono : ∀ (base : Nat) (ops : Array Oper) (l : List Oper) {i : Nat} {rs : List (Nat × Fx)} {es : List (Nat × Mem × Mem)} {e : Env} {m : Mem} {K K' : List (Nat × Fx) → List (Nat × Mem × Mem) → Env → Mem → Prop}, (∀ rs es e m, K rs es e m → K' rs es e m) → wpOpsT P G call base ops l i rs es e m K → wpOpsT P G call base ops l i rs es e m K' := by
    intro base ops l
    induction l with
    | nil => intro i rs es e m K K' hk h; exact hk _ _ _ _ h
    | cons o rest ih =>
      intro i rs es e m K K' hk h
      simp only [wpOpsT] at h ⊢
      split at h
      case h_2 => exact h.elim
      refine ⟨fun ht => ?_, fun ht => ih hk (h.2 ht)⟩
      have h := h.1 ht
      split at h
      case h_2 => exact h.elim
      exact ih hk h
  intro c
  induction c with
  | skip | label | exit | ret => intro e m Q Q' hq h; exact hq _ _ _ h
  | scope a ih => intro e m Q Q' hq h; exact ih hq h
  | seq a b iha ihb =>
    intro e m Q Q' hq h
    refine iha ?_ h
    intro x e m h
    cases x with
    | normal => exact ihb hq h
    | exit i => exact hq _ _ _ h
    | ret => exact hq _ _ _ h
  | cond q a b iha ihb =>
    intro e m Q Q' hq h
    simp only [wpS] at h ⊢
    split at h
    · exact ⟨fun ht => iha hq (h.1 ht), fun ht => ihb hq (h.2 ht)⟩
    · exact h.elim
  | block id a ih =>
    intro e m Q Q' hq h
    refine ih ?_ h
    intro x e m h
    cases x with
    | normal => exact hq _ _ _ h
    | exit i =>
      simp only at h ⊢
      split at h
      · rename_i he
        rw [if_pos he]
        exact hq _ _ _ h
      · rename_i he
        rw [if_neg he]
        exact hq _ _ _ h
    | ret => exact hq _ _ _ h
  | loop a ih =>
    intro e m Q Q' hq h
    obtain ⟨I, h0, h1⟩ := h
    refine ⟨I, h0, fun n e m hi hf => ih ?_ (h1 n e m hi hf)⟩
    intro x e m h
    cases x with
    | normal => exact h
    | exit i => exact hq _ _ _ h
    | ret => exact hq _ _ _ h
  | region id ops draw =>
    intro e m Q Q' hq h
    cases draw with
    | false => exact ops_mono _ _ (fun _ _ h => hq _ _ _ h) h
    | true => exact opsT_mono _ _ _ (fun _ _ _ _ h => ⟨h.1, hq _ _ _ h.2⟩) h
  | _ => intro e m Q Q' hq h; exact h.elim
end

section
variable {P : Program} {B0 G : Nat} {ι : Inj} {m : Mem} {w : World} {call : FuncId → List AV → Mem → Option (AV × Mem)}

theorem wpOps_wp {nt : Nat} {ds : List Deferred} (hcall : ∀ f args m v m', call f args m = some (v, m') → Contr P G f args m v m') {ops : Array Oper} {Q : Exit → Act → World → Prop} : ∀ (rest : List Oper), (∀ o ∈ rest, o.dst.all (· < nt) = true) →
    ∀ {ι : Inj} {m : Mem} {w : World} {ts : Tr AV} {a : Act} {K : Env → Mem → Prop}, GlobR ι G → Rel P B0 ι m w → ActR ι ts nt ds a → wpOps P G call ops rest ts.get m K →
    (∀ κ ts' m' a' w', K ts'.get m' → Step P B0 ι m w κ m' w' → ActR κ ts' nt ds a' → Q .normal a' w') → wpList P ops Q rest a w
  | [], _, ι, m, w, ts, a, K, _, hR, hA, h, hQ => hQ ι ts m a w h (Step.refl hR) hA
  | o :: rest, hok, ι, m, w, ts, a, K, hG, hR, hA, h, hQ => by
    have ho := hok o (by simp)
    have hrest : ∀ o ∈ rest, o.dst.all (· < nt) = true := fun o h => hok o (by simp [h])
    simp only [wpOps, ← wantedAV_E, ← evOperand_E, ← setT_E] at h
    unfold wpList
    split at h
    case h_2 => exact h.elim
    rename_i t hw
    cases t with
    | true =>
      have h := h.1 rfl
      rw [wanted_of (fun g want t _ _ => hA.slot t) hw, if_pos rfl]
      have hone : ∀ f args R, callTo (evOperand G ts) o = some (f, args) → ContrR P G f args m R → (∀ v m', R v m' → Fresh m' → wpOps P G call ops rest (setT ts o.dst v).get m' K) → (o.wp P a w (fun a w => wpList P ops Q rest a w) Q) := by
        intro f args R hto hc hK
        refine evCall_wpR hG hR (opdR_of hG fun t _ => hA.slot t) hto hc fun v m' z κ w' k st r => ?_
        exact wpOps_wp hcall rest hrest (hG.mono st.le) st.rel ((hA.mono st.le).put ho r) (hK v m' k st.rel.fresh) fun μ ts' m'' a' w'' hk st' hA' => hQ μ ts' m'' a' w'' hk (st.trans st') hA'
      split at h
      · rename_i f args hto
        split at h
        · rename_i v m' hc
          exact .inl (hone f args _ hto (hcall _ _ _ _ _ hc).rel fun v1 m1 ⟨e1, e2⟩ _ => by rw [e1, ← e2]; exact h)
        · obtain ⟨R, hc, h⟩ := h
          exact .inl (hone f args R hto hc h)
      · rename_i hto
        split at h
        case h_2 => exact h.elim
        rename_i v m' fx hop
        have hcall0 : CallOk P B0 G (fun _ _ _ => none) := by intro f args m v m' h; cases h
        refine .inl (evOper_wp hcall0 hG hR (opdR_of hG fun t _ => hA.slot t) (ts := ts) (v := v) (m' := m') (fx := fx) (by unfold evOper; rw [hto]; exact hop) fun z κ w' st r => ?_)
        exact wpOps_wp hcall rest hrest (hG.mono st.le) st.rel ((hA.mono st.le).put ho r) h fun μ ts' m'' a' w'' hk st' hA' => hQ μ ts' m'' a' w'' hk (st.trans st') hA'
    | false =>
      have h := h.2 rfl
      rw [wanted_of (fun g want t _ _ => hA.slot t) hw, if_neg (by simp)]
      exact wpOps_wp hcall rest hrest hG hR (hA.put ho VR.tup0) h hQ

/-- A PRECONDITION IS ENOUGH -/
theorem wpS_sound (hm : P.follows .mixedOrders = true) (hcall0 : ∀ f args m v m', call f args m = some (v, m') → Contr P G f args m v m') : ∀ (c : Code) (nt : Nat) (ts : Tr AV) (m : Mem) (Q : XT → Env → Mem → Prop), codeOk nt c = true → wpS P G call c ts.get m Q →
    ∀ (ι : Inj) (a : Act) (w : World) (ds : List Deferred) (Q0 : Exit → Act → World → Prop), GlobR ι G → Rel P B0 ι m w → ActR ι ts nt ds a →
      (∀ x κ ts' m' a' w', Q x ts'.get m' → Step P B0 ι m w κ m' w' → ActR κ ts' nt ds a' → Q0 (toExit x) a' w') → c.wp P Q0 a w := by
  intro c
  have hcall : CallOk P B0 G call := fun f args m v m' hc ι w arr hG hR ha => hcall0 f args m v m' hc B0 ι w arr hG hR ha
  induction c with
  | skip =>
    intro nt ts m Q hok h ι a w ds Q0 hG hR hA hQ
    exact wp_skip (hQ .normal ι ts m a w h (Step.refl hR) hA)
  | label l =>
    intro nt ts m Q hok h ι a w ds Q0 hG hR hA hQ
    exact wp_label (hQ .normal ι ts m a w h (Step.refl hR) hA)
  | exit i =>
    intro nt ts m Q hok h ι a w ds Q0 hG hR hA hQ
    exact wp_exit (hQ (.exit i) ι ts m a w h (Step.refl hR) hA)
  | ret =>
    intro nt ts m Q hok h ι a w ds Q0 hG hR hA hQ
    exact wp_ret (hQ .ret ι ts m a w h (Step.refl hR) hA)
  | scope c ih =>
    intro nt ts m Q hok h ι a w ds Q0 hG hR hA hQ
    simp only [codeOk] at hok
    refine wp_scope_straight (ih nt ts m Q hok h ι a w ds _ hG hR hA fun x κ ts' m' a' w' hq st hA' => ?_)
    have := hQ x κ ts' m' a' w' hq st hA'
    cases x <;> exact this
  | seq c d ihc ihd =>
    intro nt ts m Q hok h ι a w ds Q0 hG hR hA hQ
    simp only [codeOk, Bool.and_eq_true] at hok
    refine wp_seq (ihc nt ts m _ hok.1 h ι a w ds _ hG hR hA fun x κ ts' m' a' w' hq st hA' => ?_)
    cases x with
    | normal =>
      refine ihd nt ts' m' Q hok.2 hq κ a' w' ds Q0 (hG.mono st.le) st.rel hA' fun x μ ts'' m'' a'' w'' hq' st' hA'' => hQ x μ ts'' m'' a'' w'' hq' (st.trans st') hA''
    | exit i => exact hQ (.exit i) κ ts' m' a' w' hq st hA'
    | ret => exact hQ .ret κ ts' m' a' w' hq st hA'
  | cond q c d ihc ihd =>
    intro nt ts m Q hok h ι a w ds Q0 hG hR hA hQ
    simp only [codeOk, Bool.and_eq_true] at hok
    have heval : ∀ b, evOperand G ts q = some (.bool b) → a.eval q = .bool b := fun b hb => VR.bool_inv (eval_of hG (fun t _ => hA.slot t) hb)
    simp only [wpS, ← evOperand_E] at h
    split at h
    · rename_i t ht
      cases t with
      | true => exact wp_cond_true (heval _ ht) (ihc nt ts m Q hok.1 (h.1 rfl) ι a w ds Q0 hG hR hA hQ)
      | false => exact wp_cond_false (heval _ ht) (ihd nt ts m Q hok.2 (h.2 rfl) ι a w ds Q0 hG hR hA hQ)
    · exact h.elim
  | block id c ih =>
    intro nt ts m Q hok h ι a w ds Q0 hG hR hA hQ
    simp only [codeOk] at hok
    refine wp_block (ih nt ts m _ hok h ι a w ds _ hG hR hA fun x κ ts' m' a' w' hq st hA' => ?_)
    cases x with
    | normal => exact hQ .normal κ ts' m' a' w' hq st hA'
    | exit i =>
      simp only [toExit, Exit.inBlock]
      simp only at hq
      split at hq
      · rename_i e
        rw [if_pos e]
        exact hQ .normal κ ts' m' a' w' hq st hA'
      · rename_i e
        rw [if_neg e]
        exact hQ (.exit i) κ ts' m' a' w' hq st hA'
    | ret => exact hQ .ret κ ts' m' a' w' hq st hA'
  | loop c ih =>
    intro nt ts m Q hok h ι a w ds Q0 hG hR hA hQ
    simp only [codeOk] at hok
    obtain ⟨I, ⟨n0, h0⟩, h1⟩ := h
    have key : ∀ N n, n ≤ N → ∀ (ts : Tr AV) (m : Mem), I n ts.get m → ∀ (ι : Inj) (a : Act) (w : World), GlobR ι G → Rel P B0 ι m w → ActR ι ts nt ds a →
        (∀ x κ ts' m' a' w', (match x with | .normal => False | .exit i => Q (.exit i) ts'.get m' | .ret => Q .ret ts'.get m') → Step P B0 ι m w κ m' w' → ActR κ ts' nt ds a' → Q0 (toExit x) a' w') → Code.rounds P c Q0 (N + 1) a w := by
      intro N
      induction N with
      | zero =>
        intro n hn ts m hi ι a w hG hR hA hQ
        rw [rounds_succ]
        refine ih nt ts m _ hok (h1 n _ _ hi hR.fresh) ι a w ds _ hG hR hA fun x κ ts' m' a' w' hq st hA' => ?_
        cases x with
        | normal => obtain ⟨n', hn', _⟩ := hq; omega
        | exit i => exact hQ (.exit i) κ ts' m' a' w' hq st hA'
        | ret => exact hQ .ret κ ts' m' a' w' hq st hA'
      | succ N ihN =>
        intro n hn ts m hi ι a w hG hR hA hQ
        rw [rounds_succ]
        refine ih nt ts m _ hok (h1 n _ _ hi hR.fresh) ι a w ds _ hG hR hA fun x κ ts' m' a' w' hq st hA' => ?_
        cases x with
        | normal =>
          obtain ⟨n', hn', hi'⟩ := hq
          exact ihN n' (by omega) ts' m' hi' κ a' w' (hG.mono st.le) st.rel hA' fun x μ ts'' m'' a'' w'' hq' st' hA'' => hQ x μ ts'' m'' a'' w'' hq' (st.trans st') hA''
        | exit i => exact hQ (.exit i) κ ts' m' a' w' hq st hA'
        | ret => exact hQ .ret κ ts' m' a' w' hq st hA'
    refine wp_loop_rounds (n0 + 1) (key n0 n0 (Nat.le_refl _) ts m h0 ι a w hG hR hA fun x κ ts' m' a' w' hq st hA' => ?_)
    cases x with
    | normal => exact hq.elim
    | exit i => exact hQ (.exit i) κ ts' m' a' w' hq st hA'
    | ret => exact hQ .ret κ ts' m' a' w' hq st hA'
  | region id ops draw =>
    intro nt ts m Q hok h ι a w ds Q0 hG hR hA hQ
    simp only [codeOk, Bool.and_eq_true, Bool.or_eq_true, Bool.not_eq_true'] at hok
    have hops : ∀ o ∈ ops.toList, o.dst.all (· < nt) = true := fun o ho => List.all_eq_true.1 hok.1 o ho
    cases draw with
    | false =>
      exact wp_region_list (wpOps_wp hcall0 ops.toList hops hG hR hA h fun κ ts' m' a' w' hq st hA' => hQ .normal κ ts' m' a' w' hq st hA')
    | true =>
      have h2 := hok.2.resolve_left (by simp)
      obtain ⟨ts', m', l, rs', es', h1, ⟨⟨hd1, hd2⟩, hq⟩, hn⟩ := wpOpsT_ev P G call h
      exact evDraw_wp hm hcall hok.1 h2.1 h2.2 h1 (drawOk_of (by have := hn [] (fun r hr => by cases hr); simpa using this) hd1 hd2) hG hR hA fun κ a' w' st hA' => hQ .normal κ ts' m' a' w' hq st hA'
  | _ => intro nt ts m Q hok h; exact h.elim
end
end Go.Proofs.YtcbileongahhiaaGreat.Ev
