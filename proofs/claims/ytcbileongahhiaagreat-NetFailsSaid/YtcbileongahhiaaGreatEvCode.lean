/- The evaluator's runs are the model's. -/
import Derived.Test.YtcbileongahhiaaGreatEvDraw4
import Derived.LoopN
import Derived.Scope
namespace Go.Proofs.YtcbileongahhiaaGreat.Ev
open Go
set_option linter.unusedVariables false
set_option linter.unusedSimpArgs false

def toExit : XT → Exit
  | .normal => .normal
  | .exit i => .exit i
  | .ret => .ret

section
variable {P : Program} {B0 G : Nat} {ι : Inj} {m : Mem} {w : World}

/-- a code's run is the model's -/
def CodeOk (P : Program) (B0 G : Nat) (run : Code → Tr AV → Mem → Option (XT × Tr AV × Mem)) : Prop :=
  ∀ (c : Code) (nt : Nat) (ts : Tr AV) (m : Mem) (x : XT) (ts' : Tr AV) (m' : Mem), codeOk nt c = true → run c ts m = some (x, ts', m') →
    ∀ (ι : Inj) (a : Act) (w : World) (ds : List Deferred) (Q : Exit → Act → World → Prop), GlobR ι G → Rel P B0 ι m w → ActR ι ts nt ds a →
      (∀ κ a' w', Step P B0 ι m w κ m' w' → ActR κ ts' nt ds a' → Q (toExit x) a' w') → c.wp P Q a w

theorem initT_get : ∀ (vs : List AV) (i : Nat) (t : Tr AV) (j : Nat), (initT vs i t).get j = if i ≤ j ∧ j < i + vs.length then vs[j - i]? else t.get j
  | [], i, t, j => by rw [initT, if_neg (by rw [List.length_nil]; omega)]
  | v :: vs, i, t, j => by
    rw [initT, initT_get vs (i + 1)]
    by_cases h : i + 1 ≤ j ∧ j < i + 1 + vs.length
    · rw [if_pos h, if_pos (by simp; omega)]
      obtain ⟨k, rfl⟩ : ∃ k, j = i + 1 + k := ⟨j - (i + 1), by omega⟩
      rw [show i + 1 + k - i = k + 1 by omega, List.getElem?_cons_succ]
      congr 1
      omega
    · rw [if_neg h, Tr.get_put]
      by_cases e : j = i
      · subst e
        rw [if_pos rfl, if_pos (by simp), Nat.sub_self]
        rfl
      · rw [if_neg e, if_neg (by simp only [List.length_cons]; omega)]

/-- what a load's operation gives, for the load itself -/
theorem loadVar_run (hm : MR P ι m w) {t : TypeId} {x : AV} {x' : Value} {r : AV} {fx : Fx} (rx : VR ι x x') (h : evRead P (fun _ => some x) { dst := none, op := .load t (.tmp 0), type := 0, pos := "", after := #[], guard := none } m = some (r, fx)) :
    ∃ z, (do Go.loadVar t (← Go.asAddr x')).run P w = .ok z w ∧ VR ι r z := by
  obtain ⟨z, hrun, rz⟩ := evRead_run (ev := fun _ => x') hm (fun _ _ a ha => by injection ha with ha; subst ha; exact rx) h
  refine ⟨z, ?_, rz⟩
  have hp : ∃ b off, x = .ptr b off := by
    unfold evRead at h
    simp only at h
    split at h
    · rename_i b off _ he _ _; injection he with he; exact ⟨b, off, he⟩
    · rename_i b off _ he _ _; injection he with he; exact ⟨b, off, he⟩
    · cases h
  obtain ⟨b, off, rfl⟩ := hp
  obtain ⟨p, hp, rfl⟩ := VR.ptr_inv rx
  simp only [execOp, Instr.loadAt, Instr.sureAddr, Sem.run_bind, Sem.run_pure, Result.andThen_ok] at hrun
  simp only [asAddr, Sem.run_bind, Sem.run_pure, Result.andThen_ok]
  generalize (Go.loadVar t ⟨p.blk, p.off + off, none⟩).run P w = q at hrun ⊢
  cases q with
  | ok z' w' =>
    simp only [Result.andThen_ok, Result.ok.injEq, Next.value.injEq] at hrun
    obtain ⟨rfl, rfl⟩ := hrun
    rfl
  | halt s w' => cases hrun

def resOne (tmps : Array Value) : ResultVar → Sem Value
  | .tmp t => pure (tmps.getD t undef)
  | .cell a t => do Go.loadVar t (← Go.asAddr (tmps.getD a undef))

theorem results_eq (fn : Func) (tmps : Array Value) : Go.results fn tmps = (do let vs ← fn.results.mapM (resOne tmps); pure (if h : vs.size = 1 then vs[0] else .tuple vs)) := by
  have : (fun | .tmp t => pure (tmps.getD t undef) | .cell a t => do Go.loadVar t (← Go.asAddr (tmps.getD a undef)) : ResultVar → Sem Value) = resOne tmps := by
    funext r; cases r <;> rfl
  unfold Go.results
  rw [← this]
  rfl

theorem results_run (hm : MR P ι m w) {ts : Tr AV} {a : Act} (hs : ∀ t, SlotR ι ts a t) : ∀ (rs : List ResultVar) (vs : List AV), evResults P ts m rs = some vs →
    ∃ zs, (rs.mapM (resOne a.tmps)).run P w = .ok zs w ∧ VRL ι vs zs
  | [], vs, h => by
    simp only [evResults, Option.some.injEq] at h
    subst h
    exact ⟨[], rfl, VRL.nil_iff.2 rfl⟩
  | r :: rs, vs, h => by
    simp only [evResults] at h
    split at h
    · rename_i v l hv hl
      injection h with h
      subst h
      obtain ⟨zs, hzs, rzs⟩ := results_run hm hs rs l hl
      have key : ∃ z, (resOne a.tmps r).run P w = .ok z w ∧ VR ι v z := by
        cases r with
        | tmp t =>
          simp only [evResult] at hv
          obtain ⟨z, e, rz⟩ := hs t v hv
          exact ⟨z, by simp [resOne, e], rz⟩
        | cell x t =>
          simp only [evResult] at hv
          have hx : ∃ y, ts.get x = some y := by
            cases hy : ts.get x with
            | none => rw [hy] at hv; cases hv
            | some y => exact ⟨y, rfl⟩
          obtain ⟨y, hy⟩ := hx
          obtain ⟨z0, e0, r0⟩ := hs x y hy
          have hread : ∃ fx, evRead P (fun _ => some y) { dst := none, op := .load t (.tmp 0), type := 0, pos := "", after := #[], guard := none } m = some (v, fx) := by
            unfold evRead
            simp only
            rw [hy] at hv
            split at hv
            · rename_i b off n he hn hg
              injection he with he
              subst he
              simp only [Option.map_eq_some_iff] at hv
              obtain ⟨cs, hc, rfl⟩ := hv
              exact ⟨.cells b off n, by simp [hn, hg, hc]⟩
            · rename_i b off n he hn hg
              injection he with he
              subst he
              split at hv
              · rename_i u hc
                injection hv with hv
                subst hv
                exact ⟨.cells b off 1, by simp [hn, hg, hc]⟩
              · cases hv
            · cases hv
          obtain ⟨fx, hread⟩ := hread
          obtain ⟨z, hz, rz⟩ := loadVar_run hm r0 hread
          exact ⟨z, by simp only [resOne, Array.getD_eq_getD_getElem?, e0, Option.getD_some]; exact hz, rz⟩
      obtain ⟨z, hz, rz⟩ := key
      refine ⟨z :: zs, ?_, VRL.cons rz rzs⟩
      rw [List.mapM_cons]
      simp only [Sem.run_bind]
      rw [hz]
      simp only [Result.andThen_ok, Sem.run_bind]
      rw [hzs]
      rfl
    · cases h

theorem tupled_run (hm : MR P ι m w) {ts : Tr AV} {a : Act} (hs : ∀ t, SlotR ι ts a t) {fn : Func} {vs : List AV} (h : evResults P ts m fn.results.toList = some vs) :
    ∃ z, (Go.results fn a.tmps).run P w = .ok z w ∧ VR ι (tupled vs) z := by
  obtain ⟨zs, hzs, rzs⟩ := results_run hm hs _ _ h
  have hl := VRL.length rzs
  rw [results_eq, Array.mapM_eq_mapM_toList]
  simp only [map_eq_pure_bind, Sem.run_bind]
  rw [hzs]
  simp only [Result.andThen_ok, Sem.run_pure]
  match vs, zs, rzs, hl with
  | [], [], _, _ => exact ⟨_, rfl, by simp only [tupled, VR]; exact ⟨#[], rfl, VRL.nil_iff.2 rfl⟩⟩
  | [v], [z], rzs, _ =>
    obtain ⟨z', zs', e, r1, _⟩ := VRL.cons_iff.1 rzs
    injection e with e1 e2
    subst e1
    exact ⟨z, rfl, r1⟩
  | v1 :: v2 :: vs, z1 :: z2 :: zs, rzs, _ => exact ⟨.tuple (z1 :: z2 :: zs).toArray, rfl, by simp only [tupled, VR]; exact ⟨_, rfl, rzs⟩⟩

/-- a contract for the functions that the evaluator does not step through -/
def PrimOk (P : Program) (B0 G : Nat) (prim : Prim) : Prop :=
  ∀ f p, prim f = some p → ∀ args m v m', p args m = some (v, m') → ∀ (ι : Inj) (w : World) (arr : Array Value), GlobR ι G → Rel P B0 ι m w → VRL ι args arr.toList →
    CallGives P f arr w fun z w' => ∃ κ, Step P B0 ι m w κ m' w' ∧ VR κ v z

/-- the functions' codes name their own slots, and none is the function that the model takes for itself -/
def Sane (P : Program) : Prop := ∀ (f : FuncId) (fn : Func) c, P.funcs[f]? = some fn → fn.body = some c → codeOk fn.ntmps c = true ∧ (fn.name == "runtime.NumGoroutine") = false

def saneB (P : Program) : Bool := P.funcs.toList.all fun fn => match fn.body with
  | some c => codeOk fn.ntmps c && !(fn.name == "runtime.NumGoroutine")
  | none => true

theorem sane_of (h : saneB P = true) : Sane P := by
  intro f fn c hf hb
  have := List.all_eq_true.1 h fn (List.mem_of_getElem? (i := f) (by simpa using hf))
  simp only [hb, Bool.and_eq_true, Bool.not_eq_true'] at this
  exact this

theorem enter_run {f : FuncId} {fn : Func} {c : Code} (hf : P.funcs[f]? = some fn) (hname : (fn.name == "runtime.NumGoroutine") = false) (hb : fn.body = some c) (args : Array Value) (w : World) :
    (callFunc f args).run P w = .ok (.enter f args) w := by
  have h1 : fn.name ≠ "runtime.NumGoroutine" := by simpa using hname
  simp [callFunc, hf, h1, hb]

theorem callWith_calls (hsane : Sane P) {prim : Prim} {run : Code → Tr AV → Mem → Option (XT × Tr AV × Mem)} (hrun : CodeOk P B0 G run) {f : FuncId} {args : List AV} {v : AV} {m' : Mem} (hp : prim f = none)
    (h : callWith P prim run f args m = some (v, m')) {arr : Array Value} (hG : GlobR ι G) (hR : Rel P B0 ι m w) (hargs : VRL ι args arr.toList) :
    (callFunc f arr).run P w = .ok (.enter f arr) w ∧ Calls P f arr w fun e w' => ∃ z, e = .returned z ∧ ∃ κ, Step P B0 ι m w κ m' w' ∧ VR κ v z := by
  unfold callWith at h
  rw [hp] at h
  simp only at h
  split at h
  · cases h
  · rename_i fn hf
    split at h
    · cases h
    · rename_i c hb
      refine ⟨enter_run hf (hsane f fn c hf hb).2 hb arr w, ?_⟩
      split at h
      · rename_i hc
        have hok := (hsane f fn c hf hb).1
        have hlen := VRL.length hargs
        rw [Array.length_toList] at hlen
        have key : ∀ x ts m2, run c (initT args 0 .nil) m = some (x, ts, m2) → (∀ i, x ≠ .exit i) → (evResults P ts m2 fn.results.toList).map (fun vs => (tupled vs, m2)) = some (v, m') →
            Calls P f arr w fun e w' => ∃ z, e = .returned z ∧ ∃ κ, Step P B0 ι m w κ m' w' ∧ VR κ v z := by
          intro x ts m2 hx hne hres
          simp only [Option.map_eq_some_iff, Prod.mk.injEq] at hres
          obtain ⟨vs, hvs, rfl, rfl⟩ := hres
          refine calls_of_wp hf hb (hrun c fn.ntmps _ m x ts m2 hok hx ι _ w [] _ hG hR ⟨fun t u hu => ?_, ?_, rfl⟩ fun κ a' w' st hA => ?_)
          · rw [initT_get] at hu
            split at hu
            · rename_i ht
              simp only [Nat.sub_zero, Nat.zero_add] at hu ht
              obtain ⟨z, hz, rz⟩ := VRL.get hargs hu
              rw [Array.getElem?_toList] at hz
              refine ⟨z, ?_, rz⟩
              rw [Array.getElem?_append_left (by omega)]
              exact hz
            · simp [Tr.get] at hu
          · simp; omega
          · obtain ⟨z, hz, rz⟩ := tupled_run st.rel.blk hA.slot hvs
            cases x with
            | exit i => exact absurd rfl (hne i)
            | normal => exact ⟨hA.defers, z, hz, z, rfl, κ, st, rz⟩
            | ret => exact ⟨hA.defers, z, hz, z, rfl, κ, st, rz⟩
        split at h
        · cases h
        · rename_i x ts m2 hne hx
          exact key x ts m2 hx (fun i e => hne i e) h
        · cases h
      · cases h

theorem callWith_ok {prim : Prim} (hprim : PrimOk P B0 G prim) (hsane : Sane P) {run : Code → Tr AV → Mem → Option (XT × Tr AV × Mem)} (hrun : CodeOk P B0 G run) :
    CallOk P B0 G (callWith P prim run) := by
  intro f args m v m' h ι w arr hG hR hargs
  cases hp : prim f with
  | some p =>
    unfold callWith at h
    rw [hp] at h
    exact hprim f p hp args m v m' h ι w arr hG hR hargs
  | none => exact .inl (callWith_calls hsane hrun hp h hG hR hargs)

theorem ev_ok (hm : P.follows .mixedOrders = true) {prim : Prim} (hprim : PrimOk P B0 G prim) (hsane : Sane P) : ∀ n,
    CodeOk P B0 G (ev P prim G n) ∧
    ∀ (c : Code) (nt : Nat) (ts : Tr AV) (m : Mem) (x : XT) (ts' : Tr AV) (m' : Mem), codeOk nt c = true → ev P prim G n (.loop c) ts m = some (x, ts', m') →
      ∀ (ι : Inj) (a : Act) (w : World) (ds : List Deferred) (Q : Exit → Act → World → Prop), GlobR ι G → Rel P B0 ι m w → ActR ι ts nt ds a →
        (∀ κ a' w', Step P B0 ι m w κ m' w' → ActR κ ts' nt ds a' → Q (toExit x) a' w') → Code.rounds P c Q n a w := by
  intro n
  induction n with
  | zero => exact ⟨fun c nt ts m x ts' m' _ h => (by cases h), fun c nt ts m x ts' m' _ h => (by cases h)⟩
  | succ n ih =>
    obtain ⟨ih1, ih2⟩ := ih
    have hcall := callWith_ok hprim hsane ih1
    have hloop : ∀ (c : Code) (nt : Nat) (ts : Tr AV) (m : Mem) (x : XT) (ts' : Tr AV) (m' : Mem), codeOk nt c = true → ev P prim G (n + 1) (.loop c) ts m = some (x, ts', m') →
      ∀ (ι : Inj) (a : Act) (w : World) (ds : List Deferred) (Q : Exit → Act → World → Prop), GlobR ι G → Rel P B0 ι m w → ActR ι ts nt ds a →
        (∀ κ a' w', Step P B0 ι m w κ m' w' → ActR κ ts' nt ds a' → Q (toExit x) a' w') → Code.rounds P c Q (n + 1) a w := by
      intro c nt ts m x ts' m' hok h ι a w ds Q hG hR hA hQ
      simp only [ev] at h
      rw [rounds_succ]
      cases hr : ev P prim G n c ts m with
      | none => rw [hr] at h; cases h
      | some r =>
        obtain ⟨x1, ts1, m1⟩ := r
        rw [hr] at h
        refine ih1 c nt ts m x1 ts1 m1 hok hr ι a w ds _ hG hR hA fun κ a' w' st hA' => ?_
        cases x1 with
        | normal =>
          simp only at h
          exact ih2 c nt ts1 m1 x ts' m' hok h κ a' w' ds Q (hG.mono st.le) st.rel hA' fun μ a'' w'' st' hA'' => hQ μ a'' w'' (st.trans st') hA''
        | exit i => injection h with h; cases h; exact hQ κ a' w' st hA'
        | ret => injection h with h; cases h; exact hQ κ a' w' st hA'
    refine ⟨?_, hloop⟩
    intro c nt ts m x ts' m' hok h ι a w ds Q hG hR hA hQ
    cases c with
    | skip =>
      simp only [ev, Option.some.injEq, Prod.mk.injEq] at h
      obtain ⟨rfl, rfl, rfl⟩ := h
      exact wp_skip (hQ ι a w (Step.refl hR) hA)
    | label l =>
      simp only [ev, Option.some.injEq, Prod.mk.injEq] at h
      obtain ⟨rfl, rfl, rfl⟩ := h
      exact wp_label (hQ ι a w (Step.refl hR) hA)
    | scope c =>
      simp only [ev] at h
      simp only [codeOk] at hok
      refine wp_scope_straight (ih1 c nt ts m x ts' m' hok h ι a w ds _ hG hR hA fun κ a' w' st hA' => ?_)
      have := hQ κ a' w' st hA'
      cases x <;> exact this
    | seq c d =>
      simp only [ev] at h
      simp only [codeOk, Bool.and_eq_true] at hok
      cases hr : ev P prim G n c ts m with
      | none => rw [hr] at h; cases h
      | some r =>
        obtain ⟨x1, ts1, m1⟩ := r
        rw [hr] at h
        refine wp_seq (ih1 c nt ts m x1 ts1 m1 hok.1 hr ι a w ds _ hG hR hA fun κ a' w' st hA' => ?_)
        cases x1 with
        | normal =>
          simp only at h
          exact ih1 d nt ts1 m1 x ts' m' hok.2 h κ a' w' ds Q (hG.mono st.le) st.rel hA' fun μ a'' w'' st' hA'' => hQ μ a'' w'' (st.trans st') hA''
        | exit i => injection h with h; cases h; exact hQ κ a' w' st hA'
        | ret => injection h with h; cases h; exact hQ κ a' w' st hA'
    | cond q c d =>
      simp only [ev] at h
      simp only [codeOk, Bool.and_eq_true] at hok
      have heval : ∀ b, evOperand G ts q = some (.bool b) → a.eval q = .bool b := fun b hb => VR.bool_inv (eval_of hG (fun t _ => hA.slot t) hb)
      split at h
      · rename_i hb
        exact wp_cond_true (heval _ hb) (ih1 c nt ts m x ts' m' hok.1 h ι a w ds Q hG hR hA hQ)
      · rename_i hb
        exact wp_cond_false (heval _ hb) (ih1 d nt ts m x ts' m' hok.2 h ι a w ds Q hG hR hA hQ)
      · cases h
    | block id c =>
      simp only [ev] at h
      simp only [codeOk] at hok
      cases hr : ev P prim G n c ts m with
      | none => rw [hr] at h; cases h
      | some r =>
        obtain ⟨x1, ts1, m1⟩ := r
        rw [hr] at h
        refine wp_block (ih1 c nt ts m x1 ts1 m1 hok hr ι a w ds _ hG hR hA fun κ a' w' st hA' => ?_)
        cases x1 with
        | normal => injection h with h; cases h; exact hQ κ a' w' st hA'
        | exit i =>
          simp only at h
          simp only [toExit, Exit.inBlock]
          split at h
          · rename_i e
            simp only [Option.some.injEq, Prod.mk.injEq] at h
            obtain ⟨rfl, rfl, rfl⟩ := h
            rw [if_pos e]
            exact hQ κ a' w' st hA'
          · rename_i e
            simp only [Option.some.injEq, Prod.mk.injEq] at h
            obtain ⟨rfl, rfl, rfl⟩ := h
            rw [if_neg e]
            exact hQ κ a' w' st hA'
        | ret => injection h with h; cases h; exact hQ κ a' w' st hA'
    | loop c =>
      simp only [codeOk] at hok
      exact wp_loop_rounds (n + 1) (hloop c nt ts m x ts' m' hok h ι a w ds Q hG hR hA hQ)
    | exit id =>
      simp only [ev, Option.some.injEq, Prod.mk.injEq] at h
      obtain ⟨rfl, rfl, rfl⟩ := h
      exact wp_exit (hQ ι a w (Step.refl hR) hA)
    | ret =>
      simp only [ev, Option.some.injEq, Prod.mk.injEq] at h
      obtain ⟨rfl, rfl, rfl⟩ := h
      exact wp_ret (hQ ι a w (Step.refl hR) hA)
    | region id ops draw =>
      simp only [codeOk, Bool.and_eq_true, Bool.or_eq_true, Bool.not_eq_true'] at hok
      have hops : ∀ o ∈ ops.toList, o.dst.all (· < nt) = true := fun o ho => List.all_eq_true.1 hok.1 o ho
      cases draw with
      | false =>
        simp only [ev, Option.map_eq_some_iff, Prod.mk.injEq] at h
        obtain ⟨⟨ts1, m1⟩, h1, rfl, rfl, rfl⟩ := h
        exact wp_region_list (evOps_wp hcall ops.toList hops hG hR hA h1 fun κ a' w' st hA' => hQ κ a' w' st hA')
      | true =>
        simp only [ev] at h
        have h2 := hok.2.resolve_left (by simp)
        split at h
        · rename_i ts1 m1 l h1
          split at h
          · rename_i hd
            simp only [Option.some.injEq, Prod.mk.injEq] at h
            obtain ⟨rfl, rfl, rfl⟩ := h
            exact evDraw_wp hm hcall hok.1 h2.1 h2.2 h1 hd hG hR hA fun κ a' w' st hA' => hQ κ a' w' st hA'
          · cases h
        · cases h
    | _ => simp only [ev] at h; cases h

/-- THE EVALUATOR's WORD FOR A CALL -/
theorem evCall_calls (hm : P.follows .mixedOrders = true) {prim : Prim} (hprim : PrimOk P B0 G prim) (hsane : Sane P) {n : Nat} {f : FuncId} {args : List AV} {m m' : Mem} {v : AV} (hp : prim f = none) (h : evCall P prim G n f args m = some (v, m'))
    {arr : Array Value} (hG : GlobR ι G) (hR : Rel P B0 ι m w) (ha : VRL ι args arr.toList) :
    Calls P f arr w fun e w' => ∃ z, e = .returned z ∧ ∃ κ, Step P B0 ι m w κ m' w' ∧ VR κ v z :=
  (callWith_calls hsane (ev_ok hm hprim hsane n).1 hp h hG hR ha).2

end
end Go.Proofs.YtcbileongahhiaaGreat.Ev
