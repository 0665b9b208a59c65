/- The operations of a region, one behind the other. -/
import Derived.Test.YtcbileongahhiaaGreatEvEff4
import Derived.Tactics
namespace Go.Proofs.YtcbileongahhiaaGreat.Ev
open Go
set_option linter.unusedVariables false
set_option linter.unusedSimpArgs false

section
variable {P : Program} {B0 : Nat} {ι : Inj} {m : Mem} {w : World}

theorem evNew_own {ρ : Operand → Option AV} {o : Oper} {rf : Ref} {blk : Blk} (h : evNew P ρ o = some (rf, blk)) : blk.own = true := by
  unfold evNew at h
  repeat' split at h
  all_goals first
    | cases h; done
    | (simp only [Option.map_eq_some_iff, Option.some.injEq, Prod.mk.injEq] at h
       first
         | (obtain ⟨_, rfl⟩ := h; rfl)
         | (obtain ⟨_, _, _, rfl⟩ := h; rfl))

/-- a slot of the evaluator's, and one of the frame's -/
def SlotR (ι : Inj) (ts : Tr AV) (a : Act) (t : Tmp) : Prop := ∀ v, ts.get t = some v → ∃ z, a.tmps[t]? = some z ∧ VR ι v z

/-- every global lies at its own place -/
def GlobR (ι : Inj) (G : Nat) : Prop := ∀ g, g < G → ∃ s, ι g = some ⟨g, 0, s⟩

theorem GlobR.mono {κ : Inj} {G : Nat} (h : GlobR ι G) (hle : Le ι κ) : GlobR κ G := fun g hg => let ⟨s, e⟩ := h g hg; ⟨s, hle _ _ e⟩

theorem SlotR.mono {κ : Inj} {ts : Tr AV} {a : Act} {t : Tmp} (h : SlotR ι ts a t) (hle : Le ι κ) : SlotR κ ts a t := fun v hv => let ⟨z, e, r⟩ := h v hv; ⟨z, e, VR.mono hle _ _ r⟩

theorem mem_tmpsOf {l : List Operand} {t : Tmp} : t ∈ tmpsOf l ↔ Operand.tmp t ∈ l := by
  unfold tmpsOf
  rw [List.mem_filterMap]
  constructor
  · rintro ⟨x, hx, he⟩
    cases x <;> simp at he
    subst he
    exact hx
  · intro h; exact ⟨_, h, rfl⟩

theorem eval_of {ts : Tr AV} {a : Act} {G : Nat} (hG : GlobR ι G) {x : Operand} {v : AV} (hs : ∀ t, x = .tmp t → SlotR ι ts a t) (h : evOperand G ts x = some v) : VR ι v (a.eval x) := by
  cases x with
  | tmp t =>
    obtain ⟨z, e, r⟩ := hs t rfl v h
    simp only [Act.eval, Array.getD_eq_getD_getElem?, e, Option.getD_some]
    exact r
  | const c => exact VR.of_toAV h
  | global g =>
    simp only [evOperand] at h
    split at h
    case isFalse => cases h
    rename_i hg
    injection h with h
    subst h
    obtain ⟨s, e⟩ := hG g hg
    simp only [VR, Act.eval]
    exact ⟨_, e, rfl⟩
  | func f =>
    simp only [evOperand, Option.some.injEq] at h
    subst h
    simp only [VR, Act.eval]
    exact ⟨#[], #[], rfl, VRL.nil_iff.2 rfl, VRL.nil_iff.2 rfl⟩

theorem opdR_of {ts : Tr AV} {a : Act} {o : Oper} {G : Nat} (hG : GlobR ι G) (hs : ∀ t ∈ tmpsOf o.op.operands.toList, SlotR ι ts a t) : OpdR ι (evOperand G ts) a.eval o := by
  intro x hx v hv
  exact eval_of hG (fun t ht => hs t (mem_tmpsOf.2 (ht ▸ hx))) hv

theorem wanted_of {ops : Array Oper} {ts : Tr AV} {a : Act} {o : Oper} {b : Bool} (hs : ∀ g want t, o.guard = some (g, want) → (ops[g]?).bind (·.dst) = some t → SlotR ι ts a t)
    (h : wantedAV ops ts o = some b) : Region.wanted o (yielded ops a.tmps) = b := by
  unfold wantedAV at h
  unfold Region.wanted
  split at h
  · rename_i hg; rw [hg]; injection h
  · rename_i g want hg
    rw [hg]
    simp only
    split at h
    · rename_i d hd
      unfold yielded
      have hs' := hs g want d hg hd
      split at h
      · rename_i q hq
        obtain ⟨z, e, r⟩ := hs' _ hq
        have := VR.bool_inv r
        subst this
        injection h with h
        subst h
        simp [hd, e]
      · rename_i q hq
        obtain ⟨z, e, r⟩ := hs' _ hq
        obtain ⟨l, e', _⟩ := VR.tup_inv r
        subst e'
        injection h with h
        subst h
        simp [hd, e]
      · cases h
    · cases h

/-- a call: it is entered, and comes back; or it gives its value at once -/
def CallGives (P : Program) (f : FuncId) (arr : Array Value) (w : World) (R : Value → World → Prop) : Prop :=
  ((callFunc f arr).run P w = .ok (.enter f arr) w ∧ Calls P f arr w fun e w' => ∃ z, e = .returned z ∧ R z w') ∨
  ∃ z w', (callFunc f arr).run P w = .ok (.value z) w' ∧ R z w'

/-- what the calls of functions give -/
def CallOk (P : Program) (B0 G : Nat) (call : FuncId → List AV → Mem → Option (AV × Mem)) : Prop :=
  ∀ f args m v m', call f args m = some (v, m') → ∀ (ι : Inj) (w : World) (arr : Array Value), GlobR ι G → Rel P B0 ι m w → VRL ι args arr.toList →
    CallGives P f arr w fun z w' => ∃ κ, Step P B0 ι m w κ m' w' ∧ VR κ v z

theorem callTo_run {ρ : Operand → Option AV} {ev : Operand → Value} {o : Oper} {f : FuncId} {args : List AV} (hρ : OpdR ι ρ ev o) (h : callTo ρ o = some (f, args)) :
    ∃ arr : Array Value, (∀ w, (execOp ev o).run P w = (callFunc f arr).run P w) ∧ VRL ι args arr.toList := by
  unfold OpdR at hρ
  unfold callTo at h
  split at h
  · rename_i fo as tys hop
    split at h
    · rename_i g first captured l hf hl
      simp only [Option.some.injEq, Prod.mk.injEq] at h
      obtain ⟨rfl, rfl⟩ := h
      obtain ⟨l', c', e, r1, r2⟩ := VR.func_inv (hρ fo (by simp [hop, Op.operands, Call.operands]) _ hf)
      refine ⟨l' ++ as.map ev ++ c', fun w => by simp [execOp, hop, resolve, e, Deferred.ofValue, invoke], ?_⟩
      rw [Array.toList_append, Array.toList_append, Array.toList_map]
      exact (r1.append (VRL.of_opVals (fun x hx => hρ x (by rw [hop]; simp [Op.operands, Call.operands]; exact .inr (by simpa using hx))) hl)).append r2
    · cases h
  · cases h

/-- an operation that writes memory, or a call -/
theorem evCall_wp {call : FuncId → List AV → Mem → Option (AV × Mem)} {G : Nat} (hcall : CallOk P B0 G call) (hG : GlobR ι G) (hR : Rel P B0 ι m w) {ts : Tr AV} {a : Act} {o : Oper} {f : FuncId} {args : List AV} {v : AV} {m' : Mem}
    (hρ : OpdR ι (evOperand G ts) a.eval o) (h : callTo (evOperand G ts) o = some (f, args)) (hc : call f args m = some (v, m')) {K : Act → World → Prop} {Q : Exit → Act → World → Prop}
    (hK : ∀ z κ w', Step P B0 ι m w κ m' w' → VR κ v z → K (a.put o.dst z) w') : o.wp P a w K Q := by
  obtain ⟨arr, h1, h2⟩ := callTo_run (P := P) hρ h
  unfold Oper.wp
  rw [h1]
  rcases hcall f args m v m' hc ι w arr hG hR h2 with ⟨h3, h4⟩ | ⟨z, w', h3, κ, st, r⟩
  · rw [h3]
    simp only [Oper.upon]
    refine Calls.mono h4 fun e w' he => ?_
    obtain ⟨z, rfl, κ, st, r⟩ := he
    exact hK z κ w' st r
  · rw [h3]
    exact hK z κ w' st r

theorem evOper_wp {call : FuncId → List AV → Mem → Option (AV × Mem)} {G : Nat} (hcall : CallOk P B0 G call) (hG : GlobR ι G) (hR : Rel P B0 ι m w) {ts : Tr AV} {a : Act} {o : Oper} {v : AV} {m' : Mem} {fx : Fx}
    (hρ : OpdR ι (evOperand G ts) a.eval o) (h : evOper P G call o ts m = some (v, m', fx)) {K : Act → World → Prop} {Q : Exit → Act → World → Prop}
    (hK : ∀ z κ w', Step P B0 ι m w κ m' w' → VR κ v z → K (a.put o.dst z) w') : o.wp P a w K Q := by
  unfold evOper at h
  split at h
  · rename_i f args hto
    simp only [Option.map_eq_some_iff, Prod.mk.injEq] at h
    obtain ⟨⟨v', m2⟩, hc, rfl, rfl, rfl⟩ := h
    exact evCall_wp hcall hG hR hρ hto hc hK
  · unfold evOp at h
    split at h
    · rename_i v' hp
      simp only [Option.some.injEq, Prod.mk.injEq] at h
      obtain ⟨rfl, rfl, rfl⟩ := h
      obtain ⟨z, hrun, r⟩ := evPure_run hρ hp
      exact Gives.upon (.inl (hrun w)) (hK z ι w (Step.refl hR) r)
    · split at h
      · rename_i rf x hn
        simp only [Option.some.injEq, Prod.mk.injEq] at h
        obtain ⟨rfl, rfl, rfl⟩ := h
        obtain ⟨z, w', hrun, hM⟩ := evNew_run hρ hn w
        obtain ⟨κ, st, r⟩ := hM.step hR (evNew_own hn)
        exact Gives.upon (.inl hrun) (hK z κ w' st r)
      · split at h
        · rename_i v' fx' hr
          simp only [Option.some.injEq, Prod.mk.injEq] at h
          obtain ⟨rfl, rfl, rfl⟩ := h
          obtain ⟨z, hrun, r⟩ := evRead_run hR.blk hρ hr
          exact Gives.upon (.inl hrun) (hK z ι w (Step.refl hR) r)
        · simp only [Option.map_eq_some_iff, Prod.mk.injEq] at h
          obtain ⟨⟨v', m2⟩, hc, rfl, rfl, rfl⟩ := h
          obtain ⟨z, w', κ, hg, st, r⟩ := evEff_run hR hρ hc
          exact Gives.upon hg (hK z κ w' st r)

/-- the slots of a frame, all of them -/
structure ActR (ι : Inj) (ts : Tr AV) (nt : Nat) (ds : List Deferred) (a : Act) : Prop where
  slot : ∀ t, SlotR ι ts a t
  size : a.tmps.size = nt
  defers : a.defers = ds

theorem ActR.mono {κ : Inj} {ts : Tr AV} {nt : Nat} {ds : List Deferred} {a : Act} (h : ActR ι ts nt ds a) (hle : Le ι κ) : ActR κ ts nt ds a := ⟨fun t => (h.slot t).mono hle, h.size, h.defers⟩

theorem put_size (a : Act) (d : Option Tmp) (z : Value) : (a.put d z).tmps.size = a.tmps.size := by cases d <;> simp [Act.put]
theorem put_defers (a : Act) (d : Option Tmp) (z : Value) : (a.put d z).defers = a.defers := by cases d <;> rfl

theorem put_get (a : Act) (d t : Tmp) (z : Value) (h : d < a.tmps.size) : (a.put (some d) z).tmps[t]? = if t = d then some z else a.tmps[t]? := by
  simp only [Act.put, Array.getElem?_setIfInBounds]
  by_cases e : d = t
  · subst e; simp [h]
  · rw [if_neg e, if_neg (fun e' => e e'.symm)]

theorem setT_get (ts : Tr AV) (d : Option Tmp) (v : AV) (t : Tmp) : (setT ts d v).get t = if d = some t then some v else ts.get t := by
  cases d with
  | none => simp [setT]
  | some d =>
    simp only [setT, Tr.get_put, Option.some.injEq]
    by_cases e : t = d
    · subst e; simp
    · rw [if_neg e, if_neg (fun e' => e e'.symm)]

theorem ActR.put {ts : Tr AV} {nt : Nat} {ds : List Deferred} {a : Act} (h : ActR ι ts nt ds a) {d : Option Tmp} (hd : d.all (· < nt) = true) {v : AV} {z : Value} (r : VR ι v z) : ActR ι (setT ts d v) nt ds (a.put d z) := by
  refine ⟨fun t u hu => ?_, by rw [put_size, h.size], by rw [put_defers, h.defers]⟩
  rw [setT_get] at hu
  cases d with
  | none =>
    rw [if_neg (by simp)] at hu
    exact h.slot t u hu
  | some d =>
    have hd' : d < a.tmps.size := by rw [h.size]; simpa using hd
    rw [put_get a d t z hd']
    by_cases e : d = t
    · subst e
      rw [if_pos rfl] at hu
      injection hu with hu
      subst hu
      exact ⟨z, by simp, r⟩
    · rw [if_neg (by simpa using e)] at hu
      rw [if_neg (fun e' => e e'.symm)]
      exact h.slot t u hu

theorem evOps_wp {call : FuncId → List AV → Mem → Option (AV × Mem)} {G nt : Nat} {ds : List Deferred} (hcall : CallOk P B0 G call) {ops : Array Oper} {Q : Exit → Act → World → Prop} : ∀ (rest : List Oper), (∀ o ∈ rest, o.dst.all (· < nt) = true) →
    ∀ {ι : Inj} {m : Mem} {w : World} {ts ts' : Tr AV} {m' : Mem} {a : Act}, GlobR ι G → Rel P B0 ι m w → ActR ι ts nt ds a → evOps P G call ops rest ts m = some (ts', m') →
    (∀ κ a' w', Step P B0 ι m w κ m' w' → ActR κ ts' nt ds a' → Q .normal a' w') → wpList P ops Q rest a w
  | [], _, ι, m, w, ts, ts', m', a, _, hR, hA, h, hQ => by
    simp only [evOps, Option.some.injEq, Prod.mk.injEq] at h
    obtain ⟨rfl, rfl⟩ := h
    exact hQ ι a w (Step.refl hR) hA
  | o :: rest, hok, ι, m, w, ts, ts', m', a, hG, hR, hA, h, hQ => by
    have ho := hok o (by simp)
    have hrest : ∀ o ∈ rest, o.dst.all (· < nt) = true := fun o h => hok o (by simp [h])
    simp only [evOps] at h
    unfold wpList
    split at h
    · rename_i hw
      rw [wanted_of (fun g want t _ _ => hA.slot t) hw, if_pos rfl]
      split at h
      · rename_i v m2 fx hop
        refine .inl (evOper_wp hcall hG hR (opdR_of hG fun t _ => hA.slot t) hop fun z κ w' st r => ?_)
        exact evOps_wp hcall rest hrest (hG.mono st.le) st.rel ((hA.mono st.le).put ho r) h fun μ a' w'' st' hA' => hQ μ a' w'' (st.trans st') hA'
      · cases h
    · rename_i hw
      rw [wanted_of (fun g want t _ _ => hA.slot t) hw, if_neg (by simp)]
      exact evOps_wp hcall rest hrest hG hR (hA.put ho VR.tup0) h hQ
    · cases h

end
end Go.Proofs.YtcbileongahhiaaGreat.Ev
