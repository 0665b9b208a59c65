/- A region whose order is drawn: the theorem. -/
import Derived.Test.YtcbileongahhiaaGreatEvDraw3
namespace Go.Proofs.YtcbileongahhiaaGreat.Ev
open Go
set_option linter.unusedVariables false
set_option linter.unusedSimpArgs false

/-- what is known of the text's order -/
structure DrawH (P : Program) (call : FuncId → List AV → Mem → Option (AV × Mem)) (base : Nat) (ops : Array Oper) (T : Trace) (nt G : Nat) : Prop where
  at_ : ∀ (i : Nat) o, ops[i]? = some o → Trace.At P G call base ops T i o
  ahead : ∀ r, r < ops.size → notAhead base ops.size r (T.fx r) = true
  eff : ∀ r e, r < ops.size → e < ops.size → T.fx r = .eff → T.fx e = .eff → e = r ∨ Bef ops r e ∨ Bef ops e r
  read : ∀ r e, r < ops.size → e < ops.size → T.fx r ≠ .eff → T.fx r ≠ .none → T.fx r ≠ .alloc → T.fx e = .eff → (Bef ops r e ∨ Bef ops e r) ∨ sameAt (T.m e) (T.m (e + 1)) (T.fx r) = true
  slots : ∀ (j : Nat) o t (i : Nat) o', ops[j]? = some o → t ∈ namesOf ops o → ops[i]? = some o' → o'.dst = some t → i = j ∨ Bef ops i j ∨ Bef ops j i
  ok : ∀ (i : Nat) o, ops[i]? = some o → o.dst.all (· < nt) = true
  edge : ∀ (j : Nat) o e, ops[j]? = some o → e ∈ o.after → Region.binds .any e = true → e.on < j

structure DInv (P : Program) (B0 base : Nat) (ops : Array Oper) (ι0 : Inj) (m0 : Mem) (w0 : World) (T : Trace) (nt : Nat) (ds : List Deferred) (S : Nat → Bool) (c : Nat) (ι : Inj) (a : Act) (w : World) : Prop where
  inv : FInv P B0 base ops.size ι0 m0 w0 T S c ι w
  slot : ∀ t v, sl ops T S ops.size t = some v → ∃ z, a.tmps[t]? = some z ∧ VR ι v z
  size : a.tmps.size = nt
  defers : a.defers = ds

def Closed (ops : Array Oper) (S : Nat → Bool) : Prop := ∀ (j : Nat) o, S j = true → ops[j]? = some o → ∀ e ∈ o.after, Region.binds .any e = true → S e.on = true

section
variable {P : Program} {call : FuncId → List AV → Mem → Option (AV × Mem)} {B0 base nt G : Nat} {ops : Array Oper} {ι ι0 : Inj} {m0 : Mem} {w w0 : World} {T : Trace} {ds : List Deferred} {S : Nat → Bool} {c : Nat} {a : Act}

theorem lt_of_op {i : Nat} {o : Oper} (h : ops[i]? = some o) : i < ops.size := (Array.getElem?_eq_some_iff.1 h).1

theorem DrawH.two (H : DrawH P call base ops T nt G) (hS : Closed ops S) {r : Nat} {o : Oper} (ho : ops[r]? = some o) (hr : S r = false) (hrd : ∀ e ∈ o.after, Region.binds .any e = true → S e.on = true) :
    (∀ i, Bef ops i r → S i = true ∧ i < r) ∧ (∀ (i : Nat) o', ops[i]? = some o' → Bef ops r i → S i = false ∧ r < i) := by
  refine ⟨fun i h => ⟨Bef.mem hS (fun o' ho' => ?_) h, h.lt⟩, fun i o' ho' h => ⟨?_, h.lt⟩⟩
  · rw [ho] at ho'; injection ho' with ho'; subst ho'; exact hrd
  · cases hs : S i with
    | false => rfl
    | true =>
      have := Bef.mem hS (fun o'' ho'' => hS i o'' hs ho'') h
      rw [hr] at this; cases this

/-- a slot that an operation names shows what the text's order shows -/
theorem DrawH.slot (H : DrawH P call base ops T nt G) (hS : Closed ops S) {r : Nat} {o : Oper} (ho : ops[r]? = some o) (hr : S r = false) (hrd : ∀ e ∈ o.after, Region.binds .any e = true → S e.on = true) {t : Tmp} (ht : t ∈ namesOf ops o)
    (h : DInv P B0 base ops ι0 m0 w0 T nt ds S c ι a w) : SlotR ι (T.ts r) a t := by
  obtain ⟨h1, h2⟩ := H.two hS ho hr hrd
  have hrn := lt_of_op ho
  have key : sl ops T S ops.size t = (T.ts r).get t := by
    have := sl_eq (ops := ops) (T := T) (S := S) (n := ops.size) (r := r) (t := t) (fun i hi => ⟨ops[i], Array.getElem?_eq_getElem hi, (H.at_ i _ (Array.getElem?_eq_getElem hi)).ts⟩) (fun i o' hi ho' hd => ?_) ops.size (Nat.le_refl _)
    · rwa [show min ops.size r = r by omega] at this
    · rcases H.slots r o t i o' ho ht ho' hd with e | e | e
      · subst e; simp [hr]
      · have := h1 i e; simp [this.1, this.2]
      · have := h2 i o' ho' e
        rw [this.1]
        simp
        omega
  intro v hv
  exact h.slot t v (key ▸ hv)

/-- what is left to show behind an operation -/
theorem DInv.put (H : DrawH P call base ops T nt G) (hS : Closed ops S) {r : Nat} {o : Oper} (ho : ops[r]? = some o) (hr : S r = false) (hrd : ∀ e ∈ o.after, Region.binds .any e = true → S e.on = true)
    (h : DInv P B0 base ops ι0 m0 w0 T nt ds S c ι a w) {κ : Inj} {c' : Nat} {w' : World} {z : Value} (hF : FInv P B0 base ops.size ι0 m0 w0 T (ins S r) c' κ w') (hle : Le ι κ) (hz : VR κ (T.v r) z) :
    DInv P B0 base ops ι0 m0 w0 T nt ds (ins S r) c' κ (a.put o.dst z) w' := by
  obtain ⟨h1, h2⟩ := H.two hS ho hr hrd
  have hrn := lt_of_op ho
  have hdst := (H.ok r o ho)
  refine ⟨hF, fun t v hv => ?_, by rw [put_size, h.size], by rw [put_defers, h.defers]⟩
  rw [sl_put (n := ops.size) ho hr (fun i o' hi hin ho' hd hd2 => ?_) ops.size (Nat.le_refl _)] at hv
  · cases hd : o.dst with
    | none =>
      rw [if_neg (fun e => by rw [hd] at e; cases e.2)] at hv
      obtain ⟨z', e, rz⟩ := h.slot t v hv
      exact ⟨z', by simpa [Act.put] using e, VR.mono hle _ _ rz⟩
    | some d =>
      have hd' : d < a.tmps.size := by rw [h.size]; rw [hd] at hdst; simpa using hdst
      rw [put_get a d t z hd']
      by_cases e : t = d
      · rw [if_pos ⟨hrn, by rw [hd, e]⟩] at hv
        injection hv with hv
        subst hv
        exact ⟨z, by rw [if_pos e], hz⟩
      · rw [if_neg (fun e' => e (by rw [hd] at e'; injection e'.2 with e2; exact e2.symm))] at hv
        rw [if_neg e]
        obtain ⟨z', e, rz⟩ := h.slot t v hv
        exact ⟨z', e, VR.mono hle _ _ rz⟩
  · have hmem : t ∈ namesOf ops o := by simp [namesOf, hd2]
    rcases H.slots r o t i o' ho hmem ho' hd with e | e | e
    · omega
    · have := (h1 i e).2; omega
    · exact (h2 i o' ho' e).1

theorem draw_op (hcall : CallOk P B0 G call) (H : DrawH P call base ops T nt G) (hG : GlobR ι0 G) (hS : Closed ops S) {r : Nat} {o : Oper} (ho : ops[r]? = some o) (hr : S r = false) (hrd : ∀ e ∈ o.after, Region.binds .any e = true → S e.on = true)
    (h : DInv P B0 base ops ι0 m0 w0 T nt ds S c ι a w) {K : Act → World → Prop} {Q : Exit → Act → World → Prop}
    (hK : ∀ c' κ a' w', DInv P B0 base ops ι0 m0 w0 T nt ds (ins S r) c' κ a' w' → K a' w') : wpOp P ops Q r K a w := by
  obtain ⟨h1, h2⟩ := H.two hS ho hr hrd
  have hrn := lt_of_op ho
  have hat := H.at_ r o ho
  have hall : ∀ i, i < ops.size → ∃ o, Trace.At P G call base ops T i o := fun i hi => ⟨_, H.at_ i _ (Array.getElem?_eq_getElem hi)⟩
  have hslot : ∀ t ∈ namesOf ops o, SlotR ι (T.ts r) a t := fun t ht => H.slot hS ho hr hrd ht h
  have hguard : ∀ (g : Nat) want t, o.guard = some (g, want) → (ops[g]?).bind (·.dst) = some t → SlotR ι (T.ts r) a t := fun g want t hg ht => hslot t (by simp [namesOf, hg, ht])
  have hfin : ∀ c' κ w' z, FInv P B0 base ops.size ι0 m0 w0 T (ins S r) c' κ w' → Le ι κ → VR κ (T.v r) z → K (a.put o.dst z) w' := fun c' κ w' z hF hle hz => hK _ _ _ _ (DInv.put H hS ho hr hrd h hF hle hz)
  have hle0 : Le ι0 ι := h.inv.step.le
  unfold wpOp
  rw [ho]
  rcases hat.does with ⟨hw, hv, hm, hfx⟩ | ⟨hw, hop⟩
  · -- not wanted
    simp only
    rw [wanted_of hguard hw, if_neg (by simp)]
    exact hfin c ι w _ (h.inv.stay (by rw [hfx]; simp) (by rw [hfx]; simp)) (Le.refl _) (by rw [hv]; exact VR.tup0)
  · simp only
    rw [wanted_of hguard hw, if_pos rfl]
    left
    have hρ : OpdR ι (evOperand G (T.ts r)) a.eval o := opdR_of (hG.mono hle0) fun t ht => hslot t (by simp [namesOf, ht])
    have heff : T.fx r = .eff → ∃ hF : FInv P B0 base ops.size ι0 m0 w0 T S r ι w, True := fun hf => by
      have hcr : c ≤ r := by
        rcases Nat.lt_or_ge r c with hlt | hge
        · have := (h.inv.eff r hrn hf).2 hlt
          rw [hr] at this; cases this
        · exact hge
      refine ⟨FInv.forward hall (Nat.le_of_lt hrn) (r - c) c (by omega) h.inv fun e he1 he2 hfe => ?_, trivial⟩
      have hen : e < ops.size := by omega
      rcases H.eff r e hrn hen hf hfe with e' | e' | e'
      · omega
      · have := e'.lt; omega
      · have := (h.inv.eff e hen hfe).1 (h1 e e').1
        omega
    unfold evOperAt at hop
    split at hop
    · -- a call
      rename_i f args hto
      simp only [Option.map_eq_some_iff, Prod.mk.injEq] at hop
      obtain ⟨⟨v', m2⟩, hc, e1, e2, e3⟩ := hop
      simp only at e1 e2 e3
      subst e2
      obtain ⟨hF, _⟩ := heff e3.symm
      refine evCall_wp hcall (hG.mono hle0) hF.step.rel hρ hto hc fun z κ w' st rz => ?_
      exact hfin (r + 1) κ w' z (hF.does rfl hrn hr e3.symm st) st.le (by rw [← e1]; exact rz)
    · unfold evOpAt at hop
      split at hop
      · rename_i v' hp
        simp only [Option.some.injEq, Prod.mk.injEq] at hop
        obtain ⟨e1, e2, e3⟩ := hop
        obtain ⟨z, hrun, rz⟩ := evPure_run hρ hp
        exact Gives.upon (.inl (hrun w)) (hfin c ι w z (h.inv.stay (by rw [← e3]; simp) (by rw [← e3]; simp)) (Le.refl _) (by rw [← e1]; exact rz))
      · split at hop
        · rename_i rf x hn
          simp only [Option.some.injEq, Prod.mk.injEq] at hop
          obtain ⟨e1, e2, e3⟩ := hop
          obtain ⟨z, w', hrun, hM⟩ := evNew_run hρ hn w
          obtain ⟨κ, hF, rz, hle⟩ := h.inv.made hrn hr e3.symm (x := x) (by rw [← e2, Mem.get_set, if_pos rfl]) hM
          exact Gives.upon (.inl hrun) (hfin c κ w' z hF hle (by rw [← e1]; exact rz))
        · split at hop
          · rename_i v' fx' hrd'
            simp only [Option.some.injEq, Prod.mk.injEq] at hop
            obtain ⟨e1, e2, e3⟩ := hop
            subst e3
            have hkinds := evRead_kinds hrd'
            -- the look shows the same now
            obtain ⟨V, hV⟩ := vget_ex (base := base) (T.flo base) c (T.m c) (ops.size - c)
            have hcn := h.inv.hc
            have hV' : ∀ b, V.get b = vget T base ops.size c b := fun b => by
              rw [hV, show c + (ops.size - c) = ops.size by omega]; rfl
            have hag : Agree (vget T base ops.size r) (vget T base ops.size c) (T.fx r) := by
              have hord : ∀ e, e < ops.size → T.fx e = .eff → (r ≤ e ∧ e < c ∨ c ≤ e ∧ e < r) → sameAt (T.m e) (T.m (e + 1)) (T.fx r) = true := by
                intro e hen hfe hb
                have hSe := h.inv.eff e hen hfe
                rcases H.read r e hrn hen hkinds.1 hkinds.2.1 hkinds.2.2 hfe with (e' | e') | e'
                · exfalso
                  have := h2 e _ (Array.getElem?_eq_getElem hen) e'
                  rw [this.1] at hSe
                  have hlt := this.2
                  rcases hb with hb | hb
                  · have := hSe.2 hb.2; cases this
                  · omega
                · exfalso
                  have := h1 e e'
                  rw [this.1] at hSe
                  have hec := hSe.1 rfl
                  rcases hb with hb | hb
                  · omega
                  · omega
                · exact e'
              rcases Nat.le_total r c with hrc | hrc
              · have := vget_chain (base := base) (fx := T.fx r) hall (c - r) r (by omega) fun e h1 h2 hf => hord e (by omega) hf (.inl ⟨h1, by omega⟩)
                rwa [show r + (c - r) = c by omega] at this
              · have := vget_chain (base := base) (fx := T.fx r) hall (r - c) c (by omega) fun e h1 h2 hf => hord e (by omega) hf (.inr ⟨h1, by omega⟩)
                rw [show c + (r - c) = r by omega] at this
                exact this.symm
            have hag2 : Agree (T.m r).get V.get (T.fx r) := by
              have e : V.get = vget T base ops.size c := funext hV'
              rw [e]
              exact (vget_here (H.ahead r hrn)).symm.trans hag
            have hrd2 := evRead_agree hrd' hag2
            obtain ⟨z, hrun, rz⟩ := evRead_run (h.inv.looks hV') hρ hrd2
            exact Gives.upon (.inl hrun) (hfin c ι w z (h.inv.stay hkinds.1 hkinds.2.2) (Le.refl _) (by rw [← e1]; exact rz))
          · simp only [Option.map_eq_some_iff, Prod.mk.injEq] at hop
            obtain ⟨⟨v', m2⟩, hc, e1, e2, e3⟩ := hop
            simp only at e1 e2 e3
            subst e2
            obtain ⟨hF, _⟩ := heff e3.symm
            obtain ⟨z, w', κ, hg, st, rz⟩ := evEff_run hF.step.rel hρ hc
            exact Gives.upon hg (hfin (r + 1) κ w' z (hF.does rfl hrn hr e3.symm st) st.le (by rw [← e1]; exact rz))

theorem draw_any (hcall : CallOk P B0 G call) (H : DrawH P call base ops T nt G) (hG : GlobR ι0 G) {Q : Exit → Act → World → Prop}
    (hQ : ∀ κ a' w', Step P B0 ι0 m0 w0 κ (T.m ops.size) w' → ActR κ (T.ts ops.size) nt ds a' → Q .normal a' w') :
    ∀ (fuel : Nat) (listed : Array Bool) (c : Nat) (ι : Inj) (a : Act) (w : World), listed.size = ops.size → listed.toList.count false ≤ fuel → Closed ops (fun j => listed.getD j false) →
      DInv P B0 base ops ι0 m0 w0 T nt ds (fun j => listed.getD j false) c ι a w → wpAny P .any ops Q fuel listed a w := by
  have hat : ∀ i, i < ops.size → ∃ o, Trace.At P G call base ops T i o := fun i hi => ⟨_, H.at_ i _ (Array.getElem?_eq_getElem hi)⟩
  -- all are listed: the end
  have hend : ∀ (listed : Array Bool) (c : Nat) (ι : Inj) (a : Act) (w : World), (∀ j, j < ops.size → listed.getD j false = true) → DInv P B0 base ops ι0 m0 w0 T nt ds (fun j => listed.getD j false) c ι a w → Q .normal a w := by
    intro listed c ι a w hl h
    have hF := FInv.forward hat (Nat.le_refl _) (ops.size - c) c (by have := h.inv.hc; omega) h.inv fun e h1 h2 hf => by
      have := (h.inv.eff e h2 hf).1 (hl e h2)
      omega
    refine hQ ι a w hF.step ⟨fun t v hv => h.slot t v ?_, h.size, h.defers⟩
    have := sl_eq (ops := ops) (T := T) (S := fun j => listed.getD j false) (n := ops.size) (r := ops.size) (t := t) (fun i hi => ⟨ops[i], Array.getElem?_eq_getElem hi, (H.at_ i _ (Array.getElem?_eq_getElem hi)).ts⟩)
      (fun i o' hi _ _ => by rw [hl i hi]; simp [hi]) ops.size (Nat.le_refl _)
    rw [this, Nat.min_self]
    exact hv
  have hready : ∀ (listed : Array Bool), listed.size = ops.size → Region.ready .any ops listed = [] → ∀ j, j < ops.size → listed.getD j false = true := by
    intro listed hsz hr j
    induction j using Nat.strongRecOn with
    | _ j ih =>
      intro hj
      cases hs : listed.getD j false with
      | true => rfl
      | false =>
        have hmem : j ∈ Region.ready .any ops listed := by
          rw [mem_ready]
          refine ⟨?_, ops[j], Array.getElem?_eq_getElem hj, fun e he hb => ?_⟩
          · rw [Array.getD_eq_getD_getElem?] at hs ⊢
            rw [Array.getElem?_eq_getElem (by omega)] at hs ⊢
            exact hs
          · have := H.edge j _ e (Array.getElem?_eq_getElem hj) he hb
            exact ih e.on this (by omega)
        rw [hr] at hmem
        cases hmem
  intro fuel
  induction fuel with
  | zero =>
    intro listed c ι a w hsz hcount hcl h
    have hl : ∀ j, j < ops.size → listed.getD j false = true := by
      intro j hj
      have hn : false ∉ listed.toList := List.count_eq_zero.1 (Nat.le_zero.1 hcount)
      rw [Array.getD_eq_getD_getElem?, Array.getElem?_eq_getElem (by omega)]
      cases hs : listed[j]'(by omega) with
      | true => rfl
      | false => exact absurd (by rw [← hs]; exact Array.getElem_mem_toList (by omega)) hn
    refine ⟨?_, hend listed c ι a w hl h⟩
    rw [List.eq_nil_iff_forall_not_mem]
    intro j hj
    obtain ⟨h1, o, ho, _⟩ := mem_ready.1 hj
    have hjn := lt_of_op ho
    have := hl j hjn
    rw [Array.getD_eq_getD_getElem?, Array.getElem?_eq_getElem (by omega)] at h1 this
    simp only [Option.getD_some] at h1 this
    rw [h1] at this
    cases this
  | succ fuel ih =>
    intro listed c ι a w hsz hcount hcl h
    refine ⟨fun hr => hend listed c ι a w (hready listed hsz hr) h, fun r hr => ?_⟩
    obtain ⟨h1, o, ho, hrd⟩ := mem_ready.1 hr
    have hrn := lt_of_op ho
    have hrl : r < listed.size := by omega
    have hr0 : listed.getD r false = false := by
      rw [Array.getD_eq_getD_getElem?, Array.getElem?_eq_getElem hrl] at h1 ⊢
      exact h1
    have hins : (fun j => (listed.setIfInBounds r true).getD j false) = ins (fun j => listed.getD j false) r := by
      funext j
      by_cases e : j = r
      · subst e; rw [ins_same]; simp [hrl]
      · rw [ins_other e, getD_set_ne false (fun e' => e e'.symm)]
    refine draw_op hcall H hG hcl ho hr0 hrd h fun c' κ a' w' h' => ih _ c' κ a' w' (by simpa using hsz) ?_ ?_ (by rw [hins]; exact h')
    · have hl2 : r < listed.toList.length := by simpa using hrl
      have hf : listed.toList[r] = false := by
        rw [Array.getD_eq_getD_getElem?, Array.getElem?_eq_getElem hrl] at hr0
        simpa using hr0
      rw [Array.toList_setIfInBounds, List.count_set hl2, hf]
      simp only [beq_self_eq_true, if_true]
      rw [if_neg (by decide)]
      omega
    · rw [hins]
      intro j o' hj ho' e he hb
      by_cases ej : j = r
      · subst ej
        rw [ho] at ho'; injection ho' with ho'; subst ho'
        exact ins_of (hrd e he hb)
      · rw [ins_other ej] at hj
        exact ins_of (hcl j o' hj ho' e he hb)

/-- a region whose order is drawn -/
theorem evDraw_wp {m m' : Mem} {ts ts' : Tr AV} {l : List Ev1} {id : Nat} (hm : P.follows .mixedOrders = true) (hcall : CallOk P B0 G call) (hok : (ops.toList.all fun o => o.dst.all (· < nt)) = true) (he : edgesOk ops = true) (hs : slotsOk ops (ancs ops.toList []) = true)
    (h : evOpsT P G call m.next ops ops.toList 0 ts { m with next := m.next + ops.size } = some (ts', m', l)) (hd : drawOk m.next ops.size (ancs ops.toList []) l = true)
    (hG : GlobR ι G) (hR : Rel P B0 ι m w) (hA : ActR ι ts nt ds a) {Q : Exit → Act → World → Prop} (hQ : ∀ κ a' w', Step P B0 ι m w κ m' w' → ActR κ ts' nt ds a' → Q .normal a' w') :
    (Code.region id ops true).wp P Q a w := by
  obtain ⟨T, e1, e2, e3, e4, hT⟩ := evOpsT_trace _ _ _ _ _ _ _ h
  simp only [Nat.zero_add, Array.length_toList] at e3 e4 hT
  have hT' : ∀ (i : Nat) o, ops[i]? = some o → Trace.At P G call m.next ops T i o ∧ (T.fx i = .none ∨ (⟨i, T.fx i, T.m i, T.m (i + 1)⟩ : Ev1) ∈ l) := fun i o ho => hT i o (by simpa using ho)
  have hin : ∀ i, i < ops.size → T.fx i ≠ .none → (⟨i, T.fx i, T.m i, T.m (i + 1)⟩ : Ev1) ∈ l := fun i hi hf => ((hT' i _ (Array.getElem?_eq_getElem hi)).2).resolve_left hf
  have hd' : ∀ r, r < ops.size → T.fx r ≠ .none → _ := fun r hr hf => List.all_eq_true.1 hd _ (hin r hr hf)
  have H : DrawH P call m.next ops T nt G := by
    refine ⟨fun i o ho => (hT' i o ho).1, fun r hr => ?_, fun r e hr hen hf hfe => ?_, fun r e hr hen h1 h2 h3 hfe => ?_, fun j o t i o' ho ht ho' hdst => ?_, fun i o ho => ?_, fun j o e ho hmem hb => ?_⟩
    · by_cases hf : T.fx r = .none
      · rw [hf]; rfl
      · have := hd' r hr hf
        simp only [Bool.and_eq_true] at this
        exact this.1
    · have := hd' r hr (by rw [hf]; simp)
      simp only [Bool.and_eq_true, hf, isEff, if_true] at this
      have := List.all_eq_true.1 this.2 _ (hin e hen (by rw [hfe]; simp))
      simp only [hfe, isEff, Bool.not_true, Bool.false_or, Bool.or_eq_true, beq_iff_eq] at this
      rcases this with h | h
      · exact .inl h
      · exact .inr (ordered_iff.1 h)
    · have := hd' r hr h2
      simp only [Bool.and_eq_true] at this
      have := this.2
      rw [if_neg (by cases hx : T.fx r <;> simp_all [isEff])] at this
      simp only [Bool.or_eq_true, beq_iff_eq, h2, h3, false_or] at this
      have := List.all_eq_true.1 this _ (hin e hen (by rw [hfe]; simp))
      simp only [hfe, isEff, Bool.not_true, Bool.false_or, Bool.or_eq_true] at this
      rcases this with h | h
      · exact .inl (ordered_iff.1 h)
      · exact .inr h
    · unfold slotsOk at hs
      have hj : (o, j) ∈ ops.toList.zipIdx := by rw [List.mem_zipIdx_iff_getElem?]; simpa using ho
      have hi : (o', i) ∈ ops.toList.zipIdx := by rw [List.mem_zipIdx_iff_getElem?]; simpa using ho'
      have h1 := List.all_eq_true.1 hs _ hj
      simp only at h1
      have h2 := List.all_eq_true.1 (List.all_eq_true.1 h1 t ht) _ hi
      simp only [hdst, bne_self_eq_false, Bool.false_or, Bool.or_eq_true, beq_iff_eq] at h2
      rcases h2 with h2 | h2
      · exact .inl h2
      · rcases Nat.le_total i j with hij | hij
        · rw [Nat.max_eq_right hij, Nat.min_eq_left hij] at h2; exact .inr (.inl h2)
        · rw [Nat.max_eq_left hij, Nat.min_eq_right hij] at h2; exact .inr (.inr h2)
    · have := List.all_eq_true.1 hok o (List.mem_of_getElem? (i := i) (by simpa using ho))
      exact this
    · unfold edgesOk at he
      have hj : (o, j) ∈ ops.toList.zipIdx := by rw [List.mem_zipIdx_iff_getElem?]; simpa using ho
      have := List.all_eq_true.1 (List.all_eq_true.1 he _ hj) e (by simpa using hmem)
      simp only [hb, Bool.not_true, Bool.false_or, decide_eq_true_eq] at this
      exact this
  refine wp_region_any hm ?_
  have hD := Step.draws hR (w.drawn + 1)
  have hV := hD.trans (Step.reserve hD.rel ops.size)
  have hF0 : (fun j => (Array.replicate ops.size false).getD j false) = fun _ => false := by
    funext j
    rw [Array.getD_eq_getD_getElem?, Array.getElem?_replicate]
    split <;> rfl
  refine draw_any (ι0 := ι) (m0 := m) (w0 := w) (ds := ds) hcall H hG (fun κ a' w' st hA' => hQ κ a' w' (e4 ▸ st) (e3 ▸ hA')) ops.size _ 0 ι a _ (by simp) ?_ ?_ ?_
  · simp only [Array.toList_replicate]
    exact Nat.le_trans List.count_le_length (by simp)
  · rw [hF0]
    intro j o hj
    cases hj
  · rw [hF0]
    refine ⟨⟨Nat.zero_le _, Nat.le_refl _, fun e _ _ => ⟨fun h => (by cases h), fun h => (by omega)⟩, by rw [e2]; exact hV, by rw [e2]; exact Nat.le_refl _, fun j _ _ h => (by cases h), fun _ _ _ _ _ _ _ _ h => (by cases h), fun j hj _ => ?_, fun j hj => (by omega), fun j _ hj => ?_⟩, fun t v hv => ?_, hA.size, hA.defers⟩
    · cases hk : ι (m.next + j) with
      | none => rfl
      | some p => have := (hR.lt _ p hk).1; omega
    · rw [e2]
      exact hR.fresh _ (Nat.le_add_right _ _)
    · have : ∀ i, sl ops T (fun _ => false) i t = (T.ts 0).get t := by
        intro i
        induction i with
        | zero => rfl
        | succ i ih => simp only [sl]; rw [if_neg (by simp)]; exact ih
      rw [this, e1] at hv
      exact hA.slot t v hv

end
end Go.Proofs.YtcbileongahhiaaGreat.Ev
