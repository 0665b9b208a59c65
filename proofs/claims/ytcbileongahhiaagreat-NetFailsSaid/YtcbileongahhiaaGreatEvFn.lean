/- Contracts of functions over the abstract memory, and how a proof about a body gives one. -/
import Derived.Test.YtcbileongahhiaaGreatEvWp
namespace Go.Proofs.YtcbileongahhiaaGreat.Ev
open Go
set_option linter.unusedVariables false
set_option linter.unusedSimpArgs false

/-! other names for new blocks -/
mutual
def AV.ren (r : Nat → Nat) : AV → AV
  | .ptr b o => .ptr (r b) o
  | .slc b o l c e x => .slc (r b) o l c e x
  | .map b => .map (r b)
  | .func f l c => .func f (AV.renL r l) (AV.renL r c)
  | .iface t v => .iface t (AV.ren r v)
  | .agg cs => .agg (AV.renL r cs)
  | .tup cs => .tup (AV.renL r cs)
  | .bool b => .bool b
  | .int k n => .int k n
  | .flt k n => .flt k n
  | .str s => .str s
  | .nilp => .nilp
  | .nils => .nils
  | .nilm => .nilm
  | .nilf => .nilf
  | .nili => .nili
  | .any => .any
def AV.renL (r : Nat → Nat) : List AV → List AV
  | [] => []
  | a :: l => AV.ren r a :: AV.renL r l
end

mutual
theorem AV.ren_self : ∀ (a : AV), AV.ren id a = a
  | .bool _ | .int _ _ | .flt _ _ | .str _ | .nilp | .nils | .nilm | .nilf | .nili | .any => by simp only [AV.ren]
  | .ptr _ _ | .slc _ _ _ _ _ _ | .map _ => by simp only [AV.ren, id]
  | .func _ l c => by simp only [AV.ren, AV.renL_self l, AV.renL_self c]
  | .iface _ x => by simp only [AV.ren, AV.ren_self x]
  | .agg cs => by simp only [AV.ren, AV.renL_self cs]
  | .tup cs => by simp only [AV.ren, AV.renL_self cs]
theorem AV.renL_self : ∀ (l : List AV), AV.renL id l = l
  | [] => rfl
  | a :: l => by simp only [AV.renL, AV.ren_self a, AV.renL_self l]
end

theorem AV.renL_eq (r : Nat → Nat) (l : List AV) : AV.renL r l = l.map (AV.ren r) := by
  induction l with
  | nil => rfl
  | cons a l ih => simp [AV.renL, ih]

mutual
theorem VR.ren {κ : Inj} {r : Nat → Nat} : ∀ (a : AV) (v : Value), VR κ (AV.ren r a) v ↔ VR (fun b => κ (r b)) a v
  | .bool _, _ | .int _ _, _ | .flt _ _, _ | .str _, _ | .nilp, _ | .nils, _ | .nilm, _ | .nilf, _ | .nili, _ | .any, _ => by simp only [AV.ren, VR]
  | .ptr _ _, _ => by simp only [AV.ren, VR]
  | .slc _ _ _ _ _ _, _ => by simp only [AV.ren, VR]
  | .map _, _ => by simp only [AV.ren, VR]
  | .func _ l c, _ => by simp only [AV.ren, VR, VRL.ren l, VRL.ren c]
  | .iface _ x, _ => by simp only [AV.ren, VR, VR.ren x]
  | .agg cs, _ => by simp only [AV.ren, VR, VRL.ren cs]
  | .tup cs, _ => by simp only [AV.ren, VR, VRL.ren cs]
theorem VRL.ren {κ : Inj} {r : Nat → Nat} : ∀ (a : List AV) (v : List Value), VRL κ (AV.renL r a) v ↔ VRL (fun b => κ (r b)) a v
  | [], _ => by simp only [AV.renL, VRL]
  | a :: as, l => by simp only [AV.renL, VRL, VR.ren a, VRL.ren as]
end

def Blk.ren (r : Nat → Nat) : Blk → Blk
  | .row o fz e cs => .row o fz e (AV.renL r cs)
  | .map es => .map (es.map fun kv => (AV.ren r kv.1, AV.ren r kv.2))

theorem Blk.ren_own (r : Nat → Nat) (x : Blk) : (x.ren r).own = x.own := by cases x <;> rfl

/-- what is said at last is not more than what is so: new blocks have other names, or are forgotten -/
def Weak (m : Mem) (v' : AV) (m' : Mem) (v1 : AV) (m1 : Mem) : Prop :=
  m.next ≤ m'.next ∧ (∀ b, m'.next ≤ b → m'.get b = none) ∧ ∃ r : Nat → Nat, (∀ a b, r a = r b → a = b) ∧ (∀ b, b < m.next → r b = b) ∧ (∀ b, m'.next ≤ b → m1.next ≤ r b) ∧
    AV.ren r v' = v1 ∧ (∀ b, b < m.next → m1.get b = m.get b → m'.get b = m.get b) ∧ (∀ b, b < m.next → m1.get b ≠ m.get b → (m'.get b).map (Blk.ren r) = m1.get b) ∧ (∀ b x, m.next ≤ b → m'.get b = some x → m1.get (r b) = some (x.ren r))

section
variable {P : Program} {B0 G : Nat} {ι κ : Inj} {m m' m1 : Mem} {w w' : World}

mutual
theorem VR.ren_id {ι : Inj} {r : Nat → Nat} (h : ∀ b p, ι b = some p → r b = b) : ∀ (a : AV) (v : Value), VR ι a v → AV.ren r a = a
  | .bool _, _, _ | .int _ _, _, _ | .flt _ _, _, _ | .str _, _, _ | .nilp, _, _ | .nils, _, _ | .nilm, _, _ | .nilf, _, _ | .nili, _, _ | .any, _, _ => by simp only [AV.ren]
  | .ptr _ _, _, k => by simp only [VR] at k; obtain ⟨p, hp, _⟩ := k; simp only [AV.ren, h _ _ hp]
  | .slc _ _ _ _ _ _, _, k => by simp only [VR] at k; obtain ⟨p, _, _, hp, _⟩ := k; simp only [AV.ren, h _ _ hp]
  | .map _, _, k => by simp only [VR] at k; obtain ⟨p, hp, _⟩ := k; simp only [AV.ren, h _ _ hp]
  | .func _ l c, _, k => by simp only [VR] at k; obtain ⟨_, _, _, h1, h2⟩ := k; simp only [AV.ren, VRL.ren_id h l _ h1, VRL.ren_id h c _ h2]
  | .iface _ x, _, k => by simp only [VR] at k; obtain ⟨_, _, h1⟩ := k; simp only [AV.ren, VR.ren_id h x _ h1]
  | .agg cs, _, k => by simp only [VR] at k; obtain ⟨_, _, h1⟩ := k; simp only [AV.ren, VRL.ren_id h cs _ h1]
  | .tup cs, _, k => by simp only [VR] at k; obtain ⟨_, _, h1⟩ := k; simp only [AV.ren, VRL.ren_id h cs _ h1]
theorem VRL.ren_id {ι : Inj} {r : Nat → Nat} (h : ∀ b p, ι b = some p → r b = b) : ∀ (a : List AV) (v : List Value), VRL ι a v → AV.renL r a = a
  | [], _, _ => by simp only [AV.renL]
  | a :: as, l, k => by simp only [VRL] at k; obtain ⟨v, vs, _, h1, h2⟩ := k; simp only [AV.renL, VR.ren_id h a v h1, VRL.ren_id h as vs h2]
end

theorem BR.ren_id {ι : Inj} {r : Nat → Nat} {p : Place} {x : Blk} (h : ∀ b p, ι b = some p → r b = b) (hx : BR P ι p w x) : x.ren r = x := by
  cases x with
  | row o fz e cs =>
    obtain ⟨c, fr, _, _, _, h4, _⟩ := hx
    simp only [Blk.ren, VRL.ren_id h _ _ h4]
  | map es =>
    obtain ⟨es', clock, _, h2⟩ := hx
    simp only [Blk.ren, Blk.map.injEq]
    refine List.ext_getElem? fun i => ?_
    rw [List.getElem?_map]
    cases hi : es[i]? with
    | none => rfl
    | some kv =>
      have hlt : i < es'.size := by rw [h2.len]; exact (List.getElem?_eq_some_iff.1 hi).1
      have := h2.at_ i kv es'[i] hi (Array.getElem?_eq_getElem hlt)
      simp only [Option.map_some, VR.ren_id h _ _ this.1, VR.ren_id h _ _ this.2]

theorem Blk.ren_len {r : Nat → Nat} {cs : List AV} : (AV.renL r cs).length = cs.length := by rw [AV.renL_eq, List.length_map]

theorem BR.ren {r : Nat → Nat} {p : Place} {x : Blk} (h : BR P κ p w (x.ren r)) : BR P (fun b => κ (r b)) p w x := by
  cases x with
  | row o fz e cs =>
    obtain ⟨c, fr, h1, h2, h3, h4, h5⟩ := h
    rw [Blk.ren_len] at h3 h4
    exact ⟨c, fr, h1, h2, h3, (VRL.ren _ _).1 h4, h5⟩
  | map es =>
    obtain ⟨es', clock, h1, h2⟩ := h
    refine ⟨es', clock, h1, ?_, fun i kv e hi he => ?_, h2.born, h2.clock⟩
    · rw [h2.len, List.length_map]
    · have := h2.at_ i (AV.ren r kv.1, AV.ren r kv.2) e (by rw [List.getElem?_map, hi]; rfl) he
      exact ⟨(VR.ren _ _).1 this.1, (VR.ren _ _).1 this.2⟩

theorem Step.weak {v' v1 : AV} {z : Value} (st : Step P B0 ι m w κ m1 w') (hv : VR κ v1 z) (h : Weak m v' m' v1 m1) : ∃ κ', Step P B0 ι m w κ' m' w' ∧ VR κ' v' z := by
  obtain ⟨hn, hfr, r, hinj, hid, hout, rfl, hold1, hold2, hnew⟩ := h
  have hlt : ∀ b p, κ (r b) = some p → b < m'.next := by
    intro b p hb
    by_cases hc : b < m'.next
    · exact hc
    · have := hout b (by omega)
      have := (st.rel.lt _ _ hb).1
      omega
  have hid' : ∀ b p, ι b = some p → r b = b := fun b p hb => hid b (st.rel0.lt _ _ hb).1
  have hget : ∀ b p x, κ (r b) = some p → m'.get b = some x → m1.get (r b) = some (x.ren r) := by
    intro b p x hp hx
    by_cases hb : b < m.next
    · by_cases he : m1.get b = m.get b
      · have h1 := hold1 b hb he
        rw [hx] at h1
        rw [hid b hb] at hp
        cases hi : ι b with
        | none => exact absurd (st.new _ _ hp hi) (by omega)
        | some q => rw [hid b hb, he, BR.ren_id hid' (st.rel0.blk _ _ _ hi h1.symm), ← h1]
      · rw [hid b hb, ← hold2 b hb he, hx]; rfl
    · exact hnew b x (by omega) hx
  refine ⟨fun b => κ (r b), ⟨st.rel0, ?_, ⟨?_, ?_, ?_, ?_, ?_, st.rel.low⟩, st.os, st.tape, st.output, st.size, st.frame, ?_, ?_, ?_, hn, ?_, ?_⟩, (VR.ren _ _).1 hv⟩
  · intro b p hb
    have := (st.rel0.lt _ _ hb).1
    show κ (r b) = some p
    rw [hid b this]
    exact st.le _ _ hb
  · intro b p hb
    exact ⟨hlt b p hb, (st.rel.lt _ _ hb).2⟩
  · intro b p x hb hx
    exact BR.ren (st.rel.blk _ _ _ hb (hget b p x hb hx))
  · intro b b' p p' x x' hb hb' hx hx' ho hp
    exact hinj _ _ (st.rel.inj _ _ _ _ _ _ hb hb' (hget b p x hb hx) (hget b' p' x' hb' hx') (by rw [Blk.ren_own]; exact ho) hp)
  · intro b p x hb hx ho
    exact st.rel.base _ _ _ hb (hget b p x hb hx) (by rw [Blk.ren_own]; exact ho)
  · exact hfr
  · rintro k hk ⟨b, p, x, hb, hx, ho, rfl⟩
    exact st.owned _ hk ⟨r b, p, x.ren r, hb, hget b p x hb hx, by rw [Blk.ren_own]; exact ho, rfl⟩
  · intro b x hx hb
    have hlt' : b < m.next := by
      by_cases hc : b < m.next
      · exact hc
      · rw [st.rel0.fresh b (by omega)] at hx; cases hx
    have h1 := st.keep b x hx hb
    rw [hold1 b hlt' (h1.trans hx.symm), hx]
  · intro b p hb hb0
    by_cases hc : b < m.next
    · have : κ (r b) = some p := hb
      rw [hid b hc] at this
      exact absurd (st.new _ _ this hb0) (by omega)
    · omega
  · intro b hb hx
    have := st.gone b hb hx
    exact (hold1 b hb (this.trans hx.symm)).trans hx
  · rintro k hk ⟨b, p, x, hb, hx, rfl⟩
    exact st.known _ hk ⟨r b, p, x.ren r, hb, hget b p x hb hx, rfl⟩

/-- nothing new is said, and nothing old was changed -/
theorem Weak.same {m m1 : Mem} {v : AV} (hm : ∀ b, m.next ≤ b → m.get b = none) (hv : ∀ r : Nat → Nat, (∀ b, b < m.next → r b = b) → AV.ren r v = v) (hn : m.next ≤ m1.next) (hold : ∀ b, b < m.next → m1.get b = m.get b) : Weak m v m v m1 := by
  refine ⟨Nat.le_refl _, hm, fun b => if b < m.next then b else m1.next + b, ?_, ?_, ?_, hv _ ?_, fun b hb _ => rfl, fun b hb h => absurd (hold b hb) h, fun b x hb hx => ?_⟩
  · intro a b h
    simp only at h
    split at h <;> split at h <;> omega
  · intro b hb; simp [hb]
  · intro b hb
    show m1.next ≤ if b < m.next then b else m1.next + b
    rw [if_neg (by omega)]; omega
  · intro b hb; simp [hb]
  · rw [hm b hb] at hx; cases hx

theorem Blk.ren_self (x : Blk) : x.ren id = x := by
  cases x with
  | row o fz e cs => simp only [Blk.ren, AV.renL_self]
  | map es => simp [Blk.ren, AV.ren_self]

/-- as it is -/
theorem Weak.refl {m m1 : Mem} {v1 : AV} (hm : ∀ b, m1.next ≤ b → m1.get b = none) (hn : m.next ≤ m1.next) : Weak m v1 m1 v1 m1 :=
  ⟨hn, hm, id, fun _ _ h => h, fun _ _ => rfl, fun _ h => h, AV.ren_self _, fun b hb h => h, fun b hb h => by simp [show Blk.ren id = id from funext Blk.ren_self], fun b x hb hx => by rw [Blk.ren_self]; exact hx⟩

theorem CallOk_of {call : FuncId → List AV → Mem → Option (AV × Mem)} (h : ∀ f args m v m', call f args m = some (v, m') → Contr P G f args m v m') : CallOk P B0 G call :=
  fun f args m v m' hc ι w arr hG hR ha => h f args m v m' hc B0 ι w arr hG hR ha

def resultE (P : Program) (e : Env) (m : Mem) : ResultVar → Option AV
  | .tmp t => e t
  | .cell a t =>
    match e a, csize P t, aggT P t with
    | some (.ptr b off), some n, some true => (m.cells b off n).map .agg
    | some (.ptr b off), some _, some false =>
      match m.cells b off 1 with
      | some [v] => some v
      | _ => none
    | _, _, _ => none

def resultsE (P : Program) (e : Env) (m : Mem) : List ResultVar → Option (List AV)
  | [] => some []
  | r :: rs => match resultE P e m r, resultsE P e m rs with
    | some a, some l => some (a :: l)
    | _, _ => none

theorem evResult_E (ts : Tr AV) (m : Mem) (r : ResultVar) : evResult P ts m r = resultE P ts.get m r := by
  cases r with
  | tmp t => rfl
  | cell a t => unfold evResult resultE; rfl
theorem evResults_E (ts : Tr AV) (m : Mem) : ∀ rs, evResults P ts m rs = resultsE P ts.get m rs
  | [] => rfl
  | r :: rs => by simp only [evResults, resultsE, evResult_E, evResults_E ts m rs]; rfl

def initE (args : List AV) : Env := fun j => args[j]?

theorem initT_E (args : List AV) : (initT args 0 .nil).get = initE args := by
  funext j
  rw [initT_get]
  simp only [Nat.zero_le, true_and, Nat.zero_add, Nat.sub_zero, initE]
  split
  · rfl
  · rename_i h
    rw [List.getElem?_eq_none (by omega)]
    rfl

/-- what is asked of a body at its end -/
def Fin (P : Program) (fn : Func) (m : Mem) (v : AV) (m' : Mem) (x : XT) (e : Env) (m1 : Mem) : Prop :=
  (match x with | .exit _ => False | _ => True) ∧ ∃ vs, resultsE P e m1 fn.results.toList = some vs ∧ Weak m v m' (tupled vs) m1

/-- A PROOF ABOUT A BODY IS A CONTRACT -/
theorem contr_of (hm : P.follows .mixedOrders = true) (hsane : Sane P) {f : FuncId} {fn : Func} {c : Code} (hf : P.funcs[f]? = some fn) (hb : fn.body = some c) {call : FuncId → List AV → Mem → Option (AV × Mem)} {args : List AV} {v : AV}
    (hlen : args.length ≤ fn.ntmps) (hcall : ∀ f args m v m', call f args m = some (v, m') → Contr P G f args m v m')
    (h : Fresh m → wpS P G call c (initE args) m (Fin P fn m v m')) : Contr P G f args m v m' := by
  intro B0 ι w arr hG hR hargs
  refine .inl ⟨enter_run hf (hsane f fn c hf hb).2 hb arr w, ?_⟩
  have hl := VRL.length hargs
  rw [Array.length_toList] at hl
  have h := h hR.fresh
  rw [← initT_E] at h
  refine calls_of_wp hf hb (wpS_sound hm hcall c fn.ntmps _ m _ (hsane f fn c hf hb).1 h ι _ w [] _ hG hR ⟨fun t u hu => ?_, ?_, rfl⟩ fun x κ ts' m1 a' w' hq st hA => ?_)
  · rw [initT_get] at hu
    split at hu
    · rename_i ht
      simp only [Nat.sub_zero, Nat.zero_add] at hu ht
      obtain ⟨z, hz, rz⟩ := VRL.get hargs hu
      rw [Array.getElem?_toList] at hz
      refine ⟨z, ?_, rz⟩
      rw [Array.getElem?_append_left (by omega)]
      exact hz
    · simp [Tr.get] at hu
  · simp; omega
  · obtain ⟨hx, vs, hvs, hw⟩ := hq
    rw [← evResults_E] at hvs
    obtain ⟨z, hz, rz⟩ := tupled_run st.rel.blk hA.slot hvs
    obtain ⟨κ', st', rz'⟩ := st.weak rz hw
    cases x with
    | exit i => exact hx.elim
    | normal => exact ⟨hA.defers, z, hz, z, rfl, κ', st', rz'⟩
    | ret => exact ⟨hA.defers, z, hz, z, rfl, κ', st', rz'⟩

/-- what is asked of a body at its end, when a relation is to hold -/
def FinR (P : Program) (fn : Func) (R : AV → Mem → Prop) (x : XT) (e : Env) (m1 : Mem) : Prop :=
  (match x with | .exit _ => False | _ => True) ∧ ∃ vs, resultsE P e m1 fn.results.toList = some vs ∧ R (tupled vs) m1

theorem contrR_of (hm : P.follows .mixedOrders = true) (hsane : Sane P) {f : FuncId} {fn : Func} {c : Code} (hf : P.funcs[f]? = some fn) (hb : fn.body = some c) {call : FuncId → List AV → Mem → Option (AV × Mem)} {args : List AV} {R : AV → Mem → Prop}
    (hlen : args.length ≤ fn.ntmps) (hcall : ∀ f args m v m', call f args m = some (v, m') → Contr P G f args m v m')
    (h : Fresh m → wpS P G call c (initE args) m (FinR P fn R)) : ContrR P G f args m R := by
  intro B0 ι w arr hG hR hargs
  refine .inl ⟨enter_run hf (hsane f fn c hf hb).2 hb arr w, ?_⟩
  have hl := VRL.length hargs
  rw [Array.length_toList] at hl
  have h := h hR.fresh
  rw [← initT_E] at h
  refine calls_of_wp hf hb (wpS_sound hm hcall c fn.ntmps _ m _ (hsane f fn c hf hb).1 h ι _ w [] _ hG hR ⟨fun t u hu => ?_, ?_, rfl⟩ fun x κ ts' m1 a' w' hq st hA => ?_)
  · rw [initT_get] at hu
    split at hu
    · rename_i ht
      simp only [Nat.sub_zero, Nat.zero_add] at hu ht
      obtain ⟨z, hz, rz⟩ := VRL.get hargs hu
      rw [Array.getElem?_toList] at hz
      refine ⟨z, ?_, rz⟩
      rw [Array.getElem?_append_left (by omega)]
      exact hz
    · simp [Tr.get] at hu
  · simp; omega
  · obtain ⟨hx, vs, hvs, hw⟩ := hq
    rw [← evResults_E] at hvs
    obtain ⟨z, hz, rz⟩ := tupled_run st.rel.blk hA.slot hvs
    cases x with
    | exit i => exact hx.elim
    | normal => exact ⟨hA.defers, z, hz, z, rfl, _, _, κ, hw, st, rz⟩
    | ret => exact ⟨hA.defers, z, hz, z, rfl, _, _, κ, hw, st, rz⟩
end
end Go.Proofs.YtcbileongahhiaaGreat.Ev
