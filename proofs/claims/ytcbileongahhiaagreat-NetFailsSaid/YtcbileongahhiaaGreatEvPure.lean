/- The operations that look at no memory: what the evaluator answers, the model answers. -/
import Derived.Test.YtcbileongahhiaaGreatEvRel
import Derived.Laws.StructEq
namespace Go.Proofs.YtcbileongahhiaaGreat.Ev
open Go
set_option linter.unusedVariables false
set_option linter.unusedSimpArgs false

section basics
variable {P : Program} (w : World)

theorem run_und {t : TypeId} {d : TypeDesc} (h : P.underlying t = some d) : (underlying t).run P w = .ok d w := run_underlying h w

theorem run_typeInfo' {t : TypeId} {i : TypeInfo} (h : P.info? t = some i) : (typeInfo t).run P w = .ok i w := by
  simp [typeInfo, h]

theorem csize_info {t : TypeId} {n : Nat} (h : csize P t = some n) : ∃ i, P.info? t = some i ∧ i.size = n := by
  unfold csize at h
  cases hi : P.info? t with
  | none => simp [hi] at h
  | some i => simp [hi] at h; exact ⟨i, rfl, h⟩

theorem run_sizeOf' {t : TypeId} {n : Nat} (h : csize P t = some n) : (sizeOf t).run P w = .ok n w := by
  obtain ⟨i, hi, rfl⟩ := csize_info h
  simp [sizeOf, run_typeInfo' w hi]

theorem zeroAV_info {t : TypeId} {z : AV} (h : zeroAV P t = some z) : ∃ i v, P.info? t = some i ∧ i.zero = some v ∧ toAV v = some z := by
  unfold zeroAV at h
  cases hi : P.info? t with
  | none => simp [hi] at h
  | some i =>
    cases hz : i.zero with
    | none => simp [hi, hz] at h
    | some v => simp [hi, hz] at h; exact ⟨i, v, rfl, hz, h⟩

theorem run_zeroAV {t : TypeId} {z : AV} (h : zeroAV P t = some z) : ∃ v, (∀ w, (zeroValue t).run P w = .ok v w) ∧ (∀ ι, VR ι z v) ∧ (∀ vs, z ≠ .tup vs) := by
  obtain ⟨i, v, hi, hz, hv⟩ := zeroAV_info h
  refine ⟨v, fun w => ?_, fun ι => VR.of_toAV hv, ?_⟩
  · simp [zeroValue, run_typeInfo' w hi, hz]
  · intro vs e
    subst e
    unfold toAV at hv
    split at hv
    · cases h1 : flatAVs _ with
      | none => rw [h1] at hv; cases hv
      | some l => rw [h1] at hv; simp at hv
    · have := flatAV_flat hv; simp [AV.flat] at this

theorem run_isAgg {t : TypeId} {b : Bool} (h : aggT P t = some b) : (isAgg t).run P w = .ok b w := by
  unfold aggT at h
  cases hd : P.underlying t with
  | none => simp [hd] at h
  | some d =>
    simp only [isAgg, Sem.run_bind, run_und w hd, Result.andThen_ok]
    cases d <;> simp [hd] at h <;> subst h <;> rfl

theorem run_part {ι : Inj} {t : TypeId} {cs : List AV} {off : Nat} {v : AV} {cs' : Array Value} (h : partAV P t cs off = some v) (hc : VRL ι cs cs'.toList) :
    ∃ r, (∀ w, (part t cs' off).run P w = .ok r w) ∧ VR ι v r := by
  unfold partAV at h
  cases ha : aggT P t with
  | none => simp [ha] at h
  | some b =>
    cases b with
    | true =>
      simp only [ha] at h
      cases hn : csize P t with
      | none => simp [hn] at h
      | some n =>
        simp only [hn, Option.bind_some] at h
        split at h
        · rename_i hl
          injection h with h
          subst h
          refine ⟨.agg (cs'.extract off (off + n)), fun w => ?_, ?_⟩
          · simp [part, run_isAgg w ha, run_sizeOf' w hn]
          · simp only [VR]
            refine ⟨_, rfl, ?_⟩
            have := VRL.take n (VRL.drop off hc)
            simpa [Array.toList_extract, List.extract_eq_take_drop] using this
        · cases h
    | false =>
      simp only [ha] at h
      obtain ⟨u, hu, r⟩ := VRL.get hc h
      refine ⟨u, fun w => ?_, r⟩
      have : cs'[off]? = some u := by simpa using hu
      simp [part, run_isAgg w ha, this]

theorem VR.agg_inv {ι : Inj} {cs : List AV} {v : Value} (h : VR ι (.agg cs) v) : ∃ cs' : Array Value, v = .agg cs' ∧ VRL ι cs cs'.toList := by simpa only [VR] using h
theorem VR.int_inv {ι : Inj} {k : IntKind} {n : Int} {v : Value} (h : VR ι (.int k n) v) : v = .int k n := by simpa only [VR] using h
theorem VR.bool_inv {ι : Inj} {b : Bool} {v : Value} (h : VR ι (.bool b) v) : v = .bool b := by simpa only [VR] using h
theorem VR.str_inv {ι : Inj} {s : List UInt8} {v : Value} (h : VR ι (.str s) v) : v = .string ⟨s.toArray⟩ := by simpa only [VR] using h
theorem VR.flt_inv {ι : Inj} {k : FloatKind} {b : Nat} {v : Value} (h : VR ι (.flt k b) v) : v = .float k b := by simpa only [VR] using h
theorem VR.nilp_inv {ι : Inj} {v : Value} (h : VR ι .nilp v) : v = .pointer none := by simpa only [VR] using h
theorem VR.nils_inv {ι : Inj} {v : Value} (h : VR ι .nils v) : v = .slice none 0 0 := by simpa only [VR] using h
theorem VR.nilm_inv {ι : Inj} {v : Value} (h : VR ι .nilm v) : v = .map none := by simpa only [VR] using h
theorem VR.nilf_inv {ι : Inj} {v : Value} (h : VR ι .nilf v) : v = .nilFunc := by simpa only [VR] using h
theorem VR.nili_inv {ι : Inj} {v : Value} (h : VR ι .nili v) : v = .nilIface := by simpa only [VR] using h
theorem VR.ptr_inv {ι : Inj} {b o : Nat} {v : Value} (h : VR ι (.ptr b o) v) : ∃ p, ι b = some p ∧ v = .pointer (some ⟨p.blk, p.off + o, none⟩) := by simpa only [VR] using h
theorem VR.map_inv {ι : Inj} {b : Nat} {v : Value} (h : VR ι (.map b) v) : ∃ p, ι b = some p ∧ v = .map (some p.blk) := by simpa only [VR] using h
theorem VR.iface_inv {ι : Inj} {t : TypeId} {x : AV} {v : Value} (h : VR ι (.iface t x) v) : ∃ x', v = .iface t x' ∧ VR ι x x' := by simpa only [VR] using h
theorem VR.tup_inv {ι : Inj} {cs : List AV} {v : Value} (h : VR ι (.tup cs) v) : ∃ cs' : Array Value, v = .tuple cs' ∧ VRL ι cs cs'.toList := by simpa only [VR] using h
theorem VR.func_inv {ι : Inj} {f : Fn} {l c : List AV} {v : Value} (h : VR ι (.func f l c) v) : ∃ l' c' : Array Value, v = .func f l' c' ∧ VRL ι l l'.toList ∧ VRL ι c c'.toList := by simpa only [VR] using h
theorem VR.slc_inv {ι : Inj} {b o l c e : Nat} {ex : Bool} {v : Value} (h : VR ι (.slc b o l c e ex) v) :
    ∃ p co c', ι b = some p ∧ v = .slice (some ⟨p.blk, co, none⟩) l c' ∧ (c' = 0 ∨ co = p.off + o) ∧ (if ex then c' = c else c ≤ c') ∧ co + c' * e ≤ p.size ∧ l ≤ c := by simpa only [VR] using h

theorem natOf_int {a : AV} {n : Nat} (h : natOf a = some n) : ∃ k, a = .int k n := by
  unfold natOf at h
  split at h
  · rename_i k z
    split at h
    · injection h with h; exact ⟨k, by rw [← h, Int.toNat_of_nonneg ‹_›]⟩
    · cases h
  · cases h

theorem VRL.of_opVals {ι : Inj} {ρ : Operand → Option AV} {ev : Operand → Value} : ∀ {l : List Operand} {as : List AV}, (∀ x ∈ l, ∀ a, ρ x = some a → VR ι a (ev x)) → opVals ρ l = some as → VRL ι as (l.map ev)
  | [], as, _, h => by simp [opVals] at h; subst h; exact VRL.nil_iff.2 rfl
  | x :: xs, as, hρ, h => by
    simp only [opVals] at h
    cases h1 : ρ x with
    | none => simp [h1] at h
    | some a =>
      cases h2 : opVals ρ xs with
      | none => simp [h1, h2] at h
      | some l =>
        simp [h1, h2] at h
        subst h
        exact VRL.cons (hρ x (by simp) a h1) (VRL.of_opVals (fun y hy => hρ y (by simp [hy])) h2)

end basics

/-! equality -/
section equal
variable {P : Program}

theorem eqFields_run {ι : Inj} {d D : Nat} (ih : ∀ (t : TypeId) (a b : AV) (x y : Value) (r : Bool), VR ι a x → VR ι b y → eqv P d t a b = some r → ∀ w, (Op.equalIn D t x y).run P w = .ok r w)
    {xs ys : List AV} {xs' ys' : Array Value} (hx : VRL ι xs xs'.toList) (hy : VRL ι ys ys'.toList) : ∀ (fs : List Field) (r : Bool),
    eqFields (fun f => match partAV P f.type xs f.offset, partAV P f.type ys f.offset with | some a, some b => eqv P d f.type a b | _, _ => none) fs = some r →
    ∀ w, (Op.eqFields D xs' ys' fs).run P w = .ok r w
  | [], r, h, w => by simp [Ev.eqFields] at h; subst h; rfl
  | f :: fs, r, h, w => by
    simp only [Ev.eqFields] at h
    simp only [Op.eqFields]
    by_cases hn : f.name = "_"
    · simp only [hn, if_true] at h
      simp only [hn, ne_eq, not_true_eq_false, if_false]
      exact eqFields_run ih hx hy fs r h w
    · simp only [hn, if_false] at h
      simp only [ne_eq, hn, not_false_eq_true, if_true]
      cases h1 : partAV P f.type xs f.offset with
      | none => simp [h1] at h
      | some a =>
        cases h2 : partAV P f.type ys f.offset with
        | none => simp [h1, h2] at h
        | some b =>
          simp only [h1, h2] at h
          obtain ⟨x, hx', rx⟩ := run_part h1 hx
          obtain ⟨y, hy', ry⟩ := run_part h2 hy
          simp only [Sem.run_bind, hx', hy', Result.andThen_ok]
          cases h3 : eqv P d f.type a b with
          | none => simp [h3] at h
          | some q =>
            rw [ih _ _ _ _ _ _ rx ry h3]
            simp only [Result.andThen_ok]
            cases q with
            | true =>
              simp only [h3] at h
              simp only [Bool.not_true, Bool.false_eq_true, if_false]
              exact eqFields_run ih hx hy fs r h w
            | false =>
              simp only [h3, Option.some.injEq] at h
              subst h
              simp

theorem eqItems_run {ι : Inj} {d D : Nat} {e : TypeId} {s : Nat} (ih : ∀ (t : TypeId) (a b : AV) (x y : Value) (r : Bool), VR ι a x → VR ι b y → eqv P d t a b = some r → ∀ w, (Op.equalIn D t x y).run P w = .ok r w)
    {xs ys : List AV} {xs' ys' : Array Value} (hx : VRL ι xs xs'.toList) (hy : VRL ι ys ys'.toList) : ∀ (n i : Nat) (r : Bool),
    eqItems (fun i => match partAV P e xs (i * s), partAV P e ys (i * s) with | some a, some b => eqv P d e a b | _, _ => none) n i = some r →
    ∀ w, ((forIn (List.range' i n) ((none, ()) : Option Bool × Unit) fun i _ => do
        if !(← Op.equalIn D e (← part e xs' (i * s)) (← part e ys' (i * s))) then return ForInStep.done (some false, ()) else pure (ForInStep.yield (none, ()))) : Sem _).run P w
      = .ok (if r then (none, ()) else (some false, ())) w
  | 0, i, r, h, w => by simp [eqItems] at h; subst h; rfl
  | n + 1, i, r, h, w => by
    simp only [eqItems] at h
    rw [List.range'_succ]
    simp only [List.forIn_cons]
    cases h1 : partAV P e xs (i * s) with
    | none => simp [h1] at h
    | some a =>
      cases h2 : partAV P e ys (i * s) with
      | none => simp [h1, h2] at h
      | some b =>
        simp only [h1, h2] at h
        obtain ⟨x, hx', rx⟩ := run_part h1 hx
        obtain ⟨y, hy', ry⟩ := run_part h2 hy
        simp only [Sem.run_bind, hx', hy', Result.andThen_ok]
        cases h3 : eqv P d e a b with
        | none => simp [h3] at h
        | some q =>
          rw [ih _ _ _ _ _ _ rx ry h3]
          simp only [Result.andThen_ok]
          cases q with
          | true =>
            simp only [h3] at h
            simp only [Bool.not_true, Bool.false_eq_true, if_false, Sem.run_pure, Result.andThen_ok]
            exact eqItems_run ih hx hy n (i + 1) r h w
          | false =>
            simp only [h3, Option.some.injEq] at h
            subst h
            simp

theorem run_equalIn_ptr (w : World) (D : Nat) (t e : TypeId) (n : Nat) (a b : Addr) (hu : P.underlying t = some (.pointer e)) (hn : csize P e = some n) (h0 : n ≠ 0) (hab : a.block = b.block) :
    (Op.equalIn (D + 1) t (.pointer (some a)) (.pointer (some b))).run P w = .ok (a == b) w := by
  have hs := run_sizeOf' w hn
  simp [Op.equalIn, run_und w hu, hs, h0, sameAddr, hab]

theorem run_equalIn_array (w : World) (D : Nat) (t e : TypeId) (n s : Nat) (xs ys : Array Value) (ht : P.underlying t = some (.array n e)) (hs : csize P e = some s) :
    (Op.equalIn (D + 1) t (.agg xs) (.agg ys)).run P w =
      (((forIn (List.range' 0 n) ((none, ()) : Option Bool × Unit) fun i _ => do
        if !(← Op.equalIn D e (← part e xs (i * s)) (← part e ys (i * s))) then return ForInStep.done (some false, ()) else pure (ForInStep.yield (none, ()))) : Sem _).run P w).andThen
        fun a w => (match a.1 with | some r => pure r | none => pure true : Sem Bool).run P w := by
  simp only [Op.equalIn, Sem.run_bind, run_und w ht, Result.andThen_ok, run_sizeOf' w hs]
  rw [Std.Legacy.Range.forIn_eq_forIn_range']
  simp only [Std.Legacy.Range.size, Nat.sub_zero, Nat.add_sub_cancel, Nat.div_one]
  refine congrArg (Result.andThen _) ?_
  funext a w'
  obtain ⟨a, u⟩ := a
  cases a <;> rfl

set_option maxHeartbeats 1600000 in
theorem eqv_run {ι : Inj} : ∀ (d D : Nat) (_ : d ≤ D) (t : TypeId) (a b : AV) (x y : Value) (r : Bool), VR ι a x → VR ι b y → eqv P d t a b = some r → ∀ w, (Op.equalIn D t x y).run P w = .ok r w
  | 0, _, _, _, _, _, _, _, _, _, _, h, _ => by simp [eqv] at h
  | d + 1, 0, hD, _, _, _, _, _, _, _, _, _, _ => by omega
  | d + 1, D + 1, hD, t, a, b, x, y, r, rx, ry, h, w => by
    have ih := eqv_run (ι := ι) d D (by omega)
    unfold eqv at h
    split at h
    · rename_i a b hu
      rw [VR.bool_inv rx, VR.bool_inv ry]
      injection h with h; subst h
      simp [Op.equalIn, run_und w hu]
    · rename_i k a k' b hu
      rw [VR.int_inv rx, VR.int_inv ry]
      split at h
      · rename_i hk; injection h with h; subst h; simp [Op.equalIn, run_und w hu, hk]
      · cases h
    · rename_i k a k' b hu
      rw [VR.flt_inv rx, VR.flt_inv ry]
      split at h
      · rename_i hk; injection h with h; subst h; simp [Op.equalIn, run_und w hu, hk]
      · cases h
    · rename_i a b hu
      rw [VR.str_inv rx, VR.str_inv ry]
      injection h with h; subst h
      rw [run_equalIn_string w D t _ _ hu]
      simp [ByteArray.toList_eq]
    · rename_i hu
      rw [VR.nilp_inv rx, VR.nilp_inv ry]
      injection h with h; subst h
      simp [Op.equalIn, run_und w hu]
    · rename_i hu
      obtain ⟨p, _, rfl⟩ := VR.ptr_inv ry
      rw [VR.nilp_inv rx]
      injection h with h; subst h
      simp [Op.equalIn, run_und w hu]
    · rename_i hu
      obtain ⟨p, _, rfl⟩ := VR.ptr_inv rx
      rw [VR.nilp_inv ry]
      injection h with h; subst h
      simp [Op.equalIn, run_und w hu]
    · rename_i e b o b' o' hu
      split at h
      · rename_i hc
        simp only [Bool.and_eq_true, decide_eq_true_eq, Option.any_eq_true, bne_iff_ne, ne_eq] at hc
        obtain ⟨rfl, n, hn, h0⟩ := hc
        injection h with h; subst h
        obtain ⟨p, hp, rfl⟩ := VR.ptr_inv rx
        obtain ⟨q, hq, rfl⟩ := VR.ptr_inv ry
        rw [hp] at hq; injection hq with hq; subst hq
        rw [run_equalIn_ptr w D t e n ⟨p.blk, p.off + o, none⟩ ⟨p.blk, p.off + o', none⟩ hu hn h0 rfl]
        by_cases ho : o = o'
        · subst ho; simp
        · have : ¬ ((⟨p.blk, p.off + o, none⟩ : Addr) = ⟨p.blk, p.off + o', none⟩) := by intro hh; injection hh; omega
          rw [beq_eq_false_iff_ne.2 this, beq_eq_false_iff_ne.2 ho]
      · cases h
    · rename_i hu
      rw [VR.nili_inv rx, VR.nili_inv ry]
      injection h with h; subst h
      simp [Op.equalIn, run_und w hu]
    · rename_i hu
      obtain ⟨x', rfl, _⟩ := VR.iface_inv ry
      rw [VR.nili_inv rx]
      injection h with h; subst h
      simp [Op.equalIn, run_und w hu]
    · rename_i hu
      obtain ⟨x', rfl, _⟩ := VR.iface_inv rx
      rw [VR.nili_inv ry]
      injection h with h; subst h
      simp [Op.equalIn, run_und w hu]
    · rename_i tx vx ty vy hu
      obtain ⟨x', rfl, rx'⟩ := VR.iface_inv rx
      obtain ⟨y', rfl, ry'⟩ := VR.iface_inv ry
      split at h
      · rename_i hne
        injection h with h; subst h
        simp [Op.equalIn, run_und w hu, hne]
      · rename_i heq
        have heq : tx = ty := Classical.not_not.1 heq
        subst heq
        split at h
        · rename_i hc
          simp only [Option.any_eq_true] at hc
          obtain ⟨i, hi, hc⟩ := hc
          simp only [Op.equalIn, Sem.run_bind, run_und w hu, Result.andThen_ok, ne_eq, not_true_eq_false, if_false, run_typeInfo' w hi, hc, Bool.not_true, Bool.false_eq_true]
          exact ih _ _ _ _ _ _ rx' ry' h w
        · cases h
    · rename_i hu
      rw [VR.nils_inv rx, VR.nils_inv ry]
      injection h with h; subst h
      simp [Op.equalIn, run_und w hu]
    · rename_i hu
      obtain ⟨p, co, c', _, rfl, _⟩ := VR.slc_inv ry
      rw [VR.nils_inv rx]
      injection h with h; subst h
      simp [Op.equalIn, run_und w hu]
    · rename_i hu
      obtain ⟨p, co, c', _, rfl, _⟩ := VR.slc_inv rx
      rw [VR.nils_inv ry]
      injection h with h; subst h
      simp [Op.equalIn, run_und w hu]
    · rename_i hu
      rw [VR.nilm_inv rx, VR.nilm_inv ry]
      injection h with h; subst h
      simp [Op.equalIn, run_und w hu]
    · rename_i hu
      obtain ⟨p, _, rfl⟩ := VR.map_inv ry
      rw [VR.nilm_inv rx]
      injection h with h; subst h
      simp [Op.equalIn, run_und w hu]
    · rename_i hu
      obtain ⟨p, _, rfl⟩ := VR.map_inv rx
      rw [VR.nilm_inv ry]
      injection h with h; subst h
      simp [Op.equalIn, run_und w hu]
    · rename_i hu
      rw [VR.nilf_inv rx, VR.nilf_inv ry]
      injection h with h; subst h
      simp [Op.equalIn, run_und w hu]
    · rename_i hu
      obtain ⟨l, c, rfl, _⟩ := VR.func_inv ry
      rw [VR.nilf_inv rx]
      injection h with h; subst h
      simp [Op.equalIn, run_und w hu]
    · rename_i hu
      obtain ⟨l, c, rfl, _⟩ := VR.func_inv rx
      rw [VR.nilf_inv ry]
      injection h with h; subst h
      simp [Op.equalIn, run_und w hu]
    · rename_i fs xs ys hu
      obtain ⟨xs', rfl, rx'⟩ := VR.agg_inv rx
      obtain ⟨ys', rfl, ry'⟩ := VR.agg_inv ry
      split at h
      · cases h
      · rename_i hs
        have hf : P.fieldsOf t = fs := by simp [Program.fieldsOf, hu]
        rw [run_equalIn_struct w D t xs' ys' (by rw [hf]; exact hu) (by simpa using hs), hf]
        exact eqFields_run ih rx' ry' _ _ h w
    · rename_i n e xs ys hu
      obtain ⟨xs', rfl, rx'⟩ := VR.agg_inv rx
      obtain ⟨ys', rfl, ry'⟩ := VR.agg_inv ry
      cases hs : csize P e with
      | none => simp [hs] at h
      | some s =>
        simp only [hs, Option.bind_some] at h
        rw [run_equalIn_array w D t e n s xs' ys' hu hs, eqItems_run ih rx' ry' n 0 r h w]
        cases r <;> rfl
    · cases h

end equal
end Go.Proofs.YtcbileongahhiaaGreat.Ev
