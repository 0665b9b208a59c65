/- The operations that look at no memory, continued: arithmetic, cuts, what is built. -/
import Derived.Test.YtcbileongahhiaaGreatEvPure
import Derived.Laws.Unary
namespace Go.Proofs.YtcbileongahhiaaGreat.Ev
open Go
set_option linter.unusedVariables false
set_option linter.unusedSimpArgs false

section keys
variable {P : Program} {ι : Inj}

theorem checkKey_fields {d D : Nat} (ih : ∀ (t : TypeId) (a : AV) (x : Value), VR ι a x → keyV P d t a = true → ∀ (e : Bool) w, (Instr.checkKey e D t x).run P w = .ok () w)
    {cs : List AV} {cs' : Array Value} (hc : VRL ι cs cs'.toList) (e : Bool) : ∀ (fs : List Field),
    (fs.all fun f => f.name = "_" || (match partAV P f.type cs f.offset with | some a => keyV P d f.type a | none => false)) = true →
    ∀ w, ((forIn fs PUnit.unit fun f _ => do
      if f.name ≠ "_" then do
        let x ← part f.type cs' f.offset
        Instr.checkKey e D f.type x
        pure (ForInStep.yield PUnit.unit)
      else pure (ForInStep.yield PUnit.unit) : Sem PUnit)).run P w = .ok PUnit.unit w
  | [], _, w => rfl
  | f :: fs, h, w => by
    simp only [List.all_cons, Bool.and_eq_true] at h
    obtain ⟨h1, h2⟩ := h
    have rest := checkKey_fields ih hc e fs h2
    simp only [List.forIn_cons]
    by_cases hn : f.name = "_"
    · simp [hn]; simpa using rest w
    · simp only [hn, decide_false, Bool.false_or] at h1
      cases hp : partAV P f.type cs f.offset with
      | none => simp [hp] at h1
      | some a =>
        simp only [hp] at h1
        obtain ⟨x, hx, rx⟩ := run_part hp hc
        simp [hn, hx, ih _ _ _ rx h1]
        simpa using rest w

theorem checkKey_run : ∀ (d D : Nat) (_ : d ≤ D) (t : TypeId) (a : AV) (x : Value), VR ι a x → keyV P d t a = true → ∀ (e : Bool) w, (Instr.checkKey e D t x).run P w = .ok () w
  | 0, _, _, _, _, _, _, h, _, _ => by simp [keyV] at h
  | d + 1, 0, hD, _, _, _, _, _, _, _ => by omega
  | d + 1, D + 1, hD, t, a, x, r, h, e, w => by
    unfold keyV at h
    split at h
    · rename_i hu; rw [VR.int_inv r]; simp [Instr.checkKey, run_und w hu]
    · rename_i hu; rw [VR.str_inv r]; simp [Instr.checkKey, run_und w hu]
    · rename_i hu; rw [VR.bool_inv r]; simp [Instr.checkKey, run_und w hu]
    · rename_i fs cs hu
      obtain ⟨cs', rfl, rc⟩ := VR.agg_inv r
      have := checkKey_fields (checkKey_run d D (by omega)) rc e fs.toList h w
      simp only [Instr.checkKey, Sem.run_bind, run_und w hu, Result.andThen_ok]
      rw [← Array.forIn_toList]
      simp at this ⊢
      rw [this]
      rfl
    · cases h

theorem eqv_any_l {d : Nat} {t : TypeId} {b : AV} : eqv P d t .any b = none := by
  cases d with
  | zero => rfl
  | succ d => unfold eqv; split <;> first | rfl | simp_all
theorem eqv_any_r {d : Nat} {t : TypeId} {a : AV} : eqv P d t a .any = none := by
  cases d with
  | zero => rfl
  | succ d => unfold eqv; split <;> first | rfl | simp_all

/-- keys that are the same, as the model finds them -/
theorem sameNow_eq {d : Nat} {t : TypeId} {u : TypeDesc} {a b : AV} {x y : Value} {q s : Bool} (hu : P.underlying t = some u) (rx : VR ι a x) (ry : VR ι b y) (h : eqv P (d + 1) t a b = some q)
    (hs : Instr.sameNow u x y = some s) : s = q := by
  unfold Instr.sameNow at hs
  split at hs
  · rename_i k0 k a' k' b'
    have ha : a = .int k a' := by
      cases a <;> simp only [VR] at rx <;> first | (rw [eqv_any_l] at h; cases h; done) | (injection rx with r1 r2; subst r1; subst r2; rfl) | (cases rx; done) | (obtain ⟨_, _, h⟩ := rx; cases h; done) | (obtain ⟨_, h, _⟩ := rx; cases h; done) | (obtain ⟨_, _, _, _, h, _⟩ := rx; cases h; done) | (obtain ⟨_, _, h, _⟩ := rx; cases h; done)
    have hb : b = .int k' b' := by
      cases b <;> simp only [VR] at ry <;> first | (rw [eqv_any_r] at h; cases h; done) | (injection ry with r1 r2; subst r1; subst r2; rfl) | (cases ry; done) | (obtain ⟨_, _, h⟩ := ry; cases h; done) | (obtain ⟨_, h, _⟩ := ry; cases h; done) | (obtain ⟨_, _, _, _, h, _⟩ := ry; cases h; done) | (obtain ⟨_, _, h, _⟩ := ry; cases h; done)
    subst ha; subst hb
    simp only [eqv, hu] at h
    split at hs
    · rename_i hk; rw [if_pos hk] at h; injection h with h; injection hs with hs; rw [← h, ← hs]
    · cases hs
  · rename_i a' b'
    have ha : ∃ l, a = .str l ∧ a' = ⟨l.toArray⟩ := by
      cases a <;> simp only [VR] at rx <;> first | (rw [eqv_any_l] at h; cases h; done) | (injection rx with r1; exact ⟨_, rfl, r1⟩) | (cases rx; done) | (obtain ⟨_, _, h⟩ := rx; cases h; done) | (obtain ⟨_, h, _⟩ := rx; cases h; done) | (obtain ⟨_, _, _, _, h, _⟩ := rx; cases h; done) | (obtain ⟨_, _, h, _⟩ := rx; cases h; done)
    have hb : ∃ l, b = .str l ∧ b' = ⟨l.toArray⟩ := by
      cases b <;> simp only [VR] at ry <;> first | (rw [eqv_any_r] at h; cases h; done) | (injection ry with r1; exact ⟨_, rfl, r1⟩) | (cases ry; done) | (obtain ⟨_, _, h⟩ := ry; cases h; done) | (obtain ⟨_, h, _⟩ := ry; cases h; done) | (obtain ⟨_, _, _, _, h, _⟩ := ry; cases h; done) | (obtain ⟨_, _, h, _⟩ := ry; cases h; done)
    obtain ⟨l, rfl, rfl⟩ := ha
    obtain ⟨l', rfl, rfl⟩ := hb
    simp only [eqv, hu] at h
    injection h with h; injection hs with hs
    rw [← h, ← hs, beq_toListBytes, ByteArray.toList_eq, ByteArray.toList_eq]
  · rename_i a' b'
    have ha : a = .bool a' := by
      cases a <;> simp only [VR] at rx <;> first | (rw [eqv_any_l] at h; cases h; done) | (injection rx with r1; subst r1; rfl) | (cases rx; done) | (obtain ⟨_, _, h⟩ := rx; cases h; done) | (obtain ⟨_, h, _⟩ := rx; cases h; done) | (obtain ⟨_, _, _, _, h, _⟩ := rx; cases h; done) | (obtain ⟨_, _, h, _⟩ := rx; cases h; done)
    have hb : b = .bool b' := by
      cases b <;> simp only [VR] at ry <;> first | (rw [eqv_any_r] at h; cases h; done) | (injection ry with r1; subst r1; rfl) | (cases ry; done) | (obtain ⟨_, _, h⟩ := ry; cases h; done) | (obtain ⟨_, h, _⟩ := ry; cases h; done) | (obtain ⟨_, _, _, _, h, _⟩ := ry; cases h; done) | (obtain ⟨_, _, h, _⟩ := ry; cases h; done)
    subst ha; subst hb
    simp only [eqv, hu] at h
    injection h with h; injection hs with hs; rw [← h, ← hs]
  · cases hs

/-- what is found: nothing, or a place with its element -/
def Found (ι : Inj) (es' : List MapEntry) (i0 : Nat) : Option (Nat × AV) → Option (Nat × Value) → Prop
  | none, r => r = none
  | some (i, v), r => ∃ e, r = some (i, e.val) ∧ i0 ≤ i ∧ es'[i - i0]? = some e ∧ VR ι v e.val

theorem Found.shift {es' : List MapEntry} {e : MapEntry} {i0 : Nat} {r : Option (Nat × AV)} {r' : Option (Nat × Value)} (h : Found ι es' (i0 + 1) r r') : Found ι (e :: es') i0 r r' := by
  cases r with
  | none => exact h
  | some p =>
    obtain ⟨i, v⟩ := p
    obtain ⟨e', h1, h2, h3, h4⟩ := h
    exact ⟨e', h1, by omega, by rw [show i - i0 = (i - (i0 + 1)) + 1 by omega]; simpa using h3, h4⟩

theorem findAV_run {kt : TypeId} {u : TypeDesc} (hu : P.underlying kt = some u) {k : AV} {kv : Value} (rk : VR ι k kv) : ∀ (es : List (AV × AV)) (es' : List MapEntry) (i0 : Nat) (r : Option (Nat × AV)),
    es'.length = es.length → (∀ (i : Nat) (x : AV × AV) (e : MapEntry), es[i]? = some x → es'[i]? = some e → VR ι x.1 e.key ∧ VR ι x.2 e.val) → findAV P kt k es i0 = some r →
    (∃ r', (∀ w, (Instr.findAsking kt kv es' i0).run P w = .ok r' w) ∧ Found ι es' i0 r r' ∧ ∀ q, Instr.findNow u kv es' i0 = some q → q = r')
  | [], es', i0, r, hl, _, h => by
    have : es' = [] := by simpa using hl
    subst this
    simp only [findAV, Option.some.injEq] at h
    subst h
    exact ⟨none, fun w => rfl, rfl, fun q hq => by simpa [Instr.findNow] using hq.symm⟩
  | (k', v) :: es, [], i0, r, hl, _, h => by simp at hl
  | (k', v) :: es, e :: es', i0, r, hl, hr, h => by
    obtain ⟨re1, re2⟩ := hr 0 (k', v) e rfl rfl
    simp only [findAV] at h
    cases hq : eqv P 100 kt k k' with
    | none => simp [hq] at h
    | some q =>
      have hrun := eqv_run 100 Op.maxDepth (by decide) kt k k' kv e.key q rk re1 hq
      cases q with
      | true =>
        simp only [hq, Option.some.injEq] at h
        subst h
        refine ⟨some (i0, e.val), fun w => ?_, ⟨e, rfl, Nat.le_refl _, by simp, re2⟩, fun q h2 => ?_⟩
        · simp [Instr.findAsking, Op.equal, hrun]
        · simp only [Instr.findNow] at h2
          cases hs : Instr.sameNow u kv e.key with
          | none => simp [hs] at h2
          | some s =>
            have := sameNow_eq hu rk re1 hq hs
            subst this
            simp only [hs, Option.some.injEq] at h2
            exact h2.symm
      | false =>
        simp only [hq] at h
        obtain ⟨r', h1, h2, h3⟩ := findAV_run hu rk es es' (i0 + 1) r (by simpa using hl) (fun i x e' ha hb => hr (i + 1) x e' (by simpa using ha) (by simpa using hb)) h
        refine ⟨r', fun w => ?_, h2.shift, fun q hh => ?_⟩
        · simp [Instr.findAsking, Op.equal, hrun, h1]
        · simp only [Instr.findNow] at hh
          cases hs : Instr.sameNow u kv e.key with
          | none => simp [hs] at hh
          | some s =>
            have := sameNow_eq hu rk re1 hq hs
            subst this
            simp only [hs] at hh
            exact h3 q hh

theorem findKey_run {kt : TypeId} {u : TypeDesc} (hu : P.underlying kt = some u) {k : AV} {kv : Value} (rk : VR ι k kv) {es : List (AV × AV)} {es' : Array MapEntry} {clock : Nat} (he : EsR ι es es' clock) {r : Option (Nat × AV)}
    (h : findAV P kt k es 0 = some r) : ∃ r', (∀ w, (Instr.findKey kt kv es'.toList).run P w = .ok r' w) ∧ Found ι es'.toList 0 r r' := by
  obtain ⟨r', h1, h2, h3⟩ := findAV_run hu rk es es'.toList 0 r (by simpa using he.len) (fun i x e ha hb => he.at_ i x e ha (by simpa using hb)) h
  refine ⟨r', fun w => ?_, h2⟩
  simp only [Instr.findKey, Sem.run_bind, run_und w hu, Result.andThen_ok]
  cases hf : Instr.findNow u kv es'.toList 0 with
  | none => simp [h1]
  | some q => simp [h3 q hf]

end keys

section arith
variable {P : Program} {ι : Inj}

theorem ba_eq (a b : List UInt8) : ((⟨a.toArray⟩ : ByteArray).toList == (⟨b.toArray⟩ : ByteArray).toList) = (a == b) := by
  rw [ByteArray.toList_eq, ByteArray.toList_eq]
theorem ba_less (a b : List UInt8) : Op.bytesLess (⟨a.toArray⟩ : ByteArray).toList (⟨b.toArray⟩ : ByteArray).toList = Op.bytesLess a b := by
  rw [ByteArray.toList_eq, ByteArray.toList_eq]
theorem ba_append (a b : List UInt8) : (⟨a.toArray⟩ : ByteArray) ++ ⟨b.toArray⟩ = ⟨(a ++ b).toArray⟩ := by
  apply ByteArray.ext
  simp [ByteArray.data_append]
theorem ba_size (a : List UInt8) : (⟨a.toArray⟩ : ByteArray).size = a.length := by simp [ByteArray.size]

theorem eqGuard_other (op : BinOp) (t : TypeId) (x y : Operand) (u v : Value) (h1 : u ≠ .nilIface) (h2 : ∀ cs, u ≠ .agg cs) : eqGuard op t x y u v = pure () := by
  cases op <;> (try rfl) <;> cases u <;> (try rfl) <;> first | exact absurd rfl h1 | exact absurd rfl (h2 _)

theorem eqGuard_other2 (op : BinOp) (t : TypeId) (x y : Operand) (u v : Value) (h1 : v ≠ .nilIface) (h2 : ∀ cs, v ≠ .agg cs) : eqGuard op t x y u v = pure () := by
  cases op <;> (try rfl) <;> cases v <;> (try exact absurd rfl h1) <;> (try exact absurd rfl (h2 _)) <;> cases u <;> rfl

theorem VR.int_of {a : AV} {k : IntKind} {n : Int} (hn : a ≠ .any) (h : VR ι a (.int k n)) : a = .int k n := by
  cases a <;> simp only [VR] at h <;> first | exact absurd rfl hn | (injection h with r1 r2; subst r1; subst r2; rfl) | (cases h; done) | (obtain ⟨_, _, h⟩ := h; cases h; done) | (obtain ⟨_, h, _⟩ := h; cases h; done) | (obtain ⟨_, _, _, _, h, _⟩ := h; cases h; done) | (obtain ⟨_, _, h, _⟩ := h; cases h; done)
theorem VR.flt_of {a : AV} {k : FloatKind} {n : Nat} (hn : a ≠ .any) (h : VR ι a (.float k n)) : a = .flt k n := by
  cases a <;> simp only [VR] at h <;> first | exact absurd rfl hn | (injection h with r1 r2; subst r1; subst r2; rfl) | (cases h; done) | (obtain ⟨_, _, h⟩ := h; cases h; done) | (obtain ⟨_, h, _⟩ := h; cases h; done) | (obtain ⟨_, _, _, _, h, _⟩ := h; cases h; done) | (obtain ⟨_, _, h, _⟩ := h; cases h; done)
theorem VR.str_of {a : AV} {n : ByteArray} (hn : a ≠ .any) (h : VR ι a (.string n)) : ∃ l, a = .str l := by
  cases a <;> simp only [VR] at h <;> first | exact absurd rfl hn | exact ⟨_, rfl⟩ | (cases h; done) | (obtain ⟨_, _, h⟩ := h; cases h; done) | (obtain ⟨_, h, _⟩ := h; cases h; done) | (obtain ⟨_, _, _, _, h, _⟩ := h; cases h; done) | (obtain ⟨_, _, h, _⟩ := h; cases h; done)
theorem VR.complex_not {a : AV} {k : FloatKind} {n m : Nat} (hn : a ≠ .any) (h : VR ι a (.complex k n m)) : False := by
  cases a <;> simp only [VR] at h <;> first | exact absurd rfl hn | (cases h; done) | (obtain ⟨_, _, h⟩ := h; cases h; done) | (obtain ⟨_, h, _⟩ := h; cases h; done) | (obtain ⟨_, _, _, _, h, _⟩ := h; cases h; done) | (obtain ⟨_, _, h, _⟩ := h; cases h; done)

theorem binOp_equal (t : TypeId) (u v : Value) (h1 : ∀ k n k' n', u = .int k n → v = .int k' n' → False) (h2 : ∀ k n k' n', u = .float k n → v = .float k' n' → False)
    (h3 : ∀ n n', u = .string n → v = .string n' → False) (h4 : ∀ k n m, u ≠ .complex k n m) :
    binOp .eql t u v = (do pure (.bool (← Op.equal t u v))) ∧ binOp .neq t u v = (do pure (.bool (!(← Op.equal t u v)))) := by
  cases u <;> cases v <;> first | exact ⟨rfl, rfl⟩ | exact (h1 _ _ _ _ rfl rfl).elim | exact (h2 _ _ _ _ rfl rfl).elim | exact (h3 _ _ rfl rfl).elim | exact absurd rfl (h4 _ _ _)

theorem equal_run {t : TypeId} {a b : AV} {u v : Value} {r : Bool} (ha : VR ι a u) (hb : VR ι b v) (h : eqv P 100 t a b = some r) (w : World) : (Op.equal t u v).run P w = .ok r w :=
  eqv_run 100 Op.maxDepth (by decide) t a b u v r ha hb h w

theorem VR.nili_of {a : AV} (hn : a ≠ .any) (h : VR ι a .nilIface) : a = .nili := by
  cases a <;> simp only [VR] at h <;> first | exact absurd rfl hn | rfl | (cases h; done) | (obtain ⟨_, _, h⟩ := h; cases h; done) | (obtain ⟨_, h, _⟩ := h; cases h; done) | (obtain ⟨_, _, _, _, h, _⟩ := h; cases h; done) | (obtain ⟨_, _, h, _⟩ := h; cases h; done)
theorem VR.agg_of {a : AV} {cs : Array Value} (h : VR ι a (.agg cs)) : ∃ l, a = .agg l := by
  cases a <;> simp only [VR] at h <;> first | exact ⟨_, rfl⟩ | (cases h; done) | (obtain ⟨_, _, h⟩ := h; cases h; done) | (obtain ⟨_, h, _⟩ := h; cases h; done) | (obtain ⟨_, _, _, _, h, _⟩ := h; cases h; done) | (obtain ⟨_, _, h, _⟩ := h; cases h; done)

/-- the guard of an equality lets values by that are not both nil interfaces, nor both aggregates -/
theorem eqGuard_by (op : BinOp) (t : TypeId) (x y : Operand) {a b : AV} {u v : Value} (ha : VR ι a u) (hb : VR ι b v) (na : a ≠ .any) (nb : b ≠ .any) (h1 : ¬ (a = .nili ∧ b = .nili)) (h2 : ¬ ((∃ l, a = .agg l) ∧ (∃ l, b = .agg l))) :
    eqGuard op t x y u v = pure () := by
  by_cases hu : u = .nilIface
  · subst hu
    have hv : v ≠ .nilIface := fun e => by subst e; exact h1 ⟨VR.nili_of na ha, VR.nili_of nb hb⟩
    cases op <;> (try rfl) <;> cases v <;> first | rfl | exact absurd rfl hv
  · by_cases hg : ∃ cs, u = .agg cs
    · obtain ⟨cs, rfl⟩ := hg
      have hv : ∀ cs, v ≠ .agg cs := fun cs e => by subst e; exact h2 ⟨VR.agg_of ha, VR.agg_of hb⟩
      cases op <;> (try rfl) <;> cases v <;> first | rfl | exact absurd rfl (hv _)
    · exact eqGuard_other op t x y u v hu (fun cs e => hg ⟨cs, e⟩)

theorem VR.bool_mk {b : Bool} : VR ι (.bool b) (.bool b) := by simp only [VR]
theorem VR.int_mk {k : IntKind} {n : Int} : VR ι (.int k n) (.int k n) := by simp only [VR]
theorem VR.str_mk {s : List UInt8} : VR ι (.str s) (.string ⟨s.toArray⟩) := by simp only [VR]

theorem strBin_run {op : BinOp} {t : TypeId} {x y : Operand} {a b : List UInt8} {r : AV} (h : strBin op a b = some r) :
    ∃ z, (∀ w, (do eqGuard op t x y (.string ⟨a.toArray⟩) (.string ⟨b.toArray⟩); binOp op t (.string ⟨a.toArray⟩) (.string ⟨b.toArray⟩) : Sem Value).run P w = .ok z w) ∧ VR ι r z := by
  have hg : ∀ op, eqGuard op t x y (.string ⟨a.toArray⟩) (.string ⟨b.toArray⟩) = pure () := fun op => by cases op <;> rfl
  unfold strBin at h
  split at h
  · split at h
    · rename_i hl
      injection h with h; subst h
      refine ⟨.string ⟨(a ++ b).toArray⟩, fun w => ?_, by simp only [VR]⟩
      have : ¬ ((a.length : Int) + b.length > IntKind.i64.max) := by rw [IntKind.max_i64]; omega
      simp only [hg, binOp, Op.stringOp, ba_size, ba_append, Int.natCast_add, this, if_false, Sem.run_bind, Sem.run_pure, Result.andThen_ok]
    · cases h
  all_goals first
    | cases h; done
    | (injection h with h; subst h; refine ⟨_, fun w => ?_, VR.bool_mk⟩; simp only [hg, binOp, Op.stringOp, ba_eq, ba_less, Sem.run_bind, Sem.run_pure, Result.andThen_ok]; done)

theorem evEq_run {t : TypeId} {x y : Operand} {a b : AV} {u v : Value} {r : Bool} (ha : VR ι a u) (hb : VR ι b v) (h : evEq P t x y a b = some r) :
    (∀ op w, (eqGuard op t x y u v).run P w = .ok () w) ∧ ∀ w, (Op.equal t u v).run P w = .ok r w := by
  unfold evEq at h
  split at h
  · rw [VR.nili_inv ha, VR.nili_inv hb]
    split at h
    · rename_i hc
      refine ⟨fun op w => ?_, equal_run (ι := ι) (by simp only [VR]) (by simp only [VR]) h⟩
      simp only [Bool.or_eq_true] at hc
      cases op <;> (try rfl) <;> cases x <;> (try rfl) <;> cases y <;> (try rfl) <;> simp [isConstOp] at hc
    · cases h
  · rename_i a b
    split at h
    · cases h
    · rename_i hg
      obtain ⟨xs, rfl, _⟩ := VR.agg_inv ha
      obtain ⟨ys, rfl, _⟩ := VR.agg_inv hb
      refine ⟨fun op w => ?_, equal_run ha hb h⟩
      cases op <;> (try rfl) <;> simp [eqGuard, hg]
  · rename_i h1 h2
    split at h
    · cases h
    · rename_i hany
      simp only [Bool.or_eq_true, not_or, Bool.not_eq_true] at hany
      have na : a ≠ .any := fun e => by rw [e] at hany; exact absurd hany.1 (by simp [AV.isAny])
      have nb : b ≠ .any := fun e => by rw [e] at hany; exact absurd hany.2 (by simp [AV.isAny])
      refine ⟨fun op w => ?_, equal_run ha hb h⟩
      rw [eqGuard_by op t x y ha hb na nb (fun e => h1 e.1 e.2) (fun ⟨⟨l, e1⟩, ⟨l', e2⟩⟩ => h2 l l' e1 e2)]
      rfl

theorem evEq_any {t : TypeId} {x y : Operand} {a b : AV} {r : Bool} (h : evEq P t x y a b = some r) : a ≠ .any ∧ b ≠ .any := by
  unfold evEq at h
  split at h
  · exact ⟨by simp, by simp⟩
  · exact ⟨by simp, by simp⟩
  · split at h
    · cases h
    · rename_i hany
      simp only [Bool.or_eq_true, not_or, Bool.not_eq_true] at hany
      exact ⟨fun e => by rw [e] at hany; exact absurd hany.1 (by simp [AV.isAny]), fun e => by rw [e] at hany; exact absurd hany.2 (by simp [AV.isAny])⟩

theorem evBin_run {op : BinOp} {t : TypeId} {x y : Operand} {a b : AV} {u v : Value} {r : AV} (ha : VR ι a u) (hb : VR ι b v) (h : evBin P op t x y a b = some r) :
    ∃ z, (∀ w, (do eqGuard op t x y u v; binOp op t u v : Sem Value).run P w = .ok z w) ∧ VR ι r z := by
  unfold evBin at h
  split at h
  · rename_i a b
    rw [VR.str_inv ha, VR.str_inv hb]
    exact strBin_run h
  · rename_i k a k' b
    rw [VR.int_inv ha, VR.int_inv hb]
    cases hs : strip P (binOp op t (.int k a) (.int k' b)) with
    | none => simp [hs] at h
    | some z =>
      simp only [hs, Option.bind_some] at h
      exact ⟨z, fun w => by simp [eqGuard_at_int, strip_run hs w], VR.of_flatAV h⟩
  · rename_i k a k' b
    rw [VR.flt_inv ha, VR.flt_inv hb]
    cases hs : strip P (binOp op t (.float k a) (.float k' b)) with
    | none => simp [hs] at h
    | some z =>
      simp only [hs, Option.bind_some] at h
      exact ⟨z, fun w => by simp [eqGuard_at_float, strip_run hs w], VR.of_flatAV h⟩
  · rename_i h1 h2 h3
    obtain ⟨na, nb⟩ : a ≠ .any ∧ b ≠ .any := by
      split at h
      · cases hq : evEq P t x y a b with
        | none => simp [hq] at h
        | some q => exact evEq_any hq
      · cases hq : evEq P t x y a b with
        | none => simp [hq] at h
        | some q => exact evEq_any hq
      · cases h
    obtain ⟨e1, e2⟩ := binOp_equal t u v
      (fun k n k' n' eu ev => by subst eu; subst ev; exact h2 _ _ _ _ (VR.int_of na ha) (VR.int_of nb hb))
      (fun k n k' n' eu ev => by subst eu; subst ev; exact h3 _ _ _ _ (VR.flt_of na ha) (VR.flt_of nb hb))
      (fun n n' eu ev => by subst eu; subst ev; obtain ⟨l, e⟩ := VR.str_of na ha; obtain ⟨l', e'⟩ := VR.str_of nb hb; exact h1 _ _ e e')
      (fun k n m e => by subst e; exact VR.complex_not na ha)
    split at h
    · cases hq : evEq P t x y a b with
      | none => simp [hq] at h
      | some q =>
        simp only [hq, Option.map_some, Option.some.injEq] at h
        subst h
        obtain ⟨g1, g2⟩ := evEq_run ha hb hq
        exact ⟨.bool q, fun w => by simp [g1, e1, g2], VR.bool_mk⟩
    · cases hq : evEq P t x y a b with
      | none => simp [hq] at h
      | some q =>
        simp only [hq, Option.map_some, Option.some.injEq] at h
        subst h
        obtain ⟨g1, g2⟩ := evEq_run ha hb hq
        exact ⟨.bool (!q), fun w => by simp [g1, e2, g2], VR.bool_mk⟩
    · cases h

end arith
end Go.Proofs.YtcbileongahhiaaGreat.Ev
