/- The operations that look at no memory: cuts, what is built, and all of them together. -/
import Derived.Test.YtcbileongahhiaaGreatEvPure2
namespace Go.Proofs.YtcbileongahhiaaGreat.Ev
open Go
set_option linter.unusedVariables false
set_option linter.unusedSimpArgs false

section slices
variable {P : Program} {ι : Inj}

/-- an optional number of the model's -/
def NumOr (o : Option Value) (d n : Nat) : Prop :=
  match o with
  | none => n = d
  | some v => ∃ k, v = .int k n

def OptR (ι : Inj) : Option AV → Option Value → Prop
  | none, none => True
  | some a, some v => VR ι a v
  | _, _ => False

theorem NumOr.of {d n : Nat} {o : Option AV} {o' : Option Value} (h : optNat d o = some n) (r : OptR ι o o') : NumOr o' d n := by
  cases o with
  | none =>
    cases o' with
    | none => simp [optNat] at h; exact h.symm
    | some v => exact r.elim
  | some a =>
    cases o' with
    | none => exact r.elim
    | some v =>
      obtain ⟨k, rfl⟩ := natOf_int (show natOf a = some n from h)
      exact ⟨k, VR.int_inv (ι := ι) r⟩

theorem OptR.isSome {o : Option AV} {o' : Option Value} (r : OptR ι o o') : o'.isSome = o.isSome := by
  cases o <;> cases o' <;> first | rfl | exact r.elim

theorem hi_of_mx {mx hi : Option AV} {mx' hi' : Option Value} (rm : OptR ι mx mx') (rh : OptR ι hi hi') (c : mx = none ∨ hi.isSome = true) : mx'.isSome = true → hi'.isSome = true := by
  rw [rm.isSome, rh.isSome]
  intro hs
  rcases c with c | c
  · rw [c] at hs; cases hs
  · exact c

theorem sliceBound_run {k : IntKind} {n y : Nat} {code : BoundsCode} (h : n ≤ y) (w : World) : (Instr.sliceBound (.int k n) y code).run P w = .ok n w := by
  simp [Instr.sliceBound, asIntOf, h]

theorem sliceBounds_run {b : Bool} {len cap m h l : Nat} {lo hi mx : Option Value} (hm : NumOr mx cap m) (hh : NumOr hi len h) (hl : NumOr lo 0 l) (h1 : l ≤ h) (h2 : h ≤ m) (h3 : m ≤ cap)
    (hx : mx.isSome = true → hi.isSome = true) (w : World) : (Instr.sliceBounds b len cap lo hi mx).run P w = .ok (l, h, m) w := by
  cases mx with
  | none =>
    have hm : m = cap := hm
    subst hm
    cases hi with
    | none =>
      have hh : h = len := hh
      subst hh
      cases lo with
      | none => have hl : l = 0 := hl; subst hl; simp [Instr.sliceBounds]
      | some v => obtain ⟨k, rfl⟩ := hl; simp [Instr.sliceBounds, sliceBound_run h1]
    | some u =>
      obtain ⟨j, rfl⟩ := hh
      cases lo with
      | none => have hl : l = 0 := hl; subst hl; simp [Instr.sliceBounds, sliceBound_run h2]
      | some v => obtain ⟨k, rfl⟩ := hl; simp [Instr.sliceBounds, sliceBound_run h1, sliceBound_run h2]
  | some z =>
    obtain ⟨i, rfl⟩ := hm
    cases hi with
    | none => simp at hx
    | some u =>
      obtain ⟨j, rfl⟩ := hh
      cases lo with
      | none => have hl : l = 0 := hl; subst hl; simp [Instr.sliceBounds, sliceBound_run h2, sliceBound_run h3]
      | some v => obtain ⟨k, rfl⟩ := hl; simp [Instr.sliceBounds, sliceBound_run h1, sliceBound_run h2, sliceBound_run h3]

theorem ba_extract (s : List UInt8) (l h : Nat) : (⟨s.toArray⟩ : ByteArray).extract l h = ⟨((s.drop l).take (h - l)).toArray⟩ := by
  apply ByteArray.ext
  simp [ByteArray.data_extract]

theorem evSlice_run {t : TypeId} {x : AV} {lo hi mx : Option AV} {r : AV} {x' : Value} {lo' hi' mx' : Option Value} (rx : VR ι x x') (rl : OptR ι lo lo') (rh : OptR ι hi hi') (rm : OptR ι mx mx')
    (h : evSlice P t x lo hi mx = some r) : ∃ z, (∀ w, (Instr.sliceAt t x' lo' hi' mx').run P w = .ok z w) ∧ VR ι r z := by
  unfold evSlice at h
  split at h
  · rename_i s hu
    split at h
    · rename_i h1 h2 h3
      split at h
      · rename_i hc
        simp only [Bool.and_eq_true, decide_eq_true_eq] at hc
        injection h with h; subst h
        rw [VR.str_inv rx]
        have hm : mx' = none := by cases mx' with | none => rfl | some v => exact rm.elim
        subst hm
        refine ⟨_, fun w => ?_, VR.str_mk⟩
        simp only [Instr.sliceAt, Sem.run_bind, run_und w hu, Result.andThen_ok, Instr.slice, Option.isSome_none, Bool.false_eq_true, if_false, Sem.run_pure]
        rw [sliceBounds_run (P := P) (m := s.length) (show NumOr none _ _ by simp [NumOr, ba_size]) (by rw [ba_size]; exact NumOr.of h2 rh) (NumOr.of h3 rl) hc.1 hc.2 (by rw [ba_size]; omega) (by simp)]
        simp [ba_extract]
      · cases h
    · cases h
  · rename_i e b off len cap esz ex hu
    split at h
    · rename_i mm hh l h1 h2 h3
      split at h
      · rename_i hc
        simp only [Bool.and_eq_true, decide_eq_true_eq, Bool.or_eq_true, Option.isNone_iff_eq_none] at hc
        obtain ⟨⟨⟨⟨he, c1⟩, c2⟩, c3⟩, c4⟩ := hc
        injection h with h; subst h
        obtain ⟨p, co, c', hp, rfl, hco, hcap, hsz, hlen⟩ := VR.slc_inv rx
        have hle : cap ≤ c' := by split at hcap <;> omega
        -- the capacity behind the cut
        obtain ⟨m', hm', hb1, hb2⟩ : ∃ m', NumOr mx' c' m' ∧ mm ≤ m' ∧ m' ≤ c' ∧ (mx.isSome = true → m' = mm) ∧ (mx.isSome = false → m' = c' ∧ mm = cap) := by
          cases mx with
          | none =>
            have : mx' = none := by cases mx' with | none => rfl | some v => exact rm.elim
            subst this
            simp [optNat] at h1
            exact ⟨c', rfl, by omega, Nat.le_refl _, by simp, by simp [h1]⟩
          | some v =>
            have := NumOr.of h1 rm
            cases mx' with
            | none => exact rm.elim
            | some u => exact ⟨mm, this, Nat.le_refl _, by omega, by simp, by simp⟩
        obtain ⟨hb2, hb3, hb4⟩ := hb2
        have hrun : ∀ w, (Instr.sliceBounds true len c' lo' hi' mx').run P w = .ok (l, hh, m') w := fun w =>
          sliceBounds_run hm' (NumOr.of h2 rh) (NumOr.of h3 rl) c1 (by omega) hb2 (hi_of_mx rm rh c4) w
        refine ⟨.slice (if m' = l then some ⟨p.blk, co, none⟩ else some (Addr.add ⟨p.blk, co, none⟩ (l * esz))) (hh - l) (m' - l), fun w => ?_, ?_⟩
        · simp only [Instr.sliceAt, Sem.run_bind, run_und w hu, Result.andThen_ok, Instr.slice, hrun, run_sizeOf' w he, Sem.run_pure, Option.map_some]
        · simp only [VR]
          have hco' : (if m' = l then some (⟨p.blk, co, none⟩ : Addr) else some (Addr.add ⟨p.blk, co, none⟩ (l * esz))) = some ⟨p.blk, if m' = l then co else co + l * esz, none⟩ := by
            split
            · rfl
            · simp only [Addr.add]; split <;> simp_all
          rw [hco']
          refine ⟨p, _, m' - l, hp, rfl, ?_, ?_, ?_, by omega⟩
          · by_cases e0 : m' = l
            · left; omega
            · right
              rw [if_neg e0]
              rcases hco with h0 | h0
              · omega
              · omega
          · cases hs : mx.isSome with
            | true => simp [hs, hb3 hs]
            | false =>
              obtain ⟨e1, e2⟩ := hb4 hs
              subst e1; subst e2
              simp only [hs, Bool.or_false]
              split
              · rename_i hx; rw [if_pos hx] at hcap; omega
              · omega
          · split
            · rename_i e0
              have : m' - l = 0 := by omega
              rw [this, Nat.zero_mul]
              have : co ≤ co + c' * esz := Nat.le_add_right _ _
              omega
            · have : l * esz + (m' - l) * esz ≤ c' * esz := by rw [← Nat.add_mul]; exact Nat.mul_le_mul_right _ (by omega)
              omega
      · cases h
    · cases h
  · rename_i hu
    split at h
    · rename_i h1 h2 h3
      split at h
      · rename_i hc
        injection h with h; subst h
        rw [VR.nils_inv rx]
        refine ⟨.slice none 0 0, fun w => ?_, by simp only [VR]⟩
        simp only [Bool.and_eq_true, Bool.or_eq_true, Option.isNone_iff_eq_none] at hc
        obtain ⟨c4, hz⟩ := hc
        obtain ⟨n, hn⟩ := Option.isSome_iff_exists.1 hz
        have hrun : (Instr.sliceBounds true 0 0 lo' hi' mx').run P w = .ok (0, 0, 0) w :=
          sliceBounds_run (NumOr.of h1 rm) (NumOr.of h2 rh) (NumOr.of h3 rl) (Nat.le_refl _) (Nat.le_refl _) (Nat.le_refl _) (hi_of_mx rm rh c4) w
        simp [Instr.sliceAt, run_und w hu, Instr.slice, hrun, run_sizeOf' w hn]
      · cases h
    · cases h
  · cases h

end slices
end Go.Proofs.YtcbileongahhiaaGreat.Ev
