/- Where a run begins: nothing is known of memory. -/
import Derived.Test.YtcbileongahhiaaGreatPrims
namespace Go.Proofs.YtcbileongahhiaaGreat.Ev
open Go Go.RowKit
set_option linter.unusedVariables false
set_option linter.unusedSimpArgs false

theorem run_some {o : Option (AV × Mem)} {v : AV} (h : o.map (·.1) = some v) : ∃ m', o = some (v, m') := by
  simp only [Option.map_eq_some_iff] at h
  obtain ⟨⟨a, m⟩, h, rfl⟩ := h
  exact ⟨m, h⟩

theorem GlobR.zero (ι : Inj) : GlobR ι 0 := fun _ h => absurd h (Nat.not_lt_zero _)

theorem Rel.empty {P : Program} (w : World) : Rel P w.heap.size (fun _ => none) ⟨.nil, 0⟩ w :=
  ⟨fun _ _ h => (by cases h), fun _ _ _ h => (by cases h), fun _ _ _ _ _ _ h => (by cases h), fun _ _ _ h => (by cases h), fun _ _ => rfl, Nat.le_refl _⟩

/-- what lay below the start lies as it did -/
theorem Step.old {P : Program} {ι κ : Inj} {m m' : Mem} {w w' : World} (st : Step P w.heap.size ι m w κ m' w') : Below w.heap.size w w' := by
  refine ⟨st.os, st.tape, st.output, st.size, fun k hk => st.frame k hk ?_⟩
  rintro ⟨b, p, x, hb, hx, ho, rfl⟩
  have := st.rel0.base b p x hb hx ho
  omega

theorem prims_none {f : FuncId} (h : f ≠ 226 ∧ f ≠ 203 ∧ f ≠ 399) : prims f = none := by
  unfold prims
  rw [if_neg h.1, if_neg h.2.1, if_neg h.2.2]

theorem str_self (ι : Inj) (a : ByteArray) : VR ι (.str a.data.toList) (.string a) := by
  simp only [VR]

theorem args_si {ι : Inj} (a0 : ByteArray) (a1 : Int) : VRL ι [.str a0.data.toList, .int .i64 a1] #[Value.string a0, .int .i64 a1].toList :=
  VRL.cons (str_self ι a0) (VRL.cons VR.int_mk (VRL.nil_iff.2 rfl))
end Go.Proofs.YtcbileongahhiaaGreat.Ev
