/- device: say of a port's state. -/
import Derived.Test.YtcbileongahhiaaGreatDev2
namespace Go.Proofs.YtcbileongahhiaaGreat.Ev
open Go Go.Proofs
set_option linter.unusedVariables false
set_option linter.unusedSimpArgs false

def portMsg (p : Int) (b : Bool) : AV := .agg [.int .i64 12, .int .i64 0, .int .i64 0, .bool false, .int .i64 0, .int .i64 0, .nils, .nils, .nils, .bool false, .int .u64 0, .int .u64 0, .int .i64 0, .int .i64 0, .int .i64 0, .int .i64 0, .nils, .int .i64 0, .int .i64 0, .int .i64 0, .int .i64 0, .int .i64 0, .int .i64 p, .bool b, .nils, .str []]
noncomputable def sayRun (p : Nat) (b : Bool) : Option (AV × Mem) := evCall Tryz.prog prims 0 3000 88 [portMsg p b] ⟨.nil, 0⟩
def isStr : Option (AV × Mem) → Bool
  | some (.str _, _) => true
  | _ => false
theorem say_1_true : isStr (sayRun 1 true) = true := by kernel_rfl
theorem say_1_false : isStr (sayRun 1 false) = true := by kernel_rfl
theorem say_2_true : isStr (sayRun 2 true) = true := by kernel_rfl
theorem say_2_false : isStr (sayRun 2 false) = true := by kernel_rfl
theorem say_3_true : isStr (sayRun 3 true) = true := by kernel_rfl
theorem say_3_false : isStr (sayRun 3 false) = true := by kernel_rfl
theorem say_4_true : isStr (sayRun 4 true) = true := by kernel_rfl
theorem say_4_false : isStr (sayRun 4 false) = true := by kernel_rfl
theorem say_5_true : isStr (sayRun 5 true) = true := by kernel_rfl
theorem say_5_false : isStr (sayRun 5 false) = true := by kernel_rfl
theorem say_6_true : isStr (sayRun 6 true) = true := by kernel_rfl
theorem say_6_false : isStr (sayRun 6 false) = true := by kernel_rfl
theorem say_7_true : isStr (sayRun 7 true) = true := by kernel_rfl
theorem say_7_false : isStr (sayRun 7 false) = true := by kernel_rfl
theorem say_8_true : isStr (sayRun 8 true) = true := by kernel_rfl
theorem say_8_false : isStr (sayRun 8 false) = true := by kernel_rfl
theorem say_9_true : isStr (sayRun 9 true) = true := by kernel_rfl
theorem say_9_false : isStr (sayRun 9 false) = true := by kernel_rfl
theorem say_10_true : isStr (sayRun 10 true) = true := by kernel_rfl
theorem say_10_false : isStr (sayRun 10 false) = true := by kernel_rfl
theorem say_11_true : isStr (sayRun 11 true) = true := by kernel_rfl
theorem say_11_false : isStr (sayRun 11 false) = true := by kernel_rfl
theorem say_12_true : isStr (sayRun 12 true) = true := by kernel_rfl
theorem say_12_false : isStr (sayRun 12 false) = true := by kernel_rfl
theorem say_13_true : isStr (sayRun 13 true) = true := by kernel_rfl
theorem say_13_false : isStr (sayRun 13 false) = true := by kernel_rfl
theorem say_14_true : isStr (sayRun 14 true) = true := by kernel_rfl
theorem say_14_false : isStr (sayRun 14 false) = true := by kernel_rfl
theorem say_15_true : isStr (sayRun 15 true) = true := by kernel_rfl
theorem say_15_false : isStr (sayRun 15 false) = true := by kernel_rfl
theorem say_16_true : isStr (sayRun 16 true) = true := by kernel_rfl
theorem say_16_false : isStr (sayRun 16 false) = true := by kernel_rfl
theorem sayRuns (p : Nat) (b : Bool) (hp : 1 ≤ p) (hp2 : p ≤ 16) : isStr (sayRun p b) = true := by
  have h : p = 1 ∨ p = 2 ∨ p = 3 ∨ p = 4 ∨ p = 5 ∨ p = 6 ∨ p = 7 ∨ p = 8 ∨ p = 9 ∨ p = 10 ∨ p = 11 ∨ p = 12 ∨ p = 13 ∨ p = 14 ∨ p = 15 ∨ p = 16 := by omega
  rcases h with rfl | rfl | rfl | rfl | rfl | rfl | rfl | rfl | rfl | rfl | rfl | rfl | rfl | rfl | rfl | rfl <;> cases b
  · exact say_1_false
  · exact say_1_true
  · exact say_2_false
  · exact say_2_true
  · exact say_3_false
  · exact say_3_true
  · exact say_4_false
  · exact say_4_true
  · exact say_5_false
  · exact say_5_true
  · exact say_6_false
  · exact say_6_true
  · exact say_7_false
  · exact say_7_true
  · exact say_8_false
  · exact say_8_true
  · exact say_9_false
  · exact say_9_true
  · exact say_10_false
  · exact say_10_true
  · exact say_11_false
  · exact say_11_true
  · exact say_12_false
  · exact say_12_true
  · exact say_13_false
  · exact say_13_true
  · exact say_14_false
  · exact say_14_true
  · exact say_15_false
  · exact say_15_true
  · exact say_16_false
  · exact say_16_true

theorem say_ok {m : Mem} {p : Nat} {b : Bool} (hp : 1 ≤ p) (hp2 : p ≤ 16) : ∃ s, Contr Tryz.prog 0 88 [portMsg p b] m (.str s) m := by
  have h := sayRuns p b hp hp2
  cases hr : sayRun p b with
  | none => rw [hr] at h; cases h
  | some r =>
    obtain ⟨v, mg⟩ := r
    rw [hr] at h
    cases v with
    | str s =>
      refine ⟨s, contr_closed0 (args := [portMsg p b]) mixed sane primsOk (prims_none (by decide)) (n := 3000) ?_ rfl rfl⟩
      rw [show evCall Tryz.prog prims 0 3000 88 [portMsg p b] ⟨.nil, 0⟩ = _ from hr]; rfl
    | _ => cases h
end Go.Proofs.YtcbileongahhiaaGreat.Ev
