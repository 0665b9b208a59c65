/- device: the contracts of State and Port of a new switch. -/
import Derived.Test.YtcbileongahhiaaGreatDev1
namespace Go.Proofs.YtcbileongahhiaaGreat.Ev
open Go Go.Proofs
set_option linter.unusedVariables false
set_option linter.unusedSimpArgs false

def devMem : Mem := ((((((⟨.nil, 0⟩ : Mem).new (.row true (some 0) 168 (.int .i64 9 :: List.replicate 8 .nils))).new (.map [])).new (.row true (some 0) 177 [.int .i64 9, .map 1])).new (.row true (some 0) 4 (liveAll.map .bool))).new (.row true (some 0) 147 (List.replicate 17 .nilp))).new
  (.row true (some 0) 215 ([.ptr 0 0, .ptr 2 0, .slc 4 0 17 17 1 true, .slc 3 0 17 17 1 true] ++ List.replicate 51 (.int .i64 0) ++ [.str []]))

noncomputable def stateRun : Option (AV × Mem) := evCall Tryz.prog prims 0 4000 35 [.ptr 5 0] devMem
theorem stateRun_v : stateRun.map (·.1) = some (.str []) := by kernel_rfl
theorem stateRun_n : stateRun.map (fun p => Nat.ble 6 p.2.next) = some true := by kernel_rfl
theorem stateRun_m : stateRun.map (fun p => [p.2.get 0, p.2.get 1, p.2.get 2, p.2.get 3, p.2.get 4, p.2.get 5]) = some [devMem.get 0, devMem.get 1, devMem.get 2, devMem.get 3, devMem.get 4, devMem.get 5] := by kernel_rfl
end Go.Proofs.YtcbileongahhiaaGreat.Ev
