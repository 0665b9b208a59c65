/- The example of layer 24: a closed run. -/
import Derived.Test.YtcbileongahhiaaGreatStart
import Derived.Test.YtcbileongahhiaaGreatEvDr
namespace Go.Proofs.YtcbileongahhiaaGreat.Ev
open Go Go.Proofs

theorem awake24_run : (evCall Tryz.prog prims 0 4000 25 [] ⟨.nil, 0⟩).map (·.1) = some (.bool true) := by kernel_rfl
theorem awake24_ok {m : Mem} : Contr Tryz.prog 0 25 [] m (.bool true) m := contr_closed0 mixed sane primsOk (prims_none (by decide)) awake24_run rfl rfl
end Go.Proofs.YtcbileongahhiaaGreat.Ev
