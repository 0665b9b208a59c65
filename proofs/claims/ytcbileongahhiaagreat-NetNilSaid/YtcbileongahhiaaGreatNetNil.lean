/- A nil net does nothing: the run. -/
import Derived.Test.YtcbileongahhiaaGreatStart
namespace Go.Proofs.YtcbileongahhiaaGreat.Ev
open Go

theorem netNil_run (s : List UInt8) (n : Int) : (evCall Tryz.prog prims 0 4000 12 [.str s, .int .i64 n] ⟨.nil, 0⟩).map (·.1) = some (.bool true) := by kernel_rfl
end Go.Proofs.YtcbileongahhiaaGreat.Ev
