/- The program's codes name their own slots; its iterators over empty maps make no round. -/
import Derived.Test.YtcbileongahhiaaGreatEvPrim2
import Derived.Test.YtcbileongahhiaaGreatProg
import Derived.KernelRfl
namespace Go.Proofs.YtcbileongahhiaaGreat.Ev
open Go
set_option linter.unusedVariables false
set_option linter.unusedSimpArgs false

theorem sane : Sane Tryz.prog := sane_of (by kernel_rfl)
theorem mixed : Tryz.prog.follows .mixedOrders = true := by kernel_rfl
#print axioms sane
end Go.Proofs.YtcbileongahhiaaGreat.Ev
