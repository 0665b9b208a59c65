/- The program's types are laid out. -/
import Derived.Test.YtcbileongahhiaaGreatEvTy
import Derived.Carry
namespace Go.Proofs.YtcbileongahhiaaGreat.Ev
open Go Go.Proofs
theorem laid : laidOutB Tryz.prog = true := by kernel_rfl
theorem readable_net : Tryz.prog.readableRec 63 = true := by kernel_rfl
theorem readable_ints : Tryz.prog.readableRec 61 = true := by kernel_rfl
end Go.Proofs.YtcbileongahhiaaGreat.Ev
