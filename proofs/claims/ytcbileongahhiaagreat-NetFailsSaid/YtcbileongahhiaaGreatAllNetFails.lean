/- The closed facts of the row of 'NetFails', together. -/
import Derived.Test.YtcbileongahhiaaGreatFactsNetFails
namespace Go.Proofs.YtcbileongahhiaaGreat.netFailsFacts
open Go

set_option maxRecDepth 100000 in
theorem all : joinedFacts Tryz.prog 10 Tryz.f10 Rows.netFailsSpec Rows.netFailsRow = true := by
  simp only [joinedFacts, Bool.and_eq_true]
  exact ⟨⟨⟨⟨⟨⟨⟨⟨⟨⟨⟨⟨⟨⟨⟨⟨⟨⟨⟨⟨⟨⟨⟨⟨⟨⟨⟨⟨⟨⟨⟨k0, k1⟩, k2⟩, k3⟩, k4⟩, k5⟩, k6⟩, k7⟩, k8⟩, k9⟩, k10⟩, k11⟩, k12⟩, k13⟩, k14⟩, k15⟩, k16⟩, k17⟩, k18⟩, k19⟩, k20⟩, k21⟩, k22⟩, k23⟩, k24⟩, k25⟩, k26⟩, k27⟩, k28⟩, k29⟩, k30⟩, k31⟩
end Go.Proofs.YtcbileongahhiaaGreat.netFailsFacts
