/- The closed facts of the row of 'NetFails', each by itself. -/
import Derived.Test.YtcbileongahhiaaGreatRows
import Derived.JoinedOf
import Derived.KernelRfl
namespace Go.Proofs.YtcbileongahhiaaGreat.netFailsFacts
open Go

theorem k0 : (Rows.netFailsRow.wf (OpenSpec.ofChange Rows.netFailsSpec)) = true := by kernel_rfl
theorem k1 : (laidOutB Tryz.prog) = true := by kernel_rfl
theorem k2 : (mapsRowed Tryz.prog) = true := by kernel_rfl
theorem k3 : (Tryz.f10.params.all (Tryz.prog.readableRec ·)) = true := by kernel_rfl
theorem k4 : (namedTie Tryz.prog Rows.netFailsRow.named Rows.netFailsSpec.vars) = true := by kernel_rfl
theorem k5 : ((Rows.netFailsRow.stops == [])) = true := by kernel_rfl
theorem k6 : ((Tryz.prog.stops == [])) = true := by kernel_rfl
theorem k7 : ((Rows.netFailsRow.knobs == [])) = true := by kernel_rfl
theorem k8 : ((Tryz.prog.stopKnobs == [])) = true := by kernel_rfl
theorem k9 : ((Rows.netFailsRow.inPlace == Tryz.prog.inPlace (10 : FuncId))) = true := by kernel_rfl
theorem k10 : ((Rows.netFailsRow.unfollowed == Tryz.prog.unfollowed (10 : FuncId))) = true := by kernel_rfl
theorem k11 : ((Rows.netFailsRow.recurses == Tryz.prog.recurses (10 : FuncId))) = true := by kernel_rfl
theorem k12 : ((Rows.netFailsRow.named == Tryz.prog.varsNamed (10 : FuncId))) = true := by kernel_rfl
theorem k13 : ((Rows.netFailsRow.maps == (Tryz.f10.params.toList ++ Rows.netFailsSpec.plain.varTypes Tryz.prog).any (Tryz.prog.mapsRec ·))) = true := by kernel_rfl
theorem k14 : ((Rows.netFailsRow.ifaces == (Tryz.f10.params.toList ++ Rows.netFailsSpec.plain.varTypes Tryz.prog).any (Tryz.prog.ifacesRec ·))) = true := by kernel_rfl
theorem k15 : ((Rows.netFailsRow.mapsOut == Tryz.prog.mapsAmong Tryz.f10.resultTypes.toList)) = true := by kernel_rfl
theorem k16 : ((Rows.netFailsRow.loops == (Tryz.f10.params.toList ++ Rows.netFailsSpec.plain.varTypes Tryz.prog).any (Tryz.prog.loopsFrom ·))) = true := by kernel_rfl
theorem k17 : ((Rows.netFailsRow.wideKeys == (Tryz.f10.params.toList ++ Rows.netFailsSpec.plain.varTypes Tryz.prog ++ Tryz.f10.resultTypes.toList).any (Tryz.prog.wideKeysFrom ·))) = true := by kernel_rfl
theorem k18 : (Rows.netFailsSpec.vars.all (Tryz.prog.varReadable ·)) = true := by kernel_rfl
theorem k19 : (Tryz.f10.resultTypes.all (fun t => Tryz.prog.readableRec t && decide (t < Tryz.prog.types.size))) = true := by kernel_rfl
theorem k20 : ((Rows.netFailsRow.ifacesOut == Tryz.f10.resultTypes.toList.any (Tryz.prog.ifacesRec ·))) = true := by kernel_rfl
theorem k21 : ((Rows.netFailsRow.loopsOut == Tryz.f10.resultTypes.toList.any (Tryz.prog.loopsFrom ·))) = true := by kernel_rfl
theorem k22 : ((Rows.netFailsRow.plainKeys == Tryz.prog.plainKeys)) = true := by kernel_rfl
theorem k23 : (Rows.netFailsRow.shortTexts.isNone) = true := by kernel_rfl
theorem k24 : (Tryz.prog.stopsHeard) = true := by kernel_rfl
theorem k25 : (Tryz.prog.mayEnter) = true := by kernel_rfl
theorem k26 : ((Rows.netFailsRow.lifted == Tryz.prog.liftsFinal)) = true := by kernel_rfl
theorem k27 : ((Tryz.prog.make == some Rows.netFailsRow.make)) = true := by kernel_rfl
theorem k28 : ((Rows.netFailsRow.kinds == (if Rows.netFailsRow.domain.isEmpty then [] else Tryz.f10.params.toList.map fun t => match Tryz.prog.underlying t with | some (.int k) => some k | _ => none))) = true := by kernel_rfl
theorem k29 : ((Rows.netFailsRow.pinned == Rows.netFailsRow.pinnedBy)) = true := by kernel_rfl
theorem k30 : ((Rows.netFailsRow.veiled == (Tryz.f10.params.toList ++ Rows.netFailsSpec.plain.varTypes Tryz.prog ++ Tryz.f10.resultTypes.toList).any (Tryz.prog.veiledRec ·))) = true := by kernel_rfl
theorem k31 : (Rows.netFailsRow.veiledFits Tryz.prog Tryz.f10.params.toList (Tryz.f10.params.toList ++ Rows.netFailsSpec.plain.varTypes Tryz.prog ++ Tryz.f10.resultTypes.toList)) = true := by kernel_rfl

end Go.Proofs.YtcbileongahhiaaGreat.netFailsFacts
