/- The closed facts of the row of 'DeviceNil', each by itself. -/
import Derived.Test.YtcbileongahhiaaGreatRows
import Derived.JoinedOf
import Derived.KernelRfl
namespace Go.Proofs.YtcbileongahhiaaGreat.deviceNilFacts
open Go

theorem k0 : (Rows.deviceNilRow.wf (OpenSpec.ofChange Rows.deviceNilSpec)) = true := by kernel_rfl
theorem k1 : (laidOutB Tryz.prog) = true := by kernel_rfl
theorem k2 : (mapsRowed Tryz.prog) = true := by kernel_rfl
theorem k3 : (Tryz.f9.params.all (Tryz.prog.readableRec ·)) = true := by kernel_rfl
theorem k4 : (namedTie Tryz.prog Rows.deviceNilRow.named Rows.deviceNilSpec.vars) = true := by kernel_rfl
theorem k5 : ((Rows.deviceNilRow.stops == [])) = true := by kernel_rfl
theorem k6 : ((Tryz.prog.stops == [])) = true := by kernel_rfl
theorem k7 : ((Rows.deviceNilRow.knobs == [])) = true := by kernel_rfl
theorem k8 : ((Tryz.prog.stopKnobs == [])) = true := by kernel_rfl
theorem k9 : ((Rows.deviceNilRow.inPlace == Tryz.prog.inPlace (9 : FuncId))) = true := by kernel_rfl
theorem k10 : ((Rows.deviceNilRow.unfollowed == Tryz.prog.unfollowed (9 : FuncId))) = true := by kernel_rfl
theorem k11 : ((Rows.deviceNilRow.recurses == Tryz.prog.recurses (9 : FuncId))) = true := by kernel_rfl
theorem k12 : ((Rows.deviceNilRow.named == Tryz.prog.varsNamed (9 : FuncId))) = true := by kernel_rfl
theorem k13 : ((Rows.deviceNilRow.maps == (Tryz.f9.params.toList ++ Rows.deviceNilSpec.plain.varTypes Tryz.prog).any (Tryz.prog.mapsRec ·))) = true := by kernel_rfl
theorem k14 : ((Rows.deviceNilRow.ifaces == (Tryz.f9.params.toList ++ Rows.deviceNilSpec.plain.varTypes Tryz.prog).any (Tryz.prog.ifacesRec ·))) = true := by kernel_rfl
theorem k15 : ((Rows.deviceNilRow.mapsOut == Tryz.prog.mapsAmong Tryz.f9.resultTypes.toList)) = true := by kernel_rfl
theorem k16 : ((Rows.deviceNilRow.loops == (Tryz.f9.params.toList ++ Rows.deviceNilSpec.plain.varTypes Tryz.prog).any (Tryz.prog.loopsFrom ·))) = true := by kernel_rfl
theorem k17 : ((Rows.deviceNilRow.wideKeys == (Tryz.f9.params.toList ++ Rows.deviceNilSpec.plain.varTypes Tryz.prog ++ Tryz.f9.resultTypes.toList).any (Tryz.prog.wideKeysFrom ·))) = true := by kernel_rfl
theorem k18 : (Rows.deviceNilSpec.vars.all (Tryz.prog.varReadable ·)) = true := by kernel_rfl
theorem k19 : (Tryz.f9.resultTypes.all (fun t => Tryz.prog.readableRec t && decide (t < Tryz.prog.types.size))) = true := by kernel_rfl
theorem k20 : ((Rows.deviceNilRow.ifacesOut == Tryz.f9.resultTypes.toList.any (Tryz.prog.ifacesRec ·))) = true := by kernel_rfl
theorem k21 : ((Rows.deviceNilRow.loopsOut == Tryz.f9.resultTypes.toList.any (Tryz.prog.loopsFrom ·))) = true := by kernel_rfl
theorem k22 : ((Rows.deviceNilRow.plainKeys == Tryz.prog.plainKeys)) = true := by kernel_rfl
theorem k23 : (Rows.deviceNilRow.shortTexts.isNone) = true := by kernel_rfl
theorem k24 : (Tryz.prog.stopsHeard) = true := by kernel_rfl
theorem k25 : (Tryz.prog.mayEnter) = true := by kernel_rfl
theorem k26 : ((Rows.deviceNilRow.lifted == Tryz.prog.liftsFinal)) = true := by kernel_rfl
theorem k27 : ((Tryz.prog.make == some Rows.deviceNilRow.make)) = true := by kernel_rfl
theorem k28 : ((Rows.deviceNilRow.kinds == (if Rows.deviceNilRow.domain.isEmpty then [] else Tryz.f9.params.toList.map fun t => match Tryz.prog.underlying t with | some (.int k) => some k | _ => none))) = true := by kernel_rfl
theorem k29 : ((Rows.deviceNilRow.pinned == Rows.deviceNilRow.pinnedBy)) = true := by kernel_rfl
theorem k30 : ((Rows.deviceNilRow.veiled == (Tryz.f9.params.toList ++ Rows.deviceNilSpec.plain.varTypes Tryz.prog ++ Tryz.f9.resultTypes.toList).any (Tryz.prog.veiledRec ·))) = true := by kernel_rfl
theorem k31 : (Rows.deviceNilRow.veiledFits Tryz.prog Tryz.f9.params.toList (Tryz.f9.params.toList ++ Rows.deviceNilSpec.plain.varTypes Tryz.prog ++ Tryz.f9.resultTypes.toList)) = true := by kernel_rfl

end Go.Proofs.YtcbileongahhiaaGreat.deviceNilFacts
