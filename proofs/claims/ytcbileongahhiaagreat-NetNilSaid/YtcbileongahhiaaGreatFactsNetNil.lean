/- The closed facts of the row of 'NetNil', each by itself. -/
import Derived.Test.YtcbileongahhiaaGreatRows
import Derived.JoinedOf
import Derived.KernelRfl
namespace Go.Proofs.YtcbileongahhiaaGreat.netNilFacts
open Go

theorem k0 : (Rows.netNilRow.wf (OpenSpec.ofChange Rows.netNilSpec)) = true := by kernel_rfl
theorem k1 : (laidOutB Tryz.prog) = true := by kernel_rfl
theorem k2 : (mapsRowed Tryz.prog) = true := by kernel_rfl
theorem k3 : (Tryz.f12.params.all (Tryz.prog.readableRec ·)) = true := by kernel_rfl
theorem k4 : (namedTie Tryz.prog Rows.netNilRow.named Rows.netNilSpec.vars) = true := by kernel_rfl
theorem k5 : ((Rows.netNilRow.stops == [])) = true := by kernel_rfl
theorem k6 : ((Tryz.prog.stops == [])) = true := by kernel_rfl
theorem k7 : ((Rows.netNilRow.knobs == [])) = true := by kernel_rfl
theorem k8 : ((Tryz.prog.stopKnobs == [])) = true := by kernel_rfl
theorem k9 : ((Rows.netNilRow.inPlace == Tryz.prog.inPlace (12 : FuncId))) = true := by kernel_rfl
theorem k10 : ((Rows.netNilRow.unfollowed == Tryz.prog.unfollowed (12 : FuncId))) = true := by kernel_rfl
theorem k11 : ((Rows.netNilRow.recurses == Tryz.prog.recurses (12 : FuncId))) = true := by kernel_rfl
theorem k12 : ((Rows.netNilRow.named == Tryz.prog.varsNamed (12 : FuncId))) = true := by kernel_rfl
theorem k13 : ((Rows.netNilRow.maps == (Tryz.f12.params.toList ++ Rows.netNilSpec.plain.varTypes Tryz.prog).any (Tryz.prog.mapsRec ·))) = true := by kernel_rfl
theorem k14 : ((Rows.netNilRow.ifaces == (Tryz.f12.params.toList ++ Rows.netNilSpec.plain.varTypes Tryz.prog).any (Tryz.prog.ifacesRec ·))) = true := by kernel_rfl
theorem k15 : ((Rows.netNilRow.mapsOut == Tryz.prog.mapsAmong Tryz.f12.resultTypes.toList)) = true := by kernel_rfl
theorem k16 : ((Rows.netNilRow.loops == (Tryz.f12.params.toList ++ Rows.netNilSpec.plain.varTypes Tryz.prog).any (Tryz.prog.loopsFrom ·))) = true := by kernel_rfl
theorem k17 : ((Rows.netNilRow.wideKeys == (Tryz.f12.params.toList ++ Rows.netNilSpec.plain.varTypes Tryz.prog ++ Tryz.f12.resultTypes.toList).any (Tryz.prog.wideKeysFrom ·))) = true := by kernel_rfl
theorem k18 : (Rows.netNilSpec.vars.all (Tryz.prog.varReadable ·)) = true := by kernel_rfl
theorem k19 : (Tryz.f12.resultTypes.all (fun t => Tryz.prog.readableRec t && decide (t < Tryz.prog.types.size))) = true := by kernel_rfl
theorem k20 : ((Rows.netNilRow.ifacesOut == Tryz.f12.resultTypes.toList.any (Tryz.prog.ifacesRec ·))) = true := by kernel_rfl
theorem k21 : ((Rows.netNilRow.loopsOut == Tryz.f12.resultTypes.toList.any (Tryz.prog.loopsFrom ·))) = true := by kernel_rfl
theorem k22 : ((Rows.netNilRow.plainKeys == Tryz.prog.plainKeys)) = true := by kernel_rfl
theorem k23 : (Rows.netNilRow.shortTexts.isNone) = true := by kernel_rfl
theorem k24 : (Tryz.prog.stopsHeard) = true := by kernel_rfl
theorem k25 : (Tryz.prog.mayEnter) = true := by kernel_rfl
theorem k26 : ((Rows.netNilRow.lifted == Tryz.prog.liftsFinal)) = true := by kernel_rfl
theorem k27 : ((Tryz.prog.make == some Rows.netNilRow.make)) = true := by kernel_rfl
theorem k28 : ((Rows.netNilRow.kinds == (if Rows.netNilRow.domain.isEmpty then [] else Tryz.f12.params.toList.map fun t => match Tryz.prog.underlying t with | some (.int k) => some k | _ => none))) = true := by kernel_rfl
theorem k29 : ((Rows.netNilRow.pinned == Rows.netNilRow.pinnedBy)) = true := by kernel_rfl
theorem k30 : ((Rows.netNilRow.veiled == (Tryz.f12.params.toList ++ Rows.netNilSpec.plain.varTypes Tryz.prog ++ Tryz.f12.resultTypes.toList).any (Tryz.prog.veiledRec ·))) = true := by kernel_rfl
theorem k31 : (Rows.netNilRow.veiledFits Tryz.prog Tryz.f12.params.toList (Tryz.f12.params.toList ++ Rows.netNilSpec.plain.varTypes Tryz.prog ++ Tryz.f12.resultTypes.toList)) = true := by kernel_rfl

end Go.Proofs.YtcbileongahhiaaGreat.netNilFacts
