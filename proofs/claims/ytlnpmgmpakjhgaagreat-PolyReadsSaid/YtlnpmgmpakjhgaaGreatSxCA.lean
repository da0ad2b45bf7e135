/- A part of the proof of PolyReadsSaid: texts SxFactsPR. -/
import Derived.Test.YtlnpmgmpakjhgaaGreatRows
import Derived.JoinedOf
import Derived.KernelRfl
set_option linter.all false
namespace Sx.PolyReadsFacts
open Go Go.Proofs Go.Proofs.YtlnpmgmpakjhgaaGreat
theorem k0 : (Rows.polyReadsRow.wf (OpenSpec.ofChange Rows.polyReadsSpec) : Bool) = true := by kernel_rfl
theorem k1 : (laidOutB Tryz.prog : Bool) = true := by kernel_rfl
theorem k2 : (mapsRowed Tryz.prog : Bool) = true := by kernel_rfl
theorem k3 : (Tryz.f6.params.all (Tryz.prog.readableRec ·) : Bool) = true := by kernel_rfl
theorem k4 : (namedTie Tryz.prog Rows.polyReadsRow.named Rows.polyReadsSpec.vars : Bool) = true := by kernel_rfl
theorem k5 : ((Rows.polyReadsRow.stops == []) : Bool) = true := by kernel_rfl
theorem k6 : ((Tryz.prog.stops == []) : Bool) = true := by kernel_rfl
theorem k7 : ((Rows.polyReadsRow.knobs == []) : Bool) = true := by kernel_rfl
theorem k8 : ((Tryz.prog.stopKnobs == []) : Bool) = true := by kernel_rfl
theorem k9 : ((Rows.polyReadsRow.inPlace == Tryz.prog.inPlace 6) : Bool) = true := by kernel_rfl
theorem k10 : ((Rows.polyReadsRow.unfollowed == Tryz.prog.unfollowed 6) : Bool) = true := by kernel_rfl
theorem k11 : ((Rows.polyReadsRow.recurses == Tryz.prog.recurses 6) : Bool) = true := by kernel_rfl
theorem k12 : ((Rows.polyReadsRow.named == Tryz.prog.varsNamed 6) : Bool) = true := by kernel_rfl
theorem k13 : ((Rows.polyReadsRow.maps == (Tryz.f6.params.toList ++ Rows.polyReadsSpec.plain.varTypes Tryz.prog).any (Tryz.prog.mapsRec ·)) : Bool) = true := by kernel_rfl
theorem k14 : ((Rows.polyReadsRow.ifaces == (Tryz.f6.params.toList ++ Rows.polyReadsSpec.plain.varTypes Tryz.prog).any (Tryz.prog.ifacesRec ·)) : Bool) = true := by kernel_rfl
theorem k15 : ((Rows.polyReadsRow.mapsOut == Tryz.prog.mapsAmong Tryz.f6.resultTypes.toList) : Bool) = true := by kernel_rfl
theorem k16 : ((Rows.polyReadsRow.loops == (Tryz.f6.params.toList ++ Rows.polyReadsSpec.plain.varTypes Tryz.prog).any (Tryz.prog.loopsFrom ·)) : Bool) = true := by kernel_rfl
theorem k17 : ((Rows.polyReadsRow.wideKeys == (Tryz.f6.params.toList ++ Rows.polyReadsSpec.plain.varTypes Tryz.prog ++ Tryz.f6.resultTypes.toList).any (Tryz.prog.wideKeysFrom ·)) : Bool) = true := by kernel_rfl
theorem k18 : (Rows.polyReadsSpec.vars.all (Tryz.prog.varReadable ·) : Bool) = true := by kernel_rfl
theorem k19 : (Tryz.f6.resultTypes.all (fun t => Tryz.prog.readableRec t && decide (t < Tryz.prog.types.size)) : Bool) = true := by kernel_rfl
theorem k20 : ((Rows.polyReadsRow.ifacesOut == Tryz.f6.resultTypes.toList.any (Tryz.prog.ifacesRec ·)) : Bool) = true := by kernel_rfl
theorem k21 : ((Rows.polyReadsRow.loopsOut == Tryz.f6.resultTypes.toList.any (Tryz.prog.loopsFrom ·)) : Bool) = true := by kernel_rfl
theorem k22 : ((Rows.polyReadsRow.plainKeys == Tryz.prog.plainKeys) : Bool) = true := by kernel_rfl
theorem k23 : (Rows.polyReadsRow.shortTexts.isNone : Bool) = true := by kernel_rfl
theorem k24 : (Tryz.prog.stopsHeard : Bool) = true := by kernel_rfl
theorem k25 : (Tryz.prog.mayEnter : Bool) = true := by kernel_rfl
theorem k26 : ((Rows.polyReadsRow.lifted == Tryz.prog.liftsFinal) : Bool) = true := by kernel_rfl
theorem k27 : ((Tryz.prog.make == some Rows.polyReadsRow.make) : Bool) = true := by kernel_rfl
theorem k28 : ((Rows.polyReadsRow.kinds == (if Rows.polyReadsRow.domain.isEmpty then [] else Tryz.f6.params.toList.map fun t => match Tryz.prog.underlying t with | some (.int k) => some k | _ => none)) : Bool) = true := by kernel_rfl
theorem k29 : ((Rows.polyReadsRow.pinned == Rows.polyReadsRow.pinnedBy) : Bool) = true := by kernel_rfl
theorem k30 : ((Rows.polyReadsRow.veiled == (Tryz.f6.params.toList ++ Rows.polyReadsSpec.plain.varTypes Tryz.prog ++ Tryz.f6.resultTypes.toList).any (Tryz.prog.veiledRec ·)) : Bool) = true := by kernel_rfl
theorem k31 : (Rows.polyReadsRow.veiledFits Tryz.prog Tryz.f6.params.toList (Tryz.f6.params.toList ++ Rows.polyReadsSpec.plain.varTypes Tryz.prog ++ Tryz.f6.resultTypes.toList) : Bool) = true := by kernel_rfl
end Sx.PolyReadsFacts
