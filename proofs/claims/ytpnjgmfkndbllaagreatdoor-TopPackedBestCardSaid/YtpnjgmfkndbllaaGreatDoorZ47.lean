/- A part of the proof of TopPackedBest: texts TkRowA to TkRowA. -/
import Derived.Test.YtpnjgmfkndbllaaGreatDoorRows
import Derived.Test.YtpnjgmfkndbllaaGreatDoorCards
import Derived.JoinedOf
import Derived.KernelRfl
/- Closed facts of the row of TopPackedBest, each by the kernel. -/
section
set_option maxRecDepth 1000000
namespace Go.Proofs.YtpnjgmfkndbllaaGreatDoor
open Go
theorem and_i {a b : Bool} (ha : a = true) (hb : b = true) : (a && b) = true := by rw [ha, hb]; rfl
theorem e0 : (Rows.topPackedBestRow.wf (OpenSpec.ofChange Rows.topPackedBestSpec) = true) := by kernel_rfl
theorem e1 : (laidOutB Tryz.prog = true) := by kernel_rfl
theorem e2 : (mapsRowed Tryz.prog = true) := by kernel_rfl
theorem e3 : (Tryz.f3.params.all (Tryz.prog.readableRec ·) = true) := by kernel_rfl
theorem e4 : (namedTie Tryz.prog Rows.topPackedBestRow.named Rows.topPackedBestSpec.vars = true) := by kernel_rfl
theorem e5 : ((Rows.topPackedBestRow.stops == []) = true) := by kernel_rfl
theorem e6 : ((Tryz.prog.stops == []) = true) := by kernel_rfl
theorem e7 : ((Rows.topPackedBestRow.knobs == []) = true) := by kernel_rfl
theorem e8 : ((Tryz.prog.stopKnobs == []) = true) := by kernel_rfl
theorem e9 : ((Rows.topPackedBestRow.inPlace == Tryz.prog.inPlace 3) = true) := by kernel_rfl
theorem e10 : ((Rows.topPackedBestRow.unfollowed == Tryz.prog.unfollowed 3) = true) := by kernel_rfl
theorem e11 : ((Rows.topPackedBestRow.recurses == Tryz.prog.recurses 3) = true) := by kernel_rfl
theorem e12 : ((Rows.topPackedBestRow.named == Tryz.prog.varsNamed 3) = true) := by kernel_rfl
theorem e13 : ((Rows.topPackedBestRow.maps == (Tryz.f3.params.toList ++ Rows.topPackedBestSpec.plain.varTypes Tryz.prog).any (Tryz.prog.mapsRec ·)) = true) := by kernel_rfl
theorem e14 : ((Rows.topPackedBestRow.ifaces == (Tryz.f3.params.toList ++ Rows.topPackedBestSpec.plain.varTypes Tryz.prog).any (Tryz.prog.ifacesRec ·)) = true) := by kernel_rfl
theorem e15 : ((Rows.topPackedBestRow.mapsOut == Tryz.prog.mapsAmong Tryz.f3.resultTypes.toList) = true) := by kernel_rfl
theorem e16 : ((Rows.topPackedBestRow.loops == (Tryz.f3.params.toList ++ Rows.topPackedBestSpec.plain.varTypes Tryz.prog).any (Tryz.prog.loopsFrom ·)) = true) := by kernel_rfl
theorem e17 : ((Rows.topPackedBestRow.wideKeys == (Tryz.f3.params.toList ++ Rows.topPackedBestSpec.plain.varTypes Tryz.prog ++ Tryz.f3.resultTypes.toList).any (Tryz.prog.wideKeysFrom ·)) = true) := by kernel_rfl
theorem e18 : (Rows.topPackedBestSpec.vars.all (Tryz.prog.varReadable ·) = true) := by kernel_rfl
theorem e19 : (Tryz.f3.resultTypes.all (fun t => Tryz.prog.readableRec t && decide (t < Tryz.prog.types.size)) = true) := by kernel_rfl
theorem e20 : ((Rows.topPackedBestRow.ifacesOut == Tryz.f3.resultTypes.toList.any (Tryz.prog.ifacesRec ·)) = true) := by kernel_rfl
theorem e21 : ((Rows.topPackedBestRow.loopsOut == Tryz.f3.resultTypes.toList.any (Tryz.prog.loopsFrom ·)) = true) := by kernel_rfl
theorem e22 : ((Rows.topPackedBestRow.plainKeys == Tryz.prog.plainKeys) = true) := by kernel_rfl
theorem e23 : (Rows.topPackedBestRow.shortTexts.isNone = true) := by kernel_rfl
theorem e24 : (Tryz.prog.stopsHeard = true) := by kernel_rfl
theorem e25 : (Tryz.prog.mayEnter = true) := by kernel_rfl
theorem e26 : ((Rows.topPackedBestRow.lifted == Tryz.prog.liftsFinal) = true) := by kernel_rfl
theorem e27 : ((Tryz.prog.make == some Rows.topPackedBestRow.make) = true) := by kernel_rfl
theorem e28 : ((Rows.topPackedBestRow.kinds == (if Rows.topPackedBestRow.domain.isEmpty then [] else Tryz.f3.params.toList.map fun t => match Tryz.prog.underlying t with | some (.int k) => some k | _ => none)) = true) := by kernel_rfl
theorem e29 : ((Rows.topPackedBestRow.pinned == Rows.topPackedBestRow.pinnedBy) = true) := by kernel_rfl
theorem e30 : ((Rows.topPackedBestRow.veiled == (Tryz.f3.params.toList ++ Rows.topPackedBestSpec.plain.varTypes Tryz.prog ++ Tryz.f3.resultTypes.toList).any (Tryz.prog.veiledRec ·)) = true) := by kernel_rfl
theorem e31 : (Rows.topPackedBestRow.veiledFits Tryz.prog Tryz.f3.params.toList (Tryz.f3.params.toList ++ Rows.topPackedBestSpec.plain.varTypes Tryz.prog ++ Tryz.f3.resultTypes.toList) = true) := by kernel_rfl
theorem joined_ok : joinedFacts Tryz.prog 3 Tryz.f3 Rows.topPackedBestSpec Rows.topPackedBestRow = true :=
  (and_i (and_i (and_i (and_i (and_i (and_i (and_i (and_i (and_i (and_i (and_i (and_i (and_i (and_i (and_i (and_i (and_i (and_i (and_i (and_i (and_i (and_i (and_i (and_i (and_i (and_i (and_i (and_i (and_i (and_i (and_i e0 e1) e2) e3) e4) e5) e6) e7) e8) e9) e10) e11) e12) e13) e14) e15) e16) e17) e18) e19) e20) e21) e22) e23) e24) e25) e26) e27) e28) e29) e30) e31)
theorem top_named : Tryz.prog.funcNamed "archivum/archivumtop.TopPackedBest" = some 3 := by kernel_rfl
theorem noGoes : Tryz.prog.funcs.any Func.goes = false := by kernel_rfl
end Go.Proofs.YtpnjgmfkndbllaaGreatDoor
end
