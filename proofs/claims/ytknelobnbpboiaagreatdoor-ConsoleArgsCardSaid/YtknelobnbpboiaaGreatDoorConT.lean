/-
  Layer 28 (console): the closed facts of ConsoleArgs' row, one by one.
-/
import Derived.Test.YtknelobnbpboiaaGreatDoorRows
import Derived.Test.YtknelobnbpboiaaGreatDoorCards
import Derived.JoinedOf
import Derived.KernelRfl
namespace Go.Proofs.YtknelobnbpboiaaGreatDoor.consoleArgs
open Go
set_option maxRecDepth 100000
theorem j1 : (Rows.consoleArgsRow.wf (OpenSpec.ofChange Rows.consoleArgsSpec)) = true := by kernel_rfl
theorem j2 : (laidOutB Tryz.pinned.checked.prog) = true := by kernel_rfl
theorem j3 : (mapsRowed Tryz.pinned.checked.prog) = true := by kernel_rfl
theorem j4 : (Tryz.f3.params.all (Tryz.pinned.checked.prog.readableRec ·)) = true := by kernel_rfl
theorem j5 : (namedTie Tryz.pinned.checked.prog Rows.consoleArgsRow.named Rows.consoleArgsSpec.vars) = true := by kernel_rfl
theorem j6 : ((Rows.consoleArgsRow.stops == [])) = true := by kernel_rfl
theorem j7 : ((Tryz.pinned.checked.prog.stops == [])) = true := by kernel_rfl
theorem j8 : ((Rows.consoleArgsRow.knobs == [])) = true := by kernel_rfl
theorem j9 : ((Tryz.pinned.checked.prog.stopKnobs == [])) = true := by kernel_rfl
theorem j10 : ((Rows.consoleArgsRow.inPlace == Tryz.pinned.checked.prog.inPlace 3)) = true := by kernel_rfl
theorem j11 : ((Rows.consoleArgsRow.unfollowed == Tryz.pinned.checked.prog.unfollowed 3)) = true := by kernel_rfl
theorem j12 : ((Rows.consoleArgsRow.recurses == Tryz.pinned.checked.prog.recurses 3)) = true := by kernel_rfl
theorem j13 : ((Rows.consoleArgsRow.named == Tryz.pinned.checked.prog.varsNamed 3)) = true := by kernel_rfl
theorem j14 : ((Rows.consoleArgsRow.maps == (Tryz.f3.params.toList ++ Rows.consoleArgsSpec.plain.varTypes Tryz.pinned.checked.prog).any (Tryz.pinned.checked.prog.mapsRec ·))) = true := by kernel_rfl
theorem j15 : ((Rows.consoleArgsRow.ifaces == (Tryz.f3.params.toList ++ Rows.consoleArgsSpec.plain.varTypes Tryz.pinned.checked.prog).any (Tryz.pinned.checked.prog.ifacesRec ·))) = true := by kernel_rfl
theorem j16 : ((Rows.consoleArgsRow.mapsOut == Tryz.pinned.checked.prog.mapsAmong Tryz.f3.resultTypes.toList)) = true := by kernel_rfl
theorem j17 : ((Rows.consoleArgsRow.loops == (Tryz.f3.params.toList ++ Rows.consoleArgsSpec.plain.varTypes Tryz.pinned.checked.prog).any (Tryz.pinned.checked.prog.loopsFrom ·))) = true := by kernel_rfl
theorem j18 : ((Rows.consoleArgsRow.wideKeys == (Tryz.f3.params.toList ++ Rows.consoleArgsSpec.plain.varTypes Tryz.pinned.checked.prog ++ Tryz.f3.resultTypes.toList).any (Tryz.pinned.checked.prog.wideKeysFrom ·))) = true := by kernel_rfl
theorem j19 : (Rows.consoleArgsSpec.vars.all (Tryz.pinned.checked.prog.varReadable ·)) = true := by kernel_rfl
theorem j20 : (Tryz.f3.resultTypes.all (fun t => Tryz.pinned.checked.prog.readableRec t && decide (t < Tryz.pinned.checked.prog.types.size))) = true := by kernel_rfl
theorem j21 : ((Rows.consoleArgsRow.ifacesOut == Tryz.f3.resultTypes.toList.any (Tryz.pinned.checked.prog.ifacesRec ·))) = true := by kernel_rfl
theorem j22 : ((Rows.consoleArgsRow.loopsOut == Tryz.f3.resultTypes.toList.any (Tryz.pinned.checked.prog.loopsFrom ·))) = true := by kernel_rfl
theorem j23 : ((Rows.consoleArgsRow.plainKeys == Tryz.pinned.checked.prog.plainKeys)) = true := by kernel_rfl
theorem j24 : (Rows.consoleArgsRow.shortTexts.isNone) = true := by kernel_rfl
theorem j25 : (Tryz.pinned.checked.prog.stopsHeard) = true := by kernel_rfl
theorem j26 : (Tryz.pinned.checked.prog.mayEnter) = true := by kernel_rfl
theorem j27 : ((Rows.consoleArgsRow.lifted == Tryz.pinned.checked.prog.liftsFinal)) = true := by kernel_rfl
theorem j28 : ((Tryz.pinned.checked.prog.make == some Rows.consoleArgsRow.make)) = true := by kernel_rfl
theorem j29 : ((Rows.consoleArgsRow.kinds == (if Rows.consoleArgsRow.domain.isEmpty then [] else Tryz.f3.params.toList.map fun t => match Tryz.pinned.checked.prog.underlying t with | some (.int k) => some k | _ => none))) = true := by kernel_rfl
theorem j30 : ((Rows.consoleArgsRow.pinned == Rows.consoleArgsRow.pinnedBy)) = true := by kernel_rfl
theorem j31 : ((Rows.consoleArgsRow.veiled == (Tryz.f3.params.toList ++ Rows.consoleArgsSpec.plain.varTypes Tryz.pinned.checked.prog ++ Tryz.f3.resultTypes.toList).any (Tryz.pinned.checked.prog.veiledRec ·))) = true := by kernel_rfl
theorem j32 : (Rows.consoleArgsRow.veiledFits Tryz.pinned.checked.prog Tryz.f3.params.toList (Tryz.f3.params.toList ++ Rows.consoleArgsSpec.plain.varTypes Tryz.pinned.checked.prog ++ Tryz.f3.resultTypes.toList)) = true := by kernel_rfl
theorem and_mk {a b : Bool} (h : a = true) (k : b = true) : (a && b) = true := by rw [h, k]; rfl
theorem closed : joinedFacts Tryz.pinned.checked.prog 3 Tryz.f3 Rows.consoleArgsSpec Rows.consoleArgsRow = true := (and_mk (and_mk (and_mk (and_mk (and_mk (and_mk (and_mk (and_mk (and_mk (and_mk (and_mk (and_mk (and_mk (and_mk (and_mk (and_mk (and_mk (and_mk (and_mk (and_mk (and_mk (and_mk (and_mk (and_mk (and_mk (and_mk (and_mk (and_mk (and_mk (and_mk (and_mk j1 j2) j3) j4) j5) j6) j7) j8) j9) j10) j11) j12) j13) j14) j15) j16) j17) j18) j19) j20) j21) j22) j23) j24) j25) j26) j27) j28) j29) j30) j31) j32)
set_option linter.unusedVariables false
theorem goes : true = Rows.consoleArgsRow.goesBy Tryz.pinned.checked.prog := by kernel_rfl
theorem text : Rows.consoleArgsRow.wfByText (OpenSpec.ofChange Rows.consoleArgsSpec) = true := by kernel_rfl
#print axioms closed
#print axioms goes
#print axioms text
end Go.Proofs.YtknelobnbpboiaaGreatDoor.consoleArgs
