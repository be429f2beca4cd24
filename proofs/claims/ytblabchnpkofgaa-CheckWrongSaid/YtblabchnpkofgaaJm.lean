/- What the builder of a row asks of the whole program, once for all laws of the seat. -/
import Derived.Test.YtblabchnpkofgaaRows
namespace Go.Proofs.Ytblabchnpkofgaa
set_option maxRecDepth 100000
theorem jLaid : (laidOutB Try.prog) = true := by kernel_rfl
theorem jRowed : (mapsRowed Try.prog) = true := by kernel_rfl
theorem jStops : ((Try.prog.stops == [])) = true := by kernel_rfl
theorem jKnobs : ((Try.prog.stopKnobs == [])) = true := by kernel_rfl
theorem jHeard : (Try.prog.stopsHeard) = true := by kernel_rfl
theorem jMay : (Try.prog.mayEnter) = true := by kernel_rfl
theorem jLifts : ((Rows.checkTellsRow.lifted == Try.prog.liftsFinal)) = true := by kernel_rfl
theorem jMake : ((Try.prog.make == some Rows.checkTellsRow.make)) = true := by kernel_rfl
end Go.Proofs.Ytblabchnpkofgaa
