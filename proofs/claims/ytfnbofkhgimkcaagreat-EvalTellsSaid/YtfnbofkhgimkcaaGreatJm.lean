/- What the builder of a row asks of the whole program, once for all laws of the seat. -/
import Derived.Test.YtfnbofkhgimkcaaGreatRows
namespace Go.Proofs.YtfnbofkhgimkcaaGreat
set_option maxRecDepth 100000
theorem jLaid : (laidOutB Tryz.prog) = true := by kernel_rfl
theorem jRowed : (mapsRowed Tryz.prog) = true := by kernel_rfl
theorem jStops : ((Tryz.prog.stops == [])) = true := by kernel_rfl
theorem jKnobs : ((Tryz.prog.stopKnobs == [])) = true := by kernel_rfl
theorem jHeard : (Tryz.prog.stopsHeard) = true := by kernel_rfl
theorem jMay : (Tryz.prog.mayEnter) = true := by kernel_rfl
theorem jLifts : ((Rows.evalTellsRow.lifted == Tryz.prog.liftsFinal)) = true := by kernel_rfl
theorem jMake : ((Tryz.prog.make == some Rows.evalTellsRow.make)) = true := by kernel_rfl
end Go.Proofs.YtfnbofkhgimkcaaGreat
