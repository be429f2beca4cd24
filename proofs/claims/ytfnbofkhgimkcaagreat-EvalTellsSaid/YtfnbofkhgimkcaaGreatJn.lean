/- The builder's facts, joined. -/
import Derived.Test.YtfnbofkhgimkcaaGreatJm
import Derived.Test.YtfnbofkhgimkcaaGreatRn
namespace Go.Proofs.YtfnbofkhgimkcaaGreat
open Go.RowKit
set_option maxRecDepth 100000
theorem joined {f : FuncId} {fn : Func} {s : ChangeSpec} {c : OpenClaim} (hl : c.lifted = Rows.evalTellsRow.lifted) (hm : c.make = Rows.evalTellsRow.make) (h : (c.wf (OpenSpec.ofChange s) && fn.params.all (Tryz.prog.readableRec ·) && namedTie Tryz.prog c.named s.vars && (c.stops == []) && (c.knobs == []) && (c.inPlace == Tryz.prog.inPlace f) && (c.unfollowed == Tryz.prog.unfollowed f) && (c.recurses == Tryz.prog.recurses f) && (c.named == Tryz.prog.varsNamed f) && (c.maps == (fn.params.toList ++ s.plain.varTypes Tryz.prog).any (Tryz.prog.mapsRec ·)) && (c.ifaces == (fn.params.toList ++ s.plain.varTypes Tryz.prog).any (Tryz.prog.ifacesRec ·)) && (c.mapsOut == Tryz.prog.mapsAmong fn.resultTypes.toList) && (c.loops == (fn.params.toList ++ s.plain.varTypes Tryz.prog).any (Tryz.prog.loopsFrom ·)) && (c.wideKeys == (fn.params.toList ++ s.plain.varTypes Tryz.prog ++ fn.resultTypes.toList).any (Tryz.prog.wideKeysFrom ·)) && s.vars.all (Tryz.prog.varReadable ·) && fn.resultTypes.all (fun t => Tryz.prog.readableRec t && decide (t < Tryz.prog.types.size)) && (c.ifacesOut == fn.resultTypes.toList.any (Tryz.prog.ifacesRec ·)) && (c.loopsOut == fn.resultTypes.toList.any (Tryz.prog.loopsFrom ·)) && (c.plainKeys == Tryz.prog.plainKeys) && c.shortTexts.isNone && (c.kinds == (if c.domain.isEmpty then [] else fn.params.toList.map fun t => match Tryz.prog.underlying t with | some (.int k) => some k | _ => none)) && (c.pinned == c.pinnedBy) && (c.veiled == (fn.params.toList ++ s.plain.varTypes Tryz.prog ++ fn.resultTypes.toList).any (Tryz.prog.veiledRec ·)) && c.veiledFits Tryz.prog fn.params.toList (fn.params.toList ++ s.plain.varTypes Tryz.prog ++ fn.resultTypes.toList)) = true) : joinedFacts Tryz.prog f fn s c = true := by
  simp only [Bool.and_eq_true] at h
  obtain ⟨⟨⟨⟨⟨⟨⟨⟨⟨⟨⟨⟨⟨⟨⟨⟨⟨⟨⟨⟨⟨⟨⟨k0, k3⟩, k4⟩, k5⟩, k7⟩, k9⟩, k10⟩, k11⟩, k12⟩, k13⟩, k14⟩, k15⟩, k16⟩, k17⟩, k18⟩, k19⟩, k20⟩, k21⟩, k22⟩, k23⟩, k28⟩, k29⟩, k30⟩, k31⟩ := h
  unfold joinedFacts
  simp only [Bool.and_eq_true]
  rw [hl, hm]
  exact ⟨⟨⟨⟨⟨⟨⟨⟨⟨⟨⟨⟨⟨⟨⟨⟨⟨⟨⟨⟨⟨⟨⟨⟨⟨⟨⟨⟨⟨⟨⟨k0, jLaid⟩, jRowed⟩, k3⟩, k4⟩, k5⟩, jStops⟩, k7⟩, jKnobs⟩, k9⟩, k10⟩, k11⟩, k12⟩, k13⟩, k14⟩, k15⟩, k16⟩, k17⟩, k18⟩, k19⟩, k20⟩, k21⟩, k22⟩, k23⟩, jHeard⟩, jMay⟩, jLifts⟩, jMake⟩, k28⟩, k29⟩, k30⟩, k31⟩
end Go.Proofs.YtfnbofkhgimkcaaGreat
