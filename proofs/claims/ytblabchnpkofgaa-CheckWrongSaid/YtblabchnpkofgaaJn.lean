/- The builder's facts, joined. -/
import Derived.Test.YtblabchnpkofgaaJm
import Derived.Test.YtblabchnpkofgaaRn
namespace Go.Proofs.Ytblabchnpkofgaa
open Go.RowKit
set_option maxRecDepth 100000
theorem joined {f : FuncId} {fn : Func} {s : ChangeSpec} {c : OpenClaim} (hl : c.lifted = Rows.checkTellsRow.lifted) (hm : c.make = Rows.checkTellsRow.make) (h : (c.wf (OpenSpec.ofChange s) && fn.params.all (Try.prog.readableRec ·) && namedTie Try.prog c.named s.vars && (c.stops == []) && (c.knobs == []) && (c.inPlace == Try.prog.inPlace f) && (c.unfollowed == Try.prog.unfollowed f) && (c.recurses == Try.prog.recurses f) && (c.named == Try.prog.varsNamed f) && (c.maps == (fn.params.toList ++ s.plain.varTypes Try.prog).any (Try.prog.mapsRec ·)) && (c.ifaces == (fn.params.toList ++ s.plain.varTypes Try.prog).any (Try.prog.ifacesRec ·)) && (c.mapsOut == Try.prog.mapsAmong fn.resultTypes.toList) && (c.loops == (fn.params.toList ++ s.plain.varTypes Try.prog).any (Try.prog.loopsFrom ·)) && (c.wideKeys == (fn.params.toList ++ s.plain.varTypes Try.prog ++ fn.resultTypes.toList).any (Try.prog.wideKeysFrom ·)) && s.vars.all (Try.prog.varReadable ·) && fn.resultTypes.all (fun t => Try.prog.readableRec t && decide (t < Try.prog.types.size)) && (c.ifacesOut == fn.resultTypes.toList.any (Try.prog.ifacesRec ·)) && (c.loopsOut == fn.resultTypes.toList.any (Try.prog.loopsFrom ·)) && (c.plainKeys == Try.prog.plainKeys) && c.shortTexts.isNone && (c.kinds == (if c.domain.isEmpty then [] else fn.params.toList.map fun t => match Try.prog.underlying t with | some (.int k) => some k | _ => none)) && (c.pinned == c.pinnedBy) && (c.veiled == (fn.params.toList ++ s.plain.varTypes Try.prog ++ fn.resultTypes.toList).any (Try.prog.veiledRec ·)) && c.veiledFits Try.prog fn.params.toList (fn.params.toList ++ s.plain.varTypes Try.prog ++ fn.resultTypes.toList)) = true) : joinedFacts Try.prog f fn s c = true := by
  simp only [Bool.and_eq_true] at h
  obtain ⟨⟨⟨⟨⟨⟨⟨⟨⟨⟨⟨⟨⟨⟨⟨⟨⟨⟨⟨⟨⟨⟨⟨k0, k3⟩, k4⟩, k5⟩, k7⟩, k9⟩, k10⟩, k11⟩, k12⟩, k13⟩, k14⟩, k15⟩, k16⟩, k17⟩, k18⟩, k19⟩, k20⟩, k21⟩, k22⟩, k23⟩, k28⟩, k29⟩, k30⟩, k31⟩ := h
  unfold joinedFacts
  simp only [Bool.and_eq_true]
  rw [hl, hm]
  exact ⟨⟨⟨⟨⟨⟨⟨⟨⟨⟨⟨⟨⟨⟨⟨⟨⟨⟨⟨⟨⟨⟨⟨⟨⟨⟨⟨⟨⟨⟨⟨k0, jLaid⟩, jRowed⟩, k3⟩, k4⟩, k5⟩, jStops⟩, k7⟩, jKnobs⟩, k9⟩, k10⟩, k11⟩, k12⟩, k13⟩, k14⟩, k15⟩, k16⟩, k17⟩, k18⟩, k19⟩, k20⟩, k21⟩, k22⟩, k23⟩, jHeard⟩, jMay⟩, jLifts⟩, jMake⟩, k28⟩, k29⟩, k30⟩, k31⟩
end Go.Proofs.Ytblabchnpkofgaa
