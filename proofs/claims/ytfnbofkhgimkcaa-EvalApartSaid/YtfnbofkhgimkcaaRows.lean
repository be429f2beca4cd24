/-
  No cell of these rows narrows 'for every input' (looked for: loops, veiled, ifaces, maps, wideKeys, modest, calm, conditions, laid).
  DERIVED. THE GIVEN ROWS OF THIS SEAT. 12 by the template 'for every input the law returns true; each argument reads behind the call as it read before'; 0 by the template 'total and deterministic' (their statements: YtfnbofkhgimkcaaTotals.lean).
  GIVEN WITH THE SEED: the statements are not yours to turn. If you find one false, say at which input.
  Laid BY PROGRAM, IN A SANDBOX (cutbox-rows.mjs): the forced cells as the released guide's own fill.sh prints them over the translation f83f1ad56f1667b1… (all of the seat's roots in one cut). By AI agents, Wed Nov 11 2026. No macro, syntax, notation, axiom, sorry.
-/
import Derived.Test.YtfnbofkhgimkcaaChecked
import GoSem.Claim
import GoSem.ClaimJoined
import GoSem.ClaimMapViews
import Derived.JoinedTies
import Derived.KernelRfl
namespace Go.Proofs.Ytfnbofkhgimkcaa
/- THE CELL 'sum', in the pinned program and in every row, IS THE sha256 OF THE DUMP (.gsa) THAT YtfnbofkhgimkcaaProg.lean LOADS. Nothing in Lean hashes anything: it is a label: what it is worth is what the hold of that sum in a sandbox is worth. -/
noncomputable def Try.pinned : Pinned := { name := "ytfnbofkhgimkcaa", sum := "f83f1ad56f1667b1b5d155f7e283a8f22be9de1d8f49cd66e2abbae79c767390", checked := Try.checked }
namespace Rows
def none {H : Type} : Left H := { results := [], args := [] }

/-- 'symbolonlaw13.EvalExact': WHATEVER THE INPUT: true; the input reads as it did. -/
def evalExactSpec : ChangeSpec := { name := "evalExact", fn := fun _ => fun
  | [d1, d2, d3, d4, d5, d6, d7] => { results := [.lit (.bool true)], args := [d1, d2, d3, d4, d5, d6, d7] }
  | _ => none }
def evalExactRow : OpenClaim := { program := "ytfnbofkhgimkcaa", sum := "f83f1ad56f1667b1b5d155f7e283a8f22be9de1d8f49cd66e2abbae79c767390", func := "symbolon/symbolonlaw13.EvalExact", spec := "evalExact", unfollowed := true, recurses := true, apart := false }
def EvalExactSaid : Prop := evalExactRow.holds Try.pinned (OpenSpec.ofChange evalExactSpec)

/-- ITS FALSE NEIGHBOUR: 'it returns false'. Refute it at one input. -/
def evalExactWrong : ChangeSpec := { name := "evalExact", fn := fun _ => fun
  | [d1, d2, d3, d4, d5, d6, d7] => { results := [.lit (.bool false)], args := [d1, d2, d3, d4, d5, d6, d7] }
  | _ => none }
def EvalExactWrongFalsely : Prop := evalExactRow.holds Try.pinned (OpenSpec.ofChange evalExactWrong)

/-- 'symbolonlaw13.EvalWhole': WHATEVER THE INPUT: true; the input reads as it did. -/
def evalWholeSpec : ChangeSpec := { name := "evalWhole", fn := fun _ => fun
  | [d1, d2, d3, d4, d5, d6] => { results := [.lit (.bool true)], args := [d1, d2, d3, d4, d5, d6] }
  | _ => none }
def evalWholeRow : OpenClaim := { program := "ytfnbofkhgimkcaa", sum := "f83f1ad56f1667b1b5d155f7e283a8f22be9de1d8f49cd66e2abbae79c767390", func := "symbolon/symbolonlaw13.EvalWhole", spec := "evalWhole", unfollowed := true, recurses := true, apart := false }
def EvalWholeSaid : Prop := evalWholeRow.holds Try.pinned (OpenSpec.ofChange evalWholeSpec)

/-- ITS FALSE NEIGHBOUR: 'it returns false'. Refute it at one input. -/
def evalWholeWrong : ChangeSpec := { name := "evalWhole", fn := fun _ => fun
  | [d1, d2, d3, d4, d5, d6] => { results := [.lit (.bool false)], args := [d1, d2, d3, d4, d5, d6] }
  | _ => none }
def EvalWholeWrongFalsely : Prop := evalWholeRow.holds Try.pinned (OpenSpec.ofChange evalWholeWrong)

/-- 'symbolonlaw13.EvalApart': WHATEVER THE INPUT: true; the input reads as it did. -/
def evalApartSpec : ChangeSpec := { name := "evalApart", fn := fun _ => fun
  | [d1, d2, d3, d4, d5, d6, d7, d8] => { results := [.lit (.bool true)], args := [d1, d2, d3, d4, d5, d6, d7, d8] }
  | _ => none }
def evalApartRow : OpenClaim := { program := "ytfnbofkhgimkcaa", sum := "f83f1ad56f1667b1b5d155f7e283a8f22be9de1d8f49cd66e2abbae79c767390", func := "symbolon/symbolonlaw13.EvalApart", spec := "evalApart", unfollowed := true, recurses := true, apart := false }
def EvalApartSaid : Prop := evalApartRow.holds Try.pinned (OpenSpec.ofChange evalApartSpec)

/-- ITS FALSE NEIGHBOUR: 'it returns false'. Refute it at one input. -/
def evalApartWrong : ChangeSpec := { name := "evalApart", fn := fun _ => fun
  | [d1, d2, d3, d4, d5, d6, d7, d8] => { results := [.lit (.bool false)], args := [d1, d2, d3, d4, d5, d6, d7, d8] }
  | _ => none }
def EvalApartWrongFalsely : Prop := evalApartRow.holds Try.pinned (OpenSpec.ofChange evalApartWrong)

/-- 'symbolonlaw13.EvalFirst': WHATEVER THE INPUT: true; the input reads as it did. -/
def evalFirstSpec : ChangeSpec := { name := "evalFirst", fn := fun _ => fun
  | [d1, d2, d3] => { results := [.lit (.bool true)], args := [d1, d2, d3] }
  | _ => none }
def evalFirstRow : OpenClaim := { program := "ytfnbofkhgimkcaa", sum := "f83f1ad56f1667b1b5d155f7e283a8f22be9de1d8f49cd66e2abbae79c767390", func := "symbolon/symbolonlaw13.EvalFirst", spec := "evalFirst", unfollowed := true, recurses := true, apart := false }
def EvalFirstSaid : Prop := evalFirstRow.holds Try.pinned (OpenSpec.ofChange evalFirstSpec)

/-- ITS FALSE NEIGHBOUR: 'it returns false'. Refute it at one input. -/
def evalFirstWrong : ChangeSpec := { name := "evalFirst", fn := fun _ => fun
  | [d1, d2, d3] => { results := [.lit (.bool false)], args := [d1, d2, d3] }
  | _ => none }
def EvalFirstWrongFalsely : Prop := evalFirstRow.holds Try.pinned (OpenSpec.ofChange evalFirstWrong)

/-- 'symbolonlaw13.EvalLast': WHATEVER THE INPUT: true; the input reads as it did. -/
def evalLastSpec : ChangeSpec := { name := "evalLast", fn := fun _ => fun
  | [d1, d2, d3, d4, d5, d6] => { results := [.lit (.bool true)], args := [d1, d2, d3, d4, d5, d6] }
  | _ => none }
def evalLastRow : OpenClaim := { program := "ytfnbofkhgimkcaa", sum := "f83f1ad56f1667b1b5d155f7e283a8f22be9de1d8f49cd66e2abbae79c767390", func := "symbolon/symbolonlaw13.EvalLast", spec := "evalLast", unfollowed := true, recurses := true, apart := false }
def EvalLastSaid : Prop := evalLastRow.holds Try.pinned (OpenSpec.ofChange evalLastSpec)

/-- ITS FALSE NEIGHBOUR: 'it returns false'. Refute it at one input. -/
def evalLastWrong : ChangeSpec := { name := "evalLast", fn := fun _ => fun
  | [d1, d2, d3, d4, d5, d6] => { results := [.lit (.bool false)], args := [d1, d2, d3, d4, d5, d6] }
  | _ => none }
def EvalLastWrongFalsely : Prop := evalLastRow.holds Try.pinned (OpenSpec.ofChange evalLastWrong)

/-- 'symbolonlaw13.EvalSeeds': WHATEVER THE INPUT: true; the input reads as it did. -/
def evalSeedsSpec : ChangeSpec := { name := "evalSeeds", fn := fun _ => fun
  | [d1, d2, d3, d4, d5, d6, d7, d8] => { results := [.lit (.bool true)], args := [d1, d2, d3, d4, d5, d6, d7, d8] }
  | _ => none }
def evalSeedsRow : OpenClaim := { program := "ytfnbofkhgimkcaa", sum := "f83f1ad56f1667b1b5d155f7e283a8f22be9de1d8f49cd66e2abbae79c767390", func := "symbolon/symbolonlaw13.EvalSeeds", spec := "evalSeeds", unfollowed := true, recurses := true, apart := false }
def EvalSeedsSaid : Prop := evalSeedsRow.holds Try.pinned (OpenSpec.ofChange evalSeedsSpec)

/-- ITS FALSE NEIGHBOUR: 'it returns false'. Refute it at one input. -/
def evalSeedsWrong : ChangeSpec := { name := "evalSeeds", fn := fun _ => fun
  | [d1, d2, d3, d4, d5, d6, d7, d8] => { results := [.lit (.bool false)], args := [d1, d2, d3, d4, d5, d6, d7, d8] }
  | _ => none }
def EvalSeedsWrongFalsely : Prop := evalSeedsRow.holds Try.pinned (OpenSpec.ofChange evalSeedsWrong)

/-- 'symbolonlaw08.GatesTells': WHATEVER THE INPUT: true; the input reads as it did. -/
def gatesTellsSpec : ChangeSpec := { name := "gatesTells", fn := fun _ => fun
  | [d1, d2, d3, d4, d5, d6] => { results := [.lit (.bool true)], args := [d1, d2, d3, d4, d5, d6] }
  | _ => none }
def gatesTellsRow : OpenClaim := { program := "ytfnbofkhgimkcaa", sum := "f83f1ad56f1667b1b5d155f7e283a8f22be9de1d8f49cd66e2abbae79c767390", func := "symbolon/symbolonlaw08.GatesTells", spec := "gatesTells", unfollowed := true, recurses := true, apart := false }
def GatesTellsSaid : Prop := gatesTellsRow.holds Try.pinned (OpenSpec.ofChange gatesTellsSpec)

/-- ITS FALSE NEIGHBOUR: 'it returns false'. Refute it at one input. -/
def gatesTellsWrong : ChangeSpec := { name := "gatesTells", fn := fun _ => fun
  | [d1, d2, d3, d4, d5, d6] => { results := [.lit (.bool false)], args := [d1, d2, d3, d4, d5, d6] }
  | _ => none }
def GatesTellsWrongFalsely : Prop := gatesTellsRow.holds Try.pinned (OpenSpec.ofChange gatesTellsWrong)

/-- 'symbolonlaw08.GatesBack': WHATEVER THE INPUT: true; the input reads as it did. -/
def gatesBackSpec : ChangeSpec := { name := "gatesBack", fn := fun _ => fun
  | [d1, d2, d3, d4, d5] => { results := [.lit (.bool true)], args := [d1, d2, d3, d4, d5] }
  | _ => none }
def gatesBackRow : OpenClaim := { program := "ytfnbofkhgimkcaa", sum := "f83f1ad56f1667b1b5d155f7e283a8f22be9de1d8f49cd66e2abbae79c767390", func := "symbolon/symbolonlaw08.GatesBack", spec := "gatesBack", unfollowed := true, recurses := true, apart := false }
def GatesBackSaid : Prop := gatesBackRow.holds Try.pinned (OpenSpec.ofChange gatesBackSpec)

/-- ITS FALSE NEIGHBOUR: 'it returns false'. Refute it at one input. -/
def gatesBackWrong : ChangeSpec := { name := "gatesBack", fn := fun _ => fun
  | [d1, d2, d3, d4, d5] => { results := [.lit (.bool false)], args := [d1, d2, d3, d4, d5] }
  | _ => none }
def GatesBackWrongFalsely : Prop := gatesBackRow.holds Try.pinned (OpenSpec.ofChange gatesBackWrong)

/-- 'symbolonlaw08.GatesTerms': WHATEVER THE INPUT: true; the input reads as it did. -/
def gatesTermsSpec : ChangeSpec := { name := "gatesTerms", fn := fun _ => fun
  | [d1, d2, d3] => { results := [.lit (.bool true)], args := [d1, d2, d3] }
  | _ => none }
def gatesTermsRow : OpenClaim := { program := "ytfnbofkhgimkcaa", sum := "f83f1ad56f1667b1b5d155f7e283a8f22be9de1d8f49cd66e2abbae79c767390", func := "symbolon/symbolonlaw08.GatesTerms", spec := "gatesTerms", unfollowed := true, recurses := true, apart := false }
def GatesTermsSaid : Prop := gatesTermsRow.holds Try.pinned (OpenSpec.ofChange gatesTermsSpec)

/-- ITS FALSE NEIGHBOUR: 'it returns false'. Refute it at one input. -/
def gatesTermsWrong : ChangeSpec := { name := "gatesTerms", fn := fun _ => fun
  | [d1, d2, d3] => { results := [.lit (.bool false)], args := [d1, d2, d3] }
  | _ => none }
def GatesTermsWrongFalsely : Prop := gatesTermsRow.holds Try.pinned (OpenSpec.ofChange gatesTermsWrong)

/-- 'symbolonlaw08.GatesRow': WHATEVER THE INPUT: true; the input reads as it did. -/
def gatesRowSpec : ChangeSpec := { name := "gatesRow", fn := fun _ => fun
  | [d] => { results := [.lit (.bool true)], args := [d] }
  | _ => none }
def gatesRowRow : OpenClaim := { program := "ytfnbofkhgimkcaa", sum := "f83f1ad56f1667b1b5d155f7e283a8f22be9de1d8f49cd66e2abbae79c767390", func := "symbolon/symbolonlaw08.GatesRow", spec := "gatesRow", unfollowed := true, recurses := true, apart := false }
def GatesRowSaid : Prop := gatesRowRow.holds Try.pinned (OpenSpec.ofChange gatesRowSpec)

/-- ITS FALSE NEIGHBOUR: 'it returns false'. Refute it at one input. -/
def gatesRowWrong : ChangeSpec := { name := "gatesRow", fn := fun _ => fun
  | [d] => { results := [.lit (.bool false)], args := [d] }
  | _ => none }
def GatesRowWrongFalsely : Prop := gatesRowRow.holds Try.pinned (OpenSpec.ofChange gatesRowWrong)

/-- 'symbolonlaw08.GatesAhead': WHATEVER THE INPUT: true; the input reads as it did. -/
def gatesAheadSpec : ChangeSpec := { name := "gatesAhead", fn := fun _ => fun
  | [d1, d2, d3] => { results := [.lit (.bool true)], args := [d1, d2, d3] }
  | _ => none }
def gatesAheadRow : OpenClaim := { program := "ytfnbofkhgimkcaa", sum := "f83f1ad56f1667b1b5d155f7e283a8f22be9de1d8f49cd66e2abbae79c767390", func := "symbolon/symbolonlaw08.GatesAhead", spec := "gatesAhead", unfollowed := true, recurses := true, apart := false }
def GatesAheadSaid : Prop := gatesAheadRow.holds Try.pinned (OpenSpec.ofChange gatesAheadSpec)

/-- ITS FALSE NEIGHBOUR: 'it returns false'. Refute it at one input. -/
def gatesAheadWrong : ChangeSpec := { name := "gatesAhead", fn := fun _ => fun
  | [d1, d2, d3] => { results := [.lit (.bool false)], args := [d1, d2, d3] }
  | _ => none }
def GatesAheadWrongFalsely : Prop := gatesAheadRow.holds Try.pinned (OpenSpec.ofChange gatesAheadWrong)

/-- 'symbolonlaw08.GatesOrder': WHATEVER THE INPUT: true; the input reads as it did. -/
def gatesOrderSpec : ChangeSpec := { name := "gatesOrder", fn := fun _ => fun
  | [d1, d2, d3] => { results := [.lit (.bool true)], args := [d1, d2, d3] }
  | _ => none }
def gatesOrderRow : OpenClaim := { program := "ytfnbofkhgimkcaa", sum := "f83f1ad56f1667b1b5d155f7e283a8f22be9de1d8f49cd66e2abbae79c767390", func := "symbolon/symbolonlaw08.GatesOrder", spec := "gatesOrder", unfollowed := true, recurses := true, apart := false }
def GatesOrderSaid : Prop := gatesOrderRow.holds Try.pinned (OpenSpec.ofChange gatesOrderSpec)

/-- ITS FALSE NEIGHBOUR: 'it returns false'. Refute it at one input. -/
def gatesOrderWrong : ChangeSpec := { name := "gatesOrder", fn := fun _ => fun
  | [d1, d2, d3] => { results := [.lit (.bool false)], args := [d1, d2, d3] }
  | _ => none }
def GatesOrderWrongFalsely : Prop := gatesOrderRow.holds Try.pinned (OpenSpec.ofChange gatesOrderWrong)

/- THE SECOND FORM. 'bulk': how many values and letters a reading holds, each counted each time it is reached (what is shared counts as often as it is met; a slice's spare places count too). A statement '..UptoSaid' is the law's where the arguments, and the package variables that the reading takes, are together of bulk at most 1048576: NARROWER than '..Said'. Prove '..Said' where nothing that the law and all that it calls make is longer than what came in: it says more and counts as full. Else prove '..UptoSaid'. A law counts once. -/
mutual
def uptoBulk {H : Type} : DataW H → Nat
  | .lit (.string bytes) => bytes.length + 1
  | .lit _ => 1
  | .nil => 1
  | .ptr d => uptoBulk d + 1
  | .slice elems spare => uptoBulkAll elems + uptoBulkAll spare + 1
  | .agg parts => uptoBulkAll parts + 1
  | .iface _ d => uptoBulk d + 1
  | .map entries => uptoBulkEntries entries + 1
  | .held _ => 1
def uptoBulkAll {H : Type} : List (DataW H) → Nat
  | [] => 0
  | d :: r => uptoBulk d + uptoBulkAll r
def uptoBulkEntries {H : Type} : List (Lit × DataW H) → Nat
  | [] => 0
  | x :: r => uptoBulkEntry x + uptoBulkEntries r
def uptoBulkEntry {H : Type} : Lit × DataW H → Nat
  | (.string bytes, d) => bytes.length + uptoBulk d + 1
  | (_, d) => uptoBulk d + 1
 end
def uptoSmall : (H : Type) → List (DataW H) → Bool := fun _ ds => decide (uptoBulkAll ds ≤ 1048576)
def OpenSpec.upto (s : _root_.Go.ChangeSpec) : _root_.Go.OpenSpec := { _root_.Go.OpenSpec.ofChange s with cond := some uptoSmall }

/-- 'symbolonlaw13.EvalExact', WHERE WHAT IT READS IS OF BULK AT MOST 1048576: true; the input reads as it did. -/
def evalExactUptoRow : OpenClaim := { program := "ytfnbofkhgimkcaa", sum := "f83f1ad56f1667b1b5d155f7e283a8f22be9de1d8f49cd66e2abbae79c767390", func := "symbolon/symbolonlaw13.EvalExact", spec := "evalExact", unfollowed := true, recurses := true, apart := false, narrowed := true }
def EvalExactUptoSaid : Prop := evalExactUptoRow.holds Try.pinned (OpenSpec.upto evalExactSpec)

/-- 'symbolonlaw13.EvalWhole', WHERE WHAT IT READS IS OF BULK AT MOST 1048576: true; the input reads as it did. -/
def evalWholeUptoRow : OpenClaim := { program := "ytfnbofkhgimkcaa", sum := "f83f1ad56f1667b1b5d155f7e283a8f22be9de1d8f49cd66e2abbae79c767390", func := "symbolon/symbolonlaw13.EvalWhole", spec := "evalWhole", unfollowed := true, recurses := true, apart := false, narrowed := true }
def EvalWholeUptoSaid : Prop := evalWholeUptoRow.holds Try.pinned (OpenSpec.upto evalWholeSpec)

/-- 'symbolonlaw13.EvalApart', WHERE WHAT IT READS IS OF BULK AT MOST 1048576: true; the input reads as it did. -/
def evalApartUptoRow : OpenClaim := { program := "ytfnbofkhgimkcaa", sum := "f83f1ad56f1667b1b5d155f7e283a8f22be9de1d8f49cd66e2abbae79c767390", func := "symbolon/symbolonlaw13.EvalApart", spec := "evalApart", unfollowed := true, recurses := true, apart := false, narrowed := true }
def EvalApartUptoSaid : Prop := evalApartUptoRow.holds Try.pinned (OpenSpec.upto evalApartSpec)

/-- 'symbolonlaw13.EvalFirst', WHERE WHAT IT READS IS OF BULK AT MOST 1048576: true; the input reads as it did. -/
def evalFirstUptoRow : OpenClaim := { program := "ytfnbofkhgimkcaa", sum := "f83f1ad56f1667b1b5d155f7e283a8f22be9de1d8f49cd66e2abbae79c767390", func := "symbolon/symbolonlaw13.EvalFirst", spec := "evalFirst", unfollowed := true, recurses := true, apart := false, narrowed := true }
def EvalFirstUptoSaid : Prop := evalFirstUptoRow.holds Try.pinned (OpenSpec.upto evalFirstSpec)

/-- 'symbolonlaw13.EvalLast', WHERE WHAT IT READS IS OF BULK AT MOST 1048576: true; the input reads as it did. -/
def evalLastUptoRow : OpenClaim := { program := "ytfnbofkhgimkcaa", sum := "f83f1ad56f1667b1b5d155f7e283a8f22be9de1d8f49cd66e2abbae79c767390", func := "symbolon/symbolonlaw13.EvalLast", spec := "evalLast", unfollowed := true, recurses := true, apart := false, narrowed := true }
def EvalLastUptoSaid : Prop := evalLastUptoRow.holds Try.pinned (OpenSpec.upto evalLastSpec)

/-- 'symbolonlaw13.EvalSeeds', WHERE WHAT IT READS IS OF BULK AT MOST 1048576: true; the input reads as it did. -/
def evalSeedsUptoRow : OpenClaim := { program := "ytfnbofkhgimkcaa", sum := "f83f1ad56f1667b1b5d155f7e283a8f22be9de1d8f49cd66e2abbae79c767390", func := "symbolon/symbolonlaw13.EvalSeeds", spec := "evalSeeds", unfollowed := true, recurses := true, apart := false, narrowed := true }
def EvalSeedsUptoSaid : Prop := evalSeedsUptoRow.holds Try.pinned (OpenSpec.upto evalSeedsSpec)

/-- 'symbolonlaw08.GatesTells', WHERE WHAT IT READS IS OF BULK AT MOST 1048576: true; the input reads as it did. -/
def gatesTellsUptoRow : OpenClaim := { program := "ytfnbofkhgimkcaa", sum := "f83f1ad56f1667b1b5d155f7e283a8f22be9de1d8f49cd66e2abbae79c767390", func := "symbolon/symbolonlaw08.GatesTells", spec := "gatesTells", unfollowed := true, recurses := true, apart := false, narrowed := true }
def GatesTellsUptoSaid : Prop := gatesTellsUptoRow.holds Try.pinned (OpenSpec.upto gatesTellsSpec)

/-- 'symbolonlaw08.GatesBack', WHERE WHAT IT READS IS OF BULK AT MOST 1048576: true; the input reads as it did. -/
def gatesBackUptoRow : OpenClaim := { program := "ytfnbofkhgimkcaa", sum := "f83f1ad56f1667b1b5d155f7e283a8f22be9de1d8f49cd66e2abbae79c767390", func := "symbolon/symbolonlaw08.GatesBack", spec := "gatesBack", unfollowed := true, recurses := true, apart := false, narrowed := true }
def GatesBackUptoSaid : Prop := gatesBackUptoRow.holds Try.pinned (OpenSpec.upto gatesBackSpec)

/-- 'symbolonlaw08.GatesTerms', WHERE WHAT IT READS IS OF BULK AT MOST 1048576: true; the input reads as it did. -/
def gatesTermsUptoRow : OpenClaim := { program := "ytfnbofkhgimkcaa", sum := "f83f1ad56f1667b1b5d155f7e283a8f22be9de1d8f49cd66e2abbae79c767390", func := "symbolon/symbolonlaw08.GatesTerms", spec := "gatesTerms", unfollowed := true, recurses := true, apart := false, narrowed := true }
def GatesTermsUptoSaid : Prop := gatesTermsUptoRow.holds Try.pinned (OpenSpec.upto gatesTermsSpec)

/-- 'symbolonlaw08.GatesRow', WHERE WHAT IT READS IS OF BULK AT MOST 1048576: true; the input reads as it did. -/
def gatesRowUptoRow : OpenClaim := { program := "ytfnbofkhgimkcaa", sum := "f83f1ad56f1667b1b5d155f7e283a8f22be9de1d8f49cd66e2abbae79c767390", func := "symbolon/symbolonlaw08.GatesRow", spec := "gatesRow", unfollowed := true, recurses := true, apart := false, narrowed := true }
def GatesRowUptoSaid : Prop := gatesRowUptoRow.holds Try.pinned (OpenSpec.upto gatesRowSpec)

/-- 'symbolonlaw08.GatesAhead', WHERE WHAT IT READS IS OF BULK AT MOST 1048576: true; the input reads as it did. -/
def gatesAheadUptoRow : OpenClaim := { program := "ytfnbofkhgimkcaa", sum := "f83f1ad56f1667b1b5d155f7e283a8f22be9de1d8f49cd66e2abbae79c767390", func := "symbolon/symbolonlaw08.GatesAhead", spec := "gatesAhead", unfollowed := true, recurses := true, apart := false, narrowed := true }
def GatesAheadUptoSaid : Prop := gatesAheadUptoRow.holds Try.pinned (OpenSpec.upto gatesAheadSpec)

/-- 'symbolonlaw08.GatesOrder', WHERE WHAT IT READS IS OF BULK AT MOST 1048576: true; the input reads as it did. -/
def gatesOrderUptoRow : OpenClaim := { program := "ytfnbofkhgimkcaa", sum := "f83f1ad56f1667b1b5d155f7e283a8f22be9de1d8f49cd66e2abbae79c767390", func := "symbolon/symbolonlaw08.GatesOrder", spec := "gatesOrder", unfollowed := true, recurses := true, apart := false, narrowed := true }
def GatesOrderUptoSaid : Prop := gatesOrderUptoRow.holds Try.pinned (OpenSpec.upto gatesOrderSpec)

end Rows
end Go.Proofs.Ytfnbofkhgimkcaa
