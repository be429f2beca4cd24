/-
  No cell of these rows narrows 'for every input' (looked for: loops, veiled, ifaces, maps, wideKeys, modest, calm, conditions, laid).
  DERIVED. THE GIVEN ROWS OF THIS SEAT. 13 by the template 'for every input the law returns true; each argument reads behind the call as it read before'; 0 by the template 'total and deterministic' (their statements: YtdehiohjlbmmdaaTotals.lean).
  GIVEN WITH THE SEED: the statements are not yours to turn. If you find one false, say at which input.
  Laid BY PROGRAM, IN A SANDBOX (cutbox-rows.mjs): the forced cells as the released guide's own fill.sh prints them over the translation 6ec4f8adc7109461… (all of the seat's roots in one cut). By AI agents, Wed Nov 11 2026. No macro, syntax, notation, axiom, sorry.
-/
import Derived.Test.YtdehiohjlbmmdaaChecked
import GoSem.Claim
import GoSem.ClaimJoined
import GoSem.ClaimMapViews
import Derived.JoinedTies
import Derived.KernelRfl
namespace Go.Proofs.Ytdehiohjlbmmdaa
/- THE CELL 'sum', in the pinned program and in every row, IS THE sha256 OF THE DUMP (.gsa) THAT YtdehiohjlbmmdaaProg.lean LOADS. Nothing in Lean hashes anything: it is a label: what it is worth is what the hold of that sum in a sandbox is worth. -/
noncomputable def Try.pinned : Pinned := { name := "ytdehiohjlbmmdaa", sum := "6ec4f8adc71094610dda9db2c45916aaf40f78af3d391d65e4bdd1deecc3edd0", checked := Try.checked }
namespace Rows
def none {H : Type} : Left H := { results := [], args := [] }

/-- 'symbolonlaw19.FrameTells': WHATEVER THE INPUT: true; the input reads as it did. -/
def frameTellsSpec : ChangeSpec := { name := "frameTells", fn := fun _ => fun
  | [d1, d2] => { results := [.lit (.bool true)], args := [d1, d2] }
  | _ => none }
def frameTellsRow : OpenClaim := { program := "ytdehiohjlbmmdaa", sum := "6ec4f8adc71094610dda9db2c45916aaf40f78af3d391d65e4bdd1deecc3edd0", func := "symbolon/symbolonlaw19.FrameTells", spec := "frameTells", unfollowed := true, recurses := true, apart := false }
def FrameTellsSaid : Prop := frameTellsRow.holds Try.pinned (OpenSpec.ofChange frameTellsSpec)

/-- ITS FALSE NEIGHBOUR: 'it returns false'. Refute it at one input. -/
def frameTellsWrong : ChangeSpec := { name := "frameTells", fn := fun _ => fun
  | [d1, d2] => { results := [.lit (.bool false)], args := [d1, d2] }
  | _ => none }
def FrameTellsWrongFalsely : Prop := frameTellsRow.holds Try.pinned (OpenSpec.ofChange frameTellsWrong)

/-- 'symbolonlaw19.FrameBack': WHATEVER THE INPUT: true; the input reads as it did. -/
def frameBackSpec : ChangeSpec := { name := "frameBack", fn := fun _ => fun
  | [d1, d2] => { results := [.lit (.bool true)], args := [d1, d2] }
  | _ => none }
def frameBackRow : OpenClaim := { program := "ytdehiohjlbmmdaa", sum := "6ec4f8adc71094610dda9db2c45916aaf40f78af3d391d65e4bdd1deecc3edd0", func := "symbolon/symbolonlaw19.FrameBack", spec := "frameBack", unfollowed := true, recurses := true, apart := false }
def FrameBackSaid : Prop := frameBackRow.holds Try.pinned (OpenSpec.ofChange frameBackSpec)

/-- ITS FALSE NEIGHBOUR: 'it returns false'. Refute it at one input. -/
def frameBackWrong : ChangeSpec := { name := "frameBack", fn := fun _ => fun
  | [d1, d2] => { results := [.lit (.bool false)], args := [d1, d2] }
  | _ => none }
def FrameBackWrongFalsely : Prop := frameBackRow.holds Try.pinned (OpenSpec.ofChange frameBackWrong)

/-- 'symbolonlaw19.FrameApart': WHATEVER THE INPUT: true; the input reads as it did. -/
def frameApartSpec : ChangeSpec := { name := "frameApart", fn := fun _ => fun
  | [d1, d2] => { results := [.lit (.bool true)], args := [d1, d2] }
  | _ => none }
def frameApartRow : OpenClaim := { program := "ytdehiohjlbmmdaa", sum := "6ec4f8adc71094610dda9db2c45916aaf40f78af3d391d65e4bdd1deecc3edd0", func := "symbolon/symbolonlaw19.FrameApart", spec := "frameApart", unfollowed := true, recurses := true, apart := false }
def FrameApartSaid : Prop := frameApartRow.holds Try.pinned (OpenSpec.ofChange frameApartSpec)

/-- ITS FALSE NEIGHBOUR: 'it returns false'. Refute it at one input. -/
def frameApartWrong : ChangeSpec := { name := "frameApart", fn := fun _ => fun
  | [d1, d2] => { results := [.lit (.bool false)], args := [d1, d2] }
  | _ => none }
def FrameApartWrongFalsely : Prop := frameApartRow.holds Try.pinned (OpenSpec.ofChange frameApartWrong)

/-- 'symbolonlaw19.FrameCuts': WHATEVER THE INPUT: true; the input reads as it did. -/
def frameCutsSpec : ChangeSpec := { name := "frameCuts", fn := fun _ => fun
  | [d1, d2, d3] => { results := [.lit (.bool true)], args := [d1, d2, d3] }
  | _ => none }
def frameCutsRow : OpenClaim := { program := "ytdehiohjlbmmdaa", sum := "6ec4f8adc71094610dda9db2c45916aaf40f78af3d391d65e4bdd1deecc3edd0", func := "symbolon/symbolonlaw19.FrameCuts", spec := "frameCuts", unfollowed := true, recurses := true, apart := false }
def FrameCutsSaid : Prop := frameCutsRow.holds Try.pinned (OpenSpec.ofChange frameCutsSpec)

/-- ITS FALSE NEIGHBOUR: 'it returns false'. Refute it at one input. -/
def frameCutsWrong : ChangeSpec := { name := "frameCuts", fn := fun _ => fun
  | [d1, d2, d3] => { results := [.lit (.bool false)], args := [d1, d2, d3] }
  | _ => none }
def FrameCutsWrongFalsely : Prop := frameCutsRow.holds Try.pinned (OpenSpec.ofChange frameCutsWrong)

/-- 'symbolonlaw19.FrameKinds': WHATEVER THE INPUT: true; the input reads as it did. -/
def frameKindsSpec : ChangeSpec := { name := "frameKinds", fn := fun _ => fun
  | [d1, d2, d3] => { results := [.lit (.bool true)], args := [d1, d2, d3] }
  | _ => none }
def frameKindsRow : OpenClaim := { program := "ytdehiohjlbmmdaa", sum := "6ec4f8adc71094610dda9db2c45916aaf40f78af3d391d65e4bdd1deecc3edd0", func := "symbolon/symbolonlaw19.FrameKinds", spec := "frameKinds", unfollowed := true, recurses := true, apart := false }
def FrameKindsSaid : Prop := frameKindsRow.holds Try.pinned (OpenSpec.ofChange frameKindsSpec)

/-- ITS FALSE NEIGHBOUR: 'it returns false'. Refute it at one input. -/
def frameKindsWrong : ChangeSpec := { name := "frameKinds", fn := fun _ => fun
  | [d1, d2, d3] => { results := [.lit (.bool false)], args := [d1, d2, d3] }
  | _ => none }
def FrameKindsWrongFalsely : Prop := frameKindsRow.holds Try.pinned (OpenSpec.ofChange frameKindsWrong)

/-- 'symbolonlaw19.FrameSorts': WHATEVER THE INPUT: true; the input reads as it did. -/
def frameSortsSpec : ChangeSpec := { name := "frameSorts", fn := fun _ => fun
  | [d1, d2] => { results := [.lit (.bool true)], args := [d1, d2] }
  | _ => none }
def frameSortsRow : OpenClaim := { program := "ytdehiohjlbmmdaa", sum := "6ec4f8adc71094610dda9db2c45916aaf40f78af3d391d65e4bdd1deecc3edd0", func := "symbolon/symbolonlaw19.FrameSorts", spec := "frameSorts", unfollowed := true, recurses := true, apart := false }
def FrameSortsSaid : Prop := frameSortsRow.holds Try.pinned (OpenSpec.ofChange frameSortsSpec)

/-- ITS FALSE NEIGHBOUR: 'it returns false'. Refute it at one input. -/
def frameSortsWrong : ChangeSpec := { name := "frameSorts", fn := fun _ => fun
  | [d1, d2] => { results := [.lit (.bool false)], args := [d1, d2] }
  | _ => none }
def FrameSortsWrongFalsely : Prop := frameSortsRow.holds Try.pinned (OpenSpec.ofChange frameSortsWrong)

/-- 'symbolonlaw20.SessionTells': WHATEVER THE INPUT: true; the input reads as it did. -/
def sessionTellsSpec : ChangeSpec := { name := "sessionTells", fn := fun _ => fun
  | [d1, d2, d3, d4] => { results := [.lit (.bool true)], args := [d1, d2, d3, d4] }
  | _ => none }
def sessionTellsRow : OpenClaim := { program := "ytdehiohjlbmmdaa", sum := "6ec4f8adc71094610dda9db2c45916aaf40f78af3d391d65e4bdd1deecc3edd0", func := "symbolon/symbolonlaw20.SessionTells", spec := "sessionTells", unfollowed := true, recurses := true, apart := false }
def SessionTellsSaid : Prop := sessionTellsRow.holds Try.pinned (OpenSpec.ofChange sessionTellsSpec)

/-- ITS FALSE NEIGHBOUR: 'it returns false'. Refute it at one input. -/
def sessionTellsWrong : ChangeSpec := { name := "sessionTells", fn := fun _ => fun
  | [d1, d2, d3, d4] => { results := [.lit (.bool false)], args := [d1, d2, d3, d4] }
  | _ => none }
def SessionTellsWrongFalsely : Prop := sessionTellsRow.holds Try.pinned (OpenSpec.ofChange sessionTellsWrong)

/-- 'symbolonlaw20.SessionStays': WHATEVER THE INPUT: true; the input reads as it did. -/
def sessionStaysSpec : ChangeSpec := { name := "sessionStays", fn := fun _ => fun
  | [d1, d2, d3] => { results := [.lit (.bool true)], args := [d1, d2, d3] }
  | _ => none }
def sessionStaysRow : OpenClaim := { program := "ytdehiohjlbmmdaa", sum := "6ec4f8adc71094610dda9db2c45916aaf40f78af3d391d65e4bdd1deecc3edd0", func := "symbolon/symbolonlaw20.SessionStays", spec := "sessionStays", unfollowed := true, recurses := true, apart := false }
def SessionStaysSaid : Prop := sessionStaysRow.holds Try.pinned (OpenSpec.ofChange sessionStaysSpec)

/-- ITS FALSE NEIGHBOUR: 'it returns false'. Refute it at one input. -/
def sessionStaysWrong : ChangeSpec := { name := "sessionStays", fn := fun _ => fun
  | [d1, d2, d3] => { results := [.lit (.bool false)], args := [d1, d2, d3] }
  | _ => none }
def SessionStaysWrongFalsely : Prop := sessionStaysRow.holds Try.pinned (OpenSpec.ofChange sessionStaysWrong)

/-- 'symbolonlaw20.SessionOnce': WHATEVER THE INPUT: true; the input reads as it did. -/
def sessionOnceSpec : ChangeSpec := { name := "sessionOnce", fn := fun _ => fun
  | [d1, d2, d3] => { results := [.lit (.bool true)], args := [d1, d2, d3] }
  | _ => none }
def sessionOnceRow : OpenClaim := { program := "ytdehiohjlbmmdaa", sum := "6ec4f8adc71094610dda9db2c45916aaf40f78af3d391d65e4bdd1deecc3edd0", func := "symbolon/symbolonlaw20.SessionOnce", spec := "sessionOnce", unfollowed := true, recurses := true, apart := false }
def SessionOnceSaid : Prop := sessionOnceRow.holds Try.pinned (OpenSpec.ofChange sessionOnceSpec)

/-- ITS FALSE NEIGHBOUR: 'it returns false'. Refute it at one input. -/
def sessionOnceWrong : ChangeSpec := { name := "sessionOnce", fn := fun _ => fun
  | [d1, d2, d3] => { results := [.lit (.bool false)], args := [d1, d2, d3] }
  | _ => none }
def SessionOnceWrongFalsely : Prop := sessionOnceRow.holds Try.pinned (OpenSpec.ofChange sessionOnceWrong)

/-- 'symbolonlaw20.SessionAll': WHATEVER THE INPUT: true; the input reads as it did. -/
def sessionAllSpec : ChangeSpec := { name := "sessionAll", fn := fun _ => fun
  | [d1, d2, d3] => { results := [.lit (.bool true)], args := [d1, d2, d3] }
  | _ => none }
def sessionAllRow : OpenClaim := { program := "ytdehiohjlbmmdaa", sum := "6ec4f8adc71094610dda9db2c45916aaf40f78af3d391d65e4bdd1deecc3edd0", func := "symbolon/symbolonlaw20.SessionAll", spec := "sessionAll", unfollowed := true, recurses := true, apart := false }
def SessionAllSaid : Prop := sessionAllRow.holds Try.pinned (OpenSpec.ofChange sessionAllSpec)

/-- ITS FALSE NEIGHBOUR: 'it returns false'. Refute it at one input. -/
def sessionAllWrong : ChangeSpec := { name := "sessionAll", fn := fun _ => fun
  | [d1, d2, d3] => { results := [.lit (.bool false)], args := [d1, d2, d3] }
  | _ => none }
def SessionAllWrongFalsely : Prop := sessionAllRow.holds Try.pinned (OpenSpec.ofChange sessionAllWrong)

/-- 'symbolonlaw20.SessionAnew': WHATEVER THE INPUT: true; the input reads as it did. -/
def sessionAnewSpec : ChangeSpec := { name := "sessionAnew", fn := fun _ => fun
  | [d1, d2] => { results := [.lit (.bool true)], args := [d1, d2] }
  | _ => none }
def sessionAnewRow : OpenClaim := { program := "ytdehiohjlbmmdaa", sum := "6ec4f8adc71094610dda9db2c45916aaf40f78af3d391d65e4bdd1deecc3edd0", func := "symbolon/symbolonlaw20.SessionAnew", spec := "sessionAnew", unfollowed := true, recurses := true, apart := false }
def SessionAnewSaid : Prop := sessionAnewRow.holds Try.pinned (OpenSpec.ofChange sessionAnewSpec)

/-- ITS FALSE NEIGHBOUR: 'it returns false'. Refute it at one input. -/
def sessionAnewWrong : ChangeSpec := { name := "sessionAnew", fn := fun _ => fun
  | [d1, d2] => { results := [.lit (.bool false)], args := [d1, d2] }
  | _ => none }
def SessionAnewWrongFalsely : Prop := sessionAnewRow.holds Try.pinned (OpenSpec.ofChange sessionAnewWrong)

/-- 'symbolonlaw20.SessionTwice': WHATEVER THE INPUT: true; the input reads as it did. -/
def sessionTwiceSpec : ChangeSpec := { name := "sessionTwice", fn := fun _ => fun
  | [d1, d2] => { results := [.lit (.bool true)], args := [d1, d2] }
  | _ => none }
def sessionTwiceRow : OpenClaim := { program := "ytdehiohjlbmmdaa", sum := "6ec4f8adc71094610dda9db2c45916aaf40f78af3d391d65e4bdd1deecc3edd0", func := "symbolon/symbolonlaw20.SessionTwice", spec := "sessionTwice", unfollowed := true, recurses := true, apart := false }
def SessionTwiceSaid : Prop := sessionTwiceRow.holds Try.pinned (OpenSpec.ofChange sessionTwiceSpec)

/-- ITS FALSE NEIGHBOUR: 'it returns false'. Refute it at one input. -/
def sessionTwiceWrong : ChangeSpec := { name := "sessionTwice", fn := fun _ => fun
  | [d1, d2] => { results := [.lit (.bool false)], args := [d1, d2] }
  | _ => none }
def SessionTwiceWrongFalsely : Prop := sessionTwiceRow.holds Try.pinned (OpenSpec.ofChange sessionTwiceWrong)

/-- 'symbolonlaw20.SessionSends': WHATEVER THE INPUT: true; the input reads as it did. -/
def sessionSendsSpec : ChangeSpec := { name := "sessionSends", fn := fun _ => fun
  | [d1, d2] => { results := [.lit (.bool true)], args := [d1, d2] }
  | _ => none }
def sessionSendsRow : OpenClaim := { program := "ytdehiohjlbmmdaa", sum := "6ec4f8adc71094610dda9db2c45916aaf40f78af3d391d65e4bdd1deecc3edd0", func := "symbolon/symbolonlaw20.SessionSends", spec := "sessionSends", unfollowed := true, recurses := true, apart := false }
def SessionSendsSaid : Prop := sessionSendsRow.holds Try.pinned (OpenSpec.ofChange sessionSendsSpec)

/-- ITS FALSE NEIGHBOUR: 'it returns false'. Refute it at one input. -/
def sessionSendsWrong : ChangeSpec := { name := "sessionSends", fn := fun _ => fun
  | [d1, d2] => { results := [.lit (.bool false)], args := [d1, d2] }
  | _ => none }
def SessionSendsWrongFalsely : Prop := sessionSendsRow.holds Try.pinned (OpenSpec.ofChange sessionSendsWrong)

/- THE SECOND FORM. 'bulk': how many values and letters a reading holds, each counted each time it is reached (what is shared counts as often as it is met; a slice's spare places count too). A statement '..UptoSaid' is the law's where the arguments, and the package variables that the reading takes, are together of bulk at most 1048576: NARROWER than '..Said'. Prove '..Said' where nothing that the law and all that it calls make is longer than what came in: it says more and counts as full. Else prove '..UptoSaid'. A law counts once. -/
mutual
def uptoBulk {H : Type} : DataW H → Nat
  | .lit (.string bytes) => bytes.length + 1
  | .lit _ => 1
  | .nil => 1
  | .ptr d => uptoBulk d + 1
  | .slice elems spare => uptoBulkAll elems + uptoBulkAll spare + 1
  | .agg parts => uptoBulkAll parts + 1
  | .iface _ d => uptoBulk d + 1
  | .map entries => uptoBulkEntries entries + 1
  | .held _ => 1
def uptoBulkAll {H : Type} : List (DataW H) → Nat
  | [] => 0
  | d :: r => uptoBulk d + uptoBulkAll r
def uptoBulkEntries {H : Type} : List (Lit × DataW H) → Nat
  | [] => 0
  | x :: r => uptoBulkEntry x + uptoBulkEntries r
def uptoBulkEntry {H : Type} : Lit × DataW H → Nat
  | (.string bytes, d) => bytes.length + uptoBulk d + 1
  | (_, d) => uptoBulk d + 1
 end
def uptoSmall : (H : Type) → List (DataW H) → Bool := fun _ ds => decide (uptoBulkAll ds ≤ 1048576)
def OpenSpec.upto (s : _root_.Go.ChangeSpec) : _root_.Go.OpenSpec := { _root_.Go.OpenSpec.ofChange s with cond := some uptoSmall }

/-- 'symbolonlaw19.FrameTells', WHERE WHAT IT READS IS OF BULK AT MOST 1048576: true; the input reads as it did. -/
def frameTellsUptoRow : OpenClaim := { program := "ytdehiohjlbmmdaa", sum := "6ec4f8adc71094610dda9db2c45916aaf40f78af3d391d65e4bdd1deecc3edd0", func := "symbolon/symbolonlaw19.FrameTells", spec := "frameTells", unfollowed := true, recurses := true, apart := false, narrowed := true }
def FrameTellsUptoSaid : Prop := frameTellsUptoRow.holds Try.pinned (OpenSpec.upto frameTellsSpec)

/-- 'symbolonlaw19.FrameBack', WHERE WHAT IT READS IS OF BULK AT MOST 1048576: true; the input reads as it did. -/
def frameBackUptoRow : OpenClaim := { program := "ytdehiohjlbmmdaa", sum := "6ec4f8adc71094610dda9db2c45916aaf40f78af3d391d65e4bdd1deecc3edd0", func := "symbolon/symbolonlaw19.FrameBack", spec := "frameBack", unfollowed := true, recurses := true, apart := false, narrowed := true }
def FrameBackUptoSaid : Prop := frameBackUptoRow.holds Try.pinned (OpenSpec.upto frameBackSpec)

/-- 'symbolonlaw19.FrameApart', WHERE WHAT IT READS IS OF BULK AT MOST 1048576: true; the input reads as it did. -/
def frameApartUptoRow : OpenClaim := { program := "ytdehiohjlbmmdaa", sum := "6ec4f8adc71094610dda9db2c45916aaf40f78af3d391d65e4bdd1deecc3edd0", func := "symbolon/symbolonlaw19.FrameApart", spec := "frameApart", unfollowed := true, recurses := true, apart := false, narrowed := true }
def FrameApartUptoSaid : Prop := frameApartUptoRow.holds Try.pinned (OpenSpec.upto frameApartSpec)

/-- 'symbolonlaw19.FrameCuts', WHERE WHAT IT READS IS OF BULK AT MOST 1048576: true; the input reads as it did. -/
def frameCutsUptoRow : OpenClaim := { program := "ytdehiohjlbmmdaa", sum := "6ec4f8adc71094610dda9db2c45916aaf40f78af3d391d65e4bdd1deecc3edd0", func := "symbolon/symbolonlaw19.FrameCuts", spec := "frameCuts", unfollowed := true, recurses := true, apart := false, narrowed := true }
def FrameCutsUptoSaid : Prop := frameCutsUptoRow.holds Try.pinned (OpenSpec.upto frameCutsSpec)

/-- 'symbolonlaw19.FrameKinds', WHERE WHAT IT READS IS OF BULK AT MOST 1048576: true; the input reads as it did. -/
def frameKindsUptoRow : OpenClaim := { program := "ytdehiohjlbmmdaa", sum := "6ec4f8adc71094610dda9db2c45916aaf40f78af3d391d65e4bdd1deecc3edd0", func := "symbolon/symbolonlaw19.FrameKinds", spec := "frameKinds", unfollowed := true, recurses := true, apart := false, narrowed := true }
def FrameKindsUptoSaid : Prop := frameKindsUptoRow.holds Try.pinned (OpenSpec.upto frameKindsSpec)

/-- 'symbolonlaw19.FrameSorts', WHERE WHAT IT READS IS OF BULK AT MOST 1048576: true; the input reads as it did. -/
def frameSortsUptoRow : OpenClaim := { program := "ytdehiohjlbmmdaa", sum := "6ec4f8adc71094610dda9db2c45916aaf40f78af3d391d65e4bdd1deecc3edd0", func := "symbolon/symbolonlaw19.FrameSorts", spec := "frameSorts", unfollowed := true, recurses := true, apart := false, narrowed := true }
def FrameSortsUptoSaid : Prop := frameSortsUptoRow.holds Try.pinned (OpenSpec.upto frameSortsSpec)

/-- 'symbolonlaw20.SessionTells', WHERE WHAT IT READS IS OF BULK AT MOST 1048576: true; the input reads as it did. -/
def sessionTellsUptoRow : OpenClaim := { program := "ytdehiohjlbmmdaa", sum := "6ec4f8adc71094610dda9db2c45916aaf40f78af3d391d65e4bdd1deecc3edd0", func := "symbolon/symbolonlaw20.SessionTells", spec := "sessionTells", unfollowed := true, recurses := true, apart := false, narrowed := true }
def SessionTellsUptoSaid : Prop := sessionTellsUptoRow.holds Try.pinned (OpenSpec.upto sessionTellsSpec)

/-- 'symbolonlaw20.SessionStays', WHERE WHAT IT READS IS OF BULK AT MOST 1048576: true; the input reads as it did. -/
def sessionStaysUptoRow : OpenClaim := { program := "ytdehiohjlbmmdaa", sum := "6ec4f8adc71094610dda9db2c45916aaf40f78af3d391d65e4bdd1deecc3edd0", func := "symbolon/symbolonlaw20.SessionStays", spec := "sessionStays", unfollowed := true, recurses := true, apart := false, narrowed := true }
def SessionStaysUptoSaid : Prop := sessionStaysUptoRow.holds Try.pinned (OpenSpec.upto sessionStaysSpec)

/-- 'symbolonlaw20.SessionOnce', WHERE WHAT IT READS IS OF BULK AT MOST 1048576: true; the input reads as it did. -/
def sessionOnceUptoRow : OpenClaim := { program := "ytdehiohjlbmmdaa", sum := "6ec4f8adc71094610dda9db2c45916aaf40f78af3d391d65e4bdd1deecc3edd0", func := "symbolon/symbolonlaw20.SessionOnce", spec := "sessionOnce", unfollowed := true, recurses := true, apart := false, narrowed := true }
def SessionOnceUptoSaid : Prop := sessionOnceUptoRow.holds Try.pinned (OpenSpec.upto sessionOnceSpec)

/-- 'symbolonlaw20.SessionAll', WHERE WHAT IT READS IS OF BULK AT MOST 1048576: true; the input reads as it did. -/
def sessionAllUptoRow : OpenClaim := { program := "ytdehiohjlbmmdaa", sum := "6ec4f8adc71094610dda9db2c45916aaf40f78af3d391d65e4bdd1deecc3edd0", func := "symbolon/symbolonlaw20.SessionAll", spec := "sessionAll", unfollowed := true, recurses := true, apart := false, narrowed := true }
def SessionAllUptoSaid : Prop := sessionAllUptoRow.holds Try.pinned (OpenSpec.upto sessionAllSpec)

/-- 'symbolonlaw20.SessionAnew', WHERE WHAT IT READS IS OF BULK AT MOST 1048576: true; the input reads as it did. -/
def sessionAnewUptoRow : OpenClaim := { program := "ytdehiohjlbmmdaa", sum := "6ec4f8adc71094610dda9db2c45916aaf40f78af3d391d65e4bdd1deecc3edd0", func := "symbolon/symbolonlaw20.SessionAnew", spec := "sessionAnew", unfollowed := true, recurses := true, apart := false, narrowed := true }
def SessionAnewUptoSaid : Prop := sessionAnewUptoRow.holds Try.pinned (OpenSpec.upto sessionAnewSpec)

/-- 'symbolonlaw20.SessionTwice', WHERE WHAT IT READS IS OF BULK AT MOST 1048576: true; the input reads as it did. -/
def sessionTwiceUptoRow : OpenClaim := { program := "ytdehiohjlbmmdaa", sum := "6ec4f8adc71094610dda9db2c45916aaf40f78af3d391d65e4bdd1deecc3edd0", func := "symbolon/symbolonlaw20.SessionTwice", spec := "sessionTwice", unfollowed := true, recurses := true, apart := false, narrowed := true }
def SessionTwiceUptoSaid : Prop := sessionTwiceUptoRow.holds Try.pinned (OpenSpec.upto sessionTwiceSpec)

/-- 'symbolonlaw20.SessionSends', WHERE WHAT IT READS IS OF BULK AT MOST 1048576: true; the input reads as it did. -/
def sessionSendsUptoRow : OpenClaim := { program := "ytdehiohjlbmmdaa", sum := "6ec4f8adc71094610dda9db2c45916aaf40f78af3d391d65e4bdd1deecc3edd0", func := "symbolon/symbolonlaw20.SessionSends", spec := "sessionSends", unfollowed := true, recurses := true, apart := false, narrowed := true }
def SessionSendsUptoSaid : Prop := sessionSendsUptoRow.holds Try.pinned (OpenSpec.upto sessionSendsSpec)

end Rows
end Go.Proofs.Ytdehiohjlbmmdaa
