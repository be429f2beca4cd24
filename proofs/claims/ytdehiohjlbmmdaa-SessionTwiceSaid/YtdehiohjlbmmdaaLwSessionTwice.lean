/- The law SessionTwice, walked: for every link and all bytes it returns true. -/
import Derived.Test.YtdehiohjlbmmdaaHb
set_option linter.unusedSimpArgs false
set_option linter.unusedVariables false
namespace Go.Proofs.Ytdehiohjlbmmdaa
open Go.RowKit Go.Sy
set_option maxHeartbeats 4000000 in
theorem SessionTwice_fn (l : Lk) (b : List UInt8) : Fn1 Try.prog 14 [lkV l, .bytes b] (.b true) := by
  refine Fn1.of (rs := [.b true]) (res := [.tmp 4]) Try.call14 Try.func14 rfl Try.ntmps14 rfl (by simp) fun c hc => ?_
  have k1 := fnHead20; have k2 := fnGreat l b; have g1 := kGuard l b; refine z_go ?_
  apply Sym.cond
  · rfl
  · intro h
    refine z_go ?_
    with_reducible first | apply Fin.rt | apply Fin.nx
    exact .cons (.tmp rfl (.of (.of rfl))) .nil
  · intro h
    simp only [Bool.or_eq_false_iff, Bool.not_eq_false'] at h
    obtain ⟨hG, hR⟩ := h
    have hG := lkGreat_false hG
    have hL := lkRight_iff.1 hR
    have hX := hL.take b
    obtain ⟨t1, t2, t3, t4⟩ := take_twice l b
    have e5 := kTake hX b (by omega)
    rw [t1, t2, t3, t4] at e5
    have k1 := kTake hL b (by omega); have k2 := e5; have k3 := kSame hX; have k4 := kRows (outTake l b) (by have := outTake_len l b; omega); refine z_go ?_
    with_reducible first | apply Fin.rt | apply Fin.nx
    refine .cons (.tmp rfl (.of (.of ?_))) .nil
    simp [D.toV]
theorem SessionTwice_walk {w : World} {va vb : Value} {l : Lk} {b : List UInt8} (ha : (lkV l).Rep Any w va) (_ : lkWf l) (hb : Kd.byte.L Any w vb b) (_ : b.length ≤ maxLen) :
    Calls Try.prog 14 #[va, vb] w fun e w' => e = .returned (.bool true) ∧ Below w.heap.size w w' :=
  ((SessionTwice_fn l b).calls Any w [va, vb] (fun _ _ => trivial) ⟨_, _, rfl, ha, _, _, rfl, V.Rep.bytes.2 hb, rfl⟩).mono fun e w' ⟨u, h1, h2, h3⟩ => ⟨by rw [h1, show u = _ from h3], h2⟩
end Go.Proofs.Ytdehiohjlbmmdaa
