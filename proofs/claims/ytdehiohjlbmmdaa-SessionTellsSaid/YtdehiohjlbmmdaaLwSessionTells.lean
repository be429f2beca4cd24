/- The law SessionTells, walked. -/
import Derived.Test.YtdehiohjlbmmdaaG7
import Derived.Test.YtdehiohjlbmmdaaG8
import Derived.Test.YtdehiohjlbmmdaaG9
import Derived.Test.YtdehiohjlbmmdaaGb
import Derived.Test.YtdehiohjlbmmdaaRw
set_option linter.unusedSimpArgs false
set_option linter.unusedVariables false
namespace Go.Proofs.Ytdehiohjlbmmdaa
open Go.RowKit Go.Sy
theorem LkOk.right {l : Lk} (h : lkRight l = true) : LkOk l := by
  simp only [lkRight, Bool.and_eq_true, Bool.not_eq_true', rightA, Bool.or_eq_false_iff, decide_eq_false_iff_not, List.all_eq_true] at h
  obtain ⟨⟨hA, hall⟩, _⟩ := h
  refine ⟨by omega, fun b hb => ?_, by omega, by omega⟩
  have := hall b hb
  simp only [bodyBad, Bool.or_eq_false_iff, decide_eq_false_iff_not] at this
  omega
theorem lkGreat_false {l : Lk} {b : List UInt8} (h : lkGreat l b = false) : l.out.length ≤ 1100 ∧ b.length ≤ 900 := by
  simp only [lkGreat, Bool.or_eq_false_iff, decide_eq_false_iff_not] at h
  omega
theorem lkSame_refl (l : Lk) : lkSame l l = true := by simp [lkSame]
theorem lkSend_len (l : Lk) (body : List UInt8) : (lkSend l body).out.length ≤ l.out.length + 1 := by unfold lkSend; split <;> simp
theorem lkCame_out (l : Lk) (f : Fr) : (lkCame l f).out = l.out := by unfold lkCame; split <;> rfl
theorem lkAck_len (l : Lk) (f : Fr) : (lkAck l f).out.length ≤ l.out.length := by unfold lkAck; split <;> simp
theorem lkBase_len (l : Lk) (f : Fr) : (lkBase l f).out.length ≤ l.out.length := by unfold lkBase; split <;> simp
theorem lkDone_len (l : Lk) (f : Fr) : (lkDone l f).out.length ≤ l.out.length := by
  unfold lkDone
  split
  · exact Nat.le_refl _
  · split
    · rw [lkCame_out]; exact Nat.le_refl _
    · exact lkAck_len l f
theorem lkTake_len (l : Lk) (b : List UInt8) : (lkTake l b).out.length ≤ l.out.length := by
  unfold lkTake
  split
  · exact Nat.le_refl _
  · split
    · exact Nat.le_trans (lkDone_len _ _) (lkBase_len l _)
    · exact lkBase_len l _
theorem outTake_len (l : Lk) (b : List UInt8) : (outTake l b).length ≤ 1 := by
  unfold outTake outDone
  repeat (first | (split) | simp)
theorem lkTick_len (l : Lk) : (lkTick l).length ≤ 1 + l.out.length := by
  unfold lkTick
  rw [List.length_append, datas_len]
  split <;> simp
set_option maxRecDepth 100000 in
set_option maxHeartbeats 4000000 in
theorem SessionTells_fn (l : Lk) (body b : List UInt8) (mine : Int) : Fn1 Try.prog 9 [lkV l, .bytes body, .bytes b, .i mine] (.b true) := by
  refine Fn1.of (rs := [.b true]) (res := [.tmp 8]) Try.call9 Try.func9 rfl Try.ntmps9 rfl (by simp) fun c hc => ?_
  have k1 := fnHead20; have k2 := fnGreat l b; have g1 := fun (h : lkGreat l b = false) => fnRRight l (by have := lkGreat_false h; omega); refine z_go ?_
  apply Sym.cond
  · rfl
  · intro h
    refine z_go ?_
    with_reducible first | apply Fin.rt | apply Fin.nx
    exact .cons (.tmp rfl (.of (.of rfl))) .nil
  · intro h
    simp only [Bool.or_eq_false_iff, decide_eq_false_iff_not, Bool.not_eq_false'] at h
    obtain ⟨⟨⟨⟨hG, hb⟩, hR⟩, hm⟩, hm'⟩ := h
    have hG := lkGreat_false hG
    have ok := LkOk.right hR
    have hbl : body.length ≤ 1000000 := by omega
    have hb2 : b.length ≤ 100000000 := by omega
    have k1 := fnSend l ok body hbl
    have k2 := fnRSend l ok body hbl
    have k3 := fnTake l ok b hb2
    have k4 := fnRTake l ok b hb2
    refine Sym.weak (s' := ⟨[(9, true, .p (.b true)), (4, true, .ptr 0 0), (1, true, .p (.bytes body)), (2, true, .p (.bytes b)), (3, true, .p (.i mine))], [some (lkBox l)]⟩) z_wkt ?_
    have k1 := k1; have k2 := k2; have k3 := k3; have k4 := k4; refine z_go ?_
    have ho := ok.out
    have k5 := fnRSame (lkSend l body) (lkSend l body) (by have := lkSend_len l body; omega)
    have k6 := fnRSame (lkTake l b) (lkTake l b) (by have := lkTake_len l b; omega)
    have k7 := fnSameRows (outTake l b) (outTake l b) (by have := outTake_len l b; omega)
    have k8 := fnTick l ok
    have k9 := fnRTick l ok
    have k10 := fnSameRows (lkTick l) (lkTick l) (by have := lkTick_len l; omega)
    have k11 := fnNew mine
    have k12 := fnRNew mine
    have k13 := fnRSame (lkNew mine) (lkNew mine) (by simp [lkNew])
    rw [lkSame_refl] at k5 k6 k13
    rw [beq_self_eq_true] at k7 k10
    have k1 := k5; have k2 := k6; have k3 := k7; have k4 := k8; have k5 := k9; have k6 := k10; have k7 := k11; have k8 := k12; have k9 := k13; refine z_go ?_
    with_reducible first | apply Fin.rt | apply Fin.nx
    refine .cons (.tmp rfl (.of (.of ?_))) .nil
    simp [D.toV]
theorem SessionTells_walk {w : World} {va vb vc : Value} {l : Lk} {body b : List UInt8} {mine : Int} (ha : (lkV l).Rep Any w va) (_ : lkWf l) (hb : Kd.byte.L Any w vb body) (_ : body.length ≤ maxLen) (hc : Kd.byte.L Any w vc b) (_ : b.length ≤ maxLen) (_ : (Lit.int .i64 mine).wf = true) :
    Calls Try.prog 9 #[va, vb, vc, .int .i64 mine] w fun e w' => e = .returned (.bool true) ∧ Below w.heap.size w w' :=
  ((SessionTells_fn l body b mine).calls Any w [va, vb, vc, .int .i64 mine] (fun _ _ => trivial) ⟨_, _, rfl, ha, _, _, rfl, V.Rep.bytes.2 hb, _, _, rfl, V.Rep.bytes.2 hc, _, _, rfl, rfl, rfl⟩).mono fun e w' ⟨u, h1, h2, h3⟩ => ⟨by rw [h1, show u = _ from h3], h2⟩
end Go.Proofs.Ytdehiohjlbmmdaa
