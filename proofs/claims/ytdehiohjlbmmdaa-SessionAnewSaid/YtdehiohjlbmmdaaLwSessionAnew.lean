/- The law SessionAnew, walked: for every link and all bytes it returns true. -/
import Derived.Test.YtdehiohjlbmmdaaHb
set_option linter.unusedSimpArgs false
set_option linter.unusedVariables false
namespace Go.Proofs.Ytdehiohjlbmmdaa
open Go.RowKit Go.Sy
theorem take_no {l : Lk} {b : List UInt8} (h : takeNo l b = true) : lkTake l b = l ∧ outTake l b = [] ∧ bodyTake l b = [] ∧ anewTake l b = false := by
  unfold lkTake outTake bodyTake anewTake
  simp [h]
theorem lkDone_empty {y : Lk} {f : Fr} (ho : y.out = []) (hb : y.base = 0) : (lkDone y f).out = [] ∧ (lkDone y f).base = 0 := by
  unfold lkDone
  split
  · exact ⟨ho, hb⟩
  · split
    · unfold lkCame
      split <;> exact ⟨ho, hb⟩
    · unfold lkAck
      split
      · rename_i h
        simp only [ackIs, ho, Bool.and_eq_true, decide_eq_true_eq, List.length_nil] at h
        omega
      · exact ⟨ho, hb⟩
theorem anew_facts {l : Lk} {b : List UInt8} (h : takeNo l b = false) : anewTake l b = decide ((frGet b).1.frm > l.peer) ∧ (lkTake l b).peer = (frGet b).1.frm ∧ ((frGet b).1.frm > l.peer → (lkTake l b).out = [] ∧ (lkTake l b).base = 0) := by
  refine ⟨by unfold anewTake; simp [h], lkTake_peer h, fun hp => ?_⟩
  have e : lkBase l (frGet b).1 = ⟨l.mine, (frGet b).1.frm, false, [], 0, 0⟩ := if_pos hp
  unfold lkTake
  simp only [h, Bool.false_eq_true, if_false, e]
  split
  · exact lkDone_empty rfl rfl
  · exact ⟨rfl, rfl⟩
theorem other_facts {l : Lk} {b : List UInt8} (h : takeNo l b = false) (ht : (frGet b).1.too ≠ l.mine) : bodyTake l b = [] ∧ (decide ((outTake l b).length > 0) = ((frGet b).1.kind == 1)) ∧ (anewTake l b = true ∨ lkTake l b = l) := by
  refine ⟨by unfold bodyTake; simp [h, ht], ?_, ?_⟩
  · unfold outTake
    simp only [h, Bool.false_eq_true, if_false, ht]
    by_cases hk : (frGet b).1.kind = 1 <;> simp [hk]
  · unfold anewTake lkTake
    simp only [h, Bool.false_eq_true, if_false, ht]
    by_cases hp : (frGet b).1.frm > l.peer
    · exact .inl (by simpa using hp)
    · exact .inr (if_neg hp)
theorem mine_facts {l : Lk} {b : List UInt8} (h : takeNo l b = false) (ht : (frGet b).1.too = l.mine) : (lkTake l b).sure = true ∧ ((frGet b).1.kind != 3) = decide ((outTake l b).length = 1) := by
  have hr := (take_known h).2.1
  unfold lkTake outTake
  simp only [h, Bool.false_eq_true, if_false, ht, if_true]
  refine ⟨(lkDone_peer _ _).2.2, ?_⟩
  simp only [frRight, decide_eq_true_eq] at hr
  unfold outDone
  obtain hk | hk | hk : (frGet b).1.kind = 1 ∨ (frGet b).1.kind = 2 ∨ (frGet b).1.kind = 3 := by omega
  · simp [hk]
  · simp [hk]
  · simp [hk]
set_option maxHeartbeats 4000000 in
theorem SessionAnew_fn (l : Lk) (b : List UInt8) : Fn1 Try.prog 13 [lkV l, .bytes b] (.b true) := by
  refine Fn1.of (rs := [.b true]) (res := [.tmp 4]) Try.call13 Try.func13 rfl Try.ntmps13 rfl (by simp) fun c hc => ?_
  have k1 := fnHead20; have k2 := fnGreat l b; have g1 := kGuard l b; refine z_go ?_
  apply Sym.cond
  · rfl
  · intro h
    refine z_go ?_
    with_reducible first | apply Fin.rt | apply Fin.nx
    exact .cons (.tmp rfl (.of (.of rfl))) .nil
  · intro h
    simp only [Bool.or_eq_false_iff, Bool.not_eq_false'] at h
    obtain ⟨hG, hR⟩ := h
    have hG := lkGreat_false hG
    have hL := lkRight_iff.1 hR
    have hX := hL.take b
    have e5 := fnRefGet b (by omega)
    rw [← frGet_eq] at e5
    have k1 := kTake hL b (by omega); have k2 := e5; refine z_go ?_
    apply Sym.cond
    · rfl
    · intro hno
      have hno : takeNo l b = true := hno
      obtain ⟨t1, t2, t3, t4⟩ := take_no hno
      rw [t1, t2, t3, t4]
      have k1 := kSame hL; refine z_go ?_
      with_reducible first | apply Fin.rt | apply Fin.nx
      refine .cons (.tmp rfl (.of (.of ?_))) .nil
      simp [D.toV]
    · intro hno
      have hno : takeNo l b = false := hno
      obtain ⟨t1, t2, t3⟩ := anew_facts hno
      refine z_go ?_
      apply Sym.cond
      · rfl
      · intro hbad
        exfalso
        rw [t1, t2] at hbad
        by_cases hp : (frGet b).1.frm > l.peer
        · obtain ⟨t4, t5⟩ := t3 hp
          simp [t4, t5] at hbad
        · simp [hp] at hbad
      · intro _
        refine z_go ?_
        apply Sym.cond
        · rfl
        · intro ht
          have ht : (frGet b).1.too ≠ l.mine := by simpa using ht
          obtain ⟨t4, t5, t6⟩ := other_facts hno ht
          have ks := fnRSame (lkTake l b) l (by have := hX.out; omega)
          have k1 := ks; refine z_go ?_
          with_reducible first | apply Fin.rt | apply Fin.nx
          refine .cons (.tmp rfl (.of (.of ?_))) .nil
          simp only [D.toV, Option.some.injEq, V.x.injEq, Value.bool.injEq]
          rcases t6 with t6 | t6
          · simp [t4, t5, t6] <;> omega
          · simp [t4, t5, t6, lkSame_refl] <;> omega
        · intro ht
          have ht : (frGet b).1.too = l.mine := by simpa using ht
          obtain ⟨t4, t5⟩ := mine_facts hno ht
          have t6 := outTake_len l b
          refine z_go ?_
          with_reducible first | apply Fin.rt | apply Fin.nx
          refine .cons (.tmp rfl (.of (.of ?_))) .nil
          simp only [D.toV, Option.some.injEq, V.x.injEq, Value.bool.injEq]
          rw [t4, t5]
          obtain e | e : (outTake l b).length = 0 ∨ (outTake l b).length = 1 := by omega
          · simp [e]
          · simp [e]
theorem SessionAnew_walk {w : World} {va vb : Value} {l : Lk} {b : List UInt8} (ha : (lkV l).Rep Any w va) (_ : lkWf l) (hb : Kd.byte.L Any w vb b) (_ : b.length ≤ maxLen) :
    Calls Try.prog 13 #[va, vb] w fun e w' => e = .returned (.bool true) ∧ Below w.heap.size w w' :=
  ((SessionAnew_fn l b).calls Any w [va, vb] (fun _ _ => trivial) ⟨_, _, rfl, ha, _, _, rfl, V.Rep.bytes.2 hb, rfl⟩).mono fun e w' ⟨u, h1, h2, h3⟩ => ⟨by rw [h1, show u = _ from h3], h2⟩
end Go.Proofs.Ytdehiohjlbmmdaa
