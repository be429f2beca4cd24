/- The law SessionStays, walked: for every link and all bytes it returns true. -/
import Derived.Test.YtdehiohjlbmmdaaHb
set_option linter.unusedSimpArgs false
set_option linter.unusedVariables false
namespace Go.Proofs.Ytdehiohjlbmmdaa
open Go.RowKit Go.Sy
theorem OwnFr.len {m : Int} {g : List UInt8} (h : OwnFr m g) : g.length ≤ 100 := by
  have h1 := frPut_get g h.1
  have h2 := frPut_len h1.1
  rw [h1.2] at h2
  have h3 := h1.1
  simp only [frRight, decide_eq_true_eq] at h3
  omega
set_option maxHeartbeats 4000000 in
theorem SessionStays_fn (l : Lk) (body b : List UInt8) : Fn1 Try.prog 10 [lkV l, .bytes body, .bytes b] (.b true) := by
  refine Fn1.of (rs := [.b true]) (res := [.tmp 6]) Try.call10 Try.func10 rfl Try.ntmps10 rfl (by simp) fun c hc => ?_
  have k1 := fnHead20; have k2 := fnGreat l b; have g1 := kGuard l b; refine z_go ?_
  apply Sym.cond
  · rfl
  · intro h
    refine z_go ?_
    with_reducible first | apply Fin.rt | apply Fin.nx
    exact .cons (.tmp rfl (.of (.of rfl))) .nil
  · intro h
    simp only [Bool.or_eq_false_iff, decide_eq_false_iff_not, Bool.not_eq_false'] at h
    obtain ⟨⟨hG, hb⟩, hR⟩ := h
    have hG := lkGreat_false hG
    have hL := lkRight_iff.1 hR
    have hX := hL.take b
    have hS := hL.send body
    have k1 := fnSend' l (LkOk.right hL) body; have k2 := kTake hL b (by omega); have k3 := kRight hS; have k4 := kRight hX; refine z_go ?_
    apply Sym.cond
    · rfl
    · intro hbad
      exfalso
      have t1 := lkTake_mine l b
      have t2 := lkTake_peer_ge l b
      have t3 := bodyTake_small l b
      have t4 := (lkSend_same l body).1
      rw [t1, t4] at hbad
      simp at hbad
      omega
    · intro _
      refine z_go ?_
      ((apply Sym.drawXP [1, 3, 0, 2, 4, 5, 6] [2, 3, 5] (by kernel_rfl) (by kernel_rfl)); exact z_perm; kernel_rfl; kernel_rfl)
      have t1 := outTake_len l b
      have t2 := lkTick_len (lkTake l b)
      have t3 := hX.out
      have k1 := fnTick (lkTake l b) (LkOk.right hX); have a1 : AppH encB [] (outTake l b) := .mk; have a2 : AppH encB ([] ++ outTake l b) (lkTick (lkTake l b)) := .mk; refine z_xgo ?_
      refine z_go ?_
      refine Sym.cutT (fun all : List (List UInt8) => ⟨[(14, true, .row 3 all.length), (7, true, .p (.b true)), (3, true, .ptr 0 0)], [some (lkBox l), none, none, some (rowB all)]⟩) (fun all => all.length ≤ 2000 ∧ ∀ g ∈ all, OwnFr l.mine g) ?_ ?_
      · have good : ∀ g ∈ [] ++ outTake l b ++ lkTick (lkTake l b), OwnFr l.mine g := by
          intro g hg
          rcases List.mem_append.1 hg with hg | hg
          · exact outTake_own hL b g (by simpa using hg)
          · have := lkTick_own hX g hg
            rwa [lkTake_mine] at this
        apply Sym.cond
        · rfl
        · intro hf
          have hf : frSend l body ≠ [] := by
            intro e
            rw [e] at hf
            simp at hf
          have a1 : AppH encB ([] ++ outTake l b ++ lkTick (lkTake l b)) [frSend l body] := .mk; refine z_go ?_
          refine cutS.nx ([] ++ outTake l b ++ lkTick (lkTake l b) ++ [frSend l body]) ⟨by simp; omega, fun g hg => ?_⟩ z_wkt
          rcases List.mem_append.1 hg with hg | hg
          · exact good g hg
          · simp at hg
            subst hg
            exact frSend_own hL body hf
        · intro _
          refine z_go ?_
          exact cutS.nx ([] ++ outTake l b ++ lkTick (lkTake l b)) ⟨by simp; omega, good⟩ z_wkt
      · rintro all ⟨hlen, good⟩
        (refine Sym.freeze encB 14 all rfl rfl rfl (by assumption) z_cln z_cln ?_)
        refine z_go ?_
        refine Sym.loop (fun k s => ∃ i : Nat, i ≤ all.length ∧ k = all.length - i ∧ s = ⟨[(15, true, .p (.i i)), (14, true, .p (V.list encB all)), (7, true, .p (.b true)), (3, true, .ptr 0 0)], [some (lkBox l)]⟩) all.length ⟨_, ⟨0, Nat.zero_le _, by simp, rfl⟩, z_wkt⟩ ?_
        rintro k s ⟨i, hi, rfl, rfl⟩
        refine z_go ?_
        apply Sym.cond
        · rfl
        · intro hlt
          simp only [decide_eq_true_eq] at hlt
          have hi' : i < all.length := by omega
          obtain ⟨el, hel⟩ : ∃ el, all[i]? = some el := ⟨_, List.getElem?_eq_getElem hi'⟩
          have ho := good el (List.mem_of_getElem? hel)
          have ho' := ho
          have e5 := fnRefGet el (by have := ho.len; omega)
          rw [← frGet_eq, ho.1] at e5
          have ho := ho'.2
          have k1 := e5; refine z_go ?_
          apply Sym.condF
          · rw [ho]
            simp [TM.get]
          refine z_go ?_
          exact ⟨_, by omega, _, ⟨i + 1, by omega, rfl, rfl⟩, z_wkt⟩
        · intro _
          refine z_go ?_
          with_reducible first | apply Fin.rt | apply Fin.nx
          exact .cons (.tmp rfl (.of (.of rfl))) .nil
theorem SessionStays_walk {w : World} {va vb vc : Value} {l : Lk} {body b : List UInt8} (ha : (lkV l).Rep Any w va) (_ : lkWf l) (hb : Kd.byte.L Any w vb body) (_ : body.length ≤ maxLen) (hc : Kd.byte.L Any w vc b) (_ : b.length ≤ maxLen) :
    Calls Try.prog 10 #[va, vb, vc] w fun e w' => e = .returned (.bool true) ∧ Below w.heap.size w w' :=
  ((SessionStays_fn l body b).calls Any w [va, vb, vc] (fun _ _ => trivial) ⟨_, _, rfl, ha, _, _, rfl, V.Rep.bytes.2 hb, _, _, rfl, V.Rep.bytes.2 hc, rfl⟩).mono fun e w' ⟨u, h1, h2, h3⟩ => ⟨by rw [h1, show u = _ from h3], h2⟩
end Go.Proofs.Ytdehiohjlbmmdaa
