/- Sessions: came and ack. -/
import Derived.Test.YtdehiohjlbmmdaaG1
set_option linter.unusedSimpArgs false
set_option linter.unusedVariables false
namespace Go.Proofs.Ytdehiohjlbmmdaa
open Go.RowKit Go.Sy
abbrev cameIs (l : Lk) (f : Fr) : Bool := f.num == l.inn && decide (l.inn < 1073741824)
def lkCame (l : Lk) (f : Fr) : Lk := if cameIs l f then { l with inn := l.inn + 1 } else l
def bodyCame (l : Lk) (f : Fr) : V := if cameIs l f then .bytes f.body else nilV
abbrev ackIs (l : Lk) (f : Fr) : Bool := decide (0 < f.num - l.base) && decide (f.num - l.base ≤ l.out.length)
def lkAck (l : Lk) (f : Fr) : Lk := if ackIs l f then { l with out := l.out.drop (f.num - l.base).toNat, base := f.num } else l
set_option maxHeartbeats 1000000 in
theorem fnCame (l : Lk) (f : Fr) (hi : 0 ≤ l.inn ∧ l.inn ≤ 1073741824) : FnB Try.prog 48 [.ptr 0 0, .p (frV f)] [some (eBox l nilV nilV)] (.tup []) [some (eBox (lkCame l f) (V.list encB [ackOf (lkCame l f)]) (bodyCame l f))] := by
  refine FnB.of (rs := []) (res := []) Try.call48 Try.func48 rfl Try.ntmps48 rfl (by simp) rfl rfl fun c hro hc hdead => ?_
  refine z_go ?_
  apply Sym.cond
  · rfl
  · intro h
    rw [show lkCame l f = { l with inn := l.inn + 1 } from if_pos h, show bodyCame l f = .bytes f.body from if_pos h]
    refine z_go ?_
    ((with_reducible apply SymL.callB [0] (fnHello { l with inn := l.inn + 1 } (.bytes f.body) f)); exact z_ren; exact z_evf; exact z_given; decide; exact rfl; exact z_wrB; exact z_ren; exact z_ren)
    refine z_go ?_
    exact FinB.nxW [] z_wkt .nil
  · intro h
    rw [show lkCame l f = l from if_neg (by rw [cameIs, h]; simp), show bodyCame l f = nilV from if_neg (by rw [cameIs, h]; simp)]
    refine z_go ?_
    ((with_reducible apply SymL.callB [0] (fnHello l nilV f)); exact z_ren; exact z_evf; exact z_given; decide; exact rfl; exact z_wrB; exact z_ren; exact z_ren)
    refine z_go ?_
    exact FinB.nxW [] z_wkt .nil
set_option maxHeartbeats 1000000 in
theorem fnAck (l : Lk) (a b : V) (f : Fr) (hb : 0 ≤ l.base ∧ l.base ≤ 1073741824) (hf : 0 ≤ f.num ∧ f.num ≤ 1073741824) : FnB Try.prog 49 [.ptr 0 0, .p (frV f)] [some (eBox l a b)] (.tup []) [some (eBox (lkAck l f) a b)] := by
  refine FnB.of (rs := []) (res := []) Try.call49 Try.func49 rfl Try.ntmps49 rfl (by simp) rfl rfl fun c hro hc hdead => ?_
  refine z_go ?_
  apply Sym.cond
  · rfl
  · intro h
    rw [show lkAck l f = { l with out := l.out.drop (f.num - l.base).toNat, base := f.num } from if_pos h]
    simp only [Bool.and_eq_true, decide_eq_true_eq] at h
    refine z_go ?_
    (apply Sym.drawXL [14, 18] (by kernel_rfl) (by kernel_rfl) (by kernel_rfl))
    refine z_xgo ?_
    refine z_go ?_
    apply FinB.nxW []
    · exact z_wkt
    · exact .nil
  · intro h
    rw [show lkAck l f = l from if_neg (by rw [ackIs, h]; simp)]
    refine z_go ?_
    exact FinB.nxW [] z_wkt .nil
end Go.Proofs.Ytdehiohjlbmmdaa
