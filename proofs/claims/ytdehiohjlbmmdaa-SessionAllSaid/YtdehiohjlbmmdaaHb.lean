/- Sessions: what the laws' walks use. -/
import Derived.Test.YtdehiohjlbmmdaaG7
import Derived.Test.YtdehiohjlbmmdaaG8
import Derived.Test.YtdehiohjlbmmdaaGb
import Derived.Test.YtdehiohjlbmmdaaHa
import Derived.Test.YtdehiohjlbmmdaaRw
set_option linter.unusedSimpArgs false
set_option linter.unusedVariables false
namespace Go.Proofs.Ytdehiohjlbmmdaa
open Go.RowKit Go.Sy
theorem LkOk.right {l : Lk} (h : LkR l) : LkOk l := by
  have h1 := h.out
  have h2 := h.base
  have h3 := h.inn
  exact ⟨by omega, fun b hb => by have := h.small b hb; omega, by omega, by omega⟩
theorem lkGreat_false {l : Lk} {b : List UInt8} (h : lkGreat l b = false) : l.out.length ≤ 1100 ∧ b.length ≤ 900 := by
  simp only [lkGreat, Bool.or_eq_false_iff, decide_eq_false_iff_not] at h
  omega
theorem lkSame_refl (l : Lk) : lkSame l l = true := by simp [lkSame]
theorem kRight {l : Lk} (h : LkR l) : Fn1 Try.prog 26 [lkV l] (.b true) := by
  have := fnRRight l (by have := h.out; omega)
  rwa [lkRight_iff.2 h] at this
theorem kGuard (l : Lk) (b : List UInt8) (h : lkGreat l b = false) : Fn1 Try.prog 26 [lkV l] (.b (lkRight l)) := fnRRight l (by have := lkGreat_false h; omega)
theorem kSame {l : Lk} (h : LkR l) : Fn1 Try.prog 31 [lkV l, lkV l] (.b true) := by
  have := fnRSame l l (by have := h.out; omega)
  rwa [lkSame_refl] at this
theorem kRows (a : List (List UInt8)) (h : a.length ≤ 100000) : Fn1 Try.prog 32 [V.list encB a, V.list encB a] (.b true) := by
  have := fnSameRows a a h
  rwa [beq_self_eq_true] at this
theorem kTake {l : Lk} (h : LkR l) (b : List UInt8) (hb : b.length ≤ 100000000) : Fn1 Try.prog 29 [lkV l, .bytes b] (.tup [lkV (lkTake l b), V.list encB (outTake l b), .bytes (bodyTake l b), .b (anewTake l b)]) := fnTake l (LkOk.right h) b hb
theorem outTake_len (l : Lk) (b : List UInt8) : (outTake l b).length ≤ 1 := by
  unfold outTake outDone
  repeat (first | (split) | simp)
theorem lkTick_len (l : Lk) : (lkTick l).length ≤ 1 + l.out.length := by
  unfold lkTick
  rw [List.length_append, datas_len]
  split <;> simp
end Go.Proofs.Ytdehiohjlbmmdaa
