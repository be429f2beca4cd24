/- Sessions: what the walks over scripts use. -/
import Derived.Test.YtdehiohjlbmmdaaHb
import Derived.Test.YtdehiohjlbmmdaaRx
set_option linter.unusedSimpArgs false
set_option linter.unusedVariables false
namespace Go.Proofs.Ytdehiohjlbmmdaa
open Go.RowKit Go.Sy
abbrev lnks (a b : Lk) : Box := ⟨[.p (.i a.mine), .p (.i a.peer), .p (.b a.sure), .p (V.list encB a.out), .p (.i a.base), .p (.i a.inn), .p (.i b.mine), .p (.i b.peer), .p (.b b.sure), .p (V.list encB b.out), .p (.i b.base), .p (.i b.inn)], 37, 6⟩
abbrev twoR (i n j m : Nat) : Box := ⟨[.row i n, .row j m], 35, 1⟩
abbrev opBox (o : OpR) : Box := ⟨[.p (.i o.what), .p (.b o.at_), .p (.x (.int .u16 (o.i : Int))), .p (.bytes o.b)], 55, 0⟩
abbrev onceH (s : Side × Side) : List (Option Box) :=
  [some (lnks s.1.e s.2.e), some (twoR 4 s.1.out.length 5 s.2.out.length), some (twoR 6 s.1.given.length 7 s.2.given.length), some (twoR 8 s.1.came.length 9 s.2.came.length), some (rowB s.1.out), some (rowB s.2.out), some (rowB s.1.given), some (rowB s.2.given), some (rowB s.1.came), some (rowB s.2.came)]
abbrev onceTm (ops : List OpR) (idx : Nat) : List (Nat × Bool × D) :=
  [(12, true, .p (.i idx)), (11, true, .row 3 2), (10, true, .row 2 2), (9, true, .row 1 2), (8, true, .row 0 2), (7, true, .p (.b true)), (0, true, .p (V.list encOp ops))]
theorem rowEl (l : List (List UInt8)) (i : Int) {el : List UInt8} (h : l[i.toNat]? = some el) : (D.enc encB l)[i.toNat * 1]? = some (.p (V.bytes el)) := by
  have : ∀ l : List (List UInt8), D.enc encB l = l.map fun b => D.p (V.bytes b) := by
    intro l
    induction l with
    | nil => rfl
    | cons a l ih => rw [List.map_cons, ← ih]; rfl
  rw [this, List.getElem?_map, Nat.mul_one, h]
  rfl
theorem pickEl {l : List (List UInt8)} {i : Nat} (h : l.length ≠ 0) : ∃ el, l[i % l.length]? = some el ∧ (0 ≤ (i : Int) % (l.length : Int) ∧ (i : Int) % (l.length : Int) < l.length) ∧ (D.enc encB l)[((i : Int) % (l.length : Int)).toNat * 1]? = some (.p (V.bytes el)) := by
  have hlt : i % l.length < l.length := Nat.mod_lt _ (by omega)
  have e : (i : Int) % (l.length : Int) = ((i % l.length : Nat) : Int) := by simp
  refine ⟨l[i % l.length], List.getElem?_eq_getElem hlt, by rw [e]; omega, ?_⟩
  apply rowEl
  rw [show ((i : Int) % (l.length : Int)).toNat = i % l.length by rw [e]; rfl]
  exact List.getElem?_eq_getElem hlt
theorem FrOk.small {a : Side} {n : Int} {g : List UInt8} (h : FrOk a n g) : g.length ≤ 100 := by
  obtain ⟨f, h1, rfl, _⟩ := h
  have := frPut_len h1
  simp only [frRight, decide_eq_true_eq] at h1
  omega
end Go.Proofs.Ytdehiohjlbmmdaa
