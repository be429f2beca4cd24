/- The arguments of this seat's laws, opened. -/
import Derived.Test.YtdehiohjlbmmdaaRd
import Derived.Test.YtdehiohjlbmmdaaFa
namespace Go.Proofs.Ytdehiohjlbmmdaa
open Go.ChangeShapes Go.WideShapes Go.ChangeAt Go.RowKit Go.Sy
theorem RdByte : Rd Try.prog 5 Kd.byte (fun _ => True) := Rd.byte Try.underlying5
theorem RdBytes : Rd Try.prog 22 Kd.byte.list (fun l => l.length ≤ maxLen) := (Rd.list Try.underlying22 (by kernel_rfl) rfl RdByte).imp fun _ h => h.1
theorem RdI64 : Rd Try.prog 2 (Kd.int .i64) (fun n => (Lit.int .i64 n).wf = true) := Rd.int Try.underlying2
theorem RdInt : Rd Try.prog 3 (Kd.int .i64) (fun n => (Lit.int .i64 n).wf = true) := Rd.int Try.underlying3
/-- a slice of bytes came in -/
theorem opBytes {H : Type} {enc : TypeId × Value → H} {W : World} {base : Nat} {v : Value} {d : DataW H} {p : List MemPlace} (hv : Value.okWide Try.prog W .any base 22 v)
    (h : DataW.Trod enc Try.prog W 0 (fun _ => true) true 22 v d p) : ∃ l, Kd.byte.L Any W v l ∧ l.length ≤ maxLen := by
  obtain ⟨a, n, c, rfl⟩ := okWide_slice Try.underlying22 hv
  obtain ⟨fuel, hf⟩ := h
  obtain ⟨l, ⟨v', e, hL⟩, hl⟩ := RdBytes.get _ _ _ _ _ _ hf
  have e' : Value.slice a n c = v' := by simpa [Value.cells] using e
  subst e'
  exact ⟨l, hL, hl⟩
abbrev FrT : Type := Int × (Int × (Int × (Int × List UInt8)))
abbrev Kd.fr : Kd FrT := (Kd.int .i64).pair ((Kd.int .i64).pair ((Kd.int .i64).pair ((Kd.int .i64).pair Kd.byte.list)))
def frWf (f : Fr) : Prop := (Lit.int .i64 f.kind).wf = true ∧ (Lit.int .i64 f.frm).wf = true ∧ (Lit.int .i64 f.too).wf = true ∧ (Lit.int .i64 f.num).wf = true ∧ f.body.length ≤ maxLen
theorem RdFr : Rd Try.prog 24 Kd.fr (fun x => (Lit.int .i64 x.1).wf = true ∧ (Lit.int .i64 x.2.1).wf = true ∧ (Lit.int .i64 x.2.2.1).wf = true ∧ (Lit.int .i64 x.2.2.2.1).wf = true ∧ x.2.2.2.2.length ≤ maxLen) :=
  by
  have key : ∀ R, RdF _ _ 5 0 Kd.fr R → Rd Try.prog 24 Kd.fr R := fun R hh => Rd.struct Try.underlying24 (by kernel_rfl) hh
  have h := key _ (RdF.cons (o := 0) 0 _ rfl rfl 1 (by kernel_rfl) RdInt (RdF.cons (o := 1) 1 _ rfl rfl 1 (by kernel_rfl) RdI64 (RdF.cons (o := 2) 2 _ rfl rfl 1 (by kernel_rfl) RdI64 (RdF.cons (o := 3) 3 _ rfl rfl 1 (by kernel_rfl) RdInt (RdF.last (o := 4) 4 _ rfl rfl (by kernel_rfl) RdBytes)))))
  exact h.imp fun x hx => hx
theorem opFr {H : Type} {enc : TypeId × Value → H} {W : World} {base : Nat} {v : Value} {d : DataW H} {p : List MemPlace} (hv : Value.okWide Try.prog W .any base 24 v)
    (h : DataW.Trod enc Try.prog W 0 (fun _ => true) true 24 v d p) : ∃ f, FrV Any W v f ∧ frWf f := by
  obtain ⟨cs, rfl, hsz⟩ := okWide_struct Try.underlying24 hv
  obtain ⟨fuel, hf⟩ := h
  obtain ⟨⟨x0, x1, x2, x3, x4⟩, ⟨_, _, rfl, ⟨_, _, rfl, ⟨_, _, rfl, ⟨_, _, rfl, ⟨s, rfl, hL⟩, rfl⟩, rfl⟩, rfl⟩, e⟩, hw⟩ := RdFr.get _ _ _ _ _ _ hf
  have e' : cs = #[.int .i64 x0, .int .i64 x1, .int .i64 x2, .int .i64 x3, s] := by
    have : cs.toList = [.int .i64 x0, .int .i64 x1, .int .i64 x2, .int .i64 x3, s] := by simpa [Value.cells] using e
    rw [← Array.toArray_toList (xs := cs), this]
  subst e'
  exact ⟨⟨x0, x1, x2, x3, x4⟩, ⟨s, rfl, hL⟩, hw⟩
end Go.Proofs.Ytdehiohjlbmmdaa
