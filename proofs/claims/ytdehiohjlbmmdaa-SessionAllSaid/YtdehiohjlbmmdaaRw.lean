/- The arguments of layer 20's laws, opened. -/
import Derived.Test.YtdehiohjlbmmdaaRv
import Derived.Test.YtdehiohjlbmmdaaG3
namespace Go.Proofs.Ytdehiohjlbmmdaa
open Go.ChangeShapes Go.WideShapes Go.ChangeAt Go.RowKit Go.Sy
theorem RdBool : Rd Try.prog 4 Kd.bool (fun _ => True) := Rd.bool Try.underlying4
theorem RdRows : Rd Try.prog 35 Kd.byte.list.list (fun l => l.length ≤ maxLen ∧ ∀ b ∈ l, b.length ≤ maxLen) := Rd.list Try.underlying35 (by kernel_rfl) rfl RdBytes
theorem rows_repL {S : Nat → Prop} {w : World} : ∀ {l : List (List UInt8)} {cs : List Value}, Kd.byte.list.many S w l cs → V.RepL S w (l.flatMap encB) cs
  | [], cs, h => h
  | b :: l, cs, ⟨c, cs', ⟨v, e, hL⟩, h2, h3⟩ => by
    subst e
    subst h3
    exact ⟨v, cs', rfl, V.Rep.bytes.2 hL, rows_repL h2⟩
theorem rows_rep {S : Nat → Prop} {w : World} {l : List (List UInt8)} {u : Value} (h : Kd.byte.list.L S w u l) : (V.list encB l).Rep S w u := by
  obtain ⟨us, h4, a, c, h1, h2, h3, h5⟩ := h
  exact ⟨a, c, us, h1, h2, h3, rows_repL h4, h5⟩
theorem opRows {H : Type} {enc : TypeId × Value → H} {W : World} {base : Nat} {v : Value} {d : DataW H} {p : List MemPlace} (hv : Value.okWide Try.prog W .any base 35 v)
    (h : DataW.Trod enc Try.prog W 0 (fun _ => true) true 35 v d p) : ∃ l, (V.list encB l).Rep Any W v ∧ (l.length ≤ maxLen ∧ ∀ b ∈ l, b.length ≤ maxLen) := by
  obtain ⟨a, n, c, rfl⟩ := okWide_slice Try.underlying35 hv
  obtain ⟨fuel, hf⟩ := h
  obtain ⟨l, ⟨v', e, hL⟩, hl⟩ := RdRows.get _ _ _ _ _ _ hf
  have e' : Value.slice a n c = v' := by simpa [Value.cells] using e
  subst e'
  exact ⟨l, rows_rep hL, hl⟩
def lkWf (l : Lk) : Prop := (Lit.int .i64 l.mine).wf = true ∧ (Lit.int .i64 l.peer).wf = true ∧ (l.out.length ≤ maxLen ∧ ∀ b ∈ l.out, b.length ≤ maxLen) ∧ (Lit.int .i64 l.base).wf = true ∧ (Lit.int .i64 l.inn).wf = true
theorem opLk {H : Type} {enc : TypeId × Value → H} {W : World} {base : Nat} {v : Value} {d : DataW H} {p : List MemPlace} (hv : Value.okWide Try.prog W .any base 37 v)
    (h : DataW.Trod enc Try.prog W 0 (fun _ => true) true 37 v d p) : ∃ l, (lkV l).Rep Any W v ∧ lkWf l := by
  have key : ∀ R, RdF _ _ 6 0 ((Kd.int .i64).pair ((Kd.int .i64).pair (Kd.bool.pair (Kd.byte.list.list.pair ((Kd.int .i64).pair (Kd.int .i64)))))) R → Rd Try.prog 37 _ R := fun R hh => Rd.struct Try.underlying37 (by kernel_rfl) hh
  have hR := key _ (RdF.cons (o := 0) 0 _ rfl rfl 1 (by kernel_rfl) RdI64 (RdF.cons (o := 1) 1 _ rfl rfl 1 (by kernel_rfl) RdI64 (RdF.cons (o := 2) 2 _ rfl rfl 1 (by kernel_rfl) RdBool (RdF.cons (o := 3) 3 _ rfl rfl 1 (by kernel_rfl) RdRows (RdF.cons (o := 4) 4 _ rfl rfl 1 (by kernel_rfl) RdInt (RdF.last (o := 5) 5 _ rfl rfl (by kernel_rfl) RdInt))))))
  obtain ⟨cs, rfl, hsz⟩ := okWide_struct Try.underlying37 hv
  obtain ⟨fuel, hf⟩ := h
  obtain ⟨⟨x0, x1, x2, x3, x4, x5⟩, ⟨_, _, rfl, ⟨_, _, rfl, ⟨_, _, rfl, ⟨_, _, ⟨s, rfl, hL⟩, ⟨_, _, rfl, rfl, rfl⟩, rfl⟩, rfl⟩, rfl⟩, e⟩, hw⟩ := hR.get _ _ _ _ _ _ hf
  have e' : cs = #[.int .i64 x0, .int .i64 x1, .bool x2, s, .int .i64 x4, .int .i64 x5] := by
    have : cs.toList = [.int .i64 x0, .int .i64 x1, .bool x2, s, .int .i64 x4, .int .i64 x5] := by simpa [Value.cells] using e
    rw [← Array.toArray_toList (xs := cs), this]
  subst e'
  refine ⟨⟨x0, x1, x2, x3, x4, x5⟩, ⟨_, rfl, _, _, rfl, rfl, _, _, rfl, rfl, _, _, rfl, rfl, _, _, rfl, rows_rep hL, _, _, rfl, rfl, _, _, rfl, rfl, rfl⟩, ?_⟩
  exact ⟨hw.1, hw.2.1, hw.2.2.2.1, hw.2.2.2.2.1, hw.2.2.2.2.2⟩
end Go.Proofs.Ytdehiohjlbmmdaa
