/- The argument of the laws on scripts, opened. -/
import Derived.Test.YtdehiohjlbmmdaaRw
import Derived.Test.YtdehiohjlbmmdaaHc
namespace Go.Proofs.Ytdehiohjlbmmdaa
open Go.ChangeShapes Go.WideShapes Go.ChangeAt Go.RowKit Go.Sy
abbrev encOp (o : OpR) : List V := [.i o.what, .b o.at_, .x (.int .u16 (o.i : Int)), .bytes o.b]
abbrev OpT : Type := Int × (Bool × (Int × List UInt8))
abbrev Kd.op : Kd OpT := (Kd.int .i64).pair (Kd.bool.pair ((Kd.int .u16).pair Kd.byte.list))
theorem RdU16 : Rd Try.prog 53 (Kd.int .u16) (fun n => (Lit.int .u16 n).wf = true) := Rd.int Try.underlying53
def opWf (x : OpT) : Prop := (Lit.int .i64 x.1).wf = true ∧ (Lit.int .u16 x.2.2.1).wf = true ∧ x.2.2.2.length ≤ maxLen
theorem RdOp : Rd Try.prog 55 Kd.op opWf := by
  have key : ∀ R, RdF _ _ 4 0 Kd.op R → Rd Try.prog 55 Kd.op R := fun R hh => Rd.struct Try.underlying55 (by kernel_rfl) hh
  have h := key _ (RdF.cons (o := 0) 0 _ rfl rfl 1 (by kernel_rfl) RdInt (RdF.cons (o := 1) 1 _ rfl rfl 1 (by kernel_rfl) RdBool (RdF.cons (o := 2) 2 _ rfl rfl 1 (by kernel_rfl) RdU16 (RdF.last (o := 3) 3 _ rfl rfl (by kernel_rfl) RdBytes))))
  exact h.imp fun x hx => ⟨hx.1, hx.2.2.1, hx.2.2.2⟩
theorem RdOps : Rd Try.prog 50 Kd.op.list (fun l => l.length ≤ maxLen ∧ ∀ x ∈ l, opWf x) := Rd.list Try.underlying50 (by kernel_rfl) rfl RdOp
def opOf (x : OpT) : OpR := ⟨x.1, x.2.1, x.2.2.1.toNat, x.2.2.2⟩
theorem ops_repL {S : Nat → Prop} {w : World} : ∀ {l : List OpT} {cs : List Value}, (∀ x ∈ l, opWf x) → Kd.op.many S w l cs → V.RepL S w ((l.map opOf).flatMap encOp) cs
  | [], cs, _, h => h
  | x :: l, cs, hw, ⟨c, cs', h1, h2, h3⟩ => by
    obtain ⟨x0, x1, x2, x3⟩ := x
    obtain ⟨_, _, rfl, ⟨_, _, rfl, ⟨_, _, rfl, ⟨s, rfl, hL⟩, rfl⟩, rfl⟩, rfl⟩ := h1
    subst h3
    have hx := (hw _ List.mem_cons_self).2.1
    have h0 : 0 ≤ x2 := by
      simp [Lit.wf] at hx
      have := hx
      simp [IntKind.min, IntKind.max, IntKind.bits, IntKind.signed] at this
      omega
    have e : ((opOf (x0, x1, x2, x3)).i : Int) = x2 := by show ((x2.toNat : Nat) : Int) = x2; omega
    refine ⟨_, _, rfl, rfl, _, _, rfl, rfl, _, _, rfl, ?_, _, _, rfl, V.Rep.bytes.2 hL, ops_repL (fun y hy => hw y (List.mem_cons_of_mem _ hy)) h2⟩
    show _ = Value.int .u16 ((opOf (x0, x1, x2, x3)).i : Int)
    rw [e]
theorem ops_i {x : OpT} (h : opWf x) : (opOf x).i ≤ 65535 := by
  have hx := h.2.1
  simp [Lit.wf] at hx
  simp [IntKind.min, IntKind.max, IntKind.bits, IntKind.signed] at hx
  show x.2.2.1.toNat ≤ _
  omega
theorem opOps {H : Type} {enc : TypeId × Value → H} {W : World} {base : Nat} {v : Value} {d : DataW H} {p : List MemPlace} (hv : Value.okWide Try.prog W .any base 50 v)
    (h : DataW.Trod enc Try.prog W 0 (fun _ => true) true 50 v d p) : ∃ l : List OpR, (V.list encOp l).Rep Any W v ∧ (∀ o ∈ l, o.i ≤ 65535) := by
  obtain ⟨a, n, c, rfl⟩ := okWide_slice Try.underlying50 hv
  obtain ⟨fuel, hf⟩ := h
  obtain ⟨l, ⟨v', e, us, h4, a', c', h1, h2, h3, h5⟩, hl⟩ := RdOps.get _ _ _ _ _ _ hf
  have e' : Value.slice a n c = v' := by simpa [Value.cells] using e
  subst e'
  refine ⟨l.map opOf, ⟨a', c', us, by rw [h1, List.length_map], by rw [List.length_map]; exact h2, h3, ops_repL hl.2 h4, h5⟩, ?_⟩
  intro o ho
  obtain ⟨x, hx, rfl⟩ := List.mem_map.1 ho
  exact ops_i (hl.2 x hx)
end Go.Proofs.Ytdehiohjlbmmdaa
