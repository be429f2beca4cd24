/- Frames: the contracts of the functions, as calls that change nothing. -/
import Derived.Test.YtdehiohjlbmmdaaFe
import Derived.Test.YtdehiohjlbmmdaaFp
import Derived.Test.YtdehiohjlbmmdaaDt
set_option linter.unusedSimpArgs false
set_option linter.unusedVariables false
namespace Go.Proofs.Ytdehiohjlbmmdaa
open Go.RowKit Go.Sy
abbrev frV (f : Fr) : V := .agg [.i f.kind, .i f.frm, .i f.too, .i f.num, .bytes f.body]
section
variable {S : Nat → Prop} {w w' : World} {B : Nat}
theorem frV_rep {v : Value} {f : Fr} : (frV f).Rep S w v ↔ FrV S w v f := by
  constructor
  · rintro ⟨us, rfl, y0, _, rfl, h0, y1, _, rfl, h1, y2, _, rfl, h2, y3, _, rfl, h3, y4, _, rfl, h4, h5⟩
    subst h5
    rw [show y0 = _ from h0, show y1 = _ from h1, show y2 = _ from h2, show y3 = _ from h3]
    exact ⟨y4, rfl, V.Rep.bytes.1 h4⟩
  · rintro ⟨s, rfl, h⟩
    exact ⟨_, rfl, _, _, rfl, rfl, _, _, rfl, rfl, _, _, rfl, rfl, _, _, rfl, rfl, _, _, rfl, V.Rep.bytes.2 h, rfl⟩
theorem rep1 {v : V} {us : List Value} (h : V.RepL S w [v] us) : ∃ u, us = [u] ∧ v.Rep S w u := by
  obtain ⟨y, ys, rfl, h1, h2⟩ := h
  subst h2
  exact ⟨y, rfl, h1⟩
theorem rep2 {v v' : V} {us : List Value} (h : V.RepL S w [v, v'] us) : ∃ u u', us = [u, u'] ∧ v.Rep S w u ∧ v'.Rep S w u' := by
  obtain ⟨y, ys, rfl, h1, h2⟩ := h
  obtain ⟨u', rfl, h3⟩ := rep1 h2
  exact ⟨y, u', rfl, h1, h3⟩
theorem own_bytes {e : TypeId} {v : Value} {l : List UInt8} (h : Kd.byte.Own e w' B v l) (hS : ∀ b, B ≤ b → S b) : (V.bytes l).Rep S w' v := by
  obtain ⟨cs, h1, h2⟩ := h
  exact V.Rep.bytes.2 ⟨cs, Kd.many_byte.2 (Kd.many_byte.1 h1), Sl.own h2 fun k hk => hS k (h2.lt k hk).1⟩
end
theorem fnRight (f : Fr) (h : f.body.length ≤ 100000000) : Fn1 Try.prog 19 [frV f] (.b (frRight f)) := ⟨Try.call19, fun S w us hS hr => by
  obtain ⟨u, rfl, h1⟩ := rep1 hr
  refine (right_any (frV_rep.1 h1) h).mono ?_
  rintro e w' ⟨r, rfl, rfl, hx⟩
  exact ⟨_, rfl, hx, rfl⟩⟩
theorem fnRefRight (f : Fr) (h : f.body.length ≤ 100000000) : Fn1 Try.prog 20 [frV f] (.b (frRight f)) := ⟨Try.call20, fun S w us hS hr => by
  obtain ⟨u, rfl, h1⟩ := rep1 hr
  refine (refRight_any (frV_rep.1 h1) h).mono ?_
  rintro e w' ⟨r, rfl, rfl, hx⟩
  exact ⟨_, rfl, hx, rfl⟩⟩
theorem fnPut (f : Fr) (h : f.body.length ≤ 100000000) : Fn1 Try.prog 21 [frV f] (.bytes (frPut f)) := ⟨Try.call21, fun S w us hS hr => by
  obtain ⟨u, rfl, h1⟩ := rep1 hr
  refine (put_any (frV_rep.1 h1) h).mono ?_
  rintro e w' ⟨r, rfl, ho, hx⟩
  exact ⟨_, rfl, hx, own_bytes ho hS⟩⟩
theorem fnRefPut (f : Fr) (h : f.body.length ≤ 100000000) : Fn1 Try.prog 22 [frV f] (.bytes (frPut f)) := ⟨Try.call22, fun S w us hS hr => by
  obtain ⟨u, rfl, h1⟩ := rep1 hr
  refine (refPut_any (frV_rep.1 h1) h).mono ?_
  rintro e w' ⟨r, rfl, ho, hx⟩
  exact ⟨_, rfl, hx, own_bytes ho hS⟩⟩
theorem fnGet (l : List UInt8) (h : l.length ≤ 100000000) : Fn1 Try.prog 17 [.bytes l] (.tup [frV (frGet l).1, .b (frGet l).2]) := ⟨Try.call17, fun S w us hS hr => by
  obtain ⟨u, rfl, h1⟩ := rep1 hr
  refine (get_any (V.Rep.bytes.1 h1) h).mono ?_
  rintro e w' ⟨r, q, rfl, ⟨⟨s, rfl, ho⟩, rfl⟩, hx⟩
  refine ⟨_, rfl, hx, [_, _], rfl, _, _, rfl, ?_, _, _, rfl, rfl, rfl⟩
  exact ⟨_, rfl, _, _, rfl, rfl, _, _, rfl, rfl, _, _, rfl, rfl, _, _, rfl, rfl, _, _, rfl, own_bytes ho hS, rfl⟩⟩
theorem fnRefGet (l : List UInt8) (h : l.length ≤ 100000000) : Fn1 Try.prog 18 [.bytes l] (.tup [frV (refGet l).1, .b (refGet l).2]) := ⟨Try.call18, fun S w us hS hr => by
  obtain ⟨u, rfl, h1⟩ := rep1 hr
  refine (refGet_any (V.Rep.bytes.1 h1) h).mono ?_
  rintro e w' ⟨r, q, rfl, ⟨⟨s, rfl, ho⟩, rfl⟩, hx⟩
  refine ⟨_, rfl, hx, [_, _], rfl, _, _, rfl, ?_, _, _, rfl, rfl, rfl⟩
  exact ⟨_, rfl, _, _, rfl, rfl, _, _, rfl, rfl, _, _, rfl, rfl, _, _, rfl, rfl, _, _, rfl, own_bytes ho hS, rfl⟩⟩
theorem fnSame (f g : Fr) (h : f.body.length ≤ 100000000) (h' : g.body.length ≤ 100000000) : Fn1 Try.prog 23 [frV f, frV g] (.b (frSame f g)) := ⟨Try.call23, fun S w us hS hr => by
  obtain ⟨u, u', rfl, h1, h2⟩ := rep2 hr
  refine (same_any (frV_rep.1 h1) (frV_rep.1 h2) h h').mono ?_
  rintro e w' ⟨r, rfl, rfl, hx⟩
  exact ⟨_, rfl, hx, rfl⟩⟩
theorem fnHead19 : Fn1 Try.prog 16 [] (.b true) := ⟨Try.call16, fun S w us hS hr => by
  have : us = [] := hr
  subst this
  refine (head19 w).mono ?_
  rintro e w' ⟨r, rfl, rfl, hx⟩
  exact ⟨_, rfl, hx, rfl⟩⟩
end Go.Proofs.Ytdehiohjlbmmdaa
