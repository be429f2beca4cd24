/- Sessions: the contracts of package session's functions. -/
import Derived.Test.YtdehiohjlbmmdaaF1
import Derived.Test.YtdehiohjlbmmdaaDs
set_option linter.unusedSimpArgs false
set_option linter.unusedVariables false

namespace Go.Proofs.Ytdehiohjlbmmdaa
open Go.RowKit Go.Sy
abbrev encB (b : List UInt8) : List V := [V.bytes b]
/-- a link -/
structure Lk where
  mine : Int
  peer : Int
  sure : Bool
  out : List (List UInt8)
  base : Int
  inn : Int
abbrev lkV (l : Lk) : V := .agg [.i l.mine, .i l.peer, .b l.sure, V.list encB l.out, .i l.base, .i l.inn]
abbrev nilV : V := .x (.slice none 0 0)
abbrev eBox (l : Lk) (a b : V) : Box := ⟨[.p (.i l.mine), .p (.i l.peer), .p (.b l.sure), .p (V.list encB l.out), .p (.i l.base), .p (.i l.inn), .p a, .p b], 71, 0⟩
/-- with a row of its own -/
abbrev eBoxR (l : Lk) (k : Nat) (a b : V) : Box := ⟨[.p (.i l.mine), .p (.i l.peer), .p (.b l.sure), .row k l.out.length, .p (.i l.base), .p (.i l.inn), .p a, .p b], 71, 0⟩
abbrev rowB (l : List (List UInt8)) : Box := ⟨D.enc encB l, 22, 1⟩
theorem fnClone1 (l : List UInt8) (h : l.length ≤ 100000000) : Fn1 Try.prog 38 [.bytes l] (.bytes l) := ⟨Try.call38, fun S w us hS hr => by
  obtain ⟨u, rfl, h1⟩ := rep1 hr
  refine (cloneB (V.Rep.bytes.1 h1) h).mono ?_
  rintro e w' ⟨r, rfl, ho, hx⟩
  exact ⟨_, rfl, hx, own_bytes ho hS⟩⟩
theorem fnEPut (l : Lk) (a b : V) (kind seq : Int) (body : List UInt8) (h : body.length ≤ 100000000) : FnR Try.prog 50 [.ptr 0 0, .p (.i kind), .p (.i seq), .p (.bytes body)] [some (eBox l a b)] (.bytes (frPut ⟨kind, l.mine, l.peer, seq, body⟩)) := by
  refine FnR.of (rs := [.bytes (frPut ⟨kind, l.mine, l.peer, seq, body⟩)]) (res := [.tmp 8]) Try.call50 Try.func50 rfl Try.ntmps50 rfl (by simp) rfl rfl fun c hro hc hdead => ?_
  have k1 := fnPut ⟨kind, l.mine, l.peer, seq, body⟩ h; refine z_go ?_
  with_reducible first | apply Fin.rt | apply Fin.nx
  exact .cons (.tmp rfl (.of (.of rfl))) .nil
set_option maxHeartbeats 1000000 in
theorem fnClones (l : List (List UInt8)) (h : l.length ≤ 1000000) : FnB Try.prog 53 [.p (V.list encB l)] [] (.row 0 l.length) [some (rowB l)] := by
  refine FnB.of (rs := [.row 0 l.length]) (res := [.tmp 2]) Try.call53 Try.func53 rfl Try.ntmps53 rfl (by simp) rfl rfl fun c hro hc hdead => ?_
  refine z_go ?_
  apply SymL.eqNil
  · exact z_ev
  · rfl
  intro b hb
  refine z_go ?_
  apply Sym.cond
  · rfl
  · intro h1
    have hl : l = [] := by
      have := hb h1
      cases l with
      | nil => rfl
      | cons _ _ => simp at this
    subst hl
    refine z_go ?_
    exact FinB.rtW _ (Le.asRow 2 22 1 (d := .p nilV) rfl rfl rfl (by rfl) (by rfl)) (.cons (.tmp rfl (.refl _)) .nil)
  · intro _
    refine z_go ?_
    refine SymL.weak (Le.asRow 5 22 1 rfl rfl rfl z_nrm z_nrm) ?_
    have a1 : AppH encB [] l := .mk; refine z_go ?_
    refine z_go ?_
    exact FinB.rt (.cons (.tmp rfl (.refl _)) .nil)
set_option maxHeartbeats 1000000 in
theorem fnOwn (l : Lk) (h : l.out.length ≤ 1000000) : FnB Try.prog 43 [.p (lkV l)] [] (.ptr 2 0) [none, some (rowB l.out), some (eBoxR l 1 nilV nilV)] := by
  refine FnB.of (rs := [.ptr 2 0]) (res := [.tmp 2]) Try.call43 Try.func43 rfl Try.ntmps43 rfl (by simp) rfl rfl fun c hro hc hdead => ?_
  refine z_go ?_
  ((with_reducible apply SymL.callB [] (fnClones l.out h)); exact z_ren; exact z_evf; exact z_given; decide; exact rfl; exact z_wrB; exact z_ren; exact z_ren)
  refine z_go ?_
  apply FinB.rtW [(2, true, .ptr 2 0)]
  · exact z_wkt
  · exact (.cons (.tmp rfl (.refl _)) .nil)
theorem fnOwnV (l : Lk) (h : l.out.length ≤ 1000000) : FnB Try.prog 43 [.p (lkV l)] [] (.ptr 2 0) [none, none, some (eBox l nilV nilV)] := (fnOwn l h).ice encB 1 l.out rfl rfl rfl rfl (by (first | (simp only [rowB, eBox, eBoxR, TM.ice, TM.argsD, Hp.ice, D.ice, D.iceL, D.iceL_p, Nat.reduceBEq, Nat.beq, cond_true, cond_false, List.set_cons_zero, List.set_cons_succ, List.length_nil, List.length_cons, Nat.beq_refl]; try exact rfl) | exact rfl))
theorem fnEData (l : Lk) (a b : V) (k : Nat) (el : List UInt8) (hel : l.out[k]? = some el) (h : el.length ≤ 100000000) (hb : 0 ≤ l.base ∧ l.base ≤ 1073741824) (hk : k < 1000000) : FnR Try.prog 44 [.ptr 0 0, .p (.i k)] [some (eBox l a b)] (.bytes (frPut ⟨2, l.mine, l.peer, l.base + k, el⟩)) := by
  refine FnR.of (rs := [.bytes (frPut ⟨2, l.mine, l.peer, l.base + k, el⟩)]) (res := [.tmp 4]) Try.call44 Try.func44 rfl Try.ntmps44 rfl (by simp) rfl rfl fun c hro hc hdead => ?_
  have k1 := (fnEPut l a b 2 (l.base + k) el h).at [0]; refine z_go ?_
  with_reducible first | apply Fin.rt | apply Fin.nx
  exact .cons (.tmp rfl (.of (.of rfl))) .nil
abbrev ackOf (l : Lk) : List UInt8 := frPut ⟨3, l.mine, l.peer, l.inn, []⟩
set_option maxHeartbeats 1000000 in
theorem fnHello (l : Lk) (b : V) (f : Fr) : FnB Try.prog 47 [.ptr 0 0, .p (frV f)] [some (eBox l nilV b)] (.tup []) [some (eBox l (V.list encB [ackOf l]) b)] := by
  refine FnB.of (rs := []) (res := []) Try.call47 Try.func47 rfl Try.ntmps47 rfl (by simp) rfl rfl fun c hro hc hdead => ?_
  refine z_go ?_
  (apply Sym.drawL 16 (by kernel_rfl) (by kernel_rfl))
  have a1 : AppH encB [] [ackOf l] := .mk; have k1 := (fnEPut l nilV b 3 l.inn [] (by simp)).at [0]; refine z_mt ?_
  refine z_go ?_
  exact FinB.nxW [] z_wkt .nil
end Go.Proofs.Ytdehiohjlbmmdaa
