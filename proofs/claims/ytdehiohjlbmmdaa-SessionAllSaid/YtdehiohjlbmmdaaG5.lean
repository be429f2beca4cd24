/- Sessions: Take. -/
import Derived.Test.YtdehiohjlbmmdaaG4
set_option linter.unusedSimpArgs false
set_option linter.unusedVariables false
namespace Go.Proofs.Ytdehiohjlbmmdaa
open Go.RowKit Go.Sy
abbrev takeNo (l : Lk) (b : List UInt8) : Bool := !(frGet b).2 || decide ((frGet b).1.frm < l.peer)
/-- the link that a frame is taken into -/
def lkBase (l : Lk) (f : Fr) : Lk := if f.frm > l.peer then ⟨l.mine, f.frm, false, [], 0, 0⟩ else l
def lkSure (l : Lk) : Lk := { l with sure := true }
def lkDone (y : Lk) (f : Fr) : Lk := if f.kind = 1 then y else if f.kind = 2 then lkCame y f else lkAck y f
def lkTake (l : Lk) (b : List UInt8) : Lk :=
  if takeNo l b then l else if (frGet b).1.too = l.mine then lkDone (lkSure (lkBase l (frGet b).1)) (frGet b).1 else lkBase l (frGet b).1
def outDone (y : Lk) (f : Fr) : List (List UInt8) := if f.kind = 1 then [ackOf y] else if f.kind = 2 then [ackOf (lkCame y f)] else []
def outTake (l : Lk) (b : List UInt8) : List (List UInt8) :=
  if takeNo l b then [] else if (frGet b).1.too = l.mine then outDone (lkSure (lkBase l (frGet b).1)) (frGet b).1 else if (frGet b).1.kind = 1 then [helloOf (lkBase l (frGet b).1)] else []
def bodyDone (y : Lk) (f : Fr) : List UInt8 := if f.kind = 2 ∧ cameIs y f = true then f.body else []
def bodyTake (l : Lk) (b : List UInt8) : List UInt8 :=
  if takeNo l b then [] else if (frGet b).1.too = l.mine then bodyDone (lkSure (lkBase l (frGet b).1)) (frGet b).1 else []
def anewTake (l : Lk) (b : List UInt8) : Bool := if takeNo l b then false else decide ((frGet b).1.frm > l.peer)
theorem LkOk.lbase {l : Lk} (h : LkOk l) (f : Fr) : LkOk (lkBase l f) := by
  unfold lkBase
  split
  · exact ⟨by simp, by simp, by simp, by simp⟩
  · exact h
theorem lkBase_mine (l : Lk) (f : Fr) : (lkBase l f).mine = l.mine := by unfold lkBase; split <;> rfl
abbrev resZ : Box := ⟨[.p (.x (.int .i64 0)), .p (.x (.int .i64 0)), .p (.x (.bool false)), .p nilV, .p (.x (.int .i64 0)), .p (.x (.int .i64 0))], 37, 0⟩
abbrev frBox (f : Fr) : Box := ⟨[.p (.i f.kind), .p (.i f.frm), .p (.i f.too), .p (.i f.num), .p (.bytes f.body)], 24, 0⟩
abbrev lkBox (l : Lk) : Box := ⟨[.p (.i l.mine), .p (.i l.peer), .p (.b l.sure), .p (V.list encB l.out), .p (.i l.base), .p (.i l.inn)], 37, 0⟩
set_option maxHeartbeats 4000000 in
theorem fnTake (l : Lk) (h : LkOk l) (b : List UInt8) (hb : b.length ≤ 100000000) : Fn1 Try.prog 29 [lkV l, .bytes b] (.tup [lkV (lkTake l b), V.list encB (outTake l b), .bytes (bodyTake l b), .b (anewTake l b)]) := by
  have hn := h.out
  have hR : (frGet b).2 = true → frRight (frGet b).1 = true := fun h => (frPut_get b h).1
  have hGet := fnGet b hb
  have eN : takeNo l b = (!(frGet b).2 || decide ((frGet b).1.frm < l.peer)) := rfl
  unfold lkTake outTake bodyTake anewTake
  revert hR hGet eN
  generalize takeNo l b = no
  rcases frGet b with ⟨⟨kind, frm, too, num, body⟩, is⟩
  dsimp only
  intro hR hGet eN
  have eB : (lkBase l ⟨kind, frm, too, num, body⟩).mine = l.mine := lkBase_mine ..
  have hB : LkOk (lkBase l ⟨kind, frm, too, num, body⟩) := h.lbase _
  have eB' : lkBase l ⟨kind, frm, too, num, body⟩ = if frm > l.peer then ⟨l.mine, frm, false, [], 0, 0⟩ else l := rfl
  revert eB hB eB'
  generalize lkBase l ⟨kind, frm, too, num, body⟩ = X
  intro eB hB eB'
  refine Fn1.of (rs := [_, _, _, _]) (res := [.cell 4 37, .tmp 5, .tmp 6, .tmp 7]) Try.call29 Try.func29 rfl Try.ntmps29 rfl (by simp) fun c hc => ?_
  refine z_go ?_
  ((with_reducible apply SymL.callB [] (fnOwnV l (by omega))); exact z_ren; exact z_evf; exact z_given; decide; exact rfl; exact z_wrB; exact z_ren; exact z_ren)
  have k1 := hGet; refine z_go ?_
  apply Sym.cond
  · rfl
  · intro hs
    rw [show no = true from eN.trans hs]
    simp only [if_true]
    refine z_go ?_
    with_reducible first | apply Fin.rt | apply Fin.nx
    exact .cons (.cellA inferInstance rfl rfl rfl (Nat.le_of_ble_eq_true rfl) (.of (.of rfl))) (.cons (.tmp rfl (.of (.mk rfl .nil))) (.cons (.tmp rfl (.of (.mk rfl .nil))) (.cons (.tmp rfl (.of (.of rfl))) .nil)))
  · intro hs
    rw [show no = false from eN.trans hs]
    simp only [Bool.false_eq_true, if_false]
    simp only [Bool.or_eq_false_iff, Bool.not_eq_false', decide_eq_false_iff_not] at hs
    have hR := hR hs.1
    simp only [frRight, decide_eq_true_eq] at hR
    refine Sym.weak (s' := ⟨[(9, true, .ptr 5 0), (8, true, .ptr 4 0), (4, true, .ptr 1 0), (2, true, .ptr 0 0)], [some (lkBox l), some resZ, none, none, some (eBox l nilV nilV), some (frBox ⟨kind, frm, too, num, body⟩)]⟩) z_wkt ?_
    refine z_go ?_
    have hBi : 0 ≤ (lkSure X).inn ∧ (lkSure X).inn ≤ 1073741824 := hB.inn
    have hBb : 0 ≤ (lkSure X).base ∧ (lkSure X).base ≤ 1073741824 := hB.base
    refine Sym.cutT (fun x : Lk => ⟨[(11, true, .p (.b (decide (frm > l.peer)))), (9, true, .ptr 5 0), (8, true, .ptr 4 0), (4, true, .ptr 1 0)], [none, some resZ, none, none, some (eBox x nilV nilV), some (frBox ⟨kind, frm, too, num, body⟩)]⟩) (fun x => X = x) ?_ ?_
    · apply Sym.cond
      · rfl
      · intro ha
        rw [if_pos (by simpa using ha)] at eB'
        refine z_go ?_
        refine cutS.nx ⟨l.mine, frm, false, [], 0, 0⟩ eB' (Le.trans (Le.cells (cs' := [.p (.i l.mine), .p (.i frm), .p (.b false), .p (V.list encB []), .p (.i 0), .p (.i 0), .p nilV, .p nilV]) 4 rfl ?_ rfl) z_wkt)
        (repeat (first | exact DLeL.nil | (apply DLeL.cons; exact z_dle)))
      · intro ha
        rw [if_neg (by simpa using ha)] at eB'
        refine z_go ?_
        exact cutS.nx l eB' z_wkt
    · rintro _ rfl
      refine z_go ?_
      apply Sym.cond
      · rfl
      · intro ht
        have ht : too = l.mine := by rw [← eB]; simpa using ht
        simp only [if_pos ht]
        obtain rfl | rfl | rfl : kind = 1 ∨ kind = 2 ∨ kind = 3 := by omega
        · rw [show lkDone (lkSure X) ⟨1, frm, too, num, body⟩ = lkSure X from rfl, show outDone (lkSure X) ⟨1, frm, too, num, body⟩ = [ackOf (lkSure X)] from rfl, show bodyDone (lkSure X) ⟨1, frm, too, num, body⟩ = [] from rfl]
          refine z_go ?_
          (apply Sym.drawL 6 (by kernel_rfl) (by kernel_rfl))
          refine z_mt ?_
          ((with_reducible apply SymL.callB [4] (fnHello (lkSure X) nilV ⟨1, frm, too, num, body⟩)); exact z_ren; exact z_evf; exact z_given; decide; exact rfl; exact z_wrB; exact z_ren; exact z_ren)
          refine z_go ?_
          (apply Sym.drawXL [13] (by kernel_rfl) (by kernel_rfl) (by kernel_rfl))
          refine z_xgo ?_
          refine z_go ?_
          with_reducible first | apply Fin.rt | apply Fin.nx
          exact .cons (.cellA inferInstance rfl rfl rfl (Nat.le_of_ble_eq_true rfl) (.of (.of rfl))) (.cons (.tmp rfl (.of (.of rfl))) (.cons (.tmp rfl (.of (.mk rfl .nil))) (.cons (.tmp rfl (.of (.of rfl))) .nil)))
        · rw [show lkDone (lkSure X) ⟨2, frm, too, num, body⟩ = lkCame (lkSure X) ⟨2, frm, too, num, body⟩ from rfl, show outDone (lkSure X) ⟨2, frm, too, num, body⟩ = [ackOf (lkCame (lkSure X) ⟨2, frm, too, num, body⟩)] from rfl]
          refine z_go ?_
          (apply Sym.drawL 6 (by kernel_rfl) (by kernel_rfl))
          refine z_mt ?_
          ((with_reducible apply SymL.callB [4] (fnCame (lkSure X) ⟨2, frm, too, num, body⟩ hBi)); exact z_ren; exact z_evf; exact z_given; decide; exact rfl; exact z_wrB; exact z_ren; exact z_ren)
          refine z_go ?_
          (apply Sym.drawXL [13] (by kernel_rfl) (by kernel_rfl) (by kernel_rfl))
          refine z_xgo ?_
          refine z_go ?_
          with_reducible first | apply Fin.rt | apply Fin.nx
          refine .cons (.cellA inferInstance rfl rfl rfl (Nat.le_of_ble_eq_true rfl) (.of (.of rfl))) (.cons (.tmp rfl (.of (.of rfl))) (.cons (.tmp rfl ?_) (.cons (.tmp rfl (.of (.of rfl))) .nil)))
          by_cases hca : cameIs (lkSure X) ⟨2, frm, too, num, body⟩ = true
          · rw [show bodyDone (lkSure X) ⟨2, frm, too, num, body⟩ = body from if_pos ⟨rfl, hca⟩, show bodyCame (lkSure X) ⟨2, frm, too, num, body⟩ = .bytes body from if_pos hca]
            exact .of (.of rfl)
          · rw [show bodyDone (lkSure X) ⟨2, frm, too, num, body⟩ = [] from if_neg (fun h => hca h.2), show bodyCame (lkSure X) ⟨2, frm, too, num, body⟩ = nilV from if_neg hca]
            exact .of (.mk rfl .nil)
        · rw [show lkDone (lkSure X) ⟨3, frm, too, num, body⟩ = lkAck (lkSure X) ⟨3, frm, too, num, body⟩ from rfl, show outDone (lkSure X) ⟨3, frm, too, num, body⟩ = [] from rfl, show bodyDone (lkSure X) ⟨3, frm, too, num, body⟩ = [] from rfl]
          refine z_go ?_
          (apply Sym.drawL 6 (by kernel_rfl) (by kernel_rfl))
          refine z_mt ?_
          ((with_reducible apply SymL.callB [4] (fnAck (lkSure X) nilV nilV ⟨3, frm, too, num, body⟩ hBb ⟨hR.2.2.2.2.1, hR.2.2.2.2.2.1⟩)); exact z_ren; exact z_evf; exact z_given; decide; exact rfl; exact z_wrB; exact z_ren; exact z_ren)
          refine z_go ?_
          (apply Sym.drawXL [13] (by kernel_rfl) (by kernel_rfl) (by kernel_rfl))
          refine z_xgo ?_
          refine z_go ?_
          with_reducible first | apply Fin.rt | apply Fin.nx
          exact .cons (.cellA inferInstance rfl rfl rfl (Nat.le_of_ble_eq_true rfl) (.of (.of rfl))) (.cons (.tmp rfl (.of (.mk rfl .nil))) (.cons (.tmp rfl (.of (.mk rfl .nil))) (.cons (.tmp rfl (.of (.of rfl))) .nil)))
      · intro ht
        have ht : ¬ too = l.mine := by rw [← eB]; simpa using ht
        simp only [if_neg ht]
        refine z_go ?_
        apply Sym.cond
        · rfl
        · intro hk
          have hk : kind = 1 := by simpa using hk
          simp only [if_pos hk]
          refine z_go ?_
          (apply Sym.drawL 11 (by kernel_rfl) (by kernel_rfl))
          have a1 : AppH encB [] [helloOf X] := .mk; have k1 := (fnEPut X nilV nilV 1 0 [] (by simp)).at [4]; refine z_mt ?_
          refine z_go ?_
          (apply Sym.drawXL [13] (by kernel_rfl) (by kernel_rfl) (by kernel_rfl))
          refine z_xgo ?_
          refine z_go ?_
          with_reducible first | apply Fin.rt | apply Fin.nx
          exact .cons (.cellA inferInstance rfl rfl rfl (Nat.le_of_ble_eq_true rfl) (.of (.of rfl))) (.cons (.tmp rfl (.of (.of rfl))) (.cons (.tmp rfl (.of (.mk rfl .nil))) (.cons (.tmp rfl (.of (.of rfl))) .nil)))
        · intro hk
          have hk : ¬ kind = 1 := by simpa using hk
          simp only [if_neg hk]
          refine z_go ?_
          (apply Sym.drawXL [13] (by kernel_rfl) (by kernel_rfl) (by kernel_rfl))
          refine z_xgo ?_
          refine z_go ?_
          with_reducible first | apply Fin.rt | apply Fin.nx
          exact .cons (.cellA inferInstance rfl rfl rfl (Nat.le_of_ble_eq_true rfl) (.of (.of rfl))) (.cons (.tmp rfl (.of (.mk rfl .nil))) (.cons (.tmp rfl (.of (.mk rfl .nil))) (.cons (.tmp rfl (.of (.of rfl))) .nil)))
end Go.Proofs.Ytdehiohjlbmmdaa
