/- Sessions: the document's answer: Take. -/
import Derived.Test.YtdehiohjlbmmdaaG6
set_option linter.unusedSimpArgs false
set_option linter.unusedVariables false
namespace Go.Proofs.Ytdehiohjlbmmdaa
open Go.RowKit Go.Sy
theorem ackIs_eq (l : Lk) (n : Int) : (decide (n > l.base) && decide (n ≤ l.base + (l.out.length : Int))) = (decide (0 < n - l.base) && decide (n - l.base ≤ (l.out.length : Int))) := by
  rw [Bool.eq_iff_iff]
  simp only [Bool.and_eq_true, decide_eq_true_eq]
  omega
set_option maxHeartbeats 4000000 in
theorem fnRTake (l : Lk) (h : LkOk l) (b : List UInt8) (hb : b.length ≤ 100000000) : Fn1 Try.prog 30 [lkV l, .bytes b] (.tup [lkV (lkTake l b), V.list encB (outTake l b), .bytes (bodyTake l b), .b (anewTake l b)]) := by
  have hn := h.out
  have hR : (frGet b).2 = true → frRight (frGet b).1 = true := fun h => (frPut_get b h).1
  have hGet := fnRefGet b hb
  rw [← frGet_eq] at hGet
  have eN : takeNo l b = (!(frGet b).2 || decide ((frGet b).1.frm < l.peer)) := rfl
  unfold lkTake outTake bodyTake anewTake
  revert hR hGet eN
  generalize takeNo l b = no
  rcases frGet b with ⟨⟨kind, frm, too, num, body⟩, is⟩
  dsimp only
  intro hR hGet eN
  have eB : (lkBase l ⟨kind, frm, too, num, body⟩).mine = l.mine := lkBase_mine ..
  have hB : LkOk (lkBase l ⟨kind, frm, too, num, body⟩) := h.lbase _
  have eB' : lkBase l ⟨kind, frm, too, num, body⟩ = if frm > l.peer then ⟨l.mine, frm, false, [], 0, 0⟩ else l := rfl
  revert eB hB eB'
  generalize lkBase l ⟨kind, frm, too, num, body⟩ = X
  intro eB hB eB'
  have hXo := hB.out
  refine Fn1.of (rs := [_, _, _, _]) (res := [.cell 4 37, .tmp 5, .tmp 6, .tmp 7]) Try.call30 Try.func30 rfl Try.ntmps30 rfl (by simp) fun c hc => ?_
  refine z_go ?_
  ((with_reducible apply SymL.callB [] (fnROwnV l h)); exact z_ren; exact z_evf; exact z_given; decide; exact rfl; exact z_wrB; exact z_ren; exact z_ren)
  have k1 := hGet; refine z_go ?_
  apply Sym.cond
  · rfl
  · intro hs
    rw [show no = true from eN.trans hs]
    simp only [if_true]
    refine z_go ?_
    with_reducible first | apply Fin.rt | apply Fin.nx
    exact .cons (.cellA inferInstance rfl rfl rfl (Nat.le_of_ble_eq_true rfl) (.of (.of rfl))) (.cons (.tmp rfl (.of (.mk rfl .nil))) (.cons (.tmp rfl (.of (.mk rfl .nil))) (.cons (.tmp rfl (.of (.of rfl))) .nil)))
  · intro hs
    rw [show no = false from eN.trans hs]
    simp only [Bool.false_eq_true, if_false]
    simp only [Bool.or_eq_false_iff, Bool.not_eq_false', decide_eq_false_iff_not] at hs
    have hR := hR hs.1
    simp only [frRight, decide_eq_true_eq] at hR
    refine Sym.weak (s' := ⟨[(9, true, .ptr 6 0), (8, true, .ptr 5 0), (4, true, .ptr 1 0), (2, true, .ptr 0 0)], [some (lkBox l), some resZ, none, none, none, some (lkBox l), some ⟨[.p (.i kind), .p (.i frm), .p (.i too), .p (.i num), .p (.bytes body)], 24, 0⟩]⟩) z_wkt ?_
    refine z_go ?_
    have hBi : 0 ≤ (lkSure X).inn ∧ (lkSure X).inn ≤ 1073741824 := hB.inn
    have hBb : 0 ≤ (lkSure X).base ∧ (lkSure X).base ≤ 1073741824 := hB.base
    have hXi := hB.inn
    have hXb := hB.base
    refine Sym.cutT (fun x : Lk => ⟨[(11, true, .p (.b (decide (frm > l.peer)))), (9, true, .ptr 6 0), (8, true, .ptr 5 0), (4, true, .ptr 1 0)], [none, some resZ, none, none, none, some (lkBox x), some ⟨[.p (.i kind), .p (.i frm), .p (.i too), .p (.i num), .p (.bytes body)], 24, 0⟩]⟩) (fun x => X = x) ?_ ?_
    · apply Sym.cond
      · rfl
      · intro ha
        rw [if_pos (by simpa using ha)] at eB'
        refine z_go ?_
        refine cutS.nx ⟨l.mine, frm, false, [], 0, 0⟩ eB' (Le.trans (Le.cells (cs' := [.p (.i l.mine), .p (.i frm), .p (.b false), .p (V.list encB []), .p (.i 0), .p (.i 0)]) 5 rfl ?_ rfl) z_wkt)
        (repeat (first | exact DLeL.nil | (apply DLeL.cons; exact z_dle)))
      · intro ha
        rw [if_neg (by simpa using ha)] at eB'
        refine z_go ?_
        exact cutS.nx l eB' z_wkt
    · rintro _ rfl
      refine z_go ?_
      apply Sym.cond
      · rfl
      · intro ht
        have ht : ¬ too = l.mine := by rw [← eB]; simpa using ht
        simp only [if_neg ht]
        refine z_go ?_
        apply Sym.cond
        · rfl
        · intro hk
          have hk : kind = 1 := by simpa using hk
          simp only [if_pos hk]
          refine z_go ?_
          (apply Sym.drawXL [5] (by kernel_rfl) (by kernel_rfl) (by kernel_rfl))
          have k1 := fnRHello X; refine z_xgo ?_
          refine z_go ?_
          with_reducible first | apply Fin.rt | apply Fin.nx
          exact .cons (.cellA inferInstance rfl rfl rfl (Nat.le_of_ble_eq_true rfl) (.of (.of rfl))) (.cons (.tmp rfl (.of (.mk rfl (.fl (VLeL.same _))))) (.cons (.tmp rfl (.of (.mk rfl .nil))) (.cons (.tmp rfl (.of (.of rfl))) .nil)))
        · intro hk
          have hk : ¬ kind = 1 := by simpa using hk
          simp only [if_neg hk]
          refine z_go ?_
          with_reducible first | apply Fin.rt | apply Fin.nx
          exact .cons (.cellA inferInstance rfl rfl rfl (Nat.le_of_ble_eq_true rfl) (.of (.of rfl))) (.cons (.tmp rfl (.of (.mk rfl .nil))) (.cons (.tmp rfl (.of (.mk rfl .nil))) (.cons (.tmp rfl (.of (.of rfl))) .nil)))
      · intro ht
        have ht : too = l.mine := by rw [← eB]; simpa using ht
        simp only [if_pos ht]
        obtain rfl | rfl | rfl : kind = 1 ∨ kind = 2 ∨ kind = 3 := by omega
        · rw [show lkDone (lkSure X) ⟨1, frm, too, num, body⟩ = lkSure X from rfl, show outDone (lkSure X) ⟨1, frm, too, num, body⟩ = [ackOf (lkSure X)] from rfl, show bodyDone (lkSure X) ⟨1, frm, too, num, body⟩ = [] from rfl]
          refine z_go ?_
          apply Sym.condT
          · rfl
          refine z_go ?_
          (apply Sym.drawXL [5] (by kernel_rfl) (by kernel_rfl) (by kernel_rfl))
          have k1 := fnRAck (lkSure X); refine z_xgo ?_
          refine z_go ?_
          with_reducible first | apply Fin.rt | apply Fin.nx
          exact .cons (.cellA inferInstance rfl rfl rfl (Nat.le_of_ble_eq_true rfl) (.of (.of rfl))) (.cons (.tmp rfl (.of (.mk rfl (.fl (VLeL.same _))))) (.cons (.tmp rfl (.of (.mk rfl .nil))) (.cons (.tmp rfl (.of (.of rfl))) .nil)))
        · rw [show lkDone (lkSure X) ⟨2, frm, too, num, body⟩ = lkCame (lkSure X) ⟨2, frm, too, num, body⟩ from rfl, show outDone (lkSure X) ⟨2, frm, too, num, body⟩ = [ackOf (lkCame (lkSure X) ⟨2, frm, too, num, body⟩)] from rfl]
          refine z_go ?_
          apply Sym.condF
          · rfl
          refine z_go ?_
          apply Sym.condT
          · rfl
          refine z_go ?_
          apply Sym.cond
          · rfl
          · intro hca
            have hca : cameIs (lkSure X) ⟨2, frm, too, num, body⟩ = true := hca
            rw [show bodyDone (lkSure X) ⟨2, frm, too, num, body⟩ = body from if_pos ⟨rfl, hca⟩, show lkCame (lkSure X) ⟨2, frm, too, num, body⟩ = { lkSure X with inn := X.inn + 1 } from if_pos hca]
            refine z_go ?_
            (apply Sym.drawXL [6] (by kernel_rfl) (by kernel_rfl) (by kernel_rfl))
            have k1 := fnRAck { lkSure X with inn := X.inn + 1 }; refine z_xgo ?_
            refine z_go ?_
            with_reducible first | apply Fin.rt | apply Fin.nx
            exact .cons (.cellA inferInstance rfl rfl rfl (Nat.le_of_ble_eq_true rfl) (.of (.of rfl))) (.cons (.tmp rfl (.of (.mk rfl (.fl (VLeL.same _))))) (.cons (.tmp rfl (.of (.of rfl))) (.cons (.tmp rfl (.of (.of rfl))) .nil)))
          · intro hca
            have hca : ¬ cameIs (lkSure X) ⟨2, frm, too, num, body⟩ = true := by
              have e : cameIs (lkSure X) ⟨2, frm, too, num, body⟩ = false := hca
              rw [e]; simp
            rw [show bodyDone (lkSure X) ⟨2, frm, too, num, body⟩ = [] from if_neg (fun h => hca h.2), show lkCame (lkSure X) ⟨2, frm, too, num, body⟩ = lkSure X from if_neg hca]
            refine z_go ?_
            (apply Sym.drawXL [6] (by kernel_rfl) (by kernel_rfl) (by kernel_rfl))
            have k1 := fnRAck (lkSure X); refine z_xgo ?_
            refine z_go ?_
            with_reducible first | apply Fin.rt | apply Fin.nx
            exact .cons (.cellA inferInstance rfl rfl rfl (Nat.le_of_ble_eq_true rfl) (.of (.of rfl))) (.cons (.tmp rfl (.of (.mk rfl (.fl (VLeL.same _))))) (.cons (.tmp rfl (.of (.mk rfl .nil))) (.cons (.tmp rfl (.of (.of rfl))) .nil)))
        · rw [show lkDone (lkSure X) ⟨3, frm, too, num, body⟩ = lkAck (lkSure X) ⟨3, frm, too, num, body⟩ from rfl, show outDone (lkSure X) ⟨3, frm, too, num, body⟩ = [] from rfl, show bodyDone (lkSure X) ⟨3, frm, too, num, body⟩ = [] from rfl]
          refine z_go ?_
          apply Sym.condF
          · rfl
          refine z_go ?_
          apply Sym.condF
          · rfl
          refine z_go ?_
          apply Sym.condT
          · rfl
          refine z_go ?_
          apply Sym.cond
          · rfl
          · intro hca
            have hak : ackIs (lkSure X) ⟨3, frm, too, num, body⟩ = true := (ackIs_eq X num).symm.trans hca
            rw [show lkAck (lkSure X) ⟨3, frm, too, num, body⟩ = { lkSure X with out := X.out.drop (num - X.base).toNat, base := num } from if_pos hak]
            simp only [Bool.and_eq_true, decide_eq_true_eq] at hca
            refine z_go ?_
            with_reducible first | apply Fin.rt | apply Fin.nx
            exact .cons (.cellA inferInstance rfl rfl rfl (Nat.le_of_ble_eq_true rfl) (.of (.of rfl))) (.cons (.tmp rfl (.of (.mk rfl .nil))) (.cons (.tmp rfl (.of (.mk rfl .nil))) (.cons (.tmp rfl (.of (.of rfl))) .nil)))
          · intro hca
            have hak : ¬ ackIs (lkSure X) ⟨3, frm, too, num, body⟩ = true := by
              have e : ackIs (lkSure X) ⟨3, frm, too, num, body⟩ = false := (ackIs_eq X num).symm.trans hca
              rw [e]; simp
            rw [show lkAck (lkSure X) ⟨3, frm, too, num, body⟩ = lkSure X from if_neg hak]
            refine z_go ?_
            with_reducible first | apply Fin.rt | apply Fin.nx
            exact .cons (.cellA inferInstance rfl rfl rfl (Nat.le_of_ble_eq_true rfl) (.of (.of rfl))) (.cons (.tmp rfl (.of (.mk rfl .nil))) (.cons (.tmp rfl (.of (.mk rfl .nil))) (.cons (.tmp rfl (.of (.of rfl))) .nil)))
end Go.Proofs.Ytdehiohjlbmmdaa
