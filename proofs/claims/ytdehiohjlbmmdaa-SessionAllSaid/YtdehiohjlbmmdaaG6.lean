/- Sessions: the document's answer: its frames, Own, Tick. -/
import Derived.Test.YtdehiohjlbmmdaaG5
set_option linter.unusedSimpArgs false
set_option linter.unusedVariables false
namespace Go.Proofs.Ytdehiohjlbmmdaa
open Go.RowKit Go.Sy
theorem fnRHello (l : Lk) : Fn1 Try.prog 51 [lkV l] (.bytes (helloOf l)) := by
  refine Fn1.of (rs := [.bytes (helloOf l)]) (res := [.tmp 2]) Try.call51 Try.func51 rfl Try.ntmps51 rfl (by simp) fun c hc => ?_
  have k1 := fnRefPut ⟨1, l.mine, l.peer, 0, []⟩ (by simp); refine z_go ?_
  with_reducible first | apply Fin.rt | apply Fin.nx
  exact .cons (.tmp rfl (.of (.of rfl))) .nil
theorem fnRAck (l : Lk) : Fn1 Try.prog 52 [lkV l] (.bytes (ackOf l)) := by
  refine Fn1.of (rs := [.bytes (ackOf l)]) (res := [.tmp 2]) Try.call52 Try.func52 rfl Try.ntmps52 rfl (by simp) fun c hc => ?_
  have k1 := fnRefPut ⟨3, l.mine, l.peer, l.inn, []⟩ (by simp); refine z_go ?_
  with_reducible first | apply Fin.rt | apply Fin.nx
  exact .cons (.tmp rfl (.of (.of rfl))) .nil
theorem fnRData (l : Lk) (k : Nat) (n : Int) (el : List UInt8) (hn : n = k) (hel : l.out[k]? = some el) (h : el.length ≤ 100000000) (hb : 0 ≤ l.base ∧ l.base ≤ 1073741824) (hk : k < 1000000) : Fn1 Try.prog 46 [lkV l, .i n] (.bytes (dataOf l k el)) := by
  subst hn
  refine Fn1.of (rs := [.bytes (dataOf l k el)]) (res := [.tmp 4]) Try.call46 Try.func46 rfl Try.ntmps46 rfl (by simp) fun c hc => ?_
  have k1 := fnRefPut ⟨2, l.mine, l.peer, l.base + k, el⟩ h; refine z_go ?_
  with_reducible first | apply Fin.rt | apply Fin.nx
  exact .cons (.tmp rfl (.of (.of rfl))) .nil
theorem fnRNew (m : Int) : Fn1 Try.prog 36 [.i m] (lkV (lkNew m)) := by
  refine Fn1.of (rs := [lkV (lkNew m)]) (res := [.cell 2 37]) Try.call36 Try.func36 rfl Try.ntmps36 rfl (by simp) fun c hc => ?_
  refine z_go ?_
  with_reducible first | apply Fin.rt | apply Fin.nx
  refine .cons (.cellA inferInstance rfl rfl rfl (Nat.le_of_ble_eq_true rfl) (.of (.mk rfl ?_))) .nil
  exact z_vle
def lkGreat (l : Lk) (b : List UInt8) : Bool := decide ((l.out.length : Int) > 1100) || decide ((b.length : Int) > 900)
theorem fnGreat (l : Lk) (b : List UInt8) : Fn1 Try.prog 25 [lkV l, .bytes b] (.b (lkGreat l b)) := by
  refine Fn1.of (rs := [.b (lkGreat l b)]) (res := [.tmp 4]) Try.call25 Try.func25 rfl Try.ntmps25 rfl (by simp) fun c hc => ?_
  refine z_go ?_
  with_reducible first | apply Fin.rt | apply Fin.nx
  exact .cons (.tmp rfl (.of (.of rfl))) .nil
abbrev lkBoxR (l : Lk) (k : Nat) : Box := ⟨[.p (.i l.mine), .p (.i l.peer), .p (.b l.sure), .row k l.out.length, .p (.i l.base), .p (.i l.inn)], 37, 0⟩
set_option maxHeartbeats 2000000 in
theorem fnROwn (l : Lk) (h : LkOk l) : FnB Try.prog 45 [.p (lkV l)] [] (.agg [.p (.i l.mine), .p (.i l.peer), .p (.b l.sure), .row 2 l.out.length, .p (.i l.base), .p (.i l.inn)]) [none, some (lkBoxR l 2), some (rowB l.out)] := by
  have hn := h.out
  refine FnB.of (rs := [.agg [.p (.i l.mine), .p (.i l.peer), .p (.b l.sure), .row 2 l.out.length, .p (.i l.base), .p (.i l.inn)]]) (res := [.cell 2 37]) Try.call45 Try.func45 rfl Try.ntmps45 rfl (by simp) rfl rfl fun c hro hc hdead => ?_
  refine z_go ?_
  refine Sym.weak (Le.asRow (d := .p nilV) 3 22 1 rfl rfl rfl z_nrm z_nrm) ?_
  refine Sym.loop (fun k s => ∃ i : Nat, i ≤ l.out.length ∧ k = l.out.length - i ∧ s = ⟨[(4, true, .p (.i i)), (3, true, .row 2 (l.out.take i).length), (2, true, .ptr 1 0), (1, true, .ptr 0 0)], [some (lkBox l), some resZ, some (rowB (l.out.take i))]⟩) l.out.length ⟨_, ⟨0, Nat.zero_le _, by simp, rfl⟩, ?_⟩ ?_
  · simp only [List.take_zero]
    exact z_wkt
  · rintro k s ⟨i, hi, rfl, rfl⟩
    refine z_go ?_
    apply Sym.cond
    · rfl
    · intro hlt
      simp only [decide_eq_true_eq] at hlt
      have hi' : i < l.out.length := by omega
      obtain ⟨el, hel⟩ : ∃ el, l.out[i]? = some el := ⟨_, List.getElem?_eq_getElem hi'⟩
      have hsm := h.small el (List.mem_of_getElem? hel)
      have htl : (l.out.take i).length ≤ 2000 := by simp; omega
      have a1 : AppH V.byte [] el := .mk; refine z_go ?_
      have a1 : AppH encB (l.out.take i) [el] := .mk; refine z_go ?_
      refine z_go ?_
      refine ⟨_, ?_, _, ⟨i + 1, by omega, rfl, rfl⟩, ?_⟩
      · omega
      · rw [List.take_add_one, hel]
        exact z_wkt
    · intro hge
      simp only [decide_eq_false_iff_not] at hge
      obtain rfl : i = l.out.length := by omega
      simp only [List.take_length]
      refine z_go ?_
      apply FinB.rtW [(2, true, .ptr 1 0)]
      · exact z_wkt
      · exact .cons (.cellA inferInstance rfl rfl rfl (Nat.le_of_ble_eq_true rfl) (.refl _)) .nil
theorem fnROwnV (l : Lk) (h : LkOk l) : FnB Try.prog 45 [.p (lkV l)] [] (.p (lkV l)) [none, some (lkBox l), none] :=
  ((fnROwn l h).ice (r' := .agg [.p (.i l.mine), .p (.i l.peer), .p (.b l.sure), .p (V.list encB l.out), .p (.i l.base), .p (.i l.inn)]) (H1' := [none, some (lkBox l), none]) encB 2 l.out rfl rfl rfl (by simp only [D.ice, D.iceL, Nat.beq_refl, cond_true, Nat.beq]) (by simp only [Hp.ice, lkBoxR, lkBox, rowB, D.ice, D.iceL, D.iceL_p, Nat.beq_refl, cond_true, Nat.beq, List.set_cons_zero, List.set_cons_succ])).dle (.v (.of rfl))
set_option maxHeartbeats 2000000 in
theorem fnRTick (l : Lk) (h : LkOk l) : Fn1 Try.prog 34 [lkV l] (V.list encB (lkTick l)) := by
  have hn := h.out
  refine Fn1.of (rs := [V.list encB (lkTick l)]) (res := [.tmp 2]) Try.call34 Try.func34 rfl Try.ntmps34 rfl (by simp) fun c hc => ?_
  refine z_go ?_
  refine Sym.cutT (fun p : List (List UInt8) => ⟨[(3, true, .row 1 p.length), (1, true, .ptr 0 0)], [some (lkBox l), some (rowB p)]⟩) (fun p => p = if l.sure then [] else [helloOf l]) ?_ ?_
  · apply Sym.cond
    · rfl
    · intro hs
      have hs : l.sure = false := by simpa using hs
      refine Sym.weak (Le.asRow (d := .p nilV) 3 22 1 rfl rfl rfl z_nrm z_nrm) ?_
      have k1 := fnRHello l; refine z_go ?_
      have a1 : AppH encB [] [helloOf l] := .mk; refine z_go ?_
      refine z_go ?_
      exact cutS.nx [helloOf l] (by rw [hs]; rfl) z_wkt
    · intro hs
      have hs : l.sure = true := by simpa using hs
      refine Sym.weak (Le.asRow (d := .p nilV) 3 22 1 rfl rfl rfl z_nrm z_nrm) ?_
      refine z_go ?_
      exact cutS.nx [] (by rw [hs]; rfl) z_wkt
  · intro p hp
    refine z_go ?_
    refine Sym.loop (fun k s => ∃ i : Nat, i ≤ l.out.length ∧ k = l.out.length - i ∧ s = ⟨[(4, true, .p (.i i)), (3, true, .row 1 (p ++ datas l 0 (l.out.take i)).length), (1, true, .ptr 0 0)], [some (lkBox l), some (rowB (p ++ datas l 0 (l.out.take i)))]⟩) l.out.length ⟨_, ⟨0, Nat.zero_le _, by simp, rfl⟩, ?_⟩ ?_
    · simp only [List.take_zero, datas, List.append_nil]
      exact z_wkt
    · rintro k s ⟨i, hi, rfl, rfl⟩
      refine z_go ?_
      apply Sym.cond
      · rfl
      · intro hlt
        simp only [decide_eq_true_eq] at hlt
        have hi' : i < l.out.length := by omega
        obtain ⟨el, hel⟩ : ∃ el, l.out[i]? = some el := ⟨_, List.getElem?_eq_getElem hi'⟩
        have hsm := h.small el (List.mem_of_getElem? hel)
        have hpl : p.length ≤ 1 := by rw [hp]; split <;> simp
        have hdl : (datas l 0 (l.out.take i)).length ≤ 2000 := by rw [datas_len]; simp; omega
        have k1 := fnRData l i i el rfl hel (by omega) h.base (by omega); refine z_go ?_
        have a1 : AppH encB (p ++ datas l 0 (l.out.take i)) [dataOf l i el] := .mk; refine z_go ?_
        refine z_go ?_
        refine ⟨_, ?_, _, ⟨i + 1, by omega, rfl, rfl⟩, ?_⟩
        · omega
        · rw [datas_take l hel, ← List.append_assoc]
          exact z_wkt
      · intro hge
        simp only [decide_eq_false_iff_not] at hge
        obtain rfl : i = l.out.length := by omega
        rw [List.take_length]
        refine z_go ?_
        with_reducible first | apply Fin.rt | apply Fin.nx
        rw [show lkTick l = p ++ datas l 0 l.out by rw [hp]; rfl]
        exact .cons (.tmp rfl (DVr.list encB _ rfl (fun q => rfl) rfl rfl)) .nil
end Go.Proofs.Ytdehiohjlbmmdaa
