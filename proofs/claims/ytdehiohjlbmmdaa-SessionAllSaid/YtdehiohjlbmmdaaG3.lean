/- Sessions: New, Tick, Send. -/
import Derived.Test.YtdehiohjlbmmdaaG2
import Derived.Test.YtdehiohjlbmmdaaDp
set_option linter.unusedSimpArgs false
set_option linter.unusedVariables false
namespace Go.Proofs.Ytdehiohjlbmmdaa
open Go.RowKit Go.Sy
abbrev dataOf (l : Lk) (k : Nat) (b : List UInt8) : List UInt8 := frPut ⟨2, l.mine, l.peer, l.base + k, b⟩
abbrev helloOf (l : Lk) : List UInt8 := frPut ⟨1, l.mine, l.peer, 0, []⟩
/-- the frames of what is sent, from the k-th on -/
def datas (l : Lk) : Nat → List (List UInt8) → List (List UInt8)
  | _, [] => []
  | k, b :: bs => dataOf l k b :: datas l (k + 1) bs
theorem datas_len (l : Lk) : ∀ (k : Nat) (bs : List (List UInt8)), (datas l k bs).length = bs.length
  | _, [] => rfl
  | k, _ :: bs => by simp [datas, datas_len l (k + 1) bs]
theorem datas_app (l : Lk) : ∀ (k : Nat) (bs bs' : List (List UInt8)), datas l k (bs ++ bs') = datas l k bs ++ datas l (k + bs.length) bs'
  | _, [], _ => by simp [datas]
  | k, b :: bs, bs' => by simp [datas, datas_app l (k + 1) bs bs', Nat.add_comm, Nat.add_left_comm]
theorem datas_take (l : Lk) {bs : List (List UInt8)} {k : Nat} {b : List UInt8} (h : bs[k]? = some b) : datas l 0 (bs.take (k + 1)) = datas l 0 (bs.take k) ++ [dataOf l k b] := by
  have hk := (List.getElem?_eq_some_iff.1 h).1
  rw [List.take_add_one, h, datas_app]
  simp [datas, Nat.min_eq_left (Nat.le_of_lt hk)]
def lkTick (l : Lk) : List (List UInt8) := (if l.sure then [] else [helloOf l]) ++ datas l 0 l.out
def lkNew (m : Int) : Lk := ⟨m, 0, false, [], 0, 0⟩
/-- what the walks ask of a link -/
structure LkOk (l : Lk) : Prop where
  out : l.out.length ≤ 2000
  small : ∀ b ∈ l.out, b.length ≤ 1000000
  base : 0 ≤ l.base ∧ l.base ≤ 1073741824
  inn : 0 ≤ l.inn ∧ l.inn ≤ 1073741824
theorem fnNew (m : Int) : Fn1 Try.prog 35 [.i m] (lkV (lkNew m)) := by
  refine Fn1.of (rs := [lkV (lkNew m)]) (res := [.cell 2 37]) Try.call35 Try.func35 rfl Try.ntmps35 rfl (by simp) fun c hc => ?_
  refine z_go ?_
  with_reducible first | apply Fin.rt | apply Fin.nx
  refine .cons (.cellA inferInstance rfl rfl rfl (Nat.le_of_ble_eq_true rfl) (.of (.mk rfl ?_))) .nil
  exact z_vle
set_option maxHeartbeats 2000000 in
theorem fnTick (l : Lk) (h : LkOk l) : Fn1 Try.prog 33 [lkV l] (V.list encB (lkTick l)) := by
  have hn := h.out
  refine Fn1.of (rs := [V.list encB (lkTick l)]) (res := [.tmp 2]) Try.call33 Try.func33 rfl Try.ntmps33 rfl (by simp) fun c hc => ?_
  refine z_go ?_
  ((with_reducible apply SymL.callB [] (fnOwnV l (by omega))); exact z_ren; exact z_evf; exact z_given; decide; exact rfl; exact z_wrB; exact z_ren; exact z_ren)
  refine z_go ?_
  refine Sym.cutT (fun p : List (List UInt8) => ⟨[(4, true, .row 4 p.length), (3, true, .ptr 3 0)], [none, none, none, some (eBox l nilV nilV), some (rowB p)]⟩) (fun p => p = if l.sure then [] else [helloOf l]) ?_ ?_
  · apply Sym.cond
    · rfl
    · intro hs
      have hs : l.sure = false := by simpa using hs
      refine Sym.weak (Le.asRow (d := .p nilV) 4 22 1 rfl rfl rfl z_nrm z_nrm) ?_
      have k1 := (fnEPut l nilV nilV 1 0 [] (by simp)).at [3]; refine z_go ?_
      have a1 : AppH encB [] [helloOf l] := .mk; refine z_go ?_
      refine z_go ?_
      exact cutS.nx [helloOf l] (by rw [hs]; rfl) z_wkt
    · intro hs
      have hs : l.sure = true := by simpa using hs
      refine Sym.weak (Le.asRow (d := .p nilV) 4 22 1 rfl rfl rfl z_nrm z_nrm) ?_
      refine z_go ?_
      exact cutS.nx [] (by rw [hs]; rfl) z_wkt
  · intro p hp
    refine z_go ?_
    refine Sym.loop (fun k s => ∃ i : Nat, i ≤ l.out.length ∧ k = l.out.length - i ∧ s = ⟨[(25, true, .p (.i i)), (24, true, .p (.i l.out.length)), (4, true, .row 4 (p ++ datas l 0 (l.out.take i)).length), (3, true, .ptr 3 0)], [none, none, none, some (eBox l nilV nilV), some (rowB (p ++ datas l 0 (l.out.take i)))]⟩) l.out.length ⟨_, ⟨0, Nat.zero_le _, by simp, rfl⟩, ?_⟩ ?_
    · simp only [List.take_zero, datas, List.append_nil]
      exact z_wkt
    · rintro k s ⟨i, hi, rfl, rfl⟩
      refine z_go ?_
      apply Sym.cond
      · rfl
      · intro hlt
        simp only [decide_eq_true_eq] at hlt
        have hi' : i < l.out.length := by omega
        obtain ⟨el, hel⟩ : ∃ el, l.out[i]? = some el := ⟨_, List.getElem?_eq_getElem hi'⟩
        have hsm := h.small el (List.mem_of_getElem? hel)
        have hpl : p.length ≤ 1 := by rw [hp]; split <;> simp
        have hdl : (datas l 0 (l.out.take i)).length ≤ 2000 := by rw [datas_len]; simp; omega
        have k1 := (fnEData l nilV nilV i el hel (by omega) h.base (by omega)).at [3]; refine z_go ?_
        have a1 : AppH encB (p ++ datas l 0 (l.out.take i)) [dataOf l i el] := .mk; refine z_go ?_
        refine z_go ?_
        refine ⟨_, ?_, _, ⟨i + 1, by omega, rfl, rfl⟩, ?_⟩
        · omega
        · rw [datas_take l hel, ← List.append_assoc]
          exact z_wkt
      · intro hge
        simp only [decide_eq_false_iff_not] at hge
        obtain rfl : i = l.out.length := by omega
        rw [List.take_length]
        refine z_go ?_
        with_reducible first | apply Fin.rt | apply Fin.nx
        rw [show lkTick l = p ++ datas l 0 l.out by rw [hp]; rfl]
        exact .cons (.tmp rfl (DVr.list encB _ rfl (fun q => rfl) rfl rfl)) .nil
end Go.Proofs.Ytdehiohjlbmmdaa
