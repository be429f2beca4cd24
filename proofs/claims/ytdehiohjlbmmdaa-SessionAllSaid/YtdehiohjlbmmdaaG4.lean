/- Sessions: Send. -/
import Derived.Test.YtdehiohjlbmmdaaG3
set_option linter.unusedSimpArgs false
set_option linter.unusedVariables false
namespace Go.Proofs.Ytdehiohjlbmmdaa
open Go.RowKit Go.Sy
/-- what is sent -/
abbrev sendNo (l : Lk) (body : List UInt8) : Bool := l.peer == 0 || decide ((body.length : Int) < 1) || decide ((body.length : Int) > 50) || decide ((l.out.length : Int) ≥ 1024) || decide (l.base + (l.out.length : Int) ≥ 1073741824)
def lkSend (l : Lk) (body : List UInt8) : Lk := if sendNo l body then l else { l with out := l.out ++ [body] }
def frSend (l : Lk) (body : List UInt8) : List UInt8 := if sendNo l body then [] else dataOf l l.out.length body
set_option maxHeartbeats 2000000 in
theorem fnSend' (l : Lk) (h : LkOk l) (body : List UInt8) : Fn1 Try.prog 27 [lkV l, .bytes body] (.tup [lkV (lkSend l body), .bytes (frSend l body)]) := by
  have hn := h.out
  have hbase := h.base
  refine Fn1.of (rs := [lkV (lkSend l body), .bytes (frSend l body)]) (res := [.cell 4 37, .tmp 5]) Try.call27 Try.func27 rfl Try.ntmps27 rfl (by simp) fun c hc => ?_
  refine z_go ?_
  ((with_reducible apply SymL.callB [] (fnOwn l (by omega))); exact z_ren; exact z_evf; exact z_given; decide; exact rfl; exact z_wrB; exact z_ren; exact z_ren)
  refine z_go ?_
  apply Sym.cond
  · rfl
  · intro hs
    rw [show lkSend l body = l from if_pos hs, show frSend l body = [] from if_pos hs]
    refine z_go ?_
    with_reducible first | apply Fin.rt | apply Fin.nx
    exact .cons (.cellA inferInstance rfl rfl rfl (Nat.le_of_ble_eq_true rfl) (.agg (.cons (.of (.of rfl)) (.cons (.of (.of rfl)) (.cons (.of (.of rfl)) (.cons (DVr.list encB _ rfl (fun q => rfl) rfl rfl) (.cons (.of (.of rfl)) (.cons (.of (.of rfl)) .nil)))))))) (.cons (.tmp rfl (.of (.mk rfl .nil))) .nil)
  · intro hs
    have hb : body.length ≤ 50 := by
      simp only [Bool.or_eq_false_iff, decide_eq_false_iff_not] at hs
      omega
    rw [show lkSend l body = { l with out := l.out ++ [body] } from if_neg (by rw [sendNo, hs]; simp), show frSend l body = dataOf l l.out.length body from if_neg (by rw [sendNo, hs]; simp)]
    refine Sym.weak (s' := ⟨[(6, true, .ptr 4 0), (4, true, .ptr 1 0), (1, true, .p (.bytes body))], [none, some ⟨[.p (.x (.int .i64 0)), .p (.x (.int .i64 0)), .p (.x (.bool false)), .p nilV, .p (.x (.int .i64 0)), .p (.x (.int .i64 0))], 37, 0⟩, none, some (rowB l.out), some (eBoxR l 3 nilV nilV)]⟩) z_wkt ?_
    refine z_go ?_
    (apply Sym.drawXL [9, 13] (by kernel_rfl) (by kernel_rfl) (by kernel_rfl))
    have k1 := fnClone1 body (by omega); refine z_xgo ?_
    have a1 : AppH encB l.out [body] := .mk; refine z_xgo ?_
    refine z_xgo ?_
    refine z_go ?_
    ((apply Sym.ice encB 3 (l.out ++ [body])); rfl; rfl; (rw [hc]; first | exact Nat.zero_le _ | decide); (first | (simp only [rowB, eBox, eBoxR, TM.ice, TM.argsD, Hp.ice, D.ice, D.iceL, D.iceL_p, Nat.reduceBEq, Nat.beq, cond_true, cond_false, List.set_cons_zero, List.set_cons_succ, List.length_nil, List.length_cons, Nat.beq_refl]; try exact rfl) | exact rfl); (first | (simp only [rowB, eBox, eBoxR, TM.ice, TM.argsD, Hp.ice, D.ice, D.iceL, D.iceL_p, Nat.reduceBEq, Nat.beq, cond_true, cond_false, List.set_cons_zero, List.set_cons_succ, List.length_nil, List.length_cons, Nat.beq_refl]; try exact rfl) | exact rfl))
    (apply Sym.drawL 13 (by kernel_rfl) (by kernel_rfl))
    have hel : (l.out ++ [body])[l.out.length]? = some body := by simp
    have hal : (l.out ++ [body]).length = l.out.length + 1 := by simp
    have hD : FnR Try.prog 44 [.ptr 0 0, .p (.i (((l.out ++ [body]).length : Int) - 1))] [some (eBox { l with out := l.out ++ [body] } nilV nilV)] (.bytes (dataOf l l.out.length body)) := by
      rw [show (((l.out ++ [body]).length : Int) - 1) = (l.out.length : Int) by simp <;> omega]
      exact fnEData { l with out := l.out ++ [body] } nilV nilV l.out.length body hel (by omega) hbase (by omega)
    have k1 := (hD).at [4]; refine z_mt ?_
    refine z_go ?_
    with_reducible first | apply Fin.rt | apply Fin.nx
    exact .cons (.cellA inferInstance rfl rfl rfl (Nat.le_of_ble_eq_true rfl) (.of (.of rfl))) (.cons (.tmp rfl (.of (.of rfl))) .nil)
theorem fnSend (l : Lk) (h : LkOk l) (body : List UInt8) (_ : body.length ≤ 1000000) : Fn1 Try.prog 27 [lkV l, .bytes body] (.tup [lkV (lkSend l body), .bytes (frSend l body)]) := fnSend' l h body
end Go.Proofs.Ytdehiohjlbmmdaa
