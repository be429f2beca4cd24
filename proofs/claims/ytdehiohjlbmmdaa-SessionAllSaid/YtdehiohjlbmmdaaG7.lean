/- Sessions: the document's answer: Send, Take. -/
import Derived.Test.YtdehiohjlbmmdaaG6
set_option linter.unusedSimpArgs false
set_option linter.unusedVariables false
namespace Go.Proofs.Ytdehiohjlbmmdaa
open Go.RowKit Go.Sy
set_option maxHeartbeats 2000000 in
theorem fnRSend (l : Lk) (h : LkOk l) (body : List UInt8) (hb : body.length ≤ 1000000) : Fn1 Try.prog 28 [lkV l, .bytes body] (.tup [lkV (lkSend l body), .bytes (frSend l body)]) := by
  have hn := h.out
  have hbase := h.base
  refine Fn1.of (rs := [lkV (lkSend l body), .bytes (frSend l body)]) (res := [.cell 4 37, .tmp 5]) Try.call28 Try.func28 rfl Try.ntmps28 rfl (by simp) fun c hc => ?_
  refine z_go ?_
  ((with_reducible apply SymL.callB [] (fnROwn l h)); exact z_ren; exact z_evf; exact z_given; decide; exact rfl; exact z_wrB; exact z_ren; exact z_ren)
  refine z_go ?_
  apply Sym.cond
  · rfl
  · intro hs
    rw [show lkSend l body = l from if_pos hs, show frSend l body = [] from if_pos hs]
    refine z_go ?_
    with_reducible first | apply Fin.rt | apply Fin.nx
    exact .cons (.cellA inferInstance rfl rfl rfl (Nat.le_of_ble_eq_true rfl) (.agg (.cons (.of (.of rfl)) (.cons (.of (.of rfl)) (.cons (.of (.of rfl)) (.cons (DVr.list encB _ rfl (fun q => rfl) rfl rfl) (.cons (.of (.of rfl)) (.cons (.of (.of rfl)) .nil)))))))) (.cons (.tmp rfl (.of (.mk rfl .nil))) .nil)
  · intro hs
    rw [show lkSend l body = { l with out := l.out ++ [body] } from if_neg (by rw [sendNo, hs]; simp), show frSend l body = dataOf l l.out.length body from if_neg (by rw [sendNo, hs]; simp)]
    refine Sym.weak (s' := ⟨[(6, true, .ptr 5 0), (4, true, .ptr 1 0), (1, true, .p (.bytes body))], [none, some resZ, none, none, some (rowB l.out), some (lkBoxR l 4)]⟩) z_wkt ?_
    refine z_go ?_
    (apply Sym.drawXL [6, 8] (by kernel_rfl) (by kernel_rfl) (by kernel_rfl))
    have a1 : AppH V.byte [] body := .mk; refine z_xgo ?_
    have a1 : AppH encB l.out [body] := .mk; refine z_xgo ?_
    refine z_xgo ?_
    refine z_go ?_
    ((apply Sym.ice encB 4 (l.out ++ [body])); rfl; rfl; (rw [hc]; first | exact Nat.zero_le _ | decide); (first | (simp only [rowB, eBox, eBoxR, TM.ice, TM.argsD, Hp.ice, D.ice, D.iceL, D.iceL_p, Nat.reduceBEq, Nat.beq, cond_true, cond_false, List.set_cons_zero, List.set_cons_succ, List.length_nil, List.length_cons, Nat.beq_refl]; try exact rfl) | exact rfl); (first | (simp only [rowB, eBox, eBoxR, TM.ice, TM.argsD, Hp.ice, D.ice, D.iceL, D.iceL_p, Nat.reduceBEq, Nat.beq, cond_true, cond_false, List.set_cons_zero, List.set_cons_succ, List.length_nil, List.length_cons, Nat.beq_refl]; try exact rfl) | exact rfl))
    (apply Sym.drawXL [7] (by kernel_rfl) (by kernel_rfl) (by kernel_rfl))
    have hel : (l.out ++ [body])[l.out.length]? = some body := by simp
    have hal : (l.out ++ [body]).length = l.out.length + 1 := by simp
    have k1 := fnRData { l with out := l.out ++ [body] } l.out.length (((l.out ++ [body]).length : Int) - 1) body (by omega) hel (by omega) hbase (by omega); refine z_xgo ?_
    refine z_go ?_
    with_reducible first | apply Fin.rt | apply Fin.nx
    exact .cons (.cellA inferInstance rfl rfl rfl (Nat.le_of_ble_eq_true rfl) (.of (.of rfl))) (.cons (.tmp rfl (.of (.of rfl))) .nil)
end Go.Proofs.Ytdehiohjlbmmdaa
