/- Sessions: the head of layer 20's laws, walked. -/
import Derived.Test.YtdehiohjlbmmdaaGa
import Derived.Test.YtdehiohjlbmmdaaDq
set_option linter.unusedSimpArgs false
set_option linter.unusedVariables false
namespace Go.Proofs.Ytdehiohjlbmmdaa
open Go.RowKit Go.Sy
set_option maxRecDepth 100000 in
set_option maxHeartbeats 4000000 in
theorem fnHead20 : Fn1 Try.prog 24 [] (.b true) := by
  have ok0 : LkOk hdA0 := ⟨by decide, by simp [lkNew], by decide, by decide⟩
  have ok1 : LkOk hdB0 := ⟨by decide, by simp [lkNew], by decide, by decide⟩
  have ok2 : LkOk hdB1 := ⟨by decide, by simp, by decide, by decide⟩
  have ok3 : LkOk hdA1 := ⟨by decide, by simp, by decide, by decide⟩
  have ok4 : LkOk hdA2 := ⟨by decide, by simp, by decide, by decide⟩
  have ok5 : LkOk hdB2 := ⟨by decide, by simp, by decide, by decide⟩
  have ok6 : LkOk hdC := ⟨by decide, by simp, by decide, by decide⟩
  have l1 : (helloOf hdA0).length ≤ 100000000 := by decide +kernel
  have l2 : (helloOf hdB1).length ≤ 100000000 := by decide +kernel
  have l3 : hdF.length ≤ 100000000 := by decide +kernel
  have l4 : (ackOf hdB2).length ≤ 100000000 := by decide +kernel
  have k1 := fnNew 5
  have k2 := fnNew 9
  have k3 := fnTick hdA0 ok0
  rw [hd1] at k3
  have k4 := fnSend hdA0 ok0 [120] (by decide)
  rw [hd2.1, hd2.2] at k4
  have k5 := fnTake hdB0 ok1 (helloOf hdA0) l1
  rw [hd3.1, hd3.2.1, hd3.2.2.1, hd3.2.2.2] at k5
  have k6 := fnTake hdA0 ok0 (helloOf hdB1) l2
  rw [hd4.1, hd4.2.1, hd4.2.2.1, hd4.2.2.2] at k6
  have k7 := fnSend hdA1 ok3 [120] (by decide)
  rw [hd5.1, hd5.2] at k7
  have k8 := fnTake hdB1 ok2 hdF l3
  rw [hd6.1, hd6.2.1, hd6.2.2.1, hd6.2.2.2] at k8
  have k9 := fnTake hdB2 ok5 hdF l3
  rw [hd7.1, hd7.2.1, hd7.2.2.1, hd7.2.2.2] at k9
  have k10 := fnTake hdA2 ok4 (ackOf hdB2) l4
  rw [hd8.1, hd8.2.1, hd8.2.2.1, hd8.2.2.2] at k10
  have k11 := fnTick hdA2 ok4
  rw [show lkTick hdA2 = [dataOf hdA2 0 [120]] from rfl] at k11
  have k12 := fnTick hdC ok6
  rw [show lkTick hdC = [] from rfl] at k12
  generalize helloOf hdA0 = m1 at *
  generalize helloOf hdB1 = m2 at *
  generalize hdF = m3 at *
  generalize ackOf hdB2 = m4 at *
  generalize dataOf hdA2 0 [120] = m5 at *
  refine Fn1.of (rs := [.b true]) (res := [.tmp 0]) Try.call24 Try.func24 rfl Try.ntmps24 rfl (by simp) fun c hc => ?_
  have k1 := k1; have k2 := k2; have k3 := k3; have k4 := k4; refine z_go ?_
  apply Sym.condF
  · rfl
  refine z_go ?_
  (apply Sym.drawXL [10] (by kernel_rfl) (by kernel_rfl) (by kernel_rfl))
  have k1 := k5; refine z_xgo ?_
  refine z_go ?_
  apply Sym.condF
  · rfl
  refine z_go ?_
  (apply Sym.drawXL [10] (by kernel_rfl) (by kernel_rfl) (by kernel_rfl))
  have k1 := k6; refine z_xgo ?_
  have k1 := k7; have k2 := k8; have k3 := k9; refine z_go ?_
  apply Sym.condF
  · rfl
  refine z_go ?_
  (apply Sym.drawXL [10, 11] (by kernel_rfl) (by kernel_rfl) (by kernel_rfl))
  have k1 := k10; refine z_xgo ?_
  refine z_go ?_
  simp only [List.append]
  have k1 := k11; have k2 := k12; refine z_go ?_
  with_reducible first | apply Fin.rt | apply Fin.nx
  refine .cons (.tmp rfl (.of (.of ?_))) .nil
  have hstr : ((strB [120]).toList == (⟨#[120]⟩ : ByteArray).toList) = true := beq_self_eq_true _
  simp only [D.toV, Option.some.injEq, V.x.injEq, Value.bool.injEq, hstr]
  rfl
end Go.Proofs.Ytdehiohjlbmmdaa
