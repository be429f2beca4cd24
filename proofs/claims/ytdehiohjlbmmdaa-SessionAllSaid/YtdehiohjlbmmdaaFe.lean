/- Two frames, alike or not; the live question of the statements on frames. -/
import Derived.Test.YtdehiohjlbmmdaaFd
import Derived.Lib.SlBytesConst
namespace Go.Proofs.Ytdehiohjlbmmdaa
open Go.RowKit Go.Sy
def frSame (f g : Fr) : Bool := decide (f.kind = g.kind ∧ f.frm = g.frm ∧ f.too = g.too ∧ f.num = g.num ∧ f.body = g.body)
theorem frSame_iff (f g : Fr) : frSame f g = true ↔ f = g := by
  unfold frSame
  simp only [decide_eq_true_eq]
  constructor
  · rintro ⟨h1, h2, h3, h4, h5⟩
    cases f; cases g; simp_all
  · rintro rfl; exact ⟨rfl, rfl, rfl, rfl, rfl⟩
set_option maxHeartbeats 1000000 in
theorem same_any {w : World} {v u : Value} {S S' : Nat → Prop} {f g : Fr} (hf : FrV S w v f) (hg : FrV S' w u g) (hlf : f.body.length ≤ 100000000) (hlg : g.body.length ≤ 100000000) :
    Calls Try.prog 23 #[v, u] w (Ret w fun _ r => r = .bool (frSame f g)) := by
  obtain ⟨s, rfl, hs⟩ := hf
  obtain ⟨s', rfl, hs'⟩ := hg
  obtain ⟨k1, k2, k3, k4, l⟩ := f
  obtain ⟨j1, j2, j3, j4, m⟩ := g
  simp only at hs hs' hlf hlg ⊢
  by_cases he : k1 = j1 ∧ k2 = j2 ∧ k3 = j3 ∧ k4 = j4
  · obtain ⟨rfl, rfl, rfl, rfl⟩ := he
    have q1 := conv_bytes (P := Try.prog) (dst := 9) Try.underlying22 Try.underlying5 Try.underlying9 ((hs.ext ((Ext.refl w).alloc (.cells #[.int .i64 k1, .int .i64 k2, .int .i64 k3, .int .i64 k4, s] 24))).ext ((Ext.refl _).alloc (.cells #[.int .i64 k1, .int .i64 k2, .int .i64 k3, .int .i64 k4, s'] 24)))
    have q2 := conv_bytes (P := Try.prog) (dst := 9) Try.underlying22 Try.underlying5 Try.underlying9 ((hs'.ext ((Ext.refl w).alloc (.cells #[.int .i64 k1, .int .i64 k2, .int .i64 k3, .int .i64 k4, s] 24))).ext ((Ext.refl _).alloc (.cells #[.int .i64 k1, .int .i64 k2, .int .i64 k3, .int .i64 k4, s'] 24)))
    obtain ⟨a, c, rfl, _, _⟩ := hs.form
    obtain ⟨a', c', rfl, _, _⟩ := hs'.form
    go_enter Try.func23, Try.ntmps23
    go_wp2
    go_ret
    refine ⟨_, rfl, ?_, ((Ext.refl _).alloc _).alloc _⟩
    refine congrArg Value.bool ((strB_eq l m).trans ?_)
    unfold frSame
    exact decide_eq_decide.2 ⟨fun h => ⟨rfl, rfl, rfl, rfl, h⟩, fun h => h.2.2.2.2⟩
  · obtain ⟨a, c, rfl, _, _⟩ := hs.form
    obtain ⟨a', c', rfl, _, _⟩ := hs'.form
    have hb : frSame ⟨k1, k2, k3, k4, l⟩ ⟨j1, j2, j3, j4, m⟩ = false := by unfold frSame; simp only [decide_eq_false_iff_not]; intro h; exact he ⟨h.1, h.2.1, h.2.2.1, h.2.2.2.1⟩
    rw [hb]
    clear hb
    go_enter Try.func23, Try.ntmps23
    go_wp2
    all_goals
      go_ret
      exact ⟨_, rfl, rfl, ((Ext.refl _).alloc _).alloc _⟩

instance : DecidableEq Fr := fun f g => decidable_of_iff _ (frSame_iff f g)
def f0 : Fr := ⟨2, 258, 3, 65537, [97]⟩
def b0 : List UInt8 := [2, 0, 0, 0, 0, 0, 0, 1, 2, 0, 0, 0, 0, 0, 0, 0, 3, 0, 1, 0, 1, 97]
theorem f0_put : frPut f0 = b0 := by decide +kernel
theorem f0_get : frGet b0 = (f0, true) := by decide +kernel
theorem f0_cut : frGet (b0.take 21) = (Fr.zero, false) := by decide +kernel
theorem hello_put : (frPut ⟨1, 1, 0, 0, []⟩).length = 21 := by decide +kernel
theorem ack_put : (frPut ⟨3, 1, 0, 0, []⟩).length = 0 := by decide +kernel
theorem f0_right : frRight f0 = true := by decide +kernel
theorem zero_right : frRight Fr.zero = false := by decide +kernel
theorem f0_same : frSame f0 f0 = true := by decide +kernel
set_option maxHeartbeats 1000000 in
theorem head19 (w : World) : Calls Try.prog 16 #[] w (Ret w fun _ r => r = .bool true) := by
  have kc := fun (w : World) (C : Array Value) (n c : Nat) => Lib.run_convert_bytes_const (P := Try.prog) w 22 5 C n c Try.underlying22 Try.underlying5
  go_enter Try.func16, Try.ntmps16
  go_wp2_with fail
  have hL : ∀ W, Ext (w.alloc (.cells #[.int .u8 97] 5 (1, 2))) W → Kd.byte.L Any W (.slice (some ⟨w.heap.size, 0, none⟩) 1 1) [97] := fun W e =>
    (Kd.L.ofBlock (S := Any) (heap_alloc_new w (.cells #[.int .u8 97] 5 (1, 2))) (Kd.many_one1 rfl) trivial rfl (Nat.le_refl _) (by simp [maxLen])).ext e
  have HL := Lib.hid hL
  clear hL
  refine (put_any (S := Any) (f := f0) ⟨_, rfl, HL.out _ ((Ext.refl _).alloc _)⟩ (by decide)).mono ?_
  rintro e w2 ⟨r2, rfl, ho2, hx2⟩
  rw [f0_put] at ho2
  obtain ⟨a2, c2, e2, h2a, h2b⟩ := ho2.L.form
  rw [show b0.length = 22 from rfl] at e2 h2a
  subst e2
  unfold maxLen at h2b
  have g1 := get_any ho2.L (by decide)
  rw [f0_get] at g1
  have HG1 := Lib.hid g1
  clear g1
  go_wp2_with fail
  refine HG1.out.mono ?_
  rintro e w3 ⟨v3, u3, rfl, ⟨⟨s3, e3, ho3⟩, rfl⟩, hx3⟩
  obtain ⟨a3, c3, e3', _, _⟩ := ho3.L.form
  subst e3'
  replace e3 : v3 = .agg #[.int .i64 2, .int .i64 258, .int .i64 3, .int .i64 65537, .slice a3 1 c3] := e3
  subst e3
  have hcut : ∀ W, Ext w2 W → Kd.byte.L Any W (.slice a2 21 c2) (b0.take 21) := fun W e => by
    have := (ho2.L.ext e).cut (a := a2) (c := c2) rfl (Nat.zero_le 21) (show 21 ≤ b0.length by decide) a2 (fun _ b o h => by rw [h, Nat.zero_mul, Nat.add_zero])
    simpa using this
  have HC := Lib.hid hcut
  clear hcut
  go_wp2_with fail
  have g2 := get_any (HC.out _ (hx3.alloc (.cells #[.int .i64 2, .int .i64 258, .int .i64 3, .int .i64 65537, .slice a3 1 c3] 24))) (by decide)
  rw [f0_cut] at g2
  refine g2.mono ?_
  rintro e w4 ⟨v4, u4, rfl, ⟨⟨s4, e4, ho4⟩, rfl⟩, hx4⟩
  obtain ⟨a4, c4, e4', _, _⟩ := ho4.L.form
  subst e4'
  replace e4 : v4 = .agg #[.int .i64 0, .int .i64 0, .int .i64 0, .int .i64 0, .slice a4 0 c4] := e4
  subst e4
  have x4 : Ext w3 w4 := (((Ext.refl w3).alloc _).trans hx4)
  have x5 := x4.alloc (.cells #[.int .i64 0, .int .i64 0, .int .i64 0, .int .i64 0, .slice a4 0 c4] 24)
  have hcv := conv_bytes (P := Try.prog) (dst := 9) Try.underlying22 Try.underlying5 Try.underlying9 (ho2.L.ext (hx3.trans x5))
  have hst : (strB b0).toList = [2, 0, 0, 0, 0, 0, 0, 1, 2, 0, 0, 0, 0, 0, 0, 0, 3, 0, 1, 0, 1, 97] := strB_toList b0
  have hbx : (w4.alloc (.cells #[.int .i64 0, .int .i64 0, .int .i64 0, .int .i64 0, .slice a4 0 c4] 24)).heap[w3.heap.size]? = some (.cells #[.int .i64 2, .int .i64 258, .int .i64 3, .int .i64 65537, .slice a3 1 c3] 24) := alloc_old (hx4.heap (alloc_at rfl))
  have hbf : (w4.alloc (.cells #[.int .i64 0, .int .i64 0, .int .i64 0, .int .i64 0, .slice a4 0 c4] 24)).heap[w.heap.size + 1]? = some (.cells #[.int .i64 2, .int .i64 258, .int .i64 3, .int .i64 65537, .slice (some ⟨w.heap.size, 0, none⟩) 1 1] 24) :=
    alloc_old (x4.heap (hx3.heap (hx2.heap (alloc_at (by simp)))))
  obtain ⟨p0, p1, p2, p3, p4⟩ := blk5 hbx
  obtain ⟨q0, q1, q2, q3, q4⟩ := blk5 hbf
  have HBF := Lib.hid hbf
  have hs := same_any (w := w4.alloc (.cells #[.int .i64 0, .int .i64 0, .int .i64 0, .int .i64 0, .slice a4 0 c4] 24)) (S := Any) (S' := Any) (f := f0) (g := f0) ⟨_, rfl, ho3.L.ext x5⟩ ⟨_, rfl, HL.out _ ((((Ext.refl _).alloc _).trans hx2).trans (hx3.trans x5))⟩ (by decide) (by decide)
  rw [f0_same] at hs
  have HS := Lib.hid hs
  clear hbx hbf hs
  go_wp2_with fail
  refine HS.out.mono ?_
  rintro e w5 ⟨_, rfl, rfl, hx5⟩
  go_wp2_with fail
  refine (put_any (S := Any) (f := ⟨1, 1, 0, 0, []⟩) ⟨_, rfl, Kd.L.nil⟩ (by decide)).mono ?_
  rintro e w6 ⟨r6, rfl, ho6, hx6⟩
  obtain ⟨a6, c6, e6, _, _⟩ := ho6.L.form
  rw [hello_put] at e6
  subst e6
  go_wp2_with fail
  refine (put_any (S := Any) (f := ⟨3, 1, 0, 0, []⟩) ⟨_, rfl, Kd.L.nil⟩ (by decide)).mono ?_
  rintro e w7 ⟨r7, rfl, ho7, hx7⟩
  obtain ⟨a7, c7, e7, _, _⟩ := ho7.L.form
  rw [ack_put] at e7
  subst e7
  have hbf := (hx5.trans (hx6.trans hx7)).heap HBF.out
  clear q0 q1 q2 q3 q4
  obtain ⟨q0, q1, q2, q3, q4⟩ := blk5 hbf
  clear hbf
  go_wp2_with fail
  have hr := right_any (w := w7) (S := Any) (f := f0) ⟨_, rfl, HL.out _ ((((Ext.refl _).alloc _).trans hx2).trans (hx3.trans (x5.trans (hx5.trans (hx6.trans hx7)))))⟩ (by decide)
  rw [f0_right] at hr
  refine hr.mono ?_
  rintro e w8 ⟨_, rfl, rfl, hx8⟩
  go_wp2_with fail
  have hz := right_any (w := w8) (S := Any) (f := Fr.zero) ⟨_, rfl, Kd.L.nil⟩ (by decide)
  rw [zero_right] at hz
  refine hz.mono ?_
  rintro e w9 ⟨_, rfl, rfl, hx9⟩
  go_wp2
  go_ret
  exact ⟨_, rfl, rfl, (((Ext.refl w).alloc _).alloc _).trans (hx2.trans (hx3.trans (x5.trans (hx5.trans (hx6.trans (hx7.trans (hx8.trans hx9)))))))⟩
end Go.Proofs.Ytdehiohjlbmmdaa
