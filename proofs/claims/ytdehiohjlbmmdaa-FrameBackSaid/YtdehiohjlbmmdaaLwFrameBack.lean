/- FrameBack: a right frame is got from its bytes. The walk of the law. -/
import Derived.Test.YtdehiohjlbmmdaaFp
import Derived.Test.YtdehiohjlbmmdaaRv
import Derived.Test.YtdehiohjlbmmdaaLn
namespace Go.Proofs.Ytdehiohjlbmmdaa
open Go.RowKit Go.Sy
def rdB (i : Nat) : List Tmp := match i with
  | 0 => [73] | 1 => [74] | 2 => [75] | 3 => [76] | 4 => [77] | 5 => [78] | 6 => [79] | 7 => [80] | 8 => [81] | 9 => [82] | 10 => [83] | 11 => [84] | 12 => [85] | 13 => [4] | _ => []
def phiB (ag : Value) (ab : Option Addr) (cb : Nat) (l : List UInt8) (B : Nat) (i : Nat) (vs : List Value) (w : World) : Prop := match i with
  | 0 | 1 | 3 | 4 | 5 | 11 | 12 | 13 => vs = [.bool true]
  | 2 | 6 => vs = [ag]
  | 7 => ∃ a' c', vs = [.slice a' l.length c'] ∧ Kd.byte.Own 5 w B (.slice a' l.length c') l
  | 8 | 10 => vs = [.string (strB l)]
  | 9 => vs = [.slice ab l.length cb]
  | _ => True
theorem phiB_ext (ag : Value) (ab : Option Addr) (cb : Nat) (l : List UInt8) (B : Nat) : ∀ i vs w w', phiB ag ab cb l B i vs w → Ext w w' → phiB ag ab cb l B i vs w' := by
  intro i vs w w' h e
  unfold phiB at h ⊢
  split at h <;> first | exact h | skip
  obtain ⟨a', c', h1, h2⟩ := h
  exact ⟨a', c', h1, h2.ext e⟩
theorem phiB_guard (ag : Value) (ab : Option Addr) (cb : Nat) (l : List UInt8) (B : Nat) : ∀ (g : Nat) (b : Bool), ((g == 1 || g == 5) && b) = true → ∀ vs w, phiB ag ab cb l B g vs w → vs = [.bool b] := by
  intro g b h vs w hp
  simp only [Bool.and_eq_true, Bool.or_eq_true, beq_iff_eq] at h
  obtain ⟨rfl | rfl, rfl⟩ := h <;> exact hp
attribute [local go_sem ↓] Go.wp_at_zero Go.wp_at_succ
theorem frGet_false {l : List UInt8} (h : (frGet l).2 = false) : frGet l = (Fr.zero, false) := by
  unfold frGet at h ⊢
  split
  · rfl
  · rename_i h1
    rw [if_neg h1] at h
    split
    · rename_i h2; rw [if_pos h2] at h; cases h
    · rfl
theorem frGet_body (l : List UInt8) (h : l.length ≤ 900) : (frGet l).1.body.length ≤ 900 := by
  unfold frGet
  split
  · exact Nat.zero_le _
  · split
    · show (l.drop 21).length ≤ 900; rw [List.length_drop]; omega
    · exact Nat.zero_le _
set_option maxHeartbeats 4000000 in
theorem FrameBack_main {w : World} {va vb : Value} {a : Fr} {l : List UInt8} (ha : FrV Any w va a) (hb : Kd.byte.L Any w vb l) (hla : a.body.length ≤ 900) (hlb : l.length ≤ 900) :
    Calls Try.prog 4 #[va, vb] w fun e w' => e = .returned (.bool true) ∧ Below w.heap.size w w' := by
  obtain ⟨sa, rfl, ha⟩ := ha
  obtain ⟨aa, ca, rfl, a1, a2⟩ := ha.form
  obtain ⟨ab, cb, rfl, b1, b2⟩ := hb.form
  have e1 : Ext w (w.alloc (.cells #[.int .i64 a.kind, .int .i64 a.frm, .int .i64 a.too, .int .i64 a.num, .slice aa a.body.length ca] 24)) := (Ext.refl w).alloc _
  have HA := Lib.hid (heap_alloc_new w (.cells #[.int .i64 a.kind, .int .i64 a.frm, .int .i64 a.too, .int .i64 a.num, .slice aa a.body.length ca] 24))
  have z1 : (a.body.length : Int) ≤ 900 := by omega
  have z2 : (l.length : Int) ≤ 900 := by omega
  go_enter Try.func4, Try.ntmps4
  go_wp2_with fail
  refine (head19 _).mono ?_
  rintro e w1 ⟨_, rfl, rfl, hx1⟩
  have ex := e1.trans hx1
  have ga := hx1.heap HA.out
  have GA := Lib.hid ga
  obtain ⟨g0, g1, g2, g3, g4⟩ := blk5 ga
  clear ga HA hx1 e1
  go_wp2_with fail
  have p1 := put_any (w := w1) (S := Any) (f := a) ⟨_, rfl, ha.ext ex⟩ (by omega)
  refine p1.mono ?_
  clear p1
  rintro e w2 ⟨rx, rfl, hox, hx2⟩
  obtain ⟨ax, cx, rfl, x1, x2⟩ := hox.L.form
  have ex := ex.trans hx2
  have ga := hx2.heap GA.out
  have GA := Lib.hid ga
  clear g0 g1 g2 g3 g4 ga hx2
  have p1 := get_any hox.L (by rw [frPut_length]; split <;> omega)
  have la := frPut_length a
  cases hR : frRight a
  · rw [hR] at la
    rw [frPut_none hR, frGet_nil] at p1
    rw [if_neg (by decide)] at la
    rw [List.length_nil] at p1
    rw [la]
    have P1 := Lib.hid p1
    clear p1
    go_wp2_with fail
    refine P1.out.mono ?_
    rintro e w3 ⟨v3, u3, rfl, ⟨⟨s3, e3, ho3⟩, rfl⟩, hx3⟩
    subst e3
    obtain ⟨a3, c3, rfl, _, _⟩ := ho3.L.form
    have ex := ex.trans hx3
    have hlt3 : w.heap.size < w3.heap.size := (Array.getElem?_eq_some_iff.1 (hx3.heap GA.out)).1
    obtain ⟨g0, g1, g2, g3, g4⟩ := blk5 (hx3.heap GA.out)
    have pr := fun W (h : Ext w3 W) => right_any (w := W) (S := Any) (f := a) ⟨_, rfl, (ha.ext ex).ext h⟩ (by omega)
    rw [hR] at pr
    have PR := Lib.hid pr
    clear pr P1 hox ho3 hR x1 x2 la
    have GA := Lib.hid (hx3.heap GA.out)
    clear hx3
    go_wp2_with fail
    refine (PR.out _ ((Ext.refl _).alloc _)).mono ?_
    rintro e w4 ⟨_, rfl, rfl, hx4⟩
    have ex4 := ((Ext.refl w3).alloc _).trans hx4
    have GA := Lib.hid (ex4.heap GA.out)
    clear g0 g1 g2 g3 g4 hx4
    obtain ⟨g0, g1, g2, g3, g4⟩ := blk5 GA.out
    have ex6 := ex.trans ex4
    go_wp2_with fail
    have q1 := get_any (hb.ext ex6) (by omega)
    cases hI : (frGet l).2
    · rw [frGet_false hI] at q1
      clear hI
      refine q1.mono ?_
      clear q1
      rintro e w6 ⟨v6, u6, rfl, ⟨⟨s6, e6, ho6⟩, rfl⟩, hx6⟩
      subst e6
      obtain ⟨a6, c6, rfl, _, _⟩ := ho6.L.form
      have ps := fun W (h : Ext w6 W) => same_any (w := W) (S := Any) (S' := Any) (f := Fr.zero) (g := Fr.zero) ⟨_, rfl, ho6.L.any.ext h⟩ ⟨_, rfl, Kd.L.nil⟩ (by decide) (by decide)
      rw [(frSame_iff _ _).2 rfl] at ps
      have PS2 := Lib.hid ps
      clear ps ho6 g0 g1 g2 g3 g4
      have ex7 := ex6.trans hx6
      clear hx6
      go_wp2_with fail
      refine (PS2.out _ ((Ext.refl _).alloc _)).mono ?_
      rintro e w7 ⟨_, rfl, rfl, hx7⟩
      go_wp2
      go_ret
      exact ⟨rfl, ex7.trans (((Ext.refl _).alloc _).trans hx7)⟩
    · have hg := frPut_get l hI
      have hgl := frGet_body l hlb
      rw [show frGet l = ((frGet l).1, true) from by rw [← hI]] at q1
      generalize (frGet l).1 = y at *
      clear hI
      refine q1.mono ?_
      clear q1
      rintro e w6 ⟨v6, u6, rfl, ⟨⟨s6, e6, ho6⟩, rfl⟩, hx6⟩
      subst e6
      obtain ⟨a6, c6, rfl, _, _⟩ := ho6.L.form
      have pr := fun W (h : Ext w6 W) => right_any (w := W) (S := Any) (f := y) ⟨_, rfl, ho6.L.any.ext h⟩ (by omega)
      rw [hg.1] at pr
      have pp := fun W (h : Ext w6 W) => put_any (w := W) (S := Any) (f := y) ⟨_, rfl, ho6.L.any.ext h⟩ (by omega)
      rw [hg.2] at pp
      have CY : ∀ W, Ext w6 W → _ := fun W h => conv_bytes (P := Try.prog) (w := W) (dst := 9) Try.underlying22 Try.underlying5 Try.underlying9 ((hb.ext (ex6.trans hx6)).ext h)
      have PR2 := Lib.hid pr
      have PP2 := Lib.hid pp
      have CYH := Lib.hid CY
      have CB : ∀ (W : World) (B : Nat) (v : Value), Kd.byte.Own 5 W B v l → _ := fun W B v h => conv_bytes (P := Try.prog) (w := W) (dst := 9) Try.underlying22 Try.underlying5 Try.underlying9 h.L
      have CBH := Lib.hid CB
      clear pr pp CY CB ho6 g0 g1 g2 g3 g4 hg
      have ex7 := ex6.trans hx6
      clear hx6
      go_wp2_with fail
      have hbz := heap_alloc_new w6 (.cells #[.int .i64 y.kind, .int .i64 y.frm, .int .i64 y.too, .int .i64 y.num, .slice a6 y.body.length c6] 24)
      obtain ⟨y0, y1, y2, y3, y4⟩ := blk5 hbz
      have ge : Ext w6 (w6.alloc (.cells #[.int .i64 y.kind, .int .i64 y.frm, .int .i64 y.too, .int .i64 y.num, .slice a6 y.body.length c6] 24)).drew := ((Ext.refl w6).alloc _).drew
      have GE := Lib.hid ge
      have gd := (Ext.refl (w6.alloc (.cells #[.int .i64 y.kind, .int .i64 y.frm, .int .i64 y.too, .int .i64 y.num, .slice a6 y.body.length c6] 24))).drew
      have GD := Lib.hid gd
      clear ge gd hbz
      refine wp_region_monoGA (fun g b => (g == 1 || g == 5) && b) (rd := rdB) (φ := phiB (.agg #[.int .i64 y.kind, .int .i64 y.frm, .int .i64 y.too, .int .i64 y.num, .slice a6 y.body.length c6]) ab cb l 0) (by kernel_rfl) (by kernel_rfl) (phiB_guard _ _ _ _ _) (phiB_ext _ _ _ _ _) ?_ ?_
      · repeat' (first | exact MSteps.nil _ | refine MSteps.cons ?_ ?_)
        · refine StepOk.pure fun a w' hx hf hp => ?_
          have f1 := hf.same 1 (by kernel_rfl)
          have f5 := hf.same 5 (by kernel_rfl)
          have f9 := hf.same 9 (by kernel_rfl)
          have hsz := Lib.hid (show a.tmps.size = 86 from hf.size)
          clear hf
          simp [phiB, rdB, valsAt] at hp f1 f5 f9
          refine ⟨_, by go_simp; rfl, ?_⟩
          show phiB _ _ _ _ _ 0 (valsAt (a.put (some 73) _) [73]) _
          rw [valsAt_put (by rw [hsz.out]; decide)]
          rfl
        · refine StepOk.pure fun a w' hx hf hp => ?_
          have f1 := hf.same 1 (by kernel_rfl)
          have f5 := hf.same 5 (by kernel_rfl)
          have f9 := hf.same 9 (by kernel_rfl)
          have hsz := Lib.hid (show a.tmps.size = 86 from hf.size)
          clear hf
          simp [phiB, rdB, valsAt] at hp f1 f5 f9
          refine ⟨_, by go_simp; rfl, ?_⟩
          show phiB _ _ _ _ _ 1 (valsAt (a.put (some 74) _) [74]) _
          rw [valsAt_put (by rw [hsz.out]; decide)]
          rfl
        · refine StepOk.pure fun a w' hx hf hp => ?_
          have f1 := hf.same 1 (by kernel_rfl)
          have f5 := hf.same 5 (by kernel_rfl)
          have f9 := hf.same 9 (by kernel_rfl)
          have hsz := Lib.hid (show a.tmps.size = 86 from hf.size)
          clear hf
          have hcc := ((Ext.refl _).drew).trans hx
          have m0 := hcc.cell y0
          have m1 := hcc.cell y1
          have m2 := hcc.cell y2
          have m3 := hcc.cell y3
          have m4 := hcc.cell y4
          clear hcc
          simp [phiB, rdB, valsAt] at hp f1 f5 f9
          refine ⟨_, by go_simp; rfl, ?_⟩
          show phiB _ _ _ _ _ 2 (valsAt (a.put (some 75) _) [75]) _
          rw [valsAt_put (by rw [hsz.out]; decide)]
          rfl
        · intro a w' hx hf hp
          have hsz := Lib.hid (show a.tmps.size = 86 from hf.size)
          clear hf
          have hxx : Ext w6 w' := GE.out.trans hx
          simp [phiB, rdB, valsAt] at hp
          go_simp
          refine (PR2.out _ hxx).mono ?_
          rintro e w8 ⟨_, rfl, rfl, hx8⟩
          refine ⟨_, rfl, hx8, ?_⟩
          show phiB _ _ _ _ _ 3 (valsAt (a.put (some 76) _) [76]) _
          rw [valsAt_put (by rw [hsz.out]; decide)]
          rfl
        · refine StepOk.pure fun a w' hx hf hp => ?_
          have f1 := hf.same 1 (by kernel_rfl)
          have f5 := hf.same 5 (by kernel_rfl)
          have f9 := hf.same 9 (by kernel_rfl)
          have hsz := Lib.hid (show a.tmps.size = 86 from hf.size)
          clear hf
          simp [phiB, rdB, valsAt] at hp f1 f5 f9
          refine ⟨_, by go_simp; rfl, ?_⟩
          show phiB _ _ _ _ _ 4 (valsAt (a.put (some 77) _) [77]) _
          rw [valsAt_put (by rw [hsz.out]; decide)]
          rfl
        · refine StepOk.pure fun a w' hx hf hp => ?_
          have f1 := hf.same 1 (by kernel_rfl)
          have f5 := hf.same 5 (by kernel_rfl)
          have f9 := hf.same 9 (by kernel_rfl)
          have hsz := Lib.hid (show a.tmps.size = 86 from hf.size)
          clear hf
          simp [phiB, rdB, valsAt] at hp f1 f5 f9
          refine ⟨_, by go_simp; rfl, ?_⟩
          show phiB _ _ _ _ _ 5 (valsAt (a.put (some 78) _) [78]) _
          rw [valsAt_put (by rw [hsz.out]; decide)]
          rfl
        · refine StepOk.pure fun a w' hx hf hp => ?_
          have f1 := hf.same 1 (by kernel_rfl)
          have f5 := hf.same 5 (by kernel_rfl)
          have f9 := hf.same 9 (by kernel_rfl)
          have hsz := Lib.hid (show a.tmps.size = 86 from hf.size)
          clear hf
          have hcc := ((Ext.refl _).drew).trans hx
          have m0 := hcc.cell y0
          have m1 := hcc.cell y1
          have m2 := hcc.cell y2
          have m3 := hcc.cell y3
          have m4 := hcc.cell y4
          clear hcc
          simp [phiB, rdB, valsAt] at hp f1 f5 f9
          refine ⟨_, by go_simp; rfl, ?_⟩
          show phiB _ _ _ _ _ 6 (valsAt (a.put (some 79) _) [79]) _
          rw [valsAt_put (by rw [hsz.out]; decide)]
          rfl
        · intro a w' hx hf hp
          have hsz := Lib.hid (show a.tmps.size = 86 from hf.size)
          clear hf
          have hxx : Ext w6 w' := GE.out.trans hx
          simp [phiB, rdB, valsAt] at hp
          go_simp
          refine (PP2.out _ hxx).mono ?_
          rintro e w8 ⟨r8, rfl, ho8, hx8⟩
          obtain ⟨a8, c8, rfl, _, _⟩ := ho8.L.form
          refine ⟨_, rfl, hx8, ?_⟩
          show phiB _ _ _ _ _ 7 (valsAt (a.put (some 80) _) [80]) _
          rw [valsAt_put (by rw [hsz.out]; decide)]
          exact ⟨_, _, rfl, ho8.base (Nat.zero_le _)⟩
        · refine StepOk.pure fun a w' hx hf hp => ?_
          have hsz := Lib.hid (show a.tmps.size = 86 from hf.size)
          clear hf
          have p7 := hp ⟨7, .data⟩ (by simp)
          have p5 := hp ⟨5, .guard⟩ (by simp)
          clear hp
          simp [phiB, rdB, valsAt] at p7 p5
          obtain ⟨a', c', p7, ho⟩ := p7
          have hq := CBH.out _ _ _ ho
          refine ⟨_, by go_simp; rfl, ?_⟩
          show phiB _ _ _ _ _ 8 (valsAt (a.put (some 81) _) [81]) _
          rw [valsAt_put (by rw [hsz.out]; decide)]
          rfl
        · refine StepOk.pure fun a w' hx hf hp => ?_
          have f1 := hf.same 1 (by kernel_rfl)
          have f5 := hf.same 5 (by kernel_rfl)
          have f9 := hf.same 9 (by kernel_rfl)
          have hsz := Lib.hid (show a.tmps.size = 86 from hf.size)
          clear hf
          simp [phiB, rdB, valsAt] at hp f1 f5 f9
          refine ⟨_, by go_simp; rfl, ?_⟩
          show phiB _ _ _ _ _ 9 (valsAt (a.put (some 82) _) [82]) _
          rw [valsAt_put (by rw [hsz.out]; decide)]
          rfl
        · refine StepOk.pure fun a w' hx hf hp => ?_
          have f1 := hf.same 1 (by kernel_rfl)
          have f5 := hf.same 5 (by kernel_rfl)
          have f9 := hf.same 9 (by kernel_rfl)
          have hsz := Lib.hid (show a.tmps.size = 86 from hf.size)
          clear hf
          have hq := CYH.out _ (GE.out.trans hx)
          simp [phiB, rdB, valsAt] at hp f1 f5 f9
          refine ⟨_, by go_simp; rfl, ?_⟩
          show phiB _ _ _ _ _ 10 (valsAt (a.put (some 83) _) [83]) _
          rw [valsAt_put (by rw [hsz.out]; decide)]
          rfl
        · refine StepOk.pure fun a w' hx hf hp => ?_
          have f1 := hf.same 1 (by kernel_rfl)
          have f5 := hf.same 5 (by kernel_rfl)
          have f9 := hf.same 9 (by kernel_rfl)
          have hsz := Lib.hid (show a.tmps.size = 86 from hf.size)
          clear hf
          simp [phiB, rdB, valsAt] at hp f1 f5 f9
          refine ⟨_, by go_simp; rfl, ?_⟩
          show phiB _ _ _ _ _ 11 (valsAt (a.put (some 84) _) [84]) _
          rw [valsAt_put (by rw [hsz.out]; decide)]
          rfl
        · refine StepOk.pure fun a w' hx hf hp => ?_
          have f1 := hf.same 1 (by kernel_rfl)
          have f5 := hf.same 5 (by kernel_rfl)
          have f9 := hf.same 9 (by kernel_rfl)
          have hsz := Lib.hid (show a.tmps.size = 86 from hf.size)
          clear hf
          simp [phiB, rdB, valsAt] at hp f1 f5 f9
          refine ⟨_, by go_simp; rfl, ?_⟩
          show phiB _ _ _ _ _ 12 (valsAt (a.put (some 85) _) [85]) _
          rw [valsAt_put (by rw [hsz.out]; decide)]
          rfl
        · refine StepOk.pure fun a w' hx hf hp => ?_
          have f1 := hf.same 1 (by kernel_rfl)
          have f5 := hf.same 5 (by kernel_rfl)
          have f9 := hf.same 9 (by kernel_rfl)
          have hsz := Lib.hid (show a.tmps.size = 86 from hf.size)
          clear hf
          simp [phiB, rdB, valsAt] at hp f1 f5 f9
          refine ⟨_, by go_simp; rfl, ?_⟩
          show phiB _ _ _ _ _ 13 (valsAt (a.put (some 4) _) [4]) _
          rw [valsAt_put (by rw [hsz.out]; decide)]
          rfl
      · intro a w' hx hf hp
        have p13 := hp 13 (by decide)
        have hdf := hf.defers
        dsimp only at hdf
        clear hf hp
        simp [phiB, rdB, valsAt] at p13
        go_wp2_with fail
        refine bodyPost_ret (results_tmp rfl _ _ _) hdf ?_
        exact ⟨by simp [p13], ex7.trans (GE.out.trans hx)⟩
  · rw [hR, if_pos rfl] at la
    rw [frGet_put a hR] at p1
    rw [la] at p1 ⊢
    have P1 := Lib.hid p1
    clear p1
    go_wp2_with fail
    refine P1.out.mono ?_
    rintro e w3 ⟨v3, u3, rfl, ⟨⟨s3, e3, ho3⟩, rfl⟩, hx3⟩
    subst e3
    obtain ⟨a3, c3, rfl, _, _⟩ := ho3.L.form
    have ex := ex.trans hx3
    have hlt3 : w.heap.size < w3.heap.size := (Array.getElem?_eq_some_iff.1 (hx3.heap GA.out)).1
    obtain ⟨g0, g1, g2, g3, g4⟩ := blk5 (hx3.heap GA.out)
    have pr := fun W (h : Ext w3 W) => right_any (w := W) (S := Any) (f := a) ⟨_, rfl, (ha.ext ex).ext h⟩ (by omega)
    have ps := fun W (h : Ext w3 W) => same_any (w := W) (S := Any) (S' := Any) (f := a) (g := a) ⟨_, rfl, ho3.L.any.ext h⟩ ⟨_, rfl, (ha.ext ex).ext h⟩ (by omega) (by omega)
    rw [hR] at pr
    rw [(frSame_iff a a).2 rfl] at ps
    have PR := Lib.hid pr
    have PS := Lib.hid ps
    clear pr ps P1 hox ho3 hR x1 x2 la
    have GA := Lib.hid (hx3.heap GA.out)
    clear hx3
    go_wp2_with fail
    refine (PR.out _ ((Ext.refl _).alloc _)).mono ?_
    rintro e w4 ⟨_, rfl, rfl, hx4⟩
    have hby := hx4.heap (alloc_at (w := w3) rfl)
    obtain ⟨y0, y1, y2, y3, y4⟩ := blk5 hby
    have ex4 := ((Ext.refl w3).alloc _).trans hx4
    have GA := Lib.hid (ex4.heap GA.out)
    clear g0 g1 g2 g3 g4 hby hx4
    obtain ⟨g0, g1, g2, g3, g4⟩ := blk5 GA.out
    go_wp2_with fail
    refine (PS.out _ ex4).mono ?_
    rintro e w5 ⟨_, rfl, rfl, hx5⟩
    have ex5 := ex4.trans hx5
    have GA := Lib.hid (hx5.heap GA.out)
    clear g0 g1 g2 g3 g4 y0 y1 y2 y3 y4
    obtain ⟨g0, g1, g2, g3, g4⟩ := blk5 GA.out
    have ex6 := ex.trans ex5
    go_wp2_with fail
    have q1 := get_any (hb.ext ex6) (by omega)
    cases hI : (frGet l).2
    · rw [frGet_false hI] at q1
      clear hI
      refine q1.mono ?_
      clear q1
      rintro e w6 ⟨v6, u6, rfl, ⟨⟨s6, e6, ho6⟩, rfl⟩, hx6⟩
      subst e6
      obtain ⟨a6, c6, rfl, _, _⟩ := ho6.L.form
      have ps := fun W (h : Ext w6 W) => same_any (w := W) (S := Any) (S' := Any) (f := Fr.zero) (g := Fr.zero) ⟨_, rfl, ho6.L.any.ext h⟩ ⟨_, rfl, Kd.L.nil⟩ (by decide) (by decide)
      rw [(frSame_iff _ _).2 rfl] at ps
      have PS2 := Lib.hid ps
      clear ps ho6 g0 g1 g2 g3 g4
      have ex7 := ex6.trans hx6
      clear hx6
      go_wp2_with fail
      refine (PS2.out _ ((Ext.refl _).alloc _)).mono ?_
      rintro e w7 ⟨_, rfl, rfl, hx7⟩
      go_wp2
      go_ret
      exact ⟨rfl, ex7.trans (((Ext.refl _).alloc _).trans hx7)⟩
    · have hg := frPut_get l hI
      have hgl := frGet_body l hlb
      rw [show frGet l = ((frGet l).1, true) from by rw [← hI]] at q1
      generalize (frGet l).1 = y at *
      clear hI
      refine q1.mono ?_
      clear q1
      rintro e w6 ⟨v6, u6, rfl, ⟨⟨s6, e6, ho6⟩, rfl⟩, hx6⟩
      subst e6
      obtain ⟨a6, c6, rfl, _, _⟩ := ho6.L.form
      have pr := fun W (h : Ext w6 W) => right_any (w := W) (S := Any) (f := y) ⟨_, rfl, ho6.L.any.ext h⟩ (by omega)
      rw [hg.1] at pr
      have pp := fun W (h : Ext w6 W) => put_any (w := W) (S := Any) (f := y) ⟨_, rfl, ho6.L.any.ext h⟩ (by omega)
      rw [hg.2] at pp
      have CY : ∀ W, Ext w6 W → _ := fun W h => conv_bytes (P := Try.prog) (w := W) (dst := 9) Try.underlying22 Try.underlying5 Try.underlying9 ((hb.ext (ex6.trans hx6)).ext h)
      have PR2 := Lib.hid pr
      have PP2 := Lib.hid pp
      have CYH := Lib.hid CY
      have CB : ∀ (W : World) (B : Nat) (v : Value), Kd.byte.Own 5 W B v l → _ := fun W B v h => conv_bytes (P := Try.prog) (w := W) (dst := 9) Try.underlying22 Try.underlying5 Try.underlying9 h.L
      have CBH := Lib.hid CB
      clear pr pp CY CB ho6 g0 g1 g2 g3 g4 hg
      have ex7 := ex6.trans hx6
      clear hx6
      go_wp2_with fail
      have hbz := heap_alloc_new w6 (.cells #[.int .i64 y.kind, .int .i64 y.frm, .int .i64 y.too, .int .i64 y.num, .slice a6 y.body.length c6] 24)
      obtain ⟨y0, y1, y2, y3, y4⟩ := blk5 hbz
      have ge : Ext w6 (w6.alloc (.cells #[.int .i64 y.kind, .int .i64 y.frm, .int .i64 y.too, .int .i64 y.num, .slice a6 y.body.length c6] 24)).drew := ((Ext.refl w6).alloc _).drew
      have GE := Lib.hid ge
      have gd := (Ext.refl (w6.alloc (.cells #[.int .i64 y.kind, .int .i64 y.frm, .int .i64 y.too, .int .i64 y.num, .slice a6 y.body.length c6] 24))).drew
      have GD := Lib.hid gd
      clear ge gd hbz
      refine wp_region_monoGA (fun g b => (g == 1 || g == 5) && b) (rd := rdB) (φ := phiB (.agg #[.int .i64 y.kind, .int .i64 y.frm, .int .i64 y.too, .int .i64 y.num, .slice a6 y.body.length c6]) ab cb l 0) (by kernel_rfl) (by kernel_rfl) (phiB_guard _ _ _ _ _) (phiB_ext _ _ _ _ _) ?_ ?_
      · repeat' (first | exact MSteps.nil _ | refine MSteps.cons ?_ ?_)
        · refine StepOk.pure fun a w' hx hf hp => ?_
          have f1 := hf.same 1 (by kernel_rfl)
          have f5 := hf.same 5 (by kernel_rfl)
          have f9 := hf.same 9 (by kernel_rfl)
          have hsz := Lib.hid (show a.tmps.size = 86 from hf.size)
          clear hf
          simp [phiB, rdB, valsAt] at hp f1 f5 f9
          refine ⟨_, by go_simp; rfl, ?_⟩
          show phiB _ _ _ _ _ 0 (valsAt (a.put (some 73) _) [73]) _
          rw [valsAt_put (by rw [hsz.out]; decide)]
          rfl
        · refine StepOk.pure fun a w' hx hf hp => ?_
          have f1 := hf.same 1 (by kernel_rfl)
          have f5 := hf.same 5 (by kernel_rfl)
          have f9 := hf.same 9 (by kernel_rfl)
          have hsz := Lib.hid (show a.tmps.size = 86 from hf.size)
          clear hf
          simp [phiB, rdB, valsAt] at hp f1 f5 f9
          refine ⟨_, by go_simp; rfl, ?_⟩
          show phiB _ _ _ _ _ 1 (valsAt (a.put (some 74) _) [74]) _
          rw [valsAt_put (by rw [hsz.out]; decide)]
          rfl
        · refine StepOk.pure fun a w' hx hf hp => ?_
          have f1 := hf.same 1 (by kernel_rfl)
          have f5 := hf.same 5 (by kernel_rfl)
          have f9 := hf.same 9 (by kernel_rfl)
          have hsz := Lib.hid (show a.tmps.size = 86 from hf.size)
          clear hf
          have hcc := ((Ext.refl _).drew).trans hx
          have m0 := hcc.cell y0
          have m1 := hcc.cell y1
          have m2 := hcc.cell y2
          have m3 := hcc.cell y3
          have m4 := hcc.cell y4
          clear hcc
          simp [phiB, rdB, valsAt] at hp f1 f5 f9
          refine ⟨_, by go_simp; rfl, ?_⟩
          show phiB _ _ _ _ _ 2 (valsAt (a.put (some 75) _) [75]) _
          rw [valsAt_put (by rw [hsz.out]; decide)]
          rfl
        · intro a w' hx hf hp
          have hsz := Lib.hid (show a.tmps.size = 86 from hf.size)
          clear hf
          have hxx : Ext w6 w' := GE.out.trans hx
          simp [phiB, rdB, valsAt] at hp
          go_simp
          refine (PR2.out _ hxx).mono ?_
          rintro e w8 ⟨_, rfl, rfl, hx8⟩
          refine ⟨_, rfl, hx8, ?_⟩
          show phiB _ _ _ _ _ 3 (valsAt (a.put (some 76) _) [76]) _
          rw [valsAt_put (by rw [hsz.out]; decide)]
          rfl
        · refine StepOk.pure fun a w' hx hf hp => ?_
          have f1 := hf.same 1 (by kernel_rfl)
          have f5 := hf.same 5 (by kernel_rfl)
          have f9 := hf.same 9 (by kernel_rfl)
          have hsz := Lib.hid (show a.tmps.size = 86 from hf.size)
          clear hf
          simp [phiB, rdB, valsAt] at hp f1 f5 f9
          refine ⟨_, by go_simp; rfl, ?_⟩
          show phiB _ _ _ _ _ 4 (valsAt (a.put (some 77) _) [77]) _
          rw [valsAt_put (by rw [hsz.out]; decide)]
          rfl
        · refine StepOk.pure fun a w' hx hf hp => ?_
          have f1 := hf.same 1 (by kernel_rfl)
          have f5 := hf.same 5 (by kernel_rfl)
          have f9 := hf.same 9 (by kernel_rfl)
          have hsz := Lib.hid (show a.tmps.size = 86 from hf.size)
          clear hf
          simp [phiB, rdB, valsAt] at hp f1 f5 f9
          refine ⟨_, by go_simp; rfl, ?_⟩
          show phiB _ _ _ _ _ 5 (valsAt (a.put (some 78) _) [78]) _
          rw [valsAt_put (by rw [hsz.out]; decide)]
          rfl
        · refine StepOk.pure fun a w' hx hf hp => ?_
          have f1 := hf.same 1 (by kernel_rfl)
          have f5 := hf.same 5 (by kernel_rfl)
          have f9 := hf.same 9 (by kernel_rfl)
          have hsz := Lib.hid (show a.tmps.size = 86 from hf.size)
          clear hf
          have hcc := ((Ext.refl _).drew).trans hx
          have m0 := hcc.cell y0
          have m1 := hcc.cell y1
          have m2 := hcc.cell y2
          have m3 := hcc.cell y3
          have m4 := hcc.cell y4
          clear hcc
          simp [phiB, rdB, valsAt] at hp f1 f5 f9
          refine ⟨_, by go_simp; rfl, ?_⟩
          show phiB _ _ _ _ _ 6 (valsAt (a.put (some 79) _) [79]) _
          rw [valsAt_put (by rw [hsz.out]; decide)]
          rfl
        · intro a w' hx hf hp
          have hsz := Lib.hid (show a.tmps.size = 86 from hf.size)
          clear hf
          have hxx : Ext w6 w' := GE.out.trans hx
          simp [phiB, rdB, valsAt] at hp
          go_simp
          refine (PP2.out _ hxx).mono ?_
          rintro e w8 ⟨r8, rfl, ho8, hx8⟩
          obtain ⟨a8, c8, rfl, _, _⟩ := ho8.L.form
          refine ⟨_, rfl, hx8, ?_⟩
          show phiB _ _ _ _ _ 7 (valsAt (a.put (some 80) _) [80]) _
          rw [valsAt_put (by rw [hsz.out]; decide)]
          exact ⟨_, _, rfl, ho8.base (Nat.zero_le _)⟩
        · refine StepOk.pure fun a w' hx hf hp => ?_
          have hsz := Lib.hid (show a.tmps.size = 86 from hf.size)
          clear hf
          have p7 := hp ⟨7, .data⟩ (by simp)
          have p5 := hp ⟨5, .guard⟩ (by simp)
          clear hp
          simp [phiB, rdB, valsAt] at p7 p5
          obtain ⟨a', c', p7, ho⟩ := p7
          have hq := CBH.out _ _ _ ho
          refine ⟨_, by go_simp; rfl, ?_⟩
          show phiB _ _ _ _ _ 8 (valsAt (a.put (some 81) _) [81]) _
          rw [valsAt_put (by rw [hsz.out]; decide)]
          rfl
        · refine StepOk.pure fun a w' hx hf hp => ?_
          have f1 := hf.same 1 (by kernel_rfl)
          have f5 := hf.same 5 (by kernel_rfl)
          have f9 := hf.same 9 (by kernel_rfl)
          have hsz := Lib.hid (show a.tmps.size = 86 from hf.size)
          clear hf
          simp [phiB, rdB, valsAt] at hp f1 f5 f9
          refine ⟨_, by go_simp; rfl, ?_⟩
          show phiB _ _ _ _ _ 9 (valsAt (a.put (some 82) _) [82]) _
          rw [valsAt_put (by rw [hsz.out]; decide)]
          rfl
        · refine StepOk.pure fun a w' hx hf hp => ?_
          have f1 := hf.same 1 (by kernel_rfl)
          have f5 := hf.same 5 (by kernel_rfl)
          have f9 := hf.same 9 (by kernel_rfl)
          have hsz := Lib.hid (show a.tmps.size = 86 from hf.size)
          clear hf
          have hq := CYH.out _ (GE.out.trans hx)
          simp [phiB, rdB, valsAt] at hp f1 f5 f9
          refine ⟨_, by go_simp; rfl, ?_⟩
          show phiB _ _ _ _ _ 10 (valsAt (a.put (some 83) _) [83]) _
          rw [valsAt_put (by rw [hsz.out]; decide)]
          rfl
        · refine StepOk.pure fun a w' hx hf hp => ?_
          have f1 := hf.same 1 (by kernel_rfl)
          have f5 := hf.same 5 (by kernel_rfl)
          have f9 := hf.same 9 (by kernel_rfl)
          have hsz := Lib.hid (show a.tmps.size = 86 from hf.size)
          clear hf
          simp [phiB, rdB, valsAt] at hp f1 f5 f9
          refine ⟨_, by go_simp; rfl, ?_⟩
          show phiB _ _ _ _ _ 11 (valsAt (a.put (some 84) _) [84]) _
          rw [valsAt_put (by rw [hsz.out]; decide)]
          rfl
        · refine StepOk.pure fun a w' hx hf hp => ?_
          have f1 := hf.same 1 (by kernel_rfl)
          have f5 := hf.same 5 (by kernel_rfl)
          have f9 := hf.same 9 (by kernel_rfl)
          have hsz := Lib.hid (show a.tmps.size = 86 from hf.size)
          clear hf
          simp [phiB, rdB, valsAt] at hp f1 f5 f9
          refine ⟨_, by go_simp; rfl, ?_⟩
          show phiB _ _ _ _ _ 12 (valsAt (a.put (some 85) _) [85]) _
          rw [valsAt_put (by rw [hsz.out]; decide)]
          rfl
        · refine StepOk.pure fun a w' hx hf hp => ?_
          have f1 := hf.same 1 (by kernel_rfl)
          have f5 := hf.same 5 (by kernel_rfl)
          have f9 := hf.same 9 (by kernel_rfl)
          have hsz := Lib.hid (show a.tmps.size = 86 from hf.size)
          clear hf
          simp [phiB, rdB, valsAt] at hp f1 f5 f9
          refine ⟨_, by go_simp; rfl, ?_⟩
          show phiB _ _ _ _ _ 13 (valsAt (a.put (some 4) _) [4]) _
          rw [valsAt_put (by rw [hsz.out]; decide)]
          rfl
      · intro a w' hx hf hp
        have p13 := hp 13 (by decide)
        have hdf := hf.defers
        dsimp only at hdf
        clear hf hp
        simp [phiB, rdB, valsAt] at p13
        go_wp2_with fail
        refine bodyPost_ret (results_tmp rfl _ _ _) hdf ?_
        exact ⟨by simp [p13], ex7.trans (GE.out.trans hx)⟩
theorem FrameBack_walk {w : World} {va vb : Value} {a : Fr} {l : List UInt8} (ha : FrV Any w va a) (_ : frWf a) (hb : Kd.byte.L Any w vb l) (_ : l.length ≤ maxLen) :
    Calls Try.prog 4 #[va, vb] w fun e w' => e = .returned (.bool true) ∧ Below w.heap.size w w' := by
  by_cases hn : 900 < a.body.length ∨ 900 < l.length
  · obtain ⟨sa, rfl, ha⟩ := ha
    obtain ⟨aa, ca, rfl, a1, a2⟩ := ha.form
    obtain ⟨ab, cb, rfl, b1, b2⟩ := hb.form
    have e1 : Ext w (w.alloc (.cells #[.int .i64 a.kind, .int .i64 a.frm, .int .i64 a.too, .int .i64 a.num, .slice aa a.body.length ca] 24)) := (Ext.refl w).alloc _
    have HA := Lib.hid (heap_alloc_new w (.cells #[.int .i64 a.kind, .int .i64 a.frm, .int .i64 a.too, .int .i64 a.num, .slice aa a.body.length ca] 24))
    have hn2 : (900 : Int) < (a.body.length : Int) ∨ (a.body.length : Int) ≤ 900 ∧ (900 : Int) < (l.length : Int) := by omega
    go_enter Try.func4, Try.ntmps4
    go_wp2_with fail
    refine (head19 _).mono ?_
    rintro e w1 ⟨_, rfl, rfl, hx1⟩
    have ex := e1.trans hx1
    obtain ⟨g0, g1, g2, g3, g4⟩ := blk5 (hx1.heap HA.out)
    clear HA hx1 e1
    rcases hn2 with z1 | ⟨z1, z2⟩
    all_goals
      go_wp2
      go_ret
      exact ⟨rfl, ex⟩
  · exact FrameBack_main ha hb (by omega) (by omega)
end Go.Proofs.Ytdehiohjlbmmdaa
