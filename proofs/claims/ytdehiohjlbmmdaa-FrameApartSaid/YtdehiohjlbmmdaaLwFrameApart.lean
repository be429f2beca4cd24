/- FrameApart: unlike right frames have unlike bytes. The walk of the law. -/
import Derived.Test.YtdehiohjlbmmdaaFe
import Derived.Test.YtdehiohjlbmmdaaRv
namespace Go.Proofs.Ytdehiohjlbmmdaa
open Go.RowKit Go.Sy
theorem frPut_none {f : Fr} (h : frRight f = false) : frPut f = [] := by unfold frPut; rw [h]; rfl
theorem frPut_len {f : Fr} (h : frRight f = true) : (frPut f).length = 21 + f.body.length := by
  unfold frPut
  rw [if_pos h, bytesOf_frNums]
  simp only [List.length_append, numB_len, List.length_cons, List.length_nil]
theorem frPut_length (f : Fr) : (frPut f).length = if frRight f = true then 21 + f.body.length else 0 := by
  cases h : frRight f
  · rw [frPut_none h]; rfl
  · rw [frPut_len h]; rfl
theorem byteAt_div (n : Int) (j : Nat) : byteAt (n / 256) j = byteAt n (j + 1) := by
  apply UInt8.toNat_inj.1
  have h1 := byteAt_256 (n / 256) j
  have h2 := byteAt_256 n (j + 1)
  rw [Int.ediv_ediv_of_nonneg (by decide), Int.mul_comm, ← Int.pow_succ, Nat.succ_eq_add_one] at h1
  omega
theorem numB_succ (n : Int) (m : Nat) : numB n (m + 1) = numB (n / 256) m ++ [byteAt n 0] := by
  unfold numB
  rw [List.range_succ, List.map_append]
  congr 1
  · apply List.map_congr_left
    intro k hk
    have := List.mem_range.1 hk
    rw [byteAt_div]
    congr 1
    omega
  · simp
theorem numB_inj : ∀ (m : Nat) (n n' : Int), 0 ≤ n → n < 256 ^ m → 0 ≤ n' → n' < 256 ^ m → numB n m = numB n' m → n = n'
  | 0, n, n', h1, h2, h3, h4, _ => by rw [Int.pow_zero] at h2 h4; omega
  | m + 1, n, n', h1, h2, h3, h4, h => by
    rw [numB_succ, numB_succ] at h
    obtain ⟨h5, h6⟩ := List.append_inj h (by rw [numB_len, numB_len])
    rw [Int.pow_succ] at h2 h4
    have h7 := numB_inj m (n / 256) (n' / 256) (by omega) (Int.ediv_lt_of_lt_mul (by decide) h2) (by omega) (Int.ediv_lt_of_lt_mul (by decide) h4) h5
    have h8 : byteAt n 0 = byteAt n' 0 := by injection h6
    have k1 := byteAt_256 n 0
    have k2 := byteAt_256 n' 0
    rw [Int.pow_zero, Int.ediv_one] at k1 k2
    rw [h8] at k1
    omega
theorem frRight_lt {f : Fr} (h : frRight f = true) : (0 ≤ f.kind ∧ f.kind < 256) ∧ (0 ≤ f.frm ∧ f.frm ≤ 281474976710656) ∧ (0 ≤ f.too ∧ f.too ≤ 281474976710656) ∧ 0 ≤ f.num ∧ f.num ≤ 1073741824 := by
  unfold frRight at h
  simp only [decide_eq_true_eq] at h
  omega
theorem frPut_inj {f g : Fr} (hf : frRight f = true) (hg : frRight g = true) (h : frPut f = frPut g) : f = g := by
  unfold frPut at h
  rw [if_pos hf, if_pos hg, bytesOf_frNums, bytesOf_frNums] at h
  obtain ⟨⟨f1, f1'⟩, ⟨f2, f2'⟩, ⟨f3, f3'⟩, f4, f4'⟩ := frRight_lt hf
  obtain ⟨⟨g1, g1'⟩, ⟨g2, g2'⟩, ⟨g3, g3'⟩, g4, g4'⟩ := frRight_lt hg
  obtain ⟨h, h5⟩ := List.append_inj h (by simp [numB_len])
  obtain ⟨h, h4⟩ := List.append_inj h (by simp [numB_len])
  obtain ⟨h, h3⟩ := List.append_inj h (by simp [numB_len])
  obtain ⟨h, h2⟩ := List.append_inj h (by simp)
  have h8 : byteAt f.kind 0 = byteAt g.kind 0 := by injection h
  have k1 := byteAt_256 f.kind 0
  have k2 := byteAt_256 g.kind 0
  rw [Int.pow_zero, Int.ediv_one] at k1 k2
  rw [h8] at k1
  have e1 : f.kind = g.kind := by omega
  have e2 := numB_inj 8 f.frm g.frm f2 (by simp; omega) g2 (by simp; omega) h2
  have e3 := numB_inj 8 f.too g.too f3 (by simp; omega) g3 (by simp; omega) h3
  have e4 := numB_inj 4 f.num g.num f4 (by simp; omega) g4 (by simp; omega) h4
  cases f; cases g; simp_all
theorem apart_ok {a b : Fr} (ha : frRight a = true) (hb : frRight b = true) : (((strB (frPut a)).toList == (strB (frPut b)).toList) == frSame a b) = true := by
  rw [strB_eq]
  have : decide (frPut a = frPut b) = frSame a b := by
    by_cases h : a = b
    · subst h; rw [(frSame_iff a a).2 rfl]; exact decide_eq_true rfl
    · have h1 : ¬ frPut a = frPut b := fun k => h (frPut_inj ha hb k)
      have h2 : frSame a b = false := by
        cases h3 : frSame a b with
        | false => rfl
        | true => exact absurd ((frSame_iff a b).1 h3) h
      rw [h2]; exact decide_eq_false h1
  rw [this]
  cases frSame a b <;> rfl
set_option maxHeartbeats 4000000 in
theorem FrameApart_both {w : World} {va vb : Value} {a b : Fr} (ha : FrV Any w va a) (hb : FrV Any w vb b) (hla : a.body.length ≤ 900) (hlb : b.body.length ≤ 900) (hRa : frRight a = true) (hRb : frRight b = true) :
    Calls Try.prog 5 #[va, vb] w fun e w' => e = .returned (.bool true) ∧ Below w.heap.size w w' := by
  obtain ⟨sa, rfl, ha⟩ := ha
  obtain ⟨sb, rfl, hb⟩ := hb
  obtain ⟨aa, ca, rfl, a1, a2⟩ := ha.form
  obtain ⟨ab, cb, rfl, b1, b2⟩ := hb.form
  have e0 : Ext w (w.alloc (.cells #[.int .i64 a.kind, .int .i64 a.frm, .int .i64 a.too, .int .i64 a.num, .slice aa a.body.length ca] 24)) := (Ext.refl w).alloc _
  have e1 := e0.alloc (.cells #[.int .i64 b.kind, .int .i64 b.frm, .int .i64 b.too, .int .i64 b.num, .slice ab b.body.length cb] 24)
  have HA := Lib.hid (((Ext.refl (w.alloc (.cells #[.int .i64 a.kind, .int .i64 a.frm, .int .i64 a.too, .int .i64 a.num, .slice aa a.body.length ca] 24))).alloc (.cells #[.int .i64 b.kind, .int .i64 b.frm, .int .i64 b.too, .int .i64 b.num, .slice ab b.body.length cb] 24)).heap (heap_alloc_new w (.cells #[.int .i64 a.kind, .int .i64 a.frm, .int .i64 a.too, .int .i64 a.num, .slice aa a.body.length ca] 24)))
  have HB := Lib.hid (heap_alloc_new (w.alloc (.cells #[.int .i64 a.kind, .int .i64 a.frm, .int .i64 a.too, .int .i64 a.num, .slice aa a.body.length ca] 24)) (.cells #[.int .i64 b.kind, .int .i64 b.frm, .int .i64 b.too, .int .i64 b.num, .slice ab b.body.length cb] 24))
  have z1 : (a.body.length : Int) ≤ 900 := by omega
  have z2 : (b.body.length : Int) ≤ 900 := by omega
  go_enter Try.func5, Try.ntmps5
  go_wp2_with fail
  refine (head19 _).mono ?_
  rintro e w1 ⟨_, rfl, rfl, hx1⟩
  have ex := e1.trans hx1
  have ga := hx1.heap HA.out
  have gb := hx1.heap HB.out
  simp only [World.size_alloc] at gb
  have GA := Lib.hid ga
  have GB := Lib.hid gb
  obtain ⟨g0, g1, g2, g3, g4⟩ := blk5 ga
  obtain ⟨k0, k1, k2, k3, k4⟩ := blk5 gb
  clear ga gb HA HB hx1 e1 e0
  go_wp2_with fail
  have p1 := put_any (w := w1) (S := Any) (f := a) ⟨_, rfl, ha.ext ex⟩ (by omega)
  refine p1.mono ?_
  clear p1
  rintro e w2 ⟨rx, rfl, hox, hx2⟩
  obtain ⟨ax, cx, rfl, x1, x2⟩ := hox.L.form
  have ex := ex.trans hx2
  have ga := hx2.heap GA.out
  have gb := hx2.heap GB.out
  have GA := Lib.hid ga
  have GB := Lib.hid gb
  clear g0 g1 g2 g3 g4 k0 k1 k2 k3 k4
  obtain ⟨g0, g1, g2, g3, g4⟩ := blk5 ga
  obtain ⟨k0, k1, k2, k3, k4⟩ := blk5 gb
  clear ga gb hx2
  go_wp2_with fail
  have p1 := put_any (w := w2) (S := Any) (f := b) ⟨_, rfl, hb.ext ex⟩ (by omega)
  refine p1.mono ?_
  clear p1
  rintro e w3 ⟨ry, rfl, hoy, hx3⟩
  obtain ⟨ay, cy, rfl, y1, y2⟩ := hoy.L.form
  have ex := ex.trans hx3
  have ga := hx3.heap GA.out
  have gb := hx3.heap GB.out
  have GA := Lib.hid ga
  have GB := Lib.hid gb
  clear g0 g1 g2 g3 g4 k0 k1 k2 k3 k4
  obtain ⟨g0, g1, g2, g3, g4⟩ := blk5 ga
  obtain ⟨k0, k1, k2, k3, k4⟩ := blk5 gb
  clear ga gb
  have la := frPut_len hRa
  have lb := frPut_len hRb
  have SP : ∀ W, Ext w3 W → _ := fun W h => same_any (w := W) (S := Any) (S' := Any) (f := a) (g := b) ⟨_, rfl, (ha.ext ex).ext h⟩ ⟨_, rfl, (hb.ext ex).ext h⟩ (by omega) (by omega)
  have CX : ∀ W, Ext w3 W → _ := fun W h => conv_bytes (P := Try.prog) (w := W) (dst := 9) Try.underlying22 Try.underlying5 Try.underlying9 ((hox.L.ext hx3).ext h)
  have CY : ∀ W, Ext w3 W → _ := fun W h => conv_bytes (P := Try.prog) (w := W) (dst := 9) Try.underlying22 Try.underlying5 Try.underlying9 (hoy.L.ext h)
  rw [la] at CX
  rw [lb] at CY
  have SPH := Lib.hid SP
  have CXH := Lib.hid CX
  have CYH := Lib.hid CY
  have q0 := Lib.hid (apart_ok hRa hRb)
  clear SP CX CY hx3 hox hoy ha hb hRa hRb x1 x2 y1 y2
  rw [la, lb]
  generalize hX : strB (frPut a) = X at *
  generalize hY : strB (frPut b) = Y at *
  generalize hT : frSame a b = T at *
  clear hX hY hT la lb
  have c1 := CXH.out _ ((Ext.refl w3).drew)
  have c2 := CYH.out _ ((Ext.refl w3).drew)
  have q1 : ¬ ((21 : Int) + (a.body.length : Int) = 0) := by omega
  have q2 : ¬ ((21 : Int) + (b.body.length : Int) = 0) := by omega
  have ge := (Ext.refl w3).drew
  have GE := Lib.hid ge
  clear ge
  go_wp2_with fail
  · exfalso
    rcases ‹((21 : Int) + (a.body.length : Int) == 0) = true ∨ ((21 : Int) + (b.body.length : Int) == 0) = true› with h | h
    · exact q1 (beq_iff_eq.1 h)
    · exact q2 (beq_iff_eq.1 h)
  clear c1 c2 GA GB
  go_region_held3 (fun w' => w'.cell? ⟨w.heap.size, 0, none⟩ = some (.int .i64 a.kind) ∧ w'.cell? ⟨w.heap.size, 1, none⟩ = some (.int .i64 a.frm) ∧ w'.cell? ⟨w.heap.size, 2, none⟩ = some (.int .i64 a.too) ∧ w'.cell? ⟨w.heap.size, 3, none⟩ = some (.int .i64 a.num) ∧ w'.cell? ⟨w.heap.size, 4, none⟩ = some (.slice aa a.body.length ca) ∧ w'.cell? ⟨w.heap.size + 1, 0, none⟩ = some (.int .i64 b.kind) ∧ w'.cell? ⟨w.heap.size + 1, 1, none⟩ = some (.int .i64 b.frm) ∧ w'.cell? ⟨w.heap.size + 1, 2, none⟩ = some (.int .i64 b.too) ∧ w'.cell? ⟨w.heap.size + 1, 3, none⟩ = some (.int .i64 b.num) ∧ w'.cell? ⟨w.heap.size + 1, 4, none⟩ = some (.slice ab b.body.length cb) ∧ (convert 22 9 (.slice ax (21 + a.body.length) cx)).run Try.prog w' = .ok (.string X) w' ∧ (convert 22 9 (.slice ay (21 + b.body.length) cy)).run Try.prog w' = .ok (.string Y) w')
    (first | (exact ⟨GE.out.cell g0, GE.out.cell g1, GE.out.cell g2, GE.out.cell g3, GE.out.cell g4, GE.out.cell k0, GE.out.cell k1, GE.out.cell k2, GE.out.cell k3, GE.out.cell k4, CXH.out _ GE.out, CYH.out _ GE.out⟩) | (exact ⟨hxx.cell g0, hxx.cell g1, hxx.cell g2, hxx.cell g3, hxx.cell g4, hxx.cell k0, hxx.cell k1, hxx.cell k2, hxx.cell k3, hxx.cell k4, CXH.out _ hxx, CYH.out _ hxx⟩) | go_keep)
    (first | (go_at_call 23; refine (SPH.out _ GE.out).mono ?_; rintro e w4 ⟨_, rfl, rfl, hx4⟩; have hxx := GE.out.trans hx4))
  all_goals
    go_wp2
    go_ret
    refine ⟨?_, ex.trans (by first | exact hxx | exact GE.out)⟩
    show Ending.returned (.bool ((X.toList == Y.toList) == T)) = _
    rw [q0.out]
set_option maxHeartbeats 4000000 in
theorem FrameApart_wrong {w : World} {va vb : Value} {a b : Fr} (ha : FrV Any w va a) (hb : FrV Any w vb b) (hla : a.body.length ≤ 900) (hlb : b.body.length ≤ 900) (hn : ¬ (frRight a = true ∧ frRight b = true)) :
    Calls Try.prog 5 #[va, vb] w fun e w' => e = .returned (.bool true) ∧ Below w.heap.size w w' := by
  obtain ⟨sa, rfl, ha⟩ := ha
  obtain ⟨sb, rfl, hb⟩ := hb
  obtain ⟨aa, ca, rfl, a1, a2⟩ := ha.form
  obtain ⟨ab, cb, rfl, b1, b2⟩ := hb.form
  have e0 : Ext w (w.alloc (.cells #[.int .i64 a.kind, .int .i64 a.frm, .int .i64 a.too, .int .i64 a.num, .slice aa a.body.length ca] 24)) := (Ext.refl w).alloc _
  have e1 := e0.alloc (.cells #[.int .i64 b.kind, .int .i64 b.frm, .int .i64 b.too, .int .i64 b.num, .slice ab b.body.length cb] 24)
  have HA := Lib.hid (((Ext.refl (w.alloc (.cells #[.int .i64 a.kind, .int .i64 a.frm, .int .i64 a.too, .int .i64 a.num, .slice aa a.body.length ca] 24))).alloc (.cells #[.int .i64 b.kind, .int .i64 b.frm, .int .i64 b.too, .int .i64 b.num, .slice ab b.body.length cb] 24)).heap (heap_alloc_new w (.cells #[.int .i64 a.kind, .int .i64 a.frm, .int .i64 a.too, .int .i64 a.num, .slice aa a.body.length ca] 24)))
  have HB := Lib.hid (heap_alloc_new (w.alloc (.cells #[.int .i64 a.kind, .int .i64 a.frm, .int .i64 a.too, .int .i64 a.num, .slice aa a.body.length ca] 24)) (.cells #[.int .i64 b.kind, .int .i64 b.frm, .int .i64 b.too, .int .i64 b.num, .slice ab b.body.length cb] 24))
  have z1 : (a.body.length : Int) ≤ 900 := by omega
  have z2 : (b.body.length : Int) ≤ 900 := by omega
  go_enter Try.func5, Try.ntmps5
  go_wp2_with fail
  refine (head19 _).mono ?_
  rintro e w1 ⟨_, rfl, rfl, hx1⟩
  have ex := e1.trans hx1
  have ga := hx1.heap HA.out
  have gb := hx1.heap HB.out
  simp only [World.size_alloc] at gb
  have GA := Lib.hid ga
  have GB := Lib.hid gb
  obtain ⟨g0, g1, g2, g3, g4⟩ := blk5 ga
  obtain ⟨k0, k1, k2, k3, k4⟩ := blk5 gb
  clear ga gb HA HB hx1 e1 e0
  go_wp2_with fail
  have p1 := put_any (w := w1) (S := Any) (f := a) ⟨_, rfl, ha.ext ex⟩ (by omega)
  refine p1.mono ?_
  clear p1
  rintro e w2 ⟨rx, rfl, hox, hx2⟩
  obtain ⟨ax, cx, rfl, x1, x2⟩ := hox.L.form
  have ex := ex.trans hx2
  have ga := hx2.heap GA.out
  have gb := hx2.heap GB.out
  have GA := Lib.hid ga
  have GB := Lib.hid gb
  clear g0 g1 g2 g3 g4 k0 k1 k2 k3 k4
  obtain ⟨g0, g1, g2, g3, g4⟩ := blk5 ga
  obtain ⟨k0, k1, k2, k3, k4⟩ := blk5 gb
  clear ga gb hx2
  go_wp2_with fail
  have p1 := put_any (w := w2) (S := Any) (f := b) ⟨_, rfl, hb.ext ex⟩ (by omega)
  refine p1.mono ?_
  clear p1
  rintro e w3 ⟨ry, rfl, hoy, hx3⟩
  obtain ⟨ay, cy, rfl, y1, y2⟩ := hoy.L.form
  have ex := ex.trans hx3
  have ga := hx3.heap GA.out
  have gb := hx3.heap GB.out
  have GA := Lib.hid ga
  have GB := Lib.hid gb
  clear g0 g1 g2 g3 g4 k0 k1 k2 k3 k4
  obtain ⟨g0, g1, g2, g3, g4⟩ := blk5 ga
  obtain ⟨k0, k1, k2, k3, k4⟩ := blk5 gb
  clear ga gb hx3
  have p1 := right_any (w := w3) (S := Any) (f := a) ⟨_, rfl, ha.ext ex⟩ (by omega)
  have p2 : ∀ W, Ext w3 W → _ := fun W h => right_any (w := W) (S := Any) (f := b) ⟨_, rfl, (hb.ext ex).ext h⟩ (by omega)
  have P2 := Lib.hid p2
  clear p2
  cases hRa : frRight a <;> cases hRb : frRight b
  case true.true => exact absurd ⟨hRa, hRb⟩ hn
  all_goals
    rw [hRa] at p1
    have P1 := Lib.hid p1
    clear p1
    have la := frPut_length a
    have lb := frPut_length b
    rw [hRa] at la
    rw [hRb] at lb P2
    simp only [if_true, Bool.false_eq_true, if_false] at la lb
    generalize (frPut a).length = na at *
    generalize (frPut b).length = nb at *
    subst la
    subst lb
    clear hRa hRb hn hox hoy x1 x2 y1 y2
    have q1 : ¬ ((21 : Int) + (a.body.length : Int) = 0) := by omega
    have q2 : ¬ ((21 : Int) + (b.body.length : Int) = 0) := by omega
    go_wp2_with fail
    refine P1.out.mono ?_
    rintro e w4 ⟨_, rfl, rfl, hx4⟩
    clear g0 g1 g2 g3 g4 k0 k1 k2 k3 k4
    obtain ⟨g0, g1, g2, g3, g4⟩ := blk5 (hx4.heap GA.out)
    obtain ⟨k0, k1, k2, k3, k4⟩ := blk5 (hx4.heap GB.out)
    go_wp2_with fail
    refine (P2.out _ hx4).mono ?_
    rintro e w5 ⟨_, rfl, rfl, hx5⟩
    clear g0 g1 g2 g3 g4 k0 k1 k2 k3 k4
    go_wp2
    go_ret
    refine ⟨?_, ex.trans (hx4.trans hx5)⟩
    have q3 : (((21 : Int) + (a.body.length : Int)) == 0) = false := by simp only [beq_eq_false_iff_ne]; omega
    have q4 : (((21 : Int) + (b.body.length : Int)) == 0) = false := by simp only [beq_eq_false_iff_ne]; omega
    first
    | rfl
    | (show Ending.returned (.bool (!((21 : Int) + (a.body.length : Int) == 0))) = _; rw [q3]; rfl)
    | (show Ending.returned (.bool (!((21 : Int) + (b.body.length : Int) == 0))) = _; rw [q4]; rfl)
set_option maxHeartbeats 4000000 in
theorem FrameApart_long {w : World} {va vb : Value} {a b : Fr} (ha : FrV Any w va a) (hb : FrV Any w vb b) (hn : 900 < a.body.length ∨ 900 < b.body.length) :
    Calls Try.prog 5 #[va, vb] w fun e w' => e = .returned (.bool true) ∧ Below w.heap.size w w' := by
  obtain ⟨sa, rfl, ha⟩ := ha
  obtain ⟨sb, rfl, hb⟩ := hb
  obtain ⟨aa, ca, rfl, a1, a2⟩ := ha.form
  obtain ⟨ab, cb, rfl, b1, b2⟩ := hb.form
  have e0 : Ext w (w.alloc (.cells #[.int .i64 a.kind, .int .i64 a.frm, .int .i64 a.too, .int .i64 a.num, .slice aa a.body.length ca] 24)) := (Ext.refl w).alloc _
  have e1 := e0.alloc (.cells #[.int .i64 b.kind, .int .i64 b.frm, .int .i64 b.too, .int .i64 b.num, .slice ab b.body.length cb] 24)
  have HA := Lib.hid (((Ext.refl (w.alloc (.cells #[.int .i64 a.kind, .int .i64 a.frm, .int .i64 a.too, .int .i64 a.num, .slice aa a.body.length ca] 24))).alloc (.cells #[.int .i64 b.kind, .int .i64 b.frm, .int .i64 b.too, .int .i64 b.num, .slice ab b.body.length cb] 24)).heap (heap_alloc_new w (.cells #[.int .i64 a.kind, .int .i64 a.frm, .int .i64 a.too, .int .i64 a.num, .slice aa a.body.length ca] 24)))
  have HB := Lib.hid (heap_alloc_new (w.alloc (.cells #[.int .i64 a.kind, .int .i64 a.frm, .int .i64 a.too, .int .i64 a.num, .slice aa a.body.length ca] 24)) (.cells #[.int .i64 b.kind, .int .i64 b.frm, .int .i64 b.too, .int .i64 b.num, .slice ab b.body.length cb] 24))
  have hn2 : (900 : Int) < (a.body.length : Int) ∨ (a.body.length : Int) ≤ 900 ∧ (900 : Int) < (b.body.length : Int) := by omega
  go_enter Try.func5, Try.ntmps5
  go_wp2_with fail
  refine (head19 _).mono ?_
  rintro e w1 ⟨_, rfl, rfl, hx1⟩
  have ex := e1.trans hx1
  have ga := hx1.heap HA.out
  have gb := hx1.heap HB.out
  simp only [World.size_alloc] at gb
  have GA := Lib.hid ga
  have GB := Lib.hid gb
  obtain ⟨g0, g1, g2, g3, g4⟩ := blk5 ga
  obtain ⟨k0, k1, k2, k3, k4⟩ := blk5 gb
  clear ga gb HA HB hx1 e1 e0
  rcases hn2 with z1 | ⟨z1, z2⟩
  all_goals
    go_wp2
    go_ret
    exact ⟨rfl, ex⟩
theorem FrameApart_walk {w : World} {va vb : Value} {a b : Fr} (ha : FrV Any w va a) (_ : frWf a) (hb : FrV Any w vb b) (_ : frWf b) :
    Calls Try.prog 5 #[va, vb] w fun e w' => e = .returned (.bool true) ∧ Below w.heap.size w w' := by
  by_cases hl : 900 < a.body.length ∨ 900 < b.body.length
  · exact FrameApart_long ha hb hl
  by_cases hr : frRight a = true ∧ frRight b = true
  · exact FrameApart_both ha hb (by omega) (by omega) hr.1 hr.2
  · exact FrameApart_wrong ha hb (by omega) (by omega) hr
end Go.Proofs.Ytdehiohjlbmmdaa
