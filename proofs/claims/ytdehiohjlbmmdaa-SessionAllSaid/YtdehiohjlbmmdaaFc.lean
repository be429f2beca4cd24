/- The walks of the document's answer to frames. -/
import Derived.Test.YtdehiohjlbmmdaaFb
namespace Go.Proofs.Ytdehiohjlbmmdaa
open Go.RowKit Go.Sy
theorem byteAt_256 (n : Int) (j : Nat) : ((byteAt n j).toNat : Int) = n / 256 ^ j % 256 := by
  rw [byteAt_val, Int.pow_mul]; rfl
def zb : UInt8 := 0
theorem p256 (k : Nat) : (256 : Int) ^ k = ((256 ^ k : Nat) : Int) := (Int.natCast_pow 256 k).symm
theorem p256_nn (k : Nat) : (0 : Int) ≤ 256 ^ k := by rw [p256]; exact Int.natCast_nonneg _
set_option maxHeartbeats 1000000 in
theorem refNumber_any (N : Int) (hN : 0 ≤ N) (hN2 : N ≤ 9223372036854775807) (m : Nat) (hm : m ≤ 8) (w : World) :
    Calls Try.prog 42 #[.int .i64 N, .int .i64 m] w (Ret w fun w' r => Kd.byte.Own 5 w' w.heap.size r (numB N m)) := by
  go_enter Try.func42, Try.ntmps42
  go_wp2_with (at_make; go_must (refine wpList_make1 (w0 := w) (f := fun n : UInt8 => .int .u8 (n.toNat : Int)) (h1 := fun _ => rfl) (x0 := zb) Eb rfl rfl rfl rfl rfl rfl rfl (by omega) (by omega) (Ext.refl w) ?_; intro w1 ho _ hx))
  go_loopw [0, 6] (fun n i wr => ∃ q : Nat, q ≤ m ∧ i = .int .i64 (q - 1 : Int) ∧ n = .int .i64 (N / 256 ^ (m - q)) ∧ Kd.byte.Own 5 wr w.heap.size (.slice (some ⟨w.heap.size, 0, none⟩) m m) (List.replicate q zb ++ (numB N m).drop q) ∧ Ext w wr) (fun _ i _ => ((intOf i) + 1).toNat)
  case atStart => exact ⟨m, Nat.le_refl _, rfl, by simp, by rw [List.drop_of_length_le (by rw [numB_len]; omega), List.append_nil]; exact ho, hx⟩
  case round =>
    obtain ⟨q, hq, rfl, rfl, ho, hx⟩ := hrel
    cases q with
    | zero =>
      go_wp2
      go_ret
      exact ⟨_, rfl, by simpa using ho, hx⟩
    | succ p =>
      have hlen : (List.replicate (p + 1) zb ++ (numB N m).drop (p + 1)).length = m := by simp [numB_len]; omega
      have hc : ∃ u, wr.cell? ⟨w.heap.size, p, none⟩ = some u := by
        rw [Kd.byte_one] at ho
        exact ⟨_, ho.cellAt (j := p) (List.getElem?_eq_getElem (by omega))⟩
      obtain ⟨u, hc⟩ := hc
      have hz := ho.freeAt p
      have hnn : 0 ≤ N / 256 ^ (m - (p + 1)) := Int.ediv_nonneg hN (p256_nn _)
      have hnu : N / 256 ^ (m - (p + 1)) ≤ 9223372036854775807 := Int.le_trans (Int.ediv_le_self _ hN) hN2
      have hnx := Lib.hid (show N / 256 ^ (m - (p + 1)) / 256 = N / 256 ^ (m - p) by
        rw [Int.ediv_ediv_of_nonneg (p256_nn _), ← Int.pow_succ]; congr 2; omega)
      have hst := Lib.hid (show (List.replicate (p + 1) zb ++ (numB N m).drop (p + 1)).set p (byteAt N (m - (p + 1))) = List.replicate p zb ++ (numB N m).drop p by
        rw [List.drop_eq_getElem_cons (i := p) (by rw [numB_len]; omega), List.replicate_succ', List.append_assoc, List.set_append_right _ _ (by simp)]
        simp [numB, show m - (p + 1) = m - 1 - p by omega])
      have hv := Lib.hid (byteAt_256 N (m - (p + 1)))
      clear hlen
      generalize hM : N / 256 ^ (m - (p + 1)) = M at *
      have HM := Lib.hid hM
      clear hM
      go_wp2
      refine ⟨⟨p, by omega, rfl, by rw [← hnx.out], ?_, hx.set (Nat.le_refl _) _⟩, by simp [intOf]⟩
      rw [← hst.out, ← hv.out]
      rw [Kd.byte_one] at *
      exact ho.store p _

def rm1 (n : Int) (c : UInt8) : Int := wrap64 (wrap64 (n * 256) + (c.toNat : Int))
def rdM (l : List UInt8) : Int := l.foldl rm1 0
theorem rdM_snoc (l : List UInt8) (k : Nat) (h : k < l.length) : rdM (l.take (k + 1)) = rm1 (rdM (l.take k)) l[k] := by
  unfold rdM
  rw [List.take_succ_eq_append_getElem h, List.foldl_append]
  rfl
set_option maxHeartbeats 1000000 in
theorem refRead_any {w : World} {s : Value} {S : Nat → Prop} {l : List UInt8} (hs : Kd.byte.L S w s l) (hl : l.length ≤ 1000000000) :
    Calls Try.prog 39 #[s] w fun e w' => e = .returned (.int .i64 (rdM l)) ∧ w = w' := by
  obtain ⟨a, c, rfl, h1, h2⟩ := hs.form
  unfold maxLen at h2
  go_enter Try.func39, Try.ntmps39
  go_wp2
  go_loop [3, 4] (fun a c => ∃ k : Nat, k ≤ l.length ∧ c = .int .i64 k ∧ a = .int .i64 (rdM (l.take k))) (fun _ i => l.length - (intOf i).toNat)
  case atStart => exact ⟨0, by omega, rfl, rfl⟩
  case round =>
    obtain ⟨k, hk, rfl, rfl⟩ := hrel
    by_cases hlt : k < l.length
    · obtain ⟨b, o, c', e, _, _, _, hcc⟩ := hs.open_ (by omega) (by decide)
      injection e with e1 _ e3
      subst e1; subst e3
      obtain ⟨cs, hk1, hk2⟩ := hcc k l[k] (List.getElem?_eq_getElem (by omega))
      obtain rfl : cs = _ := hk1
      have hcell : w.cell? ⟨b, o + k, none⟩ = some (.int .u8 (l[k].toNat : Int)) := by simpa [Kd.byte, Kd.flat] using hk2 0 _ rfl
      have hsn := Lib.hid (rdM_snoc l k (by omega))
      have hlt8 := l[k].toNat_lt
      generalize l[k] = y at *
      clear hcc hk2 hs
      go_wp2
      go_round
      case rel => exact ⟨k + 1, by omega, by go_num, by rw [hsn.out]; rfl⟩
      case measure => simp [intOf]; omega
    · have : l.take k = l := List.take_of_length_le (by omega)
      have HL := Lib.hid this
      clear this hs
      go_wp2
      go_ret
      rw [HL.out]
      exact ⟨rfl, rfl⟩

set_option maxHeartbeats 1000000 in
theorem refRight_any {w : World} {v : Value} {S : Nat → Prop} {f : Fr} (h : FrV S w v f) (hl : f.body.length ≤ 100000000) :
    Calls Try.prog 20 #[v] w (Ret w fun _ r => r = .bool (frRight f)) := by
  obtain ⟨s, rfl, hs⟩ := h
  obtain ⟨a, c, rfl, h1, h2⟩ := hs.form
  go_enter Try.func20, Try.ntmps20
  go_wp2
  all_goals
    go_ret
    refine ⟨_, rfl, ?_, (Ext.refl _).alloc _⟩
    refine congrArg Value.bool (Bool.eq_iff_iff.2 ?_)
    unfold frRight
    clear hs
    generalize f.body.length = n at *
    simp at *
    omega

theorem bytesOf_frNums (f : Fr) : bytesOf (frNums f) = [byteAt f.kind 0] ++ numB f.frm 8 ++ numB f.too 8 ++ numB f.num 4 := by
  simp [bytesOf, frNums, numB]
attribute [local go_sem ↓] Go.wp_at_zero Go.wp_at_succ
set_option maxHeartbeats 2000000 in
theorem refPut_any {w : World} {v : Value} {S : Nat → Prop} {f : Fr} (h : FrV S w v f) (hl : f.body.length ≤ 100000000) :
    Calls Try.prog 22 #[v] w (Ret w fun w' r => Kd.byte.Own 5 w' w.heap.size r (frPut f)) := by
  have h0 := h
  obtain ⟨s, rfl, hs⟩ := h
  have hr := refRight_any (h0.ext ((Ext.refl w).alloc (.cells #[.int .i64 f.kind, .int .i64 f.frm, .int .i64 f.too, .int .i64 f.num, s] 24))) hl
  have hs1 := hs.ext ((Ext.refl w).alloc (.cells #[.int .i64 f.kind, .int .i64 f.frm, .int .i64 f.too, .int .i64 f.num, s] 24))
  have hb1 := Lib.hid (heap_alloc_new w (.cells #[.int .i64 f.kind, .int .i64 f.frm, .int .i64 f.too, .int .i64 f.num, s] 24))
  obtain ⟨a, c, rfl, h1, h2⟩ := hs.form
  unfold frPut
  cases hR : frRight f
  · rw [hR] at hr
    clear hR
    go_enter Try.func22, Try.ntmps22
    go_wp2_with (go_at_call 20; go_must (refine hr.mono ?_; rintro e w' ⟨_, rfl, rfl, hx⟩))
    go_ret
    exact ⟨_, rfl, Kd.Own.nil, ((Ext.refl _).alloc _).trans hx⟩
  · have hb : 0 ≤ f.frm ∧ f.frm ≤ 281474976710656 ∧ 0 ≤ f.too ∧ f.too ≤ 281474976710656 ∧ 0 ≤ f.num ∧ f.num ≤ 1073741824 := by
      unfold frRight at hR
      simp only [decide_eq_true_eq] at hR
      omega
    rw [hR] at hr
    clear hR
    rw [if_pos rfl, bytesOf_frNums]
    go_enter Try.func22, Try.ntmps22
    go_wp2_with (go_at_call 20; go_must (refine hr.mono ?_; rintro e w1 ⟨_, rfl, rfl, hx⟩))
    have hbb := hx.heap hb1.out
    obtain ⟨g0, g1, g2, g3, g4⟩ := blk5 hbb
    have HBB := Lib.hid hbb
    clear hbb
    go_wp2
    have hkv := Lib.hid (byteAt_val f.kind 0)
    rw [Nat.mul_zero, Int.pow_zero, Int.ediv_one] at hkv
    have k1 := refNumber_any f.frm hb.1 (by omega) 8 (by omega)
    have k2 : ∀ W : World, w1.heap.size ≤ W.heap.size → Kd.byte.Own 5 (W.alloc (.cells #[.int .u8 (f.kind % 256)] 5)) w1.heap.size (.slice (some ⟨W.heap.size, 0, none⟩) 1 1) [byteAt f.kind 0] := fun W hW => by
      have := Kd.Own.lit1 (e := 5) (f := fun n : UInt8 => .int .u8 (n.toNat : Int)) (h1 := fun _ => rfl) (byteAt f.kind 0) hW
      rw [hkv.out] at this
      exact this
    have k6 : 1 ≤ 1000 := by omega
    have k4 : [byteAt f.kind 0].length + (numB f.frm 8).length ≤ 1000000000 := by rw [numB_len]; simp
    have HK := Lib.hid k1
    have HK2 := Lib.hid k2
    clear k1 k2
    go_region_held3 (fun w' => w'.cell? ⟨w.heap.size, 0, none⟩ = some (.int .i64 f.kind) ∧ w'.cell? ⟨w.heap.size, 1, none⟩ = some (.int .i64 f.frm))
      (first | go_keep | (go_split_ands; exact ⟨hxx.cell g0, hxx.cell g1⟩))
      (first | (go_at_call 42; refine (HK.out _).mono ?_; rintro e w4 ⟨r4, rfl, ho4, hx4⟩; (first | (have hxx : Ext w1 w4 := (((Ext.refl w1).alloc _).drew).trans hx4; have hoA := ((HK2.out w1 (Nat.le_refl _)).ext ((Ext.refl _).drew)).ext hx4) | (have hxx : Ext w1 w4 := ((Ext.refl w1).drew).trans hx4)); have hs4 := ho4.L) | (refine step_appF (w0 := w1) Kd.byte_flat Eb (by rfl) (by rfl) (by rfl) hoA (by rfl) hs4 hxx k4 k6 ?_; intro v5 w5 ho5 _ hxx) | (have hoB := HK2.out w4 hxx.size; have hs5 := hs4.ext ((Ext.refl w4).alloc (.cells #[.int .u8 (f.kind % 256)] 5)); have hxB := hxx.alloc (.cells #[.int .u8 (f.kind % 256)] 5); refine step_appF (w0 := w1) Kd.byte_flat Eb (by rfl) (by rfl) (by rfl) hoB (by rfl) hs5 hxB k4 k6 ?_; intro v5 w5 ho5 _ hxx))
    all_goals
      have q2 := hxx.cell g2
      go_wp2_with fail
      refine (refNumber_any f.too hb.2.2.1 (by omega) 8 (by omega) _).mono ?_
      rintro e w6 ⟨r6, rfl, ho6, hx6⟩
      have hxx := hxx.trans hx6
      have q3 := hxx.cell g3
      go_wp2_with (at_builtin; go_must (refine wpList_appF (w0 := w1) Kd.byte_flat Eb rfl rfl rfl (ho5.ext hx6) rfl ho6.L hxx (by simp [numB_len]) (by omega) ?_; intro v7 w7 ho7 _ hx7; clear q3; have q3 := hx7.cell g3))
      refine (refNumber_any f.num hb.2.2.2.2.1 (by omega) 4 (by omega) _).mono ?_
      rintro e w8 ⟨r8, rfl, ho8, hx8⟩
      have hxx := hx7.trans hx8
      have q4 := hxx.cell g4
      go_wp2_with (at_builtin; go_must (first | (refine wpList_appF (w0 := w1) (ms := numB f.num 4) Kd.byte_flat Eb rfl rfl rfl (ho7.ext hx8) rfl ho8.L hxx (by simp [numB_len]) (by omega) ?_; intro v9 w9 ho9 _ hx9; clear q4; have q4 := hx9.cell g4) | (refine wpList_appF (w0 := w1) Kd.byte_flat Eb rfl rfl rfl ho9 rfl (hs1.ext (hx.trans hx9)) hx9 (by simp [numB_len]; omega) (by omega) ?_; intro v10 w10 ho10 _ hx10)))
      go_ret
      exact ⟨_, rfl, by simpa using ho10.base (B' := w.heap.size) (by have := hx.size; simp at this; omega), (((Ext.refl _).alloc _).trans hx).trans hx10⟩
end Go.Proofs.Ytdehiohjlbmmdaa
