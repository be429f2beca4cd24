/- The walk of frame.Get, and those of the document's answer to frames. -/
import Derived.Test.YtdehiohjlbmmdaaFa
namespace Go.Proofs.Ytdehiohjlbmmdaa
open Go.RowKit Go.Sy
def rdSub (l : List UInt8) (i n : Nat) : Int := rdN ((l.drop i).take n)
def frRaw (l : List UInt8) : Fr := ⟨rdSub l 0 1, rdSub l 1 8, rdSub l 9 8, rdSub l 17 4, l.drop 21⟩
def frGet (l : List UInt8) : Fr × Bool := if l.length < 21 then (Fr.zero, false) else if frRight (frRaw l) then (frRaw l, true) else (Fr.zero, false)
/-- a frame whose body is new memory -/
def FrO (B : Nat) (w : World) (v : Value) (f : Fr) : Prop :=
  ∃ s, v = .agg #[.int .i64 f.kind, .int .i64 f.frm, .int .i64 f.too, .int .i64 f.num, s] ∧ Kd.byte.Own 5 w B s f.body
theorem FrO.V {B : Nat} {w : World} {v : Value} {f : Fr} (h : FrO B w v f) : FrV Any w v f := by
  obtain ⟨s, h1, h2⟩ := h
  exact ⟨s, h1, h2.L⟩
theorem FrO.zero (B : Nat) (w : World) : FrO B w (.agg #[.int .i64 0, .int .i64 0, .int .i64 0, .int .i64 0, .slice none 0 0]) Fr.zero := ⟨_, rfl, Kd.Own.nil⟩
def Ret2 (w : World) (R : World → Value → Value → Prop) : Ending → World → Prop := fun e w' => ∃ v u, e = .returned (.tuple #[v, u]) ∧ R w' v u ∧ Ext w w'

def BoxPost (W : World) (n : Int) (l : List UInt8) : Ending → World → Prop := fun e w' =>
  ∃ s', e = .returned (.int .i64 n) ∧ w' = W.alloc (.cells #[s'] 22) ∧ Kd.byte.L (· < W.heap.size) W s' l
theorem get1_box {W : World} {g m : Nat} {s : Value} {l : List UInt8} {n : Int} (hn : rdN (l.take m) = n) (hg : g = W.heap.size) (hs : Kd.byte.L (· < W.heap.size) W s l) (h0 : 0 < m) (hm : m ≤ l.length) (hl : l.length ≤ 1000000000) :
    Calls Try.prog 37 #[.int .i64 m, .pointer (some ⟨g, 0, none⟩)] (W.alloc (.cells #[s] 22)) (BoxPost W n (l.drop m)) := by
  subst hn
  subst hg
  refine (get1_any (heap_alloc_new W _) (hs.ext ((Ext.refl W).alloc _)) h0 hm (Nat.lt_irrefl _) hl).mono ?_
  rintro e w' ⟨s', rfl, rfl, h⟩
  refine ⟨s', rfl, ?_, ?_⟩
  · simp [go_sem]
  · refine h.frame fun b hb _ => ?_
    rw [Below.heap_setCell _ _ _ _ (Nat.ne_of_lt hb), Below.heap_alloc _ _ _ hb]
theorem L_up {W : World} {s : Value} {l : List UInt8} (h : Kd.byte.L (· < W.heap.size) W s l) {w' : World} (e : Ext W w') : Kd.byte.L (· < w'.heap.size) w' s l :=
  (h.ext e).mono fun _ h _ => Nat.lt_of_lt_of_le h e.size

set_option maxHeartbeats 1000000 in
theorem get_any {w : World} {s : Value} {S : Nat → Prop} {l : List UInt8} (hs : Kd.byte.L S w s l) (hl : l.length ≤ 100000000) :
    Calls Try.prog 17 #[s] w (Ret2 w fun w' v u => FrO w.heap.size w' v (frGet l).1 ∧ u = .bool (frGet l).2) := by
  obtain ⟨a, c, rfl, h1, h2⟩ := hs.form
  by_cases h21 : l.length < 21
  · have hg : frGet l = (Fr.zero, false) := by unfold frGet; rw [if_pos h21]
    rw [hg]
    clear hg
    go_enter Try.func17, Try.ntmps17
    go_wp2
    exact bodyPost_ret (v := .tuple #[.agg #[.int .i64 0, .int .i64 0, .int .i64 0, .int .i64 0, .slice none 0 0], .bool false]) (by simp [results, Try.results17, go_sem]) rfl ⟨_, _, rfl, ⟨FrO.zero _ _, rfl⟩, (Ext.refl _).alloc _⟩
  · have hgT : frRight (frRaw l) = true → frGet l = (frRaw l, true) := fun h => by unfold frGet; rw [if_neg h21, if_pos h]
    have hgF : frRight (frRaw l) = false → frGet l = (Fr.zero, false) := fun h => by unfold frGet; rw [if_neg h21, if_neg (by simp [h])]
    have HT := Lib.hid hgT
    have HF := Lib.hid hgF
    clear hgT hgF
    have hs0 := hs.mono (S' := (· < w.heap.size)) fun _ _ h => h
    have hle : 21 ≤ l.length := by omega
    go_enter Try.func17, Try.ntmps17
    go_wp2_with fail
    have e1 : (l.drop 1).drop 8 = l.drop 9 := by simp
    have e2 : (l.drop 9).drop 8 = l.drop 17 := by simp
    have e3 : (l.drop 17).drop 4 = l.drop 21 := by simp
    have H1 := Lib.hid e1
    have H2 := Lib.hid e2
    have H3 := Lib.hid e3
    clear e1 e2 e3
    refine (get1_box (m := 1) (l := l) (n := rdSub l 0 1) rfl (by simp) (L_up hs0 ((Ext.refl w).alloc _)) (by omega) (by omega) (by omega)).mono ?_
    rintro e w1 ⟨s1, rfl, rfl, hs1⟩
    go_wp2_with fail
    refine (get1_box (m := 8) (l := l.drop 1) (n := rdSub l 1 8) rfl (by simp) hs1 (by omega) (by simp; omega) (by simp; omega)).mono ?_
    rintro e w1 ⟨s2, rfl, rfl, hs2⟩
    rw [H1.out] at hs2
    go_wp2_with fail
    refine (get1_box (m := 8) (l := l.drop 9) (n := rdSub l 9 8) rfl (by simp) hs2 (by omega) (by simp; omega) (by simp; omega)).mono ?_
    rintro e w1 ⟨s3, rfl, rfl, hs3⟩
    rw [H2.out] at hs3
    go_wp2_with fail
    refine (get1_box (m := 4) (l := l.drop 17) (n := rdSub l 17 4) rfl (by simp) hs3 (by omega) (by simp; omega) (by simp; omega)).mono ?_
    rintro e w1 ⟨s4, rfl, rfl, hs4⟩
    rw [H3.out] at hs4
    go_wp2_with fail
    refine (cloneB ((hs4.ext ((Ext.refl _).alloc _)).ext ((Ext.refl _).alloc _)) (by simp; omega)).mono ?_
    rintro e w1 ⟨s5, rfl, ho, hx⟩
    obtain ⟨a5, c5, e5, _, _⟩ := ho.L.form
    rw [List.length_drop] at e5
    subst e5
    have hbf : w1.heap[w.heap.size + 1 + 1]? = some (.cells #[.int .i64 (rdSub l 0 1), .int .i64 (rdSub l 1 8), .int .i64 (rdSub l 9 8), .int .i64 (rdSub l 17 4), .slice none 0 0] 24 (0, 0)) := hx.heap (alloc_at (by simp))
    have hbr : w1.heap[w.heap.size]? = some (.cells #[.int .i64 0, .int .i64 0, .int .i64 0, .int .i64 0, .slice none 0 0] 24 (0, 0)) :=
      hx.heap (alloc_old (alloc_old (alloc_at rfl)))
    have hxw := (((((Ext.refl w).alloc _).alloc _).alloc _).trans hx)
    have ho1 : Kd.byte.Own 5 w1 (w.heap.size + 1 + 1 + 1) (.slice a5 (l.length - 21) c5) (l.drop 21) := by simpa using ho
    have ho2 := ho1.setF Kd.byte_flat (p := ⟨w.heap.size + 1 + 1, 4, none⟩) (by simp) (.slice a5 (l.length - 21) c5)
    have hx2 := hxw.set (p := ⟨w.heap.size + 1 + 1, 4, none⟩) (by simp; omega) (.slice a5 (l.length - 21) c5)
    have hbr2 := heap_set_other (p := ⟨w.heap.size + 1 + 1, 4, none⟩) hbr (show w.heap.size ≠ w.heap.size + 1 + 1 by omega) (.slice a5 (l.length - 21) c5)
    obtain ⟨g0, g1, g2, g3, g4⟩ := blk5 hbf
    have gz := free_of hbf 4
    have hr := right_any (S := Any) (f := frRaw l) ⟨_, rfl, ho2.L⟩ (by simp [frRaw]; omega)
    have HBR := Lib.hid hbr2
    have HBF := Lib.hid (show (w1.setCell ⟨w.heap.size + 1 + 1, 4, none⟩ (.slice a5 (l.length - 21) c5)).heap[w.heap.size + 1 + 1]? = some (.cells #[.int .i64 (rdSub l 0 1), .int .i64 (rdSub l 1 8), .int .i64 (rdSub l 9 8), .int .i64 (rdSub l 17 4), .slice a5 (l.length - 21) c5] 24 (0, 0)) from heap_set hbf _)
    clear hbf hbr hbr2 hs hs0 hs1 hs2 hs3 hs4 ho ho1
    go_wp2_with fail
    refine hr.mono ?_
    rintro e w2 ⟨_, rfl, rfl, hx3⟩
    have hbr := hx3.heap HBR.out
    obtain ⟨r0, r1, r2, r3, r4⟩ := blk5 hbr
    have rz := free_of hbr
    have hbf := hx3.heap HBF.out
    obtain ⟨f0, f1, f2, f3, f4⟩ := blk5 hbf
    have hlt := hx2.size
    have ho3 := (ho2.ext hx3).base (B' := w.heap.size + 1) (by omega)
    have hx4 := hx2.trans hx3
    clear hbr hbf
    have fin : ∀ v0 v1 v2 v3 v4 : Value, Kd.byte.Own 5 (((((w2.setCell ⟨w.heap.size, 0, none⟩ v0).setCell ⟨w.heap.size, 1, none⟩ v1).setCell ⟨w.heap.size, 2, none⟩ v2).setCell ⟨w.heap.size, 3, none⟩ v3).setCell ⟨w.heap.size, 4, none⟩ v4) w.heap.size (.slice a5 (l.length - 21) c5) (l.drop 21) ∧
        Ext w (((((w2.setCell ⟨w.heap.size, 0, none⟩ v0).setCell ⟨w.heap.size, 1, none⟩ v1).setCell ⟨w.heap.size, 2, none⟩ v2).setCell ⟨w.heap.size, 3, none⟩ v3).setCell ⟨w.heap.size, 4, none⟩ v4) := fun v0 v1 v2 v3 v4 =>
      ⟨(((((ho3.setF Kd.byte_flat (Nat.lt_succ_self _) _).setF Kd.byte_flat (Nat.lt_succ_self _) _).setF Kd.byte_flat (Nat.lt_succ_self _) _).setF Kd.byte_flat (Nat.lt_succ_self _) _).setF Kd.byte_flat (Nat.lt_succ_self _) _).base (Nat.le_succ _),
        ((((hx4.set (Nat.le_refl _) _).set (Nat.le_refl _) _).set (Nat.le_refl _) _).set (Nat.le_refl _) _).set (Nat.le_refl _) _⟩
    have FIN := Lib.hid fin
    clear fin
    go_wp2
    · have hg := HF.out (by first | assumption | (simp_all; done))
      refine bodyPost_ret (v := .tuple #[.agg #[.int .i64 0, .int .i64 0, .int .i64 0, .int .i64 0, .slice none 0 0], .bool false]) (by simp [results, Try.results17, go_sem, r0, r1, r2, r3, r4]) rfl ?_
      rw [hg]
      exact ⟨_, _, rfl, ⟨FrO.zero _ _, rfl⟩, (FIN.out _ _ _ _ _).2⟩
    · have hg := HT.out (by first | assumption | (simp_all; done))
      refine bodyPost_ret (v := .tuple #[.agg #[.int .i64 (rdSub l 0 1), .int .i64 (rdSub l 1 8), .int .i64 (rdSub l 9 8), .int .i64 (rdSub l 17 4), .slice a5 (l.length - 21) c5], .bool true]) (by simp [results, Try.results17, go_sem, r0, r1, r2, r3, r4]) rfl ?_
      rw [hg]
      exact ⟨_, _, rfl, ⟨⟨_, rfl, (FIN.out _ _ _ _ _).1⟩, rfl⟩, (FIN.out _ _ _ _ _).2⟩
end Go.Proofs.Ytdehiohjlbmmdaa
