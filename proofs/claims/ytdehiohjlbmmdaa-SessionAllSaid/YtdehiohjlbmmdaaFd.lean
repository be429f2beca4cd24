/- The walk of the document's answer to bytes that may be a frame's; two frames, alike or not. -/
import Derived.Test.YtdehiohjlbmmdaaFc
import Derived.Test.YtdehiohjlbmmdaaLm
import Derived.IntWalk
namespace Go.Proofs.Ytdehiohjlbmmdaa
open Go.RowKit Go.Sy
def sub (l : List UInt8) (lo hi : Nat) : List UInt8 := (l.take hi).drop lo
def refRaw (l : List UInt8) : Fr := ⟨((l.getD 0 0).toNat : Int), rdM (sub l 1 9), rdM (sub l 9 17), rdM (sub l 17 21), l.drop 21⟩
def refGet (l : List UInt8) : Fr × Bool :=
  if l.length < 21 ∨ 71 < l.length ∨ l.getD 1 0 ≠ 0 ∨ l.getD 9 0 ≠ 0 then (Fr.zero, false) else if frRight (refRaw l) then (refRaw l, true) else (Fr.zero, false)
theorem refRead_sub {w : World} {b o c : Nat} {S : Nat → Prop} {l : List UInt8} (hs : Kd.byte.L S w (.slice (some ⟨b, o, none⟩) l.length c) l) (lo hi n' c' : Nat) (h1 : lo ≤ hi) (h2 : hi ≤ l.length) (hl : l.length ≤ 1000) (hn : n' = hi - lo) (hc : c' = c - lo) {W : World} (e : Ext w W) :
    Calls Try.prog 39 #[.slice (some ⟨b, o + lo, none⟩) n' c'] W fun e w' => e = .returned (.int .i64 (rdM (sub l lo hi))) ∧ W = w' := by
  subst hn; subst hc
  have := (hs.ext e).cut rfl h1 h2 (some ⟨b, o + lo, none⟩) (by rintro _ b' o' e; injection e with e; injection e with e1 e2; subst e1; subst e2; show _ = some (⟨b, o + lo * 1, none⟩ : Addr); rw [Nat.mul_one])
  exact refRead_any this (by unfold sub; rw [List.length_drop, List.length_take]; omega)

def rdG (i : Nat) : List Tmp := match i with
  | 0 => [26] | 1 => [27] | 2 => [28] | 3 => [29] | 4 => [30] | 5 => [31] | 6 => [32] | 7 => [33] | 8 => [34] | 9 => [35] | 10 => [36] | 11 => [37] | 12 => [38] | 13 => [39] | 14 => [40] | 15 => [41] | 16 => [42] | 17 => [43, 42] | 18 => [4] | _ => []
def phiG (b o c : Nat) (b0 : UInt8) (l : List UInt8) (B : Nat) (i : Nat) (vs : List Value) (w : World) : Prop := match i with
  | 0 | 4 | 7 | 10 | 14 => vs = [.slice (some ⟨b, o, none⟩) l.length c]
  | 1 => vs = [.pointer (some ⟨b, o, none⟩)]
  | 2 => vs = [.int .u8 b0.toNat]
  | 3 => vs = [.int .i64 b0.toNat]
  | 5 => vs = [.slice (some ⟨b, o + 1, none⟩) 8 (c - 1)]
  | 6 => vs = [.int .i64 (rdM (sub l 1 9))]
  | 8 => vs = [.slice (some ⟨b, o + 9, none⟩) 8 (c - 9)]
  | 9 => vs = [.int .i64 (rdM (sub l 9 17))]
  | 11 => vs = [.slice (some ⟨b, o + 17, none⟩) 4 (c - 17)]
  | 12 => vs = [.int .i64 (rdM (sub l 17 21))]
  | 13 => ∃ g, vs = [.slice (some ⟨g, 0, none⟩) 0 0] ∧ B ≤ g ∧ w.heap[g]? = some (.cells #[] 5 (0, 0))
  | 15 => vs = [.slice (if c = 21 then some ⟨b, o, none⟩ else some ⟨b, o + 21, none⟩) (l.length - 21) (c - 21)]
  | 16 => ∃ a' c', vs = [.slice a' (l.length - 21) c'] ∧ Kd.byte.Own 5 w B (.slice a' (l.length - 21) c') (l.drop 21)
  | 17 => ∃ v, vs = [.agg #[.int .i64 b0.toNat, .int .i64 (rdM (sub l 1 9)), .int .i64 (rdM (sub l 9 17)), .int .i64 (rdM (sub l 17 21)), v], v]
  | 18 => ∃ g, vs = [.pointer (some ⟨g, 0, none⟩)] ∧ B ≤ g ∧ w.heap[g]? = some (.cells #[.int .i64 0, .int .i64 0, .int .i64 0, .int .i64 0, .slice none 0 0] 24 (0, 0))
  | _ => True
theorem phiG_ext (b o c : Nat) (b0 : UInt8) (l : List UInt8) (B : Nat) : ∀ i vs w w', phiG b o c b0 l B i vs w → Ext w w' → phiG b o c b0 l B i vs w' := by
  intro i vs w w' h e
  unfold phiG at h ⊢
  split at h <;> first | exact h | skip
  · obtain ⟨g, h1, h2, h3⟩ := h; exact ⟨g, h1, h2, e.heap h3⟩
  · obtain ⟨a', c', h1, h2⟩ := h; exact ⟨a', c', h1, h2.ext e⟩
  · obtain ⟨g, h1, h2, h3⟩ := h; exact ⟨g, h1, h2, e.heap h3⟩
attribute [local go_sem ↓] Go.wp_at_zero Go.wp_at_succ
set_option maxHeartbeats 4000000 in
theorem refGet_any {w : World} {s : Value} {S : Nat → Prop} {l : List UInt8} (hs : Kd.byte.L S w s l) (hl : l.length ≤ 100000000) :
    Calls Try.prog 18 #[s] w (Ret2 w fun w' v u => FrO w.heap.size w' v (refGet l).1 ∧ u = .bool (refGet l).2) := by
  by_cases h21 : l.length < 21
  · obtain ⟨a, c, rfl, _, _⟩ := hs.form
    have hg : refGet l = (Fr.zero, false) := by unfold refGet; rw [if_pos (.inl h21)]
    rw [hg]
    have hz : (l.length : Int) < 21 := by omega
    clear hg
    go_enter Try.func18, Try.ntmps18
    go_wp2
    exact bodyPost_ret (v := .tuple #[.agg #[.int .i64 0, .int .i64 0, .int .i64 0, .int .i64 0, .slice none 0 0], .bool false]) (by simp [results, Try.results18, go_sem]) rfl ⟨_, _, rfl, ⟨FrO.zero _ _, rfl⟩, (Ext.refl _).alloc _⟩
  by_cases h71 : 71 < l.length
  · obtain ⟨a, c, rfl, _, _⟩ := hs.form
    have hg : refGet l = (Fr.zero, false) := by unfold refGet; rw [if_pos (.inr (.inl h71))]
    rw [hg]
    have hz : (71 : Int) < (l.length : Int) := by omega
    have hz2 : ¬ (l.length : Int) < 21 := by omega
    clear hg
    go_enter Try.func18, Try.ntmps18
    go_wp2
    exact bodyPost_ret (v := .tuple #[.agg #[.int .i64 0, .int .i64 0, .int .i64 0, .int .i64 0, .slice none 0 0], .bool false]) (by simp [results, Try.results18, go_sem]) rfl ⟨_, _, rfl, ⟨FrO.zero _ _, rfl⟩, (Ext.refl _).alloc _⟩
  obtain ⟨b, o, c, rfl, h1, h2, _, hcc⟩ := hs.open_ (by omega) (by decide)
  unfold maxLen at h2
  have hcell : ∀ i, (hi : i < l.length) → w.cell? ⟨b, o + i, none⟩ = some (.int .u8 (l[i].toNat : Int)) := fun i hi => by
    obtain ⟨cs, hk1, hk2⟩ := hcc i l[i] (List.getElem?_eq_getElem hi)
    obtain rfl : cs = _ := hk1
    simpa [Kd.byte, Kd.flat] using hk2 0 _ rfl
  have c0 := hcell 0 (by omega)
  have c1 := hcell 1 (by omega)
  have c9 := hcell 9 (by omega)
  by_cases hz : l[1] = 0 ∧ l[9] = 0
  · rw [hz.1] at c1
    rw [hz.2] at c9
    have e0 := Lib.hid (show l.getD 0 0 = l[0] from by simp [List.getD, List.getElem?_eq_getElem (show 0 < l.length by omega)])
    have eg : refGet l = if frRight (refRaw l) then (refRaw l, true) else (Fr.zero, false) := by
      unfold refGet
      rw [if_neg]
      simp [List.getD, List.getElem?_eq_getElem (show 1 < l.length by omega), List.getElem?_eq_getElem (show 9 < l.length by omega), hz.1, hz.2]
      omega
    have HE := Lib.hid eg
    generalize l[0] = b0 at *
    clear eg hcell hcc hz
    have hl8 := b0.toNat_lt
    rw [Nat.add_zero] at c0
    have hbl : b < w.heap.size := World.block_lt_of_cell? _ _ c0
    have hle : 21 ≤ l.length := by omega
    have hlg : l.length ≤ 71 := by omega
    have hlc : (l.length : Int) ≤ c := by omega
    have m0 : (21 : Int) ≤ (l.length : Int) := by omega
    have m1 : (9 : Int) ≤ (c : Int) := by omega
    have m2 : (17 : Int) ≤ (c : Int) := by omega
    have m3 : (21 : Int) ≤ (c : Int) := by omega
    have m5 : 0 < l.length := by omega
    have m4 : (0 : Int) < (l.length : Int) := by omega
    have R1 := fun W => refRead_sub hs 1 9 8 (c - 1) (by omega) (by omega) (by omega) (by omega) rfl (W := W)
    have R2 := fun W => refRead_sub hs 9 17 8 (c - 9) (by omega) (by omega) (by omega) (by omega) rfl (W := W)
    have R3 := fun W => refRead_sub hs 17 21 4 (c - 17) (by omega) (by omega) (by omega) (by omega) rfl (W := W)
    have R4 : ∀ W, Ext w W → Kd.byte.L S W (.slice (if c = 21 then some ⟨b, o, none⟩ else some ⟨b, o + 21, none⟩) (l.length - 21) (c - 21)) (l.drop 21) := fun W e => by
      have := (hs.ext e).cut rfl hle (Nat.le_refl _) (if c = 21 then some ⟨b, o, none⟩ else some ⟨b, o + 21, none⟩) (fun h => by rintro b' o' e; injection e with e; injection e with e1 e2; subst e1; subst e2; rw [if_neg (by omega)]; rfl)
      rwa [List.take_length] at this
    have n1 : ¬ c = 1 := by omega
    have n2 : ¬ c = 9 := by omega
    have n3 : ¬ c = 17 := by omega
    have hw0 : IntKind.i64.wrap (b0.toNat : Int) = b0.toNat := IntWalk.i64_in _ (by omega)
    have hx0 : Ext w (w.alloc (.cells #[.int .i64 0, .int .i64 0, .int .i64 0, .int .i64 0, .slice none 0 0] 24)) := (Ext.refl w).alloc _
    go_enter Try.func18, Try.ntmps18
    go_wp2_with fail
    refine wp_region_monoL (m := 19) (rd := rdG) (φ := phiG b o c b0 l (w.heap.size + 1)) (by kernel_rfl) rfl (by kernel_rfl) (by kernel_rfl) (by kernel_rfl) (phiG_ext _ _ _ _ _ _) ?_ ?_
    · repeat' (first | exact MSteps.nil _ | refine MSteps.cons ?_ ?_)
      · refine StepOk.pure fun a w' hx hf hp => ?_
        have f0 := hf.same 0 (by kernel_rfl)
        have hsz := Lib.hid (show a.tmps.size = 49 from hf.size)
        clear hf
        simp [phiG, rdG, valsAt] at hp f0
        refine ⟨_, by go_simp; rfl, ?_⟩
        show phiG _ _ _ _ _ _ 0 (valsAt (a.put (some 26) _) [26]) _
        rw [valsAt_put (by rw [hsz.out]; decide)]
        rfl
      · refine StepOk.pure fun a w' hx hf hp => ?_
        have f0 := hf.same 0 (by kernel_rfl)
        have hsz := Lib.hid (show a.tmps.size = 49 from hf.size)
        clear hf
        simp [phiG, rdG, valsAt] at hp f0
        refine ⟨_, by go_simp; rfl, ?_⟩
        show phiG _ _ _ _ _ _ 1 (valsAt (a.put (some 27) _) [27]) _
        rw [valsAt_put (by rw [hsz.out]; decide)]
        rfl
      · refine StepOk.pure fun a w' hx hf hp => ?_
        have f0 := hf.same 0 (by kernel_rfl)
        have hsz := Lib.hid (show a.tmps.size = 49 from hf.size)
        clear hf
        have hc0 := (hx0.trans (((Ext.refl _).drew).trans hx)).cell c0
        simp [phiG, rdG, valsAt] at hp f0
        refine ⟨_, by go_simp; rfl, ?_⟩
        show phiG _ _ _ _ _ _ 2 (valsAt (a.put (some 28) _) [28]) _
        rw [valsAt_put (by rw [hsz.out]; decide)]
        rfl
      · refine StepOk.pure fun a w' hx hf hp => ?_
        have f0 := hf.same 0 (by kernel_rfl)
        have hsz := Lib.hid (show a.tmps.size = 49 from hf.size)
        clear hf
        simp [phiG, rdG, valsAt] at hp f0
        refine ⟨_, by go_simp; rfl, ?_⟩
        show phiG _ _ _ _ _ _ 3 (valsAt (a.put (some 29) _) [29]) _
        rw [valsAt_put (by rw [hsz.out]; decide)]
        rfl
      · refine StepOk.pure fun a w' hx hf hp => ?_
        have f0 := hf.same 0 (by kernel_rfl)
        have hsz := Lib.hid (show a.tmps.size = 49 from hf.size)
        clear hf
        simp [phiG, rdG, valsAt] at hp f0
        refine ⟨_, by go_simp; rfl, ?_⟩
        show phiG _ _ _ _ _ _ 4 (valsAt (a.put (some 30) _) [30]) _
        rw [valsAt_put (by rw [hsz.out]; decide)]
        rfl
      · refine StepOk.pure fun a w' hx hf hp => ?_
        have f0 := hf.same 0 (by kernel_rfl)
        have hsz := Lib.hid (show a.tmps.size = 49 from hf.size)
        clear hf
        simp [phiG, rdG, valsAt] at hp f0
        refine ⟨_, by go_simp; rfl, ?_⟩
        show phiG _ _ _ _ _ _ 5 (valsAt (a.put (some 31) _) [31]) _
        rw [valsAt_put (by rw [hsz.out]; decide)]
        rfl
      · intro a w' hx hf hp
        have hsz := Lib.hid (show a.tmps.size = 49 from hf.size)
        clear hf
        simp [phiG, rdG, valsAt] at hp
        have hR := R1 w' (hx0.trans (((Ext.refl _).drew).trans hx))
        have HR := Lib.hid hR
        clear hR
        go_simp
        refine HR.out.mono ?_
        rintro e w'' ⟨rfl, rfl⟩
        refine ⟨_, rfl, Ext.refl _, ?_⟩
        show phiG _ _ _ _ _ _ 6 (valsAt (a.put (some 32) _) [32]) _
        rw [valsAt_put (by rw [hsz.out]; decide)]
        rfl
      · refine StepOk.pure fun a w' hx hf hp => ?_
        have f0 := hf.same 0 (by kernel_rfl)
        have hsz := Lib.hid (show a.tmps.size = 49 from hf.size)
        clear hf
        simp [phiG, rdG, valsAt] at hp f0
        refine ⟨_, by go_simp; rfl, ?_⟩
        show phiG _ _ _ _ _ _ 7 (valsAt (a.put (some 33) _) [33]) _
        rw [valsAt_put (by rw [hsz.out]; decide)]
        rfl
      · refine StepOk.pure fun a w' hx hf hp => ?_
        have f0 := hf.same 0 (by kernel_rfl)
        have hsz := Lib.hid (show a.tmps.size = 49 from hf.size)
        clear hf
        simp [phiG, rdG, valsAt] at hp f0
        refine ⟨_, by go_simp; rfl, ?_⟩
        show phiG _ _ _ _ _ _ 8 (valsAt (a.put (some 34) _) [34]) _
        rw [valsAt_put (by rw [hsz.out]; decide)]
        rfl
      · intro a w' hx hf hp
        have hsz := Lib.hid (show a.tmps.size = 49 from hf.size)
        clear hf
        simp [phiG, rdG, valsAt] at hp
        have hR := R2 w' (hx0.trans (((Ext.refl _).drew).trans hx))
        have HR := Lib.hid hR
        clear hR
        go_simp
        refine HR.out.mono ?_
        rintro e w'' ⟨rfl, rfl⟩
        refine ⟨_, rfl, Ext.refl _, ?_⟩
        show phiG _ _ _ _ _ _ 9 (valsAt (a.put (some 35) _) [35]) _
        rw [valsAt_put (by rw [hsz.out]; decide)]
        rfl
      · refine StepOk.pure fun a w' hx hf hp => ?_
        have f0 := hf.same 0 (by kernel_rfl)
        have hsz := Lib.hid (show a.tmps.size = 49 from hf.size)
        clear hf
        simp [phiG, rdG, valsAt] at hp f0
        refine ⟨_, by go_simp; rfl, ?_⟩
        show phiG _ _ _ _ _ _ 10 (valsAt (a.put (some 36) _) [36]) _
        rw [valsAt_put (by rw [hsz.out]; decide)]
        rfl
      · refine StepOk.pure fun a w' hx hf hp => ?_
        have f0 := hf.same 0 (by kernel_rfl)
        have hsz := Lib.hid (show a.tmps.size = 49 from hf.size)
        clear hf
        simp [phiG, rdG, valsAt] at hp f0
        refine ⟨_, by go_simp; rfl, ?_⟩
        show phiG _ _ _ _ _ _ 11 (valsAt (a.put (some 37) _) [37]) _
        rw [valsAt_put (by rw [hsz.out]; decide)]
        rfl
      · intro a w' hx hf hp
        have hsz := Lib.hid (show a.tmps.size = 49 from hf.size)
        clear hf
        simp [phiG, rdG, valsAt] at hp
        have hR := R3 w' (hx0.trans (((Ext.refl _).drew).trans hx))
        have HR := Lib.hid hR
        clear hR
        go_simp
        refine HR.out.mono ?_
        rintro e w'' ⟨rfl, rfl⟩
        refine ⟨_, rfl, Ext.refl _, ?_⟩
        show phiG _ _ _ _ _ _ 12 (valsAt (a.put (some 38) _) [38]) _
        rw [valsAt_put (by rw [hsz.out]; decide)]
        rfl
      · intro a w' hx hf hp
        have hsz := Lib.hid (show a.tmps.size = 49 from hf.size)
        clear hf hp
        go_simp
        refine ⟨_, rfl, (Ext.refl _).alloc _, ?_⟩
        show phiG _ _ _ _ _ _ 13 (valsAt (a.put (some 39) _) [39]) _
        rw [valsAt_put (by rw [hsz.out]; decide)]
        exact ⟨_, rfl, (by have := hx.size; simpa using this), heap_alloc_new _ _⟩
      · refine StepOk.pure fun a w' hx hf hp => ?_
        have f0 := hf.same 0 (by kernel_rfl)
        have hsz := Lib.hid (show a.tmps.size = 49 from hf.size)
        clear hf
        simp [phiG, rdG, valsAt] at hp f0
        refine ⟨_, by go_simp; rfl, ?_⟩
        show phiG _ _ _ _ _ _ 14 (valsAt (a.put (some 40) _) [40]) _
        rw [valsAt_put (by rw [hsz.out]; decide)]
        rfl
      · refine StepOk.pure fun a w' hx hf hp => ?_
        have f0 := hf.same 0 (by kernel_rfl)
        have hsz := Lib.hid (show a.tmps.size = 49 from hf.size)
        clear hf
        simp [phiG, rdG, valsAt] at hp f0
        refine ⟨_, by go_simp; rfl, ?_⟩
        show phiG _ _ _ _ _ _ 15 (valsAt (a.put (some 41) _) [41]) _
        rw [valsAt_put (by rw [hsz.out]; decide)]
        rfl
      · intro a w' hx hf hp
        have hsz := Lib.hid (show a.tmps.size = 49 from hf.size)
        clear hf
        have p13 := hp ⟨13, .data⟩ (by simp)
        have p15 := hp ⟨15, .data⟩ (by simp)
        clear hp
        simp [phiG, rdG, valsAt] at p13 p15
        obtain ⟨g, p13, hB, hg⟩ := p13
        have hx1 := hx0.trans (((Ext.refl _).drew).trans hx)
        refine wp_app_lit0 Kd.byte_flat Eb rfl (by simpa [Act.eval] using p13) hg hB (by simpa [Act.eval] using p15) (R4 _ hx1) (List.length_drop ..) (by omega) (by omega) fun a' c' w'' ho hx2 => ⟨_, rfl, hx2, ?_⟩
        show phiG _ _ _ _ _ _ 16 (valsAt (a.put (some 42) _) [42]) _
        rw [valsAt_put (by rw [hsz.out]; decide)]
        exact ⟨_, _, rfl, ho⟩
      · refine StepOk.pure fun a w' hx hf hp => ?_
        have hsz := Lib.hid (show a.tmps.size = 49 from hf.size)
        clear hf
        have p3 := hp ⟨3, .data⟩ (by simp)
        have p6 := hp ⟨6, .data⟩ (by simp)
        have p9 := hp ⟨9, .data⟩ (by simp)
        have p12 := hp ⟨12, .data⟩ (by simp)
        have p16 := hp ⟨16, .data⟩ (by simp)
        clear hp
        simp [phiG, rdG, valsAt] at p3 p6 p9 p12 p16
        obtain ⟨a', c', p16, _⟩ := p16
        have P16 := Lib.hid p16
        refine ⟨_, by go_simp; rfl, ?_⟩
        show phiG _ _ _ _ _ _ 17 (valsAt (a.put (some 43) _) [43, 42]) _
        have e1 : valsAt (a.put (some 43) (.agg #[.int .i64 b0.toNat, .int .i64 (rdM (sub l 1 9)), .int .i64 (rdM (sub l 9 17)), .int .i64 (rdM (sub l 17 21)), .slice a' (l.length - 21) c'])) [43, 42] = [.agg #[.int .i64 b0.toNat, .int .i64 (rdM (sub l 1 9)), .int .i64 (rdM (sub l 9 17)), .int .i64 (rdM (sub l 17 21)), .slice a' (l.length - 21) c'], .slice a' (l.length - 21) c'] := by
          simp only [valsAt, List.map_cons, List.map_nil]
          rw [getD_put_same (by rw [hsz.out]; decide), getD_put_ne (by decide)]
          simpa using P16.out
        rw [e1]
        exact ⟨_, rfl⟩
      · intro a w' hx hf hp
        have hsz := Lib.hid (show a.tmps.size = 49 from hf.size)
        clear hf hp
        go_simp
        refine ⟨_, rfl, (Ext.refl _).alloc _, ?_⟩
        show phiG _ _ _ _ _ _ 18 (valsAt (a.put (some 4) _) [4]) _
        rw [valsAt_put (by rw [hsz.out]; decide)]
        exact ⟨_, rfl, (by have := hx.size; simpa using this), heap_alloc_new _ _⟩
    · intro a w' hx hf hp
      have p16 := hp 16 (by omega)
      have p17 := hp 17 (by omega)
      have p18 := hp 18 (by omega)
      simp [phiG, rdG, valsAt] at p16 p17 p18
      have hdf : a.defers = [] := hf.defers
      have ht := hf.tmps
      clear hp
      have hsz := Lib.hid (show a.tmps.size = 49 from hf.size)
      clear hf
      obtain ⟨a', c', p16, ho⟩ := p16
      obtain ⟨g, p18, hB, hg⟩ := p18
      obtain ⟨tm, df⟩ := a
      simp only at hdf p16 p17 p18 ht
      subst hdf
      rw [p16] at p17
      rw [show (List.range _) = [0, 1, 2, 3, 4, 5, 6, 7, 8, 9, 10, 11, 12, 13, 14, 15, 16, 17, 18, 19, 20, 21, 22, 23, 24, 25, 26, 27, 28, 29, 30, 31, 32, 33, 34, 35, 36, 37, 38, 39, 40, 41, 42, 43, 44, 45, 46, 47, 48] from rfl] at ht
      simp [p16, p17, p18] at ht
      clear p16 p17 p18
      generalize tm[26]?.getD undef = x26 at ht
      generalize tm[27]?.getD undef = x27 at ht
      generalize tm[28]?.getD undef = x28 at ht
      generalize tm[29]?.getD undef = x29 at ht
      generalize tm[30]?.getD undef = x30 at ht
      generalize tm[31]?.getD undef = x31 at ht
      generalize tm[32]?.getD undef = x32 at ht
      generalize tm[33]?.getD undef = x33 at ht
      generalize tm[34]?.getD undef = x34 at ht
      generalize tm[35]?.getD undef = x35 at ht
      generalize tm[36]?.getD undef = x36 at ht
      generalize tm[37]?.getD undef = x37 at ht
      generalize tm[38]?.getD undef = x38 at ht
      generalize tm[39]?.getD undef = x39 at ht
      generalize tm[40]?.getD undef = x40 at ht
      generalize tm[41]?.getD undef = x41 at ht
      have hlt : tm.size = 49 := hsz.out
      subst ht
      clear hlt hsz
      obtain ⟨f0, f1, f2, f3, f4⟩ := blk5 hg
      have fz := free_of hg
      have hgs := (Array.getElem?_eq_some_iff.1 hg).1
      have hx1 := hx0.trans (((Ext.refl _).drew).trans hx)
      have hbr := (((Ext.refl _).drew).trans hx).heap (heap_alloc_new w (.cells #[.int .i64 0, .int .i64 0, .int .i64 0, .int .i64 0, .slice none 0 0] 24))
      have HG := Lib.hid hg
      clear hg
      have hne : (Value.slice a' (l.length - 21) c').ownBlock ≠ some g := ho.ne HG.out (by decide)
      have hgB : w.heap.size ≠ g := by omega
      have hle2 : w.heap.size ≤ g := by omega
      have hoW : Kd.byte.Own 5 (((((w'.setCell ⟨g, 0, none⟩ (.int .i64 b0.toNat)).setCell ⟨g, 1, none⟩ (.int .i64 (rdM (sub l 1 9)))).setCell ⟨g, 2, none⟩ (.int .i64 (rdM (sub l 9 17)))).setCell ⟨g, 3, none⟩ (.int .i64 (rdM (sub l 17 21)))).setCell ⟨g, 4, none⟩ (.slice a' (l.length - 21) c')) (w.heap.size + 1) (.slice a' (l.length - 21) c') (l.drop 21) :=
        ((((ho.setN Kd.byte_flat hne _).setN Kd.byte_flat hne _).setN Kd.byte_flat hne _).setN Kd.byte_flat hne _).setN Kd.byte_flat hne _
      have hbf : (((((w'.setCell ⟨g, 0, none⟩ (.int .i64 b0.toNat)).setCell ⟨g, 1, none⟩ (.int .i64 (rdM (sub l 1 9)))).setCell ⟨g, 2, none⟩ (.int .i64 (rdM (sub l 9 17)))).setCell ⟨g, 3, none⟩ (.int .i64 (rdM (sub l 17 21)))).setCell ⟨g, 4, none⟩ (.slice a' (l.length - 21) c')).heap[g]? = some (.cells #[.int .i64 b0.toNat, .int .i64 (rdM (sub l 1 9)), .int .i64 (rdM (sub l 9 17)), .int .i64 (rdM (sub l 17 21)), .slice a' (l.length - 21) c'] 24 (0, 0)) :=
        heap_set (heap_set (heap_set (heap_set (heap_set HG.out _) _) _) _) _
      have hbW : (((((w'.setCell ⟨g, 0, none⟩ (.int .i64 b0.toNat)).setCell ⟨g, 1, none⟩ (.int .i64 (rdM (sub l 1 9)))).setCell ⟨g, 2, none⟩ (.int .i64 (rdM (sub l 9 17)))).setCell ⟨g, 3, none⟩ (.int .i64 (rdM (sub l 17 21)))).setCell ⟨g, 4, none⟩ (.slice a' (l.length - 21) c')).heap[w.heap.size]? = some (.cells #[.int .i64 0, .int .i64 0, .int .i64 0, .int .i64 0, .slice none 0 0] 24 (0, 0)) :=
        heap_set_other (heap_set_other (heap_set_other (heap_set_other (heap_set_other hbr hgB _) hgB _) hgB _) hgB _) hgB _
      have hxW : Ext w (((((w'.setCell ⟨g, 0, none⟩ (.int .i64 b0.toNat)).setCell ⟨g, 1, none⟩ (.int .i64 (rdM (sub l 1 9)))).setCell ⟨g, 2, none⟩ (.int .i64 (rdM (sub l 9 17)))).setCell ⟨g, 3, none⟩ (.int .i64 (rdM (sub l 17 21)))).setCell ⟨g, 4, none⟩ (.slice a' (l.length - 21) c')) := ((((hx1.set hle2 _).set hle2 _).set hle2 _).set hle2 _).set hle2 _
      have HBF := Lib.hid hbf
      have HBW := Lib.hid hbW
      have hr := refRight_any (S := Any) (f := ⟨b0.toNat, rdM (sub l 1 9), rdM (sub l 9 17), rdM (sub l 17 21), l.drop 21⟩) ⟨_, rfl, hoW.L⟩ (by simp; omega)
      have hraw : refRaw l = ⟨b0.toNat, rdM (sub l 1 9), rdM (sub l 9 17), rdM (sub l 17 21), l.drop 21⟩ := by unfold refRaw; rw [e0.out]
      rw [congrArg frRight hraw.symm] at hr
      dsimp only at hr
      have HR := Lib.hid hr
      have HRW := Lib.hid hraw
      clear hbf hbW hr hbr hraw hs R1 R2 R3 R4
      go_wp2_with fail
      refine HR.out.mono ?_
      clear HR
      rintro e w2 ⟨_, rfl, rfl, hx3⟩
      have hbr := hx3.heap HBW.out
      have hbf := hx3.heap HBF.out
      clear f0 f1 f2 f3 f4
      obtain ⟨r0, r1, r2, r3, r4⟩ := blk5 hbr
      obtain ⟨f0, f1, f2, f3, f4⟩ := blk5 hbf
      have rz := free_of hbr
      have ho3 := hoW.ext hx3
      have hx4 := hxW.trans hx3
      clear hbr hbf HBW HBF HG
      have fin : ∀ v0 v1 v2 v3 v4 : Value, Kd.byte.Own 5 (((((w2.setCell ⟨w.heap.size, 0, none⟩ v0).setCell ⟨w.heap.size, 1, none⟩ v1).setCell ⟨w.heap.size, 2, none⟩ v2).setCell ⟨w.heap.size, 3, none⟩ v3).setCell ⟨w.heap.size, 4, none⟩ v4) w.heap.size (.slice a' (l.length - 21) c') (l.drop 21) ∧
          Ext w (((((w2.setCell ⟨w.heap.size, 0, none⟩ v0).setCell ⟨w.heap.size, 1, none⟩ v1).setCell ⟨w.heap.size, 2, none⟩ v2).setCell ⟨w.heap.size, 3, none⟩ v3).setCell ⟨w.heap.size, 4, none⟩ v4) := fun v0 v1 v2 v3 v4 =>
        ⟨(((((ho3.setF Kd.byte_flat (Nat.lt_succ_self _) _).setF Kd.byte_flat (Nat.lt_succ_self _) _).setF Kd.byte_flat (Nat.lt_succ_self _) _).setF Kd.byte_flat (Nat.lt_succ_self _) _).setF Kd.byte_flat (Nat.lt_succ_self _) _).base (Nat.le_succ _),
          ((((hx4.set (Nat.le_refl _) _).set (Nat.le_refl _) _).set (Nat.le_refl _) _).set (Nat.le_refl _) _).set (Nat.le_refl _) _⟩
      have FIN := Lib.hid fin
      have HT := Lib.hid (show frRight (refRaw l) = true → refGet l = (refRaw l, true) from fun h => by rw [HE.out, if_pos h])
      have HF := Lib.hid (show frRight (refRaw l) = false → refGet l = (Fr.zero, false) from fun h => by rw [HE.out, if_neg (by simp [h])])
      clear fin
      clear h21 h71 hw0 hne n1 n2 n3 c0 c1 c9 hbl hx hx1 hxW hoW ho ho3 hx4 hx3 hx0 hle2 hlc m0 m1 m2 m3 m4 m5
      go_wp2
      · have hg := HF.out (by first | assumption | (simp_all; done))
        refine bodyPost_ret (v := .tuple #[.agg #[.int .i64 0, .int .i64 0, .int .i64 0, .int .i64 0, .slice none 0 0], .bool false]) (by simp [results, Try.results18, go_sem, r0, r1, r2, r3, r4]) rfl ?_
        rw [hg]
        exact ⟨_, _, rfl, ⟨FrO.zero _ _, rfl⟩, (FIN.out _ _ _ _ _).2⟩
      · have hg := HT.out (by first | assumption | (simp_all; done))
        refine bodyPost_ret (v := .tuple #[.agg #[.int .i64 b0.toNat, .int .i64 (rdM (sub l 1 9)), .int .i64 (rdM (sub l 9 17)), .int .i64 (rdM (sub l 17 21)), .slice a' (l.length - 21) c'], .bool true]) (by simp [results, Try.results18, go_sem, r0, r1, r2, r3, r4]) rfl ?_
        rw [hg]
        exact ⟨_, _, rfl, ⟨⟨_, by rw [HRW.out], by rw [HRW.out]; exact (FIN.out _ _ _ _ _).1⟩, rfl⟩, (FIN.out _ _ _ _ _).2⟩
  · have hg : refGet l = (Fr.zero, false) := by
      unfold refGet
      rw [if_pos]
      simp only [List.getD, List.getElem?_eq_getElem (show 1 < l.length by omega), List.getElem?_eq_getElem (show 9 < l.length by omega), Option.getD_some]
      by_cases h : l[1] = 0
      · exact .inr (.inr (.inr fun h' => hz ⟨h, h'⟩))
      · exact .inr (.inr (.inl h))
    rw [hg]
    have hnz : ∀ u : UInt8, u ≠ 0 → ((u.toNat : Int) != 0) = true := fun u hu => by
      rw [bne_iff_ne]
      intro h
      exact hu (UInt8.toNat_inj.1 (by simpa using h))
    rw [Nat.add_zero] at c0
    have hbl : b < w.heap.size := World.block_lt_of_cell? _ _ c0
    have m0 : (21 : Int) ≤ (l.length : Int) := by omega
    have m5 : (l.length : Int) ≤ 71 := by omega
    by_cases h1z : l[1] = 0
    · have h9 := hnz l[9] fun h' => hz ⟨h1z, h'⟩
      have h9b := l[9].toNat_lt
      rw [h1z] at c1
      generalize l[9] = u9 at *
      clear hz hg hnz hcell hcc c0 h1z hs
      go_enter Try.func18, Try.ntmps18
      go_wp2
      exact bodyPost_ret (v := .tuple #[.agg #[.int .i64 0, .int .i64 0, .int .i64 0, .int .i64 0, .slice none 0 0], .bool false]) (by simp [results, Try.results18, go_sem]) rfl ⟨_, _, rfl, ⟨FrO.zero _ _, rfl⟩, (Ext.refl _).alloc _⟩
    · have h9 := hnz l[1] h1z
      have h9b := l[1].toNat_lt
      generalize l[1] = u9 at *
      clear hz hg hnz hcell hcc c0 h1z hs
      go_enter Try.func18, Try.ntmps18
      go_wp2
      exact bodyPost_ret (v := .tuple #[.agg #[.int .i64 0, .int .i64 0, .int .i64 0, .int .i64 0, .slice none 0 0], .bool false]) (by simp [results, Try.results18, go_sem]) rfl ⟨_, _, rfl, ⟨FrO.zero _ _, rfl⟩, (Ext.refl _).alloc _⟩
end Go.Proofs.Ytdehiohjlbmmdaa
