/- The walks of package frame's functions, and of the document's answer to frames. -/
import Derived.Test.YtdehiohjlbmmdaaProg
import Derived.Test.YtdehiohjlbmmdaaLb
import Derived.OneCell
import Derived.Deep.RegionHeld3
import Derived.Deep.DrawnRows
namespace Go.Proofs.Ytdehiohjlbmmdaa
open Go.RowKit Go.Sy
theorem Eb : ET Try.prog 22 5 1 1 (.int .u8 0) := ⟨Try.underlying22, by kernel_rfl, rfl, by decide⟩

/-- slices.Clone of bytes -/
theorem cloneB {w : World} {v : Value} {S : Nat → Prop} {l : List UInt8} (h : Kd.byte.L S w v l) (hl : l.length ≤ 100000000) :
    Calls Try.prog 38 #[v] w (Ret w fun w' v' => Kd.byte.Own 5 w' w.heap.size v' l) := by
  obtain ⟨a, c, rfl, h1, h2⟩ := h.form
  have q := fun W a n c => Lib.run_eql_slice_nil (P := Try.prog) W 22 5 a n c 0 0 Try.underlying22
  cases a with
  | none =>
    obtain rfl := h.none_ (by decide)
    go_enter Try.func38, Try.ntmps38
    go_wp2
    go_ret
    exact ⟨_, rfl, Kd.Own.nil, Ext.refl _⟩
  | some ad =>
    go_enter Try.func38, Try.ntmps38
    go_wp2_with (at_builtin; go_must (refine wpList_appF (w0 := w) Kd.byte_flat Eb rfl rfl rfl (Kd.Own.empty (Nat.le_refl _)) rfl (h.ext ((Ext.refl w).alloc _)) ((Ext.refl w).alloc _) (by simp; omega) (by omega) ?_; intro v' w' ho _ hx))
    go_ret
    exact ⟨_, rfl, ho, hx⟩

/-- a frame -/
structure Fr where
  kind : Int
  frm : Int
  too : Int
  num : Int
  body : List UInt8
def Fr.zero : Fr := ⟨0, 0, 0, 0, []⟩
def FrV (S : Nat → Prop) (w : World) (v : Value) (f : Fr) : Prop :=
  ∃ s, v = .agg #[.int .i64 f.kind, .int .i64 f.frm, .int .i64 f.too, .int .i64 f.num, s] ∧ Kd.byte.L S w s f.body

theorem FrV.ext {S : Nat → Prop} {w w' : World} {v : Value} {f : Fr} (h : FrV S w v f) (e : Ext w w') : FrV S w' v f := by
  obtain ⟨s, h1, h2⟩ := h
  exact ⟨s, h1, h2.ext e⟩
theorem within_any (n a b : Int) (w : World) :
    Calls Try.prog 40 #[.int .i64 n, .int .i64 a, .int .i64 b] w fun e w' => e = .returned (.bool (decide (a ≤ n ∧ n ≤ b))) ∧ w = w' := by
  by_cases h : a ≤ n <;> by_cases h2 : n ≤ b
  all_goals
    go_enter Try.func40, Try.ntmps40
    go_wp2
    go_ret
    exact ⟨by simp [h, h2], rfl⟩

def frRight (f : Fr) : Bool :=
  decide (1 ≤ f.frm ∧ f.frm ≤ 281474976710656 ∧ 0 ≤ f.too ∧ f.too ≤ 281474976710656 ∧ 0 ≤ f.num ∧ f.num ≤ 1073741824 ∧
    (f.kind = 1 ∧ f.num = 0 ∧ f.body.length = 0 ∨ f.kind = 2 ∧ 0 < f.too ∧ 1 ≤ f.body.length ∧ f.body.length ≤ 50 ∨ f.kind = 3 ∧ 0 < f.too ∧ f.body.length = 0))

set_option maxHeartbeats 1000000 in
theorem right_any {w : World} {v : Value} {S : Nat → Prop} {f : Fr} (h : FrV S w v f) (hl : f.body.length ≤ 100000000) :
    Calls Try.prog 19 #[v] w (Ret w fun _ r => r = .bool (frRight f)) := by
  obtain ⟨s, rfl, hs⟩ := h
  obtain ⟨a, c, rfl, h1, h2⟩ := hs.form
  go_enter Try.func19, Try.ntmps19
  go_wp2_with (go_at_call 40; refine (within_any _ _ _ _).mono ?_; rintro e w' ⟨rfl, rfl⟩)
  all_goals
    go_ret
    refine ⟨_, rfl, ?_, (Ext.refl _).alloc _⟩
    refine congrArg Value.bool (Bool.eq_iff_iff.2 ?_)
    unfold frRight
    clear hs
    generalize f.body.length = n at *
    simp at *
    omega

def byteAt (n : Int) (j : Nat) : UInt8 := UInt8.ofNat ((n / (2 ^ (8 * j) : Int)) % 256).toNat
def numB (n : Int) (m : Nat) : List UInt8 := (List.range m).map fun k => byteAt n (m - 1 - k)
def bytesOf (l : List (Int × Int)) : List UInt8 := l.flatMap fun x => numB x.1 x.2.toNat
theorem byteAt_val (n : Int) (j : Nat) : ((byteAt n j).toNat : Int) = n / 2 ^ (8 * j) % 256 := by
  unfold byteAt
  have h0 := Int.emod_nonneg (n / 2 ^ (8 * j)) (show (256 : Int) ≠ 0 by omega)
  have h1 := Int.emod_lt_of_pos (n / 2 ^ (8 * j)) (show (0 : Int) < 256 by omega)
  rw [UInt8.toNat_ofNat']
  generalize n / 2 ^ (8 * j) % 256 = r at *
  omega
theorem numB_len (n : Int) (m : Nat) : (numB n m).length = m := by simp [numB]
theorem numB_snoc (n : Int) (m q : Nat) (h : q < m) : (numB n m).take (q + 1) = (numB n m).take q ++ [byteAt n (m - 1 - q)] := by
  rw [List.take_succ_eq_append_getElem (by rw [numB_len]; exact h)]
  simp [numB]
theorem bytesOf_snoc (l : List (Int × Int)) (k : Nat) (h : k < l.length) : bytesOf (l.take (k + 1)) = bytesOf (l.take k) ++ numB l[k].1 l[k].2.toNat := by
  unfold bytesOf
  rw [List.take_succ_eq_append_getElem h, List.flatMap_append]
  simp only [List.flatMap_cons, List.flatMap_nil, List.append_nil]
theorem bytesOf_len : ∀ (l : List (Int × Int)), (∀ x ∈ l, 0 ≤ x.2 ∧ x.2 ≤ 8) → (bytesOf l).length ≤ 8 * l.length
  | [], _ => by simp [bytesOf]
  | x :: xs, h => by
    have h1 := bytesOf_len xs fun y hy => h y (List.mem_cons_of_mem _ hy)
    have h2 := h x List.mem_cons_self
    unfold bytesOf at *
    rw [List.flatMap_cons, List.length_append, numB_len, List.length_cons]
    omega
abbrev Kd.num : Kd (Int × Int) := Kd.pair (Kd.int .i64) (Kd.int .i64)

set_option maxHeartbeats 1000000 in
theorem bytes_any {w : World} {v : Value} {S : Nat → Prop} {l : List (Int × Int)} (h : Kd.num.L S w v l) (hl : l.length ≤ 1000) (hm : ∀ x ∈ l, 0 ≤ x.2 ∧ x.2 ≤ 8) :
    Calls Try.prog 41 #[v] w (Ret w fun w' r => Kd.byte.Own 5 w' w.heap.size r (bytesOf l)) := by
  obtain ⟨a, c, rfl, h1, h2⟩ := h.form
  go_enter Try.func41, Try.ntmps41
  go_wp2
  go_loopw [3, 9] (fun o i wr => ∃ k : Nat, k ≤ l.length ∧ i = .int .i64 k ∧ Kd.byte.Own 5 wr w.heap.size o (bytesOf (l.take k)) ∧ Ext w wr) (fun _ i _ => l.length - (intOf i).toNat)
  case atStart => exact ⟨0, by omega, rfl, Kd.Own.nil, Ext.refl _⟩
  case round =>
    obtain ⟨k, hk, rfl, ho, hx⟩ := hrel
    by_cases hlt : k < l.length
    · obtain ⟨b, o, c', e, _, _, _, hc⟩ := h.open_ (by omega) (by decide)
      injection e with e1 _ e3
      subst e1; subst e3
      obtain ⟨cs, ⟨_, _, rfl, rfl, rfl⟩, hcc⟩ := hc k l[k] (List.getElem?_eq_getElem hlt)
      have hc0 : wr.cell? ⟨b, o + k * 2, none⟩ = some (.int .i64 l[k].1) := hx.cell (hcc 0 _ rfl)
      have hc1 : wr.cell? ⟨b, o + k * 2 + 1, none⟩ = some (.int .i64 l[k].2) := hx.cell (hcc 1 _ rfl)
      have hm' := hm l[k] (List.getElem_mem hlt)
      obtain ⟨m, hm1⟩ := Int.eq_ofNat_of_zero_le hm'.1
      have hts := Lib.hid (bytesOf_snoc l k hlt)
      have hbl := Lib.hid (bytesOf_len (l.take k) fun x hx => hm x (List.mem_of_mem_take hx))
      rw [List.length_take] at hbl
      generalize l[k] = x at *
      obtain ⟨x1, x2⟩ := x
      simp only at hm1 hc1 hc0
      subst hm1
      clear hc hcc h hm
      go_wp2
      go_loopw [3, 15] (fun o2 j w2 => ∃ q : Nat, q ≤ m ∧ j = .int .i64 q ∧ Kd.byte.Own 5 w2 w.heap.size o2 (bytesOf (l.take k) ++ (numB x1 m).take q) ∧ Ext w w2 ∧
        w2.heap[wr.heap.size]? = some (.cells #[.int .i64 x1, .int .i64 m] 66 (0, 0))) (fun _ j _ => m - (intOf j).toNat)
      case atStart => exact ⟨0, by omega, rfl, by simpa using ho.ext ((Ext.refl wr).alloc _), hx.alloc _, heap_alloc_new wr _⟩
      case round =>
        obtain ⟨wo, rfl⟩ : ∃ wo : World, wo = wr := ⟨_, rfl⟩
        obtain ⟨q, hq, rfl, ho2, hx2, hb⟩ := hrel
        have g0 := cell_of hb 0
        have g1 := cell_of hb 1
        simp only [List.getElem?_toArray, List.getElem?_cons_zero, List.getElem?_cons_succ] at g0 g1
        by_cases hq2 : q < m
        · have hHb := Lib.hid hb
          clear hb
          go_wp2_with (at_builtin; go_must (refine wpList_app1 (d := Kd.byte) (y := byteAt x1 (m - 1 - q)) Eb rfl rfl rfl rfl ho2 rfl (Nat.le_refl _) (by simp [maxLen]) ?_ hx2 ?_ (by omega) ?_))
          · show [_] = [Value.int .u8 ((byteAt x1 (m - 1 - q)).toNat : Int)]
            rw [byteAt_val]
          · rw [List.length_append, List.length_take]
            have := hbl.out
            omega
          · intro v' w' ho3 hg hx3
            have hb2 := grown_keep hg hHb.out (ho2.ne hHb.out (by decide))
            go_wp2
            go_roundw
            case rel => exact ⟨q + 1, by omega, by go_num, by rw [numB_snoc _ _ _ hq2, ← List.append_assoc]; simpa using ho3, hx3, hb2⟩
            case measure => simp [intOf]; omega
        · rw [show (numB x1 m).take q = numB x1 m from List.take_of_length_le (by rw [numB_len]; omega)] at ho2
          clear hb
          go_wp2
          go_roundw
          case rel => exact ⟨k + 1, by omega, by go_num, by rw [hts.out]; exact ho2, hx2⟩
          case measure => simp [intOf]; omega
    · have : k = l.length := by omega
      subst this
      rw [List.take_length] at ho
      go_wp2
      go_ret
      exact ⟨_, rfl, ho, hx⟩

def frNums (f : Fr) : List (Int × Int) := [(f.kind, 1), (f.frm, 8), (f.too, 8), (f.num, 4)]
def frPut (f : Fr) : List UInt8 := if frRight f then bytesOf (frNums f) ++ f.body else []
attribute [local go_sem ↓] Go.wp_at_zero Go.wp_at_succ
set_option maxHeartbeats 1000000 in
theorem put_any {w : World} {v : Value} {S : Nat → Prop} {f : Fr} (h : FrV S w v f) (hl : f.body.length ≤ 100000000) :
    Calls Try.prog 21 #[v] w (Ret w fun w' r => Kd.byte.Own 5 w' w.heap.size r (frPut f)) := by
  have h0 := h
  obtain ⟨s, rfl, hs⟩ := h
  have hr := right_any (h0.ext ((Ext.refl w).alloc (.cells #[.int .i64 f.kind, .int .i64 f.frm, .int .i64 f.too, .int .i64 f.num, s] 24))) hl
  have hs1 := hs.ext ((Ext.refl w).alloc (.cells #[.int .i64 f.kind, .int .i64 f.frm, .int .i64 f.too, .int .i64 f.num, s] 24))
  have hb1 := Lib.hid (heap_alloc_new w (.cells #[.int .i64 f.kind, .int .i64 f.frm, .int .i64 f.too, .int .i64 f.num, s] 24))
  obtain ⟨a, c, rfl, h1, h2⟩ := hs.form
  unfold frPut
  cases hR : frRight f
  · rw [hR] at hr
    clear hR
    go_enter Try.func21, Try.ntmps21
    go_wp2_with (go_at_call 19; go_must (refine hr.mono ?_; rintro e w' ⟨_, rfl, rfl, hx⟩))
    go_ret
    exact ⟨_, rfl, Kd.Own.nil, ((Ext.refl _).alloc _).trans hx⟩
  · rw [hR] at hr
    clear hR
    go_enter Try.func21, Try.ntmps21
    go_wp2_with (go_at_call 19; go_must (refine hr.mono ?_; rintro e w1 ⟨_, rfl, rfl, hx⟩))
    have hbb := hx.heap hb1.out
    have g0 := cell_of hbb 0
    have g1 := cell_of hbb 1
    have g2 := cell_of hbb 2
    have g3 := cell_of hbb 3
    have g4 := cell_of hbb 4
    simp only [List.getElem?_toArray, List.getElem?_cons_zero, List.getElem?_cons_succ] at g0 g1 g2 g3 g4
    clear hbb
    go_wp2
    have k1 : (frNums f).length ≤ 1000 := by simp [frNums]
    have k2 : ∀ x ∈ frNums f, 0 ≤ x.2 ∧ x.2 ≤ 8 := by simp [frNums]
    have k3 : (frNums f).length ≤ maxLen := by simp [frNums, maxLen]
    have k4 : (bytesOf (frNums f)).length + f.body.length ≤ 1000000000 := by simp [frNums, bytesOf, numB_len]; omega
    have k7 : ∀ W, Kd.num.many Any W (frNums f) [.int .i64 f.kind, .int .i64 1, .int .i64 f.frm, .int .i64 8, .int .i64 f.too, .int .i64 8, .int .i64 f.num, .int .i64 4] := fun W => ⟨_, _, ⟨_, _, rfl, rfl, rfl⟩, ⟨_, _, ⟨_, _, rfl, rfl, rfl⟩, ⟨_, _, ⟨_, _, rfl, rfl, rfl⟩, ⟨_, _, ⟨_, _, rfl, rfl, rfl⟩, rfl, rfl⟩, rfl⟩, rfl⟩, rfl⟩
    have k6 : 1 ≤ 1000 := by omega
    have k5 : w1.heap.size ≤ (w1.alloc (.cells #[.int .i64 f.kind, .int .i64 1, .int .i64 f.frm, .int .i64 8, .int .i64 f.too, .int .i64 8, .int .i64 f.num, .int .i64 4] 66)).drew.heap.size := by simp
    go_region_held3 (fun w' => w'.cell? ⟨w.heap.size, 0, none⟩ = some (.int .i64 f.kind) ∧ w'.cell? ⟨w.heap.size, 1, none⟩ = some (.int .i64 f.frm) ∧ w'.cell? ⟨w.heap.size, 2, none⟩ = some (.int .i64 f.too) ∧
      w'.cell? ⟨w.heap.size, 3, none⟩ = some (.int .i64 f.num) ∧ w'.cell? ⟨w.heap.size, 4, none⟩ = some (.slice a f.body.length c))
      (first | go_keep | (go_split_ands; exact ⟨hxx.cell g0, hxx.cell g1, hxx.cell g2, hxx.cell g3, hxx.cell g4⟩))
      (first | (go_at_call 41; go_must (refine (bytes_any (l := frNums f) (S := Any) (by exact Kd.L.ofBlock (heap_alloc_new w1 _) (k7 _) trivial rfl (Nat.le_refl _) k3) k1 k2).mono ?_); rintro e w4 ⟨r4, rfl, ho4, hx4⟩; go_must (have hxx : Ext w1 w4 := (((Ext.refl w1).alloc _).drew).trans hx4; have hsx := hs1.ext (Ext.trans hx hxx); have ho4b := Kd.Own.base ho4 k5)) | (refine step_appF (w0 := w1) Kd.byte_flat Eb (by rfl) (by rfl) (by rfl) ho4b (by rfl) hsx hxx k4 k6 ?_; intro v5 w5 ho5 _ hxx))
    go_wp2
    go_ret
    exact ⟨_, rfl, ho5.base (by have := hx.size; simp at this; omega), (((Ext.refl _).alloc _).trans hx).trans hxx⟩

def rd1 (n : Int) (c : UInt8) : Int := bits .or .i64 (wrap64 (n * 256)) (c.toNat : Int)
def rdN (l : List UInt8) : Int := l.foldl rd1 0
theorem rdN_snoc (l : List UInt8) (k : Nat) (h : k < l.length) : rdN (l.take (k + 1)) = rd1 (rdN (l.take k)) l[k] := by
  unfold rdN
  rw [List.take_succ_eq_append_getElem h, List.foldl_append]
  rfl
def Get1Post (S : Nat → Prop) (w : World) (g m : Nat) (l : List UInt8) : Ending → World → Prop := fun e w' =>
  ∃ s', e = .returned (.int .i64 (rdN (l.take m))) ∧ w' = w.setCell ⟨g, 0, none⟩ s' ∧ Kd.byte.L S w' s' (l.drop m)
set_option maxHeartbeats 1000000 in
theorem get1_any {w : World} {g m : Nat} {s : Value} {S : Nat → Prop} {l : List UInt8} (hb : w.heap[g]? = some (.cells #[s] 22 (0, 0))) (hs : Kd.byte.L S w s l) (h0 : 0 < m) (hm : m ≤ l.length) (hS : ¬ S g) (hl : l.length ≤ 1000000000) :
    Calls Try.prog 37 #[.int .i64 m, .pointer (some ⟨g, 0, none⟩)] w (Get1Post S w g m l) := by
  have hc : w.cell? ⟨g, 0, none⟩ = some s := cell_of_one hb
  have hf : w.frozen? ⟨g, 0, none⟩ = false := free_of_one hb
  clear hb
  obtain ⟨b, o, c, rfl, h1, h2, _, hcc⟩ := hs.open_ (by omega) (by decide)
  unfold maxLen at h2
  have hfin : ∀ a' c', c' = c - m → (∀ b' o', (some ⟨b, o, none⟩ : Option Addr) = some ⟨b', o', none⟩ → m < l.length → a' = some ⟨b', o' + m, none⟩) →
      Get1Post S w g m l (.returned (.int .i64 (rdN (l.take m)))) (w.setCell ⟨g, 0, none⟩ (.slice a' (l.length - m) c')) := fun a' c' e ha => by
    subst e
    refine ⟨_, rfl, rfl, ?_⟩
    have := hs.cut rfl hm (Nat.le_refl _) a' fun h b' o' e => by simpa [Kd.byte, Kd.flat] using ha b' o' e h
    rw [List.take_length] at this
    refine this.frame fun b hb _ => Below.heap_setCell _ _ _ _ ?_
    rintro rfl
    exact hS hb
  have hfin := Lib.hid hfin
  clear hs
  by_cases hcap : c = m
  all_goals
    go_enter Try.func37, Try.ntmps37
    go_wp2
    go_loop [4, 11] (fun a c => ∃ k : Nat, k ≤ m ∧ c = .int .i64 k ∧ a = .int .i64 (rdN (l.take k))) (fun _ i => m - (intOf i).toNat)
    case atStart => exact ⟨0, by omega, rfl, rfl⟩
    case round =>
      obtain ⟨k, hk, rfl, rfl⟩ := hrel
      by_cases hlt : k < m
      · obtain ⟨cs, hk1, hk2⟩ := hcc k l[k] (List.getElem?_eq_getElem (by omega))
        obtain rfl : cs = _ := hk1
        have hcell : w.cell? ⟨b, o + k, none⟩ = some (.int .u8 (l[k].toNat : Int)) := by simpa [Kd.byte, Kd.flat] using hk2 0 _ rfl
        have hsn := Lib.hid (rdN_snoc l k (by omega))
        have hlt8 := l[k].toNat_lt
        generalize l[k] = y at *
        clear hcc hk2
        go_wp2
        go_round
        case rel => exact ⟨k + 1, by omega, by go_num, by rw [hsn.out]; rfl⟩
        case measure => simp [intOf]; omega
      · have : k = m := by omega
        subst this
        clear hcc
        go_wp2
        go_ret
        exact hfin.out _ _ (by omega) (by rintro b' o' e h; injection e with e; injection e with e1 e2; subst e1; subst e2; first | omega | rfl)
end Go.Proofs.Ytdehiohjlbmmdaa
