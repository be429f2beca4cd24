/- Layer 05: what a network's parts make of the whole (plain laws). -/
import Derived.Test.YtblabchnpkofgaaSc
set_option linter.unusedSimpArgs false
set_option linter.unusedVariables false
namespace Go.Proofs.Ytblabchnpkofgaa
open Go.RowKit Go.Sy
theorem chk_append : ∀ (ps bs : List Ly) (s : Sh), chk s (ps ++ bs) = (chk s ps).bind fun xs => (chk (lastS s xs) bs).map (xs ++ ·)
  | [], bs, s => by simp [chk, lastS]
  | a :: ps, bs, s => by
    by_cases h : (outOf s a).2 = true
    · simp only [List.cons_append, chk, if_pos h, chk_append ps]
      cases chk (outOf s a).1 ps with
      | none => rfl
      | some xs =>
        simp only [Option.bind_some, Option.map_some, lastS]
        cases chk (lastS (outOf s a).1 xs) bs <;> rfl
    · simp [chk, h]
/-- the layers ahead of a cut, and those behind it -/
theorem chk_cut {ls : List Ly} {s : Sh} {xs : List Lx} (h : chk s ls = some xs) (k : Nat) (hk : k ≤ ls.length) :
    ∃ ys zs, xs = ys ++ zs ∧ ys.length = k ∧ chk s (ls.take k) = some ys ∧ chk (lastS s ys) (ls.drop k) = some zs := by
  rw [← List.take_append_drop k ls, chk_append, Option.bind_eq_some_iff] at h
  obtain ⟨ys, h1, h2⟩ := h
  rw [Option.map_eq_some_iff] at h2
  obtain ⟨zs, h2, rfl⟩ := h2
  refine ⟨ys, zs, rfl, ?_, h1, h2⟩
  rw [chk_len h1, List.length_take]
  omega
theorem ntForm_iff {n : Nt} : ntForm n = true ↔ n.ls.length ≤ 8 ∧ (inN n.inp.c 999999 && inN n.inp.h 999999 && inN n.inp.w 999999) = true ∧ n.ls.all lyForm = true := by
  unfold ntForm
  generalize inN n.inp.c 999999 = a
  generalize inN n.inp.h 999999 = b
  generalize inN n.inp.w 999999 = d
  simp only [Bool.and_eq_true, Bool.not_eq_true', decide_eq_false_iff_not]
  constructor
  · rintro ⟨⟨⟨⟨h1, h2⟩, h3⟩, h4⟩, h5⟩
    exact ⟨by omega, ⟨⟨h2, h3⟩, h4⟩, h5⟩
  · rintro ⟨h1, ⟨⟨h2, h3⟩, h4⟩, h5⟩
    exact ⟨⟨⟨⟨by omega, h2⟩, h3⟩, h4⟩, h5⟩
theorem ckE_ok' {n : Nt} {xs : List Lx} (h1 : ntForm n = true) (h2 : shRight n.inp = true) (h3 : chk n.inp n.ls = some xs) (h4 : sumW xs ≤ 512) (h5 : sumP xs ≤ 512) : ckE n = 0 ∧ ckL n = xs ∧ ckS n = n.inp :: xs.map (·.out) := by
  have e : ckE n = 0 := by simp [ckE, h1, h2, h3, h4, h5]
  have l : ckL n = xs := by simp [ckL, e, h3]
  exact ⟨e, l, by rw [show ckS n = _ from if_pos e, l]⟩
theorem sumW_append (xs ys : List Lx) : sumW (xs ++ ys) = sumW xs + sumW ys := by simp [sumW]
theorem sumP_append (xs ys : List Lx) : sumP (xs ++ ys) = sumP xs + sumP ys := by simp [sumP]
theorem chk_fit : ∀ {ls : List Ly} {s : Sh} {xs : List Lx} {i : Nat} {el : Ly}, chk s ls = some xs → shRight s = true → ls[i]? = some el → ∃ cur, (s :: xs.map (·.out))[i]? = some cur ∧ shRight cur = true ∧ (outOf cur el).2 = true ∧ xs[i]? = some (lxOf cur el) ∧ (s :: xs.map (·.out))[i + 1]? = some (outOf cur el).1
  | [], _, _, _, _, _, _, h => by simp at h
  | a :: ls, s, xs, i, el, h, hs, he => by
    simp only [chk] at h
    split at h
    · rename_i hf
      simp only [Option.map_eq_some_iff] at h
      obtain ⟨ys, h1, rfl⟩ := h
      cases i with
      | zero =>
        simp only [List.getElem?_cons_zero, Option.some.injEq] at he
        subst he
        exact ⟨s, rfl, hs, hf, rfl, rfl⟩
      | succ i =>
        simp only [List.getElem?_cons_succ] at he
        obtain ⟨cur, h2, h3, h4, h5, h6⟩ := chk_fit h1 (out_bounds hs hf).1 he
        exact ⟨cur, h2, h3, h4, h5, h6⟩
    · cases h
theorem ck_fit {n : Nt} {i : Nat} {el : Ly} (h : ckE n = 0) (he : n.ls[i]? = some el) : ∃ cur, (ckS n)[i]? = some cur ∧ shRight cur = true ∧ (outOf cur el).2 = true ∧ (1 ≤ el.kind ∧ el.kind ≤ 4) ∧ (ckL n)[i]? = some (lxOf cur el) ∧ (ckS n)[i + 1]? = some (outOf cur el).1 := by
  obtain ⟨h0, h1, h2, _⟩ := ckE_ok h
  rw [show ckS n = n.inp :: (ckL n).map (·.out) from if_pos h]
  obtain ⟨cur, a1, a2, a3, a4, a5⟩ := chk_fit h2 h1 he
  exact ⟨cur, a1, a2, a3, lyForm_kind (List.all_eq_true.1 (ntForm_all h0).2 _ (List.mem_of_getElem? he)), a4, a5⟩
/-- what a layer weighs, by its kind -/
theorem out_pos {s : Sh} {l : Ly} (hs : shRight s = true) (hf : (outOf s l).2 = true) (hk : 1 ≤ l.kind ∧ l.kind ≤ 4) :
    (wOf s l = 0 ↔ l.kind = 2 ∨ l.kind = 3) ∧ (pOf s (outOf s l).1 l = 0 ↔ l.kind = 3) ∧ 0 ≤ wOf s l ∧ wOf s l ≤ pOf s (outOf s l).1 l := by
  have hb := shRight_iff.1 hs
  have hm := shMul hs
  have hz : 1 ≤ shSize s ∧ shSize s ≤ 128 := by
    unfold shSize
    rw [if_pos hs]
    omega
  by_cases h1 : l.kind = 1
  · have e := fits1 (s := s) h1
    rw [e] at hf ⊢
    obtain ⟨h2, h3⟩ := shSized_t (s := s) (t := ⟨l.out, conv1 l.size l.step s.h, conv1 l.size l.step s.w⟩) hf
    have hb2 := shRight_iff.1 h2
    have hsz : 1 ≤ l.size ∧ l.size ≤ 12 := by
      by_cases hh : 1 ≤ l.size ∧ l.size ≤ s.h ∧ 1 ≤ l.step ∧ l.step ≤ 12
      · omega
      · have := conv1_0 (size := l.size) (step := l.step) (n := s.h) hh
        have h4 := hb2.2.1.1
        simp only at h4
        omega
    have hout : 1 ≤ l.out ∧ l.out ≤ 8 := hb2.1
    have m1 := mulB (a := l.out) (b := s.c) (A := 8) (B := 8) (by omega) (by omega)
    have m2 := mulB (a := l.out * s.c) (b := l.size) (A := 64) (B := 12) (by omega) (by omega)
    have m3 := mulB (a := l.out * s.c * l.size) (b := l.size) (A := 768) (B := 12) (by omega) (by omega)
    have ew : wOf s l = l.out * s.c * l.size * l.size := by
      simp only [wOf, h1, if_true]
      rw [w64_in (a := l.out * s.c) (by omega), w64_in (a := l.out * s.c * l.size) (by omega), w64_in (by omega)]
    have p1 : 1 * 1 ≤ l.out * s.c := Int.mul_le_mul hout.1 hb.1.1 (by omega) (by omega)
    have p2 : 1 * 1 ≤ l.out * s.c * l.size := Int.mul_le_mul (by omega) hsz.1 (by omega) (by omega)
    have p3 : 1 * 1 ≤ l.out * s.c * l.size * l.size := Int.mul_le_mul (by omega) hsz.1 (by omega) (by omega)
    have q1 : 1 ≤ (shConv s l.out l.size l.step).1.h ∧ (shConv s l.out l.size l.step).1.h ≤ 12 := by rw [shConv, h3]; exact hb2.2.1
    have q2 : 1 ≤ (shConv s l.out l.size l.step).1.w ∧ (shConv s l.out l.size l.step).1.w ≤ 12 := by rw [shConv, h3]; exact hb2.2.2.1
    have m4 := mulB (a := wOf s l) (b := (shConv s l.out l.size l.step).1.h) (A := 9216) (B := 12) (by omega) (by omega)
    have m5 := mulB (a := wOf s l * (shConv s l.out l.size l.step).1.h) (b := (shConv s l.out l.size l.step).1.w) (A := 110592) (B := 12) (by omega) (by omega)
    have p4 : wOf s l * 1 ≤ wOf s l * (shConv s l.out l.size l.step).1.h := Int.mul_le_mul (Int.le_refl _) q1.1 (by omega) (by omega)
    have p5 : wOf s l * (shConv s l.out l.size l.step).1.h * 1 ≤ wOf s l * (shConv s l.out l.size l.step).1.h * (shConv s l.out l.size l.step).1.w := Int.mul_le_mul (Int.le_refl _) q2.1 (by omega) (by omega)
    have ep : pOf s (shConv s l.out l.size l.step).1 l = wOf s l * (shConv s l.out l.size l.step).1.h * (shConv s l.out l.size l.step).1.w := by
      simp only [pOf, h1, if_true]
      rw [w64_in (a := wOf s l * (shConv s l.out l.size l.step).1.h) (by omega), w64_in (by omega)]
    refine ⟨by omega, by omega, by omega, by omega⟩
  · by_cases h2 : l.kind = 2
    · have e := fits2 (s := s) h2
      have ew : wOf s l = 0 := by simp only [wOf, h2, if_true, if_false, Int.reduceEq]
      have ep : pOf s (outOf s l).1 l = shSize s := by simp only [pOf, h2, if_true, if_false, Int.reduceEq]
      omega
    · by_cases h3 : l.kind = 3
      · have ew : wOf s l = 0 := by simp only [wOf, h3, if_true, if_false, Int.reduceEq]
        have ep : pOf s (outOf s l).1 l = 0 := by simp only [pOf, h3, if_true, if_false, Int.reduceEq]
        omega
      · have h4 : l.kind = 4 := by omega
        have e := fits4 (s := s) h4
        rw [e, Bool.and_eq_true, decide_eq_true_eq, decide_eq_true_eq] at hf
        have m1 := mulB (a := l.out) (b := shSize s) (A := 8) (B := 128) (by omega) (by omega)
        have p1 : 1 * 1 ≤ l.out * shSize s := Int.mul_le_mul hf.1 hz.1 (by omega) (by omega)
        have ew : wOf s l = l.out * shSize s := by
          simp only [wOf, h4, if_true, if_false, Int.reduceEq]
          rw [w64_in (by omega)]
        have ep : pOf s (outOf s l).1 l = wOf s l := by simp only [pOf, h4, if_true, if_false, Int.reduceEq]
        omega
theorem ck_at {n : Nt} (h : ckE n = 0) {i : Nat} {el : Ly} (he : n.ls[i]? = some el) : (ckW n i).1 = sumW ((ckL n).take i) ∧ 0 ≤ (ckW n i).2 ∧ (ckW n i).2 ≤ ckP n i ∧ ((ckW n i).2 = 0 ↔ el.kind = 2 ∨ el.kind = 3) ∧ (ckP n i = 0 ↔ el.kind = 3) := by
  obtain ⟨cur, a1, a2, a3, a4, a5, a6⟩ := ck_fit h he
  have hl : i < (ckL n).length := (List.getElem?_eq_some_iff.1 a5).1
  obtain ⟨b1, b2, b3, b4⟩ := out_pos a2 a3 a4
  have e1 : ckW n i = (sumW ((ckL n).take i), wOf cur el) := by
    unfold ckW
    rw [if_pos (by omega)]
    simp [a5]
  have e2 : ckP n i = pOf cur (outOf cur el).1 el := by
    unfold ckP
    rw [if_pos (by omega)]
    simp [a5]
  rw [e1, e2]
  exact ⟨rfl, b3, b4, b1, b2⟩
theorem ck_bad {n : Nt} (h : ¬ ckE n = 0) (i : Int) : ckL n = [] ∧ ckS n = [] ∧ ckW n i = (0, 0) ∧ ckP n i = 0 := by
  have h1 : ckL n = [] := by simp [ckL, h]
  have h2 : ¬ (0 ≤ i ∧ i < (ckL n).length) := by
    rw [h1]
    simp
  exact ⟨h1, by simp [ckS, h], if_neg h2, if_neg h2⟩
/-! ### cuts -/
abbrev ntCut (n : Nt) (k : Nat) : Nt := ⟨n.inp, n.ls.take k⟩
theorem sum_le (xs ys : List Lx) (h : ∀ x ∈ xs ++ ys, 0 ≤ x.ws ∧ 0 ≤ x.ps) : sumW xs ≤ sumW (xs ++ ys) ∧ sumP xs ≤ sumP (xs ++ ys) := by
  have h1 : ∀ l : List Lx, (∀ x ∈ l, 0 ≤ x.ws ∧ 0 ≤ x.ps) → 0 ≤ sumW l ∧ 0 ≤ sumP l := by
    intro l
    induction l with
    | nil => intro _; simp [sumW, sumP]
    | cons x l ih =>
      intro h
      have a := h x (by simp)
      have b := ih fun y hy => h y (by simp [hy])
      rw [sumW_cons, sumP_cons]
      omega
  have h2 := h1 ys fun x hx => h x (by simp [hx])
  rw [sumW_append, sumP_append]
  omega
theorem ck_cut {n : Nt} (h : ckE n = 0) {k : Nat} (hk : k ≤ n.ls.length) : ckE (ntCut n k) = 0 ∧ ckL (ntCut n k) = (ckL n).take k ∧ ckS (ntCut n k) = (ckS n).take (k + 1) := by
  obtain ⟨h0, h1, h2, h3, h4⟩ := ckE_ok h
  obtain ⟨ys, zs, e1, e2, e3, e4⟩ := chk_cut h2 k hk
  have hn := chk_nonneg h2 h1
  rw [e1] at hn h3 h4
  have hs := sum_le ys zs hn
  obtain ⟨f1, f2, f3⟩ := ntForm_iff.1 h0
  obtain ⟨a1, a2, a3⟩ := ckE_ok' (n := ntCut n k) (xs := ys) (ntForm_iff.2 ⟨by simp; omega, f2, by
    rw [List.all_eq_true] at f3 ⊢
    intro x hx
    exact f3 x (List.mem_of_mem_take hx)⟩) h1 e3 (by omega) (by omega)
  refine ⟨a1, by rw [a2, e1, ← e2, List.take_left], ?_⟩
  rw [a3, show ckS n = _ from if_pos h, e1, List.take_succ_cons, ← List.map_take, ← e2, List.take_left]
theorem ck_cutW {n : Nt} (h : ckE n = 0) {k : Nat} (hk : k ≤ n.ls.length) (i : Nat) : (i < k → ckW (ntCut n k) i = ckW n i ∧ ckP (ntCut n k) i = ckP n i) ∧ (k ≤ i → ckW (ntCut n k) i = (0, 0) ∧ ckP (ntCut n k) i = 0) ∧ (i = k → i < n.ls.length → (ckW n i).1 = sumW (ckL (ntCut n k))) := by
  obtain ⟨a1, a2, a3⟩ := ck_cut h hk
  obtain ⟨l1, l2, l3⟩ := ck_len h
  have hl : ((ckL n).take k).length = k := by simp; omega
  refine ⟨fun hi => ?_, fun hi => ?_, ?_⟩
  · unfold ckW ckP
    rw [a2, if_pos (by omega), if_pos (by omega), if_pos (by omega), if_pos (by omega), Int.toNat_natCast, List.take_take, Nat.min_eq_left (by omega)]
    constructor <;> simp [List.getElem?_take, hi]
  · unfold ckW ckP
    rw [a2, if_neg (by omega), if_neg (by omega)]
    exact ⟨rfl, rfl⟩
  · rintro rfl hi
    unfold ckW
    rw [if_pos (by omega), Int.toNat_natCast, a2]
theorem ck_cutSum {n : Nt} (h : ckE n = 0) {k : Nat} (hk : k ≤ n.ls.length) : sumW (ckL (ntCut n k)) ≤ sumW (ckL n) ∧ sumP (ckL (ntCut n k)) ≤ sumP (ckL n) := by
  obtain ⟨a1, a2, a3⟩ := ck_cut h hk
  obtain ⟨h0, h1, h2, h3, h4⟩ := ckE_ok h
  have hn := chk_nonneg h2 h1
  rw [a2]
  have := sum_le ((ckL n).take k) ((ckL n).drop k) (by rw [List.take_append_drop]; exact hn)
  rwa [List.take_append_drop] at this
/-! ### a Square more -/
abbrev sq : Ly := ⟨2, 0, 0, 0⟩
abbrev ntSq (n : Nt) (k : Nat) : Nt := ⟨n.inp, n.ls.take k ++ [sq] ++ n.ls.drop k⟩
theorem ck_sq {n : Nt} (h : ckE n = 0) {k : Nat} (hk : k ≤ n.ls.length) (h8 : n.ls.length < 8) {cur : Sh} (hc : (ckS n)[k]? = some cur) :
    if sumP (ckL n) + shSize cur > 512 then ckE (ntSq n k) = 5 ∧ ckS (ntSq n k) = [] else
      ckE (ntSq n k) = 0 ∧ (ckS (ntSq n k)).length = (ckS n).length + 1 ∧ (ckS (ntSq n k))[(ckS n).length]? = (ckS n)[(ckS n).length - 1]? ∧ (ckS (ntSq n k))[k]? = some cur ∧ (ckS (ntSq n k))[k + 1]? = some cur ∧ sumW (ckL (ntSq n k)) = sumW (ckL n) ∧ sumP (ckL (ntSq n k)) = sumP (ckL n) + shSize cur := by
  obtain ⟨h0, h1, h2, h3, h4⟩ := ckE_ok h
  obtain ⟨ys, zs, e1, e2, e3, e4⟩ := chk_cut h2 k hk
  obtain ⟨f1, f2, f3⟩ := ntForm_iff.1 h0
  have hS : ckS n = n.inp :: (ckL n).map (·.out) := if_pos h
  have hcur : lastS n.inp ys = cur := by
    have := last_get n.inp ys
    rw [hS, e1, List.map_append, ← List.cons_append, List.getElem?_append_left (by simp; omega), ← e2, this] at hc
    exact Option.some.inj hc
  rw [hcur] at e4
  have hsq : outOf cur sq = (cur, true) := fits2 rfl
  have hlx : lxOf cur sq = ⟨sq, cur, cur, 0, shSize cur⟩ := by simp [lxOf, hsq, wOf, pOf]
  have hchk : chk n.inp (n.ls.take k ++ [sq] ++ n.ls.drop k) = some (ys ++ lxOf cur sq :: zs) := by
    rw [List.append_assoc, chk_append, e3, Option.bind_some, hcur, List.singleton_append]
    simp only [chk, hsq, if_true, e4, Option.map_some]
  have hform : ntForm (ntSq n k) = true := ntForm_iff.2 ⟨by simp; omega, f2, by
    rw [List.all_append, List.all_append, Bool.and_assoc, Bool.and_comm ([sq].all lyForm), ← Bool.and_assoc, ← List.all_append, List.take_append_drop, f3]
    decide⟩
  have hw : sumW (ys ++ lxOf cur sq :: zs) = sumW (ckL n) := by
    rw [e1, hlx, sumW_append, sumW_append, sumW_cons]
    simp only
    omega
  have hp : sumP (ys ++ lxOf cur sq :: zs) = sumP (ckL n) + shSize cur := by
    rw [e1, hlx, sumP_append, sumP_append, sumP_cons]
    simp only
    omega
  split
  · rename_i hbig
    have he : ckE (ntSq n k) = 5 := by
      unfold ckE
      rw [if_pos hform, if_pos h1]
      simp only [hchk, hw, hp]
      rw [if_neg]
      simp only [Bool.and_eq_true, decide_eq_true_eq]
      omega
    exact ⟨he, by simp [ckS, he]⟩
  · rename_i hbig
    obtain ⟨a1, a2, a3⟩ := ckE_ok' (n := ntSq n k) hform h1 hchk (by omega) (by omega)
    have hl : (ckL n).length = k + zs.length := by rw [e1]; simp [e2]
    have hout : ckS (ntSq n k) = (n.inp :: ys.map (·.out)) ++ cur :: zs.map (·.out) := by
      rw [a3, hlx]
      simp
    have hS' : ckS n = (n.inp :: ys.map (·.out)) ++ zs.map (·.out) := by
      rw [hS, e1]
      simp
    have hyl : (n.inp :: ys.map (·.out)).length = k + 1 := by simp [e2]
    have hlast : (n.inp :: ys.map (·.out))[k]? = some cur := by
      rw [← e2, last_get, hcur]
    refine ⟨a1, by rw [hout, hS']; simp; omega, ?_, ?_, ?_, by rw [a2, hw], by rw [a2, hp]⟩
    · rw [hout, hS', List.length_append, hyl, List.getElem?_append_right (by omega), hyl]
      cases hz : zs.map (·.out) with
      | nil => simp [← hlast]
      | cons z t =>
        rw [List.getElem?_append_right (by simp; omega), hyl]
        simp [show k + 1 + (t.length + 1) - (k + 1) = t.length + 1 by omega, show k + 1 + (t.length + 1) - 1 - (k + 1) = t.length by omega]
    · rw [hout, List.getElem?_append_left (by omega), hlast]
    · rw [hout, List.getElem?_append_right (by omega), hyl]
      simp
/-! ### a layer more -/
abbrev ntMore (n : Nt) (l : Ly) : Nt := ⟨n.inp, n.ls ++ [l]⟩
theorem ck_more (n : Nt) (l : Ly) :
    (ntForm (ntMore n l) = false → ckE (ntMore n l) = 12 ∧ ckS (ntMore n l) = []) ∧
    (ntForm (ntMore n l) = true → shRight n.inp = false → ckE (ntMore n l) = 1 ∧ ckS (ntMore n l) = []) ∧
    (ntForm (ntMore n l) = true → shRight n.inp = true → (ckE n = 21 → ckE (ntMore n l) = 21) ∧ (ckE n = 5 → ckE (ntMore n l) = 21 ∨ ckE (ntMore n l) = 5) ∧ (ckE n ≠ 21 → ckE n ≠ 5 → ckE n = 0 ∧ (ckE (ntMore n l) = 0 ∨ ckE (ntMore n l) = 21 ∨ ckE (ntMore n l) = 5 ∧ (l.kind = 1 ∨ l.kind = 4 ∨ l.kind = 2)))) := by
  refine ⟨fun h => ?_, fun h h1 => ?_, fun h h1 => ?_⟩
  · have he : ckE (ntMore n l) = 12 := by simp [ckE, h]
    exact ⟨he, by simp [ckS, he]⟩
  · have he : ckE (ntMore n l) = 1 := by simp [ckE, h, h1]
    exact ⟨he, by simp [ckS, he]⟩
  · obtain ⟨f1, f2, f3⟩ := ntForm_iff.1 h
    rw [List.all_append, Bool.and_eq_true] at f3
    have hf : ntForm n = true := ntForm_iff.2 ⟨by simp at f1; omega, f2, f3.1⟩
    have hlk : 1 ≤ l.kind ∧ l.kind ≤ 4 := lyForm_kind (by simpa using f3.2)
    unfold ckE
    rw [if_pos hf, if_pos h1, if_pos h, if_pos h1]
    cases hx : chk n.inp n.ls with
    | none =>
      rw [chk_none hx]
      simp
    | some xs =>
      rw [chk_snoc, hx, Option.bind_some]
      obtain ⟨b1, b2, b3⟩ := chk_bounds hx h1
      by_cases hfit : (outOf (lastS n.inp xs) l).2 = true
      · rw [if_pos hfit]
        simp only [sumW_snoc, sumP_snoc]
        obtain ⟨c1, c2, c3⟩ := out_bounds b1 hfit
        obtain ⟨d1, d2, d3, d4⟩ := out_pos b1 hfit hlk
        by_cases hs : (decide (sumW xs ≤ 512) && decide (sumP xs ≤ 512)) = true
        · rw [if_pos hs]
          simp only [Bool.and_eq_true, decide_eq_true_eq] at hs
          refine ⟨by simp, by simp, fun _ _ => ⟨rfl, ?_⟩⟩
          split
          · exact .inl rfl
          · rename_i hn
            simp only [Bool.and_eq_true, decide_eq_true_eq] at hn
            refine .inr (.inr ⟨rfl, ?_⟩)
            have : ¬ l.kind = 3 := by
              intro hk
              have := d1.2 (.inr hk)
              have := d2.2 hk
              omega
            omega
        · rw [if_neg hs]
          simp only [Bool.and_eq_true, decide_eq_true_eq] at hs
          refine ⟨by simp, fun _ => ?_, by simp⟩
          rw [if_neg]
          · exact .inr rfl
          · simp only [Bool.and_eq_true, decide_eq_true_eq]
            omega
      · rw [if_neg hfit]
        simp only
        split <;> simp
theorem modN (a : Int) (l : Nat) (ha : 0 ≤ a) : ∃ k : Nat, a % ((l : Int) + 1) = k ∧ k ≤ l := by
  have h1 := Int.emod_nonneg a (b := (l : Int) + 1) (by omega)
  have h2 := Int.emod_lt_of_pos a (b := (l : Int) + 1) (by omega)
  exact ⟨(a % ((l : Int) + 1)).toNat, by omega, by omega⟩
end Go.Proofs.Ytblabchnpkofgaa
