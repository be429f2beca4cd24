/- Layer 6, plain laws: what the terms of a layer are. Layer 6's laws: their head; the law TermsTells. Layer 6's laws: the walks of TermsCount and TermsWeights. -/
import Derived.Test.YtfnbofkhgimkcaaGreatTB
namespace Go.Proofs.YtfnbofkhgimkcaaGreat
open Go.RowKit Go.Sy
theorem divmod_add (m t z : Nat) (h : t < z) : (m * z + t) / z = m ∧ (m * z + t) % z = t := by
  constructor
  · rw [Nat.mul_comm, Nat.mul_add_div (by omega), Nat.div_eq_of_lt h, Nat.add_zero]
  · rw [Nat.mul_comm, Nat.mul_add_mod, Nat.mod_eq_of_lt h]
theorem cvRows_eq (a : Sh) (z : Nat) (wt o y0 x0 : Int) : ∀ m, cvRows a z wt o y0 x0 m = (List.range (m * (z * z))).map fun q : Nat => cvTm a z wt o ((q / (z * z) : Nat) : Int) y0 x0 (q % (z * z))
  | 0 => by simp [cvRows]
  | m + 1 => by
    rw [cvRows_succ, cvRows_eq a z wt o y0 x0 m, Nat.add_mul, Nat.one_mul, List.range_add, List.map_append, List.map_map]
    congr 1
    apply List.map_congr_left
    intro t ht
    have ht : t < z * z := by simpa using ht
    obtain ⟨e1, e2⟩ := divmod_add m t (z * z) ht
    simp only [Function.comp]
    rw [e1, e2]
theorem conv_W {C : Nat} (o : Int) (z q : Nat) : (o * (C : Int) + ((q / (z * z) : Nat) : Int)) * (z : Int) * (z : Int) + ((q % (z * z) : Nat) : Int) = o * ((C * (z * z) : Nat) : Int) + (q : Int) := by
  have h := Nat.div_add_mod q (z * z)
  have h2 : ((z * z : Nat) : Int) * ((q / (z * z) : Nat) : Int) + ((q % (z * z) : Nat) : Int) = (q : Int) := by
    rw [← Int.natCast_mul, ← Int.natCast_add, h]
  rw [← h2, Int.mul_assoc, ← Int.natCast_mul, Int.add_mul, Int.mul_assoc, ← Int.natCast_mul, Int.mul_comm ((q / (z * z) : Nat) : Int)]
  omega
theorem pos_inj {s : Sh} {c y x c' y' x' : Int} (hs : shRight s = true) (h : inS s c y x = true) (h' : inS s c' y' x' = true) (e : pos s c y x = pos s c' y' x') : c = c' ∧ y = y' ∧ x = x' := by
  have e1 := pos_of hs h
  have e2 := pos_of hs h'
  rw [e, e2] at e1
  simp only [Prod.mk.injEq, and_true] at e1
  omega
/-- a Conv's terms, one by one -/
theorem cv_get {a b : Sh} {l : Ly} (ha : shRight a = true) (hb : shConv a l.out l.size l.step = (b, true)) {p : Int} (hp : 0 ≤ p ∧ p < shSize b) (wt : Int) :
    cvT a b l wt p = (List.range (a.c.toNat * (l.size.toNat * l.size.toNat))).map (fun q : Nat => cvTm a l.size.toNat wt (shOf b p).1.1 ((q / (l.size.toNat * l.size.toNat) : Nat) : Int) ((shOf b p).1.2.1 * l.step) ((shOf b p).1.2.2 * l.step) (q % (l.size.toNat * l.size.toNat))) := by
  unfold cvT
  rw [if_pos (by simp [shOf, hp]), cvRows_eq]
theorem cv_in {a b : Sh} {l : Ly} (ha : shRight a = true) (hb : shConv a l.out l.size l.step = (b, true)) {p : Int} (hp : 0 ≤ p ∧ p < shSize b) {q : Nat} (hq : q < a.c.toNat * (l.size.toNat * l.size.toNat)) :
    inS a ((q / (l.size.toNat * l.size.toNat) : Nat) : Int) ((shOf b p).1.2.1 * l.step + ((q % (l.size.toNat * l.size.toNat) / l.size.toNat : Nat) : Int)) ((shOf b p).1.2.2 * l.step + ((q % (l.size.toNat * l.size.toNat) % l.size.toNat : Nat) : Int)) = true := by
  obtain ⟨c1, c2, c3, c4, c5, c6⟩ := conv_fit ha hb
  obtain ⟨a1, a2, a3, a4⟩ := shRight_iff.1 ha
  obtain ⟨hin, hpos, hi⟩ := of_in c1 (i := p) (by simp [shOf, hp])
  obtain ⟨i1, i2, i3⟩ := inS_iff.1 hin
  generalize (shOf b p).1.2.1 = y at *
  generalize (shOf b p).1.2.2 = x at *
  have e5 := c5 y i2.1 i2.2
  have e6 := c6 x i3.1 i3.2
  obtain ⟨z, hz⟩ : ∃ k : Nat, l.size = k := ⟨l.size.toNat, by omega⟩
  have hzt : l.size.toNat = z := by omega
  rw [hzt] at hq ⊢
  have q1 : q / (z * z) < a.c.toNat := Nat.div_lt_of_lt_mul (by rw [Nat.mul_comm]; exact hq)
  have hzz : 0 < z * z := Nat.mul_pos (by omega) (by omega)
  have q2 : q % (z * z) < z * z := Nat.mod_lt _ hzz
  have q3 : q % (z * z) / z < z := Nat.div_lt_of_lt_mul q2
  have q4 : q % (z * z) % z < z := Nat.mod_lt _ (by omega)
  generalize q % (z * z) / z = B at *
  generalize q % (z * z) % z = D at *
  generalize q / (z * z) = A at *
  exact inS_iff.2 ⟨⟨by omega, by omega⟩, ⟨by omega, by omega⟩, ⟨by omega, by omega⟩⟩
/-- what is known of the terms of a layer's places -/
structure TmF (cur b : Sh) (el : Ly) (wt : Int) (m : Nat) (p : Int) (f : Nat → Tm) : Prop where
  eq : tmX (lxOf cur el) wt p = (List.range m).map f
  xin : ∀ q, q < m → 0 ≤ (f q).x ∧ (f q).x < shSize cur
  inj : ∀ q r, q < m → r < m → (f q).x = (f r).x → q = r
  w0 : wOf cur el = 0 → ∀ q, q < m → (f q).w = -1
  ww : wOf cur el ≠ 0 → ∀ q, q < m → (f q).w = wt + (shOf b p).1.1 * (m : Int) + (q : Int)
theorem tm_facts {cur : Sh} {el : Ly} (hr : shRight cur = true) (hf : (outOf cur el).2 = true) (hk : 1 ≤ el.kind ∧ el.kind ≤ 4) (wt : Int) :
    ∃ m : Nat, m ≤ 2000 ∧ pOf cur (outOf cur el).1 el = (m : Int) * shSize (outOf cur el).1 ∧ (wOf cur el = 0 ∨ (1 ≤ m ∧ wOf cur el = (outOf cur el).1.c * (m : Int))) ∧ ∀ p, 0 ≤ p → p < shSize (outOf cur el).1 → ∃ f, TmF cur (outOf cur el).1 el wt m p f := by
  obtain ⟨o1, o2, o3⟩ := out_bounds hr hf
  obtain ⟨w1, w2, w3, w4⟩ := out_pos hr hf hk
  have hz := shSize_b cur
  obtain ⟨a1, a2, a3, a4⟩ := shRight_iff.1 hr
  have hzb : shSize (outOf cur el).1 = (outOf cur el).1.c * (outOf cur el).1.h * (outOf cur el).1.w := by simp [shSize, o1]
  have hX : ∀ p, tmX (lxOf cur el) wt p = if 0 ≤ p ∧ p < shSize (outOf cur el).1 then (if el.kind = 1 then cvT cur (outOf cur el).1 el wt p else if el.kind = 4 then dnT (shSize cur).toNat wt p else if el.kind = 2 then [⟨p, -1⟩] else []) else [] := fun p => rfl
  by_cases h1 : el.kind = 1
  · have hb : shConv cur el.out el.size el.step = ((outOf cur el).1, true) := by
      rw [fits1 h1] at hf ⊢
      rw [← hf]
    generalize (outOf cur el).1 = b at *
    obtain ⟨c1, c2, c3, c4, c5, c6⟩ := conv_fit hr hb
    obtain ⟨d1, d2, d3, d4⟩ := shRight_iff.1 c1
    obtain ⟨z, hzs⟩ : ∃ k : Nat, el.size = k := ⟨el.size.toNat, by omega⟩
    obtain ⟨C, hC⟩ : ∃ k : Nat, cur.c = k := ⟨cur.c.toNat, by omega⟩
    have hzz : z * z ≤ 144 := Nat.mul_le_mul (show z ≤ 12 by omega) (show z ≤ 12 by omega)
    have hzz1 : 0 < z * z := Nat.mul_pos (by omega) (by omega)
    have hm : C * (z * z) ≤ 8 * 144 := Nat.mul_le_mul (by omega) hzz
    have hm1 : 0 < C * (z * z) := Nat.mul_pos (by omega) hzz1
    have m1 := mulB (a := el.out) (b := cur.c) (A := 8) (B := 8) (by omega) (by omega)
    have m2 := mulB (a := el.out * cur.c) (b := el.size) (A := 64) (B := 12) (by omega) (by omega)
    have m3 := mulB (a := el.out * cur.c * el.size) (b := el.size) (A := 768) (B := 12) (by omega) (by omega)
    have ew : wOf cur el = el.out * cur.c * el.size * el.size := by
      simp only [wOf, h1, if_true]
      rw [w64_in (a := el.out * cur.c) (by omega), w64_in (a := el.out * cur.c * el.size) (by omega), w64_in (by omega)]
    have ew2 : wOf cur el = b.c * ((C * (z * z) : Nat) : Int) := by
      rw [ew, c2, hC, hzs, Int.natCast_mul, Int.natCast_mul]
      simp only [Int.mul_assoc]
    have m4 := mulB (a := wOf cur el) (b := b.h) (A := 9216) (B := 12) (by omega) (by omega)
    have m5 := mulB (a := wOf cur el * b.h) (b := b.w) (A := 110592) (B := 12) (by omega) (by omega)
    refine ⟨C * (z * z), by omega, ?_, .inr ⟨hm1, ew2⟩, ?_⟩
    · simp only [pOf, h1, if_true]
      rw [w64_in (a := wOf cur el * b.h) (by omega), w64_in (by omega), ew2, hzb]
      generalize ((C * (z * z) : Nat) : Int) = M
      rw [Int.mul_comm b.c M, Int.mul_assoc, Int.mul_assoc, Int.mul_assoc]
    · intro p hp0 hp1
      have hg := cv_get hr hb ⟨hp0, hp1⟩ wt
      have hin := fun {q : Nat} => cv_in hr hb (p := p) ⟨hp0, hp1⟩ (q := q)
      rw [hzs, hC, Int.toNat_natCast, Int.toNat_natCast] at hg hin
      generalize ho : (shOf b p).1.1 = o at *
      generalize (shOf b p).1.2.1 * el.step = y0 at *
      generalize (shOf b p).1.2.2 * el.step = x0 at *
      refine ⟨fun q : Nat => cvTm cur z wt o ((q / (z * z) : Nat) : Int) y0 x0 (q % (z * z)), ?_, ?_, ?_, ?_, ?_⟩
      · rw [hX, if_pos ⟨hp0, hp1⟩, if_pos h1]
        exact hg
      · intro q hq
        show 0 ≤ shAt cur _ _ _ ∧ shAt cur _ _ _ < _
        rw [shAt_ok hr (hin hq)]
        have := pos_in hr (hin hq)
        have hz2 : shSize cur = cur.c * cur.h * cur.w := by simp [shSize, hr]
        omega
      · intro q r hq hr2 hx
        have hx : shAt cur _ _ _ = shAt cur _ _ _ := hx
        rw [shAt_ok hr (hin hq), shAt_ok hr (hin hr2)] at hx
        obtain ⟨e1, e2, e3⟩ := pos_inj hr (hin hq) (hin hr2) hx
        have f1 := Nat.div_add_mod q (z * z)
        have f2 := Nat.div_add_mod r (z * z)
        have f3 := Nat.div_add_mod (q % (z * z)) z
        have f4 := Nat.div_add_mod (r % (z * z)) z
        have g1 : q / (z * z) = r / (z * z) := by omega
        have g2 : q % (z * z) / z = r % (z * z) / z := by omega
        have g3 : q % (z * z) % z = r % (z * z) % z := by omega
        rw [g2, g3] at f3
        rw [f3] at f4
        rw [g1, f4] at f1
        omega
      · intro h0
        have := w1.1 h0
        omega
      · intro _ q hq
        show wt + (o * cur.c + ((q / (z * z) : Nat) : Int)) * (z : Int) * (z : Int) + ((q % (z * z) : Nat) : Int) = _
        rw [hC, Int.add_assoc, conv_W, ho]
        omega
  · by_cases h2 : el.kind = 2
    · have eo : (outOf cur el).1 = cur := by rw [fits2 h2]
      rw [eo] at o1 hzb w2 ⊢
      have ew : wOf cur el = 0 := by simp only [wOf, h2, if_true, if_false, Int.reduceEq]
      have ep : pOf cur cur el = shSize cur := by simp only [pOf, h2, if_true, if_false, Int.reduceEq]
      refine ⟨1, by omega, by omega, .inl ew, ?_⟩
      intro p hp0 hp1
      refine ⟨fun _ => ⟨p, -1⟩, ?_, fun _ _ => ⟨hp0, hp1⟩, fun q r hq hr _ => by omega, fun _ _ _ => rfl, fun h => absurd ew h⟩
      rw [hX, if_pos ⟨hp0, by rw [eo]; exact hp1⟩, if_neg h1, if_neg (by omega), if_pos h2]
      rfl
    · by_cases h3 : el.kind = 3
      · have ew : wOf cur el = 0 := by simp only [wOf, h3, if_true, if_false, Int.reduceEq]
        have ep : pOf cur (outOf cur el).1 el = 0 := by simp only [pOf, h3, if_true, if_false, Int.reduceEq]
        refine ⟨0, by omega, by rw [ep]; simp, .inl ew, ?_⟩
        intro p hp0 hp1
        refine ⟨fun _ => ⟨0, 0⟩, ?_, fun q hq => by omega, fun q r hq hr _ => by omega, fun _ q hq => by omega, fun h => absurd ew h⟩
        rw [hX, if_pos ⟨hp0, hp1⟩, if_neg h1, if_neg (by omega), if_neg h2]
        rfl
      · have h4 : el.kind = 4 := by omega
        have e4 : (outOf cur el).1 = ⟨el.out, 1, 1⟩ := by
          have g3 := hf
          rw [fits4 h4, Bool.and_eq_true, decide_eq_true_eq, decide_eq_true_eq] at g3
          simp only [outOf, h4, if_false, Int.reduceEq]
          rw [if_neg]
          simp only [Bool.or_eq_true, decide_eq_true_eq]
          omega
        rw [e4] at o1 hzb w2 ⊢
        obtain ⟨d1, d2, d3, d4⟩ := shRight_iff.1 o1
        have d1 : 1 ≤ el.out ∧ el.out ≤ 8 := d1
        have hzb : shSize ⟨el.out, 1, 1⟩ = el.out * 1 * 1 := hzb
        obtain ⟨M, hM⟩ : ∃ M : Nat, shSize cur = M := ⟨(shSize cur).toNat, by omega⟩
        have mm := mulB (a := el.out) (b := shSize cur) (A := 8) (B := 128) (by omega) (by omega)
        have ew : wOf cur el = el.out * (M : Int) := by
          simp only [wOf, h4, if_true, if_false, Int.reduceEq]
          rw [w64_in (by omega), hM]
        have ep : pOf cur ⟨el.out, 1, 1⟩ el = wOf cur el := by simp only [pOf, h4, if_true, if_false, Int.reduceEq]
        have hM1 : 1 ≤ shSize cur := by
          have := shMul hr
          unfold shSize
          rw [if_pos hr]
          omega
        refine ⟨M, by omega, by rw [ep, ew, hzb, Int.mul_one, Int.mul_one, Int.mul_comm], .inr ⟨by omega, ew⟩, ?_⟩
        intro p hp0 hp1
        refine ⟨fun q : Nat => ⟨(q : Int), wt + p * (M : Int) + (q : Int)⟩, ?_, ?_, ?_, ?_, ?_⟩
        · rw [hX, if_pos ⟨hp0, by rw [e4]; exact hp1⟩, if_neg h1, if_pos h4, hM]
          rfl
        · intro q hq
          simp only
          omega
        · intro q r hq hr hx
          simp only at hx
          omega
        · intro h0
          have := w1.1 h0
          omega
        · intro _ q hq
          simp only
          rw [show shOf ⟨el.out, 1, 1⟩ p = ((p / 1 / 1, p / 1 % 1, p % 1), true) from if_pos ⟨hp0, hp1⟩, Int.ediv_one, Int.ediv_one]
end Go.Proofs.YtfnbofkhgimkcaaGreat
set_option linter.unusedSimpArgs false
set_option linter.unusedVariables false
namespace Go.Proofs.YtfnbofkhgimkcaaGreat
open Go.RowKit Go.Sy
def hdT1 : List Tm := [⟨0, 9⟩, ⟨1, 10⟩, ⟨2, 11⟩, ⟨4, 12⟩, ⟨5, 13⟩, ⟨6, 14⟩, ⟨8, 15⟩, ⟨9, 16⟩, ⟨10, 17⟩]
def hdT2 : List Tm := [⟨5, -1⟩]
def hdT3 : List Tm := [⟨0, 22⟩, ⟨1, 23⟩]
def hdT4 : List Int := [4, 5, 6, 7]
theorem head6_vals : tmT small 0 4 = hdT1 ∧ tmT small 1 5 = hdT2 ∧ tmT small 3 2 = hdT3 ∧ ptT small 2 1 = hdT4 ∧ tmT small 2 0 = [] ∧ ptT small 1 0 = [] ∧ tmT small 0 8 = [] := by
  decide +kernel
theorem tmT_len (n : Nt) (i p : Int) : (tmT n i p).length ≤ 2000 := by
  unfold tmT
  split
  · rename_i hok
    obtain ⟨j, el, cur, rfl, hE, hel, g1, g2, g3, g4, g5, g6, g7, g8⟩ := tOk_at hok
    rw [Int.toNat_natCast, g5]
    simp only
    obtain ⟨m, hm, _, _, h⟩ := tm_facts g2 g3 g4 (ckW n j).1
    by_cases hp : 0 ≤ p ∧ p < shSize (outOf cur el).1
    · obtain ⟨f, hf⟩ := h p hp.1 hp.2
      rw [hf.eq]
      simp
      omega
    · rw [show tmX (lxOf cur el) (ckW n j).1 p = [] from if_neg hp]
      simp
  · simp
theorem ptT_len (n : Nt) (i p : Int) : (ptT n i p).length ≤ 2000 := by
  unfold ptT
  split
  · rename_i hok
    obtain ⟨j, el, cur, rfl, hE, hel, g1, g2, g3, g4, g5, g6, g7, g8⟩ := tOk_at hok
    rw [Int.toNat_natCast, g5]
    simp only
    unfold ptX
    simp only
    split
    · rename_i hk
      split
      · have hb : shPool cur el.size = ((outOf cur el).1, true) := by
          rw [fits3 hk] at g3 ⊢
          rw [← g3]
        obtain ⟨p1, p2, p3, p4, p5⟩ := pool_fit g2 hb
        have hzz : el.size.toNat * el.size.toNat ≤ 12 * 12 := Nat.mul_le_mul (by omega) (by omega)
        simp
        omega
      · simp
    · simp
  · simp
end Go.Proofs.YtfnbofkhgimkcaaGreat
set_option linter.unusedSimpArgs false
set_option linter.unusedVariables false
namespace Go.Proofs.YtfnbofkhgimkcaaGreat
open Go.RowKit Go.Sy
theorem ck_vals {n : Nt} {j : Nat} {el : Ly} {cur : Sh} (g5 : (ckL n)[j]? = some (lxOf cur el)) : (ckW n j).2 = wOf cur el ∧ ckP n j = pOf cur (outOf cur el).1 el := by
  have hl : j < (ckL n).length := (List.getElem?_eq_some_iff.1 g5).1
  unfold ckW ckP
  rw [if_pos (by omega), if_pos (by omega)]
  constructor <;> simp [g5]
theorem mod8 {a : Int} (ha : 0 ≤ a ∧ a ≤ 255) : ∃ k : Nat, a % 8 = k ∧ k ≤ 7 := ⟨(a % 8).toNat, by omega, by omega⟩
theorem tmT_end {n : Nt} {j : Nat} {x : Lx} (h : tOk n j = true) (hx : (ckL n)[j]? = some x) {p : Int} (hp : ¬ (0 ≤ p ∧ p < shSize x.out)) : tmT n j p = [] := by
  rw [tmT_ok h hx]
  exact if_neg hp
theorem tmT_bad {n : Nt} {i : Int} (h : tOk n i = false) (p : Int) : tmT n i p = [] := by simp [tmT, h]
theorem ptT_bad {n : Nt} {i : Int} (h : tOk n i = false) (p : Int) : ptT n i p = [] := by simp [ptT, h]
theorem w_in {o c m wt q : Int} (ho : 0 ≤ o ∧ o < c) (hq : 0 ≤ q ∧ q < m) : wt ≤ wt + o * m + q ∧ wt + o * m + q < wt + c * m := by
  have h1 := Int.mul_nonneg ho.1 (show 0 ≤ m by omega)
  have h2 : (o + 1) * m ≤ c * m := Int.mul_le_mul_of_nonneg_right (by omega) (by omega)
  rw [Int.add_mul, Int.one_mul] at h2
  omega
/-! ### TermsWeights -/
theorem cnt_step {H o q : Nat} (hH : 0 < H) : min (q + 1 - o * H) H = min (q - o * H) H + (if q / H = o then 1 else 0) := by
  have h1 : q / H = o ↔ o * H ≤ q ∧ q < o * H + H := by
    constructor
    · rintro rfl
      have := Nat.div_add_mod q H
      have h2 := Nat.mod_lt q hH
      rw [Nat.mul_comm] at this
      omega
    · rintro ⟨a, b⟩
      have : q / H < o + 1 := (Nat.div_lt_iff_lt_mul hH).2 (by rw [Nat.add_mul, Nat.one_mul]; exact b)
      have h2 : o ≤ q / H := (Nat.le_div_iff_mul_le hH).2 a
      omega
  split
  · rename_i h
    have := h1.1 h
    omega
  · rename_i h
    have h2 : ¬ (o * H ≤ q ∧ q < o * H + H) := fun h3 => h (h1.2 h3)
    omega
theorem chan_nat {s : Sh} (hs : shRight s = true) {q : Nat} (hq : (q : Int) < shSize s) {H : Nat} (hH : s.h * s.w = H) : (shOf s q).1.1 = ((q / H : Nat) : Int) := by
  obtain ⟨b1, b2, b3, b4⟩ := shRight_iff.1 hs
  rw [show shOf s q = (((q : Int) / s.w / s.h, (q : Int) / s.w % s.h, (q : Int) % s.w), true) from if_pos ⟨by omega, hq⟩]
  simp only
  rw [Int.ediv_ediv, if_neg (by omega), Int.sub_zero, Int.mul_comm s.w, hH, Int.natCast_ediv]
end Go.Proofs.YtfnbofkhgimkcaaGreat
