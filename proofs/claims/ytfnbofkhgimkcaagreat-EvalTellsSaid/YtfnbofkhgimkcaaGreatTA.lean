/- Complex numbers of small whole parts: the operations on them. Places in pictures: shape.At, Of, and the document's. Layer 6: places as complex numbers; windows; what a Conv's terms are. Layer 6: a Conv's terms, a Dense's, a Pool's parts. -/
import Derived.Test.YtfnbofkhgimkcaaGreatDC
import Derived.Laws.ComplexArith
import Derived.Test.YtfnbofkhgimkcaaGreatSC
set_option linter.unusedSimpArgs false
set_option linter.unusedVariables false
namespace Go.Sy
open Go.RowKit
/-- the bits of a whole number -/
def fb (n : Nat) : Nat := FloatKind.f64.nearest n
abbrev cxV (x y : Nat) : Value := .complex .f64 (fb x) (fb y)
theorem fb_0 : fb 0 = 0 := by decide +kernel
theorem fb_add : ∀ a : _root_.Fin 13, ∀ b : _root_.Fin 13, floatBits .add .f64 (fb a) (fb b) = some (fb (a.val + b.val)) := by decide +kernel
theorem fb_mul : ∀ a : _root_.Fin 13, ∀ b : _root_.Fin 13, floatBits .mul .f64 (fb a) (fb b) = some (fb (a.val * b.val)) := by decide +kernel
theorem fb_mul0 : ∀ a : _root_.Fin 13, floatBits .mul .f64 (fb a) 0 = some 0 := by decide +kernel
theorem fb_sub0 : ∀ a : _root_.Fin 145, floatBits .sub .f64 (fb a) 0 = some (fb a) := by decide +kernel
theorem fb_add0 : ∀ a : _root_.Fin 145, floatBits .add .f64 0 (fb a) = some (fb a) := by decide +kernel
theorem fb_int : ∀ a : _root_.Fin 30, (FloatKind.f64.decode (fb a)).toInt .zero = some (a.val : Int) := by decide +kernel
theorem cx_add {a b c d : Nat} (ha : a ≤ 12) (hb : b ≤ 12) (hc : c ≤ 12) (hd : d ≤ 12) : cSumBits .add .f64 (fb a) (fb b) (fb c) (fb d) = some (fb (a + c), fb (b + d)) := by
  unfold cSumBits
  have h1 := fb_add ⟨a, by omega⟩ ⟨c, by omega⟩
  have h2 := fb_add ⟨b, by omega⟩ ⟨d, by omega⟩
  simp only at h1 h2
  rw [h1, h2]
  rfl
theorem cx_mul {a b c : Nat} (ha : a ≤ 12) (hb : b ≤ 12) (hc : c ≤ 12) : cMulBits (fb a) (fb b) (fb c) 0 = some (fb (a * c), fb (b * c)) := by
  unfold cMulBits
  have h1 := fb_mul ⟨a, by omega⟩ ⟨c, by omega⟩
  have h2 := fb_mul ⟨b, by omega⟩ ⟨c, by omega⟩
  have h3 := fb_mul0 ⟨a, by omega⟩
  have h4 := fb_mul0 ⟨b, by omega⟩
  have m1 : a * c ≤ 12 * 12 := Nat.mul_le_mul ha hc
  have m2 : b * c ≤ 12 * 12 := Nat.mul_le_mul hb hc
  have h5 := fb_sub0 ⟨a * c, by omega⟩
  have h6 := fb_add0 ⟨b * c, by omega⟩
  simp only at h1 h2 h3 h4 h5 h6
  rw [h1, h4, h3, h2]
  simp only [Option.bind_some]
  rw [h5]
  simp only [Option.bind_some]
  rw [h6]
  rfl
section
variable {P : Program} {s : St} {g : Bool} {dst : Option Tmp} {ty : TypeId} {pos : String} {af : Array Edge} {gd : Option (Nat × Bool)} {x y : Operand} {t t' : TypeId}
theorem MOp.addC {a b c d : Nat} (hx : Ev s g x (.p (.x (cxV a b)))) (hy : Ev s g y (.p (.x (cxV c d)))) (ha : a ≤ 12) (hb : b ≤ 12) (hc : c ≤ 12) (hd : d ≤ 12) :
    MOp P s ⟨dst, .binOp .add t x y t', ty, pos, af, gd⟩ g (.p (.x (cxV (a + c) (b + d)))) := MOp.bin hx hy fun w => by
  have := run_complex_sum (P := P) w .add (.inl rfl) t .f64 _ _ _ _ _ _ (cx_add ha hb hc hd)
  simp [eqGuard, this]
theorem MOp.mulC {a b c : Nat} (hx : Ev s g x (.p (.x (cxV a b)))) (hy : Ev s g y (.p (.x (.complex .f64 (fb c) 0)))) (ha : a ≤ 12) (hb : b ≤ 12) (hc : c ≤ 12) :
    MOp P s ⟨dst, .binOp .mul t x y t', ty, pos, af, gd⟩ g (.p (.x (cxV (a * c) (b * c)))) := MOp.bin hx hy fun w => by
  have := run_complex_mul (P := P) w t _ _ _ _ _ _ (cx_mul ha hb hc)
  simp [eqGuard, this]
theorem MOp.convF {k : IntKind} {a : Nat} {i i' : TypeInfo} {u : TypeDesc} [h : TyI P t i u] [h' : TyI P t' i' (.float .f64)] (hx : Ev s g x (.p (.x (.int k (a : Int))))) : MOp P s ⟨dst, .convert t t' x, ty, pos, af, gd⟩ g (.p (.x (.float .f64 (fb a)))) :=
  MOp.of1 hx (by simp [Op.operands]) fun β S w ρ _ hr => by
    have hr : ρ x = .int k a := hr
    refine ⟨.float .f64 (fb a), ?_, rfl⟩
    have := run_convert_int_float (P := P) w t t' k .f64 a (by simp [h.ut]) h'.ut
    simp only [execOp, hr]
    rw [Sem.run_bind, this]
    rfl
theorem MOp.convFI {a : Nat} {i i' : TypeInfo} {u : TypeDesc} [h : TyI P t i u] [h' : TyI P t' i' (.int .i64)] (hx : Ev s g x (.p (.x (.float .f64 (fb a))))) (ha : a < 30) : MOp P s ⟨dst, .convert t t' x, ty, pos, af, gd⟩ g (.p (.x (.int .i64 (a : Int)))) :=
  MOp.of1 hx (by simp [Op.operands]) fun β S w ρ _ hr => by
    have hr : ρ x = .float .f64 (fb a) := hr
    refine ⟨.int .i64 a, ?_, rfl⟩
    have h1 := fb_int ⟨a, ha⟩
    simp only at h1
    have h2 : (Conv.floatToInt .f64 (fb a) .i64).run P w = .ok (.int .i64 (a : Int)) w := by
      unfold Conv.floatToInt
      simp only [h1]
      rw [if_pos]
      · rfl
      · have e1 : IntKind.i64.min = -9223372036854775808 := rfl
        have e2 : IntKind.i64.max = 9223372036854775807 := rfl
        omega
    have h3 : (convert t t' (.float .f64 (fb a))).run P w = .ok (.int .i64 (a : Int)) w := by
      unfold convert
      rw [Sem.run_bind, run_underlying h.ut]
      simp only [Result.andThen_ok]
      rw [Sem.run_bind, run_underlying h'.ut]
      simp only [Result.andThen_ok]
      exact h2
    simp only [execOp, hr]
    rw [Sem.run_bind, h3]
    rfl
theorem MOp.complex {a b : Nat} (hx : Ev s g x (.p (.x (.float .f64 a)))) (hy : Ev s g y (.p (.x (.float .f64 b)))) : MOp P s ⟨dst, .call { callee := .builtin .complex, args := #[x, y], argTypes := #[t, t'] }, ty, pos, af, gd⟩ g (.p (.x (.complex .f64 a b))) :=
  MOp.of2 hx hy (by simp [Op.operands, Call.operands]) (by simp [Op.operands, Call.operands]) fun β S w ρ _ h1 h2 => by
    have h1 : ρ x = .float .f64 a := h1
    have h2 : ρ y = .float .f64 b := h2
    refine ⟨.complex .f64 a b, ?_, rfl⟩
    have e : Builtin.complex_ #[t, t'] ty #[.float .f64 a, .float .f64 b] = pure (.complex .f64 a b) := rfl
    simp [execOp, resolve, invoke, builtin, h1, h2, e]
theorem MOp.real {a b : Nat} (hx : Ev s g x (.p (.x (.complex .f64 a b)))) : MOp P s ⟨dst, .call { callee := .builtin .real, args := #[x], argTypes := #[t] }, ty, pos, af, gd⟩ g (.p (.x (.float .f64 a))) :=
  MOp.of1 hx (by simp [Op.operands, Call.operands]) fun β S w ρ _ h1 => by
    have h1 : ρ x = .complex .f64 a b := h1
    refine ⟨.float .f64 a, ?_, rfl⟩
    have e : Builtin.real_ #[t] ty #[.complex .f64 a b] = pure (.float .f64 a) := rfl
    simp [execOp, resolve, invoke, builtin, h1, e]
theorem MOp.imag {a b : Nat} (hx : Ev s g x (.p (.x (.complex .f64 a b)))) : MOp P s ⟨dst, .call { callee := .builtin .imag, args := #[x], argTypes := #[t] }, ty, pos, af, gd⟩ g (.p (.x (.float .f64 b))) :=
  MOp.of1 hx (by simp [Op.operands, Call.operands]) fun β S w ρ _ h1 => by
    have h1 : ρ x = .complex .f64 a b := h1
    refine ⟨.float .f64 b, ?_, rfl⟩
    have e : Builtin.imag_ #[t] ty #[.complex .f64 a b] = pure (.float .f64 b) := rfl
    simp [execOp, resolve, invoke, builtin, h1, e]
end
end Go.Sy
set_option linter.unusedSimpArgs false
set_option linter.unusedVariables false
namespace Go.Proofs.YtfnbofkhgimkcaaGreat
open Go.RowKit Go.Sy
/-- a place's number -/
def pos (s : Sh) (c y x : Int) : Int := x + s.w * (y + s.h * c)
def inS (s : Sh) (c y x : Int) : Bool := wi c 0 (s.c - 1) && wi y 0 (s.h - 1) && wi x 0 (s.w - 1)
def shAt (s : Sh) (c y x : Int) : Int := if shRight s && inS s c y x then pos s c y x else -1
theorem inS_iff {s : Sh} {c y x : Int} : inS s c y x = true ↔ (0 ≤ c ∧ c < s.c) ∧ (0 ≤ y ∧ y < s.h) ∧ (0 ≤ x ∧ x < s.w) := by
  simp only [inS, wi, Bool.and_eq_true, decide_eq_true_eq]
  omega
/-- the place stays in bounds -/
theorem pos_in {s : Sh} {c y x : Int} (hs : shRight s = true) (hi : inS s c y x = true) : 0 ≤ s.h * c ∧ s.h * c ≤ 84 ∧ 0 ≤ y + s.h * c ∧ y + s.h * c ≤ 95 ∧ 0 ≤ s.w * (y + s.h * c) ∧ s.w * (y + s.h * c) ≤ 1140 ∧ 0 ≤ pos s c y x ∧ pos s c y x < s.c * s.h * s.w := by
  obtain ⟨h1, h2, h3⟩ := inS_iff.1 hi
  obtain ⟨b1, b2, b3, b4⟩ := shRight_iff.1 hs
  have a1 := mulB (a := s.h) (b := c) (A := 12) (B := 7) (by omega) (by omega)
  have a2 : s.h * c ≤ s.h * (s.c - 1) := Int.mul_le_mul_of_nonneg_left (by omega) (by omega)
  have a3 : s.h * (s.c - 1) = s.c * s.h - s.h := by rw [Int.mul_sub, Int.mul_one, Int.mul_comm]
  have a4 := mulB (a := s.w) (b := y + s.h * c) (A := 12) (B := 95) (by omega) (by omega)
  have a5 : s.w * (y + s.h * c) ≤ s.w * (s.c * s.h - 1) := Int.mul_le_mul_of_nonneg_left (by omega) (by omega)
  have a6 : s.w * (s.c * s.h - 1) = s.c * s.h * s.w - s.w := by rw [Int.mul_sub, Int.mul_one, Int.mul_comm]
  unfold pos
  omega
theorem shAt_bad {s : Sh} {c y x : Int} (h : ¬ (shRight s = true ∧ inS s c y x = true)) : shAt s c y x = -1 := by
  unfold shAt
  rw [if_neg]
  simpa using h
theorem shAt_ok {s : Sh} {c y x : Int} (h1 : shRight s = true) (h2 : inS s c y x = true) : shAt s c y x = pos s c y x := by
  unfold shAt
  rw [h1, h2]
  rfl
theorem fnShAt (s : Sh) (c' y x : Int) : Fn1 Tryz.prog 94 [shV s, .i c', .i y, .i x] (.i (shAt s c' y x)) := by
  refine Fn1.of (rs := [.i _]) (res := [.tmp 8]) Tryz.call94 Tryz.func94 rfl Tryz.ntmps94 rfl (by simp) fun c hc => ?_
  have k0 := fnShRight s
  by_cases hr : shRight s = true
  · rw [hr] at k0
    obtain ⟨b1, b2, b3, b4⟩ := shRight_iff.1 hr
    have k1 := k0; have k2 := fnShWithin c' 0 (s.c - 1); have k3 := fnShWithin y 0 (s.h - 1); have k4 := fnShWithin x 0 (s.w - 1); refine z_go ?_
    apply Sym.cond
    · rfl
    · intro h
      rw [shAt_bad (by
        rintro ⟨_, hi⟩
        obtain ⟨i1, i2, i3⟩ := inS_iff.1 hi
        simp only [wi, Bool.not_true, Bool.false_or, Bool.or_eq_true, Bool.not_eq_true', Bool.and_eq_false_iff, decide_eq_false_iff_not] at h
        omega)]
      refine z_go ?_
      with_reducible first | apply Fin.rt | apply Fin.nx
      exact (.cons (.tmp rfl (.of (.of rfl))) .nil)
    · intro h
      have hi : inS s c' y x = true := by
        simp only [Bool.or_eq_false_iff, Bool.not_eq_false'] at h
        obtain ⟨⟨⟨_, i1⟩, i2⟩, i3⟩ := h
        simp only [inS, i1, i2, i3, Bool.and_self]
      obtain ⟨p1, p2, p3, p4, p5, p6, p7, p8⟩ := pos_in hr hi
      rw [shAt_ok hr hi]
      unfold pos at p7 p8 ⊢
      obtain ⟨i1, i2, i3⟩ := inS_iff.1 hi
      refine z_go ?_
      with_reducible first | apply Fin.rt | apply Fin.nx
      exact (.cons (.tmp rfl (.of (.of rfl))) .nil)
  · rw [Bool.not_eq_true] at hr
    rw [hr] at k0
    rw [shAt_bad (by rw [hr]; simp)]
    have k1 := k0; have k2 := fnShWithin c' 0 (w64 (s.c - 1)); have k3 := fnShWithin y 0 (w64 (s.h - 1)); have k4 := fnShWithin x 0 (w64 (s.w - 1)); refine z_go ?_
    apply Sym.cond
    · rfl
    · intro h
      refine z_go ?_
      with_reducible first | apply Fin.rt | apply Fin.nx
      exact (.cons (.tmp rfl (.of (.of rfl))) .nil)
    · intro h
      exact absurd h (by simp)
theorem fnRAt (s : Sh) (c' y x : Int) : Fn1 Tryz.prog 79 [shV s, .i c', .i y, .i x] (.i (shAt s c' y x)) := by
  refine Fn1.of (rs := [.i _]) (res := [.tmp 8]) Tryz.call79 Tryz.func79 rfl Tryz.ntmps79 rfl (by simp) fun c hc => ?_
  have k1 := fnRShRight s; refine z_go ?_
  apply Sym.cond
  · rfl
  · intro h
    rw [shAt_bad (by
      rintro ⟨hr, hi⟩
      obtain ⟨i1, i2, i3⟩ := inS_iff.1 hi
      simp only [hr, Bool.or_eq_true, Bool.not_true, decide_eq_true_eq, Bool.false_eq_true, false_or] at h
      omega)]
    refine z_go ?_
    with_reducible first | apply Fin.rt | apply Fin.nx
    exact (.cons (.tmp rfl (.of (.of rfl))) .nil)
  · intro h
    simp only [Bool.or_eq_false_iff, Bool.not_eq_false', decide_eq_false_iff_not] at h
    have hr : shRight s = true := by simp [h]
    have hi : inS s c' y x = true := inS_iff.2 (by omega)
    obtain ⟨p1, p2, p3, p4, p5, p6, p7, p8⟩ := pos_in hr hi
    obtain ⟨b1, b2, b3, b4⟩ := shRight_iff.1 hr
    rw [shAt_ok hr hi]
    unfold pos at p7 p8 ⊢
    have e1 : c' * s.h = s.h * c' := Int.mul_comm _ _
    have e2 : (c' * s.h + y) * s.w = s.w * (y + s.h * c') := by rw [e1, Int.mul_comm, Int.add_comm]
    obtain ⟨i1, i2, i3⟩ := inS_iff.1 hi
    refine z_go ?_
    with_reducible first | apply Fin.rt | apply Fin.nx
    rw [e2, Int.add_comm]
    exact (.cons (.tmp rfl (.of (.of rfl))) .nil)
/-- where a place is -/
def shOf (s : Sh) (i : Int) : (Int × Int × Int) × Bool := if 0 ≤ i ∧ i < shSize s then ((i / s.w / s.h, i / s.w % s.h, i % s.w), true) else ((0, 0, 0), false)
abbrev ofV (o : (Int × Int × Int) × Bool) : V := .tup [.i o.1.1, .i o.1.2.1, .i o.1.2.2, .b o.2]
theorem fnShOf (s : Sh) (i : Int) : Fn1 Tryz.prog 86 [shV s, .i i] (ofV (shOf s i)) := by
  refine Fn1.of (rs := [.i _, .i _, .i _, .b _]) (res := [.tmp 4, .tmp 5, .tmp 6, .tmp 7]) Tryz.call86 Tryz.func86 rfl Tryz.ntmps86 rfl (by simp) fun c hc => ?_
  have hz : 0 ≤ shSize s ∧ shSize s ≤ 128 := by
    unfold shSize
    split
    · rename_i h
      have := shMul h
      omega
    · omega
  have k1 := fnShSize s; have k2 := fnShWithin i 0 (shSize s - 1); refine z_go ?_
  apply Sym.cond
  · rfl
  · intro h
    have h : ¬ (0 ≤ i ∧ i < shSize s) := by
      simp only [wi, Bool.not_eq_true', Bool.and_eq_false_iff, decide_eq_false_iff_not] at h
      omega
    rw [show shOf s i = ((0, 0, 0), false) from if_neg h]
    refine z_go ?_
    with_reducible first | apply Fin.rt | apply Fin.nx
    exact .cons (.tmp rfl (.of (.of rfl))) (.cons (.tmp rfl (.of (.of rfl))) (.cons (.tmp rfl (.of (.of rfl))) (.cons (.tmp rfl (.of (.of rfl))) .nil)))
  · intro h
    have h : 0 ≤ i ∧ i < shSize s := by
      simp only [wi, Bool.not_eq_false', Bool.and_eq_true, decide_eq_true_eq] at h
      omega
    have hr : shRight s = true := by
      by_cases hr : shRight s = true
      · exact hr
      · simp [shSize, hr] at h
        omega
    obtain ⟨b1, b2, b3, b4⟩ := shRight_iff.1 hr
    rw [show shOf s i = ((i / s.w / s.h, i / s.w % s.h, i % s.w), true) from if_pos h]
    have d1 := Int.ediv_le_self (a := i) s.w (by omega)
    have d2 := Int.ediv_nonneg (a := i) (b := s.w) (by omega) (by omega)
    refine z_go ?_
    with_reducible first | apply Fin.rt | apply Fin.nx
    exact .cons (.tmp rfl (.of (.of rfl))) (.cons (.tmp rfl (.of (.of rfl))) (.cons (.tmp rfl (.of (.of rfl))) (.cons (.tmp rfl (.of (.of rfl))) .nil)))
/-! ### the document's Of: it looks -/
theorem pos_w (s : Sh) (c y : Int) : pos s c y s.w = pos s c (y + 1) 0 := by
  unfold pos
  rw [show y + 1 + s.h * c = (y + s.h * c) + 1 by omega, Int.mul_add s.w (y + s.h * c) 1, Int.mul_one]
  omega
theorem pos_h (s : Sh) (c : Int) : pos s c s.h 0 = pos s (c + 1) 0 0 := by
  unfold pos
  rw [show s.h * (c + 1) = s.h * c + s.h by rw [Int.mul_add, Int.mul_one]]
  rw [show s.h + s.h * c = 0 + (s.h * c + s.h) by omega]
theorem pos_c (s : Sh) : pos s s.c 0 0 = s.c * s.h * s.w := by
  unfold pos
  rw [Int.zero_add, Int.zero_add, Int.mul_comm, Int.mul_comm s.h]
theorem pos_of {s : Sh} {c y x : Int} (hs : shRight s = true) (hi : inS s c y x = true) : shOf s (pos s c y x) = ((c, y, x), true) := by
  obtain ⟨p1, p2, p3, p4, p5, p6, p7, p8⟩ := pos_in hs hi
  obtain ⟨i1, i2, i3⟩ := inS_iff.1 hi
  have hz : shSize s = s.c * s.h * s.w := by simp [shSize, hs]
  rw [show shOf s (pos s c y x) = ((pos s c y x / s.w / s.h, pos s c y x / s.w % s.h, pos s c y x % s.w), true) from if_pos (by omega)]
  have e1 : pos s c y x / s.w = y + s.h * c := by
    unfold pos
    rw [Int.add_mul_ediv_left _ _ (by omega), Int.ediv_eq_zero_of_lt (by omega) (by omega), Int.zero_add]
  have e2 : pos s c y x % s.w = x := by
    unfold pos
    rw [Int.add_mul_emod_self_left, Int.emod_eq_of_lt (by omega) (by omega)]
  have e3 : (y + s.h * c) / s.h = c := by rw [Int.add_mul_ediv_left _ _ (by omega), Int.ediv_eq_zero_of_lt (by omega) (by omega), Int.zero_add]
  have e4 : (y + s.h * c) % s.h = y := by rw [Int.add_mul_emod_self_left, Int.emod_eq_of_lt (by omega) (by omega)]
  rw [e1, e2, e3, e4]
theorem fnROf (s : Sh) (i : Int) : Fn1 Tryz.prog 78 [shV s, .i i] (ofV (shOf s i)) := by
  refine Fn1.of (rs := [.i _, .i _, .i _, .b _]) (res := [.tmp 4, .tmp 5, .tmp 6, .tmp 7]) Tryz.call78 Tryz.func78 rfl Tryz.ntmps78 rfl (by simp) fun c hc => ?_
  have k0 := fnRShRight s
  by_cases hr : shRight s = true
  · rw [hr] at k0
    obtain ⟨b1, b2, b3, b4⟩ := shRight_iff.1 hr
    have hz : shSize s = s.c * s.h * s.w := by simp [shSize, hr]
    refine z_go ?_
    refine Sym.loop (fun k t => ∃ j : Int, (0 ≤ j ∧ j ≤ s.c) ∧ ¬ (0 ≤ i ∧ i < pos s j 0 0) ∧ k = (s.c - j).toNat ∧ t = ⟨[(8, true, .p (.i j)), (2, true, .ptr 0 0), (1, true, .p (.i i))], [some (shBox s)]⟩) s.c.toNat ⟨_, ⟨0, by omega, by unfold pos; simp, by omega, rfl⟩, z_wkt⟩ ?_
    rintro k t ⟨j, hj, hne, rfl, rfl⟩
    have k1 := k0; refine z_go ?_
    apply Sym.cond
    · rfl
    · intro hlt
      simp only [Bool.and_true, decide_eq_true_eq] at hlt
      refine z_go ?_
      refine Sym.loop (fun k t => ∃ y : Int, (0 ≤ y ∧ y ≤ s.h) ∧ ¬ (0 ≤ i ∧ i < pos s j y 0) ∧ k = (s.h - y).toNat ∧ t = ⟨[(9, true, .p (.i y)), (8, true, .p (.i j)), (2, true, .ptr 0 0), (1, true, .p (.i i))], [some (shBox s)]⟩) s.h.toNat ⟨_, ⟨0, by omega, hne, by omega, rfl⟩, z_wkt⟩ ?_
      rintro k t ⟨y, hy, hne2, rfl, rfl⟩
      refine z_go ?_
      apply Sym.cond
      · rfl
      · intro hlt2
        simp only [decide_eq_true_eq] at hlt2
        refine z_go ?_
        refine Sym.loop (fun k t => ∃ x : Int, (0 ≤ x ∧ x ≤ s.w) ∧ ¬ (0 ≤ i ∧ i < pos s j y x) ∧ k = (s.w - x).toNat ∧ t = ⟨[(10, true, .p (.i x)), (9, true, .p (.i y)), (8, true, .p (.i j)), (2, true, .ptr 0 0), (1, true, .p (.i i))], [some (shBox s)]⟩) s.w.toNat ⟨_, ⟨0, by omega, hne2, by omega, rfl⟩, z_wkt⟩ ?_
        rintro k t ⟨x, hx, hne3, rfl, rfl⟩
        refine z_go ?_
        apply Sym.cond
        · rfl
        · intro hlt3
          simp only [decide_eq_true_eq] at hlt3
          have hi : inS s j y x = true := inS_iff.2 (by omega)
          have ka := fnRAt s j y x
          rw [shAt_ok hr hi] at ka
          have k1 := ka; refine z_go ?_
          apply Sym.cond
          · rfl
          · intro he
            have he : pos s j y x = i := by simpa using he
            rw [← he, pos_of hr hi]
            refine z_go ?_
            with_reducible first | apply Fin.rt | apply Fin.nx
            exact .cons (.tmp rfl (.of (.of rfl))) (.cons (.tmp rfl (.of (.of rfl))) (.cons (.tmp rfl (.of (.of rfl))) (.cons (.tmp rfl (.of (.of rfl))) .nil)))
          · intro he
            have he : ¬ pos s j y x = i := by simpa using he
            refine z_go ?_
            refine ⟨_, ?_, _, ⟨x + 1, by omega, ?_, rfl, rfl⟩, z_wkt⟩
            · omega
            · have : pos s j y (x + 1) = pos s j y x + 1 := by unfold pos; omega
              omega
        · intro hge
          simp only [decide_eq_false_iff_not] at hge
          obtain rfl : x = s.w := by omega
          refine z_go ?_
          refine ⟨_, ?_, _, ⟨y + 1, by omega, by rw [← pos_w]; exact hne3, rfl, rfl⟩, z_wkt⟩
          omega
      · intro hge
        simp only [decide_eq_false_iff_not] at hge
        obtain rfl : y = s.h := by omega
        refine z_go ?_
        refine ⟨_, ?_, _, ⟨j + 1, by omega, by rw [← pos_h]; exact hne2, rfl, rfl⟩, z_wkt⟩
        omega
    · intro hge
      simp only [Bool.and_true, decide_eq_false_iff_not] at hge
      obtain rfl : j = s.c := by omega
      rw [pos_c, ← hz] at hne
      rw [show shOf s i = ((0, 0, 0), false) from if_neg hne]
      refine z_go ?_
      with_reducible first | apply Fin.rt | apply Fin.nx
      exact .cons (.tmp rfl (.of (.of rfl))) (.cons (.tmp rfl (.of (.of rfl))) (.cons (.tmp rfl (.of (.of rfl))) (.cons (.tmp rfl (.of (.of rfl))) .nil)))
  · rw [Bool.not_eq_true] at hr
    rw [hr] at k0
    have hz : shSize s = 0 := by simp [shSize, hr]
    rw [show shOf s i = ((0, 0, 0), false) from if_neg (by omega)]
    refine z_go ?_
    refine Sym.loop (fun k t => k = 0 ∧ t = ⟨[(8, true, .p (.i 0)), (2, true, .ptr 0 0), (1, true, .p (.i i))], [some (shBox s)]⟩) 0 ⟨_, ⟨rfl, rfl⟩, z_wkt⟩ ?_
    rintro k t ⟨rfl, rfl⟩
    have k1 := k0; refine z_go ?_
    apply Sym.cond
    · rfl
    · intro hlt
      exact absurd hlt (by simp)
    · intro _
      refine z_go ?_
      with_reducible first | apply Fin.rt | apply Fin.nx
      exact .cons (.tmp rfl (.of (.of rfl))) (.cons (.tmp rfl (.of (.of rfl))) (.cons (.tmp rfl (.of (.of rfl))) (.cons (.tmp rfl (.of (.of rfl))) .nil)))
end Go.Proofs.YtfnbofkhgimkcaaGreat
set_option linter.unusedSimpArgs false
set_option linter.unusedVariables false
namespace Go.Proofs.YtfnbofkhgimkcaaGreat
open Go.RowKit Go.Sy
theorem fnPlace (y x : Nat) : Fn1 Tryz.prog 93 [.i y, .i x] (.x (cxV x y)) := by
  refine Fn1.of (rs := [.x _]) (res := [.tmp 4]) Tryz.call93 Tryz.func93 rfl Tryz.ntmps93 rfl (by simp) fun c hc => ?_
  refine z_go ?_
  (with_reducible apply SymL.opr); exact z_gd; ((with_reducible apply MOp.convF); exact z_ev); exact rfl
  refine z_go ?_
  (with_reducible apply SymL.opr); exact z_gd; ((with_reducible apply MOp.convF); exact z_ev); exact rfl
  (with_reducible apply SymL.opr); exact z_gd; ((with_reducible apply MOp.complex); exact z_ev; exact z_ev); exact rfl
  refine z_go ?_
  with_reducible first | apply Fin.rt | apply Fin.nx
  exact (.cons (.tmp rfl (.of (.of rfl))) .nil)
theorem fnTimes (y x z : Nat) (hy : y ≤ 12) (hx : x ≤ 12) (hz : z ≤ 12) : Fn1 Tryz.prog 88 [.i y, .i x, .i z] (.x (cxV (x * z) (y * z))) := by
  refine Fn1.of (rs := [.x _]) (res := [.tmp 6]) Tryz.call88 Tryz.func88 rfl Tryz.ntmps88 rfl (by simp) fun c hc => ?_
  have k1 := fnPlace y x; refine z_go ?_
  (with_reducible apply SymL.opr); exact z_gd; ((with_reducible apply MOp.convF); exact z_ev); exact rfl
  (with_reducible apply SymL.opr); exact z_gd; ((with_reducible apply MOp.complex); exact z_ev; exact z_ev); exact rfl
  (with_reducible apply SymL.opr); exact z_gd; ((with_reducible apply MOp.mulC); exact z_ev; exact z_ev; omega; omega; omega); exact rfl
  refine z_go ?_
  with_reducible first | apply Fin.rt | apply Fin.nx
  exact (.cons (.tmp rfl (.of (.of rfl))) .nil)
theorem fnTat (s : Sh) (c' : Int) (y x : Nat) (hy : y < 30) (hx : x < 30) : Fn1 Tryz.prog 90 [shV s, .i c', .x (cxV x y)] (.i (shAt s c' y x)) := by
  refine Fn1.of (rs := [.i _]) (res := [.tmp 6]) Tryz.call90 Tryz.func90 rfl Tryz.ntmps90 rfl (by simp) fun c hc => ?_
  refine z_go ?_
  (with_reducible apply SymL.opr); exact z_gd; ((with_reducible apply MOp.imag); exact z_ev); exact rfl
  (with_reducible apply SymL.opr); exact z_gd; ((with_reducible apply MOp.convFI); exact z_ev; omega); exact rfl
  refine z_go ?_
  (with_reducible apply SymL.opr); exact z_gd; ((with_reducible apply MOp.real); exact z_ev); exact rfl
  (with_reducible apply SymL.opr); exact z_gd; ((with_reducible apply MOp.convFI); exact z_ev; omega); exact rfl
  have k1 := fnShAt s c' y x; refine z_go ?_
  with_reducible first | apply Fin.rt | apply Fin.nx
  exact (.cons (.tmp rfl (.of (.of rfl))) .nil)
/-! ### a Conv's window -/
structure Tm where
  x : Int
  w : Int
  deriving DecidableEq
abbrev encTm (t : Tm) : List V := [.i t.x, .i t.w]
abbrev lookC (l : Ly) (a b : Sh) (wt : Int) : List V := [.i l.kind, .i l.out, .i l.size, .i l.step, .i a.c, .i a.h, .i a.w, .i b.c, .i b.h, .i b.w, .i wt]
abbrev lookV (l : Ly) (a b : Sh) (wt : Int) : V := .agg (lookC l a b wt)
abbrev lookBox (l : Ly) (a b : Sh) (wt : Int) : Box := ⟨[.p (.i l.kind), .p (.i l.out), .p (.i l.size), .p (.i l.step), .p (.i a.c), .p (.i a.h), .p (.i a.w), .p (.i b.c), .p (.i b.h), .p (.i b.w), .p (.i wt)], 127, 0⟩
abbrev tmCell (k n : Nat) : Box := ⟨[.row k n], 84, 0⟩
abbrev tmRow (l : List Tm) : Box := ⟨D.enc encTm l, 87, 2⟩
/-- the term of a window's j-th place, in a channel -/
abbrev tmAt (a : Sh) (sz : Int) (wt o c y x : Int) (j : Nat) : Tm := ⟨shAt a c y x, wt + (o * a.c + c) * sz * sz + (j : Int)⟩
def cvTm (a : Sh) (z : Nat) (wt o c y0 x0 : Int) (j : Nat) : Tm := tmAt a z wt o c (y0 + (j / z : Nat)) (x0 + (j % z : Nat)) j
theorem cv_bounds {a : Sh} {z : Nat} {wt o c : Int} (ha : 1 ≤ a.c ∧ a.c ≤ 8) (hz : z ≤ 12) (ho : 0 ≤ o ∧ o ≤ 7) (hc : 0 ≤ c ∧ c ≤ 7) :
    (0 ≤ o * a.c ∧ o * a.c ≤ 56) ∧ (0 ≤ (o * a.c + c) * (z : Int) ∧ (o * a.c + c) * (z : Int) ≤ 756) ∧ (0 ≤ (o * a.c + c) * (z : Int) * (z : Int) ∧ (o * a.c + c) * (z : Int) * (z : Int) ≤ 9072) := by
  have m1 := mulB (a := o) (b := a.c) (A := 7) (B := 8) (by omega) (by omega)
  have m2 := mulB (a := o * a.c + c) (b := (z : Int)) (A := 63) (B := 12) (by omega) (by omega)
  have m3 := mulB (a := (o * a.c + c) * (z : Int)) (b := (z : Int)) (A := 756) (B := 12) (by omega) (by omega)
  omega
set_option maxHeartbeats 2000000 in
theorem fnConvT (l : Ly) (a b : Sh) (wt o c' : Int) (z y x j : Nat) (ts : List Tm) (hl : l.size = z) (ha : 1 ≤ a.c ∧ a.c ≤ 8) (hz : z ≤ 12) (ho : 0 ≤ o ∧ o ≤ 7) (hcc : 0 ≤ c' ∧ c' ≤ 7) (hw : 0 ≤ wt ∧ wt ≤ 512) (hj : j ≤ 1000) (hy : y < 30) (hx : x < 30) (ht : ts.length ≤ 10000) :
    FnM Tryz.prog 92 [.p (.i j), .p (.x (cxV x y)), .ptr 0 0, .ptr 1 0, .ptr 2 0, .ptr 3 0] [some (tmCell 4 ts.length), some (lookBox l a b wt), some (iBox c'), some (iBox o), some (tmRow ts)] 4 (.tup [])
      [some (tmCell 4 (ts ++ [tmAt a l.size wt o c' y x j]).length), some (lookBox l a b wt), some (iBox c'), some (iBox o), some (tmRow (ts ++ [tmAt a l.size wt o c' y x j]))] := by
  obtain ⟨m1, m2, m3⟩ := cv_bounds (wt := wt) ha hz ho hcc
  rw [← hl] at m2 m3
  refine FnM.of (rs := []) (res := []) Tryz.call92 Tryz.func92 rfl Tryz.ntmps92 rfl (by simp) rfl (by simp [Hp.upTo, D.upToL, D.upTo, D.upToL_p]) fun c hro hc hdead => ?_
  refine z_go ?_
  (apply Sym.drawXL [28, 29] (by kernel_rfl) (by kernel_rfl) (by kernel_rfl))
  have k1 := fnTat a c' y x hy hx; have a1 : AppH encTm ts [tmAt a l.size wt o c' y x j] := .mk; refine z_xgo ?_
  exact FinB.nxW [] z_wkt .nil
set_option maxHeartbeats 2000000 in
theorem fnWinC (l : Ly) (a b : Sh) (wt o c' : Int) (z y0 x0 : Nat) (l0 : List Tm) (ha : 1 ≤ a.c ∧ a.c ≤ 8) (hl : l.size = z) (hz : 1 ≤ z ∧ z ≤ 12) (ho : 0 ≤ o ∧ o ≤ 7) (hcc : 0 ≤ c' ∧ c' ≤ 7) (hw : 0 ≤ wt ∧ wt ≤ 512) (hy : y0 + z ≤ 12) (hx : x0 + z ≤ 12) (ht : l0.length ≤ 5000) :
    FnM Tryz.prog 87 [.p (.x (cxV x0 y0)), .p (.i z), .clo (.func 92) [] [.ptr 0 0, .ptr 1 0, .ptr 2 0, .ptr 3 0]] [some (tmCell 4 l0.length), some (lookBox l a b wt), some (iBox c'), some (iBox o), some (tmRow l0)] 4 (.tup [])
      [some (tmCell 4 (l0 ++ (List.range (z * z)).map (cvTm a z wt o c' y0 x0)).length), some (lookBox l a b wt), some (iBox c'), some (iBox o), some (tmRow (l0 ++ (List.range (z * z)).map (cvTm a z wt o c' y0 x0)))] := by
  refine FnM.of (rs := []) (res := []) Tryz.call87 Tryz.func87 rfl Tryz.ntmps87 rfl (by simp) rfl (by simp [Hp.upTo, D.upToL, D.upTo, D.upToL_p]) fun c hro hc hdead => ?_
  have hzz := mulB (a := (z : Int)) (b := z) (A := 12) (B := 12) (by omega) (by omega)
  refine z_go ?_
  refine Sym.loop (fun k s => ∃ j : Nat, j ≤ z * z ∧ k = z * z - j ∧ s = ⟨[(10, true, .p (.i j)), (9, true, .p (.i ((z : Int) * z))), (2, true, .clo (.func 92) [] [.ptr 0 0, .ptr 1 0, .ptr 2 0, .ptr 3 0]), (1, true, .p (.i z)), (0, true, .p (.x (cxV x0 y0)))], [some (tmCell 4 (l0 ++ (List.range j).map (cvTm a z wt o c' y0 x0)).length), some (lookBox l a b wt), some (iBox c'), some (iBox o), some (tmRow (l0 ++ (List.range j).map (cvTm a z wt o c' y0 x0)))]⟩) (z * z) ⟨_, ⟨0, Nat.zero_le _, by simp, rfl⟩, ?_⟩ ?_
  · simp only [List.range_zero, List.map_nil, List.append_nil]
    exact z_wkt
  rintro k s ⟨j, hj, rfl, rfl⟩
  refine z_go ?_
  apply Sym.cond
  · rfl
  · intro hlt
    simp only [decide_eq_true_eq] at hlt
    have hj2 : j < z * z := by
      have : ((z * z : Nat) : Int) = (z : Int) * z := by simp
      omega
    have q1 : j / z < z := Nat.div_lt_of_lt_mul hj2
    have q2 : j % z < z := Nat.mod_lt _ (by omega)
    have hz144 : z * z ≤ 144 := Nat.mul_le_mul hz.2 hz.2
    have kp := fnPlace (j / z) (j % z)
    rw [Int.natCast_ediv, Int.natCast_emod] at kp
    have kt := fnConvT l a b wt o c' z (y0 + j / z) (x0 + j % z) j (l0 ++ (List.range j).map (cvTm a z wt o c' y0 x0)) hl ha hz.2 ho hcc hw (by omega) (by omega) (by omega) (by simp; omega)
    rw [hl, show tmAt a z wt o c' ((y0 + j / z : Nat) : Int) ((x0 + j % z : Nat) : Int) j = cvTm a z wt o c' y0 x0 j from rfl] at kt
    refine z_go ?_
    (apply Sym.drawL 11 (by kernel_rfl) (by kernel_rfl))
    have k1 := kp
    repeat ((with_reducible apply MTo.step1); exact z_gd; exact z_mop; exact rfl)
    ((with_reducible apply MTo.step1); exact z_gd; ((with_reducible apply MOp.addC); exact z_ev; exact z_ev; omega; omega; omega; omega); exact rfl)
    refine z_mt ?_
    ((with_reducible apply SymL.callM [0, 1, 2, 3, 4] kt); exact z_ren; exact z_evf; (refine ⟨?_, ?_, ?_, ?_, ?_, trivial⟩ <;> first | exact rfl | (simp only [Box.ren, D.enc, D.renL_p]; exact rfl)); decide; exact rfl; exact rfl; exact z_wrB; exact z_dd; exact z_ren; (simp only [Hp.clean, D.clean, D.cleanL, D.cleanL_p, bne, Nat.reduceBEq, Bool.not_true, Bool.not_false, cond_true, cond_false]; exact z_ren); exact z_cln)
    refine z_go ?_
    refine ⟨_, ?_, _, ⟨j + 1, by omega, rfl, rfl⟩, ?_⟩
    · omega
    · rw [show l0 ++ (List.range (j + 1)).map (cvTm a z wt o c' y0 x0) = (l0 ++ (List.range j).map (cvTm a z wt o c' y0 x0)) ++ [cvTm a z wt o c' y0 x0 j] by rw [List.range_succ, List.map_append, ← List.append_assoc]; rfl]
      exact z_wkt
  · intro hge
    simp only [decide_eq_false_iff_not] at hge
    obtain rfl : j = z * z := by
      have : ((z * z : Nat) : Int) = (z : Int) * z := by simp
      omega
    refine z_go ?_
    exact FinB.nxW [] z_wkt .nil
end Go.Proofs.YtfnbofkhgimkcaaGreat
set_option linter.unusedSimpArgs false
set_option linter.unusedVariables false
namespace Go.Proofs.YtfnbofkhgimkcaaGreat
open Go.RowKit Go.Sy
theorem of_in {s : Sh} {i : Int} (hs : shRight s = true) (h : (shOf s i).2 = true) : inS s (shOf s i).1.1 (shOf s i).1.2.1 (shOf s i).1.2.2 = true ∧ pos s (shOf s i).1.1 (shOf s i).1.2.1 (shOf s i).1.2.2 = i ∧ (0 ≤ i ∧ i < shSize s) := by
  have hz : shSize s = s.c * s.h * s.w := by simp [shSize, hs]
  obtain ⟨b1, b2, b3, b4⟩ := shRight_iff.1 hs
  by_cases hi : 0 ≤ i ∧ i < shSize s
  · rw [show shOf s i = ((i / s.w / s.h, i / s.w % s.h, i % s.w), true) from if_pos hi]
    simp only
    have d1 : i / s.w < s.c * s.h := Int.ediv_lt_of_lt_mul (by omega) (by omega)
    have d0 : 0 ≤ i / s.w := Int.ediv_nonneg hi.1 (by omega)
    have d2 : i / s.w / s.h < s.c := Int.ediv_lt_of_lt_mul (by omega) d1
    have d3 : 0 ≤ i / s.w / s.h := Int.ediv_nonneg d0 (by omega)
    have m1 := Int.emod_nonneg (i / s.w) (b := s.h) (by omega)
    have m2 := Int.emod_lt_of_pos (i / s.w) (b := s.h) (by omega)
    have m3 := Int.emod_nonneg i (b := s.w) (by omega)
    have m4 := Int.emod_lt_of_pos i (b := s.w) (by omega)
    refine ⟨inS_iff.2 ⟨⟨d3, d2⟩, ⟨m1, m2⟩, ⟨m3, m4⟩⟩, ?_, hi⟩
    unfold pos
    rw [Int.emod_add_mul_ediv, Int.emod_add_mul_ediv]
  · rw [show shOf s i = ((0, 0, 0), false) from if_neg hi] at h
    cases h
theorem conv_fit {a b : Sh} {out size step : Int} (ha : shRight a = true) (h : shConv a out size step = (b, true)) : shRight b = true ∧ b.c = out ∧ (1 ≤ size ∧ size ≤ 12) ∧ (1 ≤ step ∧ step ≤ 12) ∧ (∀ y, 0 ≤ y → y < b.h → 0 ≤ y * step ∧ y * step + size ≤ a.h) ∧ (∀ x, 0 ≤ x → x < b.w → 0 ≤ x * step ∧ x * step + size ≤ a.w) := by
  obtain ⟨a1, a2, a3, a4⟩ := shRight_iff.1 ha
  have h0 := h
  unfold shConv at h0
  obtain ⟨h2, h3⟩ := shSized_t (s := a) (t := ⟨out, conv1 size step a.h, conv1 size step a.w⟩) (by rw [h0])
  rw [h0] at h3
  simp only at h3
  subst h3
  have hb := shRight_iff.1 h2
  simp only at hb
  have hh : 1 ≤ size ∧ size ≤ a.h ∧ 1 ≤ step ∧ step ≤ 12 := by
    by_cases hh : 1 ≤ size ∧ size ≤ a.h ∧ 1 ≤ step ∧ step ≤ 12
    · exact hh
    · have := conv1_0 hh
      omega
  have hw : 1 ≤ size ∧ size ≤ a.w ∧ 1 ≤ step ∧ step ≤ 12 := by
    by_cases hh : 1 ≤ size ∧ size ≤ a.w ∧ 1 ≤ step ∧ step ≤ 12
    · exact hh
    · have := conv1_0 hh
      omega
  have key : ∀ n y : Int, size ≤ n → 0 ≤ y → y < (n - size) / step + 1 → 0 ≤ y * step ∧ y * step + size ≤ n := by
    intro n y hn hy hlt
    have e1 : y * step ≤ (n - size) / step * step := Int.mul_le_mul_of_nonneg_right (by omega) (by omega)
    have e2 : (n - size) / step * step ≤ n - size := Int.ediv_mul_le _ (by omega)
    have e3 := Int.mul_nonneg hy (show 0 ≤ step by omega)
    omega
  refine ⟨h2, rfl, by omega, by omega, ?_, ?_⟩
  · intro y h1 h2
    simp only at h2
    rw [conv1_1 hh] at h2
    exact key _ _ hh.2.1 h1 h2
  · intro y h1 h2
    simp only at h2
    rw [conv1_1 hw] at h2
    exact key _ _ hw.2.1 h1 h2
def cvRows (a : Sh) (z : Nat) (wt o y0 x0 : Int) (m : Nat) : List Tm := (List.range m).flatMap fun c : Nat => (List.range (z * z)).map (cvTm a z wt o (c : Int) y0 x0)
theorem cvRows_len (a : Sh) (z : Nat) (wt o y0 x0 : Int) (m : Nat) : (cvRows a z wt o y0 x0 m).length = m * (z * z) := by
  unfold cvRows
  induction m with
  | zero => simp
  | succ m ih =>
    rw [List.range_succ, List.flatMap_append, List.length_append, ih, Nat.add_mul]
    simp
theorem cvRows_succ (a : Sh) (z : Nat) (wt o y0 x0 : Int) (m : Nat) : cvRows a z wt o y0 x0 (m + 1) = cvRows a z wt o y0 x0 m ++ (List.range (z * z)).map (cvTm a z wt o m y0 x0) := by
  unfold cvRows
  rw [List.range_succ, List.flatMap_append]
  simp
/-- a Conv's terms -/
def cvT (a b : Sh) (l : Ly) (wt i : Int) : List Tm := if (shOf b i).2 then cvRows a l.size.toNat wt (shOf b i).1.1 ((shOf b i).1.2.1 * l.step) ((shOf b i).1.2.2 * l.step) a.c.toNat else []
set_option maxHeartbeats 2000000 in
theorem fnLkConv (l : Ly) (a b : Sh) (wt i : Int) (ha : shRight a = true) (hb : shConv a l.out l.size l.step = (b, true)) (hw : 0 ≤ wt ∧ wt ≤ 512) : Fn1 Tryz.prog 84 [lookV l a b wt, .i i] (V.list encTm (cvT a b l wt i)) := by
  refine Fn1.of (rs := [V.list encTm _]) (res := [.tmp 4]) Tryz.call84 Tryz.func84 rfl Tryz.ntmps84 rfl (by simp) fun c hc => ?_
  obtain ⟨c1, c2, c3, c4, c5, c6⟩ := conv_fit ha hb
  obtain ⟨a1, a2, a3, a4⟩ := shRight_iff.1 ha
  obtain ⟨d1, d2, d3, d4⟩ := shRight_iff.1 c1
  have k1 := fnShOf b i; refine z_go ?_
  apply Sym.cond
  · rfl
  · intro h
    have h : (shOf b i).2 = false := by simpa using h
    rw [show cvT a b l wt i = [] by simp [cvT, h]]
    refine z_go ?_
    with_reducible first | apply Fin.rt | apply Fin.nx
    exact .cons (.tmp rfl (.of (.mk rfl z_vle))) .nil
  · intro h
    have h : (shOf b i).2 = true := by simpa using h
    obtain ⟨hin, hpos, hi⟩ := of_in c1 h
    obtain ⟨i1, i2, i3⟩ := inS_iff.1 hin
    generalize ho : (shOf b i).1.1 = o at *
    generalize hy : (shOf b i).1.2.1 = y at *
    generalize hx : (shOf b i).1.2.2 = x at *
    obtain ⟨y, rfl⟩ : ∃ k : Nat, y = k := ⟨y.toNat, by omega⟩
    obtain ⟨x, rfl⟩ : ∃ k : Nat, x = k := ⟨x.toNat, by omega⟩
    obtain ⟨z, hz⟩ : ∃ k : Nat, l.size = k := ⟨l.size.toNat, by omega⟩
    obtain ⟨st, hst⟩ : ∃ k : Nat, l.step = k := ⟨l.step.toNat, by omega⟩
    obtain ⟨m, hm⟩ : ∃ k : Nat, a.c = k := ⟨a.c.toNat, by omega⟩
    have e5 := c5 y (by omega) (by omega)
    have e6 := c6 x (by omega) (by omega)
    have kt := fnTimes y x st (by omega) (by omega) (by omega)
    rw [← hst] at kt
    have hyy : y * st + z ≤ 12 := by
      have : ((y * st : Nat) : Int) = (y : Int) * st := by simp
      rw [hst] at e5
      omega
    have hxx : x * st + z ≤ 12 := by
      have : ((x * st : Nat) : Int) = (x : Int) * st := by simp
      rw [hst] at e6
      omega
    have hz144 : z * z ≤ 144 := Nat.mul_le_mul (show z ≤ 12 by omega) (show z ≤ 12 by omega)
    rw [show cvT a b l wt i = cvRows a z wt o ((y * st : Nat) : Int) ((x * st : Nat) : Int) m by
      unfold cvT
      rw [if_pos h, ho, hy, hx, hz, hst, hm]
      simp]
    refine z_go ?_
    refine Sym.weak (Le.cellRow 2 0 87 2 rfl rfl rfl z_nrm) ?_
    refine Sym.loop (fun k s => ∃ j : Nat, j ≤ m ∧ k = m - j ∧ s = ⟨[(25, true, .p (.i j)), (24, true, .p (.i a.c)), (9, true, .ptr 2 0), (7, true, .p (.i x)), (6, true, .p (.i y)), (5, true, .ptr 1 0), (2, true, .ptr 0 0)], [some (lookBox l a b wt), some (iBox o), some (tmCell 3 (cvRows a z wt o ((y * st : Nat) : Int) ((x * st : Nat) : Int) j).length), some (tmRow (cvRows a z wt o ((y * st : Nat) : Int) ((x * st : Nat) : Int) j))]⟩) m ⟨_, ⟨0, Nat.zero_le _, by simp, rfl⟩, z_wkt⟩ ?_
    rintro k s ⟨j, hj, rfl, rfl⟩
    refine z_go ?_
    apply Sym.cond
    · rfl
    · intro hlt
      simp only [decide_eq_true_eq] at hlt
      have kw := fnWinC l a b wt o j z (y * st) (x * st) (cvRows a z wt o ((y * st : Nat) : Int) ((x * st : Nat) : Int) j) (by omega) hz (by omega) (by omega) (by omega) hw hyy hxx (by
        rw [cvRows_len]
        have : j * (z * z) ≤ 8 * 144 := Nat.mul_le_mul (by omega) hz144
        omega)
      rw [← hz, ← cvRows_succ] at kw
      refine z_go ?_
      (apply Sym.drawL 10 (by kernel_rfl) (by kernel_rfl))
      have k1 := kt; refine z_mt ?_
      ((with_reducible apply SymL.callM [2, 0, 4, 1, 3] kw); exact z_ren; exact z_evf; (refine ⟨?_, ?_, ?_, ?_, ?_, trivial⟩ <;> first | exact rfl | (simp only [Box.ren, D.enc, D.renL_p]; exact rfl)); decide; exact rfl; exact rfl; exact z_wrB; exact z_dd; exact z_ren; (simp only [Hp.clean, D.clean, D.cleanL, D.cleanL_p, bne, Nat.reduceBEq, Bool.not_true, Bool.not_false, cond_true, cond_false]; exact z_ren); exact z_cln)
      refine z_go ?_
      refine ⟨_, ?_, _, ⟨j + 1, by omega, rfl, rfl⟩, z_wkt⟩
      omega
    · intro hge
      simp only [decide_eq_false_iff_not] at hge
      obtain rfl : j = m := by omega
      refine z_go ?_
      with_reducible first | apply Fin.rt | apply Fin.nx
      exact .cons (.tmp rfl (DVr.list encTm _ rfl (fun q => rfl) rfl rfl)) .nil
end Go.Proofs.YtfnbofkhgimkcaaGreat
