/- Complex numbers of small whole parts: the operations on them. -/
import Derived.Test.YtblabchnpkofgaaDs
import Derived.Laws.ComplexArith
set_option linter.unusedSimpArgs false
set_option linter.unusedVariables false
namespace Go.Sy
open Go.RowKit
/-- the bits of a whole number -/
def fb (n : Nat) : Nat := FloatKind.f64.nearest n
abbrev cxV (x y : Nat) : Value := .complex .f64 (fb x) (fb y)
theorem fb_0 : fb 0 = 0 := by decide +kernel
theorem fb_add : ∀ a : _root_.Fin 13, ∀ b : _root_.Fin 13, floatBits .add .f64 (fb a) (fb b) = some (fb (a.val + b.val)) := by decide +kernel
theorem fb_mul : ∀ a : _root_.Fin 13, ∀ b : _root_.Fin 13, floatBits .mul .f64 (fb a) (fb b) = some (fb (a.val * b.val)) := by decide +kernel
theorem fb_mul0 : ∀ a : _root_.Fin 13, floatBits .mul .f64 (fb a) 0 = some 0 := by decide +kernel
theorem fb_sub0 : ∀ a : _root_.Fin 145, floatBits .sub .f64 (fb a) 0 = some (fb a) := by decide +kernel
theorem fb_add0 : ∀ a : _root_.Fin 145, floatBits .add .f64 0 (fb a) = some (fb a) := by decide +kernel
theorem fb_int : ∀ a : _root_.Fin 30, (FloatKind.f64.decode (fb a)).toInt .zero = some (a.val : Int) := by decide +kernel
theorem cx_add {a b c d : Nat} (ha : a ≤ 12) (hb : b ≤ 12) (hc : c ≤ 12) (hd : d ≤ 12) : cSumBits .add .f64 (fb a) (fb b) (fb c) (fb d) = some (fb (a + c), fb (b + d)) := by
  unfold cSumBits
  have h1 := fb_add ⟨a, by omega⟩ ⟨c, by omega⟩
  have h2 := fb_add ⟨b, by omega⟩ ⟨d, by omega⟩
  simp only at h1 h2
  rw [h1, h2]
  rfl
theorem cx_mul {a b c : Nat} (ha : a ≤ 12) (hb : b ≤ 12) (hc : c ≤ 12) : cMulBits (fb a) (fb b) (fb c) 0 = some (fb (a * c), fb (b * c)) := by
  unfold cMulBits
  have h1 := fb_mul ⟨a, by omega⟩ ⟨c, by omega⟩
  have h2 := fb_mul ⟨b, by omega⟩ ⟨c, by omega⟩
  have h3 := fb_mul0 ⟨a, by omega⟩
  have h4 := fb_mul0 ⟨b, by omega⟩
  have m1 : a * c ≤ 12 * 12 := Nat.mul_le_mul ha hc
  have m2 : b * c ≤ 12 * 12 := Nat.mul_le_mul hb hc
  have h5 := fb_sub0 ⟨a * c, by omega⟩
  have h6 := fb_add0 ⟨b * c, by omega⟩
  simp only at h1 h2 h3 h4 h5 h6
  rw [h1, h4, h3, h2]
  simp only [Option.bind_some]
  rw [h5]
  simp only [Option.bind_some]
  rw [h6]
  rfl
section
variable {P : Program} {s : St} {g : Bool} {dst : Option Tmp} {ty : TypeId} {pos : String} {af : Array Edge} {gd : Option (Nat × Bool)} {x y : Operand} {t t' : TypeId}
theorem MOp.addC {a b c d : Nat} (hx : Ev s g x (.p (.x (cxV a b)))) (hy : Ev s g y (.p (.x (cxV c d)))) (ha : a ≤ 12) (hb : b ≤ 12) (hc : c ≤ 12) (hd : d ≤ 12) :
    MOp P s ⟨dst, .binOp .add t x y t', ty, pos, af, gd⟩ g (.p (.x (cxV (a + c) (b + d)))) := MOp.bin hx hy fun w => by
  have := run_complex_sum (P := P) w .add (.inl rfl) t .f64 _ _ _ _ _ _ (cx_add ha hb hc hd)
  simp [eqGuard, this]
theorem MOp.mulC {a b c : Nat} (hx : Ev s g x (.p (.x (cxV a b)))) (hy : Ev s g y (.p (.x (.complex .f64 (fb c) 0)))) (ha : a ≤ 12) (hb : b ≤ 12) (hc : c ≤ 12) :
    MOp P s ⟨dst, .binOp .mul t x y t', ty, pos, af, gd⟩ g (.p (.x (cxV (a * c) (b * c)))) := MOp.bin hx hy fun w => by
  have := run_complex_mul (P := P) w t _ _ _ _ _ _ (cx_mul ha hb hc)
  simp [eqGuard, this]
theorem MOp.convF {k : IntKind} {a : Nat} {i i' : TypeInfo} {u : TypeDesc} [h : TyI P t i u] [h' : TyI P t' i' (.float .f64)] (hx : Ev s g x (.p (.x (.int k (a : Int))))) : MOp P s ⟨dst, .convert t t' x, ty, pos, af, gd⟩ g (.p (.x (.float .f64 (fb a)))) :=
  MOp.of1 hx (by simp [Op.operands]) fun β S w ρ _ hr => by
    have hr : ρ x = .int k a := hr
    refine ⟨.float .f64 (fb a), ?_, rfl⟩
    have := run_convert_int_float (P := P) w t t' k .f64 a (by simp [h.ut]) h'.ut
    simp only [execOp, hr]
    rw [Sem.run_bind, this]
    rfl
theorem MOp.convFI {a : Nat} {i i' : TypeInfo} {u : TypeDesc} [h : TyI P t i u] [h' : TyI P t' i' (.int .i64)] (hx : Ev s g x (.p (.x (.float .f64 (fb a))))) (ha : a < 30) : MOp P s ⟨dst, .convert t t' x, ty, pos, af, gd⟩ g (.p (.x (.int .i64 (a : Int)))) :=
  MOp.of1 hx (by simp [Op.operands]) fun β S w ρ _ hr => by
    have hr : ρ x = .float .f64 (fb a) := hr
    refine ⟨.int .i64 a, ?_, rfl⟩
    have h1 := fb_int ⟨a, ha⟩
    simp only at h1
    have h2 : (Conv.floatToInt .f64 (fb a) .i64).run P w = .ok (.int .i64 (a : Int)) w := by
      unfold Conv.floatToInt
      simp only [h1]
      rw [if_pos]
      · rfl
      · have e1 : IntKind.i64.min = -9223372036854775808 := rfl
        have e2 : IntKind.i64.max = 9223372036854775807 := rfl
        omega
    have h3 : (convert t t' (.float .f64 (fb a))).run P w = .ok (.int .i64 (a : Int)) w := by
      unfold convert
      rw [Sem.run_bind, run_underlying h.ut]
      simp only [Result.andThen_ok]
      rw [Sem.run_bind, run_underlying h'.ut]
      simp only [Result.andThen_ok]
      exact h2
    simp only [execOp, hr]
    rw [Sem.run_bind, h3]
    rfl
theorem MOp.complex {a b : Nat} (hx : Ev s g x (.p (.x (.float .f64 a)))) (hy : Ev s g y (.p (.x (.float .f64 b)))) : MOp P s ⟨dst, .call { callee := .builtin .complex, args := #[x, y], argTypes := #[t, t'] }, ty, pos, af, gd⟩ g (.p (.x (.complex .f64 a b))) :=
  MOp.of2 hx hy (by simp [Op.operands, Call.operands]) (by simp [Op.operands, Call.operands]) fun β S w ρ _ h1 h2 => by
    have h1 : ρ x = .float .f64 a := h1
    have h2 : ρ y = .float .f64 b := h2
    refine ⟨.complex .f64 a b, ?_, rfl⟩
    have e : Builtin.complex_ #[t, t'] ty #[.float .f64 a, .float .f64 b] = pure (.complex .f64 a b) := rfl
    simp [execOp, resolve, invoke, builtin, h1, h2, e]
theorem MOp.real {a b : Nat} (hx : Ev s g x (.p (.x (.complex .f64 a b)))) : MOp P s ⟨dst, .call { callee := .builtin .real, args := #[x], argTypes := #[t] }, ty, pos, af, gd⟩ g (.p (.x (.float .f64 a))) :=
  MOp.of1 hx (by simp [Op.operands, Call.operands]) fun β S w ρ _ h1 => by
    have h1 : ρ x = .complex .f64 a b := h1
    refine ⟨.float .f64 a, ?_, rfl⟩
    have e : Builtin.real_ #[t] ty #[.complex .f64 a b] = pure (.float .f64 a) := rfl
    simp [execOp, resolve, invoke, builtin, h1, e]
theorem MOp.imag {a b : Nat} (hx : Ev s g x (.p (.x (.complex .f64 a b)))) : MOp P s ⟨dst, .call { callee := .builtin .imag, args := #[x], argTypes := #[t] }, ty, pos, af, gd⟩ g (.p (.x (.float .f64 b))) :=
  MOp.of1 hx (by simp [Op.operands, Call.operands]) fun β S w ρ _ h1 => by
    have h1 : ρ x = .complex .f64 a b := h1
    refine ⟨.float .f64 b, ?_, rfl⟩
    have e : Builtin.imag_ #[t] ty #[.complex .f64 a b] = pure (.float .f64 b) := rfl
    simp [execOp, resolve, invoke, builtin, h1, e]
end
end Go.Sy
