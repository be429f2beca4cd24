/- Operations that only add memory, one law each; calls. No program in sight. -/
import Derived.Test.YtblabchnpkofgaaDc
import Derived.WalkSpells
set_option linter.unusedSimpArgs false
set_option linter.unusedVariables false
namespace Go.Sy
open Go.RowKit

/-- a type, as the program's table has it -/
class TyI (P : Program) (t : TypeId) (i : outParam TypeInfo) (u : outParam TypeDesc) : Prop where
  ti : P.info? t = some i
  ut : P.underlying t = some u
/-- an operand's datum, where the guard g holds -/
def Ev (s : St) (g : Bool) : Operand → D → Prop
  | .tmp t, d => ∃ g', TM.get s.tm t = some (g', d) ∧ (g = true → g' = true)
  | .const v, d => d = .p (.x v)
  | .func f, d => d = .p (.x (.func (.func f) #[] #[]))
  | .global _, _ => False
section
variable {s : St} {g : Bool} {d : D}
theorem Ev.t {t : Tmp} (h : TM.get s.tm t = some (true, d)) : Ev s g (.tmp t) d := ⟨true, h, fun _ => rfl⟩
theorem Ev.tg {t : Tmp} (h : TM.get s.tm t = some (g, d)) : Ev s g (.tmp t) d := ⟨g, h, id⟩
theorem Ev.tw {t : Tmp} {g' : Bool} (h : TM.get s.tm t = some (g', d)) (k : g = true → g' = true) : Ev s g (.tmp t) d := ⟨g', h, k⟩
theorem Ev.c {v : Value} : Ev s g (.const v) (.p (.x v)) := rfl
theorem Ev.f {f : FuncId} : Ev s g (.func f) (.p (.x (.func (.func f) #[] #[]))) := rfl
end
theorem run_sizeOf' {P : Program} {t : TypeId} {i : TypeInfo} (h : P.info? t = some i) (w : World) : (sizeOf t).run P w = .ok i.size w := by
  simp [sizeOf, run_typeInfo w h]
theorem run_zeroValue' {P : Program} {t : TypeId} {i : TypeInfo} {z : Value} (h : P.info? t = some i) (hz : i.zero = some z) (w : World) : (zeroValue t).run P w = .ok z w := by
  simp [zeroValue, run_typeInfo w h, hz]
def TypeDesc.isAgg : TypeDesc → Bool
  | .struct _ | .array _ _ => true
  | _ => false
theorem run_isAgg' {P : Program} {t : TypeId} {u : TypeDesc} (h : P.underlying t = some u) (w : World) : (isAgg t).run P w = .ok (TypeDesc.isAgg u) w := by
  cases u <;> simp [isAgg, run_underlying h, TypeDesc.isAgg]

section
variable {P : Program} {s : St} {g : Bool} {dst : Option Tmp} {ty : TypeId} {pos : String} {af : Array Edge} {gd : Option (Nat × Bool)}
theorem Ev.rep {x : Operand} {d : D} {l : Array Operand} {β : List Place} {S : Nat → Prop} {a : Act} {w : World} (h : Ev s g x d) (hx : x ∈ l) (he : ∀ t, .tmp t ∈ l → EntAt s β S w a t) (hg : g = true) : d.Rep β S w (a.eval x) := by
  cases x with
  | tmp t =>
    obtain ⟨g', h1, h2⟩ := h
    exact (he t hx g' d h1).2.1 (h2 hg)
  | const v => cases h; exact rfl
  | func f => cases h; exact rfl
  | global _ => exact h.elim
theorem wp_value {o : Oper} {a : Act} {w w' : World} {v : Value} {K : Act → World → Prop} {Q : Exit → Act → World → Prop} (h : (execOp a.eval o).run P w = .ok (.value v) w') (hK : K (a.put o.dst v) w') : o.wp P a w K Q := by
  unfold Oper.wp
  rw [h]
  exact hK
/-- one operand, no change -/
theorem MOp.of1 {op : Op} {x : Operand} {dx d : D} (hx : Ev s g x dx) (hm : x ∈ op.operands)
    (h : ∀ β S w (ρ : Operand → Value), HOk s.H β S w → dx.Rep β S w (ρ x) → ∃ v, (execOp ρ ⟨dst, op, ty, pos, af, gd⟩).run P w = .ok (.value v) w ∧ d.Rep β S w v) : MOp P s ⟨dst, op, ty, pos, af, gd⟩ g d := by
  refine ⟨fun β S a w ho he hg K Q hK => ?_⟩
  obtain ⟨v, h1, h2⟩ := h β S w a.eval ho (hx.rep hm he hg)
  exact wp_value h1 (hK v w (Ext.refl w) h2)
/-- two operands, no change -/
theorem MOp.of2 {op : Op} {x y : Operand} {dx dy d : D} (hx : Ev s g x dx) (hy : Ev s g y dy) (hmx : x ∈ op.operands) (hmy : y ∈ op.operands)
    (h : ∀ β S w (ρ : Operand → Value), HOk s.H β S w → dx.Rep β S w (ρ x) → dy.Rep β S w (ρ y) → ∃ v, (execOp ρ ⟨dst, op, ty, pos, af, gd⟩).run P w = .ok (.value v) w ∧ d.Rep β S w v) : MOp P s ⟨dst, op, ty, pos, af, gd⟩ g d := by
  refine ⟨fun β S a w ho he hg K Q hK => ?_⟩
  obtain ⟨v, h1, h2⟩ := h β S w a.eval ho (hx.rep hmx he hg) (hy.rep hmy he hg)
  exact wp_value h1 (hK v w (Ext.refl w) h2)
theorem MOp.move {x : Operand} {d : D} (hx : Ev s g x d) : MOp P s ⟨dst, .move x, ty, pos, af, gd⟩ g d :=
  MOp.of1 hx (by simp [Op.operands]) fun β S w ρ _ h => ⟨_, by simp [execOp], h⟩
theorem MOp.assign {x : Operand} {d : D} (hx : Ev s g x d) : MOp P s ⟨dst, .assign x, ty, pos, af, gd⟩ g d :=
  MOp.of1 hx (by simp [Op.operands]) fun β S w ρ _ h => ⟨_, by simp [execOp], h⟩
/-- pick of two Bools, each known where it is wanted -/
theorem MOp.pick {x y z : Operand} {b p q : Bool} (hx : Ev s g x (.p (.x (.bool b)))) (hy : Ev s (g && b) y (.p (.x (.bool p)))) (hz : Ev s (g && !b) z (.p (.x (.bool q)))) :
    MOp P s ⟨dst, .pick x y z, ty, pos, af, gd⟩ g (.p (.x (.bool (bif b then p else q)))) := by
  refine ⟨fun β S a w ho he hg K Q hK => ?_⟩
  subst hg
  have h1 : a.eval x = .bool b := hx.rep (l := (Op.pick x y z).operands) (by simp [Op.operands]) he rfl
  cases b with
  | true =>
    have h2 : a.eval y = .bool p := hy.rep (l := (Op.pick x y z).operands) (by simp [Op.operands]) he rfl
    exact wp_value (v := .bool p) (by simp [execOp, h1, h2, asBool]) (hK _ w (Ext.refl w) rfl)
  | false =>
    have h2 : a.eval z = .bool q := hz.rep (l := (Op.pick x y z).operands) (by simp [Op.operands]) he rfl
    exact wp_value (v := .bool q) (by simp [execOp, h1, h2, asBool]) (hK _ w (Ext.refl w) rfl)
theorem MOp.pickAnd {x y : Operand} {b p : Bool} (hx : Ev s g x (.p (.x (.bool b)))) (hy : Ev s (g && b) y (.p (.x (.bool p)))) :
    MOp P s ⟨dst, .pick x y (.const (.bool false)), ty, pos, af, gd⟩ g (.p (.x (.bool (b && p)))) := by
  have := MOp.pick (P := P) (dst := dst) (ty := ty) (pos := pos) (af := af) (gd := gd) hx hy (Ev.c (s := s) (g := g && !b) (v := .bool false))
  have e : (bif b then p else false) = (b && p) := by cases b <;> rfl
  rwa [e] at this
theorem MOp.pickOr {x z : Operand} {b q : Bool} (hx : Ev s g x (.p (.x (.bool b)))) (hz : Ev s (g && !b) z (.p (.x (.bool q)))) :
    MOp P s ⟨dst, .pick x (.const (.bool true)) z, ty, pos, af, gd⟩ g (.p (.x (.bool (b || q)))) := by
  have := MOp.pick (P := P) (dst := dst) (ty := ty) (pos := pos) (af := af) (gd := gd) hx (Ev.c (s := s) (g := g && b) (v := .bool true)) hz
  have e : (bif b then true else q) = (b || q) := by cases b <;> rfl
  rwa [e] at this

/-! #### numbers -/
section
variable {x y : Operand} {k : IntKind} {a b : Int} {t t' : TypeId}
theorem MOp.bin {op : BinOp} {u v r : Value} (hx : Ev s g x (.p (.x u))) (hy : Ev s g y (.p (.x v))) (h : ∀ w, (do eqGuard op t x y u v; binOp op t u v : Sem Value).run P w = .ok r w) :
    MOp P s ⟨dst, .binOp op t x y t', ty, pos, af, gd⟩ g (.p (.x r)) :=
  MOp.of2 hx hy (by simp [Op.operands]) (by simp [Op.operands]) fun β S w ρ _ h1 h2 => by
    have h1 : ρ x = u := h1
    have h2 : ρ y = v := h2
    refine ⟨r, ?_, rfl⟩
    simp only [execOp, h1, h2]
    rw [Sem.run_bind, h w]
    rfl
theorem MOp.add (hx : Ev s g x (.p (.x (.int k a)))) (hy : Ev s g y (.p (.x (.int k b)))) : MOp P s ⟨dst, .binOp .add t x y t', ty, pos, af, gd⟩ g (.p (.x (.int k (k.wrap (a + b))))) := MOp.bin hx hy fun w => by simp [go_sem, Op.intArith]
theorem MOp.sub (hx : Ev s g x (.p (.x (.int k a)))) (hy : Ev s g y (.p (.x (.int k b)))) : MOp P s ⟨dst, .binOp .sub t x y t', ty, pos, af, gd⟩ g (.p (.x (.int k (k.wrap (a - b))))) := MOp.bin hx hy fun w => by simp [go_sem, Op.intArith]
theorem MOp.mul (hx : Ev s g x (.p (.x (.int k a)))) (hy : Ev s g y (.p (.x (.int k b)))) : MOp P s ⟨dst, .binOp .mul t x y t', ty, pos, af, gd⟩ g (.p (.x (.int k (k.wrap (a * b))))) := MOp.bin hx hy fun w => by simp [go_sem, Op.intArith]
theorem wrap_in (n : Int) (h0 : -9223372036854775808 ≤ n) (h1 : n ≤ 9223372036854775807) : IntKind.i64.wrap n = n := IntWalk.i64_in n ⟨h0, h1⟩
theorem MOp.addI (hx : Ev s g x (.p (.x (.int .i64 a)))) (hy : Ev s g y (.p (.x (.int .i64 b)))) (h : -9223372036854775808 ≤ a + b ∧ a + b ≤ 9223372036854775807) : MOp P s ⟨dst, .binOp .add t x y t', ty, pos, af, gd⟩ g (.p (.x (.int .i64 (a + b)))) := by
  have := MOp.add (P := P) (dst := dst) (ty := ty) (pos := pos) (af := af) (gd := gd) (t := t) (t' := t') hx hy
  rwa [wrap_in _ h.1 h.2] at this
theorem MOp.subI (hx : Ev s g x (.p (.x (.int .i64 a)))) (hy : Ev s g y (.p (.x (.int .i64 b)))) (h : -9223372036854775808 ≤ a - b ∧ a - b ≤ 9223372036854775807) : MOp P s ⟨dst, .binOp .sub t x y t', ty, pos, af, gd⟩ g (.p (.x (.int .i64 (a - b)))) := by
  have := MOp.sub (P := P) (dst := dst) (ty := ty) (pos := pos) (af := af) (gd := gd) (t := t) (t' := t') hx hy
  rwa [wrap_in _ h.1 h.2] at this
theorem MOp.mulI (hx : Ev s g x (.p (.x (.int .i64 a)))) (hy : Ev s g y (.p (.x (.int .i64 b)))) (h : -9223372036854775808 ≤ a * b ∧ a * b ≤ 9223372036854775807) : MOp P s ⟨dst, .binOp .mul t x y t', ty, pos, af, gd⟩ g (.p (.x (.int .i64 (a * b)))) := by
  have := MOp.mul (P := P) (dst := dst) (ty := ty) (pos := pos) (af := af) (gd := gd) (t := t) (t' := t') hx hy
  rwa [wrap_in _ h.1 h.2] at this
theorem MOp.quo (hx : Ev s g x (.p (.x (.int k a)))) (hy : Ev s g y (.p (.x (.int k b)))) (hb : b ≠ 0) : MOp P s ⟨dst, .binOp .quo t x y t', ty, pos, af, gd⟩ g (.p (.x (.int k (k.wrap (a.tdiv b))))) := MOp.bin hx hy fun w => by simp [go_sem, Op.intDiv, hb]
theorem MOp.rem (hx : Ev s g x (.p (.x (.int k a)))) (hy : Ev s g y (.p (.x (.int k b)))) (hb : b ≠ 0) : MOp P s ⟨dst, .binOp .rem t x y t', ty, pos, af, gd⟩ g (.p (.x (.int k (a.tmod b)))) := MOp.bin hx hy fun w => by simp [go_sem, Op.intDiv, hb]
theorem MOp.remI (hx : Ev s g x (.p (.x (.int .i64 a)))) (hy : Ev s g y (.p (.x (.int .i64 b)))) (h : g = true → 0 ≤ a ∧ 0 < b) : MOp P s ⟨dst, .binOp .rem t x y t', ty, pos, af, gd⟩ g (.p (.x (.int .i64 (a % b)))) := by
  refine ⟨fun β S A w ho he hg => ?_⟩
  obtain ⟨h1, h2⟩ := h hg
  have := MOp.rem (P := P) (dst := dst) (ty := ty) (pos := pos) (af := af) (gd := gd) (t := t) (t' := t') hx hy (by omega)
  rw [Int.tmod_eq_emod_of_nonneg h1] at this
  exact this.run β S A w ho he hg
theorem MOp.quoI (hx : Ev s g x (.p (.x (.int .i64 a)))) (hy : Ev s g y (.p (.x (.int .i64 b)))) (h : g = true → 0 ≤ a ∧ 0 < b ∧ a ≤ 9223372036854775807) : MOp P s ⟨dst, .binOp .quo t x y t', ty, pos, af, gd⟩ g (.p (.x (.int .i64 (a / b)))) := by
  refine ⟨fun β S A w ho he hg => ?_⟩
  obtain ⟨h1, h2, h3⟩ := h hg
  have := MOp.quo (P := P) (dst := dst) (ty := ty) (pos := pos) (af := af) (gd := gd) (t := t) (t' := t') hx hy (by omega)
  have h4 := Int.ediv_nonneg h1 (Int.le_of_lt h2)
  have h5 : a / b ≤ a := Int.ediv_le_self _ h1
  rw [Int.tdiv_eq_ediv_of_nonneg h1, wrap_in _ (by omega) (by omega)] at this
  exact this.run β S A w ho he hg
theorem MOp.eql (hx : Ev s g x (.p (.x (.int k a)))) (hy : Ev s g y (.p (.x (.int k b)))) : MOp P s ⟨dst, .binOp .eql t x y t', ty, pos, af, gd⟩ g (.p (.x (.bool (a == b)))) := MOp.bin hx hy fun w => by simp [go_sem]
theorem MOp.neq (hx : Ev s g x (.p (.x (.int k a)))) (hy : Ev s g y (.p (.x (.int k b)))) : MOp P s ⟨dst, .binOp .neq t x y t', ty, pos, af, gd⟩ g (.p (.x (.bool (a != b)))) := MOp.bin hx hy fun w => by simp [go_sem]
theorem MOp.lss (hx : Ev s g x (.p (.x (.int k a)))) (hy : Ev s g y (.p (.x (.int k b)))) : MOp P s ⟨dst, .binOp .lss t x y t', ty, pos, af, gd⟩ g (.p (.x (.bool (decide (a < b))))) := MOp.bin hx hy fun w => by simp [go_sem]
theorem MOp.leq (hx : Ev s g x (.p (.x (.int k a)))) (hy : Ev s g y (.p (.x (.int k b)))) : MOp P s ⟨dst, .binOp .leq t x y t', ty, pos, af, gd⟩ g (.p (.x (.bool (decide (a ≤ b))))) := MOp.bin hx hy fun w => by simp [go_sem]
theorem MOp.gtr (hx : Ev s g x (.p (.x (.int k a)))) (hy : Ev s g y (.p (.x (.int k b)))) : MOp P s ⟨dst, .binOp .gtr t x y t', ty, pos, af, gd⟩ g (.p (.x (.bool (decide (a > b))))) := MOp.bin hx hy fun w => by simp [go_sem]
theorem MOp.geq (hx : Ev s g x (.p (.x (.int k a)))) (hy : Ev s g y (.p (.x (.int k b)))) : MOp P s ⟨dst, .binOp .geq t x y t', ty, pos, af, gd⟩ g (.p (.x (.bool (decide (a ≥ b))))) := MOp.bin hx hy fun w => by simp [go_sem]
theorem MOp.bits_ {op : BinOp} (hop : op = .and ∨ op = .or ∨ op = .xor ∨ op = .andNot) (hx : Ev s g x (.p (.x (.int k a)))) (hy : Ev s g y (.p (.x (.int k b)))) :
    MOp P s ⟨dst, .binOp op t x y t', ty, pos, af, gd⟩ g (.p (.x (.int k (bits op k a b)))) := by
  rcases hop with rfl | rfl | rfl | rfl <;> exact MOp.bin hx hy fun w => by simp [go_sem, Op.intBits, bits]
theorem MOp.shl {k' : IntKind} (hx : Ev s g x (.p (.x (.int k a)))) (hy : Ev s g y (.p (.x (.int k' b)))) (hb : 0 ≤ b) : MOp P s ⟨dst, .binOp .shl t x y t', ty, pos, af, gd⟩ g (.p (.x (.int k (k.wrap (a * 2 ^ (min b.toNat k.bits)))))) := MOp.bin hx hy fun w => by
  have : ¬ b < 0 := by omega
  simp [go_sem, Op.shift, this]
theorem MOp.shr {k' : IntKind} (hx : Ev s g x (.p (.x (.int k a)))) (hy : Ev s g y (.p (.x (.int k' b)))) (hb : 0 ≤ b) : MOp P s ⟨dst, .binOp .shr t x y t', ty, pos, af, gd⟩ g (.p (.x (.int k (a.fdiv (2 ^ (min b.toNat k.bits)))))) := MOp.bin hx hy fun w => by
  have : ¬ b < 0 := by omega
  simp [go_sem, Op.shift, this]
theorem MOp.eqlB {p q : Bool} {i : TypeInfo} [h : TyI P t i .bool] (hx : Ev s g x (.p (.x (.bool p)))) (hy : Ev s g y (.p (.x (.bool q)))) : MOp P s ⟨dst, .binOp .eql t x y t', ty, pos, af, gd⟩ g (.p (.x (.bool (p == q)))) := MOp.bin hx hy fun w => by
  rw [show (eqGuard .eql t x y (.bool p) (.bool q)) = pure () from rfl]
  exact run_eql_bool w t p q h.ut
theorem MOp.neqB {p q : Bool} {i : TypeInfo} [h : TyI P t i .bool] (hx : Ev s g x (.p (.x (.bool p)))) (hy : Ev s g y (.p (.x (.bool q)))) : MOp P s ⟨dst, .binOp .neq t x y t', ty, pos, af, gd⟩ g (.p (.x (.bool (p != q)))) := MOp.bin hx hy fun w => by
  rw [show (eqGuard .neq t x y (.bool p) (.bool q)) = pure () from rfl]
  exact run_neq_bool w t p q h.ut
theorem MOp.eqlS {p q : ByteArray} (hx : Ev s g x (.p (.x (.string p)))) (hy : Ev s g y (.p (.x (.string q)))) : MOp P s ⟨dst, .binOp .eql t x y t', ty, pos, af, gd⟩ g (.p (.x (.bool (p.toList == q.toList)))) := MOp.bin hx hy fun w => by
  simp [go_sem, binOp, Op.stringOp]
theorem MOp.neqS {p q : ByteArray} (hx : Ev s g x (.p (.x (.string p)))) (hy : Ev s g y (.p (.x (.string q)))) : MOp P s ⟨dst, .binOp .neq t x y t', ty, pos, af, gd⟩ g (.p (.x (.bool (!(p.toList == q.toList))))) := MOp.bin hx hy fun w => by
  simp [go_sem, binOp, Op.stringOp]
theorem MOp.lssS {p q : ByteArray} (hx : Ev s g x (.p (.x (.string p)))) (hy : Ev s g y (.p (.x (.string q)))) : MOp P s ⟨dst, .binOp .lss t x y t', ty, pos, af, gd⟩ g (.p (.x (.bool (Op.bytesLess p.toList q.toList)))) := MOp.bin hx hy fun w => by
  simp [go_sem, binOp, Op.stringOp]
theorem MOp.not {p : Bool} (hx : Ev s g x (.p (.x (.bool p)))) : MOp P s ⟨dst, .unOp .not t x, ty, pos, af, gd⟩ g (.p (.x (.bool (!p)))) :=
  MOp.of1 hx (by simp [Op.operands]) fun β S w ρ _ h => by
    have h : ρ x = .bool p := h
    exact ⟨.bool (!p), by simp [execOp, h, Op.unary], rfl⟩
theorem MOp.neg (hx : Ev s g x (.p (.x (.int k a)))) : MOp P s ⟨dst, .unOp .neg t x, ty, pos, af, gd⟩ g (.p (.x (.int k (k.wrap (0 - a))))) :=
  MOp.of1 hx (by simp [Op.operands]) fun β S w ρ _ h => by
    have h : ρ x = .int k a := h
    exact ⟨.int k (k.wrap (0 - a)), by simp [execOp, h, Op.unary, Op.intArith], rfl⟩
theorem MOp.conv {k' : IntKind} {i i' : TypeInfo} {u : TypeDesc} [h : TyI P t i u] [h' : TyI P t' i' (.int k')] (hx : Ev s g x (.p (.x (.int k a)))) : MOp P s ⟨dst, .convert t t' x, ty, pos, af, gd⟩ g (.p (.x (.int k' (k'.wrap a)))) :=
  MOp.of1 hx (by simp [Op.operands]) fun β S w ρ _ hr => by
    have hr : ρ x = .int k a := hr
    refine ⟨.int k' (k'.wrap a), ?_, rfl⟩
    have h2 : P.intKind t' = k' := by simp [Program.intKind, h'.ut]
    have := run_convert_int (P := P) w t t' k a (by simp [h.ut]) (by rw [h2, h'.ut])
    simp only [execOp, hr]
    rw [Sem.run_bind, this, h2]
    rfl
theorem MOp.convI {i i' : TypeInfo} {u : TypeDesc} [h : TyI P t i u] [h' : TyI P t' i' (.int .i64)] (hx : Ev s g x (.p (.x (.int k a)))) (hb : -9223372036854775808 ≤ a ∧ a ≤ 9223372036854775807) : MOp P s ⟨dst, .convert t t' x, ty, pos, af, gd⟩ g (.p (.x (.int .i64 a))) := by
  have := MOp.conv (P := P) (dst := dst) (ty := ty) (pos := pos) (af := af) (gd := gd) (t := t) (t' := t') hx
  rwa [wrap_in _ hb.1 hb.2] at this
theorem MOp.convS {i i' : TypeInfo} {v : ByteArray} [h : TyI P t i .string] [h' : TyI P t' i' .string] (hx : Ev s g x (.p (.x (.string v)))) : MOp P s ⟨dst, .convert t t' x, ty, pos, af, gd⟩ g (.p (.x (.string v))) :=
  MOp.of1 hx (by simp [Op.operands]) fun β S w ρ _ hr => by
    have hr : ρ x = .string v := hr
    exact ⟨.string v, by simp [execOp, hr, convert, run_underlying h.ut, run_underlying h'.ut], rfl⟩
end
end

/-! #### lists, bytes -/
/-- a slice of data -/
abbrev V.list {α : Type} (enc : α → List V) (l : List α) : V := .sl l.length (l.flatMap enc)
def V.byte (b : UInt8) : List V := [.x (.int .u8 (b.toNat : Int))]
abbrev V.bytes (l : List UInt8) : V := V.list V.byte l
abbrev V.str (l : List UInt8) : V := .x (.string (strB l))
abbrev V.i (n : Int) : V := .x (.int .i64 n)
abbrev V.b (n : Bool) : V := .x (.bool n)
section
variable {S : Nat → Prop} {w : World}
theorem V.RepL.byte : ∀ {l : List UInt8} {us : List Value}, V.RepL S w (l.flatMap V.byte) us ↔ us = l.map fun b => .int .u8 (b.toNat : Int)
  | [], us => Iff.rfl
  | b :: l, us => by
    rw [List.flatMap_cons]
    constructor
    · rintro ⟨y, ys, rfl, h1, h2⟩
      rw [V.RepL.byte.1 h2, show y = _ from h1]; rfl
    · rintro rfl
      exact ⟨_, _, rfl, rfl, V.RepL.byte.2 rfl⟩
theorem Kd.many_byte : ∀ {l : List UInt8} {cs : List Value}, Kd.byte.many S w l cs ↔ cs = l.map fun b => .int .u8 (b.toNat : Int)
  | [], cs => Iff.rfl
  | b :: l, cs => by
    constructor
    · rintro ⟨c, cs', rfl, h2, rfl⟩
      rw [Kd.many_byte.1 h2]; rfl
    · rintro rfl
      exact ⟨_, _, rfl, Kd.many_byte.2 rfl, rfl⟩
theorem V.Rep.bytes {l : List UInt8} {u : Value} : (V.bytes l).Rep S w u ↔ Kd.byte.L S w u l := by
  constructor
  · rintro ⟨a, c, us, h1, h2, h3, h4, h5⟩
    exact ⟨us, Kd.many_byte.2 (V.RepL.byte.1 h4), a, c, h1, h2, h3, h5⟩
  · rintro ⟨us, h4, a, c, h1, h2, h3, h5⟩
    exact ⟨a, c, us, h1, h2, h3, V.RepL.byte.2 (Kd.many_byte.1 h4), h5⟩
end
section
variable {P : Program} {s : St} {g : Bool} {dst : Option Tmp} {ty : TypeId} {pos : String} {af : Array Edge} {gd : Option (Nat × Bool)} {t t' e : TypeId} {x : Operand}
/-- string(b) -/
theorem MOp.convBytes {i i' j : TypeInfo} {l : List UInt8} [h : TyI P t i (.slice e)] [he : TyI P e j (.int .u8)] [h' : TyI P t' i' .string] (hx : Ev s g x (.p (.bytes l))) :
    MOp P s ⟨dst, .convert t t' x, ty, pos, af, gd⟩ g (.p (.str l)) :=
  MOp.of1 hx (by simp [Op.operands]) fun β S w ρ _ hr => by
    have hr : (V.bytes l).Rep S w (ρ x) := hr
    have := conv_bytes (P := P) (w := w) h.ut he.ut h'.ut (V.Rep.bytes.1 hr)
    refine ⟨.string (strB l), ?_, rfl⟩
    simp only [execOp]
    rw [Sem.run_bind, this]
    rfl
end
end Go.Sy
