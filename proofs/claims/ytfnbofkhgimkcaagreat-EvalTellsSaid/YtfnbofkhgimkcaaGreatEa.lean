/- Calls through an interface whose dynamic type is known; interfaces compared with nil; bits. No program in sight. -/
import Derived.Test.YtfnbofkhgimkcaaGreatDC
import Derived.WideLaws
namespace Go.Sy
open Go.RowKit
/-- the method of this name, of a value of type t, is function k -/
structure Meth (P : Program) (t : TypeId) (name : String) (k : FuncId) : Prop where
  run : ∀ v w, (Go.method (P.types.size + Made.depth) t v name).run P w = .ok (k, v) w
section
variable {P : Program} {s : St} {g : Bool} {dst : Option Tmp} {ty : TypeId} {pos : String} {af : Array Edge} {gd : Option (Nat × Bool)}
theorem MOp.invoke {r : Operand} {name : String} {t : TypeId} {k : FuncId} {as : Array Operand} {ts : Array TypeId} {v : V} {vs : List V} {res : V} (hm : Meth P t name k) (hc : g = true → Fn1 P k (v :: vs) res) (hr : Ev s g r (.p (.ifc t v))) (ha : EvL s g as.toList vs) :
    MOp P s ⟨dst, .call { callee := .invoke r name, args := as, argTypes := ts }, ty, pos, af, gd⟩ g (.p res) := by
  refine ⟨fun β S a w ho he hg K Q hK => ?_⟩
  have hmm : ∀ x ∈ as.toList, x ∈ (Op.call { callee := .invoke r name, args := as, argTypes := ts }).operands := fun x hx => by
    simp only [Op.operands, Call.operands, Array.mem_append]
    exact .inr (by simpa using hx)
  obtain ⟨y, h1, hy⟩ : ∃ y, a.eval r = .iface t y ∧ V.Rep S w v y := hr.rep (l := (Op.call { callee := .invoke r name, args := as, argTypes := ts }).operands) (by simp [Op.operands, Call.operands]) he hg
  have h2 := ha.rep he hg hmm
  have h3 := (hc hg).calls S w (y :: as.toList.map a.eval) ho.up ⟨_, _, rfl, hy, h2⟩
  unfold Oper.wp
  have hrun : (execOp a.eval ⟨dst, .call { callee := .invoke r name, args := as, argTypes := ts }, ty, pos, af, gd⟩).run P w = .ok (.enter k (#[y] ++ as.map a.eval)) w := by
    have e0 : (#[Value.iface t y] ++ as.map a.eval)[0]? = some (Value.iface t y) := by simp [Array.getElem?_append]
    have e1 : (#[Value.iface t y] ++ as.map a.eval).extract 1 (#[Value.iface t y] ++ as.map a.eval).size = as.map a.eval := by
      apply Array.ext'
      simp only [Array.toList_extract, Array.toList_append, List.cons_append, List.nil_append, Array.size_append, Array.size_map, List.size_toArray, List.length_cons, List.length_nil]
      simp
      rw [List.take_of_length_le]
      simp
    have e2 : (callMethod (.iface t y) name (as.map a.eval)).run P w = .ok (.enter k (#[y] ++ as.map a.eval)) w := by
      unfold callMethod
      have := hm.run y w
      simp only [Sem.run_bind, run_program, Result.andThen_ok, this, (hc hg).enter]
    simp only [execOp, resolve, Sem.run_bind, Sem.run_pure, Result.andThen_ok, Go.invoke, h1]
    rw [e0]
    simp only []
    rw [e1, e2]
  rw [hrun]
  show Calls P k (#[y] ++ as.map a.eval) w _
  have e : #[y] ++ as.map a.eval = (y :: as.toList.map a.eval).toArray := by apply Array.ext'; simp
  rw [e]
  refine h3.mono ?_
  rintro e w' ⟨u, rfl, hx, hr⟩
  exact hK u w' hx hr
theorem MOp.ifcNil {x : Operand} {t t' : TypeId} {ti : TypeId} {v : V} (hi : P.underlying t = some (.interface (P.methodsAt t))) (hx : Ev s g x (.p (.ifc ti v))) :
    MOp P s ⟨dst, .binOp .eql t x (.const .nilIface) t', ty, pos, af, gd⟩ g (.p (.x (.bool false))) := by
  refine MOp.of2 hx (y := .const .nilIface) (dy := .p (.x .nilIface)) rfl (by simp [Op.operands]) (by simp [Op.operands]) fun β S w ρ _ h1 h2 => ?_
  obtain ⟨y, e1, _⟩ := h1
  have e2 : ρ (.const .nilIface) = .nilIface := h2
  refine ⟨.bool false, ?_, rfl⟩
  simp only [execOp, e1, e2]
  have : (eqGuard .eql t x (.const .nilIface) (.iface ti y) .nilIface).run P w = .ok () w := by
    simp [eqGuard]
  rw [Sem.run_bind, Sem.run_bind, this, Result.andThen_ok, run_eql_held_nil w t ti y hi]
  rfl
theorem MOp.nilNil {x : Operand} {t t' : TypeId} (hi : P.underlying t = some (.interface (P.methodsAt t))) (hx : Ev s g x (.p (.x .nilIface))) :
    MOp P s ⟨dst, .binOp .eql t x (.const .nilIface) t', ty, pos, af, gd⟩ g (.p (.x (.bool true))) := by
  refine MOp.of2 hx (y := .const .nilIface) (dy := .p (.x .nilIface)) rfl (by simp [Op.operands]) (by simp [Op.operands]) fun β S w ρ _ h1 h2 => ?_
  have e1 : ρ x = .nilIface := h1
  have e2 : ρ (.const .nilIface) = .nilIface := h2
  refine ⟨.bool true, ?_, rfl⟩
  simp only [execOp, e1, e2]
  have : (eqGuard .eql t x (.const .nilIface) .nilIface .nilIface).run P w = .ok () w := by
    simp [eqGuard]
  rw [Sem.run_bind, Sem.run_bind, this, Result.andThen_ok, run_eql_nil_nil w t hi]
  rfl
theorem MOp.andF {x y : Operand} {b : Bool} (hx : Ev s g x (.p (.x (.bool b)))) (hb : b = false) :
    MOp P s ⟨dst, .pick x y (.const (.bool false)), ty, pos, af, gd⟩ g (.p (.x (.bool false))) := by
  refine ⟨fun β S a w ho he hg K Q hK => ?_⟩
  subst hg
  subst hb
  have h1 : a.eval x = .bool false := hx.rep (l := (Op.pick x y (.const (.bool false))).operands) (by simp [Op.operands]) he rfl
  have h2 : a.eval (.const (.bool false)) = .bool false := rfl
  exact wp_value (v := .bool false) (by simp [execOp, h1, h2, asBool]) (hK _ w (Ext.refl w) rfl)
theorem MOp.orT {x y : Operand} {b : Bool} (hx : Ev s g x (.p (.x (.bool b)))) (hb : b = true) :
    MOp P s ⟨dst, .pick x (.const (.bool true)) y, ty, pos, af, gd⟩ g (.p (.x (.bool true))) := by
  refine ⟨fun β S a w ho he hg K Q hK => ?_⟩
  subst hg
  subst hb
  have h1 : a.eval x = .bool true := hx.rep (l := (Op.pick x (.const (.bool true)) y).operands) (by simp [Op.operands]) he rfl
  have h2 : a.eval (.const (.bool true)) = .bool true := rfl
  exact wp_value (v := .bool true) (by simp [execOp, h1, h2, asBool]) (hK _ w (Ext.refl w) rfl)
end
theorem D.icpL_p (k : Nat) (vs : List V) : ∀ l : List V, D.icpL k vs (l.map D.p) = l.map D.p
  | [] => rfl
  | v :: l => by
    rw [List.map_cons, D.icpL, D.icpL_p k vs l]
    rfl
end Go.Sy
