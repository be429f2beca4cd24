/- Package check: its panic and what recovers it. -/
import Derived.Test.YtblabchnpkofgaaS3
set_option linter.unusedSimpArgs false
set_option linter.unusedVariables false
namespace Go.Proofs.Ytblabchnpkofgaa
open Go.RowKit Go.Sy
/-- what package check panics with -/
abbrev wrongV (e : Int) : Value := .iface 112 (.agg #[.int .i64 e])
theorem fnMustT (e : Int) : Fn1 Try.prog 81 [.b true, .i e] (.tup []) := by
  refine Fn1.of (rs := []) (res := []) Try.call81 Try.func81 rfl Try.ntmps81 rfl (by simp) fun c hc => ?_
  refine z_go ?_
  apply Sym.condF
  · rfl
  refine z_go ?_
  with_reducible first | apply Fin.rt | apply Fin.nx
  exact .nil
theorem fnMustF (e : Int) : FnP Try.prog 81 [.b false, .i e] (wrongV e) := by
  refine FnP.of Try.call81 Try.func81 rfl Try.ntmps81 (by simp) fun c hc => ?_
  refine z_go ?_
  apply Sym.condT
  · rfl
  apply Sym.regionL
  refine SymL.opr (g := true) z_gd z_mop rfl ?_
  refine SymL.opr (g := true) z_gd z_mop rfl ?_
  refine SymL.opr (g := true) (d := .p (.ifc 112 (.agg [.i e]))) z_gd (MOp.makeIface rfl z_ev) rfl ?_
  refine SymL.panic (v := .ifc 112 (.agg [.i e])) (ti := 112) (y := .agg #[.int .i64 e]) z_ev rfl ?_
  show FinP _ _ _
  unfold FinP
  kernel_rfl
abbrev bNil : D := .p (.x (.slice none 0 0))
theorem cdRet (v v' : V) (t t' : TypeId) : CD Try.prog 80 [.ptr 0 0, .ptr 1 0] [some ⟨[.p v], t, 0⟩, some ⟨[.p v'], t', 0⟩] [some ⟨[.p v], t, 0⟩, some ⟨[.p v'], t', 0⟩, none] .returning .returning := by
  refine CD.of Try.func80 rfl Try.ntmps80 rfl (by simp) rfl rfl rfl rfl .ret fun c hro hdead hc => ?_
  refine SymL.opr (d := .p (.tup [.agg [.i 0], .b false])) (g := true) z_gd (MOp.typeAssertN rfl rfl rfl z_ev) rfl ?_
  refine z_go ?_
  apply Sym.condF
  · rfl
  refine z_go ?_
  exact FinB.nxW [] z_wkt .nil
theorem cdPan (e : Int) (d d' : D) (t t' : TypeId) (h : Hp.upTo 2 [some ⟨[d], t, 0⟩, some ⟨[d'], t', 0⟩] = true) : CD Try.prog 80 [.ptr 0 0, .ptr 1 0] [some ⟨[d], t, 0⟩, some ⟨[d'], t', 0⟩] [some ⟨[bNil], t, 0⟩, some ⟨[.p (.i e)], t', 0⟩, none] (.panicking (pch (wrongV e))) (.panicking [⟨wrongV e, true, false⟩]) := by
  refine CD.of Try.func80 rfl Try.ntmps80 rfl (by simp) rfl rfl h rfl (.pan (v := .ifc 112 (.agg [.i e])) rfl) fun c hro hdead hc => ?_
  refine SymL.opr (d := .p (.tup [.agg [.i e], .b true])) (g := true) z_gd (MOp.typeAssertT rfl z_ev) rfl ?_
  refine z_go ?_
  apply Sym.condT
  · rfl
  (apply Sym.drawXL [2, 3] (by kernel_rfl) (by kernel_rfl) (by kernel_rfl))
  refine z_xgo ?_
  exact FinB.nxW [] z_wkt .nil
end Go.Proofs.Ytblabchnpkofgaa
