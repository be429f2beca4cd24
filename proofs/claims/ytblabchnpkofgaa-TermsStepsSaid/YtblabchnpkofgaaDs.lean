/- Scripts: how each kind of operation is walked, as arguments that stand by themselves. No program in sight. -/
import Derived.Test.YtblabchnpkofgaaDr
set_option linter.unusedSimpArgs false
set_option linter.unusedVariables false
namespace Go.Sy
open Go.RowKit
/-! ### hints that a walk finds among its hypotheses: k1, k2, .. (contracts), a1, a2, .. (lists that are appended) -/
/-- the contract, called with these boxes -/
def AtR (ks : List Nat) (P : Program) (f : FuncId) (ds : List D) (H0 : List (Option Box)) (r : V) : Prop := FnR P f ds H0 r
def AtB (ks : List Nat) (P : Program) (f : FuncId) (ds : List D) (H0 : List (Option Box)) (r : D) (H1 : List (Option Box)) : Prop := FnB P f ds H0 r H1
theorem FnR.at {P : Program} {f : FuncId} {ds : List D} {H0 : List (Option Box)} {r : V} (h : FnR P f ds H0 r) (ks : List Nat) : AtR ks P f ds H0 r := h
theorem FnB.at {P : Program} {f : FuncId} {ds : List D} {H0 H1 : List (Option Box)} {r : D} (h : FnB P f ds H0 r H1) (ks : List Nat) : AtB ks P f ds H0 r H1 := h
/-- what is left to be shown -/
structure Kont (q : Prop) : Prop where
  run : q
/-- the temporary that is a row of the call's own -/
inductive RowH (t : Tmp) : Prop
  | mk
inductive AppH {α : Type} (enc : α → List V) (l m : List α) : Prop
  | mk
section
variable {P : Program} {s : St} {g : Bool} {dst : Option Tmp} {ty : TypeId} {pos : String} {af : Array Edge} {gd : Option (Nat × Bool)}
theorem MOp.callK {f : Operand} {k : FuncId} {as : Array Operand} {ts : Array TypeId} {vs : List V} {r : V} (hc : Fn1 P k vs r) (hf : Ev s g f (.p (.x (.func (.func k) #[] #[])))) (ha : EvL s g as.toList vs) :
    MOp P s ⟨dst, .call { callee := .value f, args := as, argTypes := ts }, ty, pos, af, gd⟩ g (.p r) := MOp.call hf ha fun _ => hc
theorem MOp.callG {G : Prop} {f : Operand} {k : FuncId} {as : Array Operand} {ts : Array TypeId} {vs : List V} {r : V} (hc : G → Fn1 P k vs r) (hf : Ev s g f (.p (.x (.func (.func k) #[] #[])))) (hg : g = true → G) (ha : EvL s g as.toList vs) :
    MOp P s ⟨dst, .call { callee := .value f, args := as, argTypes := ts }, ty, pos, af, gd⟩ g (.p r) := MOp.call hf ha fun h => hc (hg h)
theorem MOp.callVK {f : Operand} {k : FuncId} {as : Array Operand} {ts : Array TypeId} {vs : List V} {r : V} (hc : Fn1 P k vs r) (hf : Ev s g f (.p (.x (.func (.func k) #[] #[])))) (hr : r.bareT = true) (ha : EvRd s g as.toList vs) :
    MOp P s ⟨dst, .call { callee := .value f, args := as, argTypes := ts }, ty, pos, af, gd⟩ g (.p r) := MOp.callV hf (fun _ => hc) hr ha
theorem MOp.callRK {f : Operand} {k : FuncId} {as : Array Operand} {ts : Array TypeId} {ds ds' : List D} {H0 : List (Option Box)} {r : V} {ks : List Nat} (hc : AtR ks P k ds H0 r) (hds : D.renL (sig ks s.H.length) ds = ds') (hf : EvF s g f as.toList k ds') (hg0 : Given s.H (sig ks s.H.length) ks H0) (hn : ks.Nodup) :
    MOp P s ⟨dst, .call { callee := .value f, args := as, argTypes := ts }, ty, pos, af, gd⟩ g (.p r) := MOp.callR ks (fun _ => hc) hds hf hg0 hn
theorem MOp.callRG {G : Prop} {f : Operand} {k : FuncId} {as : Array Operand} {ts : Array TypeId} {ds ds' : List D} {H0 : List (Option Box)} {r : V} {ks : List Nat} (hc : G → AtR ks P k ds H0 r) (hg : g = true → G) (hds : D.renL (sig ks s.H.length) ds = ds') (hf : EvF s g f as.toList k ds') (hg0 : Given s.H (sig ks s.H.length) ks H0) (hn : ks.Nodup) :
    MOp P s ⟨dst, .call { callee := .value f, args := as, argTypes := ts }, ty, pos, af, gd⟩ g (.p r) := MOp.callR ks (fun h => hc (hg h)) hds hf hg0 hn
theorem MOp.appendK {α : Type} {enc : α → List V} {l m : List α} (_ : AppH enc l m) {t e : TypeId} {i j : TypeInfo} {u : TypeDesc} {z : Value} {x y : Operand} {dx dy : D} [h : TyI P t i (.slice e)] [h' : TyI P e j u] (hx : Ev s g x dx) (hdx : DV dx (.fl l.length (l.flatMap enc))) (hy : Ev s g y dy) (hdv : DV dy (V.list enc m))
    (hz : j.zero = some z) (hzs : Nat.beq z.cells.size j.size = true) (hpos : Nat.blt 0 j.size = true) (hby : Nat.ble j.bytes 1000 = true) (hsz : ∀ q, (enc q).length = j.size) (hnm : g = true → l.length + m.length ≤ 1000000000) :
    MOp P s ⟨dst, .call { callee := .builtin .append, args := #[x, y], argTypes := #[t, t] }, ty, pos, af, gd⟩ g (.p (V.list enc (l ++ m))) := MOp.append enc l m hx hdx hy hdv hz hzs hpos hby hsz hnm
end
section
variable {P : Program} {c : Ctx} {n : Nat} {ops : Array Oper} {Q : Exit → St → Prop} {rest : List Oper} {t : Tmp} {ty : TypeId} {pos : String} {af : Array Edge} {tm : List (Nat × Bool × D)} {H : List (Option Box)}
theorem SymL.callBK {f : Operand} {k : FuncId} {as : Array Operand} {ts : Array TypeId} {ds ds' : List D} {H0 H1 : List (Option Box)} {r r' : D} {ks : List Nat} (hcb : AtB ks P k ds H0 r H1) (hds : D.renL (sig ks H.length) ds = ds') (hf : EvF ⟨tm, H⟩ true f as.toList k ds') (hg0 : Given H (sig ks H.length) ks H0) (hn : ks.Nodup)
    (ht : Nat.blt t n = true) (hwr : c.ro = true → ∀ k ∈ ks, c.β0.length ≤ k) {H' : List (Option Box)} (hr : r.ren (sig ks H.length) = r') (hH' : Hp.putAll (sig ks H.length) ks H1 H ++ (H1.drop ks.length).map (Option.map (Box.ren (sig ks H.length))) = H')
    (kk : SymL P c n ops Q rest ⟨(t, true, r') :: tm, H'⟩) : SymL P c n ops Q (⟨some t, .call { callee := .value f, args := as, argTypes := ts }, ty, pos, af, none⟩ :: rest) ⟨tm, H⟩ := SymL.callB ks hcb hds hf hg0 hn ht hwr hr hH' kk
end
/-! ### small ones -/
theorem z_ev {p : Prop} (h : p := by first | exact Ev.t rfl | exact Ev.c | exact Ev.tg rfl | exact Ev.f | exact Ev.tw rfl (by simp) | exact Ev.tw rfl (by simp_all)) : p := h
theorem z_gd {p : Prop} (h : p := by first | exact GOk.none rfl | exact GOk.some rfl rfl rfl) : p := h
theorem gokT {ops : Array Oper} {s : St} {o : Oper} {j t : Nat} {want b g : Bool} (h1 : o.guard = some (j, want)) (h2 : (ops[j]?).bind (·.dst) = some t) (h3 : TM.get s.tm t = some (g, .p (.x (.bool b)))) (h : (g && (b == want)) = true) : GOk ops s o true := by
  have := GOk.some h1 h2 h3
  rwa [h] at this
theorem z_gdT {p : Prop} (h : p := by first | exact GOk.none rfl | exact gokT rfl rfl rfl rfl) : p := h
theorem z_nrm {p : Prop} (h : p := by first | (simp only [List.nil_append, List.cons_append, List.set_cons_zero, List.set_cons_succ, List.length_cons, List.length_nil, Nat.reduceAdd, D.cells, V.cells, D.toV, D.toVL, Value.cells, List.map_cons, List.map_nil, splice, List.take_succ_cons, List.take_zero, List.take_nil, List.drop_succ_cons, List.drop_zero, List.drop_nil]; exact rfl) | exact rfl) : p := h
theorem z_fill {p : Prop} (h : p := by first | (simp only [fillD, zeroD, List.range_succ, List.range_zero, List.getElem?_cons_zero, List.getElem?_cons_succ, Nat.beq, Nat.ble, Bool.and_true, Bool.true_and, if_true, D.laid, List.nil_append, List.cons_append, List.length_cons, List.length_nil, Nat.reduceAdd, Nat.reduceMul, Nat.zero_mul, D.cells, V.cells, Value.cells, List.map_cons, List.map_nil, splice, List.take_succ_cons, List.take_zero, List.take_nil, List.drop_succ_cons, List.drop_zero, List.drop_nil]; exact rfl) | exact rfl) : p := h
theorem z_vle {p : Prop} (h : p := by ((repeat' (first | exact VLe.refl _ | exact VLe.nil | exact VLe.nilF | exact VLeL.nil | apply VLeL.cons | apply VLe.xagg | apply VLe.agg | apply VLe.fl | apply VLe.sl | apply VLe.tup)); (first | done | fail))) : p := h
theorem z_dv {p : Prop} (h : p := by first | exact DV.of rfl | exact DV.mk rfl z_vle) : p := h
theorem z_args {p : Prop} (h : p := by ((repeat (first | exact EvL.nil | (apply EvL.cons; exact z_ev; exact z_dv))); (first | done | fail))) : p := h
theorem z_rd {p : Prop} (h : p := by
  first
  | exact DRd.of z_dv
  | exact DRd.list rfl (fun q => rfl) rfl
  | exact DRd.pre rfl (by assumption) (fun q => rfl) rfl
  | (apply DRd.agg; ((repeat (first | exact DRdL.nil | (apply DRdL.cons; exact .of z_dv))); (first | done | fail)))) : p := h
theorem z_rargs {p : Prop} (h : p := by ((repeat (first | exact EvRd.nil | (apply EvRd.cons; exact z_ev; exact z_rd))); (first | done | fail))) : p := h
theorem z_hg {p : Prop} (h : p := by (intro hg; simp at hg; first | exact hg | exact hg.1 | exact hg.2 | exact hg.1.1 | simp_all)) : p := h
theorem z_om {p : Prop} (h : p := by first | omega | (constructor <;> omega)) : p := h
theorem z_bnd {p : Prop} (h : p := by (intro hg; first | omega | assumption | (simp at hg ⊢ <;> omega))) : p := h
theorem z_evp {p : Prop} (h : p := by ((repeat (first | exact EvP.nil | (apply EvP.cons; exact z_ev))); (first | done | fail))) : p := h
theorem z_evd {p : Prop} (h : p := by ((repeat (first | exact EvD.nil | (apply EvD.cons; exact z_ev))); (first | done | fail))) : p := h
theorem z_pl {p : Prop} (h : p := by ((repeat (first | exact Places.nil | (apply Places.cons; exact inferInstance))); (first | done | fail))) : p := h
theorem z_dle {p : Prop} (h : p := by first | exact DLe.refl _ | exact DLe.v z_dv) : p := h
theorem z_evm {p : Prop} (h : p := by ((repeat (first | exact EvM.nil | (apply EvM.cons; exact z_ev; exact z_dle))); (first | done | fail))) : p := h
theorem z_evf {p : Prop} (h : p := by first | (apply EvF.fn; (first | exact Ev.f | exact z_ev); exact z_evm) | (apply EvF.clo; exact z_ev; exact z_evm; exact rfl)) : p := h
theorem z_ren {p : Prop} (h : p := by first | (simp only [D.renL, D.ren, D.renL_p, sig, Hp.putAll, Box.ren, Option.map_some, Option.map_none, List.getElem?_cons_zero, List.getElem?_cons_succ, List.getElem?_nil, List.length_cons, List.length_nil, List.set_cons_zero, List.set_cons_succ, List.drop_succ_cons, List.drop_zero, List.drop_nil, List.map_cons, List.map_nil, List.cons_append, List.nil_append, List.append_nil, Nat.reduceAdd, Nat.reduceSub, Nat.zero_add, Nat.sub_zero]; (first | done | exact rfl)) | exact rfl) : p := h
theorem z_given {p : Prop} (h : p := by first | exact trivial | exact ⟨rfl, trivial⟩ | exact ⟨rfl, rfl, trivial⟩ | exact ⟨rfl, rfl, rfl, trivial⟩ | exact ⟨rfl, rfl, rfl, rfl, trivial⟩ | exact ⟨rfl, rfl, rfl, rfl, rfl, trivial⟩) : p := h
theorem z_elt {p : Prop} (h : p := by (intro hg; first | exact ⟨by omega, rfl⟩ | exact ⟨by omega, by assumption⟩ | exact ⟨by omega, by simp_all⟩)) : p := h
/-! ### operations -/
theorem z_nz {p : Prop} (h : p := by (intro hg; first | omega | assumption | (simp at hg ⊢ <;> omega))) : p := h
theorem z_bin {p : Prop} (h : p := by
  first
  | ((with_reducible apply MOp.eql); exact z_ev; exact z_ev)
  | ((with_reducible apply MOp.neq); exact z_ev; exact z_ev)
  | ((with_reducible apply MOp.lss); exact z_ev; exact z_ev)
  | ((with_reducible apply MOp.leq); exact z_ev; exact z_ev)
  | ((with_reducible apply MOp.gtr); exact z_ev; exact z_ev)
  | ((with_reducible apply MOp.geq); exact z_ev; exact z_ev)
  | ((with_reducible apply MOp.addI); exact z_ev; exact z_ev; exact z_om)
  | ((with_reducible apply MOp.subI); exact z_ev; exact z_ev; exact z_om)
  | ((with_reducible apply MOp.mulI); exact z_ev; exact z_ev; exact z_om)
  | ((with_reducible apply MOp.remI); exact z_ev; exact z_ev; exact z_bnd)
  | ((with_reducible apply MOp.quoI); exact z_ev; exact z_ev; exact z_bnd)
  | ((with_reducible apply MOp.eqlB); exact z_ev; exact z_ev)
  | ((with_reducible apply MOp.eqlS); exact z_ev; exact z_ev)
  | ((with_reducible apply MOp.neqB); exact z_ev; exact z_ev)
  | ((with_reducible apply MOp.neqS); exact z_ev; exact z_ev)
  | ((with_reducible apply MOp.lssS); exact z_ev; exact z_ev)
  | ((with_reducible apply MOp.mul); exact z_ev; exact z_ev)
  | ((with_reducible apply MOp.add); exact z_ev; exact z_ev)
  | ((with_reducible apply MOp.sub); exact z_ev; exact z_ev)
  | ((with_reducible apply MOp.remG); exact z_ev; exact z_ev; exact z_nz)
  | ((with_reducible apply MOp.quoG); exact z_ev; exact z_ev; exact z_nz)) : p := h
theorem z_callK {p : Prop} (h : p := by
  first
  | ((with_reducible apply MOp.callK k1); exact Ev.f; exact z_args)
  | ((with_reducible apply MOp.callK k2); exact Ev.f; exact z_args)
  | ((with_reducible apply MOp.callK k3); exact Ev.f; exact z_args)
  | ((with_reducible apply MOp.callK k4); exact Ev.f; exact z_args)
  | ((with_reducible apply MOp.callK k5); exact Ev.f; exact z_args)
  | ((with_reducible apply MOp.callK k6); exact Ev.f; exact z_args)
  | ((with_reducible apply MOp.callK k7); exact Ev.f; exact z_args)
  | ((with_reducible apply MOp.callK k8); exact Ev.f; exact z_args)
  | ((with_reducible apply MOp.callK k9); exact Ev.f; exact z_args)
  | ((with_reducible apply MOp.callK k10); exact Ev.f; exact z_args)
  | ((with_reducible apply MOp.callK k11); exact Ev.f; exact z_args)
  | ((with_reducible apply MOp.callK k12); exact Ev.f; exact z_args)
  | ((with_reducible apply MOp.callK k13); exact Ev.f; exact z_args)
  | ((with_reducible apply MOp.callK k14); exact Ev.f; exact z_args)
  | ((with_reducible apply MOp.callK k15); exact Ev.f; exact z_args)
  | ((with_reducible apply MOp.callK k16); exact Ev.f; exact z_args)
  | ((with_reducible apply MOp.callG g1); exact Ev.f; exact z_hg; exact z_args)
  | ((with_reducible apply MOp.callG g2); exact Ev.f; exact z_hg; exact z_args)
  | ((with_reducible apply MOp.callG g3); exact Ev.f; exact z_hg; exact z_args)) : p := h
theorem z_callR {p : Prop} (h : p := by
  first
  | ((with_reducible apply MOp.callRK k1); exact z_ren; exact z_evf; exact z_given; decide)
  | ((with_reducible apply MOp.callRK k2); exact z_ren; exact z_evf; exact z_given; decide)
  | ((with_reducible apply MOp.callRK k3); exact z_ren; exact z_evf; exact z_given; decide)
  | ((with_reducible apply MOp.callRK k4); exact z_ren; exact z_evf; exact z_given; decide)
  | ((with_reducible apply MOp.callRK k5); exact z_ren; exact z_evf; exact z_given; decide)
  | ((with_reducible apply MOp.callRK k6); exact z_ren; exact z_evf; exact z_given; decide)
  | ((with_reducible apply MOp.callRK k7); exact z_ren; exact z_evf; exact z_given; decide)
  | ((with_reducible apply MOp.callRK k8); exact z_ren; exact z_evf; exact z_given; decide)
  | ((with_reducible apply MOp.callRK k9); exact z_ren; exact z_evf; exact z_given; decide)
  | ((with_reducible apply MOp.callRK k10); exact z_ren; exact z_evf; exact z_given; decide)
  | ((with_reducible apply MOp.callRK k11); exact z_ren; exact z_evf; exact z_given; decide)
  | ((with_reducible apply MOp.callRK k12); exact z_ren; exact z_evf; exact z_given; decide)
  | ((with_reducible apply MOp.callRK k13); exact z_ren; exact z_evf; exact z_given; decide)
  | ((with_reducible apply MOp.callRK k14); exact z_ren; exact z_evf; exact z_given; decide)
  | ((with_reducible apply MOp.callRK k15); exact z_ren; exact z_evf; exact z_given; decide)
  | ((with_reducible apply MOp.callRK k16); exact z_ren; exact z_evf; exact z_given; decide)
  | ((with_reducible apply MOp.callRG g1); exact z_hg; exact z_ren; exact z_evf; exact z_given; decide)
  | ((with_reducible apply MOp.callRG g2); exact z_hg; exact z_ren; exact z_evf; exact z_given; decide)) : p := h
theorem z_callV {p : Prop} (h : p := by
  first
  | ((with_reducible apply MOp.callVK k1); exact Ev.f; rfl; exact z_rargs)
  | ((with_reducible apply MOp.callVK k2); exact Ev.f; rfl; exact z_rargs)
  | ((with_reducible apply MOp.callVK k3); exact Ev.f; rfl; exact z_rargs)
  | ((with_reducible apply MOp.callVK k4); exact Ev.f; rfl; exact z_rargs)
  | ((with_reducible apply MOp.callVK k5); exact Ev.f; rfl; exact z_rargs)
  | ((with_reducible apply MOp.callVK k6); exact Ev.f; rfl; exact z_rargs)
  | ((with_reducible apply MOp.callVK k7); exact Ev.f; rfl; exact z_rargs)
  | ((with_reducible apply MOp.callVK k8); exact Ev.f; rfl; exact z_rargs)
  | ((with_reducible apply MOp.callVK k9); exact Ev.f; rfl; exact z_rargs)
  | ((with_reducible apply MOp.callVK k10); exact Ev.f; rfl; exact z_rargs)
  | ((with_reducible apply MOp.callVK k11); exact Ev.f; rfl; exact z_rargs)
  | ((with_reducible apply MOp.callVK k12); exact Ev.f; rfl; exact z_rargs)) : p := h
theorem z_appK {p : Prop} (h : p := by
  first
  | ((with_reducible apply MOp.appendK a1); exact z_ev; exact z_dv; exact z_ev; exact z_dv; rfl; rfl; rfl; rfl; (intro q; rfl); exact z_bnd)
  | ((with_reducible apply MOp.appendK a2); exact z_ev; exact z_dv; exact z_ev; exact z_dv; rfl; rfl; rfl; rfl; (intro q; rfl); exact z_bnd)
  | ((with_reducible apply MOp.appendK a3); exact z_ev; exact z_dv; exact z_ev; exact z_dv; rfl; rfl; rfl; rfl; (intro q; rfl); exact z_bnd)) : p := h
theorem z_mop {p : Prop} (h : p := by
  first
  | ((with_reducible apply MOp.move); exact z_ev)
  | ((with_reducible apply MOp.assign); exact z_ev)
  | ((with_reducible apply MOp.load); exact z_ev; rfl; rfl; (first | rfl | assumption))
  | ((with_reducible apply MOp.loadAV); exact z_ev; rfl; rfl; rfl; exact z_nrm)
  | ((with_reducible apply MOp.loadAD); exact z_ev; rfl; rfl; rfl; exact z_nrm)
  | ((with_reducible apply MOp.loadRow); exact z_ev; rfl; rfl; rfl; (intro q; rfl); assumption)
  | ((with_reducible apply MOp.loadR); exact z_ev; rfl; rfl)
  | ((with_reducible apply MOp.loadD); exact z_ev; rfl)
  | ((with_reducible apply MOp.loadRV); exact z_ev; rfl; rfl)
  | ((with_reducible apply MOp.fieldAddr); rfl; exact inferInstance; exact z_ev; rfl)
  | ((with_reducible apply MOp.fieldAddrR); rfl; exact inferInstance; exact z_ev; rfl)
  | ((with_reducible apply MOp.nilCheckPtr); exact z_ev)
  | ((with_reducible apply MOp.nilCheckRef); exact z_ev)
  | ((with_reducible apply MOp.nilCheckFn); exact z_ev)
  | ((with_reducible apply MOp.nilCheckClo); exact z_ev)
  | ((with_reducible apply MOp.indexAddr); exact z_ev; exact z_ev; (intro q; rfl); rfl; exact z_elt)
  | ((with_reducible apply MOp.indexLit); exact z_ev; exact z_ev; rfl; exact z_bnd; (first | rfl | assumption))
  | ((with_reducible apply MOp.indexRow); exact z_ev; exact z_ev; exact z_bnd)
  | ((with_reducible apply MOp.indexArr); exact z_ev; exact z_ev; exact z_bnd)
  | ((with_reducible apply MOp.pickAnd); exact z_ev; exact z_ev)
  | ((with_reducible apply MOp.pickOr); exact z_ev; exact z_ev)
  | ((with_reducible apply MOp.pick); exact z_ev; exact z_ev; exact z_ev)
  | ((with_reducible apply MOp.not); exact z_ev)
  | exact z_bin
  | ((with_reducible apply MOp.neqA); exact z_ev; exact z_ev; rfl; rfl; kernel_rfl; kernel_rfl; kernel_rfl; rfl; rfl)
  | ((with_reducible apply MOp.eqlA); exact z_ev; exact z_ev; rfl; rfl; kernel_rfl; kernel_rfl; kernel_rfl; rfl; rfl)
  | ((with_reducible apply MOp.len); exact z_ev)
  | ((with_reducible apply MOp.lenRow); exact z_ev)
  | ((with_reducible apply MOp.lenLit); exact z_ev)
  | ((with_reducible apply MOp.minI); exact z_ev; exact z_ev)
  | ((with_reducible apply MOp.maxI); exact z_ev; exact z_ev)
  | ((with_reducible apply MOp.extractV); exact z_ev; rfl)
  | ((with_reducible apply MOp.extract); exact z_ev; rfl)
  | ((with_reducible apply MOp.convI); exact z_ev; exact z_om)
  | ((with_reducible apply MOp.convBytes); exact z_ev)
  | ((with_reducible apply MOp.conv); exact z_ev)
  | ((with_reducible apply MOp.buildV); rfl; exact z_pl; exact z_evp; exact z_fill; exact z_nrm)
  | ((with_reducible apply MOp.build); rfl; exact z_pl; exact z_evp; exact z_fill)
  | ((with_reducible apply MOp.buildArr); rfl; exact z_evp; exact z_fill)
  | ((with_reducible apply MOp.buildSlice); rfl; rfl; exact z_evp; exact z_fill; exact z_nrm; rfl)
  | ((with_reducible apply MOp.buildLit); rfl; rfl; exact z_evp; exact z_fill; rfl)
  | ((with_reducible apply MOp.fieldV); rfl; exact inferInstance; exact z_ev; rfl; rfl)
  | ((with_reducible apply MOp.fieldVA); rfl; exact inferInstance; exact z_ev; rfl)
  | ((with_reducible apply MOp.sliceH); exact z_ev; exact z_ev; (intro q; rfl); exact z_bnd)
  | ((with_reducible apply MOp.sliceRow); exact z_ev; exact z_ev; exact z_bnd)
  | ((with_reducible apply MOp.sliceL); exact z_ev; exact z_ev; (intro q; rfl); exact z_bnd)
  | ((with_reducible apply MOp.sliceLH); exact z_ev; exact z_ev; exact z_ev; (intro q; rfl); exact z_bnd)
  | exact z_callK
  | exact z_callR
  | exact z_appK
  | exact z_callV
  | ((with_reducible apply MOp.makeFunc); exact z_evd; exact z_evd)
  | (exact MOp.off rfl)) : p := h
theorem z_mta {p q : Prop} (k : q) (h : Kont q → p := by (intro kont; (repeat ((with_reducible apply MAll.step1); exact z_gd; exact z_mop; exact rfl)); exact kont.run)) : p := h ⟨k⟩
/-! ### what changes boxes -/
theorem z_wr {p : Prop} (h : p := by first | (intro _; rw [hc]; exact Nat.zero_le _) | (intro h; rw [hro] at h; contradiction) | (intro _; rw [hc]; decide) | (intro _; rw [hc]; simp; done)) : p := h
theorem z_wrB {p : Prop} (h : p := by first | (intro _ k _; rw [hc]; exact Nat.zero_le _) | (intro h; rw [hro] at h; contradiction) | (intro _; rw [hc]; decide)) : p := h
theorem z_dd {p : Prop} (h : p := by first | (intro h; rw [hc] at h; contradiction) | (intro h; rw [hc] at h; exact absurd h (by decide)) | (intro h; rw [hdead]; decide)) : p := h
theorem z_cln {p : Prop} (h : p := by first | (simp only [TM.cl, D.cl, Past.cl, TM.clean, TM.args, TM.argsD, Hp.clean, D.clean, D.cleanL, D.cleanL_p, D.avoidsL, D.avoids, Nat.reduceAdd, List.set_cons_zero, List.set_cons_succ, bne, beq_iff_eq, Nat.reduceBEq, Bool.not_true, Bool.not_false, Bool.and_true, Bool.true_and, cond_true, cond_false, List.map_cons, List.map_nil]; (first | done | exact rfl)) | exact rfl) : p := h
theorem z_one {p : Prop} (h : p := by (intro q v hv; simp [V.byte] at hv; first | (subst hv; rfl) | (rcases hv with rfl | rfl <;> rfl) | (rcases hv with rfl | rfl | rfl <;> rfl) | (rcases hv with rfl | rfl | rfl | rfl <;> rfl) | (rcases hv with rfl | rfl | rfl | rfl | rfl <;> rfl) | (rcases hv with rfl | rfl | rfl | rfl | rfl | rfl <;> rfl) | ((repeat' (first | (subst hv; rfl) | (rcases hv with hv | hv))); done))) : p := h
theorem z_len {p : Prop} (h : p := by first | omega | (simp <;> omega)) : p := h
section
variable {P : Program} {c : Ctx} {n : Nat} {ops : Array Oper} {Q : Exit → St → Prop} {rest : List Oper} {t0 : Tmp} {ty : TypeId} {pos : String} {af : Array Edge} {tm : List (Nat × Bool × D)} {H : List (Option Box)}
theorem SymL.appendK {α : Type} {enc : α → List V} {l m : List α} (_ : AppH enc l m) {gd : Option (Nat × Bool)} {t e : TypeId} {i j : TypeInfo} {u : TypeDesc} {z : Value} {x y : Operand} {k : Nat} {dy : D} {bz : Nat} [h : TyI P t i (.slice e)] [h' : TyI P e j u] (hg : GOk ops ⟨tm, H⟩ ⟨some t0, .call { callee := .builtin .append, args := #[x, y], argTypes := #[t, t] }, ty, pos, af, gd⟩ true) (hx : Ev ⟨tm, H⟩ true x (.row k l.length)) (hy : Ev ⟨tm, H⟩ true y dy) (hdv : DV dy (V.list enc m))
    (hb : H[k]? = some (some ⟨D.enc enc l, e, bz⟩)) (hbz : bz = j.size) (hz : j.zero = some z) (hzs : Nat.beq z.cells.size j.size = true) (hpos : Nat.blt 0 j.size = true) (hby : Nat.ble j.bytes 1000 = true) (hsz : ∀ q, (enc q).length = j.size) (hone : ∀ q, ∀ v ∈ enc q, v.one = true) (ht : Nat.blt t0 n = true) (hnm : l.length + m.length ≤ 1000000000) (hwr : c.ro = true → c.β0.length ≤ k) (hdead : k < c.β0.length → k ∈ c.dead)
    {H' : List (Option Box)} {tm' : List (Nat × Bool × D)} (hH' : (Hp.clean k H).set k (some ⟨D.enc enc (l ++ m), e, bz⟩) = H') (htm : TM.clean k tm = tm')
    (kk : SymL P c n ops Q rest ⟨(t0, true, .row k (l ++ m).length) :: tm', H'⟩) :
    SymL P c n ops Q (⟨some t0, .call { callee := .builtin .append, args := #[x, y], argTypes := #[t, t] }, ty, pos, af, gd⟩ :: rest) ⟨tm, H⟩ := SymL.appendG enc l m hg hx hy hdv hb hbz hz hzs hpos hby hsz hone ht hnm hwr hdead hH' htm kk
theorem SymL.buildRowK {t : Tmp} (_ : RowH t) {ty e ty1 : TypeId} {gd : Option (Nat × Bool)} {len m : Nat} {parts : Array (Nat × Operand)} {i j : TypeInfo} {u : TypeDesc} {z : Value} {ds : List (Nat × D)} {res : List D} [h : TyI P ty i (.slice e)] [h' : TyI P e j u] (hg : GOk ops ⟨tm, H⟩ ⟨some t, .buildSlice ty len parts, ty1, pos, af, gd⟩ true) (hz : j.zero = some z) (hlen : Nat.ble (len * j.size) 16777216 = true) (hp : EvP ⟨tm, H⟩ true parts.toList ds)
    (hf : fillD (fun i => some (i * j.size, j.size)) (zeroD z (len * j.size)) ds = some res) (hlm : Nat.ble len 1000000 = true) (hrl : Nat.beq res.length (len * j.size) = true) (hsz : Nat.blt 0 j.size = true) (ht : Nat.blt t n = true) {H' : List (Option Box)} (hm : H.length = m) (hH' : H ++ [some ⟨res, e, j.size⟩] = H')
    (kk : SymL P c n ops Q rest ⟨(t, true, .row m len) :: tm, H'⟩) : SymL P c n ops Q (⟨some t, .buildSlice ty len parts, ty1, pos, af, gd⟩ :: rest) ⟨tm, H⟩ := SymL.buildRow hg hz hlen hp hf hlm hrl hsz ht hm hH' kk
variable {ws : List Nat} {T : St → Prop} {k : Nat} {past : List Past} {t : Tmp}
theorem XTo.appendK {α : Type} {enc : α → List V} {l m : List α} (_ : AppH enc l m) {ty' e : TypeId} {i j : TypeInfo} {u : TypeDesc} {z : Value} {x y : Operand} {q : Nat} {dy : D} {bz : Nat} [h : TyI P ty' i (.slice e)] [h' : TyI P e j u] (hx : Ev ⟨tm, H⟩ true x (.row q l.length)) (hy : Ev ⟨tm, H⟩ true y dy) (hdv : DV dy (V.list enc m))
    (hb : H[q]? = some (some ⟨D.enc enc l, e, bz⟩)) (hbz : bz = j.size) (hz : j.zero = some z) (hzs : Nat.beq z.cells.size j.size = true) (hpos : Nat.blt 0 j.size = true) (hby : Nat.ble j.bytes 1000 = true) (hsz : ∀ q, (enc q).length = j.size) (hone : ∀ q, ∀ v ∈ enc q, v.one = true) (ht : Nat.blt t n = true) (hnm : l.length + m.length ≤ 1000000000) (hwr : c.ro = true → c.β0.length ≤ q) (hdead : q < c.β0.length → q ∈ c.dead)
    {H' : List (Option Box)} {tm' : List (Nat × Bool × D)} {past' : List Past} (hH' : (Hp.clean q H).set q (some ⟨D.enc enc (l ++ m), e, bz⟩) = H') (htm : TM.clean q tm = tm') (hpast : past.map (Past.cl (some q)) = past') (hw : ws.contains k = true) (hms : LateOk P n ops k (some q) H' past)
    (kk : XTo P c n ops ws T (k + 1) rest ⟨(t, true, .row q (l ++ m).length) :: tm', H'⟩ past') :
    XTo P c n ops ws T k (⟨some t, .call { callee := .builtin .append, args := #[x, y], argTypes := #[ty', ty'] }, ty, pos, af, none⟩ :: rest) ⟨tm, H⟩ past := XTo.append enc l m hx hy hdv hb hbz hz hzs hpos hby hsz hone ht hnm hwr hdead hH' htm hpast hw hms kk
end
theorem z_opB {p q : Prop} (k : q) (h : Kont q → p := by (intro kont; first
  | ((with_reducible apply SymL.appendK a1); exact z_gdT; exact z_ev; exact z_ev; exact z_dv; rfl; rfl; rfl; rfl; rfl; rfl; (intro q; rfl); exact z_one; rfl; exact z_len; exact z_wr; exact z_dd; exact z_cln; exact z_cln; exact kont.run)
  | ((with_reducible apply SymL.appendK a2); exact z_gdT; exact z_ev; exact z_ev; exact z_dv; rfl; rfl; rfl; rfl; rfl; rfl; (intro q; rfl); exact z_one; rfl; exact z_len; exact z_wr; exact z_dd; exact z_cln; exact z_cln; exact kont.run)
  | ((with_reducible apply SymL.appendK a3); exact z_gdT; exact z_ev; exact z_ev; exact z_dv; rfl; rfl; rfl; rfl; rfl; rfl; (intro q; rfl); exact z_one; rfl; exact z_len; exact z_wr; exact z_dd; exact z_cln; exact z_cln; exact kont.run)
  | ((with_reducible apply SymL.appendK a4); exact z_gdT; exact z_ev; exact z_ev; exact z_dv; rfl; rfl; rfl; rfl; rfl; rfl; (intro q; rfl); exact z_one; rfl; exact z_len; exact z_wr; exact z_dd; exact z_cln; exact z_cln; exact kont.run)
  | ((with_reducible apply SymL.appendK a5); exact z_gdT; exact z_ev; exact z_ev; exact z_dv; rfl; rfl; rfl; rfl; rfl; rfl; (intro q; rfl); exact z_one; rfl; exact z_len; exact z_wr; exact z_dd; exact z_cln; exact z_cln; exact kont.run)
  | ((with_reducible apply SymL.appendK a6); exact z_gdT; exact z_ev; exact z_ev; exact z_dv; rfl; rfl; rfl; rfl; rfl; rfl; (intro q; rfl); exact z_one; rfl; exact z_len; exact z_wr; exact z_dd; exact z_cln; exact z_cln; exact kont.run)
  | ((with_reducible apply SymL.callBK k1); exact z_ren; exact z_evf; exact z_given; decide; exact rfl; exact z_wrB; exact z_ren; exact z_ren; exact kont.run)
  | ((with_reducible apply SymL.callBK k2); exact z_ren; exact z_evf; exact z_given; decide; exact rfl; exact z_wrB; exact z_ren; exact z_ren; exact kont.run)
  | ((with_reducible apply SymL.callBK k3); exact z_ren; exact z_evf; exact z_given; decide; exact rfl; exact z_wrB; exact z_ren; exact z_ren; exact kont.run)
  | ((with_reducible apply SymL.callBK k4); exact z_ren; exact z_evf; exact z_given; decide; exact rfl; exact z_wrB; exact z_ren; exact z_ren; exact kont.run)
  | ((with_reducible apply SymL.callBK k5); exact z_ren; exact z_evf; exact z_given; decide; exact rfl; exact z_wrB; exact z_ren; exact z_ren; exact kont.run)
  | ((with_reducible apply SymL.callBK k6); exact z_ren; exact z_evf; exact z_given; decide; exact rfl; exact z_wrB; exact z_ren; exact z_ren; exact kont.run)
  | ((with_reducible apply SymL.callBK k7); exact z_ren; exact z_evf; exact z_given; decide; exact rfl; exact z_wrB; exact z_ren; exact z_ren; exact kont.run)
  | ((with_reducible apply SymL.callBK k8); exact z_ren; exact z_evf; exact z_given; decide; exact rfl; exact z_wrB; exact z_ren; exact z_ren; exact kont.run)
  | ((with_reducible apply SymL.callBK k9); exact z_ren; exact z_evf; exact z_given; decide; exact rfl; exact z_wrB; exact z_ren; exact z_ren; exact kont.run)
  | ((with_reducible apply SymL.callBK k10); exact z_ren; exact z_evf; exact z_given; decide; exact rfl; exact z_wrB; exact z_ren; exact z_ren; exact kont.run)
  | ((with_reducible apply SymL.callBK k11); exact z_ren; exact z_evf; exact z_given; decide; exact rfl; exact z_wrB; exact z_ren; exact z_ren; exact kont.run)
  | ((with_reducible apply SymL.callBK k12); exact z_ren; exact z_evf; exact z_given; decide; exact rfl; exact z_wrB; exact z_ren; exact z_ren; exact kont.run))) : p := h ⟨k⟩
theorem z_go {p q : Prop} (k : q) (h : Kont q → p := by
  intro kont
  repeat (first
  | ((with_reducible apply SymL.bytesConst); rfl; rfl; exact z_evp; exact z_fill; exact z_nrm; rfl; rfl; exact rfl; exact rfl)
  | ((with_reducible apply SymL.box'); exact z_ev; exact rfl; exact rfl; exact z_nrm; exact z_nrm)
  | ((with_reducible apply SymL.alloc'); exact rfl; exact rfl; exact z_nrm; exact z_nrm)
  | ((with_reducible apply SymL.store'); exact z_ev; exact z_ev; exact rfl; exact rfl; exact rfl; exact rfl; exact rfl; exact z_wr; exact z_nrm)
  | ((with_reducible apply SymL.buildRowK b1); exact z_gdT; rfl; rfl; exact z_evp; exact z_fill; rfl; rfl; rfl; rfl; exact z_nrm; exact z_nrm)
  | ((with_reducible apply SymL.buildRowK b2); exact z_gdT; rfl; rfl; exact z_evp; exact z_fill; rfl; rfl; rfl; rfl; exact z_nrm; exact z_nrm)
  | ((with_reducible apply SymL.buildRowK b3); exact z_gdT; rfl; rfl; exact z_evp; exact z_fill; rfl; rfl; rfl; rfl; exact z_nrm; exact z_nrm)
  | ((with_reducible apply SymL.buildRowK b4); exact z_gdT; rfl; rfl; exact z_evp; exact z_fill; rfl; rfl; rfl; rfl; exact z_nrm; exact z_nrm)
  | ((with_reducible apply SymL.opr); exact z_gd; exact z_mop; exact rfl)
  | refine z_opB ?_
  | with_reducible apply SymL.nil
  | with_reducible apply Sym.seq
  | with_reducible apply Sym.block
  | apply Sym.regionL
  | with_reducible apply Sym.skip
  | with_reducible apply Sym.exit
  | with_reducible apply Sym.ret
  | with_reducible apply thenS.nx
  | with_reducible apply thenS.rt
  | with_reducible apply thenS.ex
  | with_reducible apply blockS.nx
  | with_reducible apply blockS.rt
  | with_reducible apply blockS.ex
  | ((with_reducible apply blockS.ot); rfl)
  | (refine Sym.drawA (by kernel_rfl) (by kernel_rfl) ?_; refine z_mta ?_; (with_reducible apply MAll.nil)))
  exact kont.run) : p := h ⟨k⟩
/-- the same, but into no more code -/
theorem z_s1 {p q : Prop} (k : q) (h : Kont q → p := by
  intro kont
  repeat (first
  | ((with_reducible apply SymL.bytesConst); rfl; rfl; exact z_evp; exact z_fill; exact z_nrm; rfl; rfl; exact rfl; exact rfl)
  | ((with_reducible apply SymL.box'); exact z_ev; exact rfl; exact rfl; exact z_nrm; exact z_nrm)
  | ((with_reducible apply SymL.alloc'); exact rfl; exact rfl; exact z_nrm; exact z_nrm)
  | ((with_reducible apply SymL.store'); exact z_ev; exact z_ev; exact rfl; exact rfl; exact rfl; exact rfl; exact rfl; exact z_wr; exact z_nrm)
  | ((with_reducible apply SymL.buildRowK b1); exact z_gdT; rfl; rfl; exact z_evp; exact z_fill; rfl; rfl; rfl; rfl; exact z_nrm; exact z_nrm)
  | ((with_reducible apply SymL.buildRowK b2); exact z_gdT; rfl; rfl; exact z_evp; exact z_fill; rfl; rfl; rfl; rfl; exact z_nrm; exact z_nrm)
  | ((with_reducible apply SymL.buildRowK b3); exact z_gdT; rfl; rfl; exact z_evp; exact z_fill; rfl; rfl; rfl; rfl; exact z_nrm; exact z_nrm)
  | ((with_reducible apply SymL.buildRowK b4); exact z_gdT; rfl; rfl; exact z_evp; exact z_fill; rfl; rfl; rfl; rfl; exact z_nrm; exact z_nrm)
  | ((with_reducible apply SymL.opr); exact z_gd; exact z_mop; exact rfl)
  | refine z_opB ?_
  | with_reducible apply SymL.nil
  | with_reducible apply Sym.skip
  | with_reducible apply thenS.nx
  | with_reducible apply blockS.nx)
  exact kont.run) : p := h ⟨k⟩
/-! ### drawn regions -/
theorem z_clx {p : Prop} (h : p := by first | (simp only [TM.cl, D.cl, Past.cl, TM.clean, D.clean, D.cleanL, D.cleanL_p, D.avoidsL, D.avoids, bne, Nat.reduceBEq, Bool.not_true, Bool.not_false, Bool.and_true, Bool.true_and, cond_true, cond_false, List.map_cons, List.map_nil]; (first | done | exact rfl)) | exact rfl) : p := h
theorem z_lates {p : Prop} (h : p := by ((repeat (first | exact LateOk.nil | (apply LateOk.skip; (decide +kernel)) | ((with_reducible apply LateOk.take); exact z_clx; exact z_clx; exact z_gd; exact z_mop; exact rfl))); (first | done | fail))) : p := h
theorem z_xap {p q : Prop} (k : q) (h : Kont q → p := by (intro kont; first
  | ((with_reducible apply XTo.appendK a1); exact z_ev; exact z_ev; exact z_dv; rfl; rfl; rfl; rfl; rfl; rfl; (intro q; rfl); exact z_one; rfl; exact z_len; exact z_wr; exact z_dd; exact z_cln; exact z_clx; exact z_clx; rfl; exact z_lates; exact kont.run)
  | ((with_reducible apply XTo.appendK a2); exact z_ev; exact z_ev; exact z_dv; rfl; rfl; rfl; rfl; rfl; rfl; (intro q; rfl); exact z_one; rfl; exact z_len; exact z_wr; exact z_dd; exact z_cln; exact z_clx; exact z_clx; rfl; exact z_lates; exact kont.run)
  | ((with_reducible apply XTo.appendK a3); exact z_ev; exact z_ev; exact z_dv; rfl; rfl; rfl; rfl; rfl; rfl; (intro q; rfl); exact z_one; rfl; exact z_len; exact z_wr; exact z_dd; exact z_cln; exact z_clx; exact z_clx; rfl; exact z_lates; exact kont.run))) : p := h ⟨k⟩
theorem z_xgo {p q : Prop} (k : q) (h : Kont q → p := by
  intro kont
  repeat (first
  | ((with_reducible apply XTo.read1); rfl; exact z_gd; exact z_mop; exact rfl)
  | ((with_reducible apply XTo.store); exact z_ev; exact z_ev; exact rfl; exact rfl; exact rfl; exact rfl; exact rfl; exact z_wr; exact z_nrm; rfl; exact z_lates)
  | ((with_reducible apply XTo.alloc); exact rfl; exact rfl; exact z_nrm; exact z_nrm; rfl; exact z_lates)
  | ((with_reducible apply XTo.buildRow); rfl; rfl; exact z_evp; exact z_fill; rfl; rfl; rfl; rfl; exact z_nrm; exact z_nrm; rfl; exact z_lates)
  | refine z_xap ?_
  | with_reducible apply XTo.done)
  exact kont.run) : p := h ⟨k⟩
theorem z_perm {p : Prop} (h : p := by (simp only [permL, List.filterMap_cons, List.filterMap_nil, List.getElem?_cons_zero, List.getElem?_cons_succ, Option.map_some, Option.map_none, renOp, idxN, Nat.reduceBEq, cond_true, cond_false, Nat.reduceAdd, List.map_toArray, List.map_cons, List.map_nil]; exact rfl)) : p := h
theorem z_mt {p q : Prop} (k : q) (h : Kont q → p := by (intro kont; (repeat ((with_reducible apply MTo.step1); exact z_gd; exact z_mop; exact rfl)); apply MTo.done; (simp only [List.drop_succ_cons, List.drop_zero]); exact kont.run)) : p := h ⟨k⟩
/-! ### forgetting -/
theorem z_wkt {c : Ctx} {s s' : St} (h : Le c s s' := by exact Weak.le ⟨by (repeat' (first | exact trivial | rfl | constructor)), by (repeat' (first | exact trivial | exact Or.inr rfl | exact Or.inl rfl | constructor)), by rfl, by (first | rfl | simp [Hp.upTo, D.upToL, D.upTo, D.upToL_p])⟩ (by rw [hc]; first | exact Nat.zero_le _ | decide | simp)) : Le c s s' := h
theorem z_cells {p : Prop} (h : p := by ((repeat (first | exact DLeL.nil | (apply DLeL.cons; exact z_dle))); (first | done | fail))) : p := h
end Go.Sy
