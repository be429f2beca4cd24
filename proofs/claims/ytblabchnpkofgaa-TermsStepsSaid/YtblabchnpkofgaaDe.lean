/- Operations that only add memory: memory, aggregates, slices, calls. No program in sight. -/
import Derived.Test.YtblabchnpkofgaaDd
set_option linter.unusedSimpArgs false
set_option linter.unusedVariables false
namespace Go.Sy
open Go.RowKit

/-! ### a datum as another one: nil as an empty slice, and so on -/
mutual
inductive VLe : V → V → Prop
  | refl (v : V) : VLe v v
  | nil : VLe (.x (.slice none 0 0)) (.sl 0 [])
  | nilF : VLe (.x (.slice none 0 0)) (.fl 0 [])
  | fl {n : Nat} {a b : List V} : VLeL a b → VLe (.fl n a) (.sl n b)
  | xagg {arr : Array Value} {vs : List V} : VLeL (arr.toList.map V.x) vs → VLe (.x (.agg arr)) (.agg vs)
  | agg {a b : List V} : VLeL a b → VLe (.agg a) (.agg b)
  | tup {a b : List V} : VLeL a b → VLe (.tup a) (.tup b)
  | sl {n : Nat} {a b : List V} : VLeL a b → VLe (.sl n a) (.sl n b)
inductive VLeL : List V → List V → Prop
  | nil : VLeL [] []
  | cons {a b : V} {as bs : List V} : VLe a b → VLeL as bs → VLeL (a :: as) (b :: bs)
end
section
variable {S : Nat → Prop} {w : World}
mutual
theorem VLe.rep : ∀ {a b : V} {u : Value}, VLe a b → a.Rep S w u → b.Rep S w u
  | _, _, _, .refl _, h => h
  | _, _, _, .nil, h => h.nil_sl
  | _, _, _, .nilF, h => ⟨none, [], h, by simp [maxLen], rfl, Cells.nil⟩
  | _, _, _, .fl k, ⟨a, us, h1, h3, h4, h5⟩ => ⟨a, _, us, h1, Nat.le_refl _, h3, VLeL.rep k h4, h5⟩
  | _, _, _, .xagg (arr := arr) k, h => ⟨arr.toList, by rw [Array.toArray_toList]; exact h, VLeL.rep k V.RepL.x⟩
  | _, _, _, .agg k, ⟨us, h1, h2⟩ => ⟨us, h1, VLeL.rep k h2⟩
  | _, _, _, .tup k, ⟨us, h1, h2⟩ => ⟨us, h1, VLeL.rep k h2⟩
  | _, _, _, .sl k, ⟨a, c, us, h1, h2, h3, h4, h5⟩ => ⟨a, c, us, h1, h2, h3, VLeL.rep k h4, h5⟩
theorem VLeL.rep : ∀ {a b : List V} {us : List Value}, VLeL a b → V.RepL S w a us → V.RepL S w b us
  | _, _, _, .nil, h => h
  | _, _, _, .cons k1 k2, ⟨y, ys, h1, h2, h3⟩ => ⟨y, ys, h1, VLe.rep k1 h2, VLeL.rep k2 h3⟩
end
end
/-- a datum of the call's as one without addresses -/
structure DV (d : D) (v : V) : Prop where
  mk' ::
  ex : ∃ v', d.toV = some v' ∧ VLe v' v
theorem DV.of {d : D} {v : V} (h : d.toV = some v) : DV d v := ⟨v, h, .refl v⟩
theorem DV.mk {d : D} {v v' : V} (h : d.toV = some v') (hle : VLe v' v) : DV d v := ⟨v', h, hle⟩
theorem DV.rep {d : D} {v : V} {β : List Place} {S : Nat → Prop} {w : World} {u : Value} (h : DV d v) (k : d.Rep β S w u) : v.Rep S w u := by
  obtain ⟨v', h1, h2⟩ := h.ex
  exact h2.rep (k.toV h1)

/-! ### calls of functions that change nothing -/
/-- Called with these, the function comes back with r, and leaves what there was. -/
structure Fn1 (P : Program) (f : FuncId) (vs : List V) (r : V) : Prop where
  enter : ∀ args w, (callFunc f args).run P w = .ok (.enter f args) w
  calls : ∀ (S : Nat → Prop) w us, (∀ b, w.heap.size ≤ b → S b) → V.RepL S w vs us → Calls P f us.toArray w fun e w' => ∃ u, e = .returned u ∧ Ext w w' ∧ r.Rep S w' u
inductive EvL (s : St) (g : Bool) : List Operand → List V → Prop
  | nil : EvL s g [] []
  | cons {x : Operand} {xs : List Operand} {d : D} {v : V} {vs : List V} : Ev s g x d → DV d v → EvL s g xs vs → EvL s g (x :: xs) (v :: vs)
section
variable {P : Program} {s : St} {g : Bool} {dst : Option Tmp} {ty : TypeId} {pos : String} {af : Array Edge} {gd : Option (Nat × Bool)}
theorem EvL.rep {l : Array Operand} {β : List Place} {S : Nat → Prop} {a : Act} {w : World} (he : ∀ t, .tmp t ∈ l → EntAt s β S w a t) (hg : g = true) : ∀ {xs : List Operand} {vs : List V}, EvL s g xs vs → (∀ x ∈ xs, x ∈ l) → V.RepL S w vs (xs.map a.eval)
  | _, _, .nil, _ => rfl
  | _, _, .cons h1 h2 h3, hm => ⟨_, _, rfl, h2.rep (h1.rep (hm _ List.mem_cons_self) he hg), EvL.rep he hg h3 fun x hx => hm x (List.mem_cons_of_mem _ hx)⟩
theorem MOp.call {f : Operand} {k : FuncId} {as : Array Operand} {ts : Array TypeId} {vs : List V} {r : V} (hf : Ev s g f (.p (.x (.func (.func k) #[] #[])))) (ha : EvL s g as.toList vs) (hc : g = true → Fn1 P k vs r) :
    MOp P s ⟨dst, .call { callee := .value f, args := as, argTypes := ts }, ty, pos, af, gd⟩ g (.p r) := by
  refine ⟨fun β S a w ho he hg K Q hK => ?_⟩
  have hm : ∀ x ∈ as.toList, x ∈ (Op.call { callee := .value f, args := as, argTypes := ts }).operands := fun x hx => by
    simp only [Op.operands, Call.operands, Array.mem_append]
    exact .inr (by simpa using hx)
  have h1 : a.eval f = .func (.func k) #[] #[] := hf.rep (l := (Op.call { callee := .value f, args := as, argTypes := ts }).operands) (by simp [Op.operands, Call.operands]) he hg
  have h2 := ha.rep he hg hm
  have h3 := (hc hg).calls S w _ ho.up h2
  unfold Oper.wp
  have hrun : (execOp a.eval ⟨dst, .call { callee := .value f, args := as, argTypes := ts }, ty, pos, af, gd⟩).run P w = .ok (.enter k (as.map a.eval)) w := by
    simp [execOp, resolve, h1, Deferred.ofValue, invoke, (hc hg).enter]
  rw [hrun]
  show Calls P k (as.map a.eval) w _
  have e : as.map a.eval = (as.toList.map a.eval).toArray := by apply Array.ext'; simp
  rw [e]
  refine h3.mono ?_
  rintro e w' ⟨u, rfl, hx, hr⟩
  exact hK u w' hx hr

/-! ### aggregates -/
theorem MOp.extract {x : Operand} {k : Nat} {ds : List D} {d : D} (hx : Ev s g x (.tup ds)) (hk : ds[k]? = some d) : MOp P s ⟨dst, .extract x k, ty, pos, af, gd⟩ g d :=
  MOp.of1 hx (by simp [Op.operands]) fun β S w ρ _ h => by
    obtain ⟨us, h1, h2⟩ := h
    obtain ⟨u, h3, h4⟩ := h2.get hk
    exact ⟨u, by simp [execOp, h1, Instr.extract, h3], h4⟩
theorem MOp.extractV {x : Operand} {k : Nat} {ds : List V} {d : V} (hx : Ev s g x (.p (.tup ds))) (hk : ds[k]? = some d) : MOp P s ⟨dst, .extract x k, ty, pos, af, gd⟩ g (.p d) :=
  MOp.of1 hx (by simp [Op.operands]) fun β S w ρ _ h => by
    obtain ⟨us, h1, h2⟩ := h
    obtain ⟨u, h3, h4⟩ := h2.get hk
    exact ⟨u, by simp [execOp, h1, Instr.extract, h3], h4⟩
theorem run_part' {t : TypeId} {i : TypeInfo} {u : TypeDesc} [h : TyI P t i u] (us : List Value) (off : Nat) (w : World) :
    (part t us.toArray off).run P w = if TypeDesc.isAgg u then .ok (.agg ((us.drop off).take i.size).toArray) w else match us[off]? with | some v => .ok v w | none => (stuck "part: no such cell" : Sem Value).run P w := by
  unfold part
  rw [Sem.run_bind, run_isAgg' h.ut]
  simp only [Result.andThen_ok]
  split
  · rw [Sem.run_bind, run_sizeOf' h.ti]
    simp only [Result.andThen_ok, Sem.run_pure]
    congr 2
    apply Array.ext'
    simp
  · simp only [List.getElem?_toArray]
    cases us[off]? <;> rfl
theorem MOp.fieldV {x : Operand} {t : TypeId} {k : Nat} {i j : TypeInfo} {fs : Array Field} {nm tg pk : String} {em : Bool} {ft : TypeId} {off bo : Nat} {u : TypeDesc} {vs : List V} {v : V} [h : TyI P t i (.struct fs)] (hf : fs.toList[k]? = some ⟨nm, ft, off, em, tg, pk, bo⟩) (h' : TyI P ft j u) (hx : Ev s g x (.p (.agg vs)))
    (hu : TypeDesc.isAgg u = false) (hv : vs[off]? = some v) : MOp P s ⟨dst, .field t x k, ty, pos, af, gd⟩ g (.p v) :=
  MOp.of1 hx (by simp [Op.operands]) fun β S w ρ _ hr => by
    obtain ⟨us, h1, h2⟩ := hr
    obtain ⟨y, h3, h4⟩ := h2.get hv
    refine ⟨y, ?_, h4⟩
    simp [execOp, h1, Instr.field, run_underlying h.ut, (Array.getElem?_toList ▸ hf : fs[k]? = _), asAgg, run_part', hu, h3]
theorem MOp.fieldVA {x : Operand} {t : TypeId} {k : Nat} {i j : TypeInfo} {fs : Array Field} {nm tg pk : String} {em : Bool} {ft : TypeId} {off bo : Nat} {u : TypeDesc} {vs : List V} [h : TyI P t i (.struct fs)] (hf : fs.toList[k]? = some ⟨nm, ft, off, em, tg, pk, bo⟩) (h' : TyI P ft j u) (hx : Ev s g x (.p (.agg vs)))
    (hu : TypeDesc.isAgg u = true) : MOp P s ⟨dst, .field t x k, ty, pos, af, gd⟩ g (.p (.agg ((vs.drop off).take j.size))) :=
  MOp.of1 hx (by simp [Op.operands]) fun β S w ρ _ hr => by
    obtain ⟨us, h1, h2⟩ := hr
    refine ⟨.agg ((us.drop off).take j.size).toArray, ?_, ⟨_, rfl, (h2.drop _).take _⟩⟩
    simp [execOp, h1, Instr.field, run_underlying h.ut, (Array.getElem?_toList ▸ hf : fs[k]? = _), asAgg, run_part', hu]
theorem MOp.fieldD {x : Operand} {t : TypeId} {k : Nat} {i j : TypeInfo} {fs : Array Field} {nm tg pk : String} {em : Bool} {ft : TypeId} {off bo : Nat} {u : TypeDesc} {vs : List D} {v : D} [h : TyI P t i (.struct fs)] (hf : fs.toList[k]? = some ⟨nm, ft, off, em, tg, pk, bo⟩) (h' : TyI P ft j u) (hx : Ev s g x (.agg vs))
    (hu : TypeDesc.isAgg u = false) (hv : vs[off]? = some v) : MOp P s ⟨dst, .field t x k, ty, pos, af, gd⟩ g v :=
  MOp.of1 hx (by simp [Op.operands]) fun β S w ρ _ hr => by
    obtain ⟨us, h1, h2⟩ := hr
    obtain ⟨y, h3, h4⟩ := h2.get hv
    refine ⟨y, ?_, h4⟩
    simp [execOp, h1, Instr.field, run_underlying h.ut, (Array.getElem?_toList ▸ hf : fs[k]? = _), asAgg, run_part', hu, h3]
inductive EvD (s : St) (g : Bool) : List Operand → List D → Prop
  | nil : EvD s g [] []
  | cons {x : Operand} {xs : List Operand} {d : D} {ds : List D} : Ev s g x d → EvD s g xs ds → EvD s g (x :: xs) (d :: ds)
theorem EvD.rep {l : Array Operand} {β : List Place} {S : Nat → Prop} {a : Act} {w : World} (he : ∀ t, .tmp t ∈ l → EntAt s β S w a t) (hg : g = true) : ∀ {xs : List Operand} {ds : List D}, EvD s g xs ds → (∀ x ∈ xs, x ∈ l) → D.RepL β S w ds (xs.map a.eval)
  | _, _, .nil, _ => rfl
  | _, _, .cons h1 h3, hm => ⟨_, _, rfl, h1.rep (hm _ List.mem_cons_self) he hg, EvD.rep he hg h3 fun x hx => hm x (List.mem_cons_of_mem _ hx)⟩
theorem MOp.makeFunc {f : Fn} {fs cs : Array Operand} {ds es : List D} (h1 : EvD s g fs.toList ds) (h2 : EvD s g cs.toList es) : MOp P s ⟨dst, .makeFunc f fs cs, ty, pos, af, gd⟩ g (.clo f ds es) := by
  refine ⟨fun β S a w ho he hg K Q hK => ?_⟩
  have r1 := h1.rep (l := (Op.makeFunc f fs cs).operands) he hg (by simp [Op.operands]; exact fun x hx => .inl hx)
  have r2 := h2.rep (l := (Op.makeFunc f fs cs).operands) he hg (by simp [Op.operands]; exact fun x hx => .inr hx)
  refine wp_value (v := .func f (fs.map a.eval) (cs.map a.eval)) (by simp [execOp, Instr.makeFunc]) (hK _ w (Ext.refl w) ⟨_, _, ?_, r1, r2⟩)
  congr 1 <;> (apply Array.ext'; simp)
theorem MOp.makeIface {x : Operand} {t : TypeId} {i : TypeInfo} {u : TypeDesc} {v : V} [h : TyI P t i u] (hu : (match u with | .interface _ => false | _ => true) = true) (hx : Ev s g x (.p v)) : MOp P s ⟨dst, .makeInterface t x, ty, pos, af, gd⟩ g (.p (.ifc t v)) :=
  MOp.of1 hx (by simp [Op.operands]) fun β S w ρ _ hr => by
    refine ⟨.iface t (ρ x), ?_, ⟨_, rfl, hr⟩⟩
    simp only [execOp, Instr.makeInterface, Sem.run_bind, run_underlying h.ut, Result.andThen_ok]
    cases u <;> simp_all
theorem MOp.nilCheck {x : Operand} {d : D} (hx : Ev s g x d) (hd : (match d with | .ptr .. | .p (.ref _) => true | .p (.x (.func (.func _) _ _)) => true | .clo (.func _) _ _ => true | _ => false) = true) : MOp P s ⟨dst, .nilCheck x, ty, pos, af, gd⟩ g d :=
  MOp.of1 hx (by simp [Op.operands]) fun β S w ρ _ hr => by
    cases d with
    | ptr i off =>
      obtain ⟨b, c, h1, h2⟩ := hr
      exact ⟨_, by simp [execOp, h2], ⟨b, c, h1, rfl⟩⟩
    | clo f fs cs =>
      cases f with
      | func f =>
        obtain ⟨us, vs, h1, h2⟩ := hr
        exact ⟨_, by simp [execOp, h1], ⟨us, vs, rfl, h2⟩⟩
      | _ => cases hd
    | p v =>
      cases v with
      | ref cs =>
        obtain ⟨a, us, h1, h2⟩ := hr
        exact ⟨_, by simp [execOp, h1], ⟨a, us, rfl, h2⟩⟩
      | x u =>
        cases u with
        | func f _ _ =>
          cases f with
          | func f =>
            have hr : ρ x = _ := hr
            exact ⟨_, by simp [execOp, hr], rfl⟩
          | _ => cases hd
        | _ => cases hd
      | _ => cases hd
    | _ => cases hd

/-! ### memory -/
theorem Cells.at0 {S : Nat → Prop} {w : World} {a : Option Addr} {us : List Value} {j : Nat} {u : Value} (h : Cells S w a us) (hj : us[j]? = some u) : ∃ b o, a = some ⟨b, o, none⟩ ∧ w.cell? ⟨b, o + j, none⟩ = some u := by
  obtain ⟨b, o, h1, h2, _⟩ := h j u hj
  exact ⟨b, o, h1, h2⟩
theorem run_loadAt' {t : TypeId} {i : TypeInfo} {u : TypeDesc} [h : TyI P t i u] (a : Addr) (w : World) : (Instr.loadAt t (.pointer (some a))).run P w =
    if TypeDesc.isAgg u then ((loadCells a i.size).run P w).andThen fun c w => .ok (.agg c) w else (load a).run P w := by
  unfold Instr.loadAt loadVar
  simp only [Instr.sureAddr, Sem.run_bind, Sem.run_pure, Result.andThen_ok, run_isAgg' h.ut]
  split
  · simp only [Sem.run_bind, run_sizeOf' h.ti, Result.andThen_ok]
    cases (loadCells a i.size).run P w <;> rfl
  · rfl
/-- a cell of what an unchanging pointer leads to -/
theorem MOp.loadR {x : Operand} {t : TypeId} {i : TypeInfo} {u : TypeDesc} {cs : List V} {v : V} [h : TyI P t i u] (hx : Ev s g x (.p (.ref cs))) (hu : TypeDesc.isAgg u = false) (hv : cs[0]? = some v) : MOp P s ⟨dst, .load t x, ty, pos, af, gd⟩ g (.p v) :=
  MOp.of1 hx (by simp [Op.operands]) fun β S w ρ _ hr => by
    obtain ⟨a, us, h1, h2, h3⟩ := hr
    obtain ⟨y, h4, h5⟩ := h2.get hv
    obtain ⟨b, o, h6, h7⟩ := h3.at0 h4
    injection h6 with h6
    subst h6
    refine ⟨y, ?_, h5⟩
    simp only [execOp, h1, Sem.run_bind, run_loadAt', hu]
    simp only [Nat.add_zero] at h7
    simp [run_load, h7]
theorem MOp.loadRA {x : Operand} {t : TypeId} {i : TypeInfo} {u : TypeDesc} {cs : List V} [h : TyI P t i u] (hx : Ev s g x (.p (.ref cs))) (hu : TypeDesc.isAgg u = true) (hn : i.size ≤ cs.length) : MOp P s ⟨dst, .load t x, ty, pos, af, gd⟩ g (.p (.agg (cs.take i.size))) :=
  MOp.of1 hx (by simp [Op.operands]) fun β S w ρ _ hr => by
    obtain ⟨a, us, h1, h2, h3⟩ := hr
    have hl := h2.len
    have := run_loadCells_list (P := P) w a (us.take i.size) (fun j v hj => by
      obtain ⟨b, o, h6, h7⟩ := (h3.take i.size).at0 hj
      injection h6 with h6
      subst h6
      rw [add_lit]
      exact h7)
    rw [List.length_take, Nat.min_eq_left (by omega)] at this
    refine ⟨.agg (us.take i.size).toArray, ?_, ⟨_, rfl, h2.take _⟩⟩
    simp [execOp, h1, run_loadAt', hu, this]
/-- a cell of a box -/
theorem MOp.load {x : Operand} {t : TypeId} {i : TypeInfo} {u : TypeDesc} {k off : Nat} {bcs : List D} {be : TypeId} {bz : Nat} {d : D} [h : TyI P t i u] (hx : Ev s g x (.ptr k off)) (hb : s.H[k]? = some (some ⟨bcs, be, bz⟩)) (hu : TypeDesc.isAgg u = false) (hd : bcs[off]? = some d) :
    MOp P s ⟨dst, .load t x, ty, pos, af, gd⟩ g d :=
  MOp.of1 hx (by simp [Op.operands]) fun β S w ρ ho hr => by
    obtain ⟨b, c, h1, h2⟩ := hr
    rcases ho.box k _ hb with ⟨h3, _⟩ | ⟨b', c', cur, us, h3, _, h4, h5, h6, _⟩
    · rw [h1] at h3; cases h3
    · rw [h1] at h3
      simp only [Option.some.injEq, Prod.mk.injEq] at h3
      obtain ⟨rfl, rfl⟩ := h3
      obtain ⟨y, h7, h8⟩ := h5.get hd
      obtain ⟨tl, htl⟩ := h6
      have h9 : cur[off]? = some y := by
        have := congrArg (fun l => l[off]?) htl
        simp only [List.getElem?_append, (List.getElem?_eq_some_iff.1 h7).1, if_true, h7] at this
        simpa using this.symm
      refine ⟨y, ?_, h8⟩
      simp only [execOp, h2, Sem.run_bind, run_loadAt', hu]
      simp [run_load, World.cell?, h4, h9]
theorem MOp.loadA {x : Operand} {t : TypeId} {i : TypeInfo} {u : TypeDesc} {k off : Nat} {bcs : List D} {be : TypeId} {bz : Nat} [h : TyI P t i u] (hx : Ev s g x (.ptr k off)) (hb : s.H[k]? = some (some ⟨bcs, be, bz⟩)) (hu : TypeDesc.isAgg u = true) (hn : off + i.size ≤ bcs.length) :
    MOp P s ⟨dst, .load t x, ty, pos, af, gd⟩ g (.agg ((bcs.drop off).take i.size)) :=
  MOp.of1 hx (by simp [Op.operands]) fun β S w ρ ho hr => by
    obtain ⟨b, c, h1, h2⟩ := hr
    rcases ho.box k _ hb with ⟨h3, _⟩ | ⟨b', c', cur, us, h3, _, h4, h5, h6, _⟩
    · rw [h1] at h3; cases h3
    · rw [h1] at h3
      simp only [Option.some.injEq, Prod.mk.injEq] at h3
      obtain ⟨rfl, rfl⟩ := h3
      have hl : us.length = bcs.length := h5.len
      obtain ⟨tl, htl⟩ := h6
      have := run_loadCells_list (P := P) w ⟨b, off, none⟩ ((us.drop off).take i.size) (fun j v hj => by
        have hj' := hj
        rw [List.getElem?_take] at hj
        split at hj
        · rw [List.getElem?_drop] at hj
          have h9 : cur[off + j]? = some v := by
            have := congrArg (fun l => l[off + j]?) htl
            simp only [List.getElem?_append, (List.getElem?_eq_some_iff.1 hj).1, if_true, hj] at this
            simpa using this.symm
          rw [add_lit]
          simp [World.cell?, h4, h9]
        · cases hj)
      rw [List.length_take, List.length_drop, Nat.min_eq_left (by omega)] at this
      refine ⟨.agg ((us.drop off).take i.size).toArray, ?_, ⟨_, rfl, (h5.drop _).take _⟩⟩
      simp [execOp, h2, run_loadAt', hu, this]
theorem MOp.loadAV {x : Operand} {t : TypeId} {i : TypeInfo} {u : TypeDesc} {k off : Nat} {bcs : List D} {be : TypeId} {bz : Nat} {vs : List V} [h : TyI P t i u] (hx : Ev s g x (.ptr k off)) (hb : s.H[k]? = some (some ⟨bcs, be, bz⟩)) (hu : TypeDesc.isAgg u = true) (hn : Nat.ble (off + i.size) bcs.length = true) (hv : D.toVL ((bcs.drop off).take i.size) = some vs) :
    MOp P s ⟨dst, .load t x, ty, pos, af, gd⟩ g (.p (.agg vs)) := by
  refine ⟨fun β S a w ho he hg K Q hK => ?_⟩
  refine (MOp.loadA (P := P) (dst := dst) (ty := ty) (pos := pos) (af := af) (gd := gd) hx hb hu (by simpa using hn)).run β S a w ho he hg K Q fun u w' h1 h2 => hK u w' h1 ?_
  obtain ⟨us, h3, h4⟩ := h2
  exact ⟨us, h3, D.RepL.toV hv h4⟩
theorem run_fieldAt' {t : TypeId} {k : Nat} {i j : TypeInfo} {fs : Array Field} {f : Field} {u : TypeDesc} [h : TyI P t i (.struct fs)] (hf : fs[k]? = some f) (h' : TyI P f.type j u) (hz : (j.size == 0) = false) (a : Addr) (w : World) :
    (Instr.fieldAt t (.pointer (some a)) k).run P w = .ok (.pointer (some (a.add f.offset))) w := by
  have hz : ¬ j.size = 0 := by simpa using hz
  simp [Instr.fieldAt, run_underlying h.ut, hf, Instr.sureAddr, fieldPlace, run_sizeOf' h'.ti, hz]
theorem MOp.fieldAddr {x : Operand} {t : TypeId} {k : Nat} {i j : TypeInfo} {fs : Array Field} {nm tg pk : String} {em : Bool} {ft : TypeId} {fo bo : Nat} {u : TypeDesc} {m off : Nat} [h : TyI P t i (.struct fs)] (hf : fs.toList[k]? = some ⟨nm, ft, fo, em, tg, pk, bo⟩) (h' : TyI P ft j u) (hx : Ev s g x (.ptr m off)) (hz : (j.size == 0) = false) :
    MOp P s ⟨dst, .fieldAddr t x k, ty, pos, af, gd⟩ g (.ptr m (off + fo)) :=
  MOp.of1 hx (by simp [Op.operands]) fun β S w ρ _ hr => by
    obtain ⟨b, c, h1, h2⟩ := hr
    exact ⟨_, by simp only [execOp, h2, Sem.run_bind]; rw [run_fieldAt' (f := ⟨nm, ft, fo, em, tg, pk, bo⟩) (Array.getElem?_toList ▸ hf : fs[k]? = _) h' hz]; rfl, ⟨b, c, h1, by rw [add_lit]⟩⟩
theorem MOp.fieldAddrR {x : Operand} {t : TypeId} {k : Nat} {i j : TypeInfo} {fs : Array Field} {nm tg pk : String} {em : Bool} {ft : TypeId} {fo bo : Nat} {u : TypeDesc} {cs : List V} [h : TyI P t i (.struct fs)] (hf : fs.toList[k]? = some ⟨nm, ft, fo, em, tg, pk, bo⟩) (h' : TyI P ft j u) (hx : Ev s g x (.p (.ref cs))) (hz : (j.size == 0) = false) :
    MOp P s ⟨dst, .fieldAddr t x k, ty, pos, af, gd⟩ g (.p (.ref (cs.drop fo))) :=
  MOp.of1 hx (by simp [Op.operands]) fun β S w ρ _ hr => by
    obtain ⟨a, us, h1, h2, h3⟩ := hr
    refine ⟨.pointer (some (a.add fo)), by simp only [execOp, h1, Sem.run_bind]; rw [run_fieldAt' (f := ⟨nm, ft, fo, em, tg, pk, bo⟩) (Array.getElem?_toList ▸ hf : fs[k]? = _) h' hz]; rfl, ⟨_, us.drop fo, rfl, h2.drop _, ?_⟩⟩
    intro q y hq
    have hq' := hq
    rw [List.getElem?_drop] at hq
    obtain ⟨b, o, h6, h7, h8⟩ := h3 _ _ hq
    injection h6 with h6
    subst h6
    exact ⟨b, o + fo, by rw [add_lit], by rw [Nat.add_assoc]; exact h7, h8⟩
/-- &l[i] of a slice that does not change -/
theorem MOp.indexAddr {α : Type} {enc : α → List V} {l : List α} {x y : Operand} {t e : TypeId} {k : IntKind} {n : Int} {i j : TypeInfo} {u : TypeDesc} {el : α} [h : TyI P t i (.slice e)] [h' : TyI P e j u] (hx : Ev s g x (.p (V.list enc l))) (hy : Ev s g y (.p (.x (.int k n))))
    (hsz : ∀ q, (enc q).length = j.size) (hz : (j.size == 0) = false) (hel : g = true → 0 ≤ n ∧ l[n.toNat]? = some el) : MOp P s ⟨dst, .indexAddr t x y, ty, pos, af, gd⟩ g (.p (.ref (enc el))) := by
  refine ⟨fun β S a w ho he hg K Q hK => ?_⟩
  have hz : ¬ j.size = 0 := by simpa using hz
  obtain ⟨h0, hel⟩ := hel hg
  have r1 := hx.rep (l := (Op.indexAddr t x y).operands) (by simp [Op.operands]) he hg
  have r2 : a.eval y = .int k n := hy.rep (l := (Op.indexAddr t x y).operands) (by simp [Op.operands]) he hg
  obtain ⟨ad, c, us, h1, h2, h3, h4, h5⟩ := r1
  have hlt := (List.getElem?_eq_some_iff.1 hel).1
  have key : ∀ (l : List α) (q : Nat), l[q]? = some el → ((l.flatMap enc).drop (q * j.size)).take j.size = enc el := by
    intro l
    induction l with
    | nil => intro q h; simp at h
    | cons z zs ih =>
      intro q h
      cases q with
      | zero =>
        simp at h
        subst h
        rw [List.flatMap_cons, Nat.zero_mul, List.drop_zero, ← hsz z, List.take_left]
      | succ q =>
        rw [List.flatMap_cons, Nat.add_mul, Nat.one_mul, show q * j.size + j.size = (enc z).length + q * j.size by rw [hsz]; omega, List.drop_append, List.drop_of_length_le (by omega)]
        simpa using ih q (by simpa using h)
  have hk := key l _ hel
  have hr := (h4.drop (n.toNat * j.size)).take j.size
  rw [hk] at hr
  have hlen := hr.len
  rw [hsz el] at hlen
  have hne : ∃ y0, ((us.drop (n.toNat * j.size)).take j.size)[0]? = some y0 := ⟨_, List.getElem?_eq_getElem (by omega)⟩
  obtain ⟨y0, hy0⟩ := hne
  have hy1 : us[n.toNat * j.size]? = some y0 := by
    rw [List.getElem?_take] at hy0
    split at hy0
    · simpa using hy0
    · cases hy0
  obtain ⟨b, o, h6, h7, h8⟩ := h5 _ _ hy1
  subst h6
  refine wp_value (v := .pointer (some ⟨b, o + n.toNat * j.size, none⟩)) (w' := w) ?_ (hK _ w (Ext.refl w) ⟨_, _, rfl, hr, (h5.drop _).take _⟩)
  have hn : n < (l.length : Int) := by omega
  simp [execOp, h1, r2, Instr.indexAt, asIntOf, run_underlying h.ut, h0, hn, run_sizeOf' h'.ti, add_lit]
theorem MOp.len {α : Type} {enc : α → List V} {l : List α} {x : Operand} {t : TypeId} {e : TypeId} {i : TypeInfo} [h : TyI P t i (.slice e)] (hx : Ev s g x (.p (V.list enc l))) :
    MOp P s ⟨dst, .call { callee := .builtin .len, args := #[x], argTypes := #[t] }, ty, pos, af, gd⟩ g (.p (.i l.length)) :=
  MOp.of1 hx (by simp [Op.operands, Call.operands]) fun β S w ρ _ hr => by
    obtain ⟨a, c, us, h1, h2⟩ := hr
    refine ⟨.int .i64 l.length, ?_, rfl⟩
    simp [execOp, resolve, invoke, builtin, h1, Builtin.len_, run_underlying h.ut, goInt]
end
end Go.Sy
