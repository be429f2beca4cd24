/- Where a function begins and ends. No program in sight. -/
import Derived.Test.YtblabchnpkofgaaDf
set_option linter.unusedSimpArgs false
set_option linter.unusedVariables false
namespace Go.Sy
open Go.RowKit

mutual
/-- a datum of the call's as one without addresses, when the call is over -/
inductive DVr (m : Nat) (H : List (Option Box)) : D → V → Prop
  | of {d : D} {v : V} : DV d v → DVr m H d v
  | row {i n : Nat} {x : Box} {vs vs' : List V} : H[i]? = some (some x) → D.toVL x.cs = some vs → x.sz ≠ 0 → x.cs.length = n * x.sz → Nat.ble m i = true → VLeL vs vs' → DVr m H (.row i n) (.sl n vs')
  | agg {ds : List D} {vs : List V} : DVrL m H ds vs → DVr m H (.agg ds) (.agg vs)
  | tup {ds : List D} {vs : List V} : DVrL m H ds vs → DVr m H (.tup ds) (.tup vs)
inductive DVrL (m : Nat) (H : List (Option Box)) : List D → List V → Prop
  | nil : DVrL m H [] []
  | cons {d : D} {v : V} {ds : List D} {vs : List V} : DVr m H d v → DVrL m H ds vs → DVrL m H (d :: ds) (v :: vs)
end
section
variable {c : Ctx} {m : Nat} {H : List (Option Box)} {β : List Place} {S S' : Nat → Prop} {w : World}
mutual
theorem DVr.rep (hH : HSt c H β S w) (hS : ∀ b, S b → S' b) (ho : ∀ (i : Nat) b q, m ≤ i → β[i]? = some (some (b, q)) → S' b) : ∀ {d : D} {v : V} {u : Value}, DVr m H d v → d.Rep β S w u → v.Rep S' w u
  | _, _, _, .of k, h => (k.rep h).mono (fun _ _ _ => rfl) fun b hb _ => hS b hb
  | _, _, u, .row (i := i) (n := n) (x := x) (vs := vs) hx hv hz hl hmi hle, h => by
    rcases h with ⟨h1, rfl, a, rfl⟩ | ⟨b, q, h1, hnq0, rfl⟩
    · rcases hH.box i x hx with ⟨_, _, h2⟩ | ⟨b', c', _, _, h2, _⟩
      · rw [h2] at hv
        simp only [D.toVL, Option.some.injEq] at hv
        subst hv
        cases hle
        exact ⟨a, 0, [], rfl, Nat.le_refl _, by simp [maxLen], rfl, Cells.nil⟩
      · rw [h1] at h2; cases h2
    · rcases hH.box i x hx with ⟨h2, _⟩ | ⟨b', c', cur, us, k1, k2, k3, k4, k5, k6, k7⟩
      · rw [h1] at h2; cases h2
      · rw [h1] at k1
        simp only [Option.some.injEq, Prod.mk.injEq] at k1
        obtain ⟨rfl, rfl⟩ := k1
        obtain ⟨k8, k9⟩ := k7 hz
        have hul := k4.len
        have hle' := k5.length_le
        simp at hle'
        have hnq : n ≤ q := by
          rw [hul, hl, k8] at hle'
          exact Nat.le_of_mul_le_mul_right hle' (Nat.pos_of_ne_zero hz)
        have hr : V.RepL S' w _ us := VLeL.rep hle ((D.RepL.toV hv k4).mono (fun _ _ _ => rfl) fun b hb _ => hS b hb)
        refine ⟨_, q, us, rfl, hnq, k9, hr, fun j y hj => ⟨b, 0, rfl, ?_, ho i b q (by simpa using hmi) h1⟩⟩
        obtain ⟨tl, htl⟩ := k5
        have h9 : cur[j]? = some y := by
          have := congrArg (fun l => l[j]?) htl
          simp only [List.getElem?_append, (List.getElem?_eq_some_iff.1 hj).1, if_true, hj] at this
          simpa using this.symm
        simp [World.cell?, k3, h9]
  | _, _, _, .agg k, ⟨us, h1, h2⟩ => ⟨us, h1, DVrL.rep hH hS ho k h2⟩
  | _, _, _, .tup k, ⟨us, h1, h2⟩ => ⟨us, h1, DVrL.rep hH hS ho k h2⟩
theorem DVrL.rep (hH : HSt c H β S w) (hS : ∀ b, S b → S' b) (ho : ∀ (i : Nat) b q, m ≤ i → β[i]? = some (some (b, q)) → S' b) : ∀ {ds : List D} {vs : List V} {us : List Value}, DVrL m H ds vs → D.RepL β S w ds us → V.RepL S' w vs us
  | _, _, _, .nil, h => h
  | _, _, _, .cons k1 k2, ⟨y, ys, h1, h2, h3⟩ => ⟨y, ys, h1, DVr.rep hH hS ho k1 h2, DVrL.rep hH hS ho k2 h3⟩
end
end
/-- what a result variable holds -/
inductive ResV (P : Program) (m : Nat) (s : St) : ResultVar → V → Prop
  | tmp {t : Tmp} {d : D} {v : V} : TM.get s.tm t = some (true, d) → DVr m s.H d v → ResV P m s (.tmp t) v
  | cell {t : Tmp} {ty : TypeId} {i : TypeInfo} {u : TypeDesc} {k off : Nat} {x : Box} {d : D} {v : V} : TyI P ty i u → TM.get s.tm t = some (true, .ptr k off) → s.H[k]? = some (some x) → TypeDesc.isAgg u = false → x.cs[off]? = some d → DVr m s.H d v → ResV P m s (.cell t ty) v
  | cellA {t : Tmp} {ty : TypeId} {i : TypeInfo} {u : TypeDesc} {k off : Nat} {x : Box} {v : V} : TyI P ty i u → TM.get s.tm t = some (true, .ptr k off) → s.H[k]? = some (some x) → TypeDesc.isAgg u = true → off + i.size ≤ x.cs.length → DVr m s.H (.agg ((x.cs.drop off).take i.size)) v → ResV P m s (.cell t ty) v
inductive ResL (P : Program) (m : Nat) (s : St) : List ResultVar → List V → Prop
  | nil : ResL P m s [] []
  | cons {r : ResultVar} {v : V} {rs : List ResultVar} {vs : List V} : ResV P m s r v → ResL P m s rs vs → ResL P m s (r :: rs) (v :: vs)
def tupV : List V → V
  | [v] => v
  | vs => .tup vs
def resVal (tmps : Array Value) : ResultVar → Sem Value
  | .tmp t => pure (tmps.getD t undef)
  | .cell a t => do loadVar t (← asAddr (tmps.getD a undef))
theorem results_eq (fn : Func) (tmps : Array Value) : results fn tmps = (fn.results.mapM (resVal tmps) >>= fun vs => pure (if h : vs.size = 1 then vs[0] else Value.tuple vs)) := by
  unfold results
  congr 1
section
variable {P : Program} {c : Ctx} {n m : Nat} {s : St} {a : Act} {w : World} {β : List Place} {S S' : Nat → Prop}
theorem ResV.run (hH : HSt c s.H β S w) (he : ∀ t, EntAt s β S w a t) (hS : ∀ b, S b → S' b) (ho : ∀ (i : Nat) b q, m ≤ i → β[i]? = some (some (b, q)) → S' b) {r : ResultVar} {v : V} (h : ResV P m s r v) : ∃ u, (resVal a.tmps r).run P w = .ok u w ∧ v.Rep S' w u := by
  cases h with
  | tmp h1 h2 =>
    have := (he _ _ _ h1).2.1 rfl
    exact ⟨_, rfl, h2.rep hH hS ho this⟩
  | @cell t ty i u k off x d v hty h1 h2 h3 h4 h5 =>
    have hp := (he _ _ _ h1).2.1 rfl
    obtain ⟨b, q, hb, hv⟩ := hp
    rcases hH.box _ _ h2 with ⟨k1, _⟩ | ⟨b', c', cur, us, k1, k2, k3, k4, k5, k6, k7⟩
    · rw [hb] at k1; cases k1
    · rw [hb] at k1
      simp only [Option.some.injEq, Prod.mk.injEq] at k1
      obtain ⟨rfl, rfl⟩ := k1
      obtain ⟨y, h7, h8⟩ := k4.get h4
      obtain ⟨tl, htl⟩ := k5
      have h9 : cur[off]? = some y := by
        have := congrArg (fun l => l[off]?) htl
        simp only [List.getElem?_append, (List.getElem?_eq_some_iff.1 h7).1, if_true, h7] at this
        simpa using this.symm
      refine ⟨y, ?_, h5.rep hH hS ho h8⟩
      simp only [resVal, hv, asAddr, Sem.run_bind, Sem.run_pure, Result.andThen_ok, loadVar, run_isAgg' hty.ut, h3]
      simp [run_load, World.cell?, k3, h9]
  | @cellA t ty i u k off x v hty h1 h2 h3 h4 h5 =>
    have hp := (he _ _ _ h1).2.1 rfl
    obtain ⟨b, q, hb, hv⟩ := hp
    rcases hH.box _ _ h2 with ⟨k1, _⟩ | ⟨b', c', cur, us, k1, k2, k3, k4, k5, k6, k7⟩
    · rw [hb] at k1; cases k1
    · rw [hb] at k1
      simp only [Option.some.injEq, Prod.mk.injEq] at k1
      obtain ⟨rfl, rfl⟩ := k1
      have hl := k4.len
      obtain ⟨tl, htl⟩ := k5
      have := run_loadCells_list (P := P) w ⟨b, off, none⟩ ((us.drop off).take i.size) (fun j v hj => by
        rw [List.getElem?_take] at hj
        split at hj
        · rw [List.getElem?_drop] at hj
          have h9 : cur[off + j]? = some v := by
            have := congrArg (fun l => l[off + j]?) htl
            simp only [List.getElem?_append, (List.getElem?_eq_some_iff.1 hj).1, if_true, hj] at this
            simpa using this.symm
          rw [add_lit]
          simp [World.cell?, k3, h9]
        · cases hj)
      rw [List.length_take, List.length_drop, Nat.min_eq_left (by omega)] at this
      refine ⟨.agg ((us.drop off).take i.size).toArray, ?_, h5.rep hH hS ho ⟨_, rfl, (k4.drop _).take _⟩⟩
      simp only [resVal, hv, asAddr, Sem.run_bind, Sem.run_pure, Result.andThen_ok, loadVar, run_isAgg' hty.ut, h3, if_true, run_sizeOf' hty.ti, this]
theorem ResL.run (hH : HSt c s.H β S w) (he : ∀ t, EntAt s β S w a t) (hS : ∀ b, S b → S' b) (ho : ∀ (i : Nat) b q, m ≤ i → β[i]? = some (some (b, q)) → S' b) : ∀ {rs : List ResultVar} {vs : List V}, ResL P m s rs vs → ∃ us, (rs.mapM (resVal a.tmps)).run P w = .ok us w ∧ V.RepL S' w vs us
  | _, _, .nil => ⟨[], rfl, rfl⟩
  | _, _, .cons h1 h2 => by
    obtain ⟨u, h3, h4⟩ := h1.run hH he hS ho
    obtain ⟨us, h5, h6⟩ := ResL.run hH he hS ho h2
    refine ⟨u :: us, ?_, ⟨_, _, rfl, h4, h6⟩⟩
    rw [List.mapM_cons, Sem.run_bind, h3]
    simp only [Result.andThen_ok, Sem.run_bind, h5, Sem.run_pure]
/-- how a function ends -/
def Fin (P : Program) (m : Nat) (rs : List ResultVar) (vs : List V) : Exit → St → Prop
  | .ret, s => ResL P m s rs vs
  | .normal, s => ResL P m s rs vs
  | _, _ => False
theorem fin_run {fn : Func} {vs : List V} {rs : List ResultVar} (hrs : fn.results = rs.toArray) (h : ResL P m s rs vs) (hr : SR c n s a w) (hm : c.β0.length ≤ m) (hro : c.ro = true ∨ c.β0 = []) (hS0 : ∀ b, c.w0.heap.size ≤ b → c.S0 b) : ∃ u, (results fn a.tmps).run P w = .ok u w ∧ a.defers = c.dfr ∧ Ext c.w0 w ∧ (tupV vs).Rep c.S0 w u := by
  obtain ⟨β, S, hH, hd, _, he⟩ := hr
  have hS : ∀ b, S b → c.S0 b := fun b hb => (hH.sub b hb).elim id (hS0 b)
  have ho : ∀ (i : Nat) b q, m ≤ i → β[i]? = some (some (b, q)) → c.S0 b := fun i b q hi h => by
    rcases hH.own i b q h with h | ⟨q0, h⟩
    · exact hS0 b h
    · have := (List.getElem?_eq_some_iff.1 h).1
      omega
  obtain ⟨us, h1, h2⟩ := h.run hH he hS ho
  have hx : Ext c.w0 w := ⟨hH.os, hH.tape, hH.output, hH.size, fun b hb => hH.fr b hb (hro.imp id fun h i q => by rw [h]; simp)⟩
  refine ⟨if h : us.toArray.size = 1 then us.toArray[0] else .tuple us.toArray, ?_, hd, hx, ?_⟩
  · rw [results_eq, hrs]
    simp [List.mapM_toArray, h1]
  · have hl := h2.len
    match vs, us, h2, hl with
    | [], [], _, _ => exact ⟨[], rfl, rfl⟩
    | [v], [u], h2, _ =>
      obtain ⟨y, ys, h3, h4, _⟩ := h2
      injection h3 with h3 _
      subst h3
      exact h4
    | v :: v' :: vs, u :: u' :: us, h2, _ =>
      have : ¬ (u :: u' :: us).toArray.size = 1 := by simp
      rw [dif_neg this]
      exact ⟨_, rfl, h2⟩
def TM.argsD : Nat → List D → List (Nat × Bool × D)
  | _, [] => []
  | k, d :: ds => (k, true, d) :: TM.argsD (k + 1) ds
abbrev TM.args (k : Nat) (vs : List V) : List (Nat × Bool × D) := TM.argsD k (vs.map D.p)
theorem TM.argsD_get {t : Nat} {g : Bool} {d : D} : ∀ {vs : List D} {k : Nat}, TM.get (TM.argsD k vs) t = some (g, d) → ∃ j, t = k + j ∧ vs[j]? = some d ∧ g = true
  | [], _, h => by cases h
  | v :: vs, k, h => by
    unfold TM.argsD at h
    rw [TM.get_cons] at h
    split at h
    · rename_i e
      subst e
      simp only [Option.some.injEq, Prod.mk.injEq] at h
      exact ⟨0, rfl, by simp [h.2], h.1.symm⟩
    · obtain ⟨j, h1, h2, h3⟩ := TM.argsD_get h
      exact ⟨j + 1, by omega, by simpa using h2, h3⟩
/-- the state where a function begins -/
theorem SR.begin {H : List (Option Box)} {ro : Bool} {dead : List Nat} {ds : List D} {us : List Value} (hH : HOk H β S w) (h : D.RepL β S w ds us) (hn : ds.length ≤ n) : SR ⟨w, S, β, ro, dead, []⟩ n ⟨TM.argsD 0 ds, H⟩ { tmps := us.toArray ++ Array.replicate (n - us.length) undef, defers := [] } w := by
  have hl := h.len
  have hsz : (us.toArray ++ Array.replicate (n - us.length) undef).size = n := by rw [Array.size_append, Array.size_replicate, List.size_toArray]; omega
  refine ⟨β, S, ⟨hH, fun b hb => .inl hb, fun i b q h => .inr ⟨q, h⟩, fun _ _ _ => rfl, fun _ _ _ h => h, Nat.le_refl _, fun b hb _ => ⟨rfl, hb⟩, rfl, rfl, rfl, Nat.le_refl _⟩, rfl, hsz, ?_⟩
  intro t g d hg
  obtain ⟨j, h1, h2, rfl⟩ := TM.argsD_get hg
  obtain ⟨u, h3, h4⟩ := h.get h2
  have hj := (List.getElem?_eq_some_iff.1 h3).1
  have ht : t = j := h1.trans (Nat.zero_add j)
  subst ht
  have hjn : t < n := Nat.lt_of_lt_of_le hj (by rw [hl]; exact hn)
  have hlt : t < (us.toArray ++ Array.replicate (n - us.length) undef).size := by rw [hsz]; exact hjn
  refine ⟨hlt, fun _ => ?_, fun h => by cases h⟩
  have : (us.toArray ++ Array.replicate (n - us.length) undef).getD t undef = u := by
    have h5 : us[t] = u := by
      have := List.getElem?_eq_getElem hj
      rw [this] at h3
      exact Option.some.inj h3
    rw [Array.getD, dif_pos hlt]
    show (us.toArray ++ Array.replicate (n - us.length) undef)[t] = u
    rw [Array.getElem_append_left (by simpa using hj)]
    simpa using h5
  rw [this]
  exact h4
theorem HOk.nil (hup : ∀ b, w.heap.size ≤ b → S b) : HOk [] [] S w := ⟨hup, fun i x h => by simp at h, rfl, fun i j x y b p q h => by simp at h⟩
theorem Fn1.of {f : FuncId} {fn : Func} {code : Code} {vs rs : List V} {res : List ResultVar} (henter : ∀ args w, (callFunc f args).run P w = .ok (.enter f args) w) (hf : P.funcs[f]? = some fn) (hb : fn.body = some code) (hnt : fn.ntmps = n) (hrs : fn.results = res.toArray) (hn : vs.length ≤ n)
    (h : ∀ c, c.β0 = [] → Sym P c n code (Fin P 0 res rs) ⟨TM.args 0 vs, []⟩) : Fn1 P f vs (tupV rs) := by
  refine ⟨henter, fun S w us hup hr => ?_⟩
  refine calls_of_wp hf hb ?_
  rw [hnt, List.size_toArray]
  refine wp_mono (h ⟨w, S, [], false, [], []⟩ rfl _ w (SR.begin (HOk.nil hup) (D.RepL.p hr) (by simpa using hn))) ?_
  rintro e a' w' ⟨s', h1, h2⟩
  cases e with
  | ret =>
    obtain ⟨u, k1, k2, k3, k4⟩ := fin_run hrs h2 h1 (Nat.le_refl _) (.inr rfl) hup
    exact bodyPost_ret k1 k2 ⟨u, rfl, k3, k4⟩
  | normal =>
    obtain ⟨u, k1, k2, k3, k4⟩ := fin_run hrs h2 h1 (Nat.le_refl _) (.inr rfl) hup
    exact bodyPost_end k1 k2 ⟨u, rfl, k3, k4⟩
  | exit _ => exact h2.elim
  | goto _ => exact h2.elim
  | panic _ => exact h2.elim
  | outgrown => exact h2.elim
end
/-! ### steps, for walks -/
section
variable {P : Program} {c : Ctx} {n : Nat} {ops : Array Oper} {Q : Exit → St → Prop} {s : St} {o : Oper} {g : Bool} {d : D} {rest : List Oper}
section
variable {tm : List (Nat × Bool × D)} {H : List (Option Box)} {op : Op} {ty : TypeId} {pos : String} {af : Array Edge} {gd : Option (Nat × Bool)} {t : Tmp}
theorem SymL.opr (hg : GOk ops ⟨tm, H⟩ ⟨some t, op, ty, pos, af, gd⟩ g) (h : MOp P ⟨tm, H⟩ ⟨some t, op, ty, pos, af, gd⟩ g d) (hd : Nat.blt t n = true) (k : SymL P c n ops Q rest ⟨(t, g, d) :: tm, H⟩) : SymL P c n ops Q (⟨some t, op, ty, pos, af, gd⟩ :: rest) ⟨tm, H⟩ := SymL.mono ⟨hg, h, hd⟩ k
theorem MTo.step1 {T : St → Prop} {m : Nat} (hg : GOk ops ⟨tm, H⟩ ⟨some t, op, ty, pos, af, gd⟩ g) (h : MOp P ⟨tm, H⟩ ⟨some t, op, ty, pos, af, gd⟩ g d) (hd : Nat.blt t n = true) (k : MTo P n ops T m rest ⟨(t, g, d) :: tm, H⟩) : MTo P n ops T (m + 1) (⟨some t, op, ty, pos, af, gd⟩ :: rest) ⟨tm, H⟩ := .step ⟨hg, h, hd⟩ k
theorem SymL.box' {x : Operand} {e : TypeId} (hx : Ev ⟨tm, H⟩ true x d) (hl : d.laid = true) (ht : Nat.blt t n = true) {H' : List (Option Box)} {m : Nat} (hm : H.length = m) (hH : H ++ [some ⟨d.cells, e, 0⟩] = H') (k : SymL P c n ops Q rest ⟨(t, true, .ptr m 0) :: tm, H'⟩) :
    SymL P c n ops Q (⟨some t, .box e x, ty, pos, af, none⟩ :: rest) ⟨tm, H⟩ := SymL.box hx hl ht (by subst hm; subst hH; exact k)
theorem SymL.alloc' {e : TypeId} {i : TypeInfo} {u : TypeDesc} {z : Value} [h : TyI P e i u] (hz : i.zero = some z) (ht : Nat.blt t n = true) {H' : List (Option Box)} {m : Nat} (hm : H.length = m) (hH : H ++ [some ⟨z.cells.toList.map (fun v => D.p (.x v)), e, 0⟩] = H') (k : SymL P c n ops Q rest ⟨(t, true, .ptr m 0) :: tm, H'⟩) :
    SymL P c n ops Q (⟨some t, .alloc e, ty, pos, af, none⟩ :: rest) ⟨tm, H⟩ := SymL.alloc hz ht (by subst hm; subst hH; exact k)
theorem SymL.store' {x y : Operand} {e : TypeId} {i : TypeInfo} {u : TypeDesc} {k off : Nat} {bcs : List D} {be : TypeId} {bz : Nat} [h : TyI P e i u] (hx : Ev ⟨tm, H⟩ true x (.ptr k off)) (hy : Ev ⟨tm, H⟩ true y d) (hb : H[k]? = some (some ⟨bcs, be, bz⟩)) (hl : d.laid = true) (h1 : d.cells.all D.one = true) (hlen : Nat.beq d.cells.length i.size = true)
    (hoff : Nat.ble (off + i.size) bcs.length = true) (hwr : c.ro = true → c.β0.length ≤ k) {H' : List (Option Box)} (hH : H.set k (some ⟨splice bcs off d.cells, be, bz⟩) = H') (kk : SymL P c n ops Q rest ⟨tm, H'⟩) :
    SymL P c n ops Q (⟨none, .store e x y, ty, pos, af, none⟩ :: rest) ⟨tm, H⟩ := SymL.store hx hy hb hl h1 hlen hoff hwr (by subst hH; exact kk)
end
theorem Sym.regionL {id : Nat} {l : List Oper} (h : SymL P c n l.toArray Q l s) : Sym P c n (.region id l.toArray false) Q s := Sym.region (by simpa using h)
theorem Sym.drawL {id : Nat} {l : List Oper} (m : Nat) (hm : P.follows .mixedOrders = true) (hsyn : drawOk l.toArray m = true) (h : MTo P n l.toArray (fun s => SymL P c n l.toArray Q (l.drop m) s) m l s) : Sym P c n (.region id l.toArray true) Q s := Sym.draw m hm hsyn (by simpa using h)
/-- steps that only add memory, to the end -/
inductive MAll (P : Program) (n : Nat) (ops : Array Oper) (T : St → Prop) : List Oper → St → Prop
  | nil {s : St} : T s → MAll P n ops T [] s
  | step {o : Oper} {l : List Oper} {s : St} {g : Bool} {d : D} : MStep P n ops s o g d → MAll P n ops T l (s.put o.dst g d) → MAll P n ops T (o :: l) s
theorem MAll.mto {T T' : St → Prop} (hT : ∀ s, T s → T' s) : ∀ {l : List Oper} {s : St}, MAll P n ops T l s → MTo P n ops T' l.length l s
  | [], _, .nil h => .done (hT _ h)
  | _ :: _, _, .step h1 h2 => .step h1 (h2.mto hT)
theorem MAll.step1 {T : St → Prop} {tm : List (Nat × Bool × D)} {H : List (Option Box)} {op : Op} {ty : TypeId} {pos : String} {af : Array Edge} {gd : Option (Nat × Bool)} {t : Tmp} (hg : GOk ops ⟨tm, H⟩ ⟨some t, op, ty, pos, af, gd⟩ g) (h : MOp P ⟨tm, H⟩ ⟨some t, op, ty, pos, af, gd⟩ g d) (hd : Nat.blt t n = true) (k : MAll P n ops T rest ⟨(t, g, d) :: tm, H⟩) : MAll P n ops T (⟨some t, op, ty, pos, af, gd⟩ :: rest) ⟨tm, H⟩ := .step ⟨hg, h, hd⟩ k
/-- a region whose order is open, all of which only adds memory -/
theorem Sym.drawA {id : Nat} {l : List Oper} (hm : P.follows .mixedOrders = true) (hsyn : drawOk l.toArray l.length = true) (h : MAll P n l.toArray (fun s => Q .normal s) l s) : Sym P c n (.region id l.toArray true) Q s := by
  refine Sym.drawL l.length hm hsyn (h.mto fun s hs => ?_)
  rw [List.drop_length]
  exact SymL.nil hs
theorem thenS.nx {next : St → Prop} (h : next s) : thenS next Q .normal s := h
theorem thenS.rt {next : St → Prop} (h : Q .ret s) : thenS next Q .ret s := h
theorem thenS.ex {next : St → Prop} {id : Nat} (h : Q (.exit id) s) : thenS next Q (.exit id) s := h
theorem blockS.nx {id : Nat} (h : Q .normal s) : blockS id Q .normal s := h
theorem blockS.rt {id : Nat} (h : Q .ret s) : blockS id Q .ret s := h
theorem blockS.ex {id : Nat} (h : Q .normal s) : blockS id Q (.exit id) s := by
  show (if id = id then _ else _)
  rw [if_pos rfl]; exact h
theorem blockS.ot {id id' : Nat} (hne : Nat.beq id' id = false) (h : Q (.exit id') s) : blockS id Q (.exit id') s := by
  show (if id' = id then _ else _)
  rw [if_neg (by rintro rfl; simp at hne)]; exact h
theorem Fin.rt {m : Nat} {rs : List ResultVar} {vs : List V} (h : ResL P m s rs vs) : Fin P m rs vs .ret s := h
theorem Fin.nx {m : Nat} {rs : List ResultVar} {vs : List V} (h : ResL P m s rs vs) : Fin P m rs vs .normal s := h
end
end Go.Sy
