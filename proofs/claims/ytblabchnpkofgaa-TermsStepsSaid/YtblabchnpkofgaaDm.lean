/- Rows that stand still wherever they are held; slices against nil; arrays; functions that are given boxes: where they begin and end. No program in sight. -/
import Derived.Test.YtblabchnpkofgaaDl
set_option linter.unusedSimpArgs false
set_option linter.unusedVariables false
namespace Go.Sy
open Go.RowKit

/-! ### a row that no longer changes, wherever it is held -/
mutual
def D.ice (k n : Nat) (v : V) : D → D
  | .p u => .p u
  | .agg cs => .agg (D.iceL k n v cs)
  | .tup cs => .tup (D.iceL k n v cs)
  | .ptr i off => bif Nat.beq i k then .any else .ptr i off
  | .row i m => bif Nat.beq i k then (bif Nat.beq m n then .p v else .any) else .row i m
  | .clo f fs cs => .clo f (D.iceL k n v fs) (D.iceL k n v cs)
  | .lit m cs => .lit m (D.iceL k n v cs)
  | .refD cs => .refD (D.iceL k n v cs)
  | .any => .any
def D.iceL (k n : Nat) (v : V) : List D → List D
  | [] => []
  | d :: ds => D.ice k n v d :: D.iceL k n v ds
end
def TM.ice (k n : Nat) (v : V) : List (Nat × Bool × D) → List (Nat × Bool × D)
  | [] => []
  | (t, g, d) :: l => (t, g, d.ice k n v) :: TM.ice k n v l
def Hp.ice (k n : Nat) (v : V) : List (Option Box) → List (Option Box)
  | [] => []
  | none :: l => none :: Hp.ice k n v l
  | some x :: l => some ⟨D.iceL k n v x.cs, x.e, x.sz⟩ :: Hp.ice k n v l
section
variable {β : List Place} {S S' : Nat → Prop} {w : World} {k n : Nat} {v : V}
mutual
theorem D.Rep.ice (hS : ∀ b, S b → b < w.heap.size → S' b) (hv : ∀ u, (D.row k n).Rep β S w u → v.Rep S' w u) : ∀ {d : D} {u : Value}, d.Rep β S w u → (d.ice k n v).Rep β S' w u
  | .p _, _, h => V.Rep.mono (fun _ _ _ => rfl) hS h
  | .agg _, _, ⟨us, h1, h2⟩ => ⟨us, h1, D.RepL.ice hS hv h2⟩
  | .tup _, _, ⟨us, h1, h2⟩ => ⟨us, h1, D.RepL.ice hS hv h2⟩
  | .ptr i off, u, h => by
    unfold D.ice
    cases hb : Nat.beq i k
    · exact h
    · trivial
  | .row i m, u, h => by
    unfold D.ice
    cases hb : Nat.beq i k
    · exact h
    · cases hm : Nat.beq m n
      · trivial
      · have h1 := Nat.eq_of_beq_eq_true hb
        have h2 := Nat.eq_of_beq_eq_true hm
        subst h1; subst h2
        exact hv u h
  | .clo f fs cs, u, ⟨us, vs, h1, h2, h3⟩ => ⟨us, vs, h1, D.RepL.ice hS hv h2, D.RepL.ice hS hv h3⟩
  | .lit _ _, _, ⟨a, us, h1, h2, h3, h5⟩ => ⟨a, us, h1, h2, D.RepL.ice hS hv h3, (h5.mono (S' := fun b => S b ∧ b < w.heap.size) fun b hb hl => ⟨hb, hl⟩).mono fun b hb _ => hS b hb.1 hb.2⟩
  | .refD _, _, ⟨a, us, h1, h3, h5⟩ => ⟨a, us, h1, D.RepL.ice hS hv h3, (h5.mono (S' := fun b => S b ∧ b < w.heap.size) fun b hb hl => ⟨hb, hl⟩).mono fun b hb _ => hS b hb.1 hb.2⟩
  | .any, _, _ => trivial
theorem D.RepL.ice (hS : ∀ b, S b → b < w.heap.size → S' b) (hv : ∀ u, (D.row k n).Rep β S w u → v.Rep S' w u) : ∀ {d : List D} {us : List Value}, D.RepL β S w d us → D.RepL β S' w (D.iceL k n v d) us
  | [], _, h => h
  | _ :: _, _, ⟨y, ys, h1, h2, h3⟩ => ⟨y, ys, h1, D.Rep.ice hS hv h2, D.RepL.ice hS hv h3⟩
end
end
section
variable {k n : Nat} {v : V}
theorem TM.ice_get {t : Nat} {g : Bool} {d : D} : ∀ {l : List (Nat × Bool × D)}, TM.get (TM.ice k n v l) t = some (g, d) → ∃ d', TM.get l t = some (g, d') ∧ d = d'.ice k n v
  | [], h => by cases h
  | (t', g', d') :: l, h => by
    simp only [TM.ice, TM.get_cons] at h ⊢
    split at h
    · rename_i e
      simp only [Option.some.injEq, Prod.mk.injEq] at h
      rw [if_pos e]
      exact ⟨d', by rw [h.1], h.2.symm⟩
    · rename_i e
      rw [if_neg e]
      exact TM.ice_get h
theorem Hp.ice_get : ∀ {l : List (Option Box)} {i : Nat} {x : Box}, (Hp.ice k n v l)[i]? = some (some x) → ∃ y, l[i]? = some (some y) ∧ x = ⟨D.iceL k n v y.cs, y.e, y.sz⟩
  | [], _, _, h => by simp [Hp.ice] at h
  | none :: l, 0, _, h => by simp [Hp.ice] at h
  | some y :: l, 0, x, h => by
    simp only [Hp.ice, List.getElem?_cons_zero, Option.some.injEq] at h
    exact ⟨y, by simp, h.symm⟩
  | none :: l, i + 1, x, h => by simpa using Hp.ice_get (l := l) (i := i) (by simpa [Hp.ice] using h)
  | some _ :: l, i + 1, x, h => by simpa using Hp.ice_get (l := l) (i := i) (by simpa [Hp.ice] using h)
theorem Hp.ice_len : ∀ {l : List (Option Box)}, (Hp.ice k n v l).length = l.length
  | [] => rfl
  | none :: l => by simp [Hp.ice, Hp.ice_len (l := l)]
  | some _ :: l => by simp [Hp.ice, Hp.ice_len (l := l)]
end
section
variable {c : Ctx} {n : Nat} {tm : List (Nat × Bool × D)} {H : List (Option Box)}
theorem SR.ice {α : Type} (enc : α → List V) {l : List α} {k : Nat} {e : TypeId} {sz : Nat} {a : Act} {w : World} (hb : H[k]? = some (some ⟨D.enc enc l, e, sz⟩)) (hz : Nat.blt 0 sz = true) (hk : c.β0.length ≤ k) (hr : SR c n ⟨tm, H⟩ a w) :
    SR c n ⟨TM.ice k l.length (V.list enc l) tm, (Hp.ice k l.length (V.list enc l) H).set k none⟩ a w := by
  have hz : 0 < sz := by simpa using hz
  obtain ⟨β, S, hH, hd, hn, he⟩ := hr
  have hkH : k < H.length := (List.getElem?_eq_some_iff.1 hb).1
  have hS : ∀ b, S b → b < w.heap.size → S b ∨ ∃ q, β[k]? = some (some (b, q)) := fun b hb _ => .inl hb
  have hv : ∀ u, (D.row k l.length).Rep β S w u → (V.list enc l).Rep (fun b => S b ∨ ∃ q, β[k]? = some (some (b, q))) w u := by
    rintro u (⟨h1, h2, a', h3⟩ | ⟨b, q, h1, h2, h3⟩)
    · have : l = [] := List.eq_nil_of_length_eq_zero h2
      subst this
      exact ⟨a', 0, [], h3, Nat.le_refl _, by simp [maxLen], rfl, Cells.nil⟩
    · rcases hH.box k _ hb with ⟨h4, _⟩ | ⟨b', q', cur, us, h4, h5, h6, h7, h8, h9, h10⟩
      · rw [h1] at h4; cases h4
      · rw [h1] at h4
        simp only [Option.some.injEq, Prod.mk.injEq] at h4
        obtain ⟨rfl, rfl⟩ := h4
        have hv := (D.RepL.ofP h7).mono (S' := fun b => S b ∨ ∃ q, β[k]? = some (some (b, q))) (w' := w) (fun _ _ _ => rfl) hS
        refine ⟨_, q, us, h3, h2, (h10 (by show sz ≠ 0; omega)).2, hv, fun j y hj => ⟨b, 0, rfl, ?_, .inr ⟨q, h1⟩⟩⟩
        have h11 := prefix_get h8 hj
        simp [World.cell?, h6]
        simpa using h11
  have hget : ∀ (i : Nat) (y : Box), ((Hp.ice k l.length (V.list enc l) H).set k none)[i]? = some (some y) → i ≠ k ∧ ∃ z, H[i]? = some (some z) ∧ y = ⟨D.iceL k l.length (V.list enc l) z.cs, z.e, z.sz⟩ := by
    intro i y h
    by_cases hi : i = k
    · subst hi
      rw [List.getElem?_set_self (by rw [Hp.ice_len]; exact hkH)] at h
      simp at h
    · rw [List.getElem?_set_ne (Ne.symm hi)] at h
      exact ⟨hi, Hp.ice_get h⟩
  refine ⟨β, fun b => S b ∨ ∃ q, β[k]? = some (some (b, q)), ⟨⟨fun b hb => .inl (hH.up b hb), ?_, by simp [hH.len, Hp.ice_len], ?_⟩, ?_, hH.own, hH.fr, hH.keep, hH.klen, fun b hb hl => ⟨(hH.keepS b hb hl).1, .inl (hH.keepS b hb hl).2⟩, hH.os, hH.tape, hH.output, hH.size⟩, hd, hn, ?_⟩
  · intro i y hy
    obtain ⟨hik, z, hz, rfl⟩ := hget i y hy
    rcases hH.box i z hz with ⟨h1, h2, h3⟩ | ⟨b1, c1, cur, us, h1, h2, h3, h4, h5, h6⟩
    · exact .inl ⟨h1, h2, by rw [h3]; rfl⟩
    · refine .inr ⟨b1, c1, cur, us, h1, ?_, h3, D.RepL.ice hS hv h4, h5, by simpa using h6⟩
      rintro (h | ⟨q, h⟩)
      · exact h2 h
      · exact hik (hH.inj i k z _ b1 c1 q hz hb h1 h)
  · intro i j y z b p q hy hz hi hj
    obtain ⟨_, y', hy', _⟩ := hget i y hy
    obtain ⟨_, z', hz', _⟩ := hget j z hz
    exact hH.inj i j y' z' b p q hy' hz' hi hj
  · rintro b (h | ⟨q, h⟩)
    · exact hH.sub b h
    · rcases hH.own k b q h with h | ⟨q0, h⟩
      · exact .inr h
      · have := (List.getElem?_eq_some_iff.1 h).1
        omega
  · intro t' g' d' hg
    obtain ⟨d0, h1, rfl⟩ := TM.ice_get hg
    obtain ⟨k1, k2, k3⟩ := he t' g' d0 h1
    exact ⟨k1, fun hg => (k2 hg).ice hS hv, k3⟩
section
variable {P : Program} {α : Type} {code : Code} {ops : Array Oper} {l' : List Oper} {Q : Exit → St → Prop}
theorem SymL.ice (enc : α → List V) (k : Nat) (l : List α) {e : TypeId} {sz : Nat} (hb : H[k]? = some (some ⟨D.enc enc l, e, sz⟩)) (hz : Nat.blt 0 sz = true) (hk : c.β0.length ≤ k) {H' : List (Option Box)} {tm' : List (Nat × Bool × D)} (hH' : (Hp.ice k l.length (V.list enc l) H).set k none = H') (htm : TM.ice k l.length (V.list enc l) tm = tm')
    (kk : SymL P c n ops Q l' ⟨tm', H'⟩) : SymL P c n ops Q l' ⟨tm, H⟩ := fun a w hr => by
  subst hH'; subst htm
  exact kk a w (SR.ice enc hb hz hk hr)
theorem Sym.ice (enc : α → List V) (k : Nat) (l : List α) {e : TypeId} {sz : Nat} (hb : H[k]? = some (some ⟨D.enc enc l, e, sz⟩)) (hz : Nat.blt 0 sz = true) (hk : c.β0.length ≤ k) {H' : List (Option Box)} {tm' : List (Nat × Bool × D)} (hH' : (Hp.ice k l.length (V.list enc l) H).set k none = H') (htm : TM.ice k l.length (V.list enc l) tm = tm')
    (kk : Sym P c n code Q ⟨tm', H'⟩) : Sym P c n code Q ⟨tm, H⟩ := fun a w hr => by
  subst hH'; subst htm
  exact kk a w (SR.ice enc hb hz hk hr)
end
end
/-! ### cells without addresses -/
theorem D.renL_p (σ : Nat → Nat) : ∀ l : List V, D.renL σ (l.map D.p) = l.map D.p
  | [] => rfl
  | _ :: l => by simp [D.renL, D.ren, D.renL_p σ l]
theorem D.upToL_p (k : Nat) : ∀ l : List V, D.upToL k (l.map D.p) = true
  | [] => rfl
  | _ :: l => by simp [D.upToL, D.upTo, D.upToL_p k l]
theorem D.cleanL_p (k : Nat) : ∀ l : List V, D.cleanL k (l.map D.p) = l.map D.p
  | [] => rfl
  | _ :: l => by simp [D.cleanL, D.clean, D.cleanL_p k l]
theorem D.iceL_p (k n : Nat) (v : V) : ∀ l : List V, D.iceL k n v (l.map D.p) = l.map D.p
  | [] => rfl
  | _ :: l => by simp [D.iceL, D.ice, D.iceL_p k n v l]
/-! ### a slice against nil -/
section
variable {P : Program} {c : Ctx} {n : Nat} {ops : Array Oper} {Q : Exit → St → Prop} {rest : List Oper} {t : Tmp} {ty ty' tt : TypeId} {pos : String} {af : Array Edge} {tm : List (Nat × Bool × D)} {H : List (Option Box)}
theorem V.Rep.nil_of {S : Nat → Prop} {w : World} {m k : Nat} {cs : List V} (h : (V.sl m cs).Rep S w (.slice none k m)) : cs = [] := by
  obtain ⟨a, q, us, h1, h2, h3, h4, h5⟩ := h
  injection h1 with h1
  subst h1
  cases us with
  | nil => exact List.eq_nil_of_length_eq_zero h4.len.symm
  | cons u us =>
    obtain ⟨b, o, h6, _⟩ := h5 0 u rfl
    cases h6
theorem SymL.eqNil {x : Operand} {m : Nat} {cs : List V} {e : TypeId} {i : TypeInfo} [h : TyI P tt i (.slice e)] (hx : Ev ⟨tm, H⟩ true x (.p (.sl m cs))) (ht : Nat.blt t n = true) (k : ∀ b : Bool, (b = true → cs = []) → SymL P c n ops Q rest ⟨(t, true, .p (.b b)) :: tm, H⟩) :
    SymL P c n ops Q (⟨some t, .binOp .eql tt x (.const (.slice none 0 0)) ty', ty, pos, af, none⟩ :: rest) ⟨tm, H⟩ := by
  rintro a w ⟨β, S, hH, hd, hn, he⟩
  refine wpList_plain rfl fun K hK => ?_
  obtain ⟨ad, q, us, h1, h2, h3, h4, h5⟩ := hx.rep (l := #[x]) (by simp) (fun t _ => he t) rfl
  have hlt : t < n := by simpa using ht
  have hnil : ad = none → cs = [] := by
    rintro rfl
    cases us with
    | nil => exact List.eq_nil_of_length_eq_zero h4.len.symm
    | cons u us =>
      obtain ⟨b, o, h6, _⟩ := h5 0 u rfl
      cases h6
  refine wp_value (v := .bool ad.isNone) (w' := w) ?_ (hK _ _ (k ad.isNone (by simpa using hnil) _ _ ⟨β, S, hH, hd, by rw [size_put, hn], EntAt.put (s := ⟨tm, H⟩) (dst := some t) he (fun t' h => by injection h with h; rw [hn, ← h]; exact hlt) ⟨fun _ => rfl, fun h => by cases h⟩⟩))
  have e2 : ∀ d (w : World), (Op.equalIn (d + 1) tt (.slice ad m q) (.slice none 0 0)).run P w = .ok ad.isNone w := fun d w => by cases ad <;> simp [Op.equalIn, run_underlying h.ut]
  have e3 : binOp .eql tt (.slice ad m q) (.slice none 0 0) = (do pure (.bool (← Op.equalIn (9999 + 1) tt (.slice ad m q) (.slice none 0 0)))) := rfl
  have e4 : eqGuard .eql tt x (.const (.slice none 0 0)) (.slice ad m q) (.slice none 0 0) = pure () := rfl
  have e5 : a.eval (.const (.slice none 0 0)) = .slice none 0 0 := rfl
  simp only [execOp, h1, e5, e4, e3, Sem.run_bind, Sem.run_pure, Result.andThen_ok, e2]
end
/-! ### arrays -/
section
variable {P : Program} {s : St} {g : Bool} {dst : Option Tmp} {ty : TypeId} {pos : String} {af : Array Edge} {gd : Option (Nat × Bool)}
theorem MOp.loadAD {x : Operand} {t : TypeId} {i : TypeInfo} {u : TypeDesc} {k off : Nat} {bcs cs' : List D} {be : TypeId} {bz : Nat} [h : TyI P t i u] (hx : Ev s g x (.ptr k off)) (hb : s.H[k]? = some (some ⟨bcs, be, bz⟩)) (hu : TypeDesc.isAgg u = true) (hn : Nat.ble (off + i.size) bcs.length = true) (hv : (bcs.drop off).take i.size = cs') :
    MOp P s ⟨dst, .load t x, ty, pos, af, gd⟩ g (.agg cs') := by
  subst hv
  exact MOp.loadA hx hb hu (by simpa using hn)
theorem MOp.nilCheckPtr {x : Operand} {i off : Nat} (hx : Ev s g x (.ptr i off)) : MOp P s ⟨dst, .nilCheck x, ty, pos, af, gd⟩ g (.ptr i off) := MOp.nilCheck hx rfl
theorem MOp.nilCheckRef {x : Operand} {cs : List V} (hx : Ev s g x (.p (.ref cs))) : MOp P s ⟨dst, .nilCheck x, ty, pos, af, gd⟩ g (.p (.ref cs)) := MOp.nilCheck hx rfl
theorem MOp.nilCheckFn {x : Operand} {f : FuncId} {a b : Array Value} (hx : Ev s g x (.p (.x (.func (.func f) a b)))) : MOp P s ⟨dst, .nilCheck x, ty, pos, af, gd⟩ g (.p (.x (.func (.func f) a b))) := MOp.nilCheck hx rfl
theorem MOp.nilCheckClo {x : Operand} {f : FuncId} {a b : List D} (hx : Ev s g x (.clo (.func f) a b)) : MOp P s ⟨dst, .nilCheck x, ty, pos, af, gd⟩ g (.clo (.func f) a b) := MOp.nilCheck hx rfl
theorem MOp.buildArr {t e : TypeId} {len : Nat} {parts : Array (Nat × Operand)} {i j : TypeInfo} {u : TypeDesc} {z : Value} {ds : List (Nat × D)} {res : List D} [h : TyI P t i (.array len e)] [h' : TyI P e j u] (hz : i.zero = some z) (hp : EvP s g parts.toList ds)
    (hf : fillD (fun i => some (i * j.size, j.size)) (z.cells.toList.map (fun v => D.p (.x v))) ds = some res) : MOp P s ⟨dst, .build t parts, ty, pos, af, gd⟩ g (.agg res) := by
  refine ⟨fun β S a w ho he hg K Q hK => ?_⟩
  have h1 := hp.rep (l := (Op.build t parts).operands) he hg (by
    intro x hx
    simp only [Op.operands, List.mem_toArray, List.mem_map]
    exact ⟨x, hx, rfl⟩)
  have hc : D.RepL β S w (z.cells.toList.map (fun v => D.p (.x v))) z.cells.toList := by
    have := D.RepL.p (β := β) (V.RepL.x (S := S) (w := w) (l := z.cells.toList))
    rwa [List.map_map] at this
  obtain ⟨us, h2, h3⟩ := fill_rep _ h1 hc hf
  rw [Array.toArray_toList] at h2
  refine wp_value (v := .agg us.toArray) (w' := w) ?_ (hK _ w (Ext.refl w) ⟨us, rfl, h3⟩)
  simp only [execOp, Instr.build, Sem.run_bind, run_zeroValue' h.ti hz, Result.andThen_ok, run_underlying h.ut, run_sizeOf' h'.ti]
  simp only [Array.toList_map]
  rw [h2]
  rfl
/-- &a[n] of an array in a box -/
theorem MOp.indexArr {x y : Operand} {t e : TypeId} {i j : TypeInfo} {u : TypeDesc} {k off len : Nat} {kk : IntKind} {q : Int} [h : TyI P t i (.array len e)] [h' : TyI P e j u] (hx : Ev s g x (.ptr k off)) (hy : Ev s g y (.p (.x (.int kk q)))) (hb : g = true → 0 ≤ q ∧ q < len) :
    MOp P s ⟨dst, .indexAddr t x y, ty, pos, af, gd⟩ g (.ptr k (off + q.toNat * j.size)) := by
  refine ⟨fun β S a w ho he hg K Q hK => ?_⟩
  obtain ⟨b1, b2⟩ := hb hg
  have r1 := hx.rep (l := (Op.indexAddr t x y).operands) (by simp [Op.operands]) he hg
  have r2 : a.eval y = .int kk q := hy.rep (l := (Op.indexAddr t x y).operands) (by simp [Op.operands]) he hg
  obtain ⟨b, c, h1, h2⟩ := r1
  refine wp_value (v := .pointer (some ⟨b, off + q.toNat * j.size, none⟩)) (w' := w) ?_ (hK _ w (Ext.refl w) ⟨b, c, h1, rfl⟩)
  simp [execOp, h2, r2, Instr.indexAt, asIntOf, Instr.sureAddr, run_underlying h.ut, b1, b2, run_sizeOf' h'.ti, add_lit]
end
/-! ### functions that are given boxes -/
section
variable {P : Program} {f : FuncId} {fn : Func} {code : Code} {n : Nat}
theorem FnR.of {ds : List D} {H0 : List (Option Box)} {rs : List V} {res : List ResultVar} (henter : ∀ args w, (callFunc f args).run P w = .ok (.enter f args) w) (hf : P.funcs[f]? = some fn) (hb : fn.body = some code) (hnt : fn.ntmps = n) (hrs : fn.results = res.toArray) (hn : ds.length ≤ n) (ids : D.upToL H0.length ds = true) (hids : Hp.upTo H0.length H0 = true)
    (h : ∀ c, c.ro = true → c.β0.length = H0.length → c.dead = [] → Sym P c n code (Fin P H0.length res rs) ⟨TM.argsD 0 ds, H0⟩) : FnR P f ds H0 (tupV rs) := by
  refine ⟨henter, ids, hids, fun β S w us hH hr => ?_⟩
  refine calls_of_wp hf hb ?_
  rw [hnt, List.size_toArray]
  have hup : ∀ b, w.heap.size ≤ b → S b := hH.up
  have hlen : (⟨w, S, β, true, [], []⟩ : Ctx).β0.length = H0.length := hH.len
  refine wp_mono (h ⟨w, S, β, true, [], []⟩ rfl hlen rfl _ w (SR.begin hH hr hn)) ?_
  rintro e a' w' ⟨s', h1, h2⟩
  cases e with
  | ret =>
    obtain ⟨u, k1, k2, k3, k4⟩ := fin_run hrs h2 h1 (Nat.le_of_eq hlen) (.inl rfl) hup
    exact bodyPost_ret k1 k2 ⟨u, rfl, k3, k4⟩
  | normal =>
    obtain ⟨u, k1, k2, k3, k4⟩ := fin_run hrs h2 h1 (Nat.le_of_eq hlen) (.inl rfl) hup
    exact bodyPost_end k1 k2 ⟨u, rfl, k3, k4⟩
  | exit _ => exact h2.elim
  | goto _ => exact h2.elim
  | panic _ => exact h2.elim
  | outgrown => exact h2.elim
/-- a result as it is at the end, boxes and all -/
inductive ResD (P : Program) (s : St) : ResultVar → D → Prop
  | tmp {t : Tmp} {d d' : D} : TM.get s.tm t = some (true, d') → DLe d' d → ResD P s (.tmp t) d
  | cell {t : Tmp} {ty : TypeId} {i : TypeInfo} {u : TypeDesc} {k off : Nat} {x : Box} {d d' : D} : TyI P ty i u → TM.get s.tm t = some (true, .ptr k off) → s.H[k]? = some (some x) → TypeDesc.isAgg u = false → x.cs[off]? = some d' → DLe d' d → ResD P s (.cell t ty) d
  | cellA {t : Tmp} {ty : TypeId} {i : TypeInfo} {u : TypeDesc} {k off : Nat} {x : Box} {d : D} : TyI P ty i u → TM.get s.tm t = some (true, .ptr k off) → s.H[k]? = some (some x) → TypeDesc.isAgg u = true → off + i.size ≤ x.cs.length → DLe (.agg ((x.cs.drop off).take i.size)) d → ResD P s (.cell t ty) d
inductive ResDL (P : Program) (s : St) : List ResultVar → List D → Prop
  | nil : ResDL P s [] []
  | cons {r : ResultVar} {v : D} {rs : List ResultVar} {vs : List D} : ResD P s r v → ResDL P s rs vs → ResDL P s (r :: rs) (v :: vs)
def tupD : List D → D
  | [d] => d
  | ds => .tup ds
section
variable {c : Ctx} {s : St} {a : Act} {w : World} {β : List Place} {S : Nat → Prop}
theorem ResD.run (hH : HOk s.H β S w) (he : ∀ t, EntAt s β S w a t) {r : ResultVar} {d : D} (h : ResD P s r d) : ∃ u, (resVal a.tmps r).run P w = .ok u w ∧ d.Rep β S w u := by
  cases h with
  | tmp h1 h2 => exact ⟨_, rfl, h2.rep ((he _ _ _ h1).2.1 rfl)⟩
  | @cell t ty i u k off x d d' hty h1 h2 h3 h4 h5 =>
    have hp := (he _ _ _ h1).2.1 rfl
    obtain ⟨b, q, hb, hv⟩ := hp
    rcases hH.box _ _ h2 with ⟨k1, _⟩ | ⟨b', c', cur, us, k1, k2, k3, k4, k5, k6, k7⟩
    · rw [hb] at k1; cases k1
    · rw [hb] at k1
      simp only [Option.some.injEq, Prod.mk.injEq] at k1
      obtain ⟨rfl, rfl⟩ := k1
      obtain ⟨y, h7, h8⟩ := k4.get h4
      have h9 : cur.toList[off]? = some y := prefix_get k5 h7
      refine ⟨y, ?_, h5.rep h8⟩
      simp only [resVal, hv, asAddr, Sem.run_bind, Sem.run_pure, Result.andThen_ok, loadVar, run_isAgg' hty.ut, h3]
      simp at h9
      simp [run_load, World.cell?, k3, h9]
  | @cellA t ty i u k off x d hty h1 h2 h3 h4 h5 =>
    have hp := (he _ _ _ h1).2.1 rfl
    obtain ⟨b, q, hb, hv⟩ := hp
    rcases hH.box _ _ h2 with ⟨k1, _⟩ | ⟨b', c', cur, us, k1, k2, k3, k4, k5, k6, k7⟩
    · rw [hb] at k1; cases k1
    · rw [hb] at k1
      simp only [Option.some.injEq, Prod.mk.injEq] at k1
      obtain ⟨rfl, rfl⟩ := k1
      have hl := k4.len
      have := run_loadCells_list (P := P) w ⟨b, off, none⟩ ((us.drop off).take i.size) (fun j v hj => by
        rw [List.getElem?_take] at hj
        split at hj
        · rw [List.getElem?_drop] at hj
          have h9 : cur.toList[off + j]? = some v := prefix_get k5 hj
          simp at h9
          rw [add_lit]
          simp [World.cell?, k3, h9]
        · cases hj)
      rw [List.length_take, List.length_drop, Nat.min_eq_left (by omega)] at this
      refine ⟨.agg ((us.drop off).take i.size).toArray, ?_, h5.rep ⟨_, rfl, (k4.drop _).take _⟩⟩
      simp only [resVal, hv, asAddr, Sem.run_bind, Sem.run_pure, Result.andThen_ok, loadVar, run_isAgg' hty.ut, h3, if_true, run_sizeOf' hty.ti, this]
theorem ResDL.run (hH : HOk s.H β S w) (he : ∀ t, EntAt s β S w a t) : ∀ {rs : List ResultVar} {ds : List D}, ResDL P s rs ds → ∃ us, (rs.mapM (resVal a.tmps)).run P w = .ok us w ∧ D.RepL β S w ds us
  | _, _, .nil => ⟨[], rfl, rfl⟩
  | _, _, .cons h1 h2 => by
    obtain ⟨u, h3, h4⟩ := h1.run hH he
    obtain ⟨us, h5, h6⟩ := ResDL.run hH he h2
    refine ⟨u :: us, ?_, ⟨_, _, rfl, h4, h6⟩⟩
    rw [List.mapM_cons, Sem.run_bind, h3]
    simp only [Result.andThen_ok, Sem.run_bind, h5, Sem.run_pure]
end
/-- how a function ends that leaves boxes -/
def FinB (P : Program) (c : Ctx) (res : List ResultVar) (ds : List D) (H1 : List (Option Box)) : Exit → St → Prop
  | .ret, s => ∃ tm, Le c s ⟨tm, H1⟩ ∧ ResDL P ⟨tm, H1⟩ res ds
  | .normal, s => ∃ tm, Le c s ⟨tm, H1⟩ ∧ ResDL P ⟨tm, H1⟩ res ds
  | _, _ => False
theorem FinB.rt {c : Ctx} {res : List ResultVar} {ds : List D} {s : St} (h : ResDL P s res ds) : FinB P c res ds s.H .ret s := ⟨s.tm, Le.refl c s, h⟩
theorem FinB.nx {c : Ctx} {res : List ResultVar} {ds : List D} {s : St} (h : ResDL P s res ds) : FinB P c res ds s.H .normal s := ⟨s.tm, Le.refl c s, h⟩
theorem FinB.rtW {c : Ctx} {res : List ResultVar} {ds : List D} {s : St} {H1 : List (Option Box)} (tm : List (Nat × Bool × D)) (hl : Le c s ⟨tm, H1⟩) (h : ResDL P ⟨tm, H1⟩ res ds) : FinB P c res ds H1 .ret s := ⟨tm, hl, h⟩
theorem FinB.nxW {c : Ctx} {res : List ResultVar} {ds : List D} {s : St} {H1 : List (Option Box)} (tm : List (Nat × Bool × D)) (hl : Le c s ⟨tm, H1⟩) (h : ResDL P ⟨tm, H1⟩ res ds) : FinB P c res ds H1 .normal s := ⟨tm, hl, h⟩
theorem FnB.of {ds rs : List D} {H0 H1 : List (Option Box)} {res : List ResultVar} (henter : ∀ args w, (callFunc f args).run P w = .ok (.enter f args) w) (hf : P.funcs[f]? = some fn) (hb : fn.body = some code) (hnt : fn.ntmps = n) (hrs : fn.results = res.toArray) (hn : ds.length ≤ n) (ids : D.upToL H0.length ds = true) (hids : Hp.upTo H0.length H0 = true)
    (h : ∀ c, c.ro = false → c.β0.length = H0.length → c.dead = [] → Sym P c n code (FinB P c res rs H1) ⟨TM.argsD 0 ds, H0⟩) : FnB P f ds H0 (tupD rs) H1 := by
  refine ⟨henter, ids, hids, fun β S w us hH hr => ?_⟩
  refine calls_of_wp hf hb ?_
  rw [hnt, List.size_toArray]
  refine wp_mono (h ⟨w, S, β, false, [], []⟩ rfl hH.len rfl _ w (SR.begin hH hr hn)) ?_
  have key : ∀ (s' : St) (a' : Act) (w' : World), SR ⟨w, S, β, false, [], []⟩ n s' a' w' → (∃ tm, Le ⟨w, S, β, false, [], []⟩ s' ⟨tm, H1⟩ ∧ ResDL P ⟨tm, H1⟩ res rs) → ∃ u, (results fn a'.tmps).run P w' = .ok u w' ∧ a'.defers = [] ∧ ∃ u' β1 S1, Ending.returned u = .returned u' ∧ HSt ⟨w, S, β, false, [], []⟩ H1 β1 S1 w' ∧ (tupD rs).Rep β1 S1 w' u' := by
    rintro s' a' w' h1 ⟨tm, hle, h2⟩
    obtain ⟨β1, S1, hH1, hd, _, he⟩ := hle _ _ _ h1
    obtain ⟨us, h3, h4⟩ := h2.run hH1.toHOk he
    refine ⟨if h : us.toArray.size = 1 then us.toArray[0] else .tuple us.toArray, ?_, hd, _, β1, S1, rfl, hH1, ?_⟩
    · rw [results_eq, hrs]
      simp [List.mapM_toArray, h3]
    · have hl := h4.len
      match rs, us, h4, hl with
      | [], [], _, _ => exact ⟨[], rfl, rfl⟩
      | [v], [u], h2, _ =>
        obtain ⟨y, ys, h3, h4, _⟩ := h2
        injection h3 with h3 _
        subst h3
        exact h4
      | v :: v' :: vs, u :: u' :: us, h2, _ =>
        have : ¬ (u :: u' :: us).toArray.size = 1 := by simp
        rw [dif_neg this]
        exact ⟨_, rfl, h2⟩
  rintro e a' w' ⟨s', h1, h2⟩
  cases e with
  | ret =>
    obtain ⟨u, k1, k2, k3⟩ := key s' a' w' h1 h2
    exact bodyPost_ret k1 k2 k3
  | normal =>
    obtain ⟨u, k1, k2, k3⟩ := key s' a' w' h1 h2
    exact bodyPost_end k1 k2 k3
  | exit _ => exact h2.elim
  | goto _ => exact h2.elim
  | panic _ => exact h2.elim
  | outgrown => exact h2.elim
end
section
variable {P : Program} {f : FuncId} {ds : List D} {H0 H1 H1' : List (Option Box)} {r r' : D}
theorem FnB.le (h : FnB P f ds H0 r H1) (hle : ∀ c, c.ro = false → c.β0.length = H0.length → c.dead = [] → Le c ⟨[(0, true, r)], H1⟩ ⟨[(0, true, r')], H1'⟩) : FnB P f ds H0 r' H1' := by
  refine ⟨h.enter, h.ids, h.hids, fun β S w us hH hr => (h.calls β S w us hH hr).mono ?_⟩
  rintro e w' ⟨u, β1, S1, rfl, h1, h2⟩
  obtain ⟨β2, S2, h3, _, _, h4⟩ := hle ⟨w, S, β, false, [], []⟩ rfl hH.len rfl 1 { tmps := #[u], defers := [] } w' ⟨β1, S1, h1, rfl, rfl, fun t g d hg => by
    rw [TM.get_cons] at hg
    split at hg
    · rename_i e
      subst e
      simp only [Option.some.injEq, Prod.mk.injEq] at hg
      obtain ⟨rfl, rfl⟩ := hg
      exact ⟨by simp, fun _ => h2, fun h => by cases h⟩
    · cases hg⟩
  exact ⟨u, β2, S2, rfl, h3, (h4 0 true r' rfl).2.1 rfl⟩
theorem FnB.ice {α : Type} (enc : α → List V) (k : Nat) (l : List α) {e : TypeId} {sz : Nat} (h : FnB P f ds H0 r H1) (hb : H1[k]? = some (some ⟨D.enc enc l, e, sz⟩)) (hz : Nat.blt 0 sz = true) (hk : Nat.ble H0.length k = true) (hr : r.ice k l.length (V.list enc l) = r') (hH : (Hp.ice k l.length (V.list enc l) H1).set k none = H1') : FnB P f ds H0 r' H1' := by
  subst hr; subst hH
  exact h.le fun c _ hc _ n a w hr => SR.ice enc hb hz (by rw [hc]; simpa using hk) hr
end
end Go.Sy
