/- Literals of structs and slices; slices of slices; rows that grow. No program in sight. -/
import Derived.Test.YtblabchnpkofgaaDg
set_option linter.unusedSimpArgs false
set_option linter.unusedVariables false
namespace Go.Sy
open Go.RowKit

/-! ### fill -/
theorem foldl_set (off : Nat) : ∀ (vs : List Value) (k : Nat) (cs : Array Value), off + k + vs.length ≤ cs.size →
    ((vs.zipIdx k).foldl (fun cs (x : Value × Nat) => cs.setIfInBounds (off + x.2) x.1) cs).toList = cs.toList.take (off + k) ++ vs ++ cs.toList.drop (off + k + vs.length)
  | [], k, cs, _ => by simp
  | v :: vs, k, cs, h => by
    simp only [List.zipIdx_cons, List.foldl_cons]
    have h' : off + (k + 1) + vs.length ≤ (cs.setIfInBounds (off + k) v).size := by simp at h ⊢; omega
    rw [foldl_set off vs (k + 1) _ h']
    simp only [Array.toList_setIfInBounds, List.length_cons]
    have hl : off + k < cs.toList.length := by simp at h ⊢; omega
    have e1 : (cs.toList.set (off + k) v).take (off + (k + 1)) = cs.toList.take (off + k) ++ [v] := by
      rw [show off + (k + 1) = off + k + 1 by omega, List.take_add_one, List.take_set_of_le (Nat.le_refl _), List.getElem?_set_self hl]
      rfl
    have e2 : (cs.toList.set (off + k) v).drop (off + (k + 1) + vs.length) = cs.toList.drop (off + k + (vs.length + 1)) := by
      rw [List.drop_set_of_lt (by omega)]
      congr 1
      omega
    rw [e1, e2]
    simp
def fillD (place : Nat → Option (Nat × Nat)) (cells : List D) : List (Nat × D) → Option (List D)
  | [] => some cells
  | (i, d) :: rest => match place i with
    | none => none
    | some (off, size) => if Nat.beq d.cells.length size && Nat.ble (off + d.cells.length) cells.length && d.laid then fillD place (splice cells off d.cells) rest else none
section
variable {β : List Place} {S : Nat → Prop} {w : World}
inductive RepP (β : List Place) (S : Nat → Prop) (w : World) : List (Nat × D) → List (Nat × Value) → Prop
  | nil : RepP β S w [] []
  | cons {i : Nat} {d : D} {u : Value} {ds : List (Nat × D)} {us : List (Nat × Value)} : d.Rep β S w u → RepP β S w ds us → RepP β S w ((i, d) :: ds) ((i, u) :: us)
theorem fill_rep (place : Nat → Option (Nat × Nat)) : ∀ {parts : List (Nat × D)} {vals : List (Nat × Value)} {cells res : List D} {us : List Value}, RepP β S w parts vals → D.RepL β S w cells us → fillD place cells parts = some res →
    ∃ us' : List Value, Instr.fill place us.toArray vals = some us'.toArray ∧ D.RepL β S w res us'
  | _, _, _, _, us, .nil, h, hf => by
    simp only [fillD, Option.some.injEq] at hf
    subst hf
    exact ⟨us, rfl, h⟩
  | _, _, cells, res, us, .cons (i := i) (d := d) (u := u) (ds := ds) (us := vals) h1 h2, h, hf => by
    simp only [fillD] at hf
    simp only [Instr.fill]
    cases hp : place i with
    | none => rw [hp] at hf; cases hf
    | some os =>
      obtain ⟨off, size⟩ := os
      rw [hp] at hf
      simp only at hf ⊢
      split at hf
      case isFalse => cases hf
      case isTrue hc =>
        simp only [Bool.and_eq_true, Nat.beq_eq, Nat.ble_eq] at hc
        obtain ⟨⟨hc1, hc2⟩, hc3⟩ := hc
        have hcells := h1.cells hc3
        have hl := hcells.len
        have hul := h.len
        simp only [Array.length_toList] at hl
        rw [if_neg (by simp; omega)]
        have e : (u.cells.zipIdx.foldl (fun cs (x : Value × Nat) => cs.setIfInBounds (off + x.2) x.1) us.toArray) = (splice us off u.cells.toList).toArray := by
          apply Array.ext'
          rw [← Array.foldl_toList, Array.toList_zipIdx]
          have := foldl_set off u.cells.toList 0 us.toArray (by simp; omega)
          simpa [splice] using this
        rw [e]
        exact fill_rep place h2 (h.splice hcells off) hf
end
inductive EvP (s : St) (g : Bool) : List (Nat × Operand) → List (Nat × D) → Prop
  | nil : EvP s g [] []
  | cons {i : Nat} {x : Operand} {xs : List (Nat × Operand)} {d : D} {ds : List (Nat × D)} : Ev s g x d → EvP s g xs ds → EvP s g ((i, x) :: xs) ((i, d) :: ds)
section
variable {P : Program} {s : St} {g : Bool} {dst : Option Tmp} {ty : TypeId} {pos : String} {af : Array Edge} {gd : Option (Nat × Bool)}
theorem EvP.rep {l : Array Operand} {β : List Place} {S : Nat → Prop} {a : Act} {w : World} (he : ∀ t, .tmp t ∈ l → EntAt s β S w a t) (hg : g = true) : ∀ {xs : List (Nat × Operand)} {ds : List (Nat × D)}, EvP s g xs ds → (∀ x ∈ xs, x.2 ∈ l) → RepP β S w ds (xs.map fun x => (x.1, a.eval x.2))
  | _, _, .nil, _ => .nil
  | _, _, .cons h1 h3, hm => .cons (h1.rep (hm _ List.mem_cons_self) he hg) (EvP.rep he hg h3 fun x hx => hm x (List.mem_cons_of_mem _ hx))
/-- where the fields lie -/
inductive Places (P : Program) : List Field → List (Nat × Nat) → Prop
  | nil : Places P [] []
  | cons {f : Field} {fs : List Field} {l : List (Nat × Nat)} {i : TypeInfo} {u : TypeDesc} : TyI P f.type i u → Places P fs l → Places P (f :: fs) ((f.offset, i.size) :: l)
theorem Places.run {w : World} : ∀ {fs : List Field} {l : List (Nat × Nat)}, Places P fs l → (fs.mapM (fun f => do pure (f.offset, ← sizeOf f.type) : Field → Sem (Nat × Nat))).run P w = .ok l w
  | _, _, .nil => rfl
  | _, _, .cons h1 h2 => by
    rw [List.mapM_cons, Sem.run_bind, Sem.run_bind, run_sizeOf' h1.ti]
    simp only [Result.andThen_ok, Sem.run_pure, Sem.run_bind, Places.run h2]
theorem MOp.build {t : TypeId} {parts : Array (Nat × Operand)} {i : TypeInfo} {fs : Array Field} {z : Value} {pls : List (Nat × Nat)} {ds : List (Nat × D)} {res : List D} [h : TyI P t i (.struct fs)] (hz : i.zero = some z) (hpl : Places P fs.toList pls) (hp : EvP s g parts.toList ds)
    (hf : fillD (fun i : Nat => pls[i]?) (z.cells.toList.map (fun v => D.p (.x v))) ds = some res) : MOp P s ⟨dst, .build t parts, ty, pos, af, gd⟩ g (.agg res) := by
  refine ⟨fun β S a w ho he hg K Q hK => ?_⟩
  have h1 := hp.rep (l := (Op.build t parts).operands) he hg (by
    intro x hx
    simp only [Op.operands, List.mem_toArray, List.mem_map]
    exact ⟨x, hx, rfl⟩)
  have hc : D.RepL β S w (z.cells.toList.map (fun v => D.p (.x v))) z.cells.toList := by
    have := D.RepL.p (β := β) (V.RepL.x (S := S) (w := w) (l := z.cells.toList))
    rwa [List.map_map] at this
  obtain ⟨us, h2, h3⟩ := fill_rep _ h1 hc hf
  rw [Array.toArray_toList] at h2
  refine wp_value (v := .agg us.toArray) (w' := w) ?_ (hK _ w (Ext.refl w) ⟨us, rfl, h3⟩)
  have hm := hpl.run (w := w)
  have e : (fs.mapM (fun f => do pure (f.offset, ← sizeOf f.type) : Field → Sem (Nat × Nat))).run P w = .ok pls.toArray w := by
    have : fs = fs.toList.toArray := by simp
    rw [this, List.mapM_toArray, Sem.run_map, hm]
    rfl
  simp only [execOp, Instr.build, Sem.run_bind, run_zeroValue' h.ti hz, Result.andThen_ok, run_underlying h.ut, e]
  have e2 : (parts.map fun x => (x.1, a.eval x.2)).toList = parts.toList.map fun x => (x.1, a.eval x.2) := by simp
  have e3 : (fun i => (pls.toArray : Array (Nat × Nat))[i]?) = (fun i : Nat => pls[i]?) := by funext i; simp
  have h2' : Instr.fill (fun i => pls.toArray[i]?) z.cells (parts.map fun x => (x.1, a.eval x.2)).toList = some us.toArray := by rw [e2, e3]; exact h2
  simp only [Array.toList_map] at h2' ⊢
  rw [h2']
  rfl
theorem MOp.buildV {t : TypeId} {parts : Array (Nat × Operand)} {i : TypeInfo} {fs : Array Field} {z : Value} {pls : List (Nat × Nat)} {ds : List (Nat × D)} {res : List D} {vs : List V} [h : TyI P t i (.struct fs)] (hz : i.zero = some z) (hpl : Places P fs.toList pls) (hp : EvP s g parts.toList ds)
    (hf : fillD (fun i : Nat => pls[i]?) (z.cells.toList.map (fun v => D.p (.x v))) ds = some res) (hv : D.toVL res = some vs) : MOp P s ⟨dst, .build t parts, ty, pos, af, gd⟩ g (.p (.agg vs)) := by
  refine ⟨fun β S a w ho he hg K Q hK => ?_⟩
  refine (MOp.build hz hpl hp hf).run β S a w ho he hg K Q fun u w' h1 h2 => hK u w' h1 ?_
  obtain ⟨us, h3, h4⟩ := h2
  exact ⟨us, h3, D.RepL.toV hv h4⟩
/-- what a zero row holds -/
def zeroD (z : Value) (n : Nat) : List D := (List.range n).map fun q => D.p (.x (z.cells[q % z.cells.size]!))
theorem MOp.buildSlice {t e : TypeId} {len : Nat} {parts : Array (Nat × Operand)} {i j : TypeInfo} {u : TypeDesc} {z : Value} {ds : List (Nat × D)} {res : List D} {vs : List V} [h : TyI P t i (.slice e)] [h' : TyI P e j u] (hz : j.zero = some z) (hlen : Nat.ble (len * j.size) 16777216 = true) (hp : EvP s g parts.toList ds)
    (hf : fillD (fun i => some (i * j.size, j.size)) (zeroD z (len * j.size)) ds = some res) (hv : D.toVL res = some vs) (hlm : Nat.ble len 1000000 = true) : MOp P s ⟨dst, .buildSlice t len parts, ty, pos, af, gd⟩ g (.p (.fl len vs)) := by
  refine ⟨fun β S a w ho he hg K Q hK => ?_⟩
  have hlen : len * j.size ≤ 16777216 := by simpa using hlen
  have hlm : len ≤ 1000000 := by simpa using hlm
  have h1 := hp.rep (l := (Op.buildSlice t len parts).operands) he hg (by
    intro x hx
    simp only [Op.operands, List.mem_toArray, List.mem_map]
    exact ⟨x, hx, rfl⟩)
  have hc : D.RepL β S w (zeroD z (len * j.size)) ((List.range (len * j.size)).map fun q => z.cells[q % z.cells.size]!) := by
    have := D.RepL.p (β := β) (V.RepL.x (S := S) (w := w) (l := (List.range (len * j.size)).map fun q => z.cells[q % z.cells.size]!))
    rw [List.map_map, List.map_map] at this
    exact this
  obtain ⟨us, h2, h3⟩ := fill_rep _ h1 hc hf
  have hx : Ext w (w.alloc (.cells us.toArray e)) := (Ext.refl w).alloc _
  refine wp_value (v := .slice (some ⟨w.heap.size, 0, none⟩) len len) (w' := w.alloc (.cells us.toArray e)) ?_ (hK _ _ hx ⟨_, us, rfl, by simp only [maxLen]; omega, (D.RepL.toV hv h3).ext hx, ?_⟩)
  · have e2 : (parts.map fun x => (x.1, a.eval x.2)).toList = parts.toList.map fun x => (x.1, a.eval x.2) := by simp
    have e3 : ((Array.range (len * j.size)).map fun q => z.cells[q % z.cells.size]!) = ((List.range (len * j.size)).map fun q => z.cells[q % z.cells.size]!).toArray := by
      apply Array.ext'; simp
    have hge : ¬ len * j.size > 2 ^ 24 := by omega
    by_cases h0 : len * j.size = 0
    · rw [h0] at h2
      simp only [List.range_zero, List.map_nil] at h2
      have h2' : Instr.fill (fun i => some (i * j.size, j.size)) #[] (List.map (fun x => (x.fst, a.eval x.snd)) parts.toList) = some us.toArray := h2
      simp only [execOp, Instr.buildSlice, Sem.run_bind, run_underlying h.ut, Result.andThen_ok, run_sizeOf' h'.ti, if_neg hge, Sem.run_pure, h0]
      have hge0 : ¬ (0 : Nat) > 2 ^ 24 := by omega
      have hr0 : Array.range 0 = #[] := rfl
      simp only [if_neg hge0, if_true, Sem.run_bind, Sem.run_pure, Result.andThen_ok, Array.toList_map, hr0, List.map_toArray, List.map_nil]
      rw [h2']
      simp [newRow, go_sem]
    · simp only [execOp, Instr.buildSlice, Sem.run_bind, run_underlying h.ut, Result.andThen_ok, run_sizeOf' h'.ti, if_neg hge, if_neg h0, Sem.run_pure, run_zeroValue' h'.ti hz]
      simp only [Array.toList_map, e3]
      rw [h2]
      simp [newRow, go_sem]
  · intro q y hq
    refine ⟨w.heap.size, 0, rfl, ?_, ho.up _ (Nat.le_refl _)⟩
    have := World.news_of_block (heap_alloc_new w (.cells us.toArray e)) q y (by simpa using hq)
    rwa [add_lit] at this
/-! ### s[lo:hi] of a slice that does not change -/
theorem V.cut {α : Type} {enc : α → List V} {sz : Nat} (hsz : ∀ q, (enc q).length = sz) : ∀ (l : List α) (k : Nat), (l.flatMap enc).drop (k * sz) = (l.drop k).flatMap enc
  | _, 0 => by simp
  | [], k + 1 => by simp
  | y :: l, k + 1 => by
    rw [List.flatMap_cons, Nat.add_mul, Nat.one_mul, show k * sz + sz = (enc y).length + k * sz by rw [hsz]; omega, List.drop_append, List.drop_of_length_le (by omega)]
    simpa using V.cut hsz l k
theorem V.cutT {α : Type} {enc : α → List V} {sz : Nat} (hsz : ∀ q, (enc q).length = sz) : ∀ (l : List α) (k : Nat), (l.flatMap enc).take (k * sz) = (l.take k).flatMap enc
  | _, 0 => by simp
  | [], k + 1 => by simp
  | y :: l, k + 1 => by
    rw [List.flatMap_cons, Nat.add_mul, Nat.one_mul, show k * sz + sz = (enc y).length + k * sz by rw [hsz]; omega, List.take_append, List.take_of_length_le (by omega)]
    simp [V.cutT hsz l k]
theorem V.Rep.sliced {α : Type} {enc : α → List V} {l : List α} {S : Nat → Prop} {w : World} {a : Option Addr} {c n : Nat} {sz lo hi : Nat} (hsz : ∀ q, (enc q).length = sz) (h : (V.list enc l).Rep S w (.slice a n c)) (h1 : lo ≤ hi) (h2 : hi ≤ l.length) :
    (V.list enc ((l.take hi).drop lo)).Rep S w (Go.sliced a lo hi c sz) := by
  obtain ⟨a', c', us, e, h3, h4, h5, h6⟩ := h
  injection e with e1 e2 e3
  subst e1; subst e2; subst e3
  have hlen : ((l.take hi).drop lo).length = hi - lo := by simp; omega
  refine ⟨_, c - lo, (us.take (hi * sz)).drop (lo * sz), by rw [hlen]; rfl, by rw [hlen]; omega, by omega, ?_, ?_⟩
  · rw [← V.cut hsz, ← V.cutT hsz]
    exact (h5.take _).drop _
  · intro j y hj
    have hj' := hj
    rw [List.getElem?_drop, List.getElem?_take] at hj
    split at hj
    case isFalse => cases hj
    case isTrue hlt =>
      obtain ⟨b, o, rfl, h7, h8⟩ := h6 _ _ hj
      have hlh : lo < hi := by
        rcases Nat.lt_or_ge lo hi with h | h
        · exact h
        · have : hi * sz ≤ lo * sz := Nat.mul_le_mul_right _ h
          omega
      refine ⟨b, o + lo * sz, ?_, by rw [Nat.add_assoc]; exact h7, h8⟩
      rw [if_neg (by omega)]
      simp [add_lit]
section
variable {α : Type} {enc : α → List V} {l : List α} {t e : TypeId} {i j : TypeInfo} {u : TypeDesc} {x y z : Operand} {k k' : IntKind} {lo hi : Int}
theorem MOp.sliceLH [h : TyI P t i (.slice e)] [h' : TyI P e j u] (hx : Ev s g x (.p (V.list enc l))) (hy : Ev s g y (.p (.x (.int k lo)))) (hz : Ev s g z (.p (.x (.int k' hi)))) (hsz : ∀ q, (enc q).length = j.size) (hb : g = true → 0 ≤ lo ∧ lo ≤ hi ∧ hi ≤ l.length) :
    MOp P s ⟨dst, .slice t x (some y) (some z) none, ty, pos, af, gd⟩ g (.p (V.list enc ((l.take hi.toNat).drop lo.toNat))) := by
  refine ⟨fun β S a w ho he hg K Q hK => ?_⟩
  obtain ⟨b1, b2, b3⟩ := hb hg
  have r1 := hx.rep (l := (Op.slice t x (some y) (some z) none).operands) (by simp [Op.operands]) he hg
  have r2 : a.eval y = .int k lo := hy.rep (l := (Op.slice t x (some y) (some z) none).operands) (by simp [Op.operands]) he hg
  have r3 : a.eval z = .int k' hi := hz.rep (l := (Op.slice t x (some y) (some z) none).operands) (by simp [Op.operands]) he hg
  obtain ⟨ad, c, us, h1, h2, h3⟩ := id r1
  rw [h1] at r1
  have hcap : hi ≤ (c : Int) := by omega
  have hu : P.underlying t = some (.slice (P.elem t)) := by simp [Program.elem, h.ut]
  have hel : P.elem t = e := by simp [Program.elem, h.ut]
  refine wp_value (v := Go.sliced ad lo.toNat hi.toNat c j.size) (w' := w) ?_ (hK _ w (Ext.refl w) (V.Rep.sliced hsz r1 (by omega) (by omega)))
  simp only [execOp, h1, r2, r3, Option.map_some, Option.map_none, Sem.run_bind]
  rw [run_sliceAt_slice w t _ _ _ _ hu, run_slice_lh w t ad l.length c hu k k' lo hi b1 b2 hcap, hel, run_sizeOf' h'.ti]
  rfl
theorem MOp.sliceH [h : TyI P t i (.slice e)] [h' : TyI P e j u] (hx : Ev s g x (.p (V.list enc l))) (hz : Ev s g z (.p (.x (.int k' hi)))) (hsz : ∀ q, (enc q).length = j.size) (hb : g = true → 0 ≤ hi ∧ hi ≤ l.length) :
    MOp P s ⟨dst, .slice t x none (some z) none, ty, pos, af, gd⟩ g (.p (V.list enc (l.take hi.toNat))) := by
  refine ⟨fun β S a w ho he hg K Q hK => ?_⟩
  obtain ⟨b2, b3⟩ := hb hg
  have r1 := hx.rep (l := (Op.slice t x none (some z) none).operands) (by simp [Op.operands]) he hg
  have r3 : a.eval z = .int k' hi := hz.rep (l := (Op.slice t x none (some z) none).operands) (by simp [Op.operands]) he hg
  obtain ⟨ad, c, us, h1, h2, h3⟩ := id r1
  rw [h1] at r1
  have hcap : hi ≤ (c : Int) := by omega
  have hu : P.underlying t = some (.slice (P.elem t)) := by simp [Program.elem, h.ut]
  have hel : P.elem t = e := by simp [Program.elem, h.ut]
  have hr := V.Rep.sliced (lo := 0) hsz r1 (Nat.zero_le _) (show hi.toNat ≤ l.length by omega)
  rw [List.drop_zero] at hr
  refine wp_value (v := Go.sliced ad 0 hi.toNat c j.size) (w' := w) ?_ (hK _ w (Ext.refl w) hr)
  simp only [execOp, h1, r3, Option.map_some, Option.map_none, Sem.run_bind]
  rw [run_sliceAt_slice w t _ _ _ _ hu, run_slice_h w t ad l.length c hu k' hi b2 hcap, hel, run_sizeOf' h'.ti]
  rfl
theorem MOp.sliceL [h : TyI P t i (.slice e)] [h' : TyI P e j u] (hx : Ev s g x (.p (V.list enc l))) (hy : Ev s g y (.p (.x (.int k lo)))) (hsz : ∀ q, (enc q).length = j.size) (hb : g = true → 0 ≤ lo ∧ lo ≤ l.length) :
    MOp P s ⟨dst, .slice t x (some y) none none, ty, pos, af, gd⟩ g (.p (V.list enc (l.drop lo.toNat))) := by
  refine ⟨fun β S a w ho he hg K Q hK => ?_⟩
  obtain ⟨b1, b3⟩ := hb hg
  have r1 := hx.rep (l := (Op.slice t x (some y) none none).operands) (by simp [Op.operands]) he hg
  have r2 : a.eval y = .int k lo := hy.rep (l := (Op.slice t x (some y) none none).operands) (by simp [Op.operands]) he hg
  obtain ⟨ad, c, us, h1, h2, h3⟩ := id r1
  rw [h1] at r1
  have hu : P.underlying t = some (.slice (P.elem t)) := by simp [Program.elem, h.ut]
  have hel : P.elem t = e := by simp [Program.elem, h.ut]
  have hr := V.Rep.sliced (lo := lo.toNat) (hi := l.length) hsz r1 (by omega) (Nat.le_refl _)
  rw [List.take_length] at hr
  refine wp_value (v := Go.sliced ad lo.toNat l.length c j.size) (w' := w) ?_ (hK _ w (Ext.refl w) hr)
  simp only [execOp, h1, r2, Option.map_some, Option.map_none, Sem.run_bind]
  rw [run_sliceAt_slice w t _ _ _ _ hu]
  have : (lo.toNat : Int) = lo := Int.toNat_of_nonneg b1
  simp [Instr.slice, run_underlying hu, Instr.sliceBounds, run_sliceBound, Go.sliced, b1, b3, hel, run_sizeOf' h'.ti]
end
end
end Go.Sy
