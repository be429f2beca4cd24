/- Regions whose order is open, with stores between. No program in sight. -/
import Derived.Test.YtblabchnpkofgaaDm
set_option linter.unusedSimpArgs false
set_option linter.unusedVariables false
namespace Go.Sy
open Go.RowKit

/-- may i come behind j, though it stands ahead? -/
def loose (ops : Array Oper) (i j : Nat) : Bool := !((masks ops.toList []).getD j 0).testBit i
/-- what changes boxes is waited for by all behind it -/
def storesOk (ops : Array Oper) (ws : List Nat) : Bool :=
  ws.all fun j => match ops[j]? with
    | some o => o.guard.isNone && (List.range ops.size).all fun i => !decide (j < i) || ((masks ops.toList []).getD i 0).testBit j
    | none => false
/-- what is left of a datum when row k has moved -/
def D.cl : Option Nat → D → D
  | none, d => d
  | some k, d => d.clean k
def TM.cl : Option Nat → List (Nat × Bool × D) → List (Nat × Bool × D)
  | none, l => l
  | some k, l => TM.clean k l
structure Moved (kk : Option Nat) (β β' : List Place) (S S' : Nat → Prop) (w w' : World) : Prop where
  β : ∀ (i : Nat) (e : Place), kk ≠ some i → β[i]? = some e → β'[i]? = some e
  mem : ∀ b, S b → b < w.heap.size → w'.heap[b]? = w.heap[b]?
  S : ∀ b, S b → b < w.heap.size → S' b
/-- an operation that changes boxes: what they hold behind it -/
structure WStep (P : Program) (c : Ctx) (n : Nat) (ops : Array Oper) (s : St) (o : Oper) (kk : Option Nat) (H' : List (Option Box)) (d : D) : Prop where
  ds : dstOk n o = true
  run : ∀ β S a w, HSt c s.H β S w → (∀ t ∈ o.looksAt ops, EntAt s β S w a t) → ∀ (K : Act → World → Prop) (Q : Exit → Act → World → Prop), (∀ u β' S' w', HSt c H' β' S' w' → Moved kk β β' S S' w w' → (o.dst ≠ none → d.Rep β' S' w' u) → K (a.put o.dst u) w') → o.wp P a w K Q
structure Past where
  i : Nat
  o : Oper
  g : Bool
  d : D
  tm : List (Nat × Bool × D)
def Past.cl (kk : Option Nat) (e : Past) : Past := ⟨e.i, e.o, e.g, e.d.cl kk, TM.cl kk e.tm⟩
inductive XTo (P : Program) (c : Ctx) (n : Nat) (ops : Array Oper) (ws : List Nat) (T : St → Prop) : Nat → List Oper → St → List Past → Prop
  | done {k : Nat} {s : St} {past : List Past} : T s → XTo P c n ops ws T k [] s past
  | read {k : Nat} {o : Oper} {l : List Oper} {s : St} {past : List Past} {g : Bool} {d : D} : ws.contains k = false → MStep P n ops s o g d → XTo P c n ops ws T (k + 1) l (s.put o.dst g d) (⟨k, o, g, d, s.tm⟩ :: past) → XTo P c n ops ws T k (o :: l) s past
  | write {k : Nat} {o : Oper} {l : List Oper} {s : St} {past : List Past} {kk : Option Nat} {H' : List (Option Box)} {d : D} : ws.contains k = true → WStep P c n ops s o kk H' d → (∀ e ∈ past.filter fun e => loose ops e.i k, MStep P n ops ⟨TM.cl kk e.tm, H'⟩ e.o e.g (e.d.cl kk)) → XTo P c n ops ws T (k + 1) l (St.put ⟨TM.cl kk s.tm, H'⟩ o.dst true d) (past.map (Past.cl kk)) → XTo P c n ops ws T k (o :: l) s past
theorem masks_get {ops : Array Oper} {i j : Nat} (h : ((masks ops.toList []).getD j 0).testBit i = true) : Waits ops i j := by
  have hb : OkMasks ops (masks ops.toList []) := masks_ok ops _ _ (fun j m h => by simp at h) (fun j => by simp)
  cases hm : (masks ops.toList [])[j]? with
  | none => rw [List.getD_eq_getElem?_getD, hm] at h; simp at h
  | some m =>
    rw [List.getD_eq_getElem?_getD, hm] at h
    exact hb j m hm i h
def IsW (ws : List Nat) (j : Nat) : Prop := ws.contains j = true
theorem storesOk.at {ops : Array Oper} {ws : List Nat} (h : storesOk ops ws = true) {j : Nat} (hj : IsW ws j) : ∃ o, ops[j]? = some o ∧ o.guard = none ∧ ∀ i, j < i → i < ops.size → Waits ops j i := by
  have hm : j ∈ ws := by simpa [IsW] using hj
  have := List.all_eq_true.1 h j hm
  cases ho : ops[j]? with
  | none => rw [ho] at this; cases this
  | some o =>
    rw [ho] at this
    simp only [Bool.and_eq_true] at this
    refine ⟨o, rfl, Option.isNone_iff_eq_none.1 this.1, fun i hij hi => ?_⟩
    have := List.all_eq_true.1 this.2 i (List.mem_range.2 hi)
    simp only [Bool.or_eq_true, Bool.not_eq_true', decide_eq_false_iff_not] at this
    rcases this with h1 | h1
    · exact absurd hij h1
    · exact masks_get h1
section
variable {β β' : List Place} {S S' : Nat → Prop} {w w' : World} {kk : Option Nat}
theorem Moved.rep (h : Moved kk β β' S S' w w') {d : D} {u : Value} (k : d.Rep β S w u) : (d.cl kk).Rep β' S' w' u := by
  cases kk with
  | none => exact k.mono (fun i e => h.β i e (by simp)) h.mem h.S
  | some j => exact k.clean (fun i e hi => h.β i e (by simpa using Ne.symm hi)) h.mem h.S
theorem Moved.ent (h : Moved kk β β' S S' w w') {g : Bool} {d : D} {u : Value} (k : Ent β S w g d u) : Ent β' S' w' g (d.cl kk) u := ⟨fun hg => h.rep (k.1 hg), k.2⟩
theorem TM.cl_get {l : List (Nat × Bool × D)} {t : Nat} {g : Bool} {d : D} (h : TM.get (TM.cl kk l) t = some (g, d)) : ∃ d', TM.get l t = some (g, d') ∧ d = d'.cl kk := by
  cases kk with
  | none => exact ⟨d, h, rfl⟩
  | some k => exact TM.clean_get h
theorem TM.cl_cons {l : List (Nat × Bool × D)} {t : Nat} {g : Bool} {d : D} : TM.cl kk ((t, g, d) :: l) = (t, g, d.cl kk) :: TM.cl kk l := by cases kk <;> rfl
end
theorem stAt_congr {ops : Array Oper} {s : St} {gd gd' : Nat → Bool × D} : ∀ i, (∀ j, j < i → gd j = gd' j) → stAt ops s gd i = stAt ops s gd' i
  | 0, _ => rfl
  | i + 1, h => by
    unfold stAt
    rw [stAt_congr i fun j hj => h j (by omega), h i (by omega)]
theorem stAt_cl {ops : Array Oper} {tm : List (Nat × Bool × D)} {H H' : List (Option Box)} {gd gd' : Nat → Bool × D} {kk : Option Nat} : ∀ i, (∀ j, j < i → gd' j = ((gd j).1, (gd j).2.cl kk)) → (stAt ops ⟨TM.cl kk tm, H'⟩ gd' i).tm = TM.cl kk (stAt ops ⟨tm, H⟩ gd i).tm
  | 0, _ => rfl
  | i + 1, h => by
    have ih := stAt_cl (ops := ops) (tm := tm) (H := H) (H' := H') (gd := gd) (gd' := gd') (kk := kk) i fun j hj => h j (by omega)
    unfold stAt
    rw [h i (by omega)]
    cases (ops[i]?).bind (·.dst) with
    | none => exact ih
    | some t => simp only [St.put, ih, TM.cl_cons]
theorem stAt_tm {ops : Array Oper} (tm : List (Nat × Bool × D)) (H H' : List (Option Box)) (gd : Nat → Bool × D) : ∀ i, (stAt ops ⟨tm, H⟩ gd i).tm = (stAt ops ⟨tm, H'⟩ gd i).tm
  | 0 => rfl
  | i + 1 => by
    unfold stAt
    have ih := stAt_tm (ops := ops) tm H H' gd i
    cases (ops[i]?).bind (·.dst) with
    | none => exact ih
    | some t => simp [St.put, ih]
theorem put_tm {x y : St} {dst : Option Tmp} {g : Bool} {d : D} (h : x.tm = y.tm) : (x.put dst g d).tm = (y.put dst g d).tm := by
  cases dst with
  | none => exact h
  | some t => simp [St.put, h]
theorem put_H {x : St} {dst : Option Tmp} {g : Bool} {d : D} : (x.put dst g d).H = x.H := by cases dst <;> rfl
section
variable {P : Program} {c : Ctx} {n : Nat} {ops : Array Oper} {ws : List Nat} {T : St → Prop} {s0 : St}
/-- what is known at each stage: entries ahead, boxes, data of what is done -/
structure XGood (P : Program) (c : Ctx) (n : Nat) (ops : Array Oper) (ws : List Nat) (s0 : St) (k : Nat) (ts : Nat → List (Nat × Bool × D)) (hs : Nat → List (Option Box)) (G : Nat → Nat → Bool × D) : Prop where
  zero : ts 0 = s0.tm ∧ hs 0 = s0.H
  const : ∀ i, i < k → ¬ IsW ws i → ts (i + 1) = ts i ∧ hs (i + 1) = hs i ∧ ∀ j, G (i + 1) j = G i j
  rd : ∀ i, i < k → ∀ o, ops[i]? = some o → ¬ IsW ws i → ∀ p, i ≤ p → p ≤ k → (∀ j, IsW ws j → i < j → j < p → ¬ Waits ops i j) → MStep P n ops ⟨(stAt ops ⟨ts p, hs p⟩ (G p) i).tm, hs p⟩ o (G p i).1 (G p i).2
  wr : ∀ j, j < k → ∀ o, ops[j]? = some o → IsW ws j → ∃ kk, WStep P c n ops ⟨(stAt ops ⟨ts j, hs j⟩ (G j) j).tm, hs j⟩ o kk (hs (j + 1)) (G (j + 1) j).2 ∧ (G (j + 1) j).1 = true ∧ ts (j + 1) = TM.cl kk (ts j) ∧ ∀ i, i < j → G (j + 1) i = ((G j i).1, (G j i).2.cl kk)
theorem XTo.steps : ∀ {l : List Oper} {k : Nat} {s : St} {past : List Past}, XTo P c n ops ws T k l s past → ∀ (ts0 : Nat → List (Nat × Bool × D)) (hs0 : Nat → List (Option Box)) (G0 : Nat → Nat → Bool × D), s.tm = (stAt ops ⟨ts0 k, hs0 k⟩ (G0 k) k).tm → s.H = hs0 k → (∀ j, l[j]? = ops[k + j]?) →
    (∀ i, i < k → ∀ o, ops[i]? = some o → ¬ IsW ws i → ⟨i, o, (G0 k i).1, (G0 k i).2, (stAt ops ⟨ts0 k, hs0 k⟩ (G0 k) i).tm⟩ ∈ past) → XGood P c n ops ws s0 k ts0 hs0 G0 →
    ∃ ts hs G, XGood P c n ops ws s0 (k + l.length) ts hs G ∧ T ⟨(stAt ops ⟨ts (k + l.length), hs (k + l.length)⟩ (G (k + l.length)) (k + l.length)).tm, hs (k + l.length)⟩
  | [], k, s, past, .done h, ts0, hs0, G0, h1, h2, _, _, hg => ⟨ts0, hs0, G0, hg, by rw [List.length_nil, Nat.add_zero, ← h1, ← h2]; exact h⟩
  | o :: l, k, s, past, .read (g := g) (d := d) hnw hst h, ts0, hs0, G0, h1, h2, hl, hp, hg => by
    have ho : ops[k]? = some o := by simpa using (hl 0).symm
    have hnw : ¬ IsW ws k := by unfold IsW; rw [hnw]; simp
    have := XTo.steps h (fun p => if p = k + 1 then ts0 k else ts0 p) (fun p => if p = k + 1 then hs0 k else hs0 p) (fun p j => if j = k then (g, d) else if p = k + 1 then G0 k j else G0 p j) ?_ ?_ ?_ ?_ ?_
    · rwa [show k + (o :: l).length = k + 1 + l.length by simp; omega]
    · simp only [if_true]
      show _ = (St.put (stAt ops _ _ k) _ _ _).tm
      rw [ho]
      simp only [Option.bind_some, if_true]
      refine put_tm ?_
      rw [h1]
      refine congrArg St.tm (stAt_congr k fun j hj => ?_)
      rw [if_neg (by omega)]
    · rw [put_H, if_pos rfl, h2]
    · intro j
      have := hl (j + 1)
      simpa [Nat.add_assoc, Nat.add_comm 1 j] using this
    · intro i hi o' ho' hd'
      simp only [if_true]
      by_cases e : i = k
      · subst e
        rw [ho] at ho'
        injection ho' with ho'
        subst ho'
        simp only [if_true]
        have e1 : (stAt ops ⟨ts0 i, hs0 i⟩ (fun j => if j = i then (g, d) else G0 i j) i).tm = s.tm := by
          rw [h1]
          refine congrArg St.tm (stAt_congr i fun j hj => ?_)
          rw [if_neg (by omega)]
        rw [e1]
        exact List.mem_cons_self
      · rw [if_neg e]
        have e1 : (stAt ops ⟨ts0 k, hs0 k⟩ (fun j => if j = k then (g, d) else G0 k j) i) = stAt ops ⟨ts0 k, hs0 k⟩ (G0 k) i := stAt_congr i fun j hj => by rw [if_neg (by omega)]
        rw [e1]
        exact List.mem_cons_of_mem _ (hp i (by omega) o' ho' hd')
    · refine ⟨⟨by rw [if_neg (by omega)]; exact hg.zero.1, by rw [if_neg (by omega)]; exact hg.zero.2⟩, ?_, ?_, ?_⟩
      · intro i hi hw
        by_cases e : i = k
        · subst e
          rw [if_pos rfl, if_neg (by omega), if_pos rfl, if_neg (by omega)]
          refine ⟨rfl, rfl, fun j => ?_⟩
          split
          · rfl
          · rw [if_pos rfl, if_neg (by omega)]
        · rw [if_neg (by omega), if_neg (by omega), if_neg (by omega), if_neg (by omega)]
          obtain ⟨c1, c2, c3⟩ := hg.const i (by omega) hw
          refine ⟨c1, c2, fun j => ?_⟩
          split
          · rfl
          · rw [if_neg (by omega), if_neg (by omega)]; exact c3 j
      · intro i hi o' ho' hd' p hip hpk hloose
        have eT : (if p = k + 1 then ts0 k else ts0 p) = ts0 (min p k) := by
          split
          · rename_i e; rw [e, Nat.min_eq_right (by omega)]
          · rw [Nat.min_eq_left (by omega)]
        have eH : (if p = k + 1 then hs0 k else hs0 p) = hs0 (min p k) := by
          split
          · rename_i e; rw [e, Nat.min_eq_right (by omega)]
          · rw [Nat.min_eq_left (by omega)]
        have eG : ∀ j, (if p = k + 1 then G0 k j else G0 p j) = G0 (min p k) j := by
          intro j
          split
          · rename_i e; rw [e, Nat.min_eq_right (by omega)]
          · rw [Nat.min_eq_left (by omega)]
        simp only [eT, eH, eG]
        have eS : stAt ops ⟨ts0 (min p k), hs0 (min p k)⟩ (fun j => if j = k then (g, d) else G0 (min p k) j) i = stAt ops ⟨ts0 (min p k), hs0 (min p k)⟩ (G0 (min p k)) i := stAt_congr i fun j hj => by rw [if_neg (by omega)]
        rw [eS]
        by_cases e : i = k
        · subst e
          rw [ho] at ho'
          injection ho' with ho'
          subst ho'
          rw [if_pos rfl, Nat.min_eq_right hip, ← h1, ← h2]
          exact hst
        · rw [if_neg e]
          exact hg.rd i (by omega) o' ho' hd' (min p k) (by omega) (by omega) fun j hj h3 h4 => hloose j hj h3 (by omega)
      · intro j hj o' ho' hd'
        have e : j ≠ k := by
          rintro rfl
          exact hnw hd'
        obtain ⟨kk, w1, w2, w3, w4⟩ := hg.wr j (by omega) o' ho' hd'
        have n1 : ¬ j + 1 = k + 1 := by omega
        have n2 : ¬ j = k + 1 := by omega
        refine ⟨kk, ?_, ?_, ?_, ?_⟩
        · simp only [if_neg n1, if_neg n2, if_neg e]
          have eS : stAt ops ⟨ts0 j, hs0 j⟩ (fun q => if q = k then (g, d) else G0 j q) j = stAt ops ⟨ts0 j, hs0 j⟩ (G0 j) j := stAt_congr j fun q hq => by rw [if_neg (by omega)]
          rw [eS]
          exact w1
        · simp only [if_neg n1, if_neg e]; exact w2
        · simp only [if_neg n1, if_neg n2]; exact w3
        · intro i hi
          simp only [if_neg n1, if_neg n2]
          rw [if_neg (by omega), if_neg (by omega)]
          exact w4 i hi
  | o :: l, k, s, past, .write (kk := kk) (H' := H') (d := d) hw hst hlo h, ts0, hs0, G0, h1, h2, hl, hp, hg => by
    have ho : ops[k]? = some o := by simpa using (hl 0).symm
    have hw : IsW ws k := hw
    have hcl : ∀ j, j < k → (if j = k then (true, d) else ((G0 k j).1, (G0 k j).2.cl kk)) = ((G0 k j).1, (G0 k j).2.cl kk) := fun j hj => by rw [if_neg (by omega)]
    have := XTo.steps h (fun p => if p = k + 1 then TM.cl kk (ts0 k) else ts0 p) (fun p => if p = k + 1 then H' else hs0 p) (fun p j => if p = k + 1 then (if j = k then (true, d) else ((G0 k j).1, (G0 k j).2.cl kk)) else G0 p j) ?_ ?_ ?_ ?_ ?_
    · rwa [show k + (o :: l).length = k + 1 + l.length by simp; omega]
    · simp only [if_true]
      show _ = (St.put (stAt ops _ _ k) _ _ _).tm
      rw [ho]
      simp only [Option.bind_some, if_true]
      refine put_tm ?_
      rw [h1]
      exact (stAt_cl k hcl).symm
    · rw [put_H, if_pos rfl]
    · intro j
      have := hl (j + 1)
      simpa [Nat.add_assoc, Nat.add_comm 1 j] using this
    · intro i hi o' ho' hd'
      have e : i ≠ k := by rintro rfl; exact hd' hw
      simp only [if_true, if_neg e]
      rw [stAt_cl (H := hs0 k) (gd := G0 k) i fun j hj => hcl j (by omega)]
      exact List.mem_map.2 ⟨_, hp i (by omega) o' ho' hd', rfl⟩
    · refine ⟨⟨by rw [if_neg (by omega)]; exact hg.zero.1, by rw [if_neg (by omega)]; exact hg.zero.2⟩, ?_, ?_, ?_⟩
      · intro i hi hnw
        have e : i ≠ k := by rintro rfl; exact hnw hw
        rw [if_neg (by omega), if_neg (by omega), if_neg (by omega), if_neg (by omega)]
        obtain ⟨c1, c2, c3⟩ := hg.const i (by omega) hnw
        refine ⟨c1, c2, fun j => ?_⟩
        rw [if_neg (by omega), if_neg (by omega)]; exact c3 j
      · intro i hi o' ho' hd' p hip hpk hloose
        have e : i ≠ k := by rintro rfl; exact hd' hw
        by_cases hpe : p = k + 1
        · subst hpe
          simp only [if_true, if_neg e]
          rw [stAt_cl (H := hs0 k) (gd := G0 k) i fun j hj => hcl j (by omega)]
          have hm := hp i (by omega) o' ho' hd'
          refine hlo ⟨i, o', _, _, _⟩ (List.mem_filter.2 ⟨hm, ?_⟩)
          show (!((masks ops.toList []).getD k 0).testBit i) = true
          cases hb : ((masks ops.toList []).getD k 0).testBit i with
          | false => rfl
          | true => exact absurd (masks_get hb) (hloose k hw (by omega) (by omega))
        · simp only [if_neg hpe]
          exact hg.rd i (by omega) o' ho' hd' p hip (by omega) hloose
      · intro j hj o' ho' hd'
        by_cases e : j = k
        · subst e
          rw [ho] at ho'
          injection ho' with ho'
          subst ho'
          have n2 : ¬ j = j + 1 := by omega
          refine ⟨kk, ?_, ?_, ?_, ?_⟩
          · simp only [if_true, if_neg n2]
            rw [← h1, ← h2]
            exact hst
          · simp only [if_true]
          · simp only [if_true, if_neg n2]
          · intro i hi
            have n3 : ¬ i = j := by omega
            simp only [if_true, if_neg n2, if_neg n3]
        · have n1 : ¬ j + 1 = k + 1 := by omega
          have n2 : ¬ j = k + 1 := by omega
          simp only [if_neg n1, if_neg n2]
          exact hg.wr j (by omega) o' ho' hd'
theorem XGood.const' {k : Nat} {ts : Nat → List (Nat × Bool × D)} {hs : Nat → List (Option Box)} {G : Nat → Nat → Bool × D} (h : XGood P c n ops ws s0 k ts hs G) : ∀ (q p : Nat), p + q ≤ k → (∀ j, IsW ws j → p ≤ j → j < p + q → False) → ts (p + q) = ts p ∧ hs (p + q) = hs p ∧ G (p + q) = G p
  | 0, p, _, _ => ⟨rfl, rfl, rfl⟩
  | q + 1, p, hk, hno => by
    obtain ⟨c1, c2, c3⟩ := h.const (p + q) (by omega) (fun hw => hno (p + q) hw (by omega) (by omega))
    obtain ⟨d1, d2, d3⟩ := h.const' q p (by omega) fun j hj h1 h2 => hno j hj h1 (by omega)
    exact ⟨c1.trans d1, c2.trans d2, (funext c3).trans d3⟩
end
section
variable {P : Program} {c : Ctx} {n : Nat} {ops : Array Oper} {ws : List Nat} {Q : Exit → St → Prop} {s : St}
theorem EntAt.tm {s s' : St} {β : List Place} {S : Nat → Prop} {w : World} {a : Act} {t : Tmp} (h : EntAt s β S w a t) (e : s.tm = s'.tm) : EntAt s' β S w a t := fun g d hg => h g d (by rw [e]; exact hg)
/-- The rule: operations that only add memory, and those (ws) that change boxes, in any order that their edges allow. -/
theorem Sym.drawX_any (ws : List Nat) (hsyn : drawOk ops ops.size = true) (hst : storesOk ops ws = true) (h : XTo P c n ops ws (fun s => Q .normal s) 0 ops.toList s []) : ∀ a0 w0, SR c n s a0 w0 → wpAny P .any ops (fun e a' w' => ∃ s', SR c n s' a' w' ∧ Q e s') ops.size (Array.replicate ops.size false) a0 { w0 with drawn := w0.drawn + 1 } := by
  have hd := drawOk.ok hsyn
  obtain ⟨ts, hs, G, hG, hT⟩ := h.steps (s0 := s) (fun _ => s.tm) (fun _ => s.H) (fun _ _ => (true, .p (.x undef))) rfl rfl (fun j => by simp) (fun i hi => by omega) ⟨⟨rfl, rfl⟩, fun i hi => by omega, fun i hi => by omega, fun i hi => by omega⟩
  simp only [Nat.zero_add, Array.length_toList] at hG hT
  rintro a0 w0 ⟨β, S, hH, hdf, hn, he⟩
  have hx0 : Ext w0 { w0 with drawn := w0.drawn + 1 } := (Ext.refl w0).drew
  have M0 : Mid c n ops ⟨ts 0, hs 0⟩ (G 0) β S ops.size a0 (Array.replicate ops.size false) a0 { w0 with drawn := w0.drawn + 1 } := by
    refine ⟨by rw [hG.zero.2]; exact hH.ext hx0, hdf, hn, fun t => ((he t).ext hx0).tm hG.zero.1.symm, hn, ?_, ?_, fun _ _ => rfl⟩
    · intro i h1 h2; simp [Array.getD, h2] at h1
    · intro i t h1 h2; simp [Array.getD, h2] at h1
  have main : ∀ (fuel : Nat) (listed : Array Bool) (a : Act) (w : World) (β : List Place) (S : Nat → Prop) (p : Nat), p ≤ ops.size → (∀ j, IsW ws j → (listed.getD j true = true ↔ j < p)) → listed.size = ops.size → (List.range ops.size).countP (fun i => !listed.getD i true) ≤ fuel →
      Mid c n ops ⟨ts p, hs p⟩ (G p) β S ops.size a0 listed a w → (∀ i j, Waits ops i j → listed.getD j true = true → j < ops.size → listed.getD i true = true) →
      wpAny P .any ops (fun e a' w' => ∃ s', SR c n s' a' w' ∧ Q e s') fuel listed a w := by
    have fulls : ∀ (listed : Array Bool) (a : Act) (w : World) (β : List Place) (S : Nat → Prop) (p : Nat), p ≤ ops.size → (∀ j, IsW ws j → (listed.getD j true = true ↔ j < p)) → Mid c n ops ⟨ts p, hs p⟩ (G p) β S ops.size a0 listed a w → (∀ i, i < ops.size → listed.getD i true = true) →
        ∃ s', SR c n s' a w ∧ Q .normal s' := by
      intro listed a w β S p hp hwr M hall
      have hdsk : ∀ i, i < ops.size → ∀ o, ops[i]? = some o → dstOk n o = true := fun i hi o ho => by
        by_cases e : IsW ws i
        · obtain ⟨_, w1, _⟩ := hG.wr i hi o ho e
          exact w1.ds
        · exact (hG.rd i hi o ho e i (Nat.le_refl _) (by omega) fun j _ h1 h2 => by omega).ds
      have h1 := M.full hdsk hall (Nat.le_refl _)
      refine ⟨_, h1, ?_⟩
      have e1 := hG.const' (ops.size - p) p (by omega) fun j hj h1 h2 => by
        have := (hwr j hj).1 (hall j (by omega))
        omega
      rw [show p + (ops.size - p) = ops.size by omega] at e1
      rw [e1.1, e1.2.1, e1.2.2] at hT
      have h3 : (stAt ops ⟨ts p, hs p⟩ (G p) ops.size).H = hs p := stAt_H _
      have e2 : stAt ops ⟨ts p, hs p⟩ (G p) ops.size = ⟨(stAt ops ⟨ts p, hs p⟩ (G p) ops.size).tm, hs p⟩ := by
        calc stAt ops ⟨ts p, hs p⟩ (G p) ops.size = ⟨(stAt ops ⟨ts p, hs p⟩ (G p) ops.size).tm, (stAt ops ⟨ts p, hs p⟩ (G p) ops.size).H⟩ := rfl
          _ = _ := by rw [h3]
      rw [e2]
      exact hT
    have noReady : ∀ (listed : Array Bool), listed.size = ops.size → Region.ready .any ops listed = [] → ∀ i, i < ops.size → listed.getD i true = true := by
      intro listed hsz hr i
      induction i using Nat.strongRecOn with
      | ind i ihi =>
        intro hi
        cases hb : listed.getD i true with
        | true => rfl
        | false =>
          have := ready_mem hd hi hsz (fun j hj => ihi j hj (by omega)) hb
          rw [hr] at this
          cases this
    intro fuel
    induction fuel with
    | zero =>
      intro listed a w β S p hp hwr hsz hc M hcl
      have hall : ∀ i, i < ops.size → listed.getD i true = true := fun i hi => by
        have h0 := List.countP_eq_zero.1 (Nat.le_zero.1 hc) i (List.mem_range.2 hi)
        simpa using h0
      refine ⟨?_, fulls listed a w β S p hp hwr M hall⟩
      cases hr : Region.ready .any ops listed with
      | nil => rfl
      | cons i _ =>
        exfalso
        have hi : i ∈ Region.ready .any ops listed := by rw [hr]; exact List.mem_cons_self
        obtain ⟨hun, o, ho, _⟩ := ready_iff.1 hi
        rw [hall i (Array.getElem?_eq_some_iff.1 ho).1] at hun
        cases hun
    | succ fuel ih =>
      intro listed a w β S p hp hwr hsz hc M hcl
      refine ⟨fun hr => fulls listed a w β S p hp hwr M (noReady listed hsz hr), fun i hi => ?_⟩
      obtain ⟨hun, o, ho, hpre⟩ := ready_iff.1 hi
      have his := (Array.getElem?_eq_some_iff.1 ho).1
      have hwait : ∀ j, Waits ops j i → listed.getD j true = true := by
        intro j hj
        obtain ⟨o', ho', e, he', hb', h | h⟩ := hj.last
        · rw [ho] at ho'
          injection ho' with ho'
          subst ho'
          exact h ▸ (getD_false (hpre e he' hb')).2
        · rw [ho] at ho'
          injection ho' with ho'
          subst ho'
          have h1 := getD_false (hpre e he' hb')
          exact hcl j e.on h h1.2 (by omega)
      have hcnt : (List.range ops.size).countP (fun j => !(listed.setIfInBounds i true).getD j true) ≤ fuel := by
        have := countP_lt' (p := fun i => !listed.getD i true) (q := fun j => !(listed.setIfInBounds i true).getD j true) (i := i) (fun j hj => by
          rw [getD_set' (by omega) true] at hj
          by_cases h : i = j
          · rw [if_pos h] at hj; cases hj
          · rw [if_neg h] at hj; exact hj) (by simpa using hun) (by rw [getD_set' (by omega) true, if_pos rfl]; rfl) (List.mem_range.2 his)
        omega
      have hcl' : ∀ p q, Waits ops p q → (listed.setIfInBounds i true).getD q true = true → q < ops.size → (listed.setIfInBounds i true).getD p true = true := by
        intro p q hpq hq hqs
        rw [getD_set' (by omega) true] at hq ⊢
        split
        · rfl
        · by_cases h : i = q
          · subst h; exact hwait p hpq
          · rw [if_neg h] at hq; exact hcl p q hpq hq hqs
      -- all that changes boxes ahead of i is done
      have hahead : ∀ j, IsW ws j → j < i → j < p := fun j hj hji => by
        obtain ⟨_, _, _, h3⟩ := storesOk.at hst hj
        exact (hwr j hj).1 (hwait j (h3 i hji his))
      by_cases hw : IsW ws i
      · have hip : p ≤ i := by
          rcases Nat.lt_or_ge i p with h | h
          · rw [(hwr i hw).2 h] at hun; cases hun
          · exact h
        have e1 := hG.const' (i - p) p (by omega) fun j hj h1 h2 => by
          have := hahead j hj (by omega)
          omega
        rw [show p + (i - p) = i by omega] at e1
        rw [← e1.1, ← e1.2.1, ← e1.2.2] at M
        have hents := M.ents hd hsz hcl ho hun hwait
        obtain ⟨o', ho', hgd, hbehind⟩ := storesOk.at hst hw
        rw [ho] at ho'
        injection ho' with ho'
        subst ho'
        obtain ⟨kk, w1, w2, w3, w4⟩ := hG.wr i his o ho hw
        have hlist : ∀ j, listed.getD j true = true → j < ops.size → j < i := by
          intro j hj hjs
          rcases Nat.lt_trichotomy j i with h | h | h
          · exact h
          · subst h; rw [hj] at hun; cases hun
          · rw [hcl i j (hbehind j h hjs) hj hjs] at hun; cases hun
        have key := w1.run β S a w M.hst (fun t ht => (hents t ht).tm rfl) (wpAny P .any ops (fun e a' w' => ∃ s', SR c n s' a' w' ∧ Q e s') fuel (listed.setIfInBounds i true)) (fun e a' w' => ∃ s', SR c n s' a' w' ∧ Q e s') fun u β' S' w' hH' hmv hu => by
          refine ih _ _ _ β' S' (i + 1) (by omega) ?_ (by simpa using hsz) hcnt ?_ hcl'
          · intro j hj
            rw [getD_set' (by omega) true]
            by_cases e : i = j
            · subst e; simp
            · rw [if_neg e, hwr j hj]
              constructor
              · intro h; omega
              · intro h
                exact hahead j hj (by omega)
          · refine ⟨hH', by rw [defers_put, M.defers], by rw [size_put, M.size], fun t g d hg => ?_, M.size0, fun j hj hjs => hjs, ?_, ?_⟩
            · rw [w3] at hg
              obtain ⟨d', h1, rfl⟩ := TM.cl_get hg
              have := M.init t g d' h1
              exact ⟨this.1, hmv.ent this.2⟩
            · intro j t hj hjs hjd
              rw [getD_set' (by omega) true] at hj
              by_cases e : i = j
              · subst e
                rw [bind_dst ho] at hjd
                have hlt := dstOk.lt w1.ds t hjd
                refine ⟨hlt, ?_⟩
                rw [hjd, getD_put' (by rw [M.size]; exact hlt), if_pos rfl]
                exact ⟨fun _ => hu (by rw [hjd]; simp), fun h => by rw [w2] at h; cases h⟩
              · rw [if_neg e] at hj
                have h1 := M.done j t hj hjs hjd
                refine ⟨h1.1, ?_⟩
                have : (a.put o.dst u).tmps.getD t undef = a.tmps.getD t undef := by
                  cases hod : o.dst with
                  | none => rfl
                  | some k =>
                    rw [getD_put' (by rw [M.size]; exact dstOk.lt w1.ds k hod), if_neg]
                    rintro rfl
                    obtain ⟨x, hx, hxd⟩ := bind_some hjd
                    exact e (hd.once i j o x k ho hx hod hxd)
                rw [this, w4 j (hlist j hj hjs)]
                exact hmv.ent h1.2
            · intro t ht
              have h1 : o.dst ≠ some t := by
                have := ht i (by rw [getD_set' (by omega) true, if_pos rfl]) his
                rwa [bind_dst ho] at this
              have h2 := M.same t fun j hj hjs => ht j (by rw [getD_set' (by omega) true]; split; rfl; exact hj) hjs
              rw [← h2]
              cases hod : o.dst with
              | none => rfl
              | some k =>
                rw [getD_put' (by rw [M.size]; exact dstOk.lt w1.ds k hod), if_neg]
                rintro rfl
                exact h1 hod
        unfold wpOp
        simp only [ho]
        have hgd : Region.wanted o (yielded ops a.tmps) = true := by simp [Region.wanted, hgd]
        rw [if_pos hgd]
        exact .inl key
      · -- the stage, not ahead of i
        have hq : ∃ q, i ≤ q ∧ q ≤ ops.size ∧ (ts q = ts p ∧ hs q = hs p ∧ G q = G p) ∧ (∀ j, IsW ws j → i < j → j < q → ¬ Waits ops i j) := by
          rcases Nat.lt_or_ge p i with h | h
          · refine ⟨i, Nat.le_refl _, by omega, ?_, fun j _ h1 h2 => by omega⟩
            have := hG.const' (i - p) p (by omega) fun j hj h1 h2 => by
              have := hahead j hj (by omega)
              omega
            rwa [show p + (i - p) = i by omega] at this
          · refine ⟨p, h, hp, ⟨rfl, rfl, rfl⟩, fun j hj h1 h2 hij => ?_⟩
            have := hcl i j hij ((hwr j hj).2 h2) (by obtain ⟨o', ho', _⟩ := storesOk.at hst hj; exact (Array.getElem?_eq_some_iff.1 ho').1)
            rw [this] at hun
            cases hun
        obtain ⟨q, hq1, hq2, ⟨hq3, hq5, hq6⟩, hq4⟩ := hq
        have hms := hG.rd i his o ho hw q hq1 hq2 hq4
        rw [hq3, hq5, hq6] at hms
        have hents := M.ents hd hsz hcl ho hun hwait
        have hw' := hms.run (a := a) (w := w) (β := β) (S := S) M.hst.toHOk (fun t ht => (hents t ht).tm rfl)
          (K := wpAny P .any ops (fun e a' w' => ∃ s', SR c n s' a' w' ∧ Q e s') fuel (listed.setIfInBounds i true)) (Q := fun e a' w' => ∃ s', SR c n s' a' w' ∧ Q e s') fun u w' hx hu => by
            refine ih _ _ _ β S p hp ?_ (by simpa using hsz) hcnt (M.next hd hsz ho his hun hms.ds hx hu) hcl'
            intro j hj
            rw [getD_set' (by omega) true, if_neg (by rintro rfl; exact hw hj)]
            exact hwr j hj
        unfold wpOp
        simp only [ho]
        split
        · rename_i h; rw [if_pos h] at hw'; exact .inl hw'
        · rename_i h; rw [if_neg h] at hw'; exact hw'
  refine main _ _ _ _ β S 0 (Nat.zero_le _) ?_ (by simp) (Nat.le_trans List.countP_le_length (by simp)) M0 ?_
  · intro j hj
    obtain ⟨o, ho, _⟩ := storesOk.at hst hj
    have := (Array.getElem?_eq_some_iff.1 ho).1
    simp [Array.getD, this]
  · intro i j _ h hj
    simp [Array.getD, hj] at h
theorem Sym.drawX {id : Nat} (ws : List Nat) (hm : P.follows .mixedOrders = true) (hsyn : drawOk ops ops.size = true) (hst : storesOk ops ws = true) (h : XTo P c n ops ws (fun s => Q .normal s) 0 ops.toList s []) : Sym P c n (.region id ops true) Q s :=
  fun a w hr => wp_region_any hm (Sym.drawX_any ws hsyn hst h a w hr)
theorem Sym.drawXL {id : Nat} {l : List Oper} (ws : List Nat) (hm : P.follows .mixedOrders = true) (hsyn : drawOk l.toArray l.length = true) (hst : storesOk l.toArray ws = true) (h : XTo P c n l.toArray ws (fun s => Q .normal s) 0 l s []) : Sym P c n (.region id l.toArray true) Q s := Sym.drawX ws hm hsyn hst (by simpa using h)
section
variable {ws : List Nat} {T : St → Prop} {k : Nat} {past : List Past} {tm : List (Nat × Bool × D)} {H : List (Option Box)} {op : Op} {ty : TypeId} {pos : String} {af : Array Edge} {gd : Option (Nat × Bool)} {t : Tmp} {g : Bool} {d : D} {rest : List Oper}
theorem XTo.read1 (hw : ws.contains k = false) (hg : GOk ops ⟨tm, H⟩ ⟨some t, op, ty, pos, af, gd⟩ g) (h : MOp P ⟨tm, H⟩ ⟨some t, op, ty, pos, af, gd⟩ g d) (hd : Nat.blt t n = true) (kk : XTo P c n ops ws T (k + 1) rest ⟨(t, g, d) :: tm, H⟩ (⟨k, ⟨some t, op, ty, pos, af, gd⟩, g, d, tm⟩ :: past)) : XTo P c n ops ws T k (⟨some t, op, ty, pos, af, gd⟩ :: rest) ⟨tm, H⟩ past := .read hw ⟨hg, h, hd⟩ kk
theorem MStep.mk1 {tm' : List (Nat × Bool × D)} (hg : GOk ops ⟨tm', H⟩ ⟨some t, op, ty, pos, af, gd⟩ g) (h : MOp P ⟨tm', H⟩ ⟨some t, op, ty, pos, af, gd⟩ g d) (hd : Nat.blt t n = true) : MStep P n ops ⟨tm', H⟩ ⟨some t, op, ty, pos, af, gd⟩ g d := ⟨hg, h, hd⟩
/-- what may come behind the change at k holds there as well -/
def LateOk (P : Program) (n : Nat) (ops : Array Oper) (k : Nat) (kk : Option Nat) (H : List (Option Box)) (past : List Past) : Prop := ∀ e ∈ past.filter fun e => loose ops e.i k, MStep P n ops ⟨TM.cl kk e.tm, H⟩ e.o e.g (e.d.cl kk)
variable {kk : Option Nat}
theorem LateOk.nil : LateOk P n ops k kk H [] := fun _ h => by cases h
theorem LateOk.skip {i : Nat} {x : Oper} {tm' : List (Nat × Bool × D)} (h : loose ops i k = false) (kk' : LateOk P n ops k kk H past) : LateOk P n ops k kk H (⟨i, x, g, d, tm'⟩ :: past) := fun x hx => by
  rw [List.filter_cons, h] at hx
  exact kk' x hx
theorem LateOk.take {i : Nat} {tm' tm'' : List (Nat × Bool × D)} {d' : D} (htm : TM.cl kk tm' = tm'') (hd' : d.cl kk = d') (hg : GOk ops ⟨tm'', H⟩ ⟨some t, op, ty, pos, af, gd⟩ g) (h : MOp P ⟨tm'', H⟩ ⟨some t, op, ty, pos, af, gd⟩ g d') (hd : Nat.blt t n = true) (kk' : LateOk P n ops k kk H past) : LateOk P n ops k kk H (⟨i, ⟨some t, op, ty, pos, af, gd⟩, g, d, tm'⟩ :: past) := fun x hx => by
  subst htm; subst hd'
  rw [List.filter_cons] at hx
  split at hx
  · rcases List.mem_cons.1 hx with rfl | hx
    · exact ⟨hg, h, hd⟩
    · exact kk' x hx
  · exact kk' x hx
theorem Past.cl_none : ∀ l : List Past, l.map (Past.cl none) = l
  | [] => rfl
  | _ :: l => by rw [List.map_cons, Past.cl_none l]; rfl
theorem XTo.store {x y : Operand} {e : TypeId} {i : TypeInfo} {u : TypeDesc} {q off : Nat} {bcs : List D} {be : TypeId} {bz : Nat} [h : TyI P e i u] (hx : Ev ⟨tm, H⟩ true x (.ptr q off)) (hy : Ev ⟨tm, H⟩ true y d) (hb : H[q]? = some (some ⟨bcs, be, bz⟩)) (hl : d.laid = true) (h1 : d.cells.all D.one = true) (hlen : Nat.beq d.cells.length i.size = true)
    (hoff : Nat.ble (off + i.size) bcs.length = true) (hwr : c.ro = true → c.β0.length ≤ q) {H' : List (Option Box)} (hH : H.set q (some ⟨splice bcs off d.cells, be, bz⟩) = H') (hw : ws.contains k = true) (hms : LateOk P n ops k none H' past) (kk : XTo P c n ops ws T (k + 1) rest ⟨tm, H'⟩ past) :
    XTo P c n ops ws T k (⟨none, .store e x y, ty, pos, af, none⟩ :: rest) ⟨tm, H⟩ past := by
  subst hH
  refine .write (kk := none) (d := .any) hw ⟨rfl, ?_⟩ hms (by rw [Past.cl_none]; exact kk)
  intro β S a w hH he K Q hK
  have he' : ∀ t, .tmp t ∈ (Op.store e x y).operands → EntAt ⟨tm, H⟩ β S w a t := fun t ht => he t (by simp only [Oper.looksAt, List.mem_append, List.mem_filterMap]; exact .inl ⟨_, by simpa using ht, rfl⟩)
  obtain ⟨b, q', hβ, hv⟩ := hx.rep (l := (Op.store e x y).operands) (by simp [Op.operands]) he' rfl
  have hr := hy.rep (l := (Op.store e x y).operands) (by simp [Op.operands]) he' rfl
  have hc := hr.cells hl
  have hlen : d.cells.length = i.size := by simpa using hlen
  have hoff : off + i.size ≤ bcs.length := by simpa using hoff
  have hcl := hc.len
  rcases hH.box q _ hb with ⟨k1, _⟩ | ⟨b', c', cur, us, k1, k2, k3, k4, k5, k6, k7⟩
  · rw [hβ] at k1; cases k1
  rw [hβ] at k1
  simp only [Option.some.injEq, Prod.mk.injEq] at k1
  obtain ⟨rfl, rfl⟩ := k1
  have hul := k4.len
  have hule : us.length ≤ cur.size := by
    have := k5.length_le
    simpa using this
  dsimp only at k3 k4 k6 k7 hul
  have hrun := run_storeCells_at (P := P) b off be (a.eval y).cells.toList 0 cur w k3 (by rw [hcl]; omega) (hc.one h1)
  simp only [Nat.add_zero] at hrun
  have hcs : (a.eval y).cells.size = i.size := by rw [← Array.length_toList, hcl, hlen]
  have hsp : splice us off (a.eval y).cells.toList <+: cur.toList.take off ++ (a.eval y).cells.toList ++ cur.toList.drop (off + (a.eval y).cells.toList.length) := by
    obtain ⟨tl, htl⟩ := k5
    refine ⟨tl, ?_⟩
    rw [← htl]
    unfold splice
    rw [List.take_append_of_le_length (by omega), List.drop_append_of_le_length (by omega)]
    simp
  obtain ⟨h2, h3⟩ := hH.write (y := ⟨splice bcs off d.cells, be, bz⟩) hb hβ k3 (cur' := (cur.toList.take off ++ (a.eval y).cells.toList ++ cur.toList.drop (off + (a.eval y).cells.toList.length)).toArray)
    (by simp; omega) rfl rfl (k4.splice hc off) (by simpa using hsp) (by
      rcases Nat.eq_zero_or_pos bz with h0 | h0
      · left
        have := k6 h0
        unfold splice
        simp
        omega
      · right; show bz ≠ 0; omega) hwr
  unfold Oper.wp
  have : (execOp a.eval ⟨none, .store e x y, ty, pos, af, none⟩).run P w = .ok .skip (w.setRow b (cur.toList.take off ++ (a.eval y).cells.toList ++ cur.toList.drop (off + (a.eval y).cells.toList.length)).toArray) := by
    simp only [execOp, hv, Instr.storeAt, Instr.sureAddr, storeVar, Sem.run_bind, Sem.run_pure, Result.andThen_ok, run_sizeOf' h.ti, hcs, hrun]
    simp [hrun]
  rw [this]
  exact hK undef β S _ h2 ⟨fun _ _ _ h => h, h3, fun _ h _ => h⟩ fun h => absurd rfl h
/-- append onto a row -/
theorem WStep.append {α : Type} (enc : α → List V) (l m : List α) {ty' e : TypeId} {i j : TypeInfo} {u : TypeDesc} {z : Value} {x y : Operand} {q : Nat} {dy : D} {bz : Nat} [h : TyI P ty' i (.slice e)] [h' : TyI P e j u] (hx : Ev ⟨tm, H⟩ true x (.row q l.length)) (hy : Ev ⟨tm, H⟩ true y dy) (hdv : DV dy (V.list enc m))
    (hb : H[q]? = some (some ⟨D.enc enc l, e, bz⟩)) (hbz : bz = j.size) (hz : j.zero = some z) (hzs : Nat.beq z.cells.size j.size = true) (hpos : Nat.blt 0 j.size = true) (hby : Nat.ble j.bytes 1000 = true) (hsz : ∀ q, (enc q).length = j.size) (hone : ∀ q, ∀ v ∈ enc q, v.one = true) (ht : Nat.blt t n = true) (hnm : l.length + m.length ≤ 1000000000) (hwr : c.ro = true → c.β0.length ≤ q) (hdead : q < c.β0.length → q ∈ c.dead) :
    WStep P c n ops ⟨tm, H⟩ ⟨some t, .call { callee := .builtin .append, args := #[x, y], argTypes := #[ty', ty'] }, ty, pos, af, gd⟩ (some q) ((Hp.clean q H).set q (some ⟨D.enc enc (l ++ m), e, bz⟩)) (.row q (l ++ m).length) := by
  subst hbz
  refine ⟨ht, ?_⟩
  intro β S a w hH he K Q hK
  have he' : ∀ t, .tmp t ∈ (Op.call { callee := .builtin .append, args := #[x, y], argTypes := #[ty', ty'] }).operands → EntAt ⟨tm, H⟩ β S w a t := fun t ht => he t (by simp only [Oper.looksAt, List.mem_append, List.mem_filterMap]; exact .inl ⟨_, by simpa using ht, rfl⟩)
  have hmem : ∀ o ∈ ([x, y] : List Operand), o ∈ (Op.call { callee := .builtin .append, args := #[x, y], argTypes := #[ty', ty'] }).operands := by simp [Op.operands, Call.operands]
  have hpos : 0 < j.size := by simpa using hpos
  have hzs : z.cells.size = j.size := by simpa using hzs
  have hby : j.bytes ≤ 1000 := by simpa using hby
  have hrx := hx.rep (hmem x (by simp)) he' rfl
  have hry := hdv.rep (hy.rep (hmem y (by simp)) he' rfl)
  obtain ⟨ad, cc, news, e1, e2, e3, e4, e5⟩ := hry
  have hone' : ∀ (q : List α), ∀ v ∈ q.flatMap enc, v.one = true := fun q v hv => by
    obtain ⟨y, _, hy⟩ := List.mem_flatMap.1 hv
    exact hone y v hy
  have hnl : news.length = m.length * j.size := by rw [e4.len, flat_len hsz]
  have hbox := hH.box q _ hb
  obtain ⟨pl, xs, hpl, hrow, hrep⟩ : ∃ pl xs, β[q]? = some pl ∧ RowAt w e j.size pl (a.eval x) l.length xs ∧ V.RepL S w (l.flatMap enc) xs := by
    rcases hbox with ⟨h1, h2, h3⟩ | ⟨b, p, cur, us, h1, h2, h3, h4, h5, h6, h7⟩
    · rcases hrx with ⟨k1, k2, k3⟩ | ⟨b, p, k1, _, _⟩
      · have : l = [] := List.eq_nil_of_length_eq_zero k2
        subst this
        exact ⟨none, [], h1, ⟨by simp, .inl ⟨rfl, rfl, k3⟩⟩, rfl⟩
      · rw [h1] at k1; cases k1
    · rcases hrx with ⟨k1, _⟩ | ⟨b', p', k1, _, k2⟩
      · rw [h1] at k1; cases k1
      · rw [h1] at k1
        simp only [Option.some.injEq, Prod.mk.injEq] at k1
        obtain ⟨rfl, rfl⟩ := k1
        have h8 := h7 (by simp; omega)
        have hv := D.RepL.ofP h4
        exact ⟨some (b, p), us, h1, ⟨by rw [hv.len, flat_len hsz], .inr ⟨b, p, cur, rfl, k2, h3, h8.1, h8.2, h5⟩⟩, hv⟩
  obtain ⟨v', w', pl', hrun, r1, r2, r3, r4, r5, r6, r7⟩ := run_appendRow (P := P) (t := ty') (e := e) hz hzs hpos hby ty hrow (ad := ad) (m := m.length) (c := cc) hnl (fun q y hq => by
    obtain ⟨b, o, h1, h2, _⟩ := e5 q y hq
    exact ⟨b, o, h1, h2⟩) (e4.one (hone' m)) hnm e2
  have hflat : (l ++ m).flatMap enc = l.flatMap enc ++ m.flatMap enc := List.flatMap_append ..
  obtain ⟨S', g1, g2, g3⟩ := hH.grow hb (by show j.size ≠ 0; omega) hpl r1 (hrep.app e4) (cs := D.enc enc (l ++ m)) (by rw [D.enc, hflat]) r2 r3 r4 r5 r6 r7 hwr hdead
  refine wp_value (v := v') (w' := w') ?_ (hK _ _ S' _ g1 ⟨fun i e hne h => by rw [List.getElem?_set_ne (by simpa using hne)]; exact h, g2, g3⟩ fun _ => ?_)
  · simp only [execOp, resolve, invoke, builtin, Sem.run_bind, Sem.run_pure, Result.andThen_ok, List.map_toArray, List.map_cons, List.map_nil, e1, hrun]
  · have hkl : q < β.length := (List.getElem?_eq_some_iff.1 hpl).1
    rw [List.length_append]
    rcases r1.2 with ⟨h1, h2, h3⟩ | ⟨b, p, cur, h1, h2, _, h4, _, h5⟩
    · exact .inl ⟨by rw [List.getElem?_set_self hkl, h1], h2, h3⟩
    · refine .inr ⟨b, p, by rw [List.getElem?_set_self hkl, h1], ?_, h2⟩
      have h6 := r1.1
      have h7 := h5.length_le
      have h8 : cur.toList.length = cur.size := Array.length_toList
      rw [h6, h8, h4] at h7
      exact Nat.le_of_mul_le_mul_right h7 hpos
theorem XTo.append {α : Type} (enc : α → List V) (l m : List α) {ty' e : TypeId} {i j : TypeInfo} {u : TypeDesc} {z : Value} {x y : Operand} {q : Nat} {dy : D} {bz : Nat} [h : TyI P ty' i (.slice e)] [h' : TyI P e j u] (hx : Ev ⟨tm, H⟩ true x (.row q l.length)) (hy : Ev ⟨tm, H⟩ true y dy) (hdv : DV dy (V.list enc m))
    (hb : H[q]? = some (some ⟨D.enc enc l, e, bz⟩)) (hbz : bz = j.size) (hz : j.zero = some z) (hzs : Nat.beq z.cells.size j.size = true) (hpos : Nat.blt 0 j.size = true) (hby : Nat.ble j.bytes 1000 = true) (hsz : ∀ q, (enc q).length = j.size) (hone : ∀ q, ∀ v ∈ enc q, v.one = true) (ht : Nat.blt t n = true) (hnm : l.length + m.length ≤ 1000000000) (hwr : c.ro = true → c.β0.length ≤ q) (hdead : q < c.β0.length → q ∈ c.dead)
    {H' : List (Option Box)} {tm' : List (Nat × Bool × D)} {past' : List Past} (hH' : (Hp.clean q H).set q (some ⟨D.enc enc (l ++ m), e, bz⟩) = H') (htm : TM.clean q tm = tm') (hpast : past.map (Past.cl (some q)) = past') (hw : ws.contains k = true) (hms : LateOk P n ops k (some q) H' past)
    (kk : XTo P c n ops ws T (k + 1) rest ⟨(t, true, .row q (l ++ m).length) :: tm', H'⟩ past') :
    XTo P c n ops ws T k (⟨some t, .call { callee := .builtin .append, args := #[x, y], argTypes := #[ty', ty'] }, ty, pos, af, none⟩ :: rest) ⟨tm, H⟩ past := by
  subst hH'; subst htm; subst hpast
  exact .write (kk := some q) (d := .row q (l ++ m).length) hw (WStep.append enc l m hx hy hdv hb hbz hz hzs hpos hby hsz hone ht hnm hwr hdead) hms kk
end
end
end Go.Sy
