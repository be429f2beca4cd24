/- States of a call, what it means to walk code over them, and regions, also those whose order is open. No program in sight. -/
import Derived.Test.YtblabchnpkofgaaDa
set_option linter.unusedSimpArgs false
set_option linter.unusedVariables false
namespace Go.Sy
open Go.RowKit

/-- A block of the call's own: what its cells hold, of which type they are, and of how many cells an element is, if it is a row that may grow (0: it is not). -/
structure Box where
  cs : List D
  e : TypeId
  sz : Nat
structure St where
  tm : List (Nat × Bool × D)
  H : List (Option Box)
def TM.get : List (Nat × Bool × D) → Nat → Option (Bool × D)
  | [], _ => none
  | (t, g, d) :: l, k => bif Nat.beq t k then some (g, d) else TM.get l k
def St.put (s : St) (dst : Option Tmp) (g : Bool) (d : D) : St :=
  match dst with
  | some t => ⟨(t, g, d) :: s.tm, s.H⟩
  | none => s
/-- Where a call began; may it write into the boxes that it was given? which of them may move? -/
structure Ctx where
  w0 : World
  S0 : Nat → Prop
  β0 : List Place
  ro : Bool
  dead : List Nat
  dfr : List Deferred

def Ent (β : List Place) (S : Nat → Prop) (w : World) (g : Bool) (d : D) (u : Value) : Prop := (g = true → d.Rep β S w u) ∧ (g = false → u = undef)
def EntAt (s : St) (β : List Place) (S : Nat → Prop) (w : World) (a : Act) (t : Tmp) : Prop :=
  ∀ g d, TM.get s.tm t = some (g, d) → t < a.tmps.size ∧ Ent β S w g d (a.tmps.getD t undef)
def BoxAt (β : List Place) (S : Nat → Prop) (w : World) (i : Nat) (x : Box) : Prop :=
  (β[i]? = some none ∧ x.sz ≠ 0 ∧ x.cs = []) ∨
  ∃ b c cur us, β[i]? = some (some (b, c)) ∧ ¬ S b ∧ w.heap[b]? = some (.cells cur x.e (0, 0)) ∧ D.RepL β S w x.cs us ∧ us <+: cur.toList ∧
    (x.sz = 0 → us.length = cur.size) ∧ (x.sz ≠ 0 → cur.size = c * x.sz ∧ c ≤ maxLen)
/-- what an operation that only adds memory asks of it -/
structure HOk (H : List (Option Box)) (β : List Place) (S : Nat → Prop) (w : World) : Prop where
  up : ∀ b, w.heap.size ≤ b → S b
  box : ∀ i x, H[i]? = some (some x) → BoxAt β S w i x
  len : β.length = H.length
  inj : ∀ (i j : Nat) x y b p q, H[i]? = some (some x) → H[j]? = some (some y) → β[i]? = some (some (b, p)) → β[j]? = some (some (b, q)) → i = j
structure HSt (c : Ctx) (H : List (Option Box)) (β : List Place) (S : Nat → Prop) (w : World) : Prop extends HOk H β S w where
  sub : ∀ b, S b → c.S0 b ∨ c.w0.heap.size ≤ b
  own : ∀ (i : Nat) b q, β[i]? = some (some (b, q)) → c.w0.heap.size ≤ b ∨ ∃ q0, c.β0[i]? = some (some (b, q0))
  fr : ∀ b, b < c.w0.heap.size → (c.ro = true ∨ ∀ (i q : Nat), c.β0[i]? ≠ some (some (b, q))) → w.heap[b]? = c.w0.heap[b]?
  keep : ∀ (i : Nat) e, i ∉ c.dead → c.β0[i]? = some e → β[i]? = some e
  klen : c.β0.length ≤ β.length
  keepS : ∀ b, c.S0 b → b < c.w0.heap.size → w.heap[b]? = c.w0.heap[b]? ∧ S b
  os : w.os = c.w0.os
  tape : w.tape = c.w0.tape
  output : w.output = c.w0.output
  size : c.w0.heap.size ≤ w.heap.size
def SR (c : Ctx) (n : Nat) (s : St) (a : Act) (w : World) : Prop :=
  ∃ β S, HSt c s.H β S w ∧ a.defers = c.dfr ∧ a.tmps.size = n ∧ ∀ t, EntAt s β S w a t

section
variable {β β' : List Place} {S S' : Nat → Prop} {w w' : World} {H : List (Option Box)} {c : Ctx}
theorem Ent.ext {g : Bool} {d : D} {u : Value} (h : Ent β S w g d u) (e : Ext w w') : Ent β S w' g d u := ⟨fun hg => (h.1 hg).ext e, h.2⟩
theorem BoxAt.ext {i : Nat} {x : Box} (h : BoxAt β S w i x) (e : Ext w w') : BoxAt β S w' i x := by
  rcases h with h | ⟨b, c, cur, us, h1, h2, h3, h4, h5⟩
  · exact .inl h
  · exact .inr ⟨b, c, cur, us, h1, h2, e.heap h3, h4.ext e, h5⟩
theorem HOk.ext (h : HOk H β S w) (e : Ext w w') : HOk H β S w' := ⟨fun b hb => h.up b (Nat.le_trans e.size hb), fun i x hx => (h.box i x hx).ext e, h.len, h.inj⟩
theorem HSt.ext (h : HSt c H β S w) (e : Ext w w') : HSt c H β S w' :=
  { h.toHOk.ext e with
    sub := h.sub, own := h.own, keep := h.keep, klen := h.klen
    fr := fun b hb hn => (e.block b (Nat.lt_of_lt_of_le hb h.size)).trans (h.fr b hb hn)
    keepS := fun b hb hl => ⟨(e.block b (Nat.lt_of_lt_of_le hl h.size)).trans (h.keepS b hb hl).1, (h.keepS b hb hl).2⟩
    os := e.os.trans h.os, tape := e.tape.trans h.tape, output := e.output.trans h.output, size := Nat.le_trans h.size e.size }
theorem TM.get_cons {l : List (Nat × Bool × D)} {t k : Nat} {g : Bool} {d : D} : TM.get ((t, g, d) :: l) k = if t = k then some (g, d) else TM.get l k := by
  show cond _ _ _ = _
  by_cases h : t = k
  · subst h; simp
  · rw [if_neg h]
    cases hb : Nat.beq t k
    · rfl
    · exact absurd (Nat.eq_of_beq_eq_true hb) h
theorem getD_put' {a : Act} {d t : Tmp} {v : Value} (h : d < a.tmps.size) : (a.put (some d) v).tmps.getD t undef = if d = t then v else a.tmps.getD t undef := by
  by_cases e : d = t
  · subst e; rw [if_pos rfl]; simp [Act.put, h]
  · rw [if_neg e]; simp [Act.put, Array.getElem?_setIfInBounds_ne e]
theorem size_put {a : Act} {d : Option Tmp} {v : Value} : (a.put d v).tmps.size = a.tmps.size := by cases d <;> simp [Act.put]
theorem defers_put {a : Act} {d : Option Tmp} {v : Value} : (a.put d v).defers = a.defers := by cases d <;> rfl
theorem EntAt.ext {s : St} {a : Act} {t : Tmp} (h : EntAt s β S w a t) (e : Ext w w') : EntAt s β S w' a t := fun g d hg => ⟨(h g d hg).1, (h g d hg).2.ext e⟩
/-- one more entry -/
theorem EntAt.put {s : St} {a : Act} {g : Bool} {d : D} {u : Value} {dst : Option Tmp} (h : ∀ t, EntAt s β S w a t) (hd : ∀ t, dst = some t → t < a.tmps.size) (hu : Ent β S w g d u) (t : Tmp) :
    EntAt (s.put dst g d) β S w (a.put dst u) t := by
  cases dst with
  | none => exact h t
  | some k =>
    have hk := hd k rfl
    intro g' d' hg
    rw [size_put, getD_put' hk]
    simp only [St.put, TM.get_cons] at hg
    by_cases e : k = t
    · subst e
      rw [if_pos rfl] at hg ⊢
      simp only [Option.some.injEq, Prod.mk.injEq] at hg
      obtain ⟨rfl, rfl⟩ := hg
      exact ⟨hk, hu⟩
    · rw [if_neg e] at hg ⊢
      exact h t g' d' hg
end

/-- Walking code. -/
def Sym (P : Program) (c : Ctx) (n : Nat) (code : Code) (Q : Exit → St → Prop) (s : St) : Prop :=
  ∀ a w, SR c n s a w → code.wp P (fun e a' w' => ∃ s', SR c n s' a' w' ∧ Q e s') a w
/-- Walking a list of operations, in its order. -/
def SymL (P : Program) (c : Ctx) (n : Nat) (ops : Array Oper) (Q : Exit → St → Prop) (l : List Oper) (s : St) : Prop :=
  ∀ a w, SR c n s a w → wpList P ops (fun e a' w' => ∃ s', SR c n s' a' w' ∧ Q e s') l a w
/-- The operation's guard, as a Bool. -/
inductive GOk (ops : Array Oper) (s : St) (o : Oper) : Bool → Prop
  | none : o.guard = none → GOk ops s o true
  | some {j t : Nat} {want b g : Bool} : o.guard = some (j, want) → (ops[j]?).bind (·.dst) = some t → TM.get s.tm t = some (g, .p (.x (.bool b))) → GOk ops s o (g && (b == want))
/-- The operation yields d, if it is done, and only adds memory. -/
structure MOp (P : Program) (s : St) (o : Oper) (g : Bool) (d : D) : Prop where
  run : ∀ β S a w, HOk s.H β S w → (∀ t, .tmp t ∈ o.op.operands → EntAt s β S w a t) → g = true →
    ∀ (K : Act → World → Prop) (Q : Exit → Act → World → Prop), (∀ u w', Ext w w' → d.Rep β S w' u → K (a.put o.dst u) w') → o.wp P a w K Q
def dstOk (n : Nat) (o : Oper) : Bool := match o.dst with | some t => Nat.blt t n | none => true
theorem dstOk.lt {n : Nat} {o : Oper} (h : dstOk n o = true) : ∀ t, o.dst = some t → t < n := by
  intro t ht
  simp only [dstOk, ht, Nat.blt_eq] at h
  exact h
structure MStep (P : Program) (n : Nat) (ops : Array Oper) (s : St) (o : Oper) (g : Bool) (d : D) : Prop where
  gd : GOk ops s o g
  op : MOp P s o g d
  ds : dstOk n o = true
section
variable {P : Program} {c : Ctx} {n : Nat} {ops : Array Oper} {Q : Exit → St → Prop} {s : St} {o : Oper} {g : Bool} {d : D} {β : List Place} {S : Nat → Prop} {a : Act} {w : World}
theorem GOk.wanted (h : GOk ops s o g) (he : ∀ t, t ∈ o.looksAt ops → EntAt s β S w a t) : Region.wanted o (yielded ops a.tmps) = g := by
  cases h with
  | none h => simp [Region.wanted, h]
  | @some j t want b g h h2 h3 =>
    have ht : t ∈ o.looksAt ops := by simp [Oper.looksAt, h, h2]
    obtain ⟨h4, h5, h6⟩ := he t ht _ _ h3
    have hy : yielded ops a.tmps j = match a.tmps.getD t undef with | .bool b => Option.some b | _ => Option.none := by
      simp only [yielded, h2, Option.bind_some]
      rw [Array.getElem?_eq_getElem h4, show a.tmps.getD t undef = a.tmps[t]'h4 by simp [h4]]
      cases a.tmps[t]'h4 <;> rfl
    simp only [Region.wanted, h, hy]
    cases g with
    | true =>
      have : a.tmps.getD t undef = .bool b := h5 rfl
      rw [this]
      cases b <;> cases want <;> rfl
    | false =>
      rw [h6 rfl]
      rfl
theorem MStep.run (h : MStep P n ops s o g d) (ho : HOk s.H β S w) (he : ∀ t, t ∈ o.looksAt ops → EntAt s β S w a t) {K : Act → World → Prop} {Q : Exit → Act → World → Prop}
    (hK : ∀ u w', Ext w w' → Ent β S w' g d u → K (a.put o.dst u) w') : if Region.wanted o (yielded ops a.tmps) = true then o.wp P a w K Q else K (a.put o.dst undef) w := by
  rw [h.gd.wanted he]
  cases g with
  | true =>
    rw [if_pos rfl]
    exact h.op.run β S a w ho (fun t ht => he t (by simp only [Oper.looksAt, List.mem_append, List.mem_filterMap]; exact .inl ⟨_, by simpa using ht, rfl⟩)) rfl K Q fun u w' h1 h2 => hK u w' h1 ⟨fun _ => h2, fun h => by cases h⟩
  | false =>
    rw [if_neg (by simp)]
    exact hK undef w (Ext.refl w) ⟨fun h => (by cases h), fun _ => rfl⟩
theorem SymL.mono {rest : List Oper} (h : MStep P n ops s o g d) (k : SymL P c n ops Q rest (s.put o.dst g d)) : SymL P c n ops Q (o :: rest) s := by
  rintro a w ⟨β, S, hH, hd, hn, he⟩
  refine wpList_step fun K hK => h.run hH.toHOk (fun t _ => he t) fun u w' hx hu => hK _ _ ?_
  refine k _ _ ⟨β, S, ?_, by rw [defers_put, hd], by rw [size_put, hn], ?_⟩
  · have : (s.put o.dst g d).H = s.H := by cases o.dst <;> rfl
    rw [this]
    exact hH.ext hx
  · exact EntAt.put (fun t => (he t).ext hx) (fun t ht => hn ▸ dstOk.lt h.ds t ht) hu
theorem SymL.nil (h : Q .normal s) : SymL P c n ops Q [] s := fun _ _ hr => ⟨s, hr, h⟩
/-- A region in its order. -/
theorem Sym.region {id : Nat} (h : SymL P c n ops Q ops.toList s) : Sym P c n (.region id ops false) Q s := fun a w hr => wp_region_list (h a w hr)
end

/-! ### regions whose order is open -/
/-- j waits for i, at once or by others -/
inductive Waits (ops : Array Oper) : Nat → Nat → Prop
  | one {i j : Nat} {o : Oper} {e : Edge} : ops[j]? = some o → e ∈ o.after → Region.binds .any e = true → e.on = i → Waits ops i j
  | two {i j k : Nat} : Waits ops i j → Waits ops j k → Waits ops i k
/-- for whom each waits, as bits -/
def masks : List Oper → List Nat → List Nat
  | [], acc => acc
  | o :: os, acc => masks os (acc ++ [o.after.toList.foldl (fun m e => if Region.binds .any e then m ||| 2 ^ e.on ||| acc.getD e.on 0 else m) 0])
def OkMasks (ops : Array Oper) (acc : List Nat) : Prop := ∀ j m, acc[j]? = some m → ∀ i, m.testBit i = true → Waits ops i j
theorem masks_fold (ops : Array Oper) (acc : List Nat) (hacc : OkMasks ops acc) (o : Oper) (k : Nat) (ho : ops[k]? = some o) : ∀ (l : List Edge) (m : Nat), (∀ e ∈ l, e ∈ o.after) → (∀ i, m.testBit i = true → Waits ops i k) →
    ∀ i, (l.foldl (fun m e => if Region.binds .any e then m ||| 2 ^ e.on ||| acc.getD e.on 0 else m) m).testBit i = true → Waits ops i k
  | [], _, _, hm, i, hi => hm i hi
  | e :: l, m, hl, hm, i, hi => by
    refine masks_fold ops acc hacc o k ho l _ (fun e he => hl e (List.mem_cons_of_mem _ he)) ?_ i hi
    intro i hi
    dsimp only at hi
    split at hi
    case isFalse => exact hm i hi
    case isTrue hb =>
      rw [Nat.testBit_or, Nat.testBit_or, Bool.or_eq_true, Bool.or_eq_true] at hi
      have h1 : Waits ops e.on k := .one ho (hl e List.mem_cons_self) hb rfl
      rcases hi with (hi | hi) | hi
      · exact hm i hi
      · rw [Nat.testBit_two_pow] at hi
        have : e.on = i := by simpa using hi
        exact this ▸ h1
      · cases h : acc[e.on]? with
        | none => rw [List.getD_eq_getElem?_getD, h] at hi; simp at hi
        | some m' =>
          rw [List.getD_eq_getElem?_getD, h] at hi
          exact .two (hacc _ _ h i hi) h1
theorem masks_ok (ops : Array Oper) : ∀ (l : List Oper) (acc : List Nat), OkMasks ops acc → (∀ j, l[j]? = ops[acc.length + j]?) → OkMasks ops (masks l acc)
  | [], _, h, _ => h
  | o :: os, acc, h, hl => by
    have h0 : ops[acc.length]? = some o := by simpa using (hl 0).symm
    refine masks_ok ops os _ ?_ (fun j => by have := hl (j + 1); simpa [Nat.add_assoc, Nat.add_comm 1 j] using this)
    intro j m hj i hi
    rw [List.getElem?_append] at hj
    split at hj
    · exact h j m hj i hi
    · rename_i hge
      have hj0 : j = acc.length := by
        rcases Nat.lt_or_ge acc.length j with h | h
        · rw [List.getElem?_eq_none (by simp; omega)] at hj; cases hj
        · omega
      subst hj0
      rw [Nat.sub_self, List.getElem?_cons_zero, Option.some.injEq] at hj
      subst hj
      exact masks_fold ops acc h o _ h0 o.after.toList 0 (by simp) (by simp) i hi
/-- its form: m operations in any order that their edges allow, those behind wait for all ahead of them; each temporary written once; who reads what another one writes waits for it, or it waits for him -/
def drawOk (ops : Array Oper) (m : Nat) : Bool :=
  let b := masks ops.toList []
  decide (m ≤ ops.size) && (List.range ops.size).all (fun i => match ops[i]? with | some o => o.after.all fun e => !Region.binds .any e || decide (e.on < i) | none => false) &&
  (List.range ops.size).all fun j => (List.range j).all fun i =>
    match ops[i]?, ops[j]? with
    | some x, some y =>
      (x.dst.isNone || x.dst != y.dst) &&
      ((b.getD j 0).testBit i || !(decide (m ≤ j) || (match x.dst with | some t => (y.looksAt ops).contains t | none => false) || (match y.dst with | some t => (x.looksAt ops).contains t | none => false)))
    | _, _ => false
structure DrawOk (ops : Array Oper) (m : Nat) : Prop where
  le : m ≤ ops.size
  down : ∀ (i : Nat) (o : Oper), ops[i]? = some o → ∀ e ∈ o.after, Region.binds .any e = true → e.on < i
  once : ∀ (i j : Nat) x y t, ops[i]? = some x → ops[j]? = some y → x.dst = some t → y.dst = some t → i = j
  tail : ∀ (i j : Nat), i < j → j < ops.size → m ≤ j → Waits ops i j
  data : ∀ (i j : Nat) x y t, i < j → ops[i]? = some x → ops[j]? = some y → (x.dst = some t ∧ t ∈ y.looksAt ops ∨ y.dst = some t ∧ t ∈ x.looksAt ops) → Waits ops i j
theorem drawOk.ok {ops : Array Oper} {m : Nat} (h : drawOk ops m = true) : DrawOk ops m := by
  simp only [drawOk, Bool.and_eq_true, decide_eq_true_eq, List.all_eq_true, List.mem_range] at h
  obtain ⟨⟨h1, h2⟩, h3⟩ := h
  have hb : OkMasks ops (masks ops.toList []) := masks_ok ops _ _ (fun j m h => by simp at h) (fun j => by simp)
  have hw : ∀ i j : Nat, ((masks ops.toList []).getD j 0).testBit i = true → Waits ops i j := by
    intro i j h
    cases hm : (masks ops.toList [])[j]? with
    | none => rw [List.getD_eq_getElem?_getD, hm] at h; simp at h
    | some m =>
      rw [List.getD_eq_getElem?_getD, hm] at h
      exact hb j m hm i h
  have hlt : ∀ {i : Nat} {o : Oper}, ops[i]? = some o → i < ops.size := fun h => (Array.getElem?_eq_some_iff.1 h).1
  have pair : ∀ (i j : Nat) x y, i < j → ops[i]? = some x → ops[j]? = some y → (x.dst = none ∨ x.dst ≠ y.dst) ∧
      (Waits ops i j ∨ ¬ (m ≤ j) ∧ (∀ t, x.dst = some t → t ∉ y.looksAt ops) ∧ (∀ t, y.dst = some t → t ∉ x.looksAt ops)) := by
    intro i j x y hij hx hy
    have := h3 j (hlt hy) i hij
    simp only [hx, hy, Bool.and_eq_true, Bool.or_eq_true, Option.isNone_iff_eq_none, bne_iff_ne, ne_eq, Bool.not_eq_true', Bool.or_eq_false_iff, decide_eq_false_iff_not] at this
    refine ⟨this.1, ?_⟩
    rcases this.2 with h | ⟨⟨h4, h5⟩, h6⟩
    · exact .inl (hw i j h)
    · refine .inr ⟨h4, fun t ht => ?_, fun t ht => ?_⟩
      · rw [ht] at h5; simpa using h5
      · rw [ht] at h6; simpa using h6
  have h2' : ∀ (i : Nat) (o : Oper), ops[i]? = some o → ∀ e ∈ o.after, Region.binds .any e = true → e.on < i := by
    intro i o ho e he hb
    have := h2 i (hlt ho)
    rw [ho] at this
    obtain ⟨k, hk, rfl⟩ := Array.mem_iff_getElem.1 he
    have := Array.all_eq_true.1 this k hk
    rw [hb] at this
    simpa using this
  refine ⟨h1, h2', ?_, ?_, ?_⟩
  · intro i j x y t hx hy h4 h5
    rcases Nat.lt_trichotomy i j with h | h | h
    · rcases (pair i j x y h hx hy).1 with k | k
      · rw [h4] at k; cases k
      · exact absurd (h4.trans h5.symm) k
    · exact h
    · rcases (pair j i y x h hy hx).1 with k | k
      · rw [h5] at k; cases k
      · exact absurd (h5.trans h4.symm) k
  · intro i j hij hj hm
    have hx : ops[i]? = some ops[i] := by simp [Nat.lt_trans hij hj]
    have hy : ops[j]? = some ops[j] := by simp [hj]
    rcases (pair i j _ _ hij hx hy).2 with h | h
    · exact h
    · exact absurd hm h.1
  · intro i j x y t hij hx hy h
    rcases (pair i j _ _ hij hx hy).2 with k | ⟨_, k1, k2⟩
    · exact k
    · rcases h with ⟨h1, h2⟩ | ⟨h1, h2⟩
      · exact absurd h2 (k1 t h1)
      · exact absurd h2 (k2 t h1)
/-- m steps that only add memory; then T. -/
inductive MTo (P : Program) (n : Nat) (ops : Array Oper) (T : St → Prop) : Nat → List Oper → St → Prop
  | done {l : List Oper} {s : St} : T s → MTo P n ops T 0 l s
  | step {m : Nat} {o : Oper} {l : List Oper} {s : St} {g : Bool} {d : D} : MStep P n ops s o g d → MTo P n ops T m l (s.put o.dst g d) → MTo P n ops T (m + 1) (o :: l) s
def stAt (ops : Array Oper) (s : St) (gd : Nat → Bool × D) : Nat → St
  | 0 => s
  | i + 1 => (stAt ops s gd i).put ((ops[i]?).bind (·.dst)) (gd i).1 (gd i).2
theorem stAt_H {ops : Array Oper} {s : St} {gd : Nat → Bool × D} : ∀ i, (stAt ops s gd i).H = s.H
  | 0 => rfl
  | i + 1 => by
    have h : ∀ (s' : St) (dst : Option Tmp) g d, (s'.put dst g d).H = s'.H := fun s' dst g d => by cases dst <;> rfl
    unfold stAt
    rw [h]
    exact stAt_H i
theorem stAt_get {ops : Array Oper} {s : St} {gd : Nat → Bool × D} {t : Tmp} {g : Bool} {d : D} : ∀ {i : Nat}, TM.get (stAt ops s gd i).tm t = some (g, d) →
    (∃ j, j < i ∧ (ops[j]?).bind (·.dst) = some t ∧ (g, d) = gd j) ∨ (∀ j, j < i → (ops[j]?).bind (·.dst) ≠ some t) ∧ TM.get s.tm t = some (g, d)
  | 0, h => .inr ⟨fun j hj => by omega, h⟩
  | i + 1, h => by
    unfold stAt at h
    cases hd : (ops[i]?).bind (·.dst) with
    | none =>
      rw [hd] at h
      rcases stAt_get (i := i) h with ⟨j, h1, h2⟩ | ⟨h1, h2⟩
      · exact .inl ⟨j, by omega, h2⟩
      · refine .inr ⟨fun j hj => ?_, h2⟩
        rcases Nat.lt_or_ge j i with h3 | h3
        · exact h1 j h3
        · obtain rfl : j = i := by omega
          rw [hd]; simp
    | some k =>
      rw [hd] at h
      simp only [St.put, TM.get_cons] at h
      by_cases e : k = t
      · subst e
        rw [if_pos rfl] at h
        injection h with h
        exact .inl ⟨i, by omega, hd, h.symm⟩
      · rw [if_neg e] at h
        rcases stAt_get (i := i) h with ⟨j, h1, h2⟩ | ⟨h1, h2⟩
        · exact .inl ⟨j, by omega, h2⟩
        · refine .inr ⟨fun j hj => ?_, h2⟩
          rcases Nat.lt_or_ge j i with h3 | h3
          · exact h1 j h3
          · obtain rfl : j = i := by omega
            rw [hd]
            exact fun h => e (Option.some.inj h)
theorem MTo.steps {P : Program} {n : Nat} {ops : Array Oper} {T : St → Prop} (s0 : St) : ∀ {m : Nat} {l : List Oper} {s : St}, MTo P n ops T m l s → ∀ (k : Nat) (gd0 : Nat → Bool × D), s = stAt ops s0 gd0 k → (∀ j, l[j]? = ops[k + j]?) →
    (∀ i, i < k → ∀ o, ops[i]? = some o → MStep P n ops (stAt ops s0 gd0 i) o (gd0 i).1 (gd0 i).2) →
    ∃ gd, (∀ i, i < k + m → ∀ o, ops[i]? = some o → MStep P n ops (stAt ops s0 gd i) o (gd i).1 (gd i).2) ∧ T (stAt ops s0 gd (k + m))
  | _, _, _, .done h, k, gd0, hs, _, hold => ⟨gd0, hold, hs ▸ h⟩
  | _, _, _, @MTo.step _ _ _ _ m o l s g d hst h, k, gd0, hs, hl, hold => by
    have ho : ops[k]? = some o := by simpa using (hl 0).symm
    have hsame : ∀ i, i ≤ k → stAt ops s0 (fun i => if i = k then (g, d) else gd0 i) i = stAt ops s0 gd0 i := by
      intro i
      induction i with
      | zero => intro _; rfl
      | succ i ih =>
        intro hi
        unfold stAt
        rw [ih (by omega), if_neg (by omega)]
    have := h.steps s0 (k + 1) (fun i => if i = k then (g, d) else gd0 i) ?_ ?_ ?_
    · rwa [show k + 1 + m = k + (m + 1) by omega] at this
    · unfold stAt
      rw [hsame k (Nat.le_refl _), ← hs, ho, if_pos rfl]
      rfl
    · intro j
      have := hl (j + 1)
      simpa [Nat.add_assoc, Nat.add_comm 1 j] using this
    · intro i hi o' ho'
      rw [hsame i (by omega)]
      by_cases e : i = k
      · subst e
        rw [ho] at ho'
        injection ho' with ho'
        subst ho'
        rw [if_pos rfl, ← hs]
        exact hst
      · rw [if_neg e]
        exact hold i (by omega) o' ho'
/-- what holds midway: listed those that are done, all ahead of m -/
structure Mid (c : Ctx) (n : Nat) (ops : Array Oper) (s : St) (gd : Nat → Bool × D) (β : List Place) (S : Nat → Prop) (m : Nat) (a0 : Act) (listed : Array Bool) (a : Act) (w : World) : Prop where
  hst : HSt c s.H β S w
  defers : a.defers = c.dfr
  size : a.tmps.size = n
  init : ∀ t, EntAt s β S w a0 t
  size0 : a0.tmps.size = n
  ahead : ∀ i, listed.getD i true = true → i < ops.size → i < m
  done : ∀ i t, listed.getD i true = true → i < ops.size → (ops[i]?).bind (·.dst) = some t → t < n ∧ Ent β S w (gd i).1 (gd i).2 (a.tmps.getD t undef)
  same : ∀ t, (∀ i, listed.getD i true = true → i < ops.size → (ops[i]?).bind (·.dst) ≠ some t) → a.tmps.getD t undef = a0.tmps.getD t undef
section
variable {P : Program} {c : Ctx} {n m : Nat} {ops : Array Oper} {Q : Exit → St → Prop} {s : St} {gd : Nat → Bool × D} {β : List Place} {S : Nat → Prop} {a0 a : Act} {w : World} {listed : Array Bool}
theorem getD_set' {l : Array Bool} {i j : Nat} (h : i < l.size) (d : Bool) : (l.setIfInBounds i true).getD j d = if i = j then true else l.getD j d := by
  by_cases e : i = j
  · subst e; rw [if_pos rfl]; simp [Array.getD, h]
  · rw [if_neg e, getD_set_ne d e]
theorem bind_dst {i : Nat} {o : Oper} (h : ops[i]? = some o) : (ops[i]?).bind (·.dst) = o.dst := by rw [h]; rfl
theorem bind_some {i : Nat} {t : Tmp} (h : (ops[i]?).bind (·.dst) = some t) : ∃ o, ops[i]? = some o ∧ o.dst = some t := by
  cases ho : ops[i]? with
  | none => rw [ho] at h; cases h
  | some o => rw [ho] at h; exact ⟨o, rfl, h⟩
/-- the entries that an operation reads are what they are when it comes in its order -/
theorem Mid.ents (M : Mid c n ops s gd β S m a0 listed a w) (hd : DrawOk ops m) (hsz : listed.size = ops.size) (hcl : ∀ i j, Waits ops i j → listed.getD j true = true → j < ops.size → listed.getD i true = true)
    {i : Nat} {o : Oper} (ho : ops[i]? = some o) (hun : listed.getD i true = false) (hall : ∀ j, Waits ops j i → listed.getD j true = true) (t : Tmp) (ht : t ∈ o.looksAt ops) : EntAt (stAt ops s gd i) β S w a t := by
  have hi : i < ops.size := (Array.getElem?_eq_some_iff.1 ho).1
  intro g d hg
  rcases stAt_get hg with ⟨j, hj, hjd, hgd⟩ | ⟨hno, hg0⟩
  · obtain ⟨x, hx, hxd⟩ := bind_some hjd
    have hw := hd.data j i x o t hj hx ho (.inl ⟨hxd, ht⟩)
    have := M.done j t (hall j hw) (by omega) hjd
    rw [M.size]
    have e1 : g = (gd j).1 := congrArg Prod.fst hgd
    have e2 : d = (gd j).2 := congrArg Prod.snd hgd
    rw [e1, e2]
    exact this
  · have h0 := M.init t g d hg0
    rw [M.size0] at h0
    rw [M.size, M.same t ?_]
    · exact h0
    · intro j hj hjs hjd
      obtain ⟨x, hx, hxd⟩ := bind_some hjd
      rcases Nat.lt_trichotomy j i with h | h | h
      · exact hno j h hjd
      · subst h; rw [hun] at hj; cases hj
      · have hw := hd.data i j o x t h ho hx (.inr ⟨hxd, ht⟩)
        rw [hcl i j hw hj hjs] at hun
        cases hun
theorem Mid.next (M : Mid c n ops s gd β S m a0 listed a w) (hd : DrawOk ops m) (hsz : listed.size = ops.size) {i : Nat} {o : Oper} (ho : ops[i]? = some o) (him : i < m) (hun : listed.getD i true = false) (hds : dstOk n o = true)
    {w' : World} {u : Value} (hx : Ext w w') (hu : Ent β S w' (gd i).1 (gd i).2 u) : Mid c n ops s gd β S m a0 (listed.setIfInBounds i true) (a.put o.dst u) w' := by
  have hi : i < ops.size := (Array.getElem?_eq_some_iff.1 ho).1
  have hset : ∀ j, (listed.setIfInBounds i true).getD j true = if i = j then true else listed.getD j true := fun j => getD_set' (by omega) true
  refine ⟨M.hst.ext hx, by rw [defers_put, M.defers], by rw [size_put, M.size], fun t => (M.init t).ext hx, M.size0, ?_, ?_, ?_⟩
  · intro j hj hjs
    rw [hset] at hj
    split at hj
    · omega
    · exact M.ahead j hj hjs
  · intro j t hj hjs hjd
    rw [hset] at hj
    by_cases e : i = j
    · subst e
      rw [bind_dst ho] at hjd
      have hlt := dstOk.lt hds t hjd
      refine ⟨hlt, ?_⟩
      rw [hjd, getD_put' (by rw [M.size]; exact hlt), if_pos rfl]
      exact hu
    · rw [if_neg e] at hj
      have h1 := M.done j t hj hjs hjd
      refine ⟨h1.1, ?_⟩
      have : (a.put o.dst u).tmps.getD t undef = a.tmps.getD t undef := by
        cases hod : o.dst with
        | none => rfl
        | some k =>
          rw [getD_put' (by rw [M.size]; exact dstOk.lt hds k hod), if_neg]
          rintro rfl
          obtain ⟨x, hx, hxd⟩ := bind_some hjd
          exact e (hd.once i j o x k ho hx hod hxd)
      rw [this]
      exact h1.2.ext hx
  · intro t ht
    have h1 : o.dst ≠ some t := by
      have := ht i (by rw [hset, if_pos rfl]) hi
      rwa [bind_dst ho] at this
    have h2 := M.same t fun j hj hjs => ht j (by rw [hset]; split; rfl; exact hj) hjs
    rw [← h2]
    cases hod : o.dst with
    | none => rfl
    | some k =>
      rw [getD_put' (by rw [M.size]; exact dstOk.lt hds k hod), if_neg]
      rintro rfl
      exact h1 hod
theorem Mid.full (M : Mid c n ops s gd β S m a0 listed a w) (hds : ∀ i, i < m → ∀ o, ops[i]? = some o → dstOk n o = true) (hall : ∀ i, i < m → listed.getD i true = true) (hm : m ≤ ops.size) : SR c n (stAt ops s gd m) a w := by
  refine ⟨β, S, by rw [stAt_H]; exact M.hst, M.defers, M.size, fun t g d hg => ?_⟩
  rw [M.size]
  rcases stAt_get hg with ⟨j, hj, hjd, hgd⟩ | ⟨hno, hg0⟩
  · have := M.done j t (hall j hj) (by omega) hjd
    have e1 : g = (gd j).1 := congrArg Prod.fst hgd
    have e2 : d = (gd j).2 := congrArg Prod.snd hgd
    rw [e1, e2]
    exact this
  · have h0 := M.init t g d hg0
    rw [M.size0] at h0
    rw [M.same t ?_]
    · exact h0
    · intro j hj hjs
      exact hno j (M.ahead j hj hjs)
theorem ready_iff {listed : Array Bool} {i : Nat} :
    i ∈ Region.ready .any ops listed ↔ listed.getD i true = false ∧ ∃ o, ops[i]? = some o ∧ ∀ e ∈ o.after, Region.binds .any e = true → listed.getD e.on false = true := by
  constructor
  · intro h
    obtain ⟨h1, o, h2, h3⟩ := mem_ready.1 h
    exact ⟨h1, o, h2, h3⟩
  · rintro ⟨h1, o, h2, h3⟩
    exact mem_ready.2 ⟨h1, o, h2, h3⟩
theorem Waits.lt (hd : DrawOk ops m) {i j : Nat} (h : Waits ops i j) : i < j := by
  induction h with
  | one ho he hb hon => exact hon ▸ hd.down _ _ ho _ he hb
  | two _ _ h1 h2 => exact Nat.lt_trans h1 h2
theorem Waits.last {i j : Nat} (h : Waits ops i j) : ∃ o, ops[j]? = some o ∧ ∃ e ∈ o.after, Region.binds .any e = true ∧ (e.on = i ∨ Waits ops i e.on) := by
  induction h with
  | one ho he hb hon => exact ⟨_, ho, _, he, hb, .inl hon⟩
  | @two p q r h1 _ _ ih =>
    obtain ⟨o, ho, e, he, hb, h | h⟩ := ih
    · exact ⟨o, ho, e, he, hb, .inr (h ▸ h1)⟩
    · exact ⟨o, ho, e, he, hb, .inr (.two h1 h)⟩
theorem getD_false {l : Array Bool} {i : Nat} (h : l.getD i false = true) : i < l.size ∧ l.getD i true = true := by
  rcases Nat.lt_or_ge i l.size with h' | h'
  · refine ⟨h', ?_⟩
    rw [Array.getD, dif_pos h'] at h ⊢
    exact h
  · rw [Array.getD, dif_neg (by omega)] at h; cases h
theorem getD_true {l : Array Bool} {i : Nat} (hi : i < l.size) (h : l.getD i true = true) : l.getD i false = true := by
  rw [Array.getD, dif_pos hi] at h ⊢
  exact h
theorem ready_tail (hd : DrawOk ops m) {k : Nat} {listed : Array Bool} (hmk : m ≤ k) (hsz : listed.size = ops.size) (hl : ∀ i, i < ops.size → (listed.getD i true = true ↔ i < k)) {i : Nat} (hi : i ∈ Region.ready .any ops listed) : i = k := by
  obtain ⟨h1, o, h2, h3⟩ := ready_iff.1 hi
  have his := (Array.getElem?_eq_some_iff.1 h2).1
  have hik : ¬ i < k := fun h => by rw [(hl i his).2 h] at h1; cases h1
  rcases Nat.lt_or_ge k i with h | h
  · exfalso
    obtain ⟨o', ho', e, he, hbe, hw⟩ := (hd.tail k i h his (by omega)).last
    rw [h2] at ho'
    injection ho' with ho'
    subst ho'
    obtain ⟨h4, h5⟩ := getD_false (h3 e he hbe)
    have h6 := (hl e.on (by omega)).1 h5
    rcases hw with h7 | h7
    · omega
    · have := Waits.lt hd h7
      omega
  · omega
theorem ready_mem (hd : DrawOk ops m) {k : Nat} {listed : Array Bool} (hk : k < ops.size) (hsz : listed.size = ops.size) (hl : ∀ i, i < k → listed.getD i true = true) (hun : listed.getD k true = false) : k ∈ Region.ready .any ops listed := by
  refine ready_iff.2 ⟨hun, ops[k], by simp [hk], fun e he hb => ?_⟩
  have := hd.down k ops[k] (by simp [hk]) e he hb
  exact getD_true (by omega) (hl _ this)
/-- the tail: all done up to k -/
theorem wpAny_tail {Q : Exit → Act → World → Prop} (hd : DrawOk ops m) : ∀ (fuel k : Nat) (listed : Array Bool) (a : Act) (w : World), m ≤ k → k ≤ ops.size → listed.size = ops.size → ops.size - k ≤ fuel →
    (∀ i, i < ops.size → (listed.getD i true = true ↔ i < k)) → wpList P ops Q (ops.toList.drop k) a w → wpAny P .any ops Q fuel listed a w := by
  have hnil : ∀ (k : Nat) (listed : Array Bool) (a : Act) (w : World), k ≤ ops.size → listed.size = ops.size → (∀ i, i < ops.size → (listed.getD i true = true ↔ i < k)) → Region.ready .any ops listed = [] → wpList P ops Q (ops.toList.drop k) a w → Q .normal a w := by
    intro k listed a w hk hsz hl hr h
    rcases Nat.lt_or_ge k ops.size with hlt | hge
    · have : k ∈ Region.ready .any ops listed := ready_mem hd hlt hsz (fun i hi => (hl i (by omega)).2 hi) (by
        cases hb : listed.getD k true
        · rfl
        · have := (hl k hlt).1 hb; omega)
      rw [hr] at this
      cases this
    · rw [List.drop_of_length_le (by simp; omega)] at h
      exact h
  intro fuel
  induction fuel with
  | zero =>
    intro k listed a w hmk hk hsz hf hl h
    have hr : Region.ready .any ops listed = [] := by
      cases hr : Region.ready .any ops listed with
      | nil => rfl
      | cons i _ =>
        exfalso
        have hi : i ∈ Region.ready .any ops listed := by rw [hr]; exact List.mem_cons_self
        have e := ready_tail hd hmk hsz hl hi
        obtain ⟨_, o, h2, _⟩ := ready_iff.1 hi
        have := (Array.getElem?_eq_some_iff.1 h2).1
        omega
    exact ⟨hr, hnil k listed a w hk hsz hl hr h⟩
  | succ fuel ih =>
    intro k listed a w hmk hk hsz hf hl h
    refine ⟨fun hr => hnil k listed a w hk hsz hl hr h, fun i hi => ?_⟩
    obtain rfl := ready_tail hd hmk hsz hl hi
    obtain ⟨_, o, ho, _⟩ := ready_iff.1 hi
    have his := (Array.getElem?_eq_some_iff.1 ho).1
    have hdrop : ops.toList.drop i = o :: ops.toList.drop (i + 1) := by
      rw [List.drop_eq_getElem_cons (by simpa using his)]
      congr 1
      have := (Array.getElem?_eq_some_iff.1 ho).2
      simpa using this
    rw [hdrop] at h
    refine wpOp_mono (K := wpList P ops Q (ops.toList.drop (i + 1))) (fun a' w' h' => ?_) ?_
    · refine ih (i + 1) _ a' w' (by omega) (by omega) (by simpa using hsz) (by omega) (fun j hj => ?_) h'
      rw [getD_set' (by omega) true]
      by_cases e : i = j
      · subst e; simp
      · rw [if_neg e, hl j hj]; omega
    · unfold wpOp
      simp only [ho]
      exact h
theorem countP_lt' {p q : Nat → Bool} {i : Nat} (hpq : ∀ j, q j = true → p j = true) (hp : p i = true) (hq : q i = false) : ∀ {l : List Nat}, i ∈ l → l.countP q < l.countP p
  | x :: xs, hi => by
    have hle : ∀ l : List Nat, l.countP q ≤ l.countP p := fun l => List.countP_mono_left fun j _ h => hpq j h
    rw [List.countP_cons, List.countP_cons]
    rcases List.mem_cons.1 hi with rfl | hi
    · have := hle xs
      simp only [hp, hq, if_true]
      simp
      omega
    · have := countP_lt' hpq hp hq hi
      have hx := hpq x
      cases hqx : q x
      · simp only [Bool.false_eq_true, if_false]
        split <;> omega
      · rw [hx hqx]
        simpa using this
/-- The rule: m operations that only add memory, in any order; then those behind, in theirs. -/
theorem Sym.draw {id : Nat} (m : Nat) (hm : P.follows .mixedOrders = true) (hsyn : drawOk ops m = true) (h : MTo P n ops (fun s => SymL P c n ops Q (ops.toList.drop m) s) m ops.toList s) :
    Sym P c n (.region id ops true) Q s := by
  have hd := drawOk.ok hsyn
  obtain ⟨gd, hst, hT⟩ := h.steps s 0 (fun _ => (true, .p (.x undef))) rfl (fun j => by simp) (fun i hi => by omega)
  simp only [Nat.zero_add] at hst hT
  rintro a0 w0 ⟨β, S, hH, hdf, hn, he⟩
  refine wp_region_any hm ?_
  have hx0 : Ext w0 { w0 with drawn := w0.drawn + 1 } := (Ext.refl w0).drew
  have M0 : Mid c n ops s gd β S m a0 (Array.replicate ops.size false) a0 { w0 with drawn := w0.drawn + 1 } := by
    refine ⟨hH.ext hx0, hdf, hn, fun t => (he t).ext hx0, hn, ?_, ?_, fun _ _ => rfl⟩
    · intro i h1 h2; simp [Array.getD, h2] at h1
    · intro i t h1 h2; simp [Array.getD, h2] at h1
  have main : ∀ (fuel : Nat) (listed : Array Bool) (a : Act) (w : World), listed.size = ops.size → (List.range ops.size).countP (fun i => !listed.getD i true) ≤ fuel →
      Mid c n ops s gd β S m a0 listed a w → (∀ i j, Waits ops i j → listed.getD j true = true → j < ops.size → listed.getD i true = true) →
      wpAny P .any ops (fun e a' w' => ∃ s', SR c n s' a' w' ∧ Q e s') fuel listed a w := by
    have fulls : ∀ (fuel : Nat) (listed : Array Bool) (a : Act) (w : World), listed.size = ops.size → (List.range ops.size).countP (fun i => !listed.getD i true) ≤ fuel → Mid c n ops s gd β S m a0 listed a w → (∀ i, i < m → listed.getD i true = true) →
        wpAny P .any ops (fun e a' w' => ∃ s', SR c n s' a' w' ∧ Q e s') fuel listed a w := by
      intro fuel listed a w hsz hf M hall
      have hiff : ∀ i, i < ops.size → (listed.getD i true = true ↔ i < m) := fun i hi => ⟨fun h => M.ahead i h hi, fun h => hall i h⟩
      refine wpAny_tail hd fuel m listed a w (Nat.le_refl _) hd.le hsz ?_ hiff ?_
      · have : ops.size - m ≤ (List.range ops.size).countP (fun i => !listed.getD i true) := by
          have h1 : (List.range ops.size).countP (fun i => !listed.getD i true) = (List.range ops.size).countP (fun i => decide (m ≤ i)) := by
            refine List.countP_congr fun i hi => ?_
            have := hiff i (List.mem_range.1 hi)
            cases hb : listed.getD i true
            · rw [hb] at this; simp at this ⊢; omega
            · rw [hb] at this; simp at this ⊢; omega
          rw [h1]
          have h2 : ∀ q, (List.range q).countP (fun i => decide (m ≤ i)) = q - m := by
            intro q
            induction q with
            | zero => simp
            | succ q ih =>
              rw [List.range_succ, List.countP_append, ih]
              by_cases h : m ≤ q
              · simp [h]; omega
              · simp [h]; omega
          rw [h2]
          exact Nat.le_refl _
        omega
      · exact hT a w (M.full (fun i hi o ho => (hst i hi o ho).ds) hall hd.le)
    intro fuel
    induction fuel with
    | zero =>
      intro listed a w hsz hc M hcl
      refine fulls 0 listed a w hsz hc M fun i hi => ?_
      have h0 := List.countP_eq_zero.1 (Nat.le_zero.1 hc) i (List.mem_range.2 (Nat.lt_of_lt_of_le hi hd.le))
      simpa using h0
    | succ fuel ih =>
      intro listed a w hsz hc M hcl
      by_cases hall : ∀ i, i < m → listed.getD i true = true
      · exact fulls _ listed a w hsz hc M hall
      have hne : Region.ready .any ops listed ≠ [] := by
        intro hr
        refine hall ?_
        intro i
        induction i using Nat.strongRecOn with
        | ind i ihi =>
          intro hi
          cases hb : listed.getD i true with
          | true => rfl
          | false =>
            have := ready_mem hd (Nat.lt_of_lt_of_le hi hd.le) hsz (fun j hj => ihi j hj (by omega)) hb
            rw [hr] at this
            cases this
      refine ⟨fun hr => absurd hr hne, fun i hi => ?_⟩
      obtain ⟨hun, o, ho, hpre⟩ := ready_iff.1 hi
      have his := (Array.getElem?_eq_some_iff.1 ho).1
      have hwait : ∀ j, Waits ops j i → listed.getD j true = true := by
        intro j hj
        obtain ⟨o', ho', e, he', hb', h | h⟩ := hj.last
        · rw [ho] at ho'
          injection ho' with ho'
          subst ho'
          exact h ▸ (getD_false (hpre e he' hb')).2
        · rw [ho] at ho'
          injection ho' with ho'
          subst ho'
          have h1 := getD_false (hpre e he' hb')
          exact hcl j e.on h h1.2 (by omega)
      have him : i < m := by
        rcases Nat.lt_or_ge i m with h | h
        · exact h
        · exact absurd (fun j hj => hwait j (hd.tail j i (by omega) his h)) hall
      have hw := (hst i him o ho).run (a := a) (w := w) (by rw [stAt_H]; exact M.hst.toHOk) (M.ents hd hsz hcl ho hun hwait)
        (K := wpAny P .any ops (fun e a' w' => ∃ s', SR c n s' a' w' ∧ Q e s') fuel (listed.setIfInBounds i true)) (Q := fun e a' w' => ∃ s', SR c n s' a' w' ∧ Q e s') fun u w' hx hu => by
          refine ih _ _ _ (by simpa using hsz) ?_ (M.next hd hsz ho him hun (hst i him o ho).ds hx hu) ?_
          · have := countP_lt' (p := fun i => !listed.getD i true) (q := fun j => !(listed.setIfInBounds i true).getD j true) (i := i) (fun j hj => by
              rw [getD_set' (by omega) true] at hj
              by_cases h : i = j
              · rw [if_pos h] at hj; cases hj
              · rw [if_neg h] at hj; exact hj) (by simpa using hun) (by rw [getD_set' (by omega) true, if_pos rfl]; rfl) (List.mem_range.2 his)
            omega
          · intro p q hpq hq hqs
            rw [getD_set' (by omega) true] at hq ⊢
            split
            · rfl
            · by_cases h : i = q
              · subst h; exact hwait p hpq
              · rw [if_neg h] at hq; exact hcl p q hpq hq hqs
      unfold wpOp
      simp only [ho]
      split
      · rename_i h; rw [if_pos h] at hw; exact .inl hw
      · rename_i h; rw [if_neg h] at hw; exact hw
  refine main _ _ _ _ (by simp) (Nat.le_trans List.countP_le_length (by simp)) M0 ?_
  intro i j _ h hj
  simp [Array.getD, hj] at h
end
end Go.Sy
