/- Drawn regions, looked at in another order of their list; literals as rows of the call's own. No program in sight. Scripts: how each kind of operation is walked, as arguments that stand by themselves. No program in sight. Panics, and calls that are put off. No program in sight. Calls that move a row which they are given: functions that append onto a slice that stands in a variable of the caller's. No program in sight. Rows that are made by make, and elements that are stored into a row. No program in sight. Variables that stand still from now on: pointers to them as plain data; calls that hand back closures over such variables; arrays by value. No program in sight. A range over a function: the iterator's walk, and the statement. No program in sight. -/
import Derived.Test.YtblabchnpkofgaaDB
import Derived.Recover
import Derived.Deep.OwnRows
import Derived.RangeFuncRecord
import Derived.RangeFuncSeq
import Derived.RangeFuncOwn
import Derived.TacticsIn
import Derived.OrdersIn
set_option linter.unusedSimpArgs false
set_option linter.unusedVariables false
namespace Go.Sy
open Go.RowKit
/-! ### another order of the list -/
/-- an operation, its places renumbered -/
def renOp (σ : Nat → Nat) (o : Oper) : Oper := ⟨o.dst, o.op, o.type, o.pos, o.after.map fun e => ⟨σ e.on, e.ground⟩, o.guard.map fun g => (σ g.1, g.2)⟩
structure PermOk (ops ops' : Array Oper) (σ π : Nat → Nat) : Prop where
  size : ops'.size = ops.size
  lt : ∀ i, i < ops.size → σ i < ops.size
  lt' : ∀ i, i < ops.size → π i < ops.size
  inv : ∀ i, i < ops.size → π (σ i) = i
  inv' : ∀ i, i < ops.size → σ (π i) = i
  at_ : ∀ i o, ops[i]? = some o → ops'[σ i]? = some (renOp σ o)
  on : ∀ (i : Nat) (o : Oper), ops[i]? = some o → ∀ e ∈ o.after, e.on < ops.size
  gd : ∀ (i : Nat) (o : Oper), ops[i]? = some o → ∀ j b, o.guard = some (j, b) → j < ops.size
section
variable {P : Program} {ops ops' : Array Oper} {σ π : Nat → Nat} {Q : Exit → Act → World → Prop}
theorem renOp_wp (o : Oper) (a : Act) (w : World) (K : Act → World → Prop) : (renOp σ o).wp P a w K Q = o.wp P a w K Q := by
  cases o; rfl
theorem renOp_asks (o : Oper) (a : Act) (w : World) : (renOp σ o).asks P a w = o.asks P a w := by
  cases o; rfl
theorem PermOk.yielded (h : PermOk ops ops' σ π) (tmps : Array Value) {j : Nat} (hj : j < ops.size) : yielded ops' tmps (σ j) = yielded ops tmps j := by
  have h1 : ops[j]? = some ops[j] := by simp [hj]
  have h2 := h.at_ j _ h1
  unfold Go.yielded
  rw [h1, h2]
  rfl
theorem PermOk.wanted (h : PermOk ops ops' σ π) (tmps : Array Value) {i : Nat} {o : Oper} (ho : ops[i]? = some o) : Region.wanted (renOp σ o) (Go.yielded ops' tmps) = Region.wanted o (Go.yielded ops tmps) := by
  have hg := h.gd i o ho
  unfold Region.wanted renOp
  cases hgd : o.guard with
  | none => simp
  | some g =>
    obtain ⟨j, b⟩ := g
    simp only [Option.map_some]
    rw [h.yielded tmps (hg j b hgd)]
theorem PermOk.ready (h : PermOk ops ops' σ π) {listed listed' : Array Bool} (hs : listed.size = ops.size) (hs' : listed'.size = ops.size) (hl : ∀ i, i < ops.size → listed'.getD (σ i) true = listed.getD i true) {i : Nat} (hi : i < ops.size) :
    σ i ∈ Region.ready .any ops' listed' ↔ i ∈ Region.ready .any ops listed := by
  have hf : ∀ (l : Array Bool) (k : Nat), l.size = ops.size → k < ops.size → l.getD k false = l.getD k true := by
    intro l k hl hk
    simp [Array.getD, hl, hk]
  have hoi : ops[i]? = some ops[i] := by simp [hi]
  have hoi' := h.at_ i _ hoi
  rw [ready_iff, ready_iff, hl i hi]
  constructor
  · rintro ⟨h1, o, h2, h3⟩
    rw [hoi'] at h2
    injection h2 with h2
    subst h2
    refine ⟨h1, _, hoi, fun e he hb => ?_⟩
    have hon := h.on i _ hoi e he
    have := h3 ⟨σ e.on, e.ground⟩ (Array.mem_map.2 ⟨e, he, rfl⟩) hb
    rw [hf _ _ hs' (h.lt _ hon), hl _ hon] at this
    rw [hf _ _ hs hon]
    exact this
  · rintro ⟨h1, o, h2, h3⟩
    rw [hoi] at h2
    injection h2 with h2
    subst h2
    refine ⟨h1, _, hoi', fun e he hb => ?_⟩
    obtain ⟨e0, he0, rfl⟩ := Array.mem_map.1 he
    have hon := h.on i _ hoi e0 he0
    have := h3 e0 he0 hb
    rw [hf _ _ hs hon] at this
    show listed'.getD (σ e0.on) false = true
    rw [hf _ _ hs' (h.lt _ hon), hl _ hon]
    exact this
theorem wpAny_perm (h : PermOk ops ops' σ π) : ∀ (fuel : Nat) (listed listed' : Array Bool) (a : Act) (w : World), listed.size = ops.size → listed'.size = ops.size → (∀ i, i < ops.size → listed'.getD (σ i) true = listed.getD i true) →
    wpAny P .any ops' Q fuel listed' a w → wpAny P .any ops Q fuel listed a w
  | 0, listed, listed', a, w, hs, hs', hl, hh => by
    refine ⟨?_, hh.2⟩
    cases hr : Region.ready .any ops listed with
    | nil => rfl
    | cons i _ =>
      exfalso
      have hi : i ∈ Region.ready .any ops listed := by rw [hr]; exact List.mem_cons_self
      obtain ⟨_, o, ho, _⟩ := ready_iff.1 hi
      have := (h.ready hs hs' hl (Array.getElem?_eq_some_iff.1 ho).1).2 hi
      rw [hh.1] at this
      cases this
  | fuel + 1, listed, listed', a, w, hs, hs', hl, hh => by
    refine ⟨fun hr => hh.1 ?_, fun i hi => ?_⟩
    · cases hr' : Region.ready .any ops' listed' with
      | nil => rfl
      | cons k _ =>
        exfalso
        have hk : k ∈ Region.ready .any ops' listed' := by rw [hr']; exact List.mem_cons_self
        obtain ⟨_, o, ho, _⟩ := ready_iff.1 hk
        have hks : k < ops.size := h.size ▸ (Array.getElem?_eq_some_iff.1 ho).1
        rw [← h.inv' k hks, h.ready hs hs' hl (h.lt' k hks), hr] at hk
        cases hk
    · obtain ⟨_, o, ho, _⟩ := ready_iff.1 hi
      have his := (Array.getElem?_eq_some_iff.1 ho).1
      have h1 := hh.2 (σ i) ((h.ready hs hs' hl his).2 hi)
      have h2 : wpOp P ops' Q (σ i) (wpAny P .any ops Q fuel (listed.setIfInBounds i true)) a w := by
        refine wpOp_mono (fun a w hK => wpAny_perm h fuel _ _ a w (by simpa using hs) (by simpa using hs') (fun j hj => ?_) hK) h1
        rw [getD_set' (by rw [hs']; exact h.lt i his) true, getD_set' (by rw [hs]; exact his) true, hl j hj]
        by_cases e : i = j
        · rw [if_pos e, if_pos (by rw [e])]
        · rw [if_neg e, if_neg]
          intro e'
          apply e
          rw [← h.inv i his, ← h.inv j hj, e']
      unfold wpOp at h2 ⊢
      rw [h.at_ i o ho] at h2
      rw [ho]
      dsimp only at h2 ⊢
      rw [h.wanted a.tmps ho, renOp_wp, renOp_asks] at h2
      exact h2
end
/-- where k stands in p -/
def idxN : List Nat → Nat → Nat
  | [], _ => 0
  | a :: l, k => bif a == k then 0 else idxN l k + 1
theorem idxN_eq : ∀ (l : List Nat) (k : Nat), idxN l k = l.idxOf k
  | [], _ => rfl
  | a :: l, k => by
    rw [idxN, List.idxOf_cons, idxN_eq l k]
/-- the list in the order of p -/
def permL (l : List Oper) (p : List Nat) : List Oper := p.filterMap fun i => (l[i]?).map (renOp fun k => idxN p k)
def permOk (l : List Oper) (p : List Nat) : Bool :=
  Nat.beq p.length l.length && (List.range l.length).all (fun i => p.contains i && Nat.blt (p.getD i l.length) l.length && Nat.beq (p.idxOf (p.getD i l.length)) i) &&
  l.all fun o => o.after.all (fun e => Nat.blt e.on l.length) && (match o.guard with | some (j, _) => Nat.blt j l.length | none => true)
theorem filterMap_some {α β : Type} {f : α → Option β} {g : α → β} : ∀ {p : List α}, (∀ k ∈ p, f k = some (g k)) → p.filterMap f = p.map g
  | [], _ => rfl
  | a :: p, h => by
    rw [List.filterMap_cons, h a List.mem_cons_self, List.map_cons, filterMap_some fun k hk => h k (List.mem_cons_of_mem _ hk)]
theorem permL_eq (l : List Oper) (p : List Nat) : permL l p = p.filterMap fun i => (l[i]?).map (renOp fun k => p.idxOf k) := by
  unfold permL
  rw [show (fun k => idxN p k) = fun k => p.idxOf k from funext (idxN_eq p)]
theorem permL_at {l : List Oper} {p : List Nat} (hp : ∀ k ∈ p, k < l.length) (i : Nat) (hi : i < p.length) : (permL l p)[i]? = (l[p[i]]?).map (renOp fun k => p.idxOf k) := by
  rw [permL_eq]
  have : p.filterMap (fun i => (l[i]?).map (renOp fun k => p.idxOf k)) = p.map (fun i => renOp (fun k => p.idxOf k) (l.getD i default)) := by
    exact filterMap_some fun k hk => by simp [hp k hk]
  rw [this, List.getElem?_map]
  have h2 := hp p[i] (List.getElem_mem hi)
  simp [hi, h2]
theorem permOk.ok {l : List Oper} {p : List Nat} (h : permOk l p = true) : PermOk l.toArray (permL l p).toArray (fun k => p.idxOf k) (fun i => p.getD i l.length) := by
  simp only [permOk, Bool.and_eq_true, List.all_eq_true, List.mem_range] at h
  obtain ⟨⟨h1, h2⟩, h3⟩ := h
  have h1 : p.length = l.length := Nat.eq_of_beq_eq_true h1
  have hm : ∀ k ∈ p, k < l.length := by
    intro k hk
    obtain ⟨i, hi, rfl⟩ := List.mem_iff_getElem.1 hk
    have := (h2 i (by omega)).1.2
    simpa [hi] using this
  have hin : ∀ i, i < l.length → i ∈ p := fun i hi => by simpa using (h2 i hi).1.1
  have hlen : (permL l p).length = l.length := by
    rw [permL_eq, List.length_filterMap_eq_countP, List.countP_eq_length.2, h1]
    intro k hk
    simp [hm k hk]
  refine ⟨by simpa using hlen, ?_, ?_, ?_, ?_, ?_, ?_, ?_⟩
  · intro i hi
    have := List.idxOf_lt_length_of_mem (hin i (by simpa using hi))
    simp; omega
  · intro i hi
    have := (h2 i (by simpa using hi)).1.2
    simpa using this
  · intro i hi
    have hm := hin i (by simpa using hi)
    have hl := List.idxOf_lt_length_of_mem hm
    rw [List.getD_eq_getElem?_getD, List.getElem?_eq_getElem hl]
    simp
  · intro i hi
    exact Nat.eq_of_beq_eq_true (h2 i (by simpa using hi)).2
  · intro i o ho
    have hi : i < l.length := by
      have := (Array.getElem?_eq_some_iff.1 ho).1
      simpa using this
    have hl := List.idxOf_lt_length_of_mem (hin i hi)
    have := permL_at hm (p.idxOf i) hl
    rw [List.getElem_idxOf] at this
    rw [List.getElem?_toArray, this]
    rw [List.getElem?_toArray] at ho
    rw [ho]
    rfl
  · intro i o ho e he
    rw [List.getElem?_toArray] at ho
    have := (h3 o (List.mem_of_getElem? ho))
    simp only [Bool.and_eq_true, Array.all_eq_true_iff_forall_mem] at this
    simpa using this.1 e he
  · intro i o ho j b hg
    rw [List.getElem?_toArray] at ho
    have := (h3 o (List.mem_of_getElem? ho))
    simp only [Bool.and_eq_true, hg] at this
    simpa using this.2
section
variable {P : Program} {c : Ctx} {n : Nat} {Q : Exit → St → Prop} {s : St}
/-- The rule for drawn regions, its list in the order of p. -/
theorem Sym.drawXP {id : Nat} {l l' : List Oper} (p : List Nat) (ws : List Nat) (hm : P.follows .mixedOrders = true) (hp : permOk l p = true) (hl : permL l p = l') (hsyn : drawOk l'.toArray l'.length = true) (hst : storesOk l'.toArray ws = true) (h : XTo P c n l'.toArray ws (fun s => Q .normal s) 0 l' s []) : Sym P c n (.region id l.toArray true) Q s := by
  subst hl
  intro a w hr
  refine wp_region_any hm ?_
  have hok := permOk.ok hp
  refine wpAny_perm hok _ _ (Array.replicate (permL l p).toArray.size false) _ _ (by simp) (by rw [Array.size_replicate, hok.size]) ?_ ?_
  · intro i hi
    have h1 := hok.lt i hi
    rw [hok.size]
    simp only [Array.getD, Array.size_replicate, hi, h1, dite_true]
    simp
  · rw [← hok.size]
    exact Sym.drawX_any ws hsyn hst (by simpa using h) a w hr
end
/-! ### literals as rows of the call's own -/
section
variable {P : Program} {c : Ctx} {n : Nat} {ops : Array Oper} {Q : Exit → St → Prop} {rest : List Oper} {tm : List (Nat × Bool × D)} {H : List (Option Box)}
/-- a slice literal -/
theorem WStep.buildRow {t : Tmp} {ty e ty1 : TypeId} {pos : String} {af : Array Edge} {gd : Option (Nat × Bool)} {len : Nat} {parts : Array (Nat × Operand)} {i j : TypeInfo} {u : TypeDesc} {z : Value} {ds : List (Nat × D)} {res : List D} [h : TyI P ty i (.slice e)] [h' : TyI P e j u] (hz : j.zero = some z) (hlen : Nat.ble (len * j.size) 16777216 = true) (hp : EvP ⟨tm, H⟩ true parts.toList ds)
    (hf : fillD (fun i => some (i * j.size, j.size)) (zeroD z (len * j.size)) ds = some res) (hlm : Nat.ble len 1000000 = true) (hrl : Nat.beq res.length (len * j.size) = true) (hsz : Nat.blt 0 j.size = true) (ht : Nat.blt t n = true) :
    WStep P c n ops ⟨tm, H⟩ ⟨some t, .buildSlice ty len parts, ty1, pos, af, gd⟩ none (H ++ [some ⟨res, e, j.size⟩]) (.row H.length len) := by
  refine ⟨ht, ?_⟩
  intro β S a w hH he K Q hK
  have hlen : len * j.size ≤ 16777216 := by simpa using hlen
  have hlm : len ≤ 1000000 := by simpa using hlm
  have hrl : res.length = len * j.size := Nat.eq_of_beq_eq_true hrl
  have hsz : 0 < j.size := by simpa using hsz
  have h1 := hp.rep (β := β) (S := S) (a := a) (w := w) (l := (Op.buildSlice ty len parts).operands) (fun t ht => he t (by simp only [Oper.looksAt, List.mem_append, List.mem_filterMap]; exact .inl ⟨_, by simpa using ht, rfl⟩)) rfl (by
    intro x hx
    simp only [Op.operands, List.mem_toArray, List.mem_map]
    exact ⟨x, hx, rfl⟩)
  have hc : D.RepL β S w (zeroD z (len * j.size)) ((List.range (len * j.size)).map fun q => z.cells[q % z.cells.size]!) := by
    have := D.RepL.p (β := β) (V.RepL.x (S := S) (w := w) (l := (List.range (len * j.size)).map fun q => z.cells[q % z.cells.size]!))
    rw [List.map_map, List.map_map] at this
    exact this
  obtain ⟨us, h2, h3⟩ := fill_rep _ h1 hc hf
  have hul : us.length = len * j.size := h3.len.trans hrl
  obtain ⟨k1, k2⟩ := hH.newBox (e := e) (sz := j.size) (q := len) (cur := us.toArray) h3 (List.prefix_refl _) (fun h0 => by omega) (fun _ => ⟨by simpa using hul, by simp only [maxLen]; omega⟩)
  have he' : ∀ b, S b → b < w.heap.size → (w.alloc (.cells us.toArray e)).heap[b]? = w.heap[b]? := fun b _ hb => Below.heap_alloc _ _ _ hb
  have hS' : ∀ b, S b → b < w.heap.size → S b ∧ b ≠ w.heap.size := fun b h hb => ⟨h, by omega⟩
  refine wp_value (v := .slice (some ⟨w.heap.size, 0, none⟩) len len) (w' := w.alloc (.cells us.toArray e)) ?_ (hK _ _ _ _ k1 ⟨fun i e _ h => k2 i e h, he', hS'⟩ (out_new hH.len) fun _ => .inr ⟨w.heap.size, len, ?_, Nat.le_refl _, rfl⟩)
  · have e3 : ((Array.range (len * j.size)).map fun q => z.cells[q % z.cells.size]!) = ((List.range (len * j.size)).map fun q => z.cells[q % z.cells.size]!).toArray := by
      apply Array.ext'; simp
    have hge : ¬ len * j.size > 2 ^ 24 := by omega
    by_cases h0 : len * j.size = 0
    · rw [h0] at h2
      simp only [List.range_zero, List.map_nil] at h2
      have h2' : Instr.fill (fun i => some (i * j.size, j.size)) #[] (List.map (fun x => (x.fst, a.eval x.snd)) parts.toList) = some us.toArray := h2
      simp only [execOp, Instr.buildSlice, Sem.run_bind, run_underlying h.ut, Result.andThen_ok, run_sizeOf' h'.ti, if_neg hge, Sem.run_pure, h0]
      have hge0 : ¬ (0 : Nat) > 2 ^ 24 := by omega
      have hr0 : Array.range 0 = #[] := rfl
      simp only [if_neg hge0, if_true, Sem.run_bind, Sem.run_pure, Result.andThen_ok, Array.toList_map, hr0, List.map_toArray, List.map_nil]
      rw [h2']
      simp [newRow, go_sem]
    · simp only [execOp, Instr.buildSlice, Sem.run_bind, run_underlying h.ut, Result.andThen_ok, run_sizeOf' h'.ti, if_neg hge, if_neg h0, Sem.run_pure, run_zeroValue' h'.ti hz]
      simp only [Array.toList_map, e3]
      rw [h2]
      simp [newRow, go_sem]
  · rw [← hH.len]; simp
theorem XTo.buildRow {ws : List Nat} {T : St → Prop} {k m : Nat} {past : List Past} {t : Tmp} {ty e ty1 : TypeId} {pos : String} {af : Array Edge} {len : Nat} {parts : Array (Nat × Operand)} {i j : TypeInfo} {u : TypeDesc} {z : Value} {ds : List (Nat × D)} {res : List D} [h : TyI P ty i (.slice e)] [h' : TyI P e j u] (hz : j.zero = some z) (hlen : Nat.ble (len * j.size) 16777216 = true) (hp : EvP ⟨tm, H⟩ true parts.toList ds)
    (hf : fillD (fun i => some (i * j.size, j.size)) (zeroD z (len * j.size)) ds = some res) (hlm : Nat.ble len 1000000 = true) (hrl : Nat.beq res.length (len * j.size) = true) (hsz : Nat.blt 0 j.size = true) (ht : Nat.blt t n = true) {H' : List (Option Box)} (hm : H.length = m) (hH' : H ++ [some ⟨res, e, j.size⟩] = H') (hw : ws.contains k = true) (hms : LateOk P n ops k none H' past)
    (kk : XTo P c n ops ws T (k + 1) rest ⟨(t, true, .row m len) :: tm, H'⟩ past) : XTo P c n ops ws T k (⟨some t, .buildSlice ty len parts, ty1, pos, af, none⟩ :: rest) ⟨tm, H⟩ past := by
  subst hm; subst hH'
  exact .write (kk := none) hw (WStep.buildRow hz hlen hp hf hlm hrl hsz ht) hms (by rw [Past.cl_none]; exact kk)
/-- an operation that changes boxes, its guard (if there is one) holds -/
theorem SymL.ofW {o : Oper} {kk : Option Nat} {H' : List (Option Box)} {d : D} (hg : GOk ops ⟨tm, H⟩ o true) (h : WStep P c n ops ⟨tm, H⟩ o kk H' d) (k : SymL P c n ops Q rest (St.put ⟨TM.cl kk tm, H'⟩ o.dst true d)) : SymL P c n ops Q (o :: rest) ⟨tm, H⟩ := by
  rintro a w ⟨β, S, hH, hd, hn, he⟩
  refine wpList_step fun K hK => ?_
  rw [hg.wanted (fun t _ => he t), if_pos rfl]
  refine h.run β S a w hH (fun t _ => he t) _ _ fun u β' S' w' hH' hmv _ hu => hK _ _ (k _ _ ⟨β', S', by rw [put_H]; exact hH', by rw [defers_put, hd], by rw [size_put, hn], ?_⟩)
  by_cases hdst : o.dst = none
  · rw [hdst]
    intro t g d hg
    obtain ⟨d', h1, rfl⟩ := TM.cl_get (kk := kk) hg
    obtain ⟨k1, k2⟩ := he t g d' h1
    exact ⟨k1, hmv.ent k2⟩
  · refine EntAt.put (s := ⟨TM.cl kk tm, H'⟩) (fun t => ?_) (fun q hq => by rw [hn]; exact dstOk.lt h.ds q hq) ⟨fun _ => hu hdst, fun h => by cases h⟩
    intro g d hg
    obtain ⟨d', h1, rfl⟩ := TM.cl_get (kk := kk) hg
    obtain ⟨k1, k2⟩ := he t g d' h1
    exact ⟨k1, hmv.ent k2⟩
theorem SymL.appendG {α : Type} (enc : α → List V) (l m : List α) {t0 : Tmp} {ty t e : TypeId} {pos : String} {af : Array Edge} {gd : Option (Nat × Bool)} {i j : TypeInfo} {u : TypeDesc} {z : Value} {x y : Operand} {k : Nat} {dy : D} {bz : Nat} [h : TyI P t i (.slice e)] [h' : TyI P e j u] (hg : GOk ops ⟨tm, H⟩ ⟨some t0, .call { callee := .builtin .append, args := #[x, y], argTypes := #[t, t] }, ty, pos, af, gd⟩ true) (hx : Ev ⟨tm, H⟩ true x (.row k l.length)) (hy : Ev ⟨tm, H⟩ true y dy) (hdv : DV dy (V.list enc m))
    (hb : H[k]? = some (some ⟨D.enc enc l, e, bz⟩)) (hbz : bz = j.size) (hz : j.zero = some z) (hzs : Nat.beq z.cells.size j.size = true) (hpos : Nat.blt 0 j.size = true) (hby : Nat.ble j.bytes 1000 = true) (hsz : ∀ q, (enc q).length = j.size) (hone : ∀ q, ∀ v ∈ enc q, v.one = true) (ht : Nat.blt t0 n = true) (hnm : l.length + m.length ≤ 1000000000) (hwr : c.ro = true → c.β0.length ≤ k) (hdead : k < c.β0.length → k ∈ c.dead)
    {H' : List (Option Box)} {tm' : List (Nat × Bool × D)} (hH' : (Hp.clean k H).set k (some ⟨D.enc enc (l ++ m), e, bz⟩) = H') (htm : TM.clean k tm = tm')
    (kk : SymL P c n ops Q rest ⟨(t0, true, .row k (l ++ m).length) :: tm', H'⟩) :
    SymL P c n ops Q (⟨some t0, .call { callee := .builtin .append, args := #[x, y], argTypes := #[t, t] }, ty, pos, af, gd⟩ :: rest) ⟨tm, H⟩ := by
  subst hH'; subst htm
  exact SymL.ofW hg (WStep.append enc l m hx hy hdv hb hbz hz hzs hpos hby hsz hone ht hnm hwr hdead) kk
theorem SymL.buildRow {t : Tmp} {ty e ty1 : TypeId} {pos : String} {af : Array Edge} {gd : Option (Nat × Bool)} {len m : Nat} {parts : Array (Nat × Operand)} {i j : TypeInfo} {u : TypeDesc} {z : Value} {ds : List (Nat × D)} {res : List D} [h : TyI P ty i (.slice e)] [h' : TyI P e j u] (hg : GOk ops ⟨tm, H⟩ ⟨some t, .buildSlice ty len parts, ty1, pos, af, gd⟩ true) (hz : j.zero = some z) (hlen : Nat.ble (len * j.size) 16777216 = true) (hp : EvP ⟨tm, H⟩ true parts.toList ds)
    (hf : fillD (fun i => some (i * j.size, j.size)) (zeroD z (len * j.size)) ds = some res) (hlm : Nat.ble len 1000000 = true) (hrl : Nat.beq res.length (len * j.size) = true) (hsz : Nat.blt 0 j.size = true) (ht : Nat.blt t n = true) {H' : List (Option Box)} (hm : H.length = m) (hH' : H ++ [some ⟨res, e, j.size⟩] = H')
    (kk : SymL P c n ops Q rest ⟨(t, true, .row m len) :: tm, H'⟩) : SymL P c n ops Q (⟨some t, .buildSlice ty len parts, ty1, pos, af, gd⟩ :: rest) ⟨tm, H⟩ := by
  subst hm; subst hH'
  exact SymL.ofW (kk := none) hg (WStep.buildRow hz hlen hp hf hlm hrl hsz ht) kk
/-- nil in a cell, as a row -/
theorem Le.cellRow (k q : Nat) (e : TypeId) (sz : Nat) {cs : List D} {be : TypeId} {bz : Nat} (hb : H[k]? = some (some ⟨cs, be, bz⟩)) (hq : cs[q]? = some (.p (.x (.slice none 0 0)))) (hz : Nat.blt 0 sz = true) {H' : List (Option Box)} (hH' : H.set k (some ⟨cs.set q (.row H.length 0), be, bz⟩) ++ [some ⟨[], e, sz⟩] = H') : Le c ⟨tm, H⟩ ⟨tm, H'⟩ := by
  subst hH'
  rintro n a w ⟨β, S, hH, hdf, hn, he⟩
  have hz : 0 < sz := by simpa using hz
  obtain ⟨h1, h2⟩ := hH.ghost (e := e) (show sz ≠ 0 by omega)
  have hk : k < H.length := (List.getElem?_eq_some_iff.1 hb).1
  have hgr : ∀ (i : Nat) (x : Box), (H.set k (some ⟨cs.set q (.row H.length 0), be, bz⟩) ++ [some ⟨[], e, sz⟩])[i]? = some (some x) → (i = k ∧ x = ⟨cs.set q (.row H.length 0), be, bz⟩) ∨ (H ++ [some ⟨[], e, sz⟩])[i]? = some (some x) := by
    intro i x hx
    by_cases hi : i = k
    · subst hi
      rw [List.getElem?_append_left (by simpa using hk), List.getElem?_set_self hk] at hx
      injection hx with hx
      injection hx with hx
      exact .inl ⟨rfl, hx.symm⟩
    · right
      rw [List.getElem?_append] at hx ⊢
      rw [List.length_set, List.getElem?_set_ne (Ne.symm hi)] at hx
      exact hx
  have hold : (H ++ [some ⟨[], e, sz⟩])[k]? = some (some ⟨cs, be, bz⟩) := by rw [List.getElem?_append_left hk]; exact hb
  refine ⟨_, S, { h1 with box := ?_, len := ?_, inj := ?_ }, hdf, hn, fun t' g d' hg => ?_⟩
  · intro i x hx
    rcases hgr i x hx with ⟨rfl, rfl⟩ | hx
    · rcases h1.box i _ hold with ⟨h3, h4, h5⟩ | ⟨b, cc, cur, us, h3, h4, h5, h6, h7, h8⟩
      · rw [show cs = [] from h5] at hq; simp at hq
      · refine .inr ⟨b, cc, cur, us, h3, h4, h5, ?_, h7, h8⟩
        have hu : ∃ y, us[q]? = some y ∧ (D.p (.x (.slice none 0 0))).Rep (β ++ [none]) S w y := h6.get hq
        obtain ⟨y, hy, hr⟩ := hu
        have h9 := D.RepL.set (e := .row H.length 0) (u := y) q h6 (.inl ⟨by rw [← hH.len]; simp, rfl, none, hr⟩)
        have hset : us.set q y = us := by
          apply List.ext_getElem?
          intro p
          by_cases hp : p = q
          · subst hp
            rw [List.getElem?_set_self (List.getElem?_eq_some_iff.1 hy).1, hy]
          · rw [List.getElem?_set_ne (Ne.symm hp)]
        rwa [hset] at h9
    · exact h1.box i x hx
  · have := h1.len
    simpa using this
  · intro i j x y b p q' hx hy hbx hby
    have hx' : ∃ x', (H ++ [some ⟨[], e, sz⟩])[i]? = some (some x') := by
      rcases hgr i x hx with ⟨rfl, rfl⟩ | hx
      · exact ⟨_, hold⟩
      · exact ⟨_, hx⟩
    have hy' : ∃ x', (H ++ [some ⟨[], e, sz⟩])[j]? = some (some x') := by
      rcases hgr j y hy with ⟨rfl, rfl⟩ | hx
      · exact ⟨_, hold⟩
      · exact ⟨_, hx⟩
    obtain ⟨x', hx'⟩ := hx'
    obtain ⟨y', hy'⟩ := hy'
    exact h1.inj i j x' y' b p q' hx' hy' hbx hby
  · obtain ⟨k1, k2, k3⟩ := he t' g d' hg
    exact ⟨k1, fun hg => (k2 hg).mono h2 (fun _ _ _ => rfl) fun _ h _ => h, k3⟩
end
/-! ### calls that are handed rows of the call's own, to read -/
/-- a value without addresses at all -/
def V.bare : V → Bool
  | .x _ => true
  | _ => false
def V.bareL : List V → Bool
  | [] => true
  | v :: l => v.bare && V.bareL l
def V.bareT : V → Bool
  | .tup l => V.bareL l
  | v => v.bare
theorem V.Rep.bare {S S' : Nat → Prop} {w : World} {v : V} {u : Value} (hb : v.bare = true) (h : v.Rep S w u) : v.Rep S' w u := by
  cases v <;> first | exact h | simp [V.bare] at hb
theorem V.RepL.bare {S S' : Nat → Prop} {w : World} : ∀ {l : List V} {us : List Value}, V.bareL l = true → V.RepL S w l us → V.RepL S' w l us
  | [], _, _, h => h
  | v :: l, _, hb, h => by
    simp only [V.bareL, Bool.and_eq_true] at hb
    obtain ⟨y, ys, h1, h2, h3⟩ := h
    exact ⟨y, ys, h1, h2.bare hb.1, V.RepL.bare hb.2 h3⟩
theorem V.Rep.bareT {S S' : Nat → Prop} {w : World} {v : V} {u : Value} (hb : v.bareT = true) (h : v.Rep S w u) : v.Rep S' w u := by
  cases v with
  | tup l =>
    obtain ⟨us, h1, h2⟩ := h
    exact ⟨us, h1, h2.bare hb⟩
  | x u => exact h
  | _ => simp [V.bareT, V.bare] at hb
mutual
/-- a datum of the call's, read as one without addresses: rows (or their beginnings) as slices -/
inductive DRd (H : List (Option Box)) : D → V → Prop
  | of {d : D} {v : V} : DV d v → DRd H d v
  | row {i n : Nat} {x : Box} {ds : List D} {vs : List V} : H[i]? = some (some x) → x.sz ≠ 0 → x.cs.take (n * x.sz) = ds → ds.length = n * x.sz → DRdL H ds vs → DRd H (.row i n) (.sl n vs)
  | agg {ds : List D} {vs : List V} : DRdL H ds vs → DRd H (.agg ds) (.agg vs)
inductive DRdL (H : List (Option Box)) : List D → List V → Prop
  | nil : DRdL H [] []
  | cons {d : D} {v : V} {ds : List D} {vs : List V} : DRd H d v → DRdL H ds vs → DRdL H (d :: ds) (v :: vs)
end
theorem DRdL.p (H : List (Option Box)) : ∀ l : List V, DRdL H (l.map D.p) l
  | [] => .nil
  | _ :: l => .cons (.of (.of rfl)) (DRdL.p H l)
section
variable {H : List (Option Box)} {β : List Place} {S : Nat → Prop} {w : World}
/-- with the blocks of all boxes -/
abbrev withBoxes (β : List Place) (S : Nat → Prop) (b : Nat) : Prop := S b ∨ ∃ (i : Nat) (q : Nat), β[i]? = some (some (b, q))
mutual
theorem DRd.rep (hH : HOk H β S w) : ∀ {d : D} {v : V} {u : Value}, DRd H d v → d.Rep β S w u → v.Rep (withBoxes β S) w u
  | _, _, _, .of h, hr => (h.rep hr).mono (fun _ _ _ => rfl) fun b hb _ => .inl hb
  | .row i n, _, u, @DRd.row _ _ _ x ds vs hi hz hd hl hv, hr => by
    rcases hr with ⟨h1, rfl, a, rfl⟩ | ⟨b, c, h1, h2, rfl⟩
    · have : ds = [] := List.eq_nil_of_length_eq_zero (by simpa using hl)
      subst this
      cases hv
      exact ⟨a, 0, [], rfl, Nat.le_refl _, by simp [maxLen], rfl, fun q y hq => by simp at hq⟩
    · rcases hH.box i x hi with ⟨h3, _, _⟩ | ⟨b', c', cur, us, h3, h4, h5, h6, h7, h8, h9⟩
      · rw [h1] at h3; cases h3
      · rw [h1] at h3
        injection h3 with h3
        injection h3 with h3
        injection h3 with h3 h3'
        subst h3; subst h3'
        have hk := h6.take (n * x.sz)
        rw [hd] at hk
        refine ⟨_, c, us.take (n * x.sz), rfl, h2, (h9 hz).2, DRdL.rep hH hv hk, ?_⟩
        intro q y hq
        refine ⟨b, 0, rfl, ?_, .inr ⟨i, c, h1⟩⟩
        have hq' : us[q]? = some y := by
          rw [List.getElem?_take] at hq
          split at hq
          · exact hq
          · cases hq
        have hq2 := prefix_get h7 hq'
        have := World.news_of_block h5 q y (by simpa using hq2)
        simpa [add_lit] using this
  | _, _, _, .agg h, hr => by
    obtain ⟨us, h1, h2⟩ := hr
    exact ⟨us, h1, DRdL.rep hH h h2⟩
theorem DRdL.rep (hH : HOk H β S w) : ∀ {ds : List D} {vs : List V} {us : List Value}, DRdL H ds vs → D.RepL β S w ds us → V.RepL (withBoxes β S) w vs us
  | _, _, _, .nil, hr => hr
  | _, _, _, .cons h hs, hr => by
    obtain ⟨y, ys, h1, h2, h3⟩ := hr
    exact ⟨y, ys, h1, DRd.rep hH h h2, DRdL.rep hH hs h3⟩
end
end
/-- a row, as a list -/
theorem DRd.list {α : Type} {enc : α → List V} {l : List α} {i : Nat} {H : List (Option Box)} {e : TypeId} {sz : Nat} (h : H[i]? = some (some ⟨D.enc enc l, e, sz⟩)) (hsz : ∀ q, (enc q).length = sz) (hz : Nat.blt 0 sz = true) : DRd H (.row i l.length) (V.list enc l) := by
  have hz : 0 < sz := by simpa using hz
  have hl : (D.enc enc l).length = l.length * sz := by simp [D.enc, flat_len hsz]
  refine .row h (by show sz ≠ 0; omega) (List.take_of_length_le (Nat.le_of_eq hl)) hl (DRdL.p _ _)
/-- a row's beginning -/
theorem DRd.pre {α : Type} {enc : α → List V} {l : List α} {i n : Nat} {H : List (Option Box)} {e : TypeId} {sz : Nat} (h : H[i]? = some (some ⟨D.enc enc l, e, sz⟩)) (hn : n ≤ l.length) (hsz : ∀ q, (enc q).length = sz) (hz : Nat.blt 0 sz = true) : DRd H (.row i n) (V.list enc (l.take n)) := by
  have hz : 0 < sz := by simpa using hz
  have hl : (l.take n).length = n := by simp [hn]
  have ht : (D.enc enc l).take (n * sz) = D.enc enc (l.take n) := by
    rw [D.enc, ← List.map_take, V.cutT hsz]
  have hl' : (D.enc enc (l.take n)).length = n * sz := by simp only [D.enc, List.length_map, flat_len hsz, hl]
  have := DRd.row (H := H) (i := i) (n := n) h (by show sz ≠ 0; omega) ht hl' (DRdL.p _ _)
  unfold V.list
  rw [hl]
  exact this
inductive EvRd (s : St) (g : Bool) : List Operand → List V → Prop
  | nil : EvRd s g [] []
  | cons {x : Operand} {xs : List Operand} {d : D} {v : V} {vs : List V} : Ev s g x d → DRd s.H d v → EvRd s g xs vs → EvRd s g (x :: xs) (v :: vs)
section
variable {P : Program} {s : St} {g : Bool} {dst : Option Tmp} {ty : TypeId} {pos : String} {af : Array Edge} {gd : Option (Nat × Bool)}
theorem EvRd.rep {l : Array Operand} {β : List Place} {S : Nat → Prop} {a : Act} {w : World} (hH : HOk s.H β S w) (he : ∀ t, .tmp t ∈ l → EntAt s β S w a t) (hg : g = true) : ∀ {xs : List Operand} {vs : List V}, EvRd s g xs vs → (∀ x ∈ xs, x ∈ l) → V.RepL (withBoxes β S) w vs (xs.map a.eval)
  | _, _, .nil, _ => rfl
  | _, _, .cons h hd hs, hm => ⟨_, _, rfl, hd.rep hH (h.rep (hm _ List.mem_cons_self) he hg), EvRd.rep hH he hg hs fun x hx => hm x (List.mem_cons_of_mem _ hx)⟩
/-- a call that reads rows of the call's own, and comes back with numbers -/
theorem MOp.callV {f : Operand} {k : FuncId} {as : Array Operand} {ts : Array TypeId} {vs : List V} {r : V} (hf : Ev s g f (.p (.x (.func (.func k) #[] #[])))) (hc : g = true → Fn1 P k vs r) (hr : r.bareT = true) (ha : EvRd s g as.toList vs) :
    MOp P s ⟨dst, .call { callee := .value f, args := as, argTypes := ts }, ty, pos, af, gd⟩ g (.p r) := by
  refine ⟨fun β S a w ho he hg K Q hK => ?_⟩
  have hm : ∀ x ∈ as.toList, x ∈ (Op.call { callee := .value f, args := as, argTypes := ts }).operands := fun x hx => by
    simp only [Op.operands, Call.operands, Array.mem_append]
    exact .inr (by simpa using hx)
  have h1 : a.eval f = .func (.func k) #[] #[] := hf.rep (l := (Op.call { callee := .value f, args := as, argTypes := ts }).operands) (by simp [Op.operands, Call.operands]) he hg
  have h2 := EvRd.rep ho he hg ha hm
  have h3 := (hc hg).calls (withBoxes β S) w _ (fun b hb => .inl (ho.up b hb)) h2
  unfold Oper.wp
  have hrun : (execOp a.eval ⟨dst, .call { callee := .value f, args := as, argTypes := ts }, ty, pos, af, gd⟩).run P w = .ok (.enter k (as.map a.eval)) w := by
    simp [execOp, resolve, h1, Deferred.ofValue, invoke, (hc hg).enter]
  rw [hrun]
  show Calls P k (as.map a.eval) w _
  have e : as.map a.eval = (as.toList.map a.eval).toArray := by apply Array.ext'; simp
  rw [e]
  refine h3.mono ?_
  rintro e w' ⟨u, rfl, hx, hrr⟩
  exact hK u w' hx (V.Rep.bareT hr hrr)
end
/-! ### slice literals that hold what leads to boxes -/
section
variable {P : Program} {s : St} {g : Bool} {dst : Option Tmp} {ty : TypeId} {pos : String} {af : Array Edge} {gd : Option (Nat × Bool)}
theorem MOp.buildLit {t e : TypeId} {len : Nat} {parts : Array (Nat × Operand)} {i j : TypeInfo} {u : TypeDesc} {z : Value} {ds : List (Nat × D)} {res : List D} [h : TyI P t i (.slice e)] [h' : TyI P e j u] (hz : j.zero = some z) (hlen : Nat.ble (len * j.size) 16777216 = true) (hp : EvP s g parts.toList ds)
    (hf : fillD (fun i => some (i * j.size, j.size)) (zeroD z (len * j.size)) ds = some res) (hlm : Nat.ble len 1000000 = true) : MOp P s ⟨dst, .buildSlice t len parts, ty, pos, af, gd⟩ g (.lit len res) := by
  refine ⟨fun β S a w ho he hg K Q hK => ?_⟩
  have hlen : len * j.size ≤ 16777216 := by simpa using hlen
  have hlm : len ≤ 1000000 := by simpa using hlm
  have h1 := hp.rep (l := (Op.buildSlice t len parts).operands) he hg (by
    intro x hx
    simp only [Op.operands, List.mem_toArray, List.mem_map]
    exact ⟨x, hx, rfl⟩)
  have hc : D.RepL β S w (zeroD z (len * j.size)) ((List.range (len * j.size)).map fun q => z.cells[q % z.cells.size]!) := by
    have := D.RepL.p (β := β) (V.RepL.x (S := S) (w := w) (l := (List.range (len * j.size)).map fun q => z.cells[q % z.cells.size]!))
    rw [List.map_map, List.map_map] at this
    exact this
  obtain ⟨us, h2, h3⟩ := fill_rep _ h1 hc hf
  have hx : Ext w (w.alloc (.cells us.toArray e)) := (Ext.refl w).alloc _
  refine wp_value (v := .slice (some ⟨w.heap.size, 0, none⟩) len len) (w' := w.alloc (.cells us.toArray e)) ?_ (hK _ _ hx ⟨_, us, rfl, by simp only [maxLen]; omega, h3.ext hx, ?_⟩)
  · have e3 : ((Array.range (len * j.size)).map fun q => z.cells[q % z.cells.size]!) = ((List.range (len * j.size)).map fun q => z.cells[q % z.cells.size]!).toArray := by
      apply Array.ext'; simp
    have hge : ¬ len * j.size > 2 ^ 24 := by omega
    by_cases h0 : len * j.size = 0
    · rw [h0] at h2
      simp only [List.range_zero, List.map_nil] at h2
      have h2' : Instr.fill (fun i => some (i * j.size, j.size)) #[] (List.map (fun x => (x.fst, a.eval x.snd)) parts.toList) = some us.toArray := h2
      simp only [execOp, Instr.buildSlice, Sem.run_bind, run_underlying h.ut, Result.andThen_ok, run_sizeOf' h'.ti, if_neg hge, Sem.run_pure, h0]
      have hge0 : ¬ (0 : Nat) > 2 ^ 24 := by omega
      have hr0 : Array.range 0 = #[] := rfl
      simp only [if_neg hge0, if_true, Sem.run_bind, Sem.run_pure, Result.andThen_ok, Array.toList_map, hr0, List.map_toArray, List.map_nil]
      rw [h2']
      simp [newRow, go_sem]
    · simp only [execOp, Instr.buildSlice, Sem.run_bind, run_underlying h.ut, Result.andThen_ok, run_sizeOf' h'.ti, if_neg hge, if_neg h0, Sem.run_pure, run_zeroValue' h'.ti hz]
      simp only [Array.toList_map, e3]
      rw [h2]
      simp [newRow, go_sem]
  · intro q y hq
    refine ⟨w.heap.size, 0, rfl, ?_, ho.up _ (Nat.le_refl _)⟩
    have := World.news_of_block (heap_alloc_new w (.cells us.toArray e)) q y (by simpa using hq)
    rwa [add_lit] at this
theorem MOp.lenLit {m : Nat} {cs : List D} {x : Operand} {t e : TypeId} {i : TypeInfo} [h : TyI P t i (.slice e)] (hx : Ev s g x (.lit m cs)) :
    MOp P s ⟨dst, .call { callee := .builtin .len, args := #[x], argTypes := #[t] }, ty, pos, af, gd⟩ g (.p (.i m)) :=
  MOp.of1 hx (by simp [Op.operands, Call.operands]) fun β S w ρ _ hr => by
    obtain ⟨a, us, h1, h2⟩ := hr
    refine ⟨.int .i64 m, ?_, rfl⟩
    simp [execOp, resolve, invoke, builtin, h1, Builtin.len_, run_underlying h.ut, goInt]
theorem MOp.indexLit {m : Nat} {cs ds : List D} {d : D} {x y : Operand} {t e : TypeId} {k : IntKind} {n : Int} {i j : TypeInfo} {u : TypeDesc} [h : TyI P t i (.slice e)] [h' : TyI P e j u] (hx : Ev s g x (.lit m cs)) (hy : Ev s g y (.p (.x (.int k n))))
    (hz : (j.size == 0) = false) (hb : g = true → 0 ≤ n ∧ n < m) (hd : cs.drop (n.toNat * j.size) = d :: ds) : MOp P s ⟨dst, .indexAddr t x y, ty, pos, af, gd⟩ g (.refD (d :: ds)) := by
  refine ⟨fun β S a w ho he hg K Q hK => ?_⟩
  have hz : ¬ j.size = 0 := by simpa using hz
  obtain ⟨h0, hlt⟩ := hb hg
  have r1 := hx.rep (l := (Op.indexAddr t x y).operands) (by simp [Op.operands]) he hg
  have r2 : a.eval y = .int k n := hy.rep (l := (Op.indexAddr t x y).operands) (by simp [Op.operands]) he hg
  obtain ⟨ad, us, h1, h2, h4, h5⟩ := r1
  have hr := h4.drop (n.toNat * j.size)
  rw [hd] at hr
  obtain ⟨y0, ys, hus, _⟩ := id hr
  have hy1 : us[n.toNat * j.size]? = some y0 := by
    have := congrArg (·[0]?) hus
    simpa using this
  obtain ⟨b, o, h6, h7, h8⟩ := h5 _ _ hy1
  subst h6
  refine wp_value (v := .pointer (some ⟨b, o + n.toNat * j.size, none⟩)) (w' := w) ?_ (hK _ w (Ext.refl w) ⟨_, _, rfl, hr, h5.drop _⟩)
  simp [execOp, h1, r2, Instr.indexAt, asIntOf, run_underlying h.ut, h0, hlt, run_sizeOf' h'.ti, add_lit]
theorem MOp.loadD {x : Operand} {t : TypeId} {i : TypeInfo} {u : TypeDesc} {d : D} {ds : List D} [h : TyI P t i u] (hx : Ev s g x (.refD (d :: ds))) (hu : TypeDesc.isAgg u = false) : MOp P s ⟨dst, .load t x, ty, pos, af, gd⟩ g d :=
  MOp.of1 hx (by simp [Op.operands]) fun β S w ρ _ hr => by
    obtain ⟨a, us, h1, h2, h3⟩ := hr
    obtain ⟨y, h4, h5⟩ := h2.get (i := 0) rfl
    obtain ⟨b, o, h6, h7⟩ := h3.at0 h4
    injection h6 with h6
    subst h6
    refine ⟨y, ?_, h5⟩
    simp only [execOp, h1, Sem.run_bind, run_loadAt', hu]
    simp only [Nat.add_zero] at h7
    simp [run_load, h7]
/-- an operation that is not done -/
theorem MOp.off {o : Oper} (hg : g = false) : MOp P s o g .any := ⟨fun _ _ _ _ _ _ h => by rw [hg] at h; cases h⟩
end
/-! ### numbers, where a guard holds -/
section
variable {P : Program} {s : St} {g : Bool} {dst : Option Tmp} {ty : TypeId} {pos : String} {af : Array Edge} {gd : Option (Nat × Bool)} {x y : Operand} {k : IntKind} {a b : Int} {t t' : TypeId}
theorem MOp.remG (hx : Ev s g x (.p (.x (.int k a)))) (hy : Ev s g y (.p (.x (.int k b)))) (hb : g = true → b ≠ 0) : MOp P s ⟨dst, .binOp .rem t x y t', ty, pos, af, gd⟩ g (.p (.x (.int k (a.tmod b)))) := by
  refine ⟨fun β S A w ho he hg => ?_⟩
  exact (MOp.rem hx hy (hb hg)).run β S A w ho he hg
theorem MOp.quoG (hx : Ev s g x (.p (.x (.int k a)))) (hy : Ev s g y (.p (.x (.int k b)))) (hb : g = true → b ≠ 0) : MOp P s ⟨dst, .binOp .quo t x y t', ty, pos, af, gd⟩ g (.p (.x (.int k (k.wrap (a.tdiv b))))) := by
  refine ⟨fun β S A w ho he hg => ?_⟩
  exact (MOp.quo hx hy (hb hg)).run β S A w ho he hg
theorem MOp.minI (hx : Ev s g x (.p (.x (.int k a)))) (hy : Ev s g y (.p (.x (.int k b)))) : MOp P s ⟨dst, .call { callee := .builtin .min, args := #[x, y], argTypes := #[t, t'] }, ty, pos, af, gd⟩ g (.p (.x (.int k (if b < a then b else a)))) :=
  MOp.of2 hx hy (by simp [Op.operands, Call.operands]) (by simp [Op.operands, Call.operands]) fun β S w ρ _ h1 h2 => by
    have h1 : ρ x = .int k a := h1
    have h2 : ρ y = .int k b := h2
    refine ⟨.int k (if b < a then b else a), ?_, rfl⟩
    simp [execOp, resolve, invoke, builtin, h1, h2, Builtin.min_, Builtin.min2]
theorem MOp.maxI (hx : Ev s g x (.p (.x (.int k a)))) (hy : Ev s g y (.p (.x (.int k b)))) : MOp P s ⟨dst, .call { callee := .builtin .max, args := #[x, y], argTypes := #[t, t'] }, ty, pos, af, gd⟩ g (.p (.x (.int k (if b > a then b else a)))) :=
  MOp.of2 hx hy (by simp [Op.operands, Call.operands]) (by simp [Op.operands, Call.operands]) fun β S w ρ _ h1 h2 => by
    have h1 : ρ x = .int k a := h1
    have h2 : ρ y = .int k b := h2
    refine ⟨.int k (if b > a then b else a), ?_, rfl⟩
    simp [execOp, resolve, invoke, builtin, h1, h2, Builtin.max_, Builtin.max2]
end
/-! ### what a pointer leads to, as an aggregate -/
def takeV : Nat → List V → Option (List V)
  | 0, _ => some []
  | _ + 1, [] => none
  | n + 1, v :: l => match takeV n l with
    | some vs => some (v :: vs)
    | none => none
theorem takeV_eq : ∀ {n : Nat} {l vs : List V}, takeV n l = some vs → l.take n = vs ∧ n ≤ l.length
  | 0, _, _, h => by simp only [takeV, Option.some.injEq] at h; subst h; simp
  | _ + 1, [], _, h => by simp [takeV] at h
  | n + 1, v :: l, vs, h => by
    simp only [takeV] at h
    split at h
    · rename_i vs' h'
      injection h with h
      subst h
      obtain ⟨h1, h2⟩ := takeV_eq h'
      exact ⟨by rw [List.take_succ_cons, h1], by simp; omega⟩
    · cases h
theorem MOp.loadRV {P : Program} {s : St} {g : Bool} {dst : Option Tmp} {ty : TypeId} {pos : String} {af : Array Edge} {gd : Option (Nat × Bool)} {x : Operand} {t : TypeId} {i : TypeInfo} {u : TypeDesc} {cs vs : List V} [h : TyI P t i u] (hx : Ev s g x (.p (.ref cs))) (hu : TypeDesc.isAgg u = true) (hv : takeV i.size cs = some vs) : MOp P s ⟨dst, .load t x, ty, pos, af, gd⟩ g (.p (.agg vs)) := by
  obtain ⟨h1, h2⟩ := takeV_eq hv
  subst h1
  exact MOp.loadRA hx hu h2
/-! ### s[:n] of a row; a cut with ways out -/
section
variable {P : Program} {s : St} {g : Bool} {dst : Option Tmp} {ty : TypeId} {pos : String} {af : Array Edge} {gd : Option (Nat × Bool)}
theorem MOp.sliceRow {x z : Operand} {t e : TypeId} {i j : TypeInfo} {u : TypeDesc} {k m : Nat} {kk : IntKind} {hi : Int} [h : TyI P t i (.slice e)] [h' : TyI P e j u] (hx : Ev s g x (.row k m)) (hz : Ev s g z (.p (.x (.int kk hi)))) (hb : g = true → 0 ≤ hi ∧ hi ≤ m) :
    MOp P s ⟨dst, .slice t x none (some z) none, ty, pos, af, gd⟩ g (.row k hi.toNat) := by
  refine ⟨fun β S a w ho he hg K Q hK => ?_⟩
  obtain ⟨b2, b3⟩ := hb hg
  have r1 := hx.rep (l := (Op.slice t x none (some z) none).operands) (by simp [Op.operands]) he hg
  have r3 : a.eval z = .int kk hi := hz.rep (l := (Op.slice t x none (some z) none).operands) (by simp [Op.operands]) he hg
  have hu : P.underlying t = some (.slice (P.elem t)) := by simp [Program.elem, h.ut]
  have hel : P.elem t = e := by simp [Program.elem, h.ut]
  obtain ⟨ad, c, h1, hcap, hr⟩ : ∃ ad c, a.eval x = .slice ad m c ∧ hi ≤ (c : Int) ∧ (D.row k hi.toNat).Rep β S w (Go.sliced ad 0 hi.toNat c j.size) := by
    rcases r1 with ⟨k1, k2, ad, k3⟩ | ⟨b, c, k1, k2, k3⟩
    · refine ⟨ad, 0, by rw [k3, k2], by omega, .inl ⟨k1, by omega, ?_⟩⟩
      have : hi.toNat = 0 := by omega
      rw [this]
      exact ⟨_, rfl⟩
    · refine ⟨_, c, k3, by omega, .inr ⟨b, c, k1, by omega, ?_⟩⟩
      by_cases h0 : c = 0
      · subst h0
        have : hi.toNat = 0 := by omega
        rw [this]
        simp [Go.sliced, Addr.add]
      · simp [Go.sliced, Addr.add]
  refine wp_value (v := Go.sliced ad 0 hi.toNat c j.size) (w' := w) ?_ (hK _ w (Ext.refl w) hr)
  simp only [execOp, h1, r3, Option.map_some, Option.map_none, Sem.run_bind]
  rw [run_sliceAt_slice w t _ _ _ _ hu, run_slice_h w t ad m c hu kk hi b2 hcap, hel, run_sizeOf' h'.ti]
  rfl
end
section
variable {P : Program} {c : Ctx} {n : Nat} {Q Q' : Exit → St → Prop} {s : St} {x y : Code} {α : Type}
theorem Sym.cutE (I : α → St) (good : α → Prop) (h1 : Sym P c n x (thenS (fun s => ∃ a, good a ∧ Le c s (I a)) Q') s) (h2 : ∀ a, good a → Sym P c n y Q (I a)) : Sym P c n x (thenS (Sym P c n y Q) Q') s := by
  refine h1.mono fun e s he => ?_
  cases e with
  | normal =>
    obtain ⟨a, ha, hl⟩ := he
    exact Sym.weak hl (h2 a ha)
  | _ => exact he
end
theorem flat_drop {α β : Type} (enc : α → List β) (k : Nat) (hk : ∀ q, (enc q).length = k) : ∀ (l : List α) (i : Nat) (el : α), l[i]? = some el → ((l.flatMap enc).drop (i * k)).take k = enc el ∧ i * k + k ≤ (l.flatMap enc).length
  | [], i, el, h => by simp at h
  | a :: l, 0, el, h => by
    simp only [List.getElem?_cons_zero, Option.some.injEq] at h
    subst h
    refine ⟨?_, ?_⟩
    · rw [Nat.zero_mul, List.drop_zero, List.flatMap_cons, ← hk a, List.take_left']
      rfl
    · rw [Nat.zero_mul, Nat.zero_add, List.flatMap_cons, List.length_append, hk a]
      omega
  | a :: l, i + 1, el, h => by
    simp only [List.getElem?_cons_succ] at h
    obtain ⟨h1, h2⟩ := flat_drop enc k hk l i el h
    rw [show (i + 1) * k = k + i * k by rw [Nat.add_mul, Nat.one_mul, Nat.add_comm], List.flatMap_cons]
    refine ⟨?_, ?_⟩
    · rw [← List.drop_drop]
      conv => lhs; arg 2; arg 2; rw [← hk a]
      rw [List.drop_left']
      · exact h1
      · rfl
    · rw [List.length_append, hk a]
      omega
section
variable {P : Program} {s : St} {g : Bool} {dst : Option Tmp} {ty : TypeId} {pos : String} {af : Array Edge} {gd : Option (Nat × Bool)}
/-- an element of several cells, out of a row -/
theorem MOp.loadRow {α : Type} {enc : α → List V} {l : List α} {el : α} {x : Operand} {t : TypeId} {i : TypeInfo} {u : TypeDesc} {k off j : Nat} {be : TypeId} {bz : Nat} [h : TyI P t i u] (hx : Ev s g x (.ptr k off)) (hb : s.H[k]? = some (some ⟨(l.flatMap enc).map D.p, be, bz⟩)) (hu : TypeDesc.isAgg u = true) (hoff : off = j * i.size) (hsz : ∀ q, (enc q).length = i.size) (hel : l[j]? = some el) :
    MOp P s ⟨dst, .load t x, ty, pos, af, gd⟩ g (.p (.agg (enc el))) := by
  subst hoff
  obtain ⟨h1, h2⟩ := flat_drop enc i.size hsz l j el hel
  refine MOp.loadAV (vs := enc el) hx hb hu (by simpa using h2) ?_
  rw [← List.map_drop, ← List.map_take, h1]
  exact D.toVL_p _
end
/-! ### structs of numbers: are they the same? -/
def V.intsOf : List V → Option (List Int)
  | [] => some []
  | .x (.int .i64 a) :: l => (V.intsOf l).map (a :: ·)
  | _ => none
def intFields (P : Program) : Nat → List Field → Bool
  | _, [] => true
  | o, f :: fs => (f.name != "_") && (f.offset == o) && (match P.underlying f.type with | some (.int _) => true | _ => false) && intFields P (o + 1) fs
theorem V.intsOf_rep {S : Nat → Prop} {w : World} : ∀ {l : List V} {as : List Int} {us : List Value}, V.intsOf l = some as → V.RepL S w l us → us = as.map (Value.int .i64)
  | [], as, us, h, hr => by
    simp only [V.intsOf, Option.some.injEq] at h
    subst h
    exact hr
  | .x (.int .i64 a) :: l, as, us, h, hr => by
    simp only [V.intsOf, Option.map_eq_some_iff] at h
    obtain ⟨bs, h1, rfl⟩ := h
    obtain ⟨y, ys, rfl, h3, h4⟩ := hr
    rw [V.intsOf_rep h1 h4, show y = _ from h3]
    rfl
theorem run_eqFields_ints {P : Program} (w : World) (d : Nat) (xs ys : List Value) : ∀ (fs : List Field) (as bs : List Int) (o : Nat), intFields P o fs = true → as.length = fs.length → bs.length = fs.length → xs.drop o = as.map (Value.int .i64) → ys.drop o = bs.map (Value.int .i64) →
    (Op.eqFields (d + 1) xs.toArray ys.toArray fs).run P w = .ok (as == bs) w
  | [], as, bs, o, _, ha, hb, _, _ => by
    obtain rfl := List.length_eq_zero_iff.1 ha
    obtain rfl := List.length_eq_zero_iff.1 hb
    rfl
  | f :: fs, a :: as, b :: bs, o, h, ha, hb, hx, hy => by
    simp only [intFields, Bool.and_eq_true, bne_iff_ne, ne_eq, beq_iff_eq] at h
    obtain ⟨⟨⟨h1, h2⟩, h3⟩, h4⟩ := h
    obtain ⟨q, hq⟩ : ∃ q, P.underlying f.type = some (.int q) := by
      split at h3
      · exact ⟨_, ‹_›⟩
      · cases h3
    have hp : ∀ (us : List Value) (v : Value) (vs : List Value), us.drop o = v :: vs → (part f.type us.toArray f.offset).run P w = .ok v w := by
      intro us v vs hd
      have hv : us[o]? = some v := by rw [← Nat.add_zero o, ← List.getElem?_drop, hd]; rfl
      unfold part
      rw [Sem.run_bind, run_isAgg' hq, h2]
      simp [TypeDesc.isAgg, hv]
    have hn : ∀ (us : List Value) (v : Value) (vs : List Value), us.drop o = v :: vs → us.drop (o + 1) = vs := by
      intro us v vs hd
      rw [← List.drop_drop, hd]
      rfl
    rw [List.map_cons] at hx hy
    simp only [Op.eqFields, if_pos (show f.name ≠ "_" from h1), Sem.run_bind, hp _ _ _ hx, hp _ _ _ hy, Result.andThen_ok, run_equalIn_int w d f.type .i64 q a b hq]
    by_cases hab : a = b
    · subst hab
      simp only [beq_self_eq_true, Bool.not_true, Bool.false_eq_true, if_false]
      rw [run_eqFields_ints w d xs ys fs as bs (o + 1) h4 (by simpa using ha) (by simpa using hb) (hn _ _ _ hx) (hn _ _ _ hy)]
      simp
    · have e : (a == b) = false := by simpa using hab
      simp [e, hab]
  | f :: fs, [], _, _, _, ha, _, _, _ => by simp at ha
  | f :: fs, _, [], _, _, _, hb, _, _ => by simp at hb
section
variable {P : Program} {s : St} {g : Bool} {dst : Option Tmp} {ty : TypeId} {pos : String} {af : Array Edge} {gd : Option (Nat × Bool)} {x y : Operand} {t t' : TypeId} {i : TypeInfo} {fs : Array Field} {vs vs' : List V} {as bs : List Int}
theorem run_equal_ints (w : World) (us vs : List Value) (hu : P.underlying t = some (.struct fs)) (hp : P.stoodInHeld t = false) (hf : intFields P 0 fs.toList = true) (hla : as.length = fs.toList.length) (hlb : bs.length = fs.toList.length) (h1 : us = as.map (Value.int .i64)) (h2 : vs = bs.map (Value.int .i64)) :
    (Op.equalIn 10000 t (.agg us.toArray) (.agg vs.toArray)).run P w = .ok (as == bs) w := by
  have e : P.fieldsOf t = fs := by simp [Program.fieldsOf, hu]
  rw [run_equalIn_struct w 9999 t us.toArray vs.toArray (by rw [e]; exact hu) hp, e]
  exact run_eqFields_ints w 9998 us vs fs.toList as bs 0 hf hla hlb (by simpa using h1) (by simpa using h2)
theorem MOp.neqA [h : TyI P t i (.struct fs)] (hx : Ev s g x (.p (.agg vs))) (hy : Ev s g y (.p (.agg vs'))) (ha : V.intsOf vs = some as) (hb : V.intsOf vs' = some bs) (hg : P.eqGuardType P.depth t = false) (hp : P.stoodInHeld t = false) (hf : intFields P 0 fs.toList = true) (hla : Nat.beq as.length fs.toList.length = true) (hlb : Nat.beq bs.length fs.toList.length = true) :
    MOp P s ⟨dst, .binOp .neq t x y t', ty, pos, af, gd⟩ g (.p (.x (.bool (as != bs)))) :=
  MOp.of2 hx hy (by simp [Op.operands]) (by simp [Op.operands]) fun β S w ρ _ h1 h2 => by
    obtain ⟨us, e1, e2⟩ := h1
    obtain ⟨us', e3, e4⟩ := h2
    refine ⟨.bool (as != bs), ?_, rfl⟩
    simp only [execOp, e1, e3]
    simp only [Sem.run_bind, run_eqGuard_agg w .neq t x y _ _ hg, Result.andThen_ok, run_neq_struct, run_equal_ints w us us' h.ut hp hf (by simpa using hla) (by simpa using hlb) (V.intsOf_rep ha e2) (V.intsOf_rep hb e4)]
    rfl
theorem MOp.eqlA [h : TyI P t i (.struct fs)] (hx : Ev s g x (.p (.agg vs))) (hy : Ev s g y (.p (.agg vs'))) (ha : V.intsOf vs = some as) (hb : V.intsOf vs' = some bs) (hg : P.eqGuardType P.depth t = false) (hp : P.stoodInHeld t = false) (hf : intFields P 0 fs.toList = true) (hla : Nat.beq as.length fs.toList.length = true) (hlb : Nat.beq bs.length fs.toList.length = true) :
    MOp P s ⟨dst, .binOp .eql t x y t', ty, pos, af, gd⟩ g (.p (.x (.bool (as == bs)))) :=
  MOp.of2 hx hy (by simp [Op.operands]) (by simp [Op.operands]) fun β S w ρ _ h1 h2 => by
    obtain ⟨us, e1, e2⟩ := h1
    obtain ⟨us', e3, e4⟩ := h2
    refine ⟨.bool (as == bs), ?_, rfl⟩
    simp only [execOp, e1, e3]
    simp only [Sem.run_bind, run_eqGuard_agg w .eql t x y _ _ hg, Result.andThen_ok, run_eql_struct, run_equal_ints w us us' h.ut hp hf (by simpa using hla) (by simpa using hlb) (V.intsOf_rep ha e2) (V.intsOf_rep hb e4)]
    rfl
end
end Go.Sy
set_option linter.unusedSimpArgs false
set_option linter.unusedVariables false
namespace Go.Sy
open Go.RowKit
/-! ### hints that a walk finds among its hypotheses: k1, k2, .. (contracts), a1, a2, .. (lists that are appended) -/
/-- the contract, called with these boxes -/
def AtR (ks : List Nat) (P : Program) (f : FuncId) (ds : List D) (H0 : List (Option Box)) (r : V) : Prop := FnR P f ds H0 r
def AtB (ks : List Nat) (P : Program) (f : FuncId) (ds : List D) (H0 : List (Option Box)) (r : D) (H1 : List (Option Box)) : Prop := FnB P f ds H0 r H1
theorem FnR.at {P : Program} {f : FuncId} {ds : List D} {H0 : List (Option Box)} {r : V} (h : FnR P f ds H0 r) (ks : List Nat) : AtR ks P f ds H0 r := h
theorem FnB.at {P : Program} {f : FuncId} {ds : List D} {H0 H1 : List (Option Box)} {r : D} (h : FnB P f ds H0 r H1) (ks : List Nat) : AtB ks P f ds H0 r H1 := h
/-- what is left to be shown -/
structure Kont (q : Prop) : Prop where
  run : q
/-- the temporary that is a row of the call's own -/
inductive RowH (t : Tmp) : Prop
  | mk
inductive AppH {α : Type} (enc : α → List V) (l m : List α) : Prop
  | mk
section
variable {P : Program} {s : St} {g : Bool} {dst : Option Tmp} {ty : TypeId} {pos : String} {af : Array Edge} {gd : Option (Nat × Bool)}
theorem MOp.callK {f : Operand} {k : FuncId} {as : Array Operand} {ts : Array TypeId} {vs : List V} {r : V} (hc : Fn1 P k vs r) (hf : Ev s g f (.p (.x (.func (.func k) #[] #[])))) (ha : EvL s g as.toList vs) :
    MOp P s ⟨dst, .call { callee := .value f, args := as, argTypes := ts }, ty, pos, af, gd⟩ g (.p r) := MOp.call hf ha fun _ => hc
theorem MOp.callG {G : Prop} {f : Operand} {k : FuncId} {as : Array Operand} {ts : Array TypeId} {vs : List V} {r : V} (hc : G → Fn1 P k vs r) (hf : Ev s g f (.p (.x (.func (.func k) #[] #[])))) (hg : g = true → G) (ha : EvL s g as.toList vs) :
    MOp P s ⟨dst, .call { callee := .value f, args := as, argTypes := ts }, ty, pos, af, gd⟩ g (.p r) := MOp.call hf ha fun h => hc (hg h)
theorem MOp.callVK {f : Operand} {k : FuncId} {as : Array Operand} {ts : Array TypeId} {vs : List V} {r : V} (hc : Fn1 P k vs r) (hf : Ev s g f (.p (.x (.func (.func k) #[] #[])))) (hr : r.bareT = true) (ha : EvRd s g as.toList vs) :
    MOp P s ⟨dst, .call { callee := .value f, args := as, argTypes := ts }, ty, pos, af, gd⟩ g (.p r) := MOp.callV hf (fun _ => hc) hr ha
theorem MOp.callRK {f : Operand} {k : FuncId} {as : Array Operand} {ts : Array TypeId} {ds ds' : List D} {H0 : List (Option Box)} {r : V} {ks : List Nat} (hc : AtR ks P k ds H0 r) (hds : D.renL (sig ks s.H.length) ds = ds') (hf : EvF s g f as.toList k ds') (hg0 : Given s.H (sig ks s.H.length) ks H0) (hn : ks.Nodup) :
    MOp P s ⟨dst, .call { callee := .value f, args := as, argTypes := ts }, ty, pos, af, gd⟩ g (.p r) := MOp.callR ks (fun _ => hc) hds hf hg0 hn
theorem MOp.callRG {G : Prop} {f : Operand} {k : FuncId} {as : Array Operand} {ts : Array TypeId} {ds ds' : List D} {H0 : List (Option Box)} {r : V} {ks : List Nat} (hc : G → AtR ks P k ds H0 r) (hg : g = true → G) (hds : D.renL (sig ks s.H.length) ds = ds') (hf : EvF s g f as.toList k ds') (hg0 : Given s.H (sig ks s.H.length) ks H0) (hn : ks.Nodup) :
    MOp P s ⟨dst, .call { callee := .value f, args := as, argTypes := ts }, ty, pos, af, gd⟩ g (.p r) := MOp.callR ks (fun h => hc (hg h)) hds hf hg0 hn
theorem MOp.appendK {α : Type} {enc : α → List V} {l m : List α} (_ : AppH enc l m) {t e : TypeId} {i j : TypeInfo} {u : TypeDesc} {z : Value} {x y : Operand} {dx dy : D} [h : TyI P t i (.slice e)] [h' : TyI P e j u] (hx : Ev s g x dx) (hdx : DV dx (.fl l.length (l.flatMap enc))) (hy : Ev s g y dy) (hdv : DV dy (V.list enc m))
    (hz : j.zero = some z) (hzs : Nat.beq z.cells.size j.size = true) (hpos : Nat.blt 0 j.size = true) (hby : Nat.ble j.bytes 1000 = true) (hsz : ∀ q, (enc q).length = j.size) (hnm : g = true → l.length + m.length ≤ 1000000000) :
    MOp P s ⟨dst, .call { callee := .builtin .append, args := #[x, y], argTypes := #[t, t] }, ty, pos, af, gd⟩ g (.p (V.list enc (l ++ m))) := MOp.append enc l m hx hdx hy hdv hz hzs hpos hby hsz hnm
end
section
variable {P : Program} {c : Ctx} {n : Nat} {ops : Array Oper} {Q : Exit → St → Prop} {rest : List Oper} {t : Tmp} {ty : TypeId} {pos : String} {af : Array Edge} {tm : List (Nat × Bool × D)} {H : List (Option Box)}
theorem SymL.callBK {f : Operand} {k : FuncId} {as : Array Operand} {ts : Array TypeId} {ds ds' : List D} {H0 H1 : List (Option Box)} {r r' : D} {ks : List Nat} (hcb : AtB ks P k ds H0 r H1) (hds : D.renL (sig ks H.length) ds = ds') (hf : EvF ⟨tm, H⟩ true f as.toList k ds') (hg0 : Given H (sig ks H.length) ks H0) (hn : ks.Nodup)
    (ht : Nat.blt t n = true) (hwr : c.ro = true → ∀ k ∈ ks, c.β0.length ≤ k) {H' : List (Option Box)} (hr : r.ren (sig ks H.length) = r') (hH' : Hp.putAll (sig ks H.length) ks H1 H ++ (H1.drop ks.length).map (Option.map (Box.ren (sig ks H.length))) = H')
    (kk : SymL P c n ops Q rest ⟨(t, true, r') :: tm, H'⟩) : SymL P c n ops Q (⟨some t, .call { callee := .value f, args := as, argTypes := ts }, ty, pos, af, none⟩ :: rest) ⟨tm, H⟩ := SymL.callB ks hcb hds hf hg0 hn ht hwr hr hH' kk
end
/-! ### small ones -/
theorem z_ev {p : Prop} (h : p := by first | exact Ev.t rfl | exact Ev.c | exact Ev.tg rfl | exact Ev.f | exact Ev.tw rfl (by simp) | exact Ev.tw rfl (by simp_all)) : p := h
theorem z_gd {p : Prop} (h : p := by first | exact GOk.none rfl | exact GOk.some rfl rfl rfl) : p := h
theorem gokT {ops : Array Oper} {s : St} {o : Oper} {j t : Nat} {want b g : Bool} (h1 : o.guard = some (j, want)) (h2 : (ops[j]?).bind (·.dst) = some t) (h3 : TM.get s.tm t = some (g, .p (.x (.bool b)))) (h : (g && (b == want)) = true) : GOk ops s o true := by
  have := GOk.some h1 h2 h3
  rwa [h] at this
theorem z_gdT {p : Prop} (h : p := by first | exact GOk.none rfl | exact gokT rfl rfl rfl rfl) : p := h
theorem z_nrm {p : Prop} (h : p := by first | (simp only [List.nil_append, List.cons_append, List.set_cons_zero, List.set_cons_succ, List.length_cons, List.length_nil, Nat.reduceAdd, D.cells, V.cells, D.toV, D.toVL, Value.cells, List.map_cons, List.map_nil, splice, List.take_succ_cons, List.take_zero, List.take_nil, List.drop_succ_cons, List.drop_zero, List.drop_nil]; exact rfl) | exact rfl) : p := h
theorem z_fill {p : Prop} (h : p := by first | (simp only [fillD, zeroD, List.range_succ, List.range_zero, List.getElem?_cons_zero, List.getElem?_cons_succ, Nat.beq, Nat.ble, Bool.and_true, Bool.true_and, if_true, D.laid, List.nil_append, List.cons_append, List.length_cons, List.length_nil, Nat.reduceAdd, Nat.reduceMul, Nat.zero_mul, D.cells, V.cells, Value.cells, List.map_cons, List.map_nil, splice, List.take_succ_cons, List.take_zero, List.take_nil, List.drop_succ_cons, List.drop_zero, List.drop_nil]; exact rfl) | exact rfl) : p := h
theorem z_vle {p : Prop} (h : p := by ((repeat' (first | exact VLe.refl _ | exact VLe.nil | exact VLe.nilF | exact VLeL.nil | apply VLeL.cons | apply VLe.xagg | apply VLe.agg | apply VLe.fl | apply VLe.sl | apply VLe.tup)); (first | done | fail))) : p := h
theorem z_dv {p : Prop} (h : p := by first | exact DV.of rfl | exact DV.mk rfl z_vle) : p := h
theorem z_args {p : Prop} (h : p := by ((repeat (first | exact EvL.nil | (apply EvL.cons; exact z_ev; exact z_dv))); (first | done | fail))) : p := h
theorem z_rd {p : Prop} (h : p := by
  first
  | exact DRd.of z_dv
  | exact DRd.list rfl (fun q => rfl) rfl
  | exact DRd.pre rfl (by assumption) (fun q => rfl) rfl
  | (apply DRd.agg; ((repeat (first | exact DRdL.nil | (apply DRdL.cons; exact .of z_dv))); (first | done | fail)))) : p := h
theorem z_rargs {p : Prop} (h : p := by ((repeat (first | exact EvRd.nil | (apply EvRd.cons; exact z_ev; exact z_rd))); (first | done | fail))) : p := h
theorem z_hg {p : Prop} (h : p := by (intro hg; simp at hg; first | exact hg | exact hg.1 | exact hg.2 | exact hg.1.1 | simp_all)) : p := h
theorem z_om {p : Prop} (h : p := by first | omega | (constructor <;> omega)) : p := h
theorem z_bnd {p : Prop} (h : p := by (intro hg; first | omega | assumption | (simp at hg ⊢ <;> omega))) : p := h
theorem z_evp {p : Prop} (h : p := by ((repeat (first | exact EvP.nil | (apply EvP.cons; exact z_ev))); (first | done | fail))) : p := h
theorem z_evd {p : Prop} (h : p := by ((repeat (first | exact EvD.nil | (apply EvD.cons; exact z_ev))); (first | done | fail))) : p := h
theorem z_pl {p : Prop} (h : p := by ((repeat (first | exact Places.nil | (apply Places.cons; exact inferInstance))); (first | done | fail))) : p := h
theorem z_dle {p : Prop} (h : p := by first | exact DLe.refl _ | exact DLe.v z_dv) : p := h
theorem z_evm {p : Prop} (h : p := by ((repeat (first | exact EvM.nil | (apply EvM.cons; exact z_ev; exact z_dle))); (first | done | fail))) : p := h
theorem z_evf {p : Prop} (h : p := by first | (apply EvF.fn; (first | exact Ev.f | exact z_ev); exact z_evm) | (apply EvF.clo; exact z_ev; exact z_evm; exact rfl)) : p := h
theorem z_ren {p : Prop} (h : p := by first | (simp only [D.renL, D.ren, D.renL_p, sig, Hp.putAll, Box.ren, Option.map_some, Option.map_none, List.getElem?_cons_zero, List.getElem?_cons_succ, List.getElem?_nil, List.length_cons, List.length_nil, List.set_cons_zero, List.set_cons_succ, List.drop_succ_cons, List.drop_zero, List.drop_nil, List.map_cons, List.map_nil, List.cons_append, List.nil_append, List.append_nil, Nat.reduceAdd, Nat.reduceSub, Nat.zero_add, Nat.sub_zero]; (first | done | exact rfl)) | exact rfl) : p := h
theorem z_given {p : Prop} (h : p := by first | exact trivial | exact ⟨rfl, trivial⟩ | exact ⟨rfl, rfl, trivial⟩ | exact ⟨rfl, rfl, rfl, trivial⟩ | exact ⟨rfl, rfl, rfl, rfl, trivial⟩ | exact ⟨rfl, rfl, rfl, rfl, rfl, trivial⟩) : p := h
theorem z_elt {p : Prop} (h : p := by (intro hg; first | exact ⟨by omega, rfl⟩ | exact ⟨by omega, by assumption⟩ | exact ⟨by omega, by simp_all⟩)) : p := h
/-! ### operations -/
theorem z_nz {p : Prop} (h : p := by (intro hg; first | omega | assumption | (simp at hg ⊢ <;> omega))) : p := h
theorem z_bin {p : Prop} (h : p := by
  first
  | ((with_reducible apply MOp.eql); exact z_ev; exact z_ev)
  | ((with_reducible apply MOp.neq); exact z_ev; exact z_ev)
  | ((with_reducible apply MOp.lss); exact z_ev; exact z_ev)
  | ((with_reducible apply MOp.leq); exact z_ev; exact z_ev)
  | ((with_reducible apply MOp.gtr); exact z_ev; exact z_ev)
  | ((with_reducible apply MOp.geq); exact z_ev; exact z_ev)
  | ((with_reducible apply MOp.addI); exact z_ev; exact z_ev; exact z_om)
  | ((with_reducible apply MOp.subI); exact z_ev; exact z_ev; exact z_om)
  | ((with_reducible apply MOp.mulI); exact z_ev; exact z_ev; exact z_om)
  | ((with_reducible apply MOp.remI); exact z_ev; exact z_ev; exact z_bnd)
  | ((with_reducible apply MOp.quoI); exact z_ev; exact z_ev; exact z_bnd)
  | ((with_reducible apply MOp.eqlB); exact z_ev; exact z_ev)
  | ((with_reducible apply MOp.eqlS); exact z_ev; exact z_ev)
  | ((with_reducible apply MOp.neqB); exact z_ev; exact z_ev)
  | ((with_reducible apply MOp.neqS); exact z_ev; exact z_ev)
  | ((with_reducible apply MOp.lssS); exact z_ev; exact z_ev)
  | ((with_reducible apply MOp.mul); exact z_ev; exact z_ev)
  | ((with_reducible apply MOp.add); exact z_ev; exact z_ev)
  | ((with_reducible apply MOp.sub); exact z_ev; exact z_ev)
  | ((with_reducible apply MOp.remG); exact z_ev; exact z_ev; exact z_nz)
  | ((with_reducible apply MOp.quoG); exact z_ev; exact z_ev; exact z_nz)) : p := h
theorem z_callK {p : Prop} (h : p := by
  first
  | ((with_reducible apply MOp.callK k1); exact Ev.f; exact z_args)
  | ((with_reducible apply MOp.callK k2); exact Ev.f; exact z_args)
  | ((with_reducible apply MOp.callK k3); exact Ev.f; exact z_args)
  | ((with_reducible apply MOp.callK k4); exact Ev.f; exact z_args)
  | ((with_reducible apply MOp.callK k5); exact Ev.f; exact z_args)
  | ((with_reducible apply MOp.callK k6); exact Ev.f; exact z_args)
  | ((with_reducible apply MOp.callK k7); exact Ev.f; exact z_args)
  | ((with_reducible apply MOp.callK k8); exact Ev.f; exact z_args)
  | ((with_reducible apply MOp.callK k9); exact Ev.f; exact z_args)
  | ((with_reducible apply MOp.callK k10); exact Ev.f; exact z_args)
  | ((with_reducible apply MOp.callK k11); exact Ev.f; exact z_args)
  | ((with_reducible apply MOp.callK k12); exact Ev.f; exact z_args)
  | ((with_reducible apply MOp.callK k13); exact Ev.f; exact z_args)
  | ((with_reducible apply MOp.callK k14); exact Ev.f; exact z_args)
  | ((with_reducible apply MOp.callK k15); exact Ev.f; exact z_args)
  | ((with_reducible apply MOp.callK k16); exact Ev.f; exact z_args)
  | ((with_reducible apply MOp.callG g1); exact Ev.f; exact z_hg; exact z_args)
  | ((with_reducible apply MOp.callG g2); exact Ev.f; exact z_hg; exact z_args)
  | ((with_reducible apply MOp.callG g3); exact Ev.f; exact z_hg; exact z_args)) : p := h
theorem z_callR {p : Prop} (h : p := by
  first
  | ((with_reducible apply MOp.callRK k1); exact z_ren; exact z_evf; exact z_given; decide)
  | ((with_reducible apply MOp.callRK k2); exact z_ren; exact z_evf; exact z_given; decide)
  | ((with_reducible apply MOp.callRK k3); exact z_ren; exact z_evf; exact z_given; decide)
  | ((with_reducible apply MOp.callRK k4); exact z_ren; exact z_evf; exact z_given; decide)
  | ((with_reducible apply MOp.callRK k5); exact z_ren; exact z_evf; exact z_given; decide)
  | ((with_reducible apply MOp.callRK k6); exact z_ren; exact z_evf; exact z_given; decide)
  | ((with_reducible apply MOp.callRK k7); exact z_ren; exact z_evf; exact z_given; decide)
  | ((with_reducible apply MOp.callRK k8); exact z_ren; exact z_evf; exact z_given; decide)
  | ((with_reducible apply MOp.callRK k9); exact z_ren; exact z_evf; exact z_given; decide)
  | ((with_reducible apply MOp.callRK k10); exact z_ren; exact z_evf; exact z_given; decide)
  | ((with_reducible apply MOp.callRK k11); exact z_ren; exact z_evf; exact z_given; decide)
  | ((with_reducible apply MOp.callRK k12); exact z_ren; exact z_evf; exact z_given; decide)
  | ((with_reducible apply MOp.callRK k13); exact z_ren; exact z_evf; exact z_given; decide)
  | ((with_reducible apply MOp.callRK k14); exact z_ren; exact z_evf; exact z_given; decide)
  | ((with_reducible apply MOp.callRK k15); exact z_ren; exact z_evf; exact z_given; decide)
  | ((with_reducible apply MOp.callRK k16); exact z_ren; exact z_evf; exact z_given; decide)
  | ((with_reducible apply MOp.callRG g1); exact z_hg; exact z_ren; exact z_evf; exact z_given; decide)
  | ((with_reducible apply MOp.callRG g2); exact z_hg; exact z_ren; exact z_evf; exact z_given; decide)) : p := h
theorem z_callV {p : Prop} (h : p := by
  first
  | ((with_reducible apply MOp.callVK k1); exact Ev.f; rfl; exact z_rargs)
  | ((with_reducible apply MOp.callVK k2); exact Ev.f; rfl; exact z_rargs)
  | ((with_reducible apply MOp.callVK k3); exact Ev.f; rfl; exact z_rargs)
  | ((with_reducible apply MOp.callVK k4); exact Ev.f; rfl; exact z_rargs)
  | ((with_reducible apply MOp.callVK k5); exact Ev.f; rfl; exact z_rargs)
  | ((with_reducible apply MOp.callVK k6); exact Ev.f; rfl; exact z_rargs)
  | ((with_reducible apply MOp.callVK k7); exact Ev.f; rfl; exact z_rargs)
  | ((with_reducible apply MOp.callVK k8); exact Ev.f; rfl; exact z_rargs)
  | ((with_reducible apply MOp.callVK k9); exact Ev.f; rfl; exact z_rargs)
  | ((with_reducible apply MOp.callVK k10); exact Ev.f; rfl; exact z_rargs)
  | ((with_reducible apply MOp.callVK k11); exact Ev.f; rfl; exact z_rargs)
  | ((with_reducible apply MOp.callVK k12); exact Ev.f; rfl; exact z_rargs)) : p := h
theorem z_appK {p : Prop} (h : p := by
  first
  | ((with_reducible apply MOp.appendK a1); exact z_ev; exact z_dv; exact z_ev; exact z_dv; rfl; rfl; rfl; rfl; (intro q; rfl); exact z_bnd)
  | ((with_reducible apply MOp.appendK a2); exact z_ev; exact z_dv; exact z_ev; exact z_dv; rfl; rfl; rfl; rfl; (intro q; rfl); exact z_bnd)
  | ((with_reducible apply MOp.appendK a3); exact z_ev; exact z_dv; exact z_ev; exact z_dv; rfl; rfl; rfl; rfl; (intro q; rfl); exact z_bnd)) : p := h
theorem z_mop {p : Prop} (h : p := by
  first
  | ((with_reducible apply MOp.move); exact z_ev)
  | ((with_reducible apply MOp.assign); exact z_ev)
  | ((with_reducible apply MOp.load); exact z_ev; rfl; rfl; (first | rfl | assumption))
  | ((with_reducible apply MOp.loadAV); exact z_ev; rfl; rfl; rfl; exact z_nrm)
  | ((with_reducible apply MOp.loadAD); exact z_ev; rfl; rfl; rfl; exact z_nrm)
  | ((with_reducible apply MOp.loadRow); exact z_ev; rfl; rfl; rfl; (intro q; rfl); assumption)
  | ((with_reducible apply MOp.loadR); exact z_ev; rfl; rfl)
  | ((with_reducible apply MOp.loadD); exact z_ev; rfl)
  | ((with_reducible apply MOp.loadRV); exact z_ev; rfl; rfl)
  | ((with_reducible apply MOp.fieldAddr); rfl; exact inferInstance; exact z_ev; rfl)
  | ((with_reducible apply MOp.fieldAddrR); rfl; exact inferInstance; exact z_ev; rfl)
  | ((with_reducible apply MOp.nilCheckPtr); exact z_ev)
  | ((with_reducible apply MOp.nilCheckRef); exact z_ev)
  | ((with_reducible apply MOp.nilCheckFn); exact z_ev)
  | ((with_reducible apply MOp.nilCheckClo); exact z_ev)
  | ((with_reducible apply MOp.indexAddr); exact z_ev; exact z_ev; (intro q; rfl); rfl; exact z_elt)
  | ((with_reducible apply MOp.indexLit); exact z_ev; exact z_ev; rfl; exact z_bnd; (first | rfl | assumption))
  | ((with_reducible apply MOp.indexRow); exact z_ev; exact z_ev; exact z_bnd)
  | ((with_reducible apply MOp.indexArr); exact z_ev; exact z_ev; exact z_bnd)
  | ((with_reducible apply MOp.pickAnd); exact z_ev; exact z_ev)
  | ((with_reducible apply MOp.pickOr); exact z_ev; exact z_ev)
  | ((with_reducible apply MOp.pick); exact z_ev; exact z_ev; exact z_ev)
  | ((with_reducible apply MOp.not); exact z_ev)
  | exact z_bin
  | ((with_reducible apply MOp.neqA); exact z_ev; exact z_ev; rfl; rfl; kernel_rfl; kernel_rfl; kernel_rfl; rfl; rfl)
  | ((with_reducible apply MOp.eqlA); exact z_ev; exact z_ev; rfl; rfl; kernel_rfl; kernel_rfl; kernel_rfl; rfl; rfl)
  | ((with_reducible apply MOp.len); exact z_ev)
  | ((with_reducible apply MOp.lenRow); exact z_ev)
  | ((with_reducible apply MOp.lenLit); exact z_ev)
  | ((with_reducible apply MOp.minI); exact z_ev; exact z_ev)
  | ((with_reducible apply MOp.maxI); exact z_ev; exact z_ev)
  | ((with_reducible apply MOp.extractV); exact z_ev; rfl)
  | ((with_reducible apply MOp.extract); exact z_ev; rfl)
  | ((with_reducible apply MOp.convI); exact z_ev; exact z_om)
  | ((with_reducible apply MOp.convBytes); exact z_ev)
  | ((with_reducible apply MOp.conv); exact z_ev)
  | ((with_reducible apply MOp.buildV); rfl; exact z_pl; exact z_evp; exact z_fill; exact z_nrm)
  | ((with_reducible apply MOp.build); rfl; exact z_pl; exact z_evp; exact z_fill)
  | ((with_reducible apply MOp.buildArr); rfl; exact z_evp; exact z_fill)
  | ((with_reducible apply MOp.buildSlice); rfl; rfl; exact z_evp; exact z_fill; exact z_nrm; rfl)
  | ((with_reducible apply MOp.buildLit); rfl; rfl; exact z_evp; exact z_fill; rfl)
  | ((with_reducible apply MOp.fieldV); rfl; exact inferInstance; exact z_ev; rfl; rfl)
  | ((with_reducible apply MOp.fieldVA); rfl; exact inferInstance; exact z_ev; rfl)
  | ((with_reducible apply MOp.sliceH); exact z_ev; exact z_ev; (intro q; rfl); exact z_bnd)
  | ((with_reducible apply MOp.sliceRow); exact z_ev; exact z_ev; exact z_bnd)
  | ((with_reducible apply MOp.sliceL); exact z_ev; exact z_ev; (intro q; rfl); exact z_bnd)
  | ((with_reducible apply MOp.sliceLH); exact z_ev; exact z_ev; exact z_ev; (intro q; rfl); exact z_bnd)
  | exact z_callK
  | exact z_callR
  | exact z_appK
  | exact z_callV
  | ((with_reducible apply MOp.makeFunc); exact z_evd; exact z_evd)
  | (exact MOp.off rfl)) : p := h
theorem z_mta {p q : Prop} (k : q) (h : Kont q → p := by (intro kont; (repeat ((with_reducible apply MAll.step1); exact z_gd; exact z_mop; exact rfl)); exact kont.run)) : p := h ⟨k⟩
/-! ### what changes boxes -/
theorem z_wr {p : Prop} (h : p := by first | (intro _; rw [hc]; exact Nat.zero_le _) | (intro h; rw [hro] at h; contradiction) | (intro _; rw [hc]; decide) | (intro _; rw [hc]; simp; done)) : p := h
theorem z_wrB {p : Prop} (h : p := by first | (intro _ k _; rw [hc]; exact Nat.zero_le _) | (intro h; rw [hro] at h; contradiction) | (intro _; rw [hc]; decide)) : p := h
theorem z_dd {p : Prop} (h : p := by first | (intro h; rw [hc] at h; contradiction) | (intro h; rw [hc] at h; exact absurd h (by decide)) | (intro h; rw [hdead]; decide)) : p := h
theorem z_cln {p : Prop} (h : p := by first | (simp only [TM.cl, D.cl, Past.cl, TM.clean, TM.args, TM.argsD, Hp.clean, D.clean, D.cleanL, D.cleanL_p, D.avoidsL, D.avoids, Nat.reduceAdd, List.set_cons_zero, List.set_cons_succ, bne, beq_iff_eq, Nat.reduceBEq, Bool.not_true, Bool.not_false, Bool.and_true, Bool.true_and, cond_true, cond_false, List.map_cons, List.map_nil]; (first | done | exact rfl)) | exact rfl) : p := h
theorem z_one {p : Prop} (h : p := by (intro q v hv; simp [V.byte] at hv; first | (subst hv; rfl) | (rcases hv with rfl | rfl <;> rfl) | (rcases hv with rfl | rfl | rfl <;> rfl) | (rcases hv with rfl | rfl | rfl | rfl <;> rfl) | (rcases hv with rfl | rfl | rfl | rfl | rfl <;> rfl) | (rcases hv with rfl | rfl | rfl | rfl | rfl | rfl <;> rfl) | ((repeat' (first | (subst hv; rfl) | (rcases hv with hv | hv))); done))) : p := h
theorem z_len {p : Prop} (h : p := by first | omega | (simp <;> omega)) : p := h
section
variable {P : Program} {c : Ctx} {n : Nat} {ops : Array Oper} {Q : Exit → St → Prop} {rest : List Oper} {t0 : Tmp} {ty : TypeId} {pos : String} {af : Array Edge} {tm : List (Nat × Bool × D)} {H : List (Option Box)}
theorem SymL.appendK {α : Type} {enc : α → List V} {l m : List α} (_ : AppH enc l m) {gd : Option (Nat × Bool)} {t e : TypeId} {i j : TypeInfo} {u : TypeDesc} {z : Value} {x y : Operand} {k : Nat} {dy : D} {bz : Nat} [h : TyI P t i (.slice e)] [h' : TyI P e j u] (hg : GOk ops ⟨tm, H⟩ ⟨some t0, .call { callee := .builtin .append, args := #[x, y], argTypes := #[t, t] }, ty, pos, af, gd⟩ true) (hx : Ev ⟨tm, H⟩ true x (.row k l.length)) (hy : Ev ⟨tm, H⟩ true y dy) (hdv : DV dy (V.list enc m))
    (hb : H[k]? = some (some ⟨D.enc enc l, e, bz⟩)) (hbz : bz = j.size) (hz : j.zero = some z) (hzs : Nat.beq z.cells.size j.size = true) (hpos : Nat.blt 0 j.size = true) (hby : Nat.ble j.bytes 1000 = true) (hsz : ∀ q, (enc q).length = j.size) (hone : ∀ q, ∀ v ∈ enc q, v.one = true) (ht : Nat.blt t0 n = true) (hnm : l.length + m.length ≤ 1000000000) (hwr : c.ro = true → c.β0.length ≤ k) (hdead : k < c.β0.length → k ∈ c.dead)
    {H' : List (Option Box)} {tm' : List (Nat × Bool × D)} (hH' : (Hp.clean k H).set k (some ⟨D.enc enc (l ++ m), e, bz⟩) = H') (htm : TM.clean k tm = tm')
    (kk : SymL P c n ops Q rest ⟨(t0, true, .row k (l ++ m).length) :: tm', H'⟩) :
    SymL P c n ops Q (⟨some t0, .call { callee := .builtin .append, args := #[x, y], argTypes := #[t, t] }, ty, pos, af, gd⟩ :: rest) ⟨tm, H⟩ := SymL.appendG enc l m hg hx hy hdv hb hbz hz hzs hpos hby hsz hone ht hnm hwr hdead hH' htm kk
theorem SymL.buildRowK {t : Tmp} (_ : RowH t) {ty e ty1 : TypeId} {gd : Option (Nat × Bool)} {len m : Nat} {parts : Array (Nat × Operand)} {i j : TypeInfo} {u : TypeDesc} {z : Value} {ds : List (Nat × D)} {res : List D} [h : TyI P ty i (.slice e)] [h' : TyI P e j u] (hg : GOk ops ⟨tm, H⟩ ⟨some t, .buildSlice ty len parts, ty1, pos, af, gd⟩ true) (hz : j.zero = some z) (hlen : Nat.ble (len * j.size) 16777216 = true) (hp : EvP ⟨tm, H⟩ true parts.toList ds)
    (hf : fillD (fun i => some (i * j.size, j.size)) (zeroD z (len * j.size)) ds = some res) (hlm : Nat.ble len 1000000 = true) (hrl : Nat.beq res.length (len * j.size) = true) (hsz : Nat.blt 0 j.size = true) (ht : Nat.blt t n = true) {H' : List (Option Box)} (hm : H.length = m) (hH' : H ++ [some ⟨res, e, j.size⟩] = H')
    (kk : SymL P c n ops Q rest ⟨(t, true, .row m len) :: tm, H'⟩) : SymL P c n ops Q (⟨some t, .buildSlice ty len parts, ty1, pos, af, gd⟩ :: rest) ⟨tm, H⟩ := SymL.buildRow hg hz hlen hp hf hlm hrl hsz ht hm hH' kk
variable {ws : List Nat} {T : St → Prop} {k : Nat} {past : List Past} {t : Tmp}
theorem XTo.appendK {α : Type} {enc : α → List V} {l m : List α} (_ : AppH enc l m) {ty' e : TypeId} {i j : TypeInfo} {u : TypeDesc} {z : Value} {x y : Operand} {q : Nat} {dy : D} {bz : Nat} [h : TyI P ty' i (.slice e)] [h' : TyI P e j u] (hx : Ev ⟨tm, H⟩ true x (.row q l.length)) (hy : Ev ⟨tm, H⟩ true y dy) (hdv : DV dy (V.list enc m))
    (hb : H[q]? = some (some ⟨D.enc enc l, e, bz⟩)) (hbz : bz = j.size) (hz : j.zero = some z) (hzs : Nat.beq z.cells.size j.size = true) (hpos : Nat.blt 0 j.size = true) (hby : Nat.ble j.bytes 1000 = true) (hsz : ∀ q, (enc q).length = j.size) (hone : ∀ q, ∀ v ∈ enc q, v.one = true) (ht : Nat.blt t n = true) (hnm : l.length + m.length ≤ 1000000000) (hwr : c.ro = true → c.β0.length ≤ q) (hdead : q < c.β0.length → q ∈ c.dead)
    {H' : List (Option Box)} {tm' : List (Nat × Bool × D)} {past' : List Past} (hH' : (Hp.clean q H).set q (some ⟨D.enc enc (l ++ m), e, bz⟩) = H') (htm : TM.clean q tm = tm') (hpast : past.map (Past.cl (some q)) = past') (hw : ws.contains k = true) (hms : LateOk P n ops k (some q) H' past)
    (kk : XTo P c n ops ws T (k + 1) rest ⟨(t, true, .row q (l ++ m).length) :: tm', H'⟩ past') :
    XTo P c n ops ws T k (⟨some t, .call { callee := .builtin .append, args := #[x, y], argTypes := #[ty', ty'] }, ty, pos, af, none⟩ :: rest) ⟨tm, H⟩ past := XTo.append enc l m hx hy hdv hb hbz hz hzs hpos hby hsz hone ht hnm hwr hdead hH' htm hpast hw hms kk
end
theorem z_opB {p q : Prop} (k : q) (h : Kont q → p := by (intro kont; first
  | ((with_reducible apply SymL.appendK a1); exact z_gdT; exact z_ev; exact z_ev; exact z_dv; rfl; rfl; rfl; rfl; rfl; rfl; (intro q; rfl); exact z_one; rfl; exact z_len; exact z_wr; exact z_dd; exact z_cln; exact z_cln; exact kont.run)
  | ((with_reducible apply SymL.appendK a2); exact z_gdT; exact z_ev; exact z_ev; exact z_dv; rfl; rfl; rfl; rfl; rfl; rfl; (intro q; rfl); exact z_one; rfl; exact z_len; exact z_wr; exact z_dd; exact z_cln; exact z_cln; exact kont.run)
  | ((with_reducible apply SymL.appendK a3); exact z_gdT; exact z_ev; exact z_ev; exact z_dv; rfl; rfl; rfl; rfl; rfl; rfl; (intro q; rfl); exact z_one; rfl; exact z_len; exact z_wr; exact z_dd; exact z_cln; exact z_cln; exact kont.run)
  | ((with_reducible apply SymL.appendK a4); exact z_gdT; exact z_ev; exact z_ev; exact z_dv; rfl; rfl; rfl; rfl; rfl; rfl; (intro q; rfl); exact z_one; rfl; exact z_len; exact z_wr; exact z_dd; exact z_cln; exact z_cln; exact kont.run)
  | ((with_reducible apply SymL.appendK a5); exact z_gdT; exact z_ev; exact z_ev; exact z_dv; rfl; rfl; rfl; rfl; rfl; rfl; (intro q; rfl); exact z_one; rfl; exact z_len; exact z_wr; exact z_dd; exact z_cln; exact z_cln; exact kont.run)
  | ((with_reducible apply SymL.appendK a6); exact z_gdT; exact z_ev; exact z_ev; exact z_dv; rfl; rfl; rfl; rfl; rfl; rfl; (intro q; rfl); exact z_one; rfl; exact z_len; exact z_wr; exact z_dd; exact z_cln; exact z_cln; exact kont.run)
  | ((with_reducible apply SymL.callBK k1); exact z_ren; exact z_evf; exact z_given; decide; exact rfl; exact z_wrB; exact z_ren; exact z_ren; exact kont.run)
  | ((with_reducible apply SymL.callBK k2); exact z_ren; exact z_evf; exact z_given; decide; exact rfl; exact z_wrB; exact z_ren; exact z_ren; exact kont.run)
  | ((with_reducible apply SymL.callBK k3); exact z_ren; exact z_evf; exact z_given; decide; exact rfl; exact z_wrB; exact z_ren; exact z_ren; exact kont.run)
  | ((with_reducible apply SymL.callBK k4); exact z_ren; exact z_evf; exact z_given; decide; exact rfl; exact z_wrB; exact z_ren; exact z_ren; exact kont.run)
  | ((with_reducible apply SymL.callBK k5); exact z_ren; exact z_evf; exact z_given; decide; exact rfl; exact z_wrB; exact z_ren; exact z_ren; exact kont.run)
  | ((with_reducible apply SymL.callBK k6); exact z_ren; exact z_evf; exact z_given; decide; exact rfl; exact z_wrB; exact z_ren; exact z_ren; exact kont.run)
  | ((with_reducible apply SymL.callBK k7); exact z_ren; exact z_evf; exact z_given; decide; exact rfl; exact z_wrB; exact z_ren; exact z_ren; exact kont.run)
  | ((with_reducible apply SymL.callBK k8); exact z_ren; exact z_evf; exact z_given; decide; exact rfl; exact z_wrB; exact z_ren; exact z_ren; exact kont.run)
  | ((with_reducible apply SymL.callBK k9); exact z_ren; exact z_evf; exact z_given; decide; exact rfl; exact z_wrB; exact z_ren; exact z_ren; exact kont.run)
  | ((with_reducible apply SymL.callBK k10); exact z_ren; exact z_evf; exact z_given; decide; exact rfl; exact z_wrB; exact z_ren; exact z_ren; exact kont.run)
  | ((with_reducible apply SymL.callBK k11); exact z_ren; exact z_evf; exact z_given; decide; exact rfl; exact z_wrB; exact z_ren; exact z_ren; exact kont.run)
  | ((with_reducible apply SymL.callBK k12); exact z_ren; exact z_evf; exact z_given; decide; exact rfl; exact z_wrB; exact z_ren; exact z_ren; exact kont.run))) : p := h ⟨k⟩
theorem z_go {p q : Prop} (k : q) (h : Kont q → p := by
  intro kont
  repeat (first
  | ((with_reducible apply SymL.bytesConst); rfl; rfl; exact z_evp; exact z_fill; exact z_nrm; rfl; rfl; exact rfl; exact rfl)
  | ((with_reducible apply SymL.box'); exact z_ev; exact rfl; exact rfl; exact z_nrm; exact z_nrm)
  | ((with_reducible apply SymL.alloc'); exact rfl; exact rfl; exact z_nrm; exact z_nrm)
  | ((with_reducible apply SymL.store'); exact z_ev; exact z_ev; exact rfl; exact rfl; exact rfl; exact rfl; exact rfl; exact z_wr; exact z_nrm)
  | ((with_reducible apply SymL.buildRowK b1); exact z_gdT; rfl; rfl; exact z_evp; exact z_fill; rfl; rfl; rfl; rfl; exact z_nrm; exact z_nrm)
  | ((with_reducible apply SymL.buildRowK b2); exact z_gdT; rfl; rfl; exact z_evp; exact z_fill; rfl; rfl; rfl; rfl; exact z_nrm; exact z_nrm)
  | ((with_reducible apply SymL.buildRowK b3); exact z_gdT; rfl; rfl; exact z_evp; exact z_fill; rfl; rfl; rfl; rfl; exact z_nrm; exact z_nrm)
  | ((with_reducible apply SymL.buildRowK b4); exact z_gdT; rfl; rfl; exact z_evp; exact z_fill; rfl; rfl; rfl; rfl; exact z_nrm; exact z_nrm)
  | ((with_reducible apply SymL.opr); exact z_gd; exact z_mop; exact rfl)
  | refine z_opB ?_
  | with_reducible apply SymL.nil
  | with_reducible apply Sym.seq
  | with_reducible apply Sym.block
  | apply Sym.regionL
  | with_reducible apply Sym.skip
  | with_reducible apply Sym.exit
  | with_reducible apply Sym.ret
  | with_reducible apply thenS.nx
  | with_reducible apply thenS.rt
  | with_reducible apply thenS.ex
  | with_reducible apply blockS.nx
  | with_reducible apply blockS.rt
  | with_reducible apply blockS.ex
  | ((with_reducible apply blockS.ot); rfl)
  | (refine Sym.drawA (by kernel_rfl) (by kernel_rfl) ?_; refine z_mta ?_; (with_reducible apply MAll.nil)))
  exact kont.run) : p := h ⟨k⟩
/-- the same, but into no more code -/
theorem z_s1 {p q : Prop} (k : q) (h : Kont q → p := by
  intro kont
  repeat (first
  | ((with_reducible apply SymL.bytesConst); rfl; rfl; exact z_evp; exact z_fill; exact z_nrm; rfl; rfl; exact rfl; exact rfl)
  | ((with_reducible apply SymL.box'); exact z_ev; exact rfl; exact rfl; exact z_nrm; exact z_nrm)
  | ((with_reducible apply SymL.alloc'); exact rfl; exact rfl; exact z_nrm; exact z_nrm)
  | ((with_reducible apply SymL.store'); exact z_ev; exact z_ev; exact rfl; exact rfl; exact rfl; exact rfl; exact rfl; exact z_wr; exact z_nrm)
  | ((with_reducible apply SymL.buildRowK b1); exact z_gdT; rfl; rfl; exact z_evp; exact z_fill; rfl; rfl; rfl; rfl; exact z_nrm; exact z_nrm)
  | ((with_reducible apply SymL.buildRowK b2); exact z_gdT; rfl; rfl; exact z_evp; exact z_fill; rfl; rfl; rfl; rfl; exact z_nrm; exact z_nrm)
  | ((with_reducible apply SymL.buildRowK b3); exact z_gdT; rfl; rfl; exact z_evp; exact z_fill; rfl; rfl; rfl; rfl; exact z_nrm; exact z_nrm)
  | ((with_reducible apply SymL.buildRowK b4); exact z_gdT; rfl; rfl; exact z_evp; exact z_fill; rfl; rfl; rfl; rfl; exact z_nrm; exact z_nrm)
  | ((with_reducible apply SymL.opr); exact z_gd; exact z_mop; exact rfl)
  | refine z_opB ?_
  | with_reducible apply SymL.nil
  | with_reducible apply Sym.skip
  | with_reducible apply thenS.nx
  | with_reducible apply blockS.nx)
  exact kont.run) : p := h ⟨k⟩
/-! ### drawn regions -/
theorem z_clx {p : Prop} (h : p := by first | (simp only [TM.cl, D.cl, Past.cl, TM.clean, D.clean, D.cleanL, D.cleanL_p, D.avoidsL, D.avoids, bne, Nat.reduceBEq, Bool.not_true, Bool.not_false, Bool.and_true, Bool.true_and, cond_true, cond_false, List.map_cons, List.map_nil]; (first | done | exact rfl)) | exact rfl) : p := h
theorem z_lates {p : Prop} (h : p := by ((repeat (first | exact LateOk.nil | (apply LateOk.skip; (decide +kernel)) | ((with_reducible apply LateOk.take); exact z_clx; exact z_clx; exact z_gd; exact z_mop; exact rfl))); (first | done | fail))) : p := h
theorem z_xap {p q : Prop} (k : q) (h : Kont q → p := by (intro kont; first
  | ((with_reducible apply XTo.appendK a1); exact z_ev; exact z_ev; exact z_dv; rfl; rfl; rfl; rfl; rfl; rfl; (intro q; rfl); exact z_one; rfl; exact z_len; exact z_wr; exact z_dd; exact z_cln; exact z_clx; exact z_clx; rfl; exact z_lates; exact kont.run)
  | ((with_reducible apply XTo.appendK a2); exact z_ev; exact z_ev; exact z_dv; rfl; rfl; rfl; rfl; rfl; rfl; (intro q; rfl); exact z_one; rfl; exact z_len; exact z_wr; exact z_dd; exact z_cln; exact z_clx; exact z_clx; rfl; exact z_lates; exact kont.run)
  | ((with_reducible apply XTo.appendK a3); exact z_ev; exact z_ev; exact z_dv; rfl; rfl; rfl; rfl; rfl; rfl; (intro q; rfl); exact z_one; rfl; exact z_len; exact z_wr; exact z_dd; exact z_cln; exact z_clx; exact z_clx; rfl; exact z_lates; exact kont.run))) : p := h ⟨k⟩
theorem z_xgo {p q : Prop} (k : q) (h : Kont q → p := by
  intro kont
  repeat (first
  | ((with_reducible apply XTo.read1); rfl; exact z_gd; exact z_mop; exact rfl)
  | ((with_reducible apply XTo.store); exact z_ev; exact z_ev; exact rfl; exact rfl; exact rfl; exact rfl; exact rfl; exact z_wr; exact z_nrm; rfl; exact z_lates)
  | ((with_reducible apply XTo.alloc); exact rfl; exact rfl; exact z_nrm; exact z_nrm; rfl; exact z_lates)
  | ((with_reducible apply XTo.buildRow); rfl; rfl; exact z_evp; exact z_fill; rfl; rfl; rfl; rfl; exact z_nrm; exact z_nrm; rfl; exact z_lates)
  | refine z_xap ?_
  | with_reducible apply XTo.done)
  exact kont.run) : p := h ⟨k⟩
theorem z_perm {p : Prop} (h : p := by (simp only [permL, List.filterMap_cons, List.filterMap_nil, List.getElem?_cons_zero, List.getElem?_cons_succ, Option.map_some, Option.map_none, renOp, idxN, Nat.reduceBEq, cond_true, cond_false, Nat.reduceAdd, List.map_toArray, List.map_cons, List.map_nil]; exact rfl)) : p := h
theorem z_mt {p q : Prop} (k : q) (h : Kont q → p := by (intro kont; (repeat ((with_reducible apply MTo.step1); exact z_gd; exact z_mop; exact rfl)); apply MTo.done; (simp only [List.drop_succ_cons, List.drop_zero]); exact kont.run)) : p := h ⟨k⟩
/-! ### forgetting -/
theorem z_wkt {c : Ctx} {s s' : St} (h : Le c s s' := by exact Weak.le ⟨by (repeat' (first | exact trivial | rfl | constructor)), by (repeat' (first | exact trivial | exact Or.inr rfl | exact Or.inl rfl | constructor)), by rfl, by (first | rfl | simp [Hp.upTo, D.upToL, D.upTo, D.upToL_p])⟩ (by rw [hc]; first | exact Nat.zero_le _ | decide | simp)) : Le c s s' := h
theorem z_cells {p : Prop} (h : p := by ((repeat (first | exact DLeL.nil | (apply DLeL.cons; exact z_dle))); (first | done | fail))) : p := h
end Go.Sy
set_option linter.unusedSimpArgs false
set_option linter.unusedVariables false
namespace Go.Sy
open Go.RowKit
abbrev pch (u : Value) : List PanicEntry := [⟨u, false, false⟩]
mutual
/-- the value of a datum that has no memory -/
def V.val : V → Option Value
  | .x u => some u
  | .agg cs => (V.valL cs).map fun us => .agg us.toArray
  | .tup cs => (V.valL cs).map fun us => .tuple us.toArray
  | .ifc t d => (V.val d).map (.iface t)
  | _ => none
def V.valL : List V → Option (List Value)
  | [] => some []
  | v :: l => match V.val v, V.valL l with
    | some u, some us => some (u :: us)
    | _, _ => none
end
section
variable {S : Nat → Prop} {w : World}
mutual
theorem V.Rep.val : ∀ {v : V} {u u' : Value}, v.val = some u' → v.Rep S w u → u = u'
  | .x _, _, _, h, hr => by
    simp only [V.val, Option.some.injEq] at h
    exact (show _ = _ from hr).trans h
  | .agg cs, _, _, h, hr => by
    obtain ⟨us, h1, h2⟩ := hr
    simp only [V.val, Option.map_eq_some_iff] at h
    obtain ⟨us', h3, rfl⟩ := h
    rw [h1, V.RepL.val h3 h2]
  | .tup cs, _, _, h, hr => by
    obtain ⟨us, h1, h2⟩ := hr
    simp only [V.val, Option.map_eq_some_iff] at h
    obtain ⟨us', h3, rfl⟩ := h
    rw [h1, V.RepL.val h3 h2]
  | .ifc t d, _, _, h, hr => by
    obtain ⟨y, h1, h2⟩ := hr
    simp only [V.val, Option.map_eq_some_iff] at h
    obtain ⟨y', h3, rfl⟩ := h
    rw [h1, V.Rep.val h3 h2]
  | .sl _ _, _, _, h, _ => by simp [V.val] at h
  | .fl _ _, _, _, h, _ => by simp [V.val] at h
  | .ref _, _, _, h, _ => by simp [V.val] at h
theorem V.RepL.val : ∀ {l : List V} {us us' : List Value}, V.valL l = some us' → V.RepL S w l us → us = us'
  | [], _, _, h, hr => by
    simp only [V.valL, Option.some.injEq] at h
    exact (show _ = _ from hr).trans h
  | v :: l, _, _, h, hr => by
    obtain ⟨y, ys, rfl, h2, h3⟩ := hr
    simp only [V.valL] at h
    split at h
    · rename_i u us e1 e2
      injection h with h
      rw [← h, V.Rep.val e1 h2, V.RepL.val e2 h3]
    · cases h
end
end
/-- Called with these, the function panics with u, and leaves what there was. -/
structure FnP (P : Program) (f : FuncId) (vs : List V) (u : Value) : Prop where
  enter : ∀ args w, (callFunc f args).run P w = .ok (.enter f args) w
  calls : ∀ (S : Nat → Prop) w us, (∀ b, w.heap.size ≤ b → S b) → V.RepL S w vs us → Calls P f us.toArray w fun e w' => e = .panicked (pch u) ∧ Ext w w'
section
variable {P : Program} {c : Ctx} {n : Nat} {ops : Array Oper} {Q : Exit → St → Prop} {rest : List Oper} {tm : List (Nat × Bool × D)} {H : List (Option Box)} {t : Option Tmp} {ty : TypeId} {pos : String} {af : Array Edge}
theorem SymL.panic {x : Operand} {v : V} {ti : TypeId} {y : Value} (hx : Ev ⟨tm, H⟩ true x (.p v)) (hv : v.val = some (.iface ti y)) (hq : Q (.panic (pch (.iface ti y))) ⟨tm, H⟩) : SymL P c n ops Q (⟨t, .panic x, ty, pos, af, none⟩ :: rest) ⟨tm, H⟩ := by
  rintro a w ⟨β, S, hH, hd, hn, he⟩
  refine wpList_plain rfl fun K hK => ?_
  have h1 : (D.p v).Rep β S w (a.eval x) := hx.rep (l := (Op.panic x).operands) (by simp [Op.operands]) (fun t _ => he t) rfl
  have h2 : a.eval x = .iface ti y := V.Rep.val hv h1
  unfold Oper.wp
  have hrun : (execOp a.eval ⟨t, .panic x, ty, pos, af, none⟩).run P w = .halt (.panic (.iface ti y)) w := by
    simp [execOp, h2, Instr.panic, goPanic]
  rw [hrun]
  exact ⟨⟨tm, H⟩, ⟨β, S, hH, hd, hn, he⟩, hq⟩
theorem SymL.callP {f : Operand} {k : FuncId} {as : Array Operand} {ts : Array TypeId} {vs : List V} {u : Value} (hc : FnP P k vs u) (hf : Ev ⟨tm, H⟩ true f (.p (.x (.func (.func k) #[] #[])))) (ha : EvL ⟨tm, H⟩ true as.toList vs) (hq : Q (.panic (pch u)) ⟨tm, H⟩) :
    SymL P c n ops Q (⟨t, .call { callee := .value f, args := as, argTypes := ts }, ty, pos, af, none⟩ :: rest) ⟨tm, H⟩ := by
  rintro a w ⟨β, S, hH, hd, hn, he⟩
  refine wpList_plain rfl fun K hK => ?_
  have hm : ∀ x ∈ as.toList, x ∈ (Op.call { callee := .value f, args := as, argTypes := ts }).operands := fun x hx => by
    simp only [Op.operands, Call.operands, Array.mem_append]
    exact .inr (by simpa using hx)
  have h1 : a.eval f = .func (.func k) #[] #[] := hf.rep (l := (Op.call { callee := .value f, args := as, argTypes := ts }).operands) (by simp [Op.operands, Call.operands]) (fun t _ => he t) rfl
  have h2 := ha.rep (l := (Op.call { callee := .value f, args := as, argTypes := ts }).operands) (fun t _ => he t) rfl hm
  have h3 := hc.calls S w _ hH.up h2
  unfold Oper.wp
  have hrun : (execOp a.eval ⟨t, .call { callee := .value f, args := as, argTypes := ts }, ty, pos, af, none⟩).run P w = .ok (.enter k (as.map a.eval)) w := by
    simp [execOp, resolve, h1, Deferred.ofValue, invoke, hc.enter]
  rw [hrun]
  show Calls P k (as.map a.eval) w _
  have e : as.map a.eval = (as.toList.map a.eval).toArray := by apply Array.ext'; simp
  rw [e]
  refine h3.mono ?_
  rintro e w' ⟨rfl, hx⟩
  exact ⟨⟨tm, H⟩, ⟨β, S, hH.ext hx, hd, hn, fun t => (he t).ext hx⟩, hq⟩
theorem thenS.pn {next : St → Prop} {s : St} {ch : List PanicEntry} (h : Q (.panic ch) s) : thenS next Q (.panic ch) s := h
theorem blockS.pn {id : Nat} {s : St} {ch : List PanicEntry} (h : Q (.panic ch) s) : blockS id Q (.panic ch) s := h
/-- how a function ends that panics -/
def FinP (u : Value) : Exit → St → Prop := fun e _ => e = .panic (pch u)
theorem FnP.of {f : FuncId} {fn : Func} {code : Code} {vs : List V} {u : Value} (henter : ∀ args w, (callFunc f args).run P w = .ok (.enter f args) w) (hf : P.funcs[f]? = some fn) (hb : fn.body = some code) (hnt : fn.ntmps = n) (hn : vs.length ≤ n)
    (h : ∀ c, c.β0 = [] → Sym P c n code (FinP u) ⟨TM.args 0 vs, []⟩) : FnP P f vs u := by
  refine ⟨henter, fun S w us hup hr => ?_⟩
  refine calls_of_wp hf hb ?_
  rw [hnt, List.size_toArray]
  refine wp_mono (h ⟨w, S, [], false, [], [], noEsc⟩ rfl _ w (SR.begin (HOk.nil hup) (D.RepL.p hr) (by simpa using hn))) ?_
  rintro e a' w' ⟨s', h1, h2⟩
  obtain ⟨β, S', hH, hd, _, _⟩ := h1.sr rfl
  have h2 : e = .panic (pch u) := h2
  subst h2
  exact ⟨hd, rfl, ⟨hH.os, hH.tape, hH.output, hH.size, fun b hb => hH.fr b hb (.inr fun i q => by simp)⟩⟩
end
/-! ### calls that are put off -/
/-- Put off, and done in mode u, with these boxes: it comes back, the boxes are H1 then, and the mode is u'. -/
structure CD (P : Program) (f : FuncId) (ds : List D) (H0 H1 : List (Option Box)) (u u' : FrameMode) : Prop where
  ids : D.upToL H0.length ds = true
  hids : Hp.upTo H0.length H0 = true
  calls : ∀ β S w us, HOk H0 β S w → D.RepL β S w ds us → CallsD P f us.toArray u w fun e u'' w' => ∃ v β1 S1, e = .returned v ∧ u'' = u' ∧ HSt ⟨w, S, β, false, [], [], noEsc⟩ H1 β1 S1 w'
def modeOf : Exit → Option FrameMode
  | .ret => some .returning
  | .normal => some .returning
  | .panic ch => some (.panicking ch)
  | _ => none
/-- how a body ends behind which a call that was put off is done -/
def FinD (P : Program) (g : FuncId) (ds : List D) (res : List ResultVar) (rs : List V) (e : Exit) (s : St) : Prop :=
  ∃ u u' ks ds0 H0 H1, modeOf e = some u ∧ settle u' = .returning ∧ CD P g ds0 H0 H1 u u' ∧ D.renL (sig ks s.H.length) ds0 = ds ∧ Given s.H (sig ks s.H.length) ks H0 ∧ ks.Nodup ∧
    ResL P 0 ⟨s.tm, Hp.putAll (sig ks s.H.length) ks H1 s.H ++ (H1.drop ks.length).map (Option.map (Box.ren (sig ks s.H.length)))⟩ res rs
def D.isPtr : D → Bool
  | .ptr _ _ => true
  | _ => false
theorem D.RepL.ptrs {β β' : List Place} {S S' : Nat → Prop} {w w' : World} (hβ : ∀ (i : Nat) (e : Place), β[i]? = some e → β'[i]? = some e) : ∀ {ds : List D} {us : List Value}, ds.all D.isPtr = true → D.RepL β S w ds us → D.RepL β' S' w' ds us
  | [], _, _, h => h
  | d :: ds, _, ha, h => by
    obtain ⟨y, ys, h1, h2, h3⟩ := h
    simp only [List.all_cons, Bool.and_eq_true] at ha
    refine ⟨y, ys, h1, ?_, D.RepL.ptrs hβ ha.2 h3⟩
    cases d with
    | ptr i off =>
      obtain ⟨b, c, h4, h5⟩ := h2
      exact ⟨b, c, hβ _ _ h4, h5⟩
    | _ => simp [D.isPtr] at ha
section
variable {P : Program} {n : Nat}
theorem Fn1.ofD {f g : FuncId} {fn : Func} {vs rs : List V} {res : List ResultVar} {R0 rest : Code} {id : Nat} {t : Tmp} {cs : Array Operand} {ds : List D} {s0 : St} {ty1 ty2 : TypeId} {p1 p2 : String} {a1 a2 : Array Edge}
    (henter : ∀ args w, (callFunc f args).run P w = .ok (.enter f args) w) (hf : P.funcs[f]? = some fn)
    (hb : fn.body = some (.seq R0 (.seq (.region id #[⟨some t, .makeFunc (.func g) #[] cs, ty1, p1, a1, none⟩, ⟨none, .defer { callee := .value (.tmp t), args := #[], argTypes := #[] }, ty2, p2, a2, none⟩] false) rest)))
    (hnt : fn.ntmps = n) (hrs : fn.results = res.toArray) (hn : vs.length ≤ n) (ht : Nat.blt t n = true) (hg : ∀ args w, (callFunc g args).run P w = .ok (.enter g args) w)
    (h0 : ∀ c, c.β0 = [] → Sym P c n R0 (fun e s => e = .normal ∧ s = s0) ⟨TM.args 0 vs, []⟩) (hev : EvD s0 true cs.toList ds) (hds : ds.all D.isPtr = true)
    (h1 : ∀ c, c.ro = false → c.dead = [] → c.β0.length = s0.H.length → Sym P c n rest (FinD P g ds res rs) ⟨(t, true, .clo (.func g) [] ds) :: s0.tm, s0.H⟩) : Fn1 P f vs (tupV rs) := by
  refine ⟨henter, fun S w us hup hr => ?_⟩
  refine calls_of_wp_defers hf hb ?_
  rw [hnt, List.size_toArray]
  have ht : t < n := by simpa using ht
  refine wp_seq (wp_mono (h0 ⟨w, S, [], false, [], [], noEsc⟩ rfl _ w (SR.begin (HOk.nil hup) (D.RepL.p hr) (by simpa using hn))) ?_)
  rintro e a w1 ⟨s', h1x, rfl, rfl⟩
  obtain ⟨β, S1, hH, hd, hsz, he⟩ := h1x.sr rfl
  have hd : a.defers = [] := hd
  refine wp_seq (wp_region_list ?_)
  refine wpList_plain rfl fun K hK => ?_
  refine (MOp.makeFunc (P := P) (s := s') (g := true) (dst := some t) (ty := ty1) (pos := p1) (af := a1) (gd := none) (f := .func g) (fs := #[]) (cs := cs) (.nil : EvD s' true [] []) hev).run β S1 a w1 hH.toHOk (fun t _ => he t) rfl K _ fun u w2 hx hu => hK _ _ ?_
  have he2 : ∀ t', EntAt ⟨(t, true, .clo (.func g) [] ds) :: s'.tm, s'.H⟩ β S1 w2 (a.put (some t) u) t' := EntAt.put (s := s') (dst := some t) (fun t => (he t).ext hx) (fun q h => by injection h with h; rw [hsz, ← h]; exact ht) ⟨fun _ => hu, fun h => by cases h⟩
  have hH2 := hH.ext hx
  obtain ⟨us1, us2, hu1, hu2, hu3⟩ := hu
  have hus1 : us1 = [] := hu2
  subst hus1
  refine wpList_plain rfl fun K' hK' => ?_
  have hev : (a.put (some t) u).eval (.tmp t) = .func (.func g) #[] us2.toArray := by
    show (a.put (some t) u).tmps.getD t undef = _
    rw [getD_put' (by rw [hsz]; exact ht), if_pos rfl, hu1]
  have hrun : (execOp (a.put (some t) u).eval ⟨none, .defer { callee := .value (.tmp t), args := #[], argTypes := #[] }, ty2, p2, a2, none⟩).run P w2 = .ok (.defer ⟨.fn (.func g) us2.toArray, #[]⟩) w2 := by
    simp [execOp, resolve, hev, Deferred.ofValue]
  unfold Oper.wp
  rw [hrun]
  refine hK' _ _ ?_
  -- the rest, in a context of its own
  have hSR : SR ⟨w2, S1, β, false, [], [⟨.fn (.func g) us2.toArray, #[]⟩], noEsc⟩ n ⟨(t, true, .clo (.func g) [] ds) :: s'.tm, s'.H⟩ ({ (a.put (some t) u) with defers := ⟨.fn (.func g) us2.toArray, #[]⟩ :: (a.put (some t) u).defers }.put none undef) w2 := by
    refine ⟨β, S1, ⟨hH2.toHOk, fun b hb => .inl hb, fun i b q h => .inr ⟨q, h⟩, fun _ _ _ => rfl, fun _ _ _ h => h, Nat.le_refl _, fun b hb _ => ⟨rfl, hb⟩, rfl, rfl, rfl, Nat.le_refl _⟩, ?_, ?_, ?_⟩
    · show ⟨.fn (.func g) us2.toArray, #[]⟩ :: (a.put (some t) u).defers = _
      rw [defers_put, hd]
    · show (a.put (some t) u).tmps.size = n
      rw [size_put]
      exact hsz
    · exact he2
  refine wp_mono (h1 ⟨w2, S1, β, false, [], _, noEsc⟩ rfl rfl hH2.len _ w2 hSR) ?_
  rintro e a3 w3 ⟨s3, h1x, m, m', ks, ds0, H0, H1, k1, k2, k3, k4, k5, k6, k7⟩
  obtain ⟨β3, S3, hH3, hd3, hsz3, he3⟩ := h1x.sr rfl
  have hd3 : a3.defers = [⟨.fn (.func g) us2.toArray, #[]⟩] := hd3
  -- the call
  have hcap : D.RepL β3 S3 w3 ds us2 := D.RepL.ptrs (fun i e h => hH3.keep i e (by simp) h) hds hu3
  obtain ⟨g1, g2⟩ := hH3.toHOk.give k5 k6 k3.hids
  rw [← k4] at hcap
  have hcall := k3.calls _ S3 w3 us2 g1 (D.RepL.unren g2 k3.ids hcap)
  have hleave : Leaves P fn a3.tmps (fun e w' => ∃ u, e = .returned u ∧ Ext w w' ∧ (tupV rs).Rep S w' u) a3.defers m w3 := by
    rw [hd3]
    refine leaves_cons (f := g) (args := us2.toArray) ?_ ?_ ?_
    · rintro rfl
      cases e <;> simp [modeOf] at k1
    · simp [invoke, hg]
    · refine CallsD.mono hcall ?_
      rintro e' u'' w4 ⟨v, β4, S4, rfl, rfl, hH4⟩
      obtain ⟨β5, q1, q2, q3, q4⟩ := hH3.back k5 k6 k3.hids (fun h => by cases h) hH4
      have he5 : ∀ t', EntAt ⟨s3.tm, Hp.putAll (sig ks s3.H.length) ks H1 s3.H ++ (H1.drop ks.length).map (Option.map (Box.ren (sig ks s3.H.length)))⟩ β5 S4 w4 a3 t' := by
        intro t' g' d' hg'
        obtain ⟨r1, r2, r3⟩ := he3 t' g' d' hg'
        exact ⟨r1, fun hg => (r2 hg).mono q2 (fun b hb hl => (q4 b hb hl).1) fun b hb hl => (q4 b hb hl).2, r3⟩
      have hsz2 : w.heap.size ≤ w2.heap.size := hH2.size
      have hS1 : ∀ b, S1 b → S b := fun b hb => (hH2.sub b hb).elim (fun h => h) (fun h => hup b h)
      have hβ : ∀ (i : Nat) b q, β[i]? = some (some (b, q)) → w.heap.size ≤ b := fun i b q h => by
        rcases hH2.own i b q h with h | ⟨q0, h⟩
        · exact h
        · simp at h
      have hS4 : ∀ b, S4 b → S b := fun b hb => by
        rcases q1.sub b hb with h | h
        · exact hS1 b h
        · exact hup b (Nat.le_trans hsz2 h)
      have ho : ∀ (i : Nat) b q, 0 ≤ i → β5[i]? = some (some (b, q)) → S b := fun i b q _ h => by
        rcases q1.own i b q h with h | ⟨q0, h⟩
        · exact hup b (Nat.le_trans hsz2 h)
        · exact hup b (hβ i b q0 h)
      obtain ⟨us, h5, h6⟩ := k7.run q1 he5 hS4 ho
      have hx2 : Ext w w4 := by
        refine ⟨q1.os.trans hH2.os, q1.tape.trans hH2.tape, q1.output.trans hH2.output, Nat.le_trans hsz2 q1.size, fun b hb => ?_⟩
        have e1 := q1.fr b (Nat.lt_of_lt_of_le hb hsz2) (.inr fun i q h => by have := hβ i b q h; omega)
        have e2 := hH2.fr b hb (.inr fun i q h => by simp at h)
        exact e1.trans e2
      show Leaves P fn a3.tmps _ [] (settle u'') w4
      rw [k2]
      refine ⟨if h : us.toArray.size = 1 then us.toArray[0] else .tuple us.toArray, ?_, _, rfl, hx2, ?_⟩
      · rw [results_eq, hrs]
        simp [List.mapM_toArray, h5]
      · have hl := h6.len
        match rs, us, h6, hl with
        | [], [], _, _ => exact ⟨[], rfl, rfl⟩
        | [v], [u], h2, _ =>
          obtain ⟨y, ys, h3, h4, _⟩ := h2
          injection h3 with h3 _
          subst h3
          exact h4
        | v :: v' :: vs, u :: u' :: us, h2, _ =>
          have : ¬ (u :: u' :: us).toArray.size = 1 := by simp
          rw [dif_neg this]
          exact ⟨_, rfl, h2⟩
  cases e with
  | ret =>
    have : m = .returning := by simpa [modeOf] using k1.symm
    subst this
    exact hleave
  | normal =>
    have : m = .returning := by simpa [modeOf] using k1.symm
    subst this
    exact hleave
  | panic ch =>
    have : m = .panicking ch := by simpa [modeOf] using k1.symm
    subst this
    exact hleave
  | exit _ => simp [modeOf] at k1
  | goto _ => simp [modeOf] at k1
  | outgrown => simp [modeOf] at k1
end
/-! ### recover -/
section
variable {S : Nat → Prop} {w : World}
mutual
theorem V.val_rep : ∀ {v : V} {u : Value}, v.val = some u → v.Rep S w u
  | .x _, _, h => by
    simp only [V.val, Option.some.injEq] at h
    exact h.symm
  | .agg cs, _, h => by
    simp only [V.val, Option.map_eq_some_iff] at h
    obtain ⟨us, h3, rfl⟩ := h
    exact ⟨us, rfl, V.valL_rep h3⟩
  | .tup cs, _, h => by
    simp only [V.val, Option.map_eq_some_iff] at h
    obtain ⟨us, h3, rfl⟩ := h
    exact ⟨us, rfl, V.valL_rep h3⟩
  | .ifc t d, _, h => by
    simp only [V.val, Option.map_eq_some_iff] at h
    obtain ⟨y, h3, rfl⟩ := h
    exact ⟨y, rfl, V.val_rep h3⟩
  | .sl _ _, _, h => by simp [V.val] at h
  | .fl _ _, _, h => by simp [V.val] at h
  | .ref _, _, h => by simp [V.val] at h
theorem V.valL_rep : ∀ {l : List V} {us : List Value}, V.valL l = some us → V.RepL S w l us
  | [], _, h => by
    simp only [V.valL, Option.some.injEq] at h
    exact h.symm
  | v :: l, _, h => by
    simp only [V.valL] at h
    split at h
    · rename_i u us e1 e2
      injection h with h
      exact ⟨u, us, h.symm, V.val_rep e1, V.valL_rep e2⟩
    · cases h
end
end
section
variable {P : Program} {s : St} {g : Bool} {dst : Option Tmp} {ty : TypeId} {pos : String} {af : Array Edge} {gd : Option (Nat × Bool)}
theorem MOp.typeAssertT {x : Operand} {t t' : TypeId} {i : TypeInfo} {u : TypeDesc} {v : V} [h : TyI P t i u] (hu : (match u with | .interface _ => false | _ => true) = true) (hx : Ev s g x (.p (.ifc t v))) : MOp P s ⟨dst, .typeAssert x t' t true, ty, pos, af, gd⟩ g (.p (.tup [v, .b true])) :=
  MOp.of1 hx (by simp [Op.operands]) fun β S w ρ _ hr => by
    obtain ⟨y, h1, h2⟩ := hr
    refine ⟨.tuple #[y, .bool true], ?_, ⟨[y, .bool true], rfl, ⟨_, _, rfl, h2, ⟨_, _, rfl, rfl, rfl⟩⟩⟩⟩
    simp only [execOp, Instr.typeAssert, Sem.run_bind, run_underlying h.ut, Result.andThen_ok, h1]
    cases u <;> simp_all
theorem MOp.typeAssertN {x : Operand} {t t' : TypeId} {i : TypeInfo} {u : TypeDesc} {z : Value} {v : V} [h : TyI P t i u] (hu : (match u with | .interface _ => false | _ => true) = true) (hz : i.zero = some z) (hv : v.val = some z) (hx : Ev s g x (.p (.x .nilIface))) : MOp P s ⟨dst, .typeAssert x t' t true, ty, pos, af, gd⟩ g (.p (.tup [v, .b false])) :=
  MOp.of1 hx (by simp [Op.operands]) fun β S w ρ _ hr => by
    have h1 : ρ x = .nilIface := hr
    refine ⟨.tuple #[z, .bool false], ?_, ⟨[z, .bool false], rfl, ⟨_, _, rfl, V.val_rep hv, ⟨_, _, rfl, rfl, rfl⟩⟩⟩⟩
    simp only [execOp, Instr.typeAssert, Sem.run_bind, run_underlying h.ut, Result.andThen_ok, h1]
    cases u <;> simp_all [run_zeroValue' h.ti hz]
end
section
variable {P : Program} {Q : Exit → Act → List Frame → World → Prop} {a : Act} {cs : List Frame} {w : World}
/-- what recover gives, and the frames then -/
def recV (cs : List Frame) : Value × List Frame := (recoverD cs).getD (.nilIface, cs)
theorem wpS_regionRec {id : Nat} {ops : Array Oper} {l : List Oper} {t : Option Tmp} {ats : Array TypeId} {ty : TypeId} {pos : String} {af : Array Edge} {Q' : Exit → Act → World → Prop}
    (hl : ops.toList = ⟨t, .call { callee := .builtin .recover, args := #[], argTypes := ats }, ty, pos, af, none⟩ :: l)
    (h : wpList P ops Q' l (a.put t (recV cs).1) w) (hQ : ∀ e a' w', Q' e a' w' → Q e a' (recV cs).2 w') : (Code.region id ops false).wpS P Q a cs w := by
  intro b k hb hro
  have hsz : ops.size = l.length + 1 := by rw [← Array.length_toList, hl]; rfl
  have h0 : ops[0]? = some ⟨t, .call { callee := .builtin .recover, args := #[], argTypes := ats }, ty, pos, af, none⟩ := by rw [← Array.getElem?_toList, hl]; rfl
  have hrun : (execOp a.eval ⟨t, .call { callee := .builtin .recover, args := #[], argTypes := ats }, ty, pos, af, none⟩).run P w = .ok .recover w := by
    simp [execOp, resolve, invoke, go_sem]
  have hlist : wpOps P ops Q' (List.range' 1 l.length) (a.put t (recV cs).1) w := by
    rw [wpOps_eq_wpList l 1 (fun j => by rw [← Array.getElem?_toList, hl, Nat.add_comm 1 j]; rfl)]
    exact h
  obtain ⟨e, a', w', hq, harr⟩ := wp_ops _ _ _ hlist b k (recV cs).2
  refine ⟨e, a', _, w', hQ _ _ _ hq, .of_steps (.head step_region (.one ?_)) harr⟩
  rw [hsz, List.range_eq_range', List.range'_succ]
  refine step_lone_go ?_
  rw [stepG_op (P := P) (b := b) (k := k) (cs := cs) (w := w) (rest := List.range' 1 l.length) h0 rfl]
  have hfin : ∀ v, (b.at a (.inRegion ops (0 :: List.range' 1 l.length) :: k)).finish v = b.at (a.put t v) (.inRegion ops (List.range' 1 l.length) :: k) := by
    intro v
    rw [Frame.finish_at, h0]
    rfl
  have htr := tryRecover_deferred (fr := b.at a (.inRegion ops (0 :: List.range' 1 l.length) :: k)) hb cs
  rw [← hfin]
  cases hrec : recoverD cs with
  | none =>
    rw [hrec] at htr
    simp only [recV, hrec, Option.getD_none]
    simp only [Frame.at] at htr ⊢
    simp [stepG.apply, hrun, htr]
  | some p =>
    obtain ⟨v, cs'⟩ := p
    rw [hrec] at htr
    simp only [recV, hrec, Option.getD_some]
    simp only [Frame.at] at htr ⊢
    simp [stepG.apply, hrun, htr]
end
/-- what recover yields in a call that was put off and is done in mode u, and the mode then -/
inductive RecM : FrameMode → V → FrameMode → Prop
  | ret : RecM .returning (.x .nilIface) .returning
  | pan {v : V} {u : Value} : v.val = some u → RecM (.panicking (pch u)) v (.panicking [⟨u, true, false⟩])
theorem RecM.recV {u u' : FrameMode} {v : V} (h : RecM u v u') {c0 : Frame} {cs : List Frame} (hm : c0.mode = u) : ∃ y, recV (c0 :: cs) = (y, { c0 with mode := u' } :: cs) ∧ v.val = some y := by
  cases h with
  | ret =>
    refine ⟨.nilIface, ?_, rfl⟩
    have : recoverD (c0 :: cs) = none := by simp [recoverD, hm]
    rw [Go.Sy.recV, this]
    cases c0
    simp only at hm
    subst hm
    rfl
  | pan hv =>
    refine ⟨_, ?_, hv⟩
    rw [Go.Sy.recV, show recoverD (c0 :: cs) = some _ by simp only [recoverD, hm, pch]; rfl]
    rfl
theorem RecM.settle {u u' : FrameMode} {v : V} (h : RecM u v u') : settle u' = .returning := by
  cases h <;> simp [Go.settle]
section
variable {P : Program} {n : Nat}
theorem CD.of {g : FuncId} {fn : Func} {ds : List D} {H0 H1 : List (Option Box)} {u u' : FrameMode} {id : Nat} {ops : Array Oper} {l : List Oper} {rest : Code} {t : Tmp} {v : V} {ats : Array TypeId} {ty : TypeId} {pos : String} {af : Array Edge}
    (hf : P.funcs[g]? = some fn) (hb : fn.body = some (.seq (.region id ops false) rest)) (hnt : fn.ntmps = n) (hrs : fn.results = #[]) (hn : ds.length ≤ n) (ht : Nat.blt t n = true) (ids : D.upToL H0.length ds = true) (hids : Hp.upTo H0.length H0 = true)
    (hl : ops.toList = ⟨some t, .call { callee := .builtin .recover, args := #[], argTypes := ats }, ty, pos, af, none⟩ :: l) (hu : RecM u v u')
    (h : ∀ c, c.ro = false → c.dead = [] → c.β0.length = H0.length → SymL P c n ops (thenS (Sym P c n rest (FinB P c [] [] H1)) (FinB P c [] [] H1)) l ⟨(t, true, .p v) :: TM.argsD 0 ds, H0⟩) : CD P g ds H0 H1 u u' := by
  refine ⟨ids, hids, fun β S w us hH hr => ?_⟩
  refine callsD_of_wpS hf hb fun c0 cs hm => ?_
  have ht : t < n := by simpa using ht
  rw [hnt, List.size_toArray]
  obtain ⟨y, e1, e2⟩ := hu.recV (cs := cs) hm
  have hSR : SR ⟨w, S, β, false, [], [], noEsc⟩ n ⟨TM.argsD 0 ds, H0⟩ { tmps := us.toArray ++ Array.replicate (n - us.length) undef, defers := [] } w := SR.begin hH hr hn
  obtain ⟨β', S', k1, k2, k3, k4⟩ := hSR
  have hSR2 : SR ⟨w, S, β, false, [], [], noEsc⟩ n ⟨(t, true, .p v) :: TM.argsD 0 ds, H0⟩ (({ tmps := us.toArray ++ Array.replicate (n - us.length) undef, defers := [] } : Act).put (some t) y) w :=
    ⟨β', S', k1, by rw [defers_put, k2], by rw [size_put, k3], EntAt.put (s := ⟨TM.argsD 0 ds, H0⟩) (dst := some t) k4 (fun q hq => by injection hq with hq; rw [k3, ← hq]; exact ht) ⟨fun _ => V.val_rep e2, fun h => by cases h⟩⟩
  have hbody := h ⟨w, S, β, false, [], [], noEsc⟩ rfl rfl hH.len _ w hSR2
  have key : ∀ (s' : St) (e : Exit) (a' : Act) (w' : World), SR ⟨w, S, β, false, [], [], noEsc⟩ n s' a' w' → FinB P ⟨w, S, β, false, [], [], noEsc⟩ [] [] H1 e s' → bodyPostS P fn c0 cs (fun e u'' w' => ∃ v β1 S1, e = .returned v ∧ u'' = u' ∧ HSt ⟨w, S, β, false, [], [], noEsc⟩ H1 β1 S1 w') e a' ({ c0 with mode := u' } :: cs) w' := by
    intro s' e a' w' h1 h2
    have key : (∃ tm, Le ⟨w, S, β, false, [], [], noEsc⟩ s' ⟨tm, H1⟩ ∧ ResDL P ⟨tm, H1⟩ [] []) → a'.defers = [] ∧ ∃ u'', { c0 with mode := u' } :: cs = { c0 with mode := u'' } :: cs ∧ ∃ v, (results fn a'.tmps).run P w' = .ok v w' ∧ ∃ v' β1 S1, Ending.returned v = .returned v' ∧ u'' = u' ∧ HSt ⟨w, S, β, false, [], [], noEsc⟩ H1 β1 S1 w' := by
      rintro ⟨tm, hle, h3⟩
      obtain ⟨β1, S1, hH1, hd, _, he⟩ := hle _ _ _ h1
      refine ⟨hd, u', rfl, .tuple #[], ?_, _, β1, S1, rfl, rfl, hH1⟩
      rw [results_eq, hrs]
      simp
    cases e with
    | ret => exact key h2
    | normal => exact key h2
    | exit _ => exact h2.elim
    | goto _ => exact h2.elim
    | panic _ => exact h2.elim
    | outgrown => exact h2.elim
  refine wpS_seq (wpS_regionRec hl (by rw [e1]; exact hbody) ?_)
  rw [e1]
  rintro e a' w' ⟨s', k5, k6⟩
  cases e with
  | normal =>
    refine wpS_of_wp (wp_mono (k6 _ _ k5) ?_)
    rintro e a' w' ⟨s', k5, k6⟩
    exact key _ _ _ _ (k5.sr rfl) k6
  | exit _ => exact (show False from k6).elim
  | goto _ => exact (show False from k6).elim
  | ret => exact key s' .ret a' w' (SRx.sr (e := .ret) k5 rfl) k6
  | panic _ => exact (show False from k6).elim
  | outgrown => exact (show False from k6).elim
end
end Go.Sy
set_option linter.unusedSimpArgs false
set_option linter.unusedVariables false
namespace Go.Sy
open Go.RowKit
/-- Called with these, the function comes back with r; the boxes that it was given are H1 then, and those that it made; the row jd may lie elsewhere. -/
structure FnM (P : Program) (f : FuncId) (ds : List D) (H0 : List (Option Box)) (jd : Nat) (r : D) (H1 : List (Option Box)) : Prop where
  enter : ∀ args w, (callFunc f args).run P w = .ok (.enter f args) w
  ids : D.upToL H0.length ds = true
  hids : Hp.upTo H0.length H0 = true
  calls : ∀ β S w us, HOk H0 β S w → D.RepL β S w ds us → Calls P f us.toArray w fun e w' => ∃ u β1 S1, e = .returned u ∧ HSt ⟨w, S, β, false, [jd], [], noEsc⟩ H1 β1 S1 w' ∧ r.Rep β1 S1 w' u
section
variable {P : Program} {f : FuncId} {fn : Func} {code : Code} {n : Nat}
theorem FnM.of {ds rs : List D} {H0 H1 : List (Option Box)} {jd : Nat} {res : List ResultVar} (henter : ∀ args w, (callFunc f args).run P w = .ok (.enter f args) w) (hf : P.funcs[f]? = some fn) (hb : fn.body = some code) (hnt : fn.ntmps = n) (hrs : fn.results = res.toArray) (hn : ds.length ≤ n) (ids : D.upToL H0.length ds = true) (hids : Hp.upTo H0.length H0 = true)
    (h : ∀ c, c.ro = false → c.β0.length = H0.length → c.dead = [jd] → Sym P c n code (FinB P c res rs H1) ⟨TM.argsD 0 ds, H0⟩) : FnM P f ds H0 jd (tupD rs) H1 := by
  refine ⟨henter, ids, hids, fun β S w us hH hr => ?_⟩
  refine calls_of_wp hf hb ?_
  rw [hnt, List.size_toArray]
  refine wp_mono (h ⟨w, S, β, false, [jd], [], noEsc⟩ rfl hH.len rfl _ w (SR.begin hH hr hn)) ?_
  have key : ∀ (s' : St) (a' : Act) (w' : World), SR ⟨w, S, β, false, [jd], [], noEsc⟩ n s' a' w' → (∃ tm, Le ⟨w, S, β, false, [jd], [], noEsc⟩ s' ⟨tm, H1⟩ ∧ ResDL P ⟨tm, H1⟩ res rs) → ∃ u, (results fn a'.tmps).run P w' = .ok u w' ∧ a'.defers = [] ∧ ∃ u' β1 S1, Ending.returned u = .returned u' ∧ HSt ⟨w, S, β, false, [jd], [], noEsc⟩ H1 β1 S1 w' ∧ (tupD rs).Rep β1 S1 w' u' := by
    rintro s' a' w' h1 ⟨tm, hle, h2⟩
    obtain ⟨β1, S1, hH1, hd, _, he⟩ := hle _ _ _ h1
    obtain ⟨us, h3, h4⟩ := h2.run hH1.toHOk he
    refine ⟨if h : us.toArray.size = 1 then us.toArray[0] else .tuple us.toArray, ?_, hd, _, β1, S1, rfl, hH1, ?_⟩
    · rw [results_eq, hrs]
      simp [List.mapM_toArray, h3]
    · have hl := h4.len
      match rs, us, h4, hl with
      | [], [], _, _ => exact ⟨[], rfl, rfl⟩
      | [v], [u], h2, _ =>
        obtain ⟨y, ys, h3, h4, _⟩ := h2
        injection h3 with h3 _
        subst h3
        exact h4
      | v :: v' :: vs, u :: u' :: us, h2, _ =>
        have : ¬ (u :: u' :: us).toArray.size = 1 := by simp
        rw [dif_neg this]
        exact ⟨_, rfl, h2⟩
  rintro e a' w' ⟨s', h1, h2⟩
  replace h1 := h1.sr rfl
  cases e with
  | ret =>
    obtain ⟨u, k1, k2, k3⟩ := key s' a' w' h1 h2
    exact bodyPost_ret k1 k2 k3
  | normal =>
    obtain ⟨u, k1, k2, k3⟩ := key s' a' w' h1 h2
    exact bodyPost_end k1 k2 k3
  | exit _ => exact h2.elim
  | goto _ => exact h2.elim
  | panic _ => exact h2.elim
  | outgrown => exact h2.elim
end
section
variable {P : Program} {c : Ctx} {n : Nat} {ops : Array Oper} {Q : Exit → St → Prop} {rest : List Oper} {t : Tmp} {ty : TypeId} {pos : String} {af : Array Edge} {tm : List (Nat × Bool × D)} {H : List (Option Box)}
theorem HSt.backM {β : List Place} {S : Nat → Prop} {w : World} (hH : HSt c H β S w) {ks : List Nat} {H0 : List (Option Box)} (hg : Given H (sig ks H.length) ks H0) (hn : ks.Nodup) (hids : Hp.upTo H0.length H0 = true) (hwr : c.ro = true → ∀ k ∈ ks, c.β0.length ≤ k)
    {jd kd : Nat} (hjd : ks[jd]? = some kd) (hdead : kd < c.β0.length → kd ∈ c.dead)
    {H1 : List (Option Box)} {β1 : List Place} {S1 : Nat → Prop} {w' : World} (h : HSt ⟨w, S, ks.map fun k => β.getD k none, false, [jd], [], noEsc⟩ H1 β1 S1 w') :
    ∃ β', HSt c (Hp.putAll (sig ks H.length) ks H1 (Hp.clean kd H) ++ (H1.drop ks.length).map (Option.map (Box.ren (sig ks H.length)))) β' S1 w' ∧ (∀ (i : Nat) e, i ≠ kd → β[i]? = some e → β'[i]? = some e) ∧ (∀ (j : Nat) e, β1[j]? = some e → β'[sig ks H.length j]? = some e) ∧
      (∀ b, S b → b < w.heap.size → w'.heap[b]? = w.heap[b]? ∧ S1 b) := by
  obtain ⟨g1, g2⟩ := hH.toHOk.give hg hn hids
  have hlen := hg.len
  have hl1 : ks.length ≤ β1.length := by have := h.klen; simpa using this
  have hlb : β.length = H.length := hH.len
  have hin : ∀ j k, ks[j]? = some k → k < H.length := fun j k hk => by
    obtain ⟨x, _, h2⟩ := hg.get' hk
    exact (List.getElem?_eq_some_iff.1 h2).1
  have hjl : jd < ks.length := (List.getElem?_eq_some_iff.1 hjd).1
  have hkdH : kd < H.length := hin _ _ hjd
  obtain ⟨pd, hpd⟩ : ∃ pd, β1[jd]? = some pd := ⟨_, List.getElem?_eq_getElem (by omega)⟩
  have hsjd : sig ks H.length jd = kd := sig_lt hjd
  have hold : ∀ j, j < ks.length → j ≠ jd → β1[j]? = β[sig ks H.length j]? := by
    intro j hj hjne
    have h1 := g2 j (by omega)
    have h2 : (ks.map fun k => β.getD k none)[j]? = some ((ks.map fun k => β.getD k none)[j]'(by simpa using hj)) := List.getElem?_eq_getElem (by simpa using hj)
    rw [← h1, h2]
    exact h.keep j _ (by simpa using hjne) h2
  have hset : ∀ (i : Nat) (e : Place), i ≠ kd → β[i]? = some e → (β.set kd pd)[i]? = some e := fun i e hi he => by rw [List.getElem?_set_ne (Ne.symm hi)]; exact he
  have hkeep' : ∀ (i : Nat) (e : Place), i ≠ kd → β[i]? = some e → (β.set kd pd ++ β1.drop ks.length)[i]? = some e := fun i e hi he => by
    rw [List.getElem?_append_left (by rw [List.length_set]; exact (List.getElem?_eq_some_iff.1 he).1)]
    exact hset i e hi he
  have hσ : ∀ (j : Nat) e, β1[j]? = some e → (β.set kd pd ++ β1.drop ks.length)[sig ks H.length j]? = some e := by
    intro j e hj
    rcases Nat.lt_or_ge j ks.length with h1 | h1
    · by_cases hjj : j = jd
      · subst hjj
        rw [hsjd, List.getElem?_append_left (by rw [List.length_set]; omega), List.getElem?_set_self (by omega), ← hpd]
        exact hj
      · rw [hold j h1 hjj] at hj
        refine hkeep' _ _ ?_ hj
        intro hs
        have e1 : ks[j]? = some ks[j] := List.getElem?_eq_getElem h1
        rw [sig_lt e1] at hs
        rw [hs] at e1
        have e2 := List.getElem?_eq_some_iff.1 hjd
        have e3 := List.getElem?_eq_some_iff.1 e1
        exact hjj (nodup_at hn (e3.2.trans e2.2.symm))
    · rw [sig_ge h1, ← hlb, List.getElem?_append_right (by rw [List.length_set]; omega), List.getElem?_drop, List.length_set]
      rw [show ks.length + (β.length + (j - ks.length) - β.length) = j by omega]
      exact hj
  have hcl : (Hp.clean kd H).length = H.length := Hp.clean_len
  refine ⟨β.set kd pd ++ β1.drop ks.length, ?_, hkeep', hσ, fun b hb hl => h.keepS b hb hl⟩
  have hput : (Hp.putAll (sig ks H.length) ks H1 (Hp.clean kd H)).length = H.length := by rw [Hp.putAll_len, hcl]
  -- which boxes there are
  have hcase : ∀ (i : Nat) (x : Box), (Hp.putAll (sig ks H.length) ks H1 (Hp.clean kd H) ++ (H1.drop ks.length).map (Option.map (Box.ren (sig ks H.length))))[i]? = some (some x) →
      (∃ j y, H1[j]? = some (some y) ∧ i = sig ks H.length j ∧ x = y.ren (sig ks H.length)) ∨ (i ∉ ks ∧ i < H.length ∧ ∃ z, H[i]? = some (some z) ∧ x = ⟨D.cleanL kd z.cs, z.e, z.sz⟩) := by
    intro i x hx
    rcases Nat.lt_or_ge i H.length with hi | hi
    · rw [List.getElem?_append_left (by omega)] at hx
      by_cases hik : i ∈ ks
      · obtain ⟨j, hj, rfl⟩ := List.mem_iff_getElem.1 hik
        have hjk : ks[j]? = some ks[j] := List.getElem?_eq_getElem hj
        cases hH1 : H1[j]? with
        | none =>
          exfalso
          rw [List.getElem?_eq_none_iff] at hH1
          have := h.len
          omega
        | some y =>
          rw [Hp.putAll_in _ ks H1 (Hp.clean kd H) j _ y hn hjk hH1 (by rw [hcl]; exact hi)] at hx
          simp only [Option.some.injEq, Option.map_eq_some_iff] at hx
          obtain ⟨z, rfl, rfl⟩ := hx
          exact .inl ⟨j, z, hH1, (sig_lt hjk).symm, rfl⟩
      · rw [Hp.putAll_out _ ks H1 (Hp.clean kd H) i hik] at hx
        exact .inr ⟨hik, hi, Hp.clean_get hx⟩
    · rw [List.getElem?_append_right (by omega), hput, List.getElem?_map, List.getElem?_drop] at hx
      simp only [Option.map_eq_some_iff] at hx
      obtain ⟨y, h1, z, rfl, rfl⟩ := hx
      refine .inl ⟨ks.length + (i - H.length), z, h1, ?_, rfl⟩
      rw [sig_ge (by omega)]
      omega
  have hβcase : ∀ (i : Nat) (b q : Nat), (β.set kd pd ++ β1.drop ks.length)[i]? = some (some (b, q)) → (i ≠ kd ∧ β[i]? = some (some (b, q))) ∨ (i = kd ∧ β1[jd]? = some (some (b, q))) ∨ ∃ j, ks.length ≤ j ∧ i = H.length + (j - ks.length) ∧ β1[j]? = some (some (b, q)) := by
    intro i b q hi
    rcases Nat.lt_or_ge i β.length with h1 | h1
    · rw [List.getElem?_append_left (by rw [List.length_set]; exact h1)] at hi
      by_cases hik : i = kd
      · subst hik
        rw [List.getElem?_set_self h1] at hi
        exact .inr (.inl ⟨rfl, by rw [hpd]; exact hi⟩)
      · rw [List.getElem?_set_ne (Ne.symm hik)] at hi
        exact .inl ⟨hik, hi⟩
    · rw [List.getElem?_append_right (by rw [List.length_set]; exact h1), List.getElem?_drop, List.length_set] at hi
      exact .inr (.inr ⟨ks.length + (i - β.length), by omega, by omega, hi⟩)
  have hback : ∀ (j : Nat) (b q : Nat), j < β1.length → (β.set kd pd ++ β1.drop ks.length)[sig ks H.length j]? = some (some (b, q)) → β1[j]? = some (some (b, q)) := by
    intro j b q hj hi
    have h1 : β1[j]? = some β1[j] := List.getElem?_eq_getElem hj
    have h2 := hσ j _ h1
    rw [h2] at hi
    rw [h1]; exact hi
  have h0 : ∀ (j b q : Nat), (ks.map fun k => β.getD k none)[j]? = some (some (b, q)) → ∃ k, ks[j]? = some k ∧ β[k]? = some (some (b, q)) := by
    intro j b q hj
    have hjl : j < ks.length := by simpa using (List.getElem?_eq_some_iff.1 hj).1
    have hjk : ks[j]? = some ks[j] := List.getElem?_eq_getElem hjl
    refine ⟨ks[j], hjk, ?_⟩
    rw [g2 j (by omega), sig_lt hjk] at hj
    exact hj
  -- a box of the caller's that was not handed over is as it was
  have hother : ∀ (i : Nat) (x : Box), i ∉ ks → H[i]? = some (some x) → ∀ b q, β[i]? = some (some (b, q)) → w'.heap[b]? = w.heap[b]? ∧ ¬ S1 b ∧ b < w.heap.size ∧ ∀ (j q' : Nat), (ks.map fun k => β.getD k none)[j]? ≠ some (some (b, q')) := by
    intro i x hik hx b q hb
    obtain ⟨h1, h2⟩ := (hH.box i x hx).lt hb
    have h3 : ∀ (j q' : Nat), (ks.map fun k => β.getD k none)[j]? ≠ some (some (b, q')) := by
      intro j q' hj
      obtain ⟨k, hk, hkb⟩ := h0 j b q' hj
      obtain ⟨y, _, hy⟩ := hg.get' hk
      have := hH.inj i k x _ b q q' hx hy hb hkb
      subst this
      exact hik (List.mem_of_getElem? hk)
    refine ⟨h.fr b h1 (.inr h3), fun hs => ?_, h1, h3⟩
    rcases h.sub b hs with h4 | h4
    · exact h2 h4
    · exact absurd h1 (by simpa using h4)
  have hkdks : kd ∈ ks := List.mem_of_getElem? hjd
  have hlen1 := h.len
  refine ⟨⟨fun b hb => h.up b hb, ?_, ?_, ?_⟩, ?_, ?_, ?_, ?_, ?_, ?_, h.os.trans hH.os, h.tape.trans hH.tape, h.output.trans hH.output, Nat.le_trans hH.size h.size⟩
  · intro i x hx
    rcases hcase i x hx with ⟨j, y, h1, rfl, rfl⟩ | ⟨hik, hi, z, h1, rfl⟩
    · rcases h.box j y h1 with ⟨k1, k2, k3⟩ | ⟨b, q, cur, us, k1, k2, k3, k4, k5⟩
      · exact .inl ⟨hσ j _ k1, k2, by simp [Box.ren, k3, D.renL]⟩
      · exact .inr ⟨b, q, cur, us, hσ j _ k1, k2, k3, D.RepL.ren hσ k4, k5⟩
    · have hne : i ≠ kd := fun he => hik (he ▸ hkdks)
      rcases hH.box i z h1 with ⟨k1, k2, k3⟩ | ⟨b, q, cur, us, k1, k2, k3, k4, k5⟩
      · exact .inl ⟨hkeep' i _ hne k1, k2, by rw [k3]; rfl⟩
      · obtain ⟨o1, o2, o3, o4⟩ := hother i z hik h1 b q k1
        exact .inr ⟨b, q, cur, us, hkeep' i _ hne k1, o2, by rw [o1]; exact k3, D.RepL.clean hkeep' (fun b hb hl => (h.keepS b hb hl).1) (fun b hb hl => (h.keepS b hb hl).2) k4, k5⟩
  · simp [hput, hlb, hlen1]
  · intro i i' x x' b p q hx hx' hi hi'
    rcases hcase i x hx with ⟨j, y, h1, rfl, rfl⟩ | ⟨hik, hil, z, h1, rfl⟩ <;> rcases hcase i' x' hx' with ⟨j', y', h1', rfl, rfl⟩ | ⟨hik', hil', z', h1', rfl⟩
    · have k1 := hback j b p (by rw [hlen1]; exact (List.getElem?_eq_some_iff.1 h1).1) hi
      have k2 := hback j' b q (by rw [hlen1]; exact (List.getElem?_eq_some_iff.1 h1').1) hi'
      rw [h.inj j j' y y' b p q h1 h1' k1 k2]
    · exfalso
      have k1 := hback j b p (by rw [hlen1]; exact (List.getElem?_eq_some_iff.1 h1).1) hi
      have hne : i' ≠ kd := fun he => hik' (he ▸ hkdks)
      rcases hβcase i' b q hi' with ⟨_, hi'⟩ | ⟨he, _⟩ | ⟨j2, _, he, _⟩
      · obtain ⟨_, _, k3, k4⟩ := hother i' z' hik' h1' b q hi'
        rcases h.own j b p k1 with k5 | ⟨q0, k5⟩
        · exact absurd k3 (by simpa using k5)
        · exact k4 j q0 k5
      · exact hne he
      · omega
    · exfalso
      have k1 := hback j' b q (by rw [hlen1]; exact (List.getElem?_eq_some_iff.1 h1').1) hi'
      have hne : i ≠ kd := fun he => hik (he ▸ hkdks)
      rcases hβcase i b p hi with ⟨_, hi⟩ | ⟨he, _⟩ | ⟨j2, _, he, _⟩
      · obtain ⟨_, _, k3, k4⟩ := hother i z hik h1 b p hi
        rcases h.own j' b q k1 with k5 | ⟨q0, k5⟩
        · exact absurd k3 (by simpa using k5)
        · exact k4 j' q0 k5
      · exact hne he
      · omega
    · have hne : i ≠ kd := fun he => hik (he ▸ hkdks)
      have hne' : i' ≠ kd := fun he => hik' (he ▸ hkdks)
      rcases hβcase i b p hi with ⟨_, hi⟩ | ⟨he, _⟩ | ⟨j2, _, he, _⟩
      · rcases hβcase i' b q hi' with ⟨_, hi'⟩ | ⟨he, _⟩ | ⟨j2, _, he, _⟩
        · exact hH.inj i i' z z' b p q h1 h1' hi hi'
        · exact absurd he hne'
        · omega
      · exact absurd he hne
      · omega
  · intro b hb
    rcases h.sub b hb with k | k
    · exact hH.sub b k
    · exact .inr (Nat.le_trans hH.size k)
  · intro i b q hi
    rcases hβcase i b q hi with ⟨_, k⟩ | ⟨rfl, k⟩ | ⟨j, hj, rfl, k⟩
    · exact hH.own i b q k
    · rcases h.own jd b q k with k1 | ⟨q0, k1⟩
      · exact .inl (Nat.le_trans hH.size k1)
      · obtain ⟨k', hk', hb'⟩ := h0 jd b q0 k1
        rw [hjd] at hk'
        injection hk' with hk'
        subst hk'
        exact hH.own i b q0 hb'
    · rcases h.own j b q k with k1 | ⟨q0, k1⟩
      · exact .inl (Nat.le_trans hH.size k1)
      · have := (List.getElem?_eq_some_iff.1 k1).1
        simp at this
        omega
  · intro b hb hcond
    rw [h.fr b (Nat.lt_of_lt_of_le hb hH.size) (.inr ?_)]
    · exact hH.fr b hb hcond
    · intro j q hj
      obtain ⟨k, hk, hkb⟩ := h0 j b q hj
      rcases hH.own k b q hkb with k1 | ⟨q0, k1⟩
      · omega
      · rcases hcond with hro | hcond
        · have k2 := hwr hro k (List.mem_of_getElem? hk)
          have k3 := (List.getElem?_eq_some_iff.1 k1).1
          omega
        · exact hcond k q0 k1
  · intro i e hi k
    have hne : i ≠ kd := fun he => hi (by rw [he]; exact hdead (by rw [← he]; exact (List.getElem?_eq_some_iff.1 k).1))
    exact hkeep' i e hne (hH.keep i e hi k)
  · rw [List.length_append, List.length_set]
    exact Nat.le_add_right_of_le hH.klen
  · intro b hb hl
    obtain ⟨k1, k2⟩ := hH.keepS b hb hl
    obtain ⟨k3, k4⟩ := h.keepS b k2 (Nat.lt_of_lt_of_le hl hH.size)
    exact ⟨k3.trans k1, k4⟩
/-- a call that moves a row which it is given -/
theorem SymL.callM {f : Operand} {k : FuncId} {as : Array Operand} {ts : Array TypeId} {ds ds' : List D} {H0 H1 : List (Option Box)} {jd kd : Nat} {r r' : D} (ks : List Nat) (hcb : FnM P k ds H0 jd r H1) (hds : D.renL (sig ks H.length) ds = ds') (hf : EvF ⟨tm, H⟩ true f as.toList k ds') (hg0 : Given H (sig ks H.length) ks H0) (hn : ks.Nodup)
    (hjd : ks[jd]? = some kd) (ht : Nat.blt t n = true) (hwr : c.ro = true → ∀ k ∈ ks, c.β0.length ≤ k) (hdead : kd < c.β0.length → kd ∈ c.dead) {H' : List (Option Box)} {tm' : List (Nat × Bool × D)} (hr : r.ren (sig ks H.length) = r') (hH' : Hp.putAll (sig ks H.length) ks H1 (Hp.clean kd H) ++ (H1.drop ks.length).map (Option.map (Box.ren (sig ks H.length))) = H') (htm : TM.clean kd tm = tm')
    (kk : SymL P c n ops Q rest ⟨(t, true, r') :: tm', H'⟩) : SymL P c n ops Q (⟨some t, .call { callee := .value f, args := as, argTypes := ts }, ty, pos, af, none⟩ :: rest) ⟨tm, H⟩ := by
  subst hds; subst hr; subst hH'; subst htm
  rintro a w ⟨β, S, hH, hd, hnn, he⟩
  refine wpList_plain rfl fun K hK => ?_
  obtain ⟨us, h1, h2⟩ := hf.run (P := P) (dst := some t) (ty := ty) (pos := pos) (af := af) (gd := none) (ts := ts) (fun t _ => he t) rfl hcb.enter
  obtain ⟨h3, h4⟩ := hH.toHOk.give hg0 hn hcb.hids
  unfold Oper.wp
  rw [h2]
  show Calls P k us.toArray w _
  refine (hcb.calls _ S w us h3 (D.RepL.unren h4 hcb.ids h1)).mono ?_
  rintro e w' ⟨u, β1, S1, rfl, hx, hr⟩
  obtain ⟨β', k1, k2, k3, k4⟩ := hH.backM hg0 hn hcb.hids hwr hjd hdead hx
  have hlt : t < n := by simpa using ht
  refine hK _ _ (kk _ _ ⟨β', S1, k1, by rw [defers_put, hd], by rw [size_put, hnn], EntAt.put (s := ⟨TM.clean kd tm, _⟩) (dst := some t) ?_ (fun t' h => by injection h with h; rw [hnn, ← h]; exact hlt) ⟨fun _ => hr.ren k3, fun h => by cases h⟩⟩)
  intro t' g' d' hg
  obtain ⟨d0, h5, rfl⟩ := TM.clean_get hg
  obtain ⟨q1, q2, q3⟩ := he t' g' d0 h5
  exact ⟨q1, fun hg => (q2 hg).clean k2 (fun b hb hl => (k4 b hb hl).1) fun b hb hl => (k4 b hb hl).2, q3⟩
end
end Go.Sy
set_option linter.unusedSimpArgs false
set_option linter.unusedVariables false
namespace Go.Sy
open Go.RowKit
theorem rep_repl {β : List Place} {S : Nat → Prop} {w : World} (z : Value) (m : Nat) : D.RepL β S w (List.replicate m (D.p (.x z))) (List.replicate m z) := by
  have := D.RepL.p (β := β) (V.RepL.x (S := S) (w := w) (l := List.replicate m z))
  rw [List.map_replicate, List.map_replicate] at this
  exact this
section
variable {P : Program} {c : Ctx} {n : Nat} {ops : Array Oper} {Q : Exit → St → Prop} {rest : List Oper} {tm : List (Nat × Bool × D)} {H : List (Option Box)}
/-- make([]T, n) -/
theorem WStep.makeRow {t : Tmp} {ty e ty1 : TypeId} {pos : String} {af : Array Edge} {gd : Option (Nat × Bool)} {k : IntKind} {m : Nat} {x : Operand} {i j : TypeInfo} {u : TypeDesc} {z : Value} {cs : List D} [h : TyI P ty i (.slice e)] [h' : TyI P e j u] (hx : Ev ⟨tm, H⟩ true x (.p (.x (.int k (m : Int))))) (hz : j.zero = some z) (hz1 : z.cells = #[z]) (hsz : Nat.beq j.size 1 = true) (hby : Nat.ble j.bytes 1000 = true) (hm : m ≤ 1000000000) (ht : Nat.blt t n = true) (hcs : cs = List.replicate m (D.p (.x z))) :
    WStep P c n ops ⟨tm, H⟩ ⟨some t, .makeSlice ty x x, ty1, pos, af, gd⟩ none (H ++ [some ⟨cs, e, 1⟩]) (.row H.length m) := by
  subst hcs
  refine ⟨ht, ?_⟩
  intro β S a w hH he K Q hK
  have hsz : j.size = 1 := Nat.eq_of_beq_eq_true hsz
  have hby : j.bytes ≤ 1000 := by simpa using hby
  have h1 : a.eval x = .int k m := hx.rep (β := β) (S := S) (a := a) (w := w) (l := (Op.makeSlice ty x x).operands) (by simp [Op.operands]) (fun t ht => he t (by simp only [Oper.looksAt, List.mem_append, List.mem_filterMap]; exact .inl ⟨_, by simpa using ht, rfl⟩)) rfl
  have hbm : j.bytes * m ≤ 281474976710656 := Nat.le_trans (Nat.mul_le_mul hby hm) (by decide)
  have hrun := run_make_row (P := P) ty e j z h.ut h'.ti hz hsz hz1 k k m hbm (by omega) w
  have hcur : (madeCells #[z] m).toList = List.replicate m z := by
    apply List.ext_getElem
    · simp [madeCells]
    · intro q h1 h2
      simp [madeCells, Nat.mod_one]
  have hsize : (madeCells #[z] m).size = m := by
    rw [← Array.length_toList, hcur, List.length_replicate]
  obtain ⟨k1, k2⟩ := hH.newBox (e := e) (sz := 1) (q := m) (cur := madeCells #[z] m) (rep_repl z m) (by rw [hcur]; exact List.prefix_refl _) (fun h0 => by omega) (fun _ => ⟨by rw [hsize, Nat.mul_one], by simp only [maxLen]; omega⟩)
  have he' : ∀ b, S b → b < w.heap.size → (w.alloc (.cells (madeCells #[z] m) e)).heap[b]? = w.heap[b]? := fun b _ hb => Below.heap_alloc _ _ _ hb
  have hS' : ∀ b, S b → b < w.heap.size → S b ∧ b ≠ w.heap.size := fun b h hb => ⟨h, by omega⟩
  refine wp_value (v := .slice (some ⟨w.heap.size, 0, none⟩) m m) (w' := w.alloc (.cells (madeCells #[z] m) e)) ?_ (hK _ _ _ _ k1 ⟨fun i e _ h => k2 i e h, he', hS'⟩ (out_new hH.len) fun _ => .inr ⟨w.heap.size, m, ?_, Nat.le_refl _, rfl⟩)
  · simp only [execOp, h1]
    rw [Sem.run_bind, hrun]
    rfl
  · rw [← hH.len]; simp
theorem SymL.makeRow {t : Tmp} {ty e ty1 : TypeId} {pos : String} {af : Array Edge} {k : IntKind} {m : Nat} {x : Operand} {i j : TypeInfo} {u : TypeDesc} {z : Value} {cs : List D} [h : TyI P ty i (.slice e)] [h' : TyI P e j u] (hx : Ev ⟨tm, H⟩ true x (.p (.x (.int k (m : Int))))) (hz : j.zero = some z) (hz1 : z.cells = #[z]) (hsz : Nat.beq j.size 1 = true) (hby : Nat.ble j.bytes 1000 = true) (hm : m ≤ 1000000000) (ht : Nat.blt t n = true) (hcs : cs = List.replicate m (D.p (.x z)))
    {hl : Nat} (hlen : H.length = hl) {H' : List (Option Box)} (hH' : H ++ [some ⟨cs, e, 1⟩] = H') (kk : SymL P c n ops Q rest ⟨(t, true, .row hl m) :: tm, H'⟩) : SymL P c n ops Q (⟨some t, .makeSlice ty x x, ty1, pos, af, none⟩ :: rest) ⟨tm, H⟩ := by
  subst hlen; subst hH'
  exact SymL.ofW (kk := none) (GOk.none rfl) (WStep.makeRow hx hz hz1 hsz hby hm ht hcs) kk
theorem splice_enc {α : Type} (enc : α → List V) (sz : Nat) (hsz : ∀ q, (enc q).length = sz) : ∀ (l : List α) (j : Nat) (el : α), j < l.length → splice (D.enc enc l) (j * sz) ((enc el).map D.p) = D.enc enc (l.set j el)
  | [], _, _, h => by simp at h
  | a :: l, 0, el, _ => by
    unfold splice
    simp only [D.enc, List.flatMap_cons, List.map_append, Nat.zero_mul, List.take_zero, List.nil_append, List.set_cons_zero, List.length_map, hsz, Nat.zero_add]
    rw [List.drop_append_of_le_length (by simp [hsz]), List.drop_of_length_le (by simp [hsz]), List.nil_append]
  | a :: l, j + 1, el, h => by
    have ih := splice_enc enc sz hsz l j el (by simpa using h)
    unfold splice at ih ⊢
    simp only [D.enc, List.flatMap_cons, List.map_append, List.set_cons_succ, List.length_map, hsz] at ih ⊢
    have hal : ((enc a).map D.p).length = sz := by simp [hsz]
    rw [show (j + 1) * sz = ((enc a).map D.p).length + j * sz by rw [hal, Nat.add_mul, Nat.one_mul, Nat.add_comm], List.take_length_add_append, Nat.add_assoc, List.drop_length_add_append, ← ih]
    simp only [List.append_assoc]
/-- row[j] = el -/
theorem SymL.storeRow {α : Type} {enc : α → List V} {l : List α} (j : Nat) (el : α) {ty : TypeId} {pos : String} {af : Array Edge} {x y : Operand} {e be : TypeId} {i : TypeInfo} {u : TypeDesc} {k off bz : Nat} {d : D} [h : TyI P e i u] (hx : Ev ⟨tm, H⟩ true x (.ptr k off)) (hy : Ev ⟨tm, H⟩ true y d) (hb : H[k]? = some (some ⟨D.enc enc l, be, bz⟩)) (hl : d.laid = true) (hd : d.cells = (enc el).map D.p) (hone : ∀ v ∈ enc el, v.one = true)
    (hoff : off = j * i.size) (hsz : ∀ q, (enc q).length = i.size) (hj : j < l.length) (hwr : c.ro = true → c.β0.length ≤ k) {H' : List (Option Box)} (hH' : H.set k (some ⟨D.enc enc (l.set j el), be, bz⟩) = H') (kk : SymL P c n ops Q rest ⟨tm, H'⟩) :
    SymL P c n ops Q (⟨none, .store e x y, ty, pos, af, none⟩ :: rest) ⟨tm, H⟩ := by
  subst hoff; subst hH'
  have hlen : (D.enc enc l).length = l.length * i.size := by
    rw [List.length_map, flat_len hsz]
  refine SymL.store hx hy hb hl ?_ ?_ ?_ hwr ?_
  · rw [hd, List.all_eq_true]
    intro q hq
    obtain ⟨v, hv, rfl⟩ := List.mem_map.1 hq
    exact hone v hv
  · rw [hd, List.length_map, hsz]
    simp
  · simp only [hlen, Nat.ble_eq]
    have : (j + 1) * i.size ≤ l.length * i.size := Nat.mul_le_mul_right _ hj
    rw [Nat.add_mul, Nat.one_mul] at this
    exact this
  · simp only
    rw [hd, splice_enc enc i.size hsz l j el hj]
    exact kk
/-- an element of one cell, out of a row -/
theorem MOp.loadRow1 {α : Type} {enc : α → List V} {l : List α} {el : α} {v : V} {s : St} {g : Bool} {dst : Option Tmp} {ty : TypeId} {pos : String} {af : Array Edge} {gd : Option (Nat × Bool)} {x : Operand} {t : TypeId} {i : TypeInfo} {u : TypeDesc} {k off j : Nat} {be : TypeId} {bz : Nat} [h : TyI P t i u] (hx : Ev s g x (.ptr k off)) (hb : s.H[k]? = some (some ⟨D.enc enc l, be, bz⟩)) (hu : TypeDesc.isAgg u = false) (hoff : off = j * i.size) (hs1 : Nat.beq i.size 1 = true) (henc : ∀ q, (enc q).length = 1) (hel : l[j]? = some el) (hv : enc el = [v]) :
    MOp P s ⟨dst, .load t x, ty, pos, af, gd⟩ g (.p v) := by
  have hs1 : i.size = 1 := Nat.eq_of_beq_eq_true hs1
  rw [hs1, Nat.mul_one] at hoff
  subst hoff
  refine MOp.load hx hb hu ?_
  obtain ⟨h1, h2⟩ := flat_drop enc 1 henc l off el hel
  rw [Nat.mul_one] at h1
  rw [hv] at h1
  rw [List.getElem?_map, ← Nat.add_zero off, ← List.getElem?_drop]
  have : ((l.flatMap enc).drop off)[0]? = some v := by
    rw [show ((l.flatMap enc).drop off)[0]? = (((l.flatMap enc).drop off).take 1)[0]? by rw [List.getElem?_take]; simp, h1]
    rfl
  rw [this]
  rfl
end
end Go.Sy
set_option linter.unusedSimpArgs false
set_option linter.unusedVariables false
namespace Go.Sy
open Go.RowKit
mutual
def D.icp (k : Nat) (vs : List V) : D → D
  | .p u => .p u
  | .agg cs => .agg (D.icpL k vs cs)
  | .tup cs => .tup (D.icpL k vs cs)
  | .ptr i off => bif Nat.beq i k then .p (.ref (vs.drop off)) else .ptr i off
  | .row i m => bif Nat.beq i k then .any else .row i m
  | .clo f fs cs => .clo f (D.icpL k vs fs) (D.icpL k vs cs)
  | .lit m cs => .lit m (D.icpL k vs cs)
  | .refD cs => .refD (D.icpL k vs cs)
  | .any => .any
def D.icpL (k : Nat) (vs : List V) : List D → List D
  | [] => []
  | d :: ds => D.icp k vs d :: D.icpL k vs ds
end
def TM.icp (k : Nat) (vs : List V) : List (Nat × Bool × D) → List (Nat × Bool × D)
  | [] => []
  | (t, g, d) :: l => (t, g, d.icp k vs) :: TM.icp k vs l
def Hp.icp (k : Nat) (vs : List V) : List (Option Box) → List (Option Box)
  | [] => []
  | none :: l => none :: Hp.icp k vs l
  | some x :: l => some ⟨D.icpL k vs x.cs, x.e, x.sz⟩ :: Hp.icp k vs l
section
variable {β : List Place} {S S' : Nat → Prop} {w : World} {k : Nat} {vs : List V}
mutual
theorem D.Rep.icp (hS : ∀ b, S b → b < w.heap.size → S' b) (hv : ∀ off u, (D.ptr k off).Rep β S w u → (V.ref (vs.drop off)).Rep S' w u) : ∀ {d : D} {u : Value}, d.Rep β S w u → (d.icp k vs).Rep β S' w u
  | .p _, _, h => V.Rep.mono (fun _ _ _ => rfl) hS h
  | .agg _, _, ⟨us, h1, h2⟩ => ⟨us, h1, D.RepL.icp hS hv h2⟩
  | .tup _, _, ⟨us, h1, h2⟩ => ⟨us, h1, D.RepL.icp hS hv h2⟩
  | .ptr i off, u, h => by
    unfold D.icp
    cases hb : Nat.beq i k
    · exact h
    · have h1 := Nat.eq_of_beq_eq_true hb
      subst h1
      exact hv off u h
  | .row i m, u, h => by
    unfold D.icp
    cases hb : Nat.beq i k
    · exact h
    · trivial
  | .clo f fs cs, u, ⟨us, vs, h1, h2, h3⟩ => ⟨us, vs, h1, D.RepL.icp hS hv h2, D.RepL.icp hS hv h3⟩
  | .lit _ _, _, ⟨a, us, h1, h2, h3, h5⟩ => ⟨a, us, h1, h2, D.RepL.icp hS hv h3, (h5.mono (S' := fun b => S b ∧ b < w.heap.size) fun b hb hl => ⟨hb, hl⟩).mono fun b hb _ => hS b hb.1 hb.2⟩
  | .refD _, _, ⟨a, us, h1, h3, h5⟩ => ⟨a, us, h1, D.RepL.icp hS hv h3, (h5.mono (S' := fun b => S b ∧ b < w.heap.size) fun b hb hl => ⟨hb, hl⟩).mono fun b hb _ => hS b hb.1 hb.2⟩
  | .any, _, _ => trivial
theorem D.RepL.icp (hS : ∀ b, S b → b < w.heap.size → S' b) (hv : ∀ off u, (D.ptr k off).Rep β S w u → (V.ref (vs.drop off)).Rep S' w u) : ∀ {d : List D} {us : List Value}, D.RepL β S w d us → D.RepL β S' w (D.icpL k vs d) us
  | [], _, h => h
  | _ :: _, _, ⟨y, ys, h1, h2, h3⟩ => ⟨y, ys, h1, D.Rep.icp hS hv h2, D.RepL.icp hS hv h3⟩
end
end
section
variable {k : Nat} {vs : List V}
theorem TM.icp_get {t : Nat} {g : Bool} {d : D} : ∀ {l : List (Nat × Bool × D)}, TM.get (TM.icp k vs l) t = some (g, d) → ∃ d', TM.get l t = some (g, d') ∧ d = d'.icp k vs
  | [], h => by cases h
  | (t', g', d') :: l, h => by
    simp only [TM.icp, TM.get_cons] at h ⊢
    split at h
    · rename_i e
      simp only [Option.some.injEq, Prod.mk.injEq] at h
      rw [if_pos e]
      exact ⟨d', by rw [h.1], h.2.symm⟩
    · rename_i e
      rw [if_neg e]
      exact TM.icp_get h
theorem Hp.icp_get : ∀ {l : List (Option Box)} {i : Nat} {x : Box}, (Hp.icp k vs l)[i]? = some (some x) → ∃ y, l[i]? = some (some y) ∧ x = ⟨D.icpL k vs y.cs, y.e, y.sz⟩
  | [], _, _, h => by simp [Hp.icp] at h
  | none :: l, 0, _, h => by simp [Hp.icp] at h
  | some y :: l, 0, x, h => by
    simp only [Hp.icp, List.getElem?_cons_zero, Option.some.injEq] at h
    exact ⟨y, by simp, h.symm⟩
  | none :: l, i + 1, x, h => by simpa using Hp.icp_get (l := l) (i := i) (by simpa [Hp.icp] using h)
  | some _ :: l, i + 1, x, h => by simpa using Hp.icp_get (l := l) (i := i) (by simpa [Hp.icp] using h)
theorem Hp.icp_len : ∀ {l : List (Option Box)}, (Hp.icp k vs l).length = l.length
  | [] => rfl
  | none :: l => by simp [Hp.icp, Hp.icp_len (l := l)]
  | some _ :: l => by simp [Hp.icp, Hp.icp_len (l := l)]
end
section
variable {c : Ctx} {n : Nat} {tm : List (Nat × Bool × D)} {H : List (Option Box)}
theorem SR.icp (vs : List V) {k : Nat} {e : TypeId} {sz : Nat} {a : Act} {w : World} (hb : H[k]? = some (some ⟨vs.map D.p, e, sz⟩)) (hk : c.β0.length ≤ k) (hr : SR c n ⟨tm, H⟩ a w) :
    SR c n ⟨TM.icp k vs tm, (Hp.icp k vs H).set k none⟩ a w := by
  obtain ⟨β, S, hH, hd, hn, he⟩ := hr
  have hkH : k < H.length := (List.getElem?_eq_some_iff.1 hb).1
  have hS : ∀ b, S b → b < w.heap.size → S b ∨ ∃ q, β[k]? = some (some (b, q)) := fun b hb _ => .inl hb
  have hv : ∀ off u, (D.ptr k off).Rep β S w u → (V.ref (vs.drop off)).Rep (fun b => S b ∨ ∃ q, β[k]? = some (some (b, q))) w u := by
    rintro off u ⟨b, q, h1, h3⟩
    rcases hH.box k _ hb with ⟨h4, _⟩ | ⟨b', q', cur, us, h4, h5, h6, h7, h8, h9, h10⟩
    · rw [h1] at h4; cases h4
    · rw [h1] at h4
      simp only [Option.some.injEq, Prod.mk.injEq] at h4
      obtain ⟨rfl, rfl⟩ := h4
      have hv := (D.RepL.ofP h7).mono (S' := fun b => S b ∨ ∃ q, β[k]? = some (some (b, q))) (w' := w) (fun _ _ _ => rfl) hS
      refine ⟨⟨b, off, none⟩, us.drop off, h3, hv.drop off, fun j y hj => ⟨b, off, rfl, ?_, .inr ⟨q, h1⟩⟩⟩
      rw [List.getElem?_drop] at hj
      have h11 := prefix_get h8 hj
      simp [World.cell?, h6]
      simpa using h11
  have hget : ∀ (i : Nat) (y : Box), ((Hp.icp k vs H).set k none)[i]? = some (some y) → i ≠ k ∧ ∃ z, H[i]? = some (some z) ∧ y = ⟨D.icpL k vs z.cs, z.e, z.sz⟩ := by
    intro i y h
    by_cases hi : i = k
    · subst hi
      rw [List.getElem?_set_self (by rw [Hp.icp_len]; exact hkH)] at h
      simp at h
    · rw [List.getElem?_set_ne (Ne.symm hi)] at h
      exact ⟨hi, Hp.icp_get h⟩
  refine ⟨β, fun b => S b ∨ ∃ q, β[k]? = some (some (b, q)), ⟨⟨fun b hb => .inl (hH.up b hb), ?_, by simp [hH.len, Hp.icp_len], ?_⟩, ?_, hH.own, hH.fr, hH.keep, hH.klen, fun b hb hl => ⟨(hH.keepS b hb hl).1, .inl (hH.keepS b hb hl).2⟩, hH.os, hH.tape, hH.output, hH.size⟩, hd, hn, ?_⟩
  · intro i y hy
    obtain ⟨hik, z, hz, rfl⟩ := hget i y hy
    rcases hH.box i z hz with ⟨h1, h2, h3⟩ | ⟨b1, c1, cur, us, h1, h2, h3, h4, h5, h6⟩
    · exact .inl ⟨h1, h2, by rw [h3]; rfl⟩
    · refine .inr ⟨b1, c1, cur, us, h1, ?_, h3, D.RepL.icp hS hv h4, h5, by simpa using h6⟩
      rintro (h | ⟨q, h⟩)
      · exact h2 h
      · exact hik (hH.inj i k z _ b1 c1 q hz hb h1 h)
  · intro i j y z b p q hy hz hi hj
    obtain ⟨_, y', hy', _⟩ := hget i y hy
    obtain ⟨_, z', hz', _⟩ := hget j z hz
    exact hH.inj i j y' z' b p q hy' hz' hi hj
  · rintro b (h | ⟨q, h⟩)
    · exact hH.sub b h
    · rcases hH.own k b q h with h | ⟨q0, h⟩
      · exact .inr h
      · have := (List.getElem?_eq_some_iff.1 h).1
        omega
  · intro t' g' d' hg
    obtain ⟨d0, h1, rfl⟩ := TM.icp_get hg
    obtain ⟨k1, k2, k3⟩ := he t' g' d0 h1
    exact ⟨k1, fun hg => (k2 hg).icp hS hv, k3⟩
section
variable {P : Program} {code : Code} {ops : Array Oper} {l' : List Oper} {Q : Exit → St → Prop}
theorem SymL.icp (k : Nat) (vs : List V) {e : TypeId} {sz : Nat} (hb : H[k]? = some (some ⟨vs.map D.p, e, sz⟩)) (hk : c.β0.length ≤ k) {H' : List (Option Box)} {tm' : List (Nat × Bool × D)} (hH' : (Hp.icp k vs H).set k none = H') (htm : TM.icp k vs tm = tm')
    (kk : SymL P c n ops Q l' ⟨tm', H'⟩) : SymL P c n ops Q l' ⟨tm, H⟩ := fun a w hr => by
  subst hH'; subst htm
  exact kk a w (SR.icp vs hb hk hr)
theorem Sym.icp (k : Nat) (vs : List V) {e : TypeId} {sz : Nat} (hb : H[k]? = some (some ⟨vs.map D.p, e, sz⟩)) (hk : c.β0.length ≤ k) {H' : List (Option Box)} {tm' : List (Nat × Bool × D)} (hH' : (Hp.icp k vs H).set k none = H') (htm : TM.icp k vs tm = tm')
    (kk : Sym P c n code Q ⟨tm', H'⟩) : Sym P c n code Q ⟨tm, H⟩ := fun a w hr => by
  subst hH'; subst htm
  exact kk a w (SR.icp vs hb hk hr)
theorem Le.icp (k : Nat) (vs : List V) {e : TypeId} {sz : Nat} (hb : H[k]? = some (some ⟨vs.map D.p, e, sz⟩)) (hk : c.β0.length ≤ k) : Le c ⟨tm, H⟩ ⟨TM.icp k vs tm, (Hp.icp k vs H).set k none⟩ := fun n a w hr => SR.icp vs hb hk hr
end
end
/-! ### calls that hand back data that point to no box -/
section
variable {P : Program} {s : St} {g : Bool} {dst : Option Tmp} {ty : TypeId} {pos : String} {af : Array Edge} {gd : Option (Nat × Bool)}
theorem MOp.callD {f : Operand} {k : FuncId} {as : Array Operand} {ts : Array TypeId} {ds : List D} {r : D} {H1 : List (Option Box)} (hc : FnB P k ds [] r H1) (hup : D.upTo 0 r = true) (hren : ∀ σ : Nat → Nat, D.ren σ r = r) (hds : D.renL id ds = ds) (hf : EvF s g f as.toList k ds) :
    MOp P s ⟨dst, .call { callee := .value f, args := as, argTypes := ts }, ty, pos, af, gd⟩ g r := by
  refine ⟨fun β S a w ho he hg K Q hK => ?_⟩
  obtain ⟨us, h1, h2⟩ := hf.run (P := P) (dst := dst) (ty := ty) (pos := pos) (af := af) (gd := gd) (ts := ts) he hg hc.enter
  have h3 : HOk [] [] S w := ⟨ho.up, fun i x h => by simp at h, rfl, fun i j x y b p q h => by simp at h⟩
  have h4 : D.RepL [] S w ds us := D.RepL.unren (m := 0) (σ := id) (fun i hi => absurd hi (Nat.not_lt_zero i)) hc.ids (by
    rw [hds]
    exact h1)
  unfold Oper.wp
  rw [h2]
  show Calls P k us.toArray w _
  refine (hc.calls [] S w us h3 h4).mono ?_
  rintro e w' ⟨u, β1, S1, rfl, hx, hr⟩
  have hext : Ext w w' := ⟨hx.os, hx.tape, hx.output, hx.size, fun b hb => hx.fr b hb (.inr fun i q => by simp)⟩
  refine hK u w' hext ?_
  have h5 : r.Rep β S1 w' u := D.Rep.unren (m := 0) (σ := id) (β := β1) (β0 := β) (fun i hi => absurd hi (Nat.not_lt_zero i)) hup (by rw [hren]; exact hr)
  refine D.Rep.mono (fun i e h => h) (fun _ _ _ => rfl) ?_ h5
  intro b hb hl
  rcases hx.sub b hb with h6 | h6
  · exact h6
  · exact ho.up b h6
/-- an element of an array, by value -/
theorem MOp.indexAgg {x y : Operand} {t e : TypeId} {k : IntKind} {q len : Nat} {n : Int} {i j : TypeInfo} {u : TypeDesc} {ds ds' : List D} [h : TyI P t i (.array len e)] [h' : TyI P e j u] (hx : Ev s g x (.agg ds)) (hy : Ev s g y (.p (.x (.int k n)))) (hn : n = (q : Int)) (hq : Nat.blt q len = true) (hu : TypeDesc.isAgg u = true) (hds : (ds.drop (q * j.size)).take j.size = ds') :
    MOp P s ⟨dst, .index t x y, ty, pos, af, gd⟩ g (.agg ds') := by
  subst hds; subst hn
  have hq : q < len := by simpa using hq
  refine MOp.of2 hx hy (by simp [Op.operands]) (by simp [Op.operands]) fun β S w ρ _ h1 h2 => ?_
  obtain ⟨us, h3, h4⟩ := h1
  have h2 : ρ y = .int k q := h2
  refine ⟨.agg ((us.drop (q * j.size)).take j.size).toArray, ?_, ⟨_, rfl, (h4.drop _).take _⟩⟩
  simp [execOp, h3, h2, Instr.index, asIntOf, run_underlying h.ut, hq, run_sizeOf' h'.ti, run_part', hu]
theorem upToL_map (m : Nat) : ∀ vs : List V, D.upToL m (vs.map D.p) = true
  | [] => rfl
  | v :: vs => by simp [D.upToL, D.upTo, upToL_map m vs]
/-- a function of plain data, called through a closure -/
theorem Fn1.toR {f : FuncId} {vs : List V} {r : V} (h : Fn1 P f vs r) {ds : List D} (hd : vs.map D.p = ds) : FnR P f ds [] r := by
  subst hd
  exact ⟨h.enter, upToL_map _ vs, rfl, fun β S w us hH hr => h.calls S w us hH.up (D.RepL.ofP hr)⟩
end
end Go.Sy
set_option linter.unusedSimpArgs false
set_option linter.unusedVariables false
namespace Go.Sy
open Go.RowKit

/-! ### what is done anywhere is done in the wide fence -/
section
variable {P : Program} {c : Ctx} {n k : Nat} {ops : Array Oper} {Q : Exit → St → Prop} {s : St} {o : Oper} {a : Act} {w : World}
theorem rows_wide {row : String} {args : Array Value} {R : Value → World → Prop} (h : Rows P row args w R) : RowsIn Fence.wide k P row args w R := fun c cs _ =>
  let ⟨v, w', r, s⟩ := h c cs; ⟨v, w', r, stepsIn_wide.2 s⟩
theorem oper_wide {next : Act → World → Prop} {Q : Exit → Act → World → Prop} (h : o.wp P a w next Q) : o.wpIn Fence.wide k P a w next Q := by
  refine ⟨fun _ _ => trivial, ?_⟩
  show o.uponIn Fence.wide k P a next Q ((execOp a.eval o).run P w)
  unfold Oper.wp at h
  cases hr : (execOp a.eval o).run P w with
  | ok v w' =>
    rw [hr] at h
    cases v with
    | enter f args => exact ⟨fun h => by simp [Fence.wide] at h, callsIn_wide.2 h⟩
    | row r args => exact ⟨fun h => by simp [Fence.wide] at h, rows_wide h⟩
    | value _ => exact h
    | skip => exact h
    | defer _ => exact h
    | _ => exact h.elim
  | halt e w' =>
    rw [hr] at h
    cases e with
    | panic _ => exact h
    | _ => exact h.elim

/-- Walking a list of operations in which yield is called. -/
def SymY (P : Program) (c : Ctx) (n : Nat) (ops : Array Oper) (T : Exit → Act → World → Prop) (l : List Oper) (s : St) : Prop :=
  ∀ a w, SR c n s a w → wpListIn Fence.wide 0 P ops T l a w
variable {T : Exit → Act → World → Prop} {tm : List (Nat × Bool × D)} {H : List (Option Box)} {rest : List Oper} {g : Bool} {d : D}
theorem SymY.mono {β : List Place} (h : MStep P n ops s o g d) (k : SymY P c n ops T rest (s.put o.dst g d)) : SymY P c n ops T (o :: rest) s := by
  rintro a w ⟨β, S, hH, hd, hn, he⟩
  refine wpListIn_step fun K hK => ?_
  have key := h.run (a := a) (w := w) (K := K) (Q := T) hH.toHOk (fun t _ => he t) fun u w' hx hu => hK _ _ (k _ _ ⟨β, S, by
    have : (s.put o.dst g d).H = s.H := by cases o.dst <;> rfl
    rw [this]
    exact hH.ext hx, by rw [defers_put, hd], by rw [size_put, hn], EntAt.put (fun t => (he t).ext hx) (fun t ht => hn ▸ dstOk.lt h.ds t ht) hu⟩)
  by_cases hw : Region.wanted o (yielded ops a.tmps) = true
  · rw [if_pos hw] at key ⊢
    exact oper_wide key
  · rw [if_neg hw] at key ⊢
    exact ⟨fun _ _ => trivial, key⟩
theorem SymY.opr {op : Op} {ty : TypeId} {pos : String} {af : Array Edge} {gd : Option (Nat × Bool)} {t : Tmp} (hg : GOk ops ⟨tm, H⟩ ⟨some t, op, ty, pos, af, gd⟩ g) (h : MOp P ⟨tm, H⟩ ⟨some t, op, ty, pos, af, gd⟩ g d) (hd : Nat.blt t n = true) (k : SymY P c n ops T rest ⟨(t, g, d) :: tm, H⟩) : SymY P c n ops T (⟨some t, op, ty, pos, af, gd⟩ :: rest) ⟨tm, H⟩ := SymY.mono (β := []) ⟨hg, h, hd⟩ k
theorem SymY.nil (h : ∀ a w, SR c n s a w → T .normal a w) : SymY P c n ops T [] s := fun a w hr => wpListIn_nil (h a w hr)
/-- yield is called -/
theorem SymY.yield {l : Nat} {t y : Tmp} {as : Array Operand} {ts : Array TypeId} {ty : TypeId} {pos : String} {af : Array Edge} {vs : List V} {us : List Value} {A : Prop} {X : World → Prop}
    (hc : c.β0 = []) (hy : Ev ⟨tm, H⟩ true (.tmp y) (.p (.x (.func (.yield l) #[] #[])))) (ha : EvL ⟨tm, H⟩ true as.toList vs) (hus : ∀ S w us', V.RepL S w vs us' → us' = us) (ht : Nat.blt t n = true)
    (hY : ∀ W, Ext c.w0 W → YieldAt Fence.wide 0 P l us.toArray W fun e W' => (e = .returned (.bool true) ∧ Ext W W' ∧ A) ∨ (e = .returned (.bool false) ∧ X W'))
    (hT : A → SymY P c n ops T rest ⟨(t, true, .p (.b true)) :: tm, H⟩)
    (hF : ∀ a w, X w → a.defers = c.dfr → a.tmps.size = n → a.eval (.tmp t) = .bool false → wpListIn Fence.wide 0 P ops T rest a w) :
    SymY P c n ops T (⟨some t, .call { callee := .value (.tmp y), args := as, argTypes := ts }, ty, pos, af, none⟩ :: rest) ⟨tm, H⟩ := by
  rintro a w ⟨β, S, hH, hd, hn, he⟩
  refine wpListIn_plain rfl fun K hK => ?_
  have hm : ∀ x ∈ as.toList, x ∈ (Op.call { callee := .value (.tmp y), args := as, argTypes := ts }).operands := fun x hx => by
    simp only [Op.operands, Call.operands, Array.mem_append]
    exact .inr (by simpa using hx)
  have h1 : a.eval (.tmp y) = .func (.yield l) #[] #[] := hy.rep (l := (Op.call { callee := .value (.tmp y), args := as, argTypes := ts }).operands) (by simp [Op.operands, Call.operands]) (fun t _ => he t) rfl
  have h2 := ha.rep (l := (Op.call { callee := .value (.tmp y), args := as, argTypes := ts }).operands) (fun t _ => he t) rfl hm
  have h3 := hus _ _ _ h2
  have hx : Ext c.w0 w := ⟨hH.os, hH.tape, hH.output, hH.size, fun b hb => hH.fr b hb (.inr fun i q => by simp [hc])⟩
  obtain ⟨fn, tmps, assign, body, e1, e2⟩ := hY w hx
  have hlt : t < n := by simpa using ht
  refine ⟨fun _ _ => trivial, ?_⟩
  have e0 : as.map a.eval = us.toArray := by rw [← h3]; apply Array.ext'; simp
  have hrun : (Oper.semAt Fence.wide.round a.eval ⟨some t, .call { callee := .value (.tmp y), args := as, argTypes := ts }, ty, pos, af, none⟩).run P w = .ok (.round l fn tmps assign body) w := by
    show (execOp a.eval ⟨some t, .call { callee := .value (.tmp y), args := as, argTypes := ts }, ty, pos, af, none⟩).run P w = _
    simp [execOp, resolve, h1, Deferred.ofValue, invoke, e0, e1]
  rw [hrun]
  refine ⟨fun h => by simp [Fence.wide] at h, e2.mono ?_⟩
  rintro e w' (⟨rfl, hx', hA⟩ | ⟨rfl, hX⟩)
  · exact hK _ _ (hT hA _ _ ⟨β, S, hH.ext hx', by rw [defers_put, hd], by rw [size_put, hn], EntAt.put (s := ⟨tm, H⟩) (dst := some t) (fun t => (he t).ext hx') (fun t' h => by injection h with h; rw [hn, ← h]; exact hlt) ⟨fun _ => rfl, fun h => by cases h⟩⟩)
  · refine hK _ _ (hF _ _ hX (by rw [defers_put, hd]) (by rw [size_put, hn]) ?_)
    show (a.put (some t) _).tmps.getD t undef = _
    rw [getD_put' (by rw [hn]; exact hlt), if_pos rfl]
/-- a region in which yield is called; behind it the code that leaves, if the loop is over -/
theorem Sym.yieldIf {id : Nat} {K : Code} {tc : Tmp} {bc : Bool}
    (hL : SymY P c n ops (fun e a' w' => e = .normal ∧ ((∃ s', SR c n s' a' w' ∧ Sym P c n K Q s') ∨ (a'.defers = c.dfr ∧ a'.eval (.tmp tc) = .bool bc ∧ ∃ sX, c.esc sX w' ∧ Q .ret sX))) ops.toList s)
    (hK : ∀ a w, a.eval (.tmp tc) = .bool bc → K.wp P (fun e a' w' => e = .ret ∧ a'.defers = a.defers ∧ w' = w) a w) :
    Sym P c n (.seq (.region id ops false) K) Q s := fun a w hr => by
  refine wp_seq (wp_mono (wpIn_wide.1 (wpIn_region_list (F := Fence.wide) (n := 0) (hL a w hr))) ?_)
  rintro e a' w' ⟨rfl, h⟩
  rcases h with ⟨s', h1, h2⟩ | ⟨hd, he, sX, h1, h2⟩
  · exact h2 a' w' h1
  · show K.wp P _ a' w'
    refine wp_mono (hK a' w' he) ?_
    rintro e a2 w2 ⟨rfl, hd2, rfl⟩
    exact ⟨sX, .inr ⟨hd2.trans hd, h1⟩, h2⟩
theorem Sym.yieldIfL {id : Nat} {K : Code} {l : List Oper} {tc : Tmp} {bc : Bool}
    (hK : ∀ a w, a.eval (.tmp tc) = .bool bc → K.wp P (fun e a' w' => e = .ret ∧ a'.defers = a.defers ∧ w' = w) a w)
    (hL : SymY P c n l.toArray (fun e a' w' => e = .normal ∧ ((∃ s', SR c n s' a' w' ∧ Sym P c n K Q s') ∨ (a'.defers = c.dfr ∧ a'.eval (.tmp tc) = .bool bc ∧ ∃ sX, c.esc sX w' ∧ Q .ret sX))) l s) :
    Sym P c n (.seq (.region id l.toArray false) K) Q s := Sym.yieldIf (by simpa using hL) hK
theorem yieldK {t : Tmp} {y : Code} {a : Act} {w : World} (h : a.eval (.tmp t) = .bool true) : (Code.cond (.tmp t) .ret y).wp P (fun e a' w' => e = .ret ∧ a'.defers = a.defers ∧ w' = w) a w := wp_cond_true h (wp_ret ⟨rfl, rfl, rfl⟩)
/-- behind yield's no: 'not' of it -/
theorem SymY.notF {t y : Tmp} {ty tb : TypeId} {pos : String} {af : Array Edge} {a : Act} {w : World} (ht : Nat.blt t n = true) (hn : a.tmps.size = n) (hy : a.eval (.tmp y) = .bool false)
    (k : ∀ a', a'.defers = a.defers → a'.eval (.tmp t) = .bool true → T .normal a' w) : wpListIn Fence.wide 0 P ops T [⟨some t, .unOp .not tb (.tmp y), ty, pos, af, none⟩] a w := by
  refine wpListIn_plain rfl fun K hK => ?_
  refine ⟨fun _ _ => trivial, ?_⟩
  have hlt : t < n := by simpa using ht
  have hrun : (Oper.semAt Fence.wide.round a.eval ⟨some t, .unOp .not tb (.tmp y), ty, pos, af, none⟩).run P w = .ok (.value (.bool true)) w := by
    show (execOp a.eval ⟨some t, .unOp .not tb (.tmp y), ty, pos, af, none⟩).run P w = _
    simp [execOp, hy, Op.unary]
  rw [hrun]
  refine hK _ _ (wpListIn_nil (k _ (by rw [defers_put]) ?_))
  show (a.put (some t) _).tmps.getD t undef = _
  rw [getD_put' (by rw [hn]; exact hlt), if_pos rfl]
/-- a state in which no call is: it stands for the other ways out -/
def stX (n : Nat) : St := ⟨[(n, true, .p (.x undef))], []⟩
theorem stX_no (h : SR c n (stX n) a w) : False := by
  obtain ⟨β, S, _, _, h3, h4⟩ := h
  have h5 : n < a.tmps.size := (h4 n true (.p (.x undef)) (by simp [stX, TM.get])).1
  rw [h3] at h5
  exact Nat.lt_irrefl _ h5
end
/-- f, an iterator, called with what it has captured, hands these to yield, one by one, until yield says no. -/
structure FnY {α : Type} (P : Program) (f : FuncId) (vs : List V) (val : Nat → α → List Value) (xs : List α) : Prop where
  enter : ∀ args w, (callFunc f args).run P w = .ok (.enter f args) w
  calls : ∀ S w us l (no : Nat → Prop) (X : Nat → World → Prop), (∀ b, w.heap.size ≤ b → S b) → V.RepL S w vs us →
    (∀ i x W, xs[i]? = some x → Ext w W → (∀ j, j < i → no j) → YieldAt Fence.wide 0 P l (val i x).toArray W fun e W' => (e = .returned (.bool true) ∧ Ext W W' ∧ no i) ∨ (e = .returned (.bool false) ∧ X i W')) →
    Calls P f ((.func (.yield l) #[] #[] :: us).toArray) w fun e w' => (∃ v, e = .returned v) ∧ ((Ext w w' ∧ ∀ j, j < xs.length → no j) ∨ ∃ i, i < xs.length ∧ (∀ j, j < i → no j) ∧ X i w')
def FinY (n : Nat) (A : Prop) : Exit → St → Prop
  | .normal, s => A ∨ s = stX n
  | .ret, s => A ∨ s = stX n
  | _, _ => False
theorem FinY.nx {n : Nat} {A : Prop} {s : St} (h : A) : FinY n A .normal s := .inl h
theorem FnY.of {α : Type} {P : Program} {n : Nat} {val : Nat → α → List Value} {xs : List α} {f : FuncId} {fn : Func} {code : Code} {vs : List V} (henter : ∀ args w, (callFunc f args).run P w = .ok (.enter f args) w) (hf : P.funcs[f]? = some fn) (hb : fn.body = some code) (hnt : fn.ntmps = n) (hrs : fn.results = #[]) (hn : vs.length + 1 ≤ n)
    (h : ∀ (c : Ctx) (l : Nat) (no : Nat → Prop) (X : Nat → World → Prop), c.β0 = [] →
      (∀ i w, i < xs.length → (∀ j, j < i → no j) → X i w → c.esc (stX n) w) →
      (∀ i x W, xs[i]? = some x → Ext c.w0 W → (∀ j, j < i → no j) → YieldAt Fence.wide 0 P l (val i x).toArray W fun e W' => (e = .returned (.bool true) ∧ Ext W W' ∧ no i) ∨ (e = .returned (.bool false) ∧ X i W')) →
      Sym P c n code (FinY n (∀ j, j < xs.length → no j)) ⟨TM.args 0 (.x (.func (.yield l) #[] #[]) :: vs), []⟩) : FnY P f vs val xs := by
  refine ⟨henter, fun S w us l no X hup hr hY => ?_⟩
  refine calls_of_wp hf hb ?_
  rw [hnt, List.size_toArray]
  have hr' : V.RepL S w (.x (.func (.yield l) #[] #[]) :: vs) (.func (.yield l) #[] #[] :: us) := ⟨_, _, rfl, rfl, hr⟩
  have h0 := h ⟨w, S, [], false, [], [], fun s w' => s = stX n ∧ ∃ i, i < xs.length ∧ (∀ j, j < i → no j) ∧ X i w'⟩ l no X rfl (fun i w' h1 h2 h3 => ⟨rfl, i, h1, h2, h3⟩) hY
    _ w (SR.begin (HOk.nil hup) (D.RepL.p hr') (by simpa using hn))
  refine wp_mono h0 ?_
  have hres : ∀ (a : Act) (w : World), (results fn a.tmps).run P w = .ok (.tuple #[]) w := fun a w => by rw [results_eq, hrs]; simp
  have key : ∀ (s' : St) (a' : Act) (w' : World), SR ⟨w, S, [], false, [], [], fun s w' => s = stX n ∧ ∃ i, i < xs.length ∧ (∀ j, j < i → no j) ∧ X i w'⟩ n s' a' w' → ((∀ j, j < xs.length → no j) ∨ s' = stX n) → a'.defers = [] ∧ (Ext w w' ∧ ∀ j, j < xs.length → no j) := by
    rintro s' a' w' h1 (h2 | rfl)
    · obtain ⟨β, S', hH, hd, _, _⟩ := h1
      exact ⟨hd, ⟨hH.os, hH.tape, hH.output, hH.size, fun b hb => hH.fr b hb (.inr fun i q => by simp)⟩, h2⟩
    · exact (stX_no h1).elim
  rintro e a' w' ⟨s', h1, h2⟩
  cases e with
  | ret =>
    rcases h1 with h1 | ⟨hd, _, i, h3, h4, h5⟩
    · obtain ⟨k1, k2⟩ := key s' a' w' h1 h2
      exact bodyPost_ret (hres _ _) k1 ⟨⟨_, rfl⟩, .inl k2⟩
    · exact bodyPost_ret (hres _ _) hd ⟨⟨_, rfl⟩, .inr ⟨i, h3, h4, h5⟩⟩
  | normal =>
    obtain ⟨k1, k2⟩ := key s' a' w' h1 h2
    exact bodyPost_end (hres _ _) k1 ⟨⟨_, rfl⟩, .inl k2⟩
  | exit _ => exact h2.elim
  | goto _ => exact h2.elim
  | panic _ => exact h2.elim
  | outgrown => exact h2.elim
/-- how a round may be left: it goes on, and nothing that lay has turned; or by a return, and no block turned that was laid since the loop began -/
def rndY (B : Nat) (W : World) (N : Prop) (X : World → Prop) : Exit → Act → World → Prop
  | .normal, _, W' => Ext W W' ∧ N
  | .ret, _, W' => X W' ∧ ∀ b o, B ≤ b → W.heap[b]? = some o → o.isCells = false → W'.heap[b]? = some o
  | _, _, _ => False
theorem wp_rangeFuncY {α : Type} {P : Program} {val : Nat → α → List Value} {xs : List α} {gf : FuncId} {vs : List V} (hg : FnY P gf vs val xs) {g : Operand} {ps : Array Tmp} {assign body : Code} {Q : Exit → Act → World → Prop} {a : Act} {w : World} {S : Nat → Prop} {us : List Value}
    (hev : a.eval g = .func (.func gf) #[] us.toArray) (hup : ∀ b, w.heap.size ≤ b → S b) (hrep : V.RepL S w vs us) (hps : ∀ i x, (val i x).length = ps.size)
    (no : Nat → Prop) (X : Nat → World → Prop) (hX : ∀ i W W', X i W → Below w.heap.size W W' → X i W') (Ax : Nat → Nat → α → Act → World → Prop) (hAx : ∀ l i x a' W W', Ax l i x a' W → (∀ b, b ≠ l → W'.heap[b]? = W.heap[b]?) → Ax l i x a' W')
    (hassign : ∀ (l i : Nat) (x : α) (W : World) (K : Act → World → Prop), l < W.heap.size → Below w.heap.size w W → (∀ a' W', Ext W W' → Ax l i x a' W' → K a' W') →
      assign.wpIn (Fence.wide.inRound l) 0 P (Exit.then K (fun _ _ _ => False)) { tmps := (ps.zip (val i x).toArray).foldl (fun t (p, v) => t.setIfInBounds p v) a.tmps, defers := [] } W)
    (hbody : ∀ (l i : Nat) (x : α) (a' : Act) (W : World), xs[i]? = some x → Ax l i x a' W → Below w.heap.size w W → w.heap.size < W.heap.size → (∀ j, j < i → no j) → body.wpIn (Fence.wide.inRound l) 0 P (rndY w.heap.size W (no i) (X i)) a' W)
    (hdone : ∀ (D : Nat) (W : World), Below w.heap.size w W → (∀ j, j < xs.length → no j) → w.heap.size ≤ D → W.heap[D]? = some (.deferred (some [])) → Q .normal { a with defers := { target := .collected D, args := #[] } :: a.defers } W)
    (hstop : ∀ (D i : Nat) (W : World), i < xs.length → (∀ j, j < i → no j) → X i W → w.heap.size ≤ D → W.heap[D]? = some (.deferred (some [])) → Q .ret { a with defers := { target := .collected D, args := #[] } :: a.defers } W) :
    (Code.rangeFunc g ps assign body).wp P Q a w := by
  refine wpIn_wide.1 (wpIn_rangeFunc (F := Fence.wide) (n := 0) ?_)
  intro fn hfn
  obtain ⟨rec, hrec⟩ : ∃ rec : LoopState → Option Code → Loop, rec = fun st pe => { state := st, pending := pe, fn, tmps := a.tmps, params := ps, assign, body, defers := w.heap.size } := ⟨_, rfl⟩
  obtain ⟨W1, hW1⟩ : ∃ W1, (w.alloc (.deferred (some []))).alloc (.loop (rec .ready none)) = W1 := ⟨_, rfl⟩
  have hs1 : W1.heap.size = w.heap.size + 2 := by rw [← hW1]; simp
  have hL1 : W1.heap[w.heap.size + 1]? = some (.loop (rec .ready none)) := by
    rw [← hW1]; have := World.alloc_heap_new (w.alloc (.deferred (some []))) (.loop (rec .ready none)); rwa [World.size_alloc] at this
  have hK1 : W1.heap[w.heap.size]? = some (.deferred (some [])) := by
    rw [← hW1]; exact (Below.heap_alloc _ _ _ (by simp)).trans (World.alloc_heap_new w _)
  have hb1 : Ext w W1 := by rw [← hW1]; exact ((Ext.refl w).alloc _).alloc _
  refine ⟨w.heap.size + 1, [{ target := .collected w.heap.size, args := #[] }], W1, { target := .fn (.func gf) us.toArray, args := #[.func (.yield (w.heap.size + 1)) #[] #[]] }, W1, gf,
    (.func (.yield (w.heap.size + 1)) #[] #[] :: us).toArray, W1, ?_, ?_, fun _ _ => trivial, ?_, fun h => by simp [Fence.wide] at h, ?_⟩
  · rw [← hW1, hrec]; exact run_enterLoop_outer _ _ _ _ _
  · simp only [resolve, hev]
    simp [go_sem, Deferred.ofValue]
  · simp [invoke, go_sem, hg.enter]
  · refine callsIn_wide.2 ((hg.calls (fun b => S b) W1 us (w.heap.size + 1) no
      (fun i W => X i W ∧ W.heap[w.heap.size + 1]? = some (.loop (rec .done (some .ret))) ∧ W.heap[w.heap.size]? = some (.deferred (some [])))
      (fun b hb => hup b (by omega)) (V.RepL.mono (fun b _ hb => hb1.block b hb) (fun b hb _ => hb) hrep) ?_).mono ?_)
    · -- one round
      intro i x W hx hW hno
      have hl : W.heap[w.heap.size + 1]? = some (.loop (rec .ready none)) := hW.heap hL1
      have hk : W.heap[w.heap.size]? = some (.deferred (some [])) := hW.heap hK1
      have hlt : w.heap.size + 1 < W.heap.size := (Array.getElem?_eq_some_iff.1 hl).1
      have hy := run_yield (P := P) (args := (val i x).toArray) hl (by rw [hrec]; simpa using hps i x)
      rw [hrec] at hy
      refine ⟨fn, _, assign, body, hy, roundIn_of_wpIn hfn (hassign _ i x W _ hlt (hb1.trans hW) ?_)⟩
      intro aa Wa hWa hAa
      have hla : Wa.heap[w.heap.size + 1]? = some (.loop (rec .ready none)) := hWa.heap hl
      have hka : Wa.heap[w.heap.size]? = some (.deferred (some [])) := hWa.heap hk
      have hlta : w.heap.size + 1 < Wa.heap.size := Nat.lt_of_lt_of_le hlt hWa.size
      refine ⟨_, run_beginRound hla (by rw [hrec]), ?_⟩
      obtain ⟨W2, hW2⟩ : ∃ W2, Wa.putObj (w.heap.size + 1) (.loop { rec .ready none with state := .busy }) = W2 := ⟨_, rfl⟩
      rw [hW2]
      have hl2 : W2.heap[w.heap.size + 1]? = some (.loop { rec .ready none with state := .busy }) := by rw [← hW2]; exact World.putObj_heap_same hlta
      have ho2 : ∀ b, b ≠ w.heap.size + 1 → W2.heap[b]? = Wa.heap[b]? := fun b hb => by rw [← hW2]; exact World.putObj_heap_other hb
      have hs2 : W2.heap.size = Wa.heap.size := by rw [← hW2]; simp
      have hp2 : W2.os = Wa.os ∧ W2.tape = Wa.tape ∧ W2.output = Wa.output := by rw [← hW2]; exact ⟨rfl, rfl, rfl⟩
      have hb2 : Below w.heap.size w W2 := by
        have h0 := (hb1.trans hW).trans hWa
        exact ⟨hp2.1.trans h0.os, hp2.2.1.trans h0.tape, hp2.2.2.trans h0.output, by rw [hs2]; exact h0.size, fun b hb => (ho2 b (by omega)).trans (h0.block b hb)⟩
      refine wpIn_mono (hbody _ i x aa W2 hx (hAx _ _ _ _ _ _ hAa ho2) hb2 (by omega) hno) ?_
      rintro e a3 W3 hp
      have fin : ∀ (jump : Option Code), W3.heap[w.heap.size + 1]? = some (.loop { rec .ready none with state := .busy }) →
          (Instr.endRound (w.heap.size + 1) jump).run P W3 = .ok (.bool jump.isNone) (W3.putObj (w.heap.size + 1) (.loop (rec (if jump.isNone then .ready else .done) jump))) := fun jump hl3 => by
        have := run_endRound (P := P) jump hl3
        rw [hrec] at this ⊢
        exact this
      cases e with
      | normal =>
        obtain ⟨hx3, hn3⟩ := hp
        have hl3 := hx3.heap hl2
        have hlt3 := (Array.getElem?_eq_some_iff.1 hl3).1
        refine ⟨_, _, fin none hl3, .inl ⟨rfl, ?_, hn3⟩⟩
        refine ⟨?_, ?_, ?_, ?_, fun b hb => ?_⟩
        · exact (hx3.os.trans hp2.1).trans hWa.os
        · exact (hx3.tape.trans hp2.2.1).trans hWa.tape
        · exact (hx3.output.trans hp2.2.2).trans hWa.output
        · rw [World.putObj_size]; exact Nat.le_trans hWa.size (by rw [← hs2]; exact hx3.size)
        · by_cases e : b = w.heap.size + 1
          · subst e
            rw [World.putObj_heap_same hlt3, hl]
            rfl
          · rw [World.putObj_heap_other e, hx3.block b (by rw [hs2]; exact Nat.lt_of_lt_of_le hb hWa.size), ho2 b e, hWa.block b hb]
      | ret =>
        obtain ⟨hx3, p5⟩ := hp
        have hl3 : W3.heap[w.heap.size + 1]? = some (.loop { rec .ready none with state := .busy }) := p5 _ _ (by omega) hl2 rfl
        have hk3 : W3.heap[w.heap.size]? = some (.deferred (some [])) := p5 _ _ (Nat.le_refl _) ((ho2 _ (by omega)).trans hka) rfl
        have hlt3 := (Array.getElem?_eq_some_iff.1 hl3).1
        refine ⟨_, _, fin (some .ret) hl3, .inr ⟨rfl, hX _ _ _ hx3 ⟨rfl, rfl, rfl, by simp, fun b hb => World.putObj_heap_other (by omega)⟩, ?_, ?_⟩⟩
        · rw [World.putObj_heap_same hlt3]; rfl
        · rw [World.putObj_heap_other (by omega)]; exact hk3
      | exit _ => exact hp.elim
      | goto _ => exact hp.elim
      | panic _ => exact hp.elim
      | outgrown => exact hp.elim
    · -- behind the iterator
      rintro e W2 ⟨⟨v, rfl⟩, (⟨hx2, hno⟩ | ⟨i, hi, hno, hX2, hl2, hk2⟩)⟩
      · have hl2 := hx2.heap hL1
        have hk2 := hx2.heap hK1
        refine ⟨none, W2.putObj (w.heap.size + 1) (.loop { rec .ready none with state := .exhausted }), ?_, ?_⟩
        · have := run_endLoop (P := P) hl2 (by rw [hrec]; simp)
          rw [hrec] at this ⊢
          exact this
        · refine hdone _ _ ?_ hno (Nat.le_refl _) ((World.putObj_heap_other (by omega)).trans hk2)
          have h0 := hb1.trans hx2
          exact ⟨h0.os, h0.tape, h0.output, by rw [World.putObj_size]; exact h0.size, fun b hb => (World.putObj_heap_other (by omega)).trans (h0.block b hb)⟩
      · refine ⟨some .ret, W2.putObj (w.heap.size + 1) (.loop { rec .done (some .ret) with state := .exhausted }), ?_, ?_⟩
        · have := run_endLoop (P := P) hl2 (by rw [hrec]; simp)
          rw [hrec] at this ⊢
          exact this
        · exact wpIn_ret (hstop _ i _ hi hno (hX _ _ _ hX2 ⟨rfl, rfl, rfl, by simp, fun b hb => World.putObj_heap_other (by omega)⟩) (Nat.le_refl _) ((World.putObj_heap_other (by omega)).trans hk2))
/-! ### what is done in a round -/
section
variable {P : Program} {c : Ctx} {n : Nat} {ops : Array Oper} {Q : Exit → St → Prop} {s : St} {x y : Code}
def Oper.noDefer (o : Oper) : Bool := match o.op with | .defer _ => false | _ => true
theorem oper_round {l k : Nat} {o : Oper} {a : Act} {w : World} {K K' : Act → World → Prop} {Q : Exit → Act → World → Prop} (hd : Oper.noDefer o = true) (hK : ∀ a w, K a w → K' a w) (h : o.wp P a w K Q) : o.wpIn (Fence.wide.inRound l) k P a w K' Q := by
  have h1 := oper_wide (k := k) (Go.Oper.wp_mono hK h)
  refine ⟨fun _ _ => trivial, ?_⟩
  rw [Oper.semAt_eq _ _ _ (fun c hc => by simp [Oper.noDefer, hc] at hd)]
  exact h1.2
theorem list_round {l0 k : Nat} {Q : Exit → Act → World → Prop} (hQ : ∀ a w, ¬ Q .outgrown a w) : ∀ {l : List Oper}, l.all Oper.noDefer = true → ∀ {a : Act} {w : World}, wpList P ops Q l a w → wpListIn (Fence.wide.inRound l0) k P ops Q l a w
  | [], _, _, _, h => h
  | o :: l, hd, a, w, h => by
    simp only [List.all_cons, Bool.and_eq_true] at hd
    unfold wpList at h
    unfold wpListIn
    split at h
    · rename_i hw
      rw [if_pos hw]
      rcases h with h | ⟨_, a', w', h⟩
      · exact oper_round hd.1 (fun a w => list_round hQ hd.2) h
      · exact (hQ _ _ h).elim
    · rename_i hw
      rw [if_neg hw]
      exact ⟨fun _ _ => trivial, list_round hQ hd.2 h⟩
theorem any_round {l0 k : Nat} {md : Region.Mode} {Q : Exit → Act → World → Prop} (hQ : ∀ a w, ¬ Q .outgrown a w) (hd : ∀ (i : Nat) o, ops[i]? = some o → Oper.noDefer o = true) : ∀ (fuel : Nat) (listed : Array Bool) (a : Act) (w : World), wpAny P md ops Q fuel listed a w → wpAnyIn (Fence.wide.inRound l0) k P md ops Q fuel listed a w
  | 0, _, _, _, h => h
  | fuel + 1, listed, a, w, ⟨h1, h2⟩ => ⟨h1, fun i hi => by
    have h3 := h2 i hi
    unfold wpOp at h3
    unfold wpOpIn
    cases ho : ops[i]? with
    | none => simp only [ho] at h3; exact any_round hQ hd fuel _ _ _ h3
    | some o =>
      simp only [ho] at h3 ⊢
      split at h3
      · rename_i hw
        rw [if_pos hw]
        rcases h3 with h | ⟨_, a', w', h⟩
        · exact oper_round (hd i o ho) (fun a w => any_round hQ hd fuel _ a w) h
        · exact (hQ _ _ h).elim
      · rename_i hw
        rw [if_neg hw]
        exact ⟨fun _ _ => trivial, any_round hQ hd fuel _ _ _ h3⟩⟩
/-- Walking code in a round. -/
def SymR (P : Program) (c : Ctx) (n : Nat) (code : Code) (Q : Exit → St → Prop) (s : St) : Prop :=
  ∀ l a w, SR c n s a w → code.wpIn (Fence.wide.inRound l) 0 P (fun e a' w' => ∃ s', SRx c n e s' a' w' ∧ Q e s') a w
theorem SymR.seq (h : SymR P c n x (thenS (SymR P c n y Q) Q) s) : SymR P c n (.seq x y) Q s := fun l a w hr =>
  wpIn_seq (Go.wpIn_mono (h l a w hr) fun e a' w' ⟨s', h1, h2⟩ => by
    cases e with
    | normal => exact h2 l a' w' h1
    | exit _ => exact ⟨s', h1, h2⟩
    | goto _ => exact ⟨s', h1, h2⟩
    | ret => exact ⟨s', h1, h2⟩
    | panic _ => exact ⟨s', h1, h2⟩
    | outgrown => exact ⟨s', h1, h2⟩)
theorem SymR.block {id : Nat} (h : SymR P c n x (blockS id Q) s) : SymR P c n (.block id x) Q s := fun l a w hr =>
  wpIn_block (Go.wpIn_mono (h l a w hr) fun e a' w' ⟨s', h1, h2⟩ => by
    cases e with
    | exit id' =>
      simp only [blockS, Exit.inBlock] at h2 ⊢
      split
      · rename_i e; rw [if_pos e] at h2; exact ⟨s', h1, h2⟩
      · rename_i e; rw [if_neg e] at h2; exact ⟨s', h1, h2⟩
    | normal => exact ⟨s', h1, h2⟩
    | goto _ => exact ⟨s', h1, h2⟩
    | ret => exact ⟨s', h1, h2⟩
    | panic _ => exact ⟨s', h1, h2⟩
    | outgrown => exact ⟨s', h1, h2⟩)
theorem SymR.skip (h : Q .normal s) : SymR P c n .skip Q s := fun _ _ _ hr => wpIn_skip ⟨s, hr, h⟩
theorem SymR.ret (h : Q .ret s) : SymR P c n .ret Q s := fun _ _ _ hr => wpIn_ret ⟨s, .inl hr, h⟩
theorem SymR.cond {t : Tmp} {b : Bool} (hc : TM.get s.tm t = some (true, .p (.x (.bool b)))) (hx : b = true → SymR P c n x Q s) (hy : b = false → SymR P c n y Q s) : SymR P c n (.cond (.tmp t) x y) Q s := by
  rintro l a w ⟨β, S, h1, h2, h3, h4⟩
  have hb := ((h4 t _ _ hc).2.1 rfl)
  exact wpIn_cond_split (t := b) hb (fun e => hx e l a w ⟨β, S, h1, h2, h3, h4⟩) fun e => hy e l a w ⟨β, S, h1, h2, h3, h4⟩
theorem SymR.region {id : Nat} (hQ : ∀ s, ¬ Q .outgrown s) (hd : ops.toList.all Oper.noDefer = true) (h : SymL P c n ops Q ops.toList s) : SymR P c n (.region id ops false) Q s := fun _ a w hr =>
  wpIn_region_list (list_round (fun _ _ ⟨s', _, h⟩ => hQ s' h) hd (h a w hr))
theorem SymR.regionL {id : Nat} {l : List Oper} (hQ : ∀ s, ¬ Q .outgrown s) (hd : l.all Oper.noDefer = true) (h : SymL P c n l.toArray Q l s) : SymR P c n (.region id l.toArray false) Q s := SymR.region hQ (by simpa using hd) (by simpa using h)
theorem SymR.drawX {id : Nat} (ws : List Nat) (hQ : ∀ s, ¬ Q .outgrown s) (hdf : ops.toList.all Oper.noDefer = true) (hm : P.follows .mixedOrders = true) (hsyn : drawOk ops ops.size = true) (hst : storesOk ops ws = true) (h : XTo P c n ops ws (fun s => Q .normal s) 0 ops.toList s []) : SymR P c n (.region id ops true) Q s := fun _ a w hr =>
  wpIn_region_any hm (any_round (fun _ _ ⟨s', _, h⟩ => hQ s' h) (fun i o ho => by
    have := List.all_eq_true.1 hdf o (by
      rw [← Array.getElem?_toList] at ho
      exact List.mem_of_getElem? ho)
    exact this) _ _ _ _ (Sym.drawX_any ws hsyn hst h a w hr))
theorem SymR.drawXL {id : Nat} {l : List Oper} (ws : List Nat) (hQ : ∀ s, ¬ Q .outgrown s) (hdf : l.all Oper.noDefer = true) (hm : P.follows .mixedOrders = true) (hsyn : drawOk l.toArray l.length = true) (hst : storesOk l.toArray ws = true) (h : XTo P c n l.toArray ws (fun s => Q .normal s) 0 l s []) : SymR P c n (.region id l.toArray true) Q s := SymR.drawX ws hQ (by simpa using hdf) hm hsyn hst (by simpa using h)
theorem Sym.thenW {s1 : St} {T : Exit → Act → World → Prop} {a : Act} {w : World} (h : Sym P c n x (fun e s => e = .normal ∧ Le c s s1) s) (hr : SR c n s a w) (k : ∀ a' w', SR c n s1 a' w' → T .normal a' w') : x.wp P T a w := wp_mono (h a w hr) fun e a' w' ⟨s', h1, h2, h3⟩ => by
  subst h2
  exact k a' w' (h3 _ _ _ h1)
end
/-! ### a state, told anew from a later world -/
def rbS (S : Nat → Prop) (w W : World) : Nat → Prop := fun b => (S b ∧ b < w.heap.size) ∨ W.heap.size ≤ b
section
variable {c : Ctx} {n : Nat} {s : St} {a : Act} {w W : World} {β : List Place} {S : Nat → Prop} {H : List (Option Box)}
theorem HSt.rebase (h : HOk H β S w) (hB : Ext w W) (ro : Bool) (dfr : List Deferred) : HSt ⟨W, rbS S w W, β, ro, [], dfr, noEsc⟩ H β (rbS S w W) W := by
  have hm : ∀ b, S b → b < w.heap.size → W.heap[b]? = w.heap[b]? := fun b _ hb => hB.block b hb
  refine ⟨⟨fun b hb => .inr hb, fun i x hx => ?_, h.len, h.inj⟩, fun b hb => .inl hb, fun i b q h => .inr ⟨q, h⟩, fun _ _ _ => rfl, fun _ _ _ h => h, Nat.le_refl _, fun b hb _ => ⟨rfl, hb⟩, rfl, rfl, rfl, Nat.le_refl _⟩
  rcases h.box i x hx with h1 | ⟨b, q, cur, us, h1, h2, h3, h4, h5⟩
  · exact .inl h1
  · have hlt := (Array.getElem?_eq_some_iff.1 h3).1
    refine .inr ⟨b, q, cur, us, h1, ?_, hB.heap h3, D.RepL.mono (fun _ _ h => h) hm (fun b hb hl => .inl ⟨hb, hl⟩) h4, h5⟩
    rintro (h6 | h6)
    · exact h2 h6.1
    · have := hB.size
      omega
theorem EntAt.rebase {a' : Act} {t : Tmp} (h : EntAt s β S w a t) (hB : Ext w W) (ha : a'.tmps.size = a.tmps.size ∧ a'.tmps.getD t undef = a.tmps.getD t undef) : EntAt s β (rbS S w W) W a' t := fun g d hg => by
  obtain ⟨h1, h2, h3⟩ := h g d hg
  rw [ha.1, ha.2]
  exact ⟨h1, fun hg => D.Rep.mono (fun _ _ h => h) (fun b _ hb => hB.block b hb) (fun b hb hl => .inl ⟨hb, hl⟩) (h2 hg), h3⟩
theorem SR.rebase {a' : Act} (hr : HSt c s.H β S w) (he : ∀ t, EntAt s β S w a t) (hn : a.tmps.size = n) (hB : Ext w W) (ha : a'.tmps = a.tmps) (ro : Bool) : SR ⟨W, rbS S w W, β, ro, [], a'.defers, noEsc⟩ n s a' W :=
  ⟨β, rbS S w W, HSt.rebase hr.toHOk hB ro _, rfl, by rw [ha, hn], fun t => (he t).rebase hB ⟨by rw [ha], by rw [ha]⟩⟩
/-- a block of cells that lay there, as a box of the call's -/
theorem HSt.giveBox {ro : Bool} {dfr : List Deferred} {b q : Nat} {ds : List D} {us : List Value} {e : TypeId} (h : HSt ⟨W, S, β, ro, [], dfr, noEsc⟩ H β S W) (hb : W.heap[b]? = some (.cells us.toArray e (0, 0))) (hS : ¬ S b) (hβ : ∀ (i r : Nat), β[i]? ≠ some (some (b, r))) (hu : D.RepL β S W ds us) :
    HSt ⟨W, S, β ++ [some (b, q)], ro, [], dfr, noEsc⟩ (H ++ [some ⟨ds, e, 0⟩]) (β ++ [some (b, q)]) S W := by
  have hk : ∀ (i : Nat) (p : Place), β[i]? = some p → (β ++ [some (b, q)])[i]? = some p := fun i p hp => by
    rw [List.getElem?_append_left (List.getElem?_eq_some_iff.1 hp).1]; exact hp
  have hg : ∀ (i : Nat) (p : Place), (β ++ [some (b, q)])[i]? = some p → β[i]? = some p ∨ i = β.length ∧ p = some (b, q) := by
    intro i p hp
    rw [List.getElem?_append] at hp
    split at hp
    · exact .inl hp
    · rename_i hi
      have h0 : i - β.length < 1 := (List.getElem?_eq_some_iff.1 hp).1
      have h1 : i = β.length := by omega
      subst h1
      simp at hp
      exact .inr ⟨rfl, hp.symm⟩
  have hgH : ∀ (i : Nat) (x : Box), (H ++ [some ⟨ds, e, 0⟩])[i]? = some (some x) → H[i]? = some (some x) ∨ i = β.length ∧ x = ⟨ds, e, 0⟩ := by
    intro i x hx
    rw [List.getElem?_append] at hx
    split at hx
    · exact .inl hx
    · rename_i hi
      have h0 : i - H.length < 1 := (List.getElem?_eq_some_iff.1 hx).1
      have h1 : i = H.length := by omega
      subst h1
      simp at hx
      exact .inr ⟨h.len.symm, hx.symm⟩
  refine ⟨⟨h.up, fun i x hx => ?_, by simp [h.len], ?_⟩, fun b hb => .inl hb, fun i b q h => .inr ⟨q, h⟩, fun _ _ _ => rfl, fun _ _ _ h => h, Nat.le_refl _, fun b hb _ => ⟨rfl, hb⟩, rfl, rfl, rfl, Nat.le_refl _⟩
  · rcases hgH i x hx with hx | ⟨rfl, rfl⟩
    · rcases h.box i x hx with h1 | ⟨b', q', cur, us', h1, h2, h3, h4, h5⟩
      · exact .inl ⟨hk _ _ h1.1, h1.2⟩
      · exact .inr ⟨b', q', cur, us', hk _ _ h1, h2, h3, D.RepL.mono hk (fun _ _ _ => rfl) (fun _ hb _ => hb) h4, h5⟩
    · refine .inr ⟨b, q, us.toArray, us, by simp, hS, hb, D.RepL.mono hk (fun _ _ _ => rfl) (fun _ hb _ => hb) hu, by simp, fun _ => by simp, fun h => absurd rfl h⟩
  · intro i j x y b' p' q' hi hj hbi hbj
    rcases hgH i x hi with hi' | ⟨rfl, rfl⟩ <;> rcases hgH j y hj with hj' | ⟨rfl, rfl⟩
    · rcases hg _ _ hbi with hbi | ⟨e1, _⟩
      · rcases hg _ _ hbj with hbj | ⟨e2, _⟩
        · exact h.inj i j x y b' p' q' hi' hj' hbi hbj
        · have := (List.getElem?_eq_some_iff.1 hj').1
          have := h.len
          omega
      · have := (List.getElem?_eq_some_iff.1 hi').1
        have := h.len
        omega
    · rcases hg _ _ hbi with hbi | ⟨e1, _⟩
      · simp at hbj
        obtain ⟨rfl, rfl⟩ := hbj
        exact absurd hbi (hβ _ _)
      · exact e1
    · rcases hg _ _ hbj with hbj | ⟨e1, _⟩
      · simp at hbi
        obtain ⟨rfl, rfl⟩ := hbi
        exact absurd hbj (hβ _ _)
      · exact e1.symm
    · rfl
theorem HSt.start (hup : ∀ b, W.heap.size ≤ b → S b) (ro : Bool) (dfr : List Deferred) : HSt ⟨W, S, [], ro, [], dfr, noEsc⟩ [] [] S W :=
  ⟨⟨hup, fun i x h => by simp at h, rfl, fun i j x y b p q h => by simp at h⟩, fun b hb => .inl hb, fun i b q h => .inr ⟨q, h⟩, fun _ _ _ => rfl, fun _ _ _ h => h, Nat.le_refl _, fun b hb _ => ⟨rfl, hb⟩, rfl, rfl, rfl, Nat.le_refl _⟩
/-- what a box's block holds -/
theorem HOk.cells (h : HOk H β S w) {i : Nat} {cs : List D} {e : TypeId} (hx : H[i]? = some (some ⟨cs, e, 0⟩)) : ∃ b q us, β[i]? = some (some (b, q)) ∧ ¬ S b ∧ w.heap[b]? = some (.cells us.toArray e (0, 0)) ∧ D.RepL β S w cs us ∧ b < w.heap.size := by
  rcases h.box i _ hx with ⟨_, h2, _⟩ | ⟨b, q, cur, us, h1, h2, h3, h4, h5, h6, _⟩
  · exact absurd rfl h2
  · have h7 := h6 rfl
    have h8 : us = cur.toList := h5.eq_of_length (by simpa using h7)
    subst h8
    exact ⟨b, q, _, h1, h2, by simpa using h3, h4, (Array.getElem?_eq_some_iff.1 h3).1⟩
end
end Go.Sy
