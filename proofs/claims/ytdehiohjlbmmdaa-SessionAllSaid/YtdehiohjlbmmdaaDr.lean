/- Drawn regions, looked at in another order of their list; literals as rows of the call's own. No program in sight. -/
import Derived.Test.YtdehiohjlbmmdaaDq
set_option linter.unusedSimpArgs false
set_option linter.unusedVariables false
namespace Go.Sy
open Go.RowKit
/-! ### another order of the list -/
/-- an operation, its places renumbered -/
def renOp (σ : Nat → Nat) (o : Oper) : Oper := ⟨o.dst, o.op, o.type, o.pos, o.after.map fun e => ⟨σ e.on, e.ground⟩, o.guard.map fun g => (σ g.1, g.2)⟩
structure PermOk (ops ops' : Array Oper) (σ π : Nat → Nat) : Prop where
  size : ops'.size = ops.size
  lt : ∀ i, i < ops.size → σ i < ops.size
  lt' : ∀ i, i < ops.size → π i < ops.size
  inv : ∀ i, i < ops.size → π (σ i) = i
  inv' : ∀ i, i < ops.size → σ (π i) = i
  at_ : ∀ i o, ops[i]? = some o → ops'[σ i]? = some (renOp σ o)
  on : ∀ (i : Nat) (o : Oper), ops[i]? = some o → ∀ e ∈ o.after, e.on < ops.size
  gd : ∀ (i : Nat) (o : Oper), ops[i]? = some o → ∀ j b, o.guard = some (j, b) → j < ops.size
section
variable {P : Program} {ops ops' : Array Oper} {σ π : Nat → Nat} {Q : Exit → Act → World → Prop}
theorem renOp_wp (o : Oper) (a : Act) (w : World) (K : Act → World → Prop) : (renOp σ o).wp P a w K Q = o.wp P a w K Q := by
  cases o; rfl
theorem renOp_asks (o : Oper) (a : Act) (w : World) : (renOp σ o).asks P a w = o.asks P a w := by
  cases o; rfl
theorem PermOk.yielded (h : PermOk ops ops' σ π) (tmps : Array Value) {j : Nat} (hj : j < ops.size) : yielded ops' tmps (σ j) = yielded ops tmps j := by
  have h1 : ops[j]? = some ops[j] := by simp [hj]
  have h2 := h.at_ j _ h1
  unfold Go.yielded
  rw [h1, h2]
  rfl
theorem PermOk.wanted (h : PermOk ops ops' σ π) (tmps : Array Value) {i : Nat} {o : Oper} (ho : ops[i]? = some o) : Region.wanted (renOp σ o) (Go.yielded ops' tmps) = Region.wanted o (Go.yielded ops tmps) := by
  have hg := h.gd i o ho
  unfold Region.wanted renOp
  cases hgd : o.guard with
  | none => simp
  | some g =>
    obtain ⟨j, b⟩ := g
    simp only [Option.map_some]
    rw [h.yielded tmps (hg j b hgd)]
theorem PermOk.ready (h : PermOk ops ops' σ π) {listed listed' : Array Bool} (hs : listed.size = ops.size) (hs' : listed'.size = ops.size) (hl : ∀ i, i < ops.size → listed'.getD (σ i) true = listed.getD i true) {i : Nat} (hi : i < ops.size) :
    σ i ∈ Region.ready .any ops' listed' ↔ i ∈ Region.ready .any ops listed := by
  have hf : ∀ (l : Array Bool) (k : Nat), l.size = ops.size → k < ops.size → l.getD k false = l.getD k true := by
    intro l k hl hk
    simp [Array.getD, hl, hk]
  have hoi : ops[i]? = some ops[i] := by simp [hi]
  have hoi' := h.at_ i _ hoi
  rw [ready_iff, ready_iff, hl i hi]
  constructor
  · rintro ⟨h1, o, h2, h3⟩
    rw [hoi'] at h2
    injection h2 with h2
    subst h2
    refine ⟨h1, _, hoi, fun e he hb => ?_⟩
    have hon := h.on i _ hoi e he
    have := h3 ⟨σ e.on, e.ground⟩ (Array.mem_map.2 ⟨e, he, rfl⟩) hb
    rw [hf _ _ hs' (h.lt _ hon), hl _ hon] at this
    rw [hf _ _ hs hon]
    exact this
  · rintro ⟨h1, o, h2, h3⟩
    rw [hoi] at h2
    injection h2 with h2
    subst h2
    refine ⟨h1, _, hoi', fun e he hb => ?_⟩
    obtain ⟨e0, he0, rfl⟩ := Array.mem_map.1 he
    have hon := h.on i _ hoi e0 he0
    have := h3 e0 he0 hb
    rw [hf _ _ hs hon] at this
    show listed'.getD (σ e0.on) false = true
    rw [hf _ _ hs' (h.lt _ hon), hl _ hon]
    exact this
theorem wpAny_perm (h : PermOk ops ops' σ π) : ∀ (fuel : Nat) (listed listed' : Array Bool) (a : Act) (w : World), listed.size = ops.size → listed'.size = ops.size → (∀ i, i < ops.size → listed'.getD (σ i) true = listed.getD i true) →
    wpAny P .any ops' Q fuel listed' a w → wpAny P .any ops Q fuel listed a w
  | 0, listed, listed', a, w, hs, hs', hl, hh => by
    refine ⟨?_, hh.2⟩
    cases hr : Region.ready .any ops listed with
    | nil => rfl
    | cons i _ =>
      exfalso
      have hi : i ∈ Region.ready .any ops listed := by rw [hr]; exact List.mem_cons_self
      obtain ⟨_, o, ho, _⟩ := ready_iff.1 hi
      have := (h.ready hs hs' hl (Array.getElem?_eq_some_iff.1 ho).1).2 hi
      rw [hh.1] at this
      cases this
  | fuel + 1, listed, listed', a, w, hs, hs', hl, hh => by
    refine ⟨fun hr => hh.1 ?_, fun i hi => ?_⟩
    · cases hr' : Region.ready .any ops' listed' with
      | nil => rfl
      | cons k _ =>
        exfalso
        have hk : k ∈ Region.ready .any ops' listed' := by rw [hr']; exact List.mem_cons_self
        obtain ⟨_, o, ho, _⟩ := ready_iff.1 hk
        have hks : k < ops.size := h.size ▸ (Array.getElem?_eq_some_iff.1 ho).1
        rw [← h.inv' k hks, h.ready hs hs' hl (h.lt' k hks), hr] at hk
        cases hk
    · obtain ⟨_, o, ho, _⟩ := ready_iff.1 hi
      have his := (Array.getElem?_eq_some_iff.1 ho).1
      have h1 := hh.2 (σ i) ((h.ready hs hs' hl his).2 hi)
      have h2 : wpOp P ops' Q (σ i) (wpAny P .any ops Q fuel (listed.setIfInBounds i true)) a w := by
        refine wpOp_mono (fun a w hK => wpAny_perm h fuel _ _ a w (by simpa using hs) (by simpa using hs') (fun j hj => ?_) hK) h1
        rw [getD_set' (by rw [hs']; exact h.lt i his) true, getD_set' (by rw [hs]; exact his) true, hl j hj]
        by_cases e : i = j
        · rw [if_pos e, if_pos (by rw [e])]
        · rw [if_neg e, if_neg]
          intro e'
          apply e
          rw [← h.inv i his, ← h.inv j hj, e']
      unfold wpOp at h2 ⊢
      rw [h.at_ i o ho] at h2
      rw [ho]
      dsimp only at h2 ⊢
      rw [h.wanted a.tmps ho, renOp_wp, renOp_asks] at h2
      exact h2
end
/-- where k stands in p -/
def idxN : List Nat → Nat → Nat
  | [], _ => 0
  | a :: l, k => bif a == k then 0 else idxN l k + 1
theorem idxN_eq : ∀ (l : List Nat) (k : Nat), idxN l k = l.idxOf k
  | [], _ => rfl
  | a :: l, k => by
    rw [idxN, List.idxOf_cons, idxN_eq l k]
/-- the list in the order of p -/
def permL (l : List Oper) (p : List Nat) : List Oper := p.filterMap fun i => (l[i]?).map (renOp fun k => idxN p k)
def permOk (l : List Oper) (p : List Nat) : Bool :=
  Nat.beq p.length l.length && (List.range l.length).all (fun i => p.contains i && Nat.blt (p.getD i l.length) l.length && Nat.beq (p.idxOf (p.getD i l.length)) i) &&
  l.all fun o => o.after.all (fun e => Nat.blt e.on l.length) && (match o.guard with | some (j, _) => Nat.blt j l.length | none => true)
theorem filterMap_some {α β : Type} {f : α → Option β} {g : α → β} : ∀ {p : List α}, (∀ k ∈ p, f k = some (g k)) → p.filterMap f = p.map g
  | [], _ => rfl
  | a :: p, h => by
    rw [List.filterMap_cons, h a List.mem_cons_self, List.map_cons, filterMap_some fun k hk => h k (List.mem_cons_of_mem _ hk)]
theorem permL_eq (l : List Oper) (p : List Nat) : permL l p = p.filterMap fun i => (l[i]?).map (renOp fun k => p.idxOf k) := by
  unfold permL
  rw [show (fun k => idxN p k) = fun k => p.idxOf k from funext (idxN_eq p)]
theorem permL_at {l : List Oper} {p : List Nat} (hp : ∀ k ∈ p, k < l.length) (i : Nat) (hi : i < p.length) : (permL l p)[i]? = (l[p[i]]?).map (renOp fun k => p.idxOf k) := by
  rw [permL_eq]
  have : p.filterMap (fun i => (l[i]?).map (renOp fun k => p.idxOf k)) = p.map (fun i => renOp (fun k => p.idxOf k) (l.getD i default)) := by
    exact filterMap_some fun k hk => by simp [hp k hk]
  rw [this, List.getElem?_map]
  have h2 := hp p[i] (List.getElem_mem hi)
  simp [hi, h2]
theorem permOk.ok {l : List Oper} {p : List Nat} (h : permOk l p = true) : PermOk l.toArray (permL l p).toArray (fun k => p.idxOf k) (fun i => p.getD i l.length) := by
  simp only [permOk, Bool.and_eq_true, List.all_eq_true, List.mem_range] at h
  obtain ⟨⟨h1, h2⟩, h3⟩ := h
  have h1 : p.length = l.length := Nat.eq_of_beq_eq_true h1
  have hm : ∀ k ∈ p, k < l.length := by
    intro k hk
    obtain ⟨i, hi, rfl⟩ := List.mem_iff_getElem.1 hk
    have := (h2 i (by omega)).1.2
    simpa [hi] using this
  have hin : ∀ i, i < l.length → i ∈ p := fun i hi => by simpa using (h2 i hi).1.1
  have hlen : (permL l p).length = l.length := by
    rw [permL_eq, List.length_filterMap_eq_countP, List.countP_eq_length.2, h1]
    intro k hk
    simp [hm k hk]
  refine ⟨by simpa using hlen, ?_, ?_, ?_, ?_, ?_, ?_, ?_⟩
  · intro i hi
    have := List.idxOf_lt_length_of_mem (hin i (by simpa using hi))
    simp; omega
  · intro i hi
    have := (h2 i (by simpa using hi)).1.2
    simpa using this
  · intro i hi
    have hm := hin i (by simpa using hi)
    have hl := List.idxOf_lt_length_of_mem hm
    rw [List.getD_eq_getElem?_getD, List.getElem?_eq_getElem hl]
    simp
  · intro i hi
    exact Nat.eq_of_beq_eq_true (h2 i (by simpa using hi)).2
  · intro i o ho
    have hi : i < l.length := by
      have := (Array.getElem?_eq_some_iff.1 ho).1
      simpa using this
    have hl := List.idxOf_lt_length_of_mem (hin i hi)
    have := permL_at hm (p.idxOf i) hl
    rw [List.getElem_idxOf] at this
    rw [List.getElem?_toArray, this]
    rw [List.getElem?_toArray] at ho
    rw [ho]
    rfl
  · intro i o ho e he
    rw [List.getElem?_toArray] at ho
    have := (h3 o (List.mem_of_getElem? ho))
    simp only [Bool.and_eq_true, Array.all_eq_true_iff_forall_mem] at this
    simpa using this.1 e he
  · intro i o ho j b hg
    rw [List.getElem?_toArray] at ho
    have := (h3 o (List.mem_of_getElem? ho))
    simp only [Bool.and_eq_true, hg] at this
    simpa using this.2
section
variable {P : Program} {c : Ctx} {n : Nat} {Q : Exit → St → Prop} {s : St}
/-- The rule for drawn regions, its list in the order of p. -/
theorem Sym.drawXP {id : Nat} {l l' : List Oper} (p : List Nat) (ws : List Nat) (hm : P.follows .mixedOrders = true) (hp : permOk l p = true) (hl : permL l p = l') (hsyn : drawOk l'.toArray l'.length = true) (hst : storesOk l'.toArray ws = true) (h : XTo P c n l'.toArray ws (fun s => Q .normal s) 0 l' s []) : Sym P c n (.region id l.toArray true) Q s := by
  subst hl
  intro a w hr
  refine wp_region_any hm ?_
  have hok := permOk.ok hp
  refine wpAny_perm hok _ _ (Array.replicate (permL l p).toArray.size false) _ _ (by simp) (by rw [Array.size_replicate, hok.size]) ?_ ?_
  · intro i hi
    have h1 := hok.lt i hi
    rw [hok.size]
    simp only [Array.getD, Array.size_replicate, hi, h1, dite_true]
    simp
  · rw [← hok.size]
    exact Sym.drawX_any ws hsyn hst (by simpa using h) a w hr
end
/-! ### literals as rows of the call's own -/
section
variable {P : Program} {c : Ctx} {n : Nat} {ops : Array Oper} {Q : Exit → St → Prop} {rest : List Oper} {tm : List (Nat × Bool × D)} {H : List (Option Box)}
/-- a slice literal -/
theorem WStep.buildRow {t : Tmp} {ty e ty1 : TypeId} {pos : String} {af : Array Edge} {gd : Option (Nat × Bool)} {len : Nat} {parts : Array (Nat × Operand)} {i j : TypeInfo} {u : TypeDesc} {z : Value} {ds : List (Nat × D)} {res : List D} [h : TyI P ty i (.slice e)] [h' : TyI P e j u] (hz : j.zero = some z) (hlen : Nat.ble (len * j.size) 16777216 = true) (hp : EvP ⟨tm, H⟩ true parts.toList ds)
    (hf : fillD (fun i => some (i * j.size, j.size)) (zeroD z (len * j.size)) ds = some res) (hlm : Nat.ble len 1000000 = true) (hrl : Nat.beq res.length (len * j.size) = true) (hsz : Nat.blt 0 j.size = true) (ht : Nat.blt t n = true) :
    WStep P c n ops ⟨tm, H⟩ ⟨some t, .buildSlice ty len parts, ty1, pos, af, gd⟩ none (H ++ [some ⟨res, e, j.size⟩]) (.row H.length len) := by
  refine ⟨ht, ?_⟩
  intro β S a w hH he K Q hK
  have hlen : len * j.size ≤ 16777216 := by simpa using hlen
  have hlm : len ≤ 1000000 := by simpa using hlm
  have hrl : res.length = len * j.size := Nat.eq_of_beq_eq_true hrl
  have hsz : 0 < j.size := by simpa using hsz
  have h1 := hp.rep (β := β) (S := S) (a := a) (w := w) (l := (Op.buildSlice ty len parts).operands) (fun t ht => he t (by simp only [Oper.looksAt, List.mem_append, List.mem_filterMap]; exact .inl ⟨_, by simpa using ht, rfl⟩)) rfl (by
    intro x hx
    simp only [Op.operands, List.mem_toArray, List.mem_map]
    exact ⟨x, hx, rfl⟩)
  have hc : D.RepL β S w (zeroD z (len * j.size)) ((List.range (len * j.size)).map fun q => z.cells[q % z.cells.size]!) := by
    have := D.RepL.p (β := β) (V.RepL.x (S := S) (w := w) (l := (List.range (len * j.size)).map fun q => z.cells[q % z.cells.size]!))
    rw [List.map_map, List.map_map] at this
    exact this
  obtain ⟨us, h2, h3⟩ := fill_rep _ h1 hc hf
  have hul : us.length = len * j.size := h3.len.trans hrl
  obtain ⟨k1, k2⟩ := hH.newBox (e := e) (sz := j.size) (q := len) (cur := us.toArray) h3 (List.prefix_refl _) (fun h0 => by omega) (fun _ => ⟨by simpa using hul, by simp only [maxLen]; omega⟩)
  have he' : ∀ b, S b → b < w.heap.size → (w.alloc (.cells us.toArray e)).heap[b]? = w.heap[b]? := fun b _ hb => Below.heap_alloc _ _ _ hb
  have hS' : ∀ b, S b → b < w.heap.size → S b ∧ b ≠ w.heap.size := fun b h hb => ⟨h, by omega⟩
  refine wp_value (v := .slice (some ⟨w.heap.size, 0, none⟩) len len) (w' := w.alloc (.cells us.toArray e)) ?_ (hK _ _ _ _ k1 ⟨fun i e _ h => k2 i e h, he', hS'⟩ fun _ => .inr ⟨w.heap.size, len, ?_, Nat.le_refl _, rfl⟩)
  · have e3 : ((Array.range (len * j.size)).map fun q => z.cells[q % z.cells.size]!) = ((List.range (len * j.size)).map fun q => z.cells[q % z.cells.size]!).toArray := by
      apply Array.ext'; simp
    have hge : ¬ len * j.size > 2 ^ 24 := by omega
    by_cases h0 : len * j.size = 0
    · rw [h0] at h2
      simp only [List.range_zero, List.map_nil] at h2
      have h2' : Instr.fill (fun i => some (i * j.size, j.size)) #[] (List.map (fun x => (x.fst, a.eval x.snd)) parts.toList) = some us.toArray := h2
      simp only [execOp, Instr.buildSlice, Sem.run_bind, run_underlying h.ut, Result.andThen_ok, run_sizeOf' h'.ti, if_neg hge, Sem.run_pure, h0]
      have hge0 : ¬ (0 : Nat) > 2 ^ 24 := by omega
      have hr0 : Array.range 0 = #[] := rfl
      simp only [if_neg hge0, if_true, Sem.run_bind, Sem.run_pure, Result.andThen_ok, Array.toList_map, hr0, List.map_toArray, List.map_nil]
      rw [h2']
      simp [newRow, go_sem]
    · simp only [execOp, Instr.buildSlice, Sem.run_bind, run_underlying h.ut, Result.andThen_ok, run_sizeOf' h'.ti, if_neg hge, if_neg h0, Sem.run_pure, run_zeroValue' h'.ti hz]
      simp only [Array.toList_map, e3]
      rw [h2]
      simp [newRow, go_sem]
  · rw [← hH.len]; simp
theorem XTo.buildRow {ws : List Nat} {T : St → Prop} {k m : Nat} {past : List Past} {t : Tmp} {ty e ty1 : TypeId} {pos : String} {af : Array Edge} {len : Nat} {parts : Array (Nat × Operand)} {i j : TypeInfo} {u : TypeDesc} {z : Value} {ds : List (Nat × D)} {res : List D} [h : TyI P ty i (.slice e)] [h' : TyI P e j u] (hz : j.zero = some z) (hlen : Nat.ble (len * j.size) 16777216 = true) (hp : EvP ⟨tm, H⟩ true parts.toList ds)
    (hf : fillD (fun i => some (i * j.size, j.size)) (zeroD z (len * j.size)) ds = some res) (hlm : Nat.ble len 1000000 = true) (hrl : Nat.beq res.length (len * j.size) = true) (hsz : Nat.blt 0 j.size = true) (ht : Nat.blt t n = true) {H' : List (Option Box)} (hm : H.length = m) (hH' : H ++ [some ⟨res, e, j.size⟩] = H') (hw : ws.contains k = true) (hms : LateOk P n ops k none H' past)
    (kk : XTo P c n ops ws T (k + 1) rest ⟨(t, true, .row m len) :: tm, H'⟩ past) : XTo P c n ops ws T k (⟨some t, .buildSlice ty len parts, ty1, pos, af, none⟩ :: rest) ⟨tm, H⟩ past := by
  subst hm; subst hH'
  exact .write (kk := none) hw (WStep.buildRow hz hlen hp hf hlm hrl hsz ht) hms (by rw [Past.cl_none]; exact kk)
/-- an operation that changes boxes, its guard (if there is one) holds -/
theorem SymL.ofW {o : Oper} {kk : Option Nat} {H' : List (Option Box)} {d : D} (hg : GOk ops ⟨tm, H⟩ o true) (h : WStep P c n ops ⟨tm, H⟩ o kk H' d) (k : SymL P c n ops Q rest (St.put ⟨TM.cl kk tm, H'⟩ o.dst true d)) : SymL P c n ops Q (o :: rest) ⟨tm, H⟩ := by
  rintro a w ⟨β, S, hH, hd, hn, he⟩
  refine wpList_step fun K hK => ?_
  rw [hg.wanted (fun t _ => he t), if_pos rfl]
  refine h.run β S a w hH (fun t _ => he t) _ _ fun u β' S' w' hH' hmv hu => hK _ _ (k _ _ ⟨β', S', by rw [put_H]; exact hH', by rw [defers_put, hd], by rw [size_put, hn], ?_⟩)
  by_cases hdst : o.dst = none
  · rw [hdst]
    intro t g d hg
    obtain ⟨d', h1, rfl⟩ := TM.cl_get (kk := kk) hg
    obtain ⟨k1, k2⟩ := he t g d' h1
    exact ⟨k1, hmv.ent k2⟩
  · refine EntAt.put (s := ⟨TM.cl kk tm, H'⟩) (fun t => ?_) (fun q hq => by rw [hn]; exact dstOk.lt h.ds q hq) ⟨fun _ => hu hdst, fun h => by cases h⟩
    intro g d hg
    obtain ⟨d', h1, rfl⟩ := TM.cl_get (kk := kk) hg
    obtain ⟨k1, k2⟩ := he t g d' h1
    exact ⟨k1, hmv.ent k2⟩
theorem SymL.appendG {α : Type} (enc : α → List V) (l m : List α) {t0 : Tmp} {ty t e : TypeId} {pos : String} {af : Array Edge} {gd : Option (Nat × Bool)} {i j : TypeInfo} {u : TypeDesc} {z : Value} {x y : Operand} {k : Nat} {dy : D} {bz : Nat} [h : TyI P t i (.slice e)] [h' : TyI P e j u] (hg : GOk ops ⟨tm, H⟩ ⟨some t0, .call { callee := .builtin .append, args := #[x, y], argTypes := #[t, t] }, ty, pos, af, gd⟩ true) (hx : Ev ⟨tm, H⟩ true x (.row k l.length)) (hy : Ev ⟨tm, H⟩ true y dy) (hdv : DV dy (V.list enc m))
    (hb : H[k]? = some (some ⟨D.enc enc l, e, bz⟩)) (hbz : bz = j.size) (hz : j.zero = some z) (hzs : Nat.beq z.cells.size j.size = true) (hpos : Nat.blt 0 j.size = true) (hby : Nat.ble j.bytes 1000 = true) (hsz : ∀ q, (enc q).length = j.size) (hone : ∀ q, ∀ v ∈ enc q, v.one = true) (ht : Nat.blt t0 n = true) (hnm : l.length + m.length ≤ 1000000000) (hwr : c.ro = true → c.β0.length ≤ k) (hdead : k < c.β0.length → k ∈ c.dead)
    {H' : List (Option Box)} {tm' : List (Nat × Bool × D)} (hH' : (Hp.clean k H).set k (some ⟨D.enc enc (l ++ m), e, bz⟩) = H') (htm : TM.clean k tm = tm')
    (kk : SymL P c n ops Q rest ⟨(t0, true, .row k (l ++ m).length) :: tm', H'⟩) :
    SymL P c n ops Q (⟨some t0, .call { callee := .builtin .append, args := #[x, y], argTypes := #[t, t] }, ty, pos, af, gd⟩ :: rest) ⟨tm, H⟩ := by
  subst hH'; subst htm
  exact SymL.ofW hg (WStep.append enc l m hx hy hdv hb hbz hz hzs hpos hby hsz hone ht hnm hwr hdead) kk
theorem SymL.buildRow {t : Tmp} {ty e ty1 : TypeId} {pos : String} {af : Array Edge} {gd : Option (Nat × Bool)} {len m : Nat} {parts : Array (Nat × Operand)} {i j : TypeInfo} {u : TypeDesc} {z : Value} {ds : List (Nat × D)} {res : List D} [h : TyI P ty i (.slice e)] [h' : TyI P e j u] (hg : GOk ops ⟨tm, H⟩ ⟨some t, .buildSlice ty len parts, ty1, pos, af, gd⟩ true) (hz : j.zero = some z) (hlen : Nat.ble (len * j.size) 16777216 = true) (hp : EvP ⟨tm, H⟩ true parts.toList ds)
    (hf : fillD (fun i => some (i * j.size, j.size)) (zeroD z (len * j.size)) ds = some res) (hlm : Nat.ble len 1000000 = true) (hrl : Nat.beq res.length (len * j.size) = true) (hsz : Nat.blt 0 j.size = true) (ht : Nat.blt t n = true) {H' : List (Option Box)} (hm : H.length = m) (hH' : H ++ [some ⟨res, e, j.size⟩] = H')
    (kk : SymL P c n ops Q rest ⟨(t, true, .row m len) :: tm, H'⟩) : SymL P c n ops Q (⟨some t, .buildSlice ty len parts, ty1, pos, af, gd⟩ :: rest) ⟨tm, H⟩ := by
  subst hm; subst hH'
  exact SymL.ofW (kk := none) hg (WStep.buildRow hz hlen hp hf hlm hrl hsz ht) kk
/-- nil in a cell, as a row -/
theorem Le.cellRow (k q : Nat) (e : TypeId) (sz : Nat) {cs : List D} {be : TypeId} {bz : Nat} (hb : H[k]? = some (some ⟨cs, be, bz⟩)) (hq : cs[q]? = some (.p (.x (.slice none 0 0)))) (hz : Nat.blt 0 sz = true) {H' : List (Option Box)} (hH' : H.set k (some ⟨cs.set q (.row H.length 0), be, bz⟩) ++ [some ⟨[], e, sz⟩] = H') : Le c ⟨tm, H⟩ ⟨tm, H'⟩ := by
  subst hH'
  rintro n a w ⟨β, S, hH, hdf, hn, he⟩
  have hz : 0 < sz := by simpa using hz
  obtain ⟨h1, h2⟩ := hH.ghost (e := e) (show sz ≠ 0 by omega)
  have hk : k < H.length := (List.getElem?_eq_some_iff.1 hb).1
  have hgr : ∀ (i : Nat) (x : Box), (H.set k (some ⟨cs.set q (.row H.length 0), be, bz⟩) ++ [some ⟨[], e, sz⟩])[i]? = some (some x) → (i = k ∧ x = ⟨cs.set q (.row H.length 0), be, bz⟩) ∨ (H ++ [some ⟨[], e, sz⟩])[i]? = some (some x) := by
    intro i x hx
    by_cases hi : i = k
    · subst hi
      rw [List.getElem?_append_left (by simpa using hk), List.getElem?_set_self hk] at hx
      injection hx with hx
      injection hx with hx
      exact .inl ⟨rfl, hx.symm⟩
    · right
      rw [List.getElem?_append] at hx ⊢
      rw [List.length_set, List.getElem?_set_ne (Ne.symm hi)] at hx
      exact hx
  have hold : (H ++ [some ⟨[], e, sz⟩])[k]? = some (some ⟨cs, be, bz⟩) := by rw [List.getElem?_append_left hk]; exact hb
  refine ⟨_, S, { h1 with box := ?_, len := ?_, inj := ?_ }, hdf, hn, fun t' g d' hg => ?_⟩
  · intro i x hx
    rcases hgr i x hx with ⟨rfl, rfl⟩ | hx
    · rcases h1.box i _ hold with ⟨h3, h4, h5⟩ | ⟨b, cc, cur, us, h3, h4, h5, h6, h7, h8⟩
      · rw [show cs = [] from h5] at hq; simp at hq
      · refine .inr ⟨b, cc, cur, us, h3, h4, h5, ?_, h7, h8⟩
        have hu : ∃ y, us[q]? = some y ∧ (D.p (.x (.slice none 0 0))).Rep (β ++ [none]) S w y := h6.get hq
        obtain ⟨y, hy, hr⟩ := hu
        have h9 := D.RepL.set (e := .row H.length 0) (u := y) q h6 (.inl ⟨by rw [← hH.len]; simp, rfl, none, hr⟩)
        have hset : us.set q y = us := by
          apply List.ext_getElem?
          intro p
          by_cases hp : p = q
          · subst hp
            rw [List.getElem?_set_self (List.getElem?_eq_some_iff.1 hy).1, hy]
          · rw [List.getElem?_set_ne (Ne.symm hp)]
        rwa [hset] at h9
    · exact h1.box i x hx
  · have := h1.len
    simpa using this
  · intro i j x y b p q' hx hy hbx hby
    have hx' : ∃ x', (H ++ [some ⟨[], e, sz⟩])[i]? = some (some x') := by
      rcases hgr i x hx with ⟨rfl, rfl⟩ | hx
      · exact ⟨_, hold⟩
      · exact ⟨_, hx⟩
    have hy' : ∃ x', (H ++ [some ⟨[], e, sz⟩])[j]? = some (some x') := by
      rcases hgr j y hy with ⟨rfl, rfl⟩ | hx
      · exact ⟨_, hold⟩
      · exact ⟨_, hx⟩
    obtain ⟨x', hx'⟩ := hx'
    obtain ⟨y', hy'⟩ := hy'
    exact h1.inj i j x' y' b p q' hx' hy' hbx hby
  · obtain ⟨k1, k2, k3⟩ := he t' g d' hg
    exact ⟨k1, fun hg => (k2 hg).mono h2 (fun _ _ _ => rfl) fun _ h _ => h, k3⟩
end
/-! ### calls that are handed rows of the call's own, to read -/
/-- a value without addresses at all -/
def V.bare : V → Bool
  | .x _ => true
  | _ => false
def V.bareL : List V → Bool
  | [] => true
  | v :: l => v.bare && V.bareL l
def V.bareT : V → Bool
  | .tup l => V.bareL l
  | v => v.bare
theorem V.Rep.bare {S S' : Nat → Prop} {w : World} {v : V} {u : Value} (hb : v.bare = true) (h : v.Rep S w u) : v.Rep S' w u := by
  cases v <;> first | exact h | simp [V.bare] at hb
theorem V.RepL.bare {S S' : Nat → Prop} {w : World} : ∀ {l : List V} {us : List Value}, V.bareL l = true → V.RepL S w l us → V.RepL S' w l us
  | [], _, _, h => h
  | v :: l, _, hb, h => by
    simp only [V.bareL, Bool.and_eq_true] at hb
    obtain ⟨y, ys, h1, h2, h3⟩ := h
    exact ⟨y, ys, h1, h2.bare hb.1, V.RepL.bare hb.2 h3⟩
theorem V.Rep.bareT {S S' : Nat → Prop} {w : World} {v : V} {u : Value} (hb : v.bareT = true) (h : v.Rep S w u) : v.Rep S' w u := by
  cases v with
  | tup l =>
    obtain ⟨us, h1, h2⟩ := h
    exact ⟨us, h1, h2.bare hb⟩
  | x u => exact h
  | _ => simp [V.bareT, V.bare] at hb
mutual
/-- a datum of the call's, read as one without addresses: rows (or their beginnings) as slices -/
inductive DRd (H : List (Option Box)) : D → V → Prop
  | of {d : D} {v : V} : DV d v → DRd H d v
  | row {i n : Nat} {x : Box} {ds : List D} {vs : List V} : H[i]? = some (some x) → x.sz ≠ 0 → x.cs.take (n * x.sz) = ds → ds.length = n * x.sz → DRdL H ds vs → DRd H (.row i n) (.sl n vs)
  | agg {ds : List D} {vs : List V} : DRdL H ds vs → DRd H (.agg ds) (.agg vs)
inductive DRdL (H : List (Option Box)) : List D → List V → Prop
  | nil : DRdL H [] []
  | cons {d : D} {v : V} {ds : List D} {vs : List V} : DRd H d v → DRdL H ds vs → DRdL H (d :: ds) (v :: vs)
end
theorem DRdL.p (H : List (Option Box)) : ∀ l : List V, DRdL H (l.map D.p) l
  | [] => .nil
  | _ :: l => .cons (.of (.of rfl)) (DRdL.p H l)
section
variable {H : List (Option Box)} {β : List Place} {S : Nat → Prop} {w : World}
/-- with the blocks of all boxes -/
abbrev withBoxes (β : List Place) (S : Nat → Prop) (b : Nat) : Prop := S b ∨ ∃ (i : Nat) (q : Nat), β[i]? = some (some (b, q))
mutual
theorem DRd.rep (hH : HOk H β S w) : ∀ {d : D} {v : V} {u : Value}, DRd H d v → d.Rep β S w u → v.Rep (withBoxes β S) w u
  | _, _, _, .of h, hr => (h.rep hr).mono (fun _ _ _ => rfl) fun b hb _ => .inl hb
  | .row i n, _, u, @DRd.row _ _ _ x ds vs hi hz hd hl hv, hr => by
    rcases hr with ⟨h1, rfl, a, rfl⟩ | ⟨b, c, h1, h2, rfl⟩
    · have : ds = [] := List.eq_nil_of_length_eq_zero (by simpa using hl)
      subst this
      cases hv
      exact ⟨a, 0, [], rfl, Nat.le_refl _, by simp [maxLen], rfl, fun q y hq => by simp at hq⟩
    · rcases hH.box i x hi with ⟨h3, _, _⟩ | ⟨b', c', cur, us, h3, h4, h5, h6, h7, h8, h9⟩
      · rw [h1] at h3; cases h3
      · rw [h1] at h3
        injection h3 with h3
        injection h3 with h3
        injection h3 with h3 h3'
        subst h3; subst h3'
        have hk := h6.take (n * x.sz)
        rw [hd] at hk
        refine ⟨_, c, us.take (n * x.sz), rfl, h2, (h9 hz).2, DRdL.rep hH hv hk, ?_⟩
        intro q y hq
        refine ⟨b, 0, rfl, ?_, .inr ⟨i, c, h1⟩⟩
        have hq' : us[q]? = some y := by
          rw [List.getElem?_take] at hq
          split at hq
          · exact hq
          · cases hq
        have hq2 := prefix_get h7 hq'
        have := World.news_of_block h5 q y (by simpa using hq2)
        simpa [add_lit] using this
  | _, _, _, .agg h, hr => by
    obtain ⟨us, h1, h2⟩ := hr
    exact ⟨us, h1, DRdL.rep hH h h2⟩
theorem DRdL.rep (hH : HOk H β S w) : ∀ {ds : List D} {vs : List V} {us : List Value}, DRdL H ds vs → D.RepL β S w ds us → V.RepL (withBoxes β S) w vs us
  | _, _, _, .nil, hr => hr
  | _, _, _, .cons h hs, hr => by
    obtain ⟨y, ys, h1, h2, h3⟩ := hr
    exact ⟨y, ys, h1, DRd.rep hH h h2, DRdL.rep hH hs h3⟩
end
end
/-- a row, as a list -/
theorem DRd.list {α : Type} {enc : α → List V} {l : List α} {i : Nat} {H : List (Option Box)} {e : TypeId} {sz : Nat} (h : H[i]? = some (some ⟨D.enc enc l, e, sz⟩)) (hsz : ∀ q, (enc q).length = sz) (hz : Nat.blt 0 sz = true) : DRd H (.row i l.length) (V.list enc l) := by
  have hz : 0 < sz := by simpa using hz
  have hl : (D.enc enc l).length = l.length * sz := by simp [D.enc, flat_len hsz]
  refine .row h (by show sz ≠ 0; omega) (List.take_of_length_le (Nat.le_of_eq hl)) hl (DRdL.p _ _)
/-- a row's beginning -/
theorem DRd.pre {α : Type} {enc : α → List V} {l : List α} {i n : Nat} {H : List (Option Box)} {e : TypeId} {sz : Nat} (h : H[i]? = some (some ⟨D.enc enc l, e, sz⟩)) (hn : n ≤ l.length) (hsz : ∀ q, (enc q).length = sz) (hz : Nat.blt 0 sz = true) : DRd H (.row i n) (V.list enc (l.take n)) := by
  have hz : 0 < sz := by simpa using hz
  have hl : (l.take n).length = n := by simp [hn]
  have ht : (D.enc enc l).take (n * sz) = D.enc enc (l.take n) := by
    rw [D.enc, ← List.map_take, V.cutT hsz]
  have hl' : (D.enc enc (l.take n)).length = n * sz := by simp only [D.enc, List.length_map, flat_len hsz, hl]
  have := DRd.row (H := H) (i := i) (n := n) h (by show sz ≠ 0; omega) ht hl' (DRdL.p _ _)
  unfold V.list
  rw [hl]
  exact this
inductive EvRd (s : St) (g : Bool) : List Operand → List V → Prop
  | nil : EvRd s g [] []
  | cons {x : Operand} {xs : List Operand} {d : D} {v : V} {vs : List V} : Ev s g x d → DRd s.H d v → EvRd s g xs vs → EvRd s g (x :: xs) (v :: vs)
section
variable {P : Program} {s : St} {g : Bool} {dst : Option Tmp} {ty : TypeId} {pos : String} {af : Array Edge} {gd : Option (Nat × Bool)}
theorem EvRd.rep {l : Array Operand} {β : List Place} {S : Nat → Prop} {a : Act} {w : World} (hH : HOk s.H β S w) (he : ∀ t, .tmp t ∈ l → EntAt s β S w a t) (hg : g = true) : ∀ {xs : List Operand} {vs : List V}, EvRd s g xs vs → (∀ x ∈ xs, x ∈ l) → V.RepL (withBoxes β S) w vs (xs.map a.eval)
  | _, _, .nil, _ => rfl
  | _, _, .cons h hd hs, hm => ⟨_, _, rfl, hd.rep hH (h.rep (hm _ List.mem_cons_self) he hg), EvRd.rep hH he hg hs fun x hx => hm x (List.mem_cons_of_mem _ hx)⟩
/-- a call that reads rows of the call's own, and comes back with numbers -/
theorem MOp.callV {f : Operand} {k : FuncId} {as : Array Operand} {ts : Array TypeId} {vs : List V} {r : V} (hf : Ev s g f (.p (.x (.func (.func k) #[] #[])))) (hc : g = true → Fn1 P k vs r) (hr : r.bareT = true) (ha : EvRd s g as.toList vs) :
    MOp P s ⟨dst, .call { callee := .value f, args := as, argTypes := ts }, ty, pos, af, gd⟩ g (.p r) := by
  refine ⟨fun β S a w ho he hg K Q hK => ?_⟩
  have hm : ∀ x ∈ as.toList, x ∈ (Op.call { callee := .value f, args := as, argTypes := ts }).operands := fun x hx => by
    simp only [Op.operands, Call.operands, Array.mem_append]
    exact .inr (by simpa using hx)
  have h1 : a.eval f = .func (.func k) #[] #[] := hf.rep (l := (Op.call { callee := .value f, args := as, argTypes := ts }).operands) (by simp [Op.operands, Call.operands]) he hg
  have h2 := EvRd.rep ho he hg ha hm
  have h3 := (hc hg).calls (withBoxes β S) w _ (fun b hb => .inl (ho.up b hb)) h2
  unfold Oper.wp
  have hrun : (execOp a.eval ⟨dst, .call { callee := .value f, args := as, argTypes := ts }, ty, pos, af, gd⟩).run P w = .ok (.enter k (as.map a.eval)) w := by
    simp [execOp, resolve, h1, Deferred.ofValue, invoke, (hc hg).enter]
  rw [hrun]
  show Calls P k (as.map a.eval) w _
  have e : as.map a.eval = (as.toList.map a.eval).toArray := by apply Array.ext'; simp
  rw [e]
  refine h3.mono ?_
  rintro e w' ⟨u, rfl, hx, hrr⟩
  exact hK u w' hx (V.Rep.bareT hr hrr)
end
/-! ### what a pointer leads to, as an aggregate -/
def takeV : Nat → List V → Option (List V)
  | 0, _ => some []
  | _ + 1, [] => none
  | n + 1, v :: l => match takeV n l with
    | some vs => some (v :: vs)
    | none => none
theorem takeV_eq : ∀ {n : Nat} {l vs : List V}, takeV n l = some vs → l.take n = vs ∧ n ≤ l.length
  | 0, _, _, h => by simp only [takeV, Option.some.injEq] at h; subst h; simp
  | _ + 1, [], _, h => by simp [takeV] at h
  | n + 1, v :: l, vs, h => by
    simp only [takeV] at h
    split at h
    · rename_i vs' h'
      injection h with h
      subst h
      obtain ⟨h1, h2⟩ := takeV_eq h'
      exact ⟨by rw [List.take_succ_cons, h1], by simp; omega⟩
    · cases h
theorem MOp.loadRV {P : Program} {s : St} {g : Bool} {dst : Option Tmp} {ty : TypeId} {pos : String} {af : Array Edge} {gd : Option (Nat × Bool)} {x : Operand} {t : TypeId} {i : TypeInfo} {u : TypeDesc} {cs vs : List V} [h : TyI P t i u] (hx : Ev s g x (.p (.ref cs))) (hu : TypeDesc.isAgg u = true) (hv : takeV i.size cs = some vs) : MOp P s ⟨dst, .load t x, ty, pos, af, gd⟩ g (.p (.agg vs)) := by
  obtain ⟨h1, h2⟩ := takeV_eq hv
  subst h1
  exact MOp.loadRA hx hu h2
/-! ### s[:n] of a row; a cut with ways out -/
section
variable {P : Program} {s : St} {g : Bool} {dst : Option Tmp} {ty : TypeId} {pos : String} {af : Array Edge} {gd : Option (Nat × Bool)}
theorem MOp.sliceRow {x z : Operand} {t e : TypeId} {i j : TypeInfo} {u : TypeDesc} {k m : Nat} {kk : IntKind} {hi : Int} [h : TyI P t i (.slice e)] [h' : TyI P e j u] (hx : Ev s g x (.row k m)) (hz : Ev s g z (.p (.x (.int kk hi)))) (hb : g = true → 0 ≤ hi ∧ hi ≤ m) :
    MOp P s ⟨dst, .slice t x none (some z) none, ty, pos, af, gd⟩ g (.row k hi.toNat) := by
  refine ⟨fun β S a w ho he hg K Q hK => ?_⟩
  obtain ⟨b2, b3⟩ := hb hg
  have r1 := hx.rep (l := (Op.slice t x none (some z) none).operands) (by simp [Op.operands]) he hg
  have r3 : a.eval z = .int kk hi := hz.rep (l := (Op.slice t x none (some z) none).operands) (by simp [Op.operands]) he hg
  have hu : P.underlying t = some (.slice (P.elem t)) := by simp [Program.elem, h.ut]
  have hel : P.elem t = e := by simp [Program.elem, h.ut]
  obtain ⟨ad, c, h1, hcap, hr⟩ : ∃ ad c, a.eval x = .slice ad m c ∧ hi ≤ (c : Int) ∧ (D.row k hi.toNat).Rep β S w (Go.sliced ad 0 hi.toNat c j.size) := by
    rcases r1 with ⟨k1, k2, ad, k3⟩ | ⟨b, c, k1, k2, k3⟩
    · refine ⟨ad, 0, by rw [k3, k2], by omega, .inl ⟨k1, by omega, ?_⟩⟩
      have : hi.toNat = 0 := by omega
      rw [this]
      exact ⟨_, rfl⟩
    · refine ⟨_, c, k3, by omega, .inr ⟨b, c, k1, by omega, ?_⟩⟩
      by_cases h0 : c = 0
      · subst h0
        have : hi.toNat = 0 := by omega
        rw [this]
        simp [Go.sliced, Addr.add]
      · simp [Go.sliced, Addr.add]
  refine wp_value (v := Go.sliced ad 0 hi.toNat c j.size) (w' := w) ?_ (hK _ w (Ext.refl w) hr)
  simp only [execOp, h1, r3, Option.map_some, Option.map_none, Sem.run_bind]
  rw [run_sliceAt_slice w t _ _ _ _ hu, run_slice_h w t ad m c hu kk hi b2 hcap, hel, run_sizeOf' h'.ti]
  rfl
end
section
variable {P : Program} {c : Ctx} {n : Nat} {Q Q' : Exit → St → Prop} {s : St} {x y : Code} {α : Type}
theorem Sym.cutE (I : α → St) (good : α → Prop) (h1 : Sym P c n x (thenS (fun s => ∃ a, good a ∧ Le c s (I a)) Q') s) (h2 : ∀ a, good a → Sym P c n y Q (I a)) : Sym P c n x (thenS (Sym P c n y Q) Q') s := by
  refine h1.mono fun e s he => ?_
  cases e with
  | normal =>
    obtain ⟨a, ha, hl⟩ := he
    exact Sym.weak hl (h2 a ha)
  | _ => exact he
end
end Go.Sy
