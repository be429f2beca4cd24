/- Drawn regions, looked at in another order of their list; literals as rows of the call's own. No program in sight. -/
import Derived.Test.YtblabchnpkofgaaDq
set_option linter.unusedSimpArgs false
set_option linter.unusedVariables false
namespace Go.Sy
open Go.RowKit
/-! ### another order of the list -/
/-- an operation, its places renumbered -/
def renOp (σ : Nat → Nat) (o : Oper) : Oper := ⟨o.dst, o.op, o.type, o.pos, o.after.map fun e => ⟨σ e.on, e.ground⟩, o.guard.map fun g => (σ g.1, g.2)⟩
structure PermOk (ops ops' : Array Oper) (σ π : Nat → Nat) : Prop where
  size : ops'.size = ops.size
  lt : ∀ i, i < ops.size → σ i < ops.size
  lt' : ∀ i, i < ops.size → π i < ops.size
  inv : ∀ i, i < ops.size → π (σ i) = i
  inv' : ∀ i, i < ops.size → σ (π i) = i
  at_ : ∀ i o, ops[i]? = some o → ops'[σ i]? = some (renOp σ o)
  on : ∀ (i : Nat) (o : Oper), ops[i]? = some o → ∀ e ∈ o.after, e.on < ops.size
  gd : ∀ (i : Nat) (o : Oper), ops[i]? = some o → ∀ j b, o.guard = some (j, b) → j < ops.size
section
variable {P : Program} {ops ops' : Array Oper} {σ π : Nat → Nat} {Q : Exit → Act → World → Prop}
theorem renOp_wp (o : Oper) (a : Act) (w : World) (K : Act → World → Prop) : (renOp σ o).wp P a w K Q = o.wp P a w K Q := by
  cases o; rfl
theorem renOp_asks (o : Oper) (a : Act) (w : World) : (renOp σ o).asks P a w = o.asks P a w := by
  cases o; rfl
theorem PermOk.yielded (h : PermOk ops ops' σ π) (tmps : Array Value) {j : Nat} (hj : j < ops.size) : yielded ops' tmps (σ j) = yielded ops tmps j := by
  have h1 : ops[j]? = some ops[j] := by simp [hj]
  have h2 := h.at_ j _ h1
  unfold Go.yielded
  rw [h1, h2]
  rfl
theorem PermOk.wanted (h : PermOk ops ops' σ π) (tmps : Array Value) {i : Nat} {o : Oper} (ho : ops[i]? = some o) : Region.wanted (renOp σ o) (Go.yielded ops' tmps) = Region.wanted o (Go.yielded ops tmps) := by
  have hg := h.gd i o ho
  unfold Region.wanted renOp
  cases hgd : o.guard with
  | none => simp
  | some g =>
    obtain ⟨j, b⟩ := g
    simp only [Option.map_some]
    rw [h.yielded tmps (hg j b hgd)]
theorem PermOk.ready (h : PermOk ops ops' σ π) {listed listed' : Array Bool} (hs : listed.size = ops.size) (hs' : listed'.size = ops.size) (hl : ∀ i, i < ops.size → listed'.getD (σ i) true = listed.getD i true) {i : Nat} (hi : i < ops.size) :
    σ i ∈ Region.ready .any ops' listed' ↔ i ∈ Region.ready .any ops listed := by
  have hf : ∀ (l : Array Bool) (k : Nat), l.size = ops.size → k < ops.size → l.getD k false = l.getD k true := by
    intro l k hl hk
    simp [Array.getD, hl, hk]
  have hoi : ops[i]? = some ops[i] := by simp [hi]
  have hoi' := h.at_ i _ hoi
  rw [ready_iff, ready_iff, hl i hi]
  constructor
  · rintro ⟨h1, o, h2, h3⟩
    rw [hoi'] at h2
    injection h2 with h2
    subst h2
    refine ⟨h1, _, hoi, fun e he hb => ?_⟩
    have hon := h.on i _ hoi e he
    have := h3 ⟨σ e.on, e.ground⟩ (Array.mem_map.2 ⟨e, he, rfl⟩) hb
    rw [hf _ _ hs' (h.lt _ hon), hl _ hon] at this
    rw [hf _ _ hs hon]
    exact this
  · rintro ⟨h1, o, h2, h3⟩
    rw [hoi] at h2
    injection h2 with h2
    subst h2
    refine ⟨h1, _, hoi', fun e he hb => ?_⟩
    obtain ⟨e0, he0, rfl⟩ := Array.mem_map.1 he
    have hon := h.on i _ hoi e0 he0
    have := h3 e0 he0 hb
    rw [hf _ _ hs hon] at this
    show listed'.getD (σ e0.on) false = true
    rw [hf _ _ hs' (h.lt _ hon), hl _ hon]
    exact this
theorem wpAny_perm (h : PermOk ops ops' σ π) : ∀ (fuel : Nat) (listed listed' : Array Bool) (a : Act) (w : World), listed.size = ops.size → listed'.size = ops.size → (∀ i, i < ops.size → listed'.getD (σ i) true = listed.getD i true) →
    wpAny P .any ops' Q fuel listed' a w → wpAny P .any ops Q fuel listed a w
  | 0, listed, listed', a, w, hs, hs', hl, hh => by
    refine ⟨?_, hh.2⟩
    cases hr : Region.ready .any ops listed with
    | nil => rfl
    | cons i _ =>
      exfalso
      have hi : i ∈ Region.ready .any ops listed := by rw [hr]; exact List.mem_cons_self
      obtain ⟨_, o, ho, _⟩ := ready_iff.1 hi
      have := (h.ready hs hs' hl (Array.getElem?_eq_some_iff.1 ho).1).2 hi
      rw [hh.1] at this
      cases this
  | fuel + 1, listed, listed', a, w, hs, hs', hl, hh => by
    refine ⟨fun hr => hh.1 ?_, fun i hi => ?_⟩
    · cases hr' : Region.ready .any ops' listed' with
      | nil => rfl
      | cons k _ =>
        exfalso
        have hk : k ∈ Region.ready .any ops' listed' := by rw [hr']; exact List.mem_cons_self
        obtain ⟨_, o, ho, _⟩ := ready_iff.1 hk
        have hks : k < ops.size := h.size ▸ (Array.getElem?_eq_some_iff.1 ho).1
        rw [← h.inv' k hks, h.ready hs hs' hl (h.lt' k hks), hr] at hk
        cases hk
    · obtain ⟨_, o, ho, _⟩ := ready_iff.1 hi
      have his := (Array.getElem?_eq_some_iff.1 ho).1
      have h1 := hh.2 (σ i) ((h.ready hs hs' hl his).2 hi)
      have h2 : wpOp P ops' Q (σ i) (wpAny P .any ops Q fuel (listed.setIfInBounds i true)) a w := by
        refine wpOp_mono (fun a w hK => wpAny_perm h fuel _ _ a w (by simpa using hs) (by simpa using hs') (fun j hj => ?_) hK) h1
        rw [getD_set' (by rw [hs']; exact h.lt i his) true, getD_set' (by rw [hs]; exact his) true, hl j hj]
        by_cases e : i = j
        · rw [if_pos e, if_pos (by rw [e])]
        · rw [if_neg e, if_neg]
          intro e'
          apply e
          rw [← h.inv i his, ← h.inv j hj, e']
      unfold wpOp at h2 ⊢
      rw [h.at_ i o ho] at h2
      rw [ho]
      dsimp only at h2 ⊢
      rw [h.wanted a.tmps ho, renOp_wp, renOp_asks] at h2
      exact h2
end
/-- where k stands in p -/
def idxN : List Nat → Nat → Nat
  | [], _ => 0
  | a :: l, k => bif a == k then 0 else idxN l k + 1
theorem idxN_eq : ∀ (l : List Nat) (k : Nat), idxN l k = l.idxOf k
  | [], _ => rfl
  | a :: l, k => by
    rw [idxN, List.idxOf_cons, idxN_eq l k]
/-- the list in the order of p -/
def permL (l : List Oper) (p : List Nat) : List Oper := p.filterMap fun i => (l[i]?).map (renOp fun k => idxN p k)
def permOk (l : List Oper) (p : List Nat) : Bool :=
  Nat.beq p.length l.length && (List.range l.length).all (fun i => p.contains i && Nat.blt (p.getD i l.length) l.length && Nat.beq (p.idxOf (p.getD i l.length)) i) &&
  l.all fun o => o.after.all (fun e => Nat.blt e.on l.length) && (match o.guard with | some (j, _) => Nat.blt j l.length | none => true)
theorem filterMap_some {α β : Type} {f : α → Option β} {g : α → β} : ∀ {p : List α}, (∀ k ∈ p, f k = some (g k)) → p.filterMap f = p.map g
  | [], _ => rfl
  | a :: p, h => by
    rw [List.filterMap_cons, h a List.mem_cons_self, List.map_cons, filterMap_some fun k hk => h k (List.mem_cons_of_mem _ hk)]
theorem permL_eq (l : List Oper) (p : List Nat) : permL l p = p.filterMap fun i => (l[i]?).map (renOp fun k => p.idxOf k) := by
  unfold permL
  rw [show (fun k => idxN p k) = fun k => p.idxOf k from funext (idxN_eq p)]
theorem permL_at {l : List Oper} {p : List Nat} (hp : ∀ k ∈ p, k < l.length) (i : Nat) (hi : i < p.length) : (permL l p)[i]? = (l[p[i]]?).map (renOp fun k => p.idxOf k) := by
  rw [permL_eq]
  have : p.filterMap (fun i => (l[i]?).map (renOp fun k => p.idxOf k)) = p.map (fun i => renOp (fun k => p.idxOf k) (l.getD i default)) := by
    exact filterMap_some fun k hk => by simp [hp k hk]
  rw [this, List.getElem?_map]
  have h2 := hp p[i] (List.getElem_mem hi)
  simp [hi, h2]
theorem permOk.ok {l : List Oper} {p : List Nat} (h : permOk l p = true) : PermOk l.toArray (permL l p).toArray (fun k => p.idxOf k) (fun i => p.getD i l.length) := by
  simp only [permOk, Bool.and_eq_true, List.all_eq_true, List.mem_range] at h
  obtain ⟨⟨h1, h2⟩, h3⟩ := h
  have h1 : p.length = l.length := Nat.eq_of_beq_eq_true h1
  have hm : ∀ k ∈ p, k < l.length := by
    intro k hk
    obtain ⟨i, hi, rfl⟩ := List.mem_iff_getElem.1 hk
    have := (h2 i (by omega)).1.2
    simpa [hi] using this
  have hin : ∀ i, i < l.length → i ∈ p := fun i hi => by simpa using (h2 i hi).1.1
  have hlen : (permL l p).length = l.length := by
    rw [permL_eq, List.length_filterMap_eq_countP, List.countP_eq_length.2, h1]
    intro k hk
    simp [hm k hk]
  refine ⟨by simpa using hlen, ?_, ?_, ?_, ?_, ?_, ?_, ?_⟩
  · intro i hi
    have := List.idxOf_lt_length_of_mem (hin i (by simpa using hi))
    simp; omega
  · intro i hi
    have := (h2 i (by simpa using hi)).1.2
    simpa using this
  · intro i hi
    have hm := hin i (by simpa using hi)
    have hl := List.idxOf_lt_length_of_mem hm
    rw [List.getD_eq_getElem?_getD, List.getElem?_eq_getElem hl]
    simp
  · intro i hi
    exact Nat.eq_of_beq_eq_true (h2 i (by simpa using hi)).2
  · intro i o ho
    have hi : i < l.length := by
      have := (Array.getElem?_eq_some_iff.1 ho).1
      simpa using this
    have hl := List.idxOf_lt_length_of_mem (hin i hi)
    have := permL_at hm (p.idxOf i) hl
    rw [List.getElem_idxOf] at this
    rw [List.getElem?_toArray, this]
    rw [List.getElem?_toArray] at ho
    rw [ho]
    rfl
  · intro i o ho e he
    rw [List.getElem?_toArray] at ho
    have := (h3 o (List.mem_of_getElem? ho))
    simp only [Bool.and_eq_true, Array.all_eq_true_iff_forall_mem] at this
    simpa using this.1 e he
  · intro i o ho j b hg
    rw [List.getElem?_toArray] at ho
    have := (h3 o (List.mem_of_getElem? ho))
    simp only [Bool.and_eq_true, hg] at this
    simpa using this.2
section
variable {P : Program} {c : Ctx} {n : Nat} {Q : Exit → St → Prop} {s : St}
/-- The rule for drawn regions, its list in the order of p. -/
theorem Sym.drawXP {id : Nat} {l l' : List Oper} (p : List Nat) (ws : List Nat) (hm : P.follows .mixedOrders = true) (hp : permOk l p = true) (hl : permL l p = l') (hsyn : drawOk l'.toArray l'.length = true) (hst : storesOk l'.toArray ws = true) (h : XTo P c n l'.toArray ws (fun s => Q .normal s) 0 l' s []) : Sym P c n (.region id l.toArray true) Q s := by
  subst hl
  intro a w hr
  refine wp_region_any hm ?_
  have hok := permOk.ok hp
  refine wpAny_perm hok _ _ (Array.replicate (permL l p).toArray.size false) _ _ (by simp) (by rw [Array.size_replicate, hok.size]) ?_ ?_
  · intro i hi
    have h1 := hok.lt i hi
    rw [hok.size]
    simp only [Array.getD, Array.size_replicate, hi, h1, dite_true]
    simp
  · rw [← hok.size]
    exact Sym.drawX_any ws hsyn hst (by simpa using h) a w hr
end
/-! ### literals as rows of the call's own -/
section
variable {P : Program} {c : Ctx} {n : Nat} {ops : Array Oper} {Q : Exit → St → Prop} {rest : List Oper} {tm : List (Nat × Bool × D)} {H : List (Option Box)}
/-- a slice literal -/
theorem WStep.buildRow {t : Tmp} {ty e ty1 : TypeId} {pos : String} {af : Array Edge} {gd : Option (Nat × Bool)} {len : Nat} {parts : Array (Nat × Operand)} {i j : TypeInfo} {u : TypeDesc} {z : Value} {ds : List (Nat × D)} {res : List D} [h : TyI P ty i (.slice e)] [h' : TyI P e j u] (hz : j.zero = some z) (hlen : Nat.ble (len * j.size) 16777216 = true) (hp : EvP ⟨tm, H⟩ true parts.toList ds)
    (hf : fillD (fun i => some (i * j.size, j.size)) (zeroD z (len * j.size)) ds = some res) (hlm : Nat.ble len 1000000 = true) (hrl : Nat.beq res.length (len * j.size) = true) (hsz : Nat.blt 0 j.size = true) (ht : Nat.blt t n = true) :
    WStep P c n ops ⟨tm, H⟩ ⟨some t, .buildSlice ty len parts, ty1, pos, af, gd⟩ none (H ++ [some ⟨res, e, j.size⟩]) (.row H.length len) := by
  refine ⟨ht, ?_⟩
  intro β S a w hH he K Q hK
  have hlen : len * j.size ≤ 16777216 := by simpa using hlen
  have hlm : len ≤ 1000000 := by simpa using hlm
  have hrl : res.length = len * j.size := Nat.eq_of_beq_eq_true hrl
  have hsz : 0 < j.size := by simpa using hsz
  have h1 := hp.rep (β := β) (S := S) (a := a) (w := w) (l := (Op.buildSlice ty len parts).operands) (fun t ht => he t (by simp only [Oper.looksAt, List.mem_append, List.mem_filterMap]; exact .inl ⟨_, by simpa using ht, rfl⟩)) rfl (by
    intro x hx
    simp only [Op.operands, List.mem_toArray, List.mem_map]
    exact ⟨x, hx, rfl⟩)
  have hc : D.RepL β S w (zeroD z (len * j.size)) ((List.range (len * j.size)).map fun q => z.cells[q % z.cells.size]!) := by
    have := D.RepL.p (β := β) (V.RepL.x (S := S) (w := w) (l := (List.range (len * j.size)).map fun q => z.cells[q % z.cells.size]!))
    rw [List.map_map, List.map_map] at this
    exact this
  obtain ⟨us, h2, h3⟩ := fill_rep _ h1 hc hf
  have hul : us.length = len * j.size := h3.len.trans hrl
  obtain ⟨k1, k2⟩ := hH.newBox (e := e) (sz := j.size) (q := len) (cur := us.toArray) h3 (List.prefix_refl _) (fun h0 => by omega) (fun _ => ⟨by simpa using hul, by simp only [maxLen]; omega⟩)
  have he' : ∀ b, S b → b < w.heap.size → (w.alloc (.cells us.toArray e)).heap[b]? = w.heap[b]? := fun b _ hb => Below.heap_alloc _ _ _ hb
  have hS' : ∀ b, S b → b < w.heap.size → S b ∧ b ≠ w.heap.size := fun b h hb => ⟨h, by omega⟩
  refine wp_value (v := .slice (some ⟨w.heap.size, 0, none⟩) len len) (w' := w.alloc (.cells us.toArray e)) ?_ (hK _ _ _ _ k1 ⟨fun i e _ h => k2 i e h, he', hS'⟩ fun _ => .inr ⟨w.heap.size, len, ?_, Nat.le_refl _, rfl⟩)
  · have e3 : ((Array.range (len * j.size)).map fun q => z.cells[q % z.cells.size]!) = ((List.range (len * j.size)).map fun q => z.cells[q % z.cells.size]!).toArray := by
      apply Array.ext'; simp
    have hge : ¬ len * j.size > 2 ^ 24 := by omega
    by_cases h0 : len * j.size = 0
    · rw [h0] at h2
      simp only [List.range_zero, List.map_nil] at h2
      have h2' : Instr.fill (fun i => some (i * j.size, j.size)) #[] (List.map (fun x => (x.fst, a.eval x.snd)) parts.toList) = some us.toArray := h2
      simp only [execOp, Instr.buildSlice, Sem.run_bind, run_underlying h.ut, Result.andThen_ok, run_sizeOf' h'.ti, if_neg hge, Sem.run_pure, h0]
      have hge0 : ¬ (0 : Nat) > 2 ^ 24 := by omega
      have hr0 : Array.range 0 = #[] := rfl
      simp only [if_neg hge0, if_true, Sem.run_bind, Sem.run_pure, Result.andThen_ok, Array.toList_map, hr0, List.map_toArray, List.map_nil]
      rw [h2']
      simp [newRow, go_sem]
    · simp only [execOp, Instr.buildSlice, Sem.run_bind, run_underlying h.ut, Result.andThen_ok, run_sizeOf' h'.ti, if_neg hge, if_neg h0, Sem.run_pure, run_zeroValue' h'.ti hz]
      simp only [Array.toList_map, e3]
      rw [h2]
      simp [newRow, go_sem]
  · rw [← hH.len]; simp
theorem XTo.buildRow {ws : List Nat} {T : St → Prop} {k m : Nat} {past : List Past} {t : Tmp} {ty e ty1 : TypeId} {pos : String} {af : Array Edge} {len : Nat} {parts : Array (Nat × Operand)} {i j : TypeInfo} {u : TypeDesc} {z : Value} {ds : List (Nat × D)} {res : List D} [h : TyI P ty i (.slice e)] [h' : TyI P e j u] (hz : j.zero = some z) (hlen : Nat.ble (len * j.size) 16777216 = true) (hp : EvP ⟨tm, H⟩ true parts.toList ds)
    (hf : fillD (fun i => some (i * j.size, j.size)) (zeroD z (len * j.size)) ds = some res) (hlm : Nat.ble len 1000000 = true) (hrl : Nat.beq res.length (len * j.size) = true) (hsz : Nat.blt 0 j.size = true) (ht : Nat.blt t n = true) {H' : List (Option Box)} (hm : H.length = m) (hH' : H ++ [some ⟨res, e, j.size⟩] = H') (hw : ws.contains k = true) (hms : LateOk P n ops k none H' past)
    (kk : XTo P c n ops ws T (k + 1) rest ⟨(t, true, .row m len) :: tm, H'⟩ past) : XTo P c n ops ws T k (⟨some t, .buildSlice ty len parts, ty1, pos, af, none⟩ :: rest) ⟨tm, H⟩ past := by
  subst hm; subst hH'
  exact .write (kk := none) hw (WStep.buildRow hz hlen hp hf hlm hrl hsz ht) hms (by rw [Past.cl_none]; exact kk)
/-- an operation that changes boxes, its guard (if there is one) holds -/
theorem SymL.ofW {o : Oper} {kk : Option Nat} {H' : List (Option Box)} {d : D} (hg : GOk ops ⟨tm, H⟩ o true) (h : WStep P c n ops ⟨tm, H⟩ o kk H' d) (k : SymL P c n ops Q rest (St.put ⟨TM.cl kk tm, H'⟩ o.dst true d)) : SymL P c n ops Q (o :: rest) ⟨tm, H⟩ := by
  rintro a w ⟨β, S, hH, hd, hn, he⟩
  refine wpList_step fun K hK => ?_
  rw [hg.wanted (fun t _ => he t), if_pos rfl]
  refine h.run β S a w hH (fun t _ => he t) _ _ fun u β' S' w' hH' hmv hu => hK _ _ (k _ _ ⟨β', S', by rw [put_H]; exact hH', by rw [defers_put, hd], by rw [size_put, hn], ?_⟩)
  by_cases hdst : o.dst = none
  · rw [hdst]
    intro t g d hg
    obtain ⟨d', h1, rfl⟩ := TM.cl_get (kk := kk) hg
    obtain ⟨k1, k2⟩ := he t g d' h1
    exact ⟨k1, hmv.ent k2⟩
  · refine EntAt.put (s := ⟨TM.cl kk tm, H'⟩) (fun t => ?_) (fun q hq => by rw [hn]; exact dstOk.lt h.ds q hq) ⟨fun _ => hu hdst, fun h => by cases h⟩
    intro g d hg
    obtain ⟨d', h1, rfl⟩ := TM.cl_get (kk := kk) hg
    obtain ⟨k1, k2⟩ := he t g d' h1
    exact ⟨k1, hmv.ent k2⟩
theorem SymL.appendG {α : Type} (enc : α → List V) (l m : List α) {t0 : Tmp} {ty t e : TypeId} {pos : String} {af : Array Edge} {gd : Option (Nat × Bool)} {i j : TypeInfo} {u : TypeDesc} {z : Value} {x y : Operand} {k : Nat} {dy : D} {bz : Nat} [h : TyI P t i (.slice e)] [h' : TyI P e j u] (hg : GOk ops ⟨tm, H⟩ ⟨some t0, .call { callee := .builtin .append, args := #[x, y], argTypes := #[t, t] }, ty, pos, af, gd⟩ true) (hx : Ev ⟨tm, H⟩ true x (.row k l.length)) (hy : Ev ⟨tm, H⟩ true y dy) (hdv : DV dy (V.list enc m))
    (hb : H[k]? = some (some ⟨D.enc enc l, e, bz⟩)) (hbz : bz = j.size) (hz : j.zero = some z) (hzs : Nat.beq z.cells.size j.size = true) (hpos : Nat.blt 0 j.size = true) (hby : Nat.ble j.bytes 1000 = true) (hsz : ∀ q, (enc q).length = j.size) (hone : ∀ q, ∀ v ∈ enc q, v.one = true) (ht : Nat.blt t0 n = true) (hnm : l.length + m.length ≤ 1000000000) (hwr : c.ro = true → c.β0.length ≤ k) (hdead : k < c.β0.length → k ∈ c.dead)
    {H' : List (Option Box)} {tm' : List (Nat × Bool × D)} (hH' : (Hp.clean k H).set k (some ⟨D.enc enc (l ++ m), e, bz⟩) = H') (htm : TM.clean k tm = tm')
    (kk : SymL P c n ops Q rest ⟨(t0, true, .row k (l ++ m).length) :: tm', H'⟩) :
    SymL P c n ops Q (⟨some t0, .call { callee := .builtin .append, args := #[x, y], argTypes := #[t, t] }, ty, pos, af, gd⟩ :: rest) ⟨tm, H⟩ := by
  subst hH'; subst htm
  exact SymL.ofW hg (WStep.append enc l m hx hy hdv hb hbz hz hzs hpos hby hsz hone ht hnm hwr hdead) kk
theorem SymL.buildRow {t : Tmp} {ty e ty1 : TypeId} {pos : String} {af : Array Edge} {gd : Option (Nat × Bool)} {len m : Nat} {parts : Array (Nat × Operand)} {i j : TypeInfo} {u : TypeDesc} {z : Value} {ds : List (Nat × D)} {res : List D} [h : TyI P ty i (.slice e)] [h' : TyI P e j u] (hg : GOk ops ⟨tm, H⟩ ⟨some t, .buildSlice ty len parts, ty1, pos, af, gd⟩ true) (hz : j.zero = some z) (hlen : Nat.ble (len * j.size) 16777216 = true) (hp : EvP ⟨tm, H⟩ true parts.toList ds)
    (hf : fillD (fun i => some (i * j.size, j.size)) (zeroD z (len * j.size)) ds = some res) (hlm : Nat.ble len 1000000 = true) (hrl : Nat.beq res.length (len * j.size) = true) (hsz : Nat.blt 0 j.size = true) (ht : Nat.blt t n = true) {H' : List (Option Box)} (hm : H.length = m) (hH' : H ++ [some ⟨res, e, j.size⟩] = H')
    (kk : SymL P c n ops Q rest ⟨(t, true, .row m len) :: tm, H'⟩) : SymL P c n ops Q (⟨some t, .buildSlice ty len parts, ty1, pos, af, gd⟩ :: rest) ⟨tm, H⟩ := by
  subst hm; subst hH'
  exact SymL.ofW (kk := none) hg (WStep.buildRow hz hlen hp hf hlm hrl hsz ht) kk
/-- nil in a cell, as a row -/
theorem Le.cellRow (k q : Nat) (e : TypeId) (sz : Nat) {cs : List D} {be : TypeId} {bz : Nat} (hb : H[k]? = some (some ⟨cs, be, bz⟩)) (hq : cs[q]? = some (.p (.x (.slice none 0 0)))) (hz : Nat.blt 0 sz = true) {H' : List (Option Box)} (hH' : H.set k (some ⟨cs.set q (.row H.length 0), be, bz⟩) ++ [some ⟨[], e, sz⟩] = H') : Le c ⟨tm, H⟩ ⟨tm, H'⟩ := by
  subst hH'
  rintro n a w ⟨β, S, hH, hdf, hn, he⟩
  have hz : 0 < sz := by simpa using hz
  obtain ⟨h1, h2⟩ := hH.ghost (e := e) (show sz ≠ 0 by omega)
  have hk : k < H.length := (List.getElem?_eq_some_iff.1 hb).1
  have hgr : ∀ (i : Nat) (x : Box), (H.set k (some ⟨cs.set q (.row H.length 0), be, bz⟩) ++ [some ⟨[], e, sz⟩])[i]? = some (some x) → (i = k ∧ x = ⟨cs.set q (.row H.length 0), be, bz⟩) ∨ (H ++ [some ⟨[], e, sz⟩])[i]? = some (some x) := by
    intro i x hx
    by_cases hi : i = k
    · subst hi
      rw [List.getElem?_append_left (by simpa using hk), List.getElem?_set_self hk] at hx
      injection hx with hx
      injection hx with hx
      exact .inl ⟨rfl, hx.symm⟩
    · right
      rw [List.getElem?_append] at hx ⊢
      rw [List.length_set, List.getElem?_set_ne (Ne.symm hi)] at hx
      exact hx
  have hold : (H ++ [some ⟨[], e, sz⟩])[k]? = some (some ⟨cs, be, bz⟩) := by rw [List.getElem?_append_left hk]; exact hb
  refine ⟨_, S, { h1 with box := ?_, len := ?_, inj := ?_ }, hdf, hn, fun t' g d' hg => ?_⟩
  · intro i x hx
    rcases hgr i x hx with ⟨rfl, rfl⟩ | hx
    · rcases h1.box i _ hold with ⟨h3, h4, h5⟩ | ⟨b, cc, cur, us, h3, h4, h5, h6, h7, h8⟩
      · rw [show cs = [] from h5] at hq; simp at hq
      · refine .inr ⟨b, cc, cur, us, h3, h4, h5, ?_, h7, h8⟩
        have hu : ∃ y, us[q]? = some y ∧ (D.p (.x (.slice none 0 0))).Rep (β ++ [none]) S w y := h6.get hq
        obtain ⟨y, hy, hr⟩ := hu
        have h9 := D.RepL.set (e := .row H.length 0) (u := y) q h6 (.inl ⟨by rw [← hH.len]; simp, rfl, none, hr⟩)
        have hset : us.set q y = us := by
          apply List.ext_getElem?
          intro p
          by_cases hp : p = q
          · subst hp
            rw [List.getElem?_set_self (List.getElem?_eq_some_iff.1 hy).1, hy]
          · rw [List.getElem?_set_ne (Ne.symm hp)]
        rwa [hset] at h9
    · exact h1.box i x hx
  · have := h1.len
    simpa using this
  · intro i j x y b p q' hx hy hbx hby
    have hx' : ∃ x', (H ++ [some ⟨[], e, sz⟩])[i]? = some (some x') := by
      rcases hgr i x hx with ⟨rfl, rfl⟩ | hx
      · exact ⟨_, hold⟩
      · exact ⟨_, hx⟩
    have hy' : ∃ x', (H ++ [some ⟨[], e, sz⟩])[j]? = some (some x') := by
      rcases hgr j y hy with ⟨rfl, rfl⟩ | hx
      · exact ⟨_, hold⟩
      · exact ⟨_, hx⟩
    obtain ⟨x', hx'⟩ := hx'
    obtain ⟨y', hy'⟩ := hy'
    exact h1.inj i j x' y' b p q' hx' hy' hbx hby
  · obtain ⟨k1, k2, k3⟩ := he t' g d' hg
    exact ⟨k1, fun hg => (k2 hg).mono h2 (fun _ _ _ => rfl) fun _ h _ => h, k3⟩
end
/-! ### calls that are handed rows of the call's own, to read -/
/-- a value without addresses at all -/
def V.bare : V → Bool
  | .x _ => true
  | _ => false
def V.bareL : List V → Bool
  | [] => true
  | v :: l => v.bare && V.bareL l
def V.bareT : V → Bool
  | .tup l => V.bareL l
  | v => v.bare
theorem V.Rep.bare {S S' : Nat → Prop} {w : World} {v : V} {u : Value} (hb : v.bare = true) (h : v.Rep S w u) : v.Rep S' w u := by
  cases v <;> first | exact h | simp [V.bare] at hb
theorem V.RepL.bare {S S' : Nat → Prop} {w : World} : ∀ {l : List V} {us : List Value}, V.bareL l = true → V.RepL S w l us → V.RepL S' w l us
  | [], _, _, h => h
  | v :: l, _, hb, h => by
    simp only [V.bareL, Bool.and_eq_true] at hb
    obtain ⟨y, ys, h1, h2, h3⟩ := h
    exact ⟨y, ys, h1, h2.bare hb.1, V.RepL.bare hb.2 h3⟩
theorem V.Rep.bareT {S S' : Nat → Prop} {w : World} {v : V} {u : Value} (hb : v.bareT = true) (h : v.Rep S w u) : v.Rep S' w u := by
  cases v with
  | tup l =>
    obtain ⟨us, h1, h2⟩ := h
    exact ⟨us, h1, h2.bare hb⟩
  | x u => exact h
  | _ => simp [V.bareT, V.bare] at hb
mutual
/-- a datum of the call's, read as one without addresses: rows (or their beginnings) as slices -/
inductive DRd (H : List (Option Box)) : D → V → Prop
  | of {d : D} {v : V} : DV d v → DRd H d v
  | row {i n : Nat} {x : Box} {ds : List D} {vs : List V} : H[i]? = some (some x) → x.sz ≠ 0 → x.cs.take (n * x.sz) = ds → ds.length = n * x.sz → DRdL H ds vs → DRd H (.row i n) (.sl n vs)
  | agg {ds : List D} {vs : List V} : DRdL H ds vs → DRd H (.agg ds) (.agg vs)
inductive DRdL (H : List (Option Box)) : List D → List V → Prop
  | nil : DRdL H [] []
  | cons {d : D} {v : V} {ds : List D} {vs : List V} : DRd H d v → DRdL H ds vs → DRdL H (d :: ds) (v :: vs)
end
theorem DRdL.p (H : List (Option Box)) : ∀ l : List V, DRdL H (l.map D.p) l
  | [] => .nil
  | _ :: l => .cons (.of (.of rfl)) (DRdL.p H l)
section
variable {H : List (Option Box)} {β : List Place} {S : Nat → Prop} {w : World}
/-- with the blocks of all boxes -/
abbrev withBoxes (β : List Place) (S : Nat → Prop) (b : Nat) : Prop := S b ∨ ∃ (i : Nat) (q : Nat), β[i]? = some (some (b, q))
mutual
theorem DRd.rep (hH : HOk H β S w) : ∀ {d : D} {v : V} {u : Value}, DRd H d v → d.Rep β S w u → v.Rep (withBoxes β S) w u
  | _, _, _, .of h, hr => (h.rep hr).mono (fun _ _ _ => rfl) fun b hb _ => .inl hb
  | .row i n, _, u, @DRd.row _ _ _ x ds vs hi hz hd hl hv, hr => by
    rcases hr with ⟨h1, rfl, a, rfl⟩ | ⟨b, c, h1, h2, rfl⟩
    · have : ds = [] := List.eq_nil_of_length_eq_zero (by simpa using hl)
      subst this
      cases hv
      exact ⟨a, 0, [], rfl, Nat.le_refl _, by simp [maxLen], rfl, fun q y hq => by simp at hq⟩
    · rcases hH.box i x hi with ⟨h3, _, _⟩ | ⟨b', c', cur, us, h3, h4, h5, h6, h7, h8, h9⟩
      · rw [h1] at h3; cases h3
      · rw [h1] at h3
        injection h3 with h3
        injection h3 with h3
        injection h3 with h3 h3'
        subst h3; subst h3'
        have hk := h6.take (n * x.sz)
        rw [hd] at hk
        refine ⟨_, c, us.take (n * x.sz), rfl, h2, (h9 hz).2, DRdL.rep hH hv hk, ?_⟩
        intro q y hq
        refine ⟨b, 0, rfl, ?_, .inr ⟨i, c, h1⟩⟩
        have hq' : us[q]? = some y := by
          rw [List.getElem?_take] at hq
          split at hq
          · exact hq
          · cases hq
        have hq2 := prefix_get h7 hq'
        have := World.news_of_block h5 q y (by simpa using hq2)
        simpa [add_lit] using this
  | _, _, _, .agg h, hr => by
    obtain ⟨us, h1, h2⟩ := hr
    exact ⟨us, h1, DRdL.rep hH h h2⟩
theorem DRdL.rep (hH : HOk H β S w) : ∀ {ds : List D} {vs : List V} {us : List Value}, DRdL H ds vs → D.RepL β S w ds us → V.RepL (withBoxes β S) w vs us
  | _, _, _, .nil, hr => hr
  | _, _, _, .cons h hs, hr => by
    obtain ⟨y, ys, h1, h2, h3⟩ := hr
    exact ⟨y, ys, h1, DRd.rep hH h h2, DRdL.rep hH hs h3⟩
end
end
/-- a row, as a list -/
theorem DRd.list {α : Type} {enc : α → List V} {l : List α} {i : Nat} {H : List (Option Box)} {e : TypeId} {sz : Nat} (h : H[i]? = some (some ⟨D.enc enc l, e, sz⟩)) (hsz : ∀ q, (enc q).length = sz) (hz : Nat.blt 0 sz = true) : DRd H (.row i l.length) (V.list enc l) := by
  have hz : 0 < sz := by simpa using hz
  have hl : (D.enc enc l).length = l.length * sz := by simp [D.enc, flat_len hsz]
  refine .row h (by show sz ≠ 0; omega) (List.take_of_length_le (Nat.le_of_eq hl)) hl (DRdL.p _ _)
/-- a row's beginning -/
theorem DRd.pre {α : Type} {enc : α → List V} {l : List α} {i n : Nat} {H : List (Option Box)} {e : TypeId} {sz : Nat} (h : H[i]? = some (some ⟨D.enc enc l, e, sz⟩)) (hn : n ≤ l.length) (hsz : ∀ q, (enc q).length = sz) (hz : Nat.blt 0 sz = true) : DRd H (.row i n) (V.list enc (l.take n)) := by
  have hz : 0 < sz := by simpa using hz
  have hl : (l.take n).length = n := by simp [hn]
  have ht : (D.enc enc l).take (n * sz) = D.enc enc (l.take n) := by
    rw [D.enc, ← List.map_take, V.cutT hsz]
  have hl' : (D.enc enc (l.take n)).length = n * sz := by simp only [D.enc, List.length_map, flat_len hsz, hl]
  have := DRd.row (H := H) (i := i) (n := n) h (by show sz ≠ 0; omega) ht hl' (DRdL.p _ _)
  unfold V.list
  rw [hl]
  exact this
inductive EvRd (s : St) (g : Bool) : List Operand → List V → Prop
  | nil : EvRd s g [] []
  | cons {x : Operand} {xs : List Operand} {d : D} {v : V} {vs : List V} : Ev s g x d → DRd s.H d v → EvRd s g xs vs → EvRd s g (x :: xs) (v :: vs)
section
variable {P : Program} {s : St} {g : Bool} {dst : Option Tmp} {ty : TypeId} {pos : String} {af : Array Edge} {gd : Option (Nat × Bool)}
theorem EvRd.rep {l : Array Operand} {β : List Place} {S : Nat → Prop} {a : Act} {w : World} (hH : HOk s.H β S w) (he : ∀ t, .tmp t ∈ l → EntAt s β S w a t) (hg : g = true) : ∀ {xs : List Operand} {vs : List V}, EvRd s g xs vs → (∀ x ∈ xs, x ∈ l) → V.RepL (withBoxes β S) w vs (xs.map a.eval)
  | _, _, .nil, _ => rfl
  | _, _, .cons h hd hs, hm => ⟨_, _, rfl, hd.rep hH (h.rep (hm _ List.mem_cons_self) he hg), EvRd.rep hH he hg hs fun x hx => hm x (List.mem_cons_of_mem _ hx)⟩
/-- a call that reads rows of the call's own, and comes back with numbers -/
theorem MOp.callV {f : Operand} {k : FuncId} {as : Array Operand} {ts : Array TypeId} {vs : List V} {r : V} (hf : Ev s g f (.p (.x (.func (.func k) #[] #[])))) (hc : g = true → Fn1 P k vs r) (hr : r.bareT = true) (ha : EvRd s g as.toList vs) :
    MOp P s ⟨dst, .call { callee := .value f, args := as, argTypes := ts }, ty, pos, af, gd⟩ g (.p r) := by
  refine ⟨fun β S a w ho he hg K Q hK => ?_⟩
  have hm : ∀ x ∈ as.toList, x ∈ (Op.call { callee := .value f, args := as, argTypes := ts }).operands := fun x hx => by
    simp only [Op.operands, Call.operands, Array.mem_append]
    exact .inr (by simpa using hx)
  have h1 : a.eval f = .func (.func k) #[] #[] := hf.rep (l := (Op.call { callee := .value f, args := as, argTypes := ts }).operands) (by simp [Op.operands, Call.operands]) he hg
  have h2 := EvRd.rep ho he hg ha hm
  have h3 := (hc hg).calls (withBoxes β S) w _ (fun b hb => .inl (ho.up b hb)) h2
  unfold Oper.wp
  have hrun : (execOp a.eval ⟨dst, .call { callee := .value f, args := as, argTypes := ts }, ty, pos, af, gd⟩).run P w = .ok (.enter k (as.map a.eval)) w := by
    simp [execOp, resolve, h1, Deferred.ofValue, invoke, (hc hg).enter]
  rw [hrun]
  show Calls P k (as.map a.eval) w _
  have e : as.map a.eval = (as.toList.map a.eval).toArray := by apply Array.ext'; simp
  rw [e]
  refine h3.mono ?_
  rintro e w' ⟨u, rfl, hx, hrr⟩
  exact hK u w' hx (V.Rep.bareT hr hrr)
end
/-! ### slice literals that hold what leads to boxes -/
section
variable {P : Program} {s : St} {g : Bool} {dst : Option Tmp} {ty : TypeId} {pos : String} {af : Array Edge} {gd : Option (Nat × Bool)}
theorem MOp.buildLit {t e : TypeId} {len : Nat} {parts : Array (Nat × Operand)} {i j : TypeInfo} {u : TypeDesc} {z : Value} {ds : List (Nat × D)} {res : List D} [h : TyI P t i (.slice e)] [h' : TyI P e j u] (hz : j.zero = some z) (hlen : Nat.ble (len * j.size) 16777216 = true) (hp : EvP s g parts.toList ds)
    (hf : fillD (fun i => some (i * j.size, j.size)) (zeroD z (len * j.size)) ds = some res) (hlm : Nat.ble len 1000000 = true) : MOp P s ⟨dst, .buildSlice t len parts, ty, pos, af, gd⟩ g (.lit len res) := by
  refine ⟨fun β S a w ho he hg K Q hK => ?_⟩
  have hlen : len * j.size ≤ 16777216 := by simpa using hlen
  have hlm : len ≤ 1000000 := by simpa using hlm
  have h1 := hp.rep (l := (Op.buildSlice t len parts).operands) he hg (by
    intro x hx
    simp only [Op.operands, List.mem_toArray, List.mem_map]
    exact ⟨x, hx, rfl⟩)
  have hc : D.RepL β S w (zeroD z (len * j.size)) ((List.range (len * j.size)).map fun q => z.cells[q % z.cells.size]!) := by
    have := D.RepL.p (β := β) (V.RepL.x (S := S) (w := w) (l := (List.range (len * j.size)).map fun q => z.cells[q % z.cells.size]!))
    rw [List.map_map, List.map_map] at this
    exact this
  obtain ⟨us, h2, h3⟩ := fill_rep _ h1 hc hf
  have hx : Ext w (w.alloc (.cells us.toArray e)) := (Ext.refl w).alloc _
  refine wp_value (v := .slice (some ⟨w.heap.size, 0, none⟩) len len) (w' := w.alloc (.cells us.toArray e)) ?_ (hK _ _ hx ⟨_, us, rfl, by simp only [maxLen]; omega, h3.ext hx, ?_⟩)
  · have e3 : ((Array.range (len * j.size)).map fun q => z.cells[q % z.cells.size]!) = ((List.range (len * j.size)).map fun q => z.cells[q % z.cells.size]!).toArray := by
      apply Array.ext'; simp
    have hge : ¬ len * j.size > 2 ^ 24 := by omega
    by_cases h0 : len * j.size = 0
    · rw [h0] at h2
      simp only [List.range_zero, List.map_nil] at h2
      have h2' : Instr.fill (fun i => some (i * j.size, j.size)) #[] (List.map (fun x => (x.fst, a.eval x.snd)) parts.toList) = some us.toArray := h2
      simp only [execOp, Instr.buildSlice, Sem.run_bind, run_underlying h.ut, Result.andThen_ok, run_sizeOf' h'.ti, if_neg hge, Sem.run_pure, h0]
      have hge0 : ¬ (0 : Nat) > 2 ^ 24 := by omega
      have hr0 : Array.range 0 = #[] := rfl
      simp only [if_neg hge0, if_true, Sem.run_bind, Sem.run_pure, Result.andThen_ok, Array.toList_map, hr0, List.map_toArray, List.map_nil]
      rw [h2']
      simp [newRow, go_sem]
    · simp only [execOp, Instr.buildSlice, Sem.run_bind, run_underlying h.ut, Result.andThen_ok, run_sizeOf' h'.ti, if_neg hge, if_neg h0, Sem.run_pure, run_zeroValue' h'.ti hz]
      simp only [Array.toList_map, e3]
      rw [h2]
      simp [newRow, go_sem]
  · intro q y hq
    refine ⟨w.heap.size, 0, rfl, ?_, ho.up _ (Nat.le_refl _)⟩
    have := World.news_of_block (heap_alloc_new w (.cells us.toArray e)) q y (by simpa using hq)
    rwa [add_lit] at this
theorem MOp.lenLit {m : Nat} {cs : List D} {x : Operand} {t e : TypeId} {i : TypeInfo} [h : TyI P t i (.slice e)] (hx : Ev s g x (.lit m cs)) :
    MOp P s ⟨dst, .call { callee := .builtin .len, args := #[x], argTypes := #[t] }, ty, pos, af, gd⟩ g (.p (.i m)) :=
  MOp.of1 hx (by simp [Op.operands, Call.operands]) fun β S w ρ _ hr => by
    obtain ⟨a, us, h1, h2⟩ := hr
    refine ⟨.int .i64 m, ?_, rfl⟩
    simp [execOp, resolve, invoke, builtin, h1, Builtin.len_, run_underlying h.ut, goInt]
theorem MOp.indexLit {m : Nat} {cs ds : List D} {d : D} {x y : Operand} {t e : TypeId} {k : IntKind} {n : Int} {i j : TypeInfo} {u : TypeDesc} [h : TyI P t i (.slice e)] [h' : TyI P e j u] (hx : Ev s g x (.lit m cs)) (hy : Ev s g y (.p (.x (.int k n))))
    (hz : (j.size == 0) = false) (hb : g = true → 0 ≤ n ∧ n < m) (hd : cs.drop (n.toNat * j.size) = d :: ds) : MOp P s ⟨dst, .indexAddr t x y, ty, pos, af, gd⟩ g (.refD (d :: ds)) := by
  refine ⟨fun β S a w ho he hg K Q hK => ?_⟩
  have hz : ¬ j.size = 0 := by simpa using hz
  obtain ⟨h0, hlt⟩ := hb hg
  have r1 := hx.rep (l := (Op.indexAddr t x y).operands) (by simp [Op.operands]) he hg
  have r2 : a.eval y = .int k n := hy.rep (l := (Op.indexAddr t x y).operands) (by simp [Op.operands]) he hg
  obtain ⟨ad, us, h1, h2, h4, h5⟩ := r1
  have hr := h4.drop (n.toNat * j.size)
  rw [hd] at hr
  obtain ⟨y0, ys, hus, _⟩ := id hr
  have hy1 : us[n.toNat * j.size]? = some y0 := by
    have := congrArg (·[0]?) hus
    simpa using this
  obtain ⟨b, o, h6, h7, h8⟩ := h5 _ _ hy1
  subst h6
  refine wp_value (v := .pointer (some ⟨b, o + n.toNat * j.size, none⟩)) (w' := w) ?_ (hK _ w (Ext.refl w) ⟨_, _, rfl, hr, h5.drop _⟩)
  simp [execOp, h1, r2, Instr.indexAt, asIntOf, run_underlying h.ut, h0, hlt, run_sizeOf' h'.ti, add_lit]
theorem MOp.loadD {x : Operand} {t : TypeId} {i : TypeInfo} {u : TypeDesc} {d : D} {ds : List D} [h : TyI P t i u] (hx : Ev s g x (.refD (d :: ds))) (hu : TypeDesc.isAgg u = false) : MOp P s ⟨dst, .load t x, ty, pos, af, gd⟩ g d :=
  MOp.of1 hx (by simp [Op.operands]) fun β S w ρ _ hr => by
    obtain ⟨a, us, h1, h2, h3⟩ := hr
    obtain ⟨y, h4, h5⟩ := h2.get (i := 0) rfl
    obtain ⟨b, o, h6, h7⟩ := h3.at0 h4
    injection h6 with h6
    subst h6
    refine ⟨y, ?_, h5⟩
    simp only [execOp, h1, Sem.run_bind, run_loadAt', hu]
    simp only [Nat.add_zero] at h7
    simp [run_load, h7]
/-- an operation that is not done -/
theorem MOp.off {o : Oper} (hg : g = false) : MOp P s o g .any := ⟨fun _ _ _ _ _ _ h => by rw [hg] at h; cases h⟩
end
/-! ### numbers, where a guard holds -/
section
variable {P : Program} {s : St} {g : Bool} {dst : Option Tmp} {ty : TypeId} {pos : String} {af : Array Edge} {gd : Option (Nat × Bool)} {x y : Operand} {k : IntKind} {a b : Int} {t t' : TypeId}
theorem MOp.remG (hx : Ev s g x (.p (.x (.int k a)))) (hy : Ev s g y (.p (.x (.int k b)))) (hb : g = true → b ≠ 0) : MOp P s ⟨dst, .binOp .rem t x y t', ty, pos, af, gd⟩ g (.p (.x (.int k (a.tmod b)))) := by
  refine ⟨fun β S A w ho he hg => ?_⟩
  exact (MOp.rem hx hy (hb hg)).run β S A w ho he hg
theorem MOp.quoG (hx : Ev s g x (.p (.x (.int k a)))) (hy : Ev s g y (.p (.x (.int k b)))) (hb : g = true → b ≠ 0) : MOp P s ⟨dst, .binOp .quo t x y t', ty, pos, af, gd⟩ g (.p (.x (.int k (k.wrap (a.tdiv b))))) := by
  refine ⟨fun β S A w ho he hg => ?_⟩
  exact (MOp.quo hx hy (hb hg)).run β S A w ho he hg
theorem MOp.minI (hx : Ev s g x (.p (.x (.int k a)))) (hy : Ev s g y (.p (.x (.int k b)))) : MOp P s ⟨dst, .call { callee := .builtin .min, args := #[x, y], argTypes := #[t, t'] }, ty, pos, af, gd⟩ g (.p (.x (.int k (if b < a then b else a)))) :=
  MOp.of2 hx hy (by simp [Op.operands, Call.operands]) (by simp [Op.operands, Call.operands]) fun β S w ρ _ h1 h2 => by
    have h1 : ρ x = .int k a := h1
    have h2 : ρ y = .int k b := h2
    refine ⟨.int k (if b < a then b else a), ?_, rfl⟩
    simp [execOp, resolve, invoke, builtin, h1, h2, Builtin.min_, Builtin.min2]
theorem MOp.maxI (hx : Ev s g x (.p (.x (.int k a)))) (hy : Ev s g y (.p (.x (.int k b)))) : MOp P s ⟨dst, .call { callee := .builtin .max, args := #[x, y], argTypes := #[t, t'] }, ty, pos, af, gd⟩ g (.p (.x (.int k (if b > a then b else a)))) :=
  MOp.of2 hx hy (by simp [Op.operands, Call.operands]) (by simp [Op.operands, Call.operands]) fun β S w ρ _ h1 h2 => by
    have h1 : ρ x = .int k a := h1
    have h2 : ρ y = .int k b := h2
    refine ⟨.int k (if b > a then b else a), ?_, rfl⟩
    simp [execOp, resolve, invoke, builtin, h1, h2, Builtin.max_, Builtin.max2]
end
/-! ### what a pointer leads to, as an aggregate -/
def takeV : Nat → List V → Option (List V)
  | 0, _ => some []
  | _ + 1, [] => none
  | n + 1, v :: l => match takeV n l with
    | some vs => some (v :: vs)
    | none => none
theorem takeV_eq : ∀ {n : Nat} {l vs : List V}, takeV n l = some vs → l.take n = vs ∧ n ≤ l.length
  | 0, _, _, h => by simp only [takeV, Option.some.injEq] at h; subst h; simp
  | _ + 1, [], _, h => by simp [takeV] at h
  | n + 1, v :: l, vs, h => by
    simp only [takeV] at h
    split at h
    · rename_i vs' h'
      injection h with h
      subst h
      obtain ⟨h1, h2⟩ := takeV_eq h'
      exact ⟨by rw [List.take_succ_cons, h1], by simp; omega⟩
    · cases h
theorem MOp.loadRV {P : Program} {s : St} {g : Bool} {dst : Option Tmp} {ty : TypeId} {pos : String} {af : Array Edge} {gd : Option (Nat × Bool)} {x : Operand} {t : TypeId} {i : TypeInfo} {u : TypeDesc} {cs vs : List V} [h : TyI P t i u] (hx : Ev s g x (.p (.ref cs))) (hu : TypeDesc.isAgg u = true) (hv : takeV i.size cs = some vs) : MOp P s ⟨dst, .load t x, ty, pos, af, gd⟩ g (.p (.agg vs)) := by
  obtain ⟨h1, h2⟩ := takeV_eq hv
  subst h1
  exact MOp.loadRA hx hu h2
/-! ### s[:n] of a row; a cut with ways out -/
section
variable {P : Program} {s : St} {g : Bool} {dst : Option Tmp} {ty : TypeId} {pos : String} {af : Array Edge} {gd : Option (Nat × Bool)}
theorem MOp.sliceRow {x z : Operand} {t e : TypeId} {i j : TypeInfo} {u : TypeDesc} {k m : Nat} {kk : IntKind} {hi : Int} [h : TyI P t i (.slice e)] [h' : TyI P e j u] (hx : Ev s g x (.row k m)) (hz : Ev s g z (.p (.x (.int kk hi)))) (hb : g = true → 0 ≤ hi ∧ hi ≤ m) :
    MOp P s ⟨dst, .slice t x none (some z) none, ty, pos, af, gd⟩ g (.row k hi.toNat) := by
  refine ⟨fun β S a w ho he hg K Q hK => ?_⟩
  obtain ⟨b2, b3⟩ := hb hg
  have r1 := hx.rep (l := (Op.slice t x none (some z) none).operands) (by simp [Op.operands]) he hg
  have r3 : a.eval z = .int kk hi := hz.rep (l := (Op.slice t x none (some z) none).operands) (by simp [Op.operands]) he hg
  have hu : P.underlying t = some (.slice (P.elem t)) := by simp [Program.elem, h.ut]
  have hel : P.elem t = e := by simp [Program.elem, h.ut]
  obtain ⟨ad, c, h1, hcap, hr⟩ : ∃ ad c, a.eval x = .slice ad m c ∧ hi ≤ (c : Int) ∧ (D.row k hi.toNat).Rep β S w (Go.sliced ad 0 hi.toNat c j.size) := by
    rcases r1 with ⟨k1, k2, ad, k3⟩ | ⟨b, c, k1, k2, k3⟩
    · refine ⟨ad, 0, by rw [k3, k2], by omega, .inl ⟨k1, by omega, ?_⟩⟩
      have : hi.toNat = 0 := by omega
      rw [this]
      exact ⟨_, rfl⟩
    · refine ⟨_, c, k3, by omega, .inr ⟨b, c, k1, by omega, ?_⟩⟩
      by_cases h0 : c = 0
      · subst h0
        have : hi.toNat = 0 := by omega
        rw [this]
        simp [Go.sliced, Addr.add]
      · simp [Go.sliced, Addr.add]
  refine wp_value (v := Go.sliced ad 0 hi.toNat c j.size) (w' := w) ?_ (hK _ w (Ext.refl w) hr)
  simp only [execOp, h1, r3, Option.map_some, Option.map_none, Sem.run_bind]
  rw [run_sliceAt_slice w t _ _ _ _ hu, run_slice_h w t ad m c hu kk hi b2 hcap, hel, run_sizeOf' h'.ti]
  rfl
end
section
variable {P : Program} {c : Ctx} {n : Nat} {Q Q' : Exit → St → Prop} {s : St} {x y : Code} {α : Type}
theorem Sym.cutE (I : α → St) (good : α → Prop) (h1 : Sym P c n x (thenS (fun s => ∃ a, good a ∧ Le c s (I a)) Q') s) (h2 : ∀ a, good a → Sym P c n y Q (I a)) : Sym P c n x (thenS (Sym P c n y Q) Q') s := by
  refine h1.mono fun e s he => ?_
  cases e with
  | normal =>
    obtain ⟨a, ha, hl⟩ := he
    exact Sym.weak hl (h2 a ha)
  | _ => exact he
end
theorem flat_drop {α β : Type} (enc : α → List β) (k : Nat) (hk : ∀ q, (enc q).length = k) : ∀ (l : List α) (i : Nat) (el : α), l[i]? = some el → ((l.flatMap enc).drop (i * k)).take k = enc el ∧ i * k + k ≤ (l.flatMap enc).length
  | [], i, el, h => by simp at h
  | a :: l, 0, el, h => by
    simp only [List.getElem?_cons_zero, Option.some.injEq] at h
    subst h
    refine ⟨?_, ?_⟩
    · rw [Nat.zero_mul, List.drop_zero, List.flatMap_cons, ← hk a, List.take_left']
      rfl
    · rw [Nat.zero_mul, Nat.zero_add, List.flatMap_cons, List.length_append, hk a]
      omega
  | a :: l, i + 1, el, h => by
    simp only [List.getElem?_cons_succ] at h
    obtain ⟨h1, h2⟩ := flat_drop enc k hk l i el h
    rw [show (i + 1) * k = k + i * k by rw [Nat.add_mul, Nat.one_mul, Nat.add_comm], List.flatMap_cons]
    refine ⟨?_, ?_⟩
    · rw [← List.drop_drop]
      conv => lhs; arg 2; arg 2; rw [← hk a]
      rw [List.drop_left']
      · exact h1
      · rfl
    · rw [List.length_append, hk a]
      omega
section
variable {P : Program} {s : St} {g : Bool} {dst : Option Tmp} {ty : TypeId} {pos : String} {af : Array Edge} {gd : Option (Nat × Bool)}
/-- an element of several cells, out of a row -/
theorem MOp.loadRow {α : Type} {enc : α → List V} {l : List α} {el : α} {x : Operand} {t : TypeId} {i : TypeInfo} {u : TypeDesc} {k off j : Nat} {be : TypeId} {bz : Nat} [h : TyI P t i u] (hx : Ev s g x (.ptr k off)) (hb : s.H[k]? = some (some ⟨(l.flatMap enc).map D.p, be, bz⟩)) (hu : TypeDesc.isAgg u = true) (hoff : off = j * i.size) (hsz : ∀ q, (enc q).length = i.size) (hel : l[j]? = some el) :
    MOp P s ⟨dst, .load t x, ty, pos, af, gd⟩ g (.p (.agg (enc el))) := by
  subst hoff
  obtain ⟨h1, h2⟩ := flat_drop enc i.size hsz l j el hel
  refine MOp.loadAV (vs := enc el) hx hb hu (by simpa using h2) ?_
  rw [← List.map_drop, ← List.map_take, h1]
  exact D.toVL_p _
end
/-! ### structs of numbers: are they the same? -/
def V.intsOf : List V → Option (List Int)
  | [] => some []
  | .x (.int .i64 a) :: l => (V.intsOf l).map (a :: ·)
  | _ => none
def intFields (P : Program) : Nat → List Field → Bool
  | _, [] => true
  | o, f :: fs => (f.name != "_") && (f.offset == o) && (match P.underlying f.type with | some (.int _) => true | _ => false) && intFields P (o + 1) fs
theorem V.intsOf_rep {S : Nat → Prop} {w : World} : ∀ {l : List V} {as : List Int} {us : List Value}, V.intsOf l = some as → V.RepL S w l us → us = as.map (Value.int .i64)
  | [], as, us, h, hr => by
    simp only [V.intsOf, Option.some.injEq] at h
    subst h
    exact hr
  | .x (.int .i64 a) :: l, as, us, h, hr => by
    simp only [V.intsOf, Option.map_eq_some_iff] at h
    obtain ⟨bs, h1, rfl⟩ := h
    obtain ⟨y, ys, rfl, h3, h4⟩ := hr
    rw [V.intsOf_rep h1 h4, show y = _ from h3]
    rfl
theorem run_eqFields_ints {P : Program} (w : World) (d : Nat) (xs ys : List Value) : ∀ (fs : List Field) (as bs : List Int) (o : Nat), intFields P o fs = true → as.length = fs.length → bs.length = fs.length → xs.drop o = as.map (Value.int .i64) → ys.drop o = bs.map (Value.int .i64) →
    (Op.eqFields (d + 1) xs.toArray ys.toArray fs).run P w = .ok (as == bs) w
  | [], as, bs, o, _, ha, hb, _, _ => by
    obtain rfl := List.length_eq_zero_iff.1 ha
    obtain rfl := List.length_eq_zero_iff.1 hb
    rfl
  | f :: fs, a :: as, b :: bs, o, h, ha, hb, hx, hy => by
    simp only [intFields, Bool.and_eq_true, bne_iff_ne, ne_eq, beq_iff_eq] at h
    obtain ⟨⟨⟨h1, h2⟩, h3⟩, h4⟩ := h
    obtain ⟨q, hq⟩ : ∃ q, P.underlying f.type = some (.int q) := by
      split at h3
      · exact ⟨_, ‹_›⟩
      · cases h3
    have hp : ∀ (us : List Value) (v : Value) (vs : List Value), us.drop o = v :: vs → (part f.type us.toArray f.offset).run P w = .ok v w := by
      intro us v vs hd
      have hv : us[o]? = some v := by rw [← Nat.add_zero o, ← List.getElem?_drop, hd]; rfl
      unfold part
      rw [Sem.run_bind, run_isAgg' hq, h2]
      simp [TypeDesc.isAgg, hv]
    have hn : ∀ (us : List Value) (v : Value) (vs : List Value), us.drop o = v :: vs → us.drop (o + 1) = vs := by
      intro us v vs hd
      rw [← List.drop_drop, hd]
      rfl
    rw [List.map_cons] at hx hy
    simp only [Op.eqFields, if_pos (show f.name ≠ "_" from h1), Sem.run_bind, hp _ _ _ hx, hp _ _ _ hy, Result.andThen_ok, run_equalIn_int w d f.type .i64 q a b hq]
    by_cases hab : a = b
    · subst hab
      simp only [beq_self_eq_true, Bool.not_true, Bool.false_eq_true, if_false]
      rw [run_eqFields_ints w d xs ys fs as bs (o + 1) h4 (by simpa using ha) (by simpa using hb) (hn _ _ _ hx) (hn _ _ _ hy)]
      simp
    · have e : (a == b) = false := by simpa using hab
      simp [e, hab]
  | f :: fs, [], _, _, _, ha, _, _, _ => by simp at ha
  | f :: fs, _, [], _, _, _, hb, _, _ => by simp at hb
section
variable {P : Program} {s : St} {g : Bool} {dst : Option Tmp} {ty : TypeId} {pos : String} {af : Array Edge} {gd : Option (Nat × Bool)} {x y : Operand} {t t' : TypeId} {i : TypeInfo} {fs : Array Field} {vs vs' : List V} {as bs : List Int}
theorem run_equal_ints (w : World) (us vs : List Value) (hu : P.underlying t = some (.struct fs)) (hp : P.stoodInHeld t = false) (hf : intFields P 0 fs.toList = true) (hla : as.length = fs.toList.length) (hlb : bs.length = fs.toList.length) (h1 : us = as.map (Value.int .i64)) (h2 : vs = bs.map (Value.int .i64)) :
    (Op.equalIn 10000 t (.agg us.toArray) (.agg vs.toArray)).run P w = .ok (as == bs) w := by
  have e : P.fieldsOf t = fs := by simp [Program.fieldsOf, hu]
  rw [run_equalIn_struct w 9999 t us.toArray vs.toArray (by rw [e]; exact hu) hp, e]
  exact run_eqFields_ints w 9998 us vs fs.toList as bs 0 hf hla hlb (by simpa using h1) (by simpa using h2)
theorem MOp.neqA [h : TyI P t i (.struct fs)] (hx : Ev s g x (.p (.agg vs))) (hy : Ev s g y (.p (.agg vs'))) (ha : V.intsOf vs = some as) (hb : V.intsOf vs' = some bs) (hg : P.eqGuardType P.depth t = false) (hp : P.stoodInHeld t = false) (hf : intFields P 0 fs.toList = true) (hla : Nat.beq as.length fs.toList.length = true) (hlb : Nat.beq bs.length fs.toList.length = true) :
    MOp P s ⟨dst, .binOp .neq t x y t', ty, pos, af, gd⟩ g (.p (.x (.bool (as != bs)))) :=
  MOp.of2 hx hy (by simp [Op.operands]) (by simp [Op.operands]) fun β S w ρ _ h1 h2 => by
    obtain ⟨us, e1, e2⟩ := h1
    obtain ⟨us', e3, e4⟩ := h2
    refine ⟨.bool (as != bs), ?_, rfl⟩
    simp only [execOp, e1, e3]
    simp only [Sem.run_bind, run_eqGuard_agg w .neq t x y _ _ hg, Result.andThen_ok, run_neq_struct, run_equal_ints w us us' h.ut hp hf (by simpa using hla) (by simpa using hlb) (V.intsOf_rep ha e2) (V.intsOf_rep hb e4)]
    rfl
theorem MOp.eqlA [h : TyI P t i (.struct fs)] (hx : Ev s g x (.p (.agg vs))) (hy : Ev s g y (.p (.agg vs'))) (ha : V.intsOf vs = some as) (hb : V.intsOf vs' = some bs) (hg : P.eqGuardType P.depth t = false) (hp : P.stoodInHeld t = false) (hf : intFields P 0 fs.toList = true) (hla : Nat.beq as.length fs.toList.length = true) (hlb : Nat.beq bs.length fs.toList.length = true) :
    MOp P s ⟨dst, .binOp .eql t x y t', ty, pos, af, gd⟩ g (.p (.x (.bool (as == bs)))) :=
  MOp.of2 hx hy (by simp [Op.operands]) (by simp [Op.operands]) fun β S w ρ _ h1 h2 => by
    obtain ⟨us, e1, e2⟩ := h1
    obtain ⟨us', e3, e4⟩ := h2
    refine ⟨.bool (as == bs), ?_, rfl⟩
    simp only [execOp, e1, e3]
    simp only [Sem.run_bind, run_eqGuard_agg w .eql t x y _ _ hg, Result.andThen_ok, run_eql_struct, run_equal_ints w us us' h.ut hp hf (by simpa using hla) (by simpa using hlb) (V.intsOf_rep ha e2) (V.intsOf_rep hb e4)]
    rfl
end
end Go.Sy
