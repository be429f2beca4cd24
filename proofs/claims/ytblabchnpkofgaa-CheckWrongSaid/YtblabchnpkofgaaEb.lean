/- Drawn regions in which one operation makes a variable for which only the last one waits. No program in sight. -/
import Derived.Test.YtblabchnpkofgaaDC
namespace Go.Sy
open Go.RowKit
/-- what changes boxes is waited for by all behind it, but for f -/
def storesOkF (ops : Array Oper) (ws : List Nat) (f : Nat) : Bool :=
  ws.all fun j => match ops[j]? with
    | some o => o.guard.isNone && (List.range ops.size).all fun i => !decide (j < i) || i == f || ((masks ops.toList []).getD i 0).testBit j
    | none => false
def lastOk (ops : Array Oper) (L : Nat) : Bool := (List.range L).all fun i => ((masks ops.toList []).getD L 0).testBit i
def unread (ops : Array Oper) (L : Nat) (t : Tmp) : Bool := (List.range ops.size).all fun i => i == L || match ops[i]? with
  | some o => !(o.looksAt ops).contains t
  | none => true
section
variable {ops : Array Oper} {ws : List Nat} {f L : Nat} {t : Tmp}
theorem storesOkF.at (h : storesOkF ops ws f = true) {j : Nat} (hj : IsW ws j) : ∃ o, ops[j]? = some o ∧ o.guard = none ∧ ∀ i, j < i → i < ops.size → i ≠ f → Waits ops j i := by
  have hm : j ∈ ws := by simpa [IsW] using hj
  have := List.all_eq_true.1 h j hm
  cases ho : ops[j]? with
  | none => rw [ho] at this; cases this
  | some o =>
    rw [ho] at this
    simp only [Bool.and_eq_true] at this
    refine ⟨o, rfl, Option.isNone_iff_eq_none.1 this.1, fun i hij hi hf => ?_⟩
    have := List.all_eq_true.1 this.2 i (List.mem_range.2 hi)
    simp only [Bool.or_eq_true, Bool.not_eq_true', decide_eq_false_iff_not, beq_iff_eq] at this
    rcases this with (h1 | h1) | h1
    · exact absurd hij h1
    · exact absurd h1 hf
    · exact masks_get h1
theorem lastOk.at (h : lastOk ops L = true) {i : Nat} (hi : i < L) : Waits ops i L := masks_get (List.all_eq_true.1 h i (List.mem_range.2 hi))
theorem unread.at (h : unread ops L t = true) {i : Nat} {o : Oper} (ho : ops[i]? = some o) (hi : i ≠ L) : t ∉ o.looksAt ops := by
  have := List.all_eq_true.1 h i (List.mem_range.2 (Array.getElem?_eq_some_iff.1 ho).1)
  simp only [Bool.or_eq_true, beq_iff_eq, ho] at this
  rcases this with h1 | h1
  · exact absurd h1 hi
  · intro hm
    rw [List.contains_iff_mem.2 hm] at h1
    cases h1
end
/-- a block that is nobody's yet -/
structure Priv (c : Ctx) (H : List (Option Box)) (β : List Place) (S : Nat → Prop) (w : World) (b : Nat) (cur : Array Value) (e : TypeId) : Prop where
  ns : ¬ S b
  lt : b < w.heap.size
  at_ : w.heap[b]? = some (.cells cur e (0, 0))
  nb : ∀ (i : Nat) x p, H[i]? = some (some x) → β[i]? ≠ some (some (b, p))
  own : c.w0.heap.size ≤ b
section
variable {c : Ctx} {H : List (Option Box)} {β β' : List Place} {S S' : Nat → Prop} {w w' : World} {b : Nat} {cur : Array Value} {e : TypeId} {kk : Option Nat}
theorem Priv.ext (h : Priv c H β S w b cur e) (hx : Ext w w') : Priv c H β S w' b cur e := ⟨h.ns, Nat.lt_of_lt_of_le h.lt hx.size, hx.heap h.at_, h.nb, h.own⟩
theorem Priv.moved {H' : List (Option Box)} (h : Priv c H β S w b cur e) (hm : WOut H H' β β' S S' w w') : Priv c H' β' S' w' b cur e := by
  obtain ⟨h1, h2, h3⟩ := hm b h.ns h.lt h.nb
  have h4 : w'.heap[b]? = some (.cells cur e (0, 0)) := by rw [h1]; exact h.at_
  exact ⟨h2, (Array.getElem?_eq_some_iff.1 h4).1, h4, h3, h.own⟩
theorem HSt.hide (hH : HSt c H β S w) (cur : Array Value) (e : TypeId) : HSt c H β (fun b => S b ∧ b ≠ w.heap.size) (w.alloc (.cells cur e)) ∧ Moved none β β S (fun b => S b ∧ b ≠ w.heap.size) w (w.alloc (.cells cur e)) ∧ Priv c H β (fun b => S b ∧ b ≠ w.heap.size) (w.alloc (.cells cur e)) w.heap.size cur e := by
  have he : ∀ b, S b → b < w.heap.size → (w.alloc (.cells cur e)).heap[b]? = w.heap[b]? := fun b _ hb => Below.heap_alloc _ _ _ hb
  have hS : ∀ b, S b → b < w.heap.size → S b ∧ b ≠ w.heap.size := fun b h hb => ⟨h, by omega⟩
  refine ⟨⟨⟨fun b hb => ?_, ?_, hH.len, hH.inj⟩, fun b hb => hH.sub b hb.1, hH.own, ?_, hH.keep, hH.klen, ?_, hH.os, hH.tape, hH.output, ?_⟩, ⟨fun _ _ _ h => h, he, hS⟩, ⟨fun h => h.2 rfl, by simp, heap_alloc_new w _, ?_, hH.size⟩⟩
  · simp at hb
    exact ⟨hH.up b (by omega), by omega⟩
  · intro i x hx
    refine (hH.box i x hx).mono (fun _ _ h => h) (fun b c' hb => ?_) he hS
    have := (hH.box i x hx).lt hb
    exact ⟨Below.heap_alloc _ _ _ this.1, fun h => this.2 h.1⟩
  · intro b hb hn
    rw [Below.heap_alloc _ _ _ (Nat.lt_of_lt_of_le hb hH.size)]
    exact hH.fr b hb hn
  · intro b hb hl
    have := hH.keepS b hb hl
    exact ⟨by rw [Below.heap_alloc _ _ _ (Nat.lt_of_lt_of_le hl hH.size)]; exact this.1, this.2, by have := hH.size; omega⟩
  · simp; exact Nat.le_succ_of_le hH.size
  · intro i x p hx h
    have := ((hH.box i x hx).lt h).1
    omega
abbrev zBox (cur : Array Value) (e : TypeId) : Box := ⟨cur.toList.map (fun v => D.p (.x v)), e, 0⟩
theorem HSt.addBox (hH : HSt c H β S w) (hp : Priv c H β S w b cur e) : HSt c (H ++ [some (zBox cur e)]) (β ++ [some (b, 0)]) S w ∧ ∀ (i : Nat) (p : Place), β[i]? = some p → (β ++ [some (b, 0)])[i]? = some p := by
  have hβ : ∀ (i : Nat) (p : Place), β[i]? = some p → (β ++ [some (b, 0)])[i]? = some p := fun i p h => by
    rw [List.getElem?_append_left (List.getElem?_eq_some_iff.1 h).1]; exact h
  have hgetβ : ∀ (i : Nat) (pl : Place), (β ++ [some (b, 0)])[i]? = some pl → β[i]? = some pl ∨ i = β.length ∧ pl = some (b, 0) := by
    intro i pl h
    rw [List.getElem?_append] at h
    split at h
    · exact .inl h
    · rename_i hge
      have : i = β.length := by
        rcases Nat.lt_or_ge β.length i with h' | h'
        · rw [List.getElem?_eq_none (by simp; omega)] at h; cases h
        · omega
      subst this
      simp at h
      exact .inr ⟨rfl, h.symm⟩
  have hgetH : ∀ (i : Nat) (x : Box), (H ++ [some (zBox cur e)])[i]? = some (some x) → H[i]? = some (some x) ∨ i = β.length ∧ x = zBox cur e := by
    intro i x h
    rw [List.getElem?_append] at h
    split at h
    · exact .inl h
    · rename_i hge
      have : i = H.length := by
        rcases Nat.lt_or_ge H.length i with h' | h'
        · rw [List.getElem?_eq_none (by simp; omega)] at h; cases h
        · omega
      subst this
      simp at h
      exact .inr ⟨hH.len.symm, h.symm⟩
  have hltH : ∀ (i : Nat) (x : Box), H[i]? = some (some x) → i < β.length := fun i x h => by rw [hH.len]; exact (List.getElem?_eq_some_iff.1 h).1
  have hc : D.RepL (β ++ [some (b, 0)]) S w (cur.toList.map (fun v => D.p (.x v))) cur.toList := by
    have := D.RepL.p (β := β ++ [some (b, 0)]) (V.RepL.x (S := S) (w := w) (l := cur.toList))
    rwa [List.map_map] at this
  refine ⟨⟨⟨hH.up, ?_, by simp [hH.len], ?_⟩, hH.sub, ?_, hH.fr, fun i p hi h => hβ i p (hH.keep i p hi h), ?_, hH.keepS, hH.os, hH.tape, hH.output, hH.size⟩, hβ⟩
  · intro i x hx
    rcases hgetH i x hx with h | ⟨rfl, rfl⟩
    · refine (hH.box i x h).mono hβ (fun b' c' hb => ?_) (fun _ _ _ => rfl) (fun _ h _ => h)
      exact ⟨rfl, ((hH.box i x h).lt hb).2⟩
    · exact .inr ⟨b, 0, cur, cur.toList, by simp, hp.ns, hp.at_, hc, List.prefix_refl _, fun _ => by simp, fun h => absurd rfl h⟩
  · intro i j x y b' p r hx hy hi hj
    rcases hgetH i x hx with h | ⟨rfl, rfl⟩ <;> rcases hgetH j y hy with k | ⟨rfl, rfl⟩
    · rcases hgetβ i _ hi with h' | ⟨h', _⟩
      · rcases hgetβ j _ hj with k' | ⟨k', _⟩
        · exact hH.inj i j x y b' p r h k h' k'
        · have := hltH j y k; omega
      · have := hltH i x h; omega
    · rcases hgetβ i _ hi with h' | ⟨h', _⟩
      · simp at hj
        rw [← hj.1] at h'
        exact absurd h' (hp.nb _ _ _ h)
      · exact h'
    · rcases hgetβ j _ hj with h' | ⟨h', _⟩
      · simp at hi
        rw [← hi.1] at h'
        exact absurd h' (hp.nb _ _ _ k)
      · exact h'.symm
    · rfl
  · intro i b' r hi
    rcases hgetβ i _ hi with h | ⟨_, h⟩
    · exact hH.own i b' r h
    · injection h with h
      simp only [Prod.mk.injEq] at h
      exact .inl (h.1 ▸ hp.own)
  · rw [List.length_append]; exact Nat.le_add_right_of_le hH.klen
end
section
variable {P : Program} {c : Ctx} {n m : Nat} {ops : Array Oper} {ws : List Nat} {Q : Exit → St → Prop} {s : St}
theorem Mid.fullAt {gd : Nat → Bool × D} {β : List Place} {S : Nat → Prop} {a0 a : Act} {w : World} {listed : Array Bool} (M : Mid c n ops s gd β S m a0 listed a w) {k : Nat} (hah : ∀ i, listed.getD i true = true → i < ops.size → i < k) (hall : ∀ i, i < k → listed.getD i true = true) (hm : k ≤ ops.size) (t : Tmp) : EntAt (stAt ops s gd k) β S w a t := by
  intro g d hg
  rw [M.size]
  rcases stAt_get hg with ⟨j, hj, hjd, hgd⟩ | ⟨hno, hg0⟩
  · have := M.done j t (hall j hj) (by omega) hjd
    have e1 : g = (gd j).1 := congrArg Prod.fst hgd
    have e2 : d = (gd j).2 := congrArg Prod.snd hgd
    rw [e1, e2]
    exact this
  · have h0 := M.init t g d hg0
    rw [M.size0] at h0
    rw [M.same t ?_]
    · exact h0
    · intro j hj hjs
      exact hno j (hah j hj hjs)
theorem stAt_off {gd gd' : Nat → Bool × D} {f : Nat} {tf t : Tmp} (hf : (ops[f]?).bind (·.dst) = some tf) (ht : t ≠ tf) (hg : ∀ j, j ≠ f → gd' j = gd j) : ∀ i, TM.get (stAt ops s gd' i).tm t = TM.get (stAt ops s gd i).tm t
  | 0 => rfl
  | i + 1 => by
    have ih := stAt_off hf ht hg i
    unfold stAt
    by_cases e : i = f
    · subst e
      rw [hf]
      simp only [St.put, TM.get_cons]
      rw [if_neg (Ne.symm ht), if_neg (Ne.symm ht)]
      exact ih
    · rw [hg i e]
      cases (ops[i]?).bind (·.dst) with
      | none => exact ih
      | some k =>
        simp only [St.put, TM.get_cons]
        rw [ih]
theorem EntAt.off {s s' : St} {β : List Place} {S : Nat → Prop} {w : World} {a : Act} {t : Tmp} (h : EntAt s β S w a t) (e : TM.get s'.tm t = TM.get s.tm t) : EntAt s' β S w a t := fun g d hg => h g d (by rw [← e]; exact hg)
theorem wpAny_done {R : Exit → Act → World → Prop} {listed : Array Bool} {a : Act} {w : World} (hr : Region.ready .any ops listed = []) (h : R .normal a w) : ∀ fuel, wpAny P .any ops R fuel listed a w
  | 0 => ⟨hr, h⟩
  | fuel + 1 => ⟨fun _ => h, fun i hi => by rw [hr] at hi; cases hi⟩
/-- The rule: as drawX, but operation f makes a variable (tf) of which only the last operation (L) knows; it may come up anywhere ahead of that. -/
theorem Sym.drawF_any {f L : Nat} {tf : Tmp} {e ty : TypeId} {pos : String} {af : Array Edge} {i : TypeInfo} {u : TypeDesc} {z : Value} {oL : Oper} [h : TyI P e i u] (hz : i.zero = some z) (ws : List Nat) (hsyn : drawOk ops ops.size = true) (hst : storesOkF ops ws f = true) (hla : lastOk ops L = true) (hL : ops.size = L + 1) (hfL : f < L) (hfw : ws.contains f = false) (hLw : ws.contains L = false) (hun : unread ops L tf = true)
    (hof : ops[f]? = some ⟨some tf, .alloc e, ty, pos, af, none⟩) (hoL : ops[L]? = some oL) (hgL : oL.guard = none)
    (hX : XTo P c n ops ws (fun s => ∃ HL dL, WStep P c n ops ⟨(tf, true, .ptr s.H.length 0) :: s.tm, s.H ++ [some (zBox z.cells e)]⟩ oL none HL dL ∧ Q .normal (St.put ⟨(tf, true, .ptr s.H.length 0) :: s.tm, HL⟩ oL.dst true dL)) 0 (ops.toList.take L) s []) :
    ∀ a0 w0, SR c n s a0 w0 → wpAny P .any ops (fun e a' w' => ∃ s', SRx c n e s' a' w' ∧ Q e s') ops.size (Array.replicate ops.size false) a0 { w0 with drawn := w0.drawn + 1 } := by
  have hd := drawOk.ok hsyn
  have hll : (ops.toList.take L).length = L := by simp; omega
  obtain ⟨ts, hs, G, hG, HL, dL, hWL, hQL⟩ := hX.steps (s0 := s) (fun _ => s.tm) (fun _ => s.H) (fun _ _ => (true, .p (.x undef))) rfl rfl (fun j hj => by
    rw [List.getElem?_take_of_lt (by omega)]
    simp) (fun i hi => by omega) ⟨⟨rfl, rfl⟩, fun i hi => by omega, fun i hi => by omega, fun i hi => by omega⟩
  rw [hll, Nat.zero_add] at hG hWL hQL
  have hfw : ¬ IsW ws f := by unfold IsW; rw [hfw]; simp
  have hLw : ¬ IsW ws L := by unfold IsW; rw [hLw]; simp
  have hbf : (ops[f]?).bind (·.dst) = some tf := by rw [hof]; rfl
  obtain ⟨G', hG'⟩ : ∃ G' : Nat → Nat → Bool × D, ∀ p j, G' p j = if j = f then (true, .any) else G p j := ⟨_, fun _ _ => rfl⟩
  have hGo : ∀ p j, j ≠ f → G' p j = G p j := fun p j hj => by rw [hG', if_neg hj]
  rintro a0 w0 ⟨β, S, hH, hdf, hn, he⟩
  have hx0 : Ext w0 { w0 with drawn := w0.drawn + 1 } := (Ext.refl w0).drew
  have M0 : Mid c n ops ⟨ts 0, hs 0⟩ (G' 0) β S ops.size a0 (Array.replicate ops.size false) a0 { w0 with drawn := w0.drawn + 1 } := by
    refine ⟨by rw [hG.zero.2]; exact hH.ext hx0, hdf, hn, fun t => ((he t).ext hx0).tm hG.zero.1.symm, hn, ?_, ?_, fun _ _ => rfl⟩
    · intro i h1 h2; simp [Array.getD, h2] at h1
    · intro i t h1 h2; simp [Array.getD, h2] at h1
  have wlt : ∀ j, IsW ws j → j < L := fun j hj => by
    obtain ⟨o', ho', _⟩ := storesOkF.at hst hj
    have := (Array.getElem?_eq_some_iff.1 ho').1
    have : j ≠ L := fun e => hLw (e ▸ hj)
    omega
  have noReady : ∀ (listed : Array Bool), listed.size = ops.size → Region.ready .any ops listed = [] → ∀ i, i < ops.size → listed.getD i true = true := by
    intro listed hsz hr i
    induction i using Nat.strongRecOn with
    | ind i ihi =>
      intro hi
      cases hb : listed.getD i true with
      | true => rfl
      | false =>
        have := ready_mem hd hi hsz (fun j hj => ihi j hj (by omega)) hb
        rw [hr] at this
        cases this
  have main : ∀ (fuel : Nat) (listed : Array Bool) (a : Act) (w : World) (β : List Place) (S : Nat → Prop) (p : Nat), p ≤ L → (∀ j, IsW ws j → (listed.getD j true = true ↔ j < p)) → listed.size = ops.size → (List.range ops.size).countP (fun i => !listed.getD i true) ≤ fuel →
      Mid c n ops ⟨ts p, hs p⟩ (G' p) β S ops.size a0 listed a w → (∀ i j, Waits ops i j → listed.getD j true = true → j < ops.size → listed.getD i true = true) → listed.getD L true = false →
      (listed.getD f true = true → ∃ b, Priv c (hs p) β S w b z.cells e ∧ a.tmps.getD tf undef = .pointer (some ⟨b, 0, none⟩)) →
      wpAny P .any ops (fun e a' w' => ∃ s', SRx c n e s' a' w' ∧ Q e s') fuel listed a w := by
    intro fuel
    induction fuel with
    | zero =>
      intro listed a w β S p hp hwr hsz hc M hcl hLu hpv
      exfalso
      have h0 := List.countP_eq_zero.1 (Nat.le_zero.1 hc) L (List.mem_range.2 (by omega))
      rw [hLu] at h0
      simp at h0
    | succ fuel ih =>
      intro listed a w β S p hp hwr hsz hc M hcl hLu hpv
      refine ⟨fun hr => ?_, fun i hi => ?_⟩
      · have := noReady listed hsz hr L (by omega)
        rw [hLu] at this
        cases this
      obtain ⟨hun', o, ho, hpre⟩ := ready_iff.1 hi
      have his := (Array.getElem?_eq_some_iff.1 ho).1
      have hwait : ∀ j, Waits ops j i → listed.getD j true = true := by
        intro j hj
        obtain ⟨o', ho', e, he', hb', h | h⟩ := hj.last
        · rw [ho] at ho'
          injection ho' with ho'
          subst ho'
          exact h ▸ (getD_false (hpre e he' hb')).2
        · rw [ho] at ho'
          injection ho' with ho'
          subst ho'
          have h1 := getD_false (hpre e he' hb')
          exact hcl j e.on h h1.2 (by omega)
      have hcnt : (List.range ops.size).countP (fun j => !(listed.setIfInBounds i true).getD j true) ≤ fuel := by
        have := countP_lt' (p := fun i => !listed.getD i true) (q := fun j => !(listed.setIfInBounds i true).getD j true) (i := i) (fun j hj => by
          rw [getD_set' (by omega) true] at hj
          by_cases h : i = j
          · rw [if_pos h] at hj; cases hj
          · rw [if_neg h] at hj; exact hj) (by simpa using hun') (by rw [getD_set' (by omega) true, if_pos rfl]; rfl) (List.mem_range.2 his)
        omega
      have hcl' : ∀ p q, Waits ops p q → (listed.setIfInBounds i true).getD q true = true → q < ops.size → (listed.setIfInBounds i true).getD p true = true := by
        intro p q hpq hq hqs
        rw [getD_set' (by omega) true] at hq ⊢
        split
        · rfl
        · by_cases h : i = q
          · subst h; exact hwait p hpq
          · rw [if_neg h] at hq; exact hcl p q hpq hq hqs
      have hents' := M.ents hd hsz hcl ho hun' hwait
      by_cases hiL : i = L
      · -- the last one
        subst hiL
        rw [hoL] at ho
        injection ho with ho
        subst ho
        have hall : ∀ j, j < i → listed.getD j true = true := fun j hj => hwait j (lastOk.at hla hj)
        have hah : ∀ j, listed.getD j true = true → j < ops.size → j < i := fun j hj hjs => by
          rcases Nat.lt_or_ge j i with h | h
          · exact h
          · have : j = i := by omega
            subst this
            rw [hLu] at hj
            cases hj
        obtain ⟨b, hpb, hptr⟩ := hpv (hall f hfL)
        have e1 := hG.const' (i - p) p (by omega) fun j hj h1 h2 => by
          have := (hwr j hj).1 (hall j (by omega))
          omega
        rw [show p + (i - p) = i by omega] at e1
        have hfull := fun t => M.fullAt hah hall (by omega) t
        obtain ⟨hA, hβ⟩ := M.hst.addBox hpb
        have hlen := M.hst.len
        have hent : ∀ t, EntAt ⟨(tf, true, .ptr (hs p).length 0) :: (stAt ops ⟨ts p, hs p⟩ (G p) i).tm, hs p ++ [some (zBox z.cells e)]⟩ (β ++ [some (b, 0)]) S w a t := by
          intro t g d hg
          simp only [TM.get_cons] at hg
          by_cases ht : tf = t
          · rw [if_pos ht] at hg
            injection hg with hg
            obtain ⟨rfl, rfl⟩ := Prod.mk.inj hg
            subst ht
            have := M.done f tf (hall f hfL) (by omega) hbf
            refine ⟨by rw [M.size]; exact this.1, fun _ => ⟨b, 0, ?_, hptr⟩, fun h => by cases h⟩
            rw [show (hs p).length = β.length from hlen.symm]
            simp
          · rw [if_neg ht] at hg
            have h1 := (hfull t).off (s' := stAt ops ⟨ts p, hs p⟩ (G p) i) (stAt_off (gd := G' p) (gd' := G p) hbf (Ne.symm ht) (fun j hj => (hGo p j hj).symm) i) g d hg
            exact ⟨h1.1, fun hg => (h1.2.1 hg).mono hβ (fun _ _ _ => rfl) (fun _ h _ => h), h1.2.2⟩
        rw [e1.1, e1.2.1, e1.2.2] at hWL hQL
        dsimp only at hWL hQL
        have key := hWL.run (β ++ [some (b, 0)]) S a w hA (fun t _ => hent t) (wpAny P .any ops (fun e a' w' => ∃ s', SRx c n e s' a' w' ∧ Q e s') fuel (listed.setIfInBounds i true)) (fun e a' w' => ∃ s', SRx c n e s' a' w' ∧ Q e s') fun u β' S' w' hH' hmv _ hu => by
          refine wpAny_done ?_ ?_ fuel
          · cases hr : Region.ready .any ops (listed.setIfInBounds i true) with
            | nil => rfl
            | cons j _ =>
              exfalso
              have hj : j ∈ Region.ready .any ops (listed.setIfInBounds i true) := by rw [hr]; exact List.mem_cons_self
              obtain ⟨hu2, o2, ho2, _⟩ := ready_iff.1 hj
              have hj2 := (Array.getElem?_eq_some_iff.1 ho2).1
              rw [getD_set' (by omega) true] at hu2
              by_cases e : i = j
              · rw [if_pos e] at hu2; cases hu2
              · rw [if_neg e, hall j (by omega)] at hu2; cases hu2
          · refine ⟨_, (⟨β', S', by rw [put_H]; exact hH', by rw [defers_put, M.defers], by rw [size_put, M.size], ?_⟩ : SR c n (St.put ⟨(tf, true, .ptr (hs p).length 0) :: (stAt ops ⟨ts p, hs p⟩ (G p) i).tm, HL⟩ oL.dst true dL) _ _), hQL⟩
            by_cases hdst : oL.dst = none
            · rw [hdst]
              intro t g d hg
              obtain ⟨k1, k2⟩ := hent t g d hg
              exact ⟨k1, hmv.ent k2⟩
            · refine EntAt.put (s := ⟨(tf, true, .ptr (hs p).length 0) :: (stAt ops ⟨ts p, hs p⟩ (G p) i).tm, HL⟩) (fun t => ?_) (fun q hq => by rw [M.size]; exact dstOk.lt hWL.ds q hq) ⟨fun _ => hu hdst, fun h => by cases h⟩
              intro g d hg
              obtain ⟨k1, k2⟩ := hent t g d hg
              exact ⟨k1, hmv.ent k2⟩
        unfold wpOp
        simp only [hoL]
        have hgd : Region.wanted oL (yielded ops a.tmps) = true := by simp [Region.wanted, hgL]
        rw [if_pos hgd]
        exact .inl key
      have hiL' : i < L := by omega
      have hsame : ∀ (u : Value) (j : Nat) (t : Tmp), j ≠ i → (ops[j]?).bind (·.dst) = some t → dstOk n o = true → (a.put o.dst u).tmps.getD t undef = a.tmps.getD t undef := by
        intro u j t hji hjd hds
        cases hod : o.dst with
        | none => rfl
        | some k =>
          rw [getD_put' (by rw [M.size]; exact dstOk.lt hds k hod), if_neg]
          rintro rfl
          obtain ⟨x, hx, hxd⟩ := bind_some hjd
          exact hji (hd.once j i x o k hx ho hxd hod)
      have hLu' : (listed.setIfInBounds i true).getD L true = false := by rw [getD_set' (by omega) true, if_neg hiL, hLu]
      by_cases hif : i = f
      · -- the free one
        subst hif
        rw [hof] at ho
        injection ho with ho
        subst ho
        have hds : dstOk n ⟨some tf, .alloc e, ty, pos, af, none⟩ = true := (hG.rd i hfL _ hof hfw i (Nat.le_refl _) (by omega) fun j _ h1 h2 => by omega).ds
        have htn := dstOk.lt hds tf rfl
        obtain ⟨h1, h2, h3⟩ := M.hst.hide z.cells e
        have key : Oper.wp P ⟨some tf, .alloc e, ty, pos, af, none⟩ a w (wpAny P .any ops (fun e a' w' => ∃ s', SRx c n e s' a' w' ∧ Q e s') fuel (listed.setIfInBounds i true)) (fun e a' w' => ∃ s', SRx c n e s' a' w' ∧ Q e s') := by
          refine wp_value (v := .pointer (some ⟨w.heap.size, 0, none⟩)) (w' := w.alloc (.cells z.cells e)) (by simp [execOp, Instr.alloc, run_zeroValue' h.ti hz, newVar, newRow, go_sem]) ?_
          refine ih _ _ _ β (fun b => S b ∧ b ≠ w.heap.size) p hp ?_ (by simpa using hsz) hcnt ?_ hcl' hLu' ?_
          · intro j hj
            rw [getD_set' (by omega) true, if_neg (by rintro rfl; exact hfw hj)]
            exact hwr j hj
          · refine ⟨h1, by rw [defers_put, M.defers], by rw [size_put, M.size], fun t g d hg => ?_, M.size0, fun j hj hjs => hjs, ?_, ?_⟩
            · have := M.init t g d hg
              exact ⟨this.1, h2.ent this.2⟩
            · intro j t hj hjs hjd
              rw [getD_set' (by omega) true] at hj
              by_cases e : i = j
              · subst e
                rw [hbf] at hjd
                injection hjd with hjd
                subst hjd
                refine ⟨htn, ?_⟩
                rw [hG', if_pos rfl]
                exact ⟨fun _ => trivial, fun h => by cases h⟩
              · rw [if_neg e] at hj
                have k1 := M.done j t hj hjs hjd
                refine ⟨k1.1, ?_⟩
                rw [hsame _ j t (Ne.symm e) hjd hds]
                exact h2.ent k1.2
            · intro t ht
              have k1 : some tf ≠ some t := by
                have := ht i (by rw [getD_set' (by omega) true, if_pos rfl]) his
                rwa [hbf] at this
              have k2 := M.same t fun j hj hjs => ht j (by rw [getD_set' (by omega) true]; split; rfl; exact hj) hjs
              rw [← k2, getD_put' (by rw [M.size]; exact htn), if_neg (by rintro rfl; exact k1 rfl)]
          · intro _
            exact ⟨w.heap.size, h3, by rw [getD_put' (by rw [M.size]; exact htn), if_pos rfl]⟩
        unfold wpOp
        simp only [hof]
        rw [if_pos (by simp [Region.wanted])]
        exact .inl key
      -- what f does is not asked here
      have hnt : tf ∉ o.looksAt ops := unread.at hun ho hiL
      have hents : ∀ t ∈ o.looksAt ops, EntAt (stAt ops ⟨ts p, hs p⟩ (G p) i) β S w a t := fun t ht =>
        (hents' t ht).off (stAt_off (gd := G' p) (gd' := G p) hbf (by rintro rfl; exact hnt ht) (fun j hj => (hGo p j hj).symm) i)
      have hpv' : dstOk n o = true → ∀ (u : Value) (β' : List Place) (S' : Nat → Prop) (w' : World) (H' : List (Option Box)), (∀ b, Priv c (hs p) β S w b z.cells e → Priv c H' β' S' w' b z.cells e) → (listed.setIfInBounds i true).getD f true = true → ∃ b, Priv c H' β' S' w' b z.cells e ∧ (a.put o.dst u).tmps.getD tf undef = .pointer (some ⟨b, 0, none⟩) := by
        intro hds u β' S' w' H' hP hf
        rw [getD_set' (by omega) true, if_neg hif] at hf
        obtain ⟨b, k1, k2⟩ := hpv hf
        exact ⟨b, hP b k1, by rw [hsame u f tf (Ne.symm hif) hbf hds, k2]⟩
      have hahead : ∀ j, IsW ws j → j < i → j < p := fun j hj hji => by
        obtain ⟨_, _, _, h3⟩ := storesOkF.at hst hj
        exact (hwr j hj).1 (hwait j (h3 i hji his hif))
      by_cases hw : IsW ws i
      · have hip : p ≤ i := by
          rcases Nat.lt_or_ge i p with h | h
          · rw [(hwr i hw).2 h] at hun'; cases hun'
          · exact h
        have e1 := hG.const' (i - p) p (by omega) fun j hj h1 h2 => by
          have := hahead j hj (by omega)
          omega
        rw [show p + (i - p) = i by omega] at e1
        have eG' : G' i = G' p := funext fun j => by rw [hG', hG', e1.2.2]
        rw [← e1.1, ← e1.2.1, ← eG'] at M
        rw [← e1.1, ← e1.2.1, ← e1.2.2] at hents
        rw [← e1.2.1] at hpv'
        obtain ⟨o', ho', hgd, hbehind⟩ := storesOkF.at hst hw
        rw [ho] at ho'
        injection ho' with ho'
        subst ho'
        obtain ⟨kk, w1, w2, w3, w4⟩ := hG.wr i hiL' o ho hw
        have w4' : ∀ j, listed.getD j true = true → j < ops.size → G' (i + 1) j = ((G' i j).1, (G' i j).2.cl kk) := by
          intro j hj hjs
          by_cases e : j = f
          · rw [hG', hG', if_pos e, if_pos e]
            cases kk <;> rfl
          · rw [hGo _ j e, hGo _ j e]
            refine w4 j ?_
            rcases Nat.lt_trichotomy j i with h | h | h
            · exact h
            · subst h; rw [hj] at hun'; cases hun'
            · rw [hcl i j (hbehind j h hjs e) hj hjs] at hun'; cases hun'
        have key := w1.run β S a w M.hst (fun t ht => (hents t ht).tm rfl) (wpAny P .any ops (fun e a' w' => ∃ s', SRx c n e s' a' w' ∧ Q e s') fuel (listed.setIfInBounds i true)) (fun e a' w' => ∃ s', SRx c n e s' a' w' ∧ Q e s') fun u β' S' w' hH' hmv hout hu => by
          refine ih _ _ _ β' S' (i + 1) (by omega) ?_ (by simpa using hsz) hcnt ?_ hcl' hLu' (hpv' w1.ds u β' S' w' _ fun b hb => hb.moved hout)
          · intro j hj
            rw [getD_set' (by omega) true]
            by_cases e : i = j
            · subst e; simp
            · rw [if_neg e, hwr j hj]
              constructor
              · intro h; omega
              · intro h
                exact hahead j hj (by omega)
          · refine ⟨hH', by rw [defers_put, M.defers], by rw [size_put, M.size], fun t g d hg => ?_, M.size0, fun j hj hjs => hjs, ?_, ?_⟩
            · rw [w3] at hg
              obtain ⟨d', h1, rfl⟩ := TM.cl_get hg
              have := M.init t g d' h1
              exact ⟨this.1, hmv.ent this.2⟩
            · intro j t hj hjs hjd
              rw [getD_set' (by omega) true] at hj
              by_cases e : i = j
              · subst e
                rw [bind_dst ho] at hjd
                have hlt := dstOk.lt w1.ds t hjd
                refine ⟨hlt, ?_⟩
                rw [hjd, getD_put' (by rw [M.size]; exact hlt), if_pos rfl, hGo _ i hif]
                exact ⟨fun _ => hu (by rw [hjd]; simp), fun h => by rw [w2] at h; cases h⟩
              · rw [if_neg e] at hj
                have h1 := M.done j t hj hjs hjd
                refine ⟨h1.1, ?_⟩
                rw [hsame u j t (Ne.symm e) hjd w1.ds, w4' j hj hjs]
                exact hmv.ent h1.2
            · intro t ht
              have h1 : o.dst ≠ some t := by
                have := ht i (by rw [getD_set' (by omega) true, if_pos rfl]) his
                rwa [bind_dst ho] at this
              have h2 := M.same t fun j hj hjs => ht j (by rw [getD_set' (by omega) true]; split; rfl; exact hj) hjs
              rw [← h2]
              cases hod : o.dst with
              | none => rfl
              | some k =>
                rw [getD_put' (by rw [M.size]; exact dstOk.lt w1.ds k hod), if_neg]
                rintro rfl
                exact h1 hod
        unfold wpOp
        simp only [ho]
        have hgd : Region.wanted o (yielded ops a.tmps) = true := by simp [Region.wanted, hgd]
        rw [if_pos hgd]
        exact .inl key
      · have hq : ∃ q, i ≤ q ∧ q ≤ L ∧ (ts q = ts p ∧ hs q = hs p ∧ G q = G p) ∧ (∀ j, IsW ws j → i < j → j < q → ¬ Waits ops i j) := by
          rcases Nat.lt_or_ge p i with h | h
          · refine ⟨i, Nat.le_refl _, by omega, ?_, fun j _ h1 h2 => by omega⟩
            have := hG.const' (i - p) p (by omega) fun j hj h1 h2 => by
              have := hahead j hj (by omega)
              omega
            rwa [show p + (i - p) = i by omega] at this
          · refine ⟨p, h, hp, ⟨rfl, rfl, rfl⟩, fun j hj h1 h2 hij => ?_⟩
            have := hcl i j hij ((hwr j hj).2 h2) (by have := wlt j hj; omega)
            rw [this] at hun'
            cases hun'
        obtain ⟨q, hq1, hq2, ⟨hq3, hq5, hq6⟩, hq4⟩ := hq
        have hms := hG.rd i hiL' o ho hw q hq1 hq2 hq4
        rw [hq3, hq5, hq6] at hms
        have hw' := hms.run (a := a) (w := w) (β := β) (S := S) M.hst.toHOk (fun t ht => (hents t ht).tm rfl)
          (K := wpAny P .any ops (fun e a' w' => ∃ s', SRx c n e s' a' w' ∧ Q e s') fuel (listed.setIfInBounds i true)) (Q := fun e a' w' => ∃ s', SRx c n e s' a' w' ∧ Q e s') fun u w' hx hu => by
            refine ih _ _ _ β S p hp ?_ (by simpa using hsz) hcnt (M.next hd hsz ho his hun' hms.ds hx (by rw [hGo p i hif]; exact hu)) hcl' hLu' (hpv' hms.ds u β S w' _ fun b hb => hb.ext hx)
            intro j hj
            rw [getD_set' (by omega) true, if_neg (by rintro rfl; exact hw hj)]
            exact hwr j hj
        unfold wpOp
        simp only [ho]
        split
        · rename_i h; rw [if_pos h] at hw'; exact .inl hw'
        · rename_i h; rw [if_neg h] at hw'; exact hw'
  refine main _ _ _ _ β S 0 (Nat.zero_le _) ?_ (by simp) (Nat.le_trans List.countP_le_length (by simp)) M0 ?_ ?_ ?_
  · intro j hj
    obtain ⟨o, ho, _⟩ := storesOkF.at hst hj
    have := (Array.getElem?_eq_some_iff.1 ho).1
    simp [Array.getD, this]
  · intro i j _ h hj
    simp [Array.getD, hj] at h
  · simp [Array.getD, hL]
  · intro h
    simp [Array.getD, hL, show f < L + 1 by omega] at h
theorem Sym.drawF {id : Nat} {l : List Oper} {tf : Tmp} {e ty : TypeId} {pos : String} {af : Array Edge} {i : TypeInfo} {u : TypeDesc} {z : Value} {oL : Oper} [h : TyI P e i u] (hz : i.zero = some z) (f L : Nat) (ws : List Nat) (hm : P.follows .mixedOrders = true) (hsyn : drawOk l.toArray l.length = true) (hst : storesOkF l.toArray ws f = true) (hla : lastOk l.toArray L = true) (hL : Nat.beq l.length (L + 1) = true) (hfL : Nat.blt f L = true) (hfw : (ws.contains f || ws.contains L) = false) (hun : unread l.toArray L tf = true)
    (hof : l[f]? = some ⟨some tf, .alloc e, ty, pos, af, none⟩) (hoL : l[L]? = some oL) (hgL : oL.guard = none)
    (hX : XTo P c n l.toArray ws (fun s => ∃ HL dL, WStep P c n l.toArray ⟨(tf, true, .ptr s.H.length 0) :: s.tm, s.H ++ [some (zBox z.cells e)]⟩ oL none HL dL ∧ Q .normal (St.put ⟨(tf, true, .ptr s.H.length 0) :: s.tm, HL⟩ oL.dst true dL)) 0 (l.take L) s []) : Sym P c n (.region id l.toArray true) Q s := by
  simp only [Bool.or_eq_false_iff] at hfw
  have hL := Nat.eq_of_beq_eq_true hL
  exact fun a w hr => wp_region_any hm (Sym.drawF_any hz ws (by simpa using hsyn) hst hla (by simpa using hL) (by simpa using hfL) hfw.1 hfw.2 hun (by simpa using hof) (by simpa using hoL) hgL (by simpa using hX) a w hr)
theorem Sym.drawFP {id : Nat} {l l' : List Oper} {tf : Tmp} {e ty : TypeId} {pos : String} {af : Array Edge} {i : TypeInfo} {u : TypeDesc} {z : Value} {oL : Oper} [h : TyI P e i u] (hz : i.zero = some z) (p : List Nat) (f L : Nat) (ws : List Nat) (hm : P.follows .mixedOrders = true) (hp : permOk l p = true) (hl : permL l p = l') (hsyn : drawOk l'.toArray l'.length = true) (hst : storesOkF l'.toArray ws f = true) (hla : lastOk l'.toArray L = true) (hL : Nat.beq l'.length (L + 1) = true) (hfL : Nat.blt f L = true) (hfw : (ws.contains f || ws.contains L) = false) (hun : unread l'.toArray L tf = true)
    (hof : l'[f]? = some ⟨some tf, .alloc e, ty, pos, af, none⟩) (hoL : l'[L]? = some oL) (hgL : oL.guard = none)
    (hX : XTo P c n l'.toArray ws (fun s => ∃ HL dL, WStep P c n l'.toArray ⟨(tf, true, .ptr s.H.length 0) :: s.tm, s.H ++ [some (zBox z.cells e)]⟩ oL none HL dL ∧ Q .normal (St.put ⟨(tf, true, .ptr s.H.length 0) :: s.tm, HL⟩ oL.dst true dL)) 0 (l'.take L) s []) : Sym P c n (.region id l.toArray true) Q s := by
  subst hl
  simp only [Bool.or_eq_false_iff] at hfw
  have hL := Nat.eq_of_beq_eq_true hL
  intro a w hr
  refine wp_region_any hm ?_
  have hok := permOk.ok hp
  refine wpAny_perm hok _ _ (Array.replicate (permL l p).toArray.size false) _ _ (by simp) (by rw [Array.size_replicate, hok.size]) ?_ ?_
  · intro i hi
    have h1 := hok.lt i hi
    rw [hok.size]
    simp only [Array.getD, Array.size_replicate, hi, h1, dite_true]
    simp
  · rw [← hok.size]
    exact Sym.drawF_any hz ws (by simpa using hsyn) hst hla (by simpa using hL) (by simpa using hfL) hfw.1 hfw.2 hun (by simpa using hof) (by simpa using hoL) hgL (by simpa using hX) a w hr
/-- a new variable of which nothing is known yet -/
theorem MOp.allocAny {s : St} {dst : Option Tmp} {e ty : TypeId} {pos : String} {af : Array Edge} {gd : Option (Nat × Bool)} {i : TypeInfo} {u : TypeDesc} {z : Value} [h : TyI P e i u] (hz : i.zero = some z) : MOp P s ⟨dst, .alloc e, ty, pos, af, gd⟩ true .any := by
  refine ⟨fun β S a w ho he hg K Q hK => ?_⟩
  exact wp_value (v := .pointer (some ⟨w.heap.size, 0, none⟩)) (w' := w.alloc (.cells z.cells e)) (by simp [execOp, Instr.alloc, run_zeroValue' h.ti hz, newVar, newRow, go_sem]) (hK _ _ ((Ext.refl w).alloc _) trivial)
theorem drawF_store {x y : Operand} {e ty : TypeId} {pos : String} {af : Array Edge} {i : TypeInfo} {u : TypeDesc} {q off : Nat} {bcs : List D} {be : TypeId} {bz : Nat} {tm : List (Nat × Bool × D)} {H : List (Option Box)} {d : D} [h : TyI P e i u] (hx : Ev ⟨tm, H⟩ true x (.ptr q off)) (hy : Ev ⟨tm, H⟩ true y d) (hb : H[q]? = some (some ⟨bcs, be, bz⟩)) (hl : d.laid = true) (h1 : d.cells.all D.one = true) (hlen : Nat.beq d.cells.length i.size = true)
    (hoff : Nat.ble (off + i.size) bcs.length = true) (hwr : c.ro = true → c.β0.length ≤ q) {H' : List (Option Box)} (hH : H.set q (some ⟨splice bcs off d.cells, be, bz⟩) = H') (k : Q .normal ⟨tm, H'⟩) :
    ∃ HL dL, WStep P c n ops ⟨tm, H⟩ ⟨none, .store e x y, ty, pos, af, none⟩ none HL dL ∧ Q .normal (St.put ⟨tm, HL⟩ (⟨none, .store e x y, ty, pos, af, none⟩ : Oper).dst true dL) := by
  subst hH
  exact ⟨_, _, WStep.store hx hy hb hl h1 hlen hoff hwr, k⟩
end
end Go.Sy
