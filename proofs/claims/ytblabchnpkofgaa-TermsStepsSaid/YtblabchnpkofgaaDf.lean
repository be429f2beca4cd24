/- Operations that make boxes, write into them, or let rows grow; where a function begins and ends. No program in sight. -/
import Derived.Test.YtblabchnpkofgaaDe
set_option linter.unusedSimpArgs false
set_option linter.unusedVariables false
namespace Go.Sy
open Go.RowKit

/-! ### cells of a datum -/
def V.one : V → Bool
  | .x u => u.oneCell'
  | .agg _ | .tup _ => false
  | _ => true
def D.one : D → Bool
  | .p v => v.one
  | .agg _ | .tup _ | .any => false
  | _ => true
def V.cells : V → List V
  | .agg cs => cs
  | .x u => u.cells.toList.map V.x
  | v => [v]
def D.cells : D → List D
  | .agg cs => cs
  | .p v => v.cells.map D.p
  | d => [d]
/-- is it something that lies in cells? -/
def D.laid : D → Bool
  | .tup _ | .any | .p (.tup _) => false
  | .p (.x (.tuple _)) => false
  | _ => true
section
variable {β β' : List Place} {S S' : Nat → Prop} {w w' : World}
theorem V.Rep.one {v : V} {u : Value} (h : v.Rep S w u) (h1 : v.one = true) : u.oneCell' = true := by
  cases v with
  | x y => rw [show u = y from h]; exact h1
  | sl n cs => obtain ⟨_, _, _, rfl, _⟩ := h; rfl
  | fl n cs => obtain ⟨_, _, rfl, _⟩ := h; rfl
  | ref cs => obtain ⟨_, _, rfl, _⟩ := h; rfl
  | ifc t d => obtain ⟨_, rfl, _⟩ := h; rfl
  | agg _ => cases h1
  | tup _ => cases h1
theorem D.Rep.one {v : D} {u : Value} (h : v.Rep β S w u) (h1 : v.one = true) : u.oneCell' = true := by
  cases v with
  | p v => exact V.Rep.one h h1
  | ptr i off => obtain ⟨_, _, _, rfl⟩ := h; rfl
  | row i n => rcases h with ⟨_, _, _, rfl⟩ | ⟨_, _, _, _, rfl⟩ <;> rfl
  | clo f fs cs => obtain ⟨_, _, rfl, _⟩ := h; rfl
  | lit n cs => obtain ⟨_, _, rfl, _⟩ := h; rfl
  | refD cs => obtain ⟨_, _, rfl, _⟩ := h; rfl
  | agg _ => cases h1
  | tup _ => cases h1
  | any => cases h1
theorem D.RepL.one : ∀ {ds : List D} {us : List Value}, D.RepL β S w ds us → ds.all D.one = true → ∀ u ∈ us, u.oneCell' = true
  | [], _, h, _, u, hu => by simp only [D.RepL] at h; subst h; cases hu
  | d :: ds, _, ⟨y, ys, h1, h2, h3⟩, ha, u, hu => by
    subst h1
    simp only [List.all_cons, Bool.and_eq_true] at ha
    rcases List.mem_cons.1 hu with rfl | hu
    · exact h2.one ha.1
    · exact D.RepL.one h3 ha.2 u hu
theorem D.RepL.single {d : D} {u : Value} (h : d.Rep β S w u) : D.RepL β S w [d] [u] := ⟨u, [], rfl, h, rfl⟩
theorem V.RepL.single {d : V} {u : Value} (h : d.Rep S w u) : V.RepL S w [d] [u] := ⟨u, [], rfl, h, rfl⟩
theorem V.Rep.cells {v : V} {u : Value} (h : v.Rep S w u) (hl : (D.p v).laid = true) : V.RepL S w v.cells u.cells.toList := by
  cases v with
  | x y =>
    have h : u = y := h
    subst h
    exact V.RepL.x
  | sl n cs => obtain ⟨_, _, _, rfl, _⟩ := id h; exact .single h
  | fl n cs => obtain ⟨_, _, rfl, _⟩ := id h; exact .single h
  | ref cs => obtain ⟨_, _, rfl, _⟩ := id h; exact .single h
  | ifc t d => obtain ⟨_, rfl, _⟩ := id h; exact .single h
  | agg cs => obtain ⟨us, rfl, h⟩ := h; exact h
  | tup _ => cases hl
theorem D.Rep.cells {d : D} {u : Value} (h : d.Rep β S w u) (hl : d.laid = true) : D.RepL β S w d.cells u.cells.toList := by
  cases d with
  | p v => exact D.RepL.p (V.Rep.cells h hl)
  | ptr i off => obtain ⟨_, _, _, rfl⟩ := id h; exact .single h
  | row i n => rcases id h with ⟨_, _, _, rfl⟩ | ⟨_, _, _, _, rfl⟩ <;> exact .single h
  | clo f fs cs => obtain ⟨_, _, rfl, _⟩ := id h; exact .single h
  | lit n cs => obtain ⟨_, _, rfl, _⟩ := id h; exact .single h
  | refD cs => obtain ⟨_, _, rfl, _⟩ := id h; exact .single h
  | agg cs => obtain ⟨us, rfl, h⟩ := h; exact h
  | tup _ => cases hl
  | any => cases hl
theorem BoxAt.mono {i : Nat} {x : Box} (hβ : ∀ (i : Nat) (e : Place), β[i]? = some e → β'[i]? = some e) (h : BoxAt β S w i x) (hb : ∀ b c, β[i]? = some (some (b, c)) → w'.heap[b]? = w.heap[b]? ∧ ¬ S' b)
    (e : ∀ b, S b → b < w.heap.size → w'.heap[b]? = w.heap[b]?) (hS : ∀ b, S b → b < w.heap.size → S' b) : BoxAt β' S' w' i x := by
  rcases h with ⟨h1, h2⟩ | ⟨b, c, cur, us, h1, h2, h3, h4, h5⟩
  · exact .inl ⟨hβ _ _ h1, h2⟩
  · exact .inr ⟨b, c, cur, us, hβ _ _ h1, (hb b c h1).2, by rw [(hb b c h1).1]; exact h3, h4.mono hβ e hS, h5⟩
theorem BoxAt.lt {i : Nat} {x : Box} (h : BoxAt β S w i x) {b c : Nat} (hb : β[i]? = some (some (b, c))) : b < w.heap.size ∧ ¬ S b := by
  rcases h with ⟨h1, h2⟩ | ⟨b', c', cur, us, h1, h2, h3, h4, h5⟩
  · rw [hb] at h1; cases h1
  · rw [hb] at h1
    simp only [Option.some.injEq, Prod.mk.injEq] at h1
    obtain ⟨rfl, rfl⟩ := h1
    exact ⟨(Array.getElem?_eq_some_iff.1 h3).1, h2⟩
end
section
variable {c : Ctx} {H : List (Option Box)} {β : List Place} {S : Nat → Prop} {w w' : World}
/-- one more box -/
theorem HSt.newBox (hH : HSt c H β S w) {cs : List D} {us : List Value} {cur : Array Value} {e : TypeId} {sz q : Nat} (hr : D.RepL β S w cs us) (hp : us <+: cur.toList) (h0 : sz = 0 → us.length = cur.size) (h1 : sz ≠ 0 → cur.size = q * sz ∧ q ≤ maxLen) :
    HSt c (H ++ [some ⟨cs, e, sz⟩]) (β ++ [some (w.heap.size, q)]) (fun b => S b ∧ b ≠ w.heap.size) (w.alloc (.cells cur e)) ∧ (∀ (i : Nat) (e : Place), β[i]? = some e → (β ++ [some (w.heap.size, q)])[i]? = some e) := by
  have hβ : ∀ (i : Nat) (e : Place), β[i]? = some e → (β ++ [some (w.heap.size, q)])[i]? = some e := fun i e h => by
    rw [List.getElem?_append_left (List.getElem?_eq_some_iff.1 h).1]; exact h
  have he : ∀ b, S b → b < w.heap.size → (w.alloc (.cells cur e)).heap[b]? = w.heap[b]? := fun b _ hb => Below.heap_alloc _ _ _ hb
  have hS : ∀ b, S b → b < w.heap.size → S b ∧ b ≠ w.heap.size := fun b h hb => ⟨h, by omega⟩
  have hgetβ : ∀ (i : Nat) (pl : Place), (β ++ [some (w.heap.size, q)])[i]? = some pl → β[i]? = some pl ∨ i = β.length ∧ pl = some (w.heap.size, q) := by
    intro i pl h
    rw [List.getElem?_append] at h
    split at h
    · exact .inl h
    · rename_i hge
      have : i = β.length := by
        rcases Nat.lt_or_ge β.length i with h' | h'
        · rw [List.getElem?_eq_none (by simp; omega)] at h; cases h
        · omega
      subst this
      simp at h
      exact .inr ⟨rfl, h.symm⟩
  have hgetH : ∀ (i : Nat) (x : Box), (H ++ [some ⟨cs, e, sz⟩])[i]? = some (some x) → H[i]? = some (some x) ∨ i = β.length ∧ x = ⟨cs, e, sz⟩ := by
    intro i x h
    rw [List.getElem?_append] at h
    split at h
    · exact .inl h
    · rename_i hge
      have : i = H.length := by
        rcases Nat.lt_or_ge H.length i with h' | h'
        · rw [List.getElem?_eq_none (by simp; omega)] at h; cases h
        · omega
      subst this
      simp at h
      exact .inr ⟨hH.len.symm, h.symm⟩
  have hltH : ∀ (i : Nat) (x : Box), H[i]? = some (some x) → i < β.length := fun i x h => by rw [hH.len]; exact (List.getElem?_eq_some_iff.1 h).1
  refine ⟨⟨⟨fun b hb => ?_, ?_, by simp [hH.len], ?_⟩, fun b hb => hH.sub b hb.1, ?_, ?_, fun i e hi h => hβ i e (hH.keep i e hi h), ?_, ?_, hH.os, hH.tape, hH.output, ?_⟩, hβ⟩
  · simp at hb
    exact ⟨hH.up b (by omega), by omega⟩
  · intro i x hx
    rcases hgetH i x hx with h | ⟨rfl, rfl⟩
    · refine (hH.box i x h).mono hβ (fun b c' hb => ?_) he hS
      have := (hH.box i x h).lt hb
      exact ⟨Below.heap_alloc _ _ _ this.1, fun h => this.2 h.1⟩
    · exact .inr ⟨w.heap.size, q, cur, us, by simp, fun h => h.2 rfl, heap_alloc_new w _, hr.mono hβ he hS, hp, h0, h1⟩
  · intro i j x y b p r hx hy hi hj
    rcases hgetH i x hx with h | ⟨rfl, rfl⟩ <;> rcases hgetH j y hy with k | ⟨rfl, rfl⟩
    · rcases hgetβ i _ hi with h' | ⟨h', _⟩
      · rcases hgetβ j _ hj with k' | ⟨k', _⟩
        · exact hH.inj i j x y b p r h k h' k'
        · have := hltH j y k; omega
      · have := hltH i x h; omega
    · rcases hgetβ i _ hi with h' | ⟨h', _⟩
      · simp at hj
        have := ((hH.box i x h).lt h').1
        omega
      · exact h'
    · rcases hgetβ j _ hj with h' | ⟨h', _⟩
      · simp at hi
        have := ((hH.box j y k).lt h').1
        omega
      · exact h'.symm
    · rfl
  · intro i b r hi
    rcases hgetβ i _ hi with h | ⟨_, h⟩
    · exact hH.own i b r h
    · injection h with h
      simp only [Prod.mk.injEq] at h
      exact .inl (h.1 ▸ hH.size)
  · intro b hb hn
    rw [Below.heap_alloc _ _ _ (Nat.lt_of_lt_of_le hb hH.size)]
    exact hH.fr b hb hn
  · rw [List.length_append]; exact Nat.le_add_right_of_le hH.klen
  · intro b hb hl
    have := hH.keepS b hb hl
    exact ⟨by rw [Below.heap_alloc _ _ _ (Nat.lt_of_lt_of_le hl hH.size)]; exact this.1, this.2, by have := hH.size; omega⟩
  · simp; exact Nat.le_succ_of_le hH.size
/-- a box written into, where it is -/
theorem HSt.write (hH : HSt c H β S w) {i : Nat} {x y : Box} (hx : H[i]? = some (some x)) {b q : Nat} (hb : β[i]? = some (some (b, q))) {cur cur' : Array Value} {us' : List Value} (hcur : w.heap[b]? = some (.cells cur x.e (0, 0))) (hsz : cur'.size = cur.size)
    (he : y.e = x.e) (hs : y.sz = x.sz) (hr : D.RepL β S w y.cs us') (hp : us' <+: cur'.toList) (hl : us'.length = cur'.size ∨ x.sz ≠ 0) (hwr : c.ro = true → c.β0.length ≤ i) : HSt c (H.set i (some y)) β S (w.setRow b cur') ∧ (∀ b', S b' → b' < w.heap.size → (w.setRow b cur').heap[b']? = w.heap[b']?) := by
  have hnb := (hH.box i x hx).lt hb
  have hne : ∀ b', b' ≠ b → (w.setRow b cur').heap[b']? = w.heap[b']? := fun b' h => setRow_other w b b' cur' h
  have hS : ∀ b', S b' → b' < w.heap.size → (w.setRow b cur').heap[b']? = w.heap[b']? := fun b' h _ => hne b' (by rintro rfl; exact hnb.2 h)
  have hsize : (w.setRow b cur').heap.size = w.heap.size := by simp [World.setRow]
  have hil : i < H.length := (List.getElem?_eq_some_iff.1 hx).1
  have hget : ∀ (j : Nat) (z : Box), (H.set i (some y))[j]? = some (some z) → (j = i ∧ z = y) ∨ (j ≠ i ∧ H[j]? = some (some z)) := by
    intro j z h
    rw [List.getElem?_set] at h
    by_cases e : i = j
    · subst e
      rw [if_pos rfl, if_pos hil] at h
      simp at h
      exact .inl ⟨rfl, h.symm⟩
    · rw [if_neg e] at h
      exact .inr ⟨Ne.symm e, h⟩
  have hlive : ∀ (j : Nat) (z : Box), (H.set i (some y))[j]? = some (some z) → ∃ z', H[j]? = some (some z') := by
    intro j z h
    rcases hget j z h with ⟨rfl, _⟩ | ⟨_, h⟩
    · exact ⟨x, hx⟩
    · exact ⟨z, h⟩
  refine ⟨⟨⟨fun b' hb' => hH.up b' (by rw [hsize] at hb'; exact hb'), ?_, by simp [hH.len], ?_⟩, hH.sub, hH.own, ?_, hH.keep, hH.klen, ?_, hH.os, hH.tape, hH.output, by rw [hsize]; exact hH.size⟩, hS⟩
  · intro j z hz
    rcases hget j z hz with ⟨rfl, rfl⟩ | ⟨hji, hz⟩
    · refine .inr ⟨b, q, cur', us', hb, hnb.2, by rw [he]; exact setRow_heap w b cur cur' _ _ hcur, hr.mono (fun _ _ h => h) hS fun _ h _ => h, hp, fun h0 => ?_, fun h1 => ?_⟩
      · rcases hl with h | h
        · exact h
        · exact absurd (hs ▸ h0) h
      · rcases hH.box j x hx with ⟨k1, _⟩ | ⟨b', c', cur0, us0, k1, _, k3, _, _, _, k7⟩
        · rw [hb] at k1; cases k1
        · rw [hb] at k1
          simp only [Option.some.injEq, Prod.mk.injEq] at k1
          obtain ⟨rfl, rfl⟩ := k1
          rw [hcur] at k3
          injection k3 with k3
          injection k3 with k3
          subst k3
          have := k7 (hs ▸ h1)
          rw [hsz, hs]
          exact this
    · refine (hH.box j z hz).mono (fun _ _ h => h) (fun b' c' hb' => ⟨hne b' ?_, ((hH.box j z hz).lt hb').2⟩) hS fun _ h _ => h
      rintro rfl
      exact hji (hH.inj j i z x b' c' q hz hx hb' hb)
  · intro p r z z' b' p' r' hz hz' h1 h2
    obtain ⟨z1, h3⟩ := hlive p z hz
    obtain ⟨z2, h4⟩ := hlive r z' hz'
    exact hH.inj p r z1 z2 b' p' r' h3 h4 h1 h2
  · intro b' hb' hn
    rw [hne b' ?_]
    · exact hH.fr b' hb' hn
    · rintro rfl
      rcases hH.own i b' q hb with h | ⟨q0, h⟩
      · omega
      · rcases hn with hro | hn
        · have h1 := (List.getElem?_eq_some_iff.1 h).1
          have h2 := hwr hro
          omega
        · exact hn i q0 h
  · intro b' hb' hl'
    have h1 := hH.keepS b' hb' hl'
    exact ⟨(hne b' (by rintro rfl; exact hnb.2 h1.2)).trans h1.1, h1.2⟩
end
section
variable {P : Program} {c : Ctx} {n : Nat} {ops : Array Oper} {Q : Exit → St → Prop} {s : St} {d : D} {rest : List Oper} {t : Tmp} {ty : TypeId} {pos : String} {af : Array Edge}
/-- a new box for a variable -/
theorem SymL.box {x : Operand} {e : TypeId} (hx : Ev s true x d) (hl : d.laid = true) (ht : Nat.blt t n = true) (k : SymL P c n ops Q rest ⟨(t, true, .ptr s.H.length 0) :: s.tm, s.H ++ [some ⟨d.cells, e, 0⟩]⟩) :
    SymL P c n ops Q (⟨some t, .box e x, ty, pos, af, none⟩ :: rest) s := by
  rintro a w ⟨β, S, hH, hd, hn, he⟩
  refine wpList_plain rfl fun K hK => ?_
  have hr := hx.rep (l := #[x]) (by simp) (fun t _ => he t) rfl
  have hc := hr.cells hl
  refine wp_value (v := .pointer (some ⟨w.heap.size, 0, none⟩)) (w' := w.alloc (.cells (a.eval x).cells e)) (by simp [execOp, Instr.box, newVar, newRow, go_sem]) (hK _ _ (k _ _ ?_))
  obtain ⟨h1, h2⟩ := hH.newBox (e := e) (sz := 0) (q := 0) (cur := (a.eval x).cells) hc (List.prefix_refl _) (fun _ => by simp) (fun h => absurd rfl h)
  have hlt : t < n := by simpa using ht
  have he' : ∀ b, S b → b < w.heap.size → (w.alloc (.cells (a.eval x).cells e)).heap[b]? = w.heap[b]? := fun b _ hb => Below.heap_alloc _ _ _ hb
  have hS' : ∀ b, S b → b < w.heap.size → S b ∧ b ≠ w.heap.size := fun b h hb => ⟨h, by omega⟩
  refine ⟨_, _, h1, hd, by rw [size_put, hn], ?_⟩
  refine EntAt.put (s := ⟨s.tm, s.H ++ [some ⟨d.cells, e, 0⟩]⟩) (dst := some t) ?_ (fun t' h => by injection h with h; rw [hn, ← h]; exact hlt) ⟨fun _ => ⟨w.heap.size, 0, ?_, rfl⟩, fun h => by cases h⟩
  · intro t' g' d' hg
    obtain ⟨k1, k2, k3⟩ := he t' g' d' hg
    exact ⟨k1, fun hg => (k2 hg).mono h2 he' hS', k3⟩
  · rw [← hH.len]; simp
theorem SymL.alloc {e : TypeId} {i : TypeInfo} {u : TypeDesc} {z : Value} [h : TyI P e i u] (hz : i.zero = some z) (ht : Nat.blt t n = true) (k : SymL P c n ops Q rest ⟨(t, true, .ptr s.H.length 0) :: s.tm, s.H ++ [some ⟨z.cells.toList.map (fun v => D.p (.x v)), e, 0⟩]⟩) :
    SymL P c n ops Q (⟨some t, .alloc e, ty, pos, af, none⟩ :: rest) s := by
  rintro a w ⟨β, S, hH, hd, hn, he⟩
  refine wpList_plain rfl fun K hK => ?_
  have hc : D.RepL β S w (z.cells.toList.map (fun v => D.p (.x v))) z.cells.toList := by
    have := D.RepL.p (β := β) (V.RepL.x (S := S) (w := w) (l := z.cells.toList))
    rwa [List.map_map] at this
  refine wp_value (v := .pointer (some ⟨w.heap.size, 0, none⟩)) (w' := w.alloc (.cells z.cells e)) (by simp [execOp, Instr.alloc, run_zeroValue' h.ti hz, newVar, newRow, go_sem]) (hK _ _ (k _ _ ?_))
  obtain ⟨h1, h2⟩ := hH.newBox (e := e) (sz := 0) (q := 0) (cur := z.cells) hc (List.prefix_refl _) (fun _ => by simp) (fun h => absurd rfl h)
  have hlt : t < n := by simpa using ht
  have he' : ∀ b, S b → b < w.heap.size → (w.alloc (.cells z.cells e)).heap[b]? = w.heap[b]? := fun b _ hb => Below.heap_alloc _ _ _ hb
  have hS' : ∀ b, S b → b < w.heap.size → S b ∧ b ≠ w.heap.size := fun b h hb => ⟨h, by omega⟩
  refine ⟨_, _, h1, hd, by rw [size_put, hn], ?_⟩
  refine EntAt.put (s := ⟨s.tm, s.H ++ [some ⟨z.cells.toList.map (fun v => D.p (.x v)), e, 0⟩]⟩) (dst := some t) ?_ (fun t' h => by injection h with h; rw [hn, ← h]; exact hlt) ⟨fun _ => ⟨w.heap.size, 0, ?_, rfl⟩, fun h => by cases h⟩
  · intro t' g' d' hg
    obtain ⟨k1, k2, k3⟩ := he t' g' d' hg
    exact ⟨k1, fun hg => (k2 hg).mono h2 he' hS', k3⟩
  · rw [← hH.len]; simp
/-- a list with some of its elements others -/
def splice {α : Type} (l : List α) (off : Nat) (m : List α) : List α := l.take off ++ m ++ l.drop (off + m.length)
theorem D.RepL.splice {β : List Place} {S : Nat → Prop} {w : World} {ds es : List D} {us vs : List Value} (h : D.RepL β S w ds us) (k : D.RepL β S w es vs) (off : Nat) : D.RepL β S w (splice ds off es) (splice us off vs) := by
  unfold Go.Sy.splice
  rw [← k.len]
  exact ((h.take off).app k).app (h.drop _)
/-- a store into a box -/
theorem SymL.store {x y : Operand} {e : TypeId} {i : TypeInfo} {u : TypeDesc} {k off : Nat} {bx : Box} [h : TyI P e i u] (hx : Ev s true x (.ptr k off)) (hy : Ev s true y d) (hb : s.H[k]? = some (some bx)) (hl : d.laid = true) (h1 : d.cells.all D.one = true) (hlen : Nat.beq d.cells.length i.size = true)
    (hoff : Nat.ble (off + i.size) bx.cs.length = true) (hwr : c.ro = true → c.β0.length ≤ k) (kk : SymL P c n ops Q rest ⟨s.tm, s.H.set k (some ⟨splice bx.cs off d.cells, bx.e, bx.sz⟩)⟩) :
    SymL P c n ops Q (⟨none, .store e x y, ty, pos, af, none⟩ :: rest) s := by
  rintro a w ⟨β, S, hH, hd, hn, he⟩
  refine wpList_plain rfl fun K hK => ?_
  obtain ⟨b, q, hβ, hv⟩ := hx.rep (l := #[x]) (by simp) (fun t _ => he t) rfl
  have hr := hy.rep (l := #[y]) (by simp) (fun t _ => he t) rfl
  have hc := hr.cells hl
  have hlen : d.cells.length = i.size := by simpa using hlen
  have hoff : off + i.size ≤ bx.cs.length := by simpa using hoff
  have hcl := hc.len
  rcases hH.box k bx hb with ⟨k1, _⟩ | ⟨b', c', cur, us, k1, k2, k3, k4, k5, k6, k7⟩
  · rw [hβ] at k1; cases k1
  rw [hβ] at k1
  simp only [Option.some.injEq, Prod.mk.injEq] at k1
  obtain ⟨rfl, rfl⟩ := k1
  have hul := k4.len
  have hule : us.length ≤ cur.size := by
    have := k5.length_le
    simpa using this
  have hrun := run_storeCells_at (P := P) b off bx.e (a.eval y).cells.toList 0 cur w k3 (by rw [hcl]; omega) (hc.one h1)
  simp only [Nat.add_zero] at hrun
  have hcs : (a.eval y).cells.size = i.size := by rw [← Array.length_toList, hcl, hlen]
  have hsr : SR c n ⟨s.tm, s.H.set k (some ⟨splice bx.cs off d.cells, bx.e, bx.sz⟩)⟩ (a.put none undef) (w.setRow b (cur.toList.take off ++ (a.eval y).cells.toList ++ cur.toList.drop (off + (a.eval y).cells.toList.length)).toArray) := by
    have hsp : splice us off (a.eval y).cells.toList <+: cur.toList.take off ++ (a.eval y).cells.toList ++ cur.toList.drop (off + (a.eval y).cells.toList.length) := by
      obtain ⟨tl, htl⟩ := k5
      refine ⟨tl, ?_⟩
      rw [← htl]
      unfold splice
      rw [List.take_append_of_le_length (by omega), List.drop_append_of_le_length (by omega)]
      simp
    obtain ⟨h2, h3⟩ := hH.write (y := ⟨splice bx.cs off d.cells, bx.e, bx.sz⟩) hb hβ k3 (cur' := (cur.toList.take off ++ (a.eval y).cells.toList ++ cur.toList.drop (off + (a.eval y).cells.toList.length)).toArray)
      (by simp; omega) rfl rfl (k4.splice hc off) (by simpa using hsp) (by
        rcases Nat.eq_zero_or_pos bx.sz with h0 | h0
        · left
          have := k6 h0
          unfold splice
          simp
          omega
        · right; omega) hwr
    exact ⟨β, S, h2, hd, hn, fun t g d hg => ⟨(he t g d hg).1, fun hg' => ((he t g d hg).2.1 hg').mono (fun _ _ h => h) h3 fun _ h _ => h, (he t g d hg).2.2⟩⟩
  unfold Oper.wp
  have : (execOp a.eval ⟨none, .store e x y, ty, pos, af, none⟩).run P w = .ok .skip (w.setRow b (cur.toList.take off ++ (a.eval y).cells.toList ++ cur.toList.drop (off + (a.eval y).cells.toList.length)).toArray) := by
    simp only [execOp, hv, Instr.storeAt, Instr.sureAddr, storeVar, Sem.run_bind, Sem.run_pure, Result.andThen_ok, run_sizeOf' h.ti, hcs, hrun]
    simp [hrun]
  rw [this]
  exact hK _ _ (kk _ _ hsr)
end
end Go.Sy
