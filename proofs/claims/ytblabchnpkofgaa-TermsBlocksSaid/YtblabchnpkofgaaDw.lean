/- Rows that are made by make, and elements that are stored into a row. No program in sight. -/
import Derived.Test.YtblabchnpkofgaaDv
import Derived.Deep.OwnRows
set_option linter.unusedSimpArgs false
set_option linter.unusedVariables false
namespace Go.Sy
open Go.RowKit
theorem rep_repl {β : List Place} {S : Nat → Prop} {w : World} (z : Value) (m : Nat) : D.RepL β S w (List.replicate m (D.p (.x z))) (List.replicate m z) := by
  have := D.RepL.p (β := β) (V.RepL.x (S := S) (w := w) (l := List.replicate m z))
  rw [List.map_replicate, List.map_replicate] at this
  exact this
section
variable {P : Program} {c : Ctx} {n : Nat} {ops : Array Oper} {Q : Exit → St → Prop} {rest : List Oper} {tm : List (Nat × Bool × D)} {H : List (Option Box)}
/-- make([]T, n) -/
theorem WStep.makeRow {t : Tmp} {ty e ty1 : TypeId} {pos : String} {af : Array Edge} {gd : Option (Nat × Bool)} {k : IntKind} {m : Nat} {x : Operand} {i j : TypeInfo} {u : TypeDesc} {z : Value} {cs : List D} [h : TyI P ty i (.slice e)] [h' : TyI P e j u] (hx : Ev ⟨tm, H⟩ true x (.p (.x (.int k (m : Int))))) (hz : j.zero = some z) (hz1 : z.cells = #[z]) (hsz : Nat.beq j.size 1 = true) (hby : Nat.ble j.bytes 1000 = true) (hm : m ≤ 1000000000) (ht : Nat.blt t n = true) (hcs : cs = List.replicate m (D.p (.x z))) :
    WStep P c n ops ⟨tm, H⟩ ⟨some t, .makeSlice ty x x, ty1, pos, af, gd⟩ none (H ++ [some ⟨cs, e, 1⟩]) (.row H.length m) := by
  subst hcs
  refine ⟨ht, ?_⟩
  intro β S a w hH he K Q hK
  have hsz : j.size = 1 := Nat.eq_of_beq_eq_true hsz
  have hby : j.bytes ≤ 1000 := by simpa using hby
  have h1 : a.eval x = .int k m := hx.rep (β := β) (S := S) (a := a) (w := w) (l := (Op.makeSlice ty x x).operands) (by simp [Op.operands]) (fun t ht => he t (by simp only [Oper.looksAt, List.mem_append, List.mem_filterMap]; exact .inl ⟨_, by simpa using ht, rfl⟩)) rfl
  have hbm : j.bytes * m ≤ 281474976710656 := Nat.le_trans (Nat.mul_le_mul hby hm) (by decide)
  have hrun := run_make_row (P := P) ty e j z h.ut h'.ti hz hsz hz1 k k m hbm (by omega) w
  have hcur : (madeCells #[z] m).toList = List.replicate m z := by
    apply List.ext_getElem
    · simp [madeCells]
    · intro q h1 h2
      simp [madeCells, Nat.mod_one]
  have hsize : (madeCells #[z] m).size = m := by
    rw [← Array.length_toList, hcur, List.length_replicate]
  obtain ⟨k1, k2⟩ := hH.newBox (e := e) (sz := 1) (q := m) (cur := madeCells #[z] m) (rep_repl z m) (by rw [hcur]; exact List.prefix_refl _) (fun h0 => by omega) (fun _ => ⟨by rw [hsize, Nat.mul_one], by simp only [maxLen]; omega⟩)
  have he' : ∀ b, S b → b < w.heap.size → (w.alloc (.cells (madeCells #[z] m) e)).heap[b]? = w.heap[b]? := fun b _ hb => Below.heap_alloc _ _ _ hb
  have hS' : ∀ b, S b → b < w.heap.size → S b ∧ b ≠ w.heap.size := fun b h hb => ⟨h, by omega⟩
  refine wp_value (v := .slice (some ⟨w.heap.size, 0, none⟩) m m) (w' := w.alloc (.cells (madeCells #[z] m) e)) ?_ (hK _ _ _ _ k1 ⟨fun i e _ h => k2 i e h, he', hS'⟩ fun _ => .inr ⟨w.heap.size, m, ?_, Nat.le_refl _, rfl⟩)
  · simp only [execOp, h1]
    rw [Sem.run_bind, hrun]
    rfl
  · rw [← hH.len]; simp
theorem SymL.makeRow {t : Tmp} {ty e ty1 : TypeId} {pos : String} {af : Array Edge} {k : IntKind} {m : Nat} {x : Operand} {i j : TypeInfo} {u : TypeDesc} {z : Value} {cs : List D} [h : TyI P ty i (.slice e)] [h' : TyI P e j u] (hx : Ev ⟨tm, H⟩ true x (.p (.x (.int k (m : Int))))) (hz : j.zero = some z) (hz1 : z.cells = #[z]) (hsz : Nat.beq j.size 1 = true) (hby : Nat.ble j.bytes 1000 = true) (hm : m ≤ 1000000000) (ht : Nat.blt t n = true) (hcs : cs = List.replicate m (D.p (.x z)))
    {hl : Nat} (hlen : H.length = hl) {H' : List (Option Box)} (hH' : H ++ [some ⟨cs, e, 1⟩] = H') (kk : SymL P c n ops Q rest ⟨(t, true, .row hl m) :: tm, H'⟩) : SymL P c n ops Q (⟨some t, .makeSlice ty x x, ty1, pos, af, none⟩ :: rest) ⟨tm, H⟩ := by
  subst hlen; subst hH'
  exact SymL.ofW (kk := none) (GOk.none rfl) (WStep.makeRow hx hz hz1 hsz hby hm ht hcs) kk
theorem splice_enc {α : Type} (enc : α → List V) (sz : Nat) (hsz : ∀ q, (enc q).length = sz) : ∀ (l : List α) (j : Nat) (el : α), j < l.length → splice (D.enc enc l) (j * sz) ((enc el).map D.p) = D.enc enc (l.set j el)
  | [], _, _, h => by simp at h
  | a :: l, 0, el, _ => by
    unfold splice
    simp only [D.enc, List.flatMap_cons, List.map_append, Nat.zero_mul, List.take_zero, List.nil_append, List.set_cons_zero, List.length_map, hsz, Nat.zero_add]
    rw [List.drop_append_of_le_length (by simp [hsz]), List.drop_of_length_le (by simp [hsz]), List.nil_append]
  | a :: l, j + 1, el, h => by
    have ih := splice_enc enc sz hsz l j el (by simpa using h)
    unfold splice at ih ⊢
    simp only [D.enc, List.flatMap_cons, List.map_append, List.set_cons_succ, List.length_map, hsz] at ih ⊢
    have hal : ((enc a).map D.p).length = sz := by simp [hsz]
    rw [show (j + 1) * sz = ((enc a).map D.p).length + j * sz by rw [hal, Nat.add_mul, Nat.one_mul, Nat.add_comm], List.take_length_add_append, Nat.add_assoc, List.drop_length_add_append, ← ih]
    simp only [List.append_assoc]
/-- row[j] = el -/
theorem SymL.storeRow {α : Type} {enc : α → List V} {l : List α} (j : Nat) (el : α) {ty : TypeId} {pos : String} {af : Array Edge} {x y : Operand} {e be : TypeId} {i : TypeInfo} {u : TypeDesc} {k off bz : Nat} {d : D} [h : TyI P e i u] (hx : Ev ⟨tm, H⟩ true x (.ptr k off)) (hy : Ev ⟨tm, H⟩ true y d) (hb : H[k]? = some (some ⟨D.enc enc l, be, bz⟩)) (hl : d.laid = true) (hd : d.cells = (enc el).map D.p) (hone : ∀ v ∈ enc el, v.one = true)
    (hoff : off = j * i.size) (hsz : ∀ q, (enc q).length = i.size) (hj : j < l.length) (hwr : c.ro = true → c.β0.length ≤ k) {H' : List (Option Box)} (hH' : H.set k (some ⟨D.enc enc (l.set j el), be, bz⟩) = H') (kk : SymL P c n ops Q rest ⟨tm, H'⟩) :
    SymL P c n ops Q (⟨none, .store e x y, ty, pos, af, none⟩ :: rest) ⟨tm, H⟩ := by
  subst hoff; subst hH'
  have hlen : (D.enc enc l).length = l.length * i.size := by
    rw [List.length_map, flat_len hsz]
  refine SymL.store hx hy hb hl ?_ ?_ ?_ hwr ?_
  · rw [hd, List.all_eq_true]
    intro q hq
    obtain ⟨v, hv, rfl⟩ := List.mem_map.1 hq
    exact hone v hv
  · rw [hd, List.length_map, hsz]
    simp
  · simp only [hlen, Nat.ble_eq]
    have : (j + 1) * i.size ≤ l.length * i.size := Nat.mul_le_mul_right _ hj
    rw [Nat.add_mul, Nat.one_mul] at this
    exact this
  · simp only
    rw [hd, splice_enc enc i.size hsz l j el hj]
    exact kk
/-- an element of one cell, out of a row -/
theorem MOp.loadRow1 {α : Type} {enc : α → List V} {l : List α} {el : α} {v : V} {s : St} {g : Bool} {dst : Option Tmp} {ty : TypeId} {pos : String} {af : Array Edge} {gd : Option (Nat × Bool)} {x : Operand} {t : TypeId} {i : TypeInfo} {u : TypeDesc} {k off j : Nat} {be : TypeId} {bz : Nat} [h : TyI P t i u] (hx : Ev s g x (.ptr k off)) (hb : s.H[k]? = some (some ⟨D.enc enc l, be, bz⟩)) (hu : TypeDesc.isAgg u = false) (hoff : off = j * i.size) (hs1 : Nat.beq i.size 1 = true) (henc : ∀ q, (enc q).length = 1) (hel : l[j]? = some el) (hv : enc el = [v]) :
    MOp P s ⟨dst, .load t x, ty, pos, af, gd⟩ g (.p v) := by
  have hs1 : i.size = 1 := Nat.eq_of_beq_eq_true hs1
  rw [hs1, Nat.mul_one] at hoff
  subst hoff
  refine MOp.load hx hb hu ?_
  obtain ⟨h1, h2⟩ := flat_drop enc 1 henc l off el hel
  rw [Nat.mul_one] at h1
  rw [hv] at h1
  rw [List.getElem?_map, ← Nat.add_zero off, ← List.getElem?_drop]
  have : ((l.flatMap enc).drop off)[0]? = some v := by
    rw [show ((l.flatMap enc).drop off)[0]? = (((l.flatMap enc).drop off).take 1)[0]? by rw [List.getElem?_take]; simp, h1]
    rfl
  rw [this]
  rfl
end
end Go.Sy
