/- Layer 7's laws: the walks of PlainTurn, PlainZero and PlainSquare. -/
import Derived.Test.YtfnbofkhgimkcaaGreatU5
import Derived.Test.YtfnbofkhgimkcaaGreatRu
set_option linter.unusedSimpArgs false
set_option linter.unusedVariables false
namespace Go.Sy
open Go.RowKit
section
variable {P : Program} {s : St} {g : Bool} {dst : Option Tmp} {ty : TypeId} {pos : String} {af : Array Edge} {gd : Option (Nat × Bool)}
/-- make([]T, n), as plain data -/
theorem MOp.makeL {α : Type} {enc : α → List V} {a0 : α} {t e : TypeId} {k : IntKind} {m : Nat} {x : Operand} {i j : TypeInfo} {u : TypeDesc} {z : Value} [h : TyI P t i (.slice e)] [h' : TyI P e j u] (hx : Ev s g x (.p (.x (.int k (m : Int))))) (hz : j.zero = some z) (hz1 : z.cells = #[z]) (hsz : Nat.beq j.size 1 = true) (hby : Nat.ble j.bytes 1000 = true) (hm : m ≤ 1000000000) (henc : enc a0 = [.x z]) :
    MOp P s ⟨dst, .makeSlice t x x, ty, pos, af, gd⟩ g (.p (V.list enc (List.replicate m a0))) := by
  refine ⟨fun β S a w ho he hg K Q hK => ?_⟩
  have hsz : j.size = 1 := Nat.eq_of_beq_eq_true hsz
  have hby : j.bytes ≤ 1000 := by simpa using hby
  have h1 : a.eval x = .int k m := hx.rep (l := (Op.makeSlice t x x).operands) (by simp [Op.operands]) he hg
  have hbm : j.bytes * m ≤ 281474976710656 := Nat.le_trans (Nat.mul_le_mul hby hm) (by decide)
  have hrun := run_make_row (P := P) t e j z h.ut h'.ti hz hsz hz1 k k m hbm (by omega) w
  have hcur : (madeCells #[z] m).toList = List.replicate m z := by
    apply List.ext_getElem
    · simp [madeCells]
    · intro q h1 h2
      simp [madeCells, Nat.mod_one]
  have hx1 : Ext w (w.alloc (.cells (madeCells #[z] m) e)) := (Ext.refl w).alloc _
  refine wp_value (v := .slice (some ⟨w.heap.size, 0, none⟩) m m) (w' := w.alloc (.cells (madeCells #[z] m) e)) ?_ (hK _ _ hx1 ?_)
  · simp only [execOp, h1]
    rw [Sem.run_bind, hrun]
    rfl
  · refine ⟨some ⟨w.heap.size, 0, none⟩, m, List.replicate m z, by rw [List.length_replicate], by rw [List.length_replicate]; exact Nat.le_refl _, by simp only [maxLen]; omega, ?_, ?_⟩
    · have : (List.replicate m a0).flatMap enc = (List.replicate m z).map V.x := by
        clear hm hbm hrun hcur hx1 h1 hx hK
        induction m with
        | zero => rfl
        | succ m ih =>
          rw [List.replicate_succ, List.flatMap_cons, ih, henc, List.replicate_succ, List.map_cons]
          rfl
      rw [this]
      exact V.RepL.x
    · intro q y hq
      refine ⟨w.heap.size, 0, rfl, ?_, ho.up _ (Nat.le_refl _)⟩
      have h5 : (madeCells #[z] m).toList[q]? = some y := by rw [hcur]; exact hq
      have := World.news_of_block (heap_alloc_new w (.cells (madeCells #[z] m) e)) q y h5
      rw [add_lit] at this
      simpa using this
end
end Go.Sy
namespace Go.Proofs.YtfnbofkhgimkcaaGreat
open Go.RowKit Go.Sy
theorem la_fit {n : Nt} {j : Nat} {el : Ly} {cur : Sh} (hok : tOk n j = true) (g5 : (ckL n)[j]? = some (lxOf cur el)) {ys ws : List Int} (hy : (ys.length : Int) = shSize cur) (hw : (ws.length : Int) = sumW (ckL n)) :
    (laT n j ys ws).2 = true ∧ ((laT n j ys ws).1.length : Int) = shSize (outOf cur el).1 := by
  rw [laT_ok hok g5]
  rw [show laX n j (lxOf cur el) ys ws = ((List.range (shSize (outOf cur el).1).toNat).map fun q : Nat => numT (tmT n j q) (ptT n j q) ys ws, true) from if_pos ⟨hy, hw⟩]
  have := shSize_b (outOf cur el).1
  simp
  omega
theorem foldF_len {n : Nt} (hE : ckE n = 0) {xs ws : List Int} (hx : (xs.length : Int) = shSize n.inp) (hw : (ws.length : Int) = sumW (ckL n)) : ∀ j ≤ n.ls.length, ∃ s, (ckS n)[j]? = some s ∧ ((foldF n xs ws j).length : Int) = shSize s
  | 0, _ => ⟨n.inp, by rw [show ckS n = _ from if_pos hE]; rfl, hx⟩
  | j + 1, hj => by
    obtain ⟨s, h1, h2⟩ := foldF_len hE hx hw j (by omega)
    have hok : tOk n j = true := tOk_iff.2 ⟨hE, by omega, by omega⟩
    obtain ⟨j', el, cur, hjj, _, hel, g1, g2, g3, g4, g5, g6, g7, g8⟩ := tOk_at hok
    obtain rfl : j = j' := by omega
    rw [g1] at h1
    injection h1 with h1
    subst h1
    refine ⟨(outOf cur el).1, g6, ?_⟩
    rw [foldF_succ]
    exact (la_fit hok g5 h2 hw).2
end Go.Proofs.YtfnbofkhgimkcaaGreat
