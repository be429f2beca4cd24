/- []byte("..") of a constant: a literal, and its conversion to its own type, which marks the block. No program in sight. -/
import Derived.Test.YtblabchnpkofgaaDp
import Derived.Lib.SlBytesConst
set_option linter.unusedSimpArgs false
set_option linter.unusedVariables false
namespace Go.Sy
open Go.RowKit
section
variable {P : Program} {c : Ctx} {n : Nat} {ops : Array Oper} {Q : Exit → St → Prop} {rest : List Oper} {tm : List (Nat × Bool × D)} {H : List (Option Box)}
theorem fill_x (place : Nat → Option (Nat × Nat)) : ∀ (xs : List (Nat × Operand)) (ρ ρ' : Operand → Value) (cs : Array Value), (∀ x ∈ xs, ρ x.2 = ρ' x.2) → Instr.fill place cs (xs.map fun x => (x.1, ρ x.2)) = Instr.fill place cs (xs.map fun x => (x.1, ρ' x.2)) := by
  intro xs ρ ρ' cs h
  congr 1
  exact List.map_congr_left fun x hx => by rw [h x hx]
theorem SymL.bytesConst {t t' : Tmp} {ty ty1 ty2 e : TypeId} {pos pos' : String} {af af' : Array Edge} {len : Nat} {parts : Array (Nat × Operand)} {i j : TypeInfo} {z : Value} {ds : List (Nat × D)} {res : List D} {vs : List V} [h : TyI P ty i (.slice e)] [h' : TyI P e j (.int .u8)] (hz : j.zero = some z) (hlen : Nat.ble (len * j.size) 16777216 = true) (hp : EvP ⟨tm, H⟩ true parts.toList ds)
    (hf : fillD (fun i => some (i * j.size, j.size)) (zeroD z (len * j.size)) ds = some res) (hv : D.toVL res = some vs) (hlm : Nat.ble len 1000000 = true) (hpos : Nat.blt 0 (len * j.size) = true) (ht : Nat.blt t n = true) (ht' : Nat.blt t' n = true) (kk : SymL P c n ops Q rest ⟨(t', true, .p (.fl len vs)) :: (t, true, .any) :: tm, H⟩) :
    SymL P c n ops Q (⟨some t, .buildSlice ty len parts, ty1, pos, af, none⟩ :: ⟨some t', .convert ty ty (.tmp t), ty2, pos', af', none⟩ :: rest) ⟨tm, H⟩ := by
  rintro a w ⟨β, S, hH, hd, hn, he⟩
  have hlen : len * j.size ≤ 16777216 := by simpa using hlen
  have hlm : len ≤ 1000000 := by simpa using hlm
  have hpos : 0 < len * j.size := by simpa using hpos
  have h1 := hp.rep (l := (Op.buildSlice ty len parts).operands) (fun t _ => he t) rfl (by
    intro x hx
    simp only [Op.operands, List.mem_toArray, List.mem_map]
    exact ⟨x, hx, rfl⟩)
  have hc : D.RepL β S w (zeroD z (len * j.size)) ((List.range (len * j.size)).map fun q => z.cells[q % z.cells.size]!) := by
    have := D.RepL.p (β := β) (V.RepL.x (S := S) (w := w) (l := (List.range (len * j.size)).map fun q => z.cells[q % z.cells.size]!))
    rw [List.map_map, List.map_map] at this
    exact this
  obtain ⟨us, h2, h3⟩ := fill_rep _ h1 hc hf
  have hlt : t < n := by simpa using ht
  have hlt' : t' < n := by simpa using ht'
  refine wpList_plain rfl fun K hK => ?_
  refine wp_value (v := .slice (some ⟨w.heap.size, 0, none⟩) len len) (w' := w.alloc (.cells us.toArray e)) ?_ (hK _ _ ?_)
  · have e3 : ((Array.range (len * j.size)).map fun q => z.cells[q % z.cells.size]!) = ((List.range (len * j.size)).map fun q => z.cells[q % z.cells.size]!).toArray := by
      apply Array.ext'; simp
    have hge : ¬ len * j.size > 2 ^ 24 := by omega
    have h0 : ¬ len * j.size = 0 := by omega
    simp only [execOp, Instr.buildSlice, Sem.run_bind, run_underlying h.ut, Result.andThen_ok, run_sizeOf' h'.ti, if_neg hge, if_neg h0, Sem.run_pure, run_zeroValue' h'.ti hz]
    simp only [Array.toList_map, e3]
    rw [h2]
    simp [newRow, go_sem]
  refine wpList_plain rfl fun K' hK' => ?_
  have hev : (a.put (some t) (.slice (some ⟨w.heap.size, 0, none⟩) len len)).eval (.tmp t) = .slice (some ⟨w.heap.size, 0, none⟩) len len := by
    show (a.put (some t) _).tmps.getD t undef = _
    rw [getD_put' (by rw [hn]; exact hlt), if_pos rfl]
  have hx : Ext w (w.alloc (.cells us.toArray e (us.toArray.size, us.toArray.size + 1))) := (Ext.refl w).alloc _
  refine wp_value (v := .slice (some ⟨w.heap.size, 0, none⟩) len len) (w' := w.alloc (.cells us.toArray e (us.toArray.size, us.toArray.size + 1))) ?_ (hK' _ _ (kk _ _ ?_))
  · simp only [execOp, hev, Sem.run_bind, Lib.run_convert_bytes_const w ty e us.toArray len len h.ut h'.ut]
    rfl
  · refine ⟨β, S, hH.ext hx, by rw [defers_put, defers_put, hd], by rw [size_put, size_put, hn], ?_⟩
    refine EntAt.put (s := ⟨(t, true, .any) :: tm, H⟩) (dst := some t') (EntAt.put (s := ⟨tm, H⟩) (dst := some t) (fun t => (he t).ext hx) (fun q h => by injection h with h; rw [hn, ← h]; exact hlt) ⟨fun _ => trivial, fun h => by cases h⟩) (fun q h => by injection h with h; rw [size_put, hn, ← h]; exact hlt') ⟨fun _ => ?_, fun h => by cases h⟩
    refine ⟨_, us, rfl, by simp only [maxLen]; omega, (D.RepL.toV hv h3).ext hx, ?_⟩
    intro q y hq
    refine ⟨w.heap.size, 0, rfl, ?_, hH.up _ (Nat.le_refl _)⟩
    have hb : ∀ o : Obj, (w.alloc o).heap[w.heap.size]? = some o := fun o => by
      show (w.heap.push o)[w.heap.size]? = _
      simp
    simp only [World.cell?, hb]
    simpa using hq
/-- a new variable among drawn operations -/
theorem XTo.alloc {ws : List Nat} {T : St → Prop} {k m : Nat} {past : List Past} {t : Tmp} {ty e : TypeId} {pos : String} {af : Array Edge} {i : TypeInfo} {u : TypeDesc} {z : Value} [h : TyI P e i u] (hz : i.zero = some z) (ht : Nat.blt t n = true) {H' : List (Option Box)} (hm : H.length = m) (hH' : H ++ [some ⟨z.cells.toList.map (fun v => D.p (.x v)), e, 0⟩] = H') (hw : ws.contains k = true) (hms : LateOk P n ops k none H' past)
    (kk : XTo P c n ops ws T (k + 1) rest ⟨(t, true, .ptr m 0) :: tm, H'⟩ past) : XTo P c n ops ws T k (⟨some t, .alloc e, ty, pos, af, none⟩ :: rest) ⟨tm, H⟩ past := by
  subst hm; subst hH'
  refine .write (kk := none) (d := .ptr H.length 0) hw ⟨ht, ?_⟩ hms (by rw [Past.cl_none]; exact kk)
  intro β S a w hH he K Q hK
  have hc : D.RepL β S w (z.cells.toList.map (fun v => D.p (.x v))) z.cells.toList := by
    have := D.RepL.p (β := β) (V.RepL.x (S := S) (w := w) (l := z.cells.toList))
    rwa [List.map_map] at this
  obtain ⟨h1, h2⟩ := hH.newBox (e := e) (sz := 0) (q := 0) (cur := z.cells) hc (List.prefix_refl _) (fun _ => by simp) (fun h => absurd rfl h)
  have he' : ∀ b, S b → b < w.heap.size → (w.alloc (.cells z.cells e)).heap[b]? = w.heap[b]? := fun b _ hb => Below.heap_alloc _ _ _ hb
  have hS' : ∀ b, S b → b < w.heap.size → S b ∧ b ≠ w.heap.size := fun b h hb => ⟨h, by omega⟩
  refine wp_value (v := .pointer (some ⟨w.heap.size, 0, none⟩)) (w' := w.alloc (.cells z.cells e)) (by simp [execOp, Instr.alloc, run_zeroValue' h.ti hz, newVar, newRow, go_sem]) (hK _ _ _ _ h1 ⟨fun i e _ h => h2 i e h, he', hS'⟩ fun _ => ⟨w.heap.size, 0, ?_, rfl⟩)
  rw [← hH.len]; simp
end
end Go.Sy
