/- Layer 7: rows of numbers modulo 2 to the 64: the document's Same, Add, Scale, Mul; Clone; too great. Layer 7: what a layer makes of a picture, number by number. Layer 7: package plain's Layer, and the document's number and Layer. -/
import Derived.Test.YtfnbofkhgimkcaaGreatTB
import Derived.Test.YtfnbofkhgimkcaaGreatDC
import Derived.Test.YtfnbofkhgimkcaaGreatTC
set_option linter.unusedSimpArgs false
set_option linter.unusedVariables false
namespace Go.Proofs.YtfnbofkhgimkcaaGreat
open Go.RowKit Go.Sy
abbrev uV (x : Int) : V := .x (.int .u64 x)
abbrev encU (x : Int) : List V := [uV x]
abbrev uw (x : Int) : Int := IntKind.u64.wrap x
abbrev uRow (l : List Int) : Box := ⟨D.enc encU l, 27, 1⟩
def addL (a b : List Int) : List Int := List.zipWith (fun x y => uw (x + y)) a b
def mulL (a b : List Int) : List Int := List.zipWith (fun x y => uw (x * y)) a b
def scaleL (k : Int) (a : List Int) : List Int := a.map fun x => uw (k * x)
theorem fnSameU (a b : List Int) (ha : a.length ≤ 1000000) : Fn1 Tryz.prog 12 [V.list encU a, V.list encU b] (.b (a == b)) := by
  refine Fn1.of (rs := [.b _]) (res := [.tmp 4]) Tryz.call12 Tryz.func12 rfl Tryz.ntmps12 rfl (by simp) fun c hc => ?_
  refine z_go ?_
  apply Sym.cond
  · rfl
  · intro h
    have h : ¬ (a.length : Int) = b.length := by simpa using h
    rw [show (a == b) = false by
      rw [beq_eq_false_iff_ne]
      rintro rfl
      exact h rfl]
    refine z_go ?_
    with_reducible first | apply Fin.rt | apply Fin.nx
    exact (.cons (.tmp rfl (.of (.of rfl))) .nil)
  · intro h
    have h : (a.length : Int) = b.length := by simpa using h
    refine z_go ?_
    refine Sym.loop (fun k s => ∃ i : Nat, i ≤ a.length ∧ a.take i = b.take i ∧ k = a.length - i ∧ s = ⟨[(5, true, .p (.i i)), (1, true, .p (V.list encU b)), (0, true, .p (V.list encU a))], []⟩) a.length ⟨_, ⟨0, Nat.zero_le _, by simp, by simp, rfl⟩, z_wkt⟩ ?_
    rintro k s ⟨i, hi, heq, rfl, rfl⟩
    refine z_go ?_
    apply Sym.cond
    · rfl
    · intro hlt
      simp only [decide_eq_true_eq] at hlt
      obtain ⟨x, hx⟩ : ∃ x, a[i]? = some x := ⟨_, List.getElem?_eq_getElem (by omega)⟩
      obtain ⟨y, hy⟩ : ∃ y, b[i]? = some y := ⟨_, List.getElem?_eq_getElem (by omega)⟩
      refine z_go ?_
      apply Sym.cond
      · rfl
      · intro hn
        rw [show (a == b) = false by
          rw [beq_eq_false_iff_ne]
          rintro rfl
          rw [hx] at hy
          injection hy with hy
          subst hy
          simp at hn]
        refine z_go ?_
        with_reducible first | apply Fin.rt | apply Fin.nx
        exact (.cons (.tmp rfl (.of (.of rfl))) .nil)
      · intro hn
        have hxy : x = y := by simpa using hn
        refine z_go ?_
        refine ⟨_, ?_, _, ⟨i + 1, by omega, ?_, rfl, rfl⟩, z_wkt⟩
        · omega
        · rw [List.take_add_one, List.take_add_one, hx, hy, heq, hxy]
    · intro hge
      simp only [decide_eq_false_iff_not] at hge
      obtain rfl : i = a.length := by omega
      rw [List.take_length, show a.length = b.length by omega, List.take_length] at heq
      rw [show (a == b) = true by rw [heq]; exact beq_self_eq_true b]
      refine z_go ?_
      with_reducible first | apply Fin.rt | apply Fin.nx
      exact (.cons (.tmp rfl (.of (.of rfl))) .nil)
theorem fnAddU (a b : List Int) (ha : a.length ≤ 1000000) (hb : b.length ≤ 1000000) : Fn1 Tryz.prog 13 [V.list encU a, V.list encU b] (V.list encU (addL a b)) := by
  refine Fn1.of (rs := [V.list encU _]) (res := [.tmp 4]) Tryz.call13 Tryz.func13 rfl Tryz.ntmps13 rfl (by simp) fun c hc => ?_
  have hl : (addL a b).length = min a.length b.length := by simp [addL]
  refine z_go ?_
  refine Sym.weak (Le.asRow 5 27 1 rfl rfl rfl z_nrm z_nrm) ?_
  refine Sym.loop (fun k s => ∃ i : Nat, i ≤ (addL a b).length ∧ k = (addL a b).length - i ∧ s = ⟨[(6, true, .p (.i i)), (5, true, .row 0 ((addL a b).take i).length), (1, true, .p (V.list encU b)), (0, true, .p (V.list encU a))], [some (uRow ((addL a b).take i))]⟩) (addL a b).length ⟨_, ⟨0, Nat.zero_le _, by simp, rfl⟩, z_wkt⟩ ?_
  rintro k s ⟨i, hi, rfl, rfl⟩
  refine z_go ?_
  apply Sym.cond
  · rfl
  · intro hlt
    simp only [decide_eq_true_eq] at hlt
    have hlt : i < (addL a b).length := by
      rw [hl]
      split at hlt <;> omega
    obtain ⟨x, hx⟩ : ∃ x, a[i]? = some x := ⟨_, List.getElem?_eq_getElem (by omega)⟩
    obtain ⟨y, hy⟩ : ∃ y, b[i]? = some y := ⟨_, List.getElem?_eq_getElem (by omega)⟩
    have hlen : ((addL a b).take i).length ≤ 1000000 := by
      rw [List.length_take]
      omega
    have hnx : (addL a b).take (i + 1) = (addL a b).take i ++ [uw (x + y)] := by
      rw [List.take_add_one]
      congr 1
      simp [addL, List.getElem?_zipWith, hx, hy]
    refine z_go ?_
    (apply Sym.drawXL [11] (by kernel_rfl) (by kernel_rfl) (by kernel_rfl))
    have a1 : AppH encU ((addL a b).take i) [uw (x + y)] := .mk; refine z_xgo ?_
    refine z_go ?_
    refine ⟨_, ?_, _, ⟨i + 1, by omega, rfl, rfl⟩, ?_⟩
    · omega
    · rw [hnx]
      exact z_wkt
  · intro hge
    simp only [decide_eq_false_iff_not] at hge
    obtain rfl : i = (addL a b).length := by
      rw [hl] at hi ⊢
      split at hge <;> omega
    rw [List.take_length]
    refine z_go ?_
    with_reducible first | apply Fin.rt | apply Fin.nx
    exact .cons (.tmp rfl (DVr.list encU _ rfl (fun q => rfl) rfl rfl)) .nil
theorem fnCloneU (l : List Int) (h : l.length ≤ 1000000) : Fn1 Tryz.prog 18 [V.list encU l] (V.list encU l) := by
  refine Fn1.of (rs := [V.list encU _]) (res := [.tmp 2]) Tryz.call18 Tryz.func18 rfl Tryz.ntmps18 rfl (by simp) fun c hc => ?_
  refine z_go ?_
  apply SymL.eqNil
  · exact z_ev
  · rfl
  intro b hb
  refine z_go ?_
  apply Sym.cond
  · rfl
  · intro h1
    have hl : l = [] := by
      have := hb h1
      cases l with
      | nil => rfl
      | cons _ _ => simp at this
    subst hl
    refine z_go ?_
    with_reducible first | apply Fin.rt | apply Fin.nx
    exact .cons (.tmp rfl (.of (.mk rfl z_vle))) .nil
  · intro _
    have a1 : AppH encU [] l := .mk; refine z_go ?_
    with_reducible first | apply Fin.rt | apply Fin.nx
    exact .cons (.tmp rfl (.of (.mk rfl z_vle))) .nil
/-! ### too great? -/
abbrev encLs (l : List Int) : List V := [V.list encU l]
def great7 (n : Nt) (ls : List (List Int)) : Bool := ls.any (fun l => decide (l.length > 3000)) || decide ((n.ls.length : Int) > 60)
end Go.Proofs.YtfnbofkhgimkcaaGreat
set_option linter.unusedSimpArgs false
set_option linter.unusedVariables false
namespace Go.Proofs.YtfnbofkhgimkcaaGreat
open Go.RowKit Go.Sy
abbrev gx (l : List Int) (i : Int) : Int := l.getD i.toNat 0
theorem gx_get {l : List Int} {i : Int} (h : 0 ≤ i ∧ i < l.length) : l[i.toNat]? = some (gx l i) := by
  have : i.toNat < l.length := by omega
  rw [gx, List.getD_eq_getElem?_getD, List.getElem?_eq_getElem this]
  rfl
def nStep (xs ws : List Int) (s : Int) (t : Tm) : Int := uw (s + uw (gx xs t.x * (if t.w < 0 then gx xs t.x else gx ws t.w)))
def wStep (xs ws : List Int) (s : Int) (t : Tm) : Int := uw (s + uw (gx xs t.x * gx ws t.w))
def pStep (xs : List Int) (s : Int) (v : Int) : Int := uw (s + gx xs v)
/-- the sum of a place's terms, and parts -/
def numT (ts : List Tm) (ps : List Int) (xs ws : List Int) : Int := ps.foldl (pStep xs) (ts.foldl (nStep xs ws) 0)
def wOkT (ts : List Tm) (xs ws : List Int) : Prop := ∀ t ∈ ts, (0 ≤ t.x ∧ t.x < xs.length) ∧ (0 ≤ t.w ∧ t.w < ws.length)
theorem foldl_take {α β : Type} (f : β → α → β) (s : β) (l : List α) (i : Nat) (x : α) (h : l[i]? = some x) : (l.take (i + 1)).foldl f s = f ((l.take i).foldl f s) x := by
  rw [List.take_add_one, h, Option.toList_some, List.foldl_append]
  rfl
set_option maxHeartbeats 2000000 in
theorem fnK1 (n : Nt) (i p : Int) (xs ws : List Int) (h : wOkT (tmT n i p) xs ws) : Fn1 Tryz.prog 72 [.i p, .ref [.i n.inp.c, .i n.inp.h, .i n.inp.w, V.list encLy n.ls], .ref [.i i], .ref [V.list encU xs], .ref [V.list encU ws]] (uV ((tmT n i p).foldl (wStep xs ws) 0)) := by
  refine Fn1.of (rs := [uV _]) (res := [.tmp 6]) Tryz.call72 Tryz.func72 rfl Tryz.ntmps72 rfl (by simp) fun c hc => ?_
  have hl := tmT_len n i p
  have k1 := fnTerms n i p; refine z_go ?_
  generalize tmT n i p = ts at *
  refine Sym.loop (fun k s => ∃ j : Nat, j ≤ ts.length ∧ k = ts.length - j ∧ s = ⟨[(15, true, .p (.i j)), (14, true, .p (.i ts.length)), (13, true, .p (V.list encTm ts)), (7, true, .p (uV ((ts.take j).foldl (wStep xs ws) 0))), (4, true, .p (.ref [V.list encU ws])), (3, true, .p (.ref [V.list encU xs]))], []⟩) ts.length ⟨_, ⟨0, Nat.zero_le _, by simp, rfl⟩, z_wkt⟩ ?_
  rintro k s ⟨j, hj, rfl, rfl⟩
  refine z_go ?_
  apply Sym.cond
  · rfl
  · intro hlt
    simp only [decide_eq_true_eq] at hlt
    obtain ⟨t, ht⟩ : ∃ t, ts[j]? = some t := ⟨_, List.getElem?_eq_getElem (by omega)⟩
    obtain ⟨h1, h2⟩ := h t (List.mem_of_getElem? ht)
    have g1 := gx_get h1
    have g2 := gx_get h2
    refine z_go ?_
    refine ⟨_, ?_, _, ⟨j + 1, by omega, rfl, rfl⟩, ?_⟩
    · omega
    · rw [foldl_take _ _ _ _ _ ht]
      exact z_wkt
  · intro hge
    simp only [decide_eq_false_iff_not] at hge
    obtain rfl : j = ts.length := by omega
    rw [List.take_length]
    refine z_go ?_
    with_reducible first | apply Fin.rt | apply Fin.nx
    exact (.cons (.tmp rfl (.of (.of rfl))) .nil)
theorem fnK2 (p : Int) (xs : List Int) (h : 0 ≤ p ∧ p < xs.length) : Fn1 Tryz.prog 74 [.i p, .ref [V.list encU xs]] (uV (uw (gx xs p * gx xs p))) := by
  refine Fn1.of (rs := [uV _]) (res := [.tmp 3]) Tryz.call74 Tryz.func74 rfl Tryz.ntmps74 rfl (by simp) fun c hc => ?_
  have g1 := gx_get h
  refine z_go ?_
  with_reducible first | apply Fin.rt | apply Fin.nx
  exact (.cons (.tmp rfl (.of (.of rfl))) .nil)
set_option maxHeartbeats 2000000 in
theorem fnK3 (n : Nt) (i p : Int) (xs : List Int) (h : ∀ v ∈ ptT n i p, 0 ≤ v ∧ v < xs.length) : Fn1 Tryz.prog 75 [.i p, .ref [.i n.inp.c, .i n.inp.h, .i n.inp.w, V.list encLy n.ls], .ref [.i i], .ref [V.list encU xs]] (uV ((ptT n i p).foldl (pStep xs) 0)) := by
  refine Fn1.of (rs := [uV _]) (res := [.tmp 5]) Tryz.call75 Tryz.func75 rfl Tryz.ntmps75 rfl (by simp) fun c hc => ?_
  have hl := ptT_len n i p
  have k1 := fnParts n i p; refine z_go ?_
  generalize ptT n i p = ts at *
  refine Sym.loop (fun k s => ∃ j : Nat, j ≤ ts.length ∧ k = ts.length - j ∧ s = ⟨[(14, true, .p (.i j)), (13, true, .p (.i ts.length)), (12, true, .p (V.list encI ts)), (6, true, .p (uV ((ts.take j).foldl (pStep xs) 0))), (3, true, .p (.ref [V.list encU xs]))], []⟩) ts.length ⟨_, ⟨0, Nat.zero_le _, by simp, rfl⟩, z_wkt⟩ ?_
  rintro k s ⟨j, hj, rfl, rfl⟩
  refine z_go ?_
  apply Sym.cond
  · rfl
  · intro hlt
    simp only [decide_eq_true_eq] at hlt
    obtain ⟨t, ht⟩ : ∃ t, ts[j]? = some t := ⟨_, List.getElem?_eq_getElem (by omega)⟩
    have h1 := h t (List.mem_of_getElem? ht)
    have g1 := gx_get h1
    refine z_go ?_
    refine ⟨_, ?_, _, ⟨j + 1, by omega, rfl, rfl⟩, ?_⟩
    · omega
    · rw [foldl_take _ _ _ _ _ ht]
      exact z_wkt
  · intro hge
    simp only [decide_eq_false_iff_not] at hge
    obtain rfl : j = ts.length := by omega
    rw [List.take_length]
    refine z_go ?_
    with_reducible first | apply Fin.rt | apply Fin.nx
    exact (.cons (.tmp rfl (.of (.of rfl))) .nil)
end Go.Proofs.YtfnbofkhgimkcaaGreat
set_option linter.unusedSimpArgs false
set_option linter.unusedVariables false
namespace Go.Proofs.YtfnbofkhgimkcaaGreat
open Go.RowKit Go.Sy
theorem uw_mod (x : Int) : uw x = x % 18446744073709551616 := by
  unfold uw IntKind.wrap
  have h : IntKind.u64.bits = 64 := rfl
  simp [IntKind.signed]
  rfl
theorem sumW_le (n : Nt) (j : Nat) : sumW ((ckL n).take j) ≤ sumW (ckL n) := by
  by_cases h : ckE n = 0
  · obtain ⟨h0, h1, h2, h3, h4⟩ := ckE_ok h
    have hn := chk_nonneg h2 h1
    have := (sum_le ((ckL n).take j) ((ckL n).drop j) (by rw [List.take_append_drop]; exact hn)).1
    rwa [List.take_append_drop] at this
  · simp [ckL, h]
/-- the terms' places lie in the picture, their weights among the weights -/
theorem tm_ok {n : Nt} {j : Nat} {el : Ly} {cur : Sh} (hok : tOk n j = true) (g2 : shRight cur = true) (g3 : (outOf cur el).2 = true) (g4 : 1 ≤ el.kind ∧ el.kind ≤ 4) (g5 : (ckL n)[j]? = some (lxOf cur el)) (g8 : shRight (outOf cur el).1 = true) {p : Int} (hp : 0 ≤ p ∧ p < shSize (outOf cur el).1) :
    (∀ t ∈ tmT n j p, 0 ≤ t.x ∧ t.x < shSize cur) ∧ (wOf cur el = 0 → ∀ t ∈ tmT n j p, t.w = -1) ∧ (wOf cur el ≠ 0 → ∀ t ∈ tmT n j p, 0 ≤ t.w ∧ t.w < sumW (ckL n)) := by
  obtain ⟨m, hm, hpo, hwo, hF⟩ := tm_facts g2 g3 g4 (ckW n j).1
  obtain ⟨f, hf⟩ := hF p hp.1 hp.2
  rw [(tmT_ok hok g5 p).trans hf.eq]
  have hmem : ∀ t ∈ (List.range m).map f, ∃ q, q < m ∧ f q = t := fun t ht => by
    obtain ⟨q, hq, rfl⟩ := List.mem_map.1 ht
    exact ⟨q, by simpa using hq, rfl⟩
  refine ⟨fun t ht => ?_, fun h0 t ht => ?_, fun h0 t ht => ?_⟩
  · obtain ⟨q, hq, rfl⟩ := hmem t ht
    exact hf.xin q hq
  · obtain ⟨q, hq, rfl⟩ := hmem t ht
    exact hf.w0 h0 q hq
  · obtain ⟨q, hq, rfl⟩ := hmem t ht
    have hw := hf.ww h0 q hq
    have hwm : wOf cur el = (outOf cur el).1.c * (m : Int) := by
      rcases hwo with h | h
      · exact absurd h h0
      · exact h.2
    have hch := of_in g8 (i := p) (by rw [show shOf (outOf cur el).1 p = _ from if_pos hp])
    obtain ⟨c1, _, _⟩ := inS_iff.1 hch.1
    have hwi := w_in (wt := (ckW n j).1) c1 (q := (q : Int)) (m := (m : Int)) ⟨by omega, by omega⟩
    rw [← hw, ← hwm] at hwi
    obtain ⟨v1, v2⟩ := ck_vals g5
    have hs := (ck_step n j).1
    have hle := sumW_le n (j + 1)
    obtain ⟨hE, _, _⟩ := tOk_iff.1 hok
    have hjl : j < n.ls.length := by
      have := tOk_iff.1 hok
      omega
    obtain ⟨_, hsum⟩ := ckL_ok n
    have h1 := (hsum j).1
    have hWj : (ckW n j).1 = sumW ((ckL n).take j) := by
      have hl : j < (ckL n).length := (List.getElem?_eq_some_iff.1 g5).1
      unfold ckW
      rw [if_pos (by omega)]
      simp
    rw [v1] at hs
    omega
theorem pt_ok {n : Nt} {j : Nat} {el : Ly} {cur : Sh} (hok : tOk n j = true) (g2 : shRight cur = true) (g3 : (outOf cur el).2 = true) (g5 : (ckL n)[j]? = some (lxOf cur el)) (g8 : shRight (outOf cur el).1 = true) (p : Int) :
    (∀ v ∈ ptT n j p, 0 ≤ v ∧ v < shSize cur) ∧ (el.kind ≠ 3 → ptT n j p = []) := by
  rw [ptT_ok hok g5 p]
  unfold ptX
  simp only
  refine ⟨fun v hv => ?_, fun h => if_neg h⟩
  split at hv
  · rename_i hk
    split at hv
    · rename_i h
      have hb : shPool cur el.size = ((outOf cur el).1, true) := by
        rw [fits3 hk] at g3 ⊢
        rw [← g3]
      obtain ⟨p1, p2, p3, p4, p5⟩ := pool_fit g2 hb
      obtain ⟨z, hz⟩ : ∃ k : Nat, el.size = k := ⟨el.size.toNat, by omega⟩
      rw [hz, Int.toNat_natCast] at hv
      rw [hz] at p3 p4 p5
      obtain ⟨j', hj', rfl⟩ := List.mem_map.1 hv
      have hj' : j' < z * z := by simpa using hj'
      obtain ⟨g1', g2', g3'⟩ := of_in g8 h
      obtain ⟨i1, i2, i3⟩ := inS_iff.1 g1'
      have q1 : j' / z < z := Nat.div_lt_of_lt_mul hj'
      have q2 : j' % z < z := Nat.mod_lt _ (by omega)
      have e1 : ((shOf (outOf cur el).1 p).1.2.1 + 1) * (z : Int) ≤ (outOf cur el).1.h * z := Int.mul_le_mul_of_nonneg_right (by omega) (by omega)
      have e2 : ((shOf (outOf cur el).1 p).1.2.2 + 1) * (z : Int) ≤ (outOf cur el).1.w * z := Int.mul_le_mul_of_nonneg_right (by omega) (by omega)
      rw [Int.add_mul, Int.one_mul, p4] at e1
      rw [Int.add_mul, Int.one_mul, p5] at e2
      have e3 := Int.mul_nonneg i2.1 (show 0 ≤ (z : Int) by omega)
      have e4 := Int.mul_nonneg i3.1 (show 0 ≤ (z : Int) by omega)
      rw [p2] at i1
      have hin : inS cur (shOf (outOf cur el).1 p).1.1 ((shOf (outOf cur el).1 p).1.2.1 * z + (j' / z : Nat)) ((shOf (outOf cur el).1 p).1.2.2 * z + (j' % z : Nat)) = true := by
        generalize j' / z = B at *
        generalize j' % z = D at *
        exact inS_iff.2 ⟨i1, ⟨by omega, by omega⟩, ⟨by omega, by omega⟩⟩
      have hp := pos_in g2 hin
      have hz2 : shSize cur = cur.c * cur.h * cur.w := by simp [shSize, g2]
      show 0 ≤ shAt _ _ _ _ ∧ shAt _ _ _ _ < _
      rw [shAt_ok g2 hin]
      omega
    · cases hv
  · cases hv
/-! ### the document's number -/
set_option maxHeartbeats 4000000 in
theorem fnNumber (n : Nt) (i p : Int) (xs ws : List Int) (h1 : ∀ t ∈ tmT n i p, (0 ≤ t.x ∧ t.x < xs.length) ∧ (t.w < 0 ∨ (0 ≤ t.w ∧ t.w < ws.length))) (h2 : ∀ v ∈ ptT n i p, 0 ≤ v ∧ v < xs.length) :
    Fn1 Tryz.prog 60 [ntV n, .i i, .i p, V.list encU xs, V.list encU ws] (uV (numT (tmT n i p) (ptT n i p) xs ws)) := by
  refine Fn1.of (rs := [uV _]) (res := [.tmp 10]) Tryz.call60 Tryz.func60 rfl Tryz.ntmps60 rfl (by simp) fun c hc => ?_
  have hl1 := tmT_len n i p
  have hl2 := ptT_len n i p
  have kp := fnRParts n i p
  have k1 := fnRTerms n i p; refine z_go ?_
  generalize tmT n i p = ts at *
  generalize ptT n i p = ps at *
  refine Sym.loop (fun k s => ∃ j : Nat, j ≤ ts.length ∧ k = ts.length - j ∧ s = ⟨[(13, true, .p (.i j)), (12, true, .p (V.list encTm ts)), (11, true, .p (uV ((ts.take j).foldl (nStep xs ws) 0))), (5, true, .ptr 0 0), (4, true, .p (V.list encU ws)), (3, true, .p (V.list encU xs)), (2, true, .p (.i p)), (1, true, .p (.i i))], [some (ntBox n)]⟩) ts.length ⟨_, ⟨0, Nat.zero_le _, by simp, rfl⟩, z_wkt⟩ ?_
  rintro k s ⟨j, hj, rfl, rfl⟩
  refine z_go ?_
  apply Sym.cond
  · rfl
  · intro hlt
    simp only [decide_eq_true_eq] at hlt
    obtain ⟨t, ht⟩ : ∃ t, ts[j]? = some t := ⟨_, List.getElem?_eq_getElem (by omega)⟩
    obtain ⟨h1x, h1w⟩ := h1 t (List.mem_of_getElem? ht)
    have g1 := gx_get h1x
    refine z_go ?_
    apply Sym.cond
    · rfl
    · intro hw
      simp only [decide_eq_true_eq] at hw
      refine z_go ?_
      refine ⟨_, ?_, _, ⟨j + 1, by omega, rfl, rfl⟩, ?_⟩
      · omega
      · rw [foldl_take _ _ _ _ _ ht]
        unfold nStep
        rw [if_pos hw]
        exact z_wkt
    · intro hw
      simp only [decide_eq_false_iff_not] at hw
      have g2 := gx_get (l := ws) (i := t.w) (by omega)
      have h1w' : 0 ≤ t.w ∧ t.w < ws.length := by omega
      refine z_go ?_
      refine ⟨_, ?_, _, ⟨j + 1, by omega, rfl, rfl⟩, ?_⟩
      · omega
      · rw [foldl_take _ _ _ _ _ ht]
        unfold nStep
        rw [if_neg hw]
        exact z_wkt
  · intro hge
    simp only [decide_eq_false_iff_not] at hge
    obtain rfl : j = ts.length := by omega
    rw [List.take_length]
    have k1 := kp; refine z_go ?_
    refine Sym.loop (fun k s => ∃ j : Nat, j ≤ ps.length ∧ k = ps.length - j ∧ s = ⟨[(15, true, .p (.i j)), (14, true, .p (V.list encI ps)), (11, true, .p (uV ((ps.take j).foldl (pStep xs) (ts.foldl (nStep xs ws) 0)))), (3, true, .p (V.list encU xs))], [some (ntBox n)]⟩) ps.length ⟨_, ⟨0, Nat.zero_le _, by simp, rfl⟩, z_wkt⟩ ?_
    rintro k s ⟨j, hj, rfl, rfl⟩
    refine z_go ?_
    apply Sym.cond
    · rfl
    · intro hlt
      simp only [decide_eq_true_eq] at hlt
      obtain ⟨v, hv⟩ : ∃ v, ps[j]? = some v := ⟨_, List.getElem?_eq_getElem (by omega)⟩
      have h2v := h2 v (List.mem_of_getElem? hv)
      have g1 := gx_get h2v
      refine z_go ?_
      refine ⟨_, ?_, _, ⟨j + 1, by omega, rfl, rfl⟩, ?_⟩
      · omega
      · rw [foldl_take _ _ _ _ _ hv]
        exact z_wkt
    · intro hge
      simp only [decide_eq_false_iff_not] at hge
      obtain rfl : j = ps.length := by omega
      rw [List.take_length]
      refine z_go ?_
      with_reducible first | apply Fin.rt | apply Fin.nx
      exact (.cons (.tmp rfl (.of (.of rfl))) .nil)
/-! ### what layers of each kind do -/
abbrev ntRef (n : Nt) : D := .p (.ref [.i n.inp.c, .i n.inp.h, .i n.inp.w, V.list encLy n.ls])
abbrev kd1 (n : Nt) (i : Int) (xs ws : List Int) : D := .clo (.func 72) [] [ntRef n, .p (.ref [.i i]), .p (.ref [V.list encU xs]), .p (.ref [V.list encU ws])]
abbrev kd2 (xs : List Int) : D := .clo (.func 74) [] [.p (.ref [V.list encU xs])]
abbrev kd3 (n : Nt) (i : Int) (xs : List Int) : D := .clo (.func 75) [] [ntRef n, .p (.ref [.i i]), .p (.ref [V.list encU xs])]
theorem fnKinds (n : Nt) (i : Int) (xs ws : List Int) : FnB Tryz.prog 59 [.p (ntV n), .p (.i i), .p (V.list encU xs), .p (V.list encU ws)] [] (.agg [.p (.x Value.nilFunc), kd1 n i xs ws, kd2 xs, kd3 n i xs, kd1 n i xs ws]) [none, none, none, none, some ⟨[.p (.x Value.nilFunc), kd1 n i xs ws, kd2 xs, kd3 n i xs, kd1 n i xs ws], 103, 0⟩] := by
  refine FnB.of (rs := [.agg [.p (.x Value.nilFunc), kd1 n i xs ws, kd2 xs, kd3 n i xs, kd1 n i xs ws]]) (res := [.cell 8 103]) Tryz.call59 Tryz.func59 rfl Tryz.ntmps59 rfl (by simp) rfl rfl fun c hro hc hdead => ?_
  refine z_go ?_
  refine FinB.rtW _ (Le.trans (Le.icp 0 [.i n.inp.c, .i n.inp.h, .i n.inp.w, V.list encLy n.ls] rfl (by rw [hc]; exact Nat.zero_le _)) (Le.trans (Le.icp 1 [.i i] rfl (by rw [hc]; exact Nat.zero_le _)) (Le.trans (Le.icp 2 [V.list encU xs] rfl (by rw [hc]; exact Nat.zero_le _)) (Le.icp 3 [V.list encU ws] rfl (by rw [hc]; exact Nat.zero_le _))))) (.cons (.cellA inferInstance rfl rfl rfl (Nat.le_of_ble_eq_true rfl) (.refl _)) .nil)
end Go.Proofs.YtfnbofkhgimkcaaGreat
