/- The law SessionAll, walked: for every script it returns true. -/
import Derived.Test.YtdehiohjlbmmdaaHd
import Derived.Test.YtdehiohjlbmmdaaHf
set_option linter.unusedSimpArgs false
set_option linter.unusedVariables false
namespace Go.Proofs.Ytdehiohjlbmmdaa
open Go.RowKit Go.Sy
abbrev allH (e0 e1 : Lk) (o0 o1 : List (List UInt8)) (gv0 gv1 : Int) : List (Option Box) :=
  [some (lnks e0 e1), some (twoR 3 o0.length 4 o1.length), some ⟨[.p (.i gv0), .p (.i gv1)], 3, 1⟩, some (rowB o0), some (rowB o1)]
abbrev allTm (ops : List OpR) (idx : Nat) (m n : Int) : List (Nat × Bool × D) :=
  [(11, true, .p (.i idx)), (10, true, .row 2 2), (9, true, .row 1 2), (8, true, .row 0 2), (7, true, .p (.b true)), (2, true, .p (.i n)), (1, true, .p (.i m)), (0, true, .p (V.list encOp ops))]
abbrev rdTm (j : Nat) (m n : Int) : List (Nat × Bool × D) :=
  [(20, true, .p (.i j)), (10, true, .row 2 2), (8, true, .row 0 2), (7, true, .p (.b true)), (2, true, .p (.i n)), (1, true, .p (.i m))]
abbrev flB (fa fb : List (List UInt8)) : Box := ⟨[.p (V.list encB fa), .p (V.list encB fb)], 35, 1⟩
abbrev rdH0 (x y : Lk) (gv0 gv1 : Int) : List (Option Box) := [some (lnks x y), none, some ⟨[.p (.i gv0), .p (.i gv1)], 3, 1⟩, none, none]
abbrev rdH1 (x y : Lk) (gv0 gv1 : Int) : List (Option Box) := [some (lnks y x), none, some ⟨[.p (.i gv0), .p (.i gv1)], 3, 1⟩, none, none]
def rounds : Nat → Lk × Lk → Lk × Lk
  | 0, p => p
  | j + 1, p => round (rounds j p)
theorem ph1_snoc (x : Lk) {fl : List (List UInt8)} {i : Nat} {f : List UInt8} (h : fl[i]? = some f) : ph1 x (fl.take (i + 1)) = (lkTake (ph1 x (fl.take i)).1 f, (ph1 x (fl.take i)).2 ++ outTake (ph1 x (fl.take i)).1 f) := by
  unfold ph1
  rw [List.take_add_one, h, List.foldl_append]
  rfl
theorem ph2_snoc (p : Lk × Lk) {fl : List (List UInt8)} {i : Nat} {f : List UInt8} (h : fl[i]? = some f) : ph2 p (fl.take (i + 1)) = ((outTake (ph2 p (fl.take i)).2 f).foldl lkTake (ph2 p (fl.take i)).1, lkTake (ph2 p (fl.take i)).2 f) := by
  unfold ph2
  rw [List.take_add_one, h, List.foldl_append]
  rfl
theorem ph1_len (x : Lk) (fl : List (List UInt8)) : (ph1 x fl).2.length ≤ fl.length := by
  have key : ∀ (fl : List (List UInt8)) (x : Lk) (acc : List (List UInt8)), (fl.foldl (fun p f => (lkTake p.1 f, p.2 ++ outTake p.1 f)) (x, acc)).2.length ≤ acc.length + fl.length := by
    intro fl
    induction fl with
    | nil => intro x acc; simp
    | cons f fl ih =>
      intro x acc
      have := ih (lkTake x f) (acc ++ outTake x f)
      have h2 := outTake_len x f
      simp at this
      show (List.foldl _ (lkTake x f, acc ++ outTake x f) fl).2.length ≤ _
      simp
      omega
  have := key fl x []
  unfold ph1
  simpa using this
theorem rounds_half {a b : Side} {m n : Int} (h : Half a b m n) (h' : Half b a n m) : ∀ j, ∃ A B, Half A B m n ∧ Half B A n m ∧ rounds j (a.e, b.e) = (A.e, B.e)
  | 0 => ⟨a, b, h, h', rfl⟩
  | j + 1 => by
    obtain ⟨A, B, h1, h2, h3⟩ := rounds_half h h' j
    obtain ⟨A', B', gv1, k2, _, _, k3⟩ := round_stays h1 h2
    exact ⟨A', B', gv1, k2, by rw [rounds, h3, k3]⟩
set_option maxHeartbeats 8000000 in
theorem SessionAll_fn (ops : List OpR) (m n : Int) (hops : ∀ o ∈ ops, o.i ≤ 65535) : Fn1 Try.prog 12 [V.list encOp ops, .i m, .i n] (.b true) := by
  refine Fn1.of (rs := [.b true]) (res := [.tmp 6]) Try.call12 Try.func12 rfl Try.ntmps12 rfl (by simp) fun c hc => ?_
  have k1 := fnHead20; refine z_go ?_
  apply Sym.cond
  · rfl
  · intro h
    refine z_go ?_
    with_reducible first | apply Fin.rt | apply Fin.nx
    exact .cons (.tmp rfl (.of (.of rfl))) .nil
  · intro h
    simp only [Bool.or_eq_false_iff, decide_eq_false_iff_not] at h
    have hm : 1 ≤ m ∧ m ≤ 281474976710656 := by omega
    have hn : 1 ≤ n ∧ n ≤ 281474976710656 := by omega
    have k1 := fnNew m; have k2 := fnNew n; have b1 : RowH 64 := .mk; have b2 : RowH 65 := .mk; have b3 : RowH 66 := .mk; refine z_go ?_
    refine Sym.weak (Le.cellRow 1 0 22 1 rfl rfl rfl z_nrm) ?_
    refine Sym.weak (Le.cellRow 1 1 22 1 rfl rfl rfl z_nrm) ?_
    refine Sym.loop (fun k st => ∃ (i : Nat) (s : Side × Side) (gv0 gv1 : Int), i ≤ ops.length ∧ Both s m n ∧ s.1.given.length + s.2.given.length ≤ i ∧ s.1.out.length + s.2.out.length ≤ 3000 ∧ gv0 = s.1.given.length ∧ gv1 = s.2.given.length ∧ k = ops.length - i ∧ st = ⟨allTm ops i m n, allH s.1.e s.2.e s.1.out s.2.out gv0 gv1⟩) ops.length ⟨_, ⟨0, (sideNew m, sideNew n), 0, 0, Nat.zero_le _, Both.new hm hn, Nat.le_refl _, Nat.zero_le _, rfl, rfl, by simp, rfl⟩, z_wkt⟩ ?_
    rintro k st ⟨i, s, gv0, gv1, hi, hB, hgv, hot, hk0, hk1, rfl, rfl⟩
    refine z_go ?_
    apply Sym.cond
    · rfl
    · intro hlt
      simp only [decide_eq_true_eq] at hlt
      have hi' : i < ops.length := by omega
      obtain ⟨el, hel⟩ : ∃ el, ops[i]? = some el := ⟨_, List.getElem?_eq_getElem hi'⟩
      have hu := hops el (List.mem_of_getElem? hel)
      obtain ⟨⟨e0, o0, g0, c0⟩, ⟨e1, o1, g1, c1⟩⟩ := s
      obtain ⟨hA, hB'⟩ := hB
      have q0 := LkOk.right hA.r
      have q1 := LkOk.right hB'.r
      have w0 := hA.r.out
      have w1 := hB'.r.out
      have y0 := lkTick_len e0
      have y1 := lkTick_len e1
      dsimp only at hu hgv hot w0 w1 y0 y1 hk0 hk1
      refine z_go ?_
      apply Sym.cond
      · rfl
      · intro hat
        apply Sym.regionL
        refine z_s1 ?_
        apply Sym.seq
        refine Sym.cutE (fun p : (Side × Side) × (Int × Int) => ⟨allTm ops i m n, allH p.1.1.e p.1.2.e p.1.1.out p.1.2.out p.2.1 p.2.2⟩) (fun p => Both p.1 m n ∧ p.1.1.given.length + p.1.2.given.length ≤ i + 1 ∧ p.1.1.out.length + p.1.2.out.length ≤ 10000 ∧ p.2.1 = p.1.1.given.length ∧ p.2.2 = p.1.2.given.length) ?_ ?_
        · refine z_go ?_
          apply Sym.cond
          · rfl
          · intro h1
            refine z_go ?_
            apply Sym.cond
            · rfl
            · intro _
              refine z_go ?_
              (apply Sym.drawXL [10, 11] (by kernel_rfl) (by kernel_rfl) (by kernel_rfl))
              have k1 := fnSend' e1 q1 el.b; refine z_xgo ?_
              refine z_go ?_
              apply Sym.cond
              · rfl
              · intro hf
                have hf : frSend e1 el.b ≠ [] := by
                  intro e
                  rw [e] at hf
                  simp at hf
                have hb := hB'.send hA el.b
                rw [show Side.send ⟨e1, o1, g1, c1⟩ el.b = ⟨lkSend e1 el.b, o1 ++ [frSend e1 el.b], g1 ++ [el.b], c1⟩ from if_neg hf] at hb
                have a1 : AppH encB o1 [frSend e1 el.b] := .mk; refine z_go ?_
                refine ⟨(Prod.mk ⟨e0, o0, g0, c0⟩ ⟨lkSend e1 el.b, o1 ++ [frSend e1 el.b], g1 ++ [el.b], c1⟩, (gv0, gv1 + 1)), ⟨⟨hb.2, hb.1⟩, by simp; omega, by simp; omega, by simp <;> omega, by simp <;> omega⟩, z_wkt⟩
              · intro hf
                have hf : frSend e1 el.b = [] := List.eq_nil_of_length_eq_zero (by simp at hf; simpa using hf)
                have hb := hB'.send hA el.b
                rw [show Side.send ⟨e1, o1, g1, c1⟩ el.b = ⟨lkSend e1 el.b, o1, g1, c1⟩ from if_pos hf] at hb
                refine z_go ?_
                refine ⟨(Prod.mk ⟨e0, o0, g0, c0⟩ ⟨lkSend e1 el.b, o1, g1, c1⟩, (gv0, gv1)), ⟨⟨hb.2, hb.1⟩, by simp; omega, by simp; omega, hk0, hk1⟩, z_wkt⟩
            · intro h2
              rw [h1] at h2
              cases h2
          · intro h1
            refine z_go ?_
            apply Sym.cond
            · rfl
            · intro _
              refine z_go ?_
              (apply Sym.drawXL [10, 11] (by kernel_rfl) (by kernel_rfl) (by kernel_rfl))
              have k1 := fnSend' e1 q1 el.b; refine z_xgo ?_
              refine z_go ?_
              apply Sym.cond
              · rfl
              · intro hf
                have hf : frSend e1 el.b ≠ [] := by
                  intro e
                  rw [e] at hf
                  simp at hf
                have hb := hB'.send hA el.b
                rw [show Side.send ⟨e1, o1, g1, c1⟩ el.b = ⟨lkSend e1 el.b, o1 ++ [frSend e1 el.b], g1 ++ [el.b], c1⟩ from if_neg hf] at hb
                have a1 : AppH encB o1 [frSend e1 el.b] := .mk; refine z_go ?_
                refine ⟨(Prod.mk ⟨e0, o0, g0, c0⟩ ⟨lkSend e1 el.b, o1 ++ [frSend e1 el.b], g1 ++ [el.b], c1⟩, (gv0, gv1 + 1)), ⟨⟨hb.2, hb.1⟩, by simp; omega, by simp; omega, by simp <;> omega, by simp <;> omega⟩, z_wkt⟩
              · intro hf
                have hf : frSend e1 el.b = [] := List.eq_nil_of_length_eq_zero (by simp at hf; simpa using hf)
                have hb := hB'.send hA el.b
                rw [show Side.send ⟨e1, o1, g1, c1⟩ el.b = ⟨lkSend e1 el.b, o1, g1, c1⟩ from if_pos hf] at hb
                refine z_go ?_
                refine ⟨(Prod.mk ⟨e0, o0, g0, c0⟩ ⟨lkSend e1 el.b, o1, g1, c1⟩, (gv0, gv1)), ⟨⟨hb.2, hb.1⟩, by simp; omega, by simp; omega, hk0, hk1⟩, z_wkt⟩
            · intro _
              refine z_go ?_
              apply Sym.cond
              · rfl
              · intro _
                refine z_go ?_
                (apply Sym.drawXL [11, 13] (by kernel_rfl) (by kernel_rfl) (by kernel_rfl))
                have k1 := fnTick e1 q1; have a1 : AppH encB o1 (lkTick e1) := .mk; refine z_xgo ?_
                have hb := hB'.tick hA
                refine z_go ?_
                refine ⟨(Prod.mk ⟨e0, o0, g0, c0⟩ ⟨e1, o1 ++ lkTick e1, g1, c1⟩, (gv0, gv1)), ⟨⟨hb.2, hb.1⟩, by simp; omega, by simp; omega, hk0, hk1⟩, z_wkt⟩
              · intro _
                refine z_go ?_
                apply Sym.cond
                · rfl
                · intro _
                  refine z_go ?_
                  refine ⟨_, ?_, _, ⟨i + 1, (⟨e0, o0, g0, c0⟩, ⟨e1, o1, g1, c1⟩), gv0, gv1, by omega, ⟨hA, hB'⟩, by simp; omega, hot, hk0, hk1, rfl, rfl⟩, z_wkt⟩
                  omega
                · intro hne
                  have hne : o0.length ≠ 0 := by simp at hne; simp [hne]
                  obtain ⟨g, hg, hr, hld⟩ := pickEl (i := el.i) hne
                  have hfr := hA.frames g (List.mem_of_getElem? hg)
                  have hsm := hfr.small
                  have hol := outTake_len e1 g
                  have hb := hB'.take hA hfr
                  refine z_go ?_
                  (apply Sym.drawXL [27, 28] (by kernel_rfl) (by kernel_rfl) (by kernel_rfl))
                  have k1 := fnTake e1 q1 g (by omega); refine z_xgo ?_
                  have a1 : AppH encB o1 (outTake e1 g) := .mk; refine z_go ?_
                  rw [show Side.take ⟨e1, o1, g1, c1⟩ g = ⟨lkTake e1 g, o1 ++ outTake e1 g, g1, if bodyTake e1 g = [] then c1 else c1 ++ [bodyTake e1 g]⟩ from rfl] at hb
                  refine ⟨(Prod.mk ⟨e0, o0, g0, c0⟩ ⟨lkTake e1 g, o1 ++ outTake e1 g, g1, if bodyTake e1 g = [] then c1 else c1 ++ [bodyTake e1 g]⟩, (gv0, gv1)), ⟨⟨hb.2, hb.1⟩, by simp; omega, by simp; omega, hk0, hk1⟩, z_wkt⟩
        · rintro ⟨s, gv0', gv1'⟩ ⟨hB, hgv, hbig, hk0', hk1'⟩
          refine z_go ?_
          apply Sym.cond
          · rfl
          · intro _
            refine z_go ?_
            with_reducible first | apply Fin.rt | apply Fin.nx
            exact .cons (.tmp rfl (.of (.of rfl))) .nil
          · intro hmany
            simp only [decide_eq_false_iff_not] at hmany
            refine z_go ?_
            refine ⟨_, ?_, _, ⟨i + 1, s, gv0', gv1', by omega, hB, by omega, by omega, hk0', hk1', rfl, rfl⟩, z_wkt⟩
            omega
      · intro hat
        refine z_s1 ?_
        apply Sym.seq
        refine Sym.cutE (fun p : (Side × Side) × (Int × Int) => ⟨allTm ops i m n, allH p.1.1.e p.1.2.e p.1.1.out p.1.2.out p.2.1 p.2.2⟩) (fun p => Both p.1 m n ∧ p.1.1.given.length + p.1.2.given.length ≤ i + 1 ∧ p.1.1.out.length + p.1.2.out.length ≤ 10000 ∧ p.2.1 = p.1.1.given.length ∧ p.2.2 = p.1.2.given.length) ?_ ?_
        · refine z_go ?_
          apply Sym.cond
          · rfl
          · intro h1
            refine z_go ?_
            apply Sym.cond
            · rfl
            · intro _
              refine z_go ?_
              (apply Sym.drawXL [10, 11] (by kernel_rfl) (by kernel_rfl) (by kernel_rfl))
              have k1 := fnSend' e0 q0 el.b; refine z_xgo ?_
              refine z_go ?_
              apply Sym.cond
              · rfl
              · intro hf
                have hf : frSend e0 el.b ≠ [] := by
                  intro e
                  rw [e] at hf
                  simp at hf
                have hb := hA.send hB' el.b
                rw [show Side.send ⟨e0, o0, g0, c0⟩ el.b = ⟨lkSend e0 el.b, o0 ++ [frSend e0 el.b], g0 ++ [el.b], c0⟩ from if_neg hf] at hb
                have a1 : AppH encB o0 [frSend e0 el.b] := .mk; refine z_go ?_
                refine ⟨((fun a => Prod.mk a (⟨e1, o1, g1, c1⟩ : Side)) ⟨lkSend e0 el.b, o0 ++ [frSend e0 el.b], g0 ++ [el.b], c0⟩, (gv0 + 1, gv1)), ⟨⟨hb.1, hb.2⟩, by simp; omega, by simp; omega, by simp <;> omega, by simp <;> omega⟩, z_wkt⟩
              · intro hf
                have hf : frSend e0 el.b = [] := List.eq_nil_of_length_eq_zero (by simp at hf; simpa using hf)
                have hb := hA.send hB' el.b
                rw [show Side.send ⟨e0, o0, g0, c0⟩ el.b = ⟨lkSend e0 el.b, o0, g0, c0⟩ from if_pos hf] at hb
                refine z_go ?_
                refine ⟨((fun a => Prod.mk a (⟨e1, o1, g1, c1⟩ : Side)) ⟨lkSend e0 el.b, o0, g0, c0⟩, (gv0, gv1)), ⟨⟨hb.1, hb.2⟩, by simp; omega, by simp; omega, hk0, hk1⟩, z_wkt⟩
            · intro h2
              rw [h1] at h2
              cases h2
          · intro h1
            refine z_go ?_
            apply Sym.cond
            · rfl
            · intro _
              refine z_go ?_
              (apply Sym.drawXL [10, 11] (by kernel_rfl) (by kernel_rfl) (by kernel_rfl))
              have k1 := fnSend' e0 q0 el.b; refine z_xgo ?_
              refine z_go ?_
              apply Sym.cond
              · rfl
              · intro hf
                have hf : frSend e0 el.b ≠ [] := by
                  intro e
                  rw [e] at hf
                  simp at hf
                have hb := hA.send hB' el.b
                rw [show Side.send ⟨e0, o0, g0, c0⟩ el.b = ⟨lkSend e0 el.b, o0 ++ [frSend e0 el.b], g0 ++ [el.b], c0⟩ from if_neg hf] at hb
                have a1 : AppH encB o0 [frSend e0 el.b] := .mk; refine z_go ?_
                refine ⟨((fun a => Prod.mk a (⟨e1, o1, g1, c1⟩ : Side)) ⟨lkSend e0 el.b, o0 ++ [frSend e0 el.b], g0 ++ [el.b], c0⟩, (gv0 + 1, gv1)), ⟨⟨hb.1, hb.2⟩, by simp; omega, by simp; omega, by simp <;> omega, by simp <;> omega⟩, z_wkt⟩
              · intro hf
                have hf : frSend e0 el.b = [] := List.eq_nil_of_length_eq_zero (by simp at hf; simpa using hf)
                have hb := hA.send hB' el.b
                rw [show Side.send ⟨e0, o0, g0, c0⟩ el.b = ⟨lkSend e0 el.b, o0, g0, c0⟩ from if_pos hf] at hb
                refine z_go ?_
                refine ⟨((fun a => Prod.mk a (⟨e1, o1, g1, c1⟩ : Side)) ⟨lkSend e0 el.b, o0, g0, c0⟩, (gv0, gv1)), ⟨⟨hb.1, hb.2⟩, by simp; omega, by simp; omega, hk0, hk1⟩, z_wkt⟩
            · intro _
              refine z_go ?_
              apply Sym.cond
              · rfl
              · intro _
                refine z_go ?_
                (apply Sym.drawXL [11, 13] (by kernel_rfl) (by kernel_rfl) (by kernel_rfl))
                have k1 := fnTick e0 q0; have a1 : AppH encB o0 (lkTick e0) := .mk; refine z_xgo ?_
                have hb := hA.tick hB'
                refine z_go ?_
                refine ⟨((fun a => Prod.mk a (⟨e1, o1, g1, c1⟩ : Side)) ⟨e0, o0 ++ lkTick e0, g0, c0⟩, (gv0, gv1)), ⟨⟨hb.1, hb.2⟩, by simp; omega, by simp; omega, hk0, hk1⟩, z_wkt⟩
              · intro _
                refine z_go ?_
                apply Sym.cond
                · rfl
                · intro _
                  refine z_go ?_
                  refine ⟨_, ?_, _, ⟨i + 1, (⟨e0, o0, g0, c0⟩, ⟨e1, o1, g1, c1⟩), gv0, gv1, by omega, ⟨hA, hB'⟩, by simp; omega, hot, hk0, hk1, rfl, rfl⟩, z_wkt⟩
                  omega
                · intro hne
                  have hne : o1.length ≠ 0 := by simp at hne; simp [hne]
                  obtain ⟨g, hg, hr, hld⟩ := pickEl (i := el.i) hne
                  have hfr := hB'.frames g (List.mem_of_getElem? hg)
                  have hsm := hfr.small
                  have hol := outTake_len e0 g
                  have hb := hA.take hB' hfr
                  refine z_go ?_
                  (apply Sym.drawXL [27, 28] (by kernel_rfl) (by kernel_rfl) (by kernel_rfl))
                  have k1 := fnTake e0 q0 g (by omega); refine z_xgo ?_
                  have a1 : AppH encB o0 (outTake e0 g) := .mk; refine z_go ?_
                  rw [show Side.take ⟨e0, o0, g0, c0⟩ g = ⟨lkTake e0 g, o0 ++ outTake e0 g, g0, if bodyTake e0 g = [] then c0 else c0 ++ [bodyTake e0 g]⟩ from rfl] at hb
                  refine ⟨((fun a => Prod.mk a (⟨e1, o1, g1, c1⟩ : Side)) ⟨lkTake e0 g, o0 ++ outTake e0 g, g0, if bodyTake e0 g = [] then c0 else c0 ++ [bodyTake e0 g]⟩, (gv0, gv1)), ⟨⟨hb.1, hb.2⟩, by simp; omega, by simp; omega, hk0, hk1⟩, z_wkt⟩
        · rintro ⟨s, gv0', gv1'⟩ ⟨hB, hgv, hbig, hk0', hk1'⟩
          refine z_go ?_
          apply Sym.cond
          · rfl
          · intro _
            refine z_go ?_
            with_reducible first | apply Fin.rt | apply Fin.nx
            exact .cons (.tmp rfl (.of (.of rfl))) .nil
          · intro hmany
            simp only [decide_eq_false_iff_not] at hmany
            refine z_go ?_
            refine ⟨_, ?_, _, ⟨i + 1, s, gv0', gv1', by omega, hB, by omega, by omega, hk0', hk1', rfl, rfl⟩, z_wkt⟩
            omega
    · intro _
      obtain ⟨hA, hB'⟩ := hB
      have h3 := three_rounds hA hB'
      have hr := rounds_half hA hB'
      generalize s.1.out = ou0
      generalize s.2.out = ou1
      refine z_go ?_
      refine Sym.loop (fun q st => ∃ j : Nat, j ≤ 3 ∧ q = 3 - j ∧ st = ⟨rdTm j m n, rdH0 (rounds j (s.1.e, s.2.e)).1 (rounds j (s.1.e, s.2.e)).2 gv0 gv1⟩) 3 ⟨_, ⟨0, by omega, rfl, rfl⟩, z_wkt⟩ ?_
      rintro q st ⟨j, hj, rfl, rfl⟩
      obtain ⟨A, B, u1, u2, u3⟩ := hr j
      have hnx : rounds (j + 1) (s.1.e, s.2.e) = round (A.e, B.e) := by rw [← u3]; rfl
      rw [u3]
      dsimp only
      refine z_go ?_
      apply Sym.cond
      · rfl
      · intro hlt
        simp only [decide_eq_true_eq] at hlt
        have ta := lkTick_len A.e
        have tb := lkTick_len B.e
        have oa := u1.r.out
        have ob := u2.r.out
        have fA := u1.tickF
        have fB := u2.tickF
        have kA := fnTick A.e (LkOk.right u1.r)
        have kB := fnTick B.e (LkOk.right u2.r)
        have hrd : round (A.e, B.e) = ((phase (phase A.e B.e (lkTick B.e)).2 (phase A.e B.e (lkTick B.e)).1 (lkTick A.e)).2, (phase (phase A.e B.e (lkTick B.e)).2 (phase A.e B.e (lkTick B.e)).1 (lkTick A.e)).1) := rfl
        revert ta tb fA fB kA kB hrd
        generalize lkTick A.e = fa
        generalize lkTick B.e = fb
        intro ta tb fA fB kA kB hrd
        obtain ⟨A1, B1, v1, v2, v3, v4, v5⟩ := u1.phase u2 fB
        rw [v5] at hrd
        dsimp only at hrd
        refine z_go ?_
        (apply Sym.drawXL [8] (by kernel_rfl) (by kernel_rfl) (by kernel_rfl))
        have k1 := kA; have k2 := kB; refine z_xgo ?_
        refine z_go ?_
        refine Sym.loop (fun q st => ∃ e : Nat, e ≤ 2 ∧ q = 2 - e ∧ st = ⟨(22, true, .p (.i e)) :: (21, true, .row 5 2) :: rdTm j m n, (match e with | 0 => rdH0 A.e B.e gv0 gv1 | 1 => rdH0 A1.e B1.e gv0 gv1 | _ => rdH0 (round (A.e, B.e)).1 (round (A.e, B.e)).2 gv0 gv1) ++ [some (flB fa fb)]⟩) 2 ⟨_, ⟨0, by omega, rfl, rfl⟩, z_wkt⟩ ?_
        rintro q st ⟨e, he, rfl, rfl⟩
        refine z_go ?_
        apply Sym.cond
        · rfl
        · intro hlt
          simp only [decide_eq_true_eq] at hlt
          obtain rfl | rfl : e = 0 ∨ e = 1 := by omega
          · skip
            refine z_go ?_
            refine Sym.weak (Le.asRow 23 22 1 rfl rfl rfl z_nrm z_nrm) ?_
            refine Sym.loop (fun q st => ∃ i : Nat, i ≤ fb.length ∧ q = fb.length - i ∧ st = ⟨(24, true, .p (.i i)) :: (23, true, .row 6 (ph1 A.e (fb.take i)).2.length) :: (22, true, .p (.i (0 : Nat))) :: (21, true, .row 5 2) :: rdTm j m n, rdH0 (ph1 A.e (fb.take i)).1 B.e gv0 gv1 ++ [some (flB fa fb), some (rowB (ph1 A.e (fb.take i)).2)]⟩) fb.length ⟨_, ⟨0, Nat.zero_le _, by simp, rfl⟩, z_wkt⟩ ?_
            rintro q st ⟨i, hi, rfl, rfl⟩
            refine z_go ?_
            apply Sym.cond
            · rfl
            · intro hlt
              simp only [decide_eq_true_eq] at hlt
              obtain ⟨f, hf⟩ : ∃ f, fb[i]? = some f := ⟨_, List.getElem?_eq_getElem (by omega)⟩
              have hsm := (fB f (List.mem_of_getElem? hf)).small
              obtain ⟨X, hX, hY, hM, eX, hmo⟩ := Half.ph1 (fb.take i) u1 u2 (fun g hg => fB g (List.mem_of_mem_take hg)) [] (fun g hg => (by cases hg))
              have eX : (ph1 A.e (fb.take i)).1 = X.e := eX
              have hml := ph1_len A.e (fb.take i)
              have hns := ph1_snoc A.e hf
              revert eX hml hns
              generalize ph1 A.e (fb.take i) = p
              obtain ⟨xi, mi⟩ := p
              intro eX hml hns
              dsimp only at eX hml hns
              subst eX
              have hml : mi.length ≤ 2000 := by simp at hml; omega
              have hol := outTake_len X.e f
              refine z_go ?_
              (apply Sym.drawXL [18, 19] (by kernel_rfl) (by kernel_rfl) (by kernel_rfl))
              have k1 := kTake hX.r f (by omega); refine z_xgo ?_
              have a1 : AppH encB mi (outTake X.e f) := .mk; refine z_go ?_
              refine ⟨_, ?_, _, ⟨i + 1, by omega, rfl, rfl⟩, ?_⟩
              · omega
              · rw [hns]
                exact z_wkt
            · intro hge
              simp only [decide_eq_false_iff_not] at hge
              obtain rfl : i = fb.length := by omega
              rw [List.take_length]
              obtain ⟨X, hX, hY, hM, eX, hmo⟩ := Half.ph1 fb u1 u2 fB [] (fun g hg => (by cases hg))
              have eX : (ph1 A.e fb).1 = X.e := eX
              have hmo : ∀ g ∈ (ph1 A.e fb).2, FrOk X n g := hmo
              have hml := ph1_len A.e fb
              have hph : phase A.e B.e fb = ph2 (X.e, B.e) (ph1 A.e fb).2 := by rw [← eX]; rfl
              rw [eX]
              revert hmo hml hph
              generalize (ph1 A.e fb).2 = more
              intro hmo hml hph
              have hml : more.length ≤ 2000 := by omega
              refine z_go ?_
              refine Sym.loop (fun q st => ∃ i : Nat, i ≤ more.length ∧ q = more.length - i ∧ st = ⟨(29, true, .p (.i i)) :: (23, true, .row 6 more.length) :: (22, true, .p (.i (0 : Nat))) :: (21, true, .row 5 2) :: rdTm j m n, rdH0 (ph2 (X.e, B.e) (more.take i)).1 (ph2 (X.e, B.e) (more.take i)).2 gv0 gv1 ++ [some (flB fa fb), some (rowB more)]⟩) more.length ⟨_, ⟨0, Nat.zero_le _, by simp, rfl⟩, z_wkt⟩ ?_
              rintro q st ⟨i, hi, rfl, rfl⟩
              refine z_go ?_
              apply Sym.cond
              · rfl
              · intro hlt
                simp only [decide_eq_true_eq] at hlt
                obtain ⟨f, hf⟩ : ∃ f, more[i]? = some f := ⟨_, List.getElem?_eq_getElem (by omega)⟩
                have hld := rowEl more i (el := f) hf
                obtain ⟨X1, Y1, r1, r2, r3, r4, r5⟩ := Half.ph2 (more.take i) hX hY (fun g hg => hmo g (List.mem_of_mem_take hg))
                have hfo := (hmo f (List.mem_of_getElem? hf)).monoS r3
                have hsm := hfo.small
                have hns := ph2_snoc (X.e, B.e) hf
                rw [r5] at hns ⊢
                dsimp only at hns ⊢
                have hol := outTake_len Y1.e f
                obtain ⟨w1, w2⟩ := r2.take r1 hfo
                refine z_go ?_
                (apply Sym.drawXL [15, 16] (by kernel_rfl) (by kernel_rfl) (by kernel_rfl))
                have k1 := kTake r2.r f (by omega); refine z_xgo ?_
                refine z_go ?_
                refine Sym.loop (fun q st => ∃ v : Nat, v ≤ (outTake Y1.e f).length ∧ q = (outTake Y1.e f).length - v ∧ st = ⟨(34, true, .p (.i v)) :: (31, true, .p (V.list encB (outTake Y1.e f))) :: (29, true, .p (.i i)) :: (23, true, .row 6 more.length) :: (22, true, .p (.i (0 : Nat))) :: (21, true, .row 5 2) :: rdTm j m n, rdH0 (((outTake Y1.e f).take v).foldl lkTake X1.e) (lkTake Y1.e f) gv0 gv1 ++ [some (flB fa fb), some (rowB more)]⟩) (outTake Y1.e f).length ⟨_, ⟨0, Nat.zero_le _, by simp, rfl⟩, z_wkt⟩ ?_
                rintro q st ⟨v, hv, rfl, rfl⟩
                refine z_go ?_
                apply Sym.cond
                · rfl
                · intro hlt
                  simp only [decide_eq_true_eq] at hlt
                  obtain ⟨g, hg⟩ : ∃ g, (outTake Y1.e f)[v]? = some g := ⟨_, List.getElem?_eq_getElem (by omega)⟩
                  have hfo := fun q hq => w1.frames q (List.mem_append.2 (.inr hq))
                  obtain ⟨X2, s1, s2, s3, s4⟩ := Half.takes ((outTake Y1.e f).take v) w2 w1 (fun q hq => hfo q (List.mem_of_mem_take hq))
                  have hsm := (hfo g (List.mem_of_getElem? hg)).small
                  have hns : ((outTake Y1.e f).take (v + 1)).foldl lkTake X1.e = lkTake X2.e g := by
                    rw [List.take_add_one, hg, List.foldl_append, s4]
                    rfl
                  rw [s4]
                  refine z_go ?_
                  (apply Sym.drawXL [14, 15] (by kernel_rfl) (by kernel_rfl) (by kernel_rfl))
                  have k1 := kTake s1.r g (by omega); refine z_xgo ?_
                  refine z_go ?_
                  refine ⟨_, ?_, _, ⟨v + 1, by omega, rfl, rfl⟩, ?_⟩
                  · omega
                  · rw [hns]
                    exact z_wkt
                · intro hge
                  simp only [decide_eq_false_iff_not] at hge
                  obtain rfl : v = (outTake Y1.e f).length := by omega
                  rw [List.take_length]
                  refine z_go ?_
                  refine ⟨_, ?_, _, ⟨i + 1, by omega, rfl, rfl⟩, ?_⟩
                  · omega
                  · rw [hns]
                    exact z_wkt
              · intro hge
                simp only [decide_eq_false_iff_not] at hge
                obtain rfl : i = more.length := by omega
                rw [List.take_length, ← hph]
                refine z_go ?_
                refine ⟨_, ?_, _, ⟨0 + 1, by omega, rfl, rfl⟩, ?_⟩
                · omega
                · rw [v5]; exact z_wkt
          · skip
            have fA1 : ∀ g ∈ fa, FrOk A1 n g := fun g hg => (fA g hg).monoS v3
            refine z_go ?_
            refine Sym.weak (Le.asRow 23 22 1 rfl rfl rfl z_nrm z_nrm) ?_
            refine Sym.loop (fun q st => ∃ i : Nat, i ≤ fa.length ∧ q = fa.length - i ∧ st = ⟨(24, true, .p (.i i)) :: (23, true, .row 6 (ph1 B1.e (fa.take i)).2.length) :: (22, true, .p (.i (1 : Nat))) :: (21, true, .row 5 2) :: rdTm j m n, rdH1 (ph1 B1.e (fa.take i)).1 A1.e gv0 gv1 ++ [some (flB fa fb), some (rowB (ph1 B1.e (fa.take i)).2)]⟩) fa.length ⟨_, ⟨0, Nat.zero_le _, by simp, rfl⟩, z_wkt⟩ ?_
            rintro q st ⟨i, hi, rfl, rfl⟩
            refine z_go ?_
            apply Sym.cond
            · rfl
            · intro hlt
              simp only [decide_eq_true_eq] at hlt
              obtain ⟨f, hf⟩ : ∃ f, fa[i]? = some f := ⟨_, List.getElem?_eq_getElem (by omega)⟩
              have hsm := (fA1 f (List.mem_of_getElem? hf)).small
              obtain ⟨X, hX, hY, hM, eX, hmo⟩ := Half.ph1 (fa.take i) v2 v1 (fun g hg => fA1 g (List.mem_of_mem_take hg)) [] (fun g hg => (by cases hg))
              have eX : (ph1 B1.e (fa.take i)).1 = X.e := eX
              have hml := ph1_len B1.e (fa.take i)
              have hns := ph1_snoc B1.e hf
              revert eX hml hns
              generalize ph1 B1.e (fa.take i) = p
              obtain ⟨xi, mi⟩ := p
              intro eX hml hns
              dsimp only at eX hml hns
              subst eX
              have hml : mi.length ≤ 2000 := by simp at hml; omega
              have hol := outTake_len X.e f
              refine z_go ?_
              (apply Sym.drawXL [18, 19] (by kernel_rfl) (by kernel_rfl) (by kernel_rfl))
              have k1 := kTake hX.r f (by omega); refine z_xgo ?_
              have a1 : AppH encB mi (outTake X.e f) := .mk; refine z_go ?_
              refine ⟨_, ?_, _, ⟨i + 1, by omega, rfl, rfl⟩, ?_⟩
              · omega
              · rw [hns]
                exact z_wkt
            · intro hge
              simp only [decide_eq_false_iff_not] at hge
              obtain rfl : i = fa.length := by omega
              rw [List.take_length]
              obtain ⟨X, hX, hY, hM, eX, hmo⟩ := Half.ph1 fa v2 v1 fA1 [] (fun g hg => (by cases hg))
              have eX : (ph1 B1.e fa).1 = X.e := eX
              have hmo : ∀ g ∈ (ph1 B1.e fa).2, FrOk X m g := hmo
              have hml := ph1_len B1.e fa
              have hph : phase B1.e A1.e fa = ph2 (X.e, A1.e) (ph1 B1.e fa).2 := by rw [← eX]; rfl
              rw [eX]
              revert hmo hml hph
              generalize (ph1 B1.e fa).2 = more
              intro hmo hml hph
              have hml : more.length ≤ 2000 := by omega
              refine z_go ?_
              refine Sym.loop (fun q st => ∃ i : Nat, i ≤ more.length ∧ q = more.length - i ∧ st = ⟨(29, true, .p (.i i)) :: (23, true, .row 6 more.length) :: (22, true, .p (.i (1 : Nat))) :: (21, true, .row 5 2) :: rdTm j m n, rdH1 (ph2 (X.e, A1.e) (more.take i)).1 (ph2 (X.e, A1.e) (more.take i)).2 gv0 gv1 ++ [some (flB fa fb), some (rowB more)]⟩) more.length ⟨_, ⟨0, Nat.zero_le _, by simp, rfl⟩, z_wkt⟩ ?_
              rintro q st ⟨i, hi, rfl, rfl⟩
              refine z_go ?_
              apply Sym.cond
              · rfl
              · intro hlt
                simp only [decide_eq_true_eq] at hlt
                obtain ⟨f, hf⟩ : ∃ f, more[i]? = some f := ⟨_, List.getElem?_eq_getElem (by omega)⟩
                have hld := rowEl more i (el := f) hf
                obtain ⟨X1, Y1, r1, r2, r3, r4, r5⟩ := Half.ph2 (more.take i) hX hY (fun g hg => hmo g (List.mem_of_mem_take hg))
                have hfo := (hmo f (List.mem_of_getElem? hf)).monoS r3
                have hsm := hfo.small
                have hns := ph2_snoc (X.e, A1.e) hf
                rw [r5] at hns ⊢
                dsimp only at hns ⊢
                have hol := outTake_len Y1.e f
                obtain ⟨w1, w2⟩ := r2.take r1 hfo
                refine z_go ?_
                (apply Sym.drawXL [15, 16] (by kernel_rfl) (by kernel_rfl) (by kernel_rfl))
                have k1 := kTake r2.r f (by omega); refine z_xgo ?_
                refine z_go ?_
                refine Sym.loop (fun q st => ∃ v : Nat, v ≤ (outTake Y1.e f).length ∧ q = (outTake Y1.e f).length - v ∧ st = ⟨(34, true, .p (.i v)) :: (31, true, .p (V.list encB (outTake Y1.e f))) :: (29, true, .p (.i i)) :: (23, true, .row 6 more.length) :: (22, true, .p (.i (1 : Nat))) :: (21, true, .row 5 2) :: rdTm j m n, rdH1 (((outTake Y1.e f).take v).foldl lkTake X1.e) (lkTake Y1.e f) gv0 gv1 ++ [some (flB fa fb), some (rowB more)]⟩) (outTake Y1.e f).length ⟨_, ⟨0, Nat.zero_le _, by simp, rfl⟩, z_wkt⟩ ?_
                rintro q st ⟨v, hv, rfl, rfl⟩
                refine z_go ?_
                apply Sym.cond
                · rfl
                · intro hlt
                  simp only [decide_eq_true_eq] at hlt
                  obtain ⟨g, hg⟩ : ∃ g, (outTake Y1.e f)[v]? = some g := ⟨_, List.getElem?_eq_getElem (by omega)⟩
                  have hfo := fun q hq => w1.frames q (List.mem_append.2 (.inr hq))
                  obtain ⟨X2, s1, s2, s3, s4⟩ := Half.takes ((outTake Y1.e f).take v) w2 w1 (fun q hq => hfo q (List.mem_of_mem_take hq))
                  have hsm := (hfo g (List.mem_of_getElem? hg)).small
                  have hns : ((outTake Y1.e f).take (v + 1)).foldl lkTake X1.e = lkTake X2.e g := by
                    rw [List.take_add_one, hg, List.foldl_append, s4]
                    rfl
                  rw [s4]
                  refine z_go ?_
                  (apply Sym.drawXL [14, 15] (by kernel_rfl) (by kernel_rfl) (by kernel_rfl))
                  have k1 := kTake s1.r g (by omega); refine z_xgo ?_
                  refine z_go ?_
                  refine ⟨_, ?_, _, ⟨v + 1, by omega, rfl, rfl⟩, ?_⟩
                  · omega
                  · rw [hns]
                    exact z_wkt
                · intro hge
                  simp only [decide_eq_false_iff_not] at hge
                  obtain rfl : v = (outTake Y1.e f).length := by omega
                  rw [List.take_length]
                  refine z_go ?_
                  refine ⟨_, ?_, _, ⟨i + 1, by omega, rfl, rfl⟩, ?_⟩
                  · omega
                  · rw [hns]
                    exact z_wkt
              · intro hge
                simp only [decide_eq_false_iff_not] at hge
                obtain rfl : i = more.length := by omega
                rw [List.take_length, ← hph]
                refine z_go ?_
                refine ⟨_, ?_, _, ⟨1 + 1, by omega, rfl, rfl⟩, ?_⟩
                · omega
                · rw [hrd]; exact z_wkt
        · intro hge
          simp only [decide_eq_false_iff_not] at hge
          obtain rfl : e = 2 := by omega
          refine z_go ?_
          refine ⟨_, ?_, _, ⟨j + 1, by omega, rfl, rfl⟩, ?_⟩
          · omega
          · rw [hnx]
            exact z_wkt
      · intro hge
        simp only [decide_eq_false_iff_not] at hge
        obtain rfl : j = 3 := by omega
        have e3 : round (round (round (s.1.e, s.2.e))) = (A.e, B.e) := u3
        rw [e3] at h3
        dsimp only at h3
        obtain ⟨p1, p2, p3, p4, p5, p6, p7, p8⟩ := h3
        refine z_go ?_
        simp only [List.append]
        refine z_go ?_
        with_reducible first | apply Fin.rt | apply Fin.nx
        refine .cons (.tmp rfl (.of (.of ?_))) .nil
        simp [D.toV, p1, p2, p3, p4, p5, p6, p7, p8, hk0, hk1]
theorem SessionAll_walk {w : World} {va : Value} {l : List OpR} {m n : Int} (ha : (V.list encOp l).Rep Any w va) (h : ∀ o ∈ l, o.i ≤ 65535) (_ : (Lit.int .i64 m).wf = true) (_ : (Lit.int .i64 n).wf = true) :
    Calls Try.prog 12 #[va, .int .i64 m, .int .i64 n] w fun e w' => e = .returned (.bool true) ∧ Below w.heap.size w w' :=
  ((SessionAll_fn l m n h).calls Any w [va, .int .i64 m, .int .i64 n] (fun _ _ => trivial) ⟨_, _, rfl, ha, _, _, rfl, rfl, _, _, rfl, rfl, rfl⟩).mono fun e w' ⟨u, h1, h2, h3⟩ => ⟨by rw [h1, show u = _ from h3], h2⟩
end Go.Proofs.Ytdehiohjlbmmdaa
