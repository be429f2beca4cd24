/- The law SessionOnce, walked: for every script it returns true. -/
import Derived.Test.YtdehiohjlbmmdaaHd
set_option linter.unusedSimpArgs false
set_option linter.unusedVariables false
namespace Go.Proofs.Ytdehiohjlbmmdaa
open Go.RowKit Go.Sy
set_option maxHeartbeats 8000000 in
theorem SessionOnce_fn (ops : List OpR) (m n : Int) (hops : ∀ o ∈ ops, o.i ≤ 65535) : Fn1 Try.prog 11 [V.list encOp ops, .i m, .i n] (.b true) := by
  refine Fn1.of (rs := [.b true]) (res := [.tmp 6]) Try.call11 Try.func11 rfl Try.ntmps11 rfl (by simp) fun c hc => ?_
  have k1 := fnHead20; refine z_go ?_
  apply Sym.cond
  · rfl
  · intro h
    refine z_go ?_
    with_reducible first | apply Fin.rt | apply Fin.nx
    exact .cons (.tmp rfl (.of (.of rfl))) .nil
  · intro h
    simp only [Bool.or_eq_false_iff, decide_eq_false_iff_not] at h
    have hm : 1 ≤ m ∧ m ≤ 281474976710656 := by omega
    have hn : 1 ≤ n ∧ n ≤ 281474976710656 := by omega
    have k1 := fnNew m; have k2 := fnNew n; have b1 : RowH 49 := .mk; have b2 : RowH 50 := .mk; have b3 : RowH 51 := .mk; have b4 : RowH 52 := .mk; refine z_go ?_
    refine Sym.weak (Le.cellRow 1 0 22 1 rfl rfl rfl z_nrm) ?_
    refine Sym.weak (Le.cellRow 1 1 22 1 rfl rfl rfl z_nrm) ?_
    refine Sym.weak (Le.cellRow 2 0 22 1 rfl rfl rfl z_nrm) ?_
    refine Sym.weak (Le.cellRow 2 1 22 1 rfl rfl rfl z_nrm) ?_
    refine Sym.weak (Le.cellRow 3 0 22 1 rfl rfl rfl z_nrm) ?_
    refine Sym.weak (Le.cellRow 3 1 22 1 rfl rfl rfl z_nrm) ?_
    refine Sym.loop (fun k st => ∃ (i : Nat) (s : Side × Side), i ≤ ops.length ∧ Both s m n ∧ s.1.given.length + s.2.given.length ≤ i ∧ s.1.out.length + s.2.out.length ≤ 3000 ∧ k = ops.length - i ∧ st = ⟨onceTm ops i, onceH s⟩) ops.length ⟨_, ⟨0, (sideNew m, sideNew n), Nat.zero_le _, Both.new hm hn, Nat.le_refl _, Nat.zero_le _, by simp, rfl⟩, z_wkt⟩ ?_
    rintro k st ⟨i, s, hi, hB, hgv, hot, rfl, rfl⟩
    refine z_go ?_
    apply Sym.cond
    · rfl
    · intro hlt
      simp only [decide_eq_true_eq] at hlt
      have hi' : i < ops.length := by omega
      obtain ⟨el, hel⟩ : ∃ el, ops[i]? = some el := ⟨_, List.getElem?_eq_getElem hi'⟩
      have hu := hops el (List.mem_of_getElem? hel)
      obtain ⟨⟨e0, o0, g0, c0⟩, ⟨e1, o1, g1, c1⟩⟩ := s
      obtain ⟨hA, hB'⟩ := hB
      have q0 := LkOk.right hA.r
      have q1 := LkOk.right hB'.r
      have w0 := hA.r.out
      have w1 := hB'.r.out
      have y0 := lkTick_len e0
      have y1 := lkTick_len e1
      have z0 := hA.got.2
      have z1 := hB'.got.2
      have hstep : ∀ o, Both (step (⟨e0, o0, g0, c0⟩, ⟨e1, o1, g1, c1⟩) o) m n := fun o => Both.step ⟨hA, hB'⟩ o
      dsimp only at hu hgv hot w0 w1 y0 y1 z0 z1
      refine z_go ?_
      apply Sym.cond
      · rfl
      · intro hat
        apply Sym.regionL
        refine z_s1 ?_
        apply Sym.seq
        refine Sym.cutE (fun s : Side × Side => ⟨onceTm ops i, onceH s⟩) (fun s => Both s m n ∧ s.1.given.length + s.2.given.length ≤ i + 1 ∧ s.1.out.length + s.2.out.length ≤ 10000) ?_ ?_
        · refine z_go ?_
          apply Sym.cond
          · rfl
          · intro h1
            refine z_go ?_
            apply Sym.cond
            · rfl
            · intro _
              refine z_go ?_
              (apply Sym.drawXL [10, 11] (by kernel_rfl) (by kernel_rfl) (by kernel_rfl))
              have k1 := fnSend' e1 q1 el.b; refine z_xgo ?_
              refine z_go ?_
              apply Sym.cond
              · rfl
              · intro hf
                have hf : frSend e1 el.b ≠ [] := by
                  intro e
                  rw [e] at hf
                  simp at hf
                have hb := hB'.send hA el.b
                rw [show Side.send ⟨e1, o1, g1, c1⟩ el.b = ⟨lkSend e1 el.b, o1 ++ [frSend e1 el.b], g1 ++ [el.b], c1⟩ from if_neg hf] at hb
                refine z_go ?_
                (apply Sym.drawXL [9, 11] (by kernel_rfl) (by kernel_rfl) (by kernel_rfl))
                have a1 : AppH encB g1 [el.b] := .mk; refine z_xgo ?_
                have a1 : AppH encB o1 [frSend e1 el.b] := .mk; refine z_go ?_
                refine ⟨Prod.mk ⟨e0, o0, g0, c0⟩ ⟨lkSend e1 el.b, o1 ++ [frSend e1 el.b], g1 ++ [el.b], c1⟩, ⟨⟨hb.2, hb.1⟩, by simp; omega, by simp; omega⟩, z_wkt⟩
              · intro hf
                have hf : frSend e1 el.b = [] := List.eq_nil_of_length_eq_zero (by simp at hf; simpa using hf)
                have hb := hB'.send hA el.b
                rw [show Side.send ⟨e1, o1, g1, c1⟩ el.b = ⟨lkSend e1 el.b, o1, g1, c1⟩ from if_pos hf] at hb
                refine z_go ?_
                refine ⟨Prod.mk ⟨e0, o0, g0, c0⟩ ⟨lkSend e1 el.b, o1, g1, c1⟩, ⟨⟨hb.2, hb.1⟩, by simp; omega, by simp; omega⟩, z_wkt⟩
            · intro h2
              rw [h1] at h2
              cases h2
          · intro h1
            refine z_go ?_
            apply Sym.cond
            · rfl
            · intro _
              refine z_go ?_
              (apply Sym.drawXL [10, 11] (by kernel_rfl) (by kernel_rfl) (by kernel_rfl))
              have k1 := fnSend' e1 q1 el.b; refine z_xgo ?_
              refine z_go ?_
              apply Sym.cond
              · rfl
              · intro hf
                have hf : frSend e1 el.b ≠ [] := by
                  intro e
                  rw [e] at hf
                  simp at hf
                have hb := hB'.send hA el.b
                rw [show Side.send ⟨e1, o1, g1, c1⟩ el.b = ⟨lkSend e1 el.b, o1 ++ [frSend e1 el.b], g1 ++ [el.b], c1⟩ from if_neg hf] at hb
                refine z_go ?_
                (apply Sym.drawXL [9, 11] (by kernel_rfl) (by kernel_rfl) (by kernel_rfl))
                have a1 : AppH encB g1 [el.b] := .mk; refine z_xgo ?_
                have a1 : AppH encB o1 [frSend e1 el.b] := .mk; refine z_go ?_
                refine ⟨Prod.mk ⟨e0, o0, g0, c0⟩ ⟨lkSend e1 el.b, o1 ++ [frSend e1 el.b], g1 ++ [el.b], c1⟩, ⟨⟨hb.2, hb.1⟩, by simp; omega, by simp; omega⟩, z_wkt⟩
              · intro hf
                have hf : frSend e1 el.b = [] := List.eq_nil_of_length_eq_zero (by simp at hf; simpa using hf)
                have hb := hB'.send hA el.b
                rw [show Side.send ⟨e1, o1, g1, c1⟩ el.b = ⟨lkSend e1 el.b, o1, g1, c1⟩ from if_pos hf] at hb
                refine z_go ?_
                refine ⟨Prod.mk ⟨e0, o0, g0, c0⟩ ⟨lkSend e1 el.b, o1, g1, c1⟩, ⟨⟨hb.2, hb.1⟩, by simp; omega, by simp; omega⟩, z_wkt⟩
            · intro _
              refine z_go ?_
              apply Sym.cond
              · rfl
              · intro _
                refine z_go ?_
                (apply Sym.drawXL [11, 13] (by kernel_rfl) (by kernel_rfl) (by kernel_rfl))
                have k1 := fnTick e1 q1; have a1 : AppH encB o1 (lkTick e1) := .mk; refine z_xgo ?_
                have hb := hB'.tick hA
                refine z_go ?_
                refine ⟨Prod.mk ⟨e0, o0, g0, c0⟩ ⟨e1, o1 ++ lkTick e1, g1, c1⟩, ⟨⟨hb.2, hb.1⟩, by simp; omega, by simp; omega⟩, z_wkt⟩
              · intro _
                refine z_go ?_
                apply Sym.cond
                · rfl
                · intro _
                  refine z_go ?_
                  refine ⟨_, ?_, _, ⟨i + 1, (⟨e0, o0, g0, c0⟩, ⟨e1, o1, g1, c1⟩), by omega, ⟨hA, hB'⟩, by simp; omega, hot, rfl, rfl⟩, z_wkt⟩
                  omega
                · intro hne
                  have hne : o0.length ≠ 0 := by simp at hne; simp [hne]
                  obtain ⟨g, hg, hr, hld⟩ := pickEl (i := el.i) hne
                  have hfr := hA.frames g (List.mem_of_getElem? hg)
                  have hsm := hfr.small
                  have hol := outTake_len e1 g
                  have hb := hB'.take hA hfr
                  refine z_go ?_
                  (apply Sym.drawXL [27, 28] (by kernel_rfl) (by kernel_rfl) (by kernel_rfl))
                  have k1 := fnTake e1 q1 g (by omega); refine z_xgo ?_
                  have a1 : AppH encB o1 (outTake e1 g) := .mk; refine z_go ?_
                  apply Sym.cond
                  · rfl
                  · intro hf
                    have hf : bodyTake e1 g ≠ [] := by
                      intro e
                      rw [e] at hf
                      simp at hf
                    rw [show Side.take ⟨e1, o1, g1, c1⟩ g = ⟨lkTake e1 g, o1 ++ outTake e1 g, g1, c1 ++ [bodyTake e1 g]⟩ by simp [Side.take, hf]] at hb
                    have a1 : AppH encB c1 [bodyTake e1 g] := .mk; refine z_go ?_
                    refine ⟨Prod.mk ⟨e0, o0, g0, c0⟩ ⟨lkTake e1 g, o1 ++ outTake e1 g, g1, c1 ++ [bodyTake e1 g]⟩, ⟨⟨hb.2, hb.1⟩, by simp; omega, by simp; omega⟩, z_wkt⟩
                  · intro hf
                    have hf : bodyTake e1 g = [] := List.eq_nil_of_length_eq_zero (by simp at hf; simpa using hf)
                    rw [show Side.take ⟨e1, o1, g1, c1⟩ g = ⟨lkTake e1 g, o1 ++ outTake e1 g, g1, c1⟩ by simp [Side.take, hf]] at hb
                    refine z_go ?_
                    refine ⟨Prod.mk ⟨e0, o0, g0, c0⟩ ⟨lkTake e1 g, o1 ++ outTake e1 g, g1, c1⟩, ⟨⟨hb.2, hb.1⟩, by simp; omega, by simp; omega⟩, z_wkt⟩
        · rintro s ⟨hB, hgv, hbig⟩
          refine z_go ?_
          apply Sym.cond
          · rfl
          · intro _
            refine z_go ?_
            with_reducible first | apply Fin.rt | apply Fin.nx
            exact .cons (.tmp rfl (.of (.of rfl))) .nil
          · intro hmany
            simp only [decide_eq_false_iff_not] at hmany
            obtain ⟨hA, hB'⟩ := id hB
            have z0 := hA.got.2
            have z1 := hB'.got.2
            have e0 := fnSameRows s.1.came (s.2.given.take s.1.came.length) (by omega)
            have e1 := fnSameRows s.2.came (s.1.given.take s.2.came.length) (by omega)
            rw [beq_iff_eq.2 hA.got.1] at e0
            rw [beq_iff_eq.2 hB'.got.1] at e1
            refine z_go ?_
            refine Sym.loop (fun k st => ∃ e : Nat, e ≤ 2 ∧ k = 2 - e ∧ st = ⟨(21, true, .p (.i e)) :: onceTm ops i, onceH s⟩) 2 ⟨_, ⟨0, by omega, rfl, rfl⟩, z_wkt⟩ ?_
            rintro k st ⟨e, he, rfl, rfl⟩
            refine z_go ?_
            apply Sym.cond
            · rfl
            · intro hlt
              simp only [decide_eq_true_eq] at hlt
              obtain rfl | rfl : e = 0 ∨ e = 1 := by omega
              · have k1 := e0; refine z_go ?_
                apply Sym.cond
                · rfl
                · intro hbad
                  exfalso
                  have hi := hA.inn
                  simp at hbad
                  omega
                · intro _
                  refine z_go ?_
                  exact ⟨_, by omega, _, ⟨1, by omega, rfl, rfl⟩, z_wkt⟩
              · have k1 := e1; refine z_go ?_
                apply Sym.cond
                · rfl
                · intro hbad
                  exfalso
                  have hi := hB'.inn
                  simp at hbad
                  omega
                · intro _
                  refine z_go ?_
                  exact ⟨_, by omega, _, ⟨2, by omega, rfl, rfl⟩, z_wkt⟩
            · intro _
              refine z_go ?_
              refine ⟨_, ?_, _, ⟨i + 1, s, by omega, hB, by omega, by omega, rfl, rfl⟩, z_wkt⟩
              omega
      · intro hat
        refine z_s1 ?_
        apply Sym.seq
        refine Sym.cutE (fun s : Side × Side => ⟨onceTm ops i, onceH s⟩) (fun s => Both s m n ∧ s.1.given.length + s.2.given.length ≤ i + 1 ∧ s.1.out.length + s.2.out.length ≤ 10000) ?_ ?_
        · refine z_go ?_
          apply Sym.cond
          · rfl
          · intro h1
            refine z_go ?_
            apply Sym.cond
            · rfl
            · intro _
              refine z_go ?_
              (apply Sym.drawXL [10, 11] (by kernel_rfl) (by kernel_rfl) (by kernel_rfl))
              have k1 := fnSend' e0 q0 el.b; refine z_xgo ?_
              refine z_go ?_
              apply Sym.cond
              · rfl
              · intro hf
                have hf : frSend e0 el.b ≠ [] := by
                  intro e
                  rw [e] at hf
                  simp at hf
                have hb := hA.send hB' el.b
                rw [show Side.send ⟨e0, o0, g0, c0⟩ el.b = ⟨lkSend e0 el.b, o0 ++ [frSend e0 el.b], g0 ++ [el.b], c0⟩ from if_neg hf] at hb
                refine z_go ?_
                (apply Sym.drawXL [9, 11] (by kernel_rfl) (by kernel_rfl) (by kernel_rfl))
                have a1 : AppH encB g0 [el.b] := .mk; refine z_xgo ?_
                have a1 : AppH encB o0 [frSend e0 el.b] := .mk; refine z_go ?_
                refine ⟨(fun a => Prod.mk a (⟨e1, o1, g1, c1⟩ : Side)) ⟨lkSend e0 el.b, o0 ++ [frSend e0 el.b], g0 ++ [el.b], c0⟩, ⟨⟨hb.1, hb.2⟩, by simp; omega, by simp; omega⟩, z_wkt⟩
              · intro hf
                have hf : frSend e0 el.b = [] := List.eq_nil_of_length_eq_zero (by simp at hf; simpa using hf)
                have hb := hA.send hB' el.b
                rw [show Side.send ⟨e0, o0, g0, c0⟩ el.b = ⟨lkSend e0 el.b, o0, g0, c0⟩ from if_pos hf] at hb
                refine z_go ?_
                refine ⟨(fun a => Prod.mk a (⟨e1, o1, g1, c1⟩ : Side)) ⟨lkSend e0 el.b, o0, g0, c0⟩, ⟨⟨hb.1, hb.2⟩, by simp; omega, by simp; omega⟩, z_wkt⟩
            · intro h2
              rw [h1] at h2
              cases h2
          · intro h1
            refine z_go ?_
            apply Sym.cond
            · rfl
            · intro _
              refine z_go ?_
              (apply Sym.drawXL [10, 11] (by kernel_rfl) (by kernel_rfl) (by kernel_rfl))
              have k1 := fnSend' e0 q0 el.b; refine z_xgo ?_
              refine z_go ?_
              apply Sym.cond
              · rfl
              · intro hf
                have hf : frSend e0 el.b ≠ [] := by
                  intro e
                  rw [e] at hf
                  simp at hf
                have hb := hA.send hB' el.b
                rw [show Side.send ⟨e0, o0, g0, c0⟩ el.b = ⟨lkSend e0 el.b, o0 ++ [frSend e0 el.b], g0 ++ [el.b], c0⟩ from if_neg hf] at hb
                refine z_go ?_
                (apply Sym.drawXL [9, 11] (by kernel_rfl) (by kernel_rfl) (by kernel_rfl))
                have a1 : AppH encB g0 [el.b] := .mk; refine z_xgo ?_
                have a1 : AppH encB o0 [frSend e0 el.b] := .mk; refine z_go ?_
                refine ⟨(fun a => Prod.mk a (⟨e1, o1, g1, c1⟩ : Side)) ⟨lkSend e0 el.b, o0 ++ [frSend e0 el.b], g0 ++ [el.b], c0⟩, ⟨⟨hb.1, hb.2⟩, by simp; omega, by simp; omega⟩, z_wkt⟩
              · intro hf
                have hf : frSend e0 el.b = [] := List.eq_nil_of_length_eq_zero (by simp at hf; simpa using hf)
                have hb := hA.send hB' el.b
                rw [show Side.send ⟨e0, o0, g0, c0⟩ el.b = ⟨lkSend e0 el.b, o0, g0, c0⟩ from if_pos hf] at hb
                refine z_go ?_
                refine ⟨(fun a => Prod.mk a (⟨e1, o1, g1, c1⟩ : Side)) ⟨lkSend e0 el.b, o0, g0, c0⟩, ⟨⟨hb.1, hb.2⟩, by simp; omega, by simp; omega⟩, z_wkt⟩
            · intro _
              refine z_go ?_
              apply Sym.cond
              · rfl
              · intro _
                refine z_go ?_
                (apply Sym.drawXL [11, 13] (by kernel_rfl) (by kernel_rfl) (by kernel_rfl))
                have k1 := fnTick e0 q0; have a1 : AppH encB o0 (lkTick e0) := .mk; refine z_xgo ?_
                have hb := hA.tick hB'
                refine z_go ?_
                refine ⟨(fun a => Prod.mk a (⟨e1, o1, g1, c1⟩ : Side)) ⟨e0, o0 ++ lkTick e0, g0, c0⟩, ⟨⟨hb.1, hb.2⟩, by simp; omega, by simp; omega⟩, z_wkt⟩
              · intro _
                refine z_go ?_
                apply Sym.cond
                · rfl
                · intro _
                  refine z_go ?_
                  refine ⟨_, ?_, _, ⟨i + 1, (⟨e0, o0, g0, c0⟩, ⟨e1, o1, g1, c1⟩), by omega, ⟨hA, hB'⟩, by simp; omega, hot, rfl, rfl⟩, z_wkt⟩
                  omega
                · intro hne
                  have hne : o1.length ≠ 0 := by simp at hne; simp [hne]
                  obtain ⟨g, hg, hr, hld⟩ := pickEl (i := el.i) hne
                  have hfr := hB'.frames g (List.mem_of_getElem? hg)
                  have hsm := hfr.small
                  have hol := outTake_len e0 g
                  have hb := hA.take hB' hfr
                  refine z_go ?_
                  (apply Sym.drawXL [27, 28] (by kernel_rfl) (by kernel_rfl) (by kernel_rfl))
                  have k1 := fnTake e0 q0 g (by omega); refine z_xgo ?_
                  have a1 : AppH encB o0 (outTake e0 g) := .mk; refine z_go ?_
                  apply Sym.cond
                  · rfl
                  · intro hf
                    have hf : bodyTake e0 g ≠ [] := by
                      intro e
                      rw [e] at hf
                      simp at hf
                    rw [show Side.take ⟨e0, o0, g0, c0⟩ g = ⟨lkTake e0 g, o0 ++ outTake e0 g, g0, c0 ++ [bodyTake e0 g]⟩ by simp [Side.take, hf]] at hb
                    have a1 : AppH encB c0 [bodyTake e0 g] := .mk; refine z_go ?_
                    refine ⟨(fun a => Prod.mk a (⟨e1, o1, g1, c1⟩ : Side)) ⟨lkTake e0 g, o0 ++ outTake e0 g, g0, c0 ++ [bodyTake e0 g]⟩, ⟨⟨hb.1, hb.2⟩, by simp; omega, by simp; omega⟩, z_wkt⟩
                  · intro hf
                    have hf : bodyTake e0 g = [] := List.eq_nil_of_length_eq_zero (by simp at hf; simpa using hf)
                    rw [show Side.take ⟨e0, o0, g0, c0⟩ g = ⟨lkTake e0 g, o0 ++ outTake e0 g, g0, c0⟩ by simp [Side.take, hf]] at hb
                    refine z_go ?_
                    refine ⟨(fun a => Prod.mk a (⟨e1, o1, g1, c1⟩ : Side)) ⟨lkTake e0 g, o0 ++ outTake e0 g, g0, c0⟩, ⟨⟨hb.1, hb.2⟩, by simp; omega, by simp; omega⟩, z_wkt⟩
        · rintro s ⟨hB, hgv, hbig⟩
          refine z_go ?_
          apply Sym.cond
          · rfl
          · intro _
            refine z_go ?_
            with_reducible first | apply Fin.rt | apply Fin.nx
            exact .cons (.tmp rfl (.of (.of rfl))) .nil
          · intro hmany
            simp only [decide_eq_false_iff_not] at hmany
            obtain ⟨hA, hB'⟩ := id hB
            have z0 := hA.got.2
            have z1 := hB'.got.2
            have e0 := fnSameRows s.1.came (s.2.given.take s.1.came.length) (by omega)
            have e1 := fnSameRows s.2.came (s.1.given.take s.2.came.length) (by omega)
            rw [beq_iff_eq.2 hA.got.1] at e0
            rw [beq_iff_eq.2 hB'.got.1] at e1
            refine z_go ?_
            refine Sym.loop (fun k st => ∃ e : Nat, e ≤ 2 ∧ k = 2 - e ∧ st = ⟨(21, true, .p (.i e)) :: onceTm ops i, onceH s⟩) 2 ⟨_, ⟨0, by omega, rfl, rfl⟩, z_wkt⟩ ?_
            rintro k st ⟨e, he, rfl, rfl⟩
            refine z_go ?_
            apply Sym.cond
            · rfl
            · intro hlt
              simp only [decide_eq_true_eq] at hlt
              obtain rfl | rfl : e = 0 ∨ e = 1 := by omega
              · have k1 := e0; refine z_go ?_
                apply Sym.cond
                · rfl
                · intro hbad
                  exfalso
                  have hi := hA.inn
                  simp at hbad
                  omega
                · intro _
                  refine z_go ?_
                  exact ⟨_, by omega, _, ⟨1, by omega, rfl, rfl⟩, z_wkt⟩
              · have k1 := e1; refine z_go ?_
                apply Sym.cond
                · rfl
                · intro hbad
                  exfalso
                  have hi := hB'.inn
                  simp at hbad
                  omega
                · intro _
                  refine z_go ?_
                  exact ⟨_, by omega, _, ⟨2, by omega, rfl, rfl⟩, z_wkt⟩
            · intro _
              refine z_go ?_
              refine ⟨_, ?_, _, ⟨i + 1, s, by omega, hB, by omega, by omega, rfl, rfl⟩, z_wkt⟩
              omega
    · intro _
      refine z_go ?_
      with_reducible first | apply Fin.rt | apply Fin.nx
      exact .cons (.tmp rfl (.of (.of rfl))) .nil
theorem SessionOnce_walk {w : World} {va : Value} {l : List OpR} {m n : Int} (ha : (V.list encOp l).Rep Any w va) (h : ∀ o ∈ l, o.i ≤ 65535) (_ : (Lit.int .i64 m).wf = true) (_ : (Lit.int .i64 n).wf = true) :
    Calls Try.prog 11 #[va, .int .i64 m, .int .i64 n] w fun e w' => e = .returned (.bool true) ∧ Below w.heap.size w w' :=
  ((SessionOnce_fn l m n h).calls Any w [va, .int .i64 m, .int .i64 n] (fun _ _ => trivial) ⟨_, _, rfl, ha, _, _, rfl, rfl, _, _, rfl, rfl, rfl⟩).mono fun e w' ⟨u, h1, h2, h3⟩ => ⟨by rw [h1, show u = _ from h3], h2⟩
end Go.Proofs.Ytdehiohjlbmmdaa
