/- Layer 8's laws: their head; the law GatesTells. Layer 8's laws: the walk of GatesBack. Layer 8's laws: the walk of GatesTerms. Layer 8's laws: the walk of GatesRow. -/
import Derived.Test.YtfnbofkhgimkcaaVB
import Derived.Test.YtfnbofkhgimkcaaTC
set_option linter.unusedSimpArgs false
set_option linter.unusedVariables false
namespace Go.Proofs.Ytfnbofkhgimkcaa
open Go.RowKit Go.Sy
def hdG : Nt := ⟨⟨1, 1, 2⟩, [⟨2, 0, 0, 0⟩, ⟨3, 0, 1, 0⟩, ⟨4, 1, 0, 0⟩]⟩
theorem head8_vals : gtM hdG 3 = (⟨2, 0, 1, 1, 1⟩, true) ∧ gtM hdG 4 = (gz, false) ∧ rgM hdG 1 = (2, 2) ∧ lnM hdG 1 = (4, 4) ∧ lnM hdG 2 = (8, 1) ∧ lnM hdG 3 = (0, 0) ∧ stA hdG = [0, 2] ∧ sumP (ckL hdG) = 4 ∧ ixM hdG 2 0 1 = 3 ∧ ixM hdG 1 0 0 = -1 := by
  decide +kernel
set_option maxHeartbeats 4000000 in
theorem fnHead8 : Fn1 Try.prog 30 [] (.b true) := by
  refine Fn1.of (rs := [.b true]) (res := [.tmp 0]) Try.call30 Try.func30 rfl Try.ntmps30 rfl (by simp) fun c hc => ?_
  obtain ⟨e1, e2, e3, e4, e5, e6, e7, e8, e9, e10⟩ := head8_vals
  have q1 := fnGGate hdG 3
  have q2 := fnGGate hdG 4
  have q3 := fnGRange hdG 1 (by decide)
  have q4 := fnGLine hdG 1 (by decide)
  have q5 := fnGLine hdG 2 (by decide)
  have q6 := fnGLine hdG 3 (by decide)
  have q7 := fnGStages hdG (by decide)
  have q8 := fnGTotal hdG
  have q9 := fnGIndex hdG 2 0 1
  have q10 := fnGIndex hdG 1 0 0
  have q11 := fnRSameI [0, 2] [0, 2] (by decide)
  rw [e1] at q1
  rw [e2] at q2
  rw [e3] at q3
  rw [e4] at q4
  rw [e5] at q5
  rw [e6] at q6
  rw [e7] at q7
  rw [e8] at q8
  rw [e9] at q9
  rw [e10] at q10
  have k1 := q1; have k2 := q2; have k3 := q3; have k4 := q4; have k5 := q5; have k6 := q6; have k7 := q7; have k8 := q8; have k9 := q9; have k10 := q10; have k11 := q11; refine z_go ?_
  with_reducible first | apply Fin.rt | apply Fin.nx
  refine .cons (.tmp rfl (.of (.of ?_))) .nil
  kernel_rfl
set_option maxHeartbeats 4000000 in
theorem GatesTells_fn (n : Nt) (stage g l a t : Int) : Fn1 Try.prog 9 [ntV n, .i stage, .i g, .i l, .i a, .i t] (.b true) := by
  refine Fn1.of (rs := [.b true]) (res := [.tmp 12]) Try.call9 Try.func9 rfl Try.ntmps9 rfl (by simp) fun c hc => ?_
  have k1 := fnHead8; have k2 := fnGreat4 n; refine z_go ?_
  apply Sym.cond
  · rfl
  · intro _
    refine z_go ?_
    with_reducible first | apply Fin.rt | apply Fin.nx
    exact (.cons (.tmp rfl (.of (.of rfl))) .nil)
  · intro hg
    have hn : n.ls.length ≤ 1000 := by
      simp only [decide_eq_false_iff_not] at hg
      omega
    have hal := stI_len n n.ls.length
    have k1 := fnGRange n stage hn; have k2 := fnRGRange n stage hn; have k3 := fnGLine n stage hn; have k4 := fnRGLine n stage hn; have k5 := fnGGate n g; have k6 := fnRGGate n g hn; have k7 := fnGStages n hn; have k8 := fnRGStages n hn; have k9 := fnRSameI (stA n) (stA n) (Nat.le_trans hal (by omega)); have k10 := fnGTotal n; have k11 := fnRGTotal n; have k12 := fnGIndex n l a t; have k13 := fnRGIndex n l a t hn; refine z_go ?_
    with_reducible first | apply Fin.rt | apply Fin.nx
    refine .cons (.tmp rfl (.of (.of ?_))) .nil
    simp [D.toV]
end Go.Proofs.Ytfnbofkhgimkcaa
set_option linter.unusedSimpArgs false
set_option linter.unusedVariables false
namespace Go.Proofs.Ytfnbofkhgimkcaa
open Go.RowKit Go.Sy
theorem total_eq (n : Nt) : sumP (ckL n) = ((gA n).length : Nat) := by
  by_cases h : ckE n = 0
  · exact (gA_len h).symm
  · rw [gA_bad h, (ck_bad h 0).1]; rfl
set_option maxHeartbeats 4000000 in
theorem GatesBack_fn (n : Nt) (g l a t : Int) : Fn1 Try.prog 10 [ntV n, .i g, .i l, .i a, .i t] (.b true) := by
  refine Fn1.of (rs := [.b true]) (res := [.tmp 10]) Try.call10 Try.func10 rfl Try.ntmps10 rfl (by simp) fun c hc => ?_
  have k1 := fnHead8; have k2 := fnGreat4 n; refine z_go ?_
  apply Sym.cond
  · rfl
  · intro _
    refine z_go ?_
    with_reducible first | apply Fin.rt | apply Fin.nx
    exact (.cons (.tmp rfl (.of (.of rfl))) .nil)
  · intro hg
    have kt := fnGTotal n
    rw [total_eq n] at kt
    have kg := fnGGate n g
    by_cases hb : 0 ≤ g ∧ g < (gA n).length
    · obtain ⟨q, rfl⟩ : ∃ q : Nat, g = q := ⟨g.toNat, by omega⟩
      obtain ⟨x, hx⟩ : ∃ x, (gA n)[q]? = some x := ⟨_, List.getElem?_eq_getElem (by omega)⟩
      rw [gtM_at hx] at kg
      have ki := fnGIndex n x.l x.a x.t
      rw [ixM_at hx] at ki
      have k1 := kt; have k2 := kg; have k3 := ki; refine z_go ?_
      apply Sym.cond
      · rfl
      · intro h
        exfalso
        simp at h
        omega
      · intro _
        rcases ixM_inv n l a t with h1 | ⟨k, y, hy, h1, h2, h3, h4⟩
        · have kj := fnGIndex n l a t
          rw [h1] at kj
          have k1 := kj; refine z_go ?_
          apply Sym.cond
          · rfl
          · intro _
            refine z_go ?_
            with_reducible first | apply Fin.rt | apply Fin.nx
            exact (.cons (.tmp rfl (.of (.of rfl))) .nil)
          · intro h
            simp at h
        · have kj := fnGIndex n l a t
          rw [h1] at kj
          have kh := fnGGate n k
          rw [gtM_at hy] at kh
          have k1 := kj; refine z_go ?_
          apply Sym.cond
          · rfl
          · intro h
            exfalso
            simp at h
            omega
          · intro _
            have k1 := kh; refine z_go ?_
            with_reducible first | apply Fin.rt | apply Fin.nx
            refine .cons (.tmp rfl (.of (.of ?_))) .nil
            simp [D.toV, h2, h3, h4]
    · rw [gtM_no hb] at kg
      have ki := fnGIndex n gz.l gz.a gz.t
      have k1 := kt; have k2 := kg; have k3 := ki; refine z_go ?_
      apply Sym.cond
      · rfl
      · intro h
        exfalso
        simp at h
        omega
      · intro _
        rcases ixM_inv n l a t with h1 | ⟨k, y, hy, h1, h2, h3, h4⟩
        · have kj := fnGIndex n l a t
          rw [h1] at kj
          have k1 := kj; refine z_go ?_
          apply Sym.cond
          · rfl
          · intro _
            refine z_go ?_
            with_reducible first | apply Fin.rt | apply Fin.nx
            exact (.cons (.tmp rfl (.of (.of rfl))) .nil)
          · intro h
            simp at h
        · have kj := fnGIndex n l a t
          rw [h1] at kj
          have kh := fnGGate n k
          rw [gtM_at hy] at kh
          have k1 := kj; refine z_go ?_
          apply Sym.cond
          · rfl
          · intro h
            exfalso
            simp at h
            omega
          · intro _
            have k1 := kh; refine z_go ?_
            with_reducible first | apply Fin.rt | apply Fin.nx
            refine .cons (.tmp rfl (.of (.of ?_))) .nil
            simp [D.toV, h2, h3, h4]
end Go.Proofs.Ytfnbofkhgimkcaa
set_option linter.unusedSimpArgs false
set_option linter.unusedVariables false
namespace Go.Proofs.Ytfnbofkhgimkcaa
open Go.RowKit Go.Sy
set_option maxHeartbeats 4000000 in
theorem GatesTerms_fn (n : Nt) (ly a : Int) (h1 : 0 ≤ ly ∧ ly ≤ 255) (h2 : 0 ≤ a ∧ a ≤ 255) : Fn1 Try.prog 11 [ntV n, .x (.int .u8 ly), .x (.int .u8 a)] (.b true) := by
  refine Fn1.of (rs := [.b true]) (res := [.tmp 6]) Try.call11 Try.func11 rfl Try.ntmps11 rfl (by simp) fun c hc => ?_
  obtain ⟨i, hk, hk7⟩ := mod8 h1
  have k1 := fnHead8; have k2 := fnGreat4 n; have k3 := fnRRight n; refine z_go ?_
  rw [hk]
  apply Sym.cond
  · rfl
  · intro _
    refine z_go ?_
    with_reducible first | apply Fin.rt | apply Fin.nx
    exact (.cons (.tmp rfl (.of (.of rfl))) .nil)
  · intro hh
    have hh : n.ls.length ≤ 60 ∧ ckE n = 0 ∧ i < n.ls.length := by
      simp at hh
      omega
    obtain ⟨hn, hE, hi⟩ := hh
    obtain ⟨m, hm⟩ := g_form hE hi
    have hsl := ckSn_len hE
    obtain ⟨sh, hsh⟩ : ∃ sh, (ckS n)[i + 1]? = some sh := ⟨_, List.getElem?_eq_getElem (by omega)⟩
    have hsh2 : (ckS n)[((i : Int) + 1).toNat]? = some sh := hsh
    have hgs := gS_at hsh
    have hzs := shSize_b sh
    have hs1 := hm.s1
    have hs2 := hm.s2
    have kz := fnRShSize sh
    rw [show shSize sh = ((gS n i : Nat) : Int) by omega] at kz
    obtain ⟨p, hp, hpl⟩ : ∃ p : Nat, a % ((gS n i : Nat) : Int) = p ∧ p < gS n i := ⟨(a % ((gS n i : Nat) : Int)).toNat, by
      have := Int.emod_nonneg a (b := ((gS n i : Nat) : Int)) (by omega)
      omega, by
      have := Int.emod_nonneg a (b := ((gS n i : Nat) : Int)) (by omega)
      have := Int.emod_lt_of_pos a (b := ((gS n i : Nat) : Int)) (by omega)
      omega⟩
    have k1 := fnRShapes n; have k2 := kz; refine z_go ?_
    rw [hp]
    have hTl := hm.tl p hpl
    have hle := hm.le
    have hgl := gA_le n
    have hix : ∀ (j : Nat) t, (tmT n i p)[j]? = some t → ixM n i p j = ((gO n i + (p * m + j) : Nat) : Int) ∧ gtM n ((gO n i + (p * m + j) : Nat) : Int) = (⟨i, p, j, t.x, t.w⟩, true) ∧ gO n i + (p * m + j) < (gA n).length := fun j t ht => by
      obtain ⟨e1, e2⟩ := gt_ix hE hi hm hpl ht
      exact ⟨e1, by rw [← e1]; exact e2, (List.getElem?_eq_some_iff.1 (gt_term hE hi hm hpl ht)).1⟩
    have e8 : ixM n i p ((tmT n i p).length : Nat) = -1 := gt_ix_no (by omega)
    have e9 : ixM n i p (-1) = -1 := gt_ix_no (by omega)
    have k8 := fnGIndex n i p ((tmT n i p).length : Nat)
    have k9 := fnGIndex n i p (-1)
    rw [e8] at k8
    rw [e9] at k9
    have k1 := fnRTerms n i p
    generalize hT : tmT n i p = T at *
    refine z_go ?_
    clear k1
    refine Sym.loop (fun r s => ∃ j : Nat, j ≤ m ∧ r = m - j ∧ s = ⟨[(13, true, .p (.i j)), (12, true, .p (V.list encTm T)), (11, true, .p (.i p)), (8, true, .p (.i i)), (7, true, .p (.b true)), (3, true, .ptr 0 0)], [some (ntBox n)]⟩) m ⟨_, ⟨0, Nat.zero_le _, by simp, rfl⟩, z_wkt⟩ ?_
    rintro r s ⟨j, hj, rfl, rfl⟩
    refine z_go ?_
    apply Sym.cond
    · rfl
    · intro hlt
      simp only [decide_eq_true_eq] at hlt
      obtain ⟨t, ht⟩ : ∃ t, T[j]? = some t := ⟨_, List.getElem?_eq_getElem (by omega)⟩
      obtain ⟨t0, ht0⟩ : ∃ t, T[0]? = some t := ⟨_, List.getElem?_eq_getElem (by omega)⟩
      obtain ⟨e1, e2, e3⟩ := hix j t ht
      obtain ⟨f1, _, f3⟩ := hix 0 t0 ht0
      have q1 := fnGIndex n i p j
      have q2 := fnGGate n ((gO n i + (p * m + j) : Nat) : Int)
      have q3 : Fn1 Try.prog 41 [ntV n, .i i, .i p, .i 0] (.i ((gO n i + (p * m + 0) : Nat) : Int)) := by
        rw [← f1]
        exact fnGIndex n i p 0
      rw [e1] at q1
      rw [e2] at q2
      have k1 := q1; have k2 := q2; have k3 := q3; refine z_go ?_
      apply Sym.cond
      · rfl
      · intro h
        exfalso
        simp at h
        omega
      · intro _
        refine z_go ?_
        refine ⟨_, ?_, _, ⟨j + 1, by omega, rfl, rfl⟩, z_wkt⟩
        omega
    · intro hge
      simp only [decide_eq_false_iff_not] at hge
      refine z_go ?_
      with_reducible first | apply Fin.rt | apply Fin.nx
      refine .cons (.tmp rfl (.of (.of ?_))) .nil
      simp [D.toV]
end Go.Proofs.Ytfnbofkhgimkcaa
set_option linter.unusedSimpArgs false
set_option linter.unusedVariables false
namespace Go.Proofs.Ytfnbofkhgimkcaa
open Go.RowKit Go.Sy
theorem MOp.pickAndF {P : Program} {s : St} {g : Bool} {dst : Option Tmp} {ty : TypeId} {pos : String} {af : Array Edge} {gd : Option (Nat × Bool)} {x y : Operand} {b : Bool} (hx : Ev s g x (.p (.x (.bool b)))) (hb : b = false) :
    MOp P s ⟨dst, .pick x y (.const (.bool false)), ty, pos, af, gd⟩ g (.p (.x (.bool false))) := by
  refine ⟨fun β S a w ho he hg K Q hK => ?_⟩
  subst hg
  subst hb
  have h1 : a.eval x = .bool false := hx.rep (l := (Op.pick x y (.const (.bool false))).operands) (by simp [Op.operands]) he rfl
  have h2 : a.eval (.const (.bool false)) = .bool false := rfl
  exact wp_value (v := .bool false) (by simp [execOp, h1, h2, asBool]) (hK _ w (Ext.refl w) rfl)
set_option maxHeartbeats 4000000 in
theorem GatesRow_fn (n : Nt) : Fn1 Try.prog 12 [ntV n] (.b true) := by
  refine Fn1.of (rs := [.b true]) (res := [.tmp 2]) Try.call12 Try.func12 rfl Try.ntmps12 rfl (by simp) fun c hc => ?_
  have k1 := fnHead8; have k2 := fnGreat4 n; refine z_go ?_
  apply Sym.cond
  · rfl
  · intro _
    refine z_go ?_
    with_reducible first | apply Fin.rt | apply Fin.nx
    exact (.cons (.tmp rfl (.of (.of rfl))) .nil)
  · intro hg
    have hn : n.ls.length ≤ 1000 := by
      simp only [decide_eq_false_iff_not] at hg
      omega
    have hgl := gA_le n
    have hsl := stA_len n
    have hsl2 : (stL n).length ≤ 1000 := by rw [← stA_len]; exact Nat.le_trans (stI_len n _) hn
    have kt := fnGTotal n
    rw [total_eq n] at kt
    have k1 := fnGStages n hn; have k2 := fnRRight n; refine z_go ?_
    apply Sym.cond
    · rfl
    · intro hE
      have hE : ¬ ckE n = 0 := by simpa using hE
      have hst : stL n = [] := stL_bad hE
      have hsa : stA n = [] := by rw [stA_eq, hst]; rfl
      have hga := gA_bad hE
      have kl := fnGLine n 0 hn
      rw [lnM_F (fun h => hE h.1), rg_no (by rw [hst]; simp)] at kl
      have k1 := kl; have k2 := kt; refine z_go ?_
      with_reducible first | apply Fin.rt | apply Fin.nx
      refine .cons (.tmp rfl (.of (.of ?_))) .nil
      simp [D.toV, hsa, hga]
    · intro hE
      have hE : ckE n = 0 := by simpa using hE
      clear kt
      refine z_go ?_
      refine Sym.loop (fun k s => ∃ j : Nat, j ≤ (stL n).length ∧ k = (stL n).length - j ∧ s = ⟨[(8, true, .p (.i j)), (7, true, .p (.i (sumC n ((stL n).take j)))), (4, true, .p (V.list encI (stA n))), (3, true, .p (.b true)), (1, true, .ptr 0 0)], [some (ntBox n)]⟩) (stL n).length ⟨_, ⟨0, Nat.zero_le _, by simp, rfl⟩, z_wkt⟩ ?_
      rintro k s ⟨j, hj, rfl, rfl⟩
      refine z_go ?_
      apply Sym.cond
      · rfl
      · intro hlt
        simp only [decide_eq_true_eq] at hlt
        have hjl : j < (stL n).length := by omega
        obtain ⟨i, hi⟩ : ∃ i, (stL n)[j]? = some i := ⟨_, List.getElem?_eq_getElem hjl⟩
        have hi2 := stA_at hi
        have hb := rg_b n j
        have e1 := rg_at hi
        have e2 := rg_val hi
        rw [e2] at e1
        simp only [Prod.mk.injEq] at e1
        obtain ⟨eO, eP⟩ := e1
        have hpos := (stL_mem hi).2
        rw [e2] at hb
        simp only at hb
        obtain ⟨x, hx1, hx2⟩ := gt_layer hi (j := 0) (by omega)
        obtain ⟨y, hy1, hy2⟩ := gt_layer hi (j := (gB n i).length - 1) (by omega)
        have kr := fnGRange n j hn
        rw [e2] at kr
        have kl := fnGLine n j hn
        rw [lnM_F (fun h => by omega), e2] at kl
        dsimp only at kr kl
        have kx := fnGGate n (sumC n ((stL n).take j))
        rw [show gtM n (sumC n ((stL n).take j)) = (x, true) by rw [eO]; exact hx1] at kx
        have ky := fnGGate n (sumC n ((stL n).take j) + ckP n i - 1)
        rw [show gtM n (sumC n ((stL n).take j) + ckP n i - 1) = (y, true) by
          rw [← hy1]
          congr 1
          omega] at ky
        obtain ⟨z, hz⟩ : ∃ z, (stA n)[((j : Int) - 1).toNat]? = some z := ⟨_, List.getElem?_eq_getElem (by omega)⟩
        have hlast : 0 < j → ∃ i', (stL n)[j - 1]? = some i' ∧ z = (i' : Int) ∧ i' < i := fun h0 => by
          obtain ⟨i', hi'⟩ : ∃ i', (stL n)[j - 1]? = some i' := ⟨_, List.getElem?_eq_getElem (by omega)⟩
          have h1 := stA_at hi'
          rw [show (((j : Int) - 1).toNat) = j - 1 by omega, h1] at hz
          injection hz with hz
          exact ⟨i', hi', hz.symm, stL_lt hi' hi (by omega)⟩
        by_cases h0 : 0 < j
        · obtain ⟨i', _, rfl, hii⟩ := hlast h0
          have k1 := kr; have k2 := kl; have k3 := kx; have k4 := ky; refine z_go ?_
          apply Sym.cond
          · rfl
          · intro h
            exfalso
            simp at h
            omega
          · intro _
            have k1 := kr; have k2 := kl; have k3 := kx; have k4 := ky; refine z_go ?_
            apply Sym.cond
            · rfl
            · intro h
              exfalso
              simp [hx2, hy2] at h
            · intro _
              refine z_go ?_
              refine ⟨_, ?_, _, ⟨j + 1, by omega, rfl, rfl⟩, ?_⟩
              · omega
              · rw [sumC_succ hi]
                exact z_wkt
        · obtain rfl : j = 0 := by omega
          obtain rfl : (i : Int) = z := by
            have hz0 : (stA n)[0]? = some z := hz
            rw [hi2] at hz0
            exact Option.some.inj hz0
          have k1 := kr; have k2 := kl; have k3 := kx; have k4 := ky; refine z_go ?_
          refine Sym.drawA (by kernel_rfl) (by kernel_rfl) ?_
          refine z_mta ?_
          iterate 3 ((with_reducible apply MAll.step1); exact z_gd; exact MOp.off (by simp); exact rfl)
          ((with_reducible apply MAll.step1); exact z_gd; ((with_reducible apply MOp.pickAndF); exact z_ev; simp); exact rfl)
          refine z_mta ?_
          with_reducible apply MAll.nil
          refine z_go ?_
          apply Sym.cond
          · rfl
          · intro h
            exfalso
            simp at h
            omega
          · intro _
            have k1 := kr; have k2 := kl; have k3 := kx; have k4 := ky; refine z_go ?_
            apply Sym.cond
            · rfl
            · intro h
              exfalso
              simp [hx2, hy2] at h
            · intro _
              refine z_go ?_
              refine ⟨_, ?_, _, ⟨0 + 1, by omega, rfl, rfl⟩, ?_⟩
              · omega
              · rw [sumC_succ hi]
                exact z_wkt
      · intro hge
        simp only [decide_eq_false_iff_not] at hge
        obtain rfl : j = (stL n).length := by omega
        rw [List.take_length]
        have kt := fnGTotal n
        rw [total_eq n] at kt
        have hall := stL_sum hE
        have htot := total_eq n
        have kl := fnGLine n ((stL n).length : Nat) hn
        rw [lnM_T ⟨hE, rfl⟩] at kl
        dsimp only at kl
        have hla := shLast_at hE
        have hsS := ckSn_len hE
        rw [← hsl] at kl
        have k1 := kl; have k2 := kt; have k3 := fnRShapes n; have k4 := fnRShSize (shLast n); refine z_go ?_
        with_reducible first | apply Fin.rt | apply Fin.nx
        refine .cons (.tmp rfl (.of (.of ?_))) .nil
        simp [D.toV, hall, htot]
end Go.Proofs.Ytfnbofkhgimkcaa
