/- Layer 13: what a party says of a layer's gates. -/
import Derived.Test.YtfnbofkhgimkcaaGreatW2
import Derived.Test.YtfnbofkhgimkcaaGreatTB
import Derived.Test.YtfnbofkhgimkcaaGreatDC
set_option linter.unusedSimpArgs false
set_option linter.unusedVariables false
namespace Go.Proofs.YtfnbofkhgimkcaaGreat
open Go.RowKit Go.Sy
abbrev uCell (k n : Nat) : Box := ⟨[.row k n], 28, 0⟩
def gY' (xs ws : List Int) (t : Tm) : Int := if t.w < 0 then gx xs t.x else gx ws t.w
set_option maxHeartbeats 2000000 in
theorem fnSay1 (xs ws : List Int) (t : Tm) (m : Tr) (k p : Int) (l : List Int) (hx : 0 ≤ t.x ∧ t.x < xs.length) (hw : t.w < 0 ∨ 0 ≤ t.w ∧ t.w < ws.length) (hl : l.length ≤ 1000000) :
    FnM Tryz.prog 124 [.p (.i k), .p (.i p), .p (.agg (encTm t)), .p (trV m), .p (.ref [V.list encU xs]), .p (.ref [V.list encU ws]), .ptr 0 0] [some (uCell 1 l.length), some (uRow l)] 1 (.tup [])
      [some (uCell 1 (l ++ [(opnT (gx xs t.x) (gY' xs ws t) m).1, (opnT (gx xs t.x) (gY' xs ws t) m).2]).length), some (uRow (l ++ [(opnT (gx xs t.x) (gY' xs ws t) m).1, (opnT (gx xs t.x) (gY' xs ws t) m).2]))] := by
  refine FnM.of (rs := []) (res := []) Tryz.call124 Tryz.func124 rfl Tryz.ntmps124 rfl (by simp) rfl (by simp [Hp.upTo, D.upToL, D.upTo, D.upToL_p]) fun c hro hc hdead => ?_
  have h1 := gx_get hx
  refine z_go ?_
  apply Sym.cond
  · rfl
  · intro h
    have h : ¬ t.w < 0 := by
      simp at h
      omega
    have h2 := gx_get (show 0 ≤ t.w ∧ t.w < ws.length by omega)
    rw [show gY' xs ws t = gx ws t.w from if_neg h]
    refine z_go ?_
    (apply Sym.drawXL [8, 9] (by kernel_rfl) (by kernel_rfl) (by kernel_rfl))
    have k1 := fnOpen (gx xs t.x) (gx ws t.w) m; refine z_xgo ?_
    have a1 : AppH encU l [(opnT (gx xs t.x) (gx ws t.w) m).1, (opnT (gx xs t.x) (gx ws t.w) m).2] := .mk; refine z_go ?_
    exact FinB.nxW [] z_wkt .nil
  · intro h
    have h : t.w < 0 := by
      simp at h
      omega
    rw [show gY' xs ws t = gx xs t.x from if_pos h]
    refine z_go ?_
    (apply Sym.drawXL [8, 9] (by kernel_rfl) (by kernel_rfl) (by kernel_rfl))
    have k1 := fnOpen (gx xs t.x) (gx xs t.x) m; refine z_xgo ?_
    have a1 : AppH encU l [(opnT (gx xs t.x) (gx xs t.x) m).1, (opnT (gx xs t.x) (gx xs t.x) m).2] := .mk; refine z_go ?_
    exact FinB.nxW [] z_wkt .nil
abbrev prdC (n : Nt) (who s l fst mny out : Int) : List V := [.i n.inp.c, .i n.inp.h, .i n.inp.w, V.list encLy n.ls, .i who, uV s, .i l, .i fst, .i mny, .i out]
abbrev prdBox (n : Nt) (who s l fst mny out : Int) : Box := ⟨(prdC n who s l fst mny out).map D.p, 81, 0⟩
/-- a layer's gates reach what there is -/
def tmFit (n : Nt) (i : Nat) (X W : Nat) : Prop := ∀ p : Nat, p < gS n i → ∀ t ∈ tmT n i p, (0 ≤ t.x ∧ t.x < X) ∧ (t.w < 0 ∨ 0 ≤ t.w ∧ t.w < W)
theorem gA_512 (n : Nt) (i : Nat) (hE : ckE n = 0) (hi : i < n.ls.length) : gO n i ≤ 512 ∧ (gB n i).length ≤ 512 ∧ gO n i + (gB n i).length ≤ 512 := by
  have h1 := gA_le n
  have h2 := gO_le hE (show i + 1 ≤ n.ls.length by omega)
  rw [gO_succ] at h2
  omega
set_option maxHeartbeats 4000000 in
theorem fnEachSay (n : Nt) (s who mny : Int) (i m : Nat) (xs ws : List Int) (hE : ckE n = 0) (hi : i < n.ls.length) (hm : GF n i m) (hT : tmFit n i xs.length ws.length) :
    FnM Tryz.prog 120 [.p (.agg (prdC n who s i (gO n i : Nat) mny (gS n i : Nat))), .clo (.func 124) [] [.p (.ref [V.list encU xs]), .p (.ref [V.list encU ws]), .ptr 0 0]] [some (uCell 1 0), some (uRow [])] 1 (.tup [])
      [some (uCell 1 (sayT n s who i xs ws).length), some (uRow (sayT n s who i xs ws))] := by
  refine FnM.of (rs := []) (res := []) Tryz.call120 Tryz.func120 rfl Tryz.ntmps120 rfl (by simp) rfl (by simp [Hp.upTo, D.upToL, D.upTo, D.upToL_p]) fun c hro hc hdead => ?_
  obtain ⟨b1, b2, b3⟩ := gA_512 n i hE hi
  have hgl := gB_len hm
  have hs1 := hm.s2
  obtain ⟨R, hR⟩ : ∃ R : Nat → List Int, ∀ k, R k = sayN s who xs ws (gO n i : Nat) (gB n i) k := ⟨_, fun _ => rfl⟩
  have hR0 : R 0 = [] := by rw [hR]; rfl
  have hRl : ∀ k, k ≤ (gB n i).length → (R k).length ≤ 1024 := fun k hk => by
    rw [hR, sayN_len _ _ _ _ _ _ _ hk]
    omega
  have hRe : sayT n s who i xs ws = R (gS n i * m) := by
    rw [hR, Nat.mul_comm, ← hgl]
    rfl
  have hstep : ∀ (p j K : Nat) (t : Tm), p < gS n i → j < m → K = p * m + j → (tmT n i p)[j]? = some t → K < (gB n i).length ∧ R (K + 1) = R K ++ [(opnT (gx xs t.x) (gY' xs ws t) (halfT s who ((gO n i : Nat) + K))).1, (opnT (gx xs t.x) (gY' xs ws t) (halfT s who ((gO n i : Nat) + K))).2] := fun p j K t hp hj hK ht => by
    have hg : (gB n i)[K]? = some ⟨i, p, j, t.x, t.w⟩ := by
      rw [hK, gB_at hm hp hj, gP_get ht]
    refine ⟨(List.getElem?_eq_some_iff.1 hg).1, ?_⟩
    rw [hR, hR, sayN_succ hg]
    rfl
  rw [hRe]
  clear hRe
  clear hR
  generalize hO : gS n i = O at *
  generalize hF : gO n i = F at *
  refine z_go ?_
  refine Sym.loop (fun k s' => ∃ p : Nat, p ≤ O ∧ k = O - p ∧ s' = ⟨[(10, true, .p (.i p)), (9, true, .p (.i O)), (4, true, .p (.i ((p * m : Nat) : Int))), (2, true, .ptr 2 0), (1, true, .clo (.func 124) [] [.p (.ref [V.list encU xs]), .p (.ref [V.list encU ws]), .ptr 0 0])], [some (uCell 1 (R (p * m)).length), some (uRow (R (p * m))), some (prdBox n who s i F mny O)]⟩) O ⟨_, ⟨0, Nat.zero_le _, by simp, rfl⟩, ?_⟩ ?_
  · rw [Nat.zero_mul, hR0]
    exact z_wkt
  rintro k s' ⟨p, hp, rfl, rfl⟩
  refine z_go ?_
  apply Sym.cond
  · rfl
  · intro hlt
    simp only [decide_eq_true_eq] at hlt
    have hpO : p < O := by omega
    have hTl : (tmT n i p).length = m := hm.tl p (by omega)
    have hTp := hT p (by omega)
    have hle := hm.le
    have kt0 := fnTerms n i p
    have hst' := fun j K t => hstep p j K t hpO
    generalize tmT n i p = T at *
    have k1 := kt0; refine z_go ?_
    clear k1 kt0
    refine Sym.loop (fun k s' => ∃ j : Nat, j ≤ m ∧ k = m - j ∧ s' = ⟨[(21, true, .p (.i j)), (20, true, .p (.i m)), (19, true, .p (V.list encTm T)), (5, true, .p (.i p)), (10, true, .p (.i p)), (9, true, .p (.i O)), (4, true, .p (.i ((p * m + j : Nat) : Int))), (2, true, .ptr 2 0), (1, true, .clo (.func 124) [] [.p (.ref [V.list encU xs]), .p (.ref [V.list encU ws]), .ptr 0 0])], [some (uCell 1 (R (p * m + j)).length), some (uRow (R (p * m + j))), some (prdBox n who s i F mny O)]⟩) m ⟨_, ⟨0, Nat.zero_le _, by simp, rfl⟩, ?_⟩ ?_
    · rw [Nat.add_zero, ← hTl]
      exact z_wkt
    rintro k s' ⟨j, hj, rfl, rfl⟩
    obtain ⟨K, hK⟩ : ∃ K, K = p * m + j := ⟨_, rfl⟩
    have hK1 : p * m + (j + 1) = K + 1 := by omega
    rw [← hK]
    refine z_go ?_
    apply Sym.cond
    · rfl
    · intro hlt
      simp only [decide_eq_true_eq] at hlt
      obtain ⟨t, ht⟩ : ∃ t, T[j]? = some t := ⟨_, List.getElem?_eq_getElem (by omega)⟩
      obtain ⟨hKl, hst⟩ := hst' j K t (by omega) hK ht
      obtain ⟨hx, hw⟩ := hTp t (List.mem_of_getElem? ht)
      have kh := fnHalf s who (uw ((F : Int) + K))
      rw [show halfT s who (uw ((F : Int) + K)) = halfT s who ((F : Int) + K) by rw [uw_self (by omega)]] at kh
      have kc := fnSay1 xs ws t (halfT s who ((F : Int) + K)) K p (R K) hx hw (by have := hRl K (by omega); omega)
      rw [← hst] at kc
      refine z_go ?_
      (apply Sym.drawL 16 (by kernel_rfl) (by kernel_rfl))
      have k1 := kh; refine z_mt ?_
      ((with_reducible apply SymL.callM [0, 1] kc); exact z_ren; exact z_evf; (refine ⟨?_, ?_, trivial⟩ <;> first | exact rfl | (simp only [Box.ren, D.enc, D.renL_p]; exact rfl)); decide; exact rfl; exact rfl; exact z_wrB; exact z_dd; exact z_ren; (simp only [Hp.clean, D.clean, D.cleanL, D.cleanL_p, bne, Nat.reduceBEq, Bool.not_true, Bool.not_false, cond_true, cond_false]; exact z_ren); exact z_cln)
      refine z_go ?_
      refine ⟨_, ?_, _, ⟨j + 1, by omega, rfl, rfl⟩, ?_⟩
      · omega
      · rw [hK1]
        exact z_wkt
    · intro hge
      simp only [decide_eq_false_iff_not] at hge
      obtain rfl : j = m := by omega
      refine z_go ?_
      refine ⟨_, ?_, _, ⟨p + 1, by omega, rfl, rfl⟩, ?_⟩
      · omega
      · rw [show (p + 1) * j = K by rw [hK, Nat.add_mul, Nat.one_mul]]
        exact z_wkt
  · intro hge
    simp only [decide_eq_false_iff_not] at hge
    obtain rfl : p = O := by omega
    refine z_go ?_
    exact FinB.nxW [] z_wkt .nil
end Go.Proofs.YtfnbofkhgimkcaaGreat
