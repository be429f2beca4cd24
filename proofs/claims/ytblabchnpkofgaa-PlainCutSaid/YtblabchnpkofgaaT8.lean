/- Layer 6's laws: their head; the law TermsTells. -/
import Derived.Test.YtblabchnpkofgaaTB
import Derived.Test.YtblabchnpkofgaaTp
set_option linter.unusedSimpArgs false
set_option linter.unusedVariables false
namespace Go.Proofs.Ytblabchnpkofgaa
open Go.RowKit Go.Sy
def hdT1 : List Tm := [⟨0, 9⟩, ⟨1, 10⟩, ⟨2, 11⟩, ⟨4, 12⟩, ⟨5, 13⟩, ⟨6, 14⟩, ⟨8, 15⟩, ⟨9, 16⟩, ⟨10, 17⟩]
def hdT2 : List Tm := [⟨5, -1⟩]
def hdT3 : List Tm := [⟨0, 22⟩, ⟨1, 23⟩]
def hdT4 : List Int := [4, 5, 6, 7]
theorem head6_vals : tmT small 0 4 = hdT1 ∧ tmT small 1 5 = hdT2 ∧ tmT small 3 2 = hdT3 ∧ ptT small 2 1 = hdT4 ∧ tmT small 2 0 = [] ∧ ptT small 1 0 = [] ∧ tmT small 0 8 = [] := by
  decide +kernel
set_option maxHeartbeats 2000000 in
theorem fnHead6 : Fn1 Try.prog 40 [] (.b true) := by
  refine Fn1.of (rs := [.b true]) (res := [.tmp 0]) Try.call40 Try.func40 rfl Try.ntmps40 rfl (by simp) fun c hc => ?_
  obtain ⟨e1, e2, e3, e4, e5, e6, e7⟩ := head6_vals
  have q1 := fnTerms small 0 4
  have q2 := fnTerms small 1 5
  have q3 := fnTerms small 3 2
  have q4 := fnParts small 2 1
  have q5 := fnTerms small 2 0
  have q6 := fnParts small 1 0
  have q7 := fnTerms small 0 8
  have q8 := fnRSameT hdT2 hdT2 (by decide)
  have q9 := fnRSameT hdT3 hdT3 (by decide)
  have q10 := fnRSameI hdT4 hdT4 (by decide)
  rw [e1] at q1
  rw [e2] at q2
  rw [e3] at q3
  rw [e4] at q4
  rw [e5] at q5
  rw [e6] at q6
  rw [e7] at q7
  have k1 := fnSmall; have k2 := q1; have k3 := q2; have k4 := q3; have k5 := q4; refine z_go ?_
  apply Sym.cond
  · rfl
  · intro h
    exact absurd h (by decide)
  · intro _
    have k1 := q5; have k2 := q6; have k3 := q7; have k4 := q8; have k5 := q9; have k6 := q10; refine z_go ?_
    with_reducible first | apply Fin.rt | apply Fin.nx
    refine .cons (.tmp rfl (.of (.of ?_))) .nil
    kernel_rfl
theorem tmT_len (n : Nt) (i p : Int) : (tmT n i p).length ≤ 2000 := by
  unfold tmT
  split
  · rename_i hok
    obtain ⟨j, el, cur, rfl, hE, hel, g1, g2, g3, g4, g5, g6, g7, g8⟩ := tOk_at hok
    rw [Int.toNat_natCast, g5]
    simp only
    obtain ⟨m, hm, _, _, h⟩ := tm_facts g2 g3 g4 (ckW n j).1
    by_cases hp : 0 ≤ p ∧ p < shSize (outOf cur el).1
    · obtain ⟨f, hf⟩ := h p hp.1 hp.2
      rw [hf.eq]
      simp
      omega
    · rw [show tmX (lxOf cur el) (ckW n j).1 p = [] from if_neg hp]
      simp
  · simp
theorem ptT_len (n : Nt) (i p : Int) : (ptT n i p).length ≤ 2000 := by
  unfold ptT
  split
  · rename_i hok
    obtain ⟨j, el, cur, rfl, hE, hel, g1, g2, g3, g4, g5, g6, g7, g8⟩ := tOk_at hok
    rw [Int.toNat_natCast, g5]
    simp only
    unfold ptX
    simp only
    split
    · rename_i hk
      split
      · have hb : shPool cur el.size = ((outOf cur el).1, true) := by
          rw [fits3 hk] at g3 ⊢
          rw [← g3]
        obtain ⟨p1, p2, p3, p4, p5⟩ := pool_fit g2 hb
        have hzz : el.size.toNat * el.size.toNat ≤ 12 * 12 := Nat.mul_le_mul (by omega) (by omega)
        simp
        omega
      · simp
    · simp
  · simp
set_option maxHeartbeats 2000000 in
theorem TermsTells_fn (n : Nt) (i p : Int) : Fn1 Try.prog 9 [ntV n, .i i, .i p] (.b true) := by
  refine Fn1.of (rs := [.b true]) (res := [.tmp 6]) Try.call9 Try.func9 rfl Try.ntmps9 rfl (by simp) fun c hc => ?_
  have l1 := tmT_len n i p
  have l2 := ptT_len n i p
  have k1 := fnHead6; have k2 := fnGreat4 n; refine z_go ?_
  apply Sym.cond
  · rfl
  · intro _
    refine z_go ?_
    with_reducible first | apply Fin.rt | apply Fin.nx
    exact (.cons (.tmp rfl (.of (.of rfl))) .nil)
  · intro _
    have k1 := fnTerms n i p; have k2 := fnRTerms n i p; have k3 := fnParts n i p; have k4 := fnRParts n i p; have k5 := fnRSameT (tmT n i p) (tmT n i p) (by omega); have k6 := fnRSameI (ptT n i p) (ptT n i p) (by omega); refine z_go ?_
    with_reducible first | apply Fin.rt | apply Fin.nx
    refine .cons (.tmp rfl (.of (.of ?_))) .nil
    simp [D.toV]
end Go.Proofs.Ytblabchnpkofgaa
