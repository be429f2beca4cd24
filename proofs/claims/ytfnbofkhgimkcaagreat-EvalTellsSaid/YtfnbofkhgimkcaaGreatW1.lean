/- Layer 13: numbers of a seed's, triples, openings and products in parts: what each function computes. -/
import Derived.Test.YtfnbofkhgimkcaaGreatWp
import Derived.Test.YtfnbofkhgimkcaaGreatEa
set_option linter.unusedSimpArgs false
set_option linter.unusedVariables false
namespace Go.Proofs.YtfnbofkhgimkcaaGreat
open Go.RowKit Go.Sy
theorem fnFold (z b : Int) (m : Nat) (hm : b = m) (h64 : m ≤ 63) : Fn1 Tryz.prog 131 [uV z, .i b, .i 1] (uV (sf z m)) := by
  refine Fn1.of (rs := [uV _]) (res := [.tmp 6]) Tryz.call131 Tryz.func131 rfl Tryz.ntmps131 rfl (by simp) fun c hc => ?_
  refine z_go ?_
  refine Sym.loop (fun k s => ∃ j : Nat, j ≤ 1 ∧ k = 1 - j ∧ s = ⟨[(10, true, .p (.i j)), (9, true, .p (.i 1)), (7, true, .p (uV (if j = 0 then z else sf z m))), (1, true, .p (.i b)), (0, true, .p (uV z))], []⟩) 1 ⟨_, ⟨0, Nat.zero_le _, by simp, rfl⟩, z_wkt⟩ ?_
  rintro k s ⟨j, hj, rfl, rfl⟩
  refine z_go ?_
  apply Sym.cond
  · rfl
  · intro hlt
    simp only [decide_eq_true_eq] at hlt
    obtain rfl : j = 0 := by omega
    refine z_go ?_
    (with_reducible apply SymL.opr); exact z_gd; ((with_reducible apply MOp.shr); exact z_ev; exact z_ev; omega); exact rfl
    (with_reducible apply SymL.opr); exact z_gd; ((with_reducible apply MOp.bits_ (.inr (.inr (.inl rfl)))); exact z_ev; exact z_ev); exact rfl
    refine z_go ?_
    refine ⟨_, ?_, _, ⟨1, by omega, rfl, rfl⟩, ?_⟩
    · omega
    · have e : sf z m = bits .xor .u64 z (z.fdiv (2 ^ (min b.toNat IntKind.u64.bits))) := by
        subst hm
        rw [show min (m : Int).toNat IntKind.u64.bits = m by simp only [Int.toNat_natCast]; exact Nat.min_eq_left (by show m ≤ 64; omega)]
        rfl
      simp only [if_true, show (1 = 0) = False by simp, if_false, e]
      exact z_wkt
  · intro hge
    simp only [decide_eq_false_iff_not] at hge
    obtain rfl : j = 1 := by omega
    refine z_go ?_
    with_reducible first | apply Fin.rt | apply Fin.nx
    exact (.cons (.tmp rfl (.of (.of rfl))) .nil)
theorem fnNum (s i : Int) : Fn1 Tryz.prog 130 [uV s, uV i] (uV (numS s i)) := by
  refine Fn1.of (rs := [uV _]) (res := [.tmp 4]) Tryz.call130 Tryz.func130 rfl Tryz.ntmps130 rfl (by simp) fun c hc => ?_
  have k1 := fnFold (uw (s + uw (11400714819323198485 * uw (i + 1)))) 30 30 rfl (by omega); have k2 := fnFold (uw (13787848793156543929 * sf (uw (s + uw (11400714819323198485 * uw (i + 1)))) 30)) 27 27 rfl (by omega); have k3 := fnFold (uw (10723151780598845931 * sf (uw (13787848793156543929 * sf (uw (s + uw (11400714819323198485 * uw (i + 1)))) 30)) 27)) 31 31 rfl (by omega); refine z_go ?_
  with_reducible first | apply Fin.rt | apply Fin.nx
  exact (.cons (.tmp rfl (.of (.of rfl))) .nil)
abbrev trC (t : Tr) : List V := [uV t.a, uV t.b, uV t.c]
abbrev trV (t : Tr) : V := .agg (trC t)
abbrev opC (o : Int × Int) : List V := [uV o.1, uV o.2]
abbrev opV (o : Int × Int) : V := .agg (opC o)
theorem fnOf (x y : Int) (t : Tr) : Fn1 Tryz.prog 128 [trV t, uV x, uV y] (opV (opnT x y t)) := by
  refine Fn1.of (rs := [opV _]) (res := [.cell 6 62]) Tryz.call128 Tryz.func128 rfl Tryz.ntmps128 rfl (by simp) fun c hc => ?_
  refine z_go ?_
  with_reducible first | apply Fin.rt | apply Fin.nx
  exact .cons (.cellA inferInstance rfl rfl rfl (Nat.le_of_ble_eq_true rfl) (.of (.of rfl))) .nil
theorem fnOpen (x y : Int) (t : Tr) : Fn1 Tryz.prog 125 [uV x, uV y, trV t] (opV (opnT x y t)) := by
  refine Fn1.of (rs := [opV _]) (res := [.cell 6 62]) Tryz.call125 Tryz.func125 rfl Tryz.ntmps125 rfl (by simp) fun c hc => ?_
  have k1 := fnOf x y t; refine z_go ?_
  with_reducible first | apply Fin.rt | apply Fin.nx
  exact .cons (.cellA inferInstance rfl rfl rfl (Nat.le_of_ble_eq_true rfl) (.of (.of rfl))) .nil
theorem fnSumB (o p : Int × Int) : Fn1 Tryz.prog 122 [opV o, opV p] (opV (sumT o p)) := by
  refine Fn1.of (rs := [opV _]) (res := [.cell 4 62]) Tryz.call122 Tryz.func122 rfl Tryz.ntmps122 rfl (by simp) fun c hc => ?_
  refine z_go ?_
  with_reducible first | apply Fin.rt | apply Fin.nx
  exact .cons (.cellA inferInstance rfl rfl rfl (Nat.le_of_ble_eq_true rfl) (.of (.of rfl))) .nil
theorem fnPart (o : Int × Int) (t : Tr) : Fn1 Tryz.prog 127 [.agg (trC t ++ opC o)] (uV (prtT o t)) := by
  refine Fn1.of (rs := [uV _]) (res := [.tmp 2]) Tryz.call127 Tryz.func127 rfl Tryz.ntmps127 rfl (by simp) fun c hc => ?_
  refine z_go ?_
  with_reducible first | apply Fin.rt | apply Fin.nx
  exact (.cons (.tmp rfl (.of (.of rfl))) .nil)
theorem fnClose (who : Int) (o : Int × Int) (t : Tr) : Fn1 Tryz.prog 123 [.i who, opV o, trV t] (uV (clsT who o t)) := by
  refine Fn1.of (rs := [uV _]) (res := [.tmp 6]) Tryz.call123 Tryz.func123 rfl Tryz.ntmps123 rfl (by simp) fun c hc => ?_
  have k0 := fnPart o t
  simp only [List.cons_append, List.nil_append] at k0
  refine z_go ?_
  apply Sym.cond
  · rfl
  · intro h
    have h : ¬ who = 0 := by simpa using h
    have k1 := k0; refine z_go ?_
    with_reducible first | apply Fin.rt | apply Fin.nx
    rw [clsT, if_neg h]
    exact (.cons (.tmp rfl (.of (.of rfl))) .nil)
  · intro h
    have h : who = 0 := by simpa using h
    have k1 := k0; refine z_go ?_
    with_reducible first | apply Fin.rt | apply Fin.nx
    rw [clsT, if_pos h]
    exact (.cons (.tmp rfl (.of (.of rfl))) .nil)
theorem fnAdd1 (x y : Int) : Fn1 Tryz.prog 116 [uV x, uV y] (uV (uw (x + y))) := by
  refine Fn1.of (rs := [uV _]) (res := [.tmp 4]) Tryz.call116 Tryz.func116 rfl Tryz.ntmps116 rfl (by simp) fun c hc => ?_
  refine z_go ?_
  with_reducible first | apply Fin.rt | apply Fin.nx
  exact (.cons (.tmp rfl (.of (.of rfl))) .nil)
def mskC (s i : Int) (j : Nat) : List V := (List.range 5).map fun q => uV (if q < j then msk s i (q : Nat) else 0)
abbrev mskBox (s i : Int) (j : Nat) : Box := ⟨(mskC s i j).map D.p, 162, 0⟩
theorem fnMasks (s i : Int) : Fn1 Tryz.prog 129 [uV s, uV i] (.agg (mskC s i 5)) := by
  refine Fn1.of (rs := [.agg _]) (res := [.cell 4 162]) Tryz.call129 Tryz.func129 rfl Tryz.ntmps129 rfl (by simp) fun c hc => ?_
  have kn : ∀ j : Int, Fn1 Tryz.prog 130 [uV s, uV (uw (uw (5 * i) + uw j))] (uV (msk s i j)) := fun j => by
    have := fnNum s (uw (uw (5 * i) + uw j))
    have e : msk s i j = numS s (uw (uw (5 * i) + uw j)) := by
      unfold msk
      rw [← uw_add (uw (5 * i)) (uw j), uw_id, uw_id, ← uw_add (uw (5 * i)) j, uw_id]
    rw [e]
    exact this
  refine z_go ?_
  refine Sym.loop (fun k s' => ∃ j : Nat, j ≤ 5 ∧ k = 5 - j ∧ s' = ⟨[(7, true, .p (.i j)), (5, true, .ptr 1 0), (4, true, .ptr 0 0), (1, true, .p (uV i)), (0, true, .p (uV s))], [some (mskBox s i 0), some (mskBox s i j)]⟩) 5 ⟨_, ⟨0, Nat.zero_le _, by simp, rfl⟩, z_wkt⟩ ?_
  rintro k s' ⟨j, hj, rfl, rfl⟩
  refine z_go ?_
  apply Sym.cond
  · rfl
  · intro hlt
    simp only [decide_eq_true_eq] at hlt
    have k1 := kn j
    obtain rfl | rfl | rfl | rfl | rfl : j = 0 ∨ j = 1 ∨ j = 2 ∨ j = 3 ∨ j = 4 := by omega
    all_goals (
      refine z_go ?_
      refine ⟨_, ?_, _, ⟨_, Nat.succ_le_of_lt (Int.ofNat_lt.1 hlt), rfl, rfl⟩, z_wkt⟩
      omega)
  · intro hge
    simp only [decide_eq_false_iff_not] at hge
    obtain rfl : j = 5 := by omega
    refine z_go ?_
    with_reducible first | apply Fin.rt | apply Fin.nx
    exact .cons (.cellA inferInstance rfl rfl rfl (Nat.le_of_ble_eq_true rfl) (.of (.of rfl))) .nil
theorem fnHalf (s who i : Int) : Fn1 Tryz.prog 126 [uV s, .i who, uV i] (trV (halfT s who i)) := by
  refine Fn1.of (rs := [trV _]) (res := [.cell 6 65]) Tryz.call126 Tryz.func126 rfl Tryz.ntmps126 rfl (by simp) fun c hc => ?_
  have km := fnMasks s i
  have e : mskC s i 5 = [uV (msk s i 0), uV (msk s i 1), uV (msk s i 2), uV (msk s i 3), uV (msk s i 4)] := rfl
  rw [e] at km
  have k1 := km; refine z_go ?_
  apply Sym.cond
  · rfl
  · intro h
    have h : who = 0 := by simpa using h
    refine z_go ?_
    with_reducible first | apply Fin.rt | apply Fin.nx
    rw [halfT, if_pos h]
    exact .cons (.cellA inferInstance rfl rfl rfl (Nat.le_of_ble_eq_true rfl) (.of (.of rfl))) .nil
  · intro h
    have h : ¬ who = 0 := by simpa using h
    refine z_go ?_
    with_reducible first | apply Fin.rt | apply Fin.nx
    rw [halfT, if_neg h]
    exact .cons (.cellA inferInstance rfl rfl rfl (Nat.le_of_ble_eq_true rfl) (.of (.of rfl))) .nil
end Go.Proofs.YtfnbofkhgimkcaaGreat
