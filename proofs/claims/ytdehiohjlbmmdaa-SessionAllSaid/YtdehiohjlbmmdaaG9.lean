/- Sessions: the document's answer: Right, Same, and rows that are alike. -/
import Derived.Test.YtdehiohjlbmmdaaG6
set_option linter.unusedSimpArgs false
set_option linter.unusedVariables false
namespace Go.Proofs.Ytdehiohjlbmmdaa
open Go.RowKit Go.Sy
def rightA (l : Lk) : Bool := decide (l.mine < 1) || decide (l.mine > 281474976710656) || decide (l.peer < 0) || decide (l.peer > 281474976710656) || decide ((l.out.length : Int) > 1024) || decide (l.base < 0) || decide (l.base > 1073741824 - (l.out.length : Int)) || decide (l.inn < 0) || decide (l.inn > 1073741824)
def rightB (l : Lk) : Bool := l.peer != 0 || (!l.sure && (l.out.length : Int) == 0 && l.base == 0 && l.inn == 0)
def bodyBad (b : List UInt8) : Bool := decide ((b.length : Int) < 1) || decide ((b.length : Int) > 50)
def lkRight (l : Lk) : Bool := !rightA l && l.out.all (fun b => !bodyBad b) && rightB l
set_option maxHeartbeats 2000000 in
theorem fnRRight (l : Lk) (h : l.out.length ≤ 100000) : Fn1 Try.prog 26 [lkV l] (.b (lkRight l)) := by
  refine Fn1.of (rs := [.b (lkRight l)]) (res := [.tmp 2]) Try.call26 Try.func26 rfl Try.ntmps26 rfl (by simp) fun c hc => ?_
  refine z_go ?_
  apply Sym.cond
  · rfl
  · intro hA
    have hA : rightA l = true := hA
    rw [show lkRight l = false by simp [lkRight, hA]]
    refine z_go ?_
    with_reducible first | apply Fin.rt | apply Fin.nx
    exact .cons (.tmp rfl (.of (.of rfl))) .nil
  · intro hA
    have hA : rightA l = false := hA
    refine z_go ?_
    refine Sym.loop (fun k s => ∃ i : Nat, i ≤ l.out.length ∧ (l.out.take i).all (fun b => !bodyBad b) = true ∧ k = l.out.length - i ∧ s = ⟨[(3, true, .p (.i i)), (1, true, .ptr 0 0)], [some (lkBox l)]⟩) l.out.length ⟨_, ⟨0, Nat.zero_le _, rfl, by simp, rfl⟩, z_wkt⟩ ?_
    rintro k s ⟨i, hi, hall, rfl, rfl⟩
    refine z_go ?_
    apply Sym.cond
    · rfl
    · intro hlt
      simp only [decide_eq_true_eq] at hlt
      have hi' : i < l.out.length := by omega
      obtain ⟨el, hel⟩ : ∃ el, l.out[i]? = some el := ⟨_, List.getElem?_eq_getElem hi'⟩
      refine z_go ?_
      apply Sym.cond
      · rfl
      · intro hbad
        have hbad : bodyBad el = true := hbad
        rw [show lkRight l = false by
          have : l.out.all (fun b => !bodyBad b) = false := by
            rw [List.all_eq_false]
            exact ⟨el, List.mem_of_getElem? hel, by simp [hbad]⟩
          simp [lkRight, this]]
        refine z_go ?_
        with_reducible first | apply Fin.rt | apply Fin.nx
        exact .cons (.tmp rfl (.of (.of rfl))) .nil
      · intro hbad
        have hbad : bodyBad el = false := hbad
        refine z_go ?_
        refine ⟨_, ?_, _, ⟨i + 1, by omega, ?_, rfl, rfl⟩, z_wkt⟩
        · omega
        · rw [List.take_add_one, hel, List.all_append, hall]
          simp [hbad]
    · intro hge
      simp only [decide_eq_false_iff_not] at hge
      obtain rfl : i = l.out.length := by omega
      rw [List.take_length] at hall
      rw [show lkRight l = rightB l by simp [lkRight, hA, hall]]
      refine z_go ?_
      with_reducible first | apply Fin.rt | apply Fin.nx
      exact .cons (.tmp rfl (.of (.of (show D.toV _ = _ by
        simp only [D.toV, Option.some.injEq, V.x.injEq, Value.bool.injEq, rightB])))) .nil
/-- rows that are alike -/
theorem fnSameRows (a b : List (List UInt8)) (ha : a.length ≤ 100000) : Fn1 Try.prog 32 [V.list encB a, V.list encB b] (.b (a == b)) := by
  refine Fn1.of (rs := [.b (a == b)]) (res := [.tmp 4]) Try.call32 Try.func32 rfl Try.ntmps32 rfl (by simp) fun c hc => ?_
  refine z_go ?_
  apply Sym.cond
  · rfl
  · intro hne
    have hne : a.length ≠ b.length := by simp at hne; omega
    rw [show (a == b) = false by rw [beq_eq_false_iff_ne]; rintro rfl; exact hne rfl]
    refine z_go ?_
    with_reducible first | apply Fin.rt | apply Fin.nx
    exact .cons (.tmp rfl (.of (.of rfl))) .nil
  · intro hne
    have hne : a.length = b.length := by simp at hne; omega
    refine z_go ?_
    refine Sym.loop (fun k s => ∃ i : Nat, i ≤ a.length ∧ a.take i = b.take i ∧ k = a.length - i ∧ s = ⟨[(5, true, .p (.i i)), (0, true, .p (V.list encB a)), (1, true, .p (V.list encB b))], []⟩) a.length ⟨_, ⟨0, Nat.zero_le _, rfl, by simp, rfl⟩, z_wkt⟩ ?_
    rintro k s ⟨i, hi, hall, rfl, rfl⟩
    refine z_go ?_
    apply Sym.cond
    · rfl
    · intro hlt
      simp only [decide_eq_true_eq] at hlt
      have hi' : i < a.length := by omega
      obtain ⟨el, hel⟩ : ∃ el, a[i]? = some el := ⟨_, List.getElem?_eq_getElem hi'⟩
      obtain ⟨em, hem⟩ : ∃ em, b[i]? = some em := ⟨_, List.getElem?_eq_getElem (by omega)⟩
      refine z_go ?_
      apply Sym.cond
      · rfl
      · intro hs
        have hs : el ≠ em := by rintro rfl; simp at hs
        rw [show (a == b) = false by rw [beq_eq_false_iff_ne]; rintro rfl; exact hs (Option.some.inj (hel.symm.trans hem))]
        refine z_go ?_
        with_reducible first | apply Fin.rt | apply Fin.nx
        exact .cons (.tmp rfl (.of (.of rfl))) .nil
      · intro hs
        have hs : el = em := by
          have : (strB el).toList = (strB em).toList := by simpa using hs
          rwa [strB_toList, strB_toList] at this
        refine z_go ?_
        refine ⟨_, ?_, _, ⟨i + 1, by omega, ?_, rfl, rfl⟩, z_wkt⟩
        · omega
        · rw [List.take_add_one, List.take_add_one, hel, hem, hall, hs]
    · intro hge
      simp only [decide_eq_false_iff_not] at hge
      obtain rfl : i = a.length := by omega
      rw [List.take_length, hne, List.take_length] at hall
      rw [show (a == b) = true by rw [hall]; simp]
      refine z_go ?_
      with_reducible first | apply Fin.rt | apply Fin.nx
      exact .cons (.tmp rfl (.of (.of rfl))) .nil
def lkSame (a b : Lk) : Bool := !(a.mine != b.mine || a.peer != b.peer || a.sure != b.sure || a.base != b.base || a.inn != b.inn || (a.out.length : Int) != (b.out.length : Int)) && a.out == b.out
theorem fnRSame (a b : Lk) (ha : a.out.length ≤ 100000) : Fn1 Try.prog 31 [lkV a, lkV b] (.b (lkSame a b)) := by
  refine Fn1.of (rs := [.b (lkSame a b)]) (res := [.tmp 4]) Try.call31 Try.func31 rfl Try.ntmps31 rfl (by simp) fun c hc => ?_
  refine z_go ?_
  apply Sym.cond
  · rfl
  · intro hne
    have hne : (a.mine != b.mine || a.peer != b.peer || a.sure != b.sure || a.base != b.base || a.inn != b.inn || (a.out.length : Int) != (b.out.length : Int)) = true := hne
    rw [show lkSame a b = false by rw [lkSame, hne]; rfl]
    refine z_go ?_
    with_reducible first | apply Fin.rt | apply Fin.nx
    exact .cons (.tmp rfl (.of (.of rfl))) .nil
  · intro hne
    have hne : (a.mine != b.mine || a.peer != b.peer || a.sure != b.sure || a.base != b.base || a.inn != b.inn || (a.out.length : Int) != (b.out.length : Int)) = false := hne
    rw [show lkSame a b = (a.out == b.out) by rw [lkSame, hne]; rfl]
    simp only [Bool.or_eq_false_iff] at hne
    have hne : a.out.length = b.out.length := by have := hne.2; simp at this; omega
    refine z_go ?_
    refine Sym.loop (fun k s => ∃ i : Nat, i ≤ a.out.length ∧ a.out.take i = b.out.take i ∧ k = a.out.length - i ∧ s = ⟨[(5, true, .p (.i i)), (2, true, .ptr 0 0), (3, true, .ptr 1 0)], [some (lkBox a), some (lkBox b)]⟩) a.out.length ⟨_, ⟨0, Nat.zero_le _, rfl, by simp, rfl⟩, z_wkt⟩ ?_
    rintro k s ⟨i, hi, hall, rfl, rfl⟩
    refine z_go ?_
    apply Sym.cond
    · rfl
    · intro hlt
      simp only [decide_eq_true_eq] at hlt
      have hi' : i < a.out.length := by omega
      obtain ⟨el, hel⟩ : ∃ el, a.out[i]? = some el := ⟨_, List.getElem?_eq_getElem hi'⟩
      obtain ⟨em, hem⟩ : ∃ em, b.out[i]? = some em := ⟨_, List.getElem?_eq_getElem (by omega)⟩
      refine z_go ?_
      apply Sym.cond
      · rfl
      · intro hs
        have hs : el ≠ em := by rintro rfl; simp at hs
        rw [show (a.out == b.out) = false by rw [beq_eq_false_iff_ne]; intro h; rw [h] at hel; exact hs (Option.some.inj (hel.symm.trans hem))]
        refine z_go ?_
        with_reducible first | apply Fin.rt | apply Fin.nx
        exact .cons (.tmp rfl (.of (.of rfl))) .nil
      · intro hs
        have hs : el = em := by
          have : (strB el).toList = (strB em).toList := by simpa using hs
          rwa [strB_toList, strB_toList] at this
        refine z_go ?_
        refine ⟨_, ?_, _, ⟨i + 1, by omega, ?_, rfl, rfl⟩, z_wkt⟩
        · omega
        · rw [List.take_add_one, List.take_add_one, hel, hem, hall, hs]
    · intro hge
      simp only [decide_eq_false_iff_not] at hge
      obtain rfl : i = a.out.length := by omega
      rw [List.take_length, hne, List.take_length] at hall
      rw [show (a.out == b.out) = true by rw [hall]; simp]
      refine z_go ?_
      with_reducible first | apply Fin.rt | apply Fin.nx
      exact .cons (.tmp rfl (.of (.of rfl))) .nil
end Go.Proofs.Ytdehiohjlbmmdaa
