/- Forms: package descr's numbers and Form. -/
import Derived.Test.YtblabchnpkofgaaS2
set_option linter.unusedSimpArgs false
set_option linter.unusedVariables false
namespace Go.Proofs.Ytblabchnpkofgaa
open Go.RowKit Go.Sy
abbrev nilX : D := .p (.x (.slice none 0 0))
abbrev nil0 : D := .p (V.list (fun _ : Unit => [.i 0]) [])
abbrev strD (a : Array UInt8) : D := .p (.x (.string ⟨a⟩))
def nmWord (k : Int) : D := if k = 1 then strD #[99, 111, 110, 118] else if k = 2 then strD #[115, 113, 117, 97, 114, 101] else if k = 3 then strD #[112, 111, 111, 108] else if k = 4 then strD #[100, 101, 110, 115, 101] else strD #[]
def nmHas (z : D) (k : Int) : D := if k = 1 then .lit 3 [.ptr 0 1, .ptr 0 2, .ptr 0 3] else if k = 2 then z else if k = 3 then .lit 1 [.ptr 0 2] else if k = 4 then .lit 1 [.ptr 0 1] else z
def nmNot (z : D) (k : Int) : D := if k = 1 then z else if k = 2 then .lit 3 [.ptr 0 1, .ptr 0 2, .ptr 0 3] else if k = 3 then .lit 2 [.ptr 0 1, .ptr 0 3] else if k = 4 then .lit 2 [.ptr 0 2, .ptr 0 3] else z
theorem nil_le : DLe nilX nil0 := .v (.mk rfl z_vle)
theorem has_le (k : Int) : DLe (nmHas nilX k) (nmHas nil0 k) := by
  unfold nmHas
  repeat' split
  all_goals first | exact .refl _ | exact nil_le
theorem not_le (k : Int) : DLe (nmNot nilX k) (nmNot nil0 k) := by
  unfold nmNot
  repeat' split
  all_goals first | exact .refl _ | exact nil_le
theorem fnNumbers (x : Ly) : FnB Try.prog 93 [.agg [.ptr 0 0]] [some (lyBox x)] (.tup [nmWord x.kind, nmHas nil0 x.kind, nmNot nil0 x.kind]) [some (lyBox x), none] := by
  refine FnB.of (rs := [_, _, _]) (res := [.tmp 2, .tmp 3, .tmp 4]) Try.call93 Try.func93 rfl Try.ntmps93 rfl (by simp) rfl rfl fun c hro hc hdead => ?_
  refine z_go ?_
  apply Sym.cond
  · rfl
  · intro h
    have h : x.kind = 1 := by simpa using h
    refine z_go ?_
    refine FinB.rtW [(2, true, nmWord x.kind), (3, true, nmHas nilX x.kind), (4, true, nmNot nilX x.kind)] ?_ (.cons (.tmp rfl (.refl _)) (.cons (.tmp rfl (has_le _)) (.cons (.tmp rfl (not_le _)) .nil)))
    simp only [nmWord, nmHas, nmNot, h, if_true, if_false, reduceCtorEq, Int.reduceEq]
    exact z_wkt
  · intro h1
    have h1 : ¬ x.kind = 1 := by simpa using h1
    refine z_go ?_
    apply Sym.cond
    · rfl
    · intro h
      have h : x.kind = 2 := by simpa using h
      refine z_go ?_
      refine FinB.rtW [(2, true, nmWord x.kind), (3, true, nmHas nilX x.kind), (4, true, nmNot nilX x.kind)] ?_ (.cons (.tmp rfl (.refl _)) (.cons (.tmp rfl (has_le _)) (.cons (.tmp rfl (not_le _)) .nil)))
      simp only [nmWord, nmHas, nmNot, h, if_true, if_false, reduceCtorEq, Int.reduceEq]
      exact z_wkt
    · intro h2
      have h2 : ¬ x.kind = 2 := by simpa using h2
      refine z_go ?_
      apply Sym.cond
      · rfl
      · intro h
        have h : x.kind = 3 := by simpa using h
        refine z_go ?_
        refine FinB.rtW [(2, true, nmWord x.kind), (3, true, nmHas nilX x.kind), (4, true, nmNot nilX x.kind)] ?_ (.cons (.tmp rfl (.refl _)) (.cons (.tmp rfl (has_le _)) (.cons (.tmp rfl (not_le _)) .nil)))
        simp only [nmWord, nmHas, nmNot, h, if_true, if_false, reduceCtorEq, Int.reduceEq]
        exact z_wkt
      · intro h3
        have h3 : ¬ x.kind = 3 := by simpa using h3
        refine z_go ?_
        apply Sym.cond
        · rfl
        · intro h
          have h : x.kind = 4 := by simpa using h
          refine z_go ?_
          refine FinB.rtW [(2, true, nmWord x.kind), (3, true, nmHas nilX x.kind), (4, true, nmNot nilX x.kind)] ?_ (.cons (.tmp rfl (.refl _)) (.cons (.tmp rfl (has_le _)) (.cons (.tmp rfl (not_le _)) .nil)))
          simp only [nmWord, nmHas, nmNot, h, if_true, if_false, reduceCtorEq, Int.reduceEq]
          exact z_wkt
        · intro h4
          have h4 : ¬ x.kind = 4 := by simpa using h4
          refine z_go ?_
          refine FinB.rtW [(2, true, nmWord x.kind), (3, true, nmHas nilX x.kind), (4, true, nmNot nilX x.kind)] ?_ (.cons (.tmp rfl (.refl _)) (.cons (.tmp rfl (has_le _)) (.cons (.tmp rfl (not_le _)) .nil)))
          simp only [nmWord, nmHas, nmNot, h1, h2, h3, h4, if_true, if_false, reduceCtorEq, Int.reduceEq]
          exact z_wkt
theorem ntForm_h {n : Nt} {b : Bool} (h : (decide ((n.ls.length : Int) > 8) || !([(0, n.inp.c), (1, n.inp.h), (2, n.inp.w)].all fun p : Nat × Int => inN p.2 999999)) = b) : if b = true then ntForm n = false else ntForm n = n.ls.all lyForm ∧ n.ls.length ≤ 8 := by
  subst h
  simp only [List.all_cons, List.all_nil, Bool.and_true]
  unfold ntForm
  cases inN n.inp.c 999999 <;> cases inN n.inp.h 999999 <;> cases inN n.inp.w 999999 <;> by_cases h : (n.ls.length : Int) > 8 <;> simp [h] <;> omega
theorem fnNum1 {x : Ly} (h : x.kind = 1) : FnB Try.prog 93 [.agg [.ptr 0 0]] [some (lyBox x)] (.tup [strD #[99, 111, 110, 118], .lit 3 [.ptr 0 1, .ptr 0 2, .ptr 0 3], nil0]) [some (lyBox x), none] := by
  have := fnNumbers x
  simpa only [nmWord, nmHas, nmNot, h, if_true, if_false, reduceCtorEq, Int.reduceEq] using this
theorem fnNum2 {x : Ly} (h : x.kind = 2) : FnB Try.prog 93 [.agg [.ptr 0 0]] [some (lyBox x)] (.tup [strD #[115, 113, 117, 97, 114, 101], nil0, .lit 3 [.ptr 0 1, .ptr 0 2, .ptr 0 3]]) [some (lyBox x), none] := by
  have := fnNumbers x
  simpa only [nmWord, nmHas, nmNot, h, if_true, if_false, reduceCtorEq, Int.reduceEq] using this
theorem fnNum3 {x : Ly} (h : x.kind = 3) : FnB Try.prog 93 [.agg [.ptr 0 0]] [some (lyBox x)] (.tup [strD #[112, 111, 111, 108], .lit 1 [.ptr 0 2], .lit 2 [.ptr 0 1, .ptr 0 3]]) [some (lyBox x), none] := by
  have := fnNumbers x
  simpa only [nmWord, nmHas, nmNot, h, if_true, if_false, reduceCtorEq, Int.reduceEq] using this
theorem fnNum4 {x : Ly} (h : x.kind = 4) : FnB Try.prog 93 [.agg [.ptr 0 0]] [some (lyBox x)] (.tup [strD #[100, 101, 110, 115, 101], .lit 1 [.ptr 0 1], .lit 2 [.ptr 0 2, .ptr 0 3]]) [some (lyBox x), none] := by
  have := fnNumbers x
  simpa only [nmWord, nmHas, nmNot, h, if_true, if_false, reduceCtorEq, Int.reduceEq] using this
theorem fnNum0 {x : Ly} (h : x.kind ≠ 1 ∧ x.kind ≠ 2 ∧ x.kind ≠ 3 ∧ x.kind ≠ 4) : FnB Try.prog 93 [.agg [.ptr 0 0]] [some (lyBox x)] (.tup [strD #[], nil0, nil0]) [some (lyBox x), none] := by
  have := fnNumbers x
  simpa only [nmWord, nmHas, nmNot, h, if_true, if_false, reduceCtorEq, Int.reduceEq] using this
abbrev dW (x : Ly) (most : Int) (ps : List (Nat × Int)) (h : ∀ p ∈ ps, ([V.i x.kind, .i x.out, .i x.size, .i x.step])[p.1]? = some (.i p.2)) (hl : ps.length ≤ 100) := fnDWithin most [V.i x.kind, .i x.out, .i x.size, .i x.step] 40 ps h hl
theorem inN0 (v : Int) : inN v 0 = (v == 0) := by
  rw [Bool.eq_iff_iff]
  simp [inN]
  omega
theorem lyF1 {x : Ly} {b p : Bool} (h : x.kind = 1) (hb : ((p || !([(1, x.out), (2, x.size), (3, x.step)].all fun p : Nat × Int => inN p.2 999999)) || !true) = b) (hp : p = false) : lyForm x = !b := by
  subst hb hp
  simp only [lyForm, h, List.all_cons, List.all_nil, if_true, Bool.and_true, Bool.false_or, Bool.not_true, Bool.or_false, Bool.not_not, Bool.and_assoc]
theorem lyF2 {x : Ly} {b p : Bool} (h : x.kind = 2) (hb : ((p || !true) || !([(1, x.out), (2, x.size), (3, x.step)].all fun p : Nat × Int => inN p.2 0)) = b) (hp : p = false) : lyForm x = !b := by
  subst hb hp
  simp only [lyForm, h, inN0, List.all_cons, List.all_nil, if_true, if_false, Int.reduceEq, Bool.and_true, Bool.false_or, Bool.not_true, Bool.or_false, Bool.not_not, Bool.and_assoc]
theorem lyF3 {x : Ly} {b p : Bool} (h : x.kind = 3) (hb : ((p || !([(2, x.size)].all fun p : Nat × Int => inN p.2 999999)) || !([(1, x.out), (3, x.step)].all fun p : Nat × Int => inN p.2 0)) = b) (hp : p = false) : lyForm x = !b := by
  subst hb hp
  simp only [List.all_cons, List.all_nil, inN0, lyForm, h, if_true, if_false, Int.reduceEq]
  generalize inN x.size 999999 = a
  cases x.out == 0 <;> cases a <;> cases x.step == 0 <;> rfl
theorem lyF4 {x : Ly} {b p : Bool} (h : x.kind = 4) (hb : ((p || !([(1, x.out)].all fun p : Nat × Int => inN p.2 999999)) || !([(2, x.size), (3, x.step)].all fun p : Nat × Int => inN p.2 0)) = b) (hp : p = false) : lyForm x = !b := by
  subst hb hp
  simp only [List.all_cons, List.all_nil, inN0, lyForm, h, if_true, if_false, Int.reduceEq]
  generalize inN x.out 999999 = a
  cases x.size == 0 <;> cases a <;> cases x.step == 0 <;> rfl
set_option maxHeartbeats 2000000 in
theorem fnDForm (n : Nt) : Fn1 Try.prog 82 [ntV n] (.b (ntForm n)) := by
  refine Fn1.of (rs := [.b (ntForm n)]) (res := [.tmp 2]) Try.call82 Try.func82 rfl Try.ntmps82 rfl (by simp) fun c hc => ?_
  have g1 := fun (h : decide ((n.ls.length : Int) > 8) = false) => (fnDWithin 999999 [.i n.inp.c, .i n.inp.h, .i n.inp.w, V.list encLy n.ls] 26 [(0, n.inp.c), (1, n.inp.h), (2, n.inp.w)] (by simp) (by simp)).at [0]; refine z_go ?_
  apply Sym.cond
  · rfl
  · intro h
    rw [show ntForm n = false from ntForm_h h]
    refine z_go ?_
    with_reducible first | apply Fin.rt | apply Fin.nx
    exact (.cons (.tmp rfl (.of (.of rfl))) .nil)
  · intro h
    obtain ⟨hf, hl⟩ : ntForm n = n.ls.all lyForm ∧ n.ls.length ≤ 8 := ntForm_h h
    clear h
    refine z_go ?_
    refine Sym.loop (fun k s => ∃ i : Nat, i ≤ n.ls.length ∧ (n.ls.take i).all lyForm = true ∧ k = n.ls.length - i ∧ s = ⟨[(27, true, .p (.i i)), (26, true, .p (.i n.ls.length)), (25, true, .p (V.list encLy n.ls)), (1, true, .ptr 0 0)], [some (ntBox n)]⟩) n.ls.length ⟨_, ⟨0, Nat.zero_le _, rfl, by simp, rfl⟩, z_wkt⟩ ?_
    rintro k s ⟨i, hi, hall, rfl, rfl⟩
    refine z_go ?_
    apply Sym.cond
    · rfl
    · intro hlt
      simp only [decide_eq_true_eq] at hlt
      obtain ⟨el, hel⟩ : ∃ el, n.ls[i]? = some el := ⟨_, List.getElem?_eq_getElem (by omega)⟩
      by_cases h1 : el.kind = 1
      · have k1 := ((fnNum1 h1)).at [1]; have k2 := ((dW el 999999 [(1, el.out), (2, el.size), (3, el.step)] (by simp) (by simp))).at [1]; have k3 := fnDWithin0 0; refine z_go ?_
        apply Sym.cond
        · rfl
        · intro hb
          rw [show ntForm n = false by
            rw [hf, List.all_eq_false]
            exact ⟨el, List.mem_of_getElem? hel, by simpa using lyF1 h1 hb (by kernel_rfl)⟩]
          refine z_go ?_
          with_reducible first | apply Fin.rt | apply Fin.nx
          exact (.cons (.tmp rfl (.of (.of rfl))) .nil)
        · intro hb
          refine z_go ?_
          refine ⟨_, ?_, _, ⟨i + 1, by omega, ?_, rfl, rfl⟩, z_wkt⟩
          · omega
          · rw [List.take_add_one, hel, List.all_append, hall]
            simpa using lyF1 h1 hb (by kernel_rfl)
      by_cases h2 : el.kind = 2
      · have k1 := ((fnNum2 h2)).at [1]; have k2 := ((dW el 0 [(1, el.out), (2, el.size), (3, el.step)] (by simp) (by simp))).at [1]; have k3 := fnDWithin0 999999; refine z_go ?_
        apply Sym.cond
        · rfl
        · intro hb
          rw [show ntForm n = false by
            rw [hf, List.all_eq_false]
            exact ⟨el, List.mem_of_getElem? hel, by simpa using lyF2 h2 hb (by kernel_rfl)⟩]
          refine z_go ?_
          with_reducible first | apply Fin.rt | apply Fin.nx
          exact (.cons (.tmp rfl (.of (.of rfl))) .nil)
        · intro hb
          refine z_go ?_
          refine ⟨_, ?_, _, ⟨i + 1, by omega, ?_, rfl, rfl⟩, z_wkt⟩
          · omega
          · rw [List.take_add_one, hel, List.all_append, hall]
            simpa using lyF2 h2 hb (by kernel_rfl)
      by_cases h3 : el.kind = 3
      · have k1 := ((fnNum3 h3)).at [1]; have k2 := ((dW el 999999 [(2, el.size)] (by simp) (by simp))).at [1]; have k3 := ((dW el 0 [(1, el.out), (3, el.step)] (by simp) (by simp))).at [1]; refine z_go ?_
        apply Sym.cond
        · rfl
        · intro hb
          rw [show ntForm n = false by
            rw [hf, List.all_eq_false]
            exact ⟨el, List.mem_of_getElem? hel, by simpa using lyF3 h3 hb (by kernel_rfl)⟩]
          refine z_go ?_
          with_reducible first | apply Fin.rt | apply Fin.nx
          exact (.cons (.tmp rfl (.of (.of rfl))) .nil)
        · intro hb
          refine z_go ?_
          refine ⟨_, ?_, _, ⟨i + 1, by omega, ?_, rfl, rfl⟩, z_wkt⟩
          · omega
          · rw [List.take_add_one, hel, List.all_append, hall]
            simpa using lyF3 h3 hb (by kernel_rfl)
      by_cases h4 : el.kind = 4
      · have k1 := ((fnNum4 h4)).at [1]; have k2 := ((dW el 999999 [(1, el.out)] (by simp) (by simp))).at [1]; have k3 := ((dW el 0 [(2, el.size), (3, el.step)] (by simp) (by simp))).at [1]; refine z_go ?_
        apply Sym.cond
        · rfl
        · intro hb
          rw [show ntForm n = false by
            rw [hf, List.all_eq_false]
            exact ⟨el, List.mem_of_getElem? hel, by simpa using lyF4 h4 hb (by kernel_rfl)⟩]
          refine z_go ?_
          with_reducible first | apply Fin.rt | apply Fin.nx
          exact (.cons (.tmp rfl (.of (.of rfl))) .nil)
        · intro hb
          refine z_go ?_
          refine ⟨_, ?_, _, ⟨i + 1, by omega, ?_, rfl, rfl⟩, z_wkt⟩
          · omega
          · rw [List.take_add_one, hel, List.all_append, hall]
            simpa using lyF4 h4 hb (by kernel_rfl)
      · have k1 := ((fnNum0 ⟨h1, h2, h3, h4⟩)).at [1]; have k2 := fnDWithin0 0; have k3 := fnDWithin0 999999; refine z_go ?_
        apply Sym.condT
        · kernel_rfl
        rw [show ntForm n = false by
          rw [hf, List.all_eq_false]
          exact ⟨el, List.mem_of_getElem? hel, by simp [lyForm, h1, h2, h3, h4]⟩]
        refine z_go ?_
        with_reducible first | apply Fin.rt | apply Fin.nx
        exact (.cons (.tmp rfl (.of (.of rfl))) .nil)
    · intro hge
      simp only [decide_eq_false_iff_not] at hge
      obtain rfl : i = n.ls.length := by omega
      rw [List.take_length] at hall
      rw [hf, hall]
      refine z_go ?_
      with_reducible first | apply Fin.rt | apply Fin.nx
      exact (.cons (.tmp rfl (.of (.of rfl))) .nil)
end Go.Proofs.Ytblabchnpkofgaa
