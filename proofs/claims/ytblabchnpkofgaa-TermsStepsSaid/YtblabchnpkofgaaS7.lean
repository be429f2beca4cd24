/- Package check: all that is known of a network. -/
import Derived.Test.YtblabchnpkofgaaS6
set_option linter.unusedSimpArgs false
set_option linter.unusedVariables false
namespace Go.Proofs.Ytblabchnpkofgaa
open Go.RowKit Go.Sy
def lastS (s : Sh) : List Lx → Sh
  | [] => s
  | x :: xs => lastS x.out xs
def chk (s : Sh) : List Ly → Option (List Lx)
  | [] => some []
  | l :: ls => if (outOf s l).2 then (chk (outOf s l).1 ls).map (lxOf s l :: ·) else none
theorem chk_snoc : ∀ (ls : List Ly) (s : Sh) (l : Ly), chk s (ls ++ [l]) = (chk s ls).bind fun xs => if (outOf (lastS s xs) l).2 then some (xs ++ [lxOf (lastS s xs) l]) else none
  | [], s, l => by
    by_cases h : (outOf s l).2 = true <;> simp [chk, lastS, h]
  | a :: ls, s, l => by
    by_cases h : (outOf s a).2 = true
    · simp only [List.cons_append, chk, if_pos h, chk_snoc ls]
      cases chk (outOf s a).1 ls with
      | none => rfl
      | some xs =>
        simp only [Option.bind_some, Option.map_some, lastS]
        by_cases h2 : (outOf (lastS (outOf s a).1 xs) l).2 = true <;> simp [h2]
    · simp [chk, h]
theorem chk_len : ∀ {ls : List Ly} {s : Sh} {xs : List Lx}, chk s ls = some xs → xs.length = ls.length
  | [], _, _, h => by
    simp only [chk, Option.some.injEq] at h
    subst h
    rfl
  | a :: ls, s, xs, h => by
    simp only [chk] at h
    split at h
    · simp only [Option.map_eq_some_iff] at h
      obtain ⟨ys, h1, rfl⟩ := h
      simp [chk_len h1]
    · cases h
theorem chk_none : ∀ {ls ms : List Ly} {s : Sh}, chk s ls = none → chk s (ls ++ ms) = none
  | [], _, _, h => by simp [chk] at h
  | a :: ls, ms, s, h => by
    simp only [List.cons_append, chk] at h ⊢
    split
    · rename_i h1
      rw [if_pos h1, Option.map_eq_none_iff] at h
      rw [chk_none h]
      rfl
    · rfl
def sumW (xs : List Lx) : Int := (xs.map (·.ws)).sum
def sumP (xs : List Lx) : Int := (xs.map (·.ps)).sum
theorem sumW_nil : sumW [] = 0 := rfl
theorem sumP_nil : sumP [] = 0 := rfl
theorem sumW_cons (x : Lx) (xs : List Lx) : sumW (x :: xs) = x.ws + sumW xs := by simp [sumW]
theorem sumP_cons (x : Lx) (xs : List Lx) : sumP (x :: xs) = x.ps + sumP xs := by simp [sumP]
theorem sumW_snoc (xs : List Lx) (x : Lx) : sumW (xs ++ [x]) = sumW xs + x.ws := by simp [sumW]
theorem sumP_snoc (xs : List Lx) (x : Lx) : sumP (xs ++ [x]) = sumP xs + x.ps := by simp [sumP]
def ckE (n : Nt) : Int :=
  if ntForm n then
    if shRight n.inp then
      match chk n.inp n.ls with
      | none => 21
      | some xs => if decide (sumW xs ≤ 512) && decide (sumP xs ≤ 512) then 0 else 5
    else 1
  else 12
def ckL (n : Nt) : List Lx := if ckE n = 0 then (chk n.inp n.ls).getD [] else []
theorem lyForm_kind {l : Ly} (h : lyForm l = true) : 1 ≤ l.kind ∧ l.kind ≤ 4 := by
  unfold lyForm at h
  split at h
  · omega
  split at h
  · omega
  split at h
  · omega
  split at h
  · omega
  · cases h
theorem shSized_t {s t : Sh} (h : (shSized s t).2 = true) : shRight t = true ∧ (shSized s t).1 = t := by
  unfold shSized at h ⊢
  split at h
  · rename_i h1
    rw [Bool.and_eq_true] at h1
    exact ⟨h1.2, by rw [if_pos (by simpa using h1)]⟩
  · cases h
theorem mulB {a b A B : Int} (h1 : 0 ≤ a ∧ a ≤ A) (h2 : 0 ≤ b ∧ b ≤ B) : 0 ≤ a * b ∧ a * b ≤ A * B :=
  ⟨Int.mul_nonneg h1.1 h2.1, Int.mul_le_mul h1.2 h2.2 h2.1 (by omega)⟩
theorem w64_in {a : Int} (h : 0 ≤ a ∧ a ≤ 9223372036854775807) : w64 a = a := wrap_in _ (by omega) (by omega)
theorem out_bounds {s : Sh} {l : Ly} (hs : shRight s = true) (hf : (outOf s l).2 = true) : shRight (outOf s l).1 = true ∧ (0 ≤ wOf s l ∧ wOf s l ≤ 9216) ∧ (0 ≤ pOf s (outOf s l).1 l ∧ pOf s (outOf s l).1 l ≤ 1327104) := by
  have hb := shRight_iff.1 hs
  have hm := shMul hs
  have hz : 0 ≤ shSize s ∧ shSize s ≤ 128 := by
    unfold shSize
    rw [if_pos hs]
    omega
  by_cases h1 : l.kind = 1
  · have e := fits1 (s := s) h1
    rw [e] at hf ⊢
    obtain ⟨h2, h3⟩ := shSized_t (s := s) (t := ⟨l.out, conv1 l.size l.step s.h, conv1 l.size l.step s.w⟩) hf
    have hb2 := shRight_iff.1 h2
    have hsz : 1 ≤ l.size ∧ l.size ≤ 12 := by
      by_cases hh : 1 ≤ l.size ∧ l.size ≤ s.h ∧ 1 ≤ l.step ∧ l.step ≤ 12
      · omega
      · have := conv1_0 (size := l.size) (step := l.step) (n := s.h) hh
        have h4 := hb2.2.1.1
        simp only at h4
        omega
    have hout : 1 ≤ l.out ∧ l.out ≤ 8 := hb2.1
    have m1 := mulB (a := l.out) (b := s.c) (A := 8) (B := 8) (by omega) (by omega)
    have m2 := mulB (a := l.out * s.c) (b := l.size) (A := 64) (B := 12) (by omega) (by omega)
    have m3 := mulB (a := l.out * s.c * l.size) (b := l.size) (A := 768) (B := 12) (by omega) (by omega)
    have ew : wOf s l = l.out * s.c * l.size * l.size := by
      simp only [wOf, h1, if_true]
      rw [w64_in (a := l.out * s.c) (by omega), w64_in (a := l.out * s.c * l.size) (by omega), w64_in (by omega)]
    have m4 := mulB (a := wOf s l) (b := (shConv s l.out l.size l.step).1.h) (A := 9216) (B := 12) (by omega) (by rw [shConv, h3]; have := hb2.2.1; omega)
    have m5 := mulB (a := wOf s l * (shConv s l.out l.size l.step).1.h) (b := (shConv s l.out l.size l.step).1.w) (A := 110592) (B := 12) (by omega) (by rw [shConv, h3]; have := hb2.2.2.1; omega)
    refine ⟨by rw [shConv, h3]; exact h2, by omega, ?_⟩
    simp only [pOf, h1, if_true]
    rw [w64_in (a := wOf s l * (shConv s l.out l.size l.step).1.h) (by omega), w64_in (by omega)]
    omega
  · by_cases h2 : l.kind = 2
    · have e := fits2 (s := s) h2
      rw [e]
      simp only [wOf, pOf, h2, if_true, if_false, Int.reduceEq]
      exact ⟨hs, by omega, by omega⟩
    · by_cases h3 : l.kind = 3
      · have e := fits3 (s := s) h3
        rw [e] at hf ⊢
        obtain ⟨h4, h5⟩ := shSized_t (s := s) (t := ⟨s.c, pool1 l.size s.h, pool1 l.size s.w⟩) hf
        simp only [wOf, pOf, h3, if_true, if_false, Int.reduceEq]
        refine ⟨by rw [shPool, h5]; exact h4, by omega, by omega⟩
      · have e : outOf s l = if decide (l.out < 1) || decide (l.out > 8) then (shZ, false) else (⟨l.out, 1, 1⟩, true) := by simp [outOf, h1, h2, h3]
        rw [e] at hf ⊢
        split at hf
        · cases hf
        · rename_i h4
          rw [if_neg h4]
          simp only [Bool.or_eq_true, decide_eq_true_eq] at h4
          have m1 := mulB (a := l.out) (b := shSize s) (A := 8) (B := 128) (by omega) (by omega)
          have hw : 0 ≤ wOf s l ∧ wOf s l ≤ 9216 := by
            unfold wOf
            rw [if_neg h1]
            split
            · rw [w64_in (by omega)]
              omega
            · omega
          refine ⟨shRight_iff.2 ⟨⟨by simp only; omega, by simp only; omega⟩, by simp, by simp, by simp only; omega⟩, hw, ?_⟩
          unfold pOf
          rw [if_neg h1, if_neg h2]
          split <;> omega
theorem lastS_snoc : ∀ (s : Sh) (xs : List Lx) (x : Lx), lastS s (xs ++ [x]) = x.out
  | _, [], _ => rfl
  | _, a :: xs, x => lastS_snoc a.out xs x
theorem chk_bounds : ∀ {ls : List Ly} {s : Sh} {xs : List Lx}, chk s ls = some xs → shRight s = true → shRight (lastS s xs) = true ∧ (0 ≤ sumW xs ∧ sumW xs ≤ 9216 * (xs.length : Int)) ∧ (0 ≤ sumP xs ∧ sumP xs ≤ 1327104 * (xs.length : Int))
  | [], s, xs, h, hs => by
    simp only [chk, Option.some.injEq] at h
    subst h
    exact ⟨hs, by simp [sumW_nil], by simp [sumP_nil]⟩
  | a :: ls, s, xs, h, hs => by
    simp only [chk] at h
    split at h
    · rename_i hf
      simp only [Option.map_eq_some_iff] at h
      obtain ⟨ys, h1, rfl⟩ := h
      obtain ⟨h2, h3, h4⟩ := out_bounds hs hf
      obtain ⟨h5, h6, h7⟩ := chk_bounds h1 h2
      refine ⟨h5, ?_, ?_⟩ <;> simp only [sumW_cons, sumP_cons, List.length_cons] <;> omega
    · cases h
theorem ntForm_all {n : Nt} (h : ntForm n = true) : n.ls.length ≤ 8 ∧ n.ls.all lyForm = true := by
  unfold ntForm at h
  simp only [Bool.and_eq_true, Bool.not_eq_true', decide_eq_false_iff_not] at h
  exact ⟨by omega, h.2⟩
theorem fnCkAll (n : Nt) : Fn1 Try.prog 60 [ntV n] (.tup [V.list encLx (ckL n), .i (ckE n)]) := by
  refine Fn1.ofD (rs := [V.list encLx (ckL n), .i (ckE n)]) (res := [.cell 2 81, .cell 3 30]) (g := 80) (ds := [.ptr 1 0, .ptr 2 0]) (s0 := ⟨[(3, true, .ptr 2 0), (2, true, .ptr 1 0), (1, true, .ptr 0 0), (0, true, .p (ntV n))], [some (ntBox n), some ⟨[bNil], 81, 0⟩, some ⟨[.p (.x (.int .i64 0))], 30, 0⟩]⟩) Try.call60 Try.func60 rfl Try.ntmps60 rfl (by simp) rfl Try.call80 (fun c hc => ?_) (.cons (Ev.t rfl) (.cons (Ev.t rfl) .nil)) rfl fun c hro hdead hc => ?_
  · refine z_go ?_
    exact ⟨rfl, rfl⟩
  have hc : c.β0.length = 3 := hc
  by_cases hf : ntForm n = true
  · by_cases hs : shRight n.inp = true
    · have hl : n.ls.length ≤ 8 ∧ n.ls.all lyForm = true := ntForm_all hf
      have k1 := fnDForm n; have k2 := fnMustV hf 12; have k3 := fnShRight n.inp; have k4 := fnMustV hs 1; refine z_go ?_
      refine Sym.weak (Le.cellRow 1 0 85 12 rfl rfl rfl z_nrm) ?_
      refine Sym.loop (fun k s => ∃ (i : Nat) (xs : List Lx), i ≤ n.ls.length ∧ chk n.inp (n.ls.take i) = some xs ∧ k = n.ls.length - i ∧ s = ⟨[(23, true, .p (.i i)), (22, true, .p (.i n.ls.length)), (21, true, .p (V.list encLy n.ls)), (6, true, .ptr 3 0), (5, true, .p (.i (sumP xs))), (4, true, .p (.i (sumW xs))), (3, true, .ptr 2 0), (2, true, .ptr 1 0), (1, true, .ptr 0 0)], [some (ntBox n), some ⟨[.row 4 xs.length], 81, 0⟩, some ⟨[.p (.i 0)], 30, 0⟩, some (shBox (lastS n.inp xs)), some ⟨D.enc encLx xs, 85, 12⟩]⟩) n.ls.length ⟨_, ⟨0, [], Nat.zero_le _, rfl, by simp, rfl⟩, ?_⟩ ?_
      · exact z_wkt
      rintro k s ⟨i, xs, hi, hxs, rfl, rfl⟩
      refine z_go ?_
      apply Sym.cond
      · rfl
      · intro hlt
        simp only [decide_eq_true_eq] at hlt
        obtain ⟨el, hel⟩ : ∃ el, n.ls[i]? = some el := ⟨_, List.getElem?_eq_getElem (by omega)⟩
        have hk : 1 ≤ el.kind ∧ el.kind ≤ 4 := lyForm_kind (List.all_eq_true.1 hl.2 _ (List.mem_of_getElem? hel))
        obtain ⟨hr, hw, hp⟩ := chk_bounds hxs hs
        have hxl := chk_len hxs
        rw [List.length_take] at hxl
        by_cases hfit : (outOf (lastS n.inp xs) el).2 = true
        · obtain ⟨hb1, hb2, hb3⟩ := out_bounds hr hfit
          have k1 := fnNextT hk hr hfit; refine z_go ?_
          have hx8 : xs.length ≤ 8 := by omega
          ((apply Sym.drawXP [0, 1, 2, 4, 5, 3, 6, 7] [5, 6, 7] (by kernel_rfl) (by kernel_rfl)); exact z_perm; kernel_rfl; kernel_rfl)
          have a1 : AppH encLx xs [lxOf (lastS n.inp xs) el] := .mk; refine z_xgo ?_
          refine z_go ?_
          refine ⟨_, ?_, _, ⟨i + 1, xs ++ [lxOf (lastS n.inp xs) el], by omega, ?_, rfl, rfl⟩, ?_⟩
          · omega
          · rw [List.take_add_one, hel, Option.toList_some, chk_snoc, hxs, Option.bind_some, if_pos hfit]
          · rw [sumW_snoc, sumP_snoc, lastS_snoc]
            exact z_wkt
        · rw [Bool.not_eq_true] at hfit
          have hE : ckE n = 21 := by
            have h1 : chk n.inp (n.ls.take i ++ [el]) = none := by rw [chk_snoc, hxs, Option.bind_some, if_neg (by simp [hfit])]
            have h2 : n.ls = n.ls.take i ++ [el] ++ n.ls.drop (i + 1) := by
              rw [← Option.toList_some, ← hel, ← List.take_add_one, List.take_append_drop]
            have h3 : chk n.inp n.ls = none := by
              rw [h2]
              exact chk_none h1
            simp [ckE, hf, hs, h3]
          have hL : ckL n = [] := by simp [ckL, hE]
          ((apply Sym.ice encLx 4 xs); rfl; rfl; (rw [hc]; first | exact Nat.zero_le _ | decide); (first | (simp only [TM.ice, TM.argsD, Hp.ice, D.ice, D.iceL, D.iceL_p, Nat.reduceBEq, Nat.beq, cond_true, cond_false, List.set_cons_zero, List.set_cons_succ, List.length_nil, List.length_cons, Nat.beq_refl]; try exact rfl) | exact rfl); (first | (simp only [TM.ice, TM.argsD, Hp.ice, D.ice, D.iceL, D.iceL_p, Nat.reduceBEq, Nat.beq, cond_true, cond_false, List.set_cons_zero, List.set_cons_succ, List.length_nil, List.length_cons, Nat.beq_refl]; try exact rfl) | exact rfl))
          refine z_go ?_
          refine SymL.callP (fnNextF hk hr hfit) z_ev (by (repeat (first | exact EvL.nil | (apply EvL.cons; exact z_ev; exact .of rfl))); (first | done | fail)) ?_
          refine ⟨.panicking (pch (wrongV 21)), .panicking [⟨wrongV 21, true, false⟩], [1, 2], [.ptr 0 0, .ptr 1 0], _, _, rfl, rfl, cdPan 21 (.p (V.list encLx xs)) (.p (.x (.int .i64 0))) 81 30 rfl, rfl, z_given, by decide, ?_⟩
          rw [hE, hL]
          exact .cons (.cell inferInstance rfl rfl rfl rfl (.of (.mk rfl z_vle))) (.cons (.cell inferInstance rfl rfl rfl rfl (.of (.mk rfl z_vle))) .nil)
      · intro hge
        simp only [decide_eq_false_iff_not] at hge
        obtain rfl : i = n.ls.length := by omega
        rw [List.take_length] at hxs
        ((apply Sym.ice encLx 4 xs); rfl; rfl; (rw [hc]; first | exact Nat.zero_le _ | decide); (first | (simp only [TM.ice, TM.argsD, Hp.ice, D.ice, D.iceL, D.iceL_p, Nat.reduceBEq, Nat.beq, cond_true, cond_false, List.set_cons_zero, List.set_cons_succ, List.length_nil, List.length_cons, Nat.beq_refl]; try exact rfl) | exact rfl); (first | (simp only [TM.ice, TM.argsD, Hp.ice, D.ice, D.iceL, D.iceL_p, Nat.reduceBEq, Nat.beq, cond_true, cond_false, List.set_cons_zero, List.set_cons_succ, List.length_nil, List.length_cons, Nat.beq_refl]; try exact rfl) | exact rfl))
        by_cases h5 : (decide (sumW xs ≤ 512) && decide (sumP xs ≤ 512)) = true
        · have hE : ckE n = 0 := by simp only [ckE, hf, hs, hxs, h5, if_true]
          have hL : ckL n = xs := by simp only [ckL, hE, hxs, if_true, Option.getD_some]
          have k1 := fnMustV h5 5; refine z_go ?_
          refine ⟨.returning, .returning, [1, 2], [.ptr 0 0, .ptr 1 0], _, _, rfl, rfl, cdRet (V.list encLx xs) (.x (.int .i64 0)) 81 30, rfl, z_given, by decide, ?_⟩
          rw [hE, hL]
          exact .cons (.cell inferInstance rfl rfl rfl rfl (.of (.mk rfl z_vle))) (.cons (.cell inferInstance rfl rfl rfl rfl (.of (.mk rfl z_vle))) .nil)
        · rw [Bool.not_eq_true] at h5
          have hE : ckE n = 5 := by simp only [ckE, hf, hs, hxs, h5, if_true, Bool.false_eq_true, if_false]
          have hL : ckL n = [] := by simp [ckL, hE]
          refine z_go ?_
          refine SymL.callP (fnMustP h5 5) z_ev (by (repeat (first | exact EvL.nil | (apply EvL.cons; exact z_ev; exact .of rfl))); (first | done | fail)) ?_
          refine ⟨.panicking (pch (wrongV 5)), .panicking [⟨wrongV 5, true, false⟩], [1, 2], [.ptr 0 0, .ptr 1 0], _, _, rfl, rfl, cdPan 5 (.p (V.list encLx xs)) (.p (.x (.int .i64 0))) 81 30 rfl, rfl, z_given, by decide, ?_⟩
          rw [hE, hL]
          exact .cons (.cell inferInstance rfl rfl rfl rfl (.of (.mk rfl z_vle))) (.cons (.cell inferInstance rfl rfl rfl rfl (.of (.mk rfl z_vle))) .nil)
    · rw [Bool.not_eq_true] at hs
      have hE : ckE n = 1 := by simp [ckE, hf, hs]
      have hL : ckL n = [] := by simp [ckL, hE]
      have k1 := fnDForm n; have k2 := fnMustV hf 12; have k3 := fnShRight n.inp; refine z_go ?_
      refine SymL.callP (fnMustP hs 1) z_ev (by (repeat (first | exact EvL.nil | (apply EvL.cons; exact z_ev; exact .of rfl))); (first | done | fail)) ?_
      refine ⟨.panicking (pch (wrongV 1)), .panicking [⟨wrongV 1, true, false⟩], [1, 2], [.ptr 0 0, .ptr 1 0], _, _, rfl, rfl, cdPan 1 bNil (.p (.x (.int .i64 0))) 81 30 rfl, rfl, z_given, by decide, ?_⟩
      rw [hE, hL]
      exact .cons (.cell inferInstance rfl rfl rfl rfl (.of (.mk rfl z_vle))) (.cons (.cell inferInstance rfl rfl rfl rfl (.of (.mk rfl z_vle))) .nil)
  · rw [Bool.not_eq_true] at hf
    have hE : ckE n = 12 := by simp [ckE, hf]
    have hL : ckL n = [] := by simp [ckL, hE]
    have k1 := fnDForm n; refine z_go ?_
    refine SymL.callP (fnMustP hf 12) z_ev (by (repeat (first | exact EvL.nil | (apply EvL.cons; exact z_ev; exact .of rfl))); (first | done | fail)) ?_
    refine ⟨.panicking (pch (wrongV 12)), .panicking [⟨wrongV 12, true, false⟩], [1, 2], [.ptr 0 0, .ptr 1 0], _, _, rfl, rfl, cdPan 12 bNil (.p (.x (.int .i64 0))) 81 30 rfl, rfl, z_given, by decide, ?_⟩
    rw [hE, hL]
    exact .cons (.cell inferInstance rfl rfl rfl rfl (.of (.mk rfl z_vle))) (.cons (.cell inferInstance rfl rfl rfl rfl (.of (.mk rfl z_vle))) .nil)
end Go.Proofs.Ytblabchnpkofgaa
