/- Networks: their forms; the contracts of package descr's Form, and of the document's answer; shapes' windows and blocks of the answer. -/
import Derived.Test.YtblabchnpkofgaaS1
set_option linter.unusedSimpArgs false
set_option linter.unusedVariables false
namespace Go.Proofs.Ytblabchnpkofgaa
open Go.RowKit Go.Sy
structure Ly where
  kind : Int
  out : Int
  size : Int
  step : Int
  deriving DecidableEq
structure Nt where
  inp : Sh
  ls : List Ly
abbrev encLy (l : Ly) : List V := [.i l.kind, .i l.out, .i l.size, .i l.step]
abbrev lyV (l : Ly) : V := .agg (encLy l)
abbrev ntV (n : Nt) : V := .agg [.i n.inp.c, .i n.inp.h, .i n.inp.w, V.list encLy n.ls]
abbrev lyBox (l : Ly) : Box := ⟨[.p (.i l.kind), .p (.i l.out), .p (.i l.size), .p (.i l.step)], 40, 0⟩
abbrev ntBox (n : Nt) : Box := ⟨[.p (.i n.inp.c), .p (.i n.inp.h), .p (.i n.inp.w), .p (V.list encLy n.ls)], 26, 0⟩
abbrev inN (v most : Int) : Bool := !(decide (v < 0) || decide (v > most))
/-- has a layer a form? -/
def lyForm (l : Ly) : Bool :=
  if l.kind = 1 then inN l.out 999999 && inN l.size 999999 && inN l.step 999999
  else if l.kind = 2 then l.out == 0 && l.size == 0 && l.step == 0
  else if l.kind = 3 then l.out == 0 && inN l.size 999999 && l.step == 0
  else if l.kind = 4 then inN l.out 999999 && l.size == 0 && l.step == 0
  else false
def ntForm (n : Nt) : Bool := !decide ((n.ls.length : Int) > 8) && inN n.inp.c 999999 && inN n.inp.h 999999 && inN n.inp.w 999999 && n.ls.all lyForm
/-! ### the document's answer -/
theorem fnRWithin (v : Int) : Fn1 Try.prog 64 [.i v] (.b (inN v 999999)) := by
  refine Fn1.of (rs := [.b (inN v 999999)]) (res := [.tmp 2]) Try.call64 Try.func64 rfl Try.ntmps64 rfl (by simp) fun c hc => ?_
  refine z_go ?_
  with_reducible first | apply Fin.rt | apply Fin.nx
  refine .cons (.tmp rfl (.of (.of ?_))) .nil
  simp only [D.toV, Option.some.injEq, V.x.injEq, Value.bool.injEq]
  rw [Bool.eq_iff_iff]
  simp [inN]
theorem fnRLayer (l : Ly) : Fn1 Try.prog 65 [lyV l] (.b (lyForm l)) := by
  refine Fn1.of (rs := [.b (lyForm l)]) (res := [.tmp 2]) Try.call65 Try.func65 rfl Try.ntmps65 rfl (by simp) fun c hc => ?_
  have r1 := fnRWithin l.out
  have r2 := fnRWithin l.size
  have r3 := fnRWithin l.step
  refine z_go ?_
  apply Sym.cond
  · rfl
  · intro h
    have h : l.kind = 1 := by simpa using h
    have k1 := r1; have k2 := r2; have k3 := r3; refine z_go ?_
    with_reducible first | apply Fin.rt | apply Fin.nx
    refine .cons (.tmp rfl (.of (.of ?_))) .nil
    simp [D.toV, lyForm, h]
  · intro h1
    have h1 : ¬ l.kind = 1 := by simpa using h1
    refine z_go ?_
    apply Sym.cond
    · rfl
    · intro h
      have h : l.kind = 2 := by simpa using h
      refine z_go ?_
      with_reducible first | apply Fin.rt | apply Fin.nx
      refine .cons (.tmp rfl (.of (.of ?_))) .nil
      simp [D.toV, lyForm, h]
    · intro h2
      have h2 : ¬ l.kind = 2 := by simpa using h2
      refine z_go ?_
      apply Sym.cond
      · rfl
      · intro h
        have h : l.kind = 3 := by simpa using h
        have k1 := r2; refine z_go ?_
        with_reducible first | apply Fin.rt | apply Fin.nx
        refine .cons (.tmp rfl (.of (.of ?_))) .nil
        simp [D.toV, lyForm, h]
      · intro h3
        have h3 : ¬ l.kind = 3 := by simpa using h3
        refine z_go ?_
        apply Sym.cond
        · rfl
        · intro h
          have h : l.kind = 4 := by simpa using h
          have k1 := r1; refine z_go ?_
          with_reducible first | apply Fin.rt | apply Fin.nx
          refine .cons (.tmp rfl (.of (.of ?_))) .nil
          simp [D.toV, lyForm, h]
        · intro h4
          have h4 : ¬ l.kind = 4 := by simpa using h4
          refine z_go ?_
          with_reducible first | apply Fin.rt | apply Fin.nx
          refine .cons (.tmp rfl (.of (.of ?_))) .nil
          simp [D.toV, lyForm, h1, h2, h3, h4]
theorem fnRForm (n : Nt) : Fn1 Try.prog 39 [ntV n] (.b (ntForm n)) := by
  refine Fn1.of (rs := [.b (ntForm n)]) (res := [.tmp 2]) Try.call39 Try.func39 rfl Try.ntmps39 rfl (by simp) fun c hc => ?_
  have k1 := fnRWithin n.inp.c; have k2 := fnRWithin n.inp.h; have k3 := fnRWithin n.inp.w; refine z_go ?_
  apply Sym.cond
  · rfl
  · intro h
    rw [show ntForm n = false by
      unfold ntForm
      cases e1 : inN n.inp.c 999999 <;> cases e2 : inN n.inp.h 999999 <;> cases e3 : inN n.inp.w 999999 <;> simp_all]
    refine z_go ?_
    with_reducible first | apply Fin.rt | apply Fin.nx
    exact (.cons (.tmp rfl (.of (.of rfl))) .nil)
  · intro h
    have hf : ntForm n = n.ls.all lyForm := by
      unfold ntForm
      cases e1 : inN n.inp.c 999999 <;> cases e2 : inN n.inp.h 999999 <;> cases e3 : inN n.inp.w 999999 <;> simp_all
    have hl : n.ls.length ≤ 8 := by
      simp only [Bool.or_eq_false_iff, decide_eq_false_iff_not] at h
      omega
    clear h
    refine z_go ?_
    refine Sym.loop (fun k s => ∃ i : Nat, i ≤ n.ls.length ∧ (n.ls.take i).all lyForm = true ∧ k = n.ls.length - i ∧ s = ⟨[(3, true, .p (.i i)), (1, true, .ptr 0 0)], [some (ntBox n)]⟩) n.ls.length ⟨_, ⟨0, Nat.zero_le _, rfl, by simp, rfl⟩, z_wkt⟩ ?_
    rintro k s ⟨i, hi, hall, rfl, rfl⟩
    refine z_go ?_
    apply Sym.cond
    · rfl
    · intro hlt
      simp only [decide_eq_true_eq] at hlt
      obtain ⟨el, hel⟩ : ∃ el, n.ls[i]? = some el := ⟨_, List.getElem?_eq_getElem (by omega)⟩
      have k1 := fnRLayer el; refine z_go ?_
      apply Sym.cond
      · rfl
      · intro hb
        rw [show ntForm n = false by
          rw [hf, List.all_eq_false]
          exact ⟨el, List.mem_of_getElem? hel, by simpa using hb⟩]
        refine z_go ?_
        with_reducible first | apply Fin.rt | apply Fin.nx
        exact (.cons (.tmp rfl (.of (.of rfl))) .nil)
      · intro hb
        refine z_go ?_
        refine ⟨_, ?_, _, ⟨i + 1, by omega, ?_, rfl, rfl⟩, z_wkt⟩
        · omega
        · rw [List.take_add_one, hel, List.all_append, hall]
          simpa using hb
    · intro hge
      simp only [decide_eq_false_iff_not] at hge
      obtain rfl : i = n.ls.length := by omega
      rw [List.take_length] at hall
      rw [hf, hall]
      refine z_go ?_
      with_reducible first | apply Fin.rt | apply Fin.nx
      exact (.cons (.tmp rfl (.of (.of rfl))) .nil)
/-! ### package descr -/
theorem fnDWithin0 (most : Int) : Fn1 Try.prog 92 [.i most, V.list (fun _ : Unit => [.i 0]) []] (.b true) := by
  refine Fn1.of (rs := [.b true]) (res := [.tmp 4]) Try.call92 Try.func92 rfl Try.ntmps92 rfl (by simp) fun c hc => ?_
  refine z_go ?_
  refine Sym.loop (fun k s => s = ⟨[(9, true, .p (.i 0)), (8, true, .p (.i 0))], []⟩) 0 ⟨_, rfl, z_wkt⟩ ?_
  rintro k s rfl
  refine z_go ?_
  apply Sym.condF
  · rfl
  refine z_go ?_
  with_reducible first | apply Fin.rt | apply Fin.nx
  exact (.cons (.tmp rfl (.of (.of rfl))) .nil)
theorem lit_drop (ps : List (Nat × Int)) (i : Nat) {o : Nat} {v : Int} (h : ps[i]? = some (o, v)) : (ps.map fun p => D.ptr 0 p.1).drop (((i : Int)).toNat * 1) = .ptr 0 o :: (ps.drop (i + 1)).map fun p => .ptr 0 p.1 := by
  have hi := (List.getElem?_eq_some_iff.1 h)
  rw [show ((i : Int)).toNat * 1 = i by simp, ← List.map_drop, List.drop_eq_getElem_cons hi.1, List.map_cons, hi.2]
theorem fnDWithin (most : Int) (vs : List V) (e : TypeId) (ps : List (Nat × Int)) (hps : ∀ p ∈ ps, vs[p.1]? = some (.i p.2)) (hlen : ps.length ≤ 100) :
    FnR Try.prog 92 [.p (.i most), .lit ps.length (ps.map fun p => .ptr 0 p.1)] [some ⟨vs.map D.p, e, 0⟩] (.b (ps.all fun p => inN p.2 most)) := by
  have hup : ∀ ps : List (Nat × Int), D.upToL 1 (ps.map fun p => .ptr 0 p.1) = true := by
    intro ps
    induction ps with
    | nil => rfl
    | cons p ps ih => simp [D.upToL, D.upTo, ih]
  refine FnR.of (rs := [.b _]) (res := [.tmp 4]) Try.call92 Try.func92 rfl Try.ntmps92 rfl (by simp) (by simp [D.upToL, D.upTo, hup]) (by simp [Hp.upTo, D.upToL_p]) fun c hro hc hdead => ?_
  refine z_go ?_
  refine Sym.loop (fun k s => ∃ i : Nat, i ≤ ps.length ∧ (ps.take i).all (fun p => inN p.2 most) = true ∧ k = ps.length - i ∧ s = ⟨[(9, true, .p (.i i)), (8, true, .p (.i ps.length)), (7, true, .lit ps.length (ps.map fun p => .ptr 0 p.1)), (0, true, .p (.i most))], [some ⟨vs.map D.p, e, 0⟩]⟩) ps.length ⟨_, ⟨0, Nat.zero_le _, rfl, by simp, rfl⟩, Weak.le ⟨by (repeat' (first | exact trivial | rfl | constructor)), by (repeat' (first | exact trivial | exact Or.inr rfl | constructor)), by simp [TM.upTo, D.upTo, hup], by simp [Hp.upTo, D.upToL_p]⟩ (by rw [hc]; simp)⟩ ?_
  rintro k s ⟨i, hi, hall, rfl, rfl⟩
  refine z_go ?_
  apply Sym.cond
  · rfl
  · intro hlt
    simp only [decide_eq_true_eq] at hlt
    obtain ⟨⟨o, v⟩, hel⟩ : ∃ el, ps[i]? = some el := ⟨_, List.getElem?_eq_getElem (by omega)⟩
    have hcell := lit_drop ps i hel
    have hv : (vs.map D.p)[o]? = some (.p (.i v)) := by
      have := hps _ (List.mem_of_getElem? hel)
      simp [this]
    refine z_go ?_
    apply Sym.cond
    · rfl
    · intro hb
      rw [show (ps.all fun p => inN p.2 most) = false by
        rw [List.all_eq_false]
        exact ⟨(o, v), List.mem_of_getElem? hel, by simp [inN]; simp at hb; omega⟩]
      refine z_go ?_
      with_reducible first | apply Fin.rt | apply Fin.nx
      exact (.cons (.tmp rfl (.of (.of rfl))) .nil)
    · intro hb
      refine z_go ?_
      refine ⟨_, ?_, _, ⟨i + 1, by omega, ?_, rfl, rfl⟩, Weak.le ⟨by (repeat' (first | exact trivial | rfl | constructor)), by (repeat' (first | exact trivial | exact Or.inr rfl | constructor)), by simp [TM.upTo, D.upTo, hup], by simp [Hp.upTo, D.upToL_p]⟩ (by rw [hc]; simp)⟩
      · omega
      · rw [List.take_add_one, hel, List.all_append, hall]
        simpa using hb
  · intro hge
    simp only [decide_eq_false_iff_not] at hge
    obtain rfl : i = ps.length := by omega
    rw [List.take_length] at hall
    rw [hall]
    refine z_go ?_
    with_reducible first | apply Fin.rt | apply Fin.nx
    exact (.cons (.tmp rfl (.of (.of rfl))) .nil)
end Go.Proofs.Ytblabchnpkofgaa
