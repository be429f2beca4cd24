/- Panics, and calls that are put off. No program in sight. -/
import Derived.Test.YtblabchnpkofgaaDr
import Derived.Recover
set_option linter.unusedSimpArgs false
set_option linter.unusedVariables false
namespace Go.Sy
open Go.RowKit
abbrev pch (u : Value) : List PanicEntry := [⟨u, false, false⟩]
mutual
/-- the value of a datum that has no memory -/
def V.val : V → Option Value
  | .x u => some u
  | .agg cs => (V.valL cs).map fun us => .agg us.toArray
  | .tup cs => (V.valL cs).map fun us => .tuple us.toArray
  | .ifc t d => (V.val d).map (.iface t)
  | _ => none
def V.valL : List V → Option (List Value)
  | [] => some []
  | v :: l => match V.val v, V.valL l with
    | some u, some us => some (u :: us)
    | _, _ => none
end
section
variable {S : Nat → Prop} {w : World}
mutual
theorem V.Rep.val : ∀ {v : V} {u u' : Value}, v.val = some u' → v.Rep S w u → u = u'
  | .x _, _, _, h, hr => by
    simp only [V.val, Option.some.injEq] at h
    exact (show _ = _ from hr).trans h
  | .agg cs, _, _, h, hr => by
    obtain ⟨us, h1, h2⟩ := hr
    simp only [V.val, Option.map_eq_some_iff] at h
    obtain ⟨us', h3, rfl⟩ := h
    rw [h1, V.RepL.val h3 h2]
  | .tup cs, _, _, h, hr => by
    obtain ⟨us, h1, h2⟩ := hr
    simp only [V.val, Option.map_eq_some_iff] at h
    obtain ⟨us', h3, rfl⟩ := h
    rw [h1, V.RepL.val h3 h2]
  | .ifc t d, _, _, h, hr => by
    obtain ⟨y, h1, h2⟩ := hr
    simp only [V.val, Option.map_eq_some_iff] at h
    obtain ⟨y', h3, rfl⟩ := h
    rw [h1, V.Rep.val h3 h2]
  | .sl _ _, _, _, h, _ => by simp [V.val] at h
  | .fl _ _, _, _, h, _ => by simp [V.val] at h
  | .ref _, _, _, h, _ => by simp [V.val] at h
theorem V.RepL.val : ∀ {l : List V} {us us' : List Value}, V.valL l = some us' → V.RepL S w l us → us = us'
  | [], _, _, h, hr => by
    simp only [V.valL, Option.some.injEq] at h
    exact (show _ = _ from hr).trans h
  | v :: l, _, _, h, hr => by
    obtain ⟨y, ys, rfl, h2, h3⟩ := hr
    simp only [V.valL] at h
    split at h
    · rename_i u us e1 e2
      injection h with h
      rw [← h, V.Rep.val e1 h2, V.RepL.val e2 h3]
    · cases h
end
end
/-- Called with these, the function panics with u, and leaves what there was. -/
structure FnP (P : Program) (f : FuncId) (vs : List V) (u : Value) : Prop where
  enter : ∀ args w, (callFunc f args).run P w = .ok (.enter f args) w
  calls : ∀ (S : Nat → Prop) w us, (∀ b, w.heap.size ≤ b → S b) → V.RepL S w vs us → Calls P f us.toArray w fun e w' => e = .panicked (pch u) ∧ Ext w w'
section
variable {P : Program} {c : Ctx} {n : Nat} {ops : Array Oper} {Q : Exit → St → Prop} {rest : List Oper} {tm : List (Nat × Bool × D)} {H : List (Option Box)} {t : Option Tmp} {ty : TypeId} {pos : String} {af : Array Edge}
theorem SymL.panic {x : Operand} {v : V} {ti : TypeId} {y : Value} (hx : Ev ⟨tm, H⟩ true x (.p v)) (hv : v.val = some (.iface ti y)) (hq : Q (.panic (pch (.iface ti y))) ⟨tm, H⟩) : SymL P c n ops Q (⟨t, .panic x, ty, pos, af, none⟩ :: rest) ⟨tm, H⟩ := by
  rintro a w ⟨β, S, hH, hd, hn, he⟩
  refine wpList_plain rfl fun K hK => ?_
  have h1 : (D.p v).Rep β S w (a.eval x) := hx.rep (l := (Op.panic x).operands) (by simp [Op.operands]) (fun t _ => he t) rfl
  have h2 : a.eval x = .iface ti y := V.Rep.val hv h1
  unfold Oper.wp
  have hrun : (execOp a.eval ⟨t, .panic x, ty, pos, af, none⟩).run P w = .halt (.panic (.iface ti y)) w := by
    simp [execOp, h2, Instr.panic, goPanic]
  rw [hrun]
  exact ⟨⟨tm, H⟩, ⟨β, S, hH, hd, hn, he⟩, hq⟩
theorem SymL.callP {f : Operand} {k : FuncId} {as : Array Operand} {ts : Array TypeId} {vs : List V} {u : Value} (hc : FnP P k vs u) (hf : Ev ⟨tm, H⟩ true f (.p (.x (.func (.func k) #[] #[])))) (ha : EvL ⟨tm, H⟩ true as.toList vs) (hq : Q (.panic (pch u)) ⟨tm, H⟩) :
    SymL P c n ops Q (⟨t, .call { callee := .value f, args := as, argTypes := ts }, ty, pos, af, none⟩ :: rest) ⟨tm, H⟩ := by
  rintro a w ⟨β, S, hH, hd, hn, he⟩
  refine wpList_plain rfl fun K hK => ?_
  have hm : ∀ x ∈ as.toList, x ∈ (Op.call { callee := .value f, args := as, argTypes := ts }).operands := fun x hx => by
    simp only [Op.operands, Call.operands, Array.mem_append]
    exact .inr (by simpa using hx)
  have h1 : a.eval f = .func (.func k) #[] #[] := hf.rep (l := (Op.call { callee := .value f, args := as, argTypes := ts }).operands) (by simp [Op.operands, Call.operands]) (fun t _ => he t) rfl
  have h2 := ha.rep (l := (Op.call { callee := .value f, args := as, argTypes := ts }).operands) (fun t _ => he t) rfl hm
  have h3 := hc.calls S w _ hH.up h2
  unfold Oper.wp
  have hrun : (execOp a.eval ⟨t, .call { callee := .value f, args := as, argTypes := ts }, ty, pos, af, none⟩).run P w = .ok (.enter k (as.map a.eval)) w := by
    simp [execOp, resolve, h1, Deferred.ofValue, invoke, hc.enter]
  rw [hrun]
  show Calls P k (as.map a.eval) w _
  have e : as.map a.eval = (as.toList.map a.eval).toArray := by apply Array.ext'; simp
  rw [e]
  refine h3.mono ?_
  rintro e w' ⟨rfl, hx⟩
  exact ⟨⟨tm, H⟩, ⟨β, S, hH.ext hx, hd, hn, fun t => (he t).ext hx⟩, hq⟩
theorem thenS.pn {next : St → Prop} {s : St} {ch : List PanicEntry} (h : Q (.panic ch) s) : thenS next Q (.panic ch) s := h
theorem blockS.pn {id : Nat} {s : St} {ch : List PanicEntry} (h : Q (.panic ch) s) : blockS id Q (.panic ch) s := h
/-- how a function ends that panics -/
def FinP (u : Value) : Exit → St → Prop := fun e _ => e = .panic (pch u)
theorem FnP.of {f : FuncId} {fn : Func} {code : Code} {vs : List V} {u : Value} (henter : ∀ args w, (callFunc f args).run P w = .ok (.enter f args) w) (hf : P.funcs[f]? = some fn) (hb : fn.body = some code) (hnt : fn.ntmps = n) (hn : vs.length ≤ n)
    (h : ∀ c, c.β0 = [] → Sym P c n code (FinP u) ⟨TM.args 0 vs, []⟩) : FnP P f vs u := by
  refine ⟨henter, fun S w us hup hr => ?_⟩
  refine calls_of_wp hf hb ?_
  rw [hnt, List.size_toArray]
  refine wp_mono (h ⟨w, S, [], false, [], []⟩ rfl _ w (SR.begin (HOk.nil hup) (D.RepL.p hr) (by simpa using hn))) ?_
  rintro e a' w' ⟨s', ⟨β, S', hH, hd, _, _⟩, h2⟩
  have h2 : e = .panic (pch u) := h2
  subst h2
  exact ⟨hd, rfl, ⟨hH.os, hH.tape, hH.output, hH.size, fun b hb => hH.fr b hb (.inr fun i q => by simp)⟩⟩
end
/-! ### calls that are put off -/
/-- Put off, and done in mode u, with these boxes: it comes back, the boxes are H1 then, and the mode is u'. -/
structure CD (P : Program) (f : FuncId) (ds : List D) (H0 H1 : List (Option Box)) (u u' : FrameMode) : Prop where
  ids : D.upToL H0.length ds = true
  hids : Hp.upTo H0.length H0 = true
  calls : ∀ β S w us, HOk H0 β S w → D.RepL β S w ds us → CallsD P f us.toArray u w fun e u'' w' => ∃ v β1 S1, e = .returned v ∧ u'' = u' ∧ HSt ⟨w, S, β, false, [], []⟩ H1 β1 S1 w'
def modeOf : Exit → Option FrameMode
  | .ret => some .returning
  | .normal => some .returning
  | .panic ch => some (.panicking ch)
  | _ => none
/-- how a body ends behind which a call that was put off is done -/
def FinD (P : Program) (g : FuncId) (ds : List D) (res : List ResultVar) (rs : List V) (e : Exit) (s : St) : Prop :=
  ∃ u u' ks ds0 H0 H1, modeOf e = some u ∧ settle u' = .returning ∧ CD P g ds0 H0 H1 u u' ∧ D.renL (sig ks s.H.length) ds0 = ds ∧ Given s.H (sig ks s.H.length) ks H0 ∧ ks.Nodup ∧
    ResL P 0 ⟨s.tm, Hp.putAll (sig ks s.H.length) ks H1 s.H ++ (H1.drop ks.length).map (Option.map (Box.ren (sig ks s.H.length)))⟩ res rs
def D.isPtr : D → Bool
  | .ptr _ _ => true
  | _ => false
theorem D.RepL.ptrs {β β' : List Place} {S S' : Nat → Prop} {w w' : World} (hβ : ∀ (i : Nat) (e : Place), β[i]? = some e → β'[i]? = some e) : ∀ {ds : List D} {us : List Value}, ds.all D.isPtr = true → D.RepL β S w ds us → D.RepL β' S' w' ds us
  | [], _, _, h => h
  | d :: ds, _, ha, h => by
    obtain ⟨y, ys, h1, h2, h3⟩ := h
    simp only [List.all_cons, Bool.and_eq_true] at ha
    refine ⟨y, ys, h1, ?_, D.RepL.ptrs hβ ha.2 h3⟩
    cases d with
    | ptr i off =>
      obtain ⟨b, c, h4, h5⟩ := h2
      exact ⟨b, c, hβ _ _ h4, h5⟩
    | _ => simp [D.isPtr] at ha
section
variable {P : Program} {n : Nat}
theorem Fn1.ofD {f g : FuncId} {fn : Func} {vs rs : List V} {res : List ResultVar} {R0 rest : Code} {id : Nat} {t : Tmp} {cs : Array Operand} {ds : List D} {s0 : St} {ty1 ty2 : TypeId} {p1 p2 : String} {a1 a2 : Array Edge}
    (henter : ∀ args w, (callFunc f args).run P w = .ok (.enter f args) w) (hf : P.funcs[f]? = some fn)
    (hb : fn.body = some (.seq R0 (.seq (.region id #[⟨some t, .makeFunc (.func g) #[] cs, ty1, p1, a1, none⟩, ⟨none, .defer { callee := .value (.tmp t), args := #[], argTypes := #[] }, ty2, p2, a2, none⟩] false) rest)))
    (hnt : fn.ntmps = n) (hrs : fn.results = res.toArray) (hn : vs.length ≤ n) (ht : Nat.blt t n = true) (hg : ∀ args w, (callFunc g args).run P w = .ok (.enter g args) w)
    (h0 : ∀ c, c.β0 = [] → Sym P c n R0 (fun e s => e = .normal ∧ s = s0) ⟨TM.args 0 vs, []⟩) (hev : EvD s0 true cs.toList ds) (hds : ds.all D.isPtr = true)
    (h1 : ∀ c, c.ro = false → c.dead = [] → c.β0.length = s0.H.length → Sym P c n rest (FinD P g ds res rs) ⟨(t, true, .clo (.func g) [] ds) :: s0.tm, s0.H⟩) : Fn1 P f vs (tupV rs) := by
  refine ⟨henter, fun S w us hup hr => ?_⟩
  refine calls_of_wp_defers hf hb ?_
  rw [hnt, List.size_toArray]
  have ht : t < n := by simpa using ht
  refine wp_seq (wp_mono (h0 ⟨w, S, [], false, [], []⟩ rfl _ w (SR.begin (HOk.nil hup) (D.RepL.p hr) (by simpa using hn))) ?_)
  rintro e a w1 ⟨s', ⟨β, S1, hH, hd, hsz, he⟩, rfl, rfl⟩
  have hd : a.defers = [] := hd
  refine wp_seq (wp_region_list ?_)
  refine wpList_plain rfl fun K hK => ?_
  refine (MOp.makeFunc (P := P) (s := s') (g := true) (dst := some t) (ty := ty1) (pos := p1) (af := a1) (gd := none) (f := .func g) (fs := #[]) (cs := cs) (.nil : EvD s' true [] []) hev).run β S1 a w1 hH.toHOk (fun t _ => he t) rfl K _ fun u w2 hx hu => hK _ _ ?_
  have he2 : ∀ t', EntAt ⟨(t, true, .clo (.func g) [] ds) :: s'.tm, s'.H⟩ β S1 w2 (a.put (some t) u) t' := EntAt.put (s := s') (dst := some t) (fun t => (he t).ext hx) (fun q h => by injection h with h; rw [hsz, ← h]; exact ht) ⟨fun _ => hu, fun h => by cases h⟩
  have hH2 := hH.ext hx
  obtain ⟨us1, us2, hu1, hu2, hu3⟩ := hu
  have hus1 : us1 = [] := hu2
  subst hus1
  refine wpList_plain rfl fun K' hK' => ?_
  have hev : (a.put (some t) u).eval (.tmp t) = .func (.func g) #[] us2.toArray := by
    show (a.put (some t) u).tmps.getD t undef = _
    rw [getD_put' (by rw [hsz]; exact ht), if_pos rfl, hu1]
  have hrun : (execOp (a.put (some t) u).eval ⟨none, .defer { callee := .value (.tmp t), args := #[], argTypes := #[] }, ty2, p2, a2, none⟩).run P w2 = .ok (.defer ⟨.fn (.func g) us2.toArray, #[]⟩) w2 := by
    simp [execOp, resolve, hev, Deferred.ofValue]
  unfold Oper.wp
  rw [hrun]
  refine hK' _ _ ?_
  -- the rest, in a context of its own
  have hSR : SR ⟨w2, S1, β, false, [], [⟨.fn (.func g) us2.toArray, #[]⟩]⟩ n ⟨(t, true, .clo (.func g) [] ds) :: s'.tm, s'.H⟩ ({ (a.put (some t) u) with defers := ⟨.fn (.func g) us2.toArray, #[]⟩ :: (a.put (some t) u).defers }.put none undef) w2 := by
    refine ⟨β, S1, ⟨hH2.toHOk, fun b hb => .inl hb, fun i b q h => .inr ⟨q, h⟩, fun _ _ _ => rfl, fun _ _ _ h => h, Nat.le_refl _, fun b hb _ => ⟨rfl, hb⟩, rfl, rfl, rfl, Nat.le_refl _⟩, ?_, ?_, ?_⟩
    · show ⟨.fn (.func g) us2.toArray, #[]⟩ :: (a.put (some t) u).defers = _
      rw [defers_put, hd]
    · show (a.put (some t) u).tmps.size = n
      rw [size_put]
      exact hsz
    · exact he2
  refine wp_mono (h1 ⟨w2, S1, β, false, [], _⟩ rfl rfl hH2.len _ w2 hSR) ?_
  rintro e a3 w3 ⟨s3, ⟨β3, S3, hH3, hd3, hsz3, he3⟩, m, m', ks, ds0, H0, H1, k1, k2, k3, k4, k5, k6, k7⟩
  have hd3 : a3.defers = [⟨.fn (.func g) us2.toArray, #[]⟩] := hd3
  -- the call
  have hcap : D.RepL β3 S3 w3 ds us2 := D.RepL.ptrs (fun i e h => hH3.keep i e (by simp) h) hds hu3
  obtain ⟨g1, g2⟩ := hH3.toHOk.give k5 k6 k3.hids
  rw [← k4] at hcap
  have hcall := k3.calls _ S3 w3 us2 g1 (D.RepL.unren g2 k3.ids hcap)
  have hleave : Leaves P fn a3.tmps (fun e w' => ∃ u, e = .returned u ∧ Ext w w' ∧ (tupV rs).Rep S w' u) a3.defers m w3 := by
    rw [hd3]
    refine leaves_cons (f := g) (args := us2.toArray) ?_ ?_ ?_
    · rintro rfl
      cases e <;> simp [modeOf] at k1
    · simp [invoke, hg]
    · refine CallsD.mono hcall ?_
      rintro e' u'' w4 ⟨v, β4, S4, rfl, rfl, hH4⟩
      obtain ⟨β5, q1, q2, q3, q4⟩ := hH3.back k5 k6 k3.hids (fun h => by cases h) hH4
      have he5 : ∀ t', EntAt ⟨s3.tm, Hp.putAll (sig ks s3.H.length) ks H1 s3.H ++ (H1.drop ks.length).map (Option.map (Box.ren (sig ks s3.H.length)))⟩ β5 S4 w4 a3 t' := by
        intro t' g' d' hg'
        obtain ⟨r1, r2, r3⟩ := he3 t' g' d' hg'
        exact ⟨r1, fun hg => (r2 hg).mono q2 (fun b hb hl => (q4 b hb hl).1) fun b hb hl => (q4 b hb hl).2, r3⟩
      have hsz2 : w.heap.size ≤ w2.heap.size := hH2.size
      have hS1 : ∀ b, S1 b → S b := fun b hb => (hH2.sub b hb).elim (fun h => h) (fun h => hup b h)
      have hβ : ∀ (i : Nat) b q, β[i]? = some (some (b, q)) → w.heap.size ≤ b := fun i b q h => by
        rcases hH2.own i b q h with h | ⟨q0, h⟩
        · exact h
        · simp at h
      have hS4 : ∀ b, S4 b → S b := fun b hb => by
        rcases q1.sub b hb with h | h
        · exact hS1 b h
        · exact hup b (Nat.le_trans hsz2 h)
      have ho : ∀ (i : Nat) b q, 0 ≤ i → β5[i]? = some (some (b, q)) → S b := fun i b q _ h => by
        rcases q1.own i b q h with h | ⟨q0, h⟩
        · exact hup b (Nat.le_trans hsz2 h)
        · exact hup b (hβ i b q0 h)
      obtain ⟨us, h5, h6⟩ := k7.run q1 he5 hS4 ho
      have hx2 : Ext w w4 := by
        refine ⟨q1.os.trans hH2.os, q1.tape.trans hH2.tape, q1.output.trans hH2.output, Nat.le_trans hsz2 q1.size, fun b hb => ?_⟩
        have e1 := q1.fr b (Nat.lt_of_lt_of_le hb hsz2) (.inr fun i q h => by have := hβ i b q h; omega)
        have e2 := hH2.fr b hb (.inr fun i q h => by simp at h)
        exact e1.trans e2
      show Leaves P fn a3.tmps _ [] (settle u'') w4
      rw [k2]
      refine ⟨if h : us.toArray.size = 1 then us.toArray[0] else .tuple us.toArray, ?_, _, rfl, hx2, ?_⟩
      · rw [results_eq, hrs]
        simp [List.mapM_toArray, h5]
      · have hl := h6.len
        match rs, us, h6, hl with
        | [], [], _, _ => exact ⟨[], rfl, rfl⟩
        | [v], [u], h2, _ =>
          obtain ⟨y, ys, h3, h4, _⟩ := h2
          injection h3 with h3 _
          subst h3
          exact h4
        | v :: v' :: vs, u :: u' :: us, h2, _ =>
          have : ¬ (u :: u' :: us).toArray.size = 1 := by simp
          rw [dif_neg this]
          exact ⟨_, rfl, h2⟩
  cases e with
  | ret =>
    have : m = .returning := by simpa [modeOf] using k1.symm
    subst this
    exact hleave
  | normal =>
    have : m = .returning := by simpa [modeOf] using k1.symm
    subst this
    exact hleave
  | panic ch =>
    have : m = .panicking ch := by simpa [modeOf] using k1.symm
    subst this
    exact hleave
  | exit _ => simp [modeOf] at k1
  | goto _ => simp [modeOf] at k1
  | outgrown => simp [modeOf] at k1
end
/-! ### recover -/
section
variable {S : Nat → Prop} {w : World}
mutual
theorem V.val_rep : ∀ {v : V} {u : Value}, v.val = some u → v.Rep S w u
  | .x _, _, h => by
    simp only [V.val, Option.some.injEq] at h
    exact h.symm
  | .agg cs, _, h => by
    simp only [V.val, Option.map_eq_some_iff] at h
    obtain ⟨us, h3, rfl⟩ := h
    exact ⟨us, rfl, V.valL_rep h3⟩
  | .tup cs, _, h => by
    simp only [V.val, Option.map_eq_some_iff] at h
    obtain ⟨us, h3, rfl⟩ := h
    exact ⟨us, rfl, V.valL_rep h3⟩
  | .ifc t d, _, h => by
    simp only [V.val, Option.map_eq_some_iff] at h
    obtain ⟨y, h3, rfl⟩ := h
    exact ⟨y, rfl, V.val_rep h3⟩
  | .sl _ _, _, h => by simp [V.val] at h
  | .fl _ _, _, h => by simp [V.val] at h
  | .ref _, _, h => by simp [V.val] at h
theorem V.valL_rep : ∀ {l : List V} {us : List Value}, V.valL l = some us → V.RepL S w l us
  | [], _, h => by
    simp only [V.valL, Option.some.injEq] at h
    exact h.symm
  | v :: l, _, h => by
    simp only [V.valL] at h
    split at h
    · rename_i u us e1 e2
      injection h with h
      exact ⟨u, us, h.symm, V.val_rep e1, V.valL_rep e2⟩
    · cases h
end
end
section
variable {P : Program} {s : St} {g : Bool} {dst : Option Tmp} {ty : TypeId} {pos : String} {af : Array Edge} {gd : Option (Nat × Bool)}
theorem MOp.typeAssertT {x : Operand} {t t' : TypeId} {i : TypeInfo} {u : TypeDesc} {v : V} [h : TyI P t i u] (hu : (match u with | .interface _ => false | _ => true) = true) (hx : Ev s g x (.p (.ifc t v))) : MOp P s ⟨dst, .typeAssert x t' t true, ty, pos, af, gd⟩ g (.p (.tup [v, .b true])) :=
  MOp.of1 hx (by simp [Op.operands]) fun β S w ρ _ hr => by
    obtain ⟨y, h1, h2⟩ := hr
    refine ⟨.tuple #[y, .bool true], ?_, ⟨[y, .bool true], rfl, ⟨_, _, rfl, h2, ⟨_, _, rfl, rfl, rfl⟩⟩⟩⟩
    simp only [execOp, Instr.typeAssert, Sem.run_bind, run_underlying h.ut, Result.andThen_ok, h1]
    cases u <;> simp_all
theorem MOp.typeAssertN {x : Operand} {t t' : TypeId} {i : TypeInfo} {u : TypeDesc} {z : Value} {v : V} [h : TyI P t i u] (hu : (match u with | .interface _ => false | _ => true) = true) (hz : i.zero = some z) (hv : v.val = some z) (hx : Ev s g x (.p (.x .nilIface))) : MOp P s ⟨dst, .typeAssert x t' t true, ty, pos, af, gd⟩ g (.p (.tup [v, .b false])) :=
  MOp.of1 hx (by simp [Op.operands]) fun β S w ρ _ hr => by
    have h1 : ρ x = .nilIface := hr
    refine ⟨.tuple #[z, .bool false], ?_, ⟨[z, .bool false], rfl, ⟨_, _, rfl, V.val_rep hv, ⟨_, _, rfl, rfl, rfl⟩⟩⟩⟩
    simp only [execOp, Instr.typeAssert, Sem.run_bind, run_underlying h.ut, Result.andThen_ok, h1]
    cases u <;> simp_all [run_zeroValue' h.ti hz]
end
section
variable {P : Program} {Q : Exit → Act → List Frame → World → Prop} {a : Act} {cs : List Frame} {w : World}
/-- what recover gives, and the frames then -/
def recV (cs : List Frame) : Value × List Frame := (recoverD cs).getD (.nilIface, cs)
theorem wpS_regionRec {id : Nat} {ops : Array Oper} {l : List Oper} {t : Option Tmp} {ats : Array TypeId} {ty : TypeId} {pos : String} {af : Array Edge} {Q' : Exit → Act → World → Prop}
    (hl : ops.toList = ⟨t, .call { callee := .builtin .recover, args := #[], argTypes := ats }, ty, pos, af, none⟩ :: l)
    (h : wpList P ops Q' l (a.put t (recV cs).1) w) (hQ : ∀ e a' w', Q' e a' w' → Q e a' (recV cs).2 w') : (Code.region id ops false).wpS P Q a cs w := by
  intro b k hb hro
  have hsz : ops.size = l.length + 1 := by rw [← Array.length_toList, hl]; rfl
  have h0 : ops[0]? = some ⟨t, .call { callee := .builtin .recover, args := #[], argTypes := ats }, ty, pos, af, none⟩ := by rw [← Array.getElem?_toList, hl]; rfl
  have hrun : (execOp a.eval ⟨t, .call { callee := .builtin .recover, args := #[], argTypes := ats }, ty, pos, af, none⟩).run P w = .ok .recover w := by
    simp [execOp, resolve, invoke, go_sem]
  have hlist : wpOps P ops Q' (List.range' 1 l.length) (a.put t (recV cs).1) w := by
    rw [wpOps_eq_wpList l 1 (fun j => by rw [← Array.getElem?_toList, hl, Nat.add_comm 1 j]; rfl)]
    exact h
  obtain ⟨e, a', w', hq, harr⟩ := wp_ops _ _ _ hlist b k (recV cs).2
  refine ⟨e, a', _, w', hQ _ _ _ hq, .of_steps (.head step_region (.one ?_)) harr⟩
  rw [hsz, List.range_eq_range', List.range'_succ]
  refine step_lone_go ?_
  rw [stepG_op (P := P) (b := b) (k := k) (cs := cs) (w := w) (rest := List.range' 1 l.length) h0 rfl]
  have hfin : ∀ v, (b.at a (.inRegion ops (0 :: List.range' 1 l.length) :: k)).finish v = b.at (a.put t v) (.inRegion ops (List.range' 1 l.length) :: k) := by
    intro v
    rw [Frame.finish_at, h0]
    rfl
  have htr := tryRecover_deferred (fr := b.at a (.inRegion ops (0 :: List.range' 1 l.length) :: k)) hb cs
  rw [← hfin]
  cases hrec : recoverD cs with
  | none =>
    rw [hrec] at htr
    simp only [recV, hrec, Option.getD_none]
    simp only [Frame.at] at htr ⊢
    simp [stepG.apply, hrun, htr]
  | some p =>
    obtain ⟨v, cs'⟩ := p
    rw [hrec] at htr
    simp only [recV, hrec, Option.getD_some]
    simp only [Frame.at] at htr ⊢
    simp [stepG.apply, hrun, htr]
end
/-- what recover yields in a call that was put off and is done in mode u, and the mode then -/
inductive RecM : FrameMode → V → FrameMode → Prop
  | ret : RecM .returning (.x .nilIface) .returning
  | pan {v : V} {u : Value} : v.val = some u → RecM (.panicking (pch u)) v (.panicking [⟨u, true, false⟩])
theorem RecM.recV {u u' : FrameMode} {v : V} (h : RecM u v u') {c0 : Frame} {cs : List Frame} (hm : c0.mode = u) : ∃ y, recV (c0 :: cs) = (y, { c0 with mode := u' } :: cs) ∧ v.val = some y := by
  cases h with
  | ret =>
    refine ⟨.nilIface, ?_, rfl⟩
    have : recoverD (c0 :: cs) = none := by simp [recoverD, hm]
    rw [Go.Sy.recV, this]
    cases c0
    simp only at hm
    subst hm
    rfl
  | pan hv =>
    refine ⟨_, ?_, hv⟩
    rw [Go.Sy.recV, show recoverD (c0 :: cs) = some _ by simp only [recoverD, hm, pch]; rfl]
    rfl
theorem RecM.settle {u u' : FrameMode} {v : V} (h : RecM u v u') : settle u' = .returning := by
  cases h <;> simp [Go.settle]
section
variable {P : Program} {n : Nat}
theorem CD.of {g : FuncId} {fn : Func} {ds : List D} {H0 H1 : List (Option Box)} {u u' : FrameMode} {id : Nat} {ops : Array Oper} {l : List Oper} {rest : Code} {t : Tmp} {v : V} {ats : Array TypeId} {ty : TypeId} {pos : String} {af : Array Edge}
    (hf : P.funcs[g]? = some fn) (hb : fn.body = some (.seq (.region id ops false) rest)) (hnt : fn.ntmps = n) (hrs : fn.results = #[]) (hn : ds.length ≤ n) (ht : Nat.blt t n = true) (ids : D.upToL H0.length ds = true) (hids : Hp.upTo H0.length H0 = true)
    (hl : ops.toList = ⟨some t, .call { callee := .builtin .recover, args := #[], argTypes := ats }, ty, pos, af, none⟩ :: l) (hu : RecM u v u')
    (h : ∀ c, c.ro = false → c.dead = [] → c.β0.length = H0.length → SymL P c n ops (thenS (Sym P c n rest (FinB P c [] [] H1)) (FinB P c [] [] H1)) l ⟨(t, true, .p v) :: TM.argsD 0 ds, H0⟩) : CD P g ds H0 H1 u u' := by
  refine ⟨ids, hids, fun β S w us hH hr => ?_⟩
  refine callsD_of_wpS hf hb fun c0 cs hm => ?_
  have ht : t < n := by simpa using ht
  rw [hnt, List.size_toArray]
  obtain ⟨y, e1, e2⟩ := hu.recV (cs := cs) hm
  have hSR : SR ⟨w, S, β, false, [], []⟩ n ⟨TM.argsD 0 ds, H0⟩ { tmps := us.toArray ++ Array.replicate (n - us.length) undef, defers := [] } w := SR.begin hH hr hn
  obtain ⟨β', S', k1, k2, k3, k4⟩ := hSR
  have hSR2 : SR ⟨w, S, β, false, [], []⟩ n ⟨(t, true, .p v) :: TM.argsD 0 ds, H0⟩ (({ tmps := us.toArray ++ Array.replicate (n - us.length) undef, defers := [] } : Act).put (some t) y) w :=
    ⟨β', S', k1, by rw [defers_put, k2], by rw [size_put, k3], EntAt.put (s := ⟨TM.argsD 0 ds, H0⟩) (dst := some t) k4 (fun q hq => by injection hq with hq; rw [k3, ← hq]; exact ht) ⟨fun _ => V.val_rep e2, fun h => by cases h⟩⟩
  have hbody := h ⟨w, S, β, false, [], []⟩ rfl rfl hH.len _ w hSR2
  have key : ∀ (s' : St) (e : Exit) (a' : Act) (w' : World), SR ⟨w, S, β, false, [], []⟩ n s' a' w' → FinB P ⟨w, S, β, false, [], []⟩ [] [] H1 e s' → bodyPostS P fn c0 cs (fun e u'' w' => ∃ v β1 S1, e = .returned v ∧ u'' = u' ∧ HSt ⟨w, S, β, false, [], []⟩ H1 β1 S1 w') e a' ({ c0 with mode := u' } :: cs) w' := by
    intro s' e a' w' h1 h2
    have key : (∃ tm, Le ⟨w, S, β, false, [], []⟩ s' ⟨tm, H1⟩ ∧ ResDL P ⟨tm, H1⟩ [] []) → a'.defers = [] ∧ ∃ u'', { c0 with mode := u' } :: cs = { c0 with mode := u'' } :: cs ∧ ∃ v, (results fn a'.tmps).run P w' = .ok v w' ∧ ∃ v' β1 S1, Ending.returned v = .returned v' ∧ u'' = u' ∧ HSt ⟨w, S, β, false, [], []⟩ H1 β1 S1 w' := by
      rintro ⟨tm, hle, h3⟩
      obtain ⟨β1, S1, hH1, hd, _, he⟩ := hle _ _ _ h1
      refine ⟨hd, u', rfl, .tuple #[], ?_, _, β1, S1, rfl, rfl, hH1⟩
      rw [results_eq, hrs]
      simp
    cases e with
    | ret => exact key h2
    | normal => exact key h2
    | exit _ => exact h2.elim
    | goto _ => exact h2.elim
    | panic _ => exact h2.elim
    | outgrown => exact h2.elim
  refine wpS_seq (wpS_regionRec hl (by rw [e1]; exact hbody) ?_)
  rw [e1]
  rintro e a' w' ⟨s', k5, k6⟩
  cases e with
  | normal =>
    refine wpS_of_wp (wp_mono (k6 _ _ k5) ?_)
    rintro e a' w' ⟨s', k5, k6⟩
    exact key _ _ _ _ k5 k6
  | exit _ => exact (show False from k6).elim
  | goto _ => exact (show False from k6).elim
  | ret => exact key s' .ret a' w' k5 k6
  | panic _ => exact (show False from k6).elim
  | outgrown => exact (show False from k6).elim
end
end Go.Sy
