/- Calls of functions that are given boxes: that read them, or write into them. No program in sight. -/
import Derived.Test.YtblabchnpkofgaaDk
set_option linter.unusedSimpArgs false
set_option linter.unusedVariables false
namespace Go.Sy
open Go.RowKit

theorem nodup_at {l : List Nat} (h : l.Nodup) {i j : Nat} {hi : i < l.length} {hj : j < l.length} (e : l[i] = l[j]) : i = j := by
  have hp := List.pairwise_iff_getElem.1 h
  rcases Nat.lt_trichotomy i j with k | k | k
  · exact absurd e (hp i j hi hj k)
  · exact k
  · exact absurd e.symm (hp j i hj hi k)
mutual
/-- boxes under other numbers -/
def D.ren (σ : Nat → Nat) : D → D
  | .p v => .p v
  | .agg cs => .agg (D.renL σ cs)
  | .tup cs => .tup (D.renL σ cs)
  | .ptr i off => .ptr (σ i) off
  | .row i n => .row (σ i) n
  | .clo f fs cs => .clo f (D.renL σ fs) (D.renL σ cs)
  | .lit n cs => .lit n (D.renL σ cs)
  | .refD cs => .refD (D.renL σ cs)
  | .any => .any
def D.renL (σ : Nat → Nat) : List D → List D
  | [] => []
  | d :: ds => D.ren σ d :: D.renL σ ds
end
section
variable {β β0 : List Place} {S : Nat → Prop} {w : World} {σ : Nat → Nat} {m : Nat}
mutual
theorem D.Rep.ren (h : ∀ (i : Nat) (e : Place), β0[i]? = some e → β[σ i]? = some e) : ∀ {d : D} {u : Value}, d.Rep β0 S w u → (d.ren σ).Rep β S w u
  | .p _, _, h => h
  | .agg _, _, ⟨us, h1, h2⟩ => ⟨us, h1, D.RepL.ren h h2⟩
  | .tup _, _, ⟨us, h1, h2⟩ => ⟨us, h1, D.RepL.ren h h2⟩
  | .ptr _ _, _, ⟨b, c, h1, h2⟩ => ⟨b, c, h _ _ h1, h2⟩
  | .row _ _, _, hr => by
    rcases hr with ⟨h1, h2⟩ | ⟨b, c, h1, h2⟩
    · exact .inl ⟨h _ _ h1, h2⟩
    · exact .inr ⟨b, c, h _ _ h1, h2⟩
  | .clo _ _ _, _, ⟨us, vs, h1, h2, h3⟩ => ⟨us, vs, h1, D.RepL.ren h h2, D.RepL.ren h h3⟩
  | .lit _ _, _, ⟨a, us, h1, h2, h3, h4⟩ => ⟨a, us, h1, h2, D.RepL.ren h h3, h4⟩
  | .refD _, _, ⟨a, us, h1, h3, h4⟩ => ⟨a, us, h1, D.RepL.ren h h3, h4⟩
  | .any, _, _ => trivial
theorem D.RepL.ren (h : ∀ (i : Nat) (e : Place), β0[i]? = some e → β[σ i]? = some e) : ∀ {d : List D} {us : List Value}, D.RepL β0 S w d us → D.RepL β S w (D.renL σ d) us
  | [], _, h => h
  | _ :: _, _, ⟨y, ys, h1, h2, h3⟩ => ⟨y, ys, h1, D.Rep.ren h h2, D.RepL.ren h h3⟩
end
mutual
theorem D.Rep.unren (h : ∀ i, i < m → β0[i]? = β[σ i]?) : ∀ {d : D} {u : Value}, d.upTo m = true → (d.ren σ).Rep β S w u → d.Rep β0 S w u
  | .p _, _, _, h => h
  | .agg _, _, hb, ⟨us, h1, h2⟩ => ⟨us, h1, D.RepL.unren h hb h2⟩
  | .tup _, _, hb, ⟨us, h1, h2⟩ => ⟨us, h1, D.RepL.unren h hb h2⟩
  | .ptr i _, _, hb, ⟨b, c, h1, h2⟩ => ⟨b, c, by rw [h i (by simpa [D.upTo] using hb)]; exact h1, h2⟩
  | .row i _, _, hb, hr => by
    have hi := h i (by simpa [D.upTo] using hb)
    rcases hr with ⟨h1, h2⟩ | ⟨b, c, h1, h2⟩
    · exact .inl ⟨by rw [hi]; exact h1, h2⟩
    · exact .inr ⟨b, c, by rw [hi]; exact h1, h2⟩
  | .clo _ _ _, _, hb, ⟨us, vs, h1, h2, h3⟩ => by
    simp only [D.upTo, Bool.and_eq_true] at hb
    exact ⟨us, vs, h1, D.RepL.unren h hb.1 h2, D.RepL.unren h hb.2 h3⟩
  | .lit _ _, _, hb, ⟨a, us, h1, h2, h3, h4⟩ => ⟨a, us, h1, h2, D.RepL.unren h hb h3, h4⟩
  | .refD _, _, hb, ⟨a, us, h1, h3, h4⟩ => ⟨a, us, h1, D.RepL.unren h hb h3, h4⟩
  | .any, _, _, _ => trivial
theorem D.RepL.unren (h : ∀ i, i < m → β0[i]? = β[σ i]?) : ∀ {d : List D} {us : List Value}, D.upToL m d = true → D.RepL β S w (D.renL σ d) us → D.RepL β0 S w d us
  | [], _, _, h => h
  | _ :: _, _, hb, ⟨y, ys, h1, h2, h3⟩ => by
    simp only [D.upToL, Bool.and_eq_true] at hb
    exact ⟨y, ys, h1, D.Rep.unren h hb.1 h2, D.RepL.unren h hb.2 h3⟩
end
end
def Box.ren (σ : Nat → Nat) (x : Box) : Box := ⟨D.renL σ x.cs, x.e, x.sz⟩
/-- the caller's numbers of the boxes that are handed over, and of those that are made -/
def sig (ks : List Nat) (hl : Nat) (i : Nat) : Nat := match ks[i]? with | some k => k | none => hl + (i - ks.length)
/-- the boxes handed over are the caller's -/
def Given (H : List (Option Box)) (σ : Nat → Nat) : List Nat → List (Option Box) → Prop
  | [], [] => True
  | k :: ks, some x :: xs => H[k]? = some (some (x.ren σ)) ∧ Given H σ ks xs
  | _, _ => False
def Hp.putAll (σ : Nat → Nat) : List Nat → List (Option Box) → List (Option Box) → List (Option Box)
  | k :: ks, x :: xs, H => Hp.putAll σ ks xs (H.set k (x.map (Box.ren σ)))
  | _, _, H => H
theorem Given.get {H : List (Option Box)} {σ : Nat → Nat} : ∀ {ks : List Nat} {xs : List (Option Box)} {j : Nat} {x : Box}, Given H σ ks xs → xs[j]? = some (some x) → ∃ k, ks[j]? = some k ∧ H[k]? = some (some (x.ren σ))
  | [], [], _, _, _, h => by simp at h
  | k :: ks, some y :: xs, 0, x, hg, h => by
    simp at h; subst h
    exact ⟨k, rfl, hg.1⟩
  | k :: ks, some y :: xs, j + 1, x, hg, h => by simpa using Given.get (j := j) hg.2 (by simpa using h)
  | [], _ :: _, _, _, hg, _ => hg.elim
  | _ :: _, [], _, _, hg, _ => hg.elim
  | _ :: _, none :: _, _, _, hg, _ => hg.elim
theorem Given.len {H : List (Option Box)} {σ : Nat → Nat} : ∀ {ks : List Nat} {xs : List (Option Box)}, Given H σ ks xs → ks.length = xs.length
  | [], [], _ => rfl
  | _ :: ks, some _ :: xs, hg => by simp [Given.len hg.2]
  | [], _ :: _, hg => hg.elim
  | _ :: _, [], hg => hg.elim
  | _ :: _, none :: _, hg => hg.elim
theorem Given.get' {H : List (Option Box)} {σ : Nat → Nat} : ∀ {ks : List Nat} {xs : List (Option Box)} {j k : Nat}, Given H σ ks xs → ks[j]? = some k → ∃ x, xs[j]? = some (some x) ∧ H[k]? = some (some (x.ren σ))
  | [], [], _, _, _, h => by simp at h
  | k :: ks, some y :: xs, 0, k', hg, h => by
    simp at h; subst h
    exact ⟨y, rfl, hg.1⟩
  | k :: ks, some y :: xs, j + 1, _, hg, h => by simpa using Given.get' (j := j) hg.2 (by simpa using h)
  | [], _ :: _, _, _, hg, _ => hg.elim
  | _ :: _, [], _, _, hg, _ => hg.elim
  | _ :: _, none :: _, _, _, hg, _ => hg.elim
theorem sig_lt {ks : List Nat} {hl j k : Nat} (h : ks[j]? = some k) : sig ks hl j = k := by unfold sig; rw [h]
theorem sig_ge {ks : List Nat} {hl j : Nat} (h : ks.length ≤ j) : sig ks hl j = hl + (j - ks.length) := by unfold sig; rw [List.getElem?_eq_none h]
theorem Hp.putAll_len (σ : Nat → Nat) : ∀ (ks : List Nat) (xs H : List (Option Box)), (Hp.putAll σ ks xs H).length = H.length
  | [], _, _ => rfl
  | _ :: _, [], _ => rfl
  | k :: ks, x :: xs, H => by rw [Hp.putAll, Hp.putAll_len]; simp
theorem Hp.putAll_out (σ : Nat → Nat) : ∀ (ks : List Nat) (xs H : List (Option Box)) (i : Nat), i ∉ ks → (Hp.putAll σ ks xs H)[i]? = H[i]?
  | [], _, _, _, _ => rfl
  | _ :: _, [], _, _, _ => rfl
  | k :: ks, x :: xs, H, i, h => by
    rw [Hp.putAll, Hp.putAll_out σ ks xs _ i (fun h' => h (List.mem_cons_of_mem _ h')), List.getElem?_set_ne]
    rintro rfl
    exact h List.mem_cons_self
theorem Hp.putAll_in (σ : Nat → Nat) : ∀ (ks : List Nat) (xs H : List (Option Box)) (j k : Nat) (x : Option Box), ks.Nodup → ks[j]? = some k → xs[j]? = some x → k < H.length → (Hp.putAll σ ks xs H)[k]? = some (x.map (Box.ren σ))
  | [], _, _, _, _, _, _, h, _, _ => by simp at h
  | _ :: _, [], _, _, _, _, _, _, h, _ => by simp at h
  | k0 :: ks, x0 :: xs, H, 0, k, x, hn, h1, h2, hk => by
    simp at h1 h2
    subst h1; subst h2
    rw [Hp.putAll, Hp.putAll_out σ ks xs _ k0 (List.nodup_cons.1 hn).1, List.getElem?_set_self hk]
  | k0 :: ks, x0 :: xs, H, j + 1, k, x, hn, h1, h2, hk => by
    rw [Hp.putAll]
    exact Hp.putAll_in σ ks xs _ j k x (List.nodup_cons.1 hn).2 (by simpa using h1) (by simpa using h2) (by simpa using hk)
/-- Called with these, the function reads what it is given, comes back with r, and leaves what there was. -/
structure FnR (P : Program) (f : FuncId) (ds : List D) (H0 : List (Option Box)) (r : V) : Prop where
  enter : ∀ args w, (callFunc f args).run P w = .ok (.enter f args) w
  ids : D.upToL H0.length ds = true
  hids : Hp.upTo H0.length H0 = true
  calls : ∀ β S w us, HOk H0 β S w → D.RepL β S w ds us → Calls P f us.toArray w fun e w' => ∃ u, e = .returned u ∧ Ext w w' ∧ r.Rep S w' u
/-- Called with these, the function comes back with r; the boxes that it was given are H1 then, and those that it made. -/
structure FnB (P : Program) (f : FuncId) (ds : List D) (H0 : List (Option Box)) (r : D) (H1 : List (Option Box)) : Prop where
  enter : ∀ args w, (callFunc f args).run P w = .ok (.enter f args) w
  ids : D.upToL H0.length ds = true
  hids : Hp.upTo H0.length H0 = true
  calls : ∀ β S w us, HOk H0 β S w → D.RepL β S w ds us → Calls P f us.toArray w fun e w' => ∃ u β1 S1, e = .returned u ∧ HSt ⟨w, S, β, false, [], []⟩ H1 β1 S1 w' ∧ r.Rep β1 S1 w' u
/-- a datum as it is, or as one without addresses -/
inductive DLe : D → D → Prop
  | refl (d : D) : DLe d d
  | v {d : D} {v : V} : DV d v → DLe d (.p v)
theorem DLe.rep {d d' : D} {β : List Place} {S : Nat → Prop} {w : World} {u : Value} (h : DLe d d') (k : d.Rep β S w u) : d'.Rep β S w u := by
  cases h with
  | refl => exact k
  | v h => exact h.rep k
inductive EvM (s : St) (g : Bool) : List Operand → List D → Prop
  | nil : EvM s g [] []
  | cons {x : Operand} {xs : List Operand} {d d' : D} {ds : List D} : Ev s g x d → DLe d d' → EvM s g xs ds → EvM s g (x :: xs) (d' :: ds)
section
variable {s : St} {g : Bool} {H : List (Option Box)} {β : List Place} {S : Nat → Prop} {w : World}
theorem EvM.rep {l : Array Operand} {a : Act} (he : ∀ t, .tmp t ∈ l → EntAt s β S w a t) (hg : g = true) : ∀ {xs : List Operand} {ds : List D}, EvM s g xs ds → (∀ x ∈ xs, x ∈ l) → D.RepL β S w ds (xs.map a.eval)
  | _, _, .nil, _ => rfl
  | _, _, .cons h1 h2 h3, hm => ⟨_, _, rfl, h2.rep (h1.rep (hm _ List.mem_cons_self) he hg), EvM.rep he hg h3 fun x hx => hm x (List.mem_cons_of_mem _ hx)⟩
/-- the callee's places -/
theorem HOk.give (ho : HOk H β S w) {ks : List Nat} {H0 : List (Option Box)} (hg : Given H (sig ks H.length) ks H0) (hn : ks.Nodup) (hids : Hp.upTo H0.length H0 = true) :
    HOk H0 (ks.map fun k => β.getD k none) S w ∧ (∀ i, i < H0.length → (ks.map fun k => β.getD k none)[i]? = β[sig ks H.length i]?) := by
  have hlen := hg.len
  have hβ : ∀ i, i < H0.length → (ks.map fun k => β.getD k none)[i]? = β[sig ks H.length i]? := by
    intro i hi
    have hik : ks[i]? = some ks[i] := List.getElem?_eq_getElem (by omega)
    obtain ⟨x, _, h2⟩ := hg.get' hik
    have hkl : ks[i] < β.length := by rw [ho.len]; exact (List.getElem?_eq_some_iff.1 h2).1
    rw [List.getElem?_map, hik, sig_lt hik, List.getElem?_eq_getElem hkl]
    simp [List.getD, List.getElem?_eq_getElem hkl]
  refine ⟨⟨ho.up, ?_, by rw [List.length_map, hlen], ?_⟩, hβ⟩
  · intro j x hx
    obtain ⟨k, hk, hH⟩ := hg.get hx
    have hj : j < H0.length := (List.getElem?_eq_some_iff.1 hx).1
    have hs := sig_lt (hl := H.length) hk
    rcases ho.box k _ hH with ⟨h1, h2, h3⟩ | ⟨b, c, cur, us, h1, h2, h3, h4, h5⟩
    · refine .inl ⟨by rw [hβ j hj, hs]; exact h1, h2, ?_⟩
      cases hc : x.cs with
      | nil => rfl
      | cons _ _ => simp [Box.ren, hc, D.renL] at h3
    · refine .inr ⟨b, c, cur, us, by rw [hβ j hj, hs]; exact h1, h2, h3, D.RepL.unren hβ (Hp.upTo_get hids hx) h4, h5⟩
  · intro i j x y b p q hx hy hi hj
    obtain ⟨k, hk, hH⟩ := hg.get hx
    obtain ⟨k', hk', hH'⟩ := hg.get hy
    rw [hβ i (List.getElem?_eq_some_iff.1 hx).1, sig_lt hk] at hi
    rw [hβ j (List.getElem?_eq_some_iff.1 hy).1, sig_lt hk'] at hj
    have := ho.inj k k' _ _ b p q hH hH' hi hj
    subst this
    have h1 := List.getElem?_eq_some_iff.1 hk
    have h2 := List.getElem?_eq_some_iff.1 hk'
    exact nodup_at hn (h1.2.trans h2.2.symm)
end
section
variable {P : Program} {s : St} {g : Bool} {dst : Option Tmp} {ty : TypeId} {pos : String} {af : Array Edge} {gd : Option (Nat × Bool)}
/-- what is called, and what with -/
inductive EvF (s : St) (g : Bool) (f : Operand) (as : List Operand) (k : FuncId) : List D → Prop
  | fn {ds : List D} : Ev s g f (.p (.x (.func (.func k) #[] #[]))) → EvM s g as ds → EvF s g f as k ds
  | clo {fs cs ds ds' : List D} : Ev s g f (.clo (.func k) fs cs) → EvM s g as ds → fs ++ ds ++ cs = ds' → EvF s g f as k ds'
theorem EvF.run {f : Operand} {as : Array Operand} {ts : Array TypeId} {k : FuncId} {ds : List D} {β : List Place} {S : Nat → Prop} {a : Act} {w : World} (h : EvF s g f as.toList k ds) (he : ∀ t, .tmp t ∈ (Op.call { callee := .value f, args := as, argTypes := ts }).operands → EntAt s β S w a t) (hg : g = true)
    (henter : ∀ args w, (callFunc k args).run P w = .ok (.enter k args) w) : ∃ us : List Value, D.RepL β S w ds us ∧ (execOp a.eval ⟨dst, .call { callee := .value f, args := as, argTypes := ts }, ty, pos, af, gd⟩).run P w = .ok (.enter k us.toArray) w := by
  have hm : ∀ x ∈ as.toList, x ∈ (Op.call { callee := .value f, args := as, argTypes := ts }).operands := fun x hx => by
    simp only [Op.operands, Call.operands, Array.mem_append]
    exact .inr (by simpa using hx)
  have hmf : f ∈ (Op.call { callee := .value f, args := as, argTypes := ts }).operands := by simp [Op.operands, Call.operands]
  have e : (as.map a.eval) = (as.toList.map a.eval).toArray := by apply Array.ext'; simp
  cases h with
  | fn h1 h2 =>
    have h3 : a.eval f = .func (.func k) #[] #[] := h1.rep hmf he hg
    refine ⟨_, h2.rep he hg hm, ?_⟩
    simp [execOp, resolve, h3, Deferred.ofValue, invoke, henter, e]
  | @clo fs cs ds0 _ h1 h2 h3 =>
    subst h3
    obtain ⟨us, vs, h4, h5, h6⟩ := h1.rep hmf he hg
    refine ⟨us ++ as.toList.map a.eval ++ vs, (h5.app (h2.rep he hg hm)).app h6, ?_⟩
    simp [execOp, resolve, h4, Deferred.ofValue, invoke, henter, e]
/-- a call that only reads -/
theorem MOp.callR {f : Operand} {k : FuncId} {as : Array Operand} {ts : Array TypeId} {ds ds' : List D} {H0 : List (Option Box)} {r : V} (ks : List Nat) (hc : g = true → FnR P k ds H0 r) (hds : D.renL (sig ks s.H.length) ds = ds') (hf : EvF s g f as.toList k ds') (hg0 : Given s.H (sig ks s.H.length) ks H0) (hn : ks.Nodup) :
    MOp P s ⟨dst, .call { callee := .value f, args := as, argTypes := ts }, ty, pos, af, gd⟩ g (.p r) := by
  subst hds
  refine ⟨fun β S a w ho he hg K Q hK => ?_⟩
  have hc := hc hg
  obtain ⟨us, h1, h2⟩ := hf.run (P := P) (dst := dst) (ty := ty) (pos := pos) (af := af) (gd := gd) (ts := ts) he hg hc.enter
  obtain ⟨h3, h4⟩ := ho.give hg0 hn hc.hids
  unfold Oper.wp
  rw [h2]
  show Calls P k us.toArray w _
  refine (hc.calls _ S w us h3 (D.RepL.unren h4 hc.ids h1)).mono ?_
  rintro e w' ⟨u, rfl, hx, hr⟩
  exact hK u w' hx hr
end
section
variable {P : Program} {c : Ctx} {n : Nat} {ops : Array Oper} {Q : Exit → St → Prop} {rest : List Oper} {t : Tmp} {ty : TypeId} {pos : String} {af : Array Edge} {tm : List (Nat × Bool × D)} {H : List (Option Box)}
theorem HSt.back {β : List Place} {S : Nat → Prop} {w : World} (hH : HSt c H β S w) {ks : List Nat} {H0 : List (Option Box)} (hg : Given H (sig ks H.length) ks H0) (hn : ks.Nodup) (hids : Hp.upTo H0.length H0 = true) (hwr : c.ro = true → ∀ k ∈ ks, c.β0.length ≤ k)
    {H1 : List (Option Box)} {β1 : List Place} {S1 : Nat → Prop} {w' : World} (h : HSt ⟨w, S, ks.map fun k => β.getD k none, false, [], []⟩ H1 β1 S1 w') :
    ∃ β', HSt c (Hp.putAll (sig ks H.length) ks H1 H ++ (H1.drop ks.length).map (Option.map (Box.ren (sig ks H.length)))) β' S1 w' ∧ (∀ (i : Nat) e, β[i]? = some e → β'[i]? = some e) ∧ (∀ (j : Nat) e, β1[j]? = some e → β'[sig ks H.length j]? = some e) ∧
      (∀ b, S b → b < w.heap.size → w'.heap[b]? = w.heap[b]? ∧ S1 b) := by
  obtain ⟨g1, g2⟩ := hH.toHOk.give hg hn hids
  have hlen := hg.len
  have hl1 : ks.length ≤ β1.length := by have := h.klen; simpa using this
  have hlb : β.length = H.length := hH.len
  have hin : ∀ j k, ks[j]? = some k → k < H.length := fun j k hk => by
    obtain ⟨x, _, h2⟩ := hg.get' hk
    exact (List.getElem?_eq_some_iff.1 h2).1
  have hold : ∀ j, j < ks.length → β1[j]? = β[sig ks H.length j]? := by
    intro j hj
    have h1 := g2 j (by omega)
    have h2 : (ks.map fun k => β.getD k none)[j]? = some ((ks.map fun k => β.getD k none)[j]'(by simpa using hj)) := List.getElem?_eq_getElem (by simpa using hj)
    rw [← h1, h2]
    exact h.keep j _ (by simp) h2
  refine ⟨β ++ β1.drop ks.length, ?_, fun i e hi => by rw [List.getElem?_append_left (List.getElem?_eq_some_iff.1 hi).1]; exact hi, ?_, fun b hb hl => h.keepS b hb hl⟩
  · have hσ : ∀ (j : Nat) e, β1[j]? = some e → (β ++ β1.drop ks.length)[sig ks H.length j]? = some e := by
      intro j e hj
      rcases Nat.lt_or_ge j ks.length with h1 | h1
      · rw [hold j h1] at hj
        rw [List.getElem?_append_left (List.getElem?_eq_some_iff.1 hj).1]
        exact hj
      · rw [sig_ge h1, ← hlb, List.getElem?_append_right (by omega), List.getElem?_drop]
        rw [show ks.length + (β.length + (j - ks.length) - β.length) = j by omega]
        exact hj
    have hput : (Hp.putAll (sig ks H.length) ks H1 H).length = H.length := Hp.putAll_len ..
    -- which boxes there are
    have hcase : ∀ (i : Nat) (x : Box), (Hp.putAll (sig ks H.length) ks H1 H ++ (H1.drop ks.length).map (Option.map (Box.ren (sig ks H.length))))[i]? = some (some x) →
        (∃ j y, H1[j]? = some (some y) ∧ i = sig ks H.length j ∧ x = y.ren (sig ks H.length)) ∨ (i ∉ ks ∧ i < H.length ∧ H[i]? = some (some x)) := by
      intro i x hx
      rcases Nat.lt_or_ge i H.length with hi | hi
      · rw [List.getElem?_append_left (by omega)] at hx
        by_cases hik : i ∈ ks
        · obtain ⟨j, hj, rfl⟩ := List.mem_iff_getElem.1 hik
          have hjk : ks[j]? = some ks[j] := List.getElem?_eq_getElem hj
          cases hH1 : H1[j]? with
          | none =>
            exfalso
            rw [List.getElem?_eq_none_iff] at hH1
            have := h.len
            omega
          | some y =>
            rw [Hp.putAll_in _ ks H1 H j _ y hn hjk hH1 hi] at hx
            simp only [Option.some.injEq, Option.map_eq_some_iff] at hx
            obtain ⟨z, rfl, rfl⟩ := hx
            exact .inl ⟨j, z, hH1, (sig_lt hjk).symm, rfl⟩
        · rw [Hp.putAll_out _ ks H1 H i hik] at hx
          exact .inr ⟨hik, hi, hx⟩
      · rw [List.getElem?_append_right (by omega), hput, List.getElem?_map, List.getElem?_drop] at hx
        simp only [Option.map_eq_some_iff] at hx
        obtain ⟨y, h1, z, rfl, rfl⟩ := hx
        refine .inl ⟨ks.length + (i - H.length), z, h1, ?_, rfl⟩
        rw [sig_ge (by omega)]
        omega
    have hβcase : ∀ (i : Nat) (b q : Nat), (β ++ β1.drop ks.length)[i]? = some (some (b, q)) → β[i]? = some (some (b, q)) ∨ ∃ j, ks.length ≤ j ∧ i = H.length + (j - ks.length) ∧ β1[j]? = some (some (b, q)) := by
      intro i b q hi
      rcases Nat.lt_or_ge i β.length with h1 | h1
      · rw [List.getElem?_append_left h1] at hi
        exact .inl hi
      · rw [List.getElem?_append_right h1, List.getElem?_drop] at hi
        exact .inr ⟨ks.length + (i - β.length), by omega, by omega, hi⟩
    have hback : ∀ (j : Nat) (b q : Nat), j < β1.length → (β ++ β1.drop ks.length)[sig ks H.length j]? = some (some (b, q)) → β1[j]? = some (some (b, q)) := by
      intro j b q hj hi
      have h1 : β1[j]? = some β1[j] := List.getElem?_eq_getElem hj
      have h2 := hσ j _ h1
      rw [h2] at hi
      rw [h1]; exact hi
    have h0 : ∀ (j b q : Nat), (ks.map fun k => β.getD k none)[j]? = some (some (b, q)) → ∃ k, ks[j]? = some k ∧ β[k]? = some (some (b, q)) := by
      intro j b q hj
      have hjl : j < ks.length := by simpa using (List.getElem?_eq_some_iff.1 hj).1
      have hjk : ks[j]? = some ks[j] := List.getElem?_eq_getElem hjl
      refine ⟨ks[j], hjk, ?_⟩
      rw [g2 j (by omega), sig_lt hjk] at hj
      exact hj
    -- a box of the caller's that was not handed over is as it was
    have hother : ∀ (i : Nat) (x : Box), i ∉ ks → H[i]? = some (some x) → ∀ b q, β[i]? = some (some (b, q)) → w'.heap[b]? = w.heap[b]? ∧ ¬ S1 b ∧ b < w.heap.size ∧ ∀ (j q' : Nat), (ks.map fun k => β.getD k none)[j]? ≠ some (some (b, q')) := by
      intro i x hik hx b q hb
      obtain ⟨h1, h2⟩ := (hH.box i x hx).lt hb
      have h3 : ∀ (j q' : Nat), (ks.map fun k => β.getD k none)[j]? ≠ some (some (b, q')) := by
        intro j q' hj
        obtain ⟨k, hk, hkb⟩ := h0 j b q' hj
        obtain ⟨y, _, hy⟩ := hg.get' hk
        have := hH.inj i k x _ b q q' hx hy hb hkb
        subst this
        exact hik (List.mem_of_getElem? hk)
      refine ⟨h.fr b h1 (.inr h3), fun hs => ?_, h1, h3⟩
      rcases h.sub b hs with h4 | h4
      · exact h2 h4
      · exact absurd h1 (by simpa using h4)
    have hlen1 := h.len
    refine ⟨⟨fun b hb => h.up b hb, ?_, ?_, ?_⟩, ?_, ?_, ?_, ?_, ?_, ?_, h.os.trans hH.os, h.tape.trans hH.tape, h.output.trans hH.output, Nat.le_trans hH.size h.size⟩
    · intro i x hx
      rcases hcase i x hx with ⟨j, y, h1, rfl, rfl⟩ | ⟨hik, hi, h1⟩
      · rcases h.box j y h1 with ⟨k1, k2, k3⟩ | ⟨b, q, cur, us, k1, k2, k3, k4, k5⟩
        · exact .inl ⟨hσ j _ k1, k2, by simp [Box.ren, k3, D.renL]⟩
        · exact .inr ⟨b, q, cur, us, hσ j _ k1, k2, k3, D.RepL.ren hσ k4, k5⟩
      · exact (hH.box i x h1).mono (fun i e hi => by rw [List.getElem?_append_left (List.getElem?_eq_some_iff.1 hi).1]; exact hi) (fun b q hb => ⟨(hother i x hik h1 b q hb).1, (hother i x hik h1 b q hb).2.1⟩) (fun b hb hl => (h.keepS b hb hl).1) fun b hb hl => (h.keepS b hb hl).2
    · simp [hput, hlb, hlen1]
    · intro i i' x x' b p q hx hx' hi hi'
      rcases hcase i x hx with ⟨j, y, h1, rfl, rfl⟩ | ⟨hik, hil, h1⟩ <;> rcases hcase i' x' hx' with ⟨j', y', h1', rfl, rfl⟩ | ⟨hik', hil', h1'⟩
      · have k1 := hback j b p (by rw [hlen1]; exact (List.getElem?_eq_some_iff.1 h1).1) hi
        have k2 := hback j' b q (by rw [hlen1]; exact (List.getElem?_eq_some_iff.1 h1').1) hi'
        rw [h.inj j j' y y' b p q h1 h1' k1 k2]
      · exfalso
        have k1 := hback j b p (by rw [hlen1]; exact (List.getElem?_eq_some_iff.1 h1).1) hi
        rw [List.getElem?_append_left (by omega)] at hi'
        obtain ⟨_, _, k3, k4⟩ := hother i' x' hik' h1' b q hi'
        rcases h.own j b p k1 with k5 | ⟨q0, k5⟩
        · exact absurd k3 (by simpa using k5)
        · exact k4 j q0 k5
      · exfalso
        have k1 := hback j' b q (by rw [hlen1]; exact (List.getElem?_eq_some_iff.1 h1').1) hi'
        rw [List.getElem?_append_left (by omega)] at hi
        obtain ⟨_, _, k3, k4⟩ := hother i x hik h1 b p hi
        rcases h.own j' b q k1 with k5 | ⟨q0, k5⟩
        · exact absurd k3 (by simpa using k5)
        · exact k4 j' q0 k5
      · rw [List.getElem?_append_left (by omega)] at hi hi'
        exact hH.inj i i' x x' b p q h1 h1' hi hi'
    · intro b hb
      rcases h.sub b hb with k | k
      · exact hH.sub b k
      · exact .inr (Nat.le_trans hH.size k)
    · intro i b q hi
      rcases hβcase i b q hi with k | ⟨j, hj, rfl, k⟩
      · exact hH.own i b q k
      · rcases h.own j b q k with k1 | ⟨q0, k1⟩
        · exact .inl (Nat.le_trans hH.size k1)
        · have := (List.getElem?_eq_some_iff.1 k1).1
          simp at this
          omega
    · intro b hb hcond
      rw [h.fr b (Nat.lt_of_lt_of_le hb hH.size) (.inr ?_)]
      · exact hH.fr b hb hcond
      · intro j q hj
        obtain ⟨k, hk, hkb⟩ := h0 j b q hj
        rcases hH.own k b q hkb with k1 | ⟨q0, k1⟩
        · omega
        · rcases hcond with hro | hcond
          · have k2 := hwr hro k (List.mem_of_getElem? hk)
            have k3 := (List.getElem?_eq_some_iff.1 k1).1
            omega
          · exact hcond k q0 k1
    · intro i e hi k
      have := hH.keep i e hi k
      rw [List.getElem?_append_left (List.getElem?_eq_some_iff.1 this).1]
      exact this
    · rw [List.length_append]
      exact Nat.le_add_right_of_le hH.klen
    · intro b hb hl
      obtain ⟨k1, k2⟩ := hH.keepS b hb hl
      obtain ⟨k3, k4⟩ := h.keepS b k2 (Nat.lt_of_lt_of_le hl hH.size)
      exact ⟨k3.trans k1, k4⟩
  · intro j e hj
    rcases Nat.lt_or_ge j ks.length with h1 | h1
    · rw [hold j h1] at hj
      rw [List.getElem?_append_left (List.getElem?_eq_some_iff.1 hj).1]
      exact hj
    · rw [sig_ge h1, ← hlb, List.getElem?_append_right (by omega), List.getElem?_drop]
      rw [show ks.length + (β.length + (j - ks.length) - β.length) = j by omega]
      exact hj
/-- a call that writes into boxes that it is given, or makes some -/
theorem SymL.callB {f : Operand} {k : FuncId} {as : Array Operand} {ts : Array TypeId} {ds ds' : List D} {H0 H1 : List (Option Box)} {r r' : D} (ks : List Nat) (hcb : FnB P k ds H0 r H1) (hds : D.renL (sig ks H.length) ds = ds') (hf : EvF ⟨tm, H⟩ true f as.toList k ds') (hg0 : Given H (sig ks H.length) ks H0) (hn : ks.Nodup)
    (ht : Nat.blt t n = true) (hwr : c.ro = true → ∀ k ∈ ks, c.β0.length ≤ k) {H' : List (Option Box)} (hr : r.ren (sig ks H.length) = r') (hH' : Hp.putAll (sig ks H.length) ks H1 H ++ (H1.drop ks.length).map (Option.map (Box.ren (sig ks H.length))) = H')
    (kk : SymL P c n ops Q rest ⟨(t, true, r') :: tm, H'⟩) : SymL P c n ops Q (⟨some t, .call { callee := .value f, args := as, argTypes := ts }, ty, pos, af, none⟩ :: rest) ⟨tm, H⟩ := by
  subst hds; subst hr; subst hH'
  rintro a w ⟨β, S, hH, hd, hnn, he⟩
  refine wpList_plain rfl fun K hK => ?_
  obtain ⟨us, h1, h2⟩ := hf.run (P := P) (dst := some t) (ty := ty) (pos := pos) (af := af) (gd := none) (ts := ts) (fun t _ => he t) rfl hcb.enter
  obtain ⟨h3, h4⟩ := hH.toHOk.give hg0 hn hcb.hids
  unfold Oper.wp
  rw [h2]
  show Calls P k us.toArray w _
  refine (hcb.calls _ S w us h3 (D.RepL.unren h4 hcb.ids h1)).mono ?_
  rintro e w' ⟨u, β1, S1, rfl, hx, hr⟩
  obtain ⟨β', k1, k2, k3, k4⟩ := hH.back hg0 hn hcb.hids hwr hx
  have hlt : t < n := by simpa using ht
  refine hK _ _ (kk _ _ ⟨β', S1, k1, by rw [defers_put, hd], by rw [size_put, hnn], EntAt.put (s := ⟨tm, _⟩) (dst := some t) ?_ (fun t' h => by injection h with h; rw [hnn, ← h]; exact hlt) ⟨fun _ => hr.ren k3, fun h => by cases h⟩⟩)
  intro t' g' d' hg
  obtain ⟨q1, q2, q3⟩ := he t' g' d' hg
  exact ⟨q1, fun hg => (q2 hg).mono k2 (fun b hb hl => (k4 b hb hl).1) fun b hb hl => (k4 b hb hl).2, q3⟩
end
end Go.Sy
