/- Rules for code, and for operations that only add memory. No program in sight. -/
import Derived.Test.YtblabchnpkofgaaDb
import Derived.ChangeKeysEq
import Derived.Laws.CopyRow
import Derived.WalkKit
set_option linter.unusedSimpArgs false
set_option linter.unusedVariables false
namespace Go.Sy
open Go.RowKit

/-! ### code -/
def thenS (next : St → Prop) (Q : Exit → St → Prop) : Exit → St → Prop
  | .normal, s => next s
  | e, s => Q e s
def blockS (id : Nat) (Q : Exit → St → Prop) : Exit → St → Prop
  | .exit id', s => if id' = id then Q .normal s else Q (.exit id') s
  | e, s => Q e s
section
variable {P : Program} {c : Ctx} {n : Nat} {Q Q' : Exit → St → Prop} {s : St} {x y : Code}
theorem Sym.mono (h : Sym P c n x Q s) (hQ : ∀ e s, Q e s → Q' e s) : Sym P c n x Q' s := fun a w hr =>
  wp_mono (h a w hr) fun e _ _ ⟨s', h1, h2⟩ => ⟨s', h1, hQ e s' h2⟩
theorem Sym.seq (h : Sym P c n x (thenS (Sym P c n y Q) Q) s) : Sym P c n (.seq x y) Q s := fun a w hr =>
  wp_seq (wp_mono (h a w hr) fun e a' w' ⟨s', h1, h2⟩ => by
    cases e with
    | normal => exact h2 a' w' h1
    | exit _ => exact ⟨s', h1, h2⟩
    | goto _ => exact ⟨s', h1, h2⟩
    | ret => exact ⟨s', h1, h2⟩
    | panic _ => exact ⟨s', h1, h2⟩
    | outgrown => exact ⟨s', h1, h2⟩)
theorem Sym.block {id : Nat} (h : Sym P c n x (blockS id Q) s) : Sym P c n (.block id x) Q s := fun a w hr =>
  wp_block (wp_mono (h a w hr) fun e a' w' ⟨s', h1, h2⟩ => by
    cases e with
    | exit id' =>
      simp only [blockS, Exit.inBlock] at h2 ⊢
      split
      · rename_i e; rw [if_pos e] at h2; exact ⟨s', h1, h2⟩
      · rename_i e; rw [if_neg e] at h2; exact ⟨s', h1, h2⟩
    | normal => exact ⟨s', h1, h2⟩
    | goto _ => exact ⟨s', h1, h2⟩
    | ret => exact ⟨s', h1, h2⟩
    | panic _ => exact ⟨s', h1, h2⟩
    | outgrown => exact ⟨s', h1, h2⟩)
theorem Sym.skip (h : Q .normal s) : Sym P c n .skip Q s := fun _ _ hr => wp_skip ⟨s, hr, h⟩
theorem Sym.exit {id : Nat} (h : Q (.exit id) s) : Sym P c n (.exit id) Q s := fun _ _ hr => wp_exit ⟨s, hr, h⟩
theorem Sym.ret (h : Q .ret s) : Sym P c n .ret Q s := fun _ _ hr => wp_ret ⟨s, hr, h⟩
theorem Sym.label {l : Nat} (h : Q .normal s) : Sym P c n (.label l) Q s := fun _ _ hr => wp_label ⟨s, hr, h⟩
theorem Sym.cond {t : Tmp} {b : Bool} (hc : TM.get s.tm t = some (true, .p (.x (.bool b)))) (hx : b = true → Sym P c n x Q s) (hy : b = false → Sym P c n y Q s) : Sym P c n (.cond (.tmp t) x y) Q s := by
  rintro a w ⟨β, S, h1, h2, h3, h4⟩
  have hb := ((h4 t _ _ hc).2.1 rfl)
  exact wp_cond_split (t := b) hb (fun e => hx e a w ⟨β, S, h1, h2, h3, h4⟩) fun e => hy e a w ⟨β, S, h1, h2, h3, h4⟩
theorem Sym.condT {t : Tmp} (hc : TM.get s.tm t = some (true, .p (.x (.bool true)))) (hx : Sym P c n x Q s) : Sym P c n (.cond (.tmp t) x y) Q s := Sym.cond hc (fun _ => hx) fun h => by cases h
theorem Sym.condF {t : Tmp} (hc : TM.get s.tm t = some (true, .p (.x (.bool false)))) (hy : Sym P c n y Q s) : Sym P c n (.cond (.tmp t) x y) Q s := Sym.cond hc (fun h => by cases h) fun _ => hy
/-- what holds in s holds in s', of which less is known -/
def Le (c : Ctx) (s s' : St) : Prop := ∀ n a w, SR c n s a w → SR c n s' a w
theorem Le.refl (c : Ctx) (s : St) : Le c s s := fun _ _ _ h => h
theorem Le.trans {c : Ctx} {s s' s'' : St} (h : Le c s s') (k : Le c s' s'') : Le c s s'' := fun n a w hr => k n a w (h n a w hr)
theorem Sym.weak {s' : St} (hw : Le c s s') (h : Sym P c n x Q s') : Sym P c n x Q s := fun a w hr => h a w (hw n a w hr)
theorem SymL.weak {s' : St} {ops : Array Oper} {l : List Oper} (hw : Le c s s') (h : SymL P c n ops Q l s') : SymL P c n ops Q l s := fun a w hr => h a w (hw n a w hr)
/-- a loop: I k: what holds when k bounds what is left -/
theorem Sym.loop (I : Nat → St → Prop) (k : Nat) (h0 : ∃ s', I k s' ∧ Le c s s') (round : ∀ k s, I k s → Sym P c n x (thenS (fun s' => ∃ k', k' < k ∧ ∃ s'', I k' s'' ∧ Le c s' s'') Q) s) : Sym P c n (.loop x) Q s := by
  intro a w hr b ks cs
  have key : ∀ k s a w, I k s → SR c n s a w →
      ∃ e a' w', (∃ s', SR c n s' a' w' ∧ Q e s') ∧ Arrives P (lone (b.at a (.code x :: .inLoop x :: ks)) cs w) b ks cs e a' w' := by
    intro k
    induction k using Nat.strongRecOn with
    | ind k ih =>
      intro s a w hI hr
      obtain ⟨e, a₁, w₁, ⟨s₁, hr₁, hq⟩, harr⟩ := round k s hI a w hr b (.inLoop x :: ks) cs
      cases e with
      | normal =>
        obtain ⟨k', hlt, s₂, hI', hw⟩ := hq
        obtain ⟨e₂, a₂, w₂, hq₂, harr₂⟩ := ih k' hlt s₂ a₁ w₁ hI' (hw _ _ _ hr₁)
        exact ⟨e₂, a₂, w₂, hq₂, .of_steps (Steps.trans harr (.one step_inLoop)) harr₂⟩
      | exit id => exact ⟨_, a₁, w₁, ⟨s₁, hr₁, hq⟩, .pass (x := .inLoop x) rfl (fun _ _ => .inl (by simp)) harr⟩
      | goto l => exact ⟨_, a₁, w₁, ⟨s₁, hr₁, hq⟩, .pass (x := .inLoop x) rfl (fun _ _ => .inl (by simp)) harr⟩
      | ret => exact ⟨_, a₁, w₁, ⟨s₁, hr₁, hq⟩, .pass (x := .inLoop x) rfl (fun _ _ => .inl (by simp)) harr⟩
      | panic ch => exact ⟨_, a₁, w₁, ⟨s₁, hr₁, hq⟩, .pass (x := .inLoop x) rfl (fun _ _ => .inl (by simp)) harr⟩
      | outgrown => exact ⟨_, a₁, w₁, ⟨s₁, hr₁, hq⟩, .pass (x := .inLoop x) rfl (fun _ _ => .inl (by simp)) harr⟩
  obtain ⟨s0, hI0, hw0⟩ := h0
  obtain ⟨e, a', w', hq, harr⟩ := key k s0 a w hI0 (hw0 _ _ _ hr)
  exact ⟨e, a', w', hq, .of_steps (.one step_loop) harr⟩
end

/-! ### forgetting -/
mutual
/-- does it lead to boxes ahead of k alone? -/
def D.upTo (k : Nat) : D → Bool
  | .p _ => true
  | .agg cs => D.upToL k cs
  | .tup cs => D.upToL k cs
  | .ptr i _ => Nat.blt i k
  | .row i _ => Nat.blt i k
  | .clo _ fs cs => D.upToL k fs && D.upToL k cs
  | .lit _ cs => D.upToL k cs
  | .refD cs => D.upToL k cs
  | .any => true
def D.upToL (k : Nat) : List D → Bool
  | [] => true
  | d :: ds => D.upTo k d && D.upToL k ds
end
def TM.upTo (k : Nat) : List (Nat × Bool × D) → Bool
  | [] => true
  | (_, _, d) :: l => d.upTo k && TM.upTo k l
def Hp.upTo (k : Nat) : List (Option Box) → Bool
  | [] => true
  | none :: l => Hp.upTo k l
  | some x :: l => D.upToL k x.cs && Hp.upTo k l
section
variable {β β' : List Place} {S : Nat → Prop} {w : World} {k : Nat}
mutual
theorem D.Rep.upTo (h : ∀ i, i < k → β'[i]? = β[i]?) : ∀ {d : D} {u : Value}, d.upTo k = true → d.Rep β S w u → d.Rep β' S w u
  | .p _, _, _, h => h
  | .agg _, _, hb, ⟨us, h1, h2⟩ => ⟨us, h1, D.RepL.upTo h hb h2⟩
  | .tup _, _, hb, ⟨us, h1, h2⟩ => ⟨us, h1, D.RepL.upTo h hb h2⟩
  | .ptr i _, _, hb, ⟨b, c, h1, h2⟩ => ⟨b, c, by rw [h i (by simpa [D.upTo] using hb)]; exact h1, h2⟩
  | .row i _, _, hb, hr => by
    have hi := h i (by simpa [D.upTo] using hb)
    rcases hr with ⟨h1, h2⟩ | ⟨b, c, h1, h2⟩
    · exact .inl ⟨by rw [hi]; exact h1, h2⟩
    · exact .inr ⟨b, c, by rw [hi]; exact h1, h2⟩
  | .clo _ _ _, _, hb, ⟨us, vs, h1, h2, h3⟩ => by
    simp only [D.upTo, Bool.and_eq_true] at hb
    exact ⟨us, vs, h1, D.RepL.upTo h hb.1 h2, D.RepL.upTo h hb.2 h3⟩
  | .lit _ _, _, hb, ⟨a, us, h1, h2, h3, h4⟩ => ⟨a, us, h1, h2, D.RepL.upTo h hb h3, h4⟩
  | .refD _, _, hb, ⟨a, us, h1, h3, h4⟩ => ⟨a, us, h1, D.RepL.upTo h hb h3, h4⟩
  | .any, _, _, _ => trivial
theorem D.RepL.upTo (h : ∀ i, i < k → β'[i]? = β[i]?) : ∀ {d : List D} {us : List Value}, D.upToL k d = true → D.RepL β S w d us → D.RepL β' S w d us
  | [], _, _, h => h
  | _ :: _, _, hb, ⟨y, ys, h1, h2, h3⟩ => by
    simp only [D.upToL, Bool.and_eq_true] at hb
    exact ⟨y, ys, h1, D.Rep.upTo h hb.1 h2, D.RepL.upTo h hb.2 h3⟩
end
end
/-- entries that s has as well -/
def TM.sub (tm : List (Nat × Bool × D)) : List (Nat × Bool × D) → Prop
  | [] => True
  | (t, g, d) :: l => TM.get tm t = some (g, d) ∧ TM.sub tm l
def Hp.sub : List (Option Box) → List (Option Box) → Prop
  | _, [] => True
  | a :: as, b :: bs => (b = none ∨ a = b) ∧ Hp.sub as bs
  | [], _ :: _ => False
structure Weak (s s' : St) : Prop where
  tm : TM.sub s.tm s'.tm
  H : Hp.sub s.H s'.H
  tb : TM.upTo s'.H.length s'.tm = true
  hb : Hp.upTo s'.H.length s'.H = true
section
variable {c : Ctx} {n : Nat} {s s' : St} {a : Act} {w : World}
theorem TM.sub_get {tm : List (Nat × Bool × D)} {t : Nat} {g : Bool} {d : D} {k : Nat} : ∀ {l : List (Nat × Bool × D)}, TM.sub tm l → TM.upTo k l = true → TM.get l t = some (g, d) → TM.get tm t = some (g, d) ∧ d.upTo k = true
  | [], _, _, h => by cases h
  | (t', g', d') :: l, hs, hb, h => by
    simp only [TM.upTo, Bool.and_eq_true] at hb
    rw [TM.get_cons] at h
    split at h
    · rename_i e
      subst e
      simp only [Option.some.injEq, Prod.mk.injEq] at h
      obtain ⟨rfl, rfl⟩ := h
      exact ⟨hs.1, hb.1⟩
    · exact TM.sub_get hs.2 hb.2 h
theorem Hp.sub_get : ∀ {l l' : List (Option Box)} {i : Nat} {x : Box}, Hp.sub l l' → l'[i]? = some (some x) → l[i]? = some (some x)
  | _, [], _, _, _, h => by simp at h
  | a :: as, b :: bs, 0, x, hs, h => by
    simp at h
    subst h
    rcases hs.1 with h | h
    · cases h
    · simp [h]
  | a :: as, b :: bs, i + 1, x, hs, h => by simpa using Hp.sub_get (i := i) hs.2 (by simpa using h)
  | [], _ :: _, _, _, hs, _ => hs.elim
theorem Hp.sub_len : ∀ {l l' : List (Option Box)}, Hp.sub l l' → l'.length ≤ l.length
  | _, [], _ => by simp
  | a :: as, b :: bs, hs => by simpa using Hp.sub_len hs.2
  | [], _ :: _, hs => hs.elim
theorem Hp.upTo_get {k : Nat} : ∀ {l : List (Option Box)} {i : Nat} {x : Box}, Hp.upTo k l = true → l[i]? = some (some x) → D.upToL k x.cs = true
  | [], _, _, _, h => by simp at h
  | none :: l, 0, _, _, h => by simp at h
  | none :: l, i + 1, _, hb, h => Hp.upTo_get (l := l) (i := i) (by simpa [Hp.upTo] using hb) (by simpa using h)
  | some y :: l, 0, _, hb, h => by
    simp at h
    subst h
    simp only [Hp.upTo, Bool.and_eq_true] at hb
    exact hb.1
  | some y :: l, i + 1, _, hb, h => by
    simp only [Hp.upTo, Bool.and_eq_true] at hb
    exact Hp.upTo_get (l := l) (i := i) hb.2 (by simpa using h)
theorem SR.weak (h : SR c n s a w) (hw : Weak s s') (hc : c.β0.length ≤ s'.H.length) : SR c n s' a w := by
  obtain ⟨β, S, hH, hd, hn, he⟩ := h
  have hle := Hp.sub_len hw.H
  have hb : ∀ i, i < s'.H.length → (β.take s'.H.length)[i]? = β[i]? := fun i hi => by rw [List.getElem?_take, if_pos hi]
  have hb2 : ∀ {i : Nat} {e : Place}, (β.take s'.H.length)[i]? = some e → β[i]? = some e := fun {i e} h => by
    rw [List.getElem?_take] at h
    split at h
    · exact h
    · cases h
  refine ⟨β.take s'.H.length, S, ⟨⟨hH.up, ?_, by rw [List.length_take, hH.len]; omega, ?_⟩, hH.sub, fun i b q hi => hH.own i b q (hb2 hi), hH.fr, ?_, ?_, hH.keepS, hH.os, hH.tape, hH.output, hH.size⟩, hd, hn, ?_⟩
  · intro i x hx
    have hi : i < s'.H.length := by
      rcases Nat.lt_or_ge i s'.H.length with h | h
      · exact h
      · rw [List.getElem?_eq_none h] at hx; cases hx
    rcases hH.box i x (Hp.sub_get hw.H hx) with ⟨h1, h2⟩ | ⟨b, q, cur, us, h1, h2, h3, h4, h5⟩
    · exact .inl ⟨by rw [hb i hi]; exact h1, h2⟩
    · exact .inr ⟨b, q, cur, us, by rw [hb i hi]; exact h1, h2, h3, D.RepL.upTo hb (Hp.upTo_get hw.hb hx) h4, h5⟩
  · intro i j x y b p q h1 h2 h3 h4
    exact hH.inj i j x y b p q (Hp.sub_get hw.H h1) (Hp.sub_get hw.H h2) (hb2 h3) (hb2 h4)
  · intro i e hi h1
    have h3 : i < s'.H.length := Nat.lt_of_lt_of_le (List.getElem?_eq_some_iff.1 h1).1 hc
    rw [hb i h3]
    exact hH.keep i e hi h1
  · rw [List.length_take, hH.len]
    omega
  · intro t g d hg
    obtain ⟨h1, h2⟩ := TM.sub_get hw.tm hw.tb hg
    obtain ⟨h3, h4, h5⟩ := he t g d h1
    exact ⟨h3, fun hg => D.Rep.upTo hb h2 (h4 hg), h5⟩
theorem Weak.le (hw : Weak s s') (hc : c.β0.length ≤ s'.H.length) : Le c s s' := fun _ _ _ h => h.weak hw hc
end
end Go.Sy
