/- Cuts between two pieces of code. No program in sight. -/
import Derived.Test.YtblabchnpkofgaaDo
set_option linter.unusedSimpArgs false
set_option linter.unusedVariables false
namespace Go.Sy
open Go.RowKit
/-- where the first piece may end: in one of these states, or in one of which more is known -/
def cutS {α : Type} (c : Ctx) (I : α → St) (good : α → Prop) : Exit → St → Prop
  | .normal, s => ∃ a, good a ∧ Le c s (I a)
  | _, _ => False
section
variable {P : Program} {c : Ctx} {n : Nat} {Q : Exit → St → Prop} {s : St} {x y : Code} {α : Type}
theorem Sym.cut (I : α → St) (good : α → Prop) (h1 : Sym P c n x (cutS c I good) s) (h2 : ∀ a, good a → Sym P c n y Q (I a)) : Sym P c n (.seq x y) Q s := by
  refine Sym.seq (h1.mono fun e s' hs => ?_)
  cases e with
  | normal =>
    obtain ⟨a, ha, hl⟩ := hs
    exact (h2 a ha).weak hl
  | exit _ => exact hs.elim
  | goto _ => exact hs.elim
  | ret => exact hs.elim
  | panic _ => exact hs.elim
  | outgrown => exact hs.elim
theorem Sym.cutT {Q' : Exit → St → Prop} (I : α → St) (good : α → Prop) (h1 : Sym P c n x (cutS c I good) s) (h2 : ∀ a, good a → Sym P c n y Q (I a)) : Sym P c n x (thenS (Sym P c n y Q) Q') s := by
  refine h1.mono fun e s' hs => ?_
  cases e with
  | normal =>
    obtain ⟨a, ha, hl⟩ := hs
    exact (h2 a ha).weak hl
  | exit _ => exact hs.elim
  | goto _ => exact hs.elim
  | ret => exact hs.elim
  | panic _ => exact hs.elim
  | outgrown => exact hs.elim
theorem cutS.nx {I : α → St} {good : α → Prop} (a : α) (ha : good a) (hl : Le c s (I a)) : cutS c I good .normal s := ⟨a, ha, hl⟩
end
theorem VLeL.same : ∀ l : List V, VLeL l l
  | [] => .nil
  | _ :: l => .cons (.refl _) (VLeL.same l)
/-- a row that is handed out -/
theorem DVr.list {α : Type} (enc : α → List V) (l : List α) {m i : Nat} {H : List (Option Box)} {e : TypeId} {sz : Nat} (h : H[i]? = some (some ⟨D.enc enc l, e, sz⟩)) (hsz : ∀ q, (enc q).length = sz) (hz : Nat.blt 0 sz = true) (hm : Nat.ble m i = true) : DVr m H (.row i l.length) (V.list enc l) := by
  have hz : 0 < sz := by simpa using hz
  exact .row h (D.toVL_p _) (by show sz ≠ 0; omega) (by simp [flat_len hsz]) hm (VLeL.same _)
inductive DLeL : List D → List D → Prop
  | nil : DLeL [] []
  | cons {a b : D} {as bs : List D} : DLe a b → DLeL as bs → DLeL (a :: as) (b :: bs)
theorem DLeL.rep {β : List Place} {S : Nat → Prop} {w : World} : ∀ {a b : List D} {us : List Value}, DLeL a b → D.RepL β S w a us → D.RepL β S w b us
  | _, _, _, .nil, h => h
  | _, _, _, .cons k1 k2, ⟨y, ys, h1, h2, h3⟩ => ⟨y, ys, h1, k1.rep h2, DLeL.rep k2 h3⟩
/-- what a box holds, as something of which less is known -/
theorem Le.cells {c : Ctx} {tm : List (Nat × Bool × D)} {H : List (Option Box)} (k : Nat) {x : Box} {cs' : List D} (hx : H[k]? = some (some x)) (h : DLeL x.cs cs') {H' : List (Option Box)} (hH : H.set k (some ⟨cs', x.e, x.sz⟩) = H') : Le c ⟨tm, H⟩ ⟨tm, H'⟩ := by
  subst hH
  rintro n a w ⟨β, S, hH, hd, hn, he⟩
  have hk := (List.getElem?_eq_some_iff.1 hx).1
  have hget : ∀ (i : Nat) (y : Box), (H.set k (some ⟨cs', x.e, x.sz⟩))[i]? = some (some y) → (i = k ∧ y = ⟨cs', x.e, x.sz⟩) ∨ (H[i]? = some (some y)) := by
    intro i y hy
    rw [List.getElem?_set] at hy
    split at hy
    · rename_i e
      subst e
      first
        | (rw [if_pos hk] at hy; simp at hy; exact .inl ⟨rfl, hy.symm⟩)
        | (simp at hy; exact .inl ⟨rfl, hy.symm⟩)
    · exact .inr hy
  have hlive : ∀ (i : Nat) (y : Box), (H.set k (some ⟨cs', x.e, x.sz⟩))[i]? = some (some y) → ∃ z, H[i]? = some (some z) := by
    intro i y hy
    rcases hget i y hy with ⟨rfl, _⟩ | h
    · exact ⟨x, hx⟩
    · exact ⟨y, h⟩
  refine ⟨β, S, { hH with box := ?_, len := by rw [List.length_set]; exact hH.len, inj := ?_ }, hd, hn, he⟩
  · intro i y hy
    rcases hget i y hy with ⟨rfl, rfl⟩ | hy
    · rcases hH.box i x hx with ⟨h1, h2, h3⟩ | ⟨b, q, cur, us, h1, h2, h3, h4, h5⟩
      · refine .inl ⟨h1, h2, ?_⟩
        rw [h3] at h
        cases h
        rfl
      · exact .inr ⟨b, q, cur, us, h1, h2, h3, h.rep h4, h5⟩
    · exact hH.box i y hy
  · intro i j y z b p q hy hz
    obtain ⟨y', hy'⟩ := hlive i y hy
    obtain ⟨z', hz'⟩ := hlive j z hz
    exact hH.inj i j y' z' b p q hy' hz'
theorem FnB.dle {P : Program} {f : FuncId} {ds : List D} {H0 H1 : List (Option Box)} {r r' : D} (h : FnB P f ds H0 r H1) (hr : DLe r r') : FnB P f ds H0 r' H1 := ⟨h.enter, h.ids, h.hids, fun β S w us hH hd => (h.calls β S w us hH hd).mono fun e w' ⟨u, β1, S1, h1, h2, h3⟩ => ⟨u, β1, S1, h1, h2, hr.rep h3⟩⟩
end Go.Sy
