/- Data without addresses, data with addresses of the call's own boxes, and how values stand for them. No program in sight. -/
import Derived.Test.YtblabchnpkofgaaLb
import Derived.Orders
set_option linter.unusedSimpArgs false
set_option linter.unusedVariables false
namespace Go.Sy
open Go.RowKit

/-- A datum without addresses. -/
inductive V where
  | x (u : Value)
  | sl (n : Nat) (cs : List V)
  | fl (n : Nat) (cs : List V)
  | agg (cs : List V)
  | tup (cs : List V)
  | ref (cs : List V)
  | ifc (t : TypeId) (d : V)

mutual
/-- u stands for the datum; S: the blocks that slices may lead to. -/
def V.Rep (S : Nat → Prop) (w : World) : V → Value → Prop
  | .x y, u => u = y
  | .sl n cs, u => ∃ a c us, u = .slice a n c ∧ n ≤ c ∧ c ≤ maxLen ∧ V.RepL S w cs us ∧ Cells S w a us
  | .fl n cs, u => ∃ a us, u = .slice a n n ∧ n ≤ maxLen ∧ V.RepL S w cs us ∧ Cells S w a us
  | .agg cs, u => ∃ us : List Value, u = .agg us.toArray ∧ V.RepL S w cs us
  | .tup cs, u => ∃ us : List Value, u = .tuple us.toArray ∧ V.RepL S w cs us
  | .ref cs, u => ∃ a us, u = .pointer (some a) ∧ V.RepL S w cs us ∧ Cells S w (some a) us
  | .ifc t d, u => ∃ y, u = .iface t y ∧ V.Rep S w d y
def V.RepL (S : Nat → Prop) (w : World) : List V → List Value → Prop
  | [], us => us = []
  | d :: ds, us => ∃ y ys, us = y :: ys ∧ V.Rep S w d y ∧ V.RepL S w ds ys
end

section
variable {S S' : Nat → Prop} {w w' : World}
mutual
theorem V.Rep.mono (e : ∀ b, S b → b < w.heap.size → w'.heap[b]? = w.heap[b]?) (hS : ∀ b, S b → b < w.heap.size → S' b) : ∀ {d : V} {u : Value}, d.Rep S w u → d.Rep S' w' u
  | .x _, _, h => h
  | .sl _ _, _, h => by
    obtain ⟨a, c, us, h1, h2, h3, h4, h5⟩ := h
    exact ⟨a, c, us, h1, h2, h3, V.RepL.mono e hS h4, (h5.mono (S' := fun b => S b ∧ b < w.heap.size) fun b hb hl => ⟨hb, hl⟩).frame (fun b hb _ => e b hb.1 hb.2) |>.mono fun b hb _ => hS b hb.1 hb.2⟩
  | .fl _ _, _, h => by
    obtain ⟨a, us, h1, h3, h4, h5⟩ := h
    exact ⟨a, us, h1, h3, V.RepL.mono e hS h4, (h5.mono (S' := fun b => S b ∧ b < w.heap.size) fun b hb hl => ⟨hb, hl⟩).frame (fun b hb _ => e b hb.1 hb.2) |>.mono fun b hb _ => hS b hb.1 hb.2⟩
  | .agg _, _, h => by
    obtain ⟨us, h1, h2⟩ := h
    exact ⟨us, h1, V.RepL.mono e hS h2⟩
  | .tup _, _, h => by
    obtain ⟨us, h1, h2⟩ := h
    exact ⟨us, h1, V.RepL.mono e hS h2⟩
  | .ref _, _, h => by
    obtain ⟨a, us, h1, h4, h5⟩ := h
    exact ⟨a, us, h1, V.RepL.mono e hS h4, (h5.mono (S' := fun b => S b ∧ b < w.heap.size) fun b hb hl => ⟨hb, hl⟩).frame (fun b hb _ => e b hb.1 hb.2) |>.mono fun b hb _ => hS b hb.1 hb.2⟩
  | .ifc _ _, _, h => by
    obtain ⟨y, h1, h2⟩ := h
    exact ⟨y, h1, V.Rep.mono e hS h2⟩
theorem V.RepL.mono (e : ∀ b, S b → b < w.heap.size → w'.heap[b]? = w.heap[b]?) (hS : ∀ b, S b → b < w.heap.size → S' b) : ∀ {d : List V} {us : List Value}, V.RepL S w d us → V.RepL S' w' d us
  | [], _, h => h
  | _ :: _, _, h => by
    obtain ⟨y, ys, h1, h2, h3⟩ := h
    exact ⟨y, ys, h1, V.Rep.mono e hS h2, V.RepL.mono e hS h3⟩
end
theorem V.RepL.len : ∀ {d : List V} {us : List Value}, V.RepL S w d us → us.length = d.length
  | [], _, h => by simp only [V.RepL] at h; subst h; rfl
  | _ :: _, _, h => by
    obtain ⟨y, ys, rfl, _, h3⟩ := h
    simp [V.RepL.len h3]
theorem V.RepL.get : ∀ {d : List V} {us : List Value} {i : Nat} {e : V}, V.RepL S w d us → d[i]? = some e → ∃ u, us[i]? = some u ∧ e.Rep S w u
  | [], _, _, _, _, h => by simp at h
  | _ :: _, _, 0, _, h, hi => by
    obtain ⟨y, ys, rfl, h2, _⟩ := h
    simp at hi; subst hi
    exact ⟨y, rfl, h2⟩
  | _ :: _, _, i + 1, _, h, hi => by
    obtain ⟨y, ys, rfl, _, h3⟩ := h
    simpa using h3.get (i := i) (by simpa using hi)
theorem V.RepL.app : ∀ {d e : List V} {us vs : List Value}, V.RepL S w d us → V.RepL S w e vs → V.RepL S w (d ++ e) (us ++ vs)
  | [], _, _, _, h, k => by simp only [V.RepL] at h; subst h; exact k
  | _ :: _, _, _, _, h, k => by
    obtain ⟨y, ys, rfl, h2, h3⟩ := h
    exact ⟨y, ys ++ _, rfl, h2, h3.app k⟩
theorem V.RepL.drop : ∀ {d : List V} {us : List Value} (k : Nat), V.RepL S w d us → V.RepL S w (d.drop k) (us.drop k)
  | _, _, 0, h => by simpa using h
  | [], _, _ + 1, h => by simp only [V.RepL] at h; subst h; simp [V.RepL]
  | _ :: _, _, k + 1, h => by
    obtain ⟨y, ys, rfl, _, h3⟩ := h
    simpa using h3.drop k
theorem V.RepL.take : ∀ {d : List V} {us : List Value} (k : Nat), V.RepL S w d us → V.RepL S w (d.take k) (us.take k)
  | _, _, 0, h => by simp [V.RepL]
  | [], _, _ + 1, h => by simp only [V.RepL] at h; subst h; simp [V.RepL]
  | _ :: _, _, k + 1, h => by
    obtain ⟨y, ys, rfl, h2, h3⟩ := h
    exact ⟨y, ys.take k, by simp, h2, h3.take k⟩
theorem V.RepL.x : ∀ {l : List Value}, V.RepL S w (l.map V.x) l
  | [] => rfl
  | _ :: _ => ⟨_, _, rfl, rfl, V.RepL.x⟩
theorem V.RepL.x_eq : ∀ {l us : List Value}, V.RepL S w (l.map V.x) us → us = l
  | [], _, h => h
  | _ :: _, _, h => by
    obtain ⟨y, ys, rfl, h2, h3⟩ := h
    rw [V.RepL.x_eq h3, show y = _ from h2]
theorem V.Rep.ext {d : V} {u : Value} (h : d.Rep S w u) (e : Ext w w') : d.Rep S w' u := h.mono (fun b _ hb => e.block b hb) fun b hb _ => hb
theorem V.RepL.ext {d : List V} {u : List Value} (h : V.RepL S w d u) (e : Ext w w') : V.RepL S w' d u := h.mono (fun b _ hb => e.block b hb) fun b hb _ => hb
theorem V.Rep.nil_sl {u : Value} (h : (V.x (.slice none 0 0)).Rep S w u) : (V.sl 0 []).Rep S w u :=
  ⟨none, 0, [], h, Nat.le_refl _, by simp [maxLen], rfl, Cells.nil⟩
theorem V.Rep.x_agg {u : Value} {l : List Value} (h : (V.x (.agg l.toArray)).Rep S w u) : (V.agg (l.map V.x)).Rep S w u := ⟨l, h, V.RepL.x⟩
end

/-- Where a box is: its block, and how many elements have room (0 in a plain one); none: it is no memory yet. -/
abbrev Place := Option (Nat × Nat)
/-- A datum that may lead to boxes of the call's own. -/
inductive D where
  | p (v : V)
  | agg (cs : List D)
  | tup (cs : List D)
  | ptr (i off : Nat)
  | row (i n : Nat)
  | clo (f : Fn) (fs cs : List D)
  | lit (n : Nat) (cs : List D)
  | refD (cs : List D)
  | any

mutual
def D.Rep (β : List Place) (S : Nat → Prop) (w : World) : D → Value → Prop
  | .p v, u => v.Rep S w u
  | .agg cs, u => ∃ us : List Value, u = .agg us.toArray ∧ D.RepL β S w cs us
  | .tup cs, u => ∃ us : List Value, u = .tuple us.toArray ∧ D.RepL β S w cs us
  | .ptr i off, u => ∃ b c, β[i]? = some (some (b, c)) ∧ u = .pointer (some ⟨b, off, none⟩)
  | .row i n, u => (β[i]? = some none ∧ n = 0 ∧ ∃ a, u = .slice a 0 0) ∨ ∃ b c, β[i]? = some (some (b, c)) ∧ n ≤ c ∧ u = .slice (some ⟨b, 0, none⟩) n c
  | .clo f fs cs, u => ∃ us vs : List Value, u = .func f us.toArray vs.toArray ∧ D.RepL β S w fs us ∧ D.RepL β S w cs vs
  | .lit n cs, u => ∃ (a : Option Addr) (us : List Value), u = .slice a n n ∧ n ≤ maxLen ∧ D.RepL β S w cs us ∧ Cells S w a us
  | .refD cs, u => ∃ (a : Addr) (us : List Value), u = .pointer (some a) ∧ D.RepL β S w cs us ∧ Cells S w (some a) us
  | .any, _ => True
def D.RepL (β : List Place) (S : Nat → Prop) (w : World) : List D → List Value → Prop
  | [], us => us = []
  | d :: ds, us => ∃ y ys, us = y :: ys ∧ D.Rep β S w d y ∧ D.RepL β S w ds ys
end
mutual
/-- does it not lead to box k? -/
def D.avoids (k : Nat) : D → Bool
  | .p _ => true
  | .agg cs => D.avoidsL k cs
  | .tup cs => D.avoidsL k cs
  | .ptr i _ => i != k
  | .row i _ => i != k
  | .clo _ fs cs => D.avoidsL k fs && D.avoidsL k cs
  | .lit _ cs => D.avoidsL k cs
  | .refD cs => D.avoidsL k cs
  | .any => true
def D.avoidsL (k : Nat) : List D → Bool
  | [] => true
  | d :: ds => D.avoids k d && D.avoidsL k ds
end

section
variable {β β' : List Place} {S S' : Nat → Prop} {w w' : World}
mutual
theorem D.Rep.mono (hβ : ∀ (i : Nat) (e : Place), β[i]? = some e → β'[i]? = some e) (e : ∀ b, S b → b < w.heap.size → w'.heap[b]? = w.heap[b]?) (hS : ∀ b, S b → b < w.heap.size → S' b) :
    ∀ {d : D} {u : Value}, d.Rep β S w u → d.Rep β' S' w' u
  | .p _, _, h => V.Rep.mono e hS h
  | .agg _, _, h => by
    obtain ⟨us, h1, h2⟩ := h
    exact ⟨us, h1, D.RepL.mono hβ e hS h2⟩
  | .tup _, _, h => by
    obtain ⟨us, h1, h2⟩ := h
    exact ⟨us, h1, D.RepL.mono hβ e hS h2⟩
  | .ptr _ _, _, h => by
    obtain ⟨b, c, h1, h2⟩ := h
    exact ⟨b, c, hβ _ _ h1, h2⟩
  | .row _ _, _, h => by
    rcases h with ⟨h1, h2⟩ | ⟨b, c, h1, h2⟩
    · exact .inl ⟨hβ _ _ h1, h2⟩
    · exact .inr ⟨b, c, hβ _ _ h1, h2⟩
  | .clo _ _ _, _, h => by
    obtain ⟨us, vs, h1, h2, h3⟩ := h
    exact ⟨us, vs, h1, D.RepL.mono hβ e hS h2, D.RepL.mono hβ e hS h3⟩
  | .lit _ _, _, h => by
    obtain ⟨a, us, h1, h3, h4, h5⟩ := h
    exact ⟨a, us, h1, h3, D.RepL.mono hβ e hS h4, (h5.mono (S' := fun b => S b ∧ b < w.heap.size) fun b hb hl => ⟨hb, hl⟩).frame (fun b hb _ => e b hb.1 hb.2) |>.mono fun b hb _ => hS b hb.1 hb.2⟩
  | .refD _, _, h => by
    obtain ⟨a, us, h1, h4, h5⟩ := h
    exact ⟨a, us, h1, D.RepL.mono hβ e hS h4, (h5.mono (S' := fun b => S b ∧ b < w.heap.size) fun b hb hl => ⟨hb, hl⟩).frame (fun b hb _ => e b hb.1 hb.2) |>.mono fun b hb _ => hS b hb.1 hb.2⟩
  | .any, _, _ => trivial
theorem D.RepL.mono (hβ : ∀ (i : Nat) (e : Place), β[i]? = some e → β'[i]? = some e) (e : ∀ b, S b → b < w.heap.size → w'.heap[b]? = w.heap[b]?) (hS : ∀ b, S b → b < w.heap.size → S' b) :
    ∀ {d : List D} {us : List Value}, D.RepL β S w d us → D.RepL β' S' w' d us
  | [], _, h => h
  | _ :: _, _, h => by
    obtain ⟨y, ys, h1, h2, h3⟩ := h
    exact ⟨y, ys, h1, D.Rep.mono hβ e hS h2, D.RepL.mono hβ e hS h3⟩
end
mutual
/-- what does not lead to box k stands whatever becomes of it -/
theorem D.Rep.avoid {k : Nat} (hβ : ∀ (i : Nat) (e : Place), i ≠ k → β[i]? = some e → β'[i]? = some e) (e : ∀ b, S b → b < w.heap.size → w'.heap[b]? = w.heap[b]?) (hS : ∀ b, S b → b < w.heap.size → S' b) :
    ∀ {d : D} {u : Value}, d.avoids k = true → d.Rep β S w u → d.Rep β' S' w' u
  | .p _, _, _, h => V.Rep.mono e hS h
  | .agg _, _, ha, h => by
    obtain ⟨us, h1, h2⟩ := h
    exact ⟨us, h1, D.RepL.avoid hβ e hS ha h2⟩
  | .tup _, _, ha, h => by
    obtain ⟨us, h1, h2⟩ := h
    exact ⟨us, h1, D.RepL.avoid hβ e hS ha h2⟩
  | .ptr i _, _, ha, h => by
    obtain ⟨b, c, h1, h2⟩ := h
    exact ⟨b, c, hβ _ _ (by simpa [D.avoids] using ha) h1, h2⟩
  | .row i _, _, ha, h => by
    have hne : i ≠ k := by simpa [D.avoids] using ha
    rcases h with ⟨h1, h2⟩ | ⟨b, c, h1, h2⟩
    · exact .inl ⟨hβ _ _ hne h1, h2⟩
    · exact .inr ⟨b, c, hβ _ _ hne h1, h2⟩
  | .clo _ _ _, _, ha, h => by
    obtain ⟨us, vs, h1, h2, h3⟩ := h
    simp only [D.avoids, Bool.and_eq_true] at ha
    exact ⟨us, vs, h1, D.RepL.avoid hβ e hS ha.1 h2, D.RepL.avoid hβ e hS ha.2 h3⟩
  | .lit _ _, _, ha, h => by
    obtain ⟨a, us, h1, h3, h4, h5⟩ := h
    exact ⟨a, us, h1, h3, D.RepL.avoid hβ e hS ha h4, (h5.mono (S' := fun b => S b ∧ b < w.heap.size) fun b hb hl => ⟨hb, hl⟩).frame (fun b hb _ => e b hb.1 hb.2) |>.mono fun b hb _ => hS b hb.1 hb.2⟩
  | .refD _, _, ha, h => by
    obtain ⟨a, us, h1, h4, h5⟩ := h
    exact ⟨a, us, h1, D.RepL.avoid hβ e hS ha h4, (h5.mono (S' := fun b => S b ∧ b < w.heap.size) fun b hb hl => ⟨hb, hl⟩).frame (fun b hb _ => e b hb.1 hb.2) |>.mono fun b hb _ => hS b hb.1 hb.2⟩
  | .any, _, _, _ => trivial
theorem D.RepL.avoid {k : Nat} (hβ : ∀ (i : Nat) (e : Place), i ≠ k → β[i]? = some e → β'[i]? = some e) (e : ∀ b, S b → b < w.heap.size → w'.heap[b]? = w.heap[b]?) (hS : ∀ b, S b → b < w.heap.size → S' b) :
    ∀ {d : List D} {us : List Value}, D.avoidsL k d = true → D.RepL β S w d us → D.RepL β' S' w' d us
  | [], _, _, h => h
  | _ :: _, _, ha, h => by
    obtain ⟨y, ys, h1, h2, h3⟩ := h
    simp only [D.avoidsL, Bool.and_eq_true] at ha
    exact ⟨y, ys, h1, D.Rep.avoid hβ e hS ha.1 h2, D.RepL.avoid hβ e hS ha.2 h3⟩
end
theorem D.RepL.len : ∀ {d : List D} {us : List Value}, D.RepL β S w d us → us.length = d.length
  | [], _, h => by simp only [D.RepL] at h; subst h; rfl
  | _ :: _, _, h => by
    obtain ⟨y, ys, rfl, _, h3⟩ := h
    simp [D.RepL.len h3]
theorem D.RepL.get : ∀ {d : List D} {us : List Value} {i : Nat} {e : D}, D.RepL β S w d us → d[i]? = some e → ∃ u, us[i]? = some u ∧ e.Rep β S w u
  | [], _, _, _, _, h => by simp at h
  | _ :: _, _, 0, _, h, hi => by
    obtain ⟨y, ys, rfl, h2, _⟩ := h
    simp at hi; subst hi
    exact ⟨y, rfl, h2⟩
  | _ :: _, _, i + 1, _, h, hi => by
    obtain ⟨y, ys, rfl, _, h3⟩ := h
    simpa using h3.get (i := i) (by simpa using hi)
theorem D.RepL.app : ∀ {d e : List D} {us vs : List Value}, D.RepL β S w d us → D.RepL β S w e vs → D.RepL β S w (d ++ e) (us ++ vs)
  | [], _, _, _, h, k => by simp only [D.RepL] at h; subst h; exact k
  | _ :: _, _, _, _, h, k => by
    obtain ⟨y, ys, rfl, h2, h3⟩ := h
    exact ⟨y, ys ++ _, rfl, h2, h3.app k⟩
theorem D.RepL.drop : ∀ {d : List D} {us : List Value} (k : Nat), D.RepL β S w d us → D.RepL β S w (d.drop k) (us.drop k)
  | _, _, 0, h => by simpa using h
  | [], _, _ + 1, h => by simp only [D.RepL] at h; subst h; simp [D.RepL]
  | _ :: _, _, k + 1, h => by
    obtain ⟨y, ys, rfl, _, h3⟩ := h
    simpa using h3.drop k
theorem D.RepL.take : ∀ {d : List D} {us : List Value} (k : Nat), D.RepL β S w d us → D.RepL β S w (d.take k) (us.take k)
  | _, _, 0, h => by simp [D.RepL]
  | [], _, _ + 1, h => by simp only [D.RepL] at h; subst h; simp [D.RepL]
  | _ :: _, _, k + 1, h => by
    obtain ⟨y, ys, rfl, h2, h3⟩ := h
    exact ⟨y, ys.take k, by simp, h2, h3.take k⟩
theorem D.RepL.set : ∀ {d : List D} {us : List Value} (k : Nat) {e : D} {u : Value}, D.RepL β S w d us → e.Rep β S w u → D.RepL β S w (d.set k e) (us.set k u)
  | [], _, _, _, _, h, _ => by simp only [D.RepL] at h; subst h; simp [D.RepL]
  | _ :: _, _, 0, _, _, h, hu => by
    obtain ⟨y, ys, rfl, h2, h3⟩ := h
    exact ⟨_, _, rfl, hu, h3⟩
  | _ :: _, _, k + 1, _, _, h, hu => by
    obtain ⟨y, ys, rfl, h2, h3⟩ := h
    exact ⟨_, _, rfl, h2, h3.set k hu⟩
theorem D.RepL.p : ∀ {d : List V} {us : List Value}, V.RepL S w d us → D.RepL β S w (d.map D.p) us
  | [], _, h => h
  | _ :: _, _, h => by
    obtain ⟨y, ys, h1, h2, h3⟩ := h
    exact ⟨y, ys, h1, h2, D.RepL.p h3⟩
mutual
/-- is it without addresses? -/
def D.toV : D → Option V
  | .p v => some v
  | .agg cs => (D.toVL cs).map V.agg
  | .tup cs => (D.toVL cs).map V.tup
  | _ => none
def D.toVL : List D → Option (List V)
  | [] => some []
  | d :: ds => match D.toV d, D.toVL ds with
    | some v, some vs => some (v :: vs)
    | _, _ => none
end
theorem D.toVL_p : ∀ (l : List V), D.toVL (l.map D.p) = some l
  | [] => rfl
  | _ :: l => by simp [D.toVL, D.toV, D.toVL_p l]
mutual
theorem D.Rep.toV : ∀ {d : D} {v : V} {u : Value}, d.toV = some v → d.Rep β S w u → v.Rep S w u
  | .p _, _, _, hv, h => by simp only [D.toV, Option.some.injEq] at hv; subst hv; exact h
  | .agg _, _, _, hv, h => by
    obtain ⟨us, h1, h2⟩ := h
    simp only [D.toV, Option.map_eq_some_iff] at hv
    obtain ⟨vs, hv, rfl⟩ := hv
    exact ⟨us, h1, D.RepL.toV hv h2⟩
  | .tup _, _, _, hv, h => by
    obtain ⟨us, h1, h2⟩ := h
    simp only [D.toV, Option.map_eq_some_iff] at hv
    obtain ⟨vs, hv, rfl⟩ := hv
    exact ⟨us, h1, D.RepL.toV hv h2⟩
  | .ptr _ _, _, _, hv, _ => by simp [D.toV] at hv
  | .row _ _, _, _, hv, _ => by simp [D.toV] at hv
  | .clo _ _ _, _, _, hv, _ => by simp [D.toV] at hv
  | .lit _ _, _, _, hv, _ => by simp [D.toV] at hv
  | .refD _, _, _, hv, _ => by simp [D.toV] at hv
  | .any, _, _, hv, _ => by simp [D.toV] at hv
theorem D.RepL.toV : ∀ {d : List D} {vs : List V} {us : List Value}, D.toVL d = some vs → D.RepL β S w d us → V.RepL S w vs us
  | [], _, _, hv, h => by simp only [D.toVL, Option.some.injEq] at hv; subst hv; exact h
  | d :: ds, _, _, hv, h => by
    obtain ⟨y, ys, h1, h2, h3⟩ := h
    simp only [D.toVL] at hv
    split at hv
    · rename_i v vs e1 e2
      injection hv with hv
      subst hv
      exact ⟨y, ys, h1, D.Rep.toV e1 h2, D.RepL.toV e2 h3⟩
    · cases hv
end
theorem D.Rep.ext {d : D} {u : Value} (h : d.Rep β S w u) (e : Ext w w') : d.Rep β S w' u := h.mono (fun _ _ h => h) (fun b _ hb => e.block b hb) fun b hb _ => hb
theorem D.RepL.ext {d : List D} {u : List Value} (h : D.RepL β S w d u) (e : Ext w w') : D.RepL β S w' d u := h.mono (fun _ _ h => h) (fun b _ hb => e.block b hb) fun b hb _ => hb
end
end Go.Sy
