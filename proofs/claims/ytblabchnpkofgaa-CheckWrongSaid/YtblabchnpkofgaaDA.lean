/- Data without addresses, data with addresses of the call's own boxes, and how values stand for them. No program in sight. States of a call, what it means to walk code over them, and regions, also those whose order is open. No program in sight. Rules for code, and for operations that only add memory. No program in sight. Operations that only add memory, one law each; calls. No program in sight. Operations that only add memory: memory, aggregates, slices, calls. No program in sight. Operations that make boxes, write into them, or let rows grow; where a function begins and ends. No program in sight. Where a function begins and ends. No program in sight. Literals of structs and slices; slices of slices; rows that grow. No program in sight. Rows of the call's own that grow. No program in sight. -/
import Derived.Test.YtblabchnpkofgaaLb
import Derived.Orders
import Derived.ChangeKeysEq
import Derived.Laws.CopyRow
import Derived.WalkKit
import Derived.WalkSpells
set_option linter.unusedSimpArgs false
set_option linter.unusedVariables false
namespace Go.Sy
open Go.RowKit

/-- A datum without addresses. -/
inductive V where
  | x (u : Value)
  | sl (n : Nat) (cs : List V)
  | fl (n : Nat) (cs : List V)
  | agg (cs : List V)
  | tup (cs : List V)
  | ref (cs : List V)
  | ifc (t : TypeId) (d : V)

mutual
/-- u stands for the datum; S: the blocks that slices may lead to. -/
def V.Rep (S : Nat → Prop) (w : World) : V → Value → Prop
  | .x y, u => u = y
  | .sl n cs, u => ∃ a c us, u = .slice a n c ∧ n ≤ c ∧ c ≤ maxLen ∧ V.RepL S w cs us ∧ Cells S w a us
  | .fl n cs, u => ∃ a us, u = .slice a n n ∧ n ≤ maxLen ∧ V.RepL S w cs us ∧ Cells S w a us
  | .agg cs, u => ∃ us : List Value, u = .agg us.toArray ∧ V.RepL S w cs us
  | .tup cs, u => ∃ us : List Value, u = .tuple us.toArray ∧ V.RepL S w cs us
  | .ref cs, u => ∃ a us, u = .pointer (some a) ∧ V.RepL S w cs us ∧ Cells S w (some a) us
  | .ifc t d, u => ∃ y, u = .iface t y ∧ V.Rep S w d y
def V.RepL (S : Nat → Prop) (w : World) : List V → List Value → Prop
  | [], us => us = []
  | d :: ds, us => ∃ y ys, us = y :: ys ∧ V.Rep S w d y ∧ V.RepL S w ds ys
end

section
variable {S S' : Nat → Prop} {w w' : World}
mutual
theorem V.Rep.mono (e : ∀ b, S b → b < w.heap.size → w'.heap[b]? = w.heap[b]?) (hS : ∀ b, S b → b < w.heap.size → S' b) : ∀ {d : V} {u : Value}, d.Rep S w u → d.Rep S' w' u
  | .x _, _, h => h
  | .sl _ _, _, h => by
    obtain ⟨a, c, us, h1, h2, h3, h4, h5⟩ := h
    exact ⟨a, c, us, h1, h2, h3, V.RepL.mono e hS h4, (h5.mono (S' := fun b => S b ∧ b < w.heap.size) fun b hb hl => ⟨hb, hl⟩).frame (fun b hb _ => e b hb.1 hb.2) |>.mono fun b hb _ => hS b hb.1 hb.2⟩
  | .fl _ _, _, h => by
    obtain ⟨a, us, h1, h3, h4, h5⟩ := h
    exact ⟨a, us, h1, h3, V.RepL.mono e hS h4, (h5.mono (S' := fun b => S b ∧ b < w.heap.size) fun b hb hl => ⟨hb, hl⟩).frame (fun b hb _ => e b hb.1 hb.2) |>.mono fun b hb _ => hS b hb.1 hb.2⟩
  | .agg _, _, h => by
    obtain ⟨us, h1, h2⟩ := h
    exact ⟨us, h1, V.RepL.mono e hS h2⟩
  | .tup _, _, h => by
    obtain ⟨us, h1, h2⟩ := h
    exact ⟨us, h1, V.RepL.mono e hS h2⟩
  | .ref _, _, h => by
    obtain ⟨a, us, h1, h4, h5⟩ := h
    exact ⟨a, us, h1, V.RepL.mono e hS h4, (h5.mono (S' := fun b => S b ∧ b < w.heap.size) fun b hb hl => ⟨hb, hl⟩).frame (fun b hb _ => e b hb.1 hb.2) |>.mono fun b hb _ => hS b hb.1 hb.2⟩
  | .ifc _ _, _, h => by
    obtain ⟨y, h1, h2⟩ := h
    exact ⟨y, h1, V.Rep.mono e hS h2⟩
theorem V.RepL.mono (e : ∀ b, S b → b < w.heap.size → w'.heap[b]? = w.heap[b]?) (hS : ∀ b, S b → b < w.heap.size → S' b) : ∀ {d : List V} {us : List Value}, V.RepL S w d us → V.RepL S' w' d us
  | [], _, h => h
  | _ :: _, _, h => by
    obtain ⟨y, ys, h1, h2, h3⟩ := h
    exact ⟨y, ys, h1, V.Rep.mono e hS h2, V.RepL.mono e hS h3⟩
end
theorem V.RepL.len : ∀ {d : List V} {us : List Value}, V.RepL S w d us → us.length = d.length
  | [], _, h => by simp only [V.RepL] at h; subst h; rfl
  | _ :: _, _, h => by
    obtain ⟨y, ys, rfl, _, h3⟩ := h
    simp [V.RepL.len h3]
theorem V.RepL.get : ∀ {d : List V} {us : List Value} {i : Nat} {e : V}, V.RepL S w d us → d[i]? = some e → ∃ u, us[i]? = some u ∧ e.Rep S w u
  | [], _, _, _, _, h => by simp at h
  | _ :: _, _, 0, _, h, hi => by
    obtain ⟨y, ys, rfl, h2, _⟩ := h
    simp at hi; subst hi
    exact ⟨y, rfl, h2⟩
  | _ :: _, _, i + 1, _, h, hi => by
    obtain ⟨y, ys, rfl, _, h3⟩ := h
    simpa using h3.get (i := i) (by simpa using hi)
theorem V.RepL.app : ∀ {d e : List V} {us vs : List Value}, V.RepL S w d us → V.RepL S w e vs → V.RepL S w (d ++ e) (us ++ vs)
  | [], _, _, _, h, k => by simp only [V.RepL] at h; subst h; exact k
  | _ :: _, _, _, _, h, k => by
    obtain ⟨y, ys, rfl, h2, h3⟩ := h
    exact ⟨y, ys ++ _, rfl, h2, h3.app k⟩
theorem V.RepL.drop : ∀ {d : List V} {us : List Value} (k : Nat), V.RepL S w d us → V.RepL S w (d.drop k) (us.drop k)
  | _, _, 0, h => by simpa using h
  | [], _, _ + 1, h => by simp only [V.RepL] at h; subst h; simp [V.RepL]
  | _ :: _, _, k + 1, h => by
    obtain ⟨y, ys, rfl, _, h3⟩ := h
    simpa using h3.drop k
theorem V.RepL.take : ∀ {d : List V} {us : List Value} (k : Nat), V.RepL S w d us → V.RepL S w (d.take k) (us.take k)
  | _, _, 0, h => by simp [V.RepL]
  | [], _, _ + 1, h => by simp only [V.RepL] at h; subst h; simp [V.RepL]
  | _ :: _, _, k + 1, h => by
    obtain ⟨y, ys, rfl, h2, h3⟩ := h
    exact ⟨y, ys.take k, by simp, h2, h3.take k⟩
theorem V.RepL.x : ∀ {l : List Value}, V.RepL S w (l.map V.x) l
  | [] => rfl
  | _ :: _ => ⟨_, _, rfl, rfl, V.RepL.x⟩
theorem V.RepL.x_eq : ∀ {l us : List Value}, V.RepL S w (l.map V.x) us → us = l
  | [], _, h => h
  | _ :: _, _, h => by
    obtain ⟨y, ys, rfl, h2, h3⟩ := h
    rw [V.RepL.x_eq h3, show y = _ from h2]
theorem V.Rep.ext {d : V} {u : Value} (h : d.Rep S w u) (e : Ext w w') : d.Rep S w' u := h.mono (fun b _ hb => e.block b hb) fun b hb _ => hb
theorem V.RepL.ext {d : List V} {u : List Value} (h : V.RepL S w d u) (e : Ext w w') : V.RepL S w' d u := h.mono (fun b _ hb => e.block b hb) fun b hb _ => hb
theorem V.Rep.nil_sl {u : Value} (h : (V.x (.slice none 0 0)).Rep S w u) : (V.sl 0 []).Rep S w u :=
  ⟨none, 0, [], h, Nat.le_refl _, by simp [maxLen], rfl, Cells.nil⟩
theorem V.Rep.x_agg {u : Value} {l : List Value} (h : (V.x (.agg l.toArray)).Rep S w u) : (V.agg (l.map V.x)).Rep S w u := ⟨l, h, V.RepL.x⟩
end

/-- Where a box is: its block, and how many elements have room (0 in a plain one); none: it is no memory yet. -/
abbrev Place := Option (Nat × Nat)
/-- A datum that may lead to boxes of the call's own. -/
inductive D where
  | p (v : V)
  | agg (cs : List D)
  | tup (cs : List D)
  | ptr (i off : Nat)
  | row (i n : Nat)
  | clo (f : Fn) (fs cs : List D)
  | lit (n : Nat) (cs : List D)
  | refD (cs : List D)
  | any

mutual
def D.Rep (β : List Place) (S : Nat → Prop) (w : World) : D → Value → Prop
  | .p v, u => v.Rep S w u
  | .agg cs, u => ∃ us : List Value, u = .agg us.toArray ∧ D.RepL β S w cs us
  | .tup cs, u => ∃ us : List Value, u = .tuple us.toArray ∧ D.RepL β S w cs us
  | .ptr i off, u => ∃ b c, β[i]? = some (some (b, c)) ∧ u = .pointer (some ⟨b, off, none⟩)
  | .row i n, u => (β[i]? = some none ∧ n = 0 ∧ ∃ a, u = .slice a 0 0) ∨ ∃ b c, β[i]? = some (some (b, c)) ∧ n ≤ c ∧ u = .slice (some ⟨b, 0, none⟩) n c
  | .clo f fs cs, u => ∃ us vs : List Value, u = .func f us.toArray vs.toArray ∧ D.RepL β S w fs us ∧ D.RepL β S w cs vs
  | .lit n cs, u => ∃ (a : Option Addr) (us : List Value), u = .slice a n n ∧ n ≤ maxLen ∧ D.RepL β S w cs us ∧ Cells S w a us
  | .refD cs, u => ∃ (a : Addr) (us : List Value), u = .pointer (some a) ∧ D.RepL β S w cs us ∧ Cells S w (some a) us
  | .any, _ => True
def D.RepL (β : List Place) (S : Nat → Prop) (w : World) : List D → List Value → Prop
  | [], us => us = []
  | d :: ds, us => ∃ y ys, us = y :: ys ∧ D.Rep β S w d y ∧ D.RepL β S w ds ys
end
mutual
/-- does it not lead to box k? -/
def D.avoids (k : Nat) : D → Bool
  | .p _ => true
  | .agg cs => D.avoidsL k cs
  | .tup cs => D.avoidsL k cs
  | .ptr i _ => i != k
  | .row i _ => i != k
  | .clo _ fs cs => D.avoidsL k fs && D.avoidsL k cs
  | .lit _ cs => D.avoidsL k cs
  | .refD cs => D.avoidsL k cs
  | .any => true
def D.avoidsL (k : Nat) : List D → Bool
  | [] => true
  | d :: ds => D.avoids k d && D.avoidsL k ds
end

section
variable {β β' : List Place} {S S' : Nat → Prop} {w w' : World}
mutual
theorem D.Rep.mono (hβ : ∀ (i : Nat) (e : Place), β[i]? = some e → β'[i]? = some e) (e : ∀ b, S b → b < w.heap.size → w'.heap[b]? = w.heap[b]?) (hS : ∀ b, S b → b < w.heap.size → S' b) :
    ∀ {d : D} {u : Value}, d.Rep β S w u → d.Rep β' S' w' u
  | .p _, _, h => V.Rep.mono e hS h
  | .agg _, _, h => by
    obtain ⟨us, h1, h2⟩ := h
    exact ⟨us, h1, D.RepL.mono hβ e hS h2⟩
  | .tup _, _, h => by
    obtain ⟨us, h1, h2⟩ := h
    exact ⟨us, h1, D.RepL.mono hβ e hS h2⟩
  | .ptr _ _, _, h => by
    obtain ⟨b, c, h1, h2⟩ := h
    exact ⟨b, c, hβ _ _ h1, h2⟩
  | .row _ _, _, h => by
    rcases h with ⟨h1, h2⟩ | ⟨b, c, h1, h2⟩
    · exact .inl ⟨hβ _ _ h1, h2⟩
    · exact .inr ⟨b, c, hβ _ _ h1, h2⟩
  | .clo _ _ _, _, h => by
    obtain ⟨us, vs, h1, h2, h3⟩ := h
    exact ⟨us, vs, h1, D.RepL.mono hβ e hS h2, D.RepL.mono hβ e hS h3⟩
  | .lit _ _, _, h => by
    obtain ⟨a, us, h1, h3, h4, h5⟩ := h
    exact ⟨a, us, h1, h3, D.RepL.mono hβ e hS h4, (h5.mono (S' := fun b => S b ∧ b < w.heap.size) fun b hb hl => ⟨hb, hl⟩).frame (fun b hb _ => e b hb.1 hb.2) |>.mono fun b hb _ => hS b hb.1 hb.2⟩
  | .refD _, _, h => by
    obtain ⟨a, us, h1, h4, h5⟩ := h
    exact ⟨a, us, h1, D.RepL.mono hβ e hS h4, (h5.mono (S' := fun b => S b ∧ b < w.heap.size) fun b hb hl => ⟨hb, hl⟩).frame (fun b hb _ => e b hb.1 hb.2) |>.mono fun b hb _ => hS b hb.1 hb.2⟩
  | .any, _, _ => trivial
theorem D.RepL.mono (hβ : ∀ (i : Nat) (e : Place), β[i]? = some e → β'[i]? = some e) (e : ∀ b, S b → b < w.heap.size → w'.heap[b]? = w.heap[b]?) (hS : ∀ b, S b → b < w.heap.size → S' b) :
    ∀ {d : List D} {us : List Value}, D.RepL β S w d us → D.RepL β' S' w' d us
  | [], _, h => h
  | _ :: _, _, h => by
    obtain ⟨y, ys, h1, h2, h3⟩ := h
    exact ⟨y, ys, h1, D.Rep.mono hβ e hS h2, D.RepL.mono hβ e hS h3⟩
end
mutual
/-- what does not lead to box k stands whatever becomes of it -/
theorem D.Rep.avoid {k : Nat} (hβ : ∀ (i : Nat) (e : Place), i ≠ k → β[i]? = some e → β'[i]? = some e) (e : ∀ b, S b → b < w.heap.size → w'.heap[b]? = w.heap[b]?) (hS : ∀ b, S b → b < w.heap.size → S' b) :
    ∀ {d : D} {u : Value}, d.avoids k = true → d.Rep β S w u → d.Rep β' S' w' u
  | .p _, _, _, h => V.Rep.mono e hS h
  | .agg _, _, ha, h => by
    obtain ⟨us, h1, h2⟩ := h
    exact ⟨us, h1, D.RepL.avoid hβ e hS ha h2⟩
  | .tup _, _, ha, h => by
    obtain ⟨us, h1, h2⟩ := h
    exact ⟨us, h1, D.RepL.avoid hβ e hS ha h2⟩
  | .ptr i _, _, ha, h => by
    obtain ⟨b, c, h1, h2⟩ := h
    exact ⟨b, c, hβ _ _ (by simpa [D.avoids] using ha) h1, h2⟩
  | .row i _, _, ha, h => by
    have hne : i ≠ k := by simpa [D.avoids] using ha
    rcases h with ⟨h1, h2⟩ | ⟨b, c, h1, h2⟩
    · exact .inl ⟨hβ _ _ hne h1, h2⟩
    · exact .inr ⟨b, c, hβ _ _ hne h1, h2⟩
  | .clo _ _ _, _, ha, h => by
    obtain ⟨us, vs, h1, h2, h3⟩ := h
    simp only [D.avoids, Bool.and_eq_true] at ha
    exact ⟨us, vs, h1, D.RepL.avoid hβ e hS ha.1 h2, D.RepL.avoid hβ e hS ha.2 h3⟩
  | .lit _ _, _, ha, h => by
    obtain ⟨a, us, h1, h3, h4, h5⟩ := h
    exact ⟨a, us, h1, h3, D.RepL.avoid hβ e hS ha h4, (h5.mono (S' := fun b => S b ∧ b < w.heap.size) fun b hb hl => ⟨hb, hl⟩).frame (fun b hb _ => e b hb.1 hb.2) |>.mono fun b hb _ => hS b hb.1 hb.2⟩
  | .refD _, _, ha, h => by
    obtain ⟨a, us, h1, h4, h5⟩ := h
    exact ⟨a, us, h1, D.RepL.avoid hβ e hS ha h4, (h5.mono (S' := fun b => S b ∧ b < w.heap.size) fun b hb hl => ⟨hb, hl⟩).frame (fun b hb _ => e b hb.1 hb.2) |>.mono fun b hb _ => hS b hb.1 hb.2⟩
  | .any, _, _, _ => trivial
theorem D.RepL.avoid {k : Nat} (hβ : ∀ (i : Nat) (e : Place), i ≠ k → β[i]? = some e → β'[i]? = some e) (e : ∀ b, S b → b < w.heap.size → w'.heap[b]? = w.heap[b]?) (hS : ∀ b, S b → b < w.heap.size → S' b) :
    ∀ {d : List D} {us : List Value}, D.avoidsL k d = true → D.RepL β S w d us → D.RepL β' S' w' d us
  | [], _, _, h => h
  | _ :: _, _, ha, h => by
    obtain ⟨y, ys, h1, h2, h3⟩ := h
    simp only [D.avoidsL, Bool.and_eq_true] at ha
    exact ⟨y, ys, h1, D.Rep.avoid hβ e hS ha.1 h2, D.RepL.avoid hβ e hS ha.2 h3⟩
end
theorem D.RepL.len : ∀ {d : List D} {us : List Value}, D.RepL β S w d us → us.length = d.length
  | [], _, h => by simp only [D.RepL] at h; subst h; rfl
  | _ :: _, _, h => by
    obtain ⟨y, ys, rfl, _, h3⟩ := h
    simp [D.RepL.len h3]
theorem D.RepL.get : ∀ {d : List D} {us : List Value} {i : Nat} {e : D}, D.RepL β S w d us → d[i]? = some e → ∃ u, us[i]? = some u ∧ e.Rep β S w u
  | [], _, _, _, _, h => by simp at h
  | _ :: _, _, 0, _, h, hi => by
    obtain ⟨y, ys, rfl, h2, _⟩ := h
    simp at hi; subst hi
    exact ⟨y, rfl, h2⟩
  | _ :: _, _, i + 1, _, h, hi => by
    obtain ⟨y, ys, rfl, _, h3⟩ := h
    simpa using h3.get (i := i) (by simpa using hi)
theorem D.RepL.app : ∀ {d e : List D} {us vs : List Value}, D.RepL β S w d us → D.RepL β S w e vs → D.RepL β S w (d ++ e) (us ++ vs)
  | [], _, _, _, h, k => by simp only [D.RepL] at h; subst h; exact k
  | _ :: _, _, _, _, h, k => by
    obtain ⟨y, ys, rfl, h2, h3⟩ := h
    exact ⟨y, ys ++ _, rfl, h2, h3.app k⟩
theorem D.RepL.drop : ∀ {d : List D} {us : List Value} (k : Nat), D.RepL β S w d us → D.RepL β S w (d.drop k) (us.drop k)
  | _, _, 0, h => by simpa using h
  | [], _, _ + 1, h => by simp only [D.RepL] at h; subst h; simp [D.RepL]
  | _ :: _, _, k + 1, h => by
    obtain ⟨y, ys, rfl, _, h3⟩ := h
    simpa using h3.drop k
theorem D.RepL.take : ∀ {d : List D} {us : List Value} (k : Nat), D.RepL β S w d us → D.RepL β S w (d.take k) (us.take k)
  | _, _, 0, h => by simp [D.RepL]
  | [], _, _ + 1, h => by simp only [D.RepL] at h; subst h; simp [D.RepL]
  | _ :: _, _, k + 1, h => by
    obtain ⟨y, ys, rfl, h2, h3⟩ := h
    exact ⟨y, ys.take k, by simp, h2, h3.take k⟩
theorem D.RepL.set : ∀ {d : List D} {us : List Value} (k : Nat) {e : D} {u : Value}, D.RepL β S w d us → e.Rep β S w u → D.RepL β S w (d.set k e) (us.set k u)
  | [], _, _, _, _, h, _ => by simp only [D.RepL] at h; subst h; simp [D.RepL]
  | _ :: _, _, 0, _, _, h, hu => by
    obtain ⟨y, ys, rfl, h2, h3⟩ := h
    exact ⟨_, _, rfl, hu, h3⟩
  | _ :: _, _, k + 1, _, _, h, hu => by
    obtain ⟨y, ys, rfl, h2, h3⟩ := h
    exact ⟨_, _, rfl, h2, h3.set k hu⟩
theorem D.RepL.p : ∀ {d : List V} {us : List Value}, V.RepL S w d us → D.RepL β S w (d.map D.p) us
  | [], _, h => h
  | _ :: _, _, h => by
    obtain ⟨y, ys, h1, h2, h3⟩ := h
    exact ⟨y, ys, h1, h2, D.RepL.p h3⟩
mutual
/-- is it without addresses? -/
def D.toV : D → Option V
  | .p v => some v
  | .agg cs => (D.toVL cs).map V.agg
  | .tup cs => (D.toVL cs).map V.tup
  | _ => none
def D.toVL : List D → Option (List V)
  | [] => some []
  | d :: ds => match D.toV d, D.toVL ds with
    | some v, some vs => some (v :: vs)
    | _, _ => none
end
theorem D.toVL_p : ∀ (l : List V), D.toVL (l.map D.p) = some l
  | [] => rfl
  | _ :: l => by simp [D.toVL, D.toV, D.toVL_p l]
mutual
theorem D.Rep.toV : ∀ {d : D} {v : V} {u : Value}, d.toV = some v → d.Rep β S w u → v.Rep S w u
  | .p _, _, _, hv, h => by simp only [D.toV, Option.some.injEq] at hv; subst hv; exact h
  | .agg _, _, _, hv, h => by
    obtain ⟨us, h1, h2⟩ := h
    simp only [D.toV, Option.map_eq_some_iff] at hv
    obtain ⟨vs, hv, rfl⟩ := hv
    exact ⟨us, h1, D.RepL.toV hv h2⟩
  | .tup _, _, _, hv, h => by
    obtain ⟨us, h1, h2⟩ := h
    simp only [D.toV, Option.map_eq_some_iff] at hv
    obtain ⟨vs, hv, rfl⟩ := hv
    exact ⟨us, h1, D.RepL.toV hv h2⟩
  | .ptr _ _, _, _, hv, _ => by simp [D.toV] at hv
  | .row _ _, _, _, hv, _ => by simp [D.toV] at hv
  | .clo _ _ _, _, _, hv, _ => by simp [D.toV] at hv
  | .lit _ _, _, _, hv, _ => by simp [D.toV] at hv
  | .refD _, _, _, hv, _ => by simp [D.toV] at hv
  | .any, _, _, hv, _ => by simp [D.toV] at hv
theorem D.RepL.toV : ∀ {d : List D} {vs : List V} {us : List Value}, D.toVL d = some vs → D.RepL β S w d us → V.RepL S w vs us
  | [], _, _, hv, h => by simp only [D.toVL, Option.some.injEq] at hv; subst hv; exact h
  | d :: ds, _, _, hv, h => by
    obtain ⟨y, ys, h1, h2, h3⟩ := h
    simp only [D.toVL] at hv
    split at hv
    · rename_i v vs e1 e2
      injection hv with hv
      subst hv
      exact ⟨y, ys, h1, D.Rep.toV e1 h2, D.RepL.toV e2 h3⟩
    · cases hv
end
theorem D.Rep.ext {d : D} {u : Value} (h : d.Rep β S w u) (e : Ext w w') : d.Rep β S w' u := h.mono (fun _ _ h => h) (fun b _ hb => e.block b hb) fun b hb _ => hb
theorem D.RepL.ext {d : List D} {u : List Value} (h : D.RepL β S w d u) (e : Ext w w') : D.RepL β S w' d u := h.mono (fun _ _ h => h) (fun b _ hb => e.block b hb) fun b hb _ => hb
end
end Go.Sy
set_option linter.unusedSimpArgs false
set_option linter.unusedVariables false
namespace Go.Sy
open Go.RowKit

/-- A block of the call's own: what its cells hold, of which type they are, and of how many cells an element is, if it is a row that may grow (0: it is not). -/
structure Box where
  cs : List D
  e : TypeId
  sz : Nat
structure St where
  tm : List (Nat × Bool × D)
  H : List (Option Box)
def TM.get : List (Nat × Bool × D) → Nat → Option (Bool × D)
  | [], _ => none
  | (t, g, d) :: l, k => bif Nat.beq t k then some (g, d) else TM.get l k
def St.put (s : St) (dst : Option Tmp) (g : Bool) (d : D) : St :=
  match dst with
  | some t => ⟨(t, g, d) :: s.tm, s.H⟩
  | none => s
/-- Where a call began; may it write into the boxes that it was given? which of them may move? -/
structure Ctx where
  w0 : World
  S0 : Nat → Prop
  β0 : List Place
  ro : Bool
  dead : List Nat
  dfr : List Deferred
  /-- other ways out, by a return, in worlds that are not told by boxes -/
  esc : St → World → Prop
def noEsc : St → World → Prop := fun _ _ => False

def Ent (β : List Place) (S : Nat → Prop) (w : World) (g : Bool) (d : D) (u : Value) : Prop := (g = true → d.Rep β S w u) ∧ (g = false → u = undef)
def EntAt (s : St) (β : List Place) (S : Nat → Prop) (w : World) (a : Act) (t : Tmp) : Prop :=
  ∀ g d, TM.get s.tm t = some (g, d) → t < a.tmps.size ∧ Ent β S w g d (a.tmps.getD t undef)
def BoxAt (β : List Place) (S : Nat → Prop) (w : World) (i : Nat) (x : Box) : Prop :=
  (β[i]? = some none ∧ x.sz ≠ 0 ∧ x.cs = []) ∨
  ∃ b c cur us, β[i]? = some (some (b, c)) ∧ ¬ S b ∧ w.heap[b]? = some (.cells cur x.e (0, 0)) ∧ D.RepL β S w x.cs us ∧ us <+: cur.toList ∧
    (x.sz = 0 → us.length = cur.size) ∧ (x.sz ≠ 0 → cur.size = c * x.sz ∧ c ≤ maxLen)
/-- what an operation that only adds memory asks of it -/
structure HOk (H : List (Option Box)) (β : List Place) (S : Nat → Prop) (w : World) : Prop where
  up : ∀ b, w.heap.size ≤ b → S b
  box : ∀ i x, H[i]? = some (some x) → BoxAt β S w i x
  len : β.length = H.length
  inj : ∀ (i j : Nat) x y b p q, H[i]? = some (some x) → H[j]? = some (some y) → β[i]? = some (some (b, p)) → β[j]? = some (some (b, q)) → i = j
structure HSt (c : Ctx) (H : List (Option Box)) (β : List Place) (S : Nat → Prop) (w : World) : Prop extends HOk H β S w where
  sub : ∀ b, S b → c.S0 b ∨ c.w0.heap.size ≤ b
  own : ∀ (i : Nat) b q, β[i]? = some (some (b, q)) → c.w0.heap.size ≤ b ∨ ∃ q0, c.β0[i]? = some (some (b, q0))
  fr : ∀ b, b < c.w0.heap.size → (c.ro = true ∨ ∀ (i q : Nat), c.β0[i]? ≠ some (some (b, q))) → w.heap[b]? = c.w0.heap[b]?
  keep : ∀ (i : Nat) e, i ∉ c.dead → c.β0[i]? = some e → β[i]? = some e
  klen : c.β0.length ≤ β.length
  keepS : ∀ b, c.S0 b → b < c.w0.heap.size → w.heap[b]? = c.w0.heap[b]? ∧ S b
  os : w.os = c.w0.os
  tape : w.tape = c.w0.tape
  output : w.output = c.w0.output
  size : c.w0.heap.size ≤ w.heap.size
def SR (c : Ctx) (n : Nat) (s : St) (a : Act) (w : World) : Prop :=
  ∃ β S, HSt c s.H β S w ∧ a.defers = c.dfr ∧ a.tmps.size = n ∧ ∀ t, EntAt s β S w a t
/-- at a way out: by a return also as the context says -/
def SRx (c : Ctx) (n : Nat) : Exit → St → Act → World → Prop
  | .ret, s, a, w => SR c n s a w ∨ (a.defers = c.dfr ∧ c.esc s w)
  | _, s, a, w => SR c n s a w
theorem SRx.sr {c : Ctx} {n : Nat} {e : Exit} {s : St} {a : Act} {w : World} (h : SRx c n e s a w) (hc : c.esc = noEsc) : SR c n s a w := by
  cases e with
  | ret =>
    rcases h with h | ⟨_, h⟩
    · exact h
    · rw [hc] at h; exact h.elim
  | _ => exact h

section
variable {β β' : List Place} {S S' : Nat → Prop} {w w' : World} {H : List (Option Box)} {c : Ctx}
theorem Ent.ext {g : Bool} {d : D} {u : Value} (h : Ent β S w g d u) (e : Ext w w') : Ent β S w' g d u := ⟨fun hg => (h.1 hg).ext e, h.2⟩
theorem BoxAt.ext {i : Nat} {x : Box} (h : BoxAt β S w i x) (e : Ext w w') : BoxAt β S w' i x := by
  rcases h with h | ⟨b, c, cur, us, h1, h2, h3, h4, h5⟩
  · exact .inl h
  · exact .inr ⟨b, c, cur, us, h1, h2, e.heap h3, h4.ext e, h5⟩
theorem HOk.ext (h : HOk H β S w) (e : Ext w w') : HOk H β S w' := ⟨fun b hb => h.up b (Nat.le_trans e.size hb), fun i x hx => (h.box i x hx).ext e, h.len, h.inj⟩
theorem HSt.ext (h : HSt c H β S w) (e : Ext w w') : HSt c H β S w' :=
  { h.toHOk.ext e with
    sub := h.sub, own := h.own, keep := h.keep, klen := h.klen
    fr := fun b hb hn => (e.block b (Nat.lt_of_lt_of_le hb h.size)).trans (h.fr b hb hn)
    keepS := fun b hb hl => ⟨(e.block b (Nat.lt_of_lt_of_le hl h.size)).trans (h.keepS b hb hl).1, (h.keepS b hb hl).2⟩
    os := e.os.trans h.os, tape := e.tape.trans h.tape, output := e.output.trans h.output, size := Nat.le_trans h.size e.size }
theorem TM.get_cons {l : List (Nat × Bool × D)} {t k : Nat} {g : Bool} {d : D} : TM.get ((t, g, d) :: l) k = if t = k then some (g, d) else TM.get l k := by
  show cond _ _ _ = _
  by_cases h : t = k
  · subst h; simp
  · rw [if_neg h]
    cases hb : Nat.beq t k
    · rfl
    · exact absurd (Nat.eq_of_beq_eq_true hb) h
theorem getD_put' {a : Act} {d t : Tmp} {v : Value} (h : d < a.tmps.size) : (a.put (some d) v).tmps.getD t undef = if d = t then v else a.tmps.getD t undef := by
  by_cases e : d = t
  · subst e; rw [if_pos rfl]; simp [Act.put, h]
  · rw [if_neg e]; simp [Act.put, Array.getElem?_setIfInBounds_ne e]
theorem size_put {a : Act} {d : Option Tmp} {v : Value} : (a.put d v).tmps.size = a.tmps.size := by cases d <;> simp [Act.put]
theorem defers_put {a : Act} {d : Option Tmp} {v : Value} : (a.put d v).defers = a.defers := by cases d <;> rfl
theorem EntAt.ext {s : St} {a : Act} {t : Tmp} (h : EntAt s β S w a t) (e : Ext w w') : EntAt s β S w' a t := fun g d hg => ⟨(h g d hg).1, (h g d hg).2.ext e⟩
/-- one more entry -/
theorem EntAt.put {s : St} {a : Act} {g : Bool} {d : D} {u : Value} {dst : Option Tmp} (h : ∀ t, EntAt s β S w a t) (hd : ∀ t, dst = some t → t < a.tmps.size) (hu : Ent β S w g d u) (t : Tmp) :
    EntAt (s.put dst g d) β S w (a.put dst u) t := by
  cases dst with
  | none => exact h t
  | some k =>
    have hk := hd k rfl
    intro g' d' hg
    rw [size_put, getD_put' hk]
    simp only [St.put, TM.get_cons] at hg
    by_cases e : k = t
    · subst e
      rw [if_pos rfl] at hg ⊢
      simp only [Option.some.injEq, Prod.mk.injEq] at hg
      obtain ⟨rfl, rfl⟩ := hg
      exact ⟨hk, hu⟩
    · rw [if_neg e] at hg ⊢
      exact h t g' d' hg
end

/-- Walking code. -/
def Sym (P : Program) (c : Ctx) (n : Nat) (code : Code) (Q : Exit → St → Prop) (s : St) : Prop :=
  ∀ a w, SR c n s a w → code.wp P (fun e a' w' => ∃ s', SRx c n e s' a' w' ∧ Q e s') a w
/-- Walking a list of operations, in its order. -/
def SymL (P : Program) (c : Ctx) (n : Nat) (ops : Array Oper) (Q : Exit → St → Prop) (l : List Oper) (s : St) : Prop :=
  ∀ a w, SR c n s a w → wpList P ops (fun e a' w' => ∃ s', SRx c n e s' a' w' ∧ Q e s') l a w
/-- The operation's guard, as a Bool. -/
inductive GOk (ops : Array Oper) (s : St) (o : Oper) : Bool → Prop
  | none : o.guard = none → GOk ops s o true
  | some {j t : Nat} {want b g : Bool} : o.guard = some (j, want) → (ops[j]?).bind (·.dst) = some t → TM.get s.tm t = some (g, .p (.x (.bool b))) → GOk ops s o (g && (b == want))
/-- The operation yields d, if it is done, and only adds memory. -/
structure MOp (P : Program) (s : St) (o : Oper) (g : Bool) (d : D) : Prop where
  run : ∀ β S a w, HOk s.H β S w → (∀ t, .tmp t ∈ o.op.operands → EntAt s β S w a t) → g = true →
    ∀ (K : Act → World → Prop) (Q : Exit → Act → World → Prop), (∀ u w', Ext w w' → d.Rep β S w' u → K (a.put o.dst u) w') → o.wp P a w K Q
def dstOk (n : Nat) (o : Oper) : Bool := match o.dst with | some t => Nat.blt t n | none => true
theorem dstOk.lt {n : Nat} {o : Oper} (h : dstOk n o = true) : ∀ t, o.dst = some t → t < n := by
  intro t ht
  simp only [dstOk, ht, Nat.blt_eq] at h
  exact h
structure MStep (P : Program) (n : Nat) (ops : Array Oper) (s : St) (o : Oper) (g : Bool) (d : D) : Prop where
  gd : GOk ops s o g
  op : MOp P s o g d
  ds : dstOk n o = true
section
variable {P : Program} {c : Ctx} {n : Nat} {ops : Array Oper} {Q : Exit → St → Prop} {s : St} {o : Oper} {g : Bool} {d : D} {β : List Place} {S : Nat → Prop} {a : Act} {w : World}
theorem GOk.wanted (h : GOk ops s o g) (he : ∀ t, t ∈ o.looksAt ops → EntAt s β S w a t) : Region.wanted o (yielded ops a.tmps) = g := by
  cases h with
  | none h => simp [Region.wanted, h]
  | @some j t want b g h h2 h3 =>
    have ht : t ∈ o.looksAt ops := by simp [Oper.looksAt, h, h2]
    obtain ⟨h4, h5, h6⟩ := he t ht _ _ h3
    have hy : yielded ops a.tmps j = match a.tmps.getD t undef with | .bool b => Option.some b | _ => Option.none := by
      simp only [yielded, h2, Option.bind_some]
      rw [Array.getElem?_eq_getElem h4, show a.tmps.getD t undef = a.tmps[t]'h4 by simp [h4]]
      cases a.tmps[t]'h4 <;> rfl
    simp only [Region.wanted, h, hy]
    cases g with
    | true =>
      have : a.tmps.getD t undef = .bool b := h5 rfl
      rw [this]
      cases b <;> cases want <;> rfl
    | false =>
      rw [h6 rfl]
      rfl
theorem MStep.run (h : MStep P n ops s o g d) (ho : HOk s.H β S w) (he : ∀ t, t ∈ o.looksAt ops → EntAt s β S w a t) {K : Act → World → Prop} {Q : Exit → Act → World → Prop}
    (hK : ∀ u w', Ext w w' → Ent β S w' g d u → K (a.put o.dst u) w') : if Region.wanted o (yielded ops a.tmps) = true then o.wp P a w K Q else K (a.put o.dst undef) w := by
  rw [h.gd.wanted he]
  cases g with
  | true =>
    rw [if_pos rfl]
    exact h.op.run β S a w ho (fun t ht => he t (by simp only [Oper.looksAt, List.mem_append, List.mem_filterMap]; exact .inl ⟨_, by simpa using ht, rfl⟩)) rfl K Q fun u w' h1 h2 => hK u w' h1 ⟨fun _ => h2, fun h => by cases h⟩
  | false =>
    rw [if_neg (by simp)]
    exact hK undef w (Ext.refl w) ⟨fun h => (by cases h), fun _ => rfl⟩
theorem SymL.mono {rest : List Oper} (h : MStep P n ops s o g d) (k : SymL P c n ops Q rest (s.put o.dst g d)) : SymL P c n ops Q (o :: rest) s := by
  rintro a w ⟨β, S, hH, hd, hn, he⟩
  refine wpList_step fun K hK => h.run hH.toHOk (fun t _ => he t) fun u w' hx hu => hK _ _ ?_
  refine k _ _ ⟨β, S, ?_, by rw [defers_put, hd], by rw [size_put, hn], ?_⟩
  · have : (s.put o.dst g d).H = s.H := by cases o.dst <;> rfl
    rw [this]
    exact hH.ext hx
  · exact EntAt.put (fun t => (he t).ext hx) (fun t ht => hn ▸ dstOk.lt h.ds t ht) hu
theorem SymL.nil (h : Q .normal s) : SymL P c n ops Q [] s := fun _ _ hr => ⟨s, hr, h⟩
/-- A region in its order. -/
theorem Sym.region {id : Nat} (h : SymL P c n ops Q ops.toList s) : Sym P c n (.region id ops false) Q s := fun a w hr => wp_region_list (h a w hr)
end

/-! ### regions whose order is open -/
/-- j waits for i, at once or by others -/
inductive Waits (ops : Array Oper) : Nat → Nat → Prop
  | one {i j : Nat} {o : Oper} {e : Edge} : ops[j]? = some o → e ∈ o.after → Region.binds .any e = true → e.on = i → Waits ops i j
  | two {i j k : Nat} : Waits ops i j → Waits ops j k → Waits ops i k
/-- for whom each waits, as bits -/
def masks : List Oper → List Nat → List Nat
  | [], acc => acc
  | o :: os, acc => masks os (acc ++ [o.after.toList.foldl (fun m e => if Region.binds .any e then m ||| 2 ^ e.on ||| acc.getD e.on 0 else m) 0])
def OkMasks (ops : Array Oper) (acc : List Nat) : Prop := ∀ j m, acc[j]? = some m → ∀ i, m.testBit i = true → Waits ops i j
theorem masks_fold (ops : Array Oper) (acc : List Nat) (hacc : OkMasks ops acc) (o : Oper) (k : Nat) (ho : ops[k]? = some o) : ∀ (l : List Edge) (m : Nat), (∀ e ∈ l, e ∈ o.after) → (∀ i, m.testBit i = true → Waits ops i k) →
    ∀ i, (l.foldl (fun m e => if Region.binds .any e then m ||| 2 ^ e.on ||| acc.getD e.on 0 else m) m).testBit i = true → Waits ops i k
  | [], _, _, hm, i, hi => hm i hi
  | e :: l, m, hl, hm, i, hi => by
    refine masks_fold ops acc hacc o k ho l _ (fun e he => hl e (List.mem_cons_of_mem _ he)) ?_ i hi
    intro i hi
    dsimp only at hi
    split at hi
    case isFalse => exact hm i hi
    case isTrue hb =>
      rw [Nat.testBit_or, Nat.testBit_or, Bool.or_eq_true, Bool.or_eq_true] at hi
      have h1 : Waits ops e.on k := .one ho (hl e List.mem_cons_self) hb rfl
      rcases hi with (hi | hi) | hi
      · exact hm i hi
      · rw [Nat.testBit_two_pow] at hi
        have : e.on = i := by simpa using hi
        exact this ▸ h1
      · cases h : acc[e.on]? with
        | none => rw [List.getD_eq_getElem?_getD, h] at hi; simp at hi
        | some m' =>
          rw [List.getD_eq_getElem?_getD, h] at hi
          exact .two (hacc _ _ h i hi) h1
theorem masks_ok (ops : Array Oper) : ∀ (l : List Oper) (acc : List Nat), OkMasks ops acc → (∀ j, l[j]? = ops[acc.length + j]?) → OkMasks ops (masks l acc)
  | [], _, h, _ => h
  | o :: os, acc, h, hl => by
    have h0 : ops[acc.length]? = some o := by simpa using (hl 0).symm
    refine masks_ok ops os _ ?_ (fun j => by have := hl (j + 1); simpa [Nat.add_assoc, Nat.add_comm 1 j] using this)
    intro j m hj i hi
    rw [List.getElem?_append] at hj
    split at hj
    · exact h j m hj i hi
    · rename_i hge
      have hj0 : j = acc.length := by
        rcases Nat.lt_or_ge acc.length j with h | h
        · rw [List.getElem?_eq_none (by simp; omega)] at hj; cases hj
        · omega
      subst hj0
      rw [Nat.sub_self, List.getElem?_cons_zero, Option.some.injEq] at hj
      subst hj
      exact masks_fold ops acc h o _ h0 o.after.toList 0 (by simp) (by simp) i hi
/-- its form: m operations in any order that their edges allow, those behind wait for all ahead of them; each temporary written once; who reads what another one writes waits for it, or it waits for him -/
def drawOk (ops : Array Oper) (m : Nat) : Bool :=
  let b := masks ops.toList []
  decide (m ≤ ops.size) && (List.range ops.size).all (fun i => match ops[i]? with | some o => o.after.all fun e => !Region.binds .any e || decide (e.on < i) | none => false) &&
  (List.range ops.size).all fun j => (List.range j).all fun i =>
    match ops[i]?, ops[j]? with
    | some x, some y =>
      (x.dst.isNone || x.dst != y.dst) &&
      ((b.getD j 0).testBit i || !(decide (m ≤ j) || (match x.dst with | some t => (y.looksAt ops).contains t | none => false) || (match y.dst with | some t => (x.looksAt ops).contains t | none => false)))
    | _, _ => false
structure DrawOk (ops : Array Oper) (m : Nat) : Prop where
  le : m ≤ ops.size
  down : ∀ (i : Nat) (o : Oper), ops[i]? = some o → ∀ e ∈ o.after, Region.binds .any e = true → e.on < i
  once : ∀ (i j : Nat) x y t, ops[i]? = some x → ops[j]? = some y → x.dst = some t → y.dst = some t → i = j
  tail : ∀ (i j : Nat), i < j → j < ops.size → m ≤ j → Waits ops i j
  data : ∀ (i j : Nat) x y t, i < j → ops[i]? = some x → ops[j]? = some y → (x.dst = some t ∧ t ∈ y.looksAt ops ∨ y.dst = some t ∧ t ∈ x.looksAt ops) → Waits ops i j
theorem drawOk.ok {ops : Array Oper} {m : Nat} (h : drawOk ops m = true) : DrawOk ops m := by
  simp only [drawOk, Bool.and_eq_true, decide_eq_true_eq, List.all_eq_true, List.mem_range] at h
  obtain ⟨⟨h1, h2⟩, h3⟩ := h
  have hb : OkMasks ops (masks ops.toList []) := masks_ok ops _ _ (fun j m h => by simp at h) (fun j => by simp)
  have hw : ∀ i j : Nat, ((masks ops.toList []).getD j 0).testBit i = true → Waits ops i j := by
    intro i j h
    cases hm : (masks ops.toList [])[j]? with
    | none => rw [List.getD_eq_getElem?_getD, hm] at h; simp at h
    | some m =>
      rw [List.getD_eq_getElem?_getD, hm] at h
      exact hb j m hm i h
  have hlt : ∀ {i : Nat} {o : Oper}, ops[i]? = some o → i < ops.size := fun h => (Array.getElem?_eq_some_iff.1 h).1
  have pair : ∀ (i j : Nat) x y, i < j → ops[i]? = some x → ops[j]? = some y → (x.dst = none ∨ x.dst ≠ y.dst) ∧
      (Waits ops i j ∨ ¬ (m ≤ j) ∧ (∀ t, x.dst = some t → t ∉ y.looksAt ops) ∧ (∀ t, y.dst = some t → t ∉ x.looksAt ops)) := by
    intro i j x y hij hx hy
    have := h3 j (hlt hy) i hij
    simp only [hx, hy, Bool.and_eq_true, Bool.or_eq_true, Option.isNone_iff_eq_none, bne_iff_ne, ne_eq, Bool.not_eq_true', Bool.or_eq_false_iff, decide_eq_false_iff_not] at this
    refine ⟨this.1, ?_⟩
    rcases this.2 with h | ⟨⟨h4, h5⟩, h6⟩
    · exact .inl (hw i j h)
    · refine .inr ⟨h4, fun t ht => ?_, fun t ht => ?_⟩
      · rw [ht] at h5; simpa using h5
      · rw [ht] at h6; simpa using h6
  have h2' : ∀ (i : Nat) (o : Oper), ops[i]? = some o → ∀ e ∈ o.after, Region.binds .any e = true → e.on < i := by
    intro i o ho e he hb
    have := h2 i (hlt ho)
    rw [ho] at this
    obtain ⟨k, hk, rfl⟩ := Array.mem_iff_getElem.1 he
    have := Array.all_eq_true.1 this k hk
    rw [hb] at this
    simpa using this
  refine ⟨h1, h2', ?_, ?_, ?_⟩
  · intro i j x y t hx hy h4 h5
    rcases Nat.lt_trichotomy i j with h | h | h
    · rcases (pair i j x y h hx hy).1 with k | k
      · rw [h4] at k; cases k
      · exact absurd (h4.trans h5.symm) k
    · exact h
    · rcases (pair j i y x h hy hx).1 with k | k
      · rw [h5] at k; cases k
      · exact absurd (h5.trans h4.symm) k
  · intro i j hij hj hm
    have hx : ops[i]? = some ops[i] := by simp [Nat.lt_trans hij hj]
    have hy : ops[j]? = some ops[j] := by simp [hj]
    rcases (pair i j _ _ hij hx hy).2 with h | h
    · exact h
    · exact absurd hm h.1
  · intro i j x y t hij hx hy h
    rcases (pair i j _ _ hij hx hy).2 with k | ⟨_, k1, k2⟩
    · exact k
    · rcases h with ⟨h1, h2⟩ | ⟨h1, h2⟩
      · exact absurd h2 (k1 t h1)
      · exact absurd h2 (k2 t h1)
/-- m steps that only add memory; then T. -/
inductive MTo (P : Program) (n : Nat) (ops : Array Oper) (T : St → Prop) : Nat → List Oper → St → Prop
  | done {l : List Oper} {s : St} : T s → MTo P n ops T 0 l s
  | step {m : Nat} {o : Oper} {l : List Oper} {s : St} {g : Bool} {d : D} : MStep P n ops s o g d → MTo P n ops T m l (s.put o.dst g d) → MTo P n ops T (m + 1) (o :: l) s
def stAt (ops : Array Oper) (s : St) (gd : Nat → Bool × D) : Nat → St
  | 0 => s
  | i + 1 => (stAt ops s gd i).put ((ops[i]?).bind (·.dst)) (gd i).1 (gd i).2
theorem stAt_H {ops : Array Oper} {s : St} {gd : Nat → Bool × D} : ∀ i, (stAt ops s gd i).H = s.H
  | 0 => rfl
  | i + 1 => by
    have h : ∀ (s' : St) (dst : Option Tmp) g d, (s'.put dst g d).H = s'.H := fun s' dst g d => by cases dst <;> rfl
    unfold stAt
    rw [h]
    exact stAt_H i
theorem stAt_get {ops : Array Oper} {s : St} {gd : Nat → Bool × D} {t : Tmp} {g : Bool} {d : D} : ∀ {i : Nat}, TM.get (stAt ops s gd i).tm t = some (g, d) →
    (∃ j, j < i ∧ (ops[j]?).bind (·.dst) = some t ∧ (g, d) = gd j) ∨ (∀ j, j < i → (ops[j]?).bind (·.dst) ≠ some t) ∧ TM.get s.tm t = some (g, d)
  | 0, h => .inr ⟨fun j hj => by omega, h⟩
  | i + 1, h => by
    unfold stAt at h
    cases hd : (ops[i]?).bind (·.dst) with
    | none =>
      rw [hd] at h
      rcases stAt_get (i := i) h with ⟨j, h1, h2⟩ | ⟨h1, h2⟩
      · exact .inl ⟨j, by omega, h2⟩
      · refine .inr ⟨fun j hj => ?_, h2⟩
        rcases Nat.lt_or_ge j i with h3 | h3
        · exact h1 j h3
        · obtain rfl : j = i := by omega
          rw [hd]; simp
    | some k =>
      rw [hd] at h
      simp only [St.put, TM.get_cons] at h
      by_cases e : k = t
      · subst e
        rw [if_pos rfl] at h
        injection h with h
        exact .inl ⟨i, by omega, hd, h.symm⟩
      · rw [if_neg e] at h
        rcases stAt_get (i := i) h with ⟨j, h1, h2⟩ | ⟨h1, h2⟩
        · exact .inl ⟨j, by omega, h2⟩
        · refine .inr ⟨fun j hj => ?_, h2⟩
          rcases Nat.lt_or_ge j i with h3 | h3
          · exact h1 j h3
          · obtain rfl : j = i := by omega
            rw [hd]
            exact fun h => e (Option.some.inj h)
theorem MTo.steps {P : Program} {n : Nat} {ops : Array Oper} {T : St → Prop} (s0 : St) : ∀ {m : Nat} {l : List Oper} {s : St}, MTo P n ops T m l s → ∀ (k : Nat) (gd0 : Nat → Bool × D), s = stAt ops s0 gd0 k → (∀ j, l[j]? = ops[k + j]?) →
    (∀ i, i < k → ∀ o, ops[i]? = some o → MStep P n ops (stAt ops s0 gd0 i) o (gd0 i).1 (gd0 i).2) →
    ∃ gd, (∀ i, i < k + m → ∀ o, ops[i]? = some o → MStep P n ops (stAt ops s0 gd i) o (gd i).1 (gd i).2) ∧ T (stAt ops s0 gd (k + m))
  | _, _, _, .done h, k, gd0, hs, _, hold => ⟨gd0, hold, hs ▸ h⟩
  | _, _, _, @MTo.step _ _ _ _ m o l s g d hst h, k, gd0, hs, hl, hold => by
    have ho : ops[k]? = some o := by simpa using (hl 0).symm
    have hsame : ∀ i, i ≤ k → stAt ops s0 (fun i => if i = k then (g, d) else gd0 i) i = stAt ops s0 gd0 i := by
      intro i
      induction i with
      | zero => intro _; rfl
      | succ i ih =>
        intro hi
        unfold stAt
        rw [ih (by omega), if_neg (by omega)]
    have := h.steps s0 (k + 1) (fun i => if i = k then (g, d) else gd0 i) ?_ ?_ ?_
    · rwa [show k + 1 + m = k + (m + 1) by omega] at this
    · unfold stAt
      rw [hsame k (Nat.le_refl _), ← hs, ho, if_pos rfl]
      rfl
    · intro j
      have := hl (j + 1)
      simpa [Nat.add_assoc, Nat.add_comm 1 j] using this
    · intro i hi o' ho'
      rw [hsame i (by omega)]
      by_cases e : i = k
      · subst e
        rw [ho] at ho'
        injection ho' with ho'
        subst ho'
        rw [if_pos rfl, ← hs]
        exact hst
      · rw [if_neg e]
        exact hold i (by omega) o' ho'
/-- what holds midway: listed those that are done, all ahead of m -/
structure Mid (c : Ctx) (n : Nat) (ops : Array Oper) (s : St) (gd : Nat → Bool × D) (β : List Place) (S : Nat → Prop) (m : Nat) (a0 : Act) (listed : Array Bool) (a : Act) (w : World) : Prop where
  hst : HSt c s.H β S w
  defers : a.defers = c.dfr
  size : a.tmps.size = n
  init : ∀ t, EntAt s β S w a0 t
  size0 : a0.tmps.size = n
  ahead : ∀ i, listed.getD i true = true → i < ops.size → i < m
  done : ∀ i t, listed.getD i true = true → i < ops.size → (ops[i]?).bind (·.dst) = some t → t < n ∧ Ent β S w (gd i).1 (gd i).2 (a.tmps.getD t undef)
  same : ∀ t, (∀ i, listed.getD i true = true → i < ops.size → (ops[i]?).bind (·.dst) ≠ some t) → a.tmps.getD t undef = a0.tmps.getD t undef
section
variable {P : Program} {c : Ctx} {n m : Nat} {ops : Array Oper} {Q : Exit → St → Prop} {s : St} {gd : Nat → Bool × D} {β : List Place} {S : Nat → Prop} {a0 a : Act} {w : World} {listed : Array Bool}
theorem getD_set' {l : Array Bool} {i j : Nat} (h : i < l.size) (d : Bool) : (l.setIfInBounds i true).getD j d = if i = j then true else l.getD j d := by
  by_cases e : i = j
  · subst e; rw [if_pos rfl]; simp [Array.getD, h]
  · rw [if_neg e, getD_set_ne d e]
theorem bind_dst {i : Nat} {o : Oper} (h : ops[i]? = some o) : (ops[i]?).bind (·.dst) = o.dst := by rw [h]; rfl
theorem bind_some {i : Nat} {t : Tmp} (h : (ops[i]?).bind (·.dst) = some t) : ∃ o, ops[i]? = some o ∧ o.dst = some t := by
  cases ho : ops[i]? with
  | none => rw [ho] at h; cases h
  | some o => rw [ho] at h; exact ⟨o, rfl, h⟩
/-- the entries that an operation reads are what they are when it comes in its order -/
theorem Mid.ents (M : Mid c n ops s gd β S m a0 listed a w) (hd : DrawOk ops m) (hsz : listed.size = ops.size) (hcl : ∀ i j, Waits ops i j → listed.getD j true = true → j < ops.size → listed.getD i true = true)
    {i : Nat} {o : Oper} (ho : ops[i]? = some o) (hun : listed.getD i true = false) (hall : ∀ j, Waits ops j i → listed.getD j true = true) (t : Tmp) (ht : t ∈ o.looksAt ops) : EntAt (stAt ops s gd i) β S w a t := by
  have hi : i < ops.size := (Array.getElem?_eq_some_iff.1 ho).1
  intro g d hg
  rcases stAt_get hg with ⟨j, hj, hjd, hgd⟩ | ⟨hno, hg0⟩
  · obtain ⟨x, hx, hxd⟩ := bind_some hjd
    have hw := hd.data j i x o t hj hx ho (.inl ⟨hxd, ht⟩)
    have := M.done j t (hall j hw) (by omega) hjd
    rw [M.size]
    have e1 : g = (gd j).1 := congrArg Prod.fst hgd
    have e2 : d = (gd j).2 := congrArg Prod.snd hgd
    rw [e1, e2]
    exact this
  · have h0 := M.init t g d hg0
    rw [M.size0] at h0
    rw [M.size, M.same t ?_]
    · exact h0
    · intro j hj hjs hjd
      obtain ⟨x, hx, hxd⟩ := bind_some hjd
      rcases Nat.lt_trichotomy j i with h | h | h
      · exact hno j h hjd
      · subst h; rw [hun] at hj; cases hj
      · have hw := hd.data i j o x t h ho hx (.inr ⟨hxd, ht⟩)
        rw [hcl i j hw hj hjs] at hun
        cases hun
theorem Mid.next (M : Mid c n ops s gd β S m a0 listed a w) (hd : DrawOk ops m) (hsz : listed.size = ops.size) {i : Nat} {o : Oper} (ho : ops[i]? = some o) (him : i < m) (hun : listed.getD i true = false) (hds : dstOk n o = true)
    {w' : World} {u : Value} (hx : Ext w w') (hu : Ent β S w' (gd i).1 (gd i).2 u) : Mid c n ops s gd β S m a0 (listed.setIfInBounds i true) (a.put o.dst u) w' := by
  have hi : i < ops.size := (Array.getElem?_eq_some_iff.1 ho).1
  have hset : ∀ j, (listed.setIfInBounds i true).getD j true = if i = j then true else listed.getD j true := fun j => getD_set' (by omega) true
  refine ⟨M.hst.ext hx, by rw [defers_put, M.defers], by rw [size_put, M.size], fun t => (M.init t).ext hx, M.size0, ?_, ?_, ?_⟩
  · intro j hj hjs
    rw [hset] at hj
    split at hj
    · omega
    · exact M.ahead j hj hjs
  · intro j t hj hjs hjd
    rw [hset] at hj
    by_cases e : i = j
    · subst e
      rw [bind_dst ho] at hjd
      have hlt := dstOk.lt hds t hjd
      refine ⟨hlt, ?_⟩
      rw [hjd, getD_put' (by rw [M.size]; exact hlt), if_pos rfl]
      exact hu
    · rw [if_neg e] at hj
      have h1 := M.done j t hj hjs hjd
      refine ⟨h1.1, ?_⟩
      have : (a.put o.dst u).tmps.getD t undef = a.tmps.getD t undef := by
        cases hod : o.dst with
        | none => rfl
        | some k =>
          rw [getD_put' (by rw [M.size]; exact dstOk.lt hds k hod), if_neg]
          rintro rfl
          obtain ⟨x, hx, hxd⟩ := bind_some hjd
          exact e (hd.once i j o x k ho hx hod hxd)
      rw [this]
      exact h1.2.ext hx
  · intro t ht
    have h1 : o.dst ≠ some t := by
      have := ht i (by rw [hset, if_pos rfl]) hi
      rwa [bind_dst ho] at this
    have h2 := M.same t fun j hj hjs => ht j (by rw [hset]; split; rfl; exact hj) hjs
    rw [← h2]
    cases hod : o.dst with
    | none => rfl
    | some k =>
      rw [getD_put' (by rw [M.size]; exact dstOk.lt hds k hod), if_neg]
      rintro rfl
      exact h1 hod
theorem Mid.full (M : Mid c n ops s gd β S m a0 listed a w) (hds : ∀ i, i < m → ∀ o, ops[i]? = some o → dstOk n o = true) (hall : ∀ i, i < m → listed.getD i true = true) (hm : m ≤ ops.size) : SR c n (stAt ops s gd m) a w := by
  refine ⟨β, S, by rw [stAt_H]; exact M.hst, M.defers, M.size, fun t g d hg => ?_⟩
  rw [M.size]
  rcases stAt_get hg with ⟨j, hj, hjd, hgd⟩ | ⟨hno, hg0⟩
  · have := M.done j t (hall j hj) (by omega) hjd
    have e1 : g = (gd j).1 := congrArg Prod.fst hgd
    have e2 : d = (gd j).2 := congrArg Prod.snd hgd
    rw [e1, e2]
    exact this
  · have h0 := M.init t g d hg0
    rw [M.size0] at h0
    rw [M.same t ?_]
    · exact h0
    · intro j hj hjs
      exact hno j (M.ahead j hj hjs)
theorem ready_iff {listed : Array Bool} {i : Nat} :
    i ∈ Region.ready .any ops listed ↔ listed.getD i true = false ∧ ∃ o, ops[i]? = some o ∧ ∀ e ∈ o.after, Region.binds .any e = true → listed.getD e.on false = true := by
  constructor
  · intro h
    obtain ⟨h1, o, h2, h3⟩ := mem_ready.1 h
    exact ⟨h1, o, h2, h3⟩
  · rintro ⟨h1, o, h2, h3⟩
    exact mem_ready.2 ⟨h1, o, h2, h3⟩
theorem Waits.lt (hd : DrawOk ops m) {i j : Nat} (h : Waits ops i j) : i < j := by
  induction h with
  | one ho he hb hon => exact hon ▸ hd.down _ _ ho _ he hb
  | two _ _ h1 h2 => exact Nat.lt_trans h1 h2
theorem Waits.last {i j : Nat} (h : Waits ops i j) : ∃ o, ops[j]? = some o ∧ ∃ e ∈ o.after, Region.binds .any e = true ∧ (e.on = i ∨ Waits ops i e.on) := by
  induction h with
  | one ho he hb hon => exact ⟨_, ho, _, he, hb, .inl hon⟩
  | @two p q r h1 _ _ ih =>
    obtain ⟨o, ho, e, he, hb, h | h⟩ := ih
    · exact ⟨o, ho, e, he, hb, .inr (h ▸ h1)⟩
    · exact ⟨o, ho, e, he, hb, .inr (.two h1 h)⟩
theorem getD_false {l : Array Bool} {i : Nat} (h : l.getD i false = true) : i < l.size ∧ l.getD i true = true := by
  rcases Nat.lt_or_ge i l.size with h' | h'
  · refine ⟨h', ?_⟩
    rw [Array.getD, dif_pos h'] at h ⊢
    exact h
  · rw [Array.getD, dif_neg (by omega)] at h; cases h
theorem getD_true {l : Array Bool} {i : Nat} (hi : i < l.size) (h : l.getD i true = true) : l.getD i false = true := by
  rw [Array.getD, dif_pos hi] at h ⊢
  exact h
theorem ready_tail (hd : DrawOk ops m) {k : Nat} {listed : Array Bool} (hmk : m ≤ k) (hsz : listed.size = ops.size) (hl : ∀ i, i < ops.size → (listed.getD i true = true ↔ i < k)) {i : Nat} (hi : i ∈ Region.ready .any ops listed) : i = k := by
  obtain ⟨h1, o, h2, h3⟩ := ready_iff.1 hi
  have his := (Array.getElem?_eq_some_iff.1 h2).1
  have hik : ¬ i < k := fun h => by rw [(hl i his).2 h] at h1; cases h1
  rcases Nat.lt_or_ge k i with h | h
  · exfalso
    obtain ⟨o', ho', e, he, hbe, hw⟩ := (hd.tail k i h his (by omega)).last
    rw [h2] at ho'
    injection ho' with ho'
    subst ho'
    obtain ⟨h4, h5⟩ := getD_false (h3 e he hbe)
    have h6 := (hl e.on (by omega)).1 h5
    rcases hw with h7 | h7
    · omega
    · have := Waits.lt hd h7
      omega
  · omega
theorem ready_mem (hd : DrawOk ops m) {k : Nat} {listed : Array Bool} (hk : k < ops.size) (hsz : listed.size = ops.size) (hl : ∀ i, i < k → listed.getD i true = true) (hun : listed.getD k true = false) : k ∈ Region.ready .any ops listed := by
  refine ready_iff.2 ⟨hun, ops[k], by simp [hk], fun e he hb => ?_⟩
  have := hd.down k ops[k] (by simp [hk]) e he hb
  exact getD_true (by omega) (hl _ this)
/-- the tail: all done up to k -/
theorem wpAny_tail {Q : Exit → Act → World → Prop} (hd : DrawOk ops m) : ∀ (fuel k : Nat) (listed : Array Bool) (a : Act) (w : World), m ≤ k → k ≤ ops.size → listed.size = ops.size → ops.size - k ≤ fuel →
    (∀ i, i < ops.size → (listed.getD i true = true ↔ i < k)) → wpList P ops Q (ops.toList.drop k) a w → wpAny P .any ops Q fuel listed a w := by
  have hnil : ∀ (k : Nat) (listed : Array Bool) (a : Act) (w : World), k ≤ ops.size → listed.size = ops.size → (∀ i, i < ops.size → (listed.getD i true = true ↔ i < k)) → Region.ready .any ops listed = [] → wpList P ops Q (ops.toList.drop k) a w → Q .normal a w := by
    intro k listed a w hk hsz hl hr h
    rcases Nat.lt_or_ge k ops.size with hlt | hge
    · have : k ∈ Region.ready .any ops listed := ready_mem hd hlt hsz (fun i hi => (hl i (by omega)).2 hi) (by
        cases hb : listed.getD k true
        · rfl
        · have := (hl k hlt).1 hb; omega)
      rw [hr] at this
      cases this
    · rw [List.drop_of_length_le (by simp; omega)] at h
      exact h
  intro fuel
  induction fuel with
  | zero =>
    intro k listed a w hmk hk hsz hf hl h
    have hr : Region.ready .any ops listed = [] := by
      cases hr : Region.ready .any ops listed with
      | nil => rfl
      | cons i _ =>
        exfalso
        have hi : i ∈ Region.ready .any ops listed := by rw [hr]; exact List.mem_cons_self
        have e := ready_tail hd hmk hsz hl hi
        obtain ⟨_, o, h2, _⟩ := ready_iff.1 hi
        have := (Array.getElem?_eq_some_iff.1 h2).1
        omega
    exact ⟨hr, hnil k listed a w hk hsz hl hr h⟩
  | succ fuel ih =>
    intro k listed a w hmk hk hsz hf hl h
    refine ⟨fun hr => hnil k listed a w hk hsz hl hr h, fun i hi => ?_⟩
    obtain rfl := ready_tail hd hmk hsz hl hi
    obtain ⟨_, o, ho, _⟩ := ready_iff.1 hi
    have his := (Array.getElem?_eq_some_iff.1 ho).1
    have hdrop : ops.toList.drop i = o :: ops.toList.drop (i + 1) := by
      rw [List.drop_eq_getElem_cons (by simpa using his)]
      congr 1
      have := (Array.getElem?_eq_some_iff.1 ho).2
      simpa using this
    rw [hdrop] at h
    refine wpOp_mono (K := wpList P ops Q (ops.toList.drop (i + 1))) (fun a' w' h' => ?_) ?_
    · refine ih (i + 1) _ a' w' (by omega) (by omega) (by simpa using hsz) (by omega) (fun j hj => ?_) h'
      rw [getD_set' (by omega) true]
      by_cases e : i = j
      · subst e; simp
      · rw [if_neg e, hl j hj]; omega
    · unfold wpOp
      simp only [ho]
      exact h
theorem countP_lt' {p q : Nat → Bool} {i : Nat} (hpq : ∀ j, q j = true → p j = true) (hp : p i = true) (hq : q i = false) : ∀ {l : List Nat}, i ∈ l → l.countP q < l.countP p
  | x :: xs, hi => by
    have hle : ∀ l : List Nat, l.countP q ≤ l.countP p := fun l => List.countP_mono_left fun j _ h => hpq j h
    rw [List.countP_cons, List.countP_cons]
    rcases List.mem_cons.1 hi with rfl | hi
    · have := hle xs
      simp only [hp, hq, if_true]
      simp
      omega
    · have := countP_lt' hpq hp hq hi
      have hx := hpq x
      cases hqx : q x
      · simp only [Bool.false_eq_true, if_false]
        split <;> omega
      · rw [hx hqx]
        simpa using this
/-- The rule: m operations that only add memory, in any order; then those behind, in theirs. -/
theorem Sym.draw {id : Nat} (m : Nat) (hm : P.follows .mixedOrders = true) (hsyn : drawOk ops m = true) (h : MTo P n ops (fun s => SymL P c n ops Q (ops.toList.drop m) s) m ops.toList s) :
    Sym P c n (.region id ops true) Q s := by
  have hd := drawOk.ok hsyn
  obtain ⟨gd, hst, hT⟩ := h.steps s 0 (fun _ => (true, .p (.x undef))) rfl (fun j => by simp) (fun i hi => by omega)
  simp only [Nat.zero_add] at hst hT
  rintro a0 w0 ⟨β, S, hH, hdf, hn, he⟩
  refine wp_region_any hm ?_
  have hx0 : Ext w0 { w0 with drawn := w0.drawn + 1 } := (Ext.refl w0).drew
  have M0 : Mid c n ops s gd β S m a0 (Array.replicate ops.size false) a0 { w0 with drawn := w0.drawn + 1 } := by
    refine ⟨hH.ext hx0, hdf, hn, fun t => (he t).ext hx0, hn, ?_, ?_, fun _ _ => rfl⟩
    · intro i h1 h2; simp [Array.getD, h2] at h1
    · intro i t h1 h2; simp [Array.getD, h2] at h1
  have main : ∀ (fuel : Nat) (listed : Array Bool) (a : Act) (w : World), listed.size = ops.size → (List.range ops.size).countP (fun i => !listed.getD i true) ≤ fuel →
      Mid c n ops s gd β S m a0 listed a w → (∀ i j, Waits ops i j → listed.getD j true = true → j < ops.size → listed.getD i true = true) →
      wpAny P .any ops (fun e a' w' => ∃ s', SRx c n e s' a' w' ∧ Q e s') fuel listed a w := by
    have fulls : ∀ (fuel : Nat) (listed : Array Bool) (a : Act) (w : World), listed.size = ops.size → (List.range ops.size).countP (fun i => !listed.getD i true) ≤ fuel → Mid c n ops s gd β S m a0 listed a w → (∀ i, i < m → listed.getD i true = true) →
        wpAny P .any ops (fun e a' w' => ∃ s', SRx c n e s' a' w' ∧ Q e s') fuel listed a w := by
      intro fuel listed a w hsz hf M hall
      have hiff : ∀ i, i < ops.size → (listed.getD i true = true ↔ i < m) := fun i hi => ⟨fun h => M.ahead i h hi, fun h => hall i h⟩
      refine wpAny_tail hd fuel m listed a w (Nat.le_refl _) hd.le hsz ?_ hiff ?_
      · have : ops.size - m ≤ (List.range ops.size).countP (fun i => !listed.getD i true) := by
          have h1 : (List.range ops.size).countP (fun i => !listed.getD i true) = (List.range ops.size).countP (fun i => decide (m ≤ i)) := by
            refine List.countP_congr fun i hi => ?_
            have := hiff i (List.mem_range.1 hi)
            cases hb : listed.getD i true
            · rw [hb] at this; simp at this ⊢; omega
            · rw [hb] at this; simp at this ⊢; omega
          rw [h1]
          have h2 : ∀ q, (List.range q).countP (fun i => decide (m ≤ i)) = q - m := by
            intro q
            induction q with
            | zero => simp
            | succ q ih =>
              rw [List.range_succ, List.countP_append, ih]
              by_cases h : m ≤ q
              · simp [h]; omega
              · simp [h]; omega
          rw [h2]
          exact Nat.le_refl _
        omega
      · exact hT a w (M.full (fun i hi o ho => (hst i hi o ho).ds) hall hd.le)
    intro fuel
    induction fuel with
    | zero =>
      intro listed a w hsz hc M hcl
      refine fulls 0 listed a w hsz hc M fun i hi => ?_
      have h0 := List.countP_eq_zero.1 (Nat.le_zero.1 hc) i (List.mem_range.2 (Nat.lt_of_lt_of_le hi hd.le))
      simpa using h0
    | succ fuel ih =>
      intro listed a w hsz hc M hcl
      by_cases hall : ∀ i, i < m → listed.getD i true = true
      · exact fulls _ listed a w hsz hc M hall
      have hne : Region.ready .any ops listed ≠ [] := by
        intro hr
        refine hall ?_
        intro i
        induction i using Nat.strongRecOn with
        | ind i ihi =>
          intro hi
          cases hb : listed.getD i true with
          | true => rfl
          | false =>
            have := ready_mem hd (Nat.lt_of_lt_of_le hi hd.le) hsz (fun j hj => ihi j hj (by omega)) hb
            rw [hr] at this
            cases this
      refine ⟨fun hr => absurd hr hne, fun i hi => ?_⟩
      obtain ⟨hun, o, ho, hpre⟩ := ready_iff.1 hi
      have his := (Array.getElem?_eq_some_iff.1 ho).1
      have hwait : ∀ j, Waits ops j i → listed.getD j true = true := by
        intro j hj
        obtain ⟨o', ho', e, he', hb', h | h⟩ := hj.last
        · rw [ho] at ho'
          injection ho' with ho'
          subst ho'
          exact h ▸ (getD_false (hpre e he' hb')).2
        · rw [ho] at ho'
          injection ho' with ho'
          subst ho'
          have h1 := getD_false (hpre e he' hb')
          exact hcl j e.on h h1.2 (by omega)
      have him : i < m := by
        rcases Nat.lt_or_ge i m with h | h
        · exact h
        · exact absurd (fun j hj => hwait j (hd.tail j i (by omega) his h)) hall
      have hw := (hst i him o ho).run (a := a) (w := w) (by rw [stAt_H]; exact M.hst.toHOk) (M.ents hd hsz hcl ho hun hwait)
        (K := wpAny P .any ops (fun e a' w' => ∃ s', SRx c n e s' a' w' ∧ Q e s') fuel (listed.setIfInBounds i true)) (Q := fun e a' w' => ∃ s', SRx c n e s' a' w' ∧ Q e s') fun u w' hx hu => by
          refine ih _ _ _ (by simpa using hsz) ?_ (M.next hd hsz ho him hun (hst i him o ho).ds hx hu) ?_
          · have := countP_lt' (p := fun i => !listed.getD i true) (q := fun j => !(listed.setIfInBounds i true).getD j true) (i := i) (fun j hj => by
              rw [getD_set' (by omega) true] at hj
              by_cases h : i = j
              · rw [if_pos h] at hj; cases hj
              · rw [if_neg h] at hj; exact hj) (by simpa using hun) (by rw [getD_set' (by omega) true, if_pos rfl]; rfl) (List.mem_range.2 his)
            omega
          · intro p q hpq hq hqs
            rw [getD_set' (by omega) true] at hq ⊢
            split
            · rfl
            · by_cases h : i = q
              · subst h; exact hwait p hpq
              · rw [if_neg h] at hq; exact hcl p q hpq hq hqs
      unfold wpOp
      simp only [ho]
      split
      · rename_i h; rw [if_pos h] at hw; exact .inl hw
      · rename_i h; rw [if_neg h] at hw; exact hw
  refine main _ _ _ _ (by simp) (Nat.le_trans List.countP_le_length (by simp)) M0 ?_
  intro i j _ h hj
  simp [Array.getD, hj] at h
end
end Go.Sy
set_option linter.unusedSimpArgs false
set_option linter.unusedVariables false
namespace Go.Sy
open Go.RowKit

/-! ### code -/
def thenS (next : St → Prop) (Q : Exit → St → Prop) : Exit → St → Prop
  | .normal, s => next s
  | e, s => Q e s
def blockS (id : Nat) (Q : Exit → St → Prop) : Exit → St → Prop
  | .exit id', s => if id' = id then Q .normal s else Q (.exit id') s
  | e, s => Q e s
section
variable {P : Program} {c : Ctx} {n : Nat} {Q Q' : Exit → St → Prop} {s : St} {x y : Code}
theorem Sym.mono (h : Sym P c n x Q s) (hQ : ∀ e s, Q e s → Q' e s) : Sym P c n x Q' s := fun a w hr =>
  wp_mono (h a w hr) fun e _ _ ⟨s', h1, h2⟩ => ⟨s', h1, hQ e s' h2⟩
theorem Sym.seq (h : Sym P c n x (thenS (Sym P c n y Q) Q) s) : Sym P c n (.seq x y) Q s := fun a w hr =>
  wp_seq (wp_mono (h a w hr) fun e a' w' ⟨s', h1, h2⟩ => by
    cases e with
    | normal => exact h2 a' w' h1
    | exit _ => exact ⟨s', h1, h2⟩
    | goto _ => exact ⟨s', h1, h2⟩
    | ret => exact ⟨s', h1, h2⟩
    | panic _ => exact ⟨s', h1, h2⟩
    | outgrown => exact ⟨s', h1, h2⟩)
theorem Sym.block {id : Nat} (h : Sym P c n x (blockS id Q) s) : Sym P c n (.block id x) Q s := fun a w hr =>
  wp_block (wp_mono (h a w hr) fun e a' w' ⟨s', h1, h2⟩ => by
    cases e with
    | exit id' =>
      simp only [blockS, Exit.inBlock] at h2 ⊢
      split
      · rename_i e; rw [if_pos e] at h2; exact ⟨s', h1, h2⟩
      · rename_i e; rw [if_neg e] at h2; exact ⟨s', h1, h2⟩
    | normal => exact ⟨s', h1, h2⟩
    | goto _ => exact ⟨s', h1, h2⟩
    | ret => exact ⟨s', h1, h2⟩
    | panic _ => exact ⟨s', h1, h2⟩
    | outgrown => exact ⟨s', h1, h2⟩)
theorem Sym.skip (h : Q .normal s) : Sym P c n .skip Q s := fun _ _ hr => wp_skip ⟨s, hr, h⟩
theorem Sym.exit {id : Nat} (h : Q (.exit id) s) : Sym P c n (.exit id) Q s := fun _ _ hr => wp_exit ⟨s, hr, h⟩
theorem Sym.ret (h : Q .ret s) : Sym P c n .ret Q s := fun _ _ hr => wp_ret ⟨s, .inl hr, h⟩
theorem Sym.label {l : Nat} (h : Q .normal s) : Sym P c n (.label l) Q s := fun _ _ hr => wp_label ⟨s, hr, h⟩
theorem Sym.cond {t : Tmp} {b : Bool} (hc : TM.get s.tm t = some (true, .p (.x (.bool b)))) (hx : b = true → Sym P c n x Q s) (hy : b = false → Sym P c n y Q s) : Sym P c n (.cond (.tmp t) x y) Q s := by
  rintro a w ⟨β, S, h1, h2, h3, h4⟩
  have hb := ((h4 t _ _ hc).2.1 rfl)
  exact wp_cond_split (t := b) hb (fun e => hx e a w ⟨β, S, h1, h2, h3, h4⟩) fun e => hy e a w ⟨β, S, h1, h2, h3, h4⟩
theorem Sym.condT {t : Tmp} (hc : TM.get s.tm t = some (true, .p (.x (.bool true)))) (hx : Sym P c n x Q s) : Sym P c n (.cond (.tmp t) x y) Q s := Sym.cond hc (fun _ => hx) fun h => by cases h
theorem Sym.condF {t : Tmp} (hc : TM.get s.tm t = some (true, .p (.x (.bool false)))) (hy : Sym P c n y Q s) : Sym P c n (.cond (.tmp t) x y) Q s := Sym.cond hc (fun h => by cases h) fun _ => hy
/-- what holds in s holds in s', of which less is known -/
def Le (c : Ctx) (s s' : St) : Prop := ∀ n a w, SR c n s a w → SR c n s' a w
theorem Le.refl (c : Ctx) (s : St) : Le c s s := fun _ _ _ h => h
theorem Le.trans {c : Ctx} {s s' s'' : St} (h : Le c s s') (k : Le c s' s'') : Le c s s'' := fun n a w hr => k n a w (h n a w hr)
theorem Sym.weak {s' : St} (hw : Le c s s') (h : Sym P c n x Q s') : Sym P c n x Q s := fun a w hr => h a w (hw n a w hr)
theorem SymL.weak {s' : St} {ops : Array Oper} {l : List Oper} (hw : Le c s s') (h : SymL P c n ops Q l s') : SymL P c n ops Q l s := fun a w hr => h a w (hw n a w hr)
/-- a loop: I k: what holds when k bounds what is left -/
theorem Sym.loop (I : Nat → St → Prop) (k : Nat) (h0 : ∃ s', I k s' ∧ Le c s s') (round : ∀ k s, I k s → Sym P c n x (thenS (fun s' => ∃ k', k' < k ∧ ∃ s'', I k' s'' ∧ Le c s' s'') Q) s) : Sym P c n (.loop x) Q s := by
  intro a w hr b ks cs
  have key : ∀ k s a w, I k s → SR c n s a w →
      ∃ e a' w', (∃ s', SRx c n e s' a' w' ∧ Q e s') ∧ Arrives P (lone (b.at a (.code x :: .inLoop x :: ks)) cs w) b ks cs e a' w' := by
    intro k
    induction k using Nat.strongRecOn with
    | ind k ih =>
      intro s a w hI hr
      obtain ⟨e, a₁, w₁, ⟨s₁, hr₁, hq⟩, harr⟩ := round k s hI a w hr b (.inLoop x :: ks) cs
      cases e with
      | normal =>
        obtain ⟨k', hlt, s₂, hI', hw⟩ := hq
        obtain ⟨e₂, a₂, w₂, hq₂, harr₂⟩ := ih k' hlt s₂ a₁ w₁ hI' (hw _ _ _ hr₁)
        exact ⟨e₂, a₂, w₂, hq₂, .of_steps (Steps.trans harr (.one step_inLoop)) harr₂⟩
      | exit id => exact ⟨_, a₁, w₁, ⟨s₁, hr₁, hq⟩, .pass (x := .inLoop x) rfl (fun _ _ => .inl (by simp)) harr⟩
      | goto l => exact ⟨_, a₁, w₁, ⟨s₁, hr₁, hq⟩, .pass (x := .inLoop x) rfl (fun _ _ => .inl (by simp)) harr⟩
      | ret => exact ⟨_, a₁, w₁, ⟨s₁, hr₁, hq⟩, .pass (x := .inLoop x) rfl (fun _ _ => .inl (by simp)) harr⟩
      | panic ch => exact ⟨_, a₁, w₁, ⟨s₁, hr₁, hq⟩, .pass (x := .inLoop x) rfl (fun _ _ => .inl (by simp)) harr⟩
      | outgrown => exact ⟨_, a₁, w₁, ⟨s₁, hr₁, hq⟩, .pass (x := .inLoop x) rfl (fun _ _ => .inl (by simp)) harr⟩
  obtain ⟨s0, hI0, hw0⟩ := h0
  obtain ⟨e, a', w', hq, harr⟩ := key k s0 a w hI0 (hw0 _ _ _ hr)
  exact ⟨e, a', w', hq, .of_steps (.one step_loop) harr⟩
end

/-! ### forgetting -/
mutual
/-- does it lead to boxes ahead of k alone? -/
def D.upTo (k : Nat) : D → Bool
  | .p _ => true
  | .agg cs => D.upToL k cs
  | .tup cs => D.upToL k cs
  | .ptr i _ => Nat.blt i k
  | .row i _ => Nat.blt i k
  | .clo _ fs cs => D.upToL k fs && D.upToL k cs
  | .lit _ cs => D.upToL k cs
  | .refD cs => D.upToL k cs
  | .any => true
def D.upToL (k : Nat) : List D → Bool
  | [] => true
  | d :: ds => D.upTo k d && D.upToL k ds
end
def TM.upTo (k : Nat) : List (Nat × Bool × D) → Bool
  | [] => true
  | (_, _, d) :: l => d.upTo k && TM.upTo k l
def Hp.upTo (k : Nat) : List (Option Box) → Bool
  | [] => true
  | none :: l => Hp.upTo k l
  | some x :: l => D.upToL k x.cs && Hp.upTo k l
section
variable {β β' : List Place} {S : Nat → Prop} {w : World} {k : Nat}
mutual
theorem D.Rep.upTo (h : ∀ i, i < k → β'[i]? = β[i]?) : ∀ {d : D} {u : Value}, d.upTo k = true → d.Rep β S w u → d.Rep β' S w u
  | .p _, _, _, h => h
  | .agg _, _, hb, ⟨us, h1, h2⟩ => ⟨us, h1, D.RepL.upTo h hb h2⟩
  | .tup _, _, hb, ⟨us, h1, h2⟩ => ⟨us, h1, D.RepL.upTo h hb h2⟩
  | .ptr i _, _, hb, ⟨b, c, h1, h2⟩ => ⟨b, c, by rw [h i (by simpa [D.upTo] using hb)]; exact h1, h2⟩
  | .row i _, _, hb, hr => by
    have hi := h i (by simpa [D.upTo] using hb)
    rcases hr with ⟨h1, h2⟩ | ⟨b, c, h1, h2⟩
    · exact .inl ⟨by rw [hi]; exact h1, h2⟩
    · exact .inr ⟨b, c, by rw [hi]; exact h1, h2⟩
  | .clo _ _ _, _, hb, ⟨us, vs, h1, h2, h3⟩ => by
    simp only [D.upTo, Bool.and_eq_true] at hb
    exact ⟨us, vs, h1, D.RepL.upTo h hb.1 h2, D.RepL.upTo h hb.2 h3⟩
  | .lit _ _, _, hb, ⟨a, us, h1, h2, h3, h4⟩ => ⟨a, us, h1, h2, D.RepL.upTo h hb h3, h4⟩
  | .refD _, _, hb, ⟨a, us, h1, h3, h4⟩ => ⟨a, us, h1, D.RepL.upTo h hb h3, h4⟩
  | .any, _, _, _ => trivial
theorem D.RepL.upTo (h : ∀ i, i < k → β'[i]? = β[i]?) : ∀ {d : List D} {us : List Value}, D.upToL k d = true → D.RepL β S w d us → D.RepL β' S w d us
  | [], _, _, h => h
  | _ :: _, _, hb, ⟨y, ys, h1, h2, h3⟩ => by
    simp only [D.upToL, Bool.and_eq_true] at hb
    exact ⟨y, ys, h1, D.Rep.upTo h hb.1 h2, D.RepL.upTo h hb.2 h3⟩
end
end
/-- entries that s has as well -/
def TM.sub (tm : List (Nat × Bool × D)) : List (Nat × Bool × D) → Prop
  | [] => True
  | (t, g, d) :: l => TM.get tm t = some (g, d) ∧ TM.sub tm l
def Hp.sub : List (Option Box) → List (Option Box) → Prop
  | _, [] => True
  | a :: as, b :: bs => (b = none ∨ a = b) ∧ Hp.sub as bs
  | [], _ :: _ => False
structure Weak (s s' : St) : Prop where
  tm : TM.sub s.tm s'.tm
  H : Hp.sub s.H s'.H
  tb : TM.upTo s'.H.length s'.tm = true
  hb : Hp.upTo s'.H.length s'.H = true
section
variable {c : Ctx} {n : Nat} {s s' : St} {a : Act} {w : World}
theorem TM.sub_get {tm : List (Nat × Bool × D)} {t : Nat} {g : Bool} {d : D} {k : Nat} : ∀ {l : List (Nat × Bool × D)}, TM.sub tm l → TM.upTo k l = true → TM.get l t = some (g, d) → TM.get tm t = some (g, d) ∧ d.upTo k = true
  | [], _, _, h => by cases h
  | (t', g', d') :: l, hs, hb, h => by
    simp only [TM.upTo, Bool.and_eq_true] at hb
    rw [TM.get_cons] at h
    split at h
    · rename_i e
      subst e
      simp only [Option.some.injEq, Prod.mk.injEq] at h
      obtain ⟨rfl, rfl⟩ := h
      exact ⟨hs.1, hb.1⟩
    · exact TM.sub_get hs.2 hb.2 h
theorem Hp.sub_get : ∀ {l l' : List (Option Box)} {i : Nat} {x : Box}, Hp.sub l l' → l'[i]? = some (some x) → l[i]? = some (some x)
  | _, [], _, _, _, h => by simp at h
  | a :: as, b :: bs, 0, x, hs, h => by
    simp at h
    subst h
    rcases hs.1 with h | h
    · cases h
    · simp [h]
  | a :: as, b :: bs, i + 1, x, hs, h => by simpa using Hp.sub_get (i := i) hs.2 (by simpa using h)
  | [], _ :: _, _, _, hs, _ => hs.elim
theorem Hp.sub_len : ∀ {l l' : List (Option Box)}, Hp.sub l l' → l'.length ≤ l.length
  | _, [], _ => by simp
  | a :: as, b :: bs, hs => by simpa using Hp.sub_len hs.2
  | [], _ :: _, hs => hs.elim
theorem Hp.upTo_get {k : Nat} : ∀ {l : List (Option Box)} {i : Nat} {x : Box}, Hp.upTo k l = true → l[i]? = some (some x) → D.upToL k x.cs = true
  | [], _, _, _, h => by simp at h
  | none :: l, 0, _, _, h => by simp at h
  | none :: l, i + 1, _, hb, h => Hp.upTo_get (l := l) (i := i) (by simpa [Hp.upTo] using hb) (by simpa using h)
  | some y :: l, 0, _, hb, h => by
    simp at h
    subst h
    simp only [Hp.upTo, Bool.and_eq_true] at hb
    exact hb.1
  | some y :: l, i + 1, _, hb, h => by
    simp only [Hp.upTo, Bool.and_eq_true] at hb
    exact Hp.upTo_get (l := l) (i := i) hb.2 (by simpa using h)
theorem SR.weak (h : SR c n s a w) (hw : Weak s s') (hc : c.β0.length ≤ s'.H.length) : SR c n s' a w := by
  obtain ⟨β, S, hH, hd, hn, he⟩ := h
  have hle := Hp.sub_len hw.H
  have hb : ∀ i, i < s'.H.length → (β.take s'.H.length)[i]? = β[i]? := fun i hi => by rw [List.getElem?_take, if_pos hi]
  have hb2 : ∀ {i : Nat} {e : Place}, (β.take s'.H.length)[i]? = some e → β[i]? = some e := fun {i e} h => by
    rw [List.getElem?_take] at h
    split at h
    · exact h
    · cases h
  refine ⟨β.take s'.H.length, S, ⟨⟨hH.up, ?_, by rw [List.length_take, hH.len]; omega, ?_⟩, hH.sub, fun i b q hi => hH.own i b q (hb2 hi), hH.fr, ?_, ?_, hH.keepS, hH.os, hH.tape, hH.output, hH.size⟩, hd, hn, ?_⟩
  · intro i x hx
    have hi : i < s'.H.length := by
      rcases Nat.lt_or_ge i s'.H.length with h | h
      · exact h
      · rw [List.getElem?_eq_none h] at hx; cases hx
    rcases hH.box i x (Hp.sub_get hw.H hx) with ⟨h1, h2⟩ | ⟨b, q, cur, us, h1, h2, h3, h4, h5⟩
    · exact .inl ⟨by rw [hb i hi]; exact h1, h2⟩
    · exact .inr ⟨b, q, cur, us, by rw [hb i hi]; exact h1, h2, h3, D.RepL.upTo hb (Hp.upTo_get hw.hb hx) h4, h5⟩
  · intro i j x y b p q h1 h2 h3 h4
    exact hH.inj i j x y b p q (Hp.sub_get hw.H h1) (Hp.sub_get hw.H h2) (hb2 h3) (hb2 h4)
  · intro i e hi h1
    have h3 : i < s'.H.length := Nat.lt_of_lt_of_le (List.getElem?_eq_some_iff.1 h1).1 hc
    rw [hb i h3]
    exact hH.keep i e hi h1
  · rw [List.length_take, hH.len]
    omega
  · intro t g d hg
    obtain ⟨h1, h2⟩ := TM.sub_get hw.tm hw.tb hg
    obtain ⟨h3, h4, h5⟩ := he t g d h1
    exact ⟨h3, fun hg => D.Rep.upTo hb h2 (h4 hg), h5⟩
theorem Weak.le (hw : Weak s s') (hc : c.β0.length ≤ s'.H.length) : Le c s s' := fun _ _ _ h => h.weak hw hc
end
end Go.Sy
set_option linter.unusedSimpArgs false
set_option linter.unusedVariables false
namespace Go.Sy
open Go.RowKit

/-- a type, as the program's table has it -/
class TyI (P : Program) (t : TypeId) (i : outParam TypeInfo) (u : outParam TypeDesc) : Prop where
  ti : P.info? t = some i
  ut : P.underlying t = some u
/-- an operand's datum, where the guard g holds -/
def Ev (s : St) (g : Bool) : Operand → D → Prop
  | .tmp t, d => ∃ g', TM.get s.tm t = some (g', d) ∧ (g = true → g' = true)
  | .const v, d => d = .p (.x v)
  | .func f, d => d = .p (.x (.func (.func f) #[] #[]))
  | .global _, _ => False
section
variable {s : St} {g : Bool} {d : D}
theorem Ev.t {t : Tmp} (h : TM.get s.tm t = some (true, d)) : Ev s g (.tmp t) d := ⟨true, h, fun _ => rfl⟩
theorem Ev.tg {t : Tmp} (h : TM.get s.tm t = some (g, d)) : Ev s g (.tmp t) d := ⟨g, h, id⟩
theorem Ev.tw {t : Tmp} {g' : Bool} (h : TM.get s.tm t = some (g', d)) (k : g = true → g' = true) : Ev s g (.tmp t) d := ⟨g', h, k⟩
theorem Ev.c {v : Value} : Ev s g (.const v) (.p (.x v)) := rfl
theorem Ev.f {f : FuncId} : Ev s g (.func f) (.p (.x (.func (.func f) #[] #[]))) := rfl
end
theorem run_sizeOf' {P : Program} {t : TypeId} {i : TypeInfo} (h : P.info? t = some i) (w : World) : (sizeOf t).run P w = .ok i.size w := by
  simp [sizeOf, run_typeInfo w h]
theorem run_zeroValue' {P : Program} {t : TypeId} {i : TypeInfo} {z : Value} (h : P.info? t = some i) (hz : i.zero = some z) (w : World) : (zeroValue t).run P w = .ok z w := by
  simp [zeroValue, run_typeInfo w h, hz]
def TypeDesc.isAgg : TypeDesc → Bool
  | .struct _ | .array _ _ => true
  | _ => false
theorem run_isAgg' {P : Program} {t : TypeId} {u : TypeDesc} (h : P.underlying t = some u) (w : World) : (isAgg t).run P w = .ok (TypeDesc.isAgg u) w := by
  cases u <;> simp [isAgg, run_underlying h, TypeDesc.isAgg]

section
variable {P : Program} {s : St} {g : Bool} {dst : Option Tmp} {ty : TypeId} {pos : String} {af : Array Edge} {gd : Option (Nat × Bool)}
theorem Ev.rep {x : Operand} {d : D} {l : Array Operand} {β : List Place} {S : Nat → Prop} {a : Act} {w : World} (h : Ev s g x d) (hx : x ∈ l) (he : ∀ t, .tmp t ∈ l → EntAt s β S w a t) (hg : g = true) : d.Rep β S w (a.eval x) := by
  cases x with
  | tmp t =>
    obtain ⟨g', h1, h2⟩ := h
    exact (he t hx g' d h1).2.1 (h2 hg)
  | const v => cases h; exact rfl
  | func f => cases h; exact rfl
  | global _ => exact h.elim
theorem wp_value {o : Oper} {a : Act} {w w' : World} {v : Value} {K : Act → World → Prop} {Q : Exit → Act → World → Prop} (h : (execOp a.eval o).run P w = .ok (.value v) w') (hK : K (a.put o.dst v) w') : o.wp P a w K Q := by
  unfold Oper.wp
  rw [h]
  exact hK
/-- one operand, no change -/
theorem MOp.of1 {op : Op} {x : Operand} {dx d : D} (hx : Ev s g x dx) (hm : x ∈ op.operands)
    (h : ∀ β S w (ρ : Operand → Value), HOk s.H β S w → dx.Rep β S w (ρ x) → ∃ v, (execOp ρ ⟨dst, op, ty, pos, af, gd⟩).run P w = .ok (.value v) w ∧ d.Rep β S w v) : MOp P s ⟨dst, op, ty, pos, af, gd⟩ g d := by
  refine ⟨fun β S a w ho he hg K Q hK => ?_⟩
  obtain ⟨v, h1, h2⟩ := h β S w a.eval ho (hx.rep hm he hg)
  exact wp_value h1 (hK v w (Ext.refl w) h2)
/-- two operands, no change -/
theorem MOp.of2 {op : Op} {x y : Operand} {dx dy d : D} (hx : Ev s g x dx) (hy : Ev s g y dy) (hmx : x ∈ op.operands) (hmy : y ∈ op.operands)
    (h : ∀ β S w (ρ : Operand → Value), HOk s.H β S w → dx.Rep β S w (ρ x) → dy.Rep β S w (ρ y) → ∃ v, (execOp ρ ⟨dst, op, ty, pos, af, gd⟩).run P w = .ok (.value v) w ∧ d.Rep β S w v) : MOp P s ⟨dst, op, ty, pos, af, gd⟩ g d := by
  refine ⟨fun β S a w ho he hg K Q hK => ?_⟩
  obtain ⟨v, h1, h2⟩ := h β S w a.eval ho (hx.rep hmx he hg) (hy.rep hmy he hg)
  exact wp_value h1 (hK v w (Ext.refl w) h2)
theorem MOp.move {x : Operand} {d : D} (hx : Ev s g x d) : MOp P s ⟨dst, .move x, ty, pos, af, gd⟩ g d :=
  MOp.of1 hx (by simp [Op.operands]) fun β S w ρ _ h => ⟨_, by simp [execOp], h⟩
theorem MOp.assign {x : Operand} {d : D} (hx : Ev s g x d) : MOp P s ⟨dst, .assign x, ty, pos, af, gd⟩ g d :=
  MOp.of1 hx (by simp [Op.operands]) fun β S w ρ _ h => ⟨_, by simp [execOp], h⟩
/-- pick of two Bools, each known where it is wanted -/
theorem MOp.pick {x y z : Operand} {b p q : Bool} (hx : Ev s g x (.p (.x (.bool b)))) (hy : Ev s (g && b) y (.p (.x (.bool p)))) (hz : Ev s (g && !b) z (.p (.x (.bool q)))) :
    MOp P s ⟨dst, .pick x y z, ty, pos, af, gd⟩ g (.p (.x (.bool (bif b then p else q)))) := by
  refine ⟨fun β S a w ho he hg K Q hK => ?_⟩
  subst hg
  have h1 : a.eval x = .bool b := hx.rep (l := (Op.pick x y z).operands) (by simp [Op.operands]) he rfl
  cases b with
  | true =>
    have h2 : a.eval y = .bool p := hy.rep (l := (Op.pick x y z).operands) (by simp [Op.operands]) he rfl
    exact wp_value (v := .bool p) (by simp [execOp, h1, h2, asBool]) (hK _ w (Ext.refl w) rfl)
  | false =>
    have h2 : a.eval z = .bool q := hz.rep (l := (Op.pick x y z).operands) (by simp [Op.operands]) he rfl
    exact wp_value (v := .bool q) (by simp [execOp, h1, h2, asBool]) (hK _ w (Ext.refl w) rfl)
theorem MOp.pickAnd {x y : Operand} {b p : Bool} (hx : Ev s g x (.p (.x (.bool b)))) (hy : Ev s (g && b) y (.p (.x (.bool p)))) :
    MOp P s ⟨dst, .pick x y (.const (.bool false)), ty, pos, af, gd⟩ g (.p (.x (.bool (b && p)))) := by
  have := MOp.pick (P := P) (dst := dst) (ty := ty) (pos := pos) (af := af) (gd := gd) hx hy (Ev.c (s := s) (g := g && !b) (v := .bool false))
  have e : (bif b then p else false) = (b && p) := by cases b <;> rfl
  rwa [e] at this
theorem MOp.pickOr {x z : Operand} {b q : Bool} (hx : Ev s g x (.p (.x (.bool b)))) (hz : Ev s (g && !b) z (.p (.x (.bool q)))) :
    MOp P s ⟨dst, .pick x (.const (.bool true)) z, ty, pos, af, gd⟩ g (.p (.x (.bool (b || q)))) := by
  have := MOp.pick (P := P) (dst := dst) (ty := ty) (pos := pos) (af := af) (gd := gd) hx (Ev.c (s := s) (g := g && b) (v := .bool true)) hz
  have e : (bif b then true else q) = (b || q) := by cases b <;> rfl
  rwa [e] at this

/-! #### numbers -/
section
variable {x y : Operand} {k : IntKind} {a b : Int} {t t' : TypeId}
theorem MOp.bin {op : BinOp} {u v r : Value} (hx : Ev s g x (.p (.x u))) (hy : Ev s g y (.p (.x v))) (h : ∀ w, (do eqGuard op t x y u v; binOp op t u v : Sem Value).run P w = .ok r w) :
    MOp P s ⟨dst, .binOp op t x y t', ty, pos, af, gd⟩ g (.p (.x r)) :=
  MOp.of2 hx hy (by simp [Op.operands]) (by simp [Op.operands]) fun β S w ρ _ h1 h2 => by
    have h1 : ρ x = u := h1
    have h2 : ρ y = v := h2
    refine ⟨r, ?_, rfl⟩
    simp only [execOp, h1, h2]
    rw [Sem.run_bind, h w]
    rfl
theorem MOp.add (hx : Ev s g x (.p (.x (.int k a)))) (hy : Ev s g y (.p (.x (.int k b)))) : MOp P s ⟨dst, .binOp .add t x y t', ty, pos, af, gd⟩ g (.p (.x (.int k (k.wrap (a + b))))) := MOp.bin hx hy fun w => by simp [go_sem, Op.intArith]
theorem MOp.sub (hx : Ev s g x (.p (.x (.int k a)))) (hy : Ev s g y (.p (.x (.int k b)))) : MOp P s ⟨dst, .binOp .sub t x y t', ty, pos, af, gd⟩ g (.p (.x (.int k (k.wrap (a - b))))) := MOp.bin hx hy fun w => by simp [go_sem, Op.intArith]
theorem MOp.mul (hx : Ev s g x (.p (.x (.int k a)))) (hy : Ev s g y (.p (.x (.int k b)))) : MOp P s ⟨dst, .binOp .mul t x y t', ty, pos, af, gd⟩ g (.p (.x (.int k (k.wrap (a * b))))) := MOp.bin hx hy fun w => by simp [go_sem, Op.intArith]
theorem wrap_in (n : Int) (h0 : -9223372036854775808 ≤ n) (h1 : n ≤ 9223372036854775807) : IntKind.i64.wrap n = n := IntWalk.i64_in n ⟨h0, h1⟩
theorem MOp.addI (hx : Ev s g x (.p (.x (.int .i64 a)))) (hy : Ev s g y (.p (.x (.int .i64 b)))) (h : -9223372036854775808 ≤ a + b ∧ a + b ≤ 9223372036854775807) : MOp P s ⟨dst, .binOp .add t x y t', ty, pos, af, gd⟩ g (.p (.x (.int .i64 (a + b)))) := by
  have := MOp.add (P := P) (dst := dst) (ty := ty) (pos := pos) (af := af) (gd := gd) (t := t) (t' := t') hx hy
  rwa [wrap_in _ h.1 h.2] at this
theorem MOp.subI (hx : Ev s g x (.p (.x (.int .i64 a)))) (hy : Ev s g y (.p (.x (.int .i64 b)))) (h : -9223372036854775808 ≤ a - b ∧ a - b ≤ 9223372036854775807) : MOp P s ⟨dst, .binOp .sub t x y t', ty, pos, af, gd⟩ g (.p (.x (.int .i64 (a - b)))) := by
  have := MOp.sub (P := P) (dst := dst) (ty := ty) (pos := pos) (af := af) (gd := gd) (t := t) (t' := t') hx hy
  rwa [wrap_in _ h.1 h.2] at this
theorem MOp.mulI (hx : Ev s g x (.p (.x (.int .i64 a)))) (hy : Ev s g y (.p (.x (.int .i64 b)))) (h : -9223372036854775808 ≤ a * b ∧ a * b ≤ 9223372036854775807) : MOp P s ⟨dst, .binOp .mul t x y t', ty, pos, af, gd⟩ g (.p (.x (.int .i64 (a * b)))) := by
  have := MOp.mul (P := P) (dst := dst) (ty := ty) (pos := pos) (af := af) (gd := gd) (t := t) (t' := t') hx hy
  rwa [wrap_in _ h.1 h.2] at this
theorem MOp.quo (hx : Ev s g x (.p (.x (.int k a)))) (hy : Ev s g y (.p (.x (.int k b)))) (hb : b ≠ 0) : MOp P s ⟨dst, .binOp .quo t x y t', ty, pos, af, gd⟩ g (.p (.x (.int k (k.wrap (a.tdiv b))))) := MOp.bin hx hy fun w => by simp [go_sem, Op.intDiv, hb]
theorem MOp.rem (hx : Ev s g x (.p (.x (.int k a)))) (hy : Ev s g y (.p (.x (.int k b)))) (hb : b ≠ 0) : MOp P s ⟨dst, .binOp .rem t x y t', ty, pos, af, gd⟩ g (.p (.x (.int k (a.tmod b)))) := MOp.bin hx hy fun w => by simp [go_sem, Op.intDiv, hb]
theorem MOp.remI (hx : Ev s g x (.p (.x (.int .i64 a)))) (hy : Ev s g y (.p (.x (.int .i64 b)))) (h : g = true → 0 ≤ a ∧ 0 < b) : MOp P s ⟨dst, .binOp .rem t x y t', ty, pos, af, gd⟩ g (.p (.x (.int .i64 (a % b)))) := by
  refine ⟨fun β S A w ho he hg => ?_⟩
  obtain ⟨h1, h2⟩ := h hg
  have := MOp.rem (P := P) (dst := dst) (ty := ty) (pos := pos) (af := af) (gd := gd) (t := t) (t' := t') hx hy (by omega)
  rw [Int.tmod_eq_emod_of_nonneg h1] at this
  exact this.run β S A w ho he hg
theorem MOp.quoI (hx : Ev s g x (.p (.x (.int .i64 a)))) (hy : Ev s g y (.p (.x (.int .i64 b)))) (h : g = true → 0 ≤ a ∧ 0 < b ∧ a ≤ 9223372036854775807) : MOp P s ⟨dst, .binOp .quo t x y t', ty, pos, af, gd⟩ g (.p (.x (.int .i64 (a / b)))) := by
  refine ⟨fun β S A w ho he hg => ?_⟩
  obtain ⟨h1, h2, h3⟩ := h hg
  have := MOp.quo (P := P) (dst := dst) (ty := ty) (pos := pos) (af := af) (gd := gd) (t := t) (t' := t') hx hy (by omega)
  have h4 := Int.ediv_nonneg h1 (Int.le_of_lt h2)
  have h5 : a / b ≤ a := Int.ediv_le_self _ h1
  rw [Int.tdiv_eq_ediv_of_nonneg h1, wrap_in _ (by omega) (by omega)] at this
  exact this.run β S A w ho he hg
theorem MOp.eql (hx : Ev s g x (.p (.x (.int k a)))) (hy : Ev s g y (.p (.x (.int k b)))) : MOp P s ⟨dst, .binOp .eql t x y t', ty, pos, af, gd⟩ g (.p (.x (.bool (a == b)))) := MOp.bin hx hy fun w => by simp [go_sem]
theorem MOp.neq (hx : Ev s g x (.p (.x (.int k a)))) (hy : Ev s g y (.p (.x (.int k b)))) : MOp P s ⟨dst, .binOp .neq t x y t', ty, pos, af, gd⟩ g (.p (.x (.bool (a != b)))) := MOp.bin hx hy fun w => by simp [go_sem]
theorem MOp.lss (hx : Ev s g x (.p (.x (.int k a)))) (hy : Ev s g y (.p (.x (.int k b)))) : MOp P s ⟨dst, .binOp .lss t x y t', ty, pos, af, gd⟩ g (.p (.x (.bool (decide (a < b))))) := MOp.bin hx hy fun w => by simp [go_sem]
theorem MOp.leq (hx : Ev s g x (.p (.x (.int k a)))) (hy : Ev s g y (.p (.x (.int k b)))) : MOp P s ⟨dst, .binOp .leq t x y t', ty, pos, af, gd⟩ g (.p (.x (.bool (decide (a ≤ b))))) := MOp.bin hx hy fun w => by simp [go_sem]
theorem MOp.gtr (hx : Ev s g x (.p (.x (.int k a)))) (hy : Ev s g y (.p (.x (.int k b)))) : MOp P s ⟨dst, .binOp .gtr t x y t', ty, pos, af, gd⟩ g (.p (.x (.bool (decide (a > b))))) := MOp.bin hx hy fun w => by simp [go_sem]
theorem MOp.geq (hx : Ev s g x (.p (.x (.int k a)))) (hy : Ev s g y (.p (.x (.int k b)))) : MOp P s ⟨dst, .binOp .geq t x y t', ty, pos, af, gd⟩ g (.p (.x (.bool (decide (a ≥ b))))) := MOp.bin hx hy fun w => by simp [go_sem]
theorem MOp.bits_ {op : BinOp} (hop : op = .and ∨ op = .or ∨ op = .xor ∨ op = .andNot) (hx : Ev s g x (.p (.x (.int k a)))) (hy : Ev s g y (.p (.x (.int k b)))) :
    MOp P s ⟨dst, .binOp op t x y t', ty, pos, af, gd⟩ g (.p (.x (.int k (bits op k a b)))) := by
  rcases hop with rfl | rfl | rfl | rfl <;> exact MOp.bin hx hy fun w => by simp [go_sem, Op.intBits, bits]
theorem MOp.shl {k' : IntKind} (hx : Ev s g x (.p (.x (.int k a)))) (hy : Ev s g y (.p (.x (.int k' b)))) (hb : 0 ≤ b) : MOp P s ⟨dst, .binOp .shl t x y t', ty, pos, af, gd⟩ g (.p (.x (.int k (k.wrap (a * 2 ^ (min b.toNat k.bits)))))) := MOp.bin hx hy fun w => by
  have : ¬ b < 0 := by omega
  simp [go_sem, Op.shift, this]
theorem MOp.shr {k' : IntKind} (hx : Ev s g x (.p (.x (.int k a)))) (hy : Ev s g y (.p (.x (.int k' b)))) (hb : 0 ≤ b) : MOp P s ⟨dst, .binOp .shr t x y t', ty, pos, af, gd⟩ g (.p (.x (.int k (a.fdiv (2 ^ (min b.toNat k.bits)))))) := MOp.bin hx hy fun w => by
  have : ¬ b < 0 := by omega
  simp [go_sem, Op.shift, this]
theorem MOp.eqlB {p q : Bool} {i : TypeInfo} [h : TyI P t i .bool] (hx : Ev s g x (.p (.x (.bool p)))) (hy : Ev s g y (.p (.x (.bool q)))) : MOp P s ⟨dst, .binOp .eql t x y t', ty, pos, af, gd⟩ g (.p (.x (.bool (p == q)))) := MOp.bin hx hy fun w => by
  rw [show (eqGuard .eql t x y (.bool p) (.bool q)) = pure () from rfl]
  exact run_eql_bool w t p q h.ut
theorem MOp.neqB {p q : Bool} {i : TypeInfo} [h : TyI P t i .bool] (hx : Ev s g x (.p (.x (.bool p)))) (hy : Ev s g y (.p (.x (.bool q)))) : MOp P s ⟨dst, .binOp .neq t x y t', ty, pos, af, gd⟩ g (.p (.x (.bool (p != q)))) := MOp.bin hx hy fun w => by
  rw [show (eqGuard .neq t x y (.bool p) (.bool q)) = pure () from rfl]
  exact run_neq_bool w t p q h.ut
theorem MOp.eqlS {p q : ByteArray} (hx : Ev s g x (.p (.x (.string p)))) (hy : Ev s g y (.p (.x (.string q)))) : MOp P s ⟨dst, .binOp .eql t x y t', ty, pos, af, gd⟩ g (.p (.x (.bool (p.toList == q.toList)))) := MOp.bin hx hy fun w => by
  simp [go_sem, binOp, Op.stringOp]
theorem MOp.neqS {p q : ByteArray} (hx : Ev s g x (.p (.x (.string p)))) (hy : Ev s g y (.p (.x (.string q)))) : MOp P s ⟨dst, .binOp .neq t x y t', ty, pos, af, gd⟩ g (.p (.x (.bool (!(p.toList == q.toList))))) := MOp.bin hx hy fun w => by
  simp [go_sem, binOp, Op.stringOp]
theorem MOp.lssS {p q : ByteArray} (hx : Ev s g x (.p (.x (.string p)))) (hy : Ev s g y (.p (.x (.string q)))) : MOp P s ⟨dst, .binOp .lss t x y t', ty, pos, af, gd⟩ g (.p (.x (.bool (Op.bytesLess p.toList q.toList)))) := MOp.bin hx hy fun w => by
  simp [go_sem, binOp, Op.stringOp]
theorem MOp.not {p : Bool} (hx : Ev s g x (.p (.x (.bool p)))) : MOp P s ⟨dst, .unOp .not t x, ty, pos, af, gd⟩ g (.p (.x (.bool (!p)))) :=
  MOp.of1 hx (by simp [Op.operands]) fun β S w ρ _ h => by
    have h : ρ x = .bool p := h
    exact ⟨.bool (!p), by simp [execOp, h, Op.unary], rfl⟩
theorem MOp.neg (hx : Ev s g x (.p (.x (.int k a)))) : MOp P s ⟨dst, .unOp .neg t x, ty, pos, af, gd⟩ g (.p (.x (.int k (k.wrap (0 - a))))) :=
  MOp.of1 hx (by simp [Op.operands]) fun β S w ρ _ h => by
    have h : ρ x = .int k a := h
    exact ⟨.int k (k.wrap (0 - a)), by simp [execOp, h, Op.unary, Op.intArith], rfl⟩
theorem MOp.conv {k' : IntKind} {i i' : TypeInfo} {u : TypeDesc} [h : TyI P t i u] [h' : TyI P t' i' (.int k')] (hx : Ev s g x (.p (.x (.int k a)))) : MOp P s ⟨dst, .convert t t' x, ty, pos, af, gd⟩ g (.p (.x (.int k' (k'.wrap a)))) :=
  MOp.of1 hx (by simp [Op.operands]) fun β S w ρ _ hr => by
    have hr : ρ x = .int k a := hr
    refine ⟨.int k' (k'.wrap a), ?_, rfl⟩
    have h2 : P.intKind t' = k' := by simp [Program.intKind, h'.ut]
    have := run_convert_int (P := P) w t t' k a (by simp [h.ut]) (by rw [h2, h'.ut])
    simp only [execOp, hr]
    rw [Sem.run_bind, this, h2]
    rfl
theorem MOp.convI {i i' : TypeInfo} {u : TypeDesc} [h : TyI P t i u] [h' : TyI P t' i' (.int .i64)] (hx : Ev s g x (.p (.x (.int k a)))) (hb : -9223372036854775808 ≤ a ∧ a ≤ 9223372036854775807) : MOp P s ⟨dst, .convert t t' x, ty, pos, af, gd⟩ g (.p (.x (.int .i64 a))) := by
  have := MOp.conv (P := P) (dst := dst) (ty := ty) (pos := pos) (af := af) (gd := gd) (t := t) (t' := t') hx
  rwa [wrap_in _ hb.1 hb.2] at this
theorem MOp.convS {i i' : TypeInfo} {v : ByteArray} [h : TyI P t i .string] [h' : TyI P t' i' .string] (hx : Ev s g x (.p (.x (.string v)))) : MOp P s ⟨dst, .convert t t' x, ty, pos, af, gd⟩ g (.p (.x (.string v))) :=
  MOp.of1 hx (by simp [Op.operands]) fun β S w ρ _ hr => by
    have hr : ρ x = .string v := hr
    exact ⟨.string v, by simp [execOp, hr, convert, run_underlying h.ut, run_underlying h'.ut], rfl⟩
end
end

/-! #### lists, bytes -/
/-- a slice of data -/
abbrev V.list {α : Type} (enc : α → List V) (l : List α) : V := .sl l.length (l.flatMap enc)
def V.byte (b : UInt8) : List V := [.x (.int .u8 (b.toNat : Int))]
abbrev V.bytes (l : List UInt8) : V := V.list V.byte l
abbrev V.str (l : List UInt8) : V := .x (.string (strB l))
abbrev V.i (n : Int) : V := .x (.int .i64 n)
abbrev V.b (n : Bool) : V := .x (.bool n)
section
variable {S : Nat → Prop} {w : World}
theorem V.RepL.byte : ∀ {l : List UInt8} {us : List Value}, V.RepL S w (l.flatMap V.byte) us ↔ us = l.map fun b => .int .u8 (b.toNat : Int)
  | [], us => Iff.rfl
  | b :: l, us => by
    rw [List.flatMap_cons]
    constructor
    · rintro ⟨y, ys, rfl, h1, h2⟩
      rw [V.RepL.byte.1 h2, show y = _ from h1]; rfl
    · rintro rfl
      exact ⟨_, _, rfl, rfl, V.RepL.byte.2 rfl⟩
theorem Kd.many_byte : ∀ {l : List UInt8} {cs : List Value}, Kd.byte.many S w l cs ↔ cs = l.map fun b => .int .u8 (b.toNat : Int)
  | [], cs => Iff.rfl
  | b :: l, cs => by
    constructor
    · rintro ⟨c, cs', rfl, h2, rfl⟩
      rw [Kd.many_byte.1 h2]; rfl
    · rintro rfl
      exact ⟨_, _, rfl, Kd.many_byte.2 rfl, rfl⟩
theorem V.Rep.bytes {l : List UInt8} {u : Value} : (V.bytes l).Rep S w u ↔ Kd.byte.L S w u l := by
  constructor
  · rintro ⟨a, c, us, h1, h2, h3, h4, h5⟩
    exact ⟨us, Kd.many_byte.2 (V.RepL.byte.1 h4), a, c, h1, h2, h3, h5⟩
  · rintro ⟨us, h4, a, c, h1, h2, h3, h5⟩
    exact ⟨a, c, us, h1, h2, h3, V.RepL.byte.2 (Kd.many_byte.1 h4), h5⟩
end
section
variable {P : Program} {s : St} {g : Bool} {dst : Option Tmp} {ty : TypeId} {pos : String} {af : Array Edge} {gd : Option (Nat × Bool)} {t t' e : TypeId} {x : Operand}
/-- string(b) -/
theorem MOp.convBytes {i i' j : TypeInfo} {l : List UInt8} [h : TyI P t i (.slice e)] [he : TyI P e j (.int .u8)] [h' : TyI P t' i' .string] (hx : Ev s g x (.p (.bytes l))) :
    MOp P s ⟨dst, .convert t t' x, ty, pos, af, gd⟩ g (.p (.str l)) :=
  MOp.of1 hx (by simp [Op.operands]) fun β S w ρ _ hr => by
    have hr : (V.bytes l).Rep S w (ρ x) := hr
    have := conv_bytes (P := P) (w := w) h.ut he.ut h'.ut (V.Rep.bytes.1 hr)
    refine ⟨.string (strB l), ?_, rfl⟩
    simp only [execOp]
    rw [Sem.run_bind, this]
    rfl
end
end Go.Sy
set_option linter.unusedSimpArgs false
set_option linter.unusedVariables false
namespace Go.Sy
open Go.RowKit

/-! ### a datum as another one: nil as an empty slice, and so on -/
mutual
inductive VLe : V → V → Prop
  | refl (v : V) : VLe v v
  | nil : VLe (.x (.slice none 0 0)) (.sl 0 [])
  | nilF : VLe (.x (.slice none 0 0)) (.fl 0 [])
  | fl {n : Nat} {a b : List V} : VLeL a b → VLe (.fl n a) (.sl n b)
  | xagg {arr : Array Value} {vs : List V} : VLeL (arr.toList.map V.x) vs → VLe (.x (.agg arr)) (.agg vs)
  | agg {a b : List V} : VLeL a b → VLe (.agg a) (.agg b)
  | tup {a b : List V} : VLeL a b → VLe (.tup a) (.tup b)
  | sl {n : Nat} {a b : List V} : VLeL a b → VLe (.sl n a) (.sl n b)
inductive VLeL : List V → List V → Prop
  | nil : VLeL [] []
  | cons {a b : V} {as bs : List V} : VLe a b → VLeL as bs → VLeL (a :: as) (b :: bs)
end
section
variable {S : Nat → Prop} {w : World}
mutual
theorem VLe.rep : ∀ {a b : V} {u : Value}, VLe a b → a.Rep S w u → b.Rep S w u
  | _, _, _, .refl _, h => h
  | _, _, _, .nil, h => h.nil_sl
  | _, _, _, .nilF, h => ⟨none, [], h, by simp [maxLen], rfl, Cells.nil⟩
  | _, _, _, .fl k, ⟨a, us, h1, h3, h4, h5⟩ => ⟨a, _, us, h1, Nat.le_refl _, h3, VLeL.rep k h4, h5⟩
  | _, _, _, .xagg (arr := arr) k, h => ⟨arr.toList, by rw [Array.toArray_toList]; exact h, VLeL.rep k V.RepL.x⟩
  | _, _, _, .agg k, ⟨us, h1, h2⟩ => ⟨us, h1, VLeL.rep k h2⟩
  | _, _, _, .tup k, ⟨us, h1, h2⟩ => ⟨us, h1, VLeL.rep k h2⟩
  | _, _, _, .sl k, ⟨a, c, us, h1, h2, h3, h4, h5⟩ => ⟨a, c, us, h1, h2, h3, VLeL.rep k h4, h5⟩
theorem VLeL.rep : ∀ {a b : List V} {us : List Value}, VLeL a b → V.RepL S w a us → V.RepL S w b us
  | _, _, _, .nil, h => h
  | _, _, _, .cons k1 k2, ⟨y, ys, h1, h2, h3⟩ => ⟨y, ys, h1, VLe.rep k1 h2, VLeL.rep k2 h3⟩
end
end
/-- a datum of the call's as one without addresses -/
structure DV (d : D) (v : V) : Prop where
  mk' ::
  ex : ∃ v', d.toV = some v' ∧ VLe v' v
theorem DV.of {d : D} {v : V} (h : d.toV = some v) : DV d v := ⟨v, h, .refl v⟩
theorem DV.mk {d : D} {v v' : V} (h : d.toV = some v') (hle : VLe v' v) : DV d v := ⟨v', h, hle⟩
theorem DV.rep {d : D} {v : V} {β : List Place} {S : Nat → Prop} {w : World} {u : Value} (h : DV d v) (k : d.Rep β S w u) : v.Rep S w u := by
  obtain ⟨v', h1, h2⟩ := h.ex
  exact h2.rep (k.toV h1)

/-! ### calls of functions that change nothing -/
/-- Called with these, the function comes back with r, and leaves what there was. -/
structure Fn1 (P : Program) (f : FuncId) (vs : List V) (r : V) : Prop where
  enter : ∀ args w, (callFunc f args).run P w = .ok (.enter f args) w
  calls : ∀ (S : Nat → Prop) w us, (∀ b, w.heap.size ≤ b → S b) → V.RepL S w vs us → Calls P f us.toArray w fun e w' => ∃ u, e = .returned u ∧ Ext w w' ∧ r.Rep S w' u
inductive EvL (s : St) (g : Bool) : List Operand → List V → Prop
  | nil : EvL s g [] []
  | cons {x : Operand} {xs : List Operand} {d : D} {v : V} {vs : List V} : Ev s g x d → DV d v → EvL s g xs vs → EvL s g (x :: xs) (v :: vs)
section
variable {P : Program} {s : St} {g : Bool} {dst : Option Tmp} {ty : TypeId} {pos : String} {af : Array Edge} {gd : Option (Nat × Bool)}
theorem EvL.rep {l : Array Operand} {β : List Place} {S : Nat → Prop} {a : Act} {w : World} (he : ∀ t, .tmp t ∈ l → EntAt s β S w a t) (hg : g = true) : ∀ {xs : List Operand} {vs : List V}, EvL s g xs vs → (∀ x ∈ xs, x ∈ l) → V.RepL S w vs (xs.map a.eval)
  | _, _, .nil, _ => rfl
  | _, _, .cons h1 h2 h3, hm => ⟨_, _, rfl, h2.rep (h1.rep (hm _ List.mem_cons_self) he hg), EvL.rep he hg h3 fun x hx => hm x (List.mem_cons_of_mem _ hx)⟩
theorem MOp.call {f : Operand} {k : FuncId} {as : Array Operand} {ts : Array TypeId} {vs : List V} {r : V} (hf : Ev s g f (.p (.x (.func (.func k) #[] #[])))) (ha : EvL s g as.toList vs) (hc : g = true → Fn1 P k vs r) :
    MOp P s ⟨dst, .call { callee := .value f, args := as, argTypes := ts }, ty, pos, af, gd⟩ g (.p r) := by
  refine ⟨fun β S a w ho he hg K Q hK => ?_⟩
  have hm : ∀ x ∈ as.toList, x ∈ (Op.call { callee := .value f, args := as, argTypes := ts }).operands := fun x hx => by
    simp only [Op.operands, Call.operands, Array.mem_append]
    exact .inr (by simpa using hx)
  have h1 : a.eval f = .func (.func k) #[] #[] := hf.rep (l := (Op.call { callee := .value f, args := as, argTypes := ts }).operands) (by simp [Op.operands, Call.operands]) he hg
  have h2 := ha.rep he hg hm
  have h3 := (hc hg).calls S w _ ho.up h2
  unfold Oper.wp
  have hrun : (execOp a.eval ⟨dst, .call { callee := .value f, args := as, argTypes := ts }, ty, pos, af, gd⟩).run P w = .ok (.enter k (as.map a.eval)) w := by
    simp [execOp, resolve, h1, Deferred.ofValue, invoke, (hc hg).enter]
  rw [hrun]
  show Calls P k (as.map a.eval) w _
  have e : as.map a.eval = (as.toList.map a.eval).toArray := by apply Array.ext'; simp
  rw [e]
  refine h3.mono ?_
  rintro e w' ⟨u, rfl, hx, hr⟩
  exact hK u w' hx hr

/-! ### aggregates -/
theorem MOp.extract {x : Operand} {k : Nat} {ds : List D} {d : D} (hx : Ev s g x (.tup ds)) (hk : ds[k]? = some d) : MOp P s ⟨dst, .extract x k, ty, pos, af, gd⟩ g d :=
  MOp.of1 hx (by simp [Op.operands]) fun β S w ρ _ h => by
    obtain ⟨us, h1, h2⟩ := h
    obtain ⟨u, h3, h4⟩ := h2.get hk
    exact ⟨u, by simp [execOp, h1, Instr.extract, h3], h4⟩
theorem MOp.extractV {x : Operand} {k : Nat} {ds : List V} {d : V} (hx : Ev s g x (.p (.tup ds))) (hk : ds[k]? = some d) : MOp P s ⟨dst, .extract x k, ty, pos, af, gd⟩ g (.p d) :=
  MOp.of1 hx (by simp [Op.operands]) fun β S w ρ _ h => by
    obtain ⟨us, h1, h2⟩ := h
    obtain ⟨u, h3, h4⟩ := h2.get hk
    exact ⟨u, by simp [execOp, h1, Instr.extract, h3], h4⟩
theorem run_part' {t : TypeId} {i : TypeInfo} {u : TypeDesc} [h : TyI P t i u] (us : List Value) (off : Nat) (w : World) :
    (part t us.toArray off).run P w = if TypeDesc.isAgg u then .ok (.agg ((us.drop off).take i.size).toArray) w else match us[off]? with | some v => .ok v w | none => (stuck "part: no such cell" : Sem Value).run P w := by
  unfold part
  rw [Sem.run_bind, run_isAgg' h.ut]
  simp only [Result.andThen_ok]
  split
  · rw [Sem.run_bind, run_sizeOf' h.ti]
    simp only [Result.andThen_ok, Sem.run_pure]
    congr 2
    apply Array.ext'
    simp
  · simp only [List.getElem?_toArray]
    cases us[off]? <;> rfl
theorem MOp.fieldV {x : Operand} {t : TypeId} {k : Nat} {i j : TypeInfo} {fs : Array Field} {nm tg pk : String} {em : Bool} {ft : TypeId} {off bo : Nat} {u : TypeDesc} {vs : List V} {v : V} [h : TyI P t i (.struct fs)] (hf : fs.toList[k]? = some ⟨nm, ft, off, em, tg, pk, bo⟩) (h' : TyI P ft j u) (hx : Ev s g x (.p (.agg vs)))
    (hu : TypeDesc.isAgg u = false) (hv : vs[off]? = some v) : MOp P s ⟨dst, .field t x k, ty, pos, af, gd⟩ g (.p v) :=
  MOp.of1 hx (by simp [Op.operands]) fun β S w ρ _ hr => by
    obtain ⟨us, h1, h2⟩ := hr
    obtain ⟨y, h3, h4⟩ := h2.get hv
    refine ⟨y, ?_, h4⟩
    simp [execOp, h1, Instr.field, run_underlying h.ut, (Array.getElem?_toList ▸ hf : fs[k]? = _), asAgg, run_part', hu, h3]
theorem MOp.fieldVA {x : Operand} {t : TypeId} {k : Nat} {i j : TypeInfo} {fs : Array Field} {nm tg pk : String} {em : Bool} {ft : TypeId} {off bo : Nat} {u : TypeDesc} {vs : List V} [h : TyI P t i (.struct fs)] (hf : fs.toList[k]? = some ⟨nm, ft, off, em, tg, pk, bo⟩) (h' : TyI P ft j u) (hx : Ev s g x (.p (.agg vs)))
    (hu : TypeDesc.isAgg u = true) : MOp P s ⟨dst, .field t x k, ty, pos, af, gd⟩ g (.p (.agg ((vs.drop off).take j.size))) :=
  MOp.of1 hx (by simp [Op.operands]) fun β S w ρ _ hr => by
    obtain ⟨us, h1, h2⟩ := hr
    refine ⟨.agg ((us.drop off).take j.size).toArray, ?_, ⟨_, rfl, (h2.drop _).take _⟩⟩
    simp [execOp, h1, Instr.field, run_underlying h.ut, (Array.getElem?_toList ▸ hf : fs[k]? = _), asAgg, run_part', hu]
theorem MOp.fieldD {x : Operand} {t : TypeId} {k : Nat} {i j : TypeInfo} {fs : Array Field} {nm tg pk : String} {em : Bool} {ft : TypeId} {off bo : Nat} {u : TypeDesc} {vs : List D} {v : D} [h : TyI P t i (.struct fs)] (hf : fs.toList[k]? = some ⟨nm, ft, off, em, tg, pk, bo⟩) (h' : TyI P ft j u) (hx : Ev s g x (.agg vs))
    (hu : TypeDesc.isAgg u = false) (hv : vs[off]? = some v) : MOp P s ⟨dst, .field t x k, ty, pos, af, gd⟩ g v :=
  MOp.of1 hx (by simp [Op.operands]) fun β S w ρ _ hr => by
    obtain ⟨us, h1, h2⟩ := hr
    obtain ⟨y, h3, h4⟩ := h2.get hv
    refine ⟨y, ?_, h4⟩
    simp [execOp, h1, Instr.field, run_underlying h.ut, (Array.getElem?_toList ▸ hf : fs[k]? = _), asAgg, run_part', hu, h3]
inductive EvD (s : St) (g : Bool) : List Operand → List D → Prop
  | nil : EvD s g [] []
  | cons {x : Operand} {xs : List Operand} {d : D} {ds : List D} : Ev s g x d → EvD s g xs ds → EvD s g (x :: xs) (d :: ds)
theorem EvD.rep {l : Array Operand} {β : List Place} {S : Nat → Prop} {a : Act} {w : World} (he : ∀ t, .tmp t ∈ l → EntAt s β S w a t) (hg : g = true) : ∀ {xs : List Operand} {ds : List D}, EvD s g xs ds → (∀ x ∈ xs, x ∈ l) → D.RepL β S w ds (xs.map a.eval)
  | _, _, .nil, _ => rfl
  | _, _, .cons h1 h3, hm => ⟨_, _, rfl, h1.rep (hm _ List.mem_cons_self) he hg, EvD.rep he hg h3 fun x hx => hm x (List.mem_cons_of_mem _ hx)⟩
theorem MOp.makeFunc {f : Fn} {fs cs : Array Operand} {ds es : List D} (h1 : EvD s g fs.toList ds) (h2 : EvD s g cs.toList es) : MOp P s ⟨dst, .makeFunc f fs cs, ty, pos, af, gd⟩ g (.clo f ds es) := by
  refine ⟨fun β S a w ho he hg K Q hK => ?_⟩
  have r1 := h1.rep (l := (Op.makeFunc f fs cs).operands) he hg (by simp [Op.operands]; exact fun x hx => .inl hx)
  have r2 := h2.rep (l := (Op.makeFunc f fs cs).operands) he hg (by simp [Op.operands]; exact fun x hx => .inr hx)
  refine wp_value (v := .func f (fs.map a.eval) (cs.map a.eval)) (by simp [execOp, Instr.makeFunc]) (hK _ w (Ext.refl w) ⟨_, _, ?_, r1, r2⟩)
  congr 1 <;> (apply Array.ext'; simp)
theorem MOp.makeIface {x : Operand} {t : TypeId} {i : TypeInfo} {u : TypeDesc} {v : V} [h : TyI P t i u] (hu : (match u with | .interface _ => false | _ => true) = true) (hx : Ev s g x (.p v)) : MOp P s ⟨dst, .makeInterface t x, ty, pos, af, gd⟩ g (.p (.ifc t v)) :=
  MOp.of1 hx (by simp [Op.operands]) fun β S w ρ _ hr => by
    refine ⟨.iface t (ρ x), ?_, ⟨_, rfl, hr⟩⟩
    simp only [execOp, Instr.makeInterface, Sem.run_bind, run_underlying h.ut, Result.andThen_ok]
    cases u <;> simp_all
theorem MOp.nilCheck {x : Operand} {d : D} (hx : Ev s g x d) (hd : (match d with | .ptr .. | .p (.ref _) => true | .p (.x (.func (.func _) _ _)) => true | .clo (.func _) _ _ => true | _ => false) = true) : MOp P s ⟨dst, .nilCheck x, ty, pos, af, gd⟩ g d :=
  MOp.of1 hx (by simp [Op.operands]) fun β S w ρ _ hr => by
    cases d with
    | ptr i off =>
      obtain ⟨b, c, h1, h2⟩ := hr
      exact ⟨_, by simp [execOp, h2], ⟨b, c, h1, rfl⟩⟩
    | clo f fs cs =>
      cases f with
      | func f =>
        obtain ⟨us, vs, h1, h2⟩ := hr
        exact ⟨_, by simp [execOp, h1], ⟨us, vs, rfl, h2⟩⟩
      | _ => cases hd
    | p v =>
      cases v with
      | ref cs =>
        obtain ⟨a, us, h1, h2⟩ := hr
        exact ⟨_, by simp [execOp, h1], ⟨a, us, rfl, h2⟩⟩
      | x u =>
        cases u with
        | func f _ _ =>
          cases f with
          | func f =>
            have hr : ρ x = _ := hr
            exact ⟨_, by simp [execOp, hr], rfl⟩
          | _ => cases hd
        | _ => cases hd
      | _ => cases hd
    | _ => cases hd

/-! ### memory -/
theorem Cells.at0 {S : Nat → Prop} {w : World} {a : Option Addr} {us : List Value} {j : Nat} {u : Value} (h : Cells S w a us) (hj : us[j]? = some u) : ∃ b o, a = some ⟨b, o, none⟩ ∧ w.cell? ⟨b, o + j, none⟩ = some u := by
  obtain ⟨b, o, h1, h2, _⟩ := h j u hj
  exact ⟨b, o, h1, h2⟩
theorem run_loadAt' {t : TypeId} {i : TypeInfo} {u : TypeDesc} [h : TyI P t i u] (a : Addr) (w : World) : (Instr.loadAt t (.pointer (some a))).run P w =
    if TypeDesc.isAgg u then ((loadCells a i.size).run P w).andThen fun c w => .ok (.agg c) w else (load a).run P w := by
  unfold Instr.loadAt loadVar
  simp only [Instr.sureAddr, Sem.run_bind, Sem.run_pure, Result.andThen_ok, run_isAgg' h.ut]
  split
  · simp only [Sem.run_bind, run_sizeOf' h.ti, Result.andThen_ok]
    cases (loadCells a i.size).run P w <;> rfl
  · rfl
/-- a cell of what an unchanging pointer leads to -/
theorem MOp.loadR {x : Operand} {t : TypeId} {i : TypeInfo} {u : TypeDesc} {cs : List V} {v : V} [h : TyI P t i u] (hx : Ev s g x (.p (.ref cs))) (hu : TypeDesc.isAgg u = false) (hv : cs[0]? = some v) : MOp P s ⟨dst, .load t x, ty, pos, af, gd⟩ g (.p v) :=
  MOp.of1 hx (by simp [Op.operands]) fun β S w ρ _ hr => by
    obtain ⟨a, us, h1, h2, h3⟩ := hr
    obtain ⟨y, h4, h5⟩ := h2.get hv
    obtain ⟨b, o, h6, h7⟩ := h3.at0 h4
    injection h6 with h6
    subst h6
    refine ⟨y, ?_, h5⟩
    simp only [execOp, h1, Sem.run_bind, run_loadAt', hu]
    simp only [Nat.add_zero] at h7
    simp [run_load, h7]
theorem MOp.loadRA {x : Operand} {t : TypeId} {i : TypeInfo} {u : TypeDesc} {cs : List V} [h : TyI P t i u] (hx : Ev s g x (.p (.ref cs))) (hu : TypeDesc.isAgg u = true) (hn : i.size ≤ cs.length) : MOp P s ⟨dst, .load t x, ty, pos, af, gd⟩ g (.p (.agg (cs.take i.size))) :=
  MOp.of1 hx (by simp [Op.operands]) fun β S w ρ _ hr => by
    obtain ⟨a, us, h1, h2, h3⟩ := hr
    have hl := h2.len
    have := run_loadCells_list (P := P) w a (us.take i.size) (fun j v hj => by
      obtain ⟨b, o, h6, h7⟩ := (h3.take i.size).at0 hj
      injection h6 with h6
      subst h6
      rw [add_lit]
      exact h7)
    rw [List.length_take, Nat.min_eq_left (by omega)] at this
    refine ⟨.agg (us.take i.size).toArray, ?_, ⟨_, rfl, h2.take _⟩⟩
    simp [execOp, h1, run_loadAt', hu, this]
/-- a cell of a box -/
theorem MOp.load {x : Operand} {t : TypeId} {i : TypeInfo} {u : TypeDesc} {k off : Nat} {bcs : List D} {be : TypeId} {bz : Nat} {d : D} [h : TyI P t i u] (hx : Ev s g x (.ptr k off)) (hb : s.H[k]? = some (some ⟨bcs, be, bz⟩)) (hu : TypeDesc.isAgg u = false) (hd : bcs[off]? = some d) :
    MOp P s ⟨dst, .load t x, ty, pos, af, gd⟩ g d :=
  MOp.of1 hx (by simp [Op.operands]) fun β S w ρ ho hr => by
    obtain ⟨b, c, h1, h2⟩ := hr
    rcases ho.box k _ hb with ⟨h3, _⟩ | ⟨b', c', cur, us, h3, _, h4, h5, h6, _⟩
    · rw [h1] at h3; cases h3
    · rw [h1] at h3
      simp only [Option.some.injEq, Prod.mk.injEq] at h3
      obtain ⟨rfl, rfl⟩ := h3
      obtain ⟨y, h7, h8⟩ := h5.get hd
      obtain ⟨tl, htl⟩ := h6
      have h9 : cur[off]? = some y := by
        have := congrArg (fun l => l[off]?) htl
        simp only [List.getElem?_append, (List.getElem?_eq_some_iff.1 h7).1, if_true, h7] at this
        simpa using this.symm
      refine ⟨y, ?_, h8⟩
      simp only [execOp, h2, Sem.run_bind, run_loadAt', hu]
      simp [run_load, World.cell?, h4, h9]
theorem MOp.loadA {x : Operand} {t : TypeId} {i : TypeInfo} {u : TypeDesc} {k off : Nat} {bcs : List D} {be : TypeId} {bz : Nat} [h : TyI P t i u] (hx : Ev s g x (.ptr k off)) (hb : s.H[k]? = some (some ⟨bcs, be, bz⟩)) (hu : TypeDesc.isAgg u = true) (hn : off + i.size ≤ bcs.length) :
    MOp P s ⟨dst, .load t x, ty, pos, af, gd⟩ g (.agg ((bcs.drop off).take i.size)) :=
  MOp.of1 hx (by simp [Op.operands]) fun β S w ρ ho hr => by
    obtain ⟨b, c, h1, h2⟩ := hr
    rcases ho.box k _ hb with ⟨h3, _⟩ | ⟨b', c', cur, us, h3, _, h4, h5, h6, _⟩
    · rw [h1] at h3; cases h3
    · rw [h1] at h3
      simp only [Option.some.injEq, Prod.mk.injEq] at h3
      obtain ⟨rfl, rfl⟩ := h3
      have hl : us.length = bcs.length := h5.len
      obtain ⟨tl, htl⟩ := h6
      have := run_loadCells_list (P := P) w ⟨b, off, none⟩ ((us.drop off).take i.size) (fun j v hj => by
        have hj' := hj
        rw [List.getElem?_take] at hj
        split at hj
        · rw [List.getElem?_drop] at hj
          have h9 : cur[off + j]? = some v := by
            have := congrArg (fun l => l[off + j]?) htl
            simp only [List.getElem?_append, (List.getElem?_eq_some_iff.1 hj).1, if_true, hj] at this
            simpa using this.symm
          rw [add_lit]
          simp [World.cell?, h4, h9]
        · cases hj)
      rw [List.length_take, List.length_drop, Nat.min_eq_left (by omega)] at this
      refine ⟨.agg ((us.drop off).take i.size).toArray, ?_, ⟨_, rfl, (h5.drop _).take _⟩⟩
      simp [execOp, h2, run_loadAt', hu, this]
theorem MOp.loadAV {x : Operand} {t : TypeId} {i : TypeInfo} {u : TypeDesc} {k off : Nat} {bcs : List D} {be : TypeId} {bz : Nat} {vs : List V} [h : TyI P t i u] (hx : Ev s g x (.ptr k off)) (hb : s.H[k]? = some (some ⟨bcs, be, bz⟩)) (hu : TypeDesc.isAgg u = true) (hn : Nat.ble (off + i.size) bcs.length = true) (hv : D.toVL ((bcs.drop off).take i.size) = some vs) :
    MOp P s ⟨dst, .load t x, ty, pos, af, gd⟩ g (.p (.agg vs)) := by
  refine ⟨fun β S a w ho he hg K Q hK => ?_⟩
  refine (MOp.loadA (P := P) (dst := dst) (ty := ty) (pos := pos) (af := af) (gd := gd) hx hb hu (by simpa using hn)).run β S a w ho he hg K Q fun u w' h1 h2 => hK u w' h1 ?_
  obtain ⟨us, h3, h4⟩ := h2
  exact ⟨us, h3, D.RepL.toV hv h4⟩
theorem run_fieldAt' {t : TypeId} {k : Nat} {i j : TypeInfo} {fs : Array Field} {f : Field} {u : TypeDesc} [h : TyI P t i (.struct fs)] (hf : fs[k]? = some f) (h' : TyI P f.type j u) (hz : (j.size == 0) = false) (a : Addr) (w : World) :
    (Instr.fieldAt t (.pointer (some a)) k).run P w = .ok (.pointer (some (a.add f.offset))) w := by
  have hz : ¬ j.size = 0 := by simpa using hz
  simp [Instr.fieldAt, run_underlying h.ut, hf, Instr.sureAddr, fieldPlace, run_sizeOf' h'.ti, hz]
theorem MOp.fieldAddr {x : Operand} {t : TypeId} {k : Nat} {i j : TypeInfo} {fs : Array Field} {nm tg pk : String} {em : Bool} {ft : TypeId} {fo bo : Nat} {u : TypeDesc} {m off : Nat} [h : TyI P t i (.struct fs)] (hf : fs.toList[k]? = some ⟨nm, ft, fo, em, tg, pk, bo⟩) (h' : TyI P ft j u) (hx : Ev s g x (.ptr m off)) (hz : (j.size == 0) = false) :
    MOp P s ⟨dst, .fieldAddr t x k, ty, pos, af, gd⟩ g (.ptr m (off + fo)) :=
  MOp.of1 hx (by simp [Op.operands]) fun β S w ρ _ hr => by
    obtain ⟨b, c, h1, h2⟩ := hr
    exact ⟨_, by simp only [execOp, h2, Sem.run_bind]; rw [run_fieldAt' (f := ⟨nm, ft, fo, em, tg, pk, bo⟩) (Array.getElem?_toList ▸ hf : fs[k]? = _) h' hz]; rfl, ⟨b, c, h1, by rw [add_lit]⟩⟩
theorem MOp.fieldAddrR {x : Operand} {t : TypeId} {k : Nat} {i j : TypeInfo} {fs : Array Field} {nm tg pk : String} {em : Bool} {ft : TypeId} {fo bo : Nat} {u : TypeDesc} {cs : List V} [h : TyI P t i (.struct fs)] (hf : fs.toList[k]? = some ⟨nm, ft, fo, em, tg, pk, bo⟩) (h' : TyI P ft j u) (hx : Ev s g x (.p (.ref cs))) (hz : (j.size == 0) = false) :
    MOp P s ⟨dst, .fieldAddr t x k, ty, pos, af, gd⟩ g (.p (.ref (cs.drop fo))) :=
  MOp.of1 hx (by simp [Op.operands]) fun β S w ρ _ hr => by
    obtain ⟨a, us, h1, h2, h3⟩ := hr
    refine ⟨.pointer (some (a.add fo)), by simp only [execOp, h1, Sem.run_bind]; rw [run_fieldAt' (f := ⟨nm, ft, fo, em, tg, pk, bo⟩) (Array.getElem?_toList ▸ hf : fs[k]? = _) h' hz]; rfl, ⟨_, us.drop fo, rfl, h2.drop _, ?_⟩⟩
    intro q y hq
    have hq' := hq
    rw [List.getElem?_drop] at hq
    obtain ⟨b, o, h6, h7, h8⟩ := h3 _ _ hq
    injection h6 with h6
    subst h6
    exact ⟨b, o + fo, by rw [add_lit], by rw [Nat.add_assoc]; exact h7, h8⟩
/-- &l[i] of a slice that does not change -/
theorem MOp.indexAddr {α : Type} {enc : α → List V} {l : List α} {x y : Operand} {t e : TypeId} {k : IntKind} {n : Int} {i j : TypeInfo} {u : TypeDesc} {el : α} [h : TyI P t i (.slice e)] [h' : TyI P e j u] (hx : Ev s g x (.p (V.list enc l))) (hy : Ev s g y (.p (.x (.int k n))))
    (hsz : ∀ q, (enc q).length = j.size) (hz : (j.size == 0) = false) (hel : g = true → 0 ≤ n ∧ l[n.toNat]? = some el) : MOp P s ⟨dst, .indexAddr t x y, ty, pos, af, gd⟩ g (.p (.ref (enc el))) := by
  refine ⟨fun β S a w ho he hg K Q hK => ?_⟩
  have hz : ¬ j.size = 0 := by simpa using hz
  obtain ⟨h0, hel⟩ := hel hg
  have r1 := hx.rep (l := (Op.indexAddr t x y).operands) (by simp [Op.operands]) he hg
  have r2 : a.eval y = .int k n := hy.rep (l := (Op.indexAddr t x y).operands) (by simp [Op.operands]) he hg
  obtain ⟨ad, c, us, h1, h2, h3, h4, h5⟩ := r1
  have hlt := (List.getElem?_eq_some_iff.1 hel).1
  have key : ∀ (l : List α) (q : Nat), l[q]? = some el → ((l.flatMap enc).drop (q * j.size)).take j.size = enc el := by
    intro l
    induction l with
    | nil => intro q h; simp at h
    | cons z zs ih =>
      intro q h
      cases q with
      | zero =>
        simp at h
        subst h
        rw [List.flatMap_cons, Nat.zero_mul, List.drop_zero, ← hsz z, List.take_left]
      | succ q =>
        rw [List.flatMap_cons, Nat.add_mul, Nat.one_mul, show q * j.size + j.size = (enc z).length + q * j.size by rw [hsz]; omega, List.drop_append, List.drop_of_length_le (by omega)]
        simpa using ih q (by simpa using h)
  have hk := key l _ hel
  have hr := (h4.drop (n.toNat * j.size)).take j.size
  rw [hk] at hr
  have hlen := hr.len
  rw [hsz el] at hlen
  have hne : ∃ y0, ((us.drop (n.toNat * j.size)).take j.size)[0]? = some y0 := ⟨_, List.getElem?_eq_getElem (by omega)⟩
  obtain ⟨y0, hy0⟩ := hne
  have hy1 : us[n.toNat * j.size]? = some y0 := by
    rw [List.getElem?_take] at hy0
    split at hy0
    · simpa using hy0
    · cases hy0
  obtain ⟨b, o, h6, h7, h8⟩ := h5 _ _ hy1
  subst h6
  refine wp_value (v := .pointer (some ⟨b, o + n.toNat * j.size, none⟩)) (w' := w) ?_ (hK _ w (Ext.refl w) ⟨_, _, rfl, hr, (h5.drop _).take _⟩)
  have hn : n < (l.length : Int) := by omega
  simp [execOp, h1, r2, Instr.indexAt, asIntOf, run_underlying h.ut, h0, hn, run_sizeOf' h'.ti, add_lit]
theorem MOp.len {α : Type} {enc : α → List V} {l : List α} {x : Operand} {t : TypeId} {e : TypeId} {i : TypeInfo} [h : TyI P t i (.slice e)] (hx : Ev s g x (.p (V.list enc l))) :
    MOp P s ⟨dst, .call { callee := .builtin .len, args := #[x], argTypes := #[t] }, ty, pos, af, gd⟩ g (.p (.i l.length)) :=
  MOp.of1 hx (by simp [Op.operands, Call.operands]) fun β S w ρ _ hr => by
    obtain ⟨a, c, us, h1, h2⟩ := hr
    refine ⟨.int .i64 l.length, ?_, rfl⟩
    simp [execOp, resolve, invoke, builtin, h1, Builtin.len_, run_underlying h.ut, goInt]
end
end Go.Sy
set_option linter.unusedSimpArgs false
set_option linter.unusedVariables false
namespace Go.Sy
open Go.RowKit

/-! ### cells of a datum -/
def V.one : V → Bool
  | .x u => u.oneCell'
  | .agg _ | .tup _ => false
  | _ => true
def D.one : D → Bool
  | .p v => v.one
  | .agg _ | .tup _ | .any => false
  | _ => true
def V.cells : V → List V
  | .agg cs => cs
  | .x u => u.cells.toList.map V.x
  | v => [v]
def D.cells : D → List D
  | .agg cs => cs
  | .p v => v.cells.map D.p
  | d => [d]
/-- is it something that lies in cells? -/
def D.laid : D → Bool
  | .tup _ | .any | .p (.tup _) => false
  | .p (.x (.tuple _)) => false
  | _ => true
section
variable {β β' : List Place} {S S' : Nat → Prop} {w w' : World}
theorem V.Rep.one {v : V} {u : Value} (h : v.Rep S w u) (h1 : v.one = true) : u.oneCell' = true := by
  cases v with
  | x y => rw [show u = y from h]; exact h1
  | sl n cs => obtain ⟨_, _, _, rfl, _⟩ := h; rfl
  | fl n cs => obtain ⟨_, _, rfl, _⟩ := h; rfl
  | ref cs => obtain ⟨_, _, rfl, _⟩ := h; rfl
  | ifc t d => obtain ⟨_, rfl, _⟩ := h; rfl
  | agg _ => cases h1
  | tup _ => cases h1
theorem D.Rep.one {v : D} {u : Value} (h : v.Rep β S w u) (h1 : v.one = true) : u.oneCell' = true := by
  cases v with
  | p v => exact V.Rep.one h h1
  | ptr i off => obtain ⟨_, _, _, rfl⟩ := h; rfl
  | row i n => rcases h with ⟨_, _, _, rfl⟩ | ⟨_, _, _, _, rfl⟩ <;> rfl
  | clo f fs cs => obtain ⟨_, _, rfl, _⟩ := h; rfl
  | lit n cs => obtain ⟨_, _, rfl, _⟩ := h; rfl
  | refD cs => obtain ⟨_, _, rfl, _⟩ := h; rfl
  | agg _ => cases h1
  | tup _ => cases h1
  | any => cases h1
theorem D.RepL.one : ∀ {ds : List D} {us : List Value}, D.RepL β S w ds us → ds.all D.one = true → ∀ u ∈ us, u.oneCell' = true
  | [], _, h, _, u, hu => by simp only [D.RepL] at h; subst h; cases hu
  | d :: ds, _, ⟨y, ys, h1, h2, h3⟩, ha, u, hu => by
    subst h1
    simp only [List.all_cons, Bool.and_eq_true] at ha
    rcases List.mem_cons.1 hu with rfl | hu
    · exact h2.one ha.1
    · exact D.RepL.one h3 ha.2 u hu
theorem D.RepL.single {d : D} {u : Value} (h : d.Rep β S w u) : D.RepL β S w [d] [u] := ⟨u, [], rfl, h, rfl⟩
theorem V.RepL.single {d : V} {u : Value} (h : d.Rep S w u) : V.RepL S w [d] [u] := ⟨u, [], rfl, h, rfl⟩
theorem V.Rep.cells {v : V} {u : Value} (h : v.Rep S w u) (hl : (D.p v).laid = true) : V.RepL S w v.cells u.cells.toList := by
  cases v with
  | x y =>
    have h : u = y := h
    subst h
    exact V.RepL.x
  | sl n cs => obtain ⟨_, _, _, rfl, _⟩ := id h; exact .single h
  | fl n cs => obtain ⟨_, _, rfl, _⟩ := id h; exact .single h
  | ref cs => obtain ⟨_, _, rfl, _⟩ := id h; exact .single h
  | ifc t d => obtain ⟨_, rfl, _⟩ := id h; exact .single h
  | agg cs => obtain ⟨us, rfl, h⟩ := h; exact h
  | tup _ => cases hl
theorem D.Rep.cells {d : D} {u : Value} (h : d.Rep β S w u) (hl : d.laid = true) : D.RepL β S w d.cells u.cells.toList := by
  cases d with
  | p v => exact D.RepL.p (V.Rep.cells h hl)
  | ptr i off => obtain ⟨_, _, _, rfl⟩ := id h; exact .single h
  | row i n => rcases id h with ⟨_, _, _, rfl⟩ | ⟨_, _, _, _, rfl⟩ <;> exact .single h
  | clo f fs cs => obtain ⟨_, _, rfl, _⟩ := id h; exact .single h
  | lit n cs => obtain ⟨_, _, rfl, _⟩ := id h; exact .single h
  | refD cs => obtain ⟨_, _, rfl, _⟩ := id h; exact .single h
  | agg cs => obtain ⟨us, rfl, h⟩ := h; exact h
  | tup _ => cases hl
  | any => cases hl
theorem BoxAt.mono {i : Nat} {x : Box} (hβ : ∀ (i : Nat) (e : Place), β[i]? = some e → β'[i]? = some e) (h : BoxAt β S w i x) (hb : ∀ b c, β[i]? = some (some (b, c)) → w'.heap[b]? = w.heap[b]? ∧ ¬ S' b)
    (e : ∀ b, S b → b < w.heap.size → w'.heap[b]? = w.heap[b]?) (hS : ∀ b, S b → b < w.heap.size → S' b) : BoxAt β' S' w' i x := by
  rcases h with ⟨h1, h2⟩ | ⟨b, c, cur, us, h1, h2, h3, h4, h5⟩
  · exact .inl ⟨hβ _ _ h1, h2⟩
  · exact .inr ⟨b, c, cur, us, hβ _ _ h1, (hb b c h1).2, by rw [(hb b c h1).1]; exact h3, h4.mono hβ e hS, h5⟩
theorem BoxAt.lt {i : Nat} {x : Box} (h : BoxAt β S w i x) {b c : Nat} (hb : β[i]? = some (some (b, c))) : b < w.heap.size ∧ ¬ S b := by
  rcases h with ⟨h1, h2⟩ | ⟨b', c', cur, us, h1, h2, h3, h4, h5⟩
  · rw [hb] at h1; cases h1
  · rw [hb] at h1
    simp only [Option.some.injEq, Prod.mk.injEq] at h1
    obtain ⟨rfl, rfl⟩ := h1
    exact ⟨(Array.getElem?_eq_some_iff.1 h3).1, h2⟩
end
section
variable {c : Ctx} {H : List (Option Box)} {β : List Place} {S : Nat → Prop} {w w' : World}
/-- one more box -/
theorem HSt.newBox (hH : HSt c H β S w) {cs : List D} {us : List Value} {cur : Array Value} {e : TypeId} {sz q : Nat} (hr : D.RepL β S w cs us) (hp : us <+: cur.toList) (h0 : sz = 0 → us.length = cur.size) (h1 : sz ≠ 0 → cur.size = q * sz ∧ q ≤ maxLen) :
    HSt c (H ++ [some ⟨cs, e, sz⟩]) (β ++ [some (w.heap.size, q)]) (fun b => S b ∧ b ≠ w.heap.size) (w.alloc (.cells cur e)) ∧ (∀ (i : Nat) (e : Place), β[i]? = some e → (β ++ [some (w.heap.size, q)])[i]? = some e) := by
  have hβ : ∀ (i : Nat) (e : Place), β[i]? = some e → (β ++ [some (w.heap.size, q)])[i]? = some e := fun i e h => by
    rw [List.getElem?_append_left (List.getElem?_eq_some_iff.1 h).1]; exact h
  have he : ∀ b, S b → b < w.heap.size → (w.alloc (.cells cur e)).heap[b]? = w.heap[b]? := fun b _ hb => Below.heap_alloc _ _ _ hb
  have hS : ∀ b, S b → b < w.heap.size → S b ∧ b ≠ w.heap.size := fun b h hb => ⟨h, by omega⟩
  have hgetβ : ∀ (i : Nat) (pl : Place), (β ++ [some (w.heap.size, q)])[i]? = some pl → β[i]? = some pl ∨ i = β.length ∧ pl = some (w.heap.size, q) := by
    intro i pl h
    rw [List.getElem?_append] at h
    split at h
    · exact .inl h
    · rename_i hge
      have : i = β.length := by
        rcases Nat.lt_or_ge β.length i with h' | h'
        · rw [List.getElem?_eq_none (by simp; omega)] at h; cases h
        · omega
      subst this
      simp at h
      exact .inr ⟨rfl, h.symm⟩
  have hgetH : ∀ (i : Nat) (x : Box), (H ++ [some ⟨cs, e, sz⟩])[i]? = some (some x) → H[i]? = some (some x) ∨ i = β.length ∧ x = ⟨cs, e, sz⟩ := by
    intro i x h
    rw [List.getElem?_append] at h
    split at h
    · exact .inl h
    · rename_i hge
      have : i = H.length := by
        rcases Nat.lt_or_ge H.length i with h' | h'
        · rw [List.getElem?_eq_none (by simp; omega)] at h; cases h
        · omega
      subst this
      simp at h
      exact .inr ⟨hH.len.symm, h.symm⟩
  have hltH : ∀ (i : Nat) (x : Box), H[i]? = some (some x) → i < β.length := fun i x h => by rw [hH.len]; exact (List.getElem?_eq_some_iff.1 h).1
  refine ⟨⟨⟨fun b hb => ?_, ?_, by simp [hH.len], ?_⟩, fun b hb => hH.sub b hb.1, ?_, ?_, fun i e hi h => hβ i e (hH.keep i e hi h), ?_, ?_, hH.os, hH.tape, hH.output, ?_⟩, hβ⟩
  · simp at hb
    exact ⟨hH.up b (by omega), by omega⟩
  · intro i x hx
    rcases hgetH i x hx with h | ⟨rfl, rfl⟩
    · refine (hH.box i x h).mono hβ (fun b c' hb => ?_) he hS
      have := (hH.box i x h).lt hb
      exact ⟨Below.heap_alloc _ _ _ this.1, fun h => this.2 h.1⟩
    · exact .inr ⟨w.heap.size, q, cur, us, by simp, fun h => h.2 rfl, heap_alloc_new w _, hr.mono hβ he hS, hp, h0, h1⟩
  · intro i j x y b p r hx hy hi hj
    rcases hgetH i x hx with h | ⟨rfl, rfl⟩ <;> rcases hgetH j y hy with k | ⟨rfl, rfl⟩
    · rcases hgetβ i _ hi with h' | ⟨h', _⟩
      · rcases hgetβ j _ hj with k' | ⟨k', _⟩
        · exact hH.inj i j x y b p r h k h' k'
        · have := hltH j y k; omega
      · have := hltH i x h; omega
    · rcases hgetβ i _ hi with h' | ⟨h', _⟩
      · simp at hj
        have := ((hH.box i x h).lt h').1
        omega
      · exact h'
    · rcases hgetβ j _ hj with h' | ⟨h', _⟩
      · simp at hi
        have := ((hH.box j y k).lt h').1
        omega
      · exact h'.symm
    · rfl
  · intro i b r hi
    rcases hgetβ i _ hi with h | ⟨_, h⟩
    · exact hH.own i b r h
    · injection h with h
      simp only [Prod.mk.injEq] at h
      exact .inl (h.1 ▸ hH.size)
  · intro b hb hn
    rw [Below.heap_alloc _ _ _ (Nat.lt_of_lt_of_le hb hH.size)]
    exact hH.fr b hb hn
  · rw [List.length_append]; exact Nat.le_add_right_of_le hH.klen
  · intro b hb hl
    have := hH.keepS b hb hl
    exact ⟨by rw [Below.heap_alloc _ _ _ (Nat.lt_of_lt_of_le hl hH.size)]; exact this.1, this.2, by have := hH.size; omega⟩
  · simp; exact Nat.le_succ_of_le hH.size
/-- a box written into, where it is -/
theorem HSt.write (hH : HSt c H β S w) {i : Nat} {x y : Box} (hx : H[i]? = some (some x)) {b q : Nat} (hb : β[i]? = some (some (b, q))) {cur cur' : Array Value} {us' : List Value} (hcur : w.heap[b]? = some (.cells cur x.e (0, 0))) (hsz : cur'.size = cur.size)
    (he : y.e = x.e) (hs : y.sz = x.sz) (hr : D.RepL β S w y.cs us') (hp : us' <+: cur'.toList) (hl : us'.length = cur'.size ∨ x.sz ≠ 0) (hwr : c.ro = true → c.β0.length ≤ i) : HSt c (H.set i (some y)) β S (w.setRow b cur') ∧ (∀ b', S b' → b' < w.heap.size → (w.setRow b cur').heap[b']? = w.heap[b']?) := by
  have hnb := (hH.box i x hx).lt hb
  have hne : ∀ b', b' ≠ b → (w.setRow b cur').heap[b']? = w.heap[b']? := fun b' h => setRow_other w b b' cur' h
  have hS : ∀ b', S b' → b' < w.heap.size → (w.setRow b cur').heap[b']? = w.heap[b']? := fun b' h _ => hne b' (by rintro rfl; exact hnb.2 h)
  have hsize : (w.setRow b cur').heap.size = w.heap.size := by simp [World.setRow]
  have hil : i < H.length := (List.getElem?_eq_some_iff.1 hx).1
  have hget : ∀ (j : Nat) (z : Box), (H.set i (some y))[j]? = some (some z) → (j = i ∧ z = y) ∨ (j ≠ i ∧ H[j]? = some (some z)) := by
    intro j z h
    rw [List.getElem?_set] at h
    by_cases e : i = j
    · subst e
      rw [if_pos rfl, if_pos hil] at h
      simp at h
      exact .inl ⟨rfl, h.symm⟩
    · rw [if_neg e] at h
      exact .inr ⟨Ne.symm e, h⟩
  have hlive : ∀ (j : Nat) (z : Box), (H.set i (some y))[j]? = some (some z) → ∃ z', H[j]? = some (some z') := by
    intro j z h
    rcases hget j z h with ⟨rfl, _⟩ | ⟨_, h⟩
    · exact ⟨x, hx⟩
    · exact ⟨z, h⟩
  refine ⟨⟨⟨fun b' hb' => hH.up b' (by rw [hsize] at hb'; exact hb'), ?_, by simp [hH.len], ?_⟩, hH.sub, hH.own, ?_, hH.keep, hH.klen, ?_, hH.os, hH.tape, hH.output, by rw [hsize]; exact hH.size⟩, hS⟩
  · intro j z hz
    rcases hget j z hz with ⟨rfl, rfl⟩ | ⟨hji, hz⟩
    · refine .inr ⟨b, q, cur', us', hb, hnb.2, by rw [he]; exact setRow_heap w b cur cur' _ _ hcur, hr.mono (fun _ _ h => h) hS fun _ h _ => h, hp, fun h0 => ?_, fun h1 => ?_⟩
      · rcases hl with h | h
        · exact h
        · exact absurd (hs ▸ h0) h
      · rcases hH.box j x hx with ⟨k1, _⟩ | ⟨b', c', cur0, us0, k1, _, k3, _, _, _, k7⟩
        · rw [hb] at k1; cases k1
        · rw [hb] at k1
          simp only [Option.some.injEq, Prod.mk.injEq] at k1
          obtain ⟨rfl, rfl⟩ := k1
          rw [hcur] at k3
          injection k3 with k3
          injection k3 with k3
          subst k3
          have := k7 (hs ▸ h1)
          rw [hsz, hs]
          exact this
    · refine (hH.box j z hz).mono (fun _ _ h => h) (fun b' c' hb' => ⟨hne b' ?_, ((hH.box j z hz).lt hb').2⟩) hS fun _ h _ => h
      rintro rfl
      exact hji (hH.inj j i z x b' c' q hz hx hb' hb)
  · intro p r z z' b' p' r' hz hz' h1 h2
    obtain ⟨z1, h3⟩ := hlive p z hz
    obtain ⟨z2, h4⟩ := hlive r z' hz'
    exact hH.inj p r z1 z2 b' p' r' h3 h4 h1 h2
  · intro b' hb' hn
    rw [hne b' ?_]
    · exact hH.fr b' hb' hn
    · rintro rfl
      rcases hH.own i b' q hb with h | ⟨q0, h⟩
      · omega
      · rcases hn with hro | hn
        · have h1 := (List.getElem?_eq_some_iff.1 h).1
          have h2 := hwr hro
          omega
        · exact hn i q0 h
  · intro b' hb' hl'
    have h1 := hH.keepS b' hb' hl'
    exact ⟨(hne b' (by rintro rfl; exact hnb.2 h1.2)).trans h1.1, h1.2⟩
end
section
variable {P : Program} {c : Ctx} {n : Nat} {ops : Array Oper} {Q : Exit → St → Prop} {s : St} {d : D} {rest : List Oper} {t : Tmp} {ty : TypeId} {pos : String} {af : Array Edge}
/-- a new box for a variable -/
theorem SymL.box {x : Operand} {e : TypeId} (hx : Ev s true x d) (hl : d.laid = true) (ht : Nat.blt t n = true) (k : SymL P c n ops Q rest ⟨(t, true, .ptr s.H.length 0) :: s.tm, s.H ++ [some ⟨d.cells, e, 0⟩]⟩) :
    SymL P c n ops Q (⟨some t, .box e x, ty, pos, af, none⟩ :: rest) s := by
  rintro a w ⟨β, S, hH, hd, hn, he⟩
  refine wpList_plain rfl fun K hK => ?_
  have hr := hx.rep (l := #[x]) (by simp) (fun t _ => he t) rfl
  have hc := hr.cells hl
  refine wp_value (v := .pointer (some ⟨w.heap.size, 0, none⟩)) (w' := w.alloc (.cells (a.eval x).cells e)) (by simp [execOp, Instr.box, newVar, newRow, go_sem]) (hK _ _ (k _ _ ?_))
  obtain ⟨h1, h2⟩ := hH.newBox (e := e) (sz := 0) (q := 0) (cur := (a.eval x).cells) hc (List.prefix_refl _) (fun _ => by simp) (fun h => absurd rfl h)
  have hlt : t < n := by simpa using ht
  have he' : ∀ b, S b → b < w.heap.size → (w.alloc (.cells (a.eval x).cells e)).heap[b]? = w.heap[b]? := fun b _ hb => Below.heap_alloc _ _ _ hb
  have hS' : ∀ b, S b → b < w.heap.size → S b ∧ b ≠ w.heap.size := fun b h hb => ⟨h, by omega⟩
  refine ⟨_, _, h1, hd, by rw [size_put, hn], ?_⟩
  refine EntAt.put (s := ⟨s.tm, s.H ++ [some ⟨d.cells, e, 0⟩]⟩) (dst := some t) ?_ (fun t' h => by injection h with h; rw [hn, ← h]; exact hlt) ⟨fun _ => ⟨w.heap.size, 0, ?_, rfl⟩, fun h => by cases h⟩
  · intro t' g' d' hg
    obtain ⟨k1, k2, k3⟩ := he t' g' d' hg
    exact ⟨k1, fun hg => (k2 hg).mono h2 he' hS', k3⟩
  · rw [← hH.len]; simp
theorem SymL.alloc {e : TypeId} {i : TypeInfo} {u : TypeDesc} {z : Value} [h : TyI P e i u] (hz : i.zero = some z) (ht : Nat.blt t n = true) (k : SymL P c n ops Q rest ⟨(t, true, .ptr s.H.length 0) :: s.tm, s.H ++ [some ⟨z.cells.toList.map (fun v => D.p (.x v)), e, 0⟩]⟩) :
    SymL P c n ops Q (⟨some t, .alloc e, ty, pos, af, none⟩ :: rest) s := by
  rintro a w ⟨β, S, hH, hd, hn, he⟩
  refine wpList_plain rfl fun K hK => ?_
  have hc : D.RepL β S w (z.cells.toList.map (fun v => D.p (.x v))) z.cells.toList := by
    have := D.RepL.p (β := β) (V.RepL.x (S := S) (w := w) (l := z.cells.toList))
    rwa [List.map_map] at this
  refine wp_value (v := .pointer (some ⟨w.heap.size, 0, none⟩)) (w' := w.alloc (.cells z.cells e)) (by simp [execOp, Instr.alloc, run_zeroValue' h.ti hz, newVar, newRow, go_sem]) (hK _ _ (k _ _ ?_))
  obtain ⟨h1, h2⟩ := hH.newBox (e := e) (sz := 0) (q := 0) (cur := z.cells) hc (List.prefix_refl _) (fun _ => by simp) (fun h => absurd rfl h)
  have hlt : t < n := by simpa using ht
  have he' : ∀ b, S b → b < w.heap.size → (w.alloc (.cells z.cells e)).heap[b]? = w.heap[b]? := fun b _ hb => Below.heap_alloc _ _ _ hb
  have hS' : ∀ b, S b → b < w.heap.size → S b ∧ b ≠ w.heap.size := fun b h hb => ⟨h, by omega⟩
  refine ⟨_, _, h1, hd, by rw [size_put, hn], ?_⟩
  refine EntAt.put (s := ⟨s.tm, s.H ++ [some ⟨z.cells.toList.map (fun v => D.p (.x v)), e, 0⟩]⟩) (dst := some t) ?_ (fun t' h => by injection h with h; rw [hn, ← h]; exact hlt) ⟨fun _ => ⟨w.heap.size, 0, ?_, rfl⟩, fun h => by cases h⟩
  · intro t' g' d' hg
    obtain ⟨k1, k2, k3⟩ := he t' g' d' hg
    exact ⟨k1, fun hg => (k2 hg).mono h2 he' hS', k3⟩
  · rw [← hH.len]; simp
/-- a list with some of its elements others -/
def splice {α : Type} (l : List α) (off : Nat) (m : List α) : List α := l.take off ++ m ++ l.drop (off + m.length)
theorem D.RepL.splice {β : List Place} {S : Nat → Prop} {w : World} {ds es : List D} {us vs : List Value} (h : D.RepL β S w ds us) (k : D.RepL β S w es vs) (off : Nat) : D.RepL β S w (splice ds off es) (splice us off vs) := by
  unfold Go.Sy.splice
  rw [← k.len]
  exact ((h.take off).app k).app (h.drop _)
/-- a store into a box -/
theorem SymL.store {x y : Operand} {e : TypeId} {i : TypeInfo} {u : TypeDesc} {k off : Nat} {bx : Box} [h : TyI P e i u] (hx : Ev s true x (.ptr k off)) (hy : Ev s true y d) (hb : s.H[k]? = some (some bx)) (hl : d.laid = true) (h1 : d.cells.all D.one = true) (hlen : Nat.beq d.cells.length i.size = true)
    (hoff : Nat.ble (off + i.size) bx.cs.length = true) (hwr : c.ro = true → c.β0.length ≤ k) (kk : SymL P c n ops Q rest ⟨s.tm, s.H.set k (some ⟨splice bx.cs off d.cells, bx.e, bx.sz⟩)⟩) :
    SymL P c n ops Q (⟨none, .store e x y, ty, pos, af, none⟩ :: rest) s := by
  rintro a w ⟨β, S, hH, hd, hn, he⟩
  refine wpList_plain rfl fun K hK => ?_
  obtain ⟨b, q, hβ, hv⟩ := hx.rep (l := #[x]) (by simp) (fun t _ => he t) rfl
  have hr := hy.rep (l := #[y]) (by simp) (fun t _ => he t) rfl
  have hc := hr.cells hl
  have hlen : d.cells.length = i.size := by simpa using hlen
  have hoff : off + i.size ≤ bx.cs.length := by simpa using hoff
  have hcl := hc.len
  rcases hH.box k bx hb with ⟨k1, _⟩ | ⟨b', c', cur, us, k1, k2, k3, k4, k5, k6, k7⟩
  · rw [hβ] at k1; cases k1
  rw [hβ] at k1
  simp only [Option.some.injEq, Prod.mk.injEq] at k1
  obtain ⟨rfl, rfl⟩ := k1
  have hul := k4.len
  have hule : us.length ≤ cur.size := by
    have := k5.length_le
    simpa using this
  have hrun := run_storeCells_at (P := P) b off bx.e (a.eval y).cells.toList 0 cur w k3 (by rw [hcl]; omega) (hc.one h1)
  simp only [Nat.add_zero] at hrun
  have hcs : (a.eval y).cells.size = i.size := by rw [← Array.length_toList, hcl, hlen]
  have hsr : SR c n ⟨s.tm, s.H.set k (some ⟨splice bx.cs off d.cells, bx.e, bx.sz⟩)⟩ (a.put none undef) (w.setRow b (cur.toList.take off ++ (a.eval y).cells.toList ++ cur.toList.drop (off + (a.eval y).cells.toList.length)).toArray) := by
    have hsp : splice us off (a.eval y).cells.toList <+: cur.toList.take off ++ (a.eval y).cells.toList ++ cur.toList.drop (off + (a.eval y).cells.toList.length) := by
      obtain ⟨tl, htl⟩ := k5
      refine ⟨tl, ?_⟩
      rw [← htl]
      unfold splice
      rw [List.take_append_of_le_length (by omega), List.drop_append_of_le_length (by omega)]
      simp
    obtain ⟨h2, h3⟩ := hH.write (y := ⟨splice bx.cs off d.cells, bx.e, bx.sz⟩) hb hβ k3 (cur' := (cur.toList.take off ++ (a.eval y).cells.toList ++ cur.toList.drop (off + (a.eval y).cells.toList.length)).toArray)
      (by simp; omega) rfl rfl (k4.splice hc off) (by simpa using hsp) (by
        rcases Nat.eq_zero_or_pos bx.sz with h0 | h0
        · left
          have := k6 h0
          unfold splice
          simp
          omega
        · right; omega) hwr
    exact ⟨β, S, h2, hd, hn, fun t g d hg => ⟨(he t g d hg).1, fun hg' => ((he t g d hg).2.1 hg').mono (fun _ _ h => h) h3 fun _ h _ => h, (he t g d hg).2.2⟩⟩
  unfold Oper.wp
  have : (execOp a.eval ⟨none, .store e x y, ty, pos, af, none⟩).run P w = .ok .skip (w.setRow b (cur.toList.take off ++ (a.eval y).cells.toList ++ cur.toList.drop (off + (a.eval y).cells.toList.length)).toArray) := by
    simp only [execOp, hv, Instr.storeAt, Instr.sureAddr, storeVar, Sem.run_bind, Sem.run_pure, Result.andThen_ok, run_sizeOf' h.ti, hcs, hrun]
    simp [hrun]
  rw [this]
  exact hK _ _ (kk _ _ hsr)
end
end Go.Sy
set_option linter.unusedSimpArgs false
set_option linter.unusedVariables false
namespace Go.Sy
open Go.RowKit

mutual
/-- a datum of the call's as one without addresses, when the call is over -/
inductive DVr (m : Nat) (H : List (Option Box)) : D → V → Prop
  | of {d : D} {v : V} : DV d v → DVr m H d v
  | row {i n : Nat} {x : Box} {vs vs' : List V} : H[i]? = some (some x) → D.toVL x.cs = some vs → x.sz ≠ 0 → x.cs.length = n * x.sz → Nat.ble m i = true → VLeL vs vs' → DVr m H (.row i n) (.sl n vs')
  | agg {ds : List D} {vs : List V} : DVrL m H ds vs → DVr m H (.agg ds) (.agg vs)
  | tup {ds : List D} {vs : List V} : DVrL m H ds vs → DVr m H (.tup ds) (.tup vs)
inductive DVrL (m : Nat) (H : List (Option Box)) : List D → List V → Prop
  | nil : DVrL m H [] []
  | cons {d : D} {v : V} {ds : List D} {vs : List V} : DVr m H d v → DVrL m H ds vs → DVrL m H (d :: ds) (v :: vs)
end
section
variable {c : Ctx} {m : Nat} {H : List (Option Box)} {β : List Place} {S S' : Nat → Prop} {w : World}
mutual
theorem DVr.rep (hH : HSt c H β S w) (hS : ∀ b, S b → S' b) (ho : ∀ (i : Nat) b q, m ≤ i → β[i]? = some (some (b, q)) → S' b) : ∀ {d : D} {v : V} {u : Value}, DVr m H d v → d.Rep β S w u → v.Rep S' w u
  | _, _, _, .of k, h => (k.rep h).mono (fun _ _ _ => rfl) fun b hb _ => hS b hb
  | _, _, u, .row (i := i) (n := n) (x := x) (vs := vs) hx hv hz hl hmi hle, h => by
    rcases h with ⟨h1, rfl, a, rfl⟩ | ⟨b, q, h1, hnq0, rfl⟩
    · rcases hH.box i x hx with ⟨_, _, h2⟩ | ⟨b', c', _, _, h2, _⟩
      · rw [h2] at hv
        simp only [D.toVL, Option.some.injEq] at hv
        subst hv
        cases hle
        exact ⟨a, 0, [], rfl, Nat.le_refl _, by simp [maxLen], rfl, Cells.nil⟩
      · rw [h1] at h2; cases h2
    · rcases hH.box i x hx with ⟨h2, _⟩ | ⟨b', c', cur, us, k1, k2, k3, k4, k5, k6, k7⟩
      · rw [h1] at h2; cases h2
      · rw [h1] at k1
        simp only [Option.some.injEq, Prod.mk.injEq] at k1
        obtain ⟨rfl, rfl⟩ := k1
        obtain ⟨k8, k9⟩ := k7 hz
        have hul := k4.len
        have hle' := k5.length_le
        simp at hle'
        have hnq : n ≤ q := by
          rw [hul, hl, k8] at hle'
          exact Nat.le_of_mul_le_mul_right hle' (Nat.pos_of_ne_zero hz)
        have hr : V.RepL S' w _ us := VLeL.rep hle ((D.RepL.toV hv k4).mono (fun _ _ _ => rfl) fun b hb _ => hS b hb)
        refine ⟨_, q, us, rfl, hnq, k9, hr, fun j y hj => ⟨b, 0, rfl, ?_, ho i b q (by simpa using hmi) h1⟩⟩
        obtain ⟨tl, htl⟩ := k5
        have h9 : cur[j]? = some y := by
          have := congrArg (fun l => l[j]?) htl
          simp only [List.getElem?_append, (List.getElem?_eq_some_iff.1 hj).1, if_true, hj] at this
          simpa using this.symm
        simp [World.cell?, k3, h9]
  | _, _, _, .agg k, ⟨us, h1, h2⟩ => ⟨us, h1, DVrL.rep hH hS ho k h2⟩
  | _, _, _, .tup k, ⟨us, h1, h2⟩ => ⟨us, h1, DVrL.rep hH hS ho k h2⟩
theorem DVrL.rep (hH : HSt c H β S w) (hS : ∀ b, S b → S' b) (ho : ∀ (i : Nat) b q, m ≤ i → β[i]? = some (some (b, q)) → S' b) : ∀ {ds : List D} {vs : List V} {us : List Value}, DVrL m H ds vs → D.RepL β S w ds us → V.RepL S' w vs us
  | _, _, _, .nil, h => h
  | _, _, _, .cons k1 k2, ⟨y, ys, h1, h2, h3⟩ => ⟨y, ys, h1, DVr.rep hH hS ho k1 h2, DVrL.rep hH hS ho k2 h3⟩
end
end
/-- what a result variable holds -/
inductive ResV (P : Program) (m : Nat) (s : St) : ResultVar → V → Prop
  | tmp {t : Tmp} {d : D} {v : V} : TM.get s.tm t = some (true, d) → DVr m s.H d v → ResV P m s (.tmp t) v
  | cell {t : Tmp} {ty : TypeId} {i : TypeInfo} {u : TypeDesc} {k off : Nat} {x : Box} {d : D} {v : V} : TyI P ty i u → TM.get s.tm t = some (true, .ptr k off) → s.H[k]? = some (some x) → TypeDesc.isAgg u = false → x.cs[off]? = some d → DVr m s.H d v → ResV P m s (.cell t ty) v
  | cellA {t : Tmp} {ty : TypeId} {i : TypeInfo} {u : TypeDesc} {k off : Nat} {x : Box} {v : V} : TyI P ty i u → TM.get s.tm t = some (true, .ptr k off) → s.H[k]? = some (some x) → TypeDesc.isAgg u = true → off + i.size ≤ x.cs.length → DVr m s.H (.agg ((x.cs.drop off).take i.size)) v → ResV P m s (.cell t ty) v
inductive ResL (P : Program) (m : Nat) (s : St) : List ResultVar → List V → Prop
  | nil : ResL P m s [] []
  | cons {r : ResultVar} {v : V} {rs : List ResultVar} {vs : List V} : ResV P m s r v → ResL P m s rs vs → ResL P m s (r :: rs) (v :: vs)
def tupV : List V → V
  | [v] => v
  | vs => .tup vs
def resVal (tmps : Array Value) : ResultVar → Sem Value
  | .tmp t => pure (tmps.getD t undef)
  | .cell a t => do loadVar t (← asAddr (tmps.getD a undef))
theorem results_eq (fn : Func) (tmps : Array Value) : results fn tmps = (fn.results.mapM (resVal tmps) >>= fun vs => pure (if h : vs.size = 1 then vs[0] else Value.tuple vs)) := by
  unfold results
  congr 1
section
variable {P : Program} {c : Ctx} {n m : Nat} {s : St} {a : Act} {w : World} {β : List Place} {S S' : Nat → Prop}
theorem ResV.run (hH : HSt c s.H β S w) (he : ∀ t, EntAt s β S w a t) (hS : ∀ b, S b → S' b) (ho : ∀ (i : Nat) b q, m ≤ i → β[i]? = some (some (b, q)) → S' b) {r : ResultVar} {v : V} (h : ResV P m s r v) : ∃ u, (resVal a.tmps r).run P w = .ok u w ∧ v.Rep S' w u := by
  cases h with
  | tmp h1 h2 =>
    have := (he _ _ _ h1).2.1 rfl
    exact ⟨_, rfl, h2.rep hH hS ho this⟩
  | @cell t ty i u k off x d v hty h1 h2 h3 h4 h5 =>
    have hp := (he _ _ _ h1).2.1 rfl
    obtain ⟨b, q, hb, hv⟩ := hp
    rcases hH.box _ _ h2 with ⟨k1, _⟩ | ⟨b', c', cur, us, k1, k2, k3, k4, k5, k6, k7⟩
    · rw [hb] at k1; cases k1
    · rw [hb] at k1
      simp only [Option.some.injEq, Prod.mk.injEq] at k1
      obtain ⟨rfl, rfl⟩ := k1
      obtain ⟨y, h7, h8⟩ := k4.get h4
      obtain ⟨tl, htl⟩ := k5
      have h9 : cur[off]? = some y := by
        have := congrArg (fun l => l[off]?) htl
        simp only [List.getElem?_append, (List.getElem?_eq_some_iff.1 h7).1, if_true, h7] at this
        simpa using this.symm
      refine ⟨y, ?_, h5.rep hH hS ho h8⟩
      simp only [resVal, hv, asAddr, Sem.run_bind, Sem.run_pure, Result.andThen_ok, loadVar, run_isAgg' hty.ut, h3]
      simp [run_load, World.cell?, k3, h9]
  | @cellA t ty i u k off x v hty h1 h2 h3 h4 h5 =>
    have hp := (he _ _ _ h1).2.1 rfl
    obtain ⟨b, q, hb, hv⟩ := hp
    rcases hH.box _ _ h2 with ⟨k1, _⟩ | ⟨b', c', cur, us, k1, k2, k3, k4, k5, k6, k7⟩
    · rw [hb] at k1; cases k1
    · rw [hb] at k1
      simp only [Option.some.injEq, Prod.mk.injEq] at k1
      obtain ⟨rfl, rfl⟩ := k1
      have hl := k4.len
      obtain ⟨tl, htl⟩ := k5
      have := run_loadCells_list (P := P) w ⟨b, off, none⟩ ((us.drop off).take i.size) (fun j v hj => by
        rw [List.getElem?_take] at hj
        split at hj
        · rw [List.getElem?_drop] at hj
          have h9 : cur[off + j]? = some v := by
            have := congrArg (fun l => l[off + j]?) htl
            simp only [List.getElem?_append, (List.getElem?_eq_some_iff.1 hj).1, if_true, hj] at this
            simpa using this.symm
          rw [add_lit]
          simp [World.cell?, k3, h9]
        · cases hj)
      rw [List.length_take, List.length_drop, Nat.min_eq_left (by omega)] at this
      refine ⟨.agg ((us.drop off).take i.size).toArray, ?_, h5.rep hH hS ho ⟨_, rfl, (k4.drop _).take _⟩⟩
      simp only [resVal, hv, asAddr, Sem.run_bind, Sem.run_pure, Result.andThen_ok, loadVar, run_isAgg' hty.ut, h3, if_true, run_sizeOf' hty.ti, this]
theorem ResL.run (hH : HSt c s.H β S w) (he : ∀ t, EntAt s β S w a t) (hS : ∀ b, S b → S' b) (ho : ∀ (i : Nat) b q, m ≤ i → β[i]? = some (some (b, q)) → S' b) : ∀ {rs : List ResultVar} {vs : List V}, ResL P m s rs vs → ∃ us, (rs.mapM (resVal a.tmps)).run P w = .ok us w ∧ V.RepL S' w vs us
  | _, _, .nil => ⟨[], rfl, rfl⟩
  | _, _, .cons h1 h2 => by
    obtain ⟨u, h3, h4⟩ := h1.run hH he hS ho
    obtain ⟨us, h5, h6⟩ := ResL.run hH he hS ho h2
    refine ⟨u :: us, ?_, ⟨_, _, rfl, h4, h6⟩⟩
    rw [List.mapM_cons, Sem.run_bind, h3]
    simp only [Result.andThen_ok, Sem.run_bind, h5, Sem.run_pure]
/-- how a function ends -/
def Fin (P : Program) (m : Nat) (rs : List ResultVar) (vs : List V) : Exit → St → Prop
  | .ret, s => ResL P m s rs vs
  | .normal, s => ResL P m s rs vs
  | _, _ => False
theorem fin_run {fn : Func} {vs : List V} {rs : List ResultVar} (hrs : fn.results = rs.toArray) (h : ResL P m s rs vs) (hr : SR c n s a w) (hm : c.β0.length ≤ m) (hro : c.ro = true ∨ c.β0 = []) (hS0 : ∀ b, c.w0.heap.size ≤ b → c.S0 b) : ∃ u, (results fn a.tmps).run P w = .ok u w ∧ a.defers = c.dfr ∧ Ext c.w0 w ∧ (tupV vs).Rep c.S0 w u := by
  obtain ⟨β, S, hH, hd, _, he⟩ := hr
  have hS : ∀ b, S b → c.S0 b := fun b hb => (hH.sub b hb).elim id (hS0 b)
  have ho : ∀ (i : Nat) b q, m ≤ i → β[i]? = some (some (b, q)) → c.S0 b := fun i b q hi h => by
    rcases hH.own i b q h with h | ⟨q0, h⟩
    · exact hS0 b h
    · have := (List.getElem?_eq_some_iff.1 h).1
      omega
  obtain ⟨us, h1, h2⟩ := h.run hH he hS ho
  have hx : Ext c.w0 w := ⟨hH.os, hH.tape, hH.output, hH.size, fun b hb => hH.fr b hb (hro.imp id fun h i q => by rw [h]; simp)⟩
  refine ⟨if h : us.toArray.size = 1 then us.toArray[0] else .tuple us.toArray, ?_, hd, hx, ?_⟩
  · rw [results_eq, hrs]
    simp [List.mapM_toArray, h1]
  · have hl := h2.len
    match vs, us, h2, hl with
    | [], [], _, _ => exact ⟨[], rfl, rfl⟩
    | [v], [u], h2, _ =>
      obtain ⟨y, ys, h3, h4, _⟩ := h2
      injection h3 with h3 _
      subst h3
      exact h4
    | v :: v' :: vs, u :: u' :: us, h2, _ =>
      have : ¬ (u :: u' :: us).toArray.size = 1 := by simp
      rw [dif_neg this]
      exact ⟨_, rfl, h2⟩
def TM.argsD : Nat → List D → List (Nat × Bool × D)
  | _, [] => []
  | k, d :: ds => (k, true, d) :: TM.argsD (k + 1) ds
abbrev TM.args (k : Nat) (vs : List V) : List (Nat × Bool × D) := TM.argsD k (vs.map D.p)
theorem TM.argsD_get {t : Nat} {g : Bool} {d : D} : ∀ {vs : List D} {k : Nat}, TM.get (TM.argsD k vs) t = some (g, d) → ∃ j, t = k + j ∧ vs[j]? = some d ∧ g = true
  | [], _, h => by cases h
  | v :: vs, k, h => by
    unfold TM.argsD at h
    rw [TM.get_cons] at h
    split at h
    · rename_i e
      subst e
      simp only [Option.some.injEq, Prod.mk.injEq] at h
      exact ⟨0, rfl, by simp [h.2], h.1.symm⟩
    · obtain ⟨j, h1, h2, h3⟩ := TM.argsD_get h
      exact ⟨j + 1, by omega, by simpa using h2, h3⟩
/-- the state where a function begins -/
theorem SR.begin {H : List (Option Box)} {esc : St → World → Prop} {ro : Bool} {dead : List Nat} {ds : List D} {us : List Value} (hH : HOk H β S w) (h : D.RepL β S w ds us) (hn : ds.length ≤ n) : SR ⟨w, S, β, ro, dead, [], esc⟩ n ⟨TM.argsD 0 ds, H⟩ { tmps := us.toArray ++ Array.replicate (n - us.length) undef, defers := [] } w := by
  have hl := h.len
  have hsz : (us.toArray ++ Array.replicate (n - us.length) undef).size = n := by rw [Array.size_append, Array.size_replicate, List.size_toArray]; omega
  refine ⟨β, S, ⟨hH, fun b hb => .inl hb, fun i b q h => .inr ⟨q, h⟩, fun _ _ _ => rfl, fun _ _ _ h => h, Nat.le_refl _, fun b hb _ => ⟨rfl, hb⟩, rfl, rfl, rfl, Nat.le_refl _⟩, rfl, hsz, ?_⟩
  intro t g d hg
  obtain ⟨j, h1, h2, rfl⟩ := TM.argsD_get hg
  obtain ⟨u, h3, h4⟩ := h.get h2
  have hj := (List.getElem?_eq_some_iff.1 h3).1
  have ht : t = j := h1.trans (Nat.zero_add j)
  subst ht
  have hjn : t < n := Nat.lt_of_lt_of_le hj (by rw [hl]; exact hn)
  have hlt : t < (us.toArray ++ Array.replicate (n - us.length) undef).size := by rw [hsz]; exact hjn
  refine ⟨hlt, fun _ => ?_, fun h => by cases h⟩
  have : (us.toArray ++ Array.replicate (n - us.length) undef).getD t undef = u := by
    have h5 : us[t] = u := by
      have := List.getElem?_eq_getElem hj
      rw [this] at h3
      exact Option.some.inj h3
    rw [Array.getD, dif_pos hlt]
    show (us.toArray ++ Array.replicate (n - us.length) undef)[t] = u
    rw [Array.getElem_append_left (by simpa using hj)]
    simpa using h5
  rw [this]
  exact h4
theorem HOk.nil (hup : ∀ b, w.heap.size ≤ b → S b) : HOk [] [] S w := ⟨hup, fun i x h => by simp at h, rfl, fun i j x y b p q h => by simp at h⟩
theorem Fn1.of {f : FuncId} {fn : Func} {code : Code} {vs rs : List V} {res : List ResultVar} (henter : ∀ args w, (callFunc f args).run P w = .ok (.enter f args) w) (hf : P.funcs[f]? = some fn) (hb : fn.body = some code) (hnt : fn.ntmps = n) (hrs : fn.results = res.toArray) (hn : vs.length ≤ n)
    (h : ∀ c, c.β0 = [] → Sym P c n code (Fin P 0 res rs) ⟨TM.args 0 vs, []⟩) : Fn1 P f vs (tupV rs) := by
  refine ⟨henter, fun S w us hup hr => ?_⟩
  refine calls_of_wp hf hb ?_
  rw [hnt, List.size_toArray]
  refine wp_mono (h ⟨w, S, [], false, [], [], noEsc⟩ rfl _ w (SR.begin (HOk.nil hup) (D.RepL.p hr) (by simpa using hn))) ?_
  rintro e a' w' ⟨s', h1, h2⟩
  replace h1 := h1.sr rfl
  cases e with
  | ret =>
    obtain ⟨u, k1, k2, k3, k4⟩ := fin_run hrs h2 h1 (Nat.le_refl _) (.inr rfl) hup
    exact bodyPost_ret k1 k2 ⟨u, rfl, k3, k4⟩
  | normal =>
    obtain ⟨u, k1, k2, k3, k4⟩ := fin_run hrs h2 h1 (Nat.le_refl _) (.inr rfl) hup
    exact bodyPost_end k1 k2 ⟨u, rfl, k3, k4⟩
  | exit _ => exact h2.elim
  | goto _ => exact h2.elim
  | panic _ => exact h2.elim
  | outgrown => exact h2.elim
end
/-! ### steps, for walks -/
section
variable {P : Program} {c : Ctx} {n : Nat} {ops : Array Oper} {Q : Exit → St → Prop} {s : St} {o : Oper} {g : Bool} {d : D} {rest : List Oper}
section
variable {tm : List (Nat × Bool × D)} {H : List (Option Box)} {op : Op} {ty : TypeId} {pos : String} {af : Array Edge} {gd : Option (Nat × Bool)} {t : Tmp}
theorem SymL.opr (hg : GOk ops ⟨tm, H⟩ ⟨some t, op, ty, pos, af, gd⟩ g) (h : MOp P ⟨tm, H⟩ ⟨some t, op, ty, pos, af, gd⟩ g d) (hd : Nat.blt t n = true) (k : SymL P c n ops Q rest ⟨(t, g, d) :: tm, H⟩) : SymL P c n ops Q (⟨some t, op, ty, pos, af, gd⟩ :: rest) ⟨tm, H⟩ := SymL.mono ⟨hg, h, hd⟩ k
theorem MTo.step1 {T : St → Prop} {m : Nat} (hg : GOk ops ⟨tm, H⟩ ⟨some t, op, ty, pos, af, gd⟩ g) (h : MOp P ⟨tm, H⟩ ⟨some t, op, ty, pos, af, gd⟩ g d) (hd : Nat.blt t n = true) (k : MTo P n ops T m rest ⟨(t, g, d) :: tm, H⟩) : MTo P n ops T (m + 1) (⟨some t, op, ty, pos, af, gd⟩ :: rest) ⟨tm, H⟩ := .step ⟨hg, h, hd⟩ k
theorem SymL.box' {x : Operand} {e : TypeId} (hx : Ev ⟨tm, H⟩ true x d) (hl : d.laid = true) (ht : Nat.blt t n = true) {H' : List (Option Box)} {m : Nat} (hm : H.length = m) (hH : H ++ [some ⟨d.cells, e, 0⟩] = H') (k : SymL P c n ops Q rest ⟨(t, true, .ptr m 0) :: tm, H'⟩) :
    SymL P c n ops Q (⟨some t, .box e x, ty, pos, af, none⟩ :: rest) ⟨tm, H⟩ := SymL.box hx hl ht (by subst hm; subst hH; exact k)
theorem SymL.alloc' {e : TypeId} {i : TypeInfo} {u : TypeDesc} {z : Value} [h : TyI P e i u] (hz : i.zero = some z) (ht : Nat.blt t n = true) {H' : List (Option Box)} {m : Nat} (hm : H.length = m) (hH : H ++ [some ⟨z.cells.toList.map (fun v => D.p (.x v)), e, 0⟩] = H') (k : SymL P c n ops Q rest ⟨(t, true, .ptr m 0) :: tm, H'⟩) :
    SymL P c n ops Q (⟨some t, .alloc e, ty, pos, af, none⟩ :: rest) ⟨tm, H⟩ := SymL.alloc hz ht (by subst hm; subst hH; exact k)
theorem SymL.store' {x y : Operand} {e : TypeId} {i : TypeInfo} {u : TypeDesc} {k off : Nat} {bcs : List D} {be : TypeId} {bz : Nat} [h : TyI P e i u] (hx : Ev ⟨tm, H⟩ true x (.ptr k off)) (hy : Ev ⟨tm, H⟩ true y d) (hb : H[k]? = some (some ⟨bcs, be, bz⟩)) (hl : d.laid = true) (h1 : d.cells.all D.one = true) (hlen : Nat.beq d.cells.length i.size = true)
    (hoff : Nat.ble (off + i.size) bcs.length = true) (hwr : c.ro = true → c.β0.length ≤ k) {H' : List (Option Box)} (hH : H.set k (some ⟨splice bcs off d.cells, be, bz⟩) = H') (kk : SymL P c n ops Q rest ⟨tm, H'⟩) :
    SymL P c n ops Q (⟨none, .store e x y, ty, pos, af, none⟩ :: rest) ⟨tm, H⟩ := SymL.store hx hy hb hl h1 hlen hoff hwr (by subst hH; exact kk)
end
theorem Sym.regionL {id : Nat} {l : List Oper} (h : SymL P c n l.toArray Q l s) : Sym P c n (.region id l.toArray false) Q s := Sym.region (by simpa using h)
theorem Sym.drawL {id : Nat} {l : List Oper} (m : Nat) (hm : P.follows .mixedOrders = true) (hsyn : drawOk l.toArray m = true) (h : MTo P n l.toArray (fun s => SymL P c n l.toArray Q (l.drop m) s) m l s) : Sym P c n (.region id l.toArray true) Q s := Sym.draw m hm hsyn (by simpa using h)
/-- steps that only add memory, to the end -/
inductive MAll (P : Program) (n : Nat) (ops : Array Oper) (T : St → Prop) : List Oper → St → Prop
  | nil {s : St} : T s → MAll P n ops T [] s
  | step {o : Oper} {l : List Oper} {s : St} {g : Bool} {d : D} : MStep P n ops s o g d → MAll P n ops T l (s.put o.dst g d) → MAll P n ops T (o :: l) s
theorem MAll.mto {T T' : St → Prop} (hT : ∀ s, T s → T' s) : ∀ {l : List Oper} {s : St}, MAll P n ops T l s → MTo P n ops T' l.length l s
  | [], _, .nil h => .done (hT _ h)
  | _ :: _, _, .step h1 h2 => .step h1 (h2.mto hT)
theorem MAll.step1 {T : St → Prop} {tm : List (Nat × Bool × D)} {H : List (Option Box)} {op : Op} {ty : TypeId} {pos : String} {af : Array Edge} {gd : Option (Nat × Bool)} {t : Tmp} (hg : GOk ops ⟨tm, H⟩ ⟨some t, op, ty, pos, af, gd⟩ g) (h : MOp P ⟨tm, H⟩ ⟨some t, op, ty, pos, af, gd⟩ g d) (hd : Nat.blt t n = true) (k : MAll P n ops T rest ⟨(t, g, d) :: tm, H⟩) : MAll P n ops T (⟨some t, op, ty, pos, af, gd⟩ :: rest) ⟨tm, H⟩ := .step ⟨hg, h, hd⟩ k
/-- a region whose order is open, all of which only adds memory -/
theorem Sym.drawA {id : Nat} {l : List Oper} (hm : P.follows .mixedOrders = true) (hsyn : drawOk l.toArray l.length = true) (h : MAll P n l.toArray (fun s => Q .normal s) l s) : Sym P c n (.region id l.toArray true) Q s := by
  refine Sym.drawL l.length hm hsyn (h.mto fun s hs => ?_)
  rw [List.drop_length]
  exact SymL.nil hs
theorem thenS.nx {next : St → Prop} (h : next s) : thenS next Q .normal s := h
theorem thenS.rt {next : St → Prop} (h : Q .ret s) : thenS next Q .ret s := h
theorem thenS.ex {next : St → Prop} {id : Nat} (h : Q (.exit id) s) : thenS next Q (.exit id) s := h
theorem blockS.nx {id : Nat} (h : Q .normal s) : blockS id Q .normal s := h
theorem blockS.rt {id : Nat} (h : Q .ret s) : blockS id Q .ret s := h
theorem blockS.ex {id : Nat} (h : Q .normal s) : blockS id Q (.exit id) s := by
  show (if id = id then _ else _)
  rw [if_pos rfl]; exact h
theorem blockS.ot {id id' : Nat} (hne : Nat.beq id' id = false) (h : Q (.exit id') s) : blockS id Q (.exit id') s := by
  show (if id' = id then _ else _)
  rw [if_neg (by rintro rfl; simp at hne)]; exact h
theorem Fin.rt {m : Nat} {rs : List ResultVar} {vs : List V} (h : ResL P m s rs vs) : Fin P m rs vs .ret s := h
theorem Fin.nx {m : Nat} {rs : List ResultVar} {vs : List V} (h : ResL P m s rs vs) : Fin P m rs vs .normal s := h
end
end Go.Sy
set_option linter.unusedSimpArgs false
set_option linter.unusedVariables false
namespace Go.Sy
open Go.RowKit

/-! ### fill -/
theorem foldl_set (off : Nat) : ∀ (vs : List Value) (k : Nat) (cs : Array Value), off + k + vs.length ≤ cs.size →
    ((vs.zipIdx k).foldl (fun cs (x : Value × Nat) => cs.setIfInBounds (off + x.2) x.1) cs).toList = cs.toList.take (off + k) ++ vs ++ cs.toList.drop (off + k + vs.length)
  | [], k, cs, _ => by simp
  | v :: vs, k, cs, h => by
    simp only [List.zipIdx_cons, List.foldl_cons]
    have h' : off + (k + 1) + vs.length ≤ (cs.setIfInBounds (off + k) v).size := by simp at h ⊢; omega
    rw [foldl_set off vs (k + 1) _ h']
    simp only [Array.toList_setIfInBounds, List.length_cons]
    have hl : off + k < cs.toList.length := by simp at h ⊢; omega
    have e1 : (cs.toList.set (off + k) v).take (off + (k + 1)) = cs.toList.take (off + k) ++ [v] := by
      rw [show off + (k + 1) = off + k + 1 by omega, List.take_add_one, List.take_set_of_le (Nat.le_refl _), List.getElem?_set_self hl]
      rfl
    have e2 : (cs.toList.set (off + k) v).drop (off + (k + 1) + vs.length) = cs.toList.drop (off + k + (vs.length + 1)) := by
      rw [List.drop_set_of_lt (by omega)]
      congr 1
      omega
    rw [e1, e2]
    simp
def fillD (place : Nat → Option (Nat × Nat)) (cells : List D) : List (Nat × D) → Option (List D)
  | [] => some cells
  | (i, d) :: rest => match place i with
    | none => none
    | some (off, size) => if Nat.beq d.cells.length size && Nat.ble (off + d.cells.length) cells.length && d.laid then fillD place (splice cells off d.cells) rest else none
section
variable {β : List Place} {S : Nat → Prop} {w : World}
inductive RepP (β : List Place) (S : Nat → Prop) (w : World) : List (Nat × D) → List (Nat × Value) → Prop
  | nil : RepP β S w [] []
  | cons {i : Nat} {d : D} {u : Value} {ds : List (Nat × D)} {us : List (Nat × Value)} : d.Rep β S w u → RepP β S w ds us → RepP β S w ((i, d) :: ds) ((i, u) :: us)
theorem fill_rep (place : Nat → Option (Nat × Nat)) : ∀ {parts : List (Nat × D)} {vals : List (Nat × Value)} {cells res : List D} {us : List Value}, RepP β S w parts vals → D.RepL β S w cells us → fillD place cells parts = some res →
    ∃ us' : List Value, Instr.fill place us.toArray vals = some us'.toArray ∧ D.RepL β S w res us'
  | _, _, _, _, us, .nil, h, hf => by
    simp only [fillD, Option.some.injEq] at hf
    subst hf
    exact ⟨us, rfl, h⟩
  | _, _, cells, res, us, .cons (i := i) (d := d) (u := u) (ds := ds) (us := vals) h1 h2, h, hf => by
    simp only [fillD] at hf
    simp only [Instr.fill]
    cases hp : place i with
    | none => rw [hp] at hf; cases hf
    | some os =>
      obtain ⟨off, size⟩ := os
      rw [hp] at hf
      simp only at hf ⊢
      split at hf
      case isFalse => cases hf
      case isTrue hc =>
        simp only [Bool.and_eq_true, Nat.beq_eq, Nat.ble_eq] at hc
        obtain ⟨⟨hc1, hc2⟩, hc3⟩ := hc
        have hcells := h1.cells hc3
        have hl := hcells.len
        have hul := h.len
        simp only [Array.length_toList] at hl
        rw [if_neg (by simp; omega)]
        have e : (u.cells.zipIdx.foldl (fun cs (x : Value × Nat) => cs.setIfInBounds (off + x.2) x.1) us.toArray) = (splice us off u.cells.toList).toArray := by
          apply Array.ext'
          rw [← Array.foldl_toList, Array.toList_zipIdx]
          have := foldl_set off u.cells.toList 0 us.toArray (by simp; omega)
          simpa [splice] using this
        rw [e]
        exact fill_rep place h2 (h.splice hcells off) hf
end
inductive EvP (s : St) (g : Bool) : List (Nat × Operand) → List (Nat × D) → Prop
  | nil : EvP s g [] []
  | cons {i : Nat} {x : Operand} {xs : List (Nat × Operand)} {d : D} {ds : List (Nat × D)} : Ev s g x d → EvP s g xs ds → EvP s g ((i, x) :: xs) ((i, d) :: ds)
section
variable {P : Program} {s : St} {g : Bool} {dst : Option Tmp} {ty : TypeId} {pos : String} {af : Array Edge} {gd : Option (Nat × Bool)}
theorem EvP.rep {l : Array Operand} {β : List Place} {S : Nat → Prop} {a : Act} {w : World} (he : ∀ t, .tmp t ∈ l → EntAt s β S w a t) (hg : g = true) : ∀ {xs : List (Nat × Operand)} {ds : List (Nat × D)}, EvP s g xs ds → (∀ x ∈ xs, x.2 ∈ l) → RepP β S w ds (xs.map fun x => (x.1, a.eval x.2))
  | _, _, .nil, _ => .nil
  | _, _, .cons h1 h3, hm => .cons (h1.rep (hm _ List.mem_cons_self) he hg) (EvP.rep he hg h3 fun x hx => hm x (List.mem_cons_of_mem _ hx))
/-- where the fields lie -/
inductive Places (P : Program) : List Field → List (Nat × Nat) → Prop
  | nil : Places P [] []
  | cons {f : Field} {fs : List Field} {l : List (Nat × Nat)} {i : TypeInfo} {u : TypeDesc} : TyI P f.type i u → Places P fs l → Places P (f :: fs) ((f.offset, i.size) :: l)
theorem Places.run {w : World} : ∀ {fs : List Field} {l : List (Nat × Nat)}, Places P fs l → (fs.mapM (fun f => do pure (f.offset, ← sizeOf f.type) : Field → Sem (Nat × Nat))).run P w = .ok l w
  | _, _, .nil => rfl
  | _, _, .cons h1 h2 => by
    rw [List.mapM_cons, Sem.run_bind, Sem.run_bind, run_sizeOf' h1.ti]
    simp only [Result.andThen_ok, Sem.run_pure, Sem.run_bind, Places.run h2]
theorem MOp.build {t : TypeId} {parts : Array (Nat × Operand)} {i : TypeInfo} {fs : Array Field} {z : Value} {pls : List (Nat × Nat)} {ds : List (Nat × D)} {res : List D} [h : TyI P t i (.struct fs)] (hz : i.zero = some z) (hpl : Places P fs.toList pls) (hp : EvP s g parts.toList ds)
    (hf : fillD (fun i : Nat => pls[i]?) (z.cells.toList.map (fun v => D.p (.x v))) ds = some res) : MOp P s ⟨dst, .build t parts, ty, pos, af, gd⟩ g (.agg res) := by
  refine ⟨fun β S a w ho he hg K Q hK => ?_⟩
  have h1 := hp.rep (l := (Op.build t parts).operands) he hg (by
    intro x hx
    simp only [Op.operands, List.mem_toArray, List.mem_map]
    exact ⟨x, hx, rfl⟩)
  have hc : D.RepL β S w (z.cells.toList.map (fun v => D.p (.x v))) z.cells.toList := by
    have := D.RepL.p (β := β) (V.RepL.x (S := S) (w := w) (l := z.cells.toList))
    rwa [List.map_map] at this
  obtain ⟨us, h2, h3⟩ := fill_rep _ h1 hc hf
  rw [Array.toArray_toList] at h2
  refine wp_value (v := .agg us.toArray) (w' := w) ?_ (hK _ w (Ext.refl w) ⟨us, rfl, h3⟩)
  have hm := hpl.run (w := w)
  have e : (fs.mapM (fun f => do pure (f.offset, ← sizeOf f.type) : Field → Sem (Nat × Nat))).run P w = .ok pls.toArray w := by
    have : fs = fs.toList.toArray := by simp
    rw [this, List.mapM_toArray, Sem.run_map, hm]
    rfl
  simp only [execOp, Instr.build, Sem.run_bind, run_zeroValue' h.ti hz, Result.andThen_ok, run_underlying h.ut, e]
  have e2 : (parts.map fun x => (x.1, a.eval x.2)).toList = parts.toList.map fun x => (x.1, a.eval x.2) := by simp
  have e3 : (fun i => (pls.toArray : Array (Nat × Nat))[i]?) = (fun i : Nat => pls[i]?) := by funext i; simp
  have h2' : Instr.fill (fun i => pls.toArray[i]?) z.cells (parts.map fun x => (x.1, a.eval x.2)).toList = some us.toArray := by rw [e2, e3]; exact h2
  simp only [Array.toList_map] at h2' ⊢
  rw [h2']
  rfl
theorem MOp.buildV {t : TypeId} {parts : Array (Nat × Operand)} {i : TypeInfo} {fs : Array Field} {z : Value} {pls : List (Nat × Nat)} {ds : List (Nat × D)} {res : List D} {vs : List V} [h : TyI P t i (.struct fs)] (hz : i.zero = some z) (hpl : Places P fs.toList pls) (hp : EvP s g parts.toList ds)
    (hf : fillD (fun i : Nat => pls[i]?) (z.cells.toList.map (fun v => D.p (.x v))) ds = some res) (hv : D.toVL res = some vs) : MOp P s ⟨dst, .build t parts, ty, pos, af, gd⟩ g (.p (.agg vs)) := by
  refine ⟨fun β S a w ho he hg K Q hK => ?_⟩
  refine (MOp.build hz hpl hp hf).run β S a w ho he hg K Q fun u w' h1 h2 => hK u w' h1 ?_
  obtain ⟨us, h3, h4⟩ := h2
  exact ⟨us, h3, D.RepL.toV hv h4⟩
/-- what a zero row holds -/
def zeroD (z : Value) (n : Nat) : List D := (List.range n).map fun q => D.p (.x (z.cells[q % z.cells.size]!))
theorem MOp.buildSlice {t e : TypeId} {len : Nat} {parts : Array (Nat × Operand)} {i j : TypeInfo} {u : TypeDesc} {z : Value} {ds : List (Nat × D)} {res : List D} {vs : List V} [h : TyI P t i (.slice e)] [h' : TyI P e j u] (hz : j.zero = some z) (hlen : Nat.ble (len * j.size) 16777216 = true) (hp : EvP s g parts.toList ds)
    (hf : fillD (fun i => some (i * j.size, j.size)) (zeroD z (len * j.size)) ds = some res) (hv : D.toVL res = some vs) (hlm : Nat.ble len 1000000 = true) : MOp P s ⟨dst, .buildSlice t len parts, ty, pos, af, gd⟩ g (.p (.fl len vs)) := by
  refine ⟨fun β S a w ho he hg K Q hK => ?_⟩
  have hlen : len * j.size ≤ 16777216 := by simpa using hlen
  have hlm : len ≤ 1000000 := by simpa using hlm
  have h1 := hp.rep (l := (Op.buildSlice t len parts).operands) he hg (by
    intro x hx
    simp only [Op.operands, List.mem_toArray, List.mem_map]
    exact ⟨x, hx, rfl⟩)
  have hc : D.RepL β S w (zeroD z (len * j.size)) ((List.range (len * j.size)).map fun q => z.cells[q % z.cells.size]!) := by
    have := D.RepL.p (β := β) (V.RepL.x (S := S) (w := w) (l := (List.range (len * j.size)).map fun q => z.cells[q % z.cells.size]!))
    rw [List.map_map, List.map_map] at this
    exact this
  obtain ⟨us, h2, h3⟩ := fill_rep _ h1 hc hf
  have hx : Ext w (w.alloc (.cells us.toArray e)) := (Ext.refl w).alloc _
  refine wp_value (v := .slice (some ⟨w.heap.size, 0, none⟩) len len) (w' := w.alloc (.cells us.toArray e)) ?_ (hK _ _ hx ⟨_, us, rfl, by simp only [maxLen]; omega, (D.RepL.toV hv h3).ext hx, ?_⟩)
  · have e2 : (parts.map fun x => (x.1, a.eval x.2)).toList = parts.toList.map fun x => (x.1, a.eval x.2) := by simp
    have e3 : ((Array.range (len * j.size)).map fun q => z.cells[q % z.cells.size]!) = ((List.range (len * j.size)).map fun q => z.cells[q % z.cells.size]!).toArray := by
      apply Array.ext'; simp
    have hge : ¬ len * j.size > 2 ^ 24 := by omega
    by_cases h0 : len * j.size = 0
    · rw [h0] at h2
      simp only [List.range_zero, List.map_nil] at h2
      have h2' : Instr.fill (fun i => some (i * j.size, j.size)) #[] (List.map (fun x => (x.fst, a.eval x.snd)) parts.toList) = some us.toArray := h2
      simp only [execOp, Instr.buildSlice, Sem.run_bind, run_underlying h.ut, Result.andThen_ok, run_sizeOf' h'.ti, if_neg hge, Sem.run_pure, h0]
      have hge0 : ¬ (0 : Nat) > 2 ^ 24 := by omega
      have hr0 : Array.range 0 = #[] := rfl
      simp only [if_neg hge0, if_true, Sem.run_bind, Sem.run_pure, Result.andThen_ok, Array.toList_map, hr0, List.map_toArray, List.map_nil]
      rw [h2']
      simp [newRow, go_sem]
    · simp only [execOp, Instr.buildSlice, Sem.run_bind, run_underlying h.ut, Result.andThen_ok, run_sizeOf' h'.ti, if_neg hge, if_neg h0, Sem.run_pure, run_zeroValue' h'.ti hz]
      simp only [Array.toList_map, e3]
      rw [h2]
      simp [newRow, go_sem]
  · intro q y hq
    refine ⟨w.heap.size, 0, rfl, ?_, ho.up _ (Nat.le_refl _)⟩
    have := World.news_of_block (heap_alloc_new w (.cells us.toArray e)) q y (by simpa using hq)
    rwa [add_lit] at this
/-! ### s[lo:hi] of a slice that does not change -/
theorem V.cut {α : Type} {enc : α → List V} {sz : Nat} (hsz : ∀ q, (enc q).length = sz) : ∀ (l : List α) (k : Nat), (l.flatMap enc).drop (k * sz) = (l.drop k).flatMap enc
  | _, 0 => by simp
  | [], k + 1 => by simp
  | y :: l, k + 1 => by
    rw [List.flatMap_cons, Nat.add_mul, Nat.one_mul, show k * sz + sz = (enc y).length + k * sz by rw [hsz]; omega, List.drop_append, List.drop_of_length_le (by omega)]
    simpa using V.cut hsz l k
theorem V.cutT {α : Type} {enc : α → List V} {sz : Nat} (hsz : ∀ q, (enc q).length = sz) : ∀ (l : List α) (k : Nat), (l.flatMap enc).take (k * sz) = (l.take k).flatMap enc
  | _, 0 => by simp
  | [], k + 1 => by simp
  | y :: l, k + 1 => by
    rw [List.flatMap_cons, Nat.add_mul, Nat.one_mul, show k * sz + sz = (enc y).length + k * sz by rw [hsz]; omega, List.take_append, List.take_of_length_le (by omega)]
    simp [V.cutT hsz l k]
theorem V.Rep.sliced {α : Type} {enc : α → List V} {l : List α} {S : Nat → Prop} {w : World} {a : Option Addr} {c n : Nat} {sz lo hi : Nat} (hsz : ∀ q, (enc q).length = sz) (h : (V.list enc l).Rep S w (.slice a n c)) (h1 : lo ≤ hi) (h2 : hi ≤ l.length) :
    (V.list enc ((l.take hi).drop lo)).Rep S w (Go.sliced a lo hi c sz) := by
  obtain ⟨a', c', us, e, h3, h4, h5, h6⟩ := h
  injection e with e1 e2 e3
  subst e1; subst e2; subst e3
  have hlen : ((l.take hi).drop lo).length = hi - lo := by simp; omega
  refine ⟨_, c - lo, (us.take (hi * sz)).drop (lo * sz), by rw [hlen]; rfl, by rw [hlen]; omega, by omega, ?_, ?_⟩
  · rw [← V.cut hsz, ← V.cutT hsz]
    exact (h5.take _).drop _
  · intro j y hj
    have hj' := hj
    rw [List.getElem?_drop, List.getElem?_take] at hj
    split at hj
    case isFalse => cases hj
    case isTrue hlt =>
      obtain ⟨b, o, rfl, h7, h8⟩ := h6 _ _ hj
      have hlh : lo < hi := by
        rcases Nat.lt_or_ge lo hi with h | h
        · exact h
        · have : hi * sz ≤ lo * sz := Nat.mul_le_mul_right _ h
          omega
      refine ⟨b, o + lo * sz, ?_, by rw [Nat.add_assoc]; exact h7, h8⟩
      rw [if_neg (by omega)]
      simp [add_lit]
section
variable {α : Type} {enc : α → List V} {l : List α} {t e : TypeId} {i j : TypeInfo} {u : TypeDesc} {x y z : Operand} {k k' : IntKind} {lo hi : Int}
theorem MOp.sliceLH [h : TyI P t i (.slice e)] [h' : TyI P e j u] (hx : Ev s g x (.p (V.list enc l))) (hy : Ev s g y (.p (.x (.int k lo)))) (hz : Ev s g z (.p (.x (.int k' hi)))) (hsz : ∀ q, (enc q).length = j.size) (hb : g = true → 0 ≤ lo ∧ lo ≤ hi ∧ hi ≤ l.length) :
    MOp P s ⟨dst, .slice t x (some y) (some z) none, ty, pos, af, gd⟩ g (.p (V.list enc ((l.take hi.toNat).drop lo.toNat))) := by
  refine ⟨fun β S a w ho he hg K Q hK => ?_⟩
  obtain ⟨b1, b2, b3⟩ := hb hg
  have r1 := hx.rep (l := (Op.slice t x (some y) (some z) none).operands) (by simp [Op.operands]) he hg
  have r2 : a.eval y = .int k lo := hy.rep (l := (Op.slice t x (some y) (some z) none).operands) (by simp [Op.operands]) he hg
  have r3 : a.eval z = .int k' hi := hz.rep (l := (Op.slice t x (some y) (some z) none).operands) (by simp [Op.operands]) he hg
  obtain ⟨ad, c, us, h1, h2, h3⟩ := id r1
  rw [h1] at r1
  have hcap : hi ≤ (c : Int) := by omega
  have hu : P.underlying t = some (.slice (P.elem t)) := by simp [Program.elem, h.ut]
  have hel : P.elem t = e := by simp [Program.elem, h.ut]
  refine wp_value (v := Go.sliced ad lo.toNat hi.toNat c j.size) (w' := w) ?_ (hK _ w (Ext.refl w) (V.Rep.sliced hsz r1 (by omega) (by omega)))
  simp only [execOp, h1, r2, r3, Option.map_some, Option.map_none, Sem.run_bind]
  rw [run_sliceAt_slice w t _ _ _ _ hu, run_slice_lh w t ad l.length c hu k k' lo hi b1 b2 hcap, hel, run_sizeOf' h'.ti]
  rfl
theorem MOp.sliceH [h : TyI P t i (.slice e)] [h' : TyI P e j u] (hx : Ev s g x (.p (V.list enc l))) (hz : Ev s g z (.p (.x (.int k' hi)))) (hsz : ∀ q, (enc q).length = j.size) (hb : g = true → 0 ≤ hi ∧ hi ≤ l.length) :
    MOp P s ⟨dst, .slice t x none (some z) none, ty, pos, af, gd⟩ g (.p (V.list enc (l.take hi.toNat))) := by
  refine ⟨fun β S a w ho he hg K Q hK => ?_⟩
  obtain ⟨b2, b3⟩ := hb hg
  have r1 := hx.rep (l := (Op.slice t x none (some z) none).operands) (by simp [Op.operands]) he hg
  have r3 : a.eval z = .int k' hi := hz.rep (l := (Op.slice t x none (some z) none).operands) (by simp [Op.operands]) he hg
  obtain ⟨ad, c, us, h1, h2, h3⟩ := id r1
  rw [h1] at r1
  have hcap : hi ≤ (c : Int) := by omega
  have hu : P.underlying t = some (.slice (P.elem t)) := by simp [Program.elem, h.ut]
  have hel : P.elem t = e := by simp [Program.elem, h.ut]
  have hr := V.Rep.sliced (lo := 0) hsz r1 (Nat.zero_le _) (show hi.toNat ≤ l.length by omega)
  rw [List.drop_zero] at hr
  refine wp_value (v := Go.sliced ad 0 hi.toNat c j.size) (w' := w) ?_ (hK _ w (Ext.refl w) hr)
  simp only [execOp, h1, r3, Option.map_some, Option.map_none, Sem.run_bind]
  rw [run_sliceAt_slice w t _ _ _ _ hu, run_slice_h w t ad l.length c hu k' hi b2 hcap, hel, run_sizeOf' h'.ti]
  rfl
theorem MOp.sliceL [h : TyI P t i (.slice e)] [h' : TyI P e j u] (hx : Ev s g x (.p (V.list enc l))) (hy : Ev s g y (.p (.x (.int k lo)))) (hsz : ∀ q, (enc q).length = j.size) (hb : g = true → 0 ≤ lo ∧ lo ≤ l.length) :
    MOp P s ⟨dst, .slice t x (some y) none none, ty, pos, af, gd⟩ g (.p (V.list enc (l.drop lo.toNat))) := by
  refine ⟨fun β S a w ho he hg K Q hK => ?_⟩
  obtain ⟨b1, b3⟩ := hb hg
  have r1 := hx.rep (l := (Op.slice t x (some y) none none).operands) (by simp [Op.operands]) he hg
  have r2 : a.eval y = .int k lo := hy.rep (l := (Op.slice t x (some y) none none).operands) (by simp [Op.operands]) he hg
  obtain ⟨ad, c, us, h1, h2, h3⟩ := id r1
  rw [h1] at r1
  have hu : P.underlying t = some (.slice (P.elem t)) := by simp [Program.elem, h.ut]
  have hel : P.elem t = e := by simp [Program.elem, h.ut]
  have hr := V.Rep.sliced (lo := lo.toNat) (hi := l.length) hsz r1 (by omega) (Nat.le_refl _)
  rw [List.take_length] at hr
  refine wp_value (v := Go.sliced ad lo.toNat l.length c j.size) (w' := w) ?_ (hK _ w (Ext.refl w) hr)
  simp only [execOp, h1, r2, Option.map_some, Option.map_none, Sem.run_bind]
  rw [run_sliceAt_slice w t _ _ _ _ hu]
  have : (lo.toNat : Int) = lo := Int.toNat_of_nonneg b1
  simp [Instr.slice, run_underlying hu, Instr.sliceBounds, run_sliceBound, Go.sliced, b1, b3, hel, run_sizeOf' h'.ti]
end
end
end Go.Sy
set_option linter.unusedSimpArgs false
set_option linter.unusedVariables false
namespace Go.Sy
open Go.RowKit

/-- v is a row of n elements that hold xs; where it is -/
def RowAt (w : World) (e : TypeId) (sz : Nat) (pl : Place) (v : Value) (n : Nat) (xs : List Value) : Prop :=
  xs.length = n * sz ∧ ((pl = none ∧ n = 0 ∧ ∃ a, v = .slice a 0 0) ∨ ∃ b c cur, pl = some (b, c) ∧ v = .slice (some ⟨b, 0, none⟩) n c ∧ w.heap[b]? = some (.cells cur e (0, 0)) ∧ cur.size = c * sz ∧ c ≤ maxLen ∧ xs <+: cur.toList)
theorem prefix_get {xs ys : List Value} (h : xs <+: ys) {j : Nat} {u : Value} (hj : xs[j]? = some u) : ys[j]? = some u := by
  obtain ⟨tl, rfl⟩ := h
  rw [List.getElem?_append_left (List.getElem?_eq_some_iff.1 hj).1]; exact hj
theorem RowAt.new {w : World} {e : TypeId} {sz n c : Nat} {xs : List Value} {cur : Array Value} (hl : xs.length = n * sz) (hs : cur.size = c * sz) (hc : c ≤ maxLen) (hp : xs <+: cur.toList) : RowAt (w.alloc (.cells cur e)) e sz (some (w.heap.size, c)) (.slice (some ⟨w.heap.size, 0, none⟩) n c) n xs :=
  ⟨hl, .inr ⟨_, c, cur, rfl, rfl, heap_alloc_new w _, hs, hc, hp⟩⟩
section
variable {P : Program} {w : World} {t e : TypeId} {i j : TypeInfo} {u : TypeDesc} {z : Value}
theorem new_cur {sz n cap : Nat} {xs : List Value} {zs : Array Value} (hl : xs.length = n * sz) (hz : zs.size = sz) (h : n ≤ cap) : (xs.toArray ++ Builtin.zeroCells zs (cap - n)).size = cap * sz ∧ xs <+: (xs.toArray ++ Builtin.zeroCells zs (cap - n)).toList := by
  refine ⟨?_, ⟨(Builtin.zeroCells zs (cap - n)).toList, by simp⟩⟩
  rw [Array.size_append, List.size_toArray, size_zeroCells, hl, hz, ← Nat.add_mul]
  congr 1
  omega
/-- append onto a row -/
theorem run_appendRow [h : TyI P t i (.slice e)] [h' : TyI P e j u] (hz : j.zero = some z) (hzs : z.cells.size = j.size) (hpos : 0 < j.size) (hby : j.bytes ≤ 1000) (ty : TypeId) {pl : Place} {v : Value} {n : Nat} {xs : List Value} (hr : RowAt w e j.size pl v n xs)
    {ad : Option Addr} {m c : Nat} {news : List Value} (hl : news.length = m * j.size) (hnews : ∀ q y, news[q]? = some y → ∃ b o, ad = some ⟨b, o, none⟩ ∧ w.cell? ⟨b, o + q, none⟩ = some y) (h1 : ∀ y ∈ news, y.oneCell' = true) (hnm : n + m ≤ 1000000000) (hmc : m ≤ c) :
    ∃ v' w' pl', (Builtin.append_ #[t, t] ty #[v, .slice ad m c]).run P w = .ok v' w' ∧ RowAt w' e j.size pl' v' (n + m) (xs ++ news) ∧ w'.os = w.os ∧ w'.tape = w.tape ∧ w'.output = w.output ∧ w.heap.size ≤ w'.heap.size ∧
      (∀ k, k < w.heap.size → (∀ b q, pl = some (b, q) → k ≠ b) → w'.heap[k]? = w.heap[k]?) ∧ (∀ b' q', pl' = some (b', q') → w.heap.size ≤ b' ∨ ∃ q, pl = some (b', q)) := by
  have hbytes : (n + m) * j.bytes ≤ 140737488355328 := Nat.le_trans (Nat.mul_le_mul hnm hby) (by decide)
  have hnmM : n + m ≤ maxLen := by simp only [maxLen]; omega
  have hlen : (xs ++ news).length = (n + m) * j.size := by rw [List.length_append, hr.1, hl, Nat.add_mul]
  rcases Nat.eq_zero_or_pos m with rfl | hm
  · have : news = [] := List.eq_nil_of_length_eq_zero (by simpa using hl)
    subst this
    refine ⟨v, w, pl, ?_, by simpa using hr, rfl, rfl, rfl, Nat.le_refl _, fun _ _ _ => rfl, fun b' q' hp => .inr ⟨q', hp⟩⟩
    rcases hr.2 with ⟨_, rfl, a, rfl⟩ | ⟨b, cc, cur, _, rfl, h3, h4, h5, h6⟩
    · cases ad <;> simp [Builtin.append_, run_underlying h.ut, sizeOf, typeInfo, h'.ti, Builtin.lenOf, Builtin.firstCells, loadCells, loadCellsFrom, storeCells] <;> cases a <;> simp [storeCells]
    · have hncc : n ≤ cc := by
        have := h6.length_le
        rw [hr.1] at this
        simp only [Array.length_toList] at this
        rw [h4] at this
        exact Nat.le_of_mul_le_mul_right this hpos
      cases ad <;> simp [Builtin.append_, run_underlying h.ut, sizeOf, typeInfo, h'.ti, Builtin.lenOf, Builtin.firstCells, loadCells, loadCellsFrom, storeCells, hncc]
  · have hne : ∃ y, news[0]? = some y := by
      have : 0 < news.length := by rw [hl]; exact Nat.mul_pos hm hpos
      exact ⟨_, List.getElem?_eq_getElem this⟩
    obtain ⟨y0, hy0⟩ := hne
    obtain ⟨b0, o0, rfl, _⟩ := hnews 0 y0 hy0
    have hn' : ∀ q y, news[q]? = some y → w.cell? ((⟨b0, o0, none⟩ : Addr).add q) = some y := by
      intro q y hq
      obtain ⟨b, o, hbo, hc⟩ := hnews q y hq
      injection hbo with hbo
      injection hbo with e1 e2
      subst e1; subst e2
      rw [add_lit]; exact hc
    rcases hr.2 with ⟨rfl, rfl, a, rfl⟩ | ⟨b, cc, cur, rfl, rfl, h3, h4, h5, h6⟩
    · have hxs : xs = [] := List.eq_nil_of_length_eq_zero (by simpa using hr.1)
      subst hxs
      cases a with
      | none =>
        have hg := grownCap_ge w m 0 e
        have hcm : grownCap w m 0 e ≤ maxLen := grownCap_le_maxLen w m 0 e (by omega)
        obtain ⟨k1, k2⟩ := new_cur (zs := z.cells) hl hzs hg
        refine ⟨_, _, some (w.heap.size, grownCap w m 0 e), run_append_nil w t ty e j z h.ut h'.ti hz ⟨b0, o0, none⟩ m c news hl hn' hm (by omega) (by simp only [Nat.zero_add] at hbytes; omega), ?_, rfl, rfl, rfl, by simp, fun k hk _ => Below.heap_alloc _ _ _ (by simpa using hk), fun b' q' hp => .inl ?_⟩
        · have := RowAt.new (w := w.drew) (e := e) hl k1 hcm k2
          simpa using this
        · simp at hp
          omega
      | some a =>
        have hg := grownCap_ge w (0 + m) 0 e
        have hcm : grownCap w (0 + m) 0 e ≤ maxLen := grownCap_le_maxLen w (0 + m) 0 e (by omega)
        obtain ⟨k1, k2⟩ := new_cur (zs := z.cells) (n := 0 + m) (by simpa using hl) hzs hg
        have hrun := run_append_grow (P := P) w t ty e j z h.ut h'.ti hz a 0 0 [] (by simp) (by simp) ⟨b0, o0, none⟩ m c news hl hn' (by omega) (by omega) (growslice_fits (by omega) hbytes)
        refine ⟨_, _, some (w.heap.size, grownCap w (0 + m) 0 e), hrun, ?_, rfl, rfl, rfl, by simp, fun k hk _ => Below.heap_alloc _ _ _ (by simpa using hk), fun b' q' hp => .inl ?_⟩
        · have := RowAt.new (w := w.drew) (e := e) (n := 0 + m) (by simpa using hl) k1 hcm k2
          simpa using this
        · simp at hp
          omega
    · have hxl := hr.1
      have hxc : xs.length ≤ cur.size := by have := h6.length_le; simpa using this
      by_cases hroom : n + m ≤ cc
      · have hfit : n * j.size + news.length ≤ cur.size := by rw [hl, h4, ← Nat.add_mul]; exact Nat.mul_le_mul_right _ hroom
        have hrun := run_append_room (P := P) w t ty e j h.ut h'.ti b n cc cur h3 ⟨b0, o0, none⟩ m c news hl hn' h1 hroom hfit
        refine ⟨_, _, some (b, cc), hrun, ⟨hlen, .inr ⟨b, cc, _, rfl, rfl, setRow_heap w b cur _ _ _ h3, ?_, h5, ?_⟩⟩, rfl, rfl, rfl, by simp [World.setRow], fun k _ hk => setRow_other w b k _ (hk b cc rfl), fun b' q' hp => .inr ⟨cc, by simp at hp; rw [hp.1]⟩⟩
        · simp
          omega
        · obtain ⟨tl, htl⟩ := h6
          have e1 : cur.toList.take (n * j.size) = xs := by rw [← htl, ← hxl, List.take_left]
          rw [e1]
          exact ⟨cur.toList.drop (n * j.size + news.length), by simp⟩
      · have hg := grownCap_ge w (n + m) cc e
        have hcm : grownCap w (n + m) cc e ≤ maxLen := grownCap_le_maxLen w (n + m) cc e hnmM
        have holds : ∀ q y, xs[q]? = some y → w.cell? ((⟨b, 0, none⟩ : Addr).add q) = some y := by
          intro q y hq
          rw [add_lit]
          have := prefix_get h6 hq
          simp [World.cell?, h3]
          simpa using this
        obtain ⟨k1, k2⟩ := new_cur (zs := z.cells) hlen hzs hg
        have hrun := run_append_grow (P := P) w t ty e j z h.ut h'.ti hz ⟨b, 0, none⟩ n cc xs hxl holds ⟨b0, o0, none⟩ m c news hl hn' (by omega) (by simp only [maxLen] at hnmM; omega) (growslice_fits (by omega) hbytes)
        refine ⟨_, _, some (w.heap.size, grownCap w (n + m) cc e), hrun, ?_, rfl, rfl, rfl, by simp, fun k hk _ => Below.heap_alloc _ _ _ (by simpa using hk), fun b' q' hp => .inl ?_⟩
        · have := RowAt.new (w := w.drew) (e := e) hlen k1 hcm k2
          simpa using this
        · simp at hp
          omega
end
end Go.Sy
