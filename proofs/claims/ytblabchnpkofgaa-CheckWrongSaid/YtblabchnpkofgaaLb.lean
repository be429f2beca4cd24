/- Words and small laws that the walks of this claim share: what cells read as, results in new memory, append and make on rows of the call's own. No program in sight. -/
import Derived.WalkKit
import Derived.WalkSpells
import Derived.WalkLawsBesides
import Derived.Laws.AppendOwnNone
import Derived.Deep.AppendLies
import Derived.Deep.DeepCutAuto
import Derived.Deep.QuietTactic
import Derived.BigQuiet
import Derived.Lib.Hide
namespace Go.Sy
open Go.RowKit

abbrev Ext (w w' : World) : Prop := Below w.heap.size w w'
/-- any block -/
def Any (_ : Nat) : Prop := True

theorem Ext.refl (w : World) : Ext w w := Below.refl _ w
theorem Ext.trans {a b c : World} (h : Ext a b) (k : Ext b c) : Ext a c := Below.trans h (Below.mono k h.size)
theorem Ext.cell {w w' : World} (h : Ext w w') {p : Addr} {v : Value} (k : w.cell? p = some v) : w'.cell? p = some v :=
  (Below.cell h (World.block_lt_of_cell? _ _ k)).trans k
theorem Ext.heap {w w' : World} (h : Ext w w') {g : Nat} {o : Obj} (k : w.heap[g]? = some o) : w'.heap[g]? = some o :=
  (h.block g (Array.getElem?_eq_some_iff.1 k).1).trans k
theorem Ext.alloc {a w : World} (h : Ext a w) (o : Obj) : Ext a (w.alloc o) := Below.alloc h h.size o
theorem Ext.drew {a w : World} (h : Ext a w) : Ext a w.drew := Below.drew h
theorem Ext.drewN {a w : World} (h : Ext a w) (n : Nat) : Ext a (w.drewN n) := ⟨h.os, h.tape, h.output, h.size, h.block⟩
theorem Ext.grown {a w w' : World} {row : Option Nat} (h : Ext a w) (hg : w.grownBy w' row) (hr : ∀ k, row = some k → a.heap.size ≤ k) : Ext a w' :=
  Below.grown h hg h.size hr

/-- A call comes back with a value of which R holds; what was there is there still. -/
def Ret (w : World) (R : World → Value → Prop) : Ending → World → Prop := fun e w' => ∃ v, e = .returned v ∧ R w' v ∧ Ext w w'

theorem add_lit {b o j : Nat} : (⟨b, o, none⟩ : Addr).add j = ⟨b, o + j, none⟩ := by
  unfold Addr.add; split <;> simp_all

/-! ### cells -/
/-- The cells from a on hold cs; their block is one of S. -/
def Cells (S : Nat → Prop) (w : World) (a : Option Addr) (cs : List Value) : Prop :=
  ∀ j u, cs[j]? = some u → ∃ b o, a = some ⟨b, o, none⟩ ∧ w.cell? ⟨b, o + j, none⟩ = some u ∧ S b

/-- v is a slice of n elements, whose cells hold cs. -/
def Sl (S : Nat → Prop) (w : World) (v : Value) (n : Nat) (cs : List Value) : Prop :=
  ∃ a c, v = .slice a n c ∧ n ≤ c ∧ c ≤ maxLen ∧ Cells S w a cs

section
variable {S S' : Nat → Prop} {w w' : World} {a : Option Addr} {cs : List Value} {v : Value} {n : Nat}
theorem Cells.frame (h : Cells S w a cs) (e : ∀ b, S b → b < w.heap.size → w'.heap[b]? = w.heap[b]?) : Cells S w' a cs := by
  intro j u hj
  obtain ⟨b, o, ha, hc, hs⟩ := h j u hj
  exact ⟨b, o, ha, (World.cell?_of_block (w := w) (a := ⟨b, o + j, none⟩) (e b hs (World.block_lt_of_cell? _ _ hc))).trans hc, hs⟩
theorem Cells.mono (h : Cells S w a cs) (e : ∀ b, S b → b < w.heap.size → S' b) : Cells S' w a cs := by
  intro j u hj
  obtain ⟨b, o, ha, hc, hs⟩ := h j u hj
  exact ⟨b, o, ha, hc, e b hs (World.block_lt_of_cell? _ _ hc)⟩
theorem Sl.frame (h : Sl S w v n cs) (e : ∀ b, S b → b < w.heap.size → w'.heap[b]? = w.heap[b]?) : Sl S w' v n cs := by
  obtain ⟨a, c, h1, h2, h3, h4⟩ := h
  exact ⟨a, c, h1, h2, h3, h4.frame e⟩
theorem Sl.mono (h : Sl S w v n cs) (e : ∀ b, S b → b < w.heap.size → S' b) : Sl S' w v n cs := by
  obtain ⟨a, c, h1, h2, h3, h4⟩ := h
  exact ⟨a, c, h1, h2, h3, h4.mono e⟩
theorem Sl.ext (h : Sl S w v n cs) (e : Ext w w') : Sl S w' v n cs := h.frame fun b _ hb => e.block b hb
theorem Cells.nil : Cells S w a [] := by intro j u h; simp at h
theorem Sl.nil : Sl S w (.slice none 0 0) 0 [] := ⟨none, 0, rfl, Nat.le_refl _, by simp [maxLen], Cells.nil⟩
theorem Cells.at_ (h : Cells S w a cs) (hn : 0 < cs.length) :
    ∃ b o, a = some ⟨b, o, none⟩ ∧ S b ∧ ∀ j u, cs[j]? = some u → w.cell? ⟨b, o + j, none⟩ = some u := by
  obtain ⟨b, o, ha, _, hs⟩ := h 0 cs[0] (by simp [List.getElem?_eq_getElem hn])
  refine ⟨b, o, ha, hs, fun j u hj => ?_⟩
  obtain ⟨b', o', ha', hc, _⟩ := h j u hj
  rw [ha] at ha'
  injection ha' with ha'
  injection ha' with h1 h2
  subst h1; subst h2
  exact hc
theorem Cells.drop {b o : Nat} (h : Cells S w (some ⟨b, o, none⟩) cs) (k : Nat) : Cells S w (some ⟨b, o + k, none⟩) (cs.drop k) := by
  intro j u hj
  rw [List.getElem?_drop] at hj
  obtain ⟨b', o', ha, hc, hs⟩ := h _ _ hj
  injection ha with ha
  injection ha with h1 h2
  subst h1; subst h2
  exact ⟨b, o + k, rfl, by rw [Nat.add_assoc]; exact hc, hs⟩
theorem Cells.take (h : Cells S w a cs) (k : Nat) : Cells S w a (cs.take k) := by
  intro j u hj
  refine h j u ?_
  rw [List.getElem?_take] at hj
  split at hj
  · exact hj
  · cases hj
theorem Cells.ofBlock {g : Nat} {cur : Array Value} {t : TypeId} {fr : Nat × Nat} (h : w.heap[g]? = some (.cells cur t fr)) (hs : S g) : Cells S w (some ⟨g, 0, none⟩) cur.toList := by
  intro j u hj
  refine ⟨g, 0, rfl, ?_, hs⟩
  have := World.news_of_block h j u hj
  rwa [add_lit] at this
end

/-! ### kinds of data: how a datum lies in cells -/
structure Kd (α : Type) where
  sz : Nat
  K : (Nat → Prop) → World → α → List Value → Prop
  len : ∀ {S w x cs}, K S w x cs → cs.length = sz
  one : ∀ {S w x cs}, K S w x cs → ∀ u ∈ cs, u.oneCell' = true
  frame : ∀ {S w w' x cs}, K S w x cs → (∀ b, S b → b < w.heap.size → w'.heap[b]? = w.heap[b]?) → K S w' x cs
  mono : ∀ {S S' w x cs}, K S w x cs → (∀ b, S b → b < w.heap.size → S' b) → K S' w x cs

namespace Kd
variable {α β : Type}
/-- data that lie in their cells alone -/
def flat (sz : Nat) (enc : α → List Value) (h : ∀ x, (enc x).length = sz) (h1 : ∀ x, ∀ u ∈ enc x, u.oneCell' = true) : Kd α where
  sz := sz
  K := fun _ _ x cs => cs = enc x
  len := by rintro _ _ x _ rfl; exact h x
  one := by rintro _ _ x _ rfl; exact h1 x
  frame := fun h _ => h
  mono := fun h _ => h
def int (k : IntKind) : Kd Int := flat 1 (fun n => [.int k n]) (fun _ => rfl) (fun _ u hu => by simp at hu; subst hu; rfl)
def bool : Kd Bool := flat 1 (fun n => [.bool n]) (fun _ => rfl) (fun _ u hu => by simp at hu; subst hu; rfl)
def byte : Kd UInt8 := flat 1 (fun n => [.int .u8 (n.toNat : Int)]) (fun _ => rfl) (fun _ u hu => by simp at hu; subst hu; rfl)

/-- many, one behind the other -/
def many (d : Kd α) (S : Nat → Prop) (w : World) : List α → List Value → Prop
  | [], cs => cs = []
  | x :: xs, cs => ∃ c cs', d.K S w x c ∧ many d S w xs cs' ∧ cs = c ++ cs'
theorem many_len {d : Kd α} {S : Nat → Prop} {w : World} : ∀ {l : List α} {cs : List Value}, d.many S w l cs → cs.length = l.length * d.sz
  | [], cs, h => by simp only [many] at h; subst h; simp
  | x :: xs, cs, h => by
    obtain ⟨c, cs', h1, h2, rfl⟩ := h
    simp [d.len h1, many_len h2, Nat.add_mul]; omega
theorem many_one {d : Kd α} {S : Nat → Prop} {w : World} : ∀ {l : List α} {cs : List Value}, d.many S w l cs → ∀ u ∈ cs, u.oneCell' = true
  | [], cs, h => by simp only [many] at h; subst h; simp
  | x :: xs, cs, h => by
    obtain ⟨c, cs', h1, h2, rfl⟩ := h
    intro u hu
    rcases List.mem_append.1 hu with hu | hu
    · exact d.one h1 u hu
    · exact many_one h2 u hu
theorem many_frame {d : Kd α} {S : Nat → Prop} {w w' : World} (e : ∀ b, S b → b < w.heap.size → w'.heap[b]? = w.heap[b]?) : ∀ {l : List α} {cs : List Value}, d.many S w l cs → d.many S w' l cs
  | [], _, h => h
  | _ :: _, _, h => by
    obtain ⟨c, cs', h1, h2, rfl⟩ := h
    exact ⟨c, cs', d.frame h1 e, many_frame e h2, rfl⟩
theorem many_mono {d : Kd α} {S S' : Nat → Prop} {w : World} (e : ∀ b, S b → b < w.heap.size → S' b) : ∀ {l : List α} {cs : List Value}, d.many S w l cs → d.many S' w l cs
  | [], _, h => h
  | _ :: _, _, h => by
    obtain ⟨c, cs', h1, h2, rfl⟩ := h
    exact ⟨c, cs', d.mono h1 e, many_mono e h2, rfl⟩
theorem many_app {d : Kd α} {S : Nat → Prop} {w : World} : ∀ {l m : List α} {cs ds : List Value}, d.many S w l cs → d.many S w m ds → d.many S w (l ++ m) (cs ++ ds)
  | [], _, cs, ds, h, k => by simp only [many] at h; subst h; exact k
  | x :: xs, m, cs, ds, h, k => by
    obtain ⟨c, cs', h1, h2, rfl⟩ := h
    exact ⟨c, cs' ++ ds, h1, many_app h2 k, by simp⟩
theorem many_one1 {d : Kd α} {S : Nat → Prop} {w : World} {x : α} {c : List Value} (h : d.K S w x c) : d.many S w [x] c := ⟨c, [], h, rfl, by simp⟩
/-- the i-th one -/
theorem many_get {d : Kd α} {S : Nat → Prop} {w : World} : ∀ {l : List α} {cs : List Value} {i : Nat} {x : α}, d.many S w l cs → l[i]? = some x →
    d.K S w x ((cs.drop (i * d.sz)).take d.sz)
  | [], _, _, _, _, h => by simp at h
  | y :: ys, cs, 0, x, h, hi => by
    obtain ⟨c, cs', h1, h2, rfl⟩ := h
    simp at hi; subst hi
    have hl := d.len h1
    simp only [Nat.zero_mul, List.drop_zero]
    rw [← hl, List.take_left]
    exact h1
  | y :: ys, cs, i + 1, x, h, hi => by
    obtain ⟨c, cs', h1, h2, rfl⟩ := h
    have hl := d.len h1
    simp only [List.getElem?_cons_succ] at hi
    have := many_get h2 hi
    rw [show (i + 1) * d.sz = c.length + i * d.sz by rw [hl, Nat.add_mul]; omega]
    rw [List.drop_append, List.drop_of_length_le (by omega)]
    simpa using this
theorem many_drop {d : Kd α} {S : Nat → Prop} {w : World} : ∀ {l : List α} {cs : List Value} (i : Nat), d.many S w l cs → d.many S w (l.drop i) (cs.drop (i * d.sz))
  | l, cs, 0, h => by simpa using h
  | [], cs, i + 1, h => by simp only [many] at h; subst h; simp [many]
  | y :: ys, cs, i + 1, h => by
    obtain ⟨c, cs', h1, h2, rfl⟩ := h
    have hl := d.len h1
    simp only [List.drop_succ_cons]
    rw [show (i + 1) * d.sz = c.length + i * d.sz by rw [hl, Nat.add_mul]; omega, List.drop_append, List.drop_of_length_le (l := c) (by omega)]
    simpa using many_drop i h2
theorem many_take {d : Kd α} {S : Nat → Prop} {w : World} : ∀ {l : List α} {cs : List Value} (i : Nat), d.many S w l cs → d.many S w (l.take i) (cs.take (i * d.sz))
  | l, cs, 0, h => by simp [many]
  | [], cs, i + 1, h => by simp only [many] at h; subst h; simp [many]
  | y :: ys, cs, i + 1, h => by
    obtain ⟨c, cs', h1, h2, rfl⟩ := h
    have hl := d.len h1
    rw [show (i + 1) * d.sz = c.length + i * d.sz by rw [hl, Nat.add_mul]; omega, List.take_append]
    have h3 := many_take i h2
    refine ⟨c, cs'.take (i * d.sz), h1, h3, ?_⟩
    rw [List.take_of_length_le (by omega)]
    congr 2
    omega

/-- v is a slice of these. -/
def L (d : Kd α) (S : Nat → Prop) (w : World) (v : Value) (l : List α) : Prop := ∃ cs, d.many S w l cs ∧ Sl S w v l.length cs
section
variable {d : Kd α} {S S' : Nat → Prop} {w w' : World} {v : Value} {l : List α}
theorem L.frame (h : d.L S w v l) (e : ∀ b, S b → b < w.heap.size → w'.heap[b]? = w.heap[b]?) : d.L S w' v l := by
  obtain ⟨cs, h1, h2⟩ := h
  exact ⟨cs, many_frame e h1, h2.frame e⟩
theorem L.mono (h : d.L S w v l) (e : ∀ b, S b → b < w.heap.size → S' b) : d.L S' w v l := by
  obtain ⟨cs, h1, h2⟩ := h
  exact ⟨cs, many_mono e h1, h2.mono e⟩
theorem L.ext (h : d.L S w v l) (e : Ext w w') : d.L S w' v l := h.frame fun b _ hb => e.block b hb
theorem L.any (h : d.L S w v l) : d.L Any w v l := h.mono fun _ _ _ => trivial
theorem L.nil : d.L S w (.slice none 0 0) [] := ⟨[], rfl, Sl.nil⟩
theorem L.form (h : d.L S w v l) : ∃ a c, v = .slice a l.length c ∧ l.length ≤ c ∧ c ≤ maxLen := by
  obtain ⟨_, _, a, c, h1, h2, h3, _⟩ := h
  exact ⟨a, c, h1, h2, h3⟩
theorem L.none_ {n c : Nat} (h : d.L S w (.slice Option.none n c) l) (hz : 0 < d.sz) : l = [] := by
  obtain ⟨cs, h1, a, c', e, _, _, h5⟩ := h
  injection e with e1 e2
  subst e1
  cases l with
  | nil => rfl
  | cons y ys =>
    have hl := many_len h1
    have hp : 0 < cs.length := by rw [hl]; exact Nat.mul_pos (Nat.succ_pos _) hz
    obtain ⟨b, o, ha, _⟩ := h5.at_ hp
    cases ha
/-- laid open: where it lies, and each element's cells -/
theorem L.open_ (h : d.L S w v l) (hn : 0 < l.length) (hz : 0 < d.sz) : ∃ b o c, v = .slice (some ⟨b, o, none⟩) l.length c ∧ l.length ≤ c ∧ c ≤ maxLen ∧ S b ∧
    ∀ i x, l[i]? = some x → ∃ cs, d.K S w x cs ∧ ∀ j u, cs[j]? = some u → w.cell? ⟨b, o + i * d.sz + j, none⟩ = some u := by
  obtain ⟨cs, h1, a, c, rfl, h3, h4, h5⟩ := h
  have hl := many_len h1
  obtain ⟨b, o, rfl, hs, hc⟩ := h5.at_ (by rw [hl]; exact Nat.mul_pos hn hz)
  refine ⟨b, o, c, rfl, h3, h4, hs, fun i x hi => ⟨_, many_get h1 hi, fun j u hj => ?_⟩⟩
  rw [List.getElem?_take] at hj
  split at hj
  · rw [List.getElem?_drop] at hj
    rw [Nat.add_assoc]
    exact hc _ _ hj
  · cases hj
/-- s[lo:hi] -/
theorem L.cut (h : d.L S w v l) {a : Option Addr} {c : Nat} (hv : v = .slice a l.length c) {lo hi : Nat} (h1 : lo ≤ hi) (h2 : hi ≤ l.length) (a' : Option Addr)
    (ha : lo < hi → ∀ b o, a = some ⟨b, o, none⟩ → a' = some ⟨b, o + lo * d.sz, none⟩) : d.L S w (.slice a' (hi - lo) (c - lo)) ((l.take hi).drop lo) := by
  obtain ⟨cs, k1, a0, c0, e, k3, k4, k5⟩ := h
  rw [hv] at e
  injection e with e1 e2 e3
  subst e1; subst e3
  have hlen : ((l.take hi).drop lo).length = hi - lo := by simp; omega
  refine ⟨(cs.take (hi * d.sz)).drop (lo * d.sz), many_drop lo (many_take hi k1), a', c - lo, by rw [hlen], by rw [hlen]; omega, by omega, ?_⟩
  intro j u hj
  have hj' := hj
  rw [List.getElem?_drop, List.getElem?_take] at hj
  split at hj
  case isFalse => cases hj
  case isTrue hlt =>
    obtain ⟨b, o, rfl, hc, hs⟩ := k5 _ _ hj
    have hlh : lo < hi := by
      rcases Nat.lt_or_ge lo hi with h | h
      · exact h
      · have : hi * d.sz ≤ lo * d.sz := Nat.mul_le_mul_right _ h
        omega
    exact ⟨b, _, ha hlh b o rfl, by rw [Nat.add_assoc]; exact hc, hs⟩
end

/-- a slice as a datum of one cell -/
def list (d : Kd α) : Kd (List α) where
  sz := 1
  K := fun S w l cs => ∃ v, cs = [v] ∧ d.L S w v l
  len := by rintro _ _ _ _ ⟨v, rfl, _⟩; rfl
  one := by
    rintro _ _ _ _ ⟨v, rfl, h⟩ u hu
    simp at hu; subst hu
    obtain ⟨a, c, rfl, _⟩ := h.form
    rfl
  frame := by rintro _ _ _ _ _ ⟨v, rfl, h⟩ e; exact ⟨v, rfl, h.frame e⟩
  mono := by rintro _ _ _ _ _ ⟨v, rfl, h⟩ e; exact ⟨v, rfl, h.mono e⟩
/-- two, one behind the other -/
def pair (a : Kd α) (b : Kd β) : Kd (α × β) where
  sz := a.sz + b.sz
  K := fun S w x cs => ∃ c d, a.K S w x.1 c ∧ b.K S w x.2 d ∧ cs = c ++ d
  len := by rintro _ _ _ _ ⟨c, d, h1, h2, rfl⟩; simp [a.len h1, b.len h2]
  one := by
    rintro _ _ _ _ ⟨c, d, h1, h2, rfl⟩ u hu
    rcases List.mem_append.1 hu with hu | hu
    · exact a.one h1 u hu
    · exact b.one h2 u hu
  frame := by rintro _ _ _ _ _ ⟨c, d, h1, h2, rfl⟩ e; exact ⟨c, d, a.frame h1 e, b.frame h2 e, rfl⟩
  mono := by rintro _ _ _ _ _ ⟨c, d, h1, h2, rfl⟩ e; exact ⟨c, d, a.mono h1 e, b.mono h2 e, rfl⟩
/-- the same, of another type -/
def iso (d : Kd α) (f : β → α) : Kd β where
  sz := d.sz
  K := fun S w x cs => d.K S w (f x) cs
  len := d.len
  one := d.one
  frame := d.frame
  mono := d.mono
theorem K_ext {d : Kd α} {S : Nat → Prop} {w w' : World} {x : α} {cs : List Value} (h : d.K S w x cs) (e : Ext w w') : d.K S w' x cs := d.frame h fun b _ hb => e.block b hb
end Kd

/-! ### rows of the call's own -/
/-- A slice type and its elements' type, as the program's table has them. -/
structure ET (P : Program) (t e size bytes : Nat) (z : Value) : Prop where
  ut : P.underlying t = some (.slice e)
  info : (P.info? e).map (fun i => (i.zero, i.size, i.bytes)) = some (some z, size, bytes)
  zs : z.cells.size = size
  pos : 0 < size

/-- v is a row of the call's own (from block B on), and holds these; what they lead to is not the row. -/
def Kd.Own {α : Type} (d : Kd α) (e : Nat) (w : World) (B : Nat) (v : Value) (l : List α) : Prop :=
  ∃ cs, d.many (fun b => some b ≠ v.ownBlock) w l cs ∧ w.ownsRow B e d.sz v l.length cs

section
variable {P : Program} {w w' : World} {t e bytes B : Nat} {z v : Value} {α : Type} {d : Kd α} {l : List α}

theorem Kd.Own.nil : d.Own e w B (.slice none 0 0) [] := ⟨[], rfl, World.ownsRow_nil w B e d.sz⟩
theorem Sl.own {S : Nat → Prop} {size n : Nat} {xs : List Value} (h : w.ownsRow B e size v n xs) (hS : ∀ k, v.ownBlock = some k → S k) : Sl S w v n xs := by
  rcases h.2 with ⟨rfl, rfl⟩ | ⟨g, cap, cur, rfl, _, hg, hn, hc, _, ht⟩
  · refine ⟨none, 0, rfl, Nat.le_refl _, by simp [maxLen], ?_⟩
    have : xs = [] := List.eq_nil_of_length_eq_zero (by simpa using h.1)
    subst this
    exact Cells.nil
  · refine ⟨_, cap, rfl, hn, hc, fun j u hj => ⟨g, 0, rfl, ?_, hS g rfl⟩⟩
    have := h.cells (g := g) rfl j u hj
    rwa [add_lit] at this
theorem Kd.Own.empty (hB : B ≤ w.heap.size) : d.Own e (w.alloc (.cells #[] e)) B (.slice (some ⟨w.heap.size, 0, none⟩) 0 0) [] :=
  ⟨[], rfl, by simpa using World.ownsRow_lit (e := e) (size := d.sz) w #[] 0 hB (by simp [maxLen]) (by simp)⟩
theorem Kd.Own.empty' {g : Nat} (hg : g = w.heap.size) (hB : B ≤ w.heap.size) : d.Own e (w.alloc (.cells #[] e)) B (.slice (some ⟨g, 0, none⟩) 0 0) [] := by
  subst hg; exact Kd.Own.empty hB
/-- read as any slice is -/
theorem Kd.Own.L (h : d.Own e w B v l) : d.L Any w v l := by
  obtain ⟨cs, h1, h2⟩ := h
  exact ⟨cs, d.many_mono (fun _ _ _ => trivial) h1, Sl.own h2 fun _ _ => trivial⟩
/-- what it leads to, kept apart -/
theorem Kd.Own.kept {row : Option Nat} (h : d.Own e w B v l) (hg : w.grownBy w' row) (hne : v.ownBlock = none ∨ v.ownBlock ≠ row)
    (he : ∀ cs, d.many (fun b => some b ≠ v.ownBlock) w l cs → d.many (fun b => some b ≠ v.ownBlock ∧ some b ≠ row) w l cs) : d.Own e w' B v l := by
  obtain ⟨cs, h1, h2⟩ := h
  refine ⟨cs, ?_, h2.kept hg hne⟩
  exact d.many_mono (fun _ hb _ => hb.1) (d.many_frame (fun b hb hlt => hg.block b hlt hb.2) (he cs h1))
theorem Kd.Own.ext (h : d.Own e w B v l) (x : Ext w w') : d.Own e w' B v l :=
  h.kept (row := none) ⟨x.os, x.tape, x.output, x.size, fun k hk _ => x.block k hk⟩ (by cases v.ownBlock <;> simp) (fun cs hc => d.many_mono (fun _ hb _ => ⟨hb, by simp⟩) hc)
theorem Kd.Own.base {B' : Nat} (h : d.Own e w B v l) (hB : B' ≤ B) : d.Own e w B' v l := by
  obtain ⟨cs, h1, h2, h3⟩ := h
  refine ⟨cs, h1, h2, ?_⟩
  rcases h3 with h3 | ⟨g, cap, cur, e1, e2, h3⟩
  · exact .inl h3
  · exact .inr ⟨g, cap, cur, e1, Nat.le_trans hB e2, h3⟩
theorem Kd.Own.lt (h : d.Own e w B v l) : ∀ k, v.ownBlock = some k → B ≤ k ∧ k < w.heap.size := by
  obtain ⟨_, _, h⟩ := h
  exact h.lt

/-- Where an append's row lies: where it lay, or in a new block. -/
theorem run_app {size : Nat} (E : ET P t e size bytes z) {n : Nat} {xs : List Value} (hown : w.ownsRow B e size v n xs) (ty : TypeId)
    (a : Addr) (m c : Nat) (news : List Value) (hl : news.length = m * size) (hnews : ∀ j u, news[j]? = some u → w.cell? (a.add j) = some u) (h1 : ∀ u ∈ news, u.oneCell' = true)
    (h63 : n + m ≤ maxLen) (hbytes : (n + m) * bytes ≤ 140737488355328) (hbase : B ≤ w.heap.size) :
    ∃ v' w', (Builtin.append_ #[t, t] ty #[v, .slice (some a) m c]).run P w = .ok v' w' ∧ w'.ownsRow B e size v' (n + m) (xs ++ news) ∧ w.grownBy w' v.ownBlock ∧
      (v'.ownBlock = v.ownBlock ∨ v'.ownBlock = some w.heap.size) := by
  obtain ⟨i, hi, hz0, hz1, hz2⟩ := info_parts E.info
  obtain ⟨v', w', hr, h2, h3, _⟩ := run_append_own (P := P) w B t ty e i z size bytes E.ut hi hz0 hz1 hz2 E.zs E.pos v n xs hown a m c news hl hnews h1 h63 hbytes hbase
  refine ⟨v', w', hr, h2, h3, ?_⟩
  subst hz1
  subst hz2
  have hsmall : n + m ≤ 9223372036854775807 := by simp only [maxLen] at h63; omega
  rcases hown.2 with ⟨rfl, rfl⟩ | ⟨g, cap, cur, rfl, _, hg, _, _, hcs, _⟩
  · by_cases hm : m = 0
    · subst hm
      left
      rcases h2.2 with ⟨rfl, _⟩ | ⟨g, cap, cur, rfl, _, hg, _⟩
      · rfl
      · have hn : news = [] := List.eq_nil_of_length_eq_zero (by simpa using hl)
        subst hn
        have hr' : (Builtin.append_ #[t, t] ty #[.slice none 0 0, .slice (some a) 0 c]).run P w = .ok (.slice none 0 0) w := by
          simp [Builtin.append_, run_underlying E.ut, sizeOf, typeInfo, hi, Builtin.lenOf, Builtin.firstCells, loadCells, loadCellsFrom]
        rw [hr] at hr'
        injection hr' with e1 _
        injection e1 with e1
        cases e1
    · have hr' := run_append_nil (P := P) w t ty e i z E.ut hi hz0 a m c news hl hnews (by omega) (by omega) (by have hb := hbytes; simp only [Nat.zero_add] at hb; omega)
      rw [hr] at hr'
      injection hr' with e1 _
      right
      rw [e1]; rfl
  · by_cases hroom : n + m ≤ cap
    · have hfit : n * i.size + news.length ≤ cur.size := by rw [hl, hcs, ← Nat.add_mul]; exact Nat.mul_le_mul_right _ hroom
      have hr' := run_append_room (P := P) w t ty e i E.ut hi g n cap cur hg a m c news hl hnews h1 hroom hfit
      rw [hr] at hr'
      injection hr' with e1 _
      left
      rw [e1]; rfl
    · have holds : ∀ j u, xs[j]? = some u → w.cell? ((⟨g, 0, none⟩ : Addr).add j) = some u := hown.cells (g := g) rfl
      have hr' := run_append_grow (P := P) w t ty e i z E.ut hi hz0 ⟨g, 0, none⟩ n cap xs hown.1 holds a m c news hl hnews (by omega) (by omega) (growslice_fits (by omega) hbytes)
      rw [hr] at hr'
      injection hr' with e1 _
      right
      rw [e1]; rfl

/-- append onto a row of the call's own, from whatever slice's cells. -/
theorem wp_app (E : ET P t e d.sz bytes z) {o : Oper} {a : Act} {K : Act → World → Prop} {Q : Exit → Act → World → Prop} {s x : Operand}
    (ho : o.op = .call { callee := .builtin .append, args := #[s, x], argTypes := #[t, t] })
    (hs : a.eval s = v) (hown : d.Own e w B v l)
    {vx : Value} {ms : List α} {news : List Value} (hx : a.eval x = vx) (hsrc : Sl Any w vx ms.length news) (hne : d.many (fun b => some b ≠ v.ownBlock) w ms news)
    (hb : l.length + ms.length ≤ 1000000000) (hb2 : bytes ≤ 1000) (hbase : B ≤ w.heap.size)
    (h : ∀ v' w', d.Own e w' B v' (l ++ ms) → w.grownBy w' v.ownBlock → K (a.put o.dst v') w') : o.wp P a w K Q := by
  obtain ⟨ad, c, rfl, h2, h3, h4⟩ := hsrc
  obtain ⟨cs, hm, hown⟩ := hown
  have hl := Kd.many_len hne
  have hbb : (l.length + ms.length) * bytes ≤ 140737488355328 := by
    have := Nat.mul_le_mul hb hb2
    omega
  cases ad with
  | some ad =>
    obtain ⟨v', w', hr, a1, a2, a3⟩ := run_app (P := P) E hown o.type ad ms.length c news hl (fun j u hj => by
      obtain ⟨b, o, ha, hc, _⟩ := h4 j u hj
      injection ha with ha
      subst ha
      rw [add_lit]; exact hc) (Kd.many_one hne) (by simp only [maxLen]; omega) hbb hbase
    unfold Oper.wp execOp
    simp only [ho, resolve, invoke, builtin, Sem.run_bind, Sem.run_pure, Result.andThen_ok, List.map_toArray, List.map_cons, List.map_nil, hs, hx, hr]
    refine h v' w' ⟨cs ++ news, ?_, by simpa using a1⟩ a2
    have hmm := Kd.many_app hm hne
    rcases a3 with a3 | a3
    · rw [a3]; exact Kd.many_frame (fun b hb hlt => a2.block b hlt hb) hmm
    · have hmm2 := Kd.many_mono (S' := fun b => some b ≠ v.ownBlock ∧ b < w.heap.size) (fun b hb hlt => ⟨hb, hlt⟩) hmm
      have hfr2 := Kd.many_frame (w' := w') (fun b hb hlt => a2.block b hlt hb.1) hmm2
      refine Kd.many_mono (fun b hb _ => ?_) hfr2
      rw [a3]
      intro e
      injection e with e
      omega
  | none =>
    have hn : news = [] := by
      cases news with
      | nil => rfl
      | cons y ys => obtain ⟨b, o, ha, _⟩ := h4 0 y rfl; cases ha
    subst hn
    have hm0 : ms.length = 0 := by
      have hp := E.pos
      simp only [List.length_nil] at hl
      rcases Nat.mul_eq_zero.1 hl.symm with h | h <;> omega
    have hm1 : ms = [] := List.eq_nil_of_length_eq_zero hm0
    subst hm1
    obtain ⟨i, hi, hz0, hz1, hz2⟩ := info_parts E.info
    have hrun : (Builtin.append_ #[t, t] o.type #[v, .slice none 0 c]).run P w = .ok v w := by
      have hs' := E.ut
      rcases hown.2 with ⟨rfl, hl0⟩ | ⟨g, cap, cur, rfl, _, _, hnc, _⟩
      · simp [Builtin.append_, run_underlying hs', sizeOf, typeInfo, hi, Builtin.lenOf, Builtin.firstCells]
      · simp [Builtin.append_, run_underlying hs', sizeOf, typeInfo, hi, Builtin.lenOf, Builtin.firstCells, hnc, storeCells]
    unfold Oper.wp
    simp [execOp, ho, resolve, invoke, builtin, hs, hx, hrun, Result.andThen]
    exact h v w (by simpa using ⟨cs, hm, hown⟩) ⟨rfl, rfl, rfl, Nat.le_refl _, fun _ _ _ => rfl⟩

/-- data that lie in their cells alone -/
def Kd.Flat (d : Kd α) : Prop := ∀ S S' w w' x cs, d.K S w x cs → d.K S' w' x cs
theorem Kd.many_flat (F : d.Flat) {S S' : Nat → Prop} {w w' : World} : ∀ {l : List α} {cs : List Value}, d.many S w l cs → d.many S' w' l cs
  | [], _, h => h
  | _ :: _, _, ⟨c, cs', h1, h2, h3⟩ => ⟨c, cs', F _ _ _ _ _ _ h1, Kd.many_flat F h2, h3⟩

/-- append onto a row of the call's own, from a slice of data that lie in their cells alone -/
theorem wp_appF {w0 : World} (F : d.Flat) (E : ET P t e d.sz bytes z) {o : Oper} {a : Act} {K : Act → World → Prop} {Q : Exit → Act → World → Prop} {s x : Operand}
    (ho : o.op = .call { callee := .builtin .append, args := #[s, x], argTypes := #[t, t] })
    (hs : a.eval s = v) (hown : d.Own e w w0.heap.size v l) {S : Nat → Prop}
    {vx : Value} {ms : List α} (hx : a.eval x = vx) (hsrc : d.L S w vx ms) (h0 : Ext w0 w)
    (hb : l.length + ms.length ≤ 1000000000) (hb2 : bytes ≤ 1000)
    (h : ∀ v' w', d.Own e w' w0.heap.size v' (l ++ ms) → w.grownBy w' v.ownBlock → Ext w0 w' → K (a.put o.dst v') w') : o.wp P a w K Q := by
  obtain ⟨news, k1, k2⟩ := hsrc
  exact wp_app E ho hs hown hx (k2.mono fun _ _ _ => trivial) (Kd.many_flat F k1) hb hb2 h0.size fun v' w' a1 a2 => h v' w' a1 a2 (h0.grown a2 fun k hk => (hown.lt k hk).1)
theorem wpList_appF {w0 : World} (F : d.Flat) (E : ET P t e d.sz bytes z) {ops : Array Oper} {rest : List Oper} {o : Oper} {a : Act} {Q : Exit → Act → World → Prop} (hgd : o.guard = none) {s x : Operand}
    (ho : o.op = .call { callee := .builtin .append, args := #[s, x], argTypes := #[t, t] })
    (hs : a.eval s = v) (hown : d.Own e w w0.heap.size v l) {S : Nat → Prop}
    {vx : Value} {ms : List α} (hx : a.eval x = vx) (hsrc : d.L S w vx ms) (h0 : Ext w0 w)
    (hb : l.length + ms.length ≤ 1000000000) (hb2 : bytes ≤ 1000)
    (h : ∀ v' w', d.Own e w' w0.heap.size v' (l ++ ms) → w.grownBy w' v.ownBlock → Ext w0 w' → wpList P ops Q rest (a.put o.dst v') w') : wpList P ops Q (o :: rest) a w :=
  wpList_plain hgd fun _ hK => wp_appF F E ho hs hown hx hsrc h0 hb hb2 fun v' w' a1 a2 a3 => hK _ _ (h v' w' a1 a2 a3)
theorem step_appF {w0 : World} (F : d.Flat) (E : ET P t e d.sz bytes z) {ops : Array Oper} {o : Oper} {a : Act} {K : Act → World → Prop} {Q : Exit → Act → World → Prop} {X : Prop} (hgd : o.guard = none) {s x : Operand}
    (ho : o.op = .call { callee := .builtin .append, args := #[s, x], argTypes := #[t, t] })
    (hs : a.eval s = v) (hown : d.Own e w w0.heap.size v l) {S : Nat → Prop}
    {vx : Value} {ms : List α} (hx : a.eval x = vx) (hsrc : d.L S w vx ms) (h0 : Ext w0 w)
    (hb : l.length + ms.length ≤ 1000000000) (hb2 : bytes ≤ 1000)
    (h : ∀ v' w', d.Own e w' w0.heap.size v' (l ++ ms) → w.grownBy w' v.ownBlock → Ext w0 w' → K (a.put o.dst v') w') : if Region.wanted o (yielded ops a.tmps) = true then Oper.wp P o a w K Q else X := by
  rw [if_pos (by simp [Region.wanted, hgd])]
  exact wp_appF F E ho hs hown hx hsrc h0 hb hb2 h

/-- the same, the new slice written out -/
theorem wpList_appN {w0 : World} (F : d.Flat) (E : ET P t e d.sz bytes z) {ops : Array Oper} {rest : List Oper} {o : Oper} {a : Act} {Q : Exit → Act → World → Prop} (hgd : o.guard = none) {s x : Operand}
    (ho : o.op = .call { callee := .builtin .append, args := #[s, x], argTypes := #[t, t] })
    (hs : a.eval s = v) (hown : d.Own e w w0.heap.size v l) {S : Nat → Prop}
    {vx : Value} {ms : List α} (hx : a.eval x = vx) (hsrc : d.L S w vx ms) (h0 : Ext w0 w)
    (hb : l.length + ms.length ≤ 1000000000) (hb2 : bytes ≤ 1000)
    {n : Nat} (hn : l.length + ms.length = n) (h : ∀ a' c' w', n ≤ c' → c' ≤ maxLen → d.Own e w' w0.heap.size (.slice a' n c') (l ++ ms) → w.grownBy w' v.ownBlock → Ext w0 w' → wpList P ops Q rest (a.put o.dst (.slice a' n c')) w') :
    wpList P ops Q (o :: rest) a w :=
  wpList_appF F E hgd ho hs hown hx hsrc h0 hb hb2 fun v' w' a1 a2 a3 => by
    obtain ⟨a', c', e1, e2, e3⟩ := a1.L.form
    subst e1
    rw [List.length_append, hn] at *
    exact h a' c' w' e2 e3 a1 a2 a3
theorem step_appN {w0 : World} (F : d.Flat) (E : ET P t e d.sz bytes z) {ops : Array Oper} {o : Oper} {a : Act} {K : Act → World → Prop} {Q : Exit → Act → World → Prop} {X : Prop} (hgd : o.guard = none) {s x : Operand}
    (ho : o.op = .call { callee := .builtin .append, args := #[s, x], argTypes := #[t, t] })
    (hs : a.eval s = v) (hown : d.Own e w w0.heap.size v l) {S : Nat → Prop}
    {vx : Value} {ms : List α} (hx : a.eval x = vx) (hsrc : d.L S w vx ms) (h0 : Ext w0 w)
    (hb : l.length + ms.length ≤ 1000000000) (hb2 : bytes ≤ 1000)
    {n : Nat} (hn : l.length + ms.length = n) (h : ∀ a' c' w', n ≤ c' → c' ≤ maxLen → d.Own e w' w0.heap.size (.slice a' n c') (l ++ ms) → w.grownBy w' v.ownBlock → Ext w0 w' → K (a.put o.dst (.slice a' n c')) w') :
    if Region.wanted o (yielded ops a.tmps) = true then Oper.wp P o a w K Q else X :=
  step_appF F E hgd ho hs hown hx hsrc h0 hb hb2 fun v' w' a1 a2 a3 => by
    obtain ⟨a', c', e1, e2, e3⟩ := a1.L.form
    subst e1
    rw [List.length_append, hn] at *
    exact h a' c' w' e2 e3 a1 a2 a3
/-- append of one datum, whose cells were laid in a block of their own -/
theorem wp_app1 {w0 : World} (E : ET P t e d.sz bytes z) {o : Oper} {a : Act} {K : Act → World → Prop} {Q : Exit → Act → World → Prop} {s x : Operand}
    (ho : o.op = .call { callee := .builtin .append, args := #[s, x], argTypes := #[t, t] })
    (hs : a.eval s = v) {w1 : World} {cs : Array Value} {e' c : Nat} (hw : w = w1.alloc (.cells cs e')) (hown : d.Own e w1 w0.heap.size v l)
    {y : α} (hx : a.eval x = .slice (some ⟨w1.heap.size, 0, none⟩) 1 c) (hc : 1 ≤ c) (hc2 : c ≤ maxLen) (hsrc : d.K (fun b => some b ≠ v.ownBlock) w1 y cs.toList) (h0 : Ext w0 w1)
    (hb : l.length + 1 ≤ 1000000000) (hb2 : bytes ≤ 1000)
    (h : ∀ v' w', d.Own e w' w0.heap.size v' (l ++ [y]) → w1.grownBy w' v.ownBlock → Ext w0 w' → K (a.put o.dst v') w') : o.wp P a w K Q := by
  subst hw
  have hx1 : Ext w1 (w1.alloc (.cells cs e')) := (Ext.refl w1).alloc _
  have hown' := hown.ext hx1
  refine wp_app (ms := [y]) E ho hs hown' hx ⟨_, c, rfl, hc, hc2, Cells.ofBlock (heap_alloc_new w1 _) trivial⟩ (Kd.many_one1 (Kd.K_ext hsrc hx1)) hb hb2 (h0.trans hx1).size fun v' w' a1 a2 => ?_
  have hg : w1.grownBy w' v.ownBlock := ⟨a2.os, a2.tape, a2.output, Nat.le_trans hx1.size a2.size, fun k hk hne => (a2.block k (Nat.lt_of_lt_of_le hk hx1.size) hne).trans (hx1.block k hk)⟩
  exact h v' w' a1 hg (h0.grown hg fun k hk => (hown.lt k hk).1)
theorem wpList_app1 {w0 : World} (E : ET P t e d.sz bytes z) {ops : Array Oper} {rest : List Oper} {o : Oper} {a : Act} {Q : Exit → Act → World → Prop} (hgd : o.guard = none) {s x : Operand}
    (ho : o.op = .call { callee := .builtin .append, args := #[s, x], argTypes := #[t, t] })
    (hs : a.eval s = v) {w1 : World} {cs : Array Value} {e' c : Nat} (hw : w = w1.alloc (.cells cs e')) (hown : d.Own e w1 w0.heap.size v l)
    {y : α} (hx : a.eval x = .slice (some ⟨w1.heap.size, 0, none⟩) 1 c) (hc : 1 ≤ c) (hc2 : c ≤ maxLen) (hsrc : d.K (fun b => some b ≠ v.ownBlock) w1 y cs.toList) (h0 : Ext w0 w1)
    (hb : l.length + 1 ≤ 1000000000) (hb2 : bytes ≤ 1000)
    (h : ∀ v' w', d.Own e w' w0.heap.size v' (l ++ [y]) → w1.grownBy w' v.ownBlock → Ext w0 w' → wpList P ops Q rest (a.put o.dst v') w') : wpList P ops Q (o :: rest) a w :=
  wpList_plain hgd fun _ hK => wp_app1 E ho hs hw hown hx hc hc2 hsrc h0 hb hb2 fun v' w' a1 a2 a3 => hK _ _ (h v' w' a1 a2 a3)
theorem step_app1 {w0 : World} (E : ET P t e d.sz bytes z) {ops : Array Oper} {o : Oper} {a : Act} {K : Act → World → Prop} {Q : Exit → Act → World → Prop} {X : Prop} (hgd : o.guard = none) {s x : Operand}
    (ho : o.op = .call { callee := .builtin .append, args := #[s, x], argTypes := #[t, t] })
    (hs : a.eval s = v) {w1 : World} {cs : Array Value} {e' c : Nat} (hw : w = w1.alloc (.cells cs e')) (hown : d.Own e w1 w0.heap.size v l)
    {y : α} (hx : a.eval x = .slice (some ⟨w1.heap.size, 0, none⟩) 1 c) (hc : 1 ≤ c) (hc2 : c ≤ maxLen) (hsrc : d.K (fun b => some b ≠ v.ownBlock) w1 y cs.toList) (h0 : Ext w0 w1)
    (hb : l.length + 1 ≤ 1000000000) (hb2 : bytes ≤ 1000)
    (h : ∀ v' w', d.Own e w' w0.heap.size v' (l ++ [y]) → w1.grownBy w' v.ownBlock → Ext w0 w' → K (a.put o.dst v') w') : if Region.wanted o (yielded ops a.tmps) = true then Oper.wp P o a w K Q else X := by
  rw [if_pos (by simp [Region.wanted, hgd])]
  exact wp_app1 E ho hs hw hown hx hc hc2 hsrc h0 hb hb2 h
end
theorem Kd.L.ofBlock {α : Type} {d : Kd α} {w : World} {S : Nat → Prop} {g n c : Nat} {cs : Array Value} {t : TypeId} {fr : Nat × Nat} {l : List α} (h : w.heap[g]? = some (.cells cs t fr)) (hm : d.many S w l cs.toList) (hS : S g)
    (hn : n = l.length) (hc : n ≤ c) (hc2 : c ≤ maxLen) : d.L S w (.slice (some ⟨g, 0, none⟩) n c) l := by
  subst hn
  exact ⟨_, hm, _, c, rfl, hc, hc2, Cells.ofBlock h hS⟩
theorem cell_of {w : World} {g : Nat} {cs : Array Value} {t : TypeId} {fr : Nat × Nat} (h : w.heap[g]? = some (.cells cs t fr)) (j : Nat) : w.cell? ⟨g, j, none⟩ = cs[j]? := by simp [World.cell?, h]
theorem free_of {w : World} {g : Nat} {cs : Array Value} {t : TypeId} (h : w.heap[g]? = some (.cells cs t (0, 0))) (j : Nat) : w.frozen? ⟨g, j, none⟩ = false := by simp [World.frozen?, h]
theorem Kd.Own.ne {α : Type} {d : Kd α} {e : TypeId} {w : World} {B : Nat} {v : Value} {l : List α} (h : d.Own e w B v l) {g : Nat} {cs : Array Value} {t : TypeId} {fr : Nat × Nat}
    (hb : w.heap[g]? = some (.cells cs t fr)) (hne : t ≠ e) : v.ownBlock ≠ some g := by
  obtain ⟨_, _, h2⟩ := h
  intro hv
  rcases h2.2 with ⟨rfl, _⟩ | ⟨g', cap, cur, rfl, _, hg, _⟩
  · cases hv
  · injection hv with hv
    simp only at hv
    subst hv
    rw [hb] at hg
    injection hg with hg
    injection hg with _ hg
    exact hne hg
theorem grown_keep {w w' : World} {row : Option Nat} (hg : w.grownBy w' row) {g : Nat} {o : Obj} (h : w.heap[g]? = some o) (hne : row ≠ some g) : w'.heap[g]? = some o :=
  (hg.block g (Array.getElem?_eq_some_iff.1 h).1 (Ne.symm hne)).trans h
theorem grown_set (w : World) (p : Addr) (u : Value) : w.grownBy (w.setCell p u) (some p.block) :=
  ⟨rfl, rfl, rfl, by simp [World.setCell], fun k _ hk => Below.heap_setCell w p u k (by rintro rfl; exact hk rfl)⟩
theorem Kd.Own.keptF {α : Type} {d : Kd α} (F : d.Flat) {e : TypeId} {w w' : World} {B : Nat} {v : Value} {l : List α} {row : Option Nat} (h : d.Own e w B v l) (hg : w.grownBy w' row) (hne : ∀ k, v.ownBlock = some k → row ≠ some k) : d.Own e w' B v l := by
  obtain ⟨cs, h1, h2⟩ := h
  refine ⟨cs, Kd.many_flat F h1, h2.kept hg ?_⟩
  cases hv : v.ownBlock with
  | none => exact .inl rfl
  | some k => exact .inr (Ne.symm (hne k hv))
theorem Kd.Own.setF {α : Type} {d : Kd α} (F : d.Flat) {e : TypeId} {w : World} {B : Nat} {v : Value} {l : List α} (h : d.Own e w B v l) {p : Addr} (hp : p.block < B) (u : Value) : d.Own e (w.setCell p u) B v l :=
  h.keptF F (grown_set w p u) fun k hk => by
    have := (h.lt k hk).1
    intro e
    injection e with e
    omega
theorem Ext.set {a w : World} (h : Ext a w) {p : Addr} (hp : a.heap.size ≤ p.block) (u : Value) : Ext a (w.setCell p u) := Below.setCell h hp u
theorem heap_set {w : World} {g j : Nat} {cs : Array Value} {t : TypeId} {fr : Nat × Nat} (h : w.heap[g]? = some (.cells cs t fr)) (u : Value) : (w.setCell ⟨g, j, none⟩ u).heap[g]? = some (.cells (cs.setIfInBounds j u) t fr) := by
  simp [World.setCell, Array.getElem?_modify, h]
theorem heap_set_other {w : World} {g : Nat} {p : Addr} {o : Obj} (h : w.heap[g]? = some o) (hne : g ≠ p.block) (u : Value) : (w.setCell p u).heap[g]? = some o := by
  rw [Below.heap_setCell _ _ _ _ hne]; exact h
theorem alloc_at {w : World} {g : Nat} {o : Obj} (h : g = w.heap.size) : (w.alloc o).heap[g]? = some o := by subst h; exact heap_alloc_new w o
theorem alloc_old {w : World} {g : Nat} {o o' : Obj} (h : w.heap[g]? = some o) : (w.alloc o').heap[g]? = some o :=
  (Below.heap_alloc _ _ _ (Array.getElem?_eq_some_iff.1 h).1).trans h
theorem blk1 {w : World} {g : Nat} {x0 : Value} {t : TypeId} {fr : Nat × Nat} (h : w.heap[g]? = some (.cells #[x0] t fr)) : w.cell? ⟨g, 0, none⟩ = some x0 := by
  simp [World.cell?, h]
theorem blk2 {w : World} {g : Nat} {x0 x1 : Value} {t : TypeId} {fr : Nat × Nat} (h : w.heap[g]? = some (.cells #[x0, x1] t fr)) :
    w.cell? ⟨g, 0, none⟩ = some x0 ∧ w.cell? ⟨g, 1, none⟩ = some x1 := by
  refine ⟨?_, ?_⟩ <;> simp [World.cell?, h]
theorem blk3 {w : World} {g : Nat} {x0 x1 x2 : Value} {t : TypeId} {fr : Nat × Nat} (h : w.heap[g]? = some (.cells #[x0, x1, x2] t fr)) :
    w.cell? ⟨g, 0, none⟩ = some x0 ∧ w.cell? ⟨g, 1, none⟩ = some x1 ∧ w.cell? ⟨g, 2, none⟩ = some x2 := by
  refine ⟨?_, ?_, ?_⟩ <;> simp [World.cell?, h]
theorem blk4 {w : World} {g : Nat} {x0 x1 x2 x3 : Value} {t : TypeId} {fr : Nat × Nat} (h : w.heap[g]? = some (.cells #[x0, x1, x2, x3] t fr)) :
    w.cell? ⟨g, 0, none⟩ = some x0 ∧ w.cell? ⟨g, 1, none⟩ = some x1 ∧ w.cell? ⟨g, 2, none⟩ = some x2 ∧ w.cell? ⟨g, 3, none⟩ = some x3 := by
  refine ⟨?_, ?_, ?_, ?_⟩ <;> simp [World.cell?, h]
theorem blk5 {w : World} {g : Nat} {x0 x1 x2 x3 x4 : Value} {t : TypeId} {fr : Nat × Nat} (h : w.heap[g]? = some (.cells #[x0, x1, x2, x3, x4] t fr)) :
    w.cell? ⟨g, 0, none⟩ = some x0 ∧ w.cell? ⟨g, 1, none⟩ = some x1 ∧ w.cell? ⟨g, 2, none⟩ = some x2 ∧ w.cell? ⟨g, 3, none⟩ = some x3 ∧ w.cell? ⟨g, 4, none⟩ = some x4 := by
  refine ⟨?_, ?_, ?_, ?_, ?_⟩ <;> simp [World.cell?, h]
theorem blk6 {w : World} {g : Nat} {x0 x1 x2 x3 x4 x5 : Value} {t : TypeId} {fr : Nat × Nat} (h : w.heap[g]? = some (.cells #[x0, x1, x2, x3, x4, x5] t fr)) :
    w.cell? ⟨g, 0, none⟩ = some x0 ∧ w.cell? ⟨g, 1, none⟩ = some x1 ∧ w.cell? ⟨g, 2, none⟩ = some x2 ∧ w.cell? ⟨g, 3, none⟩ = some x3 ∧ w.cell? ⟨g, 4, none⟩ = some x4 ∧ w.cell? ⟨g, 5, none⟩ = some x5 := by
  refine ⟨?_, ?_, ?_, ?_, ?_, ?_⟩ <;> simp [World.cell?, h]
theorem blk7 {w : World} {g : Nat} {x0 x1 x2 x3 x4 x5 x6 : Value} {t : TypeId} {fr : Nat × Nat} (h : w.heap[g]? = some (.cells #[x0, x1, x2, x3, x4, x5, x6] t fr)) :
    w.cell? ⟨g, 0, none⟩ = some x0 ∧ w.cell? ⟨g, 1, none⟩ = some x1 ∧ w.cell? ⟨g, 2, none⟩ = some x2 ∧ w.cell? ⟨g, 3, none⟩ = some x3 ∧ w.cell? ⟨g, 4, none⟩ = some x4 ∧ w.cell? ⟨g, 5, none⟩ = some x5 ∧ w.cell? ⟨g, 6, none⟩ = some x6 := by
  refine ⟨?_, ?_, ?_, ?_, ?_, ?_, ?_⟩ <;> simp [World.cell?, h]
theorem blk8 {w : World} {g : Nat} {x0 x1 x2 x3 x4 x5 x6 x7 : Value} {t : TypeId} {fr : Nat × Nat} (h : w.heap[g]? = some (.cells #[x0, x1, x2, x3, x4, x5, x6, x7] t fr)) :
    w.cell? ⟨g, 0, none⟩ = some x0 ∧ w.cell? ⟨g, 1, none⟩ = some x1 ∧ w.cell? ⟨g, 2, none⟩ = some x2 ∧ w.cell? ⟨g, 3, none⟩ = some x3 ∧ w.cell? ⟨g, 4, none⟩ = some x4 ∧ w.cell? ⟨g, 5, none⟩ = some x5 ∧ w.cell? ⟨g, 6, none⟩ = some x6 ∧ w.cell? ⟨g, 7, none⟩ = some x7 := by
  refine ⟨?_, ?_, ?_, ?_, ?_, ?_, ?_, ?_⟩ <;> simp [World.cell?, h]
/-- data of one cell each -/
def Kd.one1 {α : Type} (f : α → Value) (h : ∀ x, (f x).oneCell' = true) : Kd α := Kd.flat 1 (fun x => [f x]) (fun _ => rfl) (fun x u hu => by simp at hu; subst hu; exact h x)
theorem Kd.one1_flat {α : Type} (f : α → Value) (h : ∀ x, (f x).oneCell' = true) : (Kd.one1 f h).Flat := fun _ _ _ _ _ _ h => h
theorem Kd.many_map {α : Type} {f : α → Value} {h : ∀ x, (f x).oneCell' = true} {S : Nat → Prop} {w : World} : ∀ {l : List α} {cs : List Value}, (Kd.one1 f h).many S w l cs ↔ cs = l.map f
  | [], cs => by simp [Kd.many]
  | x :: xs, cs => by
    constructor
    · rintro ⟨c, cs', rfl, h2, rfl⟩
      rw [Kd.many_map.1 h2]; rfl
    · rintro rfl
      exact ⟨[f x], xs.map f, rfl, Kd.many_map.2 rfl, rfl⟩
section
variable {P : Program} {w : World} {t e bytes B : Nat} {z v : Value} {α : Type} {f : α → Value} {h1 : ∀ x, (f x).oneCell' = true} {l : List α}
theorem Kd.Own.cellAt {g n cap : Nat} (h : (Kd.one1 f h1).Own e w B (.slice (some ⟨g, 0, none⟩) n cap) l) {j : Nat} {x : α} (hj : l[j]? = some x) : w.cell? ⟨g, j, none⟩ = some (f x) := by
  obtain ⟨cs, h2, h3⟩ := h
  have := h3.cells (g := g) rfl j (f x) (by rw [Kd.many_map.1 h2, List.getElem?_map, hj]; rfl)
  simpa [add_lit] using this
theorem Kd.Own.freeAt {d : Kd α} {g n cap : Nat} (h : d.Own e w B (.slice (some ⟨g, 0, none⟩) n cap) l) (j : Nat) : w.frozen? ⟨g, j, none⟩ = false := by
  obtain ⟨cs, _, h3⟩ := h
  rcases h3.2 with ⟨h', _⟩ | ⟨g', cap', cur, h', _, hg, _⟩
  · cases h'
  · injection h' with h' _ _
    injection h' with h'
    injection h' with h'
    subst h'
    simp [World.frozen?, hg]
theorem Kd.Own.store {g n cap : Nat} (h : (Kd.one1 f h1).Own e w B (.slice (some ⟨g, 0, none⟩) n cap) l) (j : Nat) (x : α) : (Kd.one1 f h1).Own e (w.setCell ⟨g, j, none⟩ (f x)) B (.slice (some ⟨g, 0, none⟩) n cap) (l.set j x) := by
  obtain ⟨cs, h2, h3⟩ := h
  have hn : n = l.length := by
    rcases h3.2 with ⟨h', _⟩ | ⟨_, _, _, h', _⟩
    · cases h'
    · injection h'
  subst hn
  refine ⟨cs.set j (f x), Kd.many_map.2 ?_, ?_⟩
  · rw [Kd.many_map.1 h2, List.map_set]
  · rw [List.length_set]
    exact (h3.stored j (f x)).1
theorem Kd.Own.lit1 (x : α) (hB : B ≤ w.heap.size) : (Kd.one1 f h1).Own e (w.alloc (.cells #[f x] e)) B (.slice (some ⟨w.heap.size, 0, none⟩) 1 1) [x] :=
  ⟨[f x], Kd.many_map.2 rfl, World.ownsRow_lit (e := e) (size := 1) w #[f x] 1 hB (by simp [maxLen]) (by simp)⟩
theorem wpList_make1 {w0 : World} (E : ET P t e 1 bytes z) {ops : Array Oper} {rest : List Oper} {o : Oper} {a : Act} {Q : Exit → Act → World → Prop}
    (hg : o.guard = none) {lo co : Operand} (hop : o.op = Op.makeSlice t lo co) {x0 : α} (hz : z = f x0)
    {kl kc : IntKind} {L C : Int} {n : Nat} (hl : a.eval lo = .int kl L) (hc : a.eval co = .int kc C) (hL : L = (n : Int)) (hC : C = (n : Int)) (hb : bytes ≤ 1000) (hn : n ≤ 1000000000) (hx : Ext w0 w)
    (hK : ∀ w', (Kd.one1 f h1).Own e w' w0.heap.size (.slice (some ⟨w.heap.size, 0, none⟩) n n) (List.replicate n x0) → w.grownBy w' none → Ext w0 w' → wpList P ops Q rest (a.put o.dst (.slice (some ⟨w.heap.size, 0, none⟩) n n)) w') :
    wpList P ops Q (o :: rest) a w := by
  obtain ⟨i, hi, hz0, hz1, hz2⟩ := info_parts E.info
  refine wpList_make_full w hg lo co t hop w0.heap.size e i z 1 E.ut hi hz0 hz1 kl kc L C n hl hc hL hC ?_ (by simp only [maxLen]; omega) hx.size fun w' r1 r2 => hK w' ?_ r2 (hx.grown r2 fun _ h => by cases h)
  · rw [hz2]
    have := Nat.mul_le_mul hb hn
    omega
  · refine ⟨_, Kd.many_map.2 rfl, ?_⟩
    rw [List.length_replicate, List.map_replicate]
    have hzc : z.cells = #[f x0] := by
      rw [hz]
      have := h1 x0
      cases hf : f x0 <;> simp_all [Value.cells, Value.oneCell']
    rw [hzc, Nat.mul_one, toList_madeCells_one] at r1
    exact r1
end
theorem Kd.byte_one : Kd.byte = Kd.one1 (fun n : UInt8 => .int .u8 (n.toNat : Int)) (fun _ => rfl) := rfl
theorem Kd.int_one (k : IntKind) : Kd.int k = Kd.one1 (fun n : Int => .int k n) (fun _ => rfl) := rfl
theorem Kd.byte_flat : Kd.byte.Flat := fun _ _ _ _ _ _ h => h
theorem Kd.int_flat (k : IntKind) : (Kd.int k).Flat := fun _ _ _ _ _ _ h => h
/-- the string of bytes -/
def strB (l : List UInt8) : ByteArray := ⟨l.toArray⟩
theorem strB_inj {a b : List UInt8} (h : strB a = strB b) : a = b := by
  injection h with h
  simpa using congrArg Array.toList h
/-- string(b) -/
theorem conv_bytes {P : Program} {w : World} {src e dst : TypeId} (hs : P.underlying src = some (.slice e)) (he : P.underlying e = some (.int .u8)) (hd : P.underlying dst = some .string)
    {S : Nat → Prop} {v : Value} {l : List UInt8} (h : Kd.byte.L S w v l) : (convert src dst v).run P w = .ok (.string (strB l)) w := by
  obtain ⟨a, c, rfl, _⟩ := h.form
  cases a with
  | none =>
    obtain rfl := h.none_ (by decide)
    rw [run_convert_bytes_nil w src e hs he _ c dst hd]
    rfl
  | some ad =>
    rcases Nat.eq_zero_or_pos l.length with h0 | h0
    · have hl : l = [] := List.eq_nil_of_length_eq_zero h0
      subst hl
      rw [run_convert_bytes_string w src dst e _ _ c hs he hd]
      exact run_bytesToString w ad 0 c [] (by simp [loadCells, loadCellsFrom])
    · obtain ⟨b, o, c', e1, _, _, _, hc⟩ := h.open_ h0 (by decide)
      injection e1 with e1 _ e3
      injection e1 with e1
      subst e1; subst e3
      rw [run_convert_bytes_arg w src e hs he b o l.length c (l.map fun b => (b.toNat : Int)) (by simp) (fun i hi => ?_) dst hd]
      · congr 2
        unfold strOfNums strB
        congr 2
        rw [List.map_map]
        exact (List.map_congr_left fun x _ => by simp).trans (List.map_id l)
      · obtain ⟨cs, hk, hcc⟩ := hc i l[i] (List.getElem?_eq_getElem hi)
        obtain rfl : cs = _ := hk
        have := hcc 0 _ rfl
        simpa [Kd.byte, Kd.flat, List.getD, List.getElem?_eq_getElem hi] using this
theorem strB_toList (l : List UInt8) : (strB l).toList = l := ByteArray.toList_eq _
theorem strB_eq (l m : List UInt8) : ((strB l).toList == (strB m).toList) = decide (l = m) := by
  rw [strB_toList, strB_toList]
  exact Bool.eq_iff_iff.2 (by simp)
end Go.Sy
