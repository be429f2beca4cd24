/- How a law's arguments are opened: a datum that can be read lies in cells as its kind says. -/
import Derived.Test.YtblabchnpkofgaaLb
import Derived.ProofKit
import Derived.OpenShut
import Derived.ShutString
import Derived.ChangeOld
import Derived.SizedLaws
import Derived.Deep.Slices
import Derived.Deep.Fields
import Derived.ChangeSame
import Derived.Carry
namespace Go.Sy
open Go.RowKit Go.ChangeShapes Go.WideShapes Go.Deep

/-- What can be read at type t lies in cells as d says, and meets R. -/
structure Rd {α : Type} (P : Program) (t : TypeId) (d : Kd α) (R : α → Prop) : Prop where
  get : ∀ (H : Type) (enc : TypeId × Value → H) (w : World) (n : Nat) (cs : List Value) (x : DataW H × List MemPlace),
    DataW.trod enc P w 0 (fun _ => true) true n t cs = some x → ∃ a, d.K Any w a cs ∧ R a
section
variable {P : Program} {α β : Type} {d : Kd α} {d' : Kd β} {R : α → Prop} {R' : β → Prop} {t e : TypeId}
theorem Rd.int {k : IntKind} (ht : P.underlying t = some (.int k)) : Rd P t (Kd.int k) (fun n => (Lit.int k n).wf = true) := by
  constructor
  intro H enc w n cs x h
  obtain ⟨m, rfl, _, hw⟩ := DataW.trod_int ht h
  exact ⟨m, rfl, hw⟩
theorem Rd.bool (ht : P.underlying t = some .bool) : Rd P t Kd.bool (fun _ => True) := by
  constructor
  intro H enc w n cs x h
  obtain ⟨b, rfl, _⟩ := DataW.trod_bool ht h
  exact ⟨b, rfl, trivial⟩
theorem Rd.byte (ht : P.underlying t = some (.int .u8)) : Rd P t Kd.byte (fun _ => True) := by
  constructor
  intro H enc w n cs x h
  obtain ⟨m, rfl, _, hw⟩ := DataW.trod_int ht h
  have hb := bounds_u8 hw
  refine ⟨UInt8.ofNat m.toNat, ?_, trivial⟩
  show [Value.int .u8 m] = [Value.int .u8 _]
  rw [UInt8.toNat_ofNat']
  congr 2
  omega
theorem Rd.imp {Q : α → Prop} (h : Rd P t d R) (k : ∀ a, R a → Q a) : Rd P t d Q := by
  constructor
  intro H enc w n cs x hx
  obtain ⟨a, h1, h2⟩ := h.get _ _ _ _ _ _ hx
  exact ⟨a, h1, k a h2⟩
theorem Rd.iso (f : β → α) (g : α → β) (hg : ∀ a, f (g a) = a) (h : Rd P t d R) : Rd P t (d.iso f) (fun b => R (f b)) := by
  constructor
  intro H enc w n cs x hx
  obtain ⟨a, h1, h2⟩ := h.get _ _ _ _ _ _ hx
  exact ⟨g a, by show d.K Any w (f (g a)) cs; rw [hg]; exact h1, by show R (f (g a)); rw [hg]; exact h2⟩

/-- many, read one by one -/
theorem many_of {w : World} {A : Addr} {sz : Nat} : ∀ (len i0 : Nat),
    (∀ i, i < len → ∃ a cs', d.K Any w a cs' ∧ cs'.length = sz ∧ R a ∧ ∀ j, j < sz → w.cell? ((A.add ((i0 + i) * sz)).add j) = cs'[j]?) →
    ∃ (l : List α) (cs : List Value), l.length = len ∧ d.many Any w l cs ∧ (∀ a ∈ l, R a) ∧ cs.length = len * sz ∧ ∀ j, j < len * sz → w.cell? (A.add (i0 * sz + j)) = cs[j]?
  | 0, _, _ => ⟨[], [], rfl, rfl, by simp, by simp, by simp⟩
  | len + 1, i0, h => by
    obtain ⟨a, c, h1, h2, h3, h4⟩ := h 0 (Nat.succ_pos _)
    obtain ⟨l, cs, k1, k2, k3, k4, k5⟩ := many_of len (i0 + 1) fun i hi => by
      obtain ⟨a, cs', q1, q2, q3, q4⟩ := h (i + 1) (by omega)
      exact ⟨a, cs', q1, q2, q3, fun j hj => by have := q4 j hj; rwa [show i0 + (i + 1) = i0 + 1 + i by omega] at this⟩
    refine ⟨a :: l, c ++ cs, by simp [k1], ⟨c, cs, h1, k2, rfl⟩, ?_, by simp [h2, k4, Nat.add_mul]; omega, fun j hj => ?_⟩
    · intro x hx
      rcases List.mem_cons.1 hx with rfl | hx
      · exact h3
      · exact k3 x hx
    · by_cases hj2 : j < sz
      · have := h4 j hj2
        rw [Nat.add_zero, Go.Deep.add_add] at this
        rw [this, List.getElem?_append_left (by omega)]
      · have := k5 (j - sz) (by rw [Nat.add_mul] at hj; omega)
        rw [List.getElem?_append_right (by omega), h2, ← this]
        congr 2
        rw [Nat.add_mul]
        omega
theorem Rd.list {sz : Nat} (ht : P.underlying t = some (.slice e)) (hC : P.cellsOf e = sz) (hsz : d.sz = sz) (h : Rd P e d R) : Rd P t d.list (fun l => l.length ≤ maxLen ∧ ∀ a ∈ l, R a) := by
  constructor
  intro H enc w n cs x hx
  subst hsz
  rcases open_slice ht hx with ⟨rfl, _⟩ | ⟨A, len, cap, m, n', D, Pl, rfl, _, hl, hm, hmm, _, hi⟩
  · exact ⟨[], ⟨_, rfl, Kd.L.nil⟩, by simp [maxLen], by simp⟩
  · simp only [if_true] at hmm
    subst hmm
    obtain ⟨l, cs, k1, k2, k3, k4, k5⟩ := many_of (d := d) (R := R) (w := w) (A := A) (sz := d.sz) len 0 fun i hlt => by
      obtain ⟨cs', hc, ht'⟩ := hi i (by omega)
      rw [hC] at hc
      obtain ⟨_, h2, h3⟩ := World.cells?_some hc
      obtain ⟨a, h4, h5⟩ := h.get _ _ _ _ _ _ ht'
      exact ⟨a, cs', h4, h2, h5, fun j hj => by rw [Nat.zero_add]; exact h3 j hj⟩
    refine ⟨l, ⟨_, rfl, cs, k2, some A, _, by rw [k1], by omega, hm, fun j u hj => ?_⟩, by omega, k3⟩
    have hjl : j < len * d.sz := by
      rcases Nat.lt_or_ge j cs.length with h | h
      · omega
      · rw [List.getElem?_eq_none h] at hj; cases hj
    have h0 := k5 0 (by omega)
    have hc := k5 j hjl
    rw [Nat.zero_mul, Nat.zero_add] at hc h0
    rw [hj] at hc
    have hA : A.spot = none := by
      rw [Addr.add, if_pos rfl] at h0
      cases hs : A.spot with
      | none => rfl
      | some s =>
        have : w.cell? A = none := by
          unfold World.cell?
          split
          · simp [hs]
          · rfl
        rw [this] at h0
        rw [List.getElem?_eq_getElem (by omega)] at h0
        cases h0
    obtain ⟨b, o, s⟩ := A
    simp only at hA
    subst hA
    exact ⟨b, o, rfl, by rw [add_lit] at hc; exact hc, trivial⟩

/-- a struct's fields from cell o on -/
structure RdF {α : Type} (P : Program) (fs : Array Field) (T o : Nat) (d : Kd α) (R : α → Prop) : Prop where
  get : ∀ (H : Type) (enc : TypeId × Value → H) (w : World) (n : Nat) (cs : List Value) (xs : List (DataW H × List MemPlace)), cs.length = T → xs.length = fs.size →
    (∀ (i : Nat) (f : Field), fs[i]? = some f → DataW.trod enc P w 0 (fun _ => true) true n f.type ((cs.drop f.offset).take (P.cellsOf f.type)) = xs[i]?) → ∃ a, d.K Any w a (cs.drop o) ∧ R a
theorem RdF.last {fs : Array Field} {T o : Nat} (i : Nat) (f : Field) (hf : fs[i]? = some f) (ho : f.offset = o) (hc : o + P.cellsOf f.type = T) (hr : Rd P f.type d R) : RdF P fs T o d R := by
  constructor
  intro H enc w n cs xs h1 h2 h
  have hk := h i f hf
  have hi : i < xs.length := by rw [h2]; exact (Array.getElem?_eq_some_iff.1 hf).1
  rw [List.getElem?_eq_getElem hi] at hk
  obtain ⟨a, h3, h4⟩ := hr.get _ _ _ _ _ _ hk
  rw [ho, List.take_of_length_le (by rw [List.length_drop]; omega)] at h3
  exact ⟨a, h3, h4⟩
theorem RdF.cons {fs : Array Field} {T o : Nat} (i : Nat) (f : Field) (hf : fs[i]? = some f) (ho : f.offset = o) (c : Nat) (hc : P.cellsOf f.type = c) (hr : Rd P f.type d R) (rest : RdF P fs T (o + c) d' R') :
    RdF P fs T o (d.pair d') (fun x => R x.1 ∧ R' x.2) := by
  constructor
  intro H enc w n cs xs h1 h2 h
  have hk := h i f hf
  have hi : i < xs.length := by rw [h2]; exact (Array.getElem?_eq_some_iff.1 hf).1
  rw [List.getElem?_eq_getElem hi] at hk
  obtain ⟨a, h3, h4⟩ := hr.get _ _ _ _ _ _ hk
  obtain ⟨b, h5, h6⟩ := rest.get _ _ _ _ cs xs h1 h2 h
  rw [ho, hc] at h3
  refine ⟨(a, b), ⟨_, _, h3, h5, ?_⟩, h4, h6⟩
  rw [← List.drop_drop, List.take_append_drop]
theorem Rd.struct {fs : Array Field} {T : Nat} (ht : P.underlying t = some (.struct fs)) (hC : P.cellsOf t = T) (h : RdF P fs T 0 d R) : Rd P t d R := by
  constructor
  intro H enc w n cs x hx
  obtain ⟨xs, n', _, _, h1, h2, h3⟩ := DataW.trod_struct ht hx
  exact h.get _ _ _ _ cs xs (h1.trans hC) h2 h3
end
end Go.Sy
