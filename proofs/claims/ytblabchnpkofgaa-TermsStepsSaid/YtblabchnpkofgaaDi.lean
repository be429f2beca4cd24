/- Rows of the call's own that grow. No program in sight. -/
import Derived.Test.YtblabchnpkofgaaDh
set_option linter.unusedSimpArgs false
set_option linter.unusedVariables false
namespace Go.Sy
open Go.RowKit

/-- v is a row of n elements that hold xs; where it is -/
def RowAt (w : World) (e : TypeId) (sz : Nat) (pl : Place) (v : Value) (n : Nat) (xs : List Value) : Prop :=
  xs.length = n * sz ∧ ((pl = none ∧ n = 0 ∧ ∃ a, v = .slice a 0 0) ∨ ∃ b c cur, pl = some (b, c) ∧ v = .slice (some ⟨b, 0, none⟩) n c ∧ w.heap[b]? = some (.cells cur e (0, 0)) ∧ cur.size = c * sz ∧ c ≤ maxLen ∧ xs <+: cur.toList)
theorem prefix_get {xs ys : List Value} (h : xs <+: ys) {j : Nat} {u : Value} (hj : xs[j]? = some u) : ys[j]? = some u := by
  obtain ⟨tl, rfl⟩ := h
  rw [List.getElem?_append_left (List.getElem?_eq_some_iff.1 hj).1]; exact hj
theorem RowAt.new {w : World} {e : TypeId} {sz n c : Nat} {xs : List Value} {cur : Array Value} (hl : xs.length = n * sz) (hs : cur.size = c * sz) (hc : c ≤ maxLen) (hp : xs <+: cur.toList) : RowAt (w.alloc (.cells cur e)) e sz (some (w.heap.size, c)) (.slice (some ⟨w.heap.size, 0, none⟩) n c) n xs :=
  ⟨hl, .inr ⟨_, c, cur, rfl, rfl, heap_alloc_new w _, hs, hc, hp⟩⟩
section
variable {P : Program} {w : World} {t e : TypeId} {i j : TypeInfo} {u : TypeDesc} {z : Value}
theorem new_cur {sz n cap : Nat} {xs : List Value} {zs : Array Value} (hl : xs.length = n * sz) (hz : zs.size = sz) (h : n ≤ cap) : (xs.toArray ++ Builtin.zeroCells zs (cap - n)).size = cap * sz ∧ xs <+: (xs.toArray ++ Builtin.zeroCells zs (cap - n)).toList := by
  refine ⟨?_, ⟨(Builtin.zeroCells zs (cap - n)).toList, by simp⟩⟩
  rw [Array.size_append, List.size_toArray, size_zeroCells, hl, hz, ← Nat.add_mul]
  congr 1
  omega
/-- append onto a row -/
theorem run_appendRow [h : TyI P t i (.slice e)] [h' : TyI P e j u] (hz : j.zero = some z) (hzs : z.cells.size = j.size) (hpos : 0 < j.size) (hby : j.bytes ≤ 1000) (ty : TypeId) {pl : Place} {v : Value} {n : Nat} {xs : List Value} (hr : RowAt w e j.size pl v n xs)
    {ad : Option Addr} {m c : Nat} {news : List Value} (hl : news.length = m * j.size) (hnews : ∀ q y, news[q]? = some y → ∃ b o, ad = some ⟨b, o, none⟩ ∧ w.cell? ⟨b, o + q, none⟩ = some y) (h1 : ∀ y ∈ news, y.oneCell' = true) (hnm : n + m ≤ 1000000000) (hmc : m ≤ c) :
    ∃ v' w' pl', (Builtin.append_ #[t, t] ty #[v, .slice ad m c]).run P w = .ok v' w' ∧ RowAt w' e j.size pl' v' (n + m) (xs ++ news) ∧ w'.os = w.os ∧ w'.tape = w.tape ∧ w'.output = w.output ∧ w.heap.size ≤ w'.heap.size ∧
      (∀ k, k < w.heap.size → (∀ b q, pl = some (b, q) → k ≠ b) → w'.heap[k]? = w.heap[k]?) ∧ (∀ b' q', pl' = some (b', q') → w.heap.size ≤ b' ∨ ∃ q, pl = some (b', q)) := by
  have hbytes : (n + m) * j.bytes ≤ 140737488355328 := Nat.le_trans (Nat.mul_le_mul hnm hby) (by decide)
  have hnmM : n + m ≤ maxLen := by simp only [maxLen]; omega
  have hlen : (xs ++ news).length = (n + m) * j.size := by rw [List.length_append, hr.1, hl, Nat.add_mul]
  rcases Nat.eq_zero_or_pos m with rfl | hm
  · have : news = [] := List.eq_nil_of_length_eq_zero (by simpa using hl)
    subst this
    refine ⟨v, w, pl, ?_, by simpa using hr, rfl, rfl, rfl, Nat.le_refl _, fun _ _ _ => rfl, fun b' q' hp => .inr ⟨q', hp⟩⟩
    rcases hr.2 with ⟨_, rfl, a, rfl⟩ | ⟨b, cc, cur, _, rfl, h3, h4, h5, h6⟩
    · cases ad <;> simp [Builtin.append_, run_underlying h.ut, sizeOf, typeInfo, h'.ti, Builtin.lenOf, Builtin.firstCells, loadCells, loadCellsFrom, storeCells] <;> cases a <;> simp [storeCells]
    · have hncc : n ≤ cc := by
        have := h6.length_le
        rw [hr.1] at this
        simp only [Array.length_toList] at this
        rw [h4] at this
        exact Nat.le_of_mul_le_mul_right this hpos
      cases ad <;> simp [Builtin.append_, run_underlying h.ut, sizeOf, typeInfo, h'.ti, Builtin.lenOf, Builtin.firstCells, loadCells, loadCellsFrom, storeCells, hncc]
  · have hne : ∃ y, news[0]? = some y := by
      have : 0 < news.length := by rw [hl]; exact Nat.mul_pos hm hpos
      exact ⟨_, List.getElem?_eq_getElem this⟩
    obtain ⟨y0, hy0⟩ := hne
    obtain ⟨b0, o0, rfl, _⟩ := hnews 0 y0 hy0
    have hn' : ∀ q y, news[q]? = some y → w.cell? ((⟨b0, o0, none⟩ : Addr).add q) = some y := by
      intro q y hq
      obtain ⟨b, o, hbo, hc⟩ := hnews q y hq
      injection hbo with hbo
      injection hbo with e1 e2
      subst e1; subst e2
      rw [add_lit]; exact hc
    rcases hr.2 with ⟨rfl, rfl, a, rfl⟩ | ⟨b, cc, cur, rfl, rfl, h3, h4, h5, h6⟩
    · have hxs : xs = [] := List.eq_nil_of_length_eq_zero (by simpa using hr.1)
      subst hxs
      cases a with
      | none =>
        have hg := grownCap_ge w m 0 e
        have hcm : grownCap w m 0 e ≤ maxLen := grownCap_le_maxLen w m 0 e (by omega)
        obtain ⟨k1, k2⟩ := new_cur (zs := z.cells) hl hzs hg
        refine ⟨_, _, some (w.heap.size, grownCap w m 0 e), run_append_nil w t ty e j z h.ut h'.ti hz ⟨b0, o0, none⟩ m c news hl hn' hm (by omega) (by simp only [Nat.zero_add] at hbytes; omega), ?_, rfl, rfl, rfl, by simp, fun k hk _ => Below.heap_alloc _ _ _ (by simpa using hk), fun b' q' hp => .inl ?_⟩
        · have := RowAt.new (w := w.drew) (e := e) hl k1 hcm k2
          simpa using this
        · simp at hp
          omega
      | some a =>
        have hg := grownCap_ge w (0 + m) 0 e
        have hcm : grownCap w (0 + m) 0 e ≤ maxLen := grownCap_le_maxLen w (0 + m) 0 e (by omega)
        obtain ⟨k1, k2⟩ := new_cur (zs := z.cells) (n := 0 + m) (by simpa using hl) hzs hg
        have hrun := run_append_grow (P := P) w t ty e j z h.ut h'.ti hz a 0 0 [] (by simp) (by simp) ⟨b0, o0, none⟩ m c news hl hn' (by omega) (by omega) (growslice_fits (by omega) hbytes)
        refine ⟨_, _, some (w.heap.size, grownCap w (0 + m) 0 e), hrun, ?_, rfl, rfl, rfl, by simp, fun k hk _ => Below.heap_alloc _ _ _ (by simpa using hk), fun b' q' hp => .inl ?_⟩
        · have := RowAt.new (w := w.drew) (e := e) (n := 0 + m) (by simpa using hl) k1 hcm k2
          simpa using this
        · simp at hp
          omega
    · have hxl := hr.1
      have hxc : xs.length ≤ cur.size := by have := h6.length_le; simpa using this
      by_cases hroom : n + m ≤ cc
      · have hfit : n * j.size + news.length ≤ cur.size := by rw [hl, h4, ← Nat.add_mul]; exact Nat.mul_le_mul_right _ hroom
        have hrun := run_append_room (P := P) w t ty e j h.ut h'.ti b n cc cur h3 ⟨b0, o0, none⟩ m c news hl hn' h1 hroom hfit
        refine ⟨_, _, some (b, cc), hrun, ⟨hlen, .inr ⟨b, cc, _, rfl, rfl, setRow_heap w b cur _ _ _ h3, ?_, h5, ?_⟩⟩, rfl, rfl, rfl, by simp [World.setRow], fun k _ hk => setRow_other w b k _ (hk b cc rfl), fun b' q' hp => .inr ⟨cc, by simp at hp; rw [hp.1]⟩⟩
        · simp
          omega
        · obtain ⟨tl, htl⟩ := h6
          have e1 : cur.toList.take (n * j.size) = xs := by rw [← htl, ← hxl, List.take_left]
          rw [e1]
          exact ⟨cur.toList.drop (n * j.size + news.length), by simp⟩
      · have hg := grownCap_ge w (n + m) cc e
        have hcm : grownCap w (n + m) cc e ≤ maxLen := grownCap_le_maxLen w (n + m) cc e hnmM
        have holds : ∀ q y, xs[q]? = some y → w.cell? ((⟨b, 0, none⟩ : Addr).add q) = some y := by
          intro q y hq
          rw [add_lit]
          have := prefix_get h6 hq
          simp [World.cell?, h3]
          simpa using this
        obtain ⟨k1, k2⟩ := new_cur (zs := z.cells) hlen hzs hg
        have hrun := run_append_grow (P := P) w t ty e j z h.ut h'.ti hz ⟨b, 0, none⟩ n cc xs hxl holds ⟨b0, o0, none⟩ m c news hl hn' (by omega) (by simp only [maxLen] at hnmM; omega) (growslice_fits (by omega) hbytes)
        refine ⟨_, _, some (w.heap.size, grownCap w (n + m) cc e), hrun, ?_, rfl, rfl, rfl, by simp, fun k hk _ => Below.heap_alloc _ _ _ (by simpa using hk), fun b' q' hp => .inl ?_⟩
        · have := RowAt.new (w := w.drew) (e := e) hlen k1 hcm k2
          simpa using this
        · simp at hp
          omega
end
end Go.Sy
