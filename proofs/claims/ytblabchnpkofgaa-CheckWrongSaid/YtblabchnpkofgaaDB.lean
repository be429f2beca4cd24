/- Rows of the call's own, in states. No program in sight. Rows: where they begin, and end; append onto what is full. No program in sight. Calls of functions that are given boxes: that read them, or write into them. No program in sight. Rows that stand still wherever they are held; slices against nil; arrays; functions that are given boxes: where they begin and end. No program in sight. Regions whose order is open, with stores between. No program in sight. Cuts between two pieces of code. No program in sight. []byte("..") of a constant: a literal, and its conversion to its own type, which marks the block. No program in sight. -/
import Derived.Test.YtblabchnpkofgaaDA
import Derived.Lib.SlBytesConst
set_option linter.unusedSimpArgs false
set_option linter.unusedVariables false
namespace Go.Sy
open Go.RowKit

mutual
def D.clean (k : Nat) : D → D
  | .p v => .p v
  | .agg cs => .agg (D.cleanL k cs)
  | .tup cs => .tup (D.cleanL k cs)
  | .ptr i off => bif i != k then .ptr i off else .any
  | .row i n => bif i != k then .row i n else .any
  | .clo f fs cs => bif D.avoidsL k fs && D.avoidsL k cs then .clo f fs cs else .any
  | .lit n cs => .lit n (D.cleanL k cs)
  | .refD cs => .refD (D.cleanL k cs)
  | .any => .any
def D.cleanL (k : Nat) : List D → List D
  | [] => []
  | d :: ds => D.clean k d :: D.cleanL k ds
end
/-- the cells of a list of data, in a row -/
abbrev D.enc {α : Type} (enc : α → List V) (l : List α) : List D := (l.flatMap enc).map D.p
def TM.clean (k : Nat) : List (Nat × Bool × D) → List (Nat × Bool × D)
  | [] => []
  | (t, g, d) :: l => (t, g, d.clean k) :: TM.clean k l
def Hp.clean (k : Nat) : List (Option Box) → List (Option Box)
  | [] => []
  | none :: l => none :: Hp.clean k l
  | some x :: l => some ⟨D.cleanL k x.cs, x.e, x.sz⟩ :: Hp.clean k l
section
variable {β β' : List Place} {S S' : Nat → Prop} {w w' : World} {k : Nat}
mutual
theorem D.Rep.clean (hβ : ∀ (i : Nat) (e : Place), i ≠ k → β[i]? = some e → β'[i]? = some e) (e : ∀ b, S b → b < w.heap.size → w'.heap[b]? = w.heap[b]?) (hS : ∀ b, S b → b < w.heap.size → S' b) :
    ∀ {d : D} {u : Value}, d.Rep β S w u → (d.clean k).Rep β' S' w' u
  | .p _, _, h => V.Rep.mono e hS h
  | .agg _, _, ⟨us, h1, h2⟩ => ⟨us, h1, D.RepL.clean hβ e hS h2⟩
  | .tup _, _, ⟨us, h1, h2⟩ => ⟨us, h1, D.RepL.clean hβ e hS h2⟩
  | .ptr i off, u, h => by
    unfold D.clean
    by_cases hi : i = k
    · subst hi; simp [D.Rep]
    · rw [show (i != k) = true by simpa using hi]
      exact D.Rep.avoid (k := k) hβ e hS (d := .ptr i off) (by simpa [D.avoids] using hi) h
  | .row i n, u, h => by
    unfold D.clean
    by_cases hi : i = k
    · subst hi; simp [D.Rep]
    · rw [show (i != k) = true by simpa using hi]
      exact D.Rep.avoid (k := k) hβ e hS (d := .row i n) (by simpa [D.avoids] using hi) h
  | .clo f fs cs, u, h => by
    unfold D.clean
    cases hc : (D.avoidsL k fs && D.avoidsL k cs)
    · simp [D.Rep]
    · exact D.Rep.avoid (k := k) hβ e hS (d := .clo f fs cs) (by simpa [D.avoids] using hc) h
  | .lit _ _, _, ⟨a, us, h1, h3, h4, h5⟩ => ⟨a, us, h1, h3, D.RepL.clean hβ e hS h4, (h5.mono (S' := fun b => S b ∧ b < w.heap.size) fun b hb hl => ⟨hb, hl⟩).frame (fun b hb _ => e b hb.1 hb.2) |>.mono fun b hb _ => hS b hb.1 hb.2⟩
  | .refD _, _, ⟨a, us, h1, h4, h5⟩ => ⟨a, us, h1, D.RepL.clean hβ e hS h4, (h5.mono (S' := fun b => S b ∧ b < w.heap.size) fun b hb hl => ⟨hb, hl⟩).frame (fun b hb _ => e b hb.1 hb.2) |>.mono fun b hb _ => hS b hb.1 hb.2⟩
  | .any, _, _ => trivial
theorem D.RepL.clean (hβ : ∀ (i : Nat) (e : Place), i ≠ k → β[i]? = some e → β'[i]? = some e) (e : ∀ b, S b → b < w.heap.size → w'.heap[b]? = w.heap[b]?) (hS : ∀ b, S b → b < w.heap.size → S' b) :
    ∀ {d : List D} {us : List Value}, D.RepL β S w d us → D.RepL β' S' w' (D.cleanL k d) us
  | [], _, h => h
  | _ :: _, _, ⟨y, ys, h1, h2, h3⟩ => ⟨y, ys, h1, D.Rep.clean hβ e hS h2, D.RepL.clean hβ e hS h3⟩
end
theorem TM.clean_get {t : Nat} {g : Bool} {d : D} : ∀ {l : List (Nat × Bool × D)}, TM.get (TM.clean k l) t = some (g, d) → ∃ d', TM.get l t = some (g, d') ∧ d = d'.clean k
  | [], h => by cases h
  | (t', g', d') :: l, h => by
    simp only [TM.clean, TM.get_cons] at h ⊢
    split at h
    · rename_i e
      simp only [Option.some.injEq, Prod.mk.injEq] at h
      rw [if_pos e]
      exact ⟨d', by rw [h.1], h.2.symm⟩
    · rename_i e
      rw [if_neg e]
      exact TM.clean_get h
theorem Hp.clean_get : ∀ {l : List (Option Box)} {i : Nat} {x : Box}, (Hp.clean k l)[i]? = some (some x) → ∃ y, l[i]? = some (some y) ∧ x = ⟨D.cleanL k y.cs, y.e, y.sz⟩
  | [], _, _, h => by simp [Hp.clean] at h
  | none :: l, 0, _, h => by simp [Hp.clean] at h
  | some y :: l, 0, x, h => by
    simp only [Hp.clean, List.getElem?_cons_zero, Option.some.injEq] at h
    exact ⟨y, by simp, h.symm⟩
  | none :: l, i + 1, x, h => by simpa using Hp.clean_get (l := l) (i := i) (by simpa [Hp.clean] using h)
  | some _ :: l, i + 1, x, h => by simpa using Hp.clean_get (l := l) (i := i) (by simpa [Hp.clean] using h)
theorem Hp.clean_len : ∀ {l : List (Option Box)}, (Hp.clean k l).length = l.length
  | [] => rfl
  | none :: l => by simp [Hp.clean, Hp.clean_len (l := l)]
  | some _ :: l => by simp [Hp.clean, Hp.clean_len (l := l)]
end
section
variable {c : Ctx} {H : List (Option Box)} {β : List Place} {S : Nat → Prop} {w w' : World}
/-- a row that has grown -/
theorem HSt.grow4 (hH : HSt c H β S w) {k : Nat} {x : Box} (hx : H[k]? = some (some x)) (hxz : x.sz ≠ 0) {pl pl' : Place} (hpl : β[k]? = some pl) {v' : Value} {m : Nat} {xs : List Value} {cs : List D} {cs0 : List V} (hrow : RowAt w' x.e x.sz pl' v' m xs)
    (hr : V.RepL S w cs0 xs) (hcs : cs = cs0.map D.p) (hos : w'.os = w.os) (htape : w'.tape = w.tape) (hout : w'.output = w.output) (hsz : w.heap.size ≤ w'.heap.size)
    (hkeep : ∀ q, q < w.heap.size → (∀ b r, pl = some (b, r) → q ≠ b) → w'.heap[q]? = w.heap[q]?) (hnew : ∀ b' q', pl' = some (b', q') → w.heap.size ≤ b' ∨ ∃ q, pl = some (b', q))
    (hwr : c.ro = true → c.β0.length ≤ k) (hdead : k < c.β0.length → k ∈ c.dead) : ∃ S', HSt c ((Hp.clean k H).set k (some ⟨cs, x.e, x.sz⟩)) (β.set k pl') S' w' ∧ (∀ b, S b → b < w.heap.size → w'.heap[b]? = w.heap[b]?) ∧ (∀ b, S b → b < w.heap.size → S' b) ∧ ∀ b, S' b → S b := by
  have hkl : k < β.length := (List.getElem?_eq_some_iff.1 hpl).1
  have hkH : k < H.length := by rw [← hH.len]; exact hkl
  have hold : ∀ b r, pl = some (b, r) → b < w.heap.size ∧ ¬ S b := fun b r h => (hH.box k x hx).lt (h ▸ hpl)
  have he : ∀ b, S b → b < w.heap.size → w'.heap[b]? = w.heap[b]? := fun b hb hlt => hkeep b hlt fun b' r h hbb => (hold b' r h).2 (hbb ▸ hb)
  have hS : ∀ b, S b → b < w.heap.size → S b ∧ ∀ b' q', pl' = some (b', q') → b ≠ b' := by
    intro b hb hlt
    refine ⟨hb, fun b' q' h => ?_⟩
    rcases hnew b' q' h with h | ⟨q, h⟩
    · omega
    · rintro rfl; exact (hold _ q h).2 hb
  have hβ : ∀ (i : Nat) (e : Place), i ≠ k → β[i]? = some e → (β.set k pl')[i]? = some e := fun i e hne h => by rw [List.getElem?_set_ne (Ne.symm hne)]; exact h
  have hβ2 : ∀ (i : Nat) (e : Place), (β.set k pl')[i]? = some e → (i = k ∧ e = pl') ∨ (i ≠ k ∧ β[i]? = some e) := by
    intro i e h
    by_cases hi : i = k
    · subst hi
      rw [List.getElem?_set_self hkl] at h
      exact .inl ⟨rfl, by simpa using h.symm⟩
    · rw [List.getElem?_set_ne (Ne.symm hi)] at h
      exact .inr ⟨hi, h⟩
  have hget : ∀ (i : Nat) (y : Box), ((Hp.clean k H).set k (some ⟨cs, x.e, x.sz⟩))[i]? = some (some y) → (i = k ∧ y = ⟨cs, x.e, x.sz⟩) ∨ (i ≠ k ∧ ∃ z, H[i]? = some (some z) ∧ y = ⟨D.cleanL k z.cs, z.e, z.sz⟩) := by
    intro i y h
    by_cases hi : i = k
    · subst hi
      rw [List.getElem?_set_self (by rw [Hp.clean_len]; exact hkH)] at h
      exact .inl ⟨rfl, by simpa using h.symm⟩
    · rw [List.getElem?_set_ne (Ne.symm hi)] at h
      exact .inr ⟨hi, Hp.clean_get h⟩
  have hlive : ∀ (i : Nat) (y : Box), ((Hp.clean k H).set k (some ⟨cs, x.e, x.sz⟩))[i]? = some (some y) → ∃ z, H[i]? = some (some z) := by
    intro i y h
    rcases hget i y h with ⟨rfl, _⟩ | ⟨_, z, h, _⟩
    · exact ⟨x, hx⟩
    · exact ⟨z, h⟩
  refine ⟨fun b => S b ∧ ∀ b' q', pl' = some (b', q') → b ≠ b', ⟨⟨fun b hb => ⟨hH.up b (Nat.le_trans hsz hb), fun b' q' h => ?_⟩, ?_, by simp [hH.len, Hp.clean_len], ?_⟩, fun b hb => hH.sub b hb.1, ?_, ?_, fun i e hi h => hβ i e (fun hik => hi (by rw [hik]; exact hdead (by rw [← hik]; exact (List.getElem?_eq_some_iff.1 h).1))) (hH.keep i e hi h), by rw [List.length_set]; exact hH.klen, fun b hb hl => ?_, hos.trans hH.os, htape.trans hH.tape, hout.trans hH.output, Nat.le_trans hH.size hsz⟩, he, hS, fun b h => h.1⟩
  · rcases hrow.2 with ⟨h1, _⟩ | ⟨b1, c1, cur, h1, _, h2, _⟩
    · rw [h1] at h; cases h
    · rw [h1] at h
      simp only [Option.some.injEq, Prod.mk.injEq] at h
      have := (Array.getElem?_eq_some_iff.1 h2).1
      omega
  · intro i y hy
    rcases hget i y hy with ⟨rfl, rfl⟩ | ⟨hik, z, hz, rfl⟩
    · subst hcs
      have hr' : D.RepL (β.set i pl') (fun b => S b ∧ ∀ b' q', pl' = some (b', q') → b ≠ b') w' (cs0.map D.p) xs := D.RepL.p (hr.mono he hS)
      rcases hrow.2 with ⟨h1, h2, _⟩ | ⟨b1, c1, cur, h1, _, h2, h3, h4, h5⟩
      · refine .inl ⟨by rw [List.getElem?_set_self hkl, h1], hxz, ?_⟩
        have hl := hrow.1
        rw [h2, Nat.zero_mul] at hl
        have := hr'.len
        rw [hl] at this
        exact List.eq_nil_of_length_eq_zero this.symm
      · exact .inr ⟨b1, c1, cur, xs, by rw [List.getElem?_set_self hkl, h1], fun h => h.2 b1 c1 h1 rfl, h2, hr', h5, fun h => absurd h hxz, fun _ => ⟨h3, h4⟩⟩
    · rcases hH.box i z hz with ⟨h1, h2, h3⟩ | ⟨b1, c1, cur, us, h1, h2, h3, h4, h5, h6⟩
      · exact .inl ⟨hβ i _ hik h1, h2, by rw [h3]; rfl⟩
      · have hlt := (Array.getElem?_eq_some_iff.1 h3).1
        have hbne : ∀ b r, pl = some (b, r) → b1 ≠ b := by
          rintro b r h rfl
          exact hik (hH.inj i k z x b1 c1 r hz hx h1 (h ▸ hpl))
        refine .inr ⟨b1, c1, cur, us, hβ i _ hik h1, fun h => h2 h.1, by rw [hkeep b1 hlt hbne]; exact h3, D.RepL.clean hβ he hS h4, h5, ?_⟩
        simpa using h6
  · intro i j y z b p q hy hz hi hj
    obtain ⟨y', hy'⟩ := hlive i y hy
    obtain ⟨z', hz'⟩ := hlive j z hz
    rcases hβ2 i _ hi with ⟨rfl, h1⟩ | ⟨h0, h1⟩ <;> rcases hβ2 j _ hj with ⟨rfl, h2⟩ | ⟨h3, h2⟩
    · rfl
    · exfalso
      rcases hnew b p h1.symm with h | ⟨r, h⟩
      · have := ((hH.box j z' hz').lt h2).1; omega
      · exact h3 (hH.inj j i z' x b q r hz' hx h2 (h ▸ hpl))
    · exfalso
      rcases hnew b q h2.symm with h | ⟨r, h⟩
      · have := ((hH.box i y' hy').lt h1).1; omega
      · exact h0 (hH.inj i j y' x b p r hy' hx h1 (h ▸ hpl))
    · exact hH.inj i j y' z' b p q hy' hz' h1 h2
  · intro i b q hi
    rcases hβ2 i _ hi with ⟨rfl, h1⟩ | ⟨_, h1⟩
    · rcases hnew b q h1.symm with h | ⟨r, h⟩
      · exact .inl (Nat.le_trans hH.size h)
      · exact hH.own i b r (h ▸ hpl)
    · exact hH.own i b q h1
  · intro b hb hn
    rw [hkeep b (Nat.lt_of_lt_of_le hb hH.size) ?_]
    · exact hH.fr b hb hn
    · rintro b' r h rfl
      rcases hH.own k b r (h ▸ hpl) with h' | ⟨q0, h'⟩
      · omega
      · rcases hn with hro | hn
        · have h1 := (List.getElem?_eq_some_iff.1 h').1
          have h2 := hwr hro
          omega
        · exact hn k q0 h'
  · obtain ⟨h1, h2⟩ := hH.keepS b hb hl
    have hlw := Nat.lt_of_lt_of_le hl hH.size
    exact ⟨(he b h2 hlw).trans h1, hS b h2 hlw⟩
theorem HSt.grow (hH : HSt c H β S w) {k : Nat} {x : Box} (hx : H[k]? = some (some x)) (hxz : x.sz ≠ 0) {pl pl' : Place} (hpl : β[k]? = some pl) {v' : Value} {m : Nat} {xs : List Value} {cs : List D} {cs0 : List V} (hrow : RowAt w' x.e x.sz pl' v' m xs)
    (hr : V.RepL S w cs0 xs) (hcs : cs = cs0.map D.p) (hos : w'.os = w.os) (htape : w'.tape = w.tape) (hout : w'.output = w.output) (hsz : w.heap.size ≤ w'.heap.size)
    (hkeep : ∀ q, q < w.heap.size → (∀ b r, pl = some (b, r) → q ≠ b) → w'.heap[q]? = w.heap[q]?) (hnew : ∀ b' q', pl' = some (b', q') → w.heap.size ≤ b' ∨ ∃ q, pl = some (b', q))
    (hwr : c.ro = true → c.β0.length ≤ k) (hdead : k < c.β0.length → k ∈ c.dead) : ∃ S', HSt c ((Hp.clean k H).set k (some ⟨cs, x.e, x.sz⟩)) (β.set k pl') S' w' ∧ (∀ b, S b → b < w.heap.size → w'.heap[b]? = w.heap[b]?) ∧ (∀ b, S b → b < w.heap.size → S' b) := by
  obtain ⟨S', h1, h2, h3, _⟩ := HSt.grow4 hH hx hxz hpl hrow hr hcs hos htape hout hsz hkeep hnew hwr hdead
  exact ⟨S', h1, h2, h3⟩
end
theorem V.RepL.one {S : Nat → Prop} {w : World} : ∀ {ds : List V} {us : List Value}, V.RepL S w ds us → (∀ d ∈ ds, d.one = true) → ∀ u ∈ us, u.oneCell' = true
  | [], _, h, _, u, hu => by simp only [V.RepL] at h; subst h; cases hu
  | d :: ds, _, ⟨y, ys, h1, h2, h3⟩, ha, u, hu => by
    subst h1
    rcases List.mem_cons.1 hu with rfl | hu
    · exact h2.one (ha d List.mem_cons_self)
    · exact V.RepL.one h3 (fun d hd => ha d (List.mem_cons_of_mem _ hd)) u hu
section
variable {P : Program} {c : Ctx} {n : Nat} {ops : Array Oper} {Q : Exit → St → Prop} {rest : List Oper} {t0 : Tmp} {ty : TypeId} {pos : String} {af : Array Edge} {tm : List (Nat × Bool × D)} {H : List (Option Box)}
theorem flat_len {α : Type} {enc : α → List V} {sz : Nat} (h : ∀ q, (enc q).length = sz) : ∀ l : List α, (l.flatMap enc).length = l.length * sz
  | [] => by simp
  | q :: l => by rw [List.flatMap_cons, List.length_append, h, flat_len h l, List.length_cons, Nat.add_mul]; omega
theorem D.RepL.ofP {β : List Place} {S : Nat → Prop} {w : World} : ∀ {l : List V} {us : List Value}, D.RepL β S w (l.map D.p) us → V.RepL S w l us
  | [], _, h => h
  | _ :: _, _, ⟨y, ys, h1, h2, h3⟩ => ⟨y, ys, h1, h2, D.RepL.ofP h3⟩
/-- append onto a row -/
theorem SymL.append {α : Type} (enc : α → List V) (l m : List α) {t e : TypeId} {i j : TypeInfo} {u : TypeDesc} {z : Value} {x y : Operand} {k : Nat} {dy : D} {bz : Nat} [h : TyI P t i (.slice e)] [h' : TyI P e j u] (hx : Ev ⟨tm, H⟩ true x (.row k l.length)) (hy : Ev ⟨tm, H⟩ true y dy) (hdv : DV dy (V.list enc m))
    (hb : H[k]? = some (some ⟨D.enc enc l, e, bz⟩)) (hbz : bz = j.size) (hz : j.zero = some z) (hzs : Nat.beq z.cells.size j.size = true) (hpos : Nat.blt 0 j.size = true) (hby : Nat.ble j.bytes 1000 = true) (hsz : ∀ q, (enc q).length = j.size) (hone : ∀ q, ∀ v ∈ enc q, v.one = true) (ht : Nat.blt t0 n = true) (hnm : l.length + m.length ≤ 1000000000) (hwr : c.ro = true → c.β0.length ≤ k) (hdead : k < c.β0.length → k ∈ c.dead)
    {H' : List (Option Box)} {tm' : List (Nat × Bool × D)} (hH' : (Hp.clean k H).set k (some ⟨D.enc enc (l ++ m), e, bz⟩) = H') (htm : TM.clean k tm = tm')
    (kk : SymL P c n ops Q rest ⟨(t0, true, .row k (l ++ m).length) :: tm', H'⟩) :
    SymL P c n ops Q (⟨some t0, .call { callee := .builtin .append, args := #[x, y], argTypes := #[t, t] }, ty, pos, af, none⟩ :: rest) ⟨tm, H⟩ := by
  subst hH'; subst htm; subst hbz
  rintro a w ⟨β, S, hH, hd, hn, he⟩
  refine wpList_plain rfl fun K hK => ?_
  have hpos : 0 < j.size := by simpa using hpos
  have hzs : z.cells.size = j.size := by simpa using hzs
  have hby : j.bytes ≤ 1000 := by simpa using hby
  have hrx := hx.rep (l := #[x, y]) (by simp) (fun t _ => he t) rfl
  have hry := hdv.rep (hy.rep (l := #[x, y]) (by simp) (fun t _ => he t) rfl)
  obtain ⟨ad, cc, news, e1, e2, e3, e4, e5⟩ := hry
  have hone' : ∀ (q : List α), ∀ v ∈ q.flatMap enc, v.one = true := fun q v hv => by
    obtain ⟨y, _, hy⟩ := List.mem_flatMap.1 hv
    exact hone y v hy
  have hnl : news.length = m.length * j.size := by rw [e4.len, flat_len hsz]
  have hbox := hH.box k _ hb
  obtain ⟨pl, xs, hpl, hrow, hrep⟩ : ∃ pl xs, β[k]? = some pl ∧ RowAt w e j.size pl (a.eval x) l.length xs ∧ V.RepL S w (l.flatMap enc) xs := by
    rcases hbox with ⟨h1, h2, h3⟩ | ⟨b, q, cur, us, h1, h2, h3, h4, h5, h6, h7⟩
    · rcases hrx with ⟨k1, k2, k3⟩ | ⟨b, q, k1, _, _⟩
      · have : l = [] := List.eq_nil_of_length_eq_zero k2
        subst this
        exact ⟨none, [], h1, ⟨by simp, .inl ⟨rfl, rfl, k3⟩⟩, rfl⟩
      · rw [h1] at k1; cases k1
    · rcases hrx with ⟨k1, _⟩ | ⟨b', q', k1, _, k2⟩
      · rw [h1] at k1; cases k1
      · rw [h1] at k1
        simp only [Option.some.injEq, Prod.mk.injEq] at k1
        obtain ⟨rfl, rfl⟩ := k1
        have h8 := h7 (by simp; omega)
        have hv := D.RepL.ofP h4
        exact ⟨some (b, q), us, h1, ⟨by rw [hv.len, flat_len hsz], .inr ⟨b, q, cur, rfl, k2, h3, h8.1, h8.2, h5⟩⟩, hv⟩
  obtain ⟨v', w', pl', hrun, r1, r2, r3, r4, r5, r6, r7⟩ := run_appendRow (P := P) (t := t) (e := e) hz hzs hpos hby ty hrow (ad := ad) (m := m.length) (c := cc) hnl (fun q y hq => by
    obtain ⟨b, o, h1, h2, _⟩ := e5 q y hq
    exact ⟨b, o, h1, h2⟩) (e4.one (hone' m)) hnm e2
  have hflat : (l ++ m).flatMap enc = l.flatMap enc ++ m.flatMap enc := List.flatMap_append ..
  obtain ⟨S', g1, g2, g3⟩ := hH.grow hb (by show j.size ≠ 0; omega) hpl r1 (hrep.app e4) (cs := D.enc enc (l ++ m)) (by rw [D.enc, hflat]) r2 r3 r4 r5 r6 r7 hwr hdead
  refine wp_value (v := v') (w' := w') ?_ (hK _ _ (kk _ _ ?_))
  · simp only [execOp, resolve, invoke, builtin, Sem.run_bind, Sem.run_pure, Result.andThen_ok, List.map_toArray, List.map_cons, List.map_nil, e1, hrun]
  · have hkl : k < β.length := (List.getElem?_eq_some_iff.1 hpl).1
    have hlt : t0 < n := by simpa using ht
    refine ⟨_, S', g1, hd, by rw [size_put, hn], EntAt.put (s := ⟨TM.clean k tm, _⟩) (dst := some t0) ?_ (fun t' h => by injection h with h; rw [hn, ← h]; exact hlt) ⟨fun _ => ?_, fun h => by cases h⟩⟩
    · intro t' g' d' hg
      obtain ⟨d0, h1, rfl⟩ := TM.clean_get hg
      obtain ⟨k1, k2, k3⟩ := he t' g' d0 h1
      exact ⟨k1, fun hg => (k2 hg).clean (fun i e hne h => by rw [List.getElem?_set_ne (Ne.symm hne)]; exact h) g2 g3, k3⟩
    · rw [List.length_append]
      rcases r1.2 with ⟨h1, h2, h3⟩ | ⟨b, q, cur, h1, h2, _, h4, _, h5⟩
      · exact .inl ⟨by rw [List.getElem?_set_self hkl, h1], h2, h3⟩
      · refine .inr ⟨b, q, by rw [List.getElem?_set_self hkl, h1], ?_, h2⟩
        have h6 := r1.1
        have h7 := h5.length_le
        have h8 : cur.toList.length = cur.size := Array.length_toList
        rw [h6, h8, h4] at h7
        exact Nat.le_of_mul_le_mul_right h7 hpos
end
end Go.Sy
set_option linter.unusedSimpArgs false
set_option linter.unusedVariables false
namespace Go.Sy
open Go.RowKit

section
variable {c : Ctx} {n : Nat} {tm : List (Nat × Bool × D)} {H : List (Option Box)}
theorem HSt.ghost {β : List Place} {S : Nat → Prop} {w : World} (hH : HSt c H β S w) {e : TypeId} {sz : Nat} (hz : sz ≠ 0) : HSt c (H ++ [some ⟨[], e, sz⟩]) (β ++ [none]) S w ∧ (∀ (i : Nat) (p : Place), β[i]? = some p → (β ++ [none])[i]? = some p) := by
  have hβ : ∀ (i : Nat) (e : Place), β[i]? = some e → (β ++ [none])[i]? = some e := fun i e h => by
    rw [List.getElem?_append_left (List.getElem?_eq_some_iff.1 h).1]; exact h
  have hgetβ : ∀ (i : Nat) (b q : Nat), (β ++ [none])[i]? = some (some (b, q)) → β[i]? = some (some (b, q)) := by
    intro i b q h
    rw [List.getElem?_append] at h
    split at h
    · exact h
    · rename_i hge
      rcases Nat.lt_or_ge β.length i with h' | h'
      · rw [List.getElem?_eq_none (by simp; omega)] at h; cases h
      · rw [show i - β.length = 0 by omega] at h; simp at h
  have hgetH : ∀ (i : Nat) (x : Box), (H ++ [some ⟨[], e, sz⟩])[i]? = some (some x) → H[i]? = some (some x) ∨ i = β.length ∧ x = ⟨[], e, sz⟩ := by
    intro i x h
    rw [List.getElem?_append] at h
    split at h
    · exact .inl h
    · rename_i hge
      have : i = H.length := by
        rcases Nat.lt_or_ge H.length i with h' | h'
        · rw [List.getElem?_eq_none (by simp; omega)] at h; cases h
        · omega
      subst this
      simp at h
      exact .inr ⟨hH.len.symm, h.symm⟩
  refine ⟨⟨⟨hH.up, fun i x hx => ?_, by simp [hH.len], fun i j x y b p q hx hy hi hj => ?_⟩, hH.sub, fun i b q hi => hH.own i b q (hgetβ i b q hi), hH.fr, fun i e hi h => hβ i e (hH.keep i e hi h), by rw [List.length_append]; exact Nat.le_add_right_of_le hH.klen, hH.keepS, hH.os, hH.tape, hH.output, hH.size⟩, hβ⟩
  · rcases hgetH i x hx with h | ⟨rfl, rfl⟩
    · exact (hH.box i x h).mono hβ (fun b c' hb => ⟨rfl, ((hH.box i x h).lt hb).2⟩) (fun _ _ _ => rfl) fun _ h _ => h
    · exact .inl ⟨by simp, hz, rfl⟩
  · have h1 := hgetβ i b p hi
    have h2 := hgetβ j b q hj
    rcases hgetH i x hx with h | ⟨rfl, rfl⟩
    · rcases hgetH j y hy with k | ⟨rfl, rfl⟩
      · exact hH.inj i j x y b p q h k h1 h2
      · have := (List.getElem?_eq_some_iff.1 h2).1; omega
    · have := (List.getElem?_eq_some_iff.1 h1).1; omega
/-- nil, or an empty literal, as a row -/
theorem Le.asRow (t : Tmp) (e : TypeId) (sz : Nat) {d : D} (h : TM.get tm t = some (true, d)) (hd : (match d with | .p (.x (.slice none 0 0)) => true | .p (.fl 0 _) => true | _ => false) = true) (hz : Nat.blt 0 sz = true) {H' : List (Option Box)} {m : Nat} (hm : H.length = m) (hH' : H ++ [some ⟨[], e, sz⟩] = H') : Le c ⟨tm, H⟩ ⟨(t, true, .row m 0) :: tm, H'⟩ := by
  subst hm; subst hH'
  rintro n a w ⟨β, S, hH, hdf, hn, he⟩
  have hz : 0 < sz := by simpa using hz
  obtain ⟨h1, h2⟩ := hH.ghost (e := e) (show sz ≠ 0 by omega)
  refine ⟨_, S, h1, hdf, hn, fun t' g d' hg => ?_⟩
  rw [TM.get_cons] at hg
  split at hg
  · rename_i e
    subst e
    simp only [Option.some.injEq, Prod.mk.injEq] at hg
    obtain ⟨rfl, rfl⟩ := hg
    obtain ⟨k1, k2, _⟩ := he t true d h
    refine ⟨k1, fun _ => .inl ⟨by rw [← hH.len]; simp, rfl, ?_⟩, fun h => by cases h⟩
    have hr := k2 rfl
    split at hd
    · exact ⟨none, hr⟩
    · obtain ⟨a', us, h3, _⟩ := hr
      exact ⟨a', h3⟩
    · cases hd
  · obtain ⟨k1, k2, k3⟩ := he t' g d' hg
    exact ⟨k1, fun hg => (k2 hg).mono h2 (fun _ _ _ => rfl) fun _ h _ => h, k3⟩
end
section
variable {P : Program} {w : World} {t e : TypeId} {i j : TypeInfo} {u : TypeDesc} {z : Value}
/-- append onto a slice without room, of something -/
theorem run_appendFull [h : TyI P t i (.slice e)] [h' : TyI P e j u] (hz : j.zero = some z) (hzs : z.cells.size = j.size) (hpos : 0 < j.size) (hby : j.bytes ≤ 1000) (ty : TypeId) {a : Option Addr} {n : Nat} {xs : List Value} (hxl : xs.length = n * j.size)
    (hxs : ∀ q y, xs[q]? = some y → ∃ b o, a = some ⟨b, o, none⟩ ∧ w.cell? ⟨b, o + q, none⟩ = some y) (hnil : a = none → n = 0)
    {ad : Option Addr} {m c : Nat} {news : List Value} (hl : news.length = m * j.size) (hnews : ∀ q y, news[q]? = some y → ∃ b o, ad = some ⟨b, o, none⟩ ∧ w.cell? ⟨b, o + q, none⟩ = some y) (hm : 0 < m) (hnm : n + m ≤ 1000000000) :
    ∃ cap cur, (Builtin.append_ #[t, t] ty #[.slice a n n, .slice ad m c]).run P w = .ok (.slice (some ⟨w.heap.size, 0, none⟩) (n + m) cap) (w.drew.alloc (.cells cur e)) ∧ n + m ≤ cap ∧ cap ≤ maxLen ∧ cur.size = cap * j.size ∧ (xs ++ news) <+: cur.toList := by
  have hbytes : (n + m) * j.bytes ≤ 140737488355328 := Nat.le_trans (Nat.mul_le_mul hnm hby) (by decide)
  have hnmM : n + m ≤ maxLen := by simp only [maxLen]; omega
  have hlen : (xs ++ news).length = (n + m) * j.size := by rw [List.length_append, hxl, hl, Nat.add_mul]
  have hne : ∃ y, news[0]? = some y := by
    have : 0 < news.length := by rw [hl]; exact Nat.mul_pos hm hpos
    exact ⟨_, List.getElem?_eq_getElem this⟩
  obtain ⟨y0, hy0⟩ := hne
  obtain ⟨b0, o0, rfl, _⟩ := hnews 0 y0 hy0
  have hn' : ∀ q y, news[q]? = some y → w.cell? ((⟨b0, o0, none⟩ : Addr).add q) = some y := by
    intro q y hq
    obtain ⟨b, o, hbo, hc⟩ := hnews q y hq
    injection hbo with hbo
    injection hbo with e1 e2
    subst e1; subst e2
    rw [add_lit]; exact hc
  cases a with
  | none =>
    obtain rfl := hnil rfl
    have hxs0 : xs = [] := List.eq_nil_of_length_eq_zero (by simpa using hxl)
    subst hxs0
    have hg := grownCap_ge w m 0 e
    have hcm : grownCap w m 0 e ≤ maxLen := grownCap_le_maxLen w m 0 e (by omega)
    obtain ⟨k1, k2⟩ := new_cur (zs := z.cells) hl hzs hg
    refine ⟨_, _, ?_, by omega, hcm, k1, k2⟩
    have := run_append_nil (P := P) w t ty e j z h.ut h'.ti hz ⟨b0, o0, none⟩ m c news hl hn' hm (by omega) (by simp only [Nat.zero_add] at hbytes; omega)
    rw [Nat.zero_add]
    exact this
  | some ad0 =>
    have hg := grownCap_ge w (n + m) n e
    have hcm : grownCap w (n + m) n e ≤ maxLen := grownCap_le_maxLen w (n + m) n e hnmM
    obtain ⟨k1, k2⟩ := new_cur (zs := z.cells) hlen hzs hg
    refine ⟨_, _, ?_, hg, hcm, k1, k2⟩
    have holds : ∀ q y, xs[q]? = some y → w.cell? (ad0.add q) = some y := by
      intro q y hq
      obtain ⟨b, o, hbo, hc⟩ := hxs q y hq
      injection hbo with hbo
      subst hbo
      rw [add_lit]; exact hc
    have := run_append_grow (P := P) w t ty e j z h.ut h'.ti hz ad0 n n xs hxl holds ⟨b0, o0, none⟩ m c news hl hn' (by omega) (by omega) (growslice_fits (by omega) hbytes)
    simpa using this
end
section
variable {P : Program} {s : St} {g : Bool} {dst : Option Tmp} {ty : TypeId} {pos : String} {af : Array Edge} {gd : Option (Nat × Bool)}
/-- append onto a literal, or nil: new memory, and nothing else -/
theorem MOp.append {α : Type} (enc : α → List V) (l m : List α) {t e : TypeId} {i j : TypeInfo} {u : TypeDesc} {z : Value} {x y : Operand} {dx dy : D} [h : TyI P t i (.slice e)] [h' : TyI P e j u] (hx : Ev s g x dx) (hdx : DV dx (.fl l.length (l.flatMap enc))) (hy : Ev s g y dy) (hdv : DV dy (V.list enc m))
    (hz : j.zero = some z) (hzs : Nat.beq z.cells.size j.size = true) (hpos : Nat.blt 0 j.size = true) (hby : Nat.ble j.bytes 1000 = true) (hsz : ∀ q, (enc q).length = j.size) (hnm : g = true → l.length + m.length ≤ 1000000000) :
    MOp P s ⟨dst, .call { callee := .builtin .append, args := #[x, y], argTypes := #[t, t] }, ty, pos, af, gd⟩ g (.p (V.list enc (l ++ m))) := by
  refine ⟨fun β S a w ho he hg K Q hK => ?_⟩
  have hpos : 0 < j.size := by simpa using hpos
  have hzs : z.cells.size = j.size := by simpa using hzs
  have hby : j.bytes ≤ 1000 := by simpa using hby
  have hnm := hnm hg
  have hm : ∀ o ∈ ([x, y] : List Operand), o ∈ (Op.call { callee := .builtin .append, args := #[x, y], argTypes := #[t, t] }).operands := by simp [Op.operands, Call.operands]
  have hrx := hdx.rep (hx.rep (hm x (by simp)) he hg)
  have hry := hdv.rep (hy.rep (hm y (by simp)) he hg)
  obtain ⟨ax, xs, ex, ex2, ex3, ex4⟩ := hrx
  obtain ⟨ad, cc, news, e1, e2, e3, e4, e5⟩ := hry
  have hxl : xs.length = l.length * j.size := by rw [ex3.len, flat_len hsz]
  have hnl : news.length = m.length * j.size := by rw [e4.len, flat_len hsz]
  have hcellx : ∀ q y, xs[q]? = some y → ∃ b o, ax = some ⟨b, o, none⟩ ∧ w.cell? ⟨b, o + q, none⟩ = some y := fun q y hq => by
    obtain ⟨b, o, h1, h2, _⟩ := ex4 q y hq
    exact ⟨b, o, h1, h2⟩
  have hflat : (l ++ m).flatMap enc = l.flatMap enc ++ m.flatMap enc := List.flatMap_append ..
  rcases Nat.eq_zero_or_pos m.length with h0 | h0
  · have hm0 : m = [] := List.eq_nil_of_length_eq_zero h0
    subst hm0
    refine wp_value (v := a.eval x) (w' := w) ?_ (hK _ w (Ext.refl w) ?_)
    · have : (Builtin.append_ #[t, t] ty #[.slice ax l.length l.length, .slice ad 0 cc]).run P w = .ok (.slice ax l.length l.length) w := by
        cases ad <;> cases ax <;> simp [Builtin.append_, run_underlying h.ut, sizeOf, typeInfo, h'.ti, Builtin.lenOf, Builtin.firstCells, loadCells, loadCellsFrom, storeCells]
      simp only [execOp, resolve, invoke, builtin, Sem.run_bind, Sem.run_pure, Result.andThen_ok, List.map_toArray, List.map_cons, List.map_nil, e1, ex, List.length_nil, this]
    · rw [ex, List.append_nil]
      exact ⟨ax, _, xs, rfl, Nat.le_refl _, ex2, ex3, ex4⟩
  · have hnil : ax = none → l.length = 0 := by
      rintro rfl
      rcases Nat.eq_zero_or_pos l.length with h | h
      · exact h
      · have : 0 < xs.length := by rw [hxl]; exact Nat.mul_pos h hpos
        obtain ⟨b, o, h1, _⟩ := hcellx 0 _ (List.getElem?_eq_getElem this)
        cases h1
    obtain ⟨cap, cur, hrun, r1, r2, r3, r4⟩ := run_appendFull (P := P) (t := t) (e := e) hz hzs hpos hby ty hxl hcellx hnil (ad := ad) (m := m.length) (c := cc) hnl (fun q y hq => by
      obtain ⟨b, o, h1, h2, _⟩ := e5 q y hq
      exact ⟨b, o, h1, h2⟩) h0 hnm
    have hx1 : Ext w (w.drew.alloc (.cells cur e)) := ((Ext.refl w).drew).alloc _
    refine wp_value (v := .slice (some ⟨w.heap.size, 0, none⟩) (l.length + m.length) cap) (w' := w.drew.alloc (.cells cur e)) ?_ (hK _ _ hx1 ?_)
    · simp only [execOp, resolve, invoke, builtin, Sem.run_bind, Sem.run_pure, Result.andThen_ok, List.map_toArray, List.map_cons, List.map_nil, e1, ex, hrun]
    · refine ⟨_, cap, xs ++ news, by rw [List.length_append], by rw [List.length_append]; exact r1, r2, ?_, ?_⟩
      · rw [hflat]
        exact (ex3.ext hx1).app (e4.ext hx1)
      · intro q y hq
        refine ⟨w.heap.size, 0, rfl, ?_, ho.up _ (Nat.le_refl _)⟩
        have h9 := prefix_get r4 hq
        have := World.news_of_block (heap_alloc_new w.drew (.cells cur e)) q y h9
        rw [add_lit] at this
        simpa using this
/-- a row's length -/
theorem MOp.lenRow {x : Operand} {t e : TypeId} {i : TypeInfo} {k m : Nat} [h : TyI P t i (.slice e)] (hx : Ev s g x (.row k m)) :
    MOp P s ⟨dst, .call { callee := .builtin .len, args := #[x], argTypes := #[t] }, ty, pos, af, gd⟩ g (.p (.i m)) :=
  MOp.of1 hx (by simp [Op.operands, Call.operands]) fun β S w ρ _ hr => by
    refine ⟨.int .i64 m, ?_, rfl⟩
    rcases hr with ⟨_, rfl, a, h1⟩ | ⟨b, c, _, _, h1⟩ <;> simp [execOp, resolve, invoke, builtin, h1, Builtin.len_, run_underlying h.ut, goInt]
/-- &row[n] -/
theorem MOp.indexRow {x y : Operand} {t e : TypeId} {i j : TypeInfo} {u : TypeDesc} {k m : Nat} {kk : IntKind} {q : Int} [h : TyI P t i (.slice e)] [h' : TyI P e j u] (hx : Ev s g x (.row k m)) (hy : Ev s g y (.p (.x (.int kk q)))) (hb : g = true → 0 ≤ q ∧ q < m) :
    MOp P s ⟨dst, .indexAddr t x y, ty, pos, af, gd⟩ g (.ptr k (q.toNat * j.size)) := by
  refine ⟨fun β S a w ho he hg K Q hK => ?_⟩
  obtain ⟨b1, b2⟩ := hb hg
  have r1 := hx.rep (l := (Op.indexAddr t x y).operands) (by simp [Op.operands]) he hg
  have r2 : a.eval y = .int kk q := hy.rep (l := (Op.indexAddr t x y).operands) (by simp [Op.operands]) he hg
  rcases r1 with ⟨_, rfl, _⟩ | ⟨b, c, h1, _, h2⟩
  · omega
  · refine wp_value (v := .pointer (some ⟨b, q.toNat * j.size, none⟩)) (w' := w) ?_ (hK _ w (Ext.refl w) ⟨b, c, h1, rfl⟩)
    simp [execOp, h2, r2, Instr.indexAt, asIntOf, run_underlying h.ut, b1, b2, run_sizeOf' h'.ti, add_lit]
end
/-! ### a row that no longer changes -/
section
variable {c : Ctx} {n : Nat} {tm : List (Nat × Bool × D)} {H : List (Option Box)}
theorem SR.freeze {α : Type} (enc : α → List V) {l : List α} {t : Tmp} {k : Nat} {e : TypeId} {sz : Nat} {a : Act} {w : World} (h : TM.get tm t = some (true, .row k l.length)) (hb : H[k]? = some (some ⟨D.enc enc l, e, sz⟩)) (hz : Nat.blt 0 sz = true) (hk : c.β0.length ≤ k) (hr : SR c n ⟨tm, H⟩ a w) :
    SR c n ⟨(t, true, .p (V.list enc l)) :: TM.clean k tm, (Hp.clean k H).set k none⟩ a w := by
  have hz : 0 < sz := by simpa using hz
  obtain ⟨β, S, hH, hd, hn, he⟩ := hr
  have hkH : k < H.length := (List.getElem?_eq_some_iff.1 hb).1
  have hS : ∀ b, S b → b < w.heap.size → S b ∨ ∃ q, β[k]? = some (some (b, q)) := fun b hb _ => .inl hb
  have hget : ∀ (i : Nat) (y : Box), ((Hp.clean k H).set k none)[i]? = some (some y) → i ≠ k ∧ ∃ z, H[i]? = some (some z) ∧ y = ⟨D.cleanL k z.cs, z.e, z.sz⟩ := by
    intro i y h
    by_cases hi : i = k
    · subst hi
      rw [List.getElem?_set_self (by rw [Hp.clean_len]; exact hkH)] at h
      simp at h
    · rw [List.getElem?_set_ne (Ne.symm hi)] at h
      exact ⟨hi, Hp.clean_get h⟩
  refine ⟨β, fun b => S b ∨ ∃ q, β[k]? = some (some (b, q)), ⟨⟨fun b hb => .inl (hH.up b hb), ?_, by simp [hH.len, Hp.clean_len], ?_⟩, ?_, hH.own, hH.fr, hH.keep, hH.klen, fun b hb hl => ⟨(hH.keepS b hb hl).1, .inl (hH.keepS b hb hl).2⟩, hH.os, hH.tape, hH.output, hH.size⟩, hd, hn, ?_⟩
  · intro i y hy
    obtain ⟨hik, z, hz, rfl⟩ := hget i y hy
    rcases hH.box i z hz with ⟨h1, h2, h3⟩ | ⟨b1, c1, cur, us, h1, h2, h3, h4, h5, h6⟩
    · exact .inl ⟨h1, h2, by rw [h3]; rfl⟩
    · refine .inr ⟨b1, c1, cur, us, h1, ?_, h3, D.RepL.clean (fun _ _ _ h => h) (fun _ _ _ => rfl) hS h4, h5, by simpa using h6⟩
      rintro (h | ⟨q, h⟩)
      · exact h2 h
      · exact hik (hH.inj i k z _ b1 c1 q hz hb h1 h)
  · intro i j y z b p q hy hz hi hj
    obtain ⟨_, y', hy', _⟩ := hget i y hy
    obtain ⟨_, z', hz', _⟩ := hget j z hz
    exact hH.inj i j y' z' b p q hy' hz' hi hj
  · rintro b (h | ⟨q, h⟩)
    · exact hH.sub b h
    · rcases hH.own k b q h with h | ⟨q0, h⟩
      · exact .inr h
      · have := (List.getElem?_eq_some_iff.1 h).1
        omega
  · intro t' g' d' hg
    rw [TM.get_cons] at hg
    split at hg
    · rename_i e
      subst e
      simp only [Option.some.injEq, Prod.mk.injEq] at hg
      obtain ⟨rfl, rfl⟩ := hg
      obtain ⟨k1, k2, _⟩ := he t true _ h
      refine ⟨k1, fun _ => ?_, fun h => by cases h⟩
      show (V.list enc l).Rep _ w _
      rcases k2 rfl with ⟨h1, h2, a', h3⟩ | ⟨b, q, h1, h2, h3⟩
      · have : l = [] := List.eq_nil_of_length_eq_zero h2
        subst this
        exact ⟨a', 0, [], h3, Nat.le_refl _, by simp [maxLen], rfl, Cells.nil⟩
      · rcases hH.box k _ hb with ⟨h4, _⟩ | ⟨b', q', cur, us, h4, h5, h6, h7, h8, h9, h10⟩
        · rw [h1] at h4; cases h4
        · rw [h1] at h4
          simp only [Option.some.injEq, Prod.mk.injEq] at h4
          obtain ⟨rfl, rfl⟩ := h4
          have hv := (D.RepL.ofP h7).mono (S' := fun b => S b ∨ ∃ q, β[k]? = some (some (b, q))) (w' := w) (fun _ _ _ => rfl) hS
          refine ⟨_, q, us, h3, h2, (h10 (by show sz ≠ 0; omega)).2, hv, fun j y hj => ⟨b, 0, rfl, ?_, .inr ⟨q, h1⟩⟩⟩
          have h11 := prefix_get h8 hj
          simp [World.cell?, h6]
          simpa using h11
    · obtain ⟨d0, h1, rfl⟩ := TM.clean_get hg
      obtain ⟨k1, k2, k3⟩ := he t' g' d0 h1
      exact ⟨k1, fun hg => (k2 hg).clean (fun _ _ _ h => h) (fun _ _ _ => rfl) hS, k3⟩
section
variable {P : Program} {α : Type} {code : Code} {ops : Array Oper} {l' : List Oper} {Q : Exit → St → Prop}
theorem SymL.freeze (enc : α → List V) (t : Tmp) (l : List α) {k : Nat} {e : TypeId} {sz : Nat} (h : TM.get tm t = some (true, .row k l.length)) (hb : H[k]? = some (some ⟨D.enc enc l, e, sz⟩)) (hz : Nat.blt 0 sz = true) (hk : c.β0 = []) {H' : List (Option Box)} {tm' : List (Nat × Bool × D)} (hH' : (Hp.clean k H).set k none = H') (htm : TM.clean k tm = tm')
    (kk : SymL P c n ops Q l' ⟨(t, true, .p (V.list enc l)) :: tm', H'⟩) : SymL P c n ops Q l' ⟨tm, H⟩ := fun a w hr => by
  subst hH'; subst htm
  exact kk a w (SR.freeze enc h hb hz (by rw [hk]; exact Nat.zero_le _) hr)
theorem Sym.freeze (enc : α → List V) (t : Tmp) (l : List α) {k : Nat} {e : TypeId} {sz : Nat} (h : TM.get tm t = some (true, .row k l.length)) (hb : H[k]? = some (some ⟨D.enc enc l, e, sz⟩)) (hz : Nat.blt 0 sz = true) (hk : c.β0 = []) {H' : List (Option Box)} {tm' : List (Nat × Bool × D)} (hH' : (Hp.clean k H).set k none = H') (htm : TM.clean k tm = tm')
    (kk : Sym P c n code Q ⟨(t, true, .p (V.list enc l)) :: tm', H'⟩) : Sym P c n code Q ⟨tm, H⟩ := fun a w hr => by
  subst hH'; subst htm
  exact kk a w (SR.freeze enc h hb hz (by rw [hk]; exact Nat.zero_le _) hr)
end
end
end Go.Sy
set_option linter.unusedSimpArgs false
set_option linter.unusedVariables false
namespace Go.Sy
open Go.RowKit

theorem nodup_at {l : List Nat} (h : l.Nodup) {i j : Nat} {hi : i < l.length} {hj : j < l.length} (e : l[i] = l[j]) : i = j := by
  have hp := List.pairwise_iff_getElem.1 h
  rcases Nat.lt_trichotomy i j with k | k | k
  · exact absurd e (hp i j hi hj k)
  · exact k
  · exact absurd e.symm (hp j i hj hi k)
mutual
/-- boxes under other numbers -/
def D.ren (σ : Nat → Nat) : D → D
  | .p v => .p v
  | .agg cs => .agg (D.renL σ cs)
  | .tup cs => .tup (D.renL σ cs)
  | .ptr i off => .ptr (σ i) off
  | .row i n => .row (σ i) n
  | .clo f fs cs => .clo f (D.renL σ fs) (D.renL σ cs)
  | .lit n cs => .lit n (D.renL σ cs)
  | .refD cs => .refD (D.renL σ cs)
  | .any => .any
def D.renL (σ : Nat → Nat) : List D → List D
  | [] => []
  | d :: ds => D.ren σ d :: D.renL σ ds
end
section
variable {β β0 : List Place} {S : Nat → Prop} {w : World} {σ : Nat → Nat} {m : Nat}
mutual
theorem D.Rep.ren (h : ∀ (i : Nat) (e : Place), β0[i]? = some e → β[σ i]? = some e) : ∀ {d : D} {u : Value}, d.Rep β0 S w u → (d.ren σ).Rep β S w u
  | .p _, _, h => h
  | .agg _, _, ⟨us, h1, h2⟩ => ⟨us, h1, D.RepL.ren h h2⟩
  | .tup _, _, ⟨us, h1, h2⟩ => ⟨us, h1, D.RepL.ren h h2⟩
  | .ptr _ _, _, ⟨b, c, h1, h2⟩ => ⟨b, c, h _ _ h1, h2⟩
  | .row _ _, _, hr => by
    rcases hr with ⟨h1, h2⟩ | ⟨b, c, h1, h2⟩
    · exact .inl ⟨h _ _ h1, h2⟩
    · exact .inr ⟨b, c, h _ _ h1, h2⟩
  | .clo _ _ _, _, ⟨us, vs, h1, h2, h3⟩ => ⟨us, vs, h1, D.RepL.ren h h2, D.RepL.ren h h3⟩
  | .lit _ _, _, ⟨a, us, h1, h2, h3, h4⟩ => ⟨a, us, h1, h2, D.RepL.ren h h3, h4⟩
  | .refD _, _, ⟨a, us, h1, h3, h4⟩ => ⟨a, us, h1, D.RepL.ren h h3, h4⟩
  | .any, _, _ => trivial
theorem D.RepL.ren (h : ∀ (i : Nat) (e : Place), β0[i]? = some e → β[σ i]? = some e) : ∀ {d : List D} {us : List Value}, D.RepL β0 S w d us → D.RepL β S w (D.renL σ d) us
  | [], _, h => h
  | _ :: _, _, ⟨y, ys, h1, h2, h3⟩ => ⟨y, ys, h1, D.Rep.ren h h2, D.RepL.ren h h3⟩
end
mutual
theorem D.Rep.unren (h : ∀ i, i < m → β0[i]? = β[σ i]?) : ∀ {d : D} {u : Value}, d.upTo m = true → (d.ren σ).Rep β S w u → d.Rep β0 S w u
  | .p _, _, _, h => h
  | .agg _, _, hb, ⟨us, h1, h2⟩ => ⟨us, h1, D.RepL.unren h hb h2⟩
  | .tup _, _, hb, ⟨us, h1, h2⟩ => ⟨us, h1, D.RepL.unren h hb h2⟩
  | .ptr i _, _, hb, ⟨b, c, h1, h2⟩ => ⟨b, c, by rw [h i (by simpa [D.upTo] using hb)]; exact h1, h2⟩
  | .row i _, _, hb, hr => by
    have hi := h i (by simpa [D.upTo] using hb)
    rcases hr with ⟨h1, h2⟩ | ⟨b, c, h1, h2⟩
    · exact .inl ⟨by rw [hi]; exact h1, h2⟩
    · exact .inr ⟨b, c, by rw [hi]; exact h1, h2⟩
  | .clo _ _ _, _, hb, ⟨us, vs, h1, h2, h3⟩ => by
    simp only [D.upTo, Bool.and_eq_true] at hb
    exact ⟨us, vs, h1, D.RepL.unren h hb.1 h2, D.RepL.unren h hb.2 h3⟩
  | .lit _ _, _, hb, ⟨a, us, h1, h2, h3, h4⟩ => ⟨a, us, h1, h2, D.RepL.unren h hb h3, h4⟩
  | .refD _, _, hb, ⟨a, us, h1, h3, h4⟩ => ⟨a, us, h1, D.RepL.unren h hb h3, h4⟩
  | .any, _, _, _ => trivial
theorem D.RepL.unren (h : ∀ i, i < m → β0[i]? = β[σ i]?) : ∀ {d : List D} {us : List Value}, D.upToL m d = true → D.RepL β S w (D.renL σ d) us → D.RepL β0 S w d us
  | [], _, _, h => h
  | _ :: _, _, hb, ⟨y, ys, h1, h2, h3⟩ => by
    simp only [D.upToL, Bool.and_eq_true] at hb
    exact ⟨y, ys, h1, D.Rep.unren h hb.1 h2, D.RepL.unren h hb.2 h3⟩
end
end
def Box.ren (σ : Nat → Nat) (x : Box) : Box := ⟨D.renL σ x.cs, x.e, x.sz⟩
/-- the caller's numbers of the boxes that are handed over, and of those that are made -/
def sig (ks : List Nat) (hl : Nat) (i : Nat) : Nat := match ks[i]? with | some k => k | none => hl + (i - ks.length)
/-- the boxes handed over are the caller's -/
def Given (H : List (Option Box)) (σ : Nat → Nat) : List Nat → List (Option Box) → Prop
  | [], [] => True
  | k :: ks, some x :: xs => H[k]? = some (some (x.ren σ)) ∧ Given H σ ks xs
  | _, _ => False
def Hp.putAll (σ : Nat → Nat) : List Nat → List (Option Box) → List (Option Box) → List (Option Box)
  | k :: ks, x :: xs, H => Hp.putAll σ ks xs (H.set k (x.map (Box.ren σ)))
  | _, _, H => H
theorem Given.get {H : List (Option Box)} {σ : Nat → Nat} : ∀ {ks : List Nat} {xs : List (Option Box)} {j : Nat} {x : Box}, Given H σ ks xs → xs[j]? = some (some x) → ∃ k, ks[j]? = some k ∧ H[k]? = some (some (x.ren σ))
  | [], [], _, _, _, h => by simp at h
  | k :: ks, some y :: xs, 0, x, hg, h => by
    simp at h; subst h
    exact ⟨k, rfl, hg.1⟩
  | k :: ks, some y :: xs, j + 1, x, hg, h => by simpa using Given.get (j := j) hg.2 (by simpa using h)
  | [], _ :: _, _, _, hg, _ => hg.elim
  | _ :: _, [], _, _, hg, _ => hg.elim
  | _ :: _, none :: _, _, _, hg, _ => hg.elim
theorem Given.len {H : List (Option Box)} {σ : Nat → Nat} : ∀ {ks : List Nat} {xs : List (Option Box)}, Given H σ ks xs → ks.length = xs.length
  | [], [], _ => rfl
  | _ :: ks, some _ :: xs, hg => by simp [Given.len hg.2]
  | [], _ :: _, hg => hg.elim
  | _ :: _, [], hg => hg.elim
  | _ :: _, none :: _, hg => hg.elim
theorem Given.get' {H : List (Option Box)} {σ : Nat → Nat} : ∀ {ks : List Nat} {xs : List (Option Box)} {j k : Nat}, Given H σ ks xs → ks[j]? = some k → ∃ x, xs[j]? = some (some x) ∧ H[k]? = some (some (x.ren σ))
  | [], [], _, _, _, h => by simp at h
  | k :: ks, some y :: xs, 0, k', hg, h => by
    simp at h; subst h
    exact ⟨y, rfl, hg.1⟩
  | k :: ks, some y :: xs, j + 1, _, hg, h => by simpa using Given.get' (j := j) hg.2 (by simpa using h)
  | [], _ :: _, _, _, hg, _ => hg.elim
  | _ :: _, [], _, _, hg, _ => hg.elim
  | _ :: _, none :: _, _, _, hg, _ => hg.elim
theorem sig_lt {ks : List Nat} {hl j k : Nat} (h : ks[j]? = some k) : sig ks hl j = k := by unfold sig; rw [h]
theorem sig_ge {ks : List Nat} {hl j : Nat} (h : ks.length ≤ j) : sig ks hl j = hl + (j - ks.length) := by unfold sig; rw [List.getElem?_eq_none h]
theorem Hp.putAll_len (σ : Nat → Nat) : ∀ (ks : List Nat) (xs H : List (Option Box)), (Hp.putAll σ ks xs H).length = H.length
  | [], _, _ => rfl
  | _ :: _, [], _ => rfl
  | k :: ks, x :: xs, H => by rw [Hp.putAll, Hp.putAll_len]; simp
theorem Hp.putAll_out (σ : Nat → Nat) : ∀ (ks : List Nat) (xs H : List (Option Box)) (i : Nat), i ∉ ks → (Hp.putAll σ ks xs H)[i]? = H[i]?
  | [], _, _, _, _ => rfl
  | _ :: _, [], _, _, _ => rfl
  | k :: ks, x :: xs, H, i, h => by
    rw [Hp.putAll, Hp.putAll_out σ ks xs _ i (fun h' => h (List.mem_cons_of_mem _ h')), List.getElem?_set_ne]
    rintro rfl
    exact h List.mem_cons_self
theorem Hp.putAll_in (σ : Nat → Nat) : ∀ (ks : List Nat) (xs H : List (Option Box)) (j k : Nat) (x : Option Box), ks.Nodup → ks[j]? = some k → xs[j]? = some x → k < H.length → (Hp.putAll σ ks xs H)[k]? = some (x.map (Box.ren σ))
  | [], _, _, _, _, _, _, h, _, _ => by simp at h
  | _ :: _, [], _, _, _, _, _, _, h, _ => by simp at h
  | k0 :: ks, x0 :: xs, H, 0, k, x, hn, h1, h2, hk => by
    simp at h1 h2
    subst h1; subst h2
    rw [Hp.putAll, Hp.putAll_out σ ks xs _ k0 (List.nodup_cons.1 hn).1, List.getElem?_set_self hk]
  | k0 :: ks, x0 :: xs, H, j + 1, k, x, hn, h1, h2, hk => by
    rw [Hp.putAll]
    exact Hp.putAll_in σ ks xs _ j k x (List.nodup_cons.1 hn).2 (by simpa using h1) (by simpa using h2) (by simpa using hk)
/-- Called with these, the function reads what it is given, comes back with r, and leaves what there was. -/
structure FnR (P : Program) (f : FuncId) (ds : List D) (H0 : List (Option Box)) (r : V) : Prop where
  enter : ∀ args w, (callFunc f args).run P w = .ok (.enter f args) w
  ids : D.upToL H0.length ds = true
  hids : Hp.upTo H0.length H0 = true
  calls : ∀ β S w us, HOk H0 β S w → D.RepL β S w ds us → Calls P f us.toArray w fun e w' => ∃ u, e = .returned u ∧ Ext w w' ∧ r.Rep S w' u
/-- Called with these, the function comes back with r; the boxes that it was given are H1 then, and those that it made. -/
structure FnB (P : Program) (f : FuncId) (ds : List D) (H0 : List (Option Box)) (r : D) (H1 : List (Option Box)) : Prop where
  enter : ∀ args w, (callFunc f args).run P w = .ok (.enter f args) w
  ids : D.upToL H0.length ds = true
  hids : Hp.upTo H0.length H0 = true
  calls : ∀ β S w us, HOk H0 β S w → D.RepL β S w ds us → Calls P f us.toArray w fun e w' => ∃ u β1 S1, e = .returned u ∧ HSt ⟨w, S, β, false, [], [], noEsc⟩ H1 β1 S1 w' ∧ r.Rep β1 S1 w' u
/-- a datum as it is, or as one without addresses -/
inductive DLe : D → D → Prop
  | refl (d : D) : DLe d d
  | v {d : D} {v : V} : DV d v → DLe d (.p v)
theorem DLe.rep {d d' : D} {β : List Place} {S : Nat → Prop} {w : World} {u : Value} (h : DLe d d') (k : d.Rep β S w u) : d'.Rep β S w u := by
  cases h with
  | refl => exact k
  | v h => exact h.rep k
inductive EvM (s : St) (g : Bool) : List Operand → List D → Prop
  | nil : EvM s g [] []
  | cons {x : Operand} {xs : List Operand} {d d' : D} {ds : List D} : Ev s g x d → DLe d d' → EvM s g xs ds → EvM s g (x :: xs) (d' :: ds)
section
variable {s : St} {g : Bool} {H : List (Option Box)} {β : List Place} {S : Nat → Prop} {w : World}
theorem EvM.rep {l : Array Operand} {a : Act} (he : ∀ t, .tmp t ∈ l → EntAt s β S w a t) (hg : g = true) : ∀ {xs : List Operand} {ds : List D}, EvM s g xs ds → (∀ x ∈ xs, x ∈ l) → D.RepL β S w ds (xs.map a.eval)
  | _, _, .nil, _ => rfl
  | _, _, .cons h1 h2 h3, hm => ⟨_, _, rfl, h2.rep (h1.rep (hm _ List.mem_cons_self) he hg), EvM.rep he hg h3 fun x hx => hm x (List.mem_cons_of_mem _ hx)⟩
/-- the callee's places -/
theorem HOk.give (ho : HOk H β S w) {ks : List Nat} {H0 : List (Option Box)} (hg : Given H (sig ks H.length) ks H0) (hn : ks.Nodup) (hids : Hp.upTo H0.length H0 = true) :
    HOk H0 (ks.map fun k => β.getD k none) S w ∧ (∀ i, i < H0.length → (ks.map fun k => β.getD k none)[i]? = β[sig ks H.length i]?) := by
  have hlen := hg.len
  have hβ : ∀ i, i < H0.length → (ks.map fun k => β.getD k none)[i]? = β[sig ks H.length i]? := by
    intro i hi
    have hik : ks[i]? = some ks[i] := List.getElem?_eq_getElem (by omega)
    obtain ⟨x, _, h2⟩ := hg.get' hik
    have hkl : ks[i] < β.length := by rw [ho.len]; exact (List.getElem?_eq_some_iff.1 h2).1
    rw [List.getElem?_map, hik, sig_lt hik, List.getElem?_eq_getElem hkl]
    simp [List.getD, List.getElem?_eq_getElem hkl]
  refine ⟨⟨ho.up, ?_, by rw [List.length_map, hlen], ?_⟩, hβ⟩
  · intro j x hx
    obtain ⟨k, hk, hH⟩ := hg.get hx
    have hj : j < H0.length := (List.getElem?_eq_some_iff.1 hx).1
    have hs := sig_lt (hl := H.length) hk
    rcases ho.box k _ hH with ⟨h1, h2, h3⟩ | ⟨b, c, cur, us, h1, h2, h3, h4, h5⟩
    · refine .inl ⟨by rw [hβ j hj, hs]; exact h1, h2, ?_⟩
      cases hc : x.cs with
      | nil => rfl
      | cons _ _ => simp [Box.ren, hc, D.renL] at h3
    · refine .inr ⟨b, c, cur, us, by rw [hβ j hj, hs]; exact h1, h2, h3, D.RepL.unren hβ (Hp.upTo_get hids hx) h4, h5⟩
  · intro i j x y b p q hx hy hi hj
    obtain ⟨k, hk, hH⟩ := hg.get hx
    obtain ⟨k', hk', hH'⟩ := hg.get hy
    rw [hβ i (List.getElem?_eq_some_iff.1 hx).1, sig_lt hk] at hi
    rw [hβ j (List.getElem?_eq_some_iff.1 hy).1, sig_lt hk'] at hj
    have := ho.inj k k' _ _ b p q hH hH' hi hj
    subst this
    have h1 := List.getElem?_eq_some_iff.1 hk
    have h2 := List.getElem?_eq_some_iff.1 hk'
    exact nodup_at hn (h1.2.trans h2.2.symm)
end
section
variable {P : Program} {s : St} {g : Bool} {dst : Option Tmp} {ty : TypeId} {pos : String} {af : Array Edge} {gd : Option (Nat × Bool)}
/-- what is called, and what with -/
inductive EvF (s : St) (g : Bool) (f : Operand) (as : List Operand) (k : FuncId) : List D → Prop
  | fn {ds : List D} : Ev s g f (.p (.x (.func (.func k) #[] #[]))) → EvM s g as ds → EvF s g f as k ds
  | clo {fs cs ds ds' : List D} : Ev s g f (.clo (.func k) fs cs) → EvM s g as ds → fs ++ ds ++ cs = ds' → EvF s g f as k ds'
theorem EvF.run {f : Operand} {as : Array Operand} {ts : Array TypeId} {k : FuncId} {ds : List D} {β : List Place} {S : Nat → Prop} {a : Act} {w : World} (h : EvF s g f as.toList k ds) (he : ∀ t, .tmp t ∈ (Op.call { callee := .value f, args := as, argTypes := ts }).operands → EntAt s β S w a t) (hg : g = true)
    (henter : ∀ args w, (callFunc k args).run P w = .ok (.enter k args) w) : ∃ us : List Value, D.RepL β S w ds us ∧ (execOp a.eval ⟨dst, .call { callee := .value f, args := as, argTypes := ts }, ty, pos, af, gd⟩).run P w = .ok (.enter k us.toArray) w := by
  have hm : ∀ x ∈ as.toList, x ∈ (Op.call { callee := .value f, args := as, argTypes := ts }).operands := fun x hx => by
    simp only [Op.operands, Call.operands, Array.mem_append]
    exact .inr (by simpa using hx)
  have hmf : f ∈ (Op.call { callee := .value f, args := as, argTypes := ts }).operands := by simp [Op.operands, Call.operands]
  have e : (as.map a.eval) = (as.toList.map a.eval).toArray := by apply Array.ext'; simp
  cases h with
  | fn h1 h2 =>
    have h3 : a.eval f = .func (.func k) #[] #[] := h1.rep hmf he hg
    refine ⟨_, h2.rep he hg hm, ?_⟩
    simp [execOp, resolve, h3, Deferred.ofValue, invoke, henter, e]
  | @clo fs cs ds0 _ h1 h2 h3 =>
    subst h3
    obtain ⟨us, vs, h4, h5, h6⟩ := h1.rep hmf he hg
    refine ⟨us ++ as.toList.map a.eval ++ vs, (h5.app (h2.rep he hg hm)).app h6, ?_⟩
    simp [execOp, resolve, h4, Deferred.ofValue, invoke, henter, e]
/-- a call that only reads -/
theorem MOp.callR {f : Operand} {k : FuncId} {as : Array Operand} {ts : Array TypeId} {ds ds' : List D} {H0 : List (Option Box)} {r : V} (ks : List Nat) (hc : g = true → FnR P k ds H0 r) (hds : D.renL (sig ks s.H.length) ds = ds') (hf : EvF s g f as.toList k ds') (hg0 : Given s.H (sig ks s.H.length) ks H0) (hn : ks.Nodup) :
    MOp P s ⟨dst, .call { callee := .value f, args := as, argTypes := ts }, ty, pos, af, gd⟩ g (.p r) := by
  subst hds
  refine ⟨fun β S a w ho he hg K Q hK => ?_⟩
  have hc := hc hg
  obtain ⟨us, h1, h2⟩ := hf.run (P := P) (dst := dst) (ty := ty) (pos := pos) (af := af) (gd := gd) (ts := ts) he hg hc.enter
  obtain ⟨h3, h4⟩ := ho.give hg0 hn hc.hids
  unfold Oper.wp
  rw [h2]
  show Calls P k us.toArray w _
  refine (hc.calls _ S w us h3 (D.RepL.unren h4 hc.ids h1)).mono ?_
  rintro e w' ⟨u, rfl, hx, hr⟩
  exact hK u w' hx hr
end
section
variable {P : Program} {c : Ctx} {n : Nat} {ops : Array Oper} {Q : Exit → St → Prop} {rest : List Oper} {t : Tmp} {ty : TypeId} {pos : String} {af : Array Edge} {tm : List (Nat × Bool × D)} {H : List (Option Box)}
theorem HSt.back {β : List Place} {S : Nat → Prop} {w : World} (hH : HSt c H β S w) {ks : List Nat} {H0 : List (Option Box)} (hg : Given H (sig ks H.length) ks H0) (hn : ks.Nodup) (hids : Hp.upTo H0.length H0 = true) (hwr : c.ro = true → ∀ k ∈ ks, c.β0.length ≤ k)
    {H1 : List (Option Box)} {β1 : List Place} {S1 : Nat → Prop} {w' : World} (h : HSt ⟨w, S, ks.map fun k => β.getD k none, false, [], [], noEsc⟩ H1 β1 S1 w') :
    ∃ β', HSt c (Hp.putAll (sig ks H.length) ks H1 H ++ (H1.drop ks.length).map (Option.map (Box.ren (sig ks H.length)))) β' S1 w' ∧ (∀ (i : Nat) e, β[i]? = some e → β'[i]? = some e) ∧ (∀ (j : Nat) e, β1[j]? = some e → β'[sig ks H.length j]? = some e) ∧
      (∀ b, S b → b < w.heap.size → w'.heap[b]? = w.heap[b]? ∧ S1 b) := by
  obtain ⟨g1, g2⟩ := hH.toHOk.give hg hn hids
  have hlen := hg.len
  have hl1 : ks.length ≤ β1.length := by have := h.klen; simpa using this
  have hlb : β.length = H.length := hH.len
  have hin : ∀ j k, ks[j]? = some k → k < H.length := fun j k hk => by
    obtain ⟨x, _, h2⟩ := hg.get' hk
    exact (List.getElem?_eq_some_iff.1 h2).1
  have hold : ∀ j, j < ks.length → β1[j]? = β[sig ks H.length j]? := by
    intro j hj
    have h1 := g2 j (by omega)
    have h2 : (ks.map fun k => β.getD k none)[j]? = some ((ks.map fun k => β.getD k none)[j]'(by simpa using hj)) := List.getElem?_eq_getElem (by simpa using hj)
    rw [← h1, h2]
    exact h.keep j _ (by simp) h2
  refine ⟨β ++ β1.drop ks.length, ?_, fun i e hi => by rw [List.getElem?_append_left (List.getElem?_eq_some_iff.1 hi).1]; exact hi, ?_, fun b hb hl => h.keepS b hb hl⟩
  · have hσ : ∀ (j : Nat) e, β1[j]? = some e → (β ++ β1.drop ks.length)[sig ks H.length j]? = some e := by
      intro j e hj
      rcases Nat.lt_or_ge j ks.length with h1 | h1
      · rw [hold j h1] at hj
        rw [List.getElem?_append_left (List.getElem?_eq_some_iff.1 hj).1]
        exact hj
      · rw [sig_ge h1, ← hlb, List.getElem?_append_right (by omega), List.getElem?_drop]
        rw [show ks.length + (β.length + (j - ks.length) - β.length) = j by omega]
        exact hj
    have hput : (Hp.putAll (sig ks H.length) ks H1 H).length = H.length := Hp.putAll_len ..
    -- which boxes there are
    have hcase : ∀ (i : Nat) (x : Box), (Hp.putAll (sig ks H.length) ks H1 H ++ (H1.drop ks.length).map (Option.map (Box.ren (sig ks H.length))))[i]? = some (some x) →
        (∃ j y, H1[j]? = some (some y) ∧ i = sig ks H.length j ∧ x = y.ren (sig ks H.length)) ∨ (i ∉ ks ∧ i < H.length ∧ H[i]? = some (some x)) := by
      intro i x hx
      rcases Nat.lt_or_ge i H.length with hi | hi
      · rw [List.getElem?_append_left (by omega)] at hx
        by_cases hik : i ∈ ks
        · obtain ⟨j, hj, rfl⟩ := List.mem_iff_getElem.1 hik
          have hjk : ks[j]? = some ks[j] := List.getElem?_eq_getElem hj
          cases hH1 : H1[j]? with
          | none =>
            exfalso
            rw [List.getElem?_eq_none_iff] at hH1
            have := h.len
            omega
          | some y =>
            rw [Hp.putAll_in _ ks H1 H j _ y hn hjk hH1 hi] at hx
            simp only [Option.some.injEq, Option.map_eq_some_iff] at hx
            obtain ⟨z, rfl, rfl⟩ := hx
            exact .inl ⟨j, z, hH1, (sig_lt hjk).symm, rfl⟩
        · rw [Hp.putAll_out _ ks H1 H i hik] at hx
          exact .inr ⟨hik, hi, hx⟩
      · rw [List.getElem?_append_right (by omega), hput, List.getElem?_map, List.getElem?_drop] at hx
        simp only [Option.map_eq_some_iff] at hx
        obtain ⟨y, h1, z, rfl, rfl⟩ := hx
        refine .inl ⟨ks.length + (i - H.length), z, h1, ?_, rfl⟩
        rw [sig_ge (by omega)]
        omega
    have hβcase : ∀ (i : Nat) (b q : Nat), (β ++ β1.drop ks.length)[i]? = some (some (b, q)) → β[i]? = some (some (b, q)) ∨ ∃ j, ks.length ≤ j ∧ i = H.length + (j - ks.length) ∧ β1[j]? = some (some (b, q)) := by
      intro i b q hi
      rcases Nat.lt_or_ge i β.length with h1 | h1
      · rw [List.getElem?_append_left h1] at hi
        exact .inl hi
      · rw [List.getElem?_append_right h1, List.getElem?_drop] at hi
        exact .inr ⟨ks.length + (i - β.length), by omega, by omega, hi⟩
    have hback : ∀ (j : Nat) (b q : Nat), j < β1.length → (β ++ β1.drop ks.length)[sig ks H.length j]? = some (some (b, q)) → β1[j]? = some (some (b, q)) := by
      intro j b q hj hi
      have h1 : β1[j]? = some β1[j] := List.getElem?_eq_getElem hj
      have h2 := hσ j _ h1
      rw [h2] at hi
      rw [h1]; exact hi
    have h0 : ∀ (j b q : Nat), (ks.map fun k => β.getD k none)[j]? = some (some (b, q)) → ∃ k, ks[j]? = some k ∧ β[k]? = some (some (b, q)) := by
      intro j b q hj
      have hjl : j < ks.length := by simpa using (List.getElem?_eq_some_iff.1 hj).1
      have hjk : ks[j]? = some ks[j] := List.getElem?_eq_getElem hjl
      refine ⟨ks[j], hjk, ?_⟩
      rw [g2 j (by omega), sig_lt hjk] at hj
      exact hj
    -- a box of the caller's that was not handed over is as it was
    have hother : ∀ (i : Nat) (x : Box), i ∉ ks → H[i]? = some (some x) → ∀ b q, β[i]? = some (some (b, q)) → w'.heap[b]? = w.heap[b]? ∧ ¬ S1 b ∧ b < w.heap.size ∧ ∀ (j q' : Nat), (ks.map fun k => β.getD k none)[j]? ≠ some (some (b, q')) := by
      intro i x hik hx b q hb
      obtain ⟨h1, h2⟩ := (hH.box i x hx).lt hb
      have h3 : ∀ (j q' : Nat), (ks.map fun k => β.getD k none)[j]? ≠ some (some (b, q')) := by
        intro j q' hj
        obtain ⟨k, hk, hkb⟩ := h0 j b q' hj
        obtain ⟨y, _, hy⟩ := hg.get' hk
        have := hH.inj i k x _ b q q' hx hy hb hkb
        subst this
        exact hik (List.mem_of_getElem? hk)
      refine ⟨h.fr b h1 (.inr h3), fun hs => ?_, h1, h3⟩
      rcases h.sub b hs with h4 | h4
      · exact h2 h4
      · exact absurd h1 (by simpa using h4)
    have hlen1 := h.len
    refine ⟨⟨fun b hb => h.up b hb, ?_, ?_, ?_⟩, ?_, ?_, ?_, ?_, ?_, ?_, h.os.trans hH.os, h.tape.trans hH.tape, h.output.trans hH.output, Nat.le_trans hH.size h.size⟩
    · intro i x hx
      rcases hcase i x hx with ⟨j, y, h1, rfl, rfl⟩ | ⟨hik, hi, h1⟩
      · rcases h.box j y h1 with ⟨k1, k2, k3⟩ | ⟨b, q, cur, us, k1, k2, k3, k4, k5⟩
        · exact .inl ⟨hσ j _ k1, k2, by simp [Box.ren, k3, D.renL]⟩
        · exact .inr ⟨b, q, cur, us, hσ j _ k1, k2, k3, D.RepL.ren hσ k4, k5⟩
      · exact (hH.box i x h1).mono (fun i e hi => by rw [List.getElem?_append_left (List.getElem?_eq_some_iff.1 hi).1]; exact hi) (fun b q hb => ⟨(hother i x hik h1 b q hb).1, (hother i x hik h1 b q hb).2.1⟩) (fun b hb hl => (h.keepS b hb hl).1) fun b hb hl => (h.keepS b hb hl).2
    · simp [hput, hlb, hlen1]
    · intro i i' x x' b p q hx hx' hi hi'
      rcases hcase i x hx with ⟨j, y, h1, rfl, rfl⟩ | ⟨hik, hil, h1⟩ <;> rcases hcase i' x' hx' with ⟨j', y', h1', rfl, rfl⟩ | ⟨hik', hil', h1'⟩
      · have k1 := hback j b p (by rw [hlen1]; exact (List.getElem?_eq_some_iff.1 h1).1) hi
        have k2 := hback j' b q (by rw [hlen1]; exact (List.getElem?_eq_some_iff.1 h1').1) hi'
        rw [h.inj j j' y y' b p q h1 h1' k1 k2]
      · exfalso
        have k1 := hback j b p (by rw [hlen1]; exact (List.getElem?_eq_some_iff.1 h1).1) hi
        rw [List.getElem?_append_left (by omega)] at hi'
        obtain ⟨_, _, k3, k4⟩ := hother i' x' hik' h1' b q hi'
        rcases h.own j b p k1 with k5 | ⟨q0, k5⟩
        · exact absurd k3 (by simpa using k5)
        · exact k4 j q0 k5
      · exfalso
        have k1 := hback j' b q (by rw [hlen1]; exact (List.getElem?_eq_some_iff.1 h1').1) hi'
        rw [List.getElem?_append_left (by omega)] at hi
        obtain ⟨_, _, k3, k4⟩ := hother i x hik h1 b p hi
        rcases h.own j' b q k1 with k5 | ⟨q0, k5⟩
        · exact absurd k3 (by simpa using k5)
        · exact k4 j' q0 k5
      · rw [List.getElem?_append_left (by omega)] at hi hi'
        exact hH.inj i i' x x' b p q h1 h1' hi hi'
    · intro b hb
      rcases h.sub b hb with k | k
      · exact hH.sub b k
      · exact .inr (Nat.le_trans hH.size k)
    · intro i b q hi
      rcases hβcase i b q hi with k | ⟨j, hj, rfl, k⟩
      · exact hH.own i b q k
      · rcases h.own j b q k with k1 | ⟨q0, k1⟩
        · exact .inl (Nat.le_trans hH.size k1)
        · have := (List.getElem?_eq_some_iff.1 k1).1
          simp at this
          omega
    · intro b hb hcond
      rw [h.fr b (Nat.lt_of_lt_of_le hb hH.size) (.inr ?_)]
      · exact hH.fr b hb hcond
      · intro j q hj
        obtain ⟨k, hk, hkb⟩ := h0 j b q hj
        rcases hH.own k b q hkb with k1 | ⟨q0, k1⟩
        · omega
        · rcases hcond with hro | hcond
          · have k2 := hwr hro k (List.mem_of_getElem? hk)
            have k3 := (List.getElem?_eq_some_iff.1 k1).1
            omega
          · exact hcond k q0 k1
    · intro i e hi k
      have := hH.keep i e hi k
      rw [List.getElem?_append_left (List.getElem?_eq_some_iff.1 this).1]
      exact this
    · rw [List.length_append]
      exact Nat.le_add_right_of_le hH.klen
    · intro b hb hl
      obtain ⟨k1, k2⟩ := hH.keepS b hb hl
      obtain ⟨k3, k4⟩ := h.keepS b k2 (Nat.lt_of_lt_of_le hl hH.size)
      exact ⟨k3.trans k1, k4⟩
  · intro j e hj
    rcases Nat.lt_or_ge j ks.length with h1 | h1
    · rw [hold j h1] at hj
      rw [List.getElem?_append_left (List.getElem?_eq_some_iff.1 hj).1]
      exact hj
    · rw [sig_ge h1, ← hlb, List.getElem?_append_right (by omega), List.getElem?_drop]
      rw [show ks.length + (β.length + (j - ks.length) - β.length) = j by omega]
      exact hj
/-- a call that writes into boxes that it is given, or makes some -/
theorem SymL.callB {f : Operand} {k : FuncId} {as : Array Operand} {ts : Array TypeId} {ds ds' : List D} {H0 H1 : List (Option Box)} {r r' : D} (ks : List Nat) (hcb : FnB P k ds H0 r H1) (hds : D.renL (sig ks H.length) ds = ds') (hf : EvF ⟨tm, H⟩ true f as.toList k ds') (hg0 : Given H (sig ks H.length) ks H0) (hn : ks.Nodup)
    (ht : Nat.blt t n = true) (hwr : c.ro = true → ∀ k ∈ ks, c.β0.length ≤ k) {H' : List (Option Box)} (hr : r.ren (sig ks H.length) = r') (hH' : Hp.putAll (sig ks H.length) ks H1 H ++ (H1.drop ks.length).map (Option.map (Box.ren (sig ks H.length))) = H')
    (kk : SymL P c n ops Q rest ⟨(t, true, r') :: tm, H'⟩) : SymL P c n ops Q (⟨some t, .call { callee := .value f, args := as, argTypes := ts }, ty, pos, af, none⟩ :: rest) ⟨tm, H⟩ := by
  subst hds; subst hr; subst hH'
  rintro a w ⟨β, S, hH, hd, hnn, he⟩
  refine wpList_plain rfl fun K hK => ?_
  obtain ⟨us, h1, h2⟩ := hf.run (P := P) (dst := some t) (ty := ty) (pos := pos) (af := af) (gd := none) (ts := ts) (fun t _ => he t) rfl hcb.enter
  obtain ⟨h3, h4⟩ := hH.toHOk.give hg0 hn hcb.hids
  unfold Oper.wp
  rw [h2]
  show Calls P k us.toArray w _
  refine (hcb.calls _ S w us h3 (D.RepL.unren h4 hcb.ids h1)).mono ?_
  rintro e w' ⟨u, β1, S1, rfl, hx, hr⟩
  obtain ⟨β', k1, k2, k3, k4⟩ := hH.back hg0 hn hcb.hids hwr hx
  have hlt : t < n := by simpa using ht
  refine hK _ _ (kk _ _ ⟨β', S1, k1, by rw [defers_put, hd], by rw [size_put, hnn], EntAt.put (s := ⟨tm, _⟩) (dst := some t) ?_ (fun t' h => by injection h with h; rw [hnn, ← h]; exact hlt) ⟨fun _ => hr.ren k3, fun h => by cases h⟩⟩)
  intro t' g' d' hg
  obtain ⟨q1, q2, q3⟩ := he t' g' d' hg
  exact ⟨q1, fun hg => (q2 hg).mono k2 (fun b hb hl => (k4 b hb hl).1) fun b hb hl => (k4 b hb hl).2, q3⟩
end
end Go.Sy
set_option linter.unusedSimpArgs false
set_option linter.unusedVariables false
namespace Go.Sy
open Go.RowKit

/-! ### a row that no longer changes, wherever it is held -/
mutual
def D.ice (k n : Nat) (v : V) : D → D
  | .p u => .p u
  | .agg cs => .agg (D.iceL k n v cs)
  | .tup cs => .tup (D.iceL k n v cs)
  | .ptr i off => bif Nat.beq i k then .any else .ptr i off
  | .row i m => bif Nat.beq i k then (bif Nat.beq m n then .p v else .any) else .row i m
  | .clo f fs cs => .clo f (D.iceL k n v fs) (D.iceL k n v cs)
  | .lit m cs => .lit m (D.iceL k n v cs)
  | .refD cs => .refD (D.iceL k n v cs)
  | .any => .any
def D.iceL (k n : Nat) (v : V) : List D → List D
  | [] => []
  | d :: ds => D.ice k n v d :: D.iceL k n v ds
end
def TM.ice (k n : Nat) (v : V) : List (Nat × Bool × D) → List (Nat × Bool × D)
  | [] => []
  | (t, g, d) :: l => (t, g, d.ice k n v) :: TM.ice k n v l
def Hp.ice (k n : Nat) (v : V) : List (Option Box) → List (Option Box)
  | [] => []
  | none :: l => none :: Hp.ice k n v l
  | some x :: l => some ⟨D.iceL k n v x.cs, x.e, x.sz⟩ :: Hp.ice k n v l
section
variable {β : List Place} {S S' : Nat → Prop} {w : World} {k n : Nat} {v : V}
mutual
theorem D.Rep.ice (hS : ∀ b, S b → b < w.heap.size → S' b) (hv : ∀ u, (D.row k n).Rep β S w u → v.Rep S' w u) : ∀ {d : D} {u : Value}, d.Rep β S w u → (d.ice k n v).Rep β S' w u
  | .p _, _, h => V.Rep.mono (fun _ _ _ => rfl) hS h
  | .agg _, _, ⟨us, h1, h2⟩ => ⟨us, h1, D.RepL.ice hS hv h2⟩
  | .tup _, _, ⟨us, h1, h2⟩ => ⟨us, h1, D.RepL.ice hS hv h2⟩
  | .ptr i off, u, h => by
    unfold D.ice
    cases hb : Nat.beq i k
    · exact h
    · trivial
  | .row i m, u, h => by
    unfold D.ice
    cases hb : Nat.beq i k
    · exact h
    · cases hm : Nat.beq m n
      · trivial
      · have h1 := Nat.eq_of_beq_eq_true hb
        have h2 := Nat.eq_of_beq_eq_true hm
        subst h1; subst h2
        exact hv u h
  | .clo f fs cs, u, ⟨us, vs, h1, h2, h3⟩ => ⟨us, vs, h1, D.RepL.ice hS hv h2, D.RepL.ice hS hv h3⟩
  | .lit _ _, _, ⟨a, us, h1, h2, h3, h5⟩ => ⟨a, us, h1, h2, D.RepL.ice hS hv h3, (h5.mono (S' := fun b => S b ∧ b < w.heap.size) fun b hb hl => ⟨hb, hl⟩).mono fun b hb _ => hS b hb.1 hb.2⟩
  | .refD _, _, ⟨a, us, h1, h3, h5⟩ => ⟨a, us, h1, D.RepL.ice hS hv h3, (h5.mono (S' := fun b => S b ∧ b < w.heap.size) fun b hb hl => ⟨hb, hl⟩).mono fun b hb _ => hS b hb.1 hb.2⟩
  | .any, _, _ => trivial
theorem D.RepL.ice (hS : ∀ b, S b → b < w.heap.size → S' b) (hv : ∀ u, (D.row k n).Rep β S w u → v.Rep S' w u) : ∀ {d : List D} {us : List Value}, D.RepL β S w d us → D.RepL β S' w (D.iceL k n v d) us
  | [], _, h => h
  | _ :: _, _, ⟨y, ys, h1, h2, h3⟩ => ⟨y, ys, h1, D.Rep.ice hS hv h2, D.RepL.ice hS hv h3⟩
end
end
section
variable {k n : Nat} {v : V}
theorem TM.ice_get {t : Nat} {g : Bool} {d : D} : ∀ {l : List (Nat × Bool × D)}, TM.get (TM.ice k n v l) t = some (g, d) → ∃ d', TM.get l t = some (g, d') ∧ d = d'.ice k n v
  | [], h => by cases h
  | (t', g', d') :: l, h => by
    simp only [TM.ice, TM.get_cons] at h ⊢
    split at h
    · rename_i e
      simp only [Option.some.injEq, Prod.mk.injEq] at h
      rw [if_pos e]
      exact ⟨d', by rw [h.1], h.2.symm⟩
    · rename_i e
      rw [if_neg e]
      exact TM.ice_get h
theorem Hp.ice_get : ∀ {l : List (Option Box)} {i : Nat} {x : Box}, (Hp.ice k n v l)[i]? = some (some x) → ∃ y, l[i]? = some (some y) ∧ x = ⟨D.iceL k n v y.cs, y.e, y.sz⟩
  | [], _, _, h => by simp [Hp.ice] at h
  | none :: l, 0, _, h => by simp [Hp.ice] at h
  | some y :: l, 0, x, h => by
    simp only [Hp.ice, List.getElem?_cons_zero, Option.some.injEq] at h
    exact ⟨y, by simp, h.symm⟩
  | none :: l, i + 1, x, h => by simpa using Hp.ice_get (l := l) (i := i) (by simpa [Hp.ice] using h)
  | some _ :: l, i + 1, x, h => by simpa using Hp.ice_get (l := l) (i := i) (by simpa [Hp.ice] using h)
theorem Hp.ice_len : ∀ {l : List (Option Box)}, (Hp.ice k n v l).length = l.length
  | [] => rfl
  | none :: l => by simp [Hp.ice, Hp.ice_len (l := l)]
  | some _ :: l => by simp [Hp.ice, Hp.ice_len (l := l)]
end
section
variable {c : Ctx} {n : Nat} {tm : List (Nat × Bool × D)} {H : List (Option Box)}
theorem SR.ice {α : Type} (enc : α → List V) {l : List α} {k : Nat} {e : TypeId} {sz : Nat} {a : Act} {w : World} (hb : H[k]? = some (some ⟨D.enc enc l, e, sz⟩)) (hz : Nat.blt 0 sz = true) (hk : c.β0.length ≤ k) (hr : SR c n ⟨tm, H⟩ a w) :
    SR c n ⟨TM.ice k l.length (V.list enc l) tm, (Hp.ice k l.length (V.list enc l) H).set k none⟩ a w := by
  have hz : 0 < sz := by simpa using hz
  obtain ⟨β, S, hH, hd, hn, he⟩ := hr
  have hkH : k < H.length := (List.getElem?_eq_some_iff.1 hb).1
  have hS : ∀ b, S b → b < w.heap.size → S b ∨ ∃ q, β[k]? = some (some (b, q)) := fun b hb _ => .inl hb
  have hv : ∀ u, (D.row k l.length).Rep β S w u → (V.list enc l).Rep (fun b => S b ∨ ∃ q, β[k]? = some (some (b, q))) w u := by
    rintro u (⟨h1, h2, a', h3⟩ | ⟨b, q, h1, h2, h3⟩)
    · have : l = [] := List.eq_nil_of_length_eq_zero h2
      subst this
      exact ⟨a', 0, [], h3, Nat.le_refl _, by simp [maxLen], rfl, Cells.nil⟩
    · rcases hH.box k _ hb with ⟨h4, _⟩ | ⟨b', q', cur, us, h4, h5, h6, h7, h8, h9, h10⟩
      · rw [h1] at h4; cases h4
      · rw [h1] at h4
        simp only [Option.some.injEq, Prod.mk.injEq] at h4
        obtain ⟨rfl, rfl⟩ := h4
        have hv := (D.RepL.ofP h7).mono (S' := fun b => S b ∨ ∃ q, β[k]? = some (some (b, q))) (w' := w) (fun _ _ _ => rfl) hS
        refine ⟨_, q, us, h3, h2, (h10 (by show sz ≠ 0; omega)).2, hv, fun j y hj => ⟨b, 0, rfl, ?_, .inr ⟨q, h1⟩⟩⟩
        have h11 := prefix_get h8 hj
        simp [World.cell?, h6]
        simpa using h11
  have hget : ∀ (i : Nat) (y : Box), ((Hp.ice k l.length (V.list enc l) H).set k none)[i]? = some (some y) → i ≠ k ∧ ∃ z, H[i]? = some (some z) ∧ y = ⟨D.iceL k l.length (V.list enc l) z.cs, z.e, z.sz⟩ := by
    intro i y h
    by_cases hi : i = k
    · subst hi
      rw [List.getElem?_set_self (by rw [Hp.ice_len]; exact hkH)] at h
      simp at h
    · rw [List.getElem?_set_ne (Ne.symm hi)] at h
      exact ⟨hi, Hp.ice_get h⟩
  refine ⟨β, fun b => S b ∨ ∃ q, β[k]? = some (some (b, q)), ⟨⟨fun b hb => .inl (hH.up b hb), ?_, by simp [hH.len, Hp.ice_len], ?_⟩, ?_, hH.own, hH.fr, hH.keep, hH.klen, fun b hb hl => ⟨(hH.keepS b hb hl).1, .inl (hH.keepS b hb hl).2⟩, hH.os, hH.tape, hH.output, hH.size⟩, hd, hn, ?_⟩
  · intro i y hy
    obtain ⟨hik, z, hz, rfl⟩ := hget i y hy
    rcases hH.box i z hz with ⟨h1, h2, h3⟩ | ⟨b1, c1, cur, us, h1, h2, h3, h4, h5, h6⟩
    · exact .inl ⟨h1, h2, by rw [h3]; rfl⟩
    · refine .inr ⟨b1, c1, cur, us, h1, ?_, h3, D.RepL.ice hS hv h4, h5, by simpa using h6⟩
      rintro (h | ⟨q, h⟩)
      · exact h2 h
      · exact hik (hH.inj i k z _ b1 c1 q hz hb h1 h)
  · intro i j y z b p q hy hz hi hj
    obtain ⟨_, y', hy', _⟩ := hget i y hy
    obtain ⟨_, z', hz', _⟩ := hget j z hz
    exact hH.inj i j y' z' b p q hy' hz' hi hj
  · rintro b (h | ⟨q, h⟩)
    · exact hH.sub b h
    · rcases hH.own k b q h with h | ⟨q0, h⟩
      · exact .inr h
      · have := (List.getElem?_eq_some_iff.1 h).1
        omega
  · intro t' g' d' hg
    obtain ⟨d0, h1, rfl⟩ := TM.ice_get hg
    obtain ⟨k1, k2, k3⟩ := he t' g' d0 h1
    exact ⟨k1, fun hg => (k2 hg).ice hS hv, k3⟩
section
variable {P : Program} {α : Type} {code : Code} {ops : Array Oper} {l' : List Oper} {Q : Exit → St → Prop}
theorem SymL.ice (enc : α → List V) (k : Nat) (l : List α) {e : TypeId} {sz : Nat} (hb : H[k]? = some (some ⟨D.enc enc l, e, sz⟩)) (hz : Nat.blt 0 sz = true) (hk : c.β0.length ≤ k) {H' : List (Option Box)} {tm' : List (Nat × Bool × D)} (hH' : (Hp.ice k l.length (V.list enc l) H).set k none = H') (htm : TM.ice k l.length (V.list enc l) tm = tm')
    (kk : SymL P c n ops Q l' ⟨tm', H'⟩) : SymL P c n ops Q l' ⟨tm, H⟩ := fun a w hr => by
  subst hH'; subst htm
  exact kk a w (SR.ice enc hb hz hk hr)
theorem Sym.ice (enc : α → List V) (k : Nat) (l : List α) {e : TypeId} {sz : Nat} (hb : H[k]? = some (some ⟨D.enc enc l, e, sz⟩)) (hz : Nat.blt 0 sz = true) (hk : c.β0.length ≤ k) {H' : List (Option Box)} {tm' : List (Nat × Bool × D)} (hH' : (Hp.ice k l.length (V.list enc l) H).set k none = H') (htm : TM.ice k l.length (V.list enc l) tm = tm')
    (kk : Sym P c n code Q ⟨tm', H'⟩) : Sym P c n code Q ⟨tm, H⟩ := fun a w hr => by
  subst hH'; subst htm
  exact kk a w (SR.ice enc hb hz hk hr)
end
end
/-! ### cells without addresses -/
theorem D.renL_p (σ : Nat → Nat) : ∀ l : List V, D.renL σ (l.map D.p) = l.map D.p
  | [] => rfl
  | _ :: l => by simp [D.renL, D.ren, D.renL_p σ l]
theorem D.upToL_p (k : Nat) : ∀ l : List V, D.upToL k (l.map D.p) = true
  | [] => rfl
  | _ :: l => by simp [D.upToL, D.upTo, D.upToL_p k l]
theorem D.cleanL_p (k : Nat) : ∀ l : List V, D.cleanL k (l.map D.p) = l.map D.p
  | [] => rfl
  | _ :: l => by simp [D.cleanL, D.clean, D.cleanL_p k l]
theorem D.iceL_p (k n : Nat) (v : V) : ∀ l : List V, D.iceL k n v (l.map D.p) = l.map D.p
  | [] => rfl
  | _ :: l => by simp [D.iceL, D.ice, D.iceL_p k n v l]
/-! ### a slice against nil -/
section
variable {P : Program} {c : Ctx} {n : Nat} {ops : Array Oper} {Q : Exit → St → Prop} {rest : List Oper} {t : Tmp} {ty ty' tt : TypeId} {pos : String} {af : Array Edge} {tm : List (Nat × Bool × D)} {H : List (Option Box)}
theorem V.Rep.nil_of {S : Nat → Prop} {w : World} {m k : Nat} {cs : List V} (h : (V.sl m cs).Rep S w (.slice none k m)) : cs = [] := by
  obtain ⟨a, q, us, h1, h2, h3, h4, h5⟩ := h
  injection h1 with h1
  subst h1
  cases us with
  | nil => exact List.eq_nil_of_length_eq_zero h4.len.symm
  | cons u us =>
    obtain ⟨b, o, h6, _⟩ := h5 0 u rfl
    cases h6
theorem SymL.eqNil {x : Operand} {m : Nat} {cs : List V} {e : TypeId} {i : TypeInfo} [h : TyI P tt i (.slice e)] (hx : Ev ⟨tm, H⟩ true x (.p (.sl m cs))) (ht : Nat.blt t n = true) (k : ∀ b : Bool, (b = true → cs = []) → SymL P c n ops Q rest ⟨(t, true, .p (.b b)) :: tm, H⟩) :
    SymL P c n ops Q (⟨some t, .binOp .eql tt x (.const (.slice none 0 0)) ty', ty, pos, af, none⟩ :: rest) ⟨tm, H⟩ := by
  rintro a w ⟨β, S, hH, hd, hn, he⟩
  refine wpList_plain rfl fun K hK => ?_
  obtain ⟨ad, q, us, h1, h2, h3, h4, h5⟩ := hx.rep (l := #[x]) (by simp) (fun t _ => he t) rfl
  have hlt : t < n := by simpa using ht
  have hnil : ad = none → cs = [] := by
    rintro rfl
    cases us with
    | nil => exact List.eq_nil_of_length_eq_zero h4.len.symm
    | cons u us =>
      obtain ⟨b, o, h6, _⟩ := h5 0 u rfl
      cases h6
  refine wp_value (v := .bool ad.isNone) (w' := w) ?_ (hK _ _ (k ad.isNone (by simpa using hnil) _ _ ⟨β, S, hH, hd, by rw [size_put, hn], EntAt.put (s := ⟨tm, H⟩) (dst := some t) he (fun t' h => by injection h with h; rw [hn, ← h]; exact hlt) ⟨fun _ => rfl, fun h => by cases h⟩⟩))
  have e2 : ∀ d (w : World), (Op.equalIn (d + 1) tt (.slice ad m q) (.slice none 0 0)).run P w = .ok ad.isNone w := fun d w => by cases ad <;> simp [Op.equalIn, run_underlying h.ut]
  have e3 : binOp .eql tt (.slice ad m q) (.slice none 0 0) = (do pure (.bool (← Op.equalIn (9999 + 1) tt (.slice ad m q) (.slice none 0 0)))) := rfl
  have e4 : eqGuard .eql tt x (.const (.slice none 0 0)) (.slice ad m q) (.slice none 0 0) = pure () := rfl
  have e5 : a.eval (.const (.slice none 0 0)) = .slice none 0 0 := rfl
  simp only [execOp, h1, e5, e4, e3, Sem.run_bind, Sem.run_pure, Result.andThen_ok, e2]
end
/-! ### arrays -/
section
variable {P : Program} {s : St} {g : Bool} {dst : Option Tmp} {ty : TypeId} {pos : String} {af : Array Edge} {gd : Option (Nat × Bool)}
theorem MOp.loadAD {x : Operand} {t : TypeId} {i : TypeInfo} {u : TypeDesc} {k off : Nat} {bcs cs' : List D} {be : TypeId} {bz : Nat} [h : TyI P t i u] (hx : Ev s g x (.ptr k off)) (hb : s.H[k]? = some (some ⟨bcs, be, bz⟩)) (hu : TypeDesc.isAgg u = true) (hn : Nat.ble (off + i.size) bcs.length = true) (hv : (bcs.drop off).take i.size = cs') :
    MOp P s ⟨dst, .load t x, ty, pos, af, gd⟩ g (.agg cs') := by
  subst hv
  exact MOp.loadA hx hb hu (by simpa using hn)
theorem MOp.nilCheckPtr {x : Operand} {i off : Nat} (hx : Ev s g x (.ptr i off)) : MOp P s ⟨dst, .nilCheck x, ty, pos, af, gd⟩ g (.ptr i off) := MOp.nilCheck hx rfl
theorem MOp.nilCheckRef {x : Operand} {cs : List V} (hx : Ev s g x (.p (.ref cs))) : MOp P s ⟨dst, .nilCheck x, ty, pos, af, gd⟩ g (.p (.ref cs)) := MOp.nilCheck hx rfl
theorem MOp.nilCheckFn {x : Operand} {f : FuncId} {a b : Array Value} (hx : Ev s g x (.p (.x (.func (.func f) a b)))) : MOp P s ⟨dst, .nilCheck x, ty, pos, af, gd⟩ g (.p (.x (.func (.func f) a b))) := MOp.nilCheck hx rfl
theorem MOp.nilCheckClo {x : Operand} {f : FuncId} {a b : List D} (hx : Ev s g x (.clo (.func f) a b)) : MOp P s ⟨dst, .nilCheck x, ty, pos, af, gd⟩ g (.clo (.func f) a b) := MOp.nilCheck hx rfl
theorem MOp.buildArr {t e : TypeId} {len : Nat} {parts : Array (Nat × Operand)} {i j : TypeInfo} {u : TypeDesc} {z : Value} {ds : List (Nat × D)} {res : List D} [h : TyI P t i (.array len e)] [h' : TyI P e j u] (hz : i.zero = some z) (hp : EvP s g parts.toList ds)
    (hf : fillD (fun i => some (i * j.size, j.size)) (z.cells.toList.map (fun v => D.p (.x v))) ds = some res) : MOp P s ⟨dst, .build t parts, ty, pos, af, gd⟩ g (.agg res) := by
  refine ⟨fun β S a w ho he hg K Q hK => ?_⟩
  have h1 := hp.rep (l := (Op.build t parts).operands) he hg (by
    intro x hx
    simp only [Op.operands, List.mem_toArray, List.mem_map]
    exact ⟨x, hx, rfl⟩)
  have hc : D.RepL β S w (z.cells.toList.map (fun v => D.p (.x v))) z.cells.toList := by
    have := D.RepL.p (β := β) (V.RepL.x (S := S) (w := w) (l := z.cells.toList))
    rwa [List.map_map] at this
  obtain ⟨us, h2, h3⟩ := fill_rep _ h1 hc hf
  rw [Array.toArray_toList] at h2
  refine wp_value (v := .agg us.toArray) (w' := w) ?_ (hK _ w (Ext.refl w) ⟨us, rfl, h3⟩)
  simp only [execOp, Instr.build, Sem.run_bind, run_zeroValue' h.ti hz, Result.andThen_ok, run_underlying h.ut, run_sizeOf' h'.ti]
  simp only [Array.toList_map]
  rw [h2]
  rfl
/-- &a[n] of an array in a box -/
theorem MOp.indexArr {x y : Operand} {t e : TypeId} {i j : TypeInfo} {u : TypeDesc} {k off len : Nat} {kk : IntKind} {q : Int} [h : TyI P t i (.array len e)] [h' : TyI P e j u] (hx : Ev s g x (.ptr k off)) (hy : Ev s g y (.p (.x (.int kk q)))) (hb : g = true → 0 ≤ q ∧ q < len) :
    MOp P s ⟨dst, .indexAddr t x y, ty, pos, af, gd⟩ g (.ptr k (off + q.toNat * j.size)) := by
  refine ⟨fun β S a w ho he hg K Q hK => ?_⟩
  obtain ⟨b1, b2⟩ := hb hg
  have r1 := hx.rep (l := (Op.indexAddr t x y).operands) (by simp [Op.operands]) he hg
  have r2 : a.eval y = .int kk q := hy.rep (l := (Op.indexAddr t x y).operands) (by simp [Op.operands]) he hg
  obtain ⟨b, c, h1, h2⟩ := r1
  refine wp_value (v := .pointer (some ⟨b, off + q.toNat * j.size, none⟩)) (w' := w) ?_ (hK _ w (Ext.refl w) ⟨b, c, h1, rfl⟩)
  simp [execOp, h2, r2, Instr.indexAt, asIntOf, Instr.sureAddr, run_underlying h.ut, b1, b2, run_sizeOf' h'.ti, add_lit]
end
/-! ### functions that are given boxes -/
section
variable {P : Program} {f : FuncId} {fn : Func} {code : Code} {n : Nat}
theorem FnR.of {ds : List D} {H0 : List (Option Box)} {rs : List V} {res : List ResultVar} (henter : ∀ args w, (callFunc f args).run P w = .ok (.enter f args) w) (hf : P.funcs[f]? = some fn) (hb : fn.body = some code) (hnt : fn.ntmps = n) (hrs : fn.results = res.toArray) (hn : ds.length ≤ n) (ids : D.upToL H0.length ds = true) (hids : Hp.upTo H0.length H0 = true)
    (h : ∀ c, c.ro = true → c.β0.length = H0.length → c.dead = [] → Sym P c n code (Fin P H0.length res rs) ⟨TM.argsD 0 ds, H0⟩) : FnR P f ds H0 (tupV rs) := by
  refine ⟨henter, ids, hids, fun β S w us hH hr => ?_⟩
  refine calls_of_wp hf hb ?_
  rw [hnt, List.size_toArray]
  have hup : ∀ b, w.heap.size ≤ b → S b := hH.up
  have hlen : (⟨w, S, β, true, [], [], noEsc⟩ : Ctx).β0.length = H0.length := hH.len
  refine wp_mono (h ⟨w, S, β, true, [], [], noEsc⟩ rfl hlen rfl _ w (SR.begin hH hr hn)) ?_
  rintro e a' w' ⟨s', h1, h2⟩
  replace h1 := h1.sr rfl
  cases e with
  | ret =>
    obtain ⟨u, k1, k2, k3, k4⟩ := fin_run hrs h2 h1 (Nat.le_of_eq hlen) (.inl rfl) hup
    exact bodyPost_ret k1 k2 ⟨u, rfl, k3, k4⟩
  | normal =>
    obtain ⟨u, k1, k2, k3, k4⟩ := fin_run hrs h2 h1 (Nat.le_of_eq hlen) (.inl rfl) hup
    exact bodyPost_end k1 k2 ⟨u, rfl, k3, k4⟩
  | exit _ => exact h2.elim
  | goto _ => exact h2.elim
  | panic _ => exact h2.elim
  | outgrown => exact h2.elim
/-- a result as it is at the end, boxes and all -/
inductive ResD (P : Program) (s : St) : ResultVar → D → Prop
  | tmp {t : Tmp} {d d' : D} : TM.get s.tm t = some (true, d') → DLe d' d → ResD P s (.tmp t) d
  | cell {t : Tmp} {ty : TypeId} {i : TypeInfo} {u : TypeDesc} {k off : Nat} {x : Box} {d d' : D} : TyI P ty i u → TM.get s.tm t = some (true, .ptr k off) → s.H[k]? = some (some x) → TypeDesc.isAgg u = false → x.cs[off]? = some d' → DLe d' d → ResD P s (.cell t ty) d
  | cellA {t : Tmp} {ty : TypeId} {i : TypeInfo} {u : TypeDesc} {k off : Nat} {x : Box} {d : D} : TyI P ty i u → TM.get s.tm t = some (true, .ptr k off) → s.H[k]? = some (some x) → TypeDesc.isAgg u = true → off + i.size ≤ x.cs.length → DLe (.agg ((x.cs.drop off).take i.size)) d → ResD P s (.cell t ty) d
inductive ResDL (P : Program) (s : St) : List ResultVar → List D → Prop
  | nil : ResDL P s [] []
  | cons {r : ResultVar} {v : D} {rs : List ResultVar} {vs : List D} : ResD P s r v → ResDL P s rs vs → ResDL P s (r :: rs) (v :: vs)
def tupD : List D → D
  | [d] => d
  | ds => .tup ds
section
variable {c : Ctx} {s : St} {a : Act} {w : World} {β : List Place} {S : Nat → Prop}
theorem ResD.run (hH : HOk s.H β S w) (he : ∀ t, EntAt s β S w a t) {r : ResultVar} {d : D} (h : ResD P s r d) : ∃ u, (resVal a.tmps r).run P w = .ok u w ∧ d.Rep β S w u := by
  cases h with
  | tmp h1 h2 => exact ⟨_, rfl, h2.rep ((he _ _ _ h1).2.1 rfl)⟩
  | @cell t ty i u k off x d d' hty h1 h2 h3 h4 h5 =>
    have hp := (he _ _ _ h1).2.1 rfl
    obtain ⟨b, q, hb, hv⟩ := hp
    rcases hH.box _ _ h2 with ⟨k1, _⟩ | ⟨b', c', cur, us, k1, k2, k3, k4, k5, k6, k7⟩
    · rw [hb] at k1; cases k1
    · rw [hb] at k1
      simp only [Option.some.injEq, Prod.mk.injEq] at k1
      obtain ⟨rfl, rfl⟩ := k1
      obtain ⟨y, h7, h8⟩ := k4.get h4
      have h9 : cur.toList[off]? = some y := prefix_get k5 h7
      refine ⟨y, ?_, h5.rep h8⟩
      simp only [resVal, hv, asAddr, Sem.run_bind, Sem.run_pure, Result.andThen_ok, loadVar, run_isAgg' hty.ut, h3]
      simp at h9
      simp [run_load, World.cell?, k3, h9]
  | @cellA t ty i u k off x d hty h1 h2 h3 h4 h5 =>
    have hp := (he _ _ _ h1).2.1 rfl
    obtain ⟨b, q, hb, hv⟩ := hp
    rcases hH.box _ _ h2 with ⟨k1, _⟩ | ⟨b', c', cur, us, k1, k2, k3, k4, k5, k6, k7⟩
    · rw [hb] at k1; cases k1
    · rw [hb] at k1
      simp only [Option.some.injEq, Prod.mk.injEq] at k1
      obtain ⟨rfl, rfl⟩ := k1
      have hl := k4.len
      have := run_loadCells_list (P := P) w ⟨b, off, none⟩ ((us.drop off).take i.size) (fun j v hj => by
        rw [List.getElem?_take] at hj
        split at hj
        · rw [List.getElem?_drop] at hj
          have h9 : cur.toList[off + j]? = some v := prefix_get k5 hj
          simp at h9
          rw [add_lit]
          simp [World.cell?, k3, h9]
        · cases hj)
      rw [List.length_take, List.length_drop, Nat.min_eq_left (by omega)] at this
      refine ⟨.agg ((us.drop off).take i.size).toArray, ?_, h5.rep ⟨_, rfl, (k4.drop _).take _⟩⟩
      simp only [resVal, hv, asAddr, Sem.run_bind, Sem.run_pure, Result.andThen_ok, loadVar, run_isAgg' hty.ut, h3, if_true, run_sizeOf' hty.ti, this]
theorem ResDL.run (hH : HOk s.H β S w) (he : ∀ t, EntAt s β S w a t) : ∀ {rs : List ResultVar} {ds : List D}, ResDL P s rs ds → ∃ us, (rs.mapM (resVal a.tmps)).run P w = .ok us w ∧ D.RepL β S w ds us
  | _, _, .nil => ⟨[], rfl, rfl⟩
  | _, _, .cons h1 h2 => by
    obtain ⟨u, h3, h4⟩ := h1.run hH he
    obtain ⟨us, h5, h6⟩ := ResDL.run hH he h2
    refine ⟨u :: us, ?_, ⟨_, _, rfl, h4, h6⟩⟩
    rw [List.mapM_cons, Sem.run_bind, h3]
    simp only [Result.andThen_ok, Sem.run_bind, h5, Sem.run_pure]
end
/-- how a function ends that leaves boxes -/
def FinB (P : Program) (c : Ctx) (res : List ResultVar) (ds : List D) (H1 : List (Option Box)) : Exit → St → Prop
  | .ret, s => ∃ tm, Le c s ⟨tm, H1⟩ ∧ ResDL P ⟨tm, H1⟩ res ds
  | .normal, s => ∃ tm, Le c s ⟨tm, H1⟩ ∧ ResDL P ⟨tm, H1⟩ res ds
  | _, _ => False
theorem FinB.rt {c : Ctx} {res : List ResultVar} {ds : List D} {s : St} (h : ResDL P s res ds) : FinB P c res ds s.H .ret s := ⟨s.tm, Le.refl c s, h⟩
theorem FinB.nx {c : Ctx} {res : List ResultVar} {ds : List D} {s : St} (h : ResDL P s res ds) : FinB P c res ds s.H .normal s := ⟨s.tm, Le.refl c s, h⟩
theorem FinB.rtW {c : Ctx} {res : List ResultVar} {ds : List D} {s : St} {H1 : List (Option Box)} (tm : List (Nat × Bool × D)) (hl : Le c s ⟨tm, H1⟩) (h : ResDL P ⟨tm, H1⟩ res ds) : FinB P c res ds H1 .ret s := ⟨tm, hl, h⟩
theorem FinB.nxW {c : Ctx} {res : List ResultVar} {ds : List D} {s : St} {H1 : List (Option Box)} (tm : List (Nat × Bool × D)) (hl : Le c s ⟨tm, H1⟩) (h : ResDL P ⟨tm, H1⟩ res ds) : FinB P c res ds H1 .normal s := ⟨tm, hl, h⟩
theorem FnB.of {ds rs : List D} {H0 H1 : List (Option Box)} {res : List ResultVar} (henter : ∀ args w, (callFunc f args).run P w = .ok (.enter f args) w) (hf : P.funcs[f]? = some fn) (hb : fn.body = some code) (hnt : fn.ntmps = n) (hrs : fn.results = res.toArray) (hn : ds.length ≤ n) (ids : D.upToL H0.length ds = true) (hids : Hp.upTo H0.length H0 = true)
    (h : ∀ c, c.ro = false → c.β0.length = H0.length → c.dead = [] → Sym P c n code (FinB P c res rs H1) ⟨TM.argsD 0 ds, H0⟩) : FnB P f ds H0 (tupD rs) H1 := by
  refine ⟨henter, ids, hids, fun β S w us hH hr => ?_⟩
  refine calls_of_wp hf hb ?_
  rw [hnt, List.size_toArray]
  refine wp_mono (h ⟨w, S, β, false, [], [], noEsc⟩ rfl hH.len rfl _ w (SR.begin hH hr hn)) ?_
  have key : ∀ (s' : St) (a' : Act) (w' : World), SR ⟨w, S, β, false, [], [], noEsc⟩ n s' a' w' → (∃ tm, Le ⟨w, S, β, false, [], [], noEsc⟩ s' ⟨tm, H1⟩ ∧ ResDL P ⟨tm, H1⟩ res rs) → ∃ u, (results fn a'.tmps).run P w' = .ok u w' ∧ a'.defers = [] ∧ ∃ u' β1 S1, Ending.returned u = .returned u' ∧ HSt ⟨w, S, β, false, [], [], noEsc⟩ H1 β1 S1 w' ∧ (tupD rs).Rep β1 S1 w' u' := by
    rintro s' a' w' h1 ⟨tm, hle, h2⟩
    obtain ⟨β1, S1, hH1, hd, _, he⟩ := hle _ _ _ h1
    obtain ⟨us, h3, h4⟩ := h2.run hH1.toHOk he
    refine ⟨if h : us.toArray.size = 1 then us.toArray[0] else .tuple us.toArray, ?_, hd, _, β1, S1, rfl, hH1, ?_⟩
    · rw [results_eq, hrs]
      simp [List.mapM_toArray, h3]
    · have hl := h4.len
      match rs, us, h4, hl with
      | [], [], _, _ => exact ⟨[], rfl, rfl⟩
      | [v], [u], h2, _ =>
        obtain ⟨y, ys, h3, h4, _⟩ := h2
        injection h3 with h3 _
        subst h3
        exact h4
      | v :: v' :: vs, u :: u' :: us, h2, _ =>
        have : ¬ (u :: u' :: us).toArray.size = 1 := by simp
        rw [dif_neg this]
        exact ⟨_, rfl, h2⟩
  rintro e a' w' ⟨s', h1, h2⟩
  replace h1 := h1.sr rfl
  cases e with
  | ret =>
    obtain ⟨u, k1, k2, k3⟩ := key s' a' w' h1 h2
    exact bodyPost_ret k1 k2 k3
  | normal =>
    obtain ⟨u, k1, k2, k3⟩ := key s' a' w' h1 h2
    exact bodyPost_end k1 k2 k3
  | exit _ => exact h2.elim
  | goto _ => exact h2.elim
  | panic _ => exact h2.elim
  | outgrown => exact h2.elim
end
section
variable {P : Program} {f : FuncId} {ds : List D} {H0 H1 H1' : List (Option Box)} {r r' : D}
theorem FnB.le (h : FnB P f ds H0 r H1) (hle : ∀ c, c.ro = false → c.β0.length = H0.length → c.dead = [] → Le c ⟨[(0, true, r)], H1⟩ ⟨[(0, true, r')], H1'⟩) : FnB P f ds H0 r' H1' := by
  refine ⟨h.enter, h.ids, h.hids, fun β S w us hH hr => (h.calls β S w us hH hr).mono ?_⟩
  rintro e w' ⟨u, β1, S1, rfl, h1, h2⟩
  obtain ⟨β2, S2, h3, _, _, h4⟩ := hle ⟨w, S, β, false, [], [], noEsc⟩ rfl hH.len rfl 1 { tmps := #[u], defers := [] } w' ⟨β1, S1, h1, rfl, rfl, fun t g d hg => by
    rw [TM.get_cons] at hg
    split at hg
    · rename_i e
      subst e
      simp only [Option.some.injEq, Prod.mk.injEq] at hg
      obtain ⟨rfl, rfl⟩ := hg
      exact ⟨by simp, fun _ => h2, fun h => by cases h⟩
    · cases hg⟩
  exact ⟨u, β2, S2, rfl, h3, (h4 0 true r' rfl).2.1 rfl⟩
theorem FnB.ice {α : Type} (enc : α → List V) (k : Nat) (l : List α) {e : TypeId} {sz : Nat} (h : FnB P f ds H0 r H1) (hb : H1[k]? = some (some ⟨D.enc enc l, e, sz⟩)) (hz : Nat.blt 0 sz = true) (hk : Nat.ble H0.length k = true) (hr : r.ice k l.length (V.list enc l) = r') (hH : (Hp.ice k l.length (V.list enc l) H1).set k none = H1') : FnB P f ds H0 r' H1' := by
  subst hr; subst hH
  exact h.le fun c _ hc _ n a w hr => SR.ice enc hb hz (by rw [hc]; simpa using hk) hr
end
end Go.Sy
set_option linter.unusedSimpArgs false
set_option linter.unusedVariables false
namespace Go.Sy
open Go.RowKit

/-- may i come behind j, though it stands ahead? -/
def loose (ops : Array Oper) (i j : Nat) : Bool := !((masks ops.toList []).getD j 0).testBit i
/-- what changes boxes is waited for by all behind it -/
def storesOk (ops : Array Oper) (ws : List Nat) : Bool :=
  ws.all fun j => match ops[j]? with
    | some o => o.guard.isNone && (List.range ops.size).all fun i => !decide (j < i) || ((masks ops.toList []).getD i 0).testBit j
    | none => false
/-- what is left of a datum when row k has moved -/
def D.cl : Option Nat → D → D
  | none, d => d
  | some k, d => d.clean k
def TM.cl : Option Nat → List (Nat × Bool × D) → List (Nat × Bool × D)
  | none, l => l
  | some k, l => TM.clean k l
structure Moved (kk : Option Nat) (β β' : List Place) (S S' : Nat → Prop) (w w' : World) : Prop where
  β : ∀ (i : Nat) (e : Place), kk ≠ some i → β[i]? = some e → β'[i]? = some e
  mem : ∀ b, S b → b < w.heap.size → w'.heap[b]? = w.heap[b]?
  S : ∀ b, S b → b < w.heap.size → S' b
/-- blocks that are nobody's stay as they are, and nobody's -/
def WOut (H H' : List (Option Box)) (β β' : List Place) (S S' : Nat → Prop) (w w' : World) : Prop :=
  ∀ b, ¬ S b → b < w.heap.size → (∀ (i : Nat) x p, H[i]? = some (some x) → β[i]? ≠ some (some (b, p))) → w'.heap[b]? = w.heap[b]? ∧ ¬ S' b ∧ ∀ (i : Nat) x p, H'[i]? = some (some x) → β'[i]? ≠ some (some (b, p))
theorem out_new {H : List (Option Box)} {β : List Place} {S : Nat → Prop} {w : World} {o : Obj} {q : Nat} {x : Box} (hl : β.length = H.length) : WOut H (H ++ [some x]) β (β ++ [some (w.heap.size, q)]) S (fun b => S b ∧ b ≠ w.heap.size) w (w.alloc o) := by
  intro b hb hlt hβ
  refine ⟨Below.heap_alloc _ _ _ hlt, fun h => hb h.1, fun i y p hi h => ?_⟩
  rw [List.getElem?_append] at h hi
  split at h
  · rename_i hlt2
    rw [if_pos (by omega)] at hi
    exact hβ i y p hi h
  · rename_i hge
    have : i = β.length := by
      rcases Nat.lt_or_ge β.length i with h' | h'
      · rw [List.getElem?_eq_none (by simp; omega)] at h; cases h
      · omega
    subst this
    simp at h
    omega
/-- an operation that changes boxes: what they hold behind it -/
structure WStep (P : Program) (c : Ctx) (n : Nat) (ops : Array Oper) (s : St) (o : Oper) (kk : Option Nat) (H' : List (Option Box)) (d : D) : Prop where
  ds : dstOk n o = true
  run : ∀ β S a w, HSt c s.H β S w → (∀ t ∈ o.looksAt ops, EntAt s β S w a t) → ∀ (K : Act → World → Prop) (Q : Exit → Act → World → Prop), (∀ u β' S' w', HSt c H' β' S' w' → Moved kk β β' S S' w w' → WOut s.H H' β β' S S' w w' → (o.dst ≠ none → d.Rep β' S' w' u) → K (a.put o.dst u) w') → o.wp P a w K Q
structure Past where
  i : Nat
  o : Oper
  g : Bool
  d : D
  tm : List (Nat × Bool × D)
def Past.cl (kk : Option Nat) (e : Past) : Past := ⟨e.i, e.o, e.g, e.d.cl kk, TM.cl kk e.tm⟩
inductive XTo (P : Program) (c : Ctx) (n : Nat) (ops : Array Oper) (ws : List Nat) (T : St → Prop) : Nat → List Oper → St → List Past → Prop
  | done {k : Nat} {s : St} {past : List Past} : T s → XTo P c n ops ws T k [] s past
  | read {k : Nat} {o : Oper} {l : List Oper} {s : St} {past : List Past} {g : Bool} {d : D} : ws.contains k = false → MStep P n ops s o g d → XTo P c n ops ws T (k + 1) l (s.put o.dst g d) (⟨k, o, g, d, s.tm⟩ :: past) → XTo P c n ops ws T k (o :: l) s past
  | write {k : Nat} {o : Oper} {l : List Oper} {s : St} {past : List Past} {kk : Option Nat} {H' : List (Option Box)} {d : D} : ws.contains k = true → WStep P c n ops s o kk H' d → (∀ e ∈ past.filter fun e => loose ops e.i k, MStep P n ops ⟨TM.cl kk e.tm, H'⟩ e.o e.g (e.d.cl kk)) → XTo P c n ops ws T (k + 1) l (St.put ⟨TM.cl kk s.tm, H'⟩ o.dst true d) (past.map (Past.cl kk)) → XTo P c n ops ws T k (o :: l) s past
theorem masks_get {ops : Array Oper} {i j : Nat} (h : ((masks ops.toList []).getD j 0).testBit i = true) : Waits ops i j := by
  have hb : OkMasks ops (masks ops.toList []) := masks_ok ops _ _ (fun j m h => by simp at h) (fun j => by simp)
  cases hm : (masks ops.toList [])[j]? with
  | none => rw [List.getD_eq_getElem?_getD, hm] at h; simp at h
  | some m =>
    rw [List.getD_eq_getElem?_getD, hm] at h
    exact hb j m hm i h
def IsW (ws : List Nat) (j : Nat) : Prop := ws.contains j = true
theorem storesOk.at {ops : Array Oper} {ws : List Nat} (h : storesOk ops ws = true) {j : Nat} (hj : IsW ws j) : ∃ o, ops[j]? = some o ∧ o.guard = none ∧ ∀ i, j < i → i < ops.size → Waits ops j i := by
  have hm : j ∈ ws := by simpa [IsW] using hj
  have := List.all_eq_true.1 h j hm
  cases ho : ops[j]? with
  | none => rw [ho] at this; cases this
  | some o =>
    rw [ho] at this
    simp only [Bool.and_eq_true] at this
    refine ⟨o, rfl, Option.isNone_iff_eq_none.1 this.1, fun i hij hi => ?_⟩
    have := List.all_eq_true.1 this.2 i (List.mem_range.2 hi)
    simp only [Bool.or_eq_true, Bool.not_eq_true', decide_eq_false_iff_not] at this
    rcases this with h1 | h1
    · exact absurd hij h1
    · exact masks_get h1
section
variable {β β' : List Place} {S S' : Nat → Prop} {w w' : World} {kk : Option Nat}
theorem Moved.rep (h : Moved kk β β' S S' w w') {d : D} {u : Value} (k : d.Rep β S w u) : (d.cl kk).Rep β' S' w' u := by
  cases kk with
  | none => exact k.mono (fun i e => h.β i e (by simp)) h.mem h.S
  | some j => exact k.clean (fun i e hi => h.β i e (by simpa using Ne.symm hi)) h.mem h.S
theorem Moved.ent (h : Moved kk β β' S S' w w') {g : Bool} {d : D} {u : Value} (k : Ent β S w g d u) : Ent β' S' w' g (d.cl kk) u := ⟨fun hg => h.rep (k.1 hg), k.2⟩
theorem TM.cl_get {l : List (Nat × Bool × D)} {t : Nat} {g : Bool} {d : D} (h : TM.get (TM.cl kk l) t = some (g, d)) : ∃ d', TM.get l t = some (g, d') ∧ d = d'.cl kk := by
  cases kk with
  | none => exact ⟨d, h, rfl⟩
  | some k => exact TM.clean_get h
theorem TM.cl_cons {l : List (Nat × Bool × D)} {t : Nat} {g : Bool} {d : D} : TM.cl kk ((t, g, d) :: l) = (t, g, d.cl kk) :: TM.cl kk l := by cases kk <;> rfl
end
theorem stAt_congr {ops : Array Oper} {s : St} {gd gd' : Nat → Bool × D} : ∀ i, (∀ j, j < i → gd j = gd' j) → stAt ops s gd i = stAt ops s gd' i
  | 0, _ => rfl
  | i + 1, h => by
    unfold stAt
    rw [stAt_congr i fun j hj => h j (by omega), h i (by omega)]
theorem stAt_cl {ops : Array Oper} {tm : List (Nat × Bool × D)} {H H' : List (Option Box)} {gd gd' : Nat → Bool × D} {kk : Option Nat} : ∀ i, (∀ j, j < i → gd' j = ((gd j).1, (gd j).2.cl kk)) → (stAt ops ⟨TM.cl kk tm, H'⟩ gd' i).tm = TM.cl kk (stAt ops ⟨tm, H⟩ gd i).tm
  | 0, _ => rfl
  | i + 1, h => by
    have ih := stAt_cl (ops := ops) (tm := tm) (H := H) (H' := H') (gd := gd) (gd' := gd') (kk := kk) i fun j hj => h j (by omega)
    unfold stAt
    rw [h i (by omega)]
    cases (ops[i]?).bind (·.dst) with
    | none => exact ih
    | some t => simp only [St.put, ih, TM.cl_cons]
theorem stAt_tm {ops : Array Oper} (tm : List (Nat × Bool × D)) (H H' : List (Option Box)) (gd : Nat → Bool × D) : ∀ i, (stAt ops ⟨tm, H⟩ gd i).tm = (stAt ops ⟨tm, H'⟩ gd i).tm
  | 0 => rfl
  | i + 1 => by
    unfold stAt
    have ih := stAt_tm (ops := ops) tm H H' gd i
    cases (ops[i]?).bind (·.dst) with
    | none => exact ih
    | some t => simp [St.put, ih]
theorem put_tm {x y : St} {dst : Option Tmp} {g : Bool} {d : D} (h : x.tm = y.tm) : (x.put dst g d).tm = (y.put dst g d).tm := by
  cases dst with
  | none => exact h
  | some t => simp [St.put, h]
theorem put_H {x : St} {dst : Option Tmp} {g : Bool} {d : D} : (x.put dst g d).H = x.H := by cases dst <;> rfl
section
variable {P : Program} {c : Ctx} {n : Nat} {ops : Array Oper} {ws : List Nat} {T : St → Prop} {s0 : St}
/-- what is known at each stage: entries ahead, boxes, data of what is done -/
structure XGood (P : Program) (c : Ctx) (n : Nat) (ops : Array Oper) (ws : List Nat) (s0 : St) (k : Nat) (ts : Nat → List (Nat × Bool × D)) (hs : Nat → List (Option Box)) (G : Nat → Nat → Bool × D) : Prop where
  zero : ts 0 = s0.tm ∧ hs 0 = s0.H
  const : ∀ i, i < k → ¬ IsW ws i → ts (i + 1) = ts i ∧ hs (i + 1) = hs i ∧ ∀ j, G (i + 1) j = G i j
  rd : ∀ i, i < k → ∀ o, ops[i]? = some o → ¬ IsW ws i → ∀ p, i ≤ p → p ≤ k → (∀ j, IsW ws j → i < j → j < p → ¬ Waits ops i j) → MStep P n ops ⟨(stAt ops ⟨ts p, hs p⟩ (G p) i).tm, hs p⟩ o (G p i).1 (G p i).2
  wr : ∀ j, j < k → ∀ o, ops[j]? = some o → IsW ws j → ∃ kk, WStep P c n ops ⟨(stAt ops ⟨ts j, hs j⟩ (G j) j).tm, hs j⟩ o kk (hs (j + 1)) (G (j + 1) j).2 ∧ (G (j + 1) j).1 = true ∧ ts (j + 1) = TM.cl kk (ts j) ∧ ∀ i, i < j → G (j + 1) i = ((G j i).1, (G j i).2.cl kk)
theorem XTo.steps : ∀ {l : List Oper} {k : Nat} {s : St} {past : List Past}, XTo P c n ops ws T k l s past → ∀ (ts0 : Nat → List (Nat × Bool × D)) (hs0 : Nat → List (Option Box)) (G0 : Nat → Nat → Bool × D), s.tm = (stAt ops ⟨ts0 k, hs0 k⟩ (G0 k) k).tm → s.H = hs0 k → (∀ j, j < l.length → l[j]? = ops[k + j]?) →
    (∀ i, i < k → ∀ o, ops[i]? = some o → ¬ IsW ws i → ⟨i, o, (G0 k i).1, (G0 k i).2, (stAt ops ⟨ts0 k, hs0 k⟩ (G0 k) i).tm⟩ ∈ past) → XGood P c n ops ws s0 k ts0 hs0 G0 →
    ∃ ts hs G, XGood P c n ops ws s0 (k + l.length) ts hs G ∧ T ⟨(stAt ops ⟨ts (k + l.length), hs (k + l.length)⟩ (G (k + l.length)) (k + l.length)).tm, hs (k + l.length)⟩
  | [], k, s, past, .done h, ts0, hs0, G0, h1, h2, _, _, hg => ⟨ts0, hs0, G0, hg, by rw [List.length_nil, Nat.add_zero, ← h1, ← h2]; exact h⟩
  | o :: l, k, s, past, .read (g := g) (d := d) hnw hst h, ts0, hs0, G0, h1, h2, hl, hp, hg => by
    have ho : ops[k]? = some o := by simpa using (hl 0 (by simp)).symm
    have hnw : ¬ IsW ws k := by unfold IsW; rw [hnw]; simp
    have := XTo.steps h (fun p => if p = k + 1 then ts0 k else ts0 p) (fun p => if p = k + 1 then hs0 k else hs0 p) (fun p j => if j = k then (g, d) else if p = k + 1 then G0 k j else G0 p j) ?_ ?_ ?_ ?_ ?_
    · rwa [show k + (o :: l).length = k + 1 + l.length by simp; omega]
    · simp only [if_true]
      show _ = (St.put (stAt ops _ _ k) _ _ _).tm
      rw [ho]
      simp only [Option.bind_some, if_true]
      refine put_tm ?_
      rw [h1]
      refine congrArg St.tm (stAt_congr k fun j hj => ?_)
      rw [if_neg (by omega)]
    · rw [put_H, if_pos rfl, h2]
    · intro j hj
      have := hl (j + 1) (by simpa using hj)
      simpa [Nat.add_assoc, Nat.add_comm 1 j] using this
    · intro i hi o' ho' hd'
      simp only [if_true]
      by_cases e : i = k
      · subst e
        rw [ho] at ho'
        injection ho' with ho'
        subst ho'
        simp only [if_true]
        have e1 : (stAt ops ⟨ts0 i, hs0 i⟩ (fun j => if j = i then (g, d) else G0 i j) i).tm = s.tm := by
          rw [h1]
          refine congrArg St.tm (stAt_congr i fun j hj => ?_)
          rw [if_neg (by omega)]
        rw [e1]
        exact List.mem_cons_self
      · rw [if_neg e]
        have e1 : (stAt ops ⟨ts0 k, hs0 k⟩ (fun j => if j = k then (g, d) else G0 k j) i) = stAt ops ⟨ts0 k, hs0 k⟩ (G0 k) i := stAt_congr i fun j hj => by rw [if_neg (by omega)]
        rw [e1]
        exact List.mem_cons_of_mem _ (hp i (by omega) o' ho' hd')
    · refine ⟨⟨by rw [if_neg (by omega)]; exact hg.zero.1, by rw [if_neg (by omega)]; exact hg.zero.2⟩, ?_, ?_, ?_⟩
      · intro i hi hw
        by_cases e : i = k
        · subst e
          rw [if_pos rfl, if_neg (by omega), if_pos rfl, if_neg (by omega)]
          refine ⟨rfl, rfl, fun j => ?_⟩
          split
          · rfl
          · rw [if_pos rfl, if_neg (by omega)]
        · rw [if_neg (by omega), if_neg (by omega), if_neg (by omega), if_neg (by omega)]
          obtain ⟨c1, c2, c3⟩ := hg.const i (by omega) hw
          refine ⟨c1, c2, fun j => ?_⟩
          split
          · rfl
          · rw [if_neg (by omega), if_neg (by omega)]; exact c3 j
      · intro i hi o' ho' hd' p hip hpk hloose
        have eT : (if p = k + 1 then ts0 k else ts0 p) = ts0 (min p k) := by
          split
          · rename_i e; rw [e, Nat.min_eq_right (by omega)]
          · rw [Nat.min_eq_left (by omega)]
        have eH : (if p = k + 1 then hs0 k else hs0 p) = hs0 (min p k) := by
          split
          · rename_i e; rw [e, Nat.min_eq_right (by omega)]
          · rw [Nat.min_eq_left (by omega)]
        have eG : ∀ j, (if p = k + 1 then G0 k j else G0 p j) = G0 (min p k) j := by
          intro j
          split
          · rename_i e; rw [e, Nat.min_eq_right (by omega)]
          · rw [Nat.min_eq_left (by omega)]
        simp only [eT, eH, eG]
        have eS : stAt ops ⟨ts0 (min p k), hs0 (min p k)⟩ (fun j => if j = k then (g, d) else G0 (min p k) j) i = stAt ops ⟨ts0 (min p k), hs0 (min p k)⟩ (G0 (min p k)) i := stAt_congr i fun j hj => by rw [if_neg (by omega)]
        rw [eS]
        by_cases e : i = k
        · subst e
          rw [ho] at ho'
          injection ho' with ho'
          subst ho'
          rw [if_pos rfl, Nat.min_eq_right hip, ← h1, ← h2]
          exact hst
        · rw [if_neg e]
          exact hg.rd i (by omega) o' ho' hd' (min p k) (by omega) (by omega) fun j hj h3 h4 => hloose j hj h3 (by omega)
      · intro j hj o' ho' hd'
        have e : j ≠ k := by
          rintro rfl
          exact hnw hd'
        obtain ⟨kk, w1, w2, w3, w4⟩ := hg.wr j (by omega) o' ho' hd'
        have n1 : ¬ j + 1 = k + 1 := by omega
        have n2 : ¬ j = k + 1 := by omega
        refine ⟨kk, ?_, ?_, ?_, ?_⟩
        · simp only [if_neg n1, if_neg n2, if_neg e]
          have eS : stAt ops ⟨ts0 j, hs0 j⟩ (fun q => if q = k then (g, d) else G0 j q) j = stAt ops ⟨ts0 j, hs0 j⟩ (G0 j) j := stAt_congr j fun q hq => by rw [if_neg (by omega)]
          rw [eS]
          exact w1
        · simp only [if_neg n1, if_neg e]; exact w2
        · simp only [if_neg n1, if_neg n2]; exact w3
        · intro i hi
          simp only [if_neg n1, if_neg n2]
          rw [if_neg (by omega), if_neg (by omega)]
          exact w4 i hi
  | o :: l, k, s, past, .write (kk := kk) (H' := H') (d := d) hw hst hlo h, ts0, hs0, G0, h1, h2, hl, hp, hg => by
    have ho : ops[k]? = some o := by simpa using (hl 0 (by simp)).symm
    have hw : IsW ws k := hw
    have hcl : ∀ j, j < k → (if j = k then (true, d) else ((G0 k j).1, (G0 k j).2.cl kk)) = ((G0 k j).1, (G0 k j).2.cl kk) := fun j hj => by rw [if_neg (by omega)]
    have := XTo.steps h (fun p => if p = k + 1 then TM.cl kk (ts0 k) else ts0 p) (fun p => if p = k + 1 then H' else hs0 p) (fun p j => if p = k + 1 then (if j = k then (true, d) else ((G0 k j).1, (G0 k j).2.cl kk)) else G0 p j) ?_ ?_ ?_ ?_ ?_
    · rwa [show k + (o :: l).length = k + 1 + l.length by simp; omega]
    · simp only [if_true]
      show _ = (St.put (stAt ops _ _ k) _ _ _).tm
      rw [ho]
      simp only [Option.bind_some, if_true]
      refine put_tm ?_
      rw [h1]
      exact (stAt_cl k hcl).symm
    · rw [put_H, if_pos rfl]
    · intro j hj
      have := hl (j + 1) (by simpa using hj)
      simpa [Nat.add_assoc, Nat.add_comm 1 j] using this
    · intro i hi o' ho' hd'
      have e : i ≠ k := by rintro rfl; exact hd' hw
      simp only [if_true, if_neg e]
      rw [stAt_cl (H := hs0 k) (gd := G0 k) i fun j hj => hcl j (by omega)]
      exact List.mem_map.2 ⟨_, hp i (by omega) o' ho' hd', rfl⟩
    · refine ⟨⟨by rw [if_neg (by omega)]; exact hg.zero.1, by rw [if_neg (by omega)]; exact hg.zero.2⟩, ?_, ?_, ?_⟩
      · intro i hi hnw
        have e : i ≠ k := by rintro rfl; exact hnw hw
        rw [if_neg (by omega), if_neg (by omega), if_neg (by omega), if_neg (by omega)]
        obtain ⟨c1, c2, c3⟩ := hg.const i (by omega) hnw
        refine ⟨c1, c2, fun j => ?_⟩
        rw [if_neg (by omega), if_neg (by omega)]; exact c3 j
      · intro i hi o' ho' hd' p hip hpk hloose
        have e : i ≠ k := by rintro rfl; exact hd' hw
        by_cases hpe : p = k + 1
        · subst hpe
          simp only [if_true, if_neg e]
          rw [stAt_cl (H := hs0 k) (gd := G0 k) i fun j hj => hcl j (by omega)]
          have hm := hp i (by omega) o' ho' hd'
          refine hlo ⟨i, o', _, _, _⟩ (List.mem_filter.2 ⟨hm, ?_⟩)
          show (!((masks ops.toList []).getD k 0).testBit i) = true
          cases hb : ((masks ops.toList []).getD k 0).testBit i with
          | false => rfl
          | true => exact absurd (masks_get hb) (hloose k hw (by omega) (by omega))
        · simp only [if_neg hpe]
          exact hg.rd i (by omega) o' ho' hd' p hip (by omega) hloose
      · intro j hj o' ho' hd'
        by_cases e : j = k
        · subst e
          rw [ho] at ho'
          injection ho' with ho'
          subst ho'
          have n2 : ¬ j = j + 1 := by omega
          refine ⟨kk, ?_, ?_, ?_, ?_⟩
          · simp only [if_true, if_neg n2]
            rw [← h1, ← h2]
            exact hst
          · simp only [if_true]
          · simp only [if_true, if_neg n2]
          · intro i hi
            have n3 : ¬ i = j := by omega
            simp only [if_true, if_neg n2, if_neg n3]
        · have n1 : ¬ j + 1 = k + 1 := by omega
          have n2 : ¬ j = k + 1 := by omega
          simp only [if_neg n1, if_neg n2]
          exact hg.wr j (by omega) o' ho' hd'
theorem XGood.const' {k : Nat} {ts : Nat → List (Nat × Bool × D)} {hs : Nat → List (Option Box)} {G : Nat → Nat → Bool × D} (h : XGood P c n ops ws s0 k ts hs G) : ∀ (q p : Nat), p + q ≤ k → (∀ j, IsW ws j → p ≤ j → j < p + q → False) → ts (p + q) = ts p ∧ hs (p + q) = hs p ∧ G (p + q) = G p
  | 0, p, _, _ => ⟨rfl, rfl, rfl⟩
  | q + 1, p, hk, hno => by
    obtain ⟨c1, c2, c3⟩ := h.const (p + q) (by omega) (fun hw => hno (p + q) hw (by omega) (by omega))
    obtain ⟨d1, d2, d3⟩ := h.const' q p (by omega) fun j hj h1 h2 => hno j hj h1 (by omega)
    exact ⟨c1.trans d1, c2.trans d2, (funext c3).trans d3⟩
end
section
variable {P : Program} {c : Ctx} {n : Nat} {ops : Array Oper} {ws : List Nat} {Q : Exit → St → Prop} {s : St}
theorem EntAt.tm {s s' : St} {β : List Place} {S : Nat → Prop} {w : World} {a : Act} {t : Tmp} (h : EntAt s β S w a t) (e : s.tm = s'.tm) : EntAt s' β S w a t := fun g d hg => h g d (by rw [e]; exact hg)
/-- The rule: operations that only add memory, and those (ws) that change boxes, in any order that their edges allow. -/
theorem Sym.drawX_any (ws : List Nat) (hsyn : drawOk ops ops.size = true) (hst : storesOk ops ws = true) (h : XTo P c n ops ws (fun s => Q .normal s) 0 ops.toList s []) : ∀ a0 w0, SR c n s a0 w0 → wpAny P .any ops (fun e a' w' => ∃ s', SRx c n e s' a' w' ∧ Q e s') ops.size (Array.replicate ops.size false) a0 { w0 with drawn := w0.drawn + 1 } := by
  have hd := drawOk.ok hsyn
  obtain ⟨ts, hs, G, hG, hT⟩ := h.steps (s0 := s) (fun _ => s.tm) (fun _ => s.H) (fun _ _ => (true, .p (.x undef))) rfl rfl (fun j _ => by simp) (fun i hi => by omega) ⟨⟨rfl, rfl⟩, fun i hi => by omega, fun i hi => by omega, fun i hi => by omega⟩
  simp only [Nat.zero_add, Array.length_toList] at hG hT
  rintro a0 w0 ⟨β, S, hH, hdf, hn, he⟩
  have hx0 : Ext w0 { w0 with drawn := w0.drawn + 1 } := (Ext.refl w0).drew
  have M0 : Mid c n ops ⟨ts 0, hs 0⟩ (G 0) β S ops.size a0 (Array.replicate ops.size false) a0 { w0 with drawn := w0.drawn + 1 } := by
    refine ⟨by rw [hG.zero.2]; exact hH.ext hx0, hdf, hn, fun t => ((he t).ext hx0).tm hG.zero.1.symm, hn, ?_, ?_, fun _ _ => rfl⟩
    · intro i h1 h2; simp [Array.getD, h2] at h1
    · intro i t h1 h2; simp [Array.getD, h2] at h1
  have main : ∀ (fuel : Nat) (listed : Array Bool) (a : Act) (w : World) (β : List Place) (S : Nat → Prop) (p : Nat), p ≤ ops.size → (∀ j, IsW ws j → (listed.getD j true = true ↔ j < p)) → listed.size = ops.size → (List.range ops.size).countP (fun i => !listed.getD i true) ≤ fuel →
      Mid c n ops ⟨ts p, hs p⟩ (G p) β S ops.size a0 listed a w → (∀ i j, Waits ops i j → listed.getD j true = true → j < ops.size → listed.getD i true = true) →
      wpAny P .any ops (fun e a' w' => ∃ s', SRx c n e s' a' w' ∧ Q e s') fuel listed a w := by
    have fulls : ∀ (listed : Array Bool) (a : Act) (w : World) (β : List Place) (S : Nat → Prop) (p : Nat), p ≤ ops.size → (∀ j, IsW ws j → (listed.getD j true = true ↔ j < p)) → Mid c n ops ⟨ts p, hs p⟩ (G p) β S ops.size a0 listed a w → (∀ i, i < ops.size → listed.getD i true = true) →
        ∃ s', SR c n s' a w ∧ Q .normal s' := by
      intro listed a w β S p hp hwr M hall
      have hdsk : ∀ i, i < ops.size → ∀ o, ops[i]? = some o → dstOk n o = true := fun i hi o ho => by
        by_cases e : IsW ws i
        · obtain ⟨_, w1, _⟩ := hG.wr i hi o ho e
          exact w1.ds
        · exact (hG.rd i hi o ho e i (Nat.le_refl _) (by omega) fun j _ h1 h2 => by omega).ds
      have h1 := M.full hdsk hall (Nat.le_refl _)
      refine ⟨_, h1, ?_⟩
      have e1 := hG.const' (ops.size - p) p (by omega) fun j hj h1 h2 => by
        have := (hwr j hj).1 (hall j (by omega))
        omega
      rw [show p + (ops.size - p) = ops.size by omega] at e1
      rw [e1.1, e1.2.1, e1.2.2] at hT
      have h3 : (stAt ops ⟨ts p, hs p⟩ (G p) ops.size).H = hs p := stAt_H _
      have e2 : stAt ops ⟨ts p, hs p⟩ (G p) ops.size = ⟨(stAt ops ⟨ts p, hs p⟩ (G p) ops.size).tm, hs p⟩ := by
        calc stAt ops ⟨ts p, hs p⟩ (G p) ops.size = ⟨(stAt ops ⟨ts p, hs p⟩ (G p) ops.size).tm, (stAt ops ⟨ts p, hs p⟩ (G p) ops.size).H⟩ := rfl
          _ = _ := by rw [h3]
      rw [e2]
      exact hT
    have noReady : ∀ (listed : Array Bool), listed.size = ops.size → Region.ready .any ops listed = [] → ∀ i, i < ops.size → listed.getD i true = true := by
      intro listed hsz hr i
      induction i using Nat.strongRecOn with
      | ind i ihi =>
        intro hi
        cases hb : listed.getD i true with
        | true => rfl
        | false =>
          have := ready_mem hd hi hsz (fun j hj => ihi j hj (by omega)) hb
          rw [hr] at this
          cases this
    intro fuel
    induction fuel with
    | zero =>
      intro listed a w β S p hp hwr hsz hc M hcl
      have hall : ∀ i, i < ops.size → listed.getD i true = true := fun i hi => by
        have h0 := List.countP_eq_zero.1 (Nat.le_zero.1 hc) i (List.mem_range.2 hi)
        simpa using h0
      refine ⟨?_, fulls listed a w β S p hp hwr M hall⟩
      cases hr : Region.ready .any ops listed with
      | nil => rfl
      | cons i _ =>
        exfalso
        have hi : i ∈ Region.ready .any ops listed := by rw [hr]; exact List.mem_cons_self
        obtain ⟨hun, o, ho, _⟩ := ready_iff.1 hi
        rw [hall i (Array.getElem?_eq_some_iff.1 ho).1] at hun
        cases hun
    | succ fuel ih =>
      intro listed a w β S p hp hwr hsz hc M hcl
      refine ⟨fun hr => fulls listed a w β S p hp hwr M (noReady listed hsz hr), fun i hi => ?_⟩
      obtain ⟨hun, o, ho, hpre⟩ := ready_iff.1 hi
      have his := (Array.getElem?_eq_some_iff.1 ho).1
      have hwait : ∀ j, Waits ops j i → listed.getD j true = true := by
        intro j hj
        obtain ⟨o', ho', e, he', hb', h | h⟩ := hj.last
        · rw [ho] at ho'
          injection ho' with ho'
          subst ho'
          exact h ▸ (getD_false (hpre e he' hb')).2
        · rw [ho] at ho'
          injection ho' with ho'
          subst ho'
          have h1 := getD_false (hpre e he' hb')
          exact hcl j e.on h h1.2 (by omega)
      have hcnt : (List.range ops.size).countP (fun j => !(listed.setIfInBounds i true).getD j true) ≤ fuel := by
        have := countP_lt' (p := fun i => !listed.getD i true) (q := fun j => !(listed.setIfInBounds i true).getD j true) (i := i) (fun j hj => by
          rw [getD_set' (by omega) true] at hj
          by_cases h : i = j
          · rw [if_pos h] at hj; cases hj
          · rw [if_neg h] at hj; exact hj) (by simpa using hun) (by rw [getD_set' (by omega) true, if_pos rfl]; rfl) (List.mem_range.2 his)
        omega
      have hcl' : ∀ p q, Waits ops p q → (listed.setIfInBounds i true).getD q true = true → q < ops.size → (listed.setIfInBounds i true).getD p true = true := by
        intro p q hpq hq hqs
        rw [getD_set' (by omega) true] at hq ⊢
        split
        · rfl
        · by_cases h : i = q
          · subst h; exact hwait p hpq
          · rw [if_neg h] at hq; exact hcl p q hpq hq hqs
      -- all that changes boxes ahead of i is done
      have hahead : ∀ j, IsW ws j → j < i → j < p := fun j hj hji => by
        obtain ⟨_, _, _, h3⟩ := storesOk.at hst hj
        exact (hwr j hj).1 (hwait j (h3 i hji his))
      by_cases hw : IsW ws i
      · have hip : p ≤ i := by
          rcases Nat.lt_or_ge i p with h | h
          · rw [(hwr i hw).2 h] at hun; cases hun
          · exact h
        have e1 := hG.const' (i - p) p (by omega) fun j hj h1 h2 => by
          have := hahead j hj (by omega)
          omega
        rw [show p + (i - p) = i by omega] at e1
        rw [← e1.1, ← e1.2.1, ← e1.2.2] at M
        have hents := M.ents hd hsz hcl ho hun hwait
        obtain ⟨o', ho', hgd, hbehind⟩ := storesOk.at hst hw
        rw [ho] at ho'
        injection ho' with ho'
        subst ho'
        obtain ⟨kk, w1, w2, w3, w4⟩ := hG.wr i his o ho hw
        have hlist : ∀ j, listed.getD j true = true → j < ops.size → j < i := by
          intro j hj hjs
          rcases Nat.lt_trichotomy j i with h | h | h
          · exact h
          · subst h; rw [hj] at hun; cases hun
          · rw [hcl i j (hbehind j h hjs) hj hjs] at hun; cases hun
        have key := w1.run β S a w M.hst (fun t ht => (hents t ht).tm rfl) (wpAny P .any ops (fun e a' w' => ∃ s', SRx c n e s' a' w' ∧ Q e s') fuel (listed.setIfInBounds i true)) (fun e a' w' => ∃ s', SRx c n e s' a' w' ∧ Q e s') fun u β' S' w' hH' hmv _ hu => by
          refine ih _ _ _ β' S' (i + 1) (by omega) ?_ (by simpa using hsz) hcnt ?_ hcl'
          · intro j hj
            rw [getD_set' (by omega) true]
            by_cases e : i = j
            · subst e; simp
            · rw [if_neg e, hwr j hj]
              constructor
              · intro h; omega
              · intro h
                exact hahead j hj (by omega)
          · refine ⟨hH', by rw [defers_put, M.defers], by rw [size_put, M.size], fun t g d hg => ?_, M.size0, fun j hj hjs => hjs, ?_, ?_⟩
            · rw [w3] at hg
              obtain ⟨d', h1, rfl⟩ := TM.cl_get hg
              have := M.init t g d' h1
              exact ⟨this.1, hmv.ent this.2⟩
            · intro j t hj hjs hjd
              rw [getD_set' (by omega) true] at hj
              by_cases e : i = j
              · subst e
                rw [bind_dst ho] at hjd
                have hlt := dstOk.lt w1.ds t hjd
                refine ⟨hlt, ?_⟩
                rw [hjd, getD_put' (by rw [M.size]; exact hlt), if_pos rfl]
                exact ⟨fun _ => hu (by rw [hjd]; simp), fun h => by rw [w2] at h; cases h⟩
              · rw [if_neg e] at hj
                have h1 := M.done j t hj hjs hjd
                refine ⟨h1.1, ?_⟩
                have : (a.put o.dst u).tmps.getD t undef = a.tmps.getD t undef := by
                  cases hod : o.dst with
                  | none => rfl
                  | some k =>
                    rw [getD_put' (by rw [M.size]; exact dstOk.lt w1.ds k hod), if_neg]
                    rintro rfl
                    obtain ⟨x, hx, hxd⟩ := bind_some hjd
                    exact e (hd.once i j o x k ho hx hod hxd)
                rw [this, w4 j (hlist j hj hjs)]
                exact hmv.ent h1.2
            · intro t ht
              have h1 : o.dst ≠ some t := by
                have := ht i (by rw [getD_set' (by omega) true, if_pos rfl]) his
                rwa [bind_dst ho] at this
              have h2 := M.same t fun j hj hjs => ht j (by rw [getD_set' (by omega) true]; split; rfl; exact hj) hjs
              rw [← h2]
              cases hod : o.dst with
              | none => rfl
              | some k =>
                rw [getD_put' (by rw [M.size]; exact dstOk.lt w1.ds k hod), if_neg]
                rintro rfl
                exact h1 hod
        unfold wpOp
        simp only [ho]
        have hgd : Region.wanted o (yielded ops a.tmps) = true := by simp [Region.wanted, hgd]
        rw [if_pos hgd]
        exact .inl key
      · -- the stage, not ahead of i
        have hq : ∃ q, i ≤ q ∧ q ≤ ops.size ∧ (ts q = ts p ∧ hs q = hs p ∧ G q = G p) ∧ (∀ j, IsW ws j → i < j → j < q → ¬ Waits ops i j) := by
          rcases Nat.lt_or_ge p i with h | h
          · refine ⟨i, Nat.le_refl _, by omega, ?_, fun j _ h1 h2 => by omega⟩
            have := hG.const' (i - p) p (by omega) fun j hj h1 h2 => by
              have := hahead j hj (by omega)
              omega
            rwa [show p + (i - p) = i by omega] at this
          · refine ⟨p, h, hp, ⟨rfl, rfl, rfl⟩, fun j hj h1 h2 hij => ?_⟩
            have := hcl i j hij ((hwr j hj).2 h2) (by obtain ⟨o', ho', _⟩ := storesOk.at hst hj; exact (Array.getElem?_eq_some_iff.1 ho').1)
            rw [this] at hun
            cases hun
        obtain ⟨q, hq1, hq2, ⟨hq3, hq5, hq6⟩, hq4⟩ := hq
        have hms := hG.rd i his o ho hw q hq1 hq2 hq4
        rw [hq3, hq5, hq6] at hms
        have hents := M.ents hd hsz hcl ho hun hwait
        have hw' := hms.run (a := a) (w := w) (β := β) (S := S) M.hst.toHOk (fun t ht => (hents t ht).tm rfl)
          (K := wpAny P .any ops (fun e a' w' => ∃ s', SRx c n e s' a' w' ∧ Q e s') fuel (listed.setIfInBounds i true)) (Q := fun e a' w' => ∃ s', SRx c n e s' a' w' ∧ Q e s') fun u w' hx hu => by
            refine ih _ _ _ β S p hp ?_ (by simpa using hsz) hcnt (M.next hd hsz ho his hun hms.ds hx hu) hcl'
            intro j hj
            rw [getD_set' (by omega) true, if_neg (by rintro rfl; exact hw hj)]
            exact hwr j hj
        unfold wpOp
        simp only [ho]
        split
        · rename_i h; rw [if_pos h] at hw'; exact .inl hw'
        · rename_i h; rw [if_neg h] at hw'; exact hw'
  refine main _ _ _ _ β S 0 (Nat.zero_le _) ?_ (by simp) (Nat.le_trans List.countP_le_length (by simp)) M0 ?_
  · intro j hj
    obtain ⟨o, ho, _⟩ := storesOk.at hst hj
    have := (Array.getElem?_eq_some_iff.1 ho).1
    simp [Array.getD, this]
  · intro i j _ h hj
    simp [Array.getD, hj] at h
theorem Sym.drawX {id : Nat} (ws : List Nat) (hm : P.follows .mixedOrders = true) (hsyn : drawOk ops ops.size = true) (hst : storesOk ops ws = true) (h : XTo P c n ops ws (fun s => Q .normal s) 0 ops.toList s []) : Sym P c n (.region id ops true) Q s :=
  fun a w hr => wp_region_any hm (Sym.drawX_any ws hsyn hst h a w hr)
theorem Sym.drawXL {id : Nat} {l : List Oper} (ws : List Nat) (hm : P.follows .mixedOrders = true) (hsyn : drawOk l.toArray l.length = true) (hst : storesOk l.toArray ws = true) (h : XTo P c n l.toArray ws (fun s => Q .normal s) 0 l s []) : Sym P c n (.region id l.toArray true) Q s := Sym.drawX ws hm hsyn hst (by simpa using h)
section
variable {ws : List Nat} {T : St → Prop} {k : Nat} {past : List Past} {tm : List (Nat × Bool × D)} {H : List (Option Box)} {op : Op} {ty : TypeId} {pos : String} {af : Array Edge} {gd : Option (Nat × Bool)} {t : Tmp} {g : Bool} {d : D} {rest : List Oper}
theorem XTo.read1 (hw : ws.contains k = false) (hg : GOk ops ⟨tm, H⟩ ⟨some t, op, ty, pos, af, gd⟩ g) (h : MOp P ⟨tm, H⟩ ⟨some t, op, ty, pos, af, gd⟩ g d) (hd : Nat.blt t n = true) (kk : XTo P c n ops ws T (k + 1) rest ⟨(t, g, d) :: tm, H⟩ (⟨k, ⟨some t, op, ty, pos, af, gd⟩, g, d, tm⟩ :: past)) : XTo P c n ops ws T k (⟨some t, op, ty, pos, af, gd⟩ :: rest) ⟨tm, H⟩ past := .read hw ⟨hg, h, hd⟩ kk
theorem MStep.mk1 {tm' : List (Nat × Bool × D)} (hg : GOk ops ⟨tm', H⟩ ⟨some t, op, ty, pos, af, gd⟩ g) (h : MOp P ⟨tm', H⟩ ⟨some t, op, ty, pos, af, gd⟩ g d) (hd : Nat.blt t n = true) : MStep P n ops ⟨tm', H⟩ ⟨some t, op, ty, pos, af, gd⟩ g d := ⟨hg, h, hd⟩
/-- what may come behind the change at k holds there as well -/
def LateOk (P : Program) (n : Nat) (ops : Array Oper) (k : Nat) (kk : Option Nat) (H : List (Option Box)) (past : List Past) : Prop := ∀ e ∈ past.filter fun e => loose ops e.i k, MStep P n ops ⟨TM.cl kk e.tm, H⟩ e.o e.g (e.d.cl kk)
variable {kk : Option Nat}
theorem LateOk.nil : LateOk P n ops k kk H [] := fun _ h => by cases h
theorem LateOk.skip {i : Nat} {x : Oper} {tm' : List (Nat × Bool × D)} (h : loose ops i k = false) (kk' : LateOk P n ops k kk H past) : LateOk P n ops k kk H (⟨i, x, g, d, tm'⟩ :: past) := fun x hx => by
  rw [List.filter_cons, h] at hx
  exact kk' x hx
theorem LateOk.take {i : Nat} {tm' tm'' : List (Nat × Bool × D)} {d' : D} (htm : TM.cl kk tm' = tm'') (hd' : d.cl kk = d') (hg : GOk ops ⟨tm'', H⟩ ⟨some t, op, ty, pos, af, gd⟩ g) (h : MOp P ⟨tm'', H⟩ ⟨some t, op, ty, pos, af, gd⟩ g d') (hd : Nat.blt t n = true) (kk' : LateOk P n ops k kk H past) : LateOk P n ops k kk H (⟨i, ⟨some t, op, ty, pos, af, gd⟩, g, d, tm'⟩ :: past) := fun x hx => by
  subst htm; subst hd'
  rw [List.filter_cons] at hx
  split at hx
  · rcases List.mem_cons.1 hx with rfl | hx
    · exact ⟨hg, h, hd⟩
    · exact kk' x hx
  · exact kk' x hx
theorem Past.cl_none : ∀ l : List Past, l.map (Past.cl none) = l
  | [] => rfl
  | _ :: l => by rw [List.map_cons, Past.cl_none l]; rfl
theorem WStep.store {x y : Operand} {e : TypeId} {i : TypeInfo} {u : TypeDesc} {q off : Nat} {bcs : List D} {be : TypeId} {bz : Nat} [h : TyI P e i u] (hx : Ev ⟨tm, H⟩ true x (.ptr q off)) (hy : Ev ⟨tm, H⟩ true y d) (hb : H[q]? = some (some ⟨bcs, be, bz⟩)) (hl : d.laid = true) (h1 : d.cells.all D.one = true) (hlen : Nat.beq d.cells.length i.size = true)
    (hoff : Nat.ble (off + i.size) bcs.length = true) (hwr : c.ro = true → c.β0.length ≤ q) : WStep P c n ops ⟨tm, H⟩ ⟨none, .store e x y, ty, pos, af, none⟩ none (H.set q (some ⟨splice bcs off d.cells, be, bz⟩)) .any := by
  refine ⟨rfl, ?_⟩
  intro β S a w hH he K Q hK
  have he' : ∀ t, .tmp t ∈ (Op.store e x y).operands → EntAt ⟨tm, H⟩ β S w a t := fun t ht => he t (by simp only [Oper.looksAt, List.mem_append, List.mem_filterMap]; exact .inl ⟨_, by simpa using ht, rfl⟩)
  obtain ⟨b, q', hβ, hv⟩ := hx.rep (l := (Op.store e x y).operands) (by simp [Op.operands]) he' rfl
  have hr := hy.rep (l := (Op.store e x y).operands) (by simp [Op.operands]) he' rfl
  have hc := hr.cells hl
  have hlen : d.cells.length = i.size := by simpa using hlen
  have hoff : off + i.size ≤ bcs.length := by simpa using hoff
  have hcl := hc.len
  rcases hH.box q _ hb with ⟨k1, _⟩ | ⟨b', c', cur, us, k1, k2, k3, k4, k5, k6, k7⟩
  · rw [hβ] at k1; cases k1
  rw [hβ] at k1
  simp only [Option.some.injEq, Prod.mk.injEq] at k1
  obtain ⟨rfl, rfl⟩ := k1
  have hul := k4.len
  have hule : us.length ≤ cur.size := by
    have := k5.length_le
    simpa using this
  dsimp only at k3 k4 k6 k7 hul
  have hrun := run_storeCells_at (P := P) b off be (a.eval y).cells.toList 0 cur w k3 (by rw [hcl]; omega) (hc.one h1)
  simp only [Nat.add_zero] at hrun
  have hcs : (a.eval y).cells.size = i.size := by rw [← Array.length_toList, hcl, hlen]
  have hsp : splice us off (a.eval y).cells.toList <+: cur.toList.take off ++ (a.eval y).cells.toList ++ cur.toList.drop (off + (a.eval y).cells.toList.length) := by
    obtain ⟨tl, htl⟩ := k5
    refine ⟨tl, ?_⟩
    rw [← htl]
    unfold splice
    rw [List.take_append_of_le_length (by omega), List.drop_append_of_le_length (by omega)]
    simp
  obtain ⟨h2, h3⟩ := hH.write (y := ⟨splice bcs off d.cells, be, bz⟩) hb hβ k3 (cur' := (cur.toList.take off ++ (a.eval y).cells.toList ++ cur.toList.drop (off + (a.eval y).cells.toList.length)).toArray)
    (by simp; omega) rfl rfl (k4.splice hc off) (by simpa using hsp) (by
      rcases Nat.eq_zero_or_pos bz with h0 | h0
      · left
        have := k6 h0
        unfold splice
        simp
        omega
      · right; show bz ≠ 0; omega) hwr
  unfold Oper.wp
  have : (execOp a.eval ⟨none, .store e x y, ty, pos, af, none⟩).run P w = .ok .skip (w.setRow b (cur.toList.take off ++ (a.eval y).cells.toList ++ cur.toList.drop (off + (a.eval y).cells.toList.length)).toArray) := by
    simp only [execOp, hv, Instr.storeAt, Instr.sureAddr, storeVar, Sem.run_bind, Sem.run_pure, Result.andThen_ok, run_sizeOf' h.ti, hcs, hrun]
    simp [hrun]
  rw [this]
  exact hK undef β S _ h2 ⟨fun _ _ _ h => h, h3, fun _ h _ => h⟩ (fun b0 hb0 _ hβ0 => ⟨setRow_other w b b0 _ (by
    rintro rfl
    exact hβ0 q _ q' hb hβ), hb0, fun i x p hi => by
    by_cases e : q = i
    · subst e
      exact hβ0 q _ p hb
    · rw [List.getElem?_set_ne e] at hi
      exact hβ0 i x p hi⟩) fun h => absurd rfl h
theorem XTo.store {x y : Operand} {e : TypeId} {i : TypeInfo} {u : TypeDesc} {q off : Nat} {bcs : List D} {be : TypeId} {bz : Nat} [h : TyI P e i u] (hx : Ev ⟨tm, H⟩ true x (.ptr q off)) (hy : Ev ⟨tm, H⟩ true y d) (hb : H[q]? = some (some ⟨bcs, be, bz⟩)) (hl : d.laid = true) (h1 : d.cells.all D.one = true) (hlen : Nat.beq d.cells.length i.size = true)
    (hoff : Nat.ble (off + i.size) bcs.length = true) (hwr : c.ro = true → c.β0.length ≤ q) {H' : List (Option Box)} (hH : H.set q (some ⟨splice bcs off d.cells, be, bz⟩) = H') (hw : ws.contains k = true) (hms : LateOk P n ops k none H' past) (kk : XTo P c n ops ws T (k + 1) rest ⟨tm, H'⟩ past) :
    XTo P c n ops ws T k (⟨none, .store e x y, ty, pos, af, none⟩ :: rest) ⟨tm, H⟩ past := by
  subst hH
  exact .write (kk := none) (d := .any) hw (WStep.store hx hy hb hl h1 hlen hoff hwr) hms (by rw [Past.cl_none]; exact kk)
/-- append onto a row -/
theorem WStep.append {α : Type} (enc : α → List V) (l m : List α) {ty' e : TypeId} {i j : TypeInfo} {u : TypeDesc} {z : Value} {x y : Operand} {q : Nat} {dy : D} {bz : Nat} [h : TyI P ty' i (.slice e)] [h' : TyI P e j u] (hx : Ev ⟨tm, H⟩ true x (.row q l.length)) (hy : Ev ⟨tm, H⟩ true y dy) (hdv : DV dy (V.list enc m))
    (hb : H[q]? = some (some ⟨D.enc enc l, e, bz⟩)) (hbz : bz = j.size) (hz : j.zero = some z) (hzs : Nat.beq z.cells.size j.size = true) (hpos : Nat.blt 0 j.size = true) (hby : Nat.ble j.bytes 1000 = true) (hsz : ∀ q, (enc q).length = j.size) (hone : ∀ q, ∀ v ∈ enc q, v.one = true) (ht : Nat.blt t n = true) (hnm : l.length + m.length ≤ 1000000000) (hwr : c.ro = true → c.β0.length ≤ q) (hdead : q < c.β0.length → q ∈ c.dead) :
    WStep P c n ops ⟨tm, H⟩ ⟨some t, .call { callee := .builtin .append, args := #[x, y], argTypes := #[ty', ty'] }, ty, pos, af, gd⟩ (some q) ((Hp.clean q H).set q (some ⟨D.enc enc (l ++ m), e, bz⟩)) (.row q (l ++ m).length) := by
  subst hbz
  refine ⟨ht, ?_⟩
  intro β S a w hH he K Q hK
  have he' : ∀ t, .tmp t ∈ (Op.call { callee := .builtin .append, args := #[x, y], argTypes := #[ty', ty'] }).operands → EntAt ⟨tm, H⟩ β S w a t := fun t ht => he t (by simp only [Oper.looksAt, List.mem_append, List.mem_filterMap]; exact .inl ⟨_, by simpa using ht, rfl⟩)
  have hmem : ∀ o ∈ ([x, y] : List Operand), o ∈ (Op.call { callee := .builtin .append, args := #[x, y], argTypes := #[ty', ty'] }).operands := by simp [Op.operands, Call.operands]
  have hpos : 0 < j.size := by simpa using hpos
  have hzs : z.cells.size = j.size := by simpa using hzs
  have hby : j.bytes ≤ 1000 := by simpa using hby
  have hrx := hx.rep (hmem x (by simp)) he' rfl
  have hry := hdv.rep (hy.rep (hmem y (by simp)) he' rfl)
  obtain ⟨ad, cc, news, e1, e2, e3, e4, e5⟩ := hry
  have hone' : ∀ (q : List α), ∀ v ∈ q.flatMap enc, v.one = true := fun q v hv => by
    obtain ⟨y, _, hy⟩ := List.mem_flatMap.1 hv
    exact hone y v hy
  have hnl : news.length = m.length * j.size := by rw [e4.len, flat_len hsz]
  have hbox := hH.box q _ hb
  obtain ⟨pl, xs, hpl, hrow, hrep⟩ : ∃ pl xs, β[q]? = some pl ∧ RowAt w e j.size pl (a.eval x) l.length xs ∧ V.RepL S w (l.flatMap enc) xs := by
    rcases hbox with ⟨h1, h2, h3⟩ | ⟨b, p, cur, us, h1, h2, h3, h4, h5, h6, h7⟩
    · rcases hrx with ⟨k1, k2, k3⟩ | ⟨b, p, k1, _, _⟩
      · have : l = [] := List.eq_nil_of_length_eq_zero k2
        subst this
        exact ⟨none, [], h1, ⟨by simp, .inl ⟨rfl, rfl, k3⟩⟩, rfl⟩
      · rw [h1] at k1; cases k1
    · rcases hrx with ⟨k1, _⟩ | ⟨b', p', k1, _, k2⟩
      · rw [h1] at k1; cases k1
      · rw [h1] at k1
        simp only [Option.some.injEq, Prod.mk.injEq] at k1
        obtain ⟨rfl, rfl⟩ := k1
        have h8 := h7 (by simp; omega)
        have hv := D.RepL.ofP h4
        exact ⟨some (b, p), us, h1, ⟨by rw [hv.len, flat_len hsz], .inr ⟨b, p, cur, rfl, k2, h3, h8.1, h8.2, h5⟩⟩, hv⟩
  obtain ⟨v', w', pl', hrun, r1, r2, r3, r4, r5, r6, r7⟩ := run_appendRow (P := P) (t := ty') (e := e) hz hzs hpos hby ty hrow (ad := ad) (m := m.length) (c := cc) hnl (fun q y hq => by
    obtain ⟨b, o, h1, h2, _⟩ := e5 q y hq
    exact ⟨b, o, h1, h2⟩) (e4.one (hone' m)) hnm e2
  have hflat : (l ++ m).flatMap enc = l.flatMap enc ++ m.flatMap enc := List.flatMap_append ..
  obtain ⟨S', g1, g2, g3, g4⟩ := hH.grow4 hb (by show j.size ≠ 0; omega) hpl r1 (hrep.app e4) (cs := D.enc enc (l ++ m)) (by rw [D.enc, hflat]) r2 r3 r4 r5 r6 r7 hwr hdead
  refine wp_value (v := v') (w' := w') ?_ (hK _ _ S' _ g1 ⟨fun i e hne h => by rw [List.getElem?_set_ne (by simpa using hne)]; exact h, g2, g3⟩ (fun b0 hb0 hl0 hβ0 => ⟨r6 b0 hl0 (fun b p hp => by
    rintro rfl
    exact hβ0 q _ p hb (by rw [hpl, hp])), fun h => hb0 (g4 b0 h), fun i x p hi h => by
    by_cases e : q = i
    · subst e
      rw [List.getElem?_set_self (List.getElem?_eq_some_iff.1 hpl).1] at h
      injection h with h
      rcases r7 b0 p h with h' | ⟨p', h'⟩
      · omega
      · exact hβ0 q _ p' hb (by rw [hpl, h'])
    · rw [List.getElem?_set_ne e] at h hi
      obtain ⟨y, hy, _⟩ := Hp.clean_get hi
      exact hβ0 i y p hy h⟩) fun _ => ?_)
  · simp only [execOp, resolve, invoke, builtin, Sem.run_bind, Sem.run_pure, Result.andThen_ok, List.map_toArray, List.map_cons, List.map_nil, e1, hrun]
  · have hkl : q < β.length := (List.getElem?_eq_some_iff.1 hpl).1
    rw [List.length_append]
    rcases r1.2 with ⟨h1, h2, h3⟩ | ⟨b, p, cur, h1, h2, _, h4, _, h5⟩
    · exact .inl ⟨by rw [List.getElem?_set_self hkl, h1], h2, h3⟩
    · refine .inr ⟨b, p, by rw [List.getElem?_set_self hkl, h1], ?_, h2⟩
      have h6 := r1.1
      have h7 := h5.length_le
      have h8 : cur.toList.length = cur.size := Array.length_toList
      rw [h6, h8, h4] at h7
      exact Nat.le_of_mul_le_mul_right h7 hpos
theorem XTo.append {α : Type} (enc : α → List V) (l m : List α) {ty' e : TypeId} {i j : TypeInfo} {u : TypeDesc} {z : Value} {x y : Operand} {q : Nat} {dy : D} {bz : Nat} [h : TyI P ty' i (.slice e)] [h' : TyI P e j u] (hx : Ev ⟨tm, H⟩ true x (.row q l.length)) (hy : Ev ⟨tm, H⟩ true y dy) (hdv : DV dy (V.list enc m))
    (hb : H[q]? = some (some ⟨D.enc enc l, e, bz⟩)) (hbz : bz = j.size) (hz : j.zero = some z) (hzs : Nat.beq z.cells.size j.size = true) (hpos : Nat.blt 0 j.size = true) (hby : Nat.ble j.bytes 1000 = true) (hsz : ∀ q, (enc q).length = j.size) (hone : ∀ q, ∀ v ∈ enc q, v.one = true) (ht : Nat.blt t n = true) (hnm : l.length + m.length ≤ 1000000000) (hwr : c.ro = true → c.β0.length ≤ q) (hdead : q < c.β0.length → q ∈ c.dead)
    {H' : List (Option Box)} {tm' : List (Nat × Bool × D)} {past' : List Past} (hH' : (Hp.clean q H).set q (some ⟨D.enc enc (l ++ m), e, bz⟩) = H') (htm : TM.clean q tm = tm') (hpast : past.map (Past.cl (some q)) = past') (hw : ws.contains k = true) (hms : LateOk P n ops k (some q) H' past)
    (kk : XTo P c n ops ws T (k + 1) rest ⟨(t, true, .row q (l ++ m).length) :: tm', H'⟩ past') :
    XTo P c n ops ws T k (⟨some t, .call { callee := .builtin .append, args := #[x, y], argTypes := #[ty', ty'] }, ty, pos, af, none⟩ :: rest) ⟨tm, H⟩ past := by
  subst hH'; subst htm; subst hpast
  exact .write (kk := some q) (d := .row q (l ++ m).length) hw (WStep.append enc l m hx hy hdv hb hbz hz hzs hpos hby hsz hone ht hnm hwr hdead) hms kk
end
end
end Go.Sy
set_option linter.unusedSimpArgs false
set_option linter.unusedVariables false
namespace Go.Sy
open Go.RowKit
/-- where the first piece may end: in one of these states, or in one of which more is known -/
def cutS {α : Type} (c : Ctx) (I : α → St) (good : α → Prop) : Exit → St → Prop
  | .normal, s => ∃ a, good a ∧ Le c s (I a)
  | _, _ => False
section
variable {P : Program} {c : Ctx} {n : Nat} {Q : Exit → St → Prop} {s : St} {x y : Code} {α : Type}
theorem Sym.cut (I : α → St) (good : α → Prop) (h1 : Sym P c n x (cutS c I good) s) (h2 : ∀ a, good a → Sym P c n y Q (I a)) : Sym P c n (.seq x y) Q s := by
  refine Sym.seq (h1.mono fun e s' hs => ?_)
  cases e with
  | normal =>
    obtain ⟨a, ha, hl⟩ := hs
    exact (h2 a ha).weak hl
  | exit _ => exact hs.elim
  | goto _ => exact hs.elim
  | ret => exact hs.elim
  | panic _ => exact hs.elim
  | outgrown => exact hs.elim
theorem Sym.cutT {Q' : Exit → St → Prop} (I : α → St) (good : α → Prop) (h1 : Sym P c n x (cutS c I good) s) (h2 : ∀ a, good a → Sym P c n y Q (I a)) : Sym P c n x (thenS (Sym P c n y Q) Q') s := by
  refine h1.mono fun e s' hs => ?_
  cases e with
  | normal =>
    obtain ⟨a, ha, hl⟩ := hs
    exact (h2 a ha).weak hl
  | exit _ => exact hs.elim
  | goto _ => exact hs.elim
  | ret => exact hs.elim
  | panic _ => exact hs.elim
  | outgrown => exact hs.elim
theorem cutS.nx {I : α → St} {good : α → Prop} (a : α) (ha : good a) (hl : Le c s (I a)) : cutS c I good .normal s := ⟨a, ha, hl⟩
end
theorem VLeL.same : ∀ l : List V, VLeL l l
  | [] => .nil
  | _ :: l => .cons (.refl _) (VLeL.same l)
/-- a row that is handed out -/
theorem DVr.list {α : Type} (enc : α → List V) (l : List α) {m i : Nat} {H : List (Option Box)} {e : TypeId} {sz : Nat} (h : H[i]? = some (some ⟨D.enc enc l, e, sz⟩)) (hsz : ∀ q, (enc q).length = sz) (hz : Nat.blt 0 sz = true) (hm : Nat.ble m i = true) : DVr m H (.row i l.length) (V.list enc l) := by
  have hz : 0 < sz := by simpa using hz
  exact .row h (D.toVL_p _) (by show sz ≠ 0; omega) (by simp [flat_len hsz]) hm (VLeL.same _)
inductive DLeL : List D → List D → Prop
  | nil : DLeL [] []
  | cons {a b : D} {as bs : List D} : DLe a b → DLeL as bs → DLeL (a :: as) (b :: bs)
theorem DLeL.rep {β : List Place} {S : Nat → Prop} {w : World} : ∀ {a b : List D} {us : List Value}, DLeL a b → D.RepL β S w a us → D.RepL β S w b us
  | _, _, _, .nil, h => h
  | _, _, _, .cons k1 k2, ⟨y, ys, h1, h2, h3⟩ => ⟨y, ys, h1, k1.rep h2, DLeL.rep k2 h3⟩
/-- what a box holds, as something of which less is known -/
theorem Le.cells {c : Ctx} {tm : List (Nat × Bool × D)} {H : List (Option Box)} (k : Nat) {x : Box} {cs' : List D} (hx : H[k]? = some (some x)) (h : DLeL x.cs cs') {H' : List (Option Box)} (hH : H.set k (some ⟨cs', x.e, x.sz⟩) = H') : Le c ⟨tm, H⟩ ⟨tm, H'⟩ := by
  subst hH
  rintro n a w ⟨β, S, hH, hd, hn, he⟩
  have hk := (List.getElem?_eq_some_iff.1 hx).1
  have hget : ∀ (i : Nat) (y : Box), (H.set k (some ⟨cs', x.e, x.sz⟩))[i]? = some (some y) → (i = k ∧ y = ⟨cs', x.e, x.sz⟩) ∨ (H[i]? = some (some y)) := by
    intro i y hy
    rw [List.getElem?_set] at hy
    split at hy
    · rename_i e
      subst e
      first
        | (rw [if_pos hk] at hy; simp at hy; exact .inl ⟨rfl, hy.symm⟩)
        | (simp at hy; exact .inl ⟨rfl, hy.symm⟩)
    · exact .inr hy
  have hlive : ∀ (i : Nat) (y : Box), (H.set k (some ⟨cs', x.e, x.sz⟩))[i]? = some (some y) → ∃ z, H[i]? = some (some z) := by
    intro i y hy
    rcases hget i y hy with ⟨rfl, _⟩ | h
    · exact ⟨x, hx⟩
    · exact ⟨y, h⟩
  refine ⟨β, S, { hH with box := ?_, len := by rw [List.length_set]; exact hH.len, inj := ?_ }, hd, hn, he⟩
  · intro i y hy
    rcases hget i y hy with ⟨rfl, rfl⟩ | hy
    · rcases hH.box i x hx with ⟨h1, h2, h3⟩ | ⟨b, q, cur, us, h1, h2, h3, h4, h5⟩
      · refine .inl ⟨h1, h2, ?_⟩
        rw [h3] at h
        cases h
        rfl
      · exact .inr ⟨b, q, cur, us, h1, h2, h3, h.rep h4, h5⟩
    · exact hH.box i y hy
  · intro i j y z b p q hy hz
    obtain ⟨y', hy'⟩ := hlive i y hy
    obtain ⟨z', hz'⟩ := hlive j z hz
    exact hH.inj i j y' z' b p q hy' hz'
theorem FnB.dle {P : Program} {f : FuncId} {ds : List D} {H0 H1 : List (Option Box)} {r r' : D} (h : FnB P f ds H0 r H1) (hr : DLe r r') : FnB P f ds H0 r' H1 := ⟨h.enter, h.ids, h.hids, fun β S w us hH hd => (h.calls β S w us hH hd).mono fun e w' ⟨u, β1, S1, h1, h2, h3⟩ => ⟨u, β1, S1, h1, h2, hr.rep h3⟩⟩
end Go.Sy
set_option linter.unusedSimpArgs false
set_option linter.unusedVariables false
namespace Go.Sy
open Go.RowKit
section
variable {P : Program} {c : Ctx} {n : Nat} {ops : Array Oper} {Q : Exit → St → Prop} {rest : List Oper} {tm : List (Nat × Bool × D)} {H : List (Option Box)}
theorem fill_x (place : Nat → Option (Nat × Nat)) : ∀ (xs : List (Nat × Operand)) (ρ ρ' : Operand → Value) (cs : Array Value), (∀ x ∈ xs, ρ x.2 = ρ' x.2) → Instr.fill place cs (xs.map fun x => (x.1, ρ x.2)) = Instr.fill place cs (xs.map fun x => (x.1, ρ' x.2)) := by
  intro xs ρ ρ' cs h
  congr 1
  exact List.map_congr_left fun x hx => by rw [h x hx]
theorem SymL.bytesConst {t t' : Tmp} {ty ty1 ty2 e : TypeId} {pos pos' : String} {af af' : Array Edge} {len : Nat} {parts : Array (Nat × Operand)} {i j : TypeInfo} {z : Value} {ds : List (Nat × D)} {res : List D} {vs : List V} [h : TyI P ty i (.slice e)] [h' : TyI P e j (.int .u8)] (hz : j.zero = some z) (hlen : Nat.ble (len * j.size) 16777216 = true) (hp : EvP ⟨tm, H⟩ true parts.toList ds)
    (hf : fillD (fun i => some (i * j.size, j.size)) (zeroD z (len * j.size)) ds = some res) (hv : D.toVL res = some vs) (hlm : Nat.ble len 1000000 = true) (hpos : Nat.blt 0 (len * j.size) = true) (ht : Nat.blt t n = true) (ht' : Nat.blt t' n = true) (kk : SymL P c n ops Q rest ⟨(t', true, .p (.fl len vs)) :: (t, true, .any) :: tm, H⟩) :
    SymL P c n ops Q (⟨some t, .buildSlice ty len parts, ty1, pos, af, none⟩ :: ⟨some t', .convert ty ty (.tmp t), ty2, pos', af', none⟩ :: rest) ⟨tm, H⟩ := by
  rintro a w ⟨β, S, hH, hd, hn, he⟩
  have hlen : len * j.size ≤ 16777216 := by simpa using hlen
  have hlm : len ≤ 1000000 := by simpa using hlm
  have hpos : 0 < len * j.size := by simpa using hpos
  have h1 := hp.rep (l := (Op.buildSlice ty len parts).operands) (fun t _ => he t) rfl (by
    intro x hx
    simp only [Op.operands, List.mem_toArray, List.mem_map]
    exact ⟨x, hx, rfl⟩)
  have hc : D.RepL β S w (zeroD z (len * j.size)) ((List.range (len * j.size)).map fun q => z.cells[q % z.cells.size]!) := by
    have := D.RepL.p (β := β) (V.RepL.x (S := S) (w := w) (l := (List.range (len * j.size)).map fun q => z.cells[q % z.cells.size]!))
    rw [List.map_map, List.map_map] at this
    exact this
  obtain ⟨us, h2, h3⟩ := fill_rep _ h1 hc hf
  have hlt : t < n := by simpa using ht
  have hlt' : t' < n := by simpa using ht'
  refine wpList_plain rfl fun K hK => ?_
  refine wp_value (v := .slice (some ⟨w.heap.size, 0, none⟩) len len) (w' := w.alloc (.cells us.toArray e)) ?_ (hK _ _ ?_)
  · have e3 : ((Array.range (len * j.size)).map fun q => z.cells[q % z.cells.size]!) = ((List.range (len * j.size)).map fun q => z.cells[q % z.cells.size]!).toArray := by
      apply Array.ext'; simp
    have hge : ¬ len * j.size > 2 ^ 24 := by omega
    have h0 : ¬ len * j.size = 0 := by omega
    simp only [execOp, Instr.buildSlice, Sem.run_bind, run_underlying h.ut, Result.andThen_ok, run_sizeOf' h'.ti, if_neg hge, if_neg h0, Sem.run_pure, run_zeroValue' h'.ti hz]
    simp only [Array.toList_map, e3]
    rw [h2]
    simp [newRow, go_sem]
  refine wpList_plain rfl fun K' hK' => ?_
  have hev : (a.put (some t) (.slice (some ⟨w.heap.size, 0, none⟩) len len)).eval (.tmp t) = .slice (some ⟨w.heap.size, 0, none⟩) len len := by
    show (a.put (some t) _).tmps.getD t undef = _
    rw [getD_put' (by rw [hn]; exact hlt), if_pos rfl]
  have hx : Ext w (w.alloc (.cells us.toArray e (us.toArray.size, us.toArray.size + 1))) := (Ext.refl w).alloc _
  refine wp_value (v := .slice (some ⟨w.heap.size, 0, none⟩) len len) (w' := w.alloc (.cells us.toArray e (us.toArray.size, us.toArray.size + 1))) ?_ (hK' _ _ (kk _ _ ?_))
  · simp only [execOp, hev, Sem.run_bind, Lib.run_convert_bytes_const w ty e us.toArray len len h.ut h'.ut]
    rfl
  · refine ⟨β, S, hH.ext hx, by rw [defers_put, defers_put, hd], by rw [size_put, size_put, hn], ?_⟩
    refine EntAt.put (s := ⟨(t, true, .any) :: tm, H⟩) (dst := some t') (EntAt.put (s := ⟨tm, H⟩) (dst := some t) (fun t => (he t).ext hx) (fun q h => by injection h with h; rw [hn, ← h]; exact hlt) ⟨fun _ => trivial, fun h => by cases h⟩) (fun q h => by injection h with h; rw [size_put, hn, ← h]; exact hlt') ⟨fun _ => ?_, fun h => by cases h⟩
    refine ⟨_, us, rfl, by simp only [maxLen]; omega, (D.RepL.toV hv h3).ext hx, ?_⟩
    intro q y hq
    refine ⟨w.heap.size, 0, rfl, ?_, hH.up _ (Nat.le_refl _)⟩
    have hb : ∀ o : Obj, (w.alloc o).heap[w.heap.size]? = some o := fun o => by
      show (w.heap.push o)[w.heap.size]? = _
      simp
    simp only [World.cell?, hb]
    simpa using hq
/-- a new variable among drawn operations -/
theorem XTo.alloc {ws : List Nat} {T : St → Prop} {k m : Nat} {past : List Past} {t : Tmp} {ty e : TypeId} {pos : String} {af : Array Edge} {i : TypeInfo} {u : TypeDesc} {z : Value} [h : TyI P e i u] (hz : i.zero = some z) (ht : Nat.blt t n = true) {H' : List (Option Box)} (hm : H.length = m) (hH' : H ++ [some ⟨z.cells.toList.map (fun v => D.p (.x v)), e, 0⟩] = H') (hw : ws.contains k = true) (hms : LateOk P n ops k none H' past)
    (kk : XTo P c n ops ws T (k + 1) rest ⟨(t, true, .ptr m 0) :: tm, H'⟩ past) : XTo P c n ops ws T k (⟨some t, .alloc e, ty, pos, af, none⟩ :: rest) ⟨tm, H⟩ past := by
  subst hm; subst hH'
  refine .write (kk := none) (d := .ptr H.length 0) hw ⟨ht, ?_⟩ hms (by rw [Past.cl_none]; exact kk)
  intro β S a w hH he K Q hK
  have hc : D.RepL β S w (z.cells.toList.map (fun v => D.p (.x v))) z.cells.toList := by
    have := D.RepL.p (β := β) (V.RepL.x (S := S) (w := w) (l := z.cells.toList))
    rwa [List.map_map] at this
  obtain ⟨h1, h2⟩ := hH.newBox (e := e) (sz := 0) (q := 0) (cur := z.cells) hc (List.prefix_refl _) (fun _ => by simp) (fun h => absurd rfl h)
  have he' : ∀ b, S b → b < w.heap.size → (w.alloc (.cells z.cells e)).heap[b]? = w.heap[b]? := fun b _ hb => Below.heap_alloc _ _ _ hb
  have hS' : ∀ b, S b → b < w.heap.size → S b ∧ b ≠ w.heap.size := fun b h hb => ⟨h, by omega⟩
  refine wp_value (v := .pointer (some ⟨w.heap.size, 0, none⟩)) (w' := w.alloc (.cells z.cells e)) (by simp [execOp, Instr.alloc, run_zeroValue' h.ti hz, newVar, newRow, go_sem]) (hK _ _ _ _ h1 ⟨fun i e _ h => h2 i e h, he', hS'⟩ (out_new hH.len) fun _ => ⟨w.heap.size, 0, ?_, rfl⟩)
  rw [← hH.len]; simp
end
end Go.Sy
