/- Rows of the call's own, in states. No program in sight. -/
import Derived.Test.YtblabchnpkofgaaDi
set_option linter.unusedSimpArgs false
set_option linter.unusedVariables false
namespace Go.Sy
open Go.RowKit

mutual
def D.clean (k : Nat) : D → D
  | .p v => .p v
  | .agg cs => .agg (D.cleanL k cs)
  | .tup cs => .tup (D.cleanL k cs)
  | .ptr i off => bif i != k then .ptr i off else .any
  | .row i n => bif i != k then .row i n else .any
  | .clo f fs cs => bif D.avoidsL k fs && D.avoidsL k cs then .clo f fs cs else .any
  | .lit n cs => .lit n (D.cleanL k cs)
  | .refD cs => .refD (D.cleanL k cs)
  | .any => .any
def D.cleanL (k : Nat) : List D → List D
  | [] => []
  | d :: ds => D.clean k d :: D.cleanL k ds
end
/-- the cells of a list of data, in a row -/
abbrev D.enc {α : Type} (enc : α → List V) (l : List α) : List D := (l.flatMap enc).map D.p
def TM.clean (k : Nat) : List (Nat × Bool × D) → List (Nat × Bool × D)
  | [] => []
  | (t, g, d) :: l => (t, g, d.clean k) :: TM.clean k l
def Hp.clean (k : Nat) : List (Option Box) → List (Option Box)
  | [] => []
  | none :: l => none :: Hp.clean k l
  | some x :: l => some ⟨D.cleanL k x.cs, x.e, x.sz⟩ :: Hp.clean k l
section
variable {β β' : List Place} {S S' : Nat → Prop} {w w' : World} {k : Nat}
mutual
theorem D.Rep.clean (hβ : ∀ (i : Nat) (e : Place), i ≠ k → β[i]? = some e → β'[i]? = some e) (e : ∀ b, S b → b < w.heap.size → w'.heap[b]? = w.heap[b]?) (hS : ∀ b, S b → b < w.heap.size → S' b) :
    ∀ {d : D} {u : Value}, d.Rep β S w u → (d.clean k).Rep β' S' w' u
  | .p _, _, h => V.Rep.mono e hS h
  | .agg _, _, ⟨us, h1, h2⟩ => ⟨us, h1, D.RepL.clean hβ e hS h2⟩
  | .tup _, _, ⟨us, h1, h2⟩ => ⟨us, h1, D.RepL.clean hβ e hS h2⟩
  | .ptr i off, u, h => by
    unfold D.clean
    by_cases hi : i = k
    · subst hi; simp [D.Rep]
    · rw [show (i != k) = true by simpa using hi]
      exact D.Rep.avoid (k := k) hβ e hS (d := .ptr i off) (by simpa [D.avoids] using hi) h
  | .row i n, u, h => by
    unfold D.clean
    by_cases hi : i = k
    · subst hi; simp [D.Rep]
    · rw [show (i != k) = true by simpa using hi]
      exact D.Rep.avoid (k := k) hβ e hS (d := .row i n) (by simpa [D.avoids] using hi) h
  | .clo f fs cs, u, h => by
    unfold D.clean
    cases hc : (D.avoidsL k fs && D.avoidsL k cs)
    · simp [D.Rep]
    · exact D.Rep.avoid (k := k) hβ e hS (d := .clo f fs cs) (by simpa [D.avoids] using hc) h
  | .lit _ _, _, ⟨a, us, h1, h3, h4, h5⟩ => ⟨a, us, h1, h3, D.RepL.clean hβ e hS h4, (h5.mono (S' := fun b => S b ∧ b < w.heap.size) fun b hb hl => ⟨hb, hl⟩).frame (fun b hb _ => e b hb.1 hb.2) |>.mono fun b hb _ => hS b hb.1 hb.2⟩
  | .refD _, _, ⟨a, us, h1, h4, h5⟩ => ⟨a, us, h1, D.RepL.clean hβ e hS h4, (h5.mono (S' := fun b => S b ∧ b < w.heap.size) fun b hb hl => ⟨hb, hl⟩).frame (fun b hb _ => e b hb.1 hb.2) |>.mono fun b hb _ => hS b hb.1 hb.2⟩
  | .any, _, _ => trivial
theorem D.RepL.clean (hβ : ∀ (i : Nat) (e : Place), i ≠ k → β[i]? = some e → β'[i]? = some e) (e : ∀ b, S b → b < w.heap.size → w'.heap[b]? = w.heap[b]?) (hS : ∀ b, S b → b < w.heap.size → S' b) :
    ∀ {d : List D} {us : List Value}, D.RepL β S w d us → D.RepL β' S' w' (D.cleanL k d) us
  | [], _, h => h
  | _ :: _, _, ⟨y, ys, h1, h2, h3⟩ => ⟨y, ys, h1, D.Rep.clean hβ e hS h2, D.RepL.clean hβ e hS h3⟩
end
theorem TM.clean_get {t : Nat} {g : Bool} {d : D} : ∀ {l : List (Nat × Bool × D)}, TM.get (TM.clean k l) t = some (g, d) → ∃ d', TM.get l t = some (g, d') ∧ d = d'.clean k
  | [], h => by cases h
  | (t', g', d') :: l, h => by
    simp only [TM.clean, TM.get_cons] at h ⊢
    split at h
    · rename_i e
      simp only [Option.some.injEq, Prod.mk.injEq] at h
      rw [if_pos e]
      exact ⟨d', by rw [h.1], h.2.symm⟩
    · rename_i e
      rw [if_neg e]
      exact TM.clean_get h
theorem Hp.clean_get : ∀ {l : List (Option Box)} {i : Nat} {x : Box}, (Hp.clean k l)[i]? = some (some x) → ∃ y, l[i]? = some (some y) ∧ x = ⟨D.cleanL k y.cs, y.e, y.sz⟩
  | [], _, _, h => by simp [Hp.clean] at h
  | none :: l, 0, _, h => by simp [Hp.clean] at h
  | some y :: l, 0, x, h => by
    simp only [Hp.clean, List.getElem?_cons_zero, Option.some.injEq] at h
    exact ⟨y, by simp, h.symm⟩
  | none :: l, i + 1, x, h => by simpa using Hp.clean_get (l := l) (i := i) (by simpa [Hp.clean] using h)
  | some _ :: l, i + 1, x, h => by simpa using Hp.clean_get (l := l) (i := i) (by simpa [Hp.clean] using h)
theorem Hp.clean_len : ∀ {l : List (Option Box)}, (Hp.clean k l).length = l.length
  | [] => rfl
  | none :: l => by simp [Hp.clean, Hp.clean_len (l := l)]
  | some _ :: l => by simp [Hp.clean, Hp.clean_len (l := l)]
end
section
variable {c : Ctx} {H : List (Option Box)} {β : List Place} {S : Nat → Prop} {w w' : World}
/-- a row that has grown -/
theorem HSt.grow (hH : HSt c H β S w) {k : Nat} {x : Box} (hx : H[k]? = some (some x)) (hxz : x.sz ≠ 0) {pl pl' : Place} (hpl : β[k]? = some pl) {v' : Value} {m : Nat} {xs : List Value} {cs : List D} {cs0 : List V} (hrow : RowAt w' x.e x.sz pl' v' m xs)
    (hr : V.RepL S w cs0 xs) (hcs : cs = cs0.map D.p) (hos : w'.os = w.os) (htape : w'.tape = w.tape) (hout : w'.output = w.output) (hsz : w.heap.size ≤ w'.heap.size)
    (hkeep : ∀ q, q < w.heap.size → (∀ b r, pl = some (b, r) → q ≠ b) → w'.heap[q]? = w.heap[q]?) (hnew : ∀ b' q', pl' = some (b', q') → w.heap.size ≤ b' ∨ ∃ q, pl = some (b', q))
    (hwr : c.ro = true → c.β0.length ≤ k) (hdead : k < c.β0.length → k ∈ c.dead) : ∃ S', HSt c ((Hp.clean k H).set k (some ⟨cs, x.e, x.sz⟩)) (β.set k pl') S' w' ∧ (∀ b, S b → b < w.heap.size → w'.heap[b]? = w.heap[b]?) ∧ (∀ b, S b → b < w.heap.size → S' b) := by
  have hkl : k < β.length := (List.getElem?_eq_some_iff.1 hpl).1
  have hkH : k < H.length := by rw [← hH.len]; exact hkl
  have hold : ∀ b r, pl = some (b, r) → b < w.heap.size ∧ ¬ S b := fun b r h => (hH.box k x hx).lt (h ▸ hpl)
  have he : ∀ b, S b → b < w.heap.size → w'.heap[b]? = w.heap[b]? := fun b hb hlt => hkeep b hlt fun b' r h hbb => (hold b' r h).2 (hbb ▸ hb)
  have hS : ∀ b, S b → b < w.heap.size → S b ∧ ∀ b' q', pl' = some (b', q') → b ≠ b' := by
    intro b hb hlt
    refine ⟨hb, fun b' q' h => ?_⟩
    rcases hnew b' q' h with h | ⟨q, h⟩
    · omega
    · rintro rfl; exact (hold _ q h).2 hb
  have hβ : ∀ (i : Nat) (e : Place), i ≠ k → β[i]? = some e → (β.set k pl')[i]? = some e := fun i e hne h => by rw [List.getElem?_set_ne (Ne.symm hne)]; exact h
  have hβ2 : ∀ (i : Nat) (e : Place), (β.set k pl')[i]? = some e → (i = k ∧ e = pl') ∨ (i ≠ k ∧ β[i]? = some e) := by
    intro i e h
    by_cases hi : i = k
    · subst hi
      rw [List.getElem?_set_self hkl] at h
      exact .inl ⟨rfl, by simpa using h.symm⟩
    · rw [List.getElem?_set_ne (Ne.symm hi)] at h
      exact .inr ⟨hi, h⟩
  have hget : ∀ (i : Nat) (y : Box), ((Hp.clean k H).set k (some ⟨cs, x.e, x.sz⟩))[i]? = some (some y) → (i = k ∧ y = ⟨cs, x.e, x.sz⟩) ∨ (i ≠ k ∧ ∃ z, H[i]? = some (some z) ∧ y = ⟨D.cleanL k z.cs, z.e, z.sz⟩) := by
    intro i y h
    by_cases hi : i = k
    · subst hi
      rw [List.getElem?_set_self (by rw [Hp.clean_len]; exact hkH)] at h
      exact .inl ⟨rfl, by simpa using h.symm⟩
    · rw [List.getElem?_set_ne (Ne.symm hi)] at h
      exact .inr ⟨hi, Hp.clean_get h⟩
  have hlive : ∀ (i : Nat) (y : Box), ((Hp.clean k H).set k (some ⟨cs, x.e, x.sz⟩))[i]? = some (some y) → ∃ z, H[i]? = some (some z) := by
    intro i y h
    rcases hget i y h with ⟨rfl, _⟩ | ⟨_, z, h, _⟩
    · exact ⟨x, hx⟩
    · exact ⟨z, h⟩
  refine ⟨fun b => S b ∧ ∀ b' q', pl' = some (b', q') → b ≠ b', ⟨⟨fun b hb => ⟨hH.up b (Nat.le_trans hsz hb), fun b' q' h => ?_⟩, ?_, by simp [hH.len, Hp.clean_len], ?_⟩, fun b hb => hH.sub b hb.1, ?_, ?_, fun i e hi h => hβ i e (fun hik => hi (by rw [hik]; exact hdead (by rw [← hik]; exact (List.getElem?_eq_some_iff.1 h).1))) (hH.keep i e hi h), by rw [List.length_set]; exact hH.klen, fun b hb hl => ?_, hos.trans hH.os, htape.trans hH.tape, hout.trans hH.output, Nat.le_trans hH.size hsz⟩, he, hS⟩
  · rcases hrow.2 with ⟨h1, _⟩ | ⟨b1, c1, cur, h1, _, h2, _⟩
    · rw [h1] at h; cases h
    · rw [h1] at h
      simp only [Option.some.injEq, Prod.mk.injEq] at h
      have := (Array.getElem?_eq_some_iff.1 h2).1
      omega
  · intro i y hy
    rcases hget i y hy with ⟨rfl, rfl⟩ | ⟨hik, z, hz, rfl⟩
    · subst hcs
      have hr' : D.RepL (β.set i pl') (fun b => S b ∧ ∀ b' q', pl' = some (b', q') → b ≠ b') w' (cs0.map D.p) xs := D.RepL.p (hr.mono he hS)
      rcases hrow.2 with ⟨h1, h2, _⟩ | ⟨b1, c1, cur, h1, _, h2, h3, h4, h5⟩
      · refine .inl ⟨by rw [List.getElem?_set_self hkl, h1], hxz, ?_⟩
        have hl := hrow.1
        rw [h2, Nat.zero_mul] at hl
        have := hr'.len
        rw [hl] at this
        exact List.eq_nil_of_length_eq_zero this.symm
      · exact .inr ⟨b1, c1, cur, xs, by rw [List.getElem?_set_self hkl, h1], fun h => h.2 b1 c1 h1 rfl, h2, hr', h5, fun h => absurd h hxz, fun _ => ⟨h3, h4⟩⟩
    · rcases hH.box i z hz with ⟨h1, h2, h3⟩ | ⟨b1, c1, cur, us, h1, h2, h3, h4, h5, h6⟩
      · exact .inl ⟨hβ i _ hik h1, h2, by rw [h3]; rfl⟩
      · have hlt := (Array.getElem?_eq_some_iff.1 h3).1
        have hbne : ∀ b r, pl = some (b, r) → b1 ≠ b := by
          rintro b r h rfl
          exact hik (hH.inj i k z x b1 c1 r hz hx h1 (h ▸ hpl))
        refine .inr ⟨b1, c1, cur, us, hβ i _ hik h1, fun h => h2 h.1, by rw [hkeep b1 hlt hbne]; exact h3, D.RepL.clean hβ he hS h4, h5, ?_⟩
        simpa using h6
  · intro i j y z b p q hy hz hi hj
    obtain ⟨y', hy'⟩ := hlive i y hy
    obtain ⟨z', hz'⟩ := hlive j z hz
    rcases hβ2 i _ hi with ⟨rfl, h1⟩ | ⟨h0, h1⟩ <;> rcases hβ2 j _ hj with ⟨rfl, h2⟩ | ⟨h3, h2⟩
    · rfl
    · exfalso
      rcases hnew b p h1.symm with h | ⟨r, h⟩
      · have := ((hH.box j z' hz').lt h2).1; omega
      · exact h3 (hH.inj j i z' x b q r hz' hx h2 (h ▸ hpl))
    · exfalso
      rcases hnew b q h2.symm with h | ⟨r, h⟩
      · have := ((hH.box i y' hy').lt h1).1; omega
      · exact h0 (hH.inj i j y' x b p r hy' hx h1 (h ▸ hpl))
    · exact hH.inj i j y' z' b p q hy' hz' h1 h2
  · intro i b q hi
    rcases hβ2 i _ hi with ⟨rfl, h1⟩ | ⟨_, h1⟩
    · rcases hnew b q h1.symm with h | ⟨r, h⟩
      · exact .inl (Nat.le_trans hH.size h)
      · exact hH.own i b r (h ▸ hpl)
    · exact hH.own i b q h1
  · intro b hb hn
    rw [hkeep b (Nat.lt_of_lt_of_le hb hH.size) ?_]
    · exact hH.fr b hb hn
    · rintro b' r h rfl
      rcases hH.own k b r (h ▸ hpl) with h' | ⟨q0, h'⟩
      · omega
      · rcases hn with hro | hn
        · have h1 := (List.getElem?_eq_some_iff.1 h').1
          have h2 := hwr hro
          omega
        · exact hn k q0 h'
  · obtain ⟨h1, h2⟩ := hH.keepS b hb hl
    have hlw := Nat.lt_of_lt_of_le hl hH.size
    exact ⟨(he b h2 hlw).trans h1, hS b h2 hlw⟩
end
theorem V.RepL.one {S : Nat → Prop} {w : World} : ∀ {ds : List V} {us : List Value}, V.RepL S w ds us → (∀ d ∈ ds, d.one = true) → ∀ u ∈ us, u.oneCell' = true
  | [], _, h, _, u, hu => by simp only [V.RepL] at h; subst h; cases hu
  | d :: ds, _, ⟨y, ys, h1, h2, h3⟩, ha, u, hu => by
    subst h1
    rcases List.mem_cons.1 hu with rfl | hu
    · exact h2.one (ha d List.mem_cons_self)
    · exact V.RepL.one h3 (fun d hd => ha d (List.mem_cons_of_mem _ hd)) u hu
section
variable {P : Program} {c : Ctx} {n : Nat} {ops : Array Oper} {Q : Exit → St → Prop} {rest : List Oper} {t0 : Tmp} {ty : TypeId} {pos : String} {af : Array Edge} {tm : List (Nat × Bool × D)} {H : List (Option Box)}
theorem flat_len {α : Type} {enc : α → List V} {sz : Nat} (h : ∀ q, (enc q).length = sz) : ∀ l : List α, (l.flatMap enc).length = l.length * sz
  | [] => by simp
  | q :: l => by rw [List.flatMap_cons, List.length_append, h, flat_len h l, List.length_cons, Nat.add_mul]; omega
theorem D.RepL.ofP {β : List Place} {S : Nat → Prop} {w : World} : ∀ {l : List V} {us : List Value}, D.RepL β S w (l.map D.p) us → V.RepL S w l us
  | [], _, h => h
  | _ :: _, _, ⟨y, ys, h1, h2, h3⟩ => ⟨y, ys, h1, h2, D.RepL.ofP h3⟩
/-- append onto a row -/
theorem SymL.append {α : Type} (enc : α → List V) (l m : List α) {t e : TypeId} {i j : TypeInfo} {u : TypeDesc} {z : Value} {x y : Operand} {k : Nat} {dy : D} {bz : Nat} [h : TyI P t i (.slice e)] [h' : TyI P e j u] (hx : Ev ⟨tm, H⟩ true x (.row k l.length)) (hy : Ev ⟨tm, H⟩ true y dy) (hdv : DV dy (V.list enc m))
    (hb : H[k]? = some (some ⟨D.enc enc l, e, bz⟩)) (hbz : bz = j.size) (hz : j.zero = some z) (hzs : Nat.beq z.cells.size j.size = true) (hpos : Nat.blt 0 j.size = true) (hby : Nat.ble j.bytes 1000 = true) (hsz : ∀ q, (enc q).length = j.size) (hone : ∀ q, ∀ v ∈ enc q, v.one = true) (ht : Nat.blt t0 n = true) (hnm : l.length + m.length ≤ 1000000000) (hwr : c.ro = true → c.β0.length ≤ k) (hdead : k < c.β0.length → k ∈ c.dead)
    {H' : List (Option Box)} {tm' : List (Nat × Bool × D)} (hH' : (Hp.clean k H).set k (some ⟨D.enc enc (l ++ m), e, bz⟩) = H') (htm : TM.clean k tm = tm')
    (kk : SymL P c n ops Q rest ⟨(t0, true, .row k (l ++ m).length) :: tm', H'⟩) :
    SymL P c n ops Q (⟨some t0, .call { callee := .builtin .append, args := #[x, y], argTypes := #[t, t] }, ty, pos, af, none⟩ :: rest) ⟨tm, H⟩ := by
  subst hH'; subst htm; subst hbz
  rintro a w ⟨β, S, hH, hd, hn, he⟩
  refine wpList_plain rfl fun K hK => ?_
  have hpos : 0 < j.size := by simpa using hpos
  have hzs : z.cells.size = j.size := by simpa using hzs
  have hby : j.bytes ≤ 1000 := by simpa using hby
  have hrx := hx.rep (l := #[x, y]) (by simp) (fun t _ => he t) rfl
  have hry := hdv.rep (hy.rep (l := #[x, y]) (by simp) (fun t _ => he t) rfl)
  obtain ⟨ad, cc, news, e1, e2, e3, e4, e5⟩ := hry
  have hone' : ∀ (q : List α), ∀ v ∈ q.flatMap enc, v.one = true := fun q v hv => by
    obtain ⟨y, _, hy⟩ := List.mem_flatMap.1 hv
    exact hone y v hy
  have hnl : news.length = m.length * j.size := by rw [e4.len, flat_len hsz]
  have hbox := hH.box k _ hb
  obtain ⟨pl, xs, hpl, hrow, hrep⟩ : ∃ pl xs, β[k]? = some pl ∧ RowAt w e j.size pl (a.eval x) l.length xs ∧ V.RepL S w (l.flatMap enc) xs := by
    rcases hbox with ⟨h1, h2, h3⟩ | ⟨b, q, cur, us, h1, h2, h3, h4, h5, h6, h7⟩
    · rcases hrx with ⟨k1, k2, k3⟩ | ⟨b, q, k1, _, _⟩
      · have : l = [] := List.eq_nil_of_length_eq_zero k2
        subst this
        exact ⟨none, [], h1, ⟨by simp, .inl ⟨rfl, rfl, k3⟩⟩, rfl⟩
      · rw [h1] at k1; cases k1
    · rcases hrx with ⟨k1, _⟩ | ⟨b', q', k1, _, k2⟩
      · rw [h1] at k1; cases k1
      · rw [h1] at k1
        simp only [Option.some.injEq, Prod.mk.injEq] at k1
        obtain ⟨rfl, rfl⟩ := k1
        have h8 := h7 (by simp; omega)
        have hv := D.RepL.ofP h4
        exact ⟨some (b, q), us, h1, ⟨by rw [hv.len, flat_len hsz], .inr ⟨b, q, cur, rfl, k2, h3, h8.1, h8.2, h5⟩⟩, hv⟩
  obtain ⟨v', w', pl', hrun, r1, r2, r3, r4, r5, r6, r7⟩ := run_appendRow (P := P) (t := t) (e := e) hz hzs hpos hby ty hrow (ad := ad) (m := m.length) (c := cc) hnl (fun q y hq => by
    obtain ⟨b, o, h1, h2, _⟩ := e5 q y hq
    exact ⟨b, o, h1, h2⟩) (e4.one (hone' m)) hnm e2
  have hflat : (l ++ m).flatMap enc = l.flatMap enc ++ m.flatMap enc := List.flatMap_append ..
  obtain ⟨S', g1, g2, g3⟩ := hH.grow hb (by show j.size ≠ 0; omega) hpl r1 (hrep.app e4) (cs := D.enc enc (l ++ m)) (by rw [D.enc, hflat]) r2 r3 r4 r5 r6 r7 hwr hdead
  refine wp_value (v := v') (w' := w') ?_ (hK _ _ (kk _ _ ?_))
  · simp only [execOp, resolve, invoke, builtin, Sem.run_bind, Sem.run_pure, Result.andThen_ok, List.map_toArray, List.map_cons, List.map_nil, e1, hrun]
  · have hkl : k < β.length := (List.getElem?_eq_some_iff.1 hpl).1
    have hlt : t0 < n := by simpa using ht
    refine ⟨_, S', g1, hd, by rw [size_put, hn], EntAt.put (s := ⟨TM.clean k tm, _⟩) (dst := some t0) ?_ (fun t' h => by injection h with h; rw [hn, ← h]; exact hlt) ⟨fun _ => ?_, fun h => by cases h⟩⟩
    · intro t' g' d' hg
      obtain ⟨d0, h1, rfl⟩ := TM.clean_get hg
      obtain ⟨k1, k2, k3⟩ := he t' g' d0 h1
      exact ⟨k1, fun hg => (k2 hg).clean (fun i e hne h => by rw [List.getElem?_set_ne (Ne.symm hne)]; exact h) g2 g3, k3⟩
    · rw [List.length_append]
      rcases r1.2 with ⟨h1, h2, h3⟩ | ⟨b, q, cur, h1, h2, _, h4, _, h5⟩
      · exact .inl ⟨by rw [List.getElem?_set_self hkl, h1], h2, h3⟩
      · refine .inr ⟨b, q, by rw [List.getElem?_set_self hkl, h1], ?_, h2⟩
        have h6 := r1.1
        have h7 := h5.length_le
        have h8 : cur.toList.length = cur.size := Array.length_toList
        rw [h6, h8, h4] at h7
        exact Nat.le_of_mul_le_mul_right h7 hpos
end
end Go.Sy
