/- Rows: where they begin, and end; append onto what is full. No program in sight. -/
import Derived.Test.YtblabchnpkofgaaDj
set_option linter.unusedSimpArgs false
set_option linter.unusedVariables false
namespace Go.Sy
open Go.RowKit

section
variable {c : Ctx} {n : Nat} {tm : List (Nat × Bool × D)} {H : List (Option Box)}
theorem HSt.ghost {β : List Place} {S : Nat → Prop} {w : World} (hH : HSt c H β S w) {e : TypeId} {sz : Nat} (hz : sz ≠ 0) : HSt c (H ++ [some ⟨[], e, sz⟩]) (β ++ [none]) S w ∧ (∀ (i : Nat) (p : Place), β[i]? = some p → (β ++ [none])[i]? = some p) := by
  have hβ : ∀ (i : Nat) (e : Place), β[i]? = some e → (β ++ [none])[i]? = some e := fun i e h => by
    rw [List.getElem?_append_left (List.getElem?_eq_some_iff.1 h).1]; exact h
  have hgetβ : ∀ (i : Nat) (b q : Nat), (β ++ [none])[i]? = some (some (b, q)) → β[i]? = some (some (b, q)) := by
    intro i b q h
    rw [List.getElem?_append] at h
    split at h
    · exact h
    · rename_i hge
      rcases Nat.lt_or_ge β.length i with h' | h'
      · rw [List.getElem?_eq_none (by simp; omega)] at h; cases h
      · rw [show i - β.length = 0 by omega] at h; simp at h
  have hgetH : ∀ (i : Nat) (x : Box), (H ++ [some ⟨[], e, sz⟩])[i]? = some (some x) → H[i]? = some (some x) ∨ i = β.length ∧ x = ⟨[], e, sz⟩ := by
    intro i x h
    rw [List.getElem?_append] at h
    split at h
    · exact .inl h
    · rename_i hge
      have : i = H.length := by
        rcases Nat.lt_or_ge H.length i with h' | h'
        · rw [List.getElem?_eq_none (by simp; omega)] at h; cases h
        · omega
      subst this
      simp at h
      exact .inr ⟨hH.len.symm, h.symm⟩
  refine ⟨⟨⟨hH.up, fun i x hx => ?_, by simp [hH.len], fun i j x y b p q hx hy hi hj => ?_⟩, hH.sub, fun i b q hi => hH.own i b q (hgetβ i b q hi), hH.fr, fun i e hi h => hβ i e (hH.keep i e hi h), by rw [List.length_append]; exact Nat.le_add_right_of_le hH.klen, hH.keepS, hH.os, hH.tape, hH.output, hH.size⟩, hβ⟩
  · rcases hgetH i x hx with h | ⟨rfl, rfl⟩
    · exact (hH.box i x h).mono hβ (fun b c' hb => ⟨rfl, ((hH.box i x h).lt hb).2⟩) (fun _ _ _ => rfl) fun _ h _ => h
    · exact .inl ⟨by simp, hz, rfl⟩
  · have h1 := hgetβ i b p hi
    have h2 := hgetβ j b q hj
    rcases hgetH i x hx with h | ⟨rfl, rfl⟩
    · rcases hgetH j y hy with k | ⟨rfl, rfl⟩
      · exact hH.inj i j x y b p q h k h1 h2
      · have := (List.getElem?_eq_some_iff.1 h2).1; omega
    · have := (List.getElem?_eq_some_iff.1 h1).1; omega
/-- nil, or an empty literal, as a row -/
theorem Le.asRow (t : Tmp) (e : TypeId) (sz : Nat) {d : D} (h : TM.get tm t = some (true, d)) (hd : (match d with | .p (.x (.slice none 0 0)) => true | .p (.fl 0 _) => true | _ => false) = true) (hz : Nat.blt 0 sz = true) {H' : List (Option Box)} {m : Nat} (hm : H.length = m) (hH' : H ++ [some ⟨[], e, sz⟩] = H') : Le c ⟨tm, H⟩ ⟨(t, true, .row m 0) :: tm, H'⟩ := by
  subst hm; subst hH'
  rintro n a w ⟨β, S, hH, hdf, hn, he⟩
  have hz : 0 < sz := by simpa using hz
  obtain ⟨h1, h2⟩ := hH.ghost (e := e) (show sz ≠ 0 by omega)
  refine ⟨_, S, h1, hdf, hn, fun t' g d' hg => ?_⟩
  rw [TM.get_cons] at hg
  split at hg
  · rename_i e
    subst e
    simp only [Option.some.injEq, Prod.mk.injEq] at hg
    obtain ⟨rfl, rfl⟩ := hg
    obtain ⟨k1, k2, _⟩ := he t true d h
    refine ⟨k1, fun _ => .inl ⟨by rw [← hH.len]; simp, rfl, ?_⟩, fun h => by cases h⟩
    have hr := k2 rfl
    split at hd
    · exact ⟨none, hr⟩
    · obtain ⟨a', us, h3, _⟩ := hr
      exact ⟨a', h3⟩
    · cases hd
  · obtain ⟨k1, k2, k3⟩ := he t' g d' hg
    exact ⟨k1, fun hg => (k2 hg).mono h2 (fun _ _ _ => rfl) fun _ h _ => h, k3⟩
end
section
variable {P : Program} {w : World} {t e : TypeId} {i j : TypeInfo} {u : TypeDesc} {z : Value}
/-- append onto a slice without room, of something -/
theorem run_appendFull [h : TyI P t i (.slice e)] [h' : TyI P e j u] (hz : j.zero = some z) (hzs : z.cells.size = j.size) (hpos : 0 < j.size) (hby : j.bytes ≤ 1000) (ty : TypeId) {a : Option Addr} {n : Nat} {xs : List Value} (hxl : xs.length = n * j.size)
    (hxs : ∀ q y, xs[q]? = some y → ∃ b o, a = some ⟨b, o, none⟩ ∧ w.cell? ⟨b, o + q, none⟩ = some y) (hnil : a = none → n = 0)
    {ad : Option Addr} {m c : Nat} {news : List Value} (hl : news.length = m * j.size) (hnews : ∀ q y, news[q]? = some y → ∃ b o, ad = some ⟨b, o, none⟩ ∧ w.cell? ⟨b, o + q, none⟩ = some y) (hm : 0 < m) (hnm : n + m ≤ 1000000000) :
    ∃ cap cur, (Builtin.append_ #[t, t] ty #[.slice a n n, .slice ad m c]).run P w = .ok (.slice (some ⟨w.heap.size, 0, none⟩) (n + m) cap) (w.drew.alloc (.cells cur e)) ∧ n + m ≤ cap ∧ cap ≤ maxLen ∧ cur.size = cap * j.size ∧ (xs ++ news) <+: cur.toList := by
  have hbytes : (n + m) * j.bytes ≤ 140737488355328 := Nat.le_trans (Nat.mul_le_mul hnm hby) (by decide)
  have hnmM : n + m ≤ maxLen := by simp only [maxLen]; omega
  have hlen : (xs ++ news).length = (n + m) * j.size := by rw [List.length_append, hxl, hl, Nat.add_mul]
  have hne : ∃ y, news[0]? = some y := by
    have : 0 < news.length := by rw [hl]; exact Nat.mul_pos hm hpos
    exact ⟨_, List.getElem?_eq_getElem this⟩
  obtain ⟨y0, hy0⟩ := hne
  obtain ⟨b0, o0, rfl, _⟩ := hnews 0 y0 hy0
  have hn' : ∀ q y, news[q]? = some y → w.cell? ((⟨b0, o0, none⟩ : Addr).add q) = some y := by
    intro q y hq
    obtain ⟨b, o, hbo, hc⟩ := hnews q y hq
    injection hbo with hbo
    injection hbo with e1 e2
    subst e1; subst e2
    rw [add_lit]; exact hc
  cases a with
  | none =>
    obtain rfl := hnil rfl
    have hxs0 : xs = [] := List.eq_nil_of_length_eq_zero (by simpa using hxl)
    subst hxs0
    have hg := grownCap_ge w m 0 e
    have hcm : grownCap w m 0 e ≤ maxLen := grownCap_le_maxLen w m 0 e (by omega)
    obtain ⟨k1, k2⟩ := new_cur (zs := z.cells) hl hzs hg
    refine ⟨_, _, ?_, by omega, hcm, k1, k2⟩
    have := run_append_nil (P := P) w t ty e j z h.ut h'.ti hz ⟨b0, o0, none⟩ m c news hl hn' hm (by omega) (by simp only [Nat.zero_add] at hbytes; omega)
    rw [Nat.zero_add]
    exact this
  | some ad0 =>
    have hg := grownCap_ge w (n + m) n e
    have hcm : grownCap w (n + m) n e ≤ maxLen := grownCap_le_maxLen w (n + m) n e hnmM
    obtain ⟨k1, k2⟩ := new_cur (zs := z.cells) hlen hzs hg
    refine ⟨_, _, ?_, hg, hcm, k1, k2⟩
    have holds : ∀ q y, xs[q]? = some y → w.cell? (ad0.add q) = some y := by
      intro q y hq
      obtain ⟨b, o, hbo, hc⟩ := hxs q y hq
      injection hbo with hbo
      subst hbo
      rw [add_lit]; exact hc
    have := run_append_grow (P := P) w t ty e j z h.ut h'.ti hz ad0 n n xs hxl holds ⟨b0, o0, none⟩ m c news hl hn' (by omega) (by omega) (growslice_fits (by omega) hbytes)
    simpa using this
end
section
variable {P : Program} {s : St} {g : Bool} {dst : Option Tmp} {ty : TypeId} {pos : String} {af : Array Edge} {gd : Option (Nat × Bool)}
/-- append onto a literal, or nil: new memory, and nothing else -/
theorem MOp.append {α : Type} (enc : α → List V) (l m : List α) {t e : TypeId} {i j : TypeInfo} {u : TypeDesc} {z : Value} {x y : Operand} {dx dy : D} [h : TyI P t i (.slice e)] [h' : TyI P e j u] (hx : Ev s g x dx) (hdx : DV dx (.fl l.length (l.flatMap enc))) (hy : Ev s g y dy) (hdv : DV dy (V.list enc m))
    (hz : j.zero = some z) (hzs : Nat.beq z.cells.size j.size = true) (hpos : Nat.blt 0 j.size = true) (hby : Nat.ble j.bytes 1000 = true) (hsz : ∀ q, (enc q).length = j.size) (hnm : g = true → l.length + m.length ≤ 1000000000) :
    MOp P s ⟨dst, .call { callee := .builtin .append, args := #[x, y], argTypes := #[t, t] }, ty, pos, af, gd⟩ g (.p (V.list enc (l ++ m))) := by
  refine ⟨fun β S a w ho he hg K Q hK => ?_⟩
  have hpos : 0 < j.size := by simpa using hpos
  have hzs : z.cells.size = j.size := by simpa using hzs
  have hby : j.bytes ≤ 1000 := by simpa using hby
  have hnm := hnm hg
  have hm : ∀ o ∈ ([x, y] : List Operand), o ∈ (Op.call { callee := .builtin .append, args := #[x, y], argTypes := #[t, t] }).operands := by simp [Op.operands, Call.operands]
  have hrx := hdx.rep (hx.rep (hm x (by simp)) he hg)
  have hry := hdv.rep (hy.rep (hm y (by simp)) he hg)
  obtain ⟨ax, xs, ex, ex2, ex3, ex4⟩ := hrx
  obtain ⟨ad, cc, news, e1, e2, e3, e4, e5⟩ := hry
  have hxl : xs.length = l.length * j.size := by rw [ex3.len, flat_len hsz]
  have hnl : news.length = m.length * j.size := by rw [e4.len, flat_len hsz]
  have hcellx : ∀ q y, xs[q]? = some y → ∃ b o, ax = some ⟨b, o, none⟩ ∧ w.cell? ⟨b, o + q, none⟩ = some y := fun q y hq => by
    obtain ⟨b, o, h1, h2, _⟩ := ex4 q y hq
    exact ⟨b, o, h1, h2⟩
  have hflat : (l ++ m).flatMap enc = l.flatMap enc ++ m.flatMap enc := List.flatMap_append ..
  rcases Nat.eq_zero_or_pos m.length with h0 | h0
  · have hm0 : m = [] := List.eq_nil_of_length_eq_zero h0
    subst hm0
    refine wp_value (v := a.eval x) (w' := w) ?_ (hK _ w (Ext.refl w) ?_)
    · have : (Builtin.append_ #[t, t] ty #[.slice ax l.length l.length, .slice ad 0 cc]).run P w = .ok (.slice ax l.length l.length) w := by
        cases ad <;> cases ax <;> simp [Builtin.append_, run_underlying h.ut, sizeOf, typeInfo, h'.ti, Builtin.lenOf, Builtin.firstCells, loadCells, loadCellsFrom, storeCells]
      simp only [execOp, resolve, invoke, builtin, Sem.run_bind, Sem.run_pure, Result.andThen_ok, List.map_toArray, List.map_cons, List.map_nil, e1, ex, List.length_nil, this]
    · rw [ex, List.append_nil]
      exact ⟨ax, _, xs, rfl, Nat.le_refl _, ex2, ex3, ex4⟩
  · have hnil : ax = none → l.length = 0 := by
      rintro rfl
      rcases Nat.eq_zero_or_pos l.length with h | h
      · exact h
      · have : 0 < xs.length := by rw [hxl]; exact Nat.mul_pos h hpos
        obtain ⟨b, o, h1, _⟩ := hcellx 0 _ (List.getElem?_eq_getElem this)
        cases h1
    obtain ⟨cap, cur, hrun, r1, r2, r3, r4⟩ := run_appendFull (P := P) (t := t) (e := e) hz hzs hpos hby ty hxl hcellx hnil (ad := ad) (m := m.length) (c := cc) hnl (fun q y hq => by
      obtain ⟨b, o, h1, h2, _⟩ := e5 q y hq
      exact ⟨b, o, h1, h2⟩) h0 hnm
    have hx1 : Ext w (w.drew.alloc (.cells cur e)) := ((Ext.refl w).drew).alloc _
    refine wp_value (v := .slice (some ⟨w.heap.size, 0, none⟩) (l.length + m.length) cap) (w' := w.drew.alloc (.cells cur e)) ?_ (hK _ _ hx1 ?_)
    · simp only [execOp, resolve, invoke, builtin, Sem.run_bind, Sem.run_pure, Result.andThen_ok, List.map_toArray, List.map_cons, List.map_nil, e1, ex, hrun]
    · refine ⟨_, cap, xs ++ news, by rw [List.length_append], by rw [List.length_append]; exact r1, r2, ?_, ?_⟩
      · rw [hflat]
        exact (ex3.ext hx1).app (e4.ext hx1)
      · intro q y hq
        refine ⟨w.heap.size, 0, rfl, ?_, ho.up _ (Nat.le_refl _)⟩
        have h9 := prefix_get r4 hq
        have := World.news_of_block (heap_alloc_new w.drew (.cells cur e)) q y h9
        rw [add_lit] at this
        simpa using this
/-- a row's length -/
theorem MOp.lenRow {x : Operand} {t e : TypeId} {i : TypeInfo} {k m : Nat} [h : TyI P t i (.slice e)] (hx : Ev s g x (.row k m)) :
    MOp P s ⟨dst, .call { callee := .builtin .len, args := #[x], argTypes := #[t] }, ty, pos, af, gd⟩ g (.p (.i m)) :=
  MOp.of1 hx (by simp [Op.operands, Call.operands]) fun β S w ρ _ hr => by
    refine ⟨.int .i64 m, ?_, rfl⟩
    rcases hr with ⟨_, rfl, a, h1⟩ | ⟨b, c, _, _, h1⟩ <;> simp [execOp, resolve, invoke, builtin, h1, Builtin.len_, run_underlying h.ut, goInt]
/-- &row[n] -/
theorem MOp.indexRow {x y : Operand} {t e : TypeId} {i j : TypeInfo} {u : TypeDesc} {k m : Nat} {kk : IntKind} {q : Int} [h : TyI P t i (.slice e)] [h' : TyI P e j u] (hx : Ev s g x (.row k m)) (hy : Ev s g y (.p (.x (.int kk q)))) (hb : g = true → 0 ≤ q ∧ q < m) :
    MOp P s ⟨dst, .indexAddr t x y, ty, pos, af, gd⟩ g (.ptr k (q.toNat * j.size)) := by
  refine ⟨fun β S a w ho he hg K Q hK => ?_⟩
  obtain ⟨b1, b2⟩ := hb hg
  have r1 := hx.rep (l := (Op.indexAddr t x y).operands) (by simp [Op.operands]) he hg
  have r2 : a.eval y = .int kk q := hy.rep (l := (Op.indexAddr t x y).operands) (by simp [Op.operands]) he hg
  rcases r1 with ⟨_, rfl, _⟩ | ⟨b, c, h1, _, h2⟩
  · omega
  · refine wp_value (v := .pointer (some ⟨b, q.toNat * j.size, none⟩)) (w' := w) ?_ (hK _ w (Ext.refl w) ⟨b, c, h1, rfl⟩)
    simp [execOp, h2, r2, Instr.indexAt, asIntOf, run_underlying h.ut, b1, b2, run_sizeOf' h'.ti, add_lit]
end
/-! ### a row that no longer changes -/
section
variable {c : Ctx} {n : Nat} {tm : List (Nat × Bool × D)} {H : List (Option Box)}
theorem SR.freeze {α : Type} (enc : α → List V) {l : List α} {t : Tmp} {k : Nat} {e : TypeId} {sz : Nat} {a : Act} {w : World} (h : TM.get tm t = some (true, .row k l.length)) (hb : H[k]? = some (some ⟨D.enc enc l, e, sz⟩)) (hz : Nat.blt 0 sz = true) (hk : c.β0.length ≤ k) (hr : SR c n ⟨tm, H⟩ a w) :
    SR c n ⟨(t, true, .p (V.list enc l)) :: TM.clean k tm, (Hp.clean k H).set k none⟩ a w := by
  have hz : 0 < sz := by simpa using hz
  obtain ⟨β, S, hH, hd, hn, he⟩ := hr
  have hkH : k < H.length := (List.getElem?_eq_some_iff.1 hb).1
  have hS : ∀ b, S b → b < w.heap.size → S b ∨ ∃ q, β[k]? = some (some (b, q)) := fun b hb _ => .inl hb
  have hget : ∀ (i : Nat) (y : Box), ((Hp.clean k H).set k none)[i]? = some (some y) → i ≠ k ∧ ∃ z, H[i]? = some (some z) ∧ y = ⟨D.cleanL k z.cs, z.e, z.sz⟩ := by
    intro i y h
    by_cases hi : i = k
    · subst hi
      rw [List.getElem?_set_self (by rw [Hp.clean_len]; exact hkH)] at h
      simp at h
    · rw [List.getElem?_set_ne (Ne.symm hi)] at h
      exact ⟨hi, Hp.clean_get h⟩
  refine ⟨β, fun b => S b ∨ ∃ q, β[k]? = some (some (b, q)), ⟨⟨fun b hb => .inl (hH.up b hb), ?_, by simp [hH.len, Hp.clean_len], ?_⟩, ?_, hH.own, hH.fr, hH.keep, hH.klen, fun b hb hl => ⟨(hH.keepS b hb hl).1, .inl (hH.keepS b hb hl).2⟩, hH.os, hH.tape, hH.output, hH.size⟩, hd, hn, ?_⟩
  · intro i y hy
    obtain ⟨hik, z, hz, rfl⟩ := hget i y hy
    rcases hH.box i z hz with ⟨h1, h2, h3⟩ | ⟨b1, c1, cur, us, h1, h2, h3, h4, h5, h6⟩
    · exact .inl ⟨h1, h2, by rw [h3]; rfl⟩
    · refine .inr ⟨b1, c1, cur, us, h1, ?_, h3, D.RepL.clean (fun _ _ _ h => h) (fun _ _ _ => rfl) hS h4, h5, by simpa using h6⟩
      rintro (h | ⟨q, h⟩)
      · exact h2 h
      · exact hik (hH.inj i k z _ b1 c1 q hz hb h1 h)
  · intro i j y z b p q hy hz hi hj
    obtain ⟨_, y', hy', _⟩ := hget i y hy
    obtain ⟨_, z', hz', _⟩ := hget j z hz
    exact hH.inj i j y' z' b p q hy' hz' hi hj
  · rintro b (h | ⟨q, h⟩)
    · exact hH.sub b h
    · rcases hH.own k b q h with h | ⟨q0, h⟩
      · exact .inr h
      · have := (List.getElem?_eq_some_iff.1 h).1
        omega
  · intro t' g' d' hg
    rw [TM.get_cons] at hg
    split at hg
    · rename_i e
      subst e
      simp only [Option.some.injEq, Prod.mk.injEq] at hg
      obtain ⟨rfl, rfl⟩ := hg
      obtain ⟨k1, k2, _⟩ := he t true _ h
      refine ⟨k1, fun _ => ?_, fun h => by cases h⟩
      show (V.list enc l).Rep _ w _
      rcases k2 rfl with ⟨h1, h2, a', h3⟩ | ⟨b, q, h1, h2, h3⟩
      · have : l = [] := List.eq_nil_of_length_eq_zero h2
        subst this
        exact ⟨a', 0, [], h3, Nat.le_refl _, by simp [maxLen], rfl, Cells.nil⟩
      · rcases hH.box k _ hb with ⟨h4, _⟩ | ⟨b', q', cur, us, h4, h5, h6, h7, h8, h9, h10⟩
        · rw [h1] at h4; cases h4
        · rw [h1] at h4
          simp only [Option.some.injEq, Prod.mk.injEq] at h4
          obtain ⟨rfl, rfl⟩ := h4
          have hv := (D.RepL.ofP h7).mono (S' := fun b => S b ∨ ∃ q, β[k]? = some (some (b, q))) (w' := w) (fun _ _ _ => rfl) hS
          refine ⟨_, q, us, h3, h2, (h10 (by show sz ≠ 0; omega)).2, hv, fun j y hj => ⟨b, 0, rfl, ?_, .inr ⟨q, h1⟩⟩⟩
          have h11 := prefix_get h8 hj
          simp [World.cell?, h6]
          simpa using h11
    · obtain ⟨d0, h1, rfl⟩ := TM.clean_get hg
      obtain ⟨k1, k2, k3⟩ := he t' g' d0 h1
      exact ⟨k1, fun hg => (k2 hg).clean (fun _ _ _ h => h) (fun _ _ _ => rfl) hS, k3⟩
section
variable {P : Program} {α : Type} {code : Code} {ops : Array Oper} {l' : List Oper} {Q : Exit → St → Prop}
theorem SymL.freeze (enc : α → List V) (t : Tmp) (l : List α) {k : Nat} {e : TypeId} {sz : Nat} (h : TM.get tm t = some (true, .row k l.length)) (hb : H[k]? = some (some ⟨D.enc enc l, e, sz⟩)) (hz : Nat.blt 0 sz = true) (hk : c.β0 = []) {H' : List (Option Box)} {tm' : List (Nat × Bool × D)} (hH' : (Hp.clean k H).set k none = H') (htm : TM.clean k tm = tm')
    (kk : SymL P c n ops Q l' ⟨(t, true, .p (V.list enc l)) :: tm', H'⟩) : SymL P c n ops Q l' ⟨tm, H⟩ := fun a w hr => by
  subst hH'; subst htm
  exact kk a w (SR.freeze enc h hb hz (by rw [hk]; exact Nat.zero_le _) hr)
theorem Sym.freeze (enc : α → List V) (t : Tmp) (l : List α) {k : Nat} {e : TypeId} {sz : Nat} (h : TM.get tm t = some (true, .row k l.length)) (hb : H[k]? = some (some ⟨D.enc enc l, e, sz⟩)) (hz : Nat.blt 0 sz = true) (hk : c.β0 = []) {H' : List (Option Box)} {tm' : List (Nat × Bool × D)} (hH' : (Hp.clean k H).set k none = H') (htm : TM.clean k tm = tm')
    (kk : Sym P c n code Q ⟨(t, true, .p (V.list enc l)) :: tm', H'⟩) : Sym P c n code Q ⟨tm, H⟩ := fun a w hr => by
  subst hH'; subst htm
  exact kk a w (SR.freeze enc h hb hz (by rw [hk]; exact Nat.zero_le _) hr)
end
end
end Go.Sy
