/- Calls that move a row which they are given: functions that append onto a slice that stands in a variable of the caller's. No program in sight. -/
import Derived.Test.YtblabchnpkofgaaDu
set_option linter.unusedSimpArgs false
set_option linter.unusedVariables false
namespace Go.Sy
open Go.RowKit
/-- Called with these, the function comes back with r; the boxes that it was given are H1 then, and those that it made; the row jd may lie elsewhere. -/
structure FnM (P : Program) (f : FuncId) (ds : List D) (H0 : List (Option Box)) (jd : Nat) (r : D) (H1 : List (Option Box)) : Prop where
  enter : ∀ args w, (callFunc f args).run P w = .ok (.enter f args) w
  ids : D.upToL H0.length ds = true
  hids : Hp.upTo H0.length H0 = true
  calls : ∀ β S w us, HOk H0 β S w → D.RepL β S w ds us → Calls P f us.toArray w fun e w' => ∃ u β1 S1, e = .returned u ∧ HSt ⟨w, S, β, false, [jd], []⟩ H1 β1 S1 w' ∧ r.Rep β1 S1 w' u
section
variable {P : Program} {f : FuncId} {fn : Func} {code : Code} {n : Nat}
theorem FnM.of {ds rs : List D} {H0 H1 : List (Option Box)} {jd : Nat} {res : List ResultVar} (henter : ∀ args w, (callFunc f args).run P w = .ok (.enter f args) w) (hf : P.funcs[f]? = some fn) (hb : fn.body = some code) (hnt : fn.ntmps = n) (hrs : fn.results = res.toArray) (hn : ds.length ≤ n) (ids : D.upToL H0.length ds = true) (hids : Hp.upTo H0.length H0 = true)
    (h : ∀ c, c.ro = false → c.β0.length = H0.length → c.dead = [jd] → Sym P c n code (FinB P c res rs H1) ⟨TM.argsD 0 ds, H0⟩) : FnM P f ds H0 jd (tupD rs) H1 := by
  refine ⟨henter, ids, hids, fun β S w us hH hr => ?_⟩
  refine calls_of_wp hf hb ?_
  rw [hnt, List.size_toArray]
  refine wp_mono (h ⟨w, S, β, false, [jd], []⟩ rfl hH.len rfl _ w (SR.begin hH hr hn)) ?_
  have key : ∀ (s' : St) (a' : Act) (w' : World), SR ⟨w, S, β, false, [jd], []⟩ n s' a' w' → (∃ tm, Le ⟨w, S, β, false, [jd], []⟩ s' ⟨tm, H1⟩ ∧ ResDL P ⟨tm, H1⟩ res rs) → ∃ u, (results fn a'.tmps).run P w' = .ok u w' ∧ a'.defers = [] ∧ ∃ u' β1 S1, Ending.returned u = .returned u' ∧ HSt ⟨w, S, β, false, [jd], []⟩ H1 β1 S1 w' ∧ (tupD rs).Rep β1 S1 w' u' := by
    rintro s' a' w' h1 ⟨tm, hle, h2⟩
    obtain ⟨β1, S1, hH1, hd, _, he⟩ := hle _ _ _ h1
    obtain ⟨us, h3, h4⟩ := h2.run hH1.toHOk he
    refine ⟨if h : us.toArray.size = 1 then us.toArray[0] else .tuple us.toArray, ?_, hd, _, β1, S1, rfl, hH1, ?_⟩
    · rw [results_eq, hrs]
      simp [List.mapM_toArray, h3]
    · have hl := h4.len
      match rs, us, h4, hl with
      | [], [], _, _ => exact ⟨[], rfl, rfl⟩
      | [v], [u], h2, _ =>
        obtain ⟨y, ys, h3, h4, _⟩ := h2
        injection h3 with h3 _
        subst h3
        exact h4
      | v :: v' :: vs, u :: u' :: us, h2, _ =>
        have : ¬ (u :: u' :: us).toArray.size = 1 := by simp
        rw [dif_neg this]
        exact ⟨_, rfl, h2⟩
  rintro e a' w' ⟨s', h1, h2⟩
  cases e with
  | ret =>
    obtain ⟨u, k1, k2, k3⟩ := key s' a' w' h1 h2
    exact bodyPost_ret k1 k2 k3
  | normal =>
    obtain ⟨u, k1, k2, k3⟩ := key s' a' w' h1 h2
    exact bodyPost_end k1 k2 k3
  | exit _ => exact h2.elim
  | goto _ => exact h2.elim
  | panic _ => exact h2.elim
  | outgrown => exact h2.elim
end
section
variable {P : Program} {c : Ctx} {n : Nat} {ops : Array Oper} {Q : Exit → St → Prop} {rest : List Oper} {t : Tmp} {ty : TypeId} {pos : String} {af : Array Edge} {tm : List (Nat × Bool × D)} {H : List (Option Box)}
theorem HSt.backM {β : List Place} {S : Nat → Prop} {w : World} (hH : HSt c H β S w) {ks : List Nat} {H0 : List (Option Box)} (hg : Given H (sig ks H.length) ks H0) (hn : ks.Nodup) (hids : Hp.upTo H0.length H0 = true) (hwr : c.ro = true → ∀ k ∈ ks, c.β0.length ≤ k)
    {jd kd : Nat} (hjd : ks[jd]? = some kd) (hdead : kd < c.β0.length → kd ∈ c.dead)
    {H1 : List (Option Box)} {β1 : List Place} {S1 : Nat → Prop} {w' : World} (h : HSt ⟨w, S, ks.map fun k => β.getD k none, false, [jd], []⟩ H1 β1 S1 w') :
    ∃ β', HSt c (Hp.putAll (sig ks H.length) ks H1 (Hp.clean kd H) ++ (H1.drop ks.length).map (Option.map (Box.ren (sig ks H.length)))) β' S1 w' ∧ (∀ (i : Nat) e, i ≠ kd → β[i]? = some e → β'[i]? = some e) ∧ (∀ (j : Nat) e, β1[j]? = some e → β'[sig ks H.length j]? = some e) ∧
      (∀ b, S b → b < w.heap.size → w'.heap[b]? = w.heap[b]? ∧ S1 b) := by
  obtain ⟨g1, g2⟩ := hH.toHOk.give hg hn hids
  have hlen := hg.len
  have hl1 : ks.length ≤ β1.length := by have := h.klen; simpa using this
  have hlb : β.length = H.length := hH.len
  have hin : ∀ j k, ks[j]? = some k → k < H.length := fun j k hk => by
    obtain ⟨x, _, h2⟩ := hg.get' hk
    exact (List.getElem?_eq_some_iff.1 h2).1
  have hjl : jd < ks.length := (List.getElem?_eq_some_iff.1 hjd).1
  have hkdH : kd < H.length := hin _ _ hjd
  obtain ⟨pd, hpd⟩ : ∃ pd, β1[jd]? = some pd := ⟨_, List.getElem?_eq_getElem (by omega)⟩
  have hsjd : sig ks H.length jd = kd := sig_lt hjd
  have hold : ∀ j, j < ks.length → j ≠ jd → β1[j]? = β[sig ks H.length j]? := by
    intro j hj hjne
    have h1 := g2 j (by omega)
    have h2 : (ks.map fun k => β.getD k none)[j]? = some ((ks.map fun k => β.getD k none)[j]'(by simpa using hj)) := List.getElem?_eq_getElem (by simpa using hj)
    rw [← h1, h2]
    exact h.keep j _ (by simpa using hjne) h2
  have hset : ∀ (i : Nat) (e : Place), i ≠ kd → β[i]? = some e → (β.set kd pd)[i]? = some e := fun i e hi he => by rw [List.getElem?_set_ne (Ne.symm hi)]; exact he
  have hkeep' : ∀ (i : Nat) (e : Place), i ≠ kd → β[i]? = some e → (β.set kd pd ++ β1.drop ks.length)[i]? = some e := fun i e hi he => by
    rw [List.getElem?_append_left (by rw [List.length_set]; exact (List.getElem?_eq_some_iff.1 he).1)]
    exact hset i e hi he
  have hσ : ∀ (j : Nat) e, β1[j]? = some e → (β.set kd pd ++ β1.drop ks.length)[sig ks H.length j]? = some e := by
    intro j e hj
    rcases Nat.lt_or_ge j ks.length with h1 | h1
    · by_cases hjj : j = jd
      · subst hjj
        rw [hsjd, List.getElem?_append_left (by rw [List.length_set]; omega), List.getElem?_set_self (by omega), ← hpd]
        exact hj
      · rw [hold j h1 hjj] at hj
        refine hkeep' _ _ ?_ hj
        intro hs
        have e1 : ks[j]? = some ks[j] := List.getElem?_eq_getElem h1
        rw [sig_lt e1] at hs
        rw [hs] at e1
        have e2 := List.getElem?_eq_some_iff.1 hjd
        have e3 := List.getElem?_eq_some_iff.1 e1
        exact hjj (nodup_at hn (e3.2.trans e2.2.symm))
    · rw [sig_ge h1, ← hlb, List.getElem?_append_right (by rw [List.length_set]; omega), List.getElem?_drop, List.length_set]
      rw [show ks.length + (β.length + (j - ks.length) - β.length) = j by omega]
      exact hj
  have hcl : (Hp.clean kd H).length = H.length := Hp.clean_len
  refine ⟨β.set kd pd ++ β1.drop ks.length, ?_, hkeep', hσ, fun b hb hl => h.keepS b hb hl⟩
  have hput : (Hp.putAll (sig ks H.length) ks H1 (Hp.clean kd H)).length = H.length := by rw [Hp.putAll_len, hcl]
  -- which boxes there are
  have hcase : ∀ (i : Nat) (x : Box), (Hp.putAll (sig ks H.length) ks H1 (Hp.clean kd H) ++ (H1.drop ks.length).map (Option.map (Box.ren (sig ks H.length))))[i]? = some (some x) →
      (∃ j y, H1[j]? = some (some y) ∧ i = sig ks H.length j ∧ x = y.ren (sig ks H.length)) ∨ (i ∉ ks ∧ i < H.length ∧ ∃ z, H[i]? = some (some z) ∧ x = ⟨D.cleanL kd z.cs, z.e, z.sz⟩) := by
    intro i x hx
    rcases Nat.lt_or_ge i H.length with hi | hi
    · rw [List.getElem?_append_left (by omega)] at hx
      by_cases hik : i ∈ ks
      · obtain ⟨j, hj, rfl⟩ := List.mem_iff_getElem.1 hik
        have hjk : ks[j]? = some ks[j] := List.getElem?_eq_getElem hj
        cases hH1 : H1[j]? with
        | none =>
          exfalso
          rw [List.getElem?_eq_none_iff] at hH1
          have := h.len
          omega
        | some y =>
          rw [Hp.putAll_in _ ks H1 (Hp.clean kd H) j _ y hn hjk hH1 (by rw [hcl]; exact hi)] at hx
          simp only [Option.some.injEq, Option.map_eq_some_iff] at hx
          obtain ⟨z, rfl, rfl⟩ := hx
          exact .inl ⟨j, z, hH1, (sig_lt hjk).symm, rfl⟩
      · rw [Hp.putAll_out _ ks H1 (Hp.clean kd H) i hik] at hx
        exact .inr ⟨hik, hi, Hp.clean_get hx⟩
    · rw [List.getElem?_append_right (by omega), hput, List.getElem?_map, List.getElem?_drop] at hx
      simp only [Option.map_eq_some_iff] at hx
      obtain ⟨y, h1, z, rfl, rfl⟩ := hx
      refine .inl ⟨ks.length + (i - H.length), z, h1, ?_, rfl⟩
      rw [sig_ge (by omega)]
      omega
  have hβcase : ∀ (i : Nat) (b q : Nat), (β.set kd pd ++ β1.drop ks.length)[i]? = some (some (b, q)) → (i ≠ kd ∧ β[i]? = some (some (b, q))) ∨ (i = kd ∧ β1[jd]? = some (some (b, q))) ∨ ∃ j, ks.length ≤ j ∧ i = H.length + (j - ks.length) ∧ β1[j]? = some (some (b, q)) := by
    intro i b q hi
    rcases Nat.lt_or_ge i β.length with h1 | h1
    · rw [List.getElem?_append_left (by rw [List.length_set]; exact h1)] at hi
      by_cases hik : i = kd
      · subst hik
        rw [List.getElem?_set_self h1] at hi
        exact .inr (.inl ⟨rfl, by rw [hpd]; exact hi⟩)
      · rw [List.getElem?_set_ne (Ne.symm hik)] at hi
        exact .inl ⟨hik, hi⟩
    · rw [List.getElem?_append_right (by rw [List.length_set]; exact h1), List.getElem?_drop, List.length_set] at hi
      exact .inr (.inr ⟨ks.length + (i - β.length), by omega, by omega, hi⟩)
  have hback : ∀ (j : Nat) (b q : Nat), j < β1.length → (β.set kd pd ++ β1.drop ks.length)[sig ks H.length j]? = some (some (b, q)) → β1[j]? = some (some (b, q)) := by
    intro j b q hj hi
    have h1 : β1[j]? = some β1[j] := List.getElem?_eq_getElem hj
    have h2 := hσ j _ h1
    rw [h2] at hi
    rw [h1]; exact hi
  have h0 : ∀ (j b q : Nat), (ks.map fun k => β.getD k none)[j]? = some (some (b, q)) → ∃ k, ks[j]? = some k ∧ β[k]? = some (some (b, q)) := by
    intro j b q hj
    have hjl : j < ks.length := by simpa using (List.getElem?_eq_some_iff.1 hj).1
    have hjk : ks[j]? = some ks[j] := List.getElem?_eq_getElem hjl
    refine ⟨ks[j], hjk, ?_⟩
    rw [g2 j (by omega), sig_lt hjk] at hj
    exact hj
  -- a box of the caller's that was not handed over is as it was
  have hother : ∀ (i : Nat) (x : Box), i ∉ ks → H[i]? = some (some x) → ∀ b q, β[i]? = some (some (b, q)) → w'.heap[b]? = w.heap[b]? ∧ ¬ S1 b ∧ b < w.heap.size ∧ ∀ (j q' : Nat), (ks.map fun k => β.getD k none)[j]? ≠ some (some (b, q')) := by
    intro i x hik hx b q hb
    obtain ⟨h1, h2⟩ := (hH.box i x hx).lt hb
    have h3 : ∀ (j q' : Nat), (ks.map fun k => β.getD k none)[j]? ≠ some (some (b, q')) := by
      intro j q' hj
      obtain ⟨k, hk, hkb⟩ := h0 j b q' hj
      obtain ⟨y, _, hy⟩ := hg.get' hk
      have := hH.inj i k x _ b q q' hx hy hb hkb
      subst this
      exact hik (List.mem_of_getElem? hk)
    refine ⟨h.fr b h1 (.inr h3), fun hs => ?_, h1, h3⟩
    rcases h.sub b hs with h4 | h4
    · exact h2 h4
    · exact absurd h1 (by simpa using h4)
  have hkdks : kd ∈ ks := List.mem_of_getElem? hjd
  have hlen1 := h.len
  refine ⟨⟨fun b hb => h.up b hb, ?_, ?_, ?_⟩, ?_, ?_, ?_, ?_, ?_, ?_, h.os.trans hH.os, h.tape.trans hH.tape, h.output.trans hH.output, Nat.le_trans hH.size h.size⟩
  · intro i x hx
    rcases hcase i x hx with ⟨j, y, h1, rfl, rfl⟩ | ⟨hik, hi, z, h1, rfl⟩
    · rcases h.box j y h1 with ⟨k1, k2, k3⟩ | ⟨b, q, cur, us, k1, k2, k3, k4, k5⟩
      · exact .inl ⟨hσ j _ k1, k2, by simp [Box.ren, k3, D.renL]⟩
      · exact .inr ⟨b, q, cur, us, hσ j _ k1, k2, k3, D.RepL.ren hσ k4, k5⟩
    · have hne : i ≠ kd := fun he => hik (he ▸ hkdks)
      rcases hH.box i z h1 with ⟨k1, k2, k3⟩ | ⟨b, q, cur, us, k1, k2, k3, k4, k5⟩
      · exact .inl ⟨hkeep' i _ hne k1, k2, by rw [k3]; rfl⟩
      · obtain ⟨o1, o2, o3, o4⟩ := hother i z hik h1 b q k1
        exact .inr ⟨b, q, cur, us, hkeep' i _ hne k1, o2, by rw [o1]; exact k3, D.RepL.clean hkeep' (fun b hb hl => (h.keepS b hb hl).1) (fun b hb hl => (h.keepS b hb hl).2) k4, k5⟩
  · simp [hput, hlb, hlen1]
  · intro i i' x x' b p q hx hx' hi hi'
    rcases hcase i x hx with ⟨j, y, h1, rfl, rfl⟩ | ⟨hik, hil, z, h1, rfl⟩ <;> rcases hcase i' x' hx' with ⟨j', y', h1', rfl, rfl⟩ | ⟨hik', hil', z', h1', rfl⟩
    · have k1 := hback j b p (by rw [hlen1]; exact (List.getElem?_eq_some_iff.1 h1).1) hi
      have k2 := hback j' b q (by rw [hlen1]; exact (List.getElem?_eq_some_iff.1 h1').1) hi'
      rw [h.inj j j' y y' b p q h1 h1' k1 k2]
    · exfalso
      have k1 := hback j b p (by rw [hlen1]; exact (List.getElem?_eq_some_iff.1 h1).1) hi
      have hne : i' ≠ kd := fun he => hik' (he ▸ hkdks)
      rcases hβcase i' b q hi' with ⟨_, hi'⟩ | ⟨he, _⟩ | ⟨j2, _, he, _⟩
      · obtain ⟨_, _, k3, k4⟩ := hother i' z' hik' h1' b q hi'
        rcases h.own j b p k1 with k5 | ⟨q0, k5⟩
        · exact absurd k3 (by simpa using k5)
        · exact k4 j q0 k5
      · exact hne he
      · omega
    · exfalso
      have k1 := hback j' b q (by rw [hlen1]; exact (List.getElem?_eq_some_iff.1 h1').1) hi'
      have hne : i ≠ kd := fun he => hik (he ▸ hkdks)
      rcases hβcase i b p hi with ⟨_, hi⟩ | ⟨he, _⟩ | ⟨j2, _, he, _⟩
      · obtain ⟨_, _, k3, k4⟩ := hother i z hik h1 b p hi
        rcases h.own j' b q k1 with k5 | ⟨q0, k5⟩
        · exact absurd k3 (by simpa using k5)
        · exact k4 j' q0 k5
      · exact hne he
      · omega
    · have hne : i ≠ kd := fun he => hik (he ▸ hkdks)
      have hne' : i' ≠ kd := fun he => hik' (he ▸ hkdks)
      rcases hβcase i b p hi with ⟨_, hi⟩ | ⟨he, _⟩ | ⟨j2, _, he, _⟩
      · rcases hβcase i' b q hi' with ⟨_, hi'⟩ | ⟨he, _⟩ | ⟨j2, _, he, _⟩
        · exact hH.inj i i' z z' b p q h1 h1' hi hi'
        · exact absurd he hne'
        · omega
      · exact absurd he hne
      · omega
  · intro b hb
    rcases h.sub b hb with k | k
    · exact hH.sub b k
    · exact .inr (Nat.le_trans hH.size k)
  · intro i b q hi
    rcases hβcase i b q hi with ⟨_, k⟩ | ⟨rfl, k⟩ | ⟨j, hj, rfl, k⟩
    · exact hH.own i b q k
    · rcases h.own jd b q k with k1 | ⟨q0, k1⟩
      · exact .inl (Nat.le_trans hH.size k1)
      · obtain ⟨k', hk', hb'⟩ := h0 jd b q0 k1
        rw [hjd] at hk'
        injection hk' with hk'
        subst hk'
        exact hH.own i b q0 hb'
    · rcases h.own j b q k with k1 | ⟨q0, k1⟩
      · exact .inl (Nat.le_trans hH.size k1)
      · have := (List.getElem?_eq_some_iff.1 k1).1
        simp at this
        omega
  · intro b hb hcond
    rw [h.fr b (Nat.lt_of_lt_of_le hb hH.size) (.inr ?_)]
    · exact hH.fr b hb hcond
    · intro j q hj
      obtain ⟨k, hk, hkb⟩ := h0 j b q hj
      rcases hH.own k b q hkb with k1 | ⟨q0, k1⟩
      · omega
      · rcases hcond with hro | hcond
        · have k2 := hwr hro k (List.mem_of_getElem? hk)
          have k3 := (List.getElem?_eq_some_iff.1 k1).1
          omega
        · exact hcond k q0 k1
  · intro i e hi k
    have hne : i ≠ kd := fun he => hi (by rw [he]; exact hdead (by rw [← he]; exact (List.getElem?_eq_some_iff.1 k).1))
    exact hkeep' i e hne (hH.keep i e hi k)
  · rw [List.length_append, List.length_set]
    exact Nat.le_add_right_of_le hH.klen
  · intro b hb hl
    obtain ⟨k1, k2⟩ := hH.keepS b hb hl
    obtain ⟨k3, k4⟩ := h.keepS b k2 (Nat.lt_of_lt_of_le hl hH.size)
    exact ⟨k3.trans k1, k4⟩
/-- a call that moves a row which it is given -/
theorem SymL.callM {f : Operand} {k : FuncId} {as : Array Operand} {ts : Array TypeId} {ds ds' : List D} {H0 H1 : List (Option Box)} {jd kd : Nat} {r r' : D} (ks : List Nat) (hcb : FnM P k ds H0 jd r H1) (hds : D.renL (sig ks H.length) ds = ds') (hf : EvF ⟨tm, H⟩ true f as.toList k ds') (hg0 : Given H (sig ks H.length) ks H0) (hn : ks.Nodup)
    (hjd : ks[jd]? = some kd) (ht : Nat.blt t n = true) (hwr : c.ro = true → ∀ k ∈ ks, c.β0.length ≤ k) (hdead : kd < c.β0.length → kd ∈ c.dead) {H' : List (Option Box)} {tm' : List (Nat × Bool × D)} (hr : r.ren (sig ks H.length) = r') (hH' : Hp.putAll (sig ks H.length) ks H1 (Hp.clean kd H) ++ (H1.drop ks.length).map (Option.map (Box.ren (sig ks H.length))) = H') (htm : TM.clean kd tm = tm')
    (kk : SymL P c n ops Q rest ⟨(t, true, r') :: tm', H'⟩) : SymL P c n ops Q (⟨some t, .call { callee := .value f, args := as, argTypes := ts }, ty, pos, af, none⟩ :: rest) ⟨tm, H⟩ := by
  subst hds; subst hr; subst hH'; subst htm
  rintro a w ⟨β, S, hH, hd, hnn, he⟩
  refine wpList_plain rfl fun K hK => ?_
  obtain ⟨us, h1, h2⟩ := hf.run (P := P) (dst := some t) (ty := ty) (pos := pos) (af := af) (gd := none) (ts := ts) (fun t _ => he t) rfl hcb.enter
  obtain ⟨h3, h4⟩ := hH.toHOk.give hg0 hn hcb.hids
  unfold Oper.wp
  rw [h2]
  show Calls P k us.toArray w _
  refine (hcb.calls _ S w us h3 (D.RepL.unren h4 hcb.ids h1)).mono ?_
  rintro e w' ⟨u, β1, S1, rfl, hx, hr⟩
  obtain ⟨β', k1, k2, k3, k4⟩ := hH.backM hg0 hn hcb.hids hwr hjd hdead hx
  have hlt : t < n := by simpa using ht
  refine hK _ _ (kk _ _ ⟨β', S1, k1, by rw [defers_put, hd], by rw [size_put, hnn], EntAt.put (s := ⟨TM.clean kd tm, _⟩) (dst := some t) ?_ (fun t' h => by injection h with h; rw [hnn, ← h]; exact hlt) ⟨fun _ => hr.ren k3, fun h => by cases h⟩⟩)
  intro t' g' d' hg
  obtain ⟨d0, h5, rfl⟩ := TM.clean_get hg
  obtain ⟨q1, q2, q3⟩ := he t' g' d0 h5
  exact ⟨q1, fun hg => (q2 hg).clean k2 (fun b hb hl => (k4 b hb hl).1) fun b hb hl => (k4 b hb hl).2, q3⟩
end
end Go.Sy
