/- A drawn region with guards that hold: one way for all orders. -/
import Derived.Test.YtdehiohjlbmmdaaLm
namespace Go.Sy
open Go.RowKit
def guardG (ops : Array Oper) (rd : Nat → List Tmp) (G : Nat → Bool → Bool) (o : Oper) : Bool := match o.guard with
  | none => true
  | some (g, b) => G g b && o.after.any (fun e => e.on == g) && (match ops[g]? with | none => false | some p => match p.dst with | none => false | some d => rd g == [d])
def monoOkG (ops : Array Oper) (rd : Nat → List Tmp) (G : Nat → Bool → Bool) : Bool :=
  (List.range ops.size).all fun i => match ops[i]? with
    | none => false
    | some o => guardG ops rd G o && o.after.all (fun e => Region.binds .any e && decide (e.on < i)) &&
        (List.range ops.size).all (fun j => i == j || o.dst.isNone || (ops[j]?).any (fun p => p.dst != o.dst)) &&
        (rd i).all fun t => o.dst == some t || o.after.any (fun e => ((ops[e.on]?).bind (·.dst)) == some t) || ops.all (fun p => p.dst != some t)
section
variable {P : Program} {ops : Array Oper} {Q : Exit → Act → World → Prop} {rd : Nat → List Tmp} {φ : Nat → List Value → World → Prop} {a0 : Act} {w0 : World} {G : Nat → Bool → Bool}
theorem guardG_of {o : Oper} (h : guardG ops rd G o = true) {g : Nat} {b : Bool} (hg : o.guard = some (g, b)) : G g b = true ∧ (∃ e ∈ o.after, e.on = g) ∧ ∃ p d, ops[g]? = some p ∧ p.dst = some d ∧ rd g = [d] := by
  unfold guardG at h
  rw [hg] at h
  simp only [Bool.and_eq_true] at h
  obtain ⟨⟨h1, h2⟩, h3⟩ := h
  refine ⟨h1, ?_, ?_⟩
  · obtain ⟨k, hk, he⟩ := Array.any_eq_true.1 h2
    exact ⟨_, Array.getElem_mem hk, by simpa using he⟩
  · cases hp : ops[g]? with
    | none => rw [hp] at h3; simp at h3
    | some p =>
      cases hd : p.dst with
      | none => rw [hp] at h3; simp [hd] at h3
      | some d => rw [hp] at h3; simp [hd] at h3; exact ⟨p, d, rfl, hd, h3⟩
theorem wanted_of {o : Oper} {a : Act} {g : Nat} {b : Bool} {p : Oper} {d : Tmp} (hg : o.guard = some (g, b)) (hp : ops[g]? = some p) (hd : p.dst = some d) (h : valsAt a [d] = [.bool b]) : Region.wanted o (yielded ops a.tmps) = true := by
  have h' : (a.tmps[d]?).getD undef = .bool b := by simpa [valsAt] using h
  cases hq : a.tmps[d]? with
  | none => rw [hq] at h'; exact absurd h' (by unfold undef; simp)
  | some v =>
    rw [hq] at h'
    obtain rfl : v = .bool b := h'
    simp [Region.wanted, hg, yielded, hp, hd, hq]
/-- The rule. -/
theorem wp_region_monoG {id : Nat} (hm : P.follows .mixedOrders = true) (hsyn : monoOkG ops rd G = true) (hG : ∀ g b, G g b = true → ∀ vs w, φ g vs w → vs = [.bool b])
    (hst : ∀ i vs w w', φ i vs w → Ext w w' → φ i vs w')
    (hstep : ∀ (i : Nat) (o : Oper), ops[i]? = some o → ∀ a w, Ext w0.drew w → FrameOk ops a0 a → (∀ e ∈ o.after, φ e.on (valsAt a (rd e.on)) w) →
      o.wp P a w (fun a' w' => ∃ v, a' = a.put o.dst v ∧ Ext w w' ∧ φ i (valsAt (a.put o.dst v) (rd i)) w') Q)
    (hfin : ∀ a w, Ext w0.drew w → FrameOk ops a0 a → (∀ i, i < ops.size → φ i (valsAt a (rd i)) w) → Q .normal a w) :
    (Code.region id ops true).wp P Q a0 w0 := by
  have syn : ∀ (i : Nat) (o : Oper), ops[i]? = some o → (∀ g b, o.guard = some (g, b) → G g b = true ∧ (∃ e ∈ o.after, e.on = g) ∧ ∃ p d, ops[g]? = some p ∧ p.dst = some d ∧ rd g = [d]) ∧ (∀ e ∈ o.after, Region.binds .any e = true ∧ e.on < i) ∧ (∀ (j : Nat) (p : Oper), ops[j]? = some p → i ≠ j → o.dst ≠ none → p.dst ≠ o.dst) ∧
      ∀ t ∈ rd i, o.dst = some t ∨ (∃ e ∈ o.after, (ops[e.on]?).bind (·.dst) = some t) ∨ ops.all (fun p => p.dst != some t) = true := by
    intro i o hi
    have hlt := (Array.getElem?_eq_some_iff.1 hi).1
    have h := List.all_eq_true.1 hsyn i (List.mem_range.2 hlt)
    simp only [hi, Bool.and_eq_true] at h
    obtain ⟨⟨⟨h1, h2⟩, h3⟩, h4⟩ := h
    refine ⟨fun g b hgb => guardG_of h1 hgb, fun e he => ?_, fun j p hj hne hd => ?_, fun t ht => ?_⟩
    · obtain ⟨k, hk, rfl⟩ := Array.mem_iff_getElem.1 he
      simpa using Array.all_eq_true.1 h2 k hk
    · have := List.all_eq_true.1 h3 j (List.mem_range.2 (Array.getElem?_eq_some_iff.1 hj).1)
      simp only [hj, Bool.or_eq_true, beq_iff_eq, Option.isNone_iff_eq_none, Option.any_some, bne_iff_ne] at this
      rcases this with (h | h) | h
      · exact absurd h hne
      · exact absurd h hd
      · exact h
    · have := List.all_eq_true.1 h4 t ht
      simp only [Bool.or_eq_true, beq_iff_eq] at this
      rcases this with (h | h) | h
      · exact .inl h
      · obtain ⟨k, hk, he⟩ := Array.any_eq_true.1 h
        exact .inr (.inl ⟨_, Array.getElem_mem hk, by simpa using he⟩)
      · exact .inr (.inr h)
  have main : ∀ (fuel : Nat) (listed : Array Bool) (a : Act) (w : World), listed.size = ops.size → (List.range ops.size).countP (fun i => !listed.getD i true) ≤ fuel →
      Ext w0.drew w → FrameOk ops a0 a → (∀ i, listed.getD i true = true → i < ops.size → φ i (valsAt a (rd i)) w) →
      (∀ (i : Nat) (o : Oper), ops[i]? = some o → listed.getD i true = true → ∀ e ∈ o.after, listed.getD e.on false = true) → wpAny P .any ops Q fuel listed a w := by
    have fin : ∀ (listed : Array Bool) (a : Act) (w : World), Region.ready .any ops listed = [] → Ext w0.drew w → FrameOk ops a0 a → (∀ i, listed.getD i true = true → i < ops.size → φ i (valsAt a (rd i)) w) →
        listed.size = ops.size → Q .normal a w := by
      intro listed a w hr hx hf hφ hsz
      have all : ∀ i, i < ops.size → listed.getD i true = true := by
        intro i
        induction i using Nat.strongRecOn with
        | ind i ih =>
          intro hi
          cases hl : listed.getD i true with
          | true => rfl
          | false =>
            exfalso
            have : i ∈ Region.ready .any ops listed := by
              refine mem_ready.2 ⟨hl, ops[i], by simp [hi], fun e he hb => ?_⟩
              have h1 := ((syn i ops[i] (by simp [hi])).2.1 e he).2
              have h2 := ih e.on h1 (by omega)
              rw [Array.getD, dif_pos (by omega)] at h2 ⊢
              exact h2
            rw [hr] at this
            cases this
      exact hfin a w hx hf fun i hi => hφ i (all i hi) hi
    intro fuel
    induction fuel with
    | zero =>
      intro listed a w hsz hc hx hf hφ _
      have hr : Region.ready .any ops listed = [] := by
        cases hr : Region.ready .any ops listed with
        | nil => rfl
        | cons i _ =>
          exfalso
          have hi : i ∈ Region.ready .any ops listed := by rw [hr]; exact List.mem_cons_self
          obtain ⟨h1, o, h2, _⟩ := mem_ready.1 hi
          have h0 := List.countP_eq_zero.1 (Nat.le_zero.1 hc) i (List.mem_range.2 (Array.getElem?_eq_some_iff.1 h2).1)
          rw [h1] at h0
          exact h0 rfl
      exact ⟨hr, fin listed a w hr hx hf hφ hsz⟩
    | succ fuel ih =>
      intro listed a w hsz hc hx hf hφ hcl
      refine ⟨fun hr => fin listed a w hr hx hf hφ hsz, fun i hi => ?_⟩
      obtain ⟨hun, o, ho, hall⟩ := mem_ready.1 hi
      obtain ⟨s1, s2, s3, s4⟩ := syn i o ho
      have hlt : i < ops.size := (Array.getElem?_eq_some_iff.1 ho).1
      have hpre : ∀ e ∈ o.after, listed.getD e.on true = true := fun e he => by
        have h1 := hall e he (s2 e he).1
        have h2 := (s2 e he).2
        rw [Array.getD, dif_pos (by omega)] at h1 ⊢
        exact h1
      have hw := hstep i o ho a w hx hf fun e he => hφ e.on (hpre e he) (by have := (s2 e he).2; omega)
      unfold wpOp
      simp only [ho]
      rw [if_pos (by
        cases hg : o.guard with
        | none => simp [Region.wanted, hg]
        | some gb =>
          obtain ⟨g, b⟩ := gb
          obtain ⟨k1, ⟨e, he, rfl⟩, p, d, k2, k3, k4⟩ := s1 g b hg
          have h1 := hG _ _ k1 _ _ (hφ e.on (hpre e he) (by have := (s2 e he).2; omega))
          rw [k4] at h1
          exact wanted_of hg k2 k3 h1)]
      refine .inl (Oper.wp_mono ?_ hw)
      rintro a' w' ⟨v, rfl, hx', hφ'⟩
      have hset : ∀ j, (listed.setIfInBounds i true).getD j true = true → j = i ∨ listed.getD j true = true := fun j hj => by
        by_cases h : i = j
        · exact .inl h.symm
        · rw [getD_set_ne true h] at hj; exact .inr hj
      refine ih _ _ _ (by simp [hsz]) ?_ (hx.trans hx') (hf.put ho v) (fun j hj hjs => ?_) (fun j p hp hj e he => ?_)
      · have := countP_lt (p := fun i => !listed.getD i true) (q := fun j => !(listed.setIfInBounds i true).getD j true) (i := i) (fun j hj => by
          by_cases h : i = j
          · subst h; simpa using hun
          · rw [getD_set_ne true h] at hj; exact hj) (by simpa using hun) (by
            rw [Array.getD, dif_pos (by simp [hsz, hlt])]
            simp) (List.mem_range.2 hlt)
        omega
      · rcases hset j hj with rfl | hj'
        · exact hφ'
        · by_cases hji : j = i
          · subst hji; exact hφ'
          have hold := hst j _ _ _ (hφ j hj' hjs) hx'
          have hv : valsAt (a.put o.dst v) (rd j) = valsAt a (rd j) := by
            cases hd : o.dst with
            | none => rfl
            | some d =>
              refine List.map_congr_left fun t ht => getD_put_ne ?_
              rintro rfl
              have hjo : ops[j]? = some ops[j] := by simp [hjs]
              rcases (syn j _ hjo).2.2.2 _ ht with h | ⟨e, he, h⟩ | h
              · exact s3 j _ hjo (Ne.symm hji) (by rw [hd]; simp) (h.trans hd.symm)
              · have hl := hcl j _ hjo hj' e he
                have hne : i ≠ e.on := by
                  rintro rfl
                  rw [Array.getD, dif_pos (by omega)] at hl hun
                  rw [hl] at hun
                  cases hun
                cases hk : ops[e.on]? with
                | none => rw [hk] at h; cases h
                | some p =>
                  rw [hk] at h
                  exact s3 e.on p hk hne (by rw [hd]; simp) (h.trans hd.symm)
              · have := Array.all_eq_true.1 h i hlt
                rw [(Array.getElem?_eq_some_iff.1 ho).2, hd] at this
                simp at this
          rw [hv]
          exact hold
      · by_cases hji : j = i
        · subst hji
          rw [ho] at hp
          injection hp with hp
          subst hp
          have h1 := hall e he (s2 e he).1
          have h2 := (s2 e he).2
          rw [getD_set_ne false (by omega)]
          exact h1
        · have hj' : listed.getD j true = true := (hset j hj).resolve_left hji
          have h1 := hcl j p hp hj' e he
          by_cases hie : i = e.on
          · rw [Array.getD, dif_pos (by simp [hsz, ← hie, hlt])]
            simp [hie]
          · rw [getD_set_ne false hie]; exact h1
  refine wp_region_any hm (main _ _ _ _ (by simp) ?_ (Ext.refl _) ⟨rfl, rfl, fun _ _ => rfl⟩ (fun i h hi => ?_) (fun i o hi h => ?_))
  · exact Nat.le_trans List.countP_le_length (by simp)
  · simp [Array.getD, hi] at h
  · have hlt := (Array.getElem?_eq_some_iff.1 hi).1
    simp [Array.getD, hlt] at h
theorem wp_region_monoGA {id : Nat} (G : Nat → Bool → Bool) (hm : P.follows .mixedOrders = true) (hsyn : monoOkG ops rd G = true) (hG : ∀ g b, G g b = true → ∀ vs w, φ g vs w → vs = [.bool b]) (hst : ∀ i vs w w', φ i vs w → Ext w w' → φ i vs w') (hsteps : MSteps P ops rd φ a0 w0 Q 0 ops.toList)
    (hfin : ∀ a w, Ext w0.drew w → FrameOk ops a0 a → (∀ i, i < ops.size → φ i (valsAt a (rd i)) w) → Q .normal a w) : (Code.region id ops true).wp P Q a0 w0 :=
  wp_region_monoG hm hsyn hG hst (fun i o ho => by
    have := hsteps.get i o (by simpa using ho)
    rwa [Nat.zero_add] at this) hfin
end
end Go.Sy
