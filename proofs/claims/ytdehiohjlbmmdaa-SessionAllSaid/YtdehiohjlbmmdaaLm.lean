/- A region whose order is open, all of whose operations leave what there was as it was: one way for all orders. -/
import Derived.Test.YtdehiohjlbmmdaaLb
import Derived.Orders
namespace Go.Sy
open Go.RowKit
/-- what the temporaries hold -/
def valsAt (a : Act) (ts : List Tmp) : List Value := ts.map fun t => a.tmps.getD t undef
/-- a act like a0, but for what the region writes -/
structure FrameOk (ops : Array Oper) (a0 a : Act) : Prop where
  size : a.tmps.size = a0.tmps.size
  defers : a.defers = a0.defers
  same : ∀ t, ops.all (fun o => o.dst != some t) = true → a.tmps.getD t undef = a0.tmps.getD t undef
/-- the syntax: no guards; each temporary written once; what an operation's fact reads is its own, or those's right ahead of it, or not the region's. n: how many operations come up in any order; those behind wait for all of them. -/
def monoOk (ops : Array Oper) (rd : Nat → List Tmp) : Bool :=
  (List.range ops.size).all fun i => match ops[i]? with
    | none => false
    | some o => o.guard.isNone && o.after.all (fun e => Region.binds .any e && decide (e.on < i)) &&
        (List.range ops.size).all (fun j => i == j || o.dst.isNone || (ops[j]?).any (fun p => p.dst != o.dst)) &&
        (rd i).all fun t => o.dst == some t || o.after.any (fun e => ((ops[e.on]?).bind (·.dst)) == some t) || ops.all (fun p => p.dst != some t)

section
variable {P : Program} {ops : Array Oper} {Q : Exit → Act → World → Prop} {rd : Nat → List Tmp} {φ : Nat → List Value → World → Prop} {a0 : Act} {w0 : World}
theorem countP_lt {p q : Nat → Bool} {i : Nat} (hpq : ∀ j, q j = true → p j = true) (hp : p i = true) (hq : q i = false) : ∀ {l : List Nat}, i ∈ l → l.countP q < l.countP p
  | x :: xs, hi => by
    have hle : ∀ l : List Nat, l.countP q ≤ l.countP p := fun l => List.countP_mono_left fun j _ h => hpq j h
    rw [List.countP_cons, List.countP_cons]
    rcases List.mem_cons.1 hi with rfl | hi
    · have := hle xs
      simp only [hp, hq, if_true]
      simp
      omega
    · have := countP_lt hpq hp hq hi
      have hx := hpq x
      cases hqx : q x
      · simp only [Bool.false_eq_true, if_false]
        split <;> omega
      · rw [hx hqx]
        simpa using this
theorem getD_put_ne {a : Act} {d t : Tmp} {v : Value} (h : d ≠ t) : (a.put (some d) v).tmps.getD t undef = a.tmps.getD t undef := by
  simp [Act.put, Array.getElem?_setIfInBounds_ne h]
theorem getD_put_same {a : Act} {d : Tmp} {v : Value} (h : d < a.tmps.size) : (a.put (some d) v).tmps.getD d undef = v := by
  simp [Act.put, h]
theorem FrameOk.put {a : Act} (h : FrameOk ops a0 a) {i : Nat} {o : Oper} (hi : ops[i]? = some o) (v : Value) : FrameOk ops a0 (a.put o.dst v) := by
  cases hd : o.dst with
  | none => exact h
  | some d =>
    refine ⟨by simp [Act.put, h.size], h.defers, fun t ht => ?_⟩
    rw [getD_put_ne ?_]
    · exact h.same t ht
    · rintro rfl
      have := Array.all_eq_true.1 ht i (Array.getElem?_eq_some_iff.1 hi).1
      rw [(Array.getElem?_eq_some_iff.1 hi).2, hd] at this
      simp at this
/-- The rule. -/
theorem wp_region_mono {id : Nat} (hm : P.follows .mixedOrders = true) (hsyn : monoOk ops rd = true)
    (hst : ∀ i vs w w', φ i vs w → Ext w w' → φ i vs w')
    (hstep : ∀ (i : Nat) (o : Oper), ops[i]? = some o → ∀ a w, Ext w0.drew w → FrameOk ops a0 a → (∀ e ∈ o.after, φ e.on (valsAt a (rd e.on)) w) →
      o.wp P a w (fun a' w' => ∃ v, a' = a.put o.dst v ∧ Ext w w' ∧ φ i (valsAt (a.put o.dst v) (rd i)) w') Q)
    (hfin : ∀ a w, Ext w0.drew w → FrameOk ops a0 a → (∀ i, i < ops.size → φ i (valsAt a (rd i)) w) → Q .normal a w) :
    (Code.region id ops true).wp P Q a0 w0 := by
  have syn : ∀ (i : Nat) (o : Oper), ops[i]? = some o → o.guard = none ∧ (∀ e ∈ o.after, Region.binds .any e = true ∧ e.on < i) ∧ (∀ (j : Nat) (p : Oper), ops[j]? = some p → i ≠ j → o.dst ≠ none → p.dst ≠ o.dst) ∧
      ∀ t ∈ rd i, o.dst = some t ∨ (∃ e ∈ o.after, (ops[e.on]?).bind (·.dst) = some t) ∨ ops.all (fun p => p.dst != some t) = true := by
    intro i o hi
    have hlt := (Array.getElem?_eq_some_iff.1 hi).1
    have h := List.all_eq_true.1 hsyn i (List.mem_range.2 hlt)
    simp only [hi, Bool.and_eq_true, Option.isNone_iff_eq_none] at h
    obtain ⟨⟨⟨h1, h2⟩, h3⟩, h4⟩ := h
    refine ⟨h1, fun e he => ?_, fun j p hj hne hd => ?_, fun t ht => ?_⟩
    · obtain ⟨k, hk, rfl⟩ := Array.mem_iff_getElem.1 he
      simpa using Array.all_eq_true.1 h2 k hk
    · have := List.all_eq_true.1 h3 j (List.mem_range.2 (Array.getElem?_eq_some_iff.1 hj).1)
      simp only [hj, Bool.or_eq_true, beq_iff_eq, Option.isNone_iff_eq_none, Option.any_some, bne_iff_ne] at this
      rcases this with (h | h) | h
      · exact absurd h hne
      · exact absurd h hd
      · exact h
    · have := List.all_eq_true.1 h4 t ht
      simp only [Bool.or_eq_true, beq_iff_eq] at this
      rcases this with (h | h) | h
      · exact .inl h
      · obtain ⟨k, hk, he⟩ := Array.any_eq_true.1 h
        exact .inr (.inl ⟨_, Array.getElem_mem hk, by simpa using he⟩)
      · exact .inr (.inr h)
  have main : ∀ (fuel : Nat) (listed : Array Bool) (a : Act) (w : World), listed.size = ops.size → (List.range ops.size).countP (fun i => !listed.getD i true) ≤ fuel →
      Ext w0.drew w → FrameOk ops a0 a → (∀ i, listed.getD i true = true → i < ops.size → φ i (valsAt a (rd i)) w) →
      (∀ (i : Nat) (o : Oper), ops[i]? = some o → listed.getD i true = true → ∀ e ∈ o.after, listed.getD e.on false = true) → wpAny P .any ops Q fuel listed a w := by
    have fin : ∀ (listed : Array Bool) (a : Act) (w : World), Region.ready .any ops listed = [] → Ext w0.drew w → FrameOk ops a0 a → (∀ i, listed.getD i true = true → i < ops.size → φ i (valsAt a (rd i)) w) →
        listed.size = ops.size → Q .normal a w := by
      intro listed a w hr hx hf hφ hsz
      have all : ∀ i, i < ops.size → listed.getD i true = true := by
        intro i
        induction i using Nat.strongRecOn with
        | ind i ih =>
          intro hi
          cases hl : listed.getD i true with
          | true => rfl
          | false =>
            exfalso
            have : i ∈ Region.ready .any ops listed := by
              refine mem_ready.2 ⟨hl, ops[i], by simp [hi], fun e he hb => ?_⟩
              have h1 := ((syn i ops[i] (by simp [hi])).2.1 e he).2
              have h2 := ih e.on h1 (by omega)
              rw [Array.getD, dif_pos (by omega)] at h2 ⊢
              exact h2
            rw [hr] at this
            cases this
      exact hfin a w hx hf fun i hi => hφ i (all i hi) hi
    intro fuel
    induction fuel with
    | zero =>
      intro listed a w hsz hc hx hf hφ _
      have hr : Region.ready .any ops listed = [] := by
        cases hr : Region.ready .any ops listed with
        | nil => rfl
        | cons i _ =>
          exfalso
          have hi : i ∈ Region.ready .any ops listed := by rw [hr]; exact List.mem_cons_self
          obtain ⟨h1, o, h2, _⟩ := mem_ready.1 hi
          have h0 := List.countP_eq_zero.1 (Nat.le_zero.1 hc) i (List.mem_range.2 (Array.getElem?_eq_some_iff.1 h2).1)
          rw [h1] at h0
          exact h0 rfl
      exact ⟨hr, fin listed a w hr hx hf hφ hsz⟩
    | succ fuel ih =>
      intro listed a w hsz hc hx hf hφ hcl
      refine ⟨fun hr => fin listed a w hr hx hf hφ hsz, fun i hi => ?_⟩
      obtain ⟨hun, o, ho, hall⟩ := mem_ready.1 hi
      obtain ⟨s1, s2, s3, s4⟩ := syn i o ho
      have hlt : i < ops.size := (Array.getElem?_eq_some_iff.1 ho).1
      have hpre : ∀ e ∈ o.after, listed.getD e.on true = true := fun e he => by
        have h1 := hall e he (s2 e he).1
        have h2 := (s2 e he).2
        rw [Array.getD, dif_pos (by omega)] at h1 ⊢
        exact h1
      have hw := hstep i o ho a w hx hf fun e he => hφ e.on (hpre e he) (by have := (s2 e he).2; omega)
      unfold wpOp
      simp only [ho]
      rw [if_pos (by simp [Region.wanted, s1])]
      refine .inl (Oper.wp_mono ?_ hw)
      rintro a' w' ⟨v, rfl, hx', hφ'⟩
      have hset : ∀ j, (listed.setIfInBounds i true).getD j true = true → j = i ∨ listed.getD j true = true := fun j hj => by
        by_cases h : i = j
        · exact .inl h.symm
        · rw [getD_set_ne true h] at hj; exact .inr hj
      refine ih _ _ _ (by simp [hsz]) ?_ (hx.trans hx') (hf.put ho v) (fun j hj hjs => ?_) (fun j p hp hj e he => ?_)
      · have := countP_lt (p := fun i => !listed.getD i true) (q := fun j => !(listed.setIfInBounds i true).getD j true) (i := i) (fun j hj => by
          by_cases h : i = j
          · subst h; simpa using hun
          · rw [getD_set_ne true h] at hj; exact hj) (by simpa using hun) (by
            rw [Array.getD, dif_pos (by simp [hsz, hlt])]
            simp) (List.mem_range.2 hlt)
        omega
      · rcases hset j hj with rfl | hj'
        · exact hφ'
        · by_cases hji : j = i
          · subst hji; exact hφ'
          have hold := hst j _ _ _ (hφ j hj' hjs) hx'
          have hv : valsAt (a.put o.dst v) (rd j) = valsAt a (rd j) := by
            cases hd : o.dst with
            | none => rfl
            | some d =>
              refine List.map_congr_left fun t ht => getD_put_ne ?_
              rintro rfl
              have hjo : ops[j]? = some ops[j] := by simp [hjs]
              rcases (syn j _ hjo).2.2.2 _ ht with h | ⟨e, he, h⟩ | h
              · exact s3 j _ hjo (Ne.symm hji) (by rw [hd]; simp) (h.trans hd.symm)
              · have hl := hcl j _ hjo hj' e he
                have hne : i ≠ e.on := by
                  rintro rfl
                  rw [Array.getD, dif_pos (by omega)] at hl hun
                  rw [hl] at hun
                  cases hun
                cases hk : ops[e.on]? with
                | none => rw [hk] at h; cases h
                | some p =>
                  rw [hk] at h
                  exact s3 e.on p hk hne (by rw [hd]; simp) (h.trans hd.symm)
              · have := Array.all_eq_true.1 h i hlt
                rw [(Array.getElem?_eq_some_iff.1 ho).2, hd] at this
                simp at this
          rw [hv]
          exact hold
      · by_cases hji : j = i
        · subst hji
          rw [ho] at hp
          injection hp with hp
          subst hp
          have h1 := hall e he (s2 e he).1
          have h2 := (s2 e he).2
          rw [getD_set_ne false (by omega)]
          exact h1
        · have hj' : listed.getD j true = true := (hset j hj).resolve_left hji
          have h1 := hcl j p hp hj' e he
          by_cases hie : i = e.on
          · rw [Array.getD, dif_pos (by simp [hsz, ← hie, hlt])]
            simp [hie]
          · rw [getD_set_ne false hie]; exact h1
  refine wp_region_any hm (main _ _ _ _ (by simp) ?_ (Ext.refl _) ⟨rfl, rfl, fun _ _ => rfl⟩ (fun i h hi => ?_) (fun i o hi h => ?_))
  · exact Nat.le_trans List.countP_le_length (by simp)
  · simp [Array.getD, hi] at h
  · have hlt := (Array.getElem?_eq_some_iff.1 hi).1
    simp [Array.getD, hlt] at h
/-- The rule, where the last operation waits for all others and may write what the region itself has made. -/
theorem wp_region_mono1 {id m : Nat} {ol : Oper} (hsz' : ops.size = m + 1) (hol : ops[m]? = some ol) (hcov : (List.range m).all (fun j => ol.after.any fun e => e.on == j) = true) (hm : P.follows .mixedOrders = true) (hsyn : monoOk ops rd = true)
    (hst : ∀ i vs w w', φ i vs w → Ext w w' → φ i vs w')
    (hstep : ∀ (i : Nat) (o : Oper), i < m → ops[i]? = some o → ∀ a w, Ext w0.drew w → FrameOk ops a0 a → (∀ e ∈ o.after, φ e.on (valsAt a (rd e.on)) w) →
      o.wp P a w (fun a' w' => ∃ v, a' = a.put o.dst v ∧ Ext w w' ∧ φ i (valsAt (a.put o.dst v) (rd i)) w') Q)
    (hfin : ∀ a w, Ext w0.drew w → FrameOk ops a0 a → (∀ i, i < m → φ i (valsAt a (rd i)) w) → ol.wp P a w (fun a' w' => Q .normal a' w') Q) :
    (Code.region id ops true).wp P Q a0 w0 := by
  have syn : ∀ (i : Nat) (o : Oper), ops[i]? = some o → o.guard = none ∧ (∀ e ∈ o.after, Region.binds .any e = true ∧ e.on < i) ∧ (∀ (j : Nat) (p : Oper), ops[j]? = some p → i ≠ j → o.dst ≠ none → p.dst ≠ o.dst) ∧
      ∀ t ∈ rd i, o.dst = some t ∨ (∃ e ∈ o.after, (ops[e.on]?).bind (·.dst) = some t) ∨ ops.all (fun p => p.dst != some t) = true := by
    intro i o hi
    have hlt := (Array.getElem?_eq_some_iff.1 hi).1
    have h := List.all_eq_true.1 hsyn i (List.mem_range.2 hlt)
    simp only [hi, Bool.and_eq_true, Option.isNone_iff_eq_none] at h
    obtain ⟨⟨⟨h1, h2⟩, h3⟩, h4⟩ := h
    refine ⟨h1, fun e he => ?_, fun j p hj hne hd => ?_, fun t ht => ?_⟩
    · obtain ⟨k, hk, rfl⟩ := Array.mem_iff_getElem.1 he
      simpa using Array.all_eq_true.1 h2 k hk
    · have := List.all_eq_true.1 h3 j (List.mem_range.2 (Array.getElem?_eq_some_iff.1 hj).1)
      simp only [hj, Bool.or_eq_true, beq_iff_eq, Option.isNone_iff_eq_none, Option.any_some, bne_iff_ne] at this
      rcases this with (h | h) | h
      · exact absurd h hne
      · exact absurd h hd
      · exact h
    · have := List.all_eq_true.1 h4 t ht
      simp only [Bool.or_eq_true, beq_iff_eq] at this
      rcases this with (h | h) | h
      · exact .inl h
      · obtain ⟨k, hk, he⟩ := Array.any_eq_true.1 h
        exact .inr (.inl ⟨_, Array.getElem_mem hk, by simpa using he⟩)
      · exact .inr (.inr h)
  have main : ∀ (fuel : Nat) (listed : Array Bool) (a : Act) (w : World), listed.size = ops.size → (List.range ops.size).countP (fun i => !listed.getD i true) ≤ fuel →
      listed.getD m true = false → Ext w0.drew w → FrameOk ops a0 a → (∀ i, listed.getD i true = true → i < ops.size → φ i (valsAt a (rd i)) w) →
      (∀ (i : Nat) (o : Oper), ops[i]? = some o → listed.getD i true = true → ∀ e ∈ o.after, listed.getD e.on false = true) → wpAny P .any ops Q fuel listed a w := by
    have cov : ∀ j, j < m → ∃ e ∈ ol.after, e.on = j := fun j hj => by
      have := List.all_eq_true.1 hcov j (List.mem_range.2 hj)
      obtain ⟨k, hk, he⟩ := Array.any_eq_true.1 this
      exact ⟨_, Array.getElem_mem hk, by simpa using he⟩
    have nonempty : ∀ (listed : Array Bool), listed.size = ops.size → listed.getD m true = false → Region.ready .any ops listed ≠ [] := by
      intro listed hsz hml hr
      have all : ∀ i, i < ops.size → listed.getD i true = true := by
        intro i
        induction i using Nat.strongRecOn with
        | ind i ih =>
          intro hi
          cases hl : listed.getD i true with
          | true => rfl
          | false =>
            exfalso
            have : i ∈ Region.ready .any ops listed := by
              refine mem_ready.2 ⟨hl, ops[i], by simp [hi], fun e he hb => ?_⟩
              have h1 := ((syn i ops[i] (by simp [hi])).2.1 e he).2
              have h2 := ih e.on h1 (by omega)
              rw [Array.getD, dif_pos (by omega)] at h2 ⊢
              exact h2
            rw [hr] at this
            cases this
      rw [all m (by omega)] at hml
      cases hml
    intro fuel
    induction fuel with
    | zero =>
      intro listed a w hsz hc hml hx hf hφ _
      exfalso
      have h0 := List.countP_eq_zero.1 (Nat.le_zero.1 hc) m (List.mem_range.2 (by omega))
      rw [hml] at h0
      exact h0 rfl
    | succ fuel ih =>
      intro listed a w hsz hc hml hx hf hφ hcl
      refine ⟨fun hr => absurd hr (nonempty listed hsz hml), fun i hi => ?_⟩
      obtain ⟨hun, o, ho, hall⟩ := mem_ready.1 hi
      obtain ⟨s1, s2, s3, s4⟩ := syn i o ho
      have hlt : i < ops.size := (Array.getElem?_eq_some_iff.1 ho).1
      have hpre : ∀ e ∈ o.after, listed.getD e.on true = true := fun e he => by
        have h1 := hall e he (s2 e he).1
        have h2 := (s2 e he).2
        rw [Array.getD, dif_pos (by omega)] at h1 ⊢
        exact h1
      by_cases him : i = m
      · subst him
        rw [hol] at ho
        injection ho with ho
        subst ho
        have hall' : ∀ j, j < ops.size → j ≠ i → listed.getD j true = true := fun j hj hne => by
          obtain ⟨e, he, rfl⟩ := cov j (by omega)
          exact hpre e he
        have hw := hfin a w hx hf fun j hj => hφ j (hall' j (by omega) (by omega)) (by omega)
        unfold wpOp
        simp only [hol]
        rw [if_pos (by simp [Region.wanted, s1])]
        refine .inl (Oper.wp_mono (fun a' w' hQ => wpAny_done ?_ hQ _) hw)
        cases hr : Region.ready .any ops (listed.setIfInBounds i true) with
        | nil => rfl
        | cons j _ =>
          exfalso
          have hj : j ∈ Region.ready .any ops (listed.setIfInBounds i true) := by rw [hr]; exact List.mem_cons_self
          obtain ⟨h1, p, h2, _⟩ := mem_ready.1 hj
          have hjs := (Array.getElem?_eq_some_iff.1 h2).1
          by_cases hji : i = j
          · subst hji
            rw [Array.getD, dif_pos (by simp [hsz, hlt])] at h1
            simp at h1
          · rw [getD_set_ne true hji, hall' j hjs (Ne.symm hji)] at h1
            cases h1
      have hw := hstep i o (by omega) ho a w hx hf fun e he => hφ e.on (hpre e he) (by have := (s2 e he).2; omega)
      unfold wpOp
      simp only [ho]
      rw [if_pos (by simp [Region.wanted, s1])]
      refine .inl (Oper.wp_mono ?_ hw)
      rintro a' w' ⟨v, rfl, hx', hφ'⟩
      have hset : ∀ j, (listed.setIfInBounds i true).getD j true = true → j = i ∨ listed.getD j true = true := fun j hj => by
        by_cases h : i = j
        · exact .inl h.symm
        · rw [getD_set_ne true h] at hj; exact .inr hj
      refine ih _ _ _ (by simp [hsz]) ?_ (by rw [getD_set_ne true him]; exact hml) (hx.trans hx') (hf.put ho v) (fun j hj hjs => ?_) (fun j p hp hj e he => ?_)
      · have := countP_lt (p := fun i => !listed.getD i true) (q := fun j => !(listed.setIfInBounds i true).getD j true) (i := i) (fun j hj => by
          by_cases h : i = j
          · subst h; simpa using hun
          · rw [getD_set_ne true h] at hj; exact hj) (by simpa using hun) (by
            rw [Array.getD, dif_pos (by simp [hsz, hlt])]
            simp) (List.mem_range.2 hlt)
        omega
      · rcases hset j hj with rfl | hj'
        · exact hφ'
        · by_cases hji : j = i
          · subst hji; exact hφ'
          have hold := hst j _ _ _ (hφ j hj' hjs) hx'
          have hv : valsAt (a.put o.dst v) (rd j) = valsAt a (rd j) := by
            cases hd : o.dst with
            | none => rfl
            | some d =>
              refine List.map_congr_left fun t ht => getD_put_ne ?_
              rintro rfl
              have hjo : ops[j]? = some ops[j] := by simp [hjs]
              rcases (syn j _ hjo).2.2.2 _ ht with h | ⟨e, he, h⟩ | h
              · exact s3 j _ hjo (Ne.symm hji) (by rw [hd]; simp) (h.trans hd.symm)
              · have hl := hcl j _ hjo hj' e he
                have hne : i ≠ e.on := by
                  rintro rfl
                  rw [Array.getD, dif_pos (by omega)] at hl hun
                  rw [hl] at hun
                  cases hun
                cases hk : ops[e.on]? with
                | none => rw [hk] at h; cases h
                | some p =>
                  rw [hk] at h
                  exact s3 e.on p hk hne (by rw [hd]; simp) (h.trans hd.symm)
              · have := Array.all_eq_true.1 h i hlt
                rw [(Array.getElem?_eq_some_iff.1 ho).2, hd] at this
                simp at this
          rw [hv]
          exact hold
      · by_cases hji : j = i
        · subst hji
          rw [ho] at hp
          injection hp with hp
          subst hp
          have h1 := hall e he (s2 e he).1
          have h2 := (s2 e he).2
          rw [getD_set_ne false (by omega)]
          exact h1
        · have hj' : listed.getD j true = true := (hset j hj).resolve_left hji
          have h1 := hcl j p hp hj' e he
          by_cases hie : i = e.on
          · rw [Array.getD, dif_pos (by simp [hsz, ← hie, hlt])]
            simp [hie]
          · rw [getD_set_ne false hie]; exact h1
  refine wp_region_any hm (main _ _ _ _ (by simp) ?_ (by rw [Array.getD, dif_pos (by simp [hsz'])]; simp) (Ext.refl _) ⟨rfl, rfl, fun _ _ => rfl⟩ (fun i h hi => ?_) (fun i o hi h => ?_))
  · exact Nat.le_trans List.countP_le_length (by simp)
  · simp [Array.getD, hi] at h
  · have hlt := (Array.getElem?_eq_some_iff.1 hi).1
    simp [Array.getD, hlt] at h
/-- one step of such a region -/
def StepOk (P : Program) (ops : Array Oper) (rd : Nat → List Tmp) (φ : Nat → List Value → World → Prop) (a0 : Act) (w0 : World) (Q : Exit → Act → World → Prop) (i : Nat) (o : Oper) : Prop :=
  ∀ a w, Ext w0.drew w → FrameOk ops a0 a → (∀ e ∈ o.after, φ e.on (valsAt a (rd e.on)) w) →
      o.wp P a w (fun a' w' => ∃ v, a' = a.put o.dst v ∧ Ext w w' ∧ φ i (valsAt (a.put o.dst v) (rd i)) w') Q
inductive MSteps (P : Program) (ops : Array Oper) (rd : Nat → List Tmp) (φ : Nat → List Value → World → Prop) (a0 : Act) (w0 : World) (Q : Exit → Act → World → Prop) : Nat → List Oper → Prop
  | nil (i : Nat) : MSteps P ops rd φ a0 w0 Q i []
  | cons {i : Nat} {o : Oper} {os : List Oper} : StepOk P ops rd φ a0 w0 Q i o → MSteps P ops rd φ a0 w0 Q (i + 1) os → MSteps P ops rd φ a0 w0 Q i (o :: os)
theorem MSteps.get : ∀ {l : List Oper} {i : Nat}, MSteps P ops rd φ a0 w0 Q i l → ∀ (k : Nat) (o : Oper), l[k]? = some o → StepOk P ops rd φ a0 w0 Q (i + k) o
  | _, _, .nil _, k, o, h => by simp at h
  | _, _, .cons h1 _, 0, o, h => by simp at h; subst h; exact h1
  | _, i, .cons _ h2, k + 1, o, h => by
    have := h2.get k o (by simpa using h)
    rwa [show i + 1 + k = i + (k + 1) by omega] at this
/-- a step that yields a value and does nothing else -/
theorem StepOk.pure {i : Nat} {o : Oper}
    (h : ∀ a w, Ext w0.drew w → FrameOk ops a0 a → (∀ e ∈ o.after, φ e.on (valsAt a (rd e.on)) w) → ∃ v, (execOp a.eval o).run P w = .ok (.value v) w ∧ φ i (valsAt (a.put o.dst v) (rd i)) w) : StepOk P ops rd φ a0 w0 Q i o := by
  intro a w hx hf hp
  obtain ⟨v, h1, h2⟩ := h a w hx hf hp
  unfold Oper.wp
  rw [h1]
  exact ⟨v, rfl, Ext.refl w, h2⟩
theorem valsAt_put {a : Act} {d : Tmp} {v : Value} (h : d < a.tmps.size) : valsAt (a.put (some d) v) [d] = [v] := by
  simp only [valsAt, List.map_cons, List.map_nil, getD_put_same h]
theorem FrameOk.tmps {a : Act} (h : FrameOk ops a0 a) : a.tmps = ((List.range a0.tmps.size).map fun t => if ops.all (fun o => o.dst != some t) = true then a0.tmps.getD t undef else a.tmps.getD t undef).toArray := by
  apply Array.ext
  · simp [h.size]
  · intro i h1 h2
    simp only [List.size_toArray, List.length_map, List.length_range] at h2
    have e1 : a.tmps[i] = a.tmps.getD i undef := by simp [h1]
    simp only [List.getElem_toArray, List.getElem_map, List.getElem_range]
    rw [e1]
    by_cases hc : ops.all (fun o => o.dst != some i) = true
    · rw [if_pos hc]; exact h.same i hc
    · rw [if_neg hc]
theorem wp_region_monoL {id m : Nat} {ol : Oper} (hsz' : ops.size = m + 1) (hol : ops[m]? = some ol) (hcov : (List.range m).all (fun j => ol.after.any fun e => e.on == j) = true)
    (hm : P.follows .mixedOrders = true) (hsyn : monoOk ops rd = true) (hst : ∀ i vs w w', φ i vs w → Ext w w' → φ i vs w') (hsteps : MSteps P ops rd φ a0 w0 Q 0 (ops.toList.take m))
    (hfin : ∀ a w, Ext w0.drew w → FrameOk ops a0 a → (∀ i, i < m → φ i (valsAt a (rd i)) w) → ol.wp P a w (fun a' w' => Q .normal a' w') Q) : (Code.region id ops true).wp P Q a0 w0 :=
  wp_region_mono1 hsz' hol hcov hm hsyn hst (fun i o hi ho => by
    have := hsteps.get i o (by rw [List.getElem?_take, if_pos hi]; simpa using ho)
    rwa [Nat.zero_add] at this) hfin
theorem wp_region_monoA {id : Nat} (hm : P.follows .mixedOrders = true) (hsyn : monoOk ops rd = true) (hst : ∀ i vs w w', φ i vs w → Ext w w' → φ i vs w') (hsteps : MSteps P ops rd φ a0 w0 Q 0 ops.toList)
    (hfin : ∀ a w, Ext w0.drew w → FrameOk ops a0 a → (∀ i, i < ops.size → φ i (valsAt a (rd i)) w) → Q .normal a w) : (Code.region id ops true).wp P Q a0 w0 :=
  wp_region_mono hm hsyn hst (fun i o ho => by
    have := hsteps.get i o (by simpa using ho)
    rwa [Nat.zero_add] at this) hfin
end
section
variable {P : Program} {w : World} {t e bytes B g : Nat} {z : Value} {α : Type} {d : Kd α}
/-- append onto an empty literal: new memory, and nothing else -/
theorem wp_app_lit0 (F : d.Flat) (E : ET P t e d.sz bytes z) {o : Oper} {a : Act} {K : Act → World → Prop} {Q : Exit → Act → World → Prop} {s x : Operand}
    (ho : o.op = .call { callee := .builtin .append, args := #[s, x], argTypes := #[t, t] })
    (hs : a.eval s = .slice (some ⟨g, 0, none⟩) 0 0) (hg : w.heap[g]? = some (.cells #[] e (0, 0))) (hB : B ≤ g) {S : Nat → Prop}
    {vx : Value} {ms : List α} {n : Nat} (hx : a.eval x = vx) (hsrc : d.L S w vx ms) (hn : ms.length = n) (hb : n ≤ 1000000000) (hb2 : bytes ≤ 1000)
    (h : ∀ a' c' w', d.Own e w' B (.slice a' n c') ms → Ext w w' → K (a.put o.dst (.slice a' n c')) w') : o.wp P a w K Q := by
  obtain ⟨news, k1, ad, c, rfl, h2, h3, h4⟩ := hsrc
  subst hn
  obtain ⟨i, hi, hz0, hz1, hz2⟩ := info_parts E.info
  have hl := Kd.many_len k1
  have hlt : g < w.heap.size := (Array.getElem?_eq_some_iff.1 hg).1
  have own0 : d.Own e w B (.slice (some ⟨g, 0, none⟩) 0 0) [] := ⟨[], rfl, by simp, .inr ⟨g, 0, #[], rfl, hB, hg, Nat.le_refl _, by simp [maxLen], by simp, by simp⟩⟩
  cases ms with
  | nil =>
    have hrun : (Builtin.append_ #[t, t] o.type #[.slice (some ⟨g, 0, none⟩) 0 0, .slice ad 0 c]).run P w = .ok (.slice (some ⟨g, 0, none⟩) 0 0) w := by
      cases ad <;> simp [Builtin.append_, run_underlying E.ut, sizeOf, typeInfo, hi, Builtin.lenOf, Builtin.firstCells, loadCells, loadCellsFrom, storeCells]
    unfold Oper.wp
    simp [execOp, ho, resolve, invoke, builtin, hs, hx, hrun, Result.andThen]
    exact h _ _ _ own0 (Ext.refl w)
  | cons y ys =>
    have hpos : 0 < news.length := by rw [hl]; exact Nat.mul_pos (Nat.succ_pos _) E.pos
    obtain ⟨b, off, rfl, _, hc⟩ := h4.at_ hpos
    have hbb : (0 + (y :: ys).length) * bytes ≤ 140737488355328 := by
      have := Nat.mul_le_mul hb hb2
      rw [Nat.zero_add]
      omega
    have hnews : ∀ j v, news[j]? = some v → w.cell? ((⟨b, off, none⟩ : Addr).add j) = some v := fun j v hj => by rw [add_lit]; exact hc j v hj
    obtain ⟨cs0, hm0, ho0⟩ := own0
    have hcs0 : cs0 = [] := hm0
    subst hcs0
    obtain ⟨v', w', hr', a1, a2, a3⟩ := run_app (P := P) E ho0 o.type ⟨b, off, none⟩ (y :: ys).length c news hl hnews (Kd.many_one k1) (by simp only [maxLen, List.length_nil]; omega) (by simpa using hbb) (by omega)
    have hr := run_append_grow (P := P) w t o.type e i z E.ut hi hz0 ⟨g, 0, none⟩ 0 0 [] (by simp) (by simp) ⟨b, off, none⟩ (y :: ys).length c news (by rw [hz1]; exact hl) hnews (by simp) (by omega) (growslice_fits (by simp) (by rw [hz2]; exact hbb))
    have hr2 := hr'
    rw [hr] at hr'
    injection hr' with e1 e2
    have hxx : Ext w w' := by rw [← e2]; exact ((Ext.refl w).drew).alloc _
    have how : d.Own e w' B v' (y :: ys) := ⟨news, Kd.many_flat F k1, by simpa using a1⟩
    obtain ⟨a', c', e3, _, _⟩ := how.L.form
    subst e3
    unfold Oper.wp execOp
    simp only [ho, resolve, invoke, builtin, Sem.run_bind, Sem.run_pure, Result.andThen_ok, List.map_toArray, List.map_cons, List.map_nil, hs, hx]
    rw [hr2]
    exact h _ _ _ how hxx
end
theorem Kd.Own.setN {α : Type} {d : Kd α} (F : d.Flat) {e : TypeId} {w : World} {B : Nat} {v : Value} {l : List α} (h : d.Own e w B v l) {p : Addr} (hp : v.ownBlock ≠ some p.block) (u : Value) : d.Own e (w.setCell p u) B v l :=
  h.keptF F (grown_set w p u) fun k hk e => hp (by rw [hk]; exact e.symm)
end Go.Sy
