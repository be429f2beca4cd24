/- Sessions: what is sent again, arrives, and is answered, has come. Plain laws. -/
import Derived.Test.YtdehiohjlbmmdaaHe
set_option linter.unusedSimpArgs false
set_option linter.unusedVariables false
namespace Go.Proofs.Ytdehiohjlbmmdaa
open Go.RowKit Go.Sy
/-- frames of bodies, from a number on -/
def dataFrs (my mx : Int) : Nat → List (List UInt8) → List (List UInt8)
  | _, [] => []
  | k, b :: bs => frPut ⟨2, my, mx, k, b⟩ :: dataFrs my mx (k + 1) bs
theorem datas_frs (l : Lk) (hb : 0 ≤ l.base) : ∀ (bs : List (List UInt8)) (k : Nat), datas l k bs = dataFrs l.mine l.peer (l.base.toNat + k) bs
  | [], _ => rfl
  | b :: bs, k => by
    show dataOf l k b :: datas l (k + 1) bs = _
    rw [datas_frs l hb bs (k + 1)]
    show _ = frPut ⟨2, l.mine, l.peer, ((l.base.toNat + k : Nat) : Int), b⟩ :: dataFrs l.mine l.peer (l.base.toNat + k + 1) bs
    rw [show ((l.base.toNat + k : Nat) : Int) = l.base + k by omega]
    rfl
theorem Half.frs {y x : Side} {my mx : Int} (h : Half y x my mx) (hp : y.e.peer = mx) : ∀ (bs : List (List UInt8)) (k : Nat), y.given.drop k = bs → y.e.base.toNat ≤ k → ∀ g ∈ dataFrs my mx k bs, FrOk y mx g := by
  have e : ∀ g ∈ Go.Proofs.Ytdehiohjlbmmdaa.datas y.e 0 y.e.out, FrOk y mx g := h.datas
  have hb := h.r.base
  rw [datas_frs _ hb.1, h.mine, hp, h.sent.1] at e
  have key : ∀ (bs : List (List UInt8)) (k q : Nat), (∀ g ∈ dataFrs my mx k bs, FrOk y mx g) → ∀ g ∈ dataFrs my mx (k + q) (bs.drop q), FrOk y mx g := by
    intro bs
    induction bs with
    | nil => intro k q h g hg; simp [dataFrs] at hg
    | cons b bs ih =>
      intro k q h g hg
      cases q with
      | zero => exact h g hg
      | succ q =>
        rw [List.drop_succ_cons, show k + (q + 1) = (k + 1) + q by omega] at hg
        exact ih (k + 1) q (fun g hg => h g (List.mem_cons_of_mem _ hg)) g hg
  intro bs k hk hle g hg
  have := key (y.given.drop y.e.base.toNat) (y.e.base.toNat + 0) (k - y.e.base.toNat) e g (by
    rw [List.drop_drop, show y.e.base.toNat + (k - y.e.base.toNat) = k by omega, hk, show y.e.base.toNat + 0 + (k - y.e.base.toNat) = k by omega]
    exact hg)
  exact this
theorem Half.count {y x : Side} {my mx : Int} (h : Half y x my mx) : (y.given.length : Int) = y.e.base + y.e.out.length ∧ y.given.length ≤ 1073741824 := by
  have h1 := congrArg List.length h.sent.1
  rw [List.length_drop] at h1
  have h2 := h.sent.2
  have h3 := h.r.base
  omega
/-- frames of what was given, from a number on, arrive in order -/
theorem Half.flow {y : Side} {mx my : Int} : ∀ (bs : List (List UInt8)) {x : Side} (k : Nat) (acc : List (List UInt8)) (_ : Half x y mx my) (_ : Half y x my mx) (_ : y.e.peer = mx) (_ : y.given.drop k = bs) (_ : (k : Int) ≤ x.e.inn) (_ : ∀ g ∈ dataFrs my mx k bs, FrOk y mx g) (_ : ∀ g ∈ acc, FrOk x my g),
    ∃ x', Half x' y mx my ∧ Half y x' my mx ∧ Mono x x' my ∧ ((dataFrs my mx k bs).foldl (fun p f => (lkTake p.1 f, p.2 ++ outTake p.1 f)) (x.e, acc)).1 = x'.e ∧
      (∀ g ∈ ((dataFrs my mx k bs).foldl (fun p f => (lkTake p.1 f, p.2 ++ outTake p.1 f)) (x.e, acc)).2, FrOk x' my g) ∧ x'.e.inn = y.given.length ∧
      (bs ≠ [] → x'.e.peer = my ∧ ∃ init, ((dataFrs my mx k bs).foldl (fun p f => (lkTake p.1 f, p.2 ++ outTake p.1 f)) (x.e, acc)).2 = init ++ [ackOf x'.e])
  | [], x, k, acc, h, h', hp, hk, hi, hfl, hacc => by
    refine ⟨x, h, h', Mono.refl x my, rfl, hacc, ?_, fun e => absurd rfl e⟩
    have h1 := h.got.2
    have h2 := h.inn
    have h3 := congrArg List.length hk
    rw [List.length_drop, List.length_nil] at h3
    omega
  | b :: bs, x, k, acc, h, h', hp, hk, hi, hfl, hacc => by
    have hg := hfl _ List.mem_cons_self
    have hbk : y.given[k]? = some b := by
      have := congrArg (·[0]?) hk
      simpa using this
    have hlt := (List.getElem?_eq_some_iff.1 hbk).1
    have hcnt := h'.count
    have hright : frRight ⟨2, my, mx, k, b⟩ = true := by
      obtain ⟨f, q1, q2, _⟩ := hg
      cases hr : frRight ⟨2, my, mx, (k : Int), b⟩ with
      | true => rfl
      | false =>
        rw [frPut_none hr] at q2
        exact absurd q2.symm (frPut_ne q1)
    have T := h.took h' hright rfl h'.mine.symm
    obtain ⟨k1, k2⟩ := h.take h' hg
    have hM := h.takeM h' hg
    have hacc' : ∀ g ∈ acc ++ outTake x.e (frPut ⟨2, my, mx, k, b⟩), FrOk (x.take (frPut ⟨2, my, mx, k, b⟩)) my g := fun g hg => by
      rcases List.mem_append.1 hg with hg | hg
      · exact (hacc g hg).monoS hM
      · exact k1.frames g (List.mem_append.2 (.inr hg))
    have e1 : lkTake x.e (frPut ⟨2, my, mx, k, b⟩) = lkCame (lkSure { x.e with peer := my }) ⟨2, my, mx, k, b⟩ := by
      rw [T.e, if_pos rfl]
      simp [lkDone]
    have e2 : outTake x.e (frPut ⟨2, my, mx, k, b⟩) = [ackOf (x.take (frPut ⟨2, my, mx, k, b⟩)).e] := by
      show _ = [ackOf (lkTake x.e (frPut ⟨2, my, mx, k, b⟩))]
      rw [e1, T.o, if_pos rfl]
      simp [outDone]
    have hi1 : ((k + 1 : Nat) : Int) ≤ (x.take (frPut ⟨2, my, mx, k, b⟩)).e.inn := by
      show ((k + 1 : Nat) : Int) ≤ (lkTake x.e (frPut ⟨2, my, mx, k, b⟩)).inn
      rw [e1]
      unfold lkCame
      split
      · show ((k + 1 : Nat) : Int) ≤ x.e.inn + 1
        omega
      · rename_i hc
        show ((k + 1 : Nat) : Int) ≤ x.e.inn
        simp only [cameIs, Bool.and_eq_true, beq_iff_eq, decide_eq_true_eq, not_and] at hc
        have hc : (k : Int) = x.e.inn → ¬ x.e.inn < 1073741824 := hc
        omega
    have hp1 : (x.take (frPut ⟨2, my, mx, k, b⟩)).e.peer = my := by
      show (lkTake x.e (frPut ⟨2, my, mx, k, b⟩)).peer = my
      rw [e1]
      exact (lkCame_peer _ _).1
    obtain ⟨x', r1, r2, r3, r4, r5, r6, r7⟩ := Half.flow bs (k + 1) (acc ++ outTake x.e (frPut ⟨2, my, mx, k, b⟩)) k1 k2 hp (by rw [← List.drop_drop, hk]; rfl) hi1 (fun g hg => hfl g (List.mem_cons_of_mem _ hg)) hacc'
    refine ⟨x', r1, r2, hM.trans r3, r4, r5, r6, fun _ => ⟨r3.peer hp1, ?_⟩⟩
    by_cases hbs : bs = []
    · refine ⟨acc, ?_⟩
      have hF : dataFrs my mx (k + 1) bs = [] := by rw [hbs]; rfl
      rw [hF] at r4
      show (List.foldl _ (lkTake x.e (frPut ⟨2, my, mx, k, b⟩), acc ++ outTake x.e (frPut ⟨2, my, mx, k, b⟩)) (dataFrs my mx (k + 1) bs)).2 = _
      rw [hF]
      show acc ++ outTake x.e (frPut ⟨2, my, mx, k, b⟩) = _
      rw [e2]
      rw [show x'.e = (x.take (frPut ⟨2, my, mx, k, b⟩)).e from r4.symm]
    · exact (r7 hbs).2
/-- a half of a round of two that know one another brings all, and it is known to have come -/
theorem Half.brings {x y : Side} {mx my : Int} (h : Half x y mx my) (h' : Half y x my mx) (hp : y.e.peer = mx) (k : Nat) (hki : (k : Int) ≤ x.e.inn) (hkb : y.e.out.length ≤ y.given.length - k) (hfl : ∀ g ∈ dataFrs my mx k (y.given.drop k), FrOk y mx g) :
    ∃ x' y', Half x' y' mx my ∧ Half y' x' my mx ∧ Mono x x' my ∧ Mono y y' mx ∧ Go.Proofs.Ytdehiohjlbmmdaa.phase x.e y.e (dataFrs my mx k (y.given.drop k)) = (x'.e, y'.e) ∧ x'.e.inn = y.given.length ∧ y'.e.out = [] := by
  have hmx := h.r.mine
  rw [h.mine] at hmx
  obtain ⟨x1, r1, r2, r3, r4, r5, r6, r7⟩ := Half.flow (y.given.drop k) k [] h h' hp rfl hki hfl (fun g hg => by cases hg)
  unfold Go.Proofs.Ytdehiohjlbmmdaa.phase
  rw [show (Go.Proofs.Ytdehiohjlbmmdaa.ph1 x.e (dataFrs my mx k (y.given.drop k))).1 = x1.e from r4]
  by_cases hne : y.given.drop k = []
  · rw [hne] at r4 r5 ⊢
    refine ⟨x1, y, r1, r2, r3, Mono.refl y mx, rfl, r6, ?_⟩
    have := congrArg List.length hne
    rw [List.length_drop, List.length_nil] at this
    exact List.eq_nil_of_length_eq_zero (by omega)
  · obtain ⟨hxp, init, hm⟩ := r7 hne
    rw [show (Go.Proofs.Ytdehiohjlbmmdaa.ph1 x.e (dataFrs my mx k (y.given.drop k))).2 = init ++ [ackOf x1.e] from hm]
    rw [hm] at r5
    obtain ⟨x2, y2, s1, s2, s3, s4, s5⟩ := Half.ph2 init r1 r2 (fun g hg => r5 g (List.mem_append.2 (.inl hg)))
    have hq : FrOk x2 my (ackOf x1.e) := (r5 _ (List.mem_append.2 (.inr List.mem_cons_self))).monoS s3
    obtain ⟨x3, y3, t1, t2, t3, t4, t5, t6⟩ := s1.back s2 hq
    refine ⟨x3, y3, t1, t2, r3.trans (s3.trans t3), s4.trans t4, ?_, ?_, ?_⟩
    · show List.foldl _ (x1.e, y.e) (init ++ [ackOf x1.e]) = _
      rw [List.foldl_append]
      have s5' : List.foldl (fun p f => ((outTake p.2 f).foldl lkTake p.1, lkTake p.2 f)) (x1.e, y.e) init = (x2.e, y2.e) := s5
      rw [s5']
      show ((outTake y2.e (ackOf x1.e)).foldl lkTake x2.e, lkTake y2.e (ackOf x1.e)) = _
      rw [t5, t6]
    · have h1 := t1.got.2
      have h2 := t1.inn
      have h3 := s3.inn
      have h4 := t3.inn
      rw [t4.given, s4.given] at h1
      omega
    · have hra : frRight ⟨3, x1.e.mine, x1.e.peer, x1.e.inn, []⟩ = true := right_ack r1.r (by
        have := h'.r.mine
        rw [h'.mine] at this
        rw [hxp]
        omega)
      have T := s2.took s1 hra rfl (by rw [s3.mine])
      rw [← t6]
      show (lkTake y2.e (frPut ⟨3, x1.e.mine, x1.e.peer, x1.e.inn, []⟩)).out = []
      rw [T.e, if_pos hxp]
      have c1 := s2.count
      rw [s4.given] at c1
      rw [show lkDone (lkSure { y2.e with peer := mx }) ⟨3, x1.e.mine, x1.e.peer, x1.e.inn, []⟩ = lkAck (lkSure { y2.e with peer := mx }) ⟨3, x1.e.mine, x1.e.peer, x1.e.inn, []⟩ by simp [lkDone]]
      unfold lkAck
      split
      · show y2.e.out.drop (x1.e.inn - y2.e.base).toNat = []
        apply List.drop_of_length_le
        omega
      · rename_i hc
        show y2.e.out = []
        have hc : ¬ (decide (0 < x1.e.inn - y2.e.base) && decide (x1.e.inn - y2.e.base ≤ y2.e.out.length)) = true := hc
        simp only [Bool.and_eq_true, decide_eq_true_eq] at hc
        exact List.eq_nil_of_length_eq_zero (by omega)
/-! ### three rounds -/
theorem Half.knows {a b : Side} {m n : Int} (h : Half a b m n) (hs : a.e.sure = true) : a.e.peer = n := by
  rcases h.peer with hp | hp
  · rw [(h.r.none hp).1] at hs; cases hs
  · exact hp
theorem round_sure {a b : Side} {m n : Int} (h : Half a b m n) (h' : Half b a n m) :
    ∃ a' b', Half a' b' m n ∧ Half b' a' n m ∧ Mono a a' n ∧ Mono b b' m ∧ round (a.e, b.e) = (a'.e, b'.e) ∧ a'.e.sure = true ∧ b'.e.sure = true := by
  have key : ∀ {x y y0 : Side} {mx my : Int}, Half x y mx my → Half y x my mx → Half y0 x my mx ∨ True → Mono y0 y mx → (∀ g ∈ lkTick y0.e, FrOk y mx g) → (y0.e.peer = 0 ∨ y0.e.peer = mx) → LkR y0.e → 
      ∃ x' y', Half x' y' mx my ∧ Half y' x' my mx ∧ Mono x x' my ∧ Mono y y' mx ∧ phase x.e y.e (lkTick y0.e) = (x'.e, y'.e) ∧ (y0.e.sure = false → x'.e.sure = true ∧ y'.e.sure = true) := by
    intro x y y0 mx my k k' _ hM hfl ht hr
    cases hs : y0.e.sure with
    | true =>
      obtain ⟨x', y', r1, r2, r3, r4, r5⟩ := k.phase k' hfl
      exact ⟨x', y', r1, r2, r3, r4, r5, fun e => by cases e⟩
    | false =>
      have e : lkTick y0.e = frPut ⟨1, y.e.mine, y0.e.peer, 0, []⟩ :: datas y0.e 0 y0.e.out := by
        unfold lkTick
        rw [hs, hM.mine]
        rfl
      rw [e] at hfl ⊢
      obtain ⟨x', y', r1, r2, r3, r4, r5, r6, r7⟩ := k.greets k' ht (by rw [hM.mine]; exact right_hello hr) hfl
      exact ⟨x', y', r1, r2, r3, r4, r5, fun _ => ⟨r6, r7⟩⟩
  obtain ⟨a1, b1, r1, r2, r3, r4, r5, r6⟩ := key h h' (.inr trivial) (Mono.refl b m) h'.tickF h'.peer h'.r
  obtain ⟨b2, a2, s1, s2, s3, s4, s5, s6⟩ := key r2 r1 (.inr trivial) r3 (fun g hg => (h.tickF g hg).monoS r3) h.peer h.r
  refine ⟨a2, b2, s2, s1, r3.trans s4, r4.trans s3, ?_, ?_⟩
  · unfold round
    dsimp only
    rw [r5]
    dsimp only
    rw [s5]
  · cases ha : a.e.sure with
    | false => exact ⟨(s6 ha).2, (s6 ha).1⟩
    | true =>
      have ha2 : a2.e.sure = true := (r3.trans s4).sure (h.knows ha) ha
      refine ⟨ha2, ?_⟩
      cases hb : b.e.sure with
      | false => exact s3.sure (r2.knows (r6 hb).2) (r6 hb).2
      | true => exact (r4.trans s3).sure (h'.knows hb) hb
theorem round_data {a b : Side} {m n : Int} (h : Half a b m n) (h' : Half b a n m) (ha : a.e.sure = true) (hb : b.e.sure = true) :
    ∃ a' b', Half a' b' m n ∧ Half b' a' n m ∧ Mono a a' n ∧ Mono b b' m ∧ round (a.e, b.e) = (a'.e, b'.e) ∧ a'.e.out = [] ∧ b'.e.out = [] ∧ a'.e.inn = b.given.length ∧ b'.e.inn = a.given.length := by
  have tick : ∀ {y x : Side} {my mx : Int}, Half y x my mx → y.e.sure = true → lkTick y.e = dataFrs my mx y.e.base.toNat (y.given.drop y.e.base.toNat) := by
    intro y x my mx k hs
    unfold lkTick
    rw [hs, if_pos rfl, List.nil_append, datas_frs _ k.r.base.1, k.mine, k.knows hs, ← k.sent.1]
    rfl
  have c1 := h.count
  have c2 := h'.count
  have b1 := h.r.base
  have b2 := h'.r.base
  have d1 := h.ackd
  have d2 := h'.ackd
  have ta := tick h ha
  have tb := tick h' hb
  obtain ⟨a1, b1', r1, r2, r3, r4, r5, r6, r7⟩ := h.brings h' (h'.knows hb) b.e.base.toNat (by omega) (by omega) (by rw [← tb]; exact h'.tickF)
  have hin := r4.inn
  have hln := r3.len
  obtain ⟨b2', a2, s1, s2, s3, s4, s5, s6, s7⟩ := r2.brings r1 (r3.peer (h.knows ha)) a.e.base.toNat (by omega) (by rw [r3.given]; omega) (by
    rw [r3.given, ← ta]
    exact fun g hg => (h.tickF g hg).monoS r3)
  rw [r3.given] at s5 s6
  refine ⟨a2, b2', s2, s1, r3.trans s4, r4.trans s3, ?_, s7, ?_, ?_, s6⟩
  · unfold round
    dsimp only
    rw [tb, r5]
    dsimp only
    rw [ta, s5]
  · have := s3.len
    rw [r7] at this
    exact List.eq_nil_of_length_eq_zero (by simpa using this)
  · have g1 := s2.got.2
    have g2 := s2.inn
    have g3 := s4.inn
    rw [s3.given, r4.given] at g1
    omega
theorem round_stays {a b : Side} {m n : Int} (h : Half a b m n) (h' : Half b a n m) :
    ∃ a' b', Half a' b' m n ∧ Half b' a' n m ∧ Mono a a' n ∧ Mono b b' m ∧ round (a.e, b.e) = (a'.e, b'.e) := by
  obtain ⟨a1, b1, r1, r2, r3, r4, r5⟩ := h.phase h' h'.tickF
  obtain ⟨b2, a2, s1, s2, s3, s4, s5⟩ := r2.phase r1 (fun g hg => (h.tickF g hg).monoS r3)
  refine ⟨a2, b2, s2, s1, r3.trans s4, r4.trans s3, ?_⟩
  unfold round
  dsimp only
  rw [r5]
  dsimp only
  rw [s5]
theorem three_rounds {a b : Side} {m n : Int} (h : Half a b m n) (h' : Half b a n m) :
    (round (round (round (a.e, b.e)))).1.peer = n ∧ (round (round (round (a.e, b.e)))).2.peer = m ∧ (round (round (round (a.e, b.e)))).1.sure = true ∧ (round (round (round (a.e, b.e)))).2.sure = true ∧
    (round (round (round (a.e, b.e)))).1.out = [] ∧ (round (round (round (a.e, b.e)))).2.out = [] ∧ (round (round (round (a.e, b.e)))).1.inn = b.given.length ∧ (round (round (round (a.e, b.e)))).2.inn = a.given.length := by
  obtain ⟨a1, b1, r1, r2, r3, r4, r5, r6, r7⟩ := round_sure h h'
  obtain ⟨a2, b2, s1, s2, s3, s4, s5, s6, s7, s8, s9⟩ := round_data r1 r2 r6 r7
  obtain ⟨a3, b3, t1, t2, t3, t4, t5⟩ := round_stays s1 s2
  rw [r5, s5, t5]
  dsimp only
  have pa := r1.knows r6
  have pb := r2.knows r7
  have pa2 := s3.peer pa
  have pb2 := s4.peer pb
  have la := t3.len
  have lb := t4.len
  rw [s6] at la
  rw [s7] at lb
  have i1 := t3.inn
  have i2 := t4.inn
  have g1 := t1.got.2
  have g2 := t2.got.2
  have n1 := t1.inn
  have n2 := t2.inn
  rw [t4.given, s4.given] at g1
  rw [t3.given, s3.given] at g2
  have e1 := r3.given
  have e2 := r4.given
  rw [e1] at s9 g2
  rw [e2] at s8 g1
  refine ⟨t3.peer pa2, t4.peer pb2, t3.sure pa2 (s3.sure pa r6), t4.sure pb2 (s4.sure pb r7), List.eq_nil_of_length_eq_zero (by simpa using la), List.eq_nil_of_length_eq_zero (by simpa using lb), by omega, by omega⟩
end Go.Proofs.Ytdehiohjlbmmdaa
