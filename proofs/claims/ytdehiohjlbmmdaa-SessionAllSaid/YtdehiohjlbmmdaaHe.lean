/- Sessions: three rounds in which all is sent again, and arrives, bring all. Plain laws. -/
import Derived.Test.YtdehiohjlbmmdaaHc
set_option linter.unusedSimpArgs false
set_option linter.unusedVariables false
namespace Go.Proofs.Ytdehiohjlbmmdaa
open Go.RowKit Go.Sy
/-! ### what the rounds do -/
/-- all of a flight arrives: the end, and what it answers -/
def ph1 (x : Lk) (fl : List (List UInt8)) : Lk × List (List UInt8) := fl.foldl (fun p f => (lkTake p.1 f, p.2 ++ outTake p.1 f)) (x, [])
/-- the answers arrive, and the answers to these -/
def ph2 (p : Lk × Lk) (more : List (List UInt8)) : Lk × Lk := more.foldl (fun p f => ((outTake p.2 f).foldl lkTake p.1, lkTake p.2 f)) p
/-- one end's half of a round -/
def phase (x y : Lk) (fl : List (List UInt8)) : Lk × Lk := ph2 ((ph1 x fl).1, y) (ph1 x fl).2
def round (p : Lk × Lk) : Lk × Lk := ((phase (phase p.1 p.2 (lkTick p.2)).2 (phase p.1 p.2 (lkTick p.2)).1 (lkTick p.1)).2, (phase (phase p.1 p.2 (lkTick p.2)).2 (phase p.1 p.2 (lkTick p.2)).1 (lkTick p.1)).1)
/-! ### what stays -/
structure Mono (a a' : Side) (n : Int) : Prop where
  given : a'.given = a.given
  mine : a'.e.mine = a.e.mine
  peer : a.e.peer = n → a'.e.peer = n
  sure : a.e.peer = n → a.e.sure = true → a'.e.sure = true
  inn : a.e.inn ≤ a'.e.inn
  len : a'.e.out.length ≤ a.e.out.length
theorem Mono.refl (a : Side) (n : Int) : Mono a a n := ⟨rfl, rfl, fun h => h, fun _ h => h, Int.le_refl _, Nat.le_refl _⟩
theorem Mono.trans {a b c : Side} {n : Int} (h : Mono a b n) (k : Mono b c n) : Mono a c n :=
  ⟨k.given.trans h.given, k.mine.trans h.mine, fun p => k.peer (h.peer p), fun p s => k.sure (h.peer p) (h.sure p s), Int.le_trans h.inn k.inn, Nat.le_trans k.len h.len⟩
theorem FrOk.monoS {a a' : Side} {n : Int} {g : List UInt8} (h : FrOk a n g) (k : Mono a a' n) : FrOk a' n g := h.mono k.mine k.peer (by rw [k.given]; exact List.prefix_refl _) k.inn
theorem lkDone_inn (y : Lk) (f : Fr) : y.inn ≤ (lkDone y f).inn := by
  unfold lkDone
  split
  · exact Int.le_refl _
  · split
    · unfold lkCame; split
      · show y.inn ≤ y.inn + 1; omega
      · exact Int.le_refl _
    · unfold lkAck; split <;> exact Int.le_refl _
theorem lkDone_len' (l : Lk) (f : Fr) : (lkDone l f).out.length ≤ l.out.length := by
  unfold lkDone
  split
  · exact Nat.le_refl _
  · split
    · unfold lkCame; split <;> exact Nat.le_refl _
    · unfold lkAck; split
      · simp
      · exact Nat.le_refl _
section
variable {a b : Side} {m n : Int}
/-- what taking a frame of the other end's comes to -/
structure Took (a : Side) (m n : Int) (g : List UInt8) (f : Fr) : Prop where
  e : lkTake a.e g = if f.too = m then lkDone (lkSure { a.e with peer := n }) f else { a.e with peer := n }
  o : outTake a.e g = if f.too = m then outDone (lkSure { a.e with peer := n }) f else if f.kind = 1 then [helloOf { a.e with peer := n }] else []
theorem Half.took (h : Half a b m n) (h' : Half b a n m) {g : List UInt8} {f : Fr} (h1 : frRight f = true) (h2 : g = frPut f) (h3 : f.frm = b.e.mine) : Took a m n g f := by
  obtain ⟨hno, hget, hbase⟩ := h.form h' h1 h2 h3
  have hmine := h.mine
  constructor
  · unfold lkTake
    simp only [hno, Bool.false_eq_true, if_false, hget, hbase, hmine]
  · unfold outTake
    simp only [hno, Bool.false_eq_true, if_false, hget, hbase, hmine]
theorem Half.takeM (h : Half a b m n) (h' : Half b a n m) {g : List UInt8} (hg : FrOk b m g) : Mono a (a.take g) n := by
  obtain ⟨f, h1, h2, h3, h4, h5, h6, h7⟩ := hg
  have T := h.took h' h1 h2 h3
  refine ⟨rfl, lkTake_mine _ _, fun _ => ?_, fun hp hs => ?_, ?_, ?_⟩
  · show (lkTake a.e g).peer = n
    rw [T.e]
    split
    · exact (lkDone_peer _ _).1
    · rfl
  · show (lkTake a.e g).sure = true
    rw [T.e]
    split
    · exact (lkDone_peer _ _).2.2
    · exact hs
  · show a.e.inn ≤ (lkTake a.e g).inn
    rw [T.e]
    split
    · exact lkDone_inn (lkSure { a.e with peer := n }) f
    · exact Int.le_refl _
  · show (lkTake a.e g).out.length ≤ a.e.out.length
    rw [T.e]
    split
    · exact lkDone_len' (lkSure { a.e with peer := n }) f
    · exact Nat.le_refl _
/-- all of a flight arrives -/
theorem Half.ph1 : ∀ (fl : List (List UInt8)) {a : Side} (_ : Half a b m n) (_ : Half b a n m) (_ : ∀ g ∈ fl, FrOk b m g) (acc : List (List UInt8)) (_ : ∀ g ∈ acc, FrOk a n g),
    ∃ a', Half a' b m n ∧ Half b a' n m ∧ Mono a a' n ∧ (fl.foldl (fun p f => (lkTake p.1 f, p.2 ++ outTake p.1 f)) (a.e, acc)).1 = a'.e ∧
      ∀ g ∈ (fl.foldl (fun p f => (lkTake p.1 f, p.2 ++ outTake p.1 f)) (a.e, acc)).2, FrOk a' n g
  | [], a, h, h', _, acc, hacc => ⟨a, h, h', Mono.refl a n, rfl, hacc⟩
  | f :: fl, a, h, h', hfl, acc, hacc => by
    have hf := hfl f List.mem_cons_self
    obtain ⟨k1, k2⟩ := h.take h' hf
    have hM := h.takeM h' hf
    obtain ⟨a', r1, r2, r3, r4, r5⟩ := Half.ph1 fl k1 k2 (fun g hg => hfl g (List.mem_cons_of_mem _ hg)) (acc ++ outTake a.e f) (fun g hg => by
      rcases List.mem_append.1 hg with hg | hg
      · exact (hacc g hg).monoS hM
      · exact k1.frames g (List.mem_append.2 (.inr hg)))
    exact ⟨a', r1, r2, hM.trans r3, r4, r5⟩
/-- some frames arrive -/
theorem Half.takes : ∀ (fl : List (List UInt8)) {a : Side} (_ : Half a b m n) (_ : Half b a n m) (_ : ∀ g ∈ fl, FrOk b m g),
    ∃ a', Half a' b m n ∧ Half b a' n m ∧ Mono a a' n ∧ fl.foldl lkTake a.e = a'.e
  | [], a, h, h', _ => ⟨a, h, h', Mono.refl a n, rfl⟩
  | f :: fl, a, h, h', hfl => by
    have hf := hfl f List.mem_cons_self
    obtain ⟨k1, k2⟩ := h.take h' hf
    obtain ⟨a', r1, r2, r3, r4⟩ := Half.takes fl k1 k2 (fun g hg => hfl g (List.mem_cons_of_mem _ hg))
    exact ⟨a', r1, r2, (h.takeM h' hf).trans r3, r4⟩
/-- one answer arrives, and the answers to it -/
theorem Half.back {x y : Side} {mx my : Int} (h : Half x y mx my) (h' : Half y x my mx) {g : List UInt8} (hg : FrOk x my g) :
    ∃ x' y', Half x' y' mx my ∧ Half y' x' my mx ∧ Mono x x' my ∧ Mono y y' mx ∧ (outTake y.e g).foldl lkTake x.e = x'.e ∧ lkTake y.e g = y'.e := by
  obtain ⟨k1, k2⟩ := h'.take h hg
  obtain ⟨x', r1, r2, r3, r4⟩ := Half.takes (outTake y.e g) k2 k1 (fun q hq => k1.frames q (List.mem_append.2 (.inr hq)))
  exact ⟨x', y.take g, r1, r2, r3, h'.takeM h hg, r4, rfl⟩
theorem Half.ph2 : ∀ (more : List (List UInt8)) {x y : Side} {mx my : Int} (_ : Half x y mx my) (_ : Half y x my mx) (_ : ∀ g ∈ more, FrOk x my g),
    ∃ x' y', Half x' y' mx my ∧ Half y' x' my mx ∧ Mono x x' my ∧ Mono y y' mx ∧ Go.Proofs.Ytdehiohjlbmmdaa.ph2 (x.e, y.e) more = (x'.e, y'.e)
  | [], x, y, mx, my, h, h', _ => ⟨x, y, h, h', Mono.refl x my, Mono.refl y mx, rfl⟩
  | f :: more, x, y, mx, my, h, h', hm => by
    obtain ⟨x1, y1, k1, k2, k3, k4, k5, k6⟩ := h.back h' (hm f List.mem_cons_self)
    obtain ⟨x', y', r1, r2, r3, r4, r5⟩ := Half.ph2 more k1 k2 (fun g hg => (hm g (List.mem_cons_of_mem _ hg)).monoS k3)
    refine ⟨x', y', r1, r2, k3.trans r3, k4.trans r4, ?_⟩
    show List.foldl _ ((outTake y.e f).foldl lkTake x.e, lkTake y.e f) more = _
    rw [k5, k6]
    exact r5
/-- a half of a round: all stays that has to -/
theorem Half.phase {x y : Side} {mx my : Int} (h : Half x y mx my) (h' : Half y x my mx) {fl : List (List UInt8)} (hfl : ∀ g ∈ fl, FrOk y mx g) :
    ∃ x' y', Half x' y' mx my ∧ Half y' x' my mx ∧ Mono x x' my ∧ Mono y y' mx ∧ Go.Proofs.Ytdehiohjlbmmdaa.phase x.e y.e fl = (x'.e, y'.e) := by
  obtain ⟨x1, k1, k2, k3, k4, k5⟩ := Half.ph1 fl h h' hfl [] (fun g hg => by cases hg)
  obtain ⟨x', y', r1, r2, r3, r4, r5⟩ := Half.ph2 (Go.Proofs.Ytdehiohjlbmmdaa.ph1 x.e fl).2 k1 k2 k5
  refine ⟨x', y', r1, r2, k3.trans r3, r4, ?_⟩
  unfold Go.Proofs.Ytdehiohjlbmmdaa.phase
  rw [show (Go.Proofs.Ytdehiohjlbmmdaa.ph1 x.e fl).1 = x1.e from k4]
  exact r5
end
/-! ### with a Hello ahead, both know that they are known -/
theorem ph1_cons (x : Lk) (g : List UInt8) (fl : List (List UInt8)) : (ph1 x (g :: fl)).1 = (ph1 (lkTake x g) fl).1 ∧ ∃ rest, (ph1 x (g :: fl)).2 = outTake x g ++ rest := by
  have key : ∀ (fl : List (List UInt8)) (x : Lk) (acc : List (List UInt8)), (fl.foldl (fun p f => (lkTake p.1 f, p.2 ++ outTake p.1 f)) (x, acc)).1 = (fl.foldl (fun p f => (lkTake p.1 f, p.2 ++ outTake p.1 f)) (x, [])).1 ∧
      (fl.foldl (fun p f => (lkTake p.1 f, p.2 ++ outTake p.1 f)) (x, acc)).2 = acc ++ (fl.foldl (fun p f => (lkTake p.1 f, p.2 ++ outTake p.1 f)) (x, [])).2 := by
    intro fl
    induction fl with
    | nil => intro x acc; simp
    | cons f fl ih =>
      intro x acc
      obtain ⟨h1, h2⟩ := ih (lkTake x f) (acc ++ outTake x f)
      obtain ⟨h3, h4⟩ := ih (lkTake x f) ([] ++ outTake x f)
      exact ⟨h1.trans h3.symm, by
        show (List.foldl _ (lkTake x f, acc ++ outTake x f) fl).2 = acc ++ (List.foldl _ (lkTake x f, [] ++ outTake x f) fl).2
        rw [h2, h4]
        simp⟩
  obtain ⟨h1, h2⟩ := key fl (lkTake x g) ([] ++ outTake x g)
  exact ⟨h1, _, by
    show (List.foldl _ (lkTake x g, [] ++ outTake x g) fl).2 = _
    rw [h2, List.nil_append]⟩
theorem ph2_cons (p : Lk × Lk) (g : List UInt8) (more : List (List UInt8)) : ph2 p (g :: more) = ph2 ((outTake p.2 g).foldl lkTake p.1, lkTake p.2 g) more := rfl
theorem Half.greets {x y : Side} {mx my : Int} (h : Half x y mx my) (h' : Half y x my mx) {fl : List (List UInt8)} {t : Int} (ht : t = 0 ∨ t = mx) (hr : frRight ⟨1, y.e.mine, t, 0, []⟩ = true) (hfl : ∀ g ∈ frPut ⟨1, y.e.mine, t, 0, []⟩ :: fl, FrOk y mx g) :
    ∃ x' y', Half x' y' mx my ∧ Half y' x' my mx ∧ Mono x x' my ∧ Mono y y' mx ∧ Go.Proofs.Ytdehiohjlbmmdaa.phase x.e y.e (frPut ⟨1, y.e.mine, t, 0, []⟩ :: fl) = (x'.e, y'.e) ∧ x'.e.sure = true ∧ y'.e.sure = true := by
  have hmx := h.r.mine
  rw [h.mine] at hmx
  have hmy := h'.r.mine
  rw [h'.mine] at hmy
  have hg := hfl _ List.mem_cons_self
  have T := h.took h' hr rfl rfl
  obtain ⟨k1, k2⟩ := h.take h' hg
  have hM := h.takeM h' hg
  obtain ⟨c1, rest, c2⟩ := ph1_cons x.e (frPut ⟨1, y.e.mine, t, 0, []⟩) fl
  obtain ⟨x1, r1, r2, r3, r4, r5⟩ := Half.ph1 fl k1 k2 (fun g hg => hfl g (List.mem_cons_of_mem _ hg)) (outTake x.e (frPut ⟨1, y.e.mine, t, 0, []⟩)) (fun g hg => k1.frames g (List.mem_append.2 (.inr hg)))
  have e2 : (Go.Proofs.Ytdehiohjlbmmdaa.ph1 x.e (frPut ⟨1, y.e.mine, t, 0, []⟩ :: fl)).2 = (fl.foldl (fun p f => (lkTake p.1 f, p.2 ++ outTake p.1 f)) (lkTake x.e (frPut ⟨1, y.e.mine, t, 0, []⟩), outTake x.e (frPut ⟨1, y.e.mine, t, 0, []⟩))).2 := by
    show (List.foldl _ (lkTake x.e _, [] ++ outTake x.e _) fl).2 = _
    rw [List.nil_append]
  have e1 : (Go.Proofs.Ytdehiohjlbmmdaa.ph1 x.e (frPut ⟨1, y.e.mine, t, 0, []⟩ :: fl)).1 = x1.e := by
    rw [← r4]
    show (List.foldl _ (lkTake x.e _, [] ++ outTake x.e _) fl).1 = _
    rw [List.nil_append]
    rfl
  replace r5 : ∀ g ∈ (Go.Proofs.Ytdehiohjlbmmdaa.ph1 x.e (frPut ⟨1, y.e.mine, t, 0, []⟩ :: fl)).2, FrOk x1 my g := by
    rw [e2]
    exact r5
  unfold Go.Proofs.Ytdehiohjlbmmdaa.phase
  rw [e1]
  -- the first answer
  by_cases htm : t = mx
  · have hy : y.e.peer = mx := by
      obtain ⟨f, q1, q2, q3, q4, q5, q6, q7⟩ := hg
      have : f = ⟨1, y.e.mine, t, 0, []⟩ := (frPut_inj hr q1 q2).symm
      subst this
      exact q5 htm
    have ho : outTake x.e (frPut ⟨1, y.e.mine, t, 0, []⟩) = [ackOf (lkSure { x.e with peer := my })] := by
      rw [T.o, if_pos htm]
      simp [outDone]
    have hxs : x1.e.sure = true := by
      have hp : (x.take (frPut ⟨1, y.e.mine, t, 0, []⟩)).e.peer = my := by
        show (lkTake x.e _).peer = my
        rw [T.e, if_pos htm]
        exact (lkDone_peer _ _).1
      refine r3.sure hp ?_
      show (lkTake x.e _).sure = true
      rw [T.e, if_pos htm]
      exact (lkDone_peer _ _).2.2
    have hxp : x1.e.peer = my := by
      refine r3.peer ?_
      show (lkTake x.e _).peer = my
      rw [T.e, if_pos htm]
      exact (lkDone_peer _ _).1
    rw [c2, ho] at r5 ⊢
    rw [show [ackOf (lkSure { x.e with peer := my })] ++ rest = ackOf (lkSure { x.e with peer := my }) :: rest from rfl] at r5 ⊢
    rw [ph2_cons]
    have hq := r5 _ List.mem_cons_self
    obtain ⟨x2, y2, s1, s2, s3, s4, s5, s6⟩ := r1.back r2 hq
    have hy2 : y2.e.sure = true := by
      obtain ⟨f, q1, q2, q3, q4, q5, q6, q7⟩ := hq
      have hra : frRight ⟨3, x.e.mine, my, x.e.inn, []⟩ = true := right_ack (l := lkSure { x.e with peer := my }) ((h.known hmy).sured (by show my ≠ 0; omega) hy).r (by show my ≠ 0; omega)
      have : f = ⟨3, x.e.mine, my, x.e.inn, []⟩ := (frPut_inj hra q1 q2).symm
      subst this
      have T2 := r2.took r1 q1 q2 q3
      rw [← s6, T2.e, if_pos rfl]
      exact (lkDone_peer _ _).2.2
    dsimp only
    rw [s5, s6]
    obtain ⟨x', y', u1, u2, u3, u4, u5⟩ := Half.ph2 rest s1 s2 (fun g hg => (r5 g (List.mem_cons_of_mem _ hg)).monoS s3)
    have hy2p : y2.e.peer = mx := s4.peer hy
    exact ⟨x', y', u1, u2, (hM.trans r3).trans (s3.trans u3), s4.trans u4, u5, u3.sure (s3.peer hxp) (s3.sure hxp hxs), u4.sure hy2p hy2⟩
  · have ht0 : t = 0 := by omega
    have ho : outTake x.e (frPut ⟨1, y.e.mine, t, 0, []⟩) = [helloOf { x.e with peer := my }] := by
      rw [T.o, if_neg htm]
      simp
    have hxp : x1.e.peer = my := by
      refine r3.peer ?_
      show (lkTake x.e _).peer = my
      rw [T.e, if_neg htm]
    rw [c2, ho] at r5 ⊢
    rw [show [helloOf { x.e with peer := my }] ++ rest = helloOf { x.e with peer := my } :: rest from rfl] at r5 ⊢
    rw [ph2_cons]
    have hq := r5 _ List.mem_cons_self
    have hrh : frRight ⟨1, x.e.mine, my, 0, []⟩ = true := right_hello (l := { x.e with peer := my }) (h.known hmy).r
    obtain ⟨w1, w2⟩ := r2.take r1 hq
    have T2 := r2.took r1 hrh rfl (by rw [show (Fr.frm ⟨1, x.e.mine, my, 0, []⟩) = x.e.mine from rfl]; exact ((hM.trans r3).mine).symm)
    have hye : lkTake y.e (helloOf { x.e with peer := my }) = lkSure { y.e with peer := mx } := by
      show lkTake y.e (frPut ⟨1, x.e.mine, my, 0, []⟩) = _
      rw [T2.e, if_pos rfl]
      simp [lkDone]
    have hyo : outTake y.e (helloOf { x.e with peer := my }) = [ackOf (lkSure { y.e with peer := mx })] := by
      show outTake y.e (frPut ⟨1, x.e.mine, my, 0, []⟩) = _
      rw [T2.o, if_pos rfl]
      simp [outDone]
    -- the answer to the answer
    have hqa : FrOk (y.take (helloOf { x.e with peer := my })) mx (ackOf (lkSure { y.e with peer := mx })) := w1.frames _ (List.mem_append.2 (.inr (by rw [hyo]; exact List.mem_cons_self)))
    have hra : frRight ⟨3, y.e.mine, mx, y.e.inn, []⟩ = true := by
      have := right_ack w1.r (by show (lkTake y.e _).peer ≠ 0; rw [hye]; show mx ≠ 0; omega)
      rw [show (y.take (helloOf { x.e with peer := my })).e = lkSure { y.e with peer := mx } from hye] at this
      exact this
    have T3 := w2.took w1 hra rfl (by
      show y.e.mine = (lkTake y.e _).mine
      rw [lkTake_mine])
    obtain ⟨v1, v2⟩ := w2.take w1 hqa
    have vM := w2.takeM w1 hqa
    have hxe : (outTake y.e (helloOf { x.e with peer := my })).foldl lkTake x1.e = (x1.take (ackOf (lkSure { y.e with peer := mx }))).e := by
      rw [hyo]
      rfl
    have hxs : (x1.take (ackOf (lkSure { y.e with peer := mx }))).e.sure = true := by
      show (lkTake x1.e (frPut ⟨3, y.e.mine, mx, y.e.inn, []⟩)).sure = true
      rw [T3.e, if_pos rfl]
      exact (lkDone_peer _ _).2.2
    dsimp only
    rw [hxe]
    rw [show lkTake y.e (helloOf { x.e with peer := my }) = (y.take (helloOf { x.e with peer := my })).e from rfl]
    obtain ⟨x', y', u1, u2, u3, u4, u5⟩ := Half.ph2 rest v1 v2 (fun g hg => (r5 g (List.mem_cons_of_mem _ hg)).monoS vM)
    have hyM := r2.takeM r1 hq
    have hyp : (y.take (helloOf { x.e with peer := my })).e.peer = mx := by
      show (lkTake y.e _).peer = mx
      rw [hye]
      rfl
    have hys : (y.take (helloOf { x.e with peer := my })).e.sure = true := by
      show (lkTake y.e _).sure = true
      rw [hye]
      rfl
    exact ⟨x', y', u1, u2, (hM.trans r3).trans (vM.trans u3), hyM.trans u4, u5, u3.sure (vM.peer hxp) hxs, u4.sure hyp hys⟩
end Go.Proofs.Ytdehiohjlbmmdaa
