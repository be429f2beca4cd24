/- Sessions: two ends, and what happens between them: what has come at one end is a beginning of what the other one was given. Plain laws. -/
import Derived.Test.YtdehiohjlbmmdaaHa
set_option linter.unusedSimpArgs false
set_option linter.unusedVariables false
namespace Go.Proofs.Ytdehiohjlbmmdaa
open Go.RowKit Go.Sy
/-- an end, all frames that it sent, what it was given to send, what came -/
structure Side where
  e : Lk
  out : List (List UInt8)
  given : List (List UInt8)
  came : List (List UInt8)
/-- a frame of a's, for the end with epoch n -/
def FrOk (a : Side) (n : Int) (g : List UInt8) : Prop :=
  ∃ f : Fr, frRight f = true ∧ g = frPut f ∧ f.frm = a.e.mine ∧ (f.too = 0 ∨ f.too = n) ∧ (f.too = n → a.e.peer = n) ∧ (f.kind = 2 → a.given[f.num.toNat]? = some f.body) ∧ (f.kind = 3 → f.num ≤ a.e.inn)
structure Half (a b : Side) (m n : Int) : Prop where
  r : LkR a.e
  mine : a.e.mine = m
  peer : a.e.peer = 0 ∨ a.e.peer = n
  none : a.e.peer = 0 → a.given = [] ∧ a.came = []
  sent : a.e.out = a.given.drop a.e.base.toNat ∧ a.e.base.toNat ≤ a.given.length
  inn : a.e.inn = a.came.length
  got : a.came = b.given.take a.came.length ∧ a.came.length ≤ b.given.length
  ackd : a.e.base ≤ b.e.inn
  frames : ∀ g ∈ a.out, FrOk a n g
  sure : a.e.sure = true → b.e.peer = m
theorem FrOk.mono {a a' : Side} {n : Int} {g : List UInt8} (h : FrOk a n g) (hm : a'.e.mine = a.e.mine) (hp : a.e.peer = n → a'.e.peer = n) (hg : a.given <+: a'.given) (hi : a.e.inn ≤ a'.e.inn) : FrOk a' n g := by
  obtain ⟨f, h1, h2, h3, h4, h5, h6, h7⟩ := h
  refine ⟨f, h1, h2, by rw [hm]; exact h3, h4, fun h => hp (h5 h), fun h => ?_, fun h => Int.le_trans (h7 h) hi⟩
  have := h6 h
  obtain ⟨t, ht⟩ := hg
  rw [← ht, List.getElem?_append_left (List.getElem?_eq_some_iff.1 this).1]
  exact this
theorem Half.other {a a' b : Side} {m n : Int} (h : Half b a n m) (hg : a.given <+: a'.given) (hi : a.e.inn ≤ a'.e.inn) (hp : a.e.peer = n → a'.e.peer = n) : Half b a' n m := by
  obtain ⟨t, ht⟩ := hg
  refine { h with got := ?_, ackd := Int.le_trans h.ackd hi, sure := fun hs => hp (h.sure hs) }
  rw [← ht, List.take_append_of_le_length h.got.2]
  exact ⟨h.got.1, by rw [List.length_append]; exact Nat.le_trans h.got.2 (Nat.le_add_right _ _)⟩
section
variable {a b : Side} {m n : Int}
theorem Half.answer (h : Half a b m n) {gs : List (List UInt8)} (hg : ∀ g ∈ gs, FrOk a n g) : Half { a with out := a.out ++ gs } b m n := by
  refine { h with frames := fun g hm => ?_ }
  rcases List.mem_append.1 hm with hm | hm
  · exact h.frames g hm
  · exact hg g hm
theorem Half.hello (h : Half a b m n) : FrOk a n (helloOf a.e) :=
  ⟨_, right_hello h.r, rfl, rfl, h.peer, fun e => e, fun e => by simp at e, fun e => by simp at e⟩
theorem Half.ackF (h : Half a b m n) (hp : a.e.peer ≠ 0) : FrOk a n (ackOf a.e) :=
  ⟨_, right_ack h.r hp, rfl, rfl, h.peer, fun e => e, fun e => by simp at e, fun _ => Int.le_refl _⟩
theorem Half.datas (h : Half a b m n) : ∀ g ∈ datas a.e 0 a.e.out, FrOk a n g := by
  by_cases hp : a.e.peer = 0
  · rw [(h.r.none hp).2.1]
    simp [Go.Proofs.Ytdehiohjlbmmdaa.datas]
  · have key : ∀ (bs : List (List UInt8)) (k : Nat), a.e.out.drop k = bs → ∀ g ∈ Go.Proofs.Ytdehiohjlbmmdaa.datas a.e k bs, FrOk a n g := by
      intro bs
      induction bs with
      | nil => intro k _ g hg; simp [Go.Proofs.Ytdehiohjlbmmdaa.datas] at hg
      | cons x bs ih =>
        intro k hk g hg
        have hx : a.e.out[k]? = some x := by
          have := congrArg (·[0]?) hk
          simpa using this
        have hlt := (List.getElem?_eq_some_iff.1 hx).1
        have hb := h.r.base
        rcases List.mem_cons.1 hg with rfl | hg
        · refine ⟨_, right_data h.r hp (by omega) (h.r.small x (List.mem_of_getElem? hx)), rfl, rfl, h.peer, fun e => e, fun _ => ?_, fun e => by simp at e⟩
          rw [h.sent.1, List.getElem?_drop] at hx
          rw [← hx]
          congr 1
          show (a.e.base + (k : Int)).toNat = _
          omega
        · refine ih (k + 1) ?_ g hg
          rw [← List.drop_drop, hk]
          rfl
    exact key _ 0 rfl
theorem Half.tickF (h : Half a b m n) : ∀ g ∈ lkTick a.e, FrOk a n g := by
  intro g hg
  rcases List.mem_append.1 hg with hg | hg
  · split at hg
    · simp at hg
    · simp at hg; subst hg; exact h.hello
  · exact h.datas g hg
/-! ### the operations -/
def Side.send (a : Side) (body : List UInt8) : Side := if frSend a.e body = [] then { a with e := lkSend a.e body } else ⟨lkSend a.e body, a.out ++ [frSend a.e body], a.given ++ [body], a.came⟩
def Side.tick (a : Side) : Side := { a with out := a.out ++ lkTick a.e }
def Side.take (a : Side) (g : List UInt8) : Side := ⟨lkTake a.e g, a.out ++ outTake a.e g, a.given, if bodyTake a.e g = [] then a.came else a.came ++ [bodyTake a.e g]⟩
theorem Half.send (h : Half a b m n) (h' : Half b a n m) (body : List UInt8) : Half (a.send body) b m n ∧ Half b (a.send body) n m := by
  unfold Side.send
  by_cases hf : frSend a.e body = []
  · rw [if_pos hf, show lkSend a.e body = a.e from if_pos ((frSend_nil _ _ h.r).1 hf)]
    exact ⟨h, h'⟩
  · rw [if_neg hf]
    have hno : ¬ sendNo a.e body = true := fun e => hf ((frSend_nil _ _ h.r).2 e)
    have e1 : lkSend a.e body = { a.e with out := a.e.out ++ [body] } := if_neg hno
    have e2 : frSend a.e body = dataOf a.e a.e.out.length body := if_neg hno
    have hr := h.r.send body
    rw [e1] at hr
    have hn := hno
    simp only [sendNo, Bool.or_eq_true, beq_iff_eq, decide_eq_true_eq, not_or] at hn
    have hp : a.e.peer ≠ 0 := hn.1.1.1.1
    have hright : frRight ⟨2, a.e.mine, a.e.peer, a.e.base + a.e.out.length, body⟩ = true := right_data h.r hp (by omega) (by omega)
    have hb := h.r.base
    have hlen : a.given.length = a.e.base.toNat + a.e.out.length := by
      have := congrArg List.length h.sent.1
      rw [List.length_drop] at this
      have := h.sent.2
      omega
    rw [e1, e2]
    refine ⟨⟨hr, h.mine, h.peer, fun h0 => absurd h0 hp, ⟨?_, ?_⟩, h.inn, h.got, h.ackd, ?_, h.sure⟩, ?_⟩
    · show a.e.out ++ [body] = (a.given ++ [body]).drop a.e.base.toNat
      rw [List.drop_append_of_le_length h.sent.2, ← h.sent.1]
    · show a.e.base.toNat ≤ (a.given ++ [body]).length
      rw [List.length_append]
      exact Nat.le_trans h.sent.2 (Nat.le_add_right _ _)
    · intro g hg
      rcases List.mem_append.1 hg with hg | hg
      · exact (h.frames g hg).mono rfl (fun e => e) (List.prefix_append _ _) (Int.le_refl _)
      · simp at hg
        subst hg
        refine ⟨_, hright, rfl, rfl, h.peer, fun e => e, fun _ => ?_, fun e => by simp at e⟩
        show (a.given ++ [body])[(a.e.base + (a.e.out.length : Int)).toNat]? = some body
        rw [show (a.e.base + (a.e.out.length : Int)).toNat = a.given.length by omega]
        simp
    · exact h'.other (List.prefix_append _ _) (Int.le_refl _) (fun e => e)
theorem Half.tick (h : Half a b m n) (h' : Half b a n m) : Half a.tick b m n ∧ Half b a.tick n m :=
  ⟨h.answer h.tickF, h'.other (List.prefix_refl _) (Int.le_refl _) (fun e => e)⟩
/-- the other one is known now -/
theorem Half.known (h : Half a b m n) (hn : 1 ≤ n ∧ n ≤ 281474976710656) : Half { a with e := { a.e with peer := n } } b m n :=
  ⟨⟨h.r.mine, by show 0 ≤ n ∧ n ≤ _; omega, h.r.out, h.r.base, h.r.inn, h.r.small, fun h0 => by have : n = 0 := h0; omega⟩, h.mine, .inr rfl, fun h0 => by have : n = 0 := h0; omega, h.sent, h.inn, h.got, h.ackd,
    fun g hg => (h.frames g hg).mono rfl (fun _ => rfl) (List.prefix_refl _) (Int.le_refl _), h.sure⟩
theorem Half.sured (h : Half a b m n) (hp : a.e.peer ≠ 0) (hb : b.e.peer = m) : Half { a with e := lkSure a.e } b m n :=
  ⟨h.r.lsure hp, h.mine, h.peer, h.none, h.sent, h.inn, h.got, h.ackd, fun g hg => (h.frames g hg).mono rfl (fun e => e) (List.prefix_refl _) (Int.le_refl _), fun _ => hb⟩
theorem Half.camed (h : Half a b m n) (hp : a.e.peer ≠ 0) {f : Fr} (hc : cameIs a.e f = true) (hf : b.given[f.num.toNat]? = some f.body) : Half { a with e := { a.e with inn := a.e.inn + 1 }, came := a.came ++ [f.body] } b m n := by
  have hr := h.r.came hp f
  rw [show lkCame a.e f = { a.e with inn := a.e.inn + 1 } from if_pos hc] at hr
  simp only [cameIs, Bool.and_eq_true, beq_iff_eq, decide_eq_true_eq] at hc
  have hi := h.inn
  have hnum : f.num.toNat = a.came.length := by omega
  rw [hnum] at hf
  have hlt := (List.getElem?_eq_some_iff.1 hf).1
  refine ⟨hr, h.mine, h.peer, fun h0 => absurd h0 hp, h.sent, ?_, ⟨?_, ?_⟩, h.ackd, fun g hg => (h.frames g hg).mono rfl (fun e => e) (List.prefix_refl _) (by show a.e.inn ≤ a.e.inn + 1; omega), h.sure⟩
  · show a.e.inn + 1 = ((a.came ++ [f.body]).length : Int)
    simp; omega
  · show a.came ++ [f.body] = b.given.take (a.came ++ [f.body]).length
    rw [List.length_append, List.length_singleton, List.take_add_one, hf, ← h.got.1]
    rfl
  · show (a.came ++ [f.body]).length ≤ b.given.length
    rw [List.length_append]; simp; omega
theorem Half.acked (h : Half a b m n) (hp : a.e.peer ≠ 0) {f : Fr} (hc : ackIs a.e f = true) (hf : f.num ≤ b.e.inn) : Half { a with e := { a.e with out := a.e.out.drop (f.num - a.e.base).toNat, base := f.num } } b m n := by
  have hr := h.r.ack hp f
  rw [show lkAck a.e f = { a.e with out := a.e.out.drop (f.num - a.e.base).toNat, base := f.num } from if_pos hc] at hr
  simp only [ackIs, Bool.and_eq_true, decide_eq_true_eq] at hc
  have hb := h.r.base
  have hl := congrArg List.length h.sent.1
  rw [List.length_drop] at hl
  have h2 := h.sent.2
  refine ⟨hr, h.mine, h.peer, fun h0 => absurd h0 hp, ⟨?_, ?_⟩, h.inn, h.got, hf, fun g hg => (h.frames g hg).mono rfl (fun e => e) (List.prefix_refl _) (Int.le_refl _), h.sure⟩
  · show a.e.out.drop (f.num - a.e.base).toNat = a.given.drop f.num.toNat
    rw [h.sent.1, List.drop_drop]
    congr 1
    omega
  · show f.num.toNat ≤ a.given.length
    omega
/-- what taking a frame of the other end's is -/
theorem Half.form (h : Half a b m n) (h' : Half b a n m) {g : List UInt8} {f : Fr} (hr : frRight f = true) (hg : g = frPut f) (hfrm : f.frm = b.e.mine) :
    takeNo a.e g = false ∧ (frGet g).1 = f ∧ lkBase a.e f = { a.e with peer := n } := by
  have hG : frGet g = (f, true) := by rw [hg]; exact frGet_put f hr
  have hn := h'.r.mine
  have hm := h'.mine
  refine ⟨?_, by rw [hG], ?_⟩
  · simp only [takeNo, hG, Bool.not_true, Bool.false_or, decide_eq_false_iff_not]
    rcases h.peer with hp | hp <;> omega
  · rcases h.peer with hp | hp
    · obtain ⟨s1, s2, s3, s4⟩ := h.r.none hp
      unfold lkBase
      rw [if_pos (by omega), show f.frm = n by omega]
      rw [← s1, ← s2]
      conv => lhs; rw [← s3]
      cases a with | mk e _ _ _ => cases e with | mk => simp only at s3 s4 ⊢; subst s3; subst s4; rfl
    · unfold lkBase
      rw [if_neg (by omega), ← hp]
theorem Half.take (h : Half a b m n) (h' : Half b a n m) {g : List UInt8} (hg : FrOk b m g) : Half (a.take g) b m n ∧ Half b (a.take g) n m := by
  obtain ⟨f, h1, h2, h3, h4, h5, h6, h7⟩ := hg
  obtain ⟨hno, hget, hbase⟩ := h.form h' h1 h2 h3
  have hn : 1 ≤ n ∧ n ≤ 281474976710656 := by have := h'.r.mine; rw [h'.mine] at this; exact this
  have hK := h.known hn
  have hKp : ({ a.e with peer := n } : Lk).peer ≠ 0 := by show n ≠ 0; omega
  have hmine := h.mine
  have tk : lkTake a.e g = if f.too = m then lkDone (lkSure { a.e with peer := n }) f else { a.e with peer := n } := by
    unfold lkTake
    simp only [hno, Bool.false_eq_true, if_false, hget, hbase, hmine]
  have ot : outTake a.e g = if f.too = m then outDone (lkSure { a.e with peer := n }) f else if f.kind = 1 then [helloOf { a.e with peer := n }] else [] := by
    unfold outTake
    simp only [hno, Bool.false_eq_true, if_false, hget, hbase, hmine]
  have bt : bodyTake a.e g = if f.too = m then bodyDone (lkSure { a.e with peer := n }) f else [] := by
    unfold bodyTake
    simp only [hno, Bool.false_eq_true, if_false, hget, hbase, hmine]
  unfold Side.take
  rw [tk, ot, bt]
  by_cases ht : f.too = m
  · simp only [if_pos ht]
    have hbp : b.e.peer = m := h5 ht
    have hS := hK.sured hKp hbp
    obtain hk | hk | hk : f.kind = 1 ∨ f.kind = 2 ∨ f.kind = 3 := by
      simp only [frRight, decide_eq_true_eq] at h1
      omega
    · rw [show lkDone (lkSure { a.e with peer := n }) f = lkSure { a.e with peer := n } by simp [lkDone, hk], show outDone (lkSure { a.e with peer := n }) f = [ackOf (lkSure { a.e with peer := n })] by simp [outDone, hk], show bodyDone (lkSure { a.e with peer := n }) f = [] by simp [bodyDone, hk]]
      refine ⟨hS.answer fun g hg => ?_, h'.other (List.prefix_refl _) (Int.le_refl _) fun _ => rfl⟩
      simp at hg; subst hg
      exact hS.ackF hKp
    · rw [show lkDone (lkSure { a.e with peer := n }) f = lkCame (lkSure { a.e with peer := n }) f by simp [lkDone, hk], show outDone (lkSure { a.e with peer := n }) f = [ackOf (lkCame (lkSure { a.e with peer := n }) f)] by simp [outDone, hk]]
      by_cases hc : cameIs (lkSure { a.e with peer := n }) f = true
      · rw [show bodyDone (lkSure { a.e with peer := n }) f = f.body by simp [bodyDone, hk, hc], show lkCame (lkSure { a.e with peer := n }) f = { (lkSure { a.e with peer := n }) with inn := a.e.inn + 1 } from if_pos hc]
        have hbody : f.body ≠ [] := by
          intro e
          simp only [frRight, decide_eq_true_eq, e] at h1
          simp at h1
          omega
        rw [if_neg hbody]
        have hC := hS.camed hKp hc (h6 hk)
        refine ⟨hC.answer fun g hg => ?_, h'.other (List.prefix_refl _) (by show a.e.inn ≤ a.e.inn + 1; omega) fun _ => rfl⟩
        simp at hg; subst hg
        exact hC.ackF hKp
      · rw [show bodyDone (lkSure { a.e with peer := n }) f = [] by simp [bodyDone, hc], show lkCame (lkSure { a.e with peer := n }) f = lkSure { a.e with peer := n } from if_neg hc]
        refine ⟨hS.answer fun g hg => ?_, h'.other (List.prefix_refl _) (Int.le_refl _) fun _ => rfl⟩
        simp at hg; subst hg
        exact hS.ackF hKp
    · rw [show lkDone (lkSure { a.e with peer := n }) f = lkAck (lkSure { a.e with peer := n }) f by simp [lkDone, hk], show outDone (lkSure { a.e with peer := n }) f = [] by simp [outDone, hk], show bodyDone (lkSure { a.e with peer := n }) f = [] by simp [bodyDone, hk]]
      rw [if_pos rfl, List.append_nil]
      by_cases hc : ackIs (lkSure { a.e with peer := n }) f = true
      · rw [show lkAck (lkSure { a.e with peer := n }) f = { (lkSure { a.e with peer := n }) with out := a.e.out.drop (f.num - a.e.base).toNat, base := f.num } from if_pos hc]
        exact ⟨hS.acked hKp hc (h7 hk), h'.other (List.prefix_refl _) (Int.le_refl _) fun _ => rfl⟩
      · rw [show lkAck (lkSure { a.e with peer := n }) f = lkSure { a.e with peer := n } from if_neg hc]
        exact ⟨hS, h'.other (List.prefix_refl _) (Int.le_refl _) fun _ => rfl⟩
  · simp only [if_neg ht]
    by_cases hk : f.kind = 1
    · rw [if_pos hk, if_pos trivial]
      refine ⟨hK.answer fun g hg => ?_, h'.other (List.prefix_refl _) (Int.le_refl _) fun _ => rfl⟩
      simp at hg; subst hg
      exact hK.hello
    · rw [if_neg hk, if_pos trivial, List.append_nil]
      exact ⟨hK, h'.other (List.prefix_refl _) (Int.le_refl _) fun _ => rfl⟩
end
def sideNew (m : Int) : Side := ⟨lkNew m, [], [], []⟩
theorem Half.new {m n : Int} (hm : 1 ≤ m ∧ m ≤ 281474976710656) : Half (sideNew m) (sideNew n) m n :=
  ⟨⟨hm, by simp [sideNew, lkNew], by simp [sideNew, lkNew], by simp [sideNew, lkNew], by simp [sideNew, lkNew], by simp [sideNew, lkNew], fun _ => ⟨rfl, rfl, rfl, rfl⟩⟩, rfl, .inl rfl, fun _ => ⟨rfl, rfl⟩, ⟨rfl, Nat.zero_le _⟩, rfl, ⟨rfl, Nat.zero_le _⟩, Int.le_refl _, fun g hg => (by cases hg), fun h => (by cases h)⟩
/-! ### a script -/
structure OpR where
  what : Int
  at_ : Bool
  i : Nat
  b : List UInt8
/-- an operation of the first end -/
def step1 (a b : Side) (o : OpR) : Side :=
  if o.what = 0 ∨ o.what = 1 then a.send o.b else if o.what = 2 then a.tick else match b.out[o.i % b.out.length]? with | some g => a.take g | none => a
def step (s : Side × Side) (o : OpR) : Side × Side := if o.at_ then (s.1, step1 s.2 s.1 o) else (step1 s.1 s.2 o, s.2)
/-- both halves -/
def Both (s : Side × Side) (m n : Int) : Prop := Half s.1 s.2 m n ∧ Half s.2 s.1 n m
theorem Both.step1 {a b : Side} {m n : Int} (h : Half a b m n) (h' : Half b a n m) (o : OpR) : Half (step1 a b o) b m n ∧ Half b (step1 a b o) n m := by
  unfold Go.Proofs.Ytdehiohjlbmmdaa.step1
  split
  · exact h.send h' o.b
  · split
    · exact h.tick h'
    · split
      · rename_i g hg
        exact h.take h' (h'.frames g (List.mem_of_getElem? hg))
      · exact ⟨h, h'⟩
theorem Both.step {s : Side × Side} {m n : Int} (h : Both s m n) (o : OpR) : Both (step s o) m n := by
  unfold Go.Proofs.Ytdehiohjlbmmdaa.step
  split
  · have := Both.step1 h.2 h.1 o
    exact ⟨this.2, this.1⟩
  · exact Both.step1 h.1 h.2 o
theorem Both.new {m n : Int} (hm : 1 ≤ m ∧ m ≤ 281474976710656) (hn : 1 ≤ n ∧ n ≤ 281474976710656) : Both (sideNew m, sideNew n) m n := ⟨Half.new hm, Half.new hn⟩
end Go.Proofs.Ytdehiohjlbmmdaa
