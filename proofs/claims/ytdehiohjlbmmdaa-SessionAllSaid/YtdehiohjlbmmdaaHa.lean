/- Sessions: plain laws: what is right stays right; frames; bytes that arrive twice; what is sent. -/
import Derived.Test.YtdehiohjlbmmdaaG9
set_option linter.unusedSimpArgs false
set_option linter.unusedVariables false
namespace Go.Proofs.Ytdehiohjlbmmdaa
open Go.RowKit Go.Sy
/-- a right link -/
structure LkR (l : Lk) : Prop where
  mine : 1 ≤ l.mine ∧ l.mine ≤ 281474976710656
  peer : 0 ≤ l.peer ∧ l.peer ≤ 281474976710656
  out : l.out.length ≤ 1024
  base : 0 ≤ l.base ∧ l.base + l.out.length ≤ 1073741824
  inn : 0 ≤ l.inn ∧ l.inn ≤ 1073741824
  small : ∀ b ∈ l.out, 1 ≤ b.length ∧ b.length ≤ 50
  none : l.peer = 0 → l.sure = false ∧ l.out = [] ∧ l.base = 0 ∧ l.inn = 0
theorem lkRight_iff {l : Lk} : lkRight l = true ↔ LkR l := by
  constructor
  · intro h
    simp only [lkRight, Bool.and_eq_true, Bool.not_eq_true', rightA, Bool.or_eq_false_iff, decide_eq_false_iff_not, List.all_eq_true] at h
    obtain ⟨⟨hA, hall⟩, hB⟩ := h
    refine ⟨by omega, by omega, by omega, by omega, by omega, fun b hb => ?_, fun hp => ?_⟩
    · have := hall b hb
      simp only [bodyBad, Bool.or_eq_false_iff, decide_eq_false_iff_not] at this
      omega
    · simp only [rightB, hp, bne_self_eq_false, Bool.false_or, Bool.and_eq_true, Bool.not_eq_true', beq_iff_eq] at hB
      obtain ⟨⟨⟨h1, h2⟩, h3⟩, h4⟩ := hB
      exact ⟨h1, List.eq_nil_of_length_eq_zero (by omega), h3, h4⟩
  · intro h
    obtain ⟨h1, h2, h3, h4, h5, h6, h7⟩ := h
    simp only [lkRight, Bool.and_eq_true, Bool.not_eq_true', rightA, Bool.or_eq_false_iff, decide_eq_false_iff_not, List.all_eq_true]
    refine ⟨⟨by omega, fun b hb => ?_⟩, ?_⟩
    · have := h6 b hb
      simp only [bodyBad, Bool.or_eq_false_iff, decide_eq_false_iff_not]
      omega
    · simp only [rightB, Bool.or_eq_true, bne_iff_ne]
      by_cases hp : l.peer = 0
      · obtain ⟨a, b, c, d⟩ := h7 hp
        right
        simp [a, b, c, d]
      · exact .inl hp
theorem LkR.send {l : Lk} (h : LkR l) (body : List UInt8) : LkR (lkSend l body) := by
  unfold lkSend
  split
  · exact h
  · rename_i hn
    obtain ⟨h1, h2, h3, h4, h5, h6, h7⟩ := h
    simp only [sendNo, Bool.or_eq_true, beq_iff_eq, decide_eq_true_eq, not_or] at hn
    refine ⟨h1, h2, ?_, ?_, h5, ?_, fun hp => absurd hp hn.1.1.1.1⟩
    · simp; omega
    · simp; omega
    · intro b hb
      rcases List.mem_append.1 hb with hb | hb
      · exact h6 b hb
      · simp at hb; subst hb; omega
theorem LkR.lbase {l : Lk} (h : LkR l) {f : Fr} (hf : 1 ≤ f.frm ∧ f.frm ≤ 281474976710656) : LkR (lkBase l f) := by
  unfold lkBase
  split
  · exact ⟨h.mine, by simp; omega, by simp, by simp, by simp, by simp, fun hp => by simp at hp; omega⟩
  · exact h
theorem lkBase_peer {l : Lk} {f : Fr} (h : ¬ f.frm < l.peer) : (lkBase l f).peer = f.frm := by
  unfold lkBase
  split
  · rfl
  · omega
theorem LkR.lsure {l : Lk} (h : LkR l) (hp : l.peer ≠ 0) : LkR (lkSure l) := ⟨h.mine, h.peer, h.out, h.base, h.inn, h.small, fun h0 => absurd h0 hp⟩
theorem LkR.came {l : Lk} (h : LkR l) (hp : l.peer ≠ 0) (f : Fr) : LkR (lkCame l f) := by
  unfold lkCame
  split
  · rename_i hc
    simp only [cameIs, Bool.and_eq_true, decide_eq_true_eq] at hc
    have := h.inn
    exact ⟨h.mine, h.peer, h.out, h.base, by simp; omega, h.small, fun h0 => absurd h0 hp⟩
  · exact h
theorem LkR.ack {l : Lk} (h : LkR l) (hp : l.peer ≠ 0) (f : Fr) : LkR (lkAck l f) := by
  unfold lkAck
  split
  · rename_i hc
    simp only [ackIs, Bool.and_eq_true, decide_eq_true_eq] at hc
    have h3 := h.out
    have h4 := h.base
    exact ⟨h.mine, h.peer, by simp; omega, by simp; omega, h.inn, fun b hb => h.small b (List.mem_of_mem_drop hb), fun h0 => absurd h0 hp⟩
  · exact h
theorem lkCame_peer (l : Lk) (f : Fr) : (lkCame l f).peer = l.peer ∧ (lkCame l f).mine = l.mine ∧ (lkCame l f).sure = l.sure := by unfold lkCame; split <;> exact ⟨rfl, rfl, rfl⟩
theorem lkAck_peer (l : Lk) (f : Fr) : (lkAck l f).peer = l.peer ∧ (lkAck l f).mine = l.mine ∧ (lkAck l f).sure = l.sure := by unfold lkAck; split <;> exact ⟨rfl, rfl, rfl⟩
theorem lkDone_peer (l : Lk) (f : Fr) : (lkDone l f).peer = l.peer ∧ (lkDone l f).mine = l.mine ∧ (lkDone l f).sure = l.sure := by
  unfold lkDone
  split
  · exact ⟨rfl, rfl, rfl⟩
  · split
    · exact lkCame_peer l f
    · exact lkAck_peer l f
theorem LkR.done {l : Lk} (h : LkR l) (hp : l.peer ≠ 0) (f : Fr) : LkR (lkDone l f) := by
  unfold lkDone
  split
  · exact h
  · split
    · exact h.came hp f
    · exact h.ack hp f
theorem lkSend_same (l : Lk) (body : List UInt8) : (lkSend l body).mine = l.mine ∧ (lkSend l body).peer = l.peer ∧ (lkSend l body).sure = l.sure ∧ (lkSend l body).base = l.base ∧ (lkSend l body).inn = l.inn := by unfold lkSend; split <;> exact ⟨rfl, rfl, rfl, rfl, rfl⟩
/-- what is known of a frame that is taken -/
theorem take_known {l : Lk} {b : List UInt8} (h : takeNo l b = false) : (frGet b).2 = true ∧ frRight (frGet b).1 = true ∧ (1 ≤ (frGet b).1.frm ∧ (frGet b).1.frm ≤ 281474976710656) ∧ ¬ (frGet b).1.frm < l.peer := by
  simp only [takeNo, Bool.or_eq_false_iff, Bool.not_eq_false', decide_eq_false_iff_not] at h
  have hr := (frPut_get b h.1).1
  refine ⟨h.1, hr, ?_, h.2⟩
  simp only [frRight, decide_eq_true_eq] at hr
  omega
theorem LkR.take {l : Lk} (h : LkR l) (b : List UInt8) : LkR (lkTake l b) := by
  unfold lkTake
  split
  · exact h
  · rename_i hn
    obtain ⟨_, _, hf, hlt⟩ := take_known (by simpa using hn)
    have hp : (lkBase l (frGet b).1).peer ≠ 0 := by rw [lkBase_peer hlt]; omega
    split
    · exact ((h.lbase hf).lsure hp).done hp _
    · exact h.lbase hf
theorem lkTake_mine (l : Lk) (b : List UInt8) : (lkTake l b).mine = l.mine := by
  unfold lkTake
  split
  · rfl
  · split
    · rw [(lkDone_peer _ _).2.1]; exact lkBase_mine l _
    · exact lkBase_mine l _
theorem lkTake_peer {l : Lk} {b : List UInt8} (h : takeNo l b = false) : (lkTake l b).peer = (frGet b).1.frm := by
  have hlt := (take_known h).2.2.2
  unfold lkTake
  rw [h, if_neg (by simp)]
  split
  · rw [(lkDone_peer _ _).1]; exact lkBase_peer hlt
  · exact lkBase_peer hlt
theorem lkTake_peer_ge (l : Lk) (b : List UInt8) : l.peer ≤ (lkTake l b).peer := by
  cases h : takeNo l b with
  | true => unfold lkTake; rw [h, if_pos rfl]; exact Int.le_refl _
  | false => rw [lkTake_peer h]; have := (take_known h).2.2.2; omega
theorem bodyTake_small (l : Lk) (b : List UInt8) : (bodyTake l b).length ≤ 50 := by
  unfold bodyTake
  split
  · simp
  · rename_i hn
    obtain ⟨_, hr, _⟩ := take_known (by simpa using hn)
    split
    · unfold bodyDone
      split
      · rename_i hk
        simp only [frRight, decide_eq_true_eq] at hr
        omega
      · simp
    · simp
/-! ### frames -/
theorem right_hello {l : Lk} (h : LkR l) : frRight ⟨1, l.mine, l.peer, 0, []⟩ = true := by
  have h1 := h.mine
  have h2 := h.peer
  simp [frRight]
  omega
theorem right_ack {l : Lk} (h : LkR l) (hp : l.peer ≠ 0) : frRight ⟨3, l.mine, l.peer, l.inn, []⟩ = true := by
  have h1 := h.mine
  have h2 := h.peer
  have h3 := h.inn
  simp [frRight]
  omega
theorem right_data {l : Lk} (h : LkR l) (hp : l.peer ≠ 0) {k : Nat} {b : List UInt8} (hk : l.base + k ≤ 1073741824) (hb : 1 ≤ b.length ∧ b.length ≤ 50) : frRight ⟨2, l.mine, l.peer, l.base + k, b⟩ = true := by
  have h1 := h.mine
  have h2 := h.peer
  have h3 := h.base
  simp [frRight]
  omega
/-- a frame of one's own -/
def OwnFr (m : Int) (g : List UInt8) : Prop := (frGet g).2 = true ∧ (frGet g).1.frm = m
theorem OwnFr.of {f : Fr} (h : frRight f = true) : OwnFr f.frm (frPut f) := by
  unfold OwnFr
  rw [frGet_put f h]
  exact ⟨rfl, rfl⟩
theorem datas_own {l : Lk} (h : LkR l) (hp : l.peer ≠ 0) : ∀ (bs : List (List UInt8)) (k : Nat), l.base + k + bs.length ≤ 1073741824 + 1 → (∀ b ∈ bs, 1 ≤ b.length ∧ b.length ≤ 50) → ∀ g ∈ datas l k bs, OwnFr l.mine g
  | [], _, _, _, g, hg => by simp [datas] at hg
  | b :: bs, k, hk, hb, g, hg => by
    rcases List.mem_cons.1 hg with rfl | hg
    · exact OwnFr.of (right_data h hp (by simp at hk; omega) (hb b List.mem_cons_self))
    · exact datas_own h hp bs (k + 1) (by simp at hk ⊢; omega) (fun b hb' => hb b (List.mem_cons_of_mem _ hb')) g hg
theorem lkTick_own {l : Lk} (h : LkR l) : ∀ g ∈ lkTick l, OwnFr l.mine g := by
  intro g hg
  rcases List.mem_append.1 hg with hg | hg
  · split at hg
    · simp at hg
    · simp at hg; subst hg; exact OwnFr.of (right_hello h)
  · by_cases hp : l.peer = 0
    · rw [(h.none hp).2.1] at hg; simp [datas] at hg
    · exact datas_own h hp l.out 0 (by have := h.base; simp; omega) h.small g hg
theorem outTake_own {l : Lk} (h : LkR l) (b : List UInt8) : ∀ g ∈ outTake l b, OwnFr l.mine g := by
  intro g hg
  unfold outTake at hg
  split at hg
  · simp at hg
  · rename_i hn
    obtain ⟨_, _, hf, hlt⟩ := take_known (by simpa using hn)
    have hp : (lkBase l (frGet b).1).peer ≠ 0 := by rw [lkBase_peer hlt]; omega
    have hB := h.lbase hf
    have hS := hB.lsure hp
    split at hg
    · unfold outDone at hg
      split at hg
      · simp at hg; subst hg
        have := OwnFr.of (right_ack hS hp)
        rwa [show (Fr.frm ⟨3, (lkSure (lkBase l (frGet b).1)).mine, _, _, []⟩) = l.mine from lkBase_mine l _] at this
      · split at hg
        · simp at hg; subst hg
          have hC := hS.came hp (frGet b).1
          have := OwnFr.of (right_ack hC (by rw [(lkCame_peer _ _).1]; exact hp))
          rwa [show (Fr.frm ⟨3, (lkCame (lkSure (lkBase l (frGet b).1)) (frGet b).1).mine, _, _, []⟩) = l.mine from (lkCame_peer _ _).2.1.trans (lkBase_mine l _)] at this
        · simp at hg
    · split at hg
      · simp at hg; subst hg
        have := OwnFr.of (right_hello hB)
        rwa [show (Fr.frm ⟨1, (lkBase l (frGet b).1).mine, _, 0, []⟩) = l.mine from lkBase_mine l _] at this
      · simp at hg
theorem frSend_own {l : Lk} (h : LkR l) (body : List UInt8) (hne : frSend l body ≠ []) : OwnFr l.mine (frSend l body) := by
  unfold frSend at hne ⊢
  split
  · rename_i hn; rw [if_pos hn] at hne; exact absurd rfl hne
  · rename_i hn
    simp only [sendNo, Bool.or_eq_true, beq_iff_eq, decide_eq_true_eq, not_or] at hn
    exact OwnFr.of (right_data h hn.1.1.1.1 (by omega) (by omega))
theorem frPut_ne {f : Fr} (h : frRight f = true) : frPut f ≠ [] := by
  intro e
  have := frPut_len h
  rw [e, List.length_nil] at this
  omega
theorem frSend_nil (l : Lk) (body : List UInt8) (h : LkR l) : frSend l body = [] ↔ sendNo l body = true := by
  unfold frSend
  split
  · rename_i hn; simp [hn]
  · rename_i hn
    simp only [hn, iff_false, Bool.false_eq_true]
    simp only [sendNo, Bool.or_eq_true, beq_iff_eq, decide_eq_true_eq, not_or] at hn
    exact frPut_ne (right_data h hn.1.1.1.1 (by omega) (by omega))
/-! ### twice -/
theorem lkBase_self {l : Lk} {f : Fr} (h : l.peer = f.frm) : lkBase l f = l := by
  unfold lkBase
  rw [if_neg (by omega)]
theorem came_twice (y : Lk) (f : Fr) : cameIs (lkCame y f) f = false := by
  by_cases h : cameIs y f = true
  · have e : lkCame y f = { y with inn := y.inn + 1 } := if_pos h
    rw [e]
    simp only [cameIs, Bool.and_eq_true, beq_iff_eq, decide_eq_true_eq] at h
    simp only [cameIs, Bool.and_eq_false_iff, beq_eq_false_iff_ne]
    left
    show f.num ≠ y.inn + 1
    omega
  · have e : lkCame y f = y := if_neg h
    rw [e]
    simpa using h
theorem ack_twice (y : Lk) (f : Fr) : ackIs (lkAck y f) f = false := by
  by_cases h : ackIs y f = true
  · have e : lkAck y f = { y with out := y.out.drop (f.num - y.base).toNat, base := f.num } := if_pos h
    rw [e]
    simp [ackIs]
  · have e : lkAck y f = y := if_neg h
    rw [e]
    simpa using h
theorem done_sure (y : Lk) (f : Fr) (h : y.sure = true) : lkSure (lkDone y f) = lkDone y f := by
  have : (lkDone y f).sure = true := (lkDone_peer y f).2.2.trans h
  unfold lkSure
  rw [← this]
theorem done_twice (y : Lk) (f : Fr) : lkDone (lkDone y f) f = lkDone y f ∧ outDone (lkDone y f) f = outDone y f ∧ bodyDone (lkDone y f) f = [] := by
  unfold lkDone outDone bodyDone
  by_cases h1 : f.kind = 1
  · simp [h1]
  · by_cases h2 : f.kind = 2
    · have hc := came_twice y f
      have e : lkCame (lkCame y f) f = lkCame y f := if_neg (by rw [hc]; simp)
      simp [h2, e, hc]
    · have hc := ack_twice y f
      have e : lkAck (lkAck y f) f = lkAck y f := if_neg (by rw [hc]; simp)
      simp [h1, h2, e]
theorem take_twice (l : Lk) (b : List UInt8) : lkTake (lkTake l b) b = lkTake l b ∧ outTake (lkTake l b) b = outTake l b ∧ bodyTake (lkTake l b) b = [] ∧ anewTake (lkTake l b) b = false := by
  cases h : takeNo l b with
  | true =>
    have e : lkTake l b = l := by unfold lkTake; rw [h, if_pos rfl]
    rw [e]
    refine ⟨e, rfl, ?_, ?_⟩
    · unfold bodyTake; rw [h, if_pos rfl]
    · unfold anewTake; rw [h, if_pos rfl]
  | false =>
    obtain ⟨hg, hr, hf, hlt⟩ := take_known h
    have hp := lkTake_peer h
    have hm := lkTake_mine l b
    have hno : takeNo (lkTake l b) b = false := by
      simp only [takeNo, hg, hp, Bool.not_true, Bool.false_or, decide_eq_false_iff_not]
      omega
    have hb : lkBase (lkTake l b) (frGet b).1 = lkTake l b := lkBase_self hp
    have ha : anewTake (lkTake l b) b = false := by
      unfold anewTake
      rw [hno, if_neg (by simp), hp]
      simp
    refine ⟨?_, ?_, ?_, ha⟩
    · rw [show lkTake (lkTake l b) b = if takeNo (lkTake l b) b then lkTake l b else if (frGet b).1.too = (lkTake l b).mine then lkDone (lkSure (lkBase (lkTake l b) (frGet b).1)) (frGet b).1 else lkBase (lkTake l b) (frGet b).1 from rfl]
      simp only [hno, Bool.false_eq_true, if_false, hm, hb]
      by_cases ht : (frGet b).1.too = l.mine
      · rw [if_pos ht]
        have e : lkTake l b = lkDone (lkSure (lkBase l (frGet b).1)) (frGet b).1 := by
          unfold lkTake
          rw [h, if_neg (by simp), if_pos ht]
        rw [e, done_sure _ _ rfl]
        exact (done_twice _ _).1
      · rw [if_neg ht]
    · rw [show outTake (lkTake l b) b = if takeNo (lkTake l b) b then [] else if (frGet b).1.too = (lkTake l b).mine then outDone (lkSure (lkBase (lkTake l b) (frGet b).1)) (frGet b).1 else if (frGet b).1.kind = 1 then [helloOf (lkBase (lkTake l b) (frGet b).1)] else [] from rfl]
      simp only [hno, Bool.false_eq_true, if_false, hm, hb]
      by_cases ht : (frGet b).1.too = l.mine
      · rw [if_pos ht]
        have e : lkTake l b = lkDone (lkSure (lkBase l (frGet b).1)) (frGet b).1 := by
          unfold lkTake
          rw [h, if_neg (by simp), if_pos ht]
        rw [e, done_sure _ _ rfl, (done_twice _ _).2.1]
        unfold outTake
        simp only [h, Bool.false_eq_true, if_false, if_pos ht]
      · rw [if_neg ht]
        have e : lkTake l b = lkBase l (frGet b).1 := by
          unfold lkTake
          rw [h, if_neg (by simp), if_neg ht]
        rw [e]
        unfold outTake
        simp only [h, Bool.false_eq_true, if_false, if_neg ht]
    · unfold bodyTake
      simp only [hno, Bool.false_eq_true, if_false, hm, hb]
      by_cases ht : (frGet b).1.too = l.mine
      · rw [if_pos ht]
        have e : lkTake l b = lkDone (lkSure (lkBase l (frGet b).1)) (frGet b).1 := by
          unfold lkTake
          rw [h, if_neg (by simp), if_pos ht]
        rw [e, done_sure _ _ rfl, (done_twice _ _).2.2]
      · rw [if_neg ht]
end Go.Proofs.Ytdehiohjlbmmdaa
