/- The law SessionSends, walked: for every link and all rows of bytes it returns true. -/
import Derived.Test.YtdehiohjlbmmdaaHb
set_option linter.unusedSimpArgs false
set_option linter.unusedVariables false
namespace Go.Proofs.Ytdehiohjlbmmdaa
open Go.RowKit Go.Sy
def sendStep (p : Lk × List (List UInt8)) (b : List UInt8) : Lk × List (List UInt8) := (lkSend p.1 b, if frSend p.1 b = [] then p.2 else p.2 ++ [frSend p.1 b])
def sends (l : Lk) (bs : List (List UInt8)) : Lk × List (List UInt8) := bs.foldl sendStep (l, [])
theorem sends_snoc (l : Lk) {bs : List (List UInt8)} {i : Nat} {b : List UInt8} (h : bs[i]? = some b) : sends l (bs.take (i + 1)) = sendStep (sends l (bs.take i)) b := by
  unfold sends
  rw [List.take_add_one, h, List.foldl_append]
  rfl
/-- what holds of what was sent -/
structure SentI (l x : Lk) (out : List (List UInt8)) (i : Nat) : Prop where
  r : LkR x
  mine : x.mine = l.mine
  peer : x.peer = l.peer
  sure : x.sure = l.sure
  base : x.base = l.base
  tick : lkTick x = lkTick l ++ out
  len : x.out.length = l.out.length + out.length
  many : out.length ≤ i
  each : ∀ g ∈ out, ∃ q b, q < x.base + x.out.length ∧ frRight ⟨2, x.mine, x.peer, q, b⟩ = true ∧ g = frPut ⟨2, x.mine, x.peer, q, b⟩
theorem SentI.start {l : Lk} (h : LkR l) : SentI l l [] 0 := ⟨h, rfl, rfl, rfl, rfl, by simp, by simp, by simp, by simp⟩
theorem SentI.skip {l x : Lk} {out : List (List UInt8)} {i : Nat} (h : SentI l x out i) {b : List UInt8} (hf : frSend x b = []) : lkSend x b = x ∧ SentI l x out (i + 1) := by
  have := (frSend_nil x b h.r).1 hf
  exact ⟨if_pos this, { h with many := Nat.le_succ_of_le h.many }⟩
theorem SentI.more {l x : Lk} {out : List (List UInt8)} {i : Nat} (h : SentI l x out i) {b : List UInt8} (hf : frSend x b ≠ []) : SentI l (lkSend x b) (out ++ [frSend x b]) (i + 1) ∧ ∀ g ∈ out, g ≠ frSend x b := by
  have hno : ¬ sendNo x b = true := fun e => hf ((frSend_nil x b h.r).2 e)
  have e1 : lkSend x b = { x with out := x.out ++ [b] } := if_neg hno
  have e2 : frSend x b = dataOf x x.out.length b := if_neg hno
  have hn := hno
  simp only [sendNo, Bool.or_eq_true, beq_iff_eq, decide_eq_true_eq, not_or] at hn
  have hr : frRight ⟨2, x.mine, x.peer, x.base + x.out.length, b⟩ = true := right_data h.r hn.1.1.1.1 (by omega) (by omega)
  refine ⟨⟨h.r.send b, ?_, ?_, ?_, ?_, ?_, ?_, ?_, ?_⟩, ?_⟩
  · rw [e1]; exact h.mine
  · rw [e1]; exact h.peer
  · rw [e1]; exact h.sure
  · rw [e1]; exact h.base
  · rw [e1, e2, ← List.append_assoc, ← h.tick]
    unfold lkTick
    rw [show datas { x with out := x.out ++ [b] } 0 (x.out ++ [b]) = datas x 0 (x.out ++ [b]) by
      have : ∀ (bs : List (List UInt8)) (k : Nat), datas { x with out := x.out ++ [b] } k bs = datas x k bs := by
        intro bs
        induction bs with
        | nil => intro k; rfl
        | cons a bs ih => intro k; simp only [datas, ih]
      exact this _ _]
    rw [datas_app]
    simp [datas, helloOf]
  · rw [e1]; have := h.len; simp; omega
  · have := h.many; simp; omega
  · intro g hg
    rw [e1]
    rcases List.mem_append.1 hg with hg | hg
    · obtain ⟨q, b', h1, h2, h3⟩ := h.each g hg
      exact ⟨q, b', by simp; omega, h2, h3⟩
    · simp at hg
      exact ⟨x.base + x.out.length, b, by simp; omega, hr, by rw [hg, e2]⟩
  · intro g hg e
    obtain ⟨q, b', h1, h2, h3⟩ := h.each g hg
    have := frPut_inj h2 hr (by rw [← h3, e, e2])
    injection this with _ _ _ h4 _
    omega
theorem enc1 (l : List (List UInt8)) (i : Nat) {el : List UInt8} (h : l[i]? = some el) : (D.enc encB l)[((i : Int)).toNat * 1]? = some (.p (V.bytes el)) := by
  have : ∀ l : List (List UInt8), D.enc encB l = l.map fun b => D.p (V.bytes b) := by
    intro l
    induction l with
    | nil => rfl
    | cons a l ih => rw [List.map_cons, ← ih]; rfl
  rw [this, List.getElem?_map]
  simp [h]
set_option maxHeartbeats 4000000 in
theorem SessionSends_fn (l : Lk) (bodies : List (List UInt8)) : Fn1 Try.prog 15 [lkV l, V.list encB bodies] (.b true) := by
  refine Fn1.of (rs := [.b true]) (res := [.tmp 4]) Try.call15 Try.func15 rfl Try.ntmps15 rfl (by simp) fun c hc => ?_
  have k1 := fnHead20; have k2 := fnGreat l []; have g1 := kGuard l []; refine z_go ?_
  apply Sym.cond
  · rfl
  · intro h
    refine z_go ?_
    with_reducible first | apply Fin.rt | apply Fin.nx
    exact .cons (.tmp rfl (.of (.of rfl))) .nil
  · intro h
    simp only [Bool.or_eq_false_iff, decide_eq_false_iff_not, Bool.not_eq_false'] at h
    obtain ⟨⟨hG, hR⟩, hn⟩ := h
    have hG := lkGreat_false hG
    have hL := lkRight_iff.1 hR
    have tl := lkTick_len l
    have k1 := fnTick l (LkOk.right hL); refine z_go ?_
    refine Sym.weak (Le.asRow 7 22 1 rfl rfl rfl z_nrm z_nrm) ?_
    refine Sym.loop (fun k s => ∃ i : Nat, i ≤ bodies.length ∧ k = bodies.length - i ∧ SentI l (sends l (bodies.take i)).1 (sends l (bodies.take i)).2 i ∧ s = ⟨[(9, true, .p (.i i)), (8, true, .ptr 1 0), (7, true, .row 2 (sends l (bodies.take i)).2.length), (6, true, .p (V.list encB (lkTick l))), (5, true, .p (.b true)), (2, true, .ptr 0 0), (1, true, .p (V.list encB bodies))], [some (lkBox l), some (lkBox (sends l (bodies.take i)).1), some (rowB (sends l (bodies.take i)).2)]⟩) bodies.length ⟨_, ⟨0, Nat.zero_le _, by simp, SentI.start hL, rfl⟩, z_wkt⟩ ?_
    rintro k s ⟨i, hi, rfl, hI, rfl⟩
    refine z_go ?_
    apply Sym.cond
    · rfl
    · intro hlt
      simp only [decide_eq_true_eq] at hlt
      have hi' : i < bodies.length := by omega
      obtain ⟨el, hel⟩ : ∃ el, bodies[i]? = some el := ⟨_, List.getElem?_eq_getElem hi'⟩
      have hnext := sends_snoc l hel
      revert hI hnext
      generalize sends l (bodies.take i) = p
      obtain ⟨x, out⟩ := p
      dsimp only
      intro hI hnext
      have hm := hI.many
      refine z_go ?_
      (apply Sym.drawXL [9, 10] (by kernel_rfl) (by kernel_rfl) (by kernel_rfl))
      have k1 := fnSend' x (LkOk.right hI.r) el; refine z_xgo ?_
      refine z_go ?_
      apply Sym.cond
      · rfl
      · intro hf
        have hf : frSend x el = [] := List.eq_nil_of_length_eq_zero (by simp at hf; simpa using hf)
        obtain ⟨e1, hI'⟩ := hI.skip hf
        refine z_go ?_
        refine ⟨_, by omega, _, ⟨i + 1, by omega, rfl, ?_, rfl⟩, ?_⟩
        · rw [hnext]
          simp only [sendStep, if_pos hf, e1]
          exact hI'
        · rw [hnext]
          simp only [sendStep, if_pos hf]
          exact z_wkt
      · intro hf
        have hf : frSend x el ≠ [] := by
          intro e
          rw [e] at hf
          simp at hf
        obtain ⟨hI', hne⟩ := hI.more hf
        refine z_go ?_
        refine Sym.loop (fun k s => ∃ j : Nat, j ≤ out.length ∧ k = out.length - j ∧ s = ⟨[(12, true, .p (.i j)), (11, true, .p (V.bytes (frSend x el))), (9, true, .p (.i i)), (8, true, .ptr 1 0), (7, true, .row 2 out.length), (6, true, .p (V.list encB (lkTick l))), (5, true, .p (.b true)), (2, true, .ptr 0 0), (1, true, .p (V.list encB bodies))], [some (lkBox l), some (lkBox (lkSend x el)), some (rowB out)]⟩) out.length ⟨_, ⟨0, Nat.zero_le _, by simp, rfl⟩, z_wkt⟩ ?_
        rintro k s ⟨j, hj, rfl, rfl⟩
        refine z_go ?_
        apply Sym.cond
        · rfl
        · intro hlt
          simp only [decide_eq_true_eq] at hlt
          have hj' : j < out.length := by omega
          obtain ⟨em, hem⟩ : ∃ em, out[j]? = some em := ⟨_, List.getElem?_eq_getElem hj'⟩
          have hld := enc1 out j hem
          refine z_go ?_
          apply Sym.condF
          · have := hne em (List.mem_of_getElem? hem)
            simp [TM.get, strB_toList, this]
          refine z_go ?_
          exact ⟨_, by omega, _, ⟨j + 1, by omega, rfl, rfl⟩, z_wkt⟩
        · intro _
          have a1 : AppH encB out [frSend x el] := .mk; refine z_go ?_
          refine ⟨_, by omega, _, ⟨i + 1, by omega, rfl, ?_, rfl⟩, ?_⟩
          · rw [hnext]
            simp only [sendStep, if_neg hf]
            exact hI'
          · rw [hnext]
            simp only [sendStep, if_neg hf]
            exact z_wkt
    · intro hge
      simp only [decide_eq_false_iff_not] at hge
      obtain rfl : i = bodies.length := by omega
      rw [List.take_length] at hI ⊢
      revert hI
      generalize sends l bodies = p
      obtain ⟨x, out⟩ := p
      dsimp only
      intro hI
      have tx := lkTick_len x
      have hm := hI.many
      have ho := hI.r.out
      have hr := kRows (lkTick l ++ out) (by simp; omega)
      have ht := fnTick x (LkOk.right hI.r)
      rw [hI.tick] at ht
      have hle := hI.len
      (refine Sym.freeze encB 7 out rfl rfl rfl (by assumption) z_cln z_cln ?_)
      have k1 := ht; have k2 := hr; have b1 : RowH 71 := .mk; have a1 : AppH encB [] (lkTick l) := .mk; have a2 : AppH encB ([] ++ lkTick l) out := .mk; refine z_go ?_
      with_reducible first | apply Fin.rt | apply Fin.nx
      refine .cons (.tmp rfl (.of (.of ?_))) .nil
      simp [D.toV, hle]
theorem SessionSends_walk {w : World} {va vb : Value} {l : Lk} {bs : List (List UInt8)} (ha : (lkV l).Rep Any w va) (_ : lkWf l) (hb : (V.list encB bs).Rep Any w vb) (hl : bs.length ≤ maxLen ∧ ∀ b ∈ bs, b.length ≤ maxLen) :
    Calls Try.prog 15 #[va, vb] w fun e w' => e = .returned (.bool true) ∧ Below w.heap.size w w' :=
  ((SessionSends_fn l bs).calls Any w [va, vb] (fun _ _ => trivial) ⟨_, _, rfl, ha, _, _, rfl, hb, rfl⟩).mono fun e w' ⟨u, h1, h2, h3⟩ => ⟨by rw [h1, show u = _ from h3], h2⟩
end Go.Proofs.Ytdehiohjlbmmdaa
