/- Queues: the reference's put, Add, Again, Drop. -/
import Derived.Test.YtmpncdlhmknkoaaBat13
set_option linter.unusedSimpArgs false
set_option linter.unusedVariables false
namespace Go.Proofs.Ytmpncdlhmknkoaa
open Go.PA
open Go.RowKit

theorem ins_step {α : Type} {lt : α → α → Bool} {x a : α} {l : List α} (h : lt x a = true) : ins lt (x :: l) a = x :: ins lt l a := by
  simp [ins, h]
theorem ins_stop {α : Type} {lt : α → α → Bool} {x a : α} {l : List α} (h : lt x a = false) : ins lt (x :: l) a = a :: x :: l := by
  simp [ins, h]
theorem ins_nil {α : Type} {lt : α → α → Bool} {a : α} : ins lt [] a = [a] := rfl

set_option maxHeartbeats 1000000 in
theorem put25_pf (q : TQueue) (p : TPayment) (hf : FitQ q) : PFun Try.prog none none 61 [.agg q.cells, .agg p.cells] (· = .agg (TQueue.mk (ins befB q.Waiting p) q.Known q.Batches).cells) := by
  refine pfun_introA Try.func61 rfl (by simp [Try.f61]) ?_
  intro E hP hr hs hW hN
  obtain ⟨l, K, bs⟩ := q
  have lw : l.length ≤ 100000 := hf.w
  have ip := imm_pays l
  have i2 := imm_ints K
  have i3 := imm_bats bs
  have ipp := imm_pay p
  simp only [intsL] at i2
  rw [cPy] at ipp
  simp only [cQu, intsL]
  refine awp_cut (by rw [hN]; kernel_rfl) ?_
  simp -dsimp -implicitDefEqProofs [-getElem?_pos, go_sem, hP, cQu, cPy, intsL]
  refine awp_cut (by rw [hN]; kernel_rfl) ?_
  simp -dsimp -implicitDefEqProofs [-getElem?_pos, go_sem, hP]
  obtain ⟨Inv, hInv⟩ : ∃ Inv : St → Prop, Inv = fun s => ∃ k : Nat, k ≤ l.length ∧ ins befB l p = l.take k ++ p :: l.drop k ∧ s.t 2 = .ref 0 0 0 ∧ s.t 3 = .ref 1 0 0 ∧ s.t 4 = .ref 2 0 0 ∧ s.t 5 = iv k ∧ s.H = [some ⟨28, 3, [[paysL l, .list 1 (K.map fun x => [iv x]), batsL bs]]⟩, some ⟨34, 5, [[iv p.Warrant, iv p.Payee, iv p.Amount, iv p.Due, iv p.Sub]]⟩, some ⟨28, 3, [[.nil, .nil, .nil]]⟩] := ⟨_, rfl⟩
  refine awp_join Inv (by rw [hN]; kernel_rfl) ?_ ?_
  rotate_left
  · intro s hs'
    rw [hInv] at hs'
    obtain ⟨k, hk, hi, t2, t3, t4, t5, hH⟩ := hs'
    refine awp_sound _ _ _ (by rw [hN]; kernel_rfl) ?_
    simp -dsimp -implicitDefEqProofs [-getElem?_pos, go_sem, hP]
    refine adrawB (fun i => decide (i < 3)) [14] hP (by kernel_rfl) (by kernel_rfl) ?_
    have D : ∀ i, decide (i < 3) = true → i = 0 ∨ i = 1 ∨ i = 2 := fun i hi => by
      simp only [decide_eq_true_eq] at hi
      omega
    obtain ⟨A, hA⟩ : ∃ A, A = l.take k := ⟨_, rfl⟩
    obtain ⟨B, hB⟩ : ∃ B, B = l.drop k := ⟨_, rfl⟩
    have lA : A.length = k := by rw [hA, List.length_take]; omega
    have lB : B.length = l.length - k := by rw [hB, List.length_drop]
    rw [← hA, ← hB] at hi
    simp -dsimp -implicitDefEqProofs [-getElem?_pos, go_sem, hP, t2, t3, t5, hH, asliceOp, bound, aslice, hk, encL_takeE, encL_dropE, ← hA, ← hB, lA, lB]
    refine ⟨by omega, by omega, fun i hi => ?_, by omega, by omega, fun i hi => ?_, by omega, by omega, fun i hi => ?_, ?_⟩
    · rcases D i hi with rfl | rfl | rfl <;> rfl
    · rcases D i hi with rfl | rfl | rfl <;> rfl
    · rcases D i hi with rfl | rfl | rfl <;> rfl
    simp -dsimp -implicitDefEqProofs [-getElem?_pos, go_sem, hP, t4]
    refine done_agg (cs' := (TQueue.mk (ins befB l p) K bs).cells) ?_ rfl
    refine cw_sref (ty := 34) (es := encL TPayment.cells (ins befB l p)) ?_ (by rw [encL_len, hi, List.length_append, List.length_cons]; omega) (imm_pays _) (cw_imm i2 (cw_imm i3 .nil))
    simp -dsimp -implicitDefEqProofs [-getElem?_pos, go_sem, hi]
    simp [encL, cPy]
  simp -dsimp -implicitDefEqProofs [-getElem?_pos, go_sem, hP]
  obtain ⟨I, hI⟩ : ∃ I : Nat → St → Prop, I = fun m s => ∃ k : Nat, k ≤ l.length ∧ m = l.length - k ∧ ins befB l p = l.take k ++ ins befB (l.drop k) p ∧ s.t 2 = .ref 0 0 0 ∧ s.t 3 = .ref 1 0 0 ∧ s.t 4 = .ref 2 0 0 ∧ s.t 5 = iv k ∧ s.H = [some ⟨28, 3, [[paysL l, .list 1 (K.map fun x => [iv x]), batsL bs]]⟩, some ⟨34, 5, [[iv p.Warrant, iv p.Payee, iv p.Amount, iv p.Due, iv p.Sub]]⟩, some ⟨28, 3, [[.nil, .nil, .nil]]⟩] := ⟨_, rfl⟩
  refine aloop0 I (l.length) (by rw [hN]; rfl) ?_ ?_
  · rw [hI]
    exact ⟨0, by omega, by omega, by simp, by simp -dsimp -implicitDefEqProofs [-getElem?_pos, go_sem], by simp -dsimp -implicitDefEqProofs [-getElem?_pos, go_sem], by simp -dsimp -implicitDefEqProofs [-getElem?_pos, go_sem], by simp -dsimp -implicitDefEqProofs [-getElem?_pos, go_sem], by simp -dsimp -implicitDefEqProofs [-getElem?_pos, go_sem]⟩
  intro m s hs'
  rw [hI] at hs'
  obtain ⟨k, hk, hm, hi, t2, t3, t4, t5, hH⟩ := hs'
  simp -dsimp -implicitDefEqProofs [-getElem?_pos, go_sem, hP]
  refine adrawB (fun _ => true) [] hP (by kernel_rfl) (by kernel_rfl) ?_
  have ag : ∀ X : Heap, X = s.H → Agree (fun _ => true) s.H X := fun X e i _ => by rw [e]
  by_cases c : k < l.length
  · obtain ⟨x, hx⟩ : ∃ x, l[k]? = some x := ⟨_, List.getElem?_eq_getElem c⟩
    have d : decide ((k : Int) < (l.length : Int)) = true := decide_eq_true (by omega)
    have ix := imm_pay x
    have bf := rbefore_pf x p
    rw [cPy, cPy] at bf
    rw [cPy] at ix
    rw [drop_at hx] at hi
    have wk := wrap_in ((k : Int) + 1) (by omega)
    simp -dsimp -implicitDefEqProofs [-getElem?_pos, go_sem, hP, t2, t5, t3, hH, d, c, hx, cPy]
    refine callB_is (bf.lift _ _) hP en_21 (by simpa using ⟨ix, ipp⟩) .sc ?_
    cases cb : befB x p
    rotate_left
    · rw [ins_step cb] at hi
      simp -dsimp -implicitDefEqProofs [-getElem?_pos, go_sem, hP, cb, t5, wk]
      refine ⟨ag _ hH.symm, ?_⟩
      refine ⟨l.length - (k + 1), by omega, ?_⟩
      rw [hI]
      exact ⟨k + 1, by omega, rfl, by rw [hi, take_at hx]; simp, by simp -dsimp -implicitDefEqProofs [-getElem?_pos, go_sem, t2], by simp -dsimp -implicitDefEqProofs [-getElem?_pos, go_sem, t3], by simp -dsimp -implicitDefEqProofs [-getElem?_pos, go_sem, t4], by simp -dsimp -implicitDefEqProofs [-getElem?_pos, go_sem], by simp -dsimp -implicitDefEqProofs [-getElem?_pos, go_sem, hH]⟩
    · rw [ins_stop cb, ← drop_at hx] at hi
      simp -dsimp -implicitDefEqProofs [-getElem?_pos, go_sem, hP, cb, t5]
      refine ⟨ag _ hH.symm, ?_⟩
      refine ⟨_, Weaker.refl _, ?_⟩
      rw [hInv]
      exact ⟨k, hk, hi, by simp -dsimp -implicitDefEqProofs [-getElem?_pos, go_sem, t2], by simp -dsimp -implicitDefEqProofs [-getElem?_pos, go_sem, t3], by simp -dsimp -implicitDefEqProofs [-getElem?_pos, go_sem, t4], by simp -dsimp -implicitDefEqProofs [-getElem?_pos, go_sem, t5], by simp -dsimp -implicitDefEqProofs [-getElem?_pos, go_sem, hH]⟩
  · have hk : k = l.length := by omega
    have d : decide ((k : Int) < (l.length : Int)) = false := decide_eq_false (by omega)
    rw [List.drop_of_length_le (by omega), ins_nil] at hi
    simp -dsimp -implicitDefEqProofs [-getElem?_pos, go_sem, hP, t2, t5, t3, hH, d, c]
    refine ⟨_, Weaker.refl _, ?_⟩
    rw [hInv]
    exact ⟨k, by omega, by rw [hi, List.drop_of_length_le (by omega)], by simp -dsimp -implicitDefEqProofs [-getElem?_pos, go_sem, t2], by simp -dsimp -implicitDefEqProofs [-getElem?_pos, go_sem, t3], by simp -dsimp -implicitDefEqProofs [-getElem?_pos, go_sem, t4], by simp -dsimp -implicitDefEqProofs [-getElem?_pos, go_sem, t5], by simp -dsimp -implicitDefEqProofs [-getElem?_pos, go_sem, hH]⟩

set_option maxHeartbeats 1000000 in
theorem again25_pf (q : TQueue) (p : TPayment) (hf : FitQ q) : PFun Try.prog none none 32 [.agg q.cells, .agg p.cells] (· = .tup [.agg (againQ q p).1.cells, iv (againQ q p).2]) := by
  refine pfun_intro Try.func32 rfl (by simp [Try.f32]) (by kernel_rfl) ?_
  intro E hP hr hs hW hN
  have ck := rcheck25_pf q hf
  have iq := imm_que q
  have ipp := imm_pay p
  have ip := imm_pays q.Waiting
  have i2 := imm_ints q.Known
  have i3 := imm_bats q.Batches
  have ct := rknown_pf q p.Warrant (by have := hf.k; omega)
  have wt := rwaits_pf q p.Warrant (by have := hf.w; omega)
  have py := rpay_pf p
  have pt := put25_pf q p hf
  have iqq := imm_que ⟨ins befB q.Waiting p, q.Known, q.Batches⟩
  rw [cPy] at py
  rw [cQu] at ck iq wt ct pt
  rw [cPy] at ipp pt
  simp only [intsL] at i2 ck iq ct wt pt
  simp -dsimp -implicitDefEqProofs [-getElem?_pos, go_sem, hP, cQu, cPy, intsL]
  refine callB_is (ck.lift _ _) hP en_29 (by simpa using iq) .sc ?_
  by_cases c1 : checkQ q = 0
  rotate_left
  · have : againQ q p = (zeroQ, checkQ q) := by rw [againQ, if_neg c1]
    simp -dsimp -implicitDefEqProofs [-getElem?_pos, go_sem, hP, c1]
    refine done_zeroQ ?_
    rw [this]
  have hq := checkQ_iff.1 c1
  simp -dsimp -implicitDefEqProofs [-getElem?_pos, go_sem, hP, c1]
  refine callB_is (py.lift _ _) hP en_34 (by simpa using ipp) .sc ?_
  cases c2 : payB p
  · have : againQ q p = (zeroQ, 64) := by rw [againQ, if_pos c1, if_neg (by simp [c2])]
    simp -dsimp -implicitDefEqProofs [-getElem?_pos, go_sem, hP, c2]
    refine done_zeroQ ?_
    rw [this]
  simp -dsimp -implicitDefEqProofs [-getElem?_pos, go_sem, hP, c2]
  refine callB_is (ct.lift _ _) hP en_13 (by simpa [imm_sc] using iq) .sc ?_
  by_cases c3 : p.Warrant ∈ q.Known
  rotate_left
  · have : againQ q p = (zeroQ, 6) := by rw [againQ, if_pos c1, if_pos c2, if_neg c3]
    simp -dsimp -implicitDefEqProofs [-getElem?_pos, go_sem, hP, c2, c3]
    refine done_zeroQ ?_
    rw [this]
  simp -dsimp -implicitDefEqProofs [-getElem?_pos, go_sem, hP, c2, c3]
  refine callB_is (wt.lift _ _) hP en_62 (by simpa [imm_sc] using iq) .sc ?_
  by_cases c4 : 0 ≤ waitQ q p.Warrant
  · have d4 : decide (0 ≤ waitQ q p.Warrant) = true := decide_eq_true c4
    have : againQ q p = (zeroQ, 65) := by rw [againQ, if_pos c1, if_pos c2, if_pos c3, if_pos c4]
    simp -dsimp -implicitDefEqProofs [-getElem?_pos, go_sem, hP, d4]
    refine done_zeroQ ?_
    rw [this]
  have d4 : decide (0 ≤ waitQ q p.Warrant) = false := decide_eq_false c4
  by_cases c5 : q.Waiting.length = 100
  · have d5 : decide ((q.Waiting.length : Int) = 100) = true := decide_eq_true (by omega)
    have : againQ q p = (zeroQ, 3) := by rw [againQ, if_pos c1, if_pos c2, if_pos c3, if_neg c4, if_pos c5]
    simp -dsimp -implicitDefEqProofs [-getElem?_pos, go_sem, hP, d4, d5]
    refine done_zeroQ ?_
    rw [this]
  have d5 : decide ((q.Waiting.length : Int) = 100) = false := decide_eq_false (by omega)
  have hag : againQ q p = (⟨ins befB q.Waiting p, q.Known, q.Batches⟩, 0) := by rw [againQ, if_pos c1, if_pos c2, if_pos c3, if_neg c4, if_neg c5]
  rw [hag]
  simp -dsimp -implicitDefEqProofs [-getElem?_pos, go_sem, hP, d4, d5]
  refine callB_is (pt.lift _ _) hP en_61 (by simp [iq, ipp]) iqq ?_
  simp -dsimp -implicitDefEqProofs [-getElem?_pos, go_sem, hP, cQu, intsL]
  rw [cQu] at iqq
  exact done_imm (imm_pair iqq .sc) rfl

set_option maxHeartbeats 1000000 in
theorem drop25_pf (q : TQueue) (w : Int) (hf : FitQ q) : PFun Try.prog none none 35 [.agg q.cells, iv w] (· = .tup [.agg (dropQ q w).1.cells, iv (dropQ q w).2]) := by
  refine pfun_intro Try.func35 rfl (by simp [Try.f35]) (by kernel_rfl) ?_
  intro E hP hr hs hW hN
  have ck := rcheck25_pf q hf
  have iq := imm_que q
  have ip := imm_pays q.Waiting
  have i2 := imm_ints q.Known
  have i3 := imm_bats q.Batches
  have wt := rwaits_pf q w (by have := hf.w; omega)
  rw [cQu] at ck iq wt
  simp only [intsL] at i2 ck iq wt
  simp -dsimp -implicitDefEqProofs [-getElem?_pos, go_sem, hP, cQu, intsL]
  refine callB_is (ck.lift _ _) hP en_29 (by simpa using iq) .sc ?_
  by_cases c1 : checkQ q = 0
  rotate_left
  · have : dropQ q w = (zeroQ, checkQ q) := by rw [dropQ, if_neg c1]
    simp -dsimp -implicitDefEqProofs [-getElem?_pos, go_sem, hP, c1]
    refine done_zeroQ ?_
    rw [this]
  have hq := checkQ_iff.1 c1
  simp -dsimp -implicitDefEqProofs [-getElem?_pos, go_sem, hP, c1]
  refine callB_is (wt.lift _ _) hP en_62 (by simpa [imm_sc] using iq) .sc ?_
  by_cases c2 : waitQ q w < 0
  · have d2 : decide (waitQ q w < 0) = true := decide_eq_true c2
    have : dropQ q w = (zeroQ, 6) := by rw [dropQ, if_pos c1, if_pos c2]
    simp -dsimp -implicitDefEqProofs [-getElem?_pos, go_sem, hP, d2]
    refine done_zeroQ ?_
    rw [this]
  have d2 : decide (waitQ q w < 0) = false := decide_eq_false c2
  obtain ⟨i, p, hi, hip, hpw, hil⟩ := waitQ_some c2
  have hdr : dropQ q w = (⟨q.Waiting.eraseIdx i, q.Known, q.Batches⟩, 0) := by rw [dropQ, if_pos c1, if_neg c2, hi]; rfl
  rw [hdr]
  rw [hi] at d2
  have lw := hq.lw
  have w1 := wrap_in ((i : Int) + 1) (by omega)
  obtain ⟨K, hK⟩ : ∃ K, K = q.Known := ⟨_, rfl⟩
  obtain ⟨bs, hbs⟩ : ∃ bs, bs = q.Batches := ⟨_, rfl⟩
  obtain ⟨l, hl⟩ : ∃ l, l = q.Waiting := ⟨_, rfl⟩
  rw [← hK, ← hbs, ← hl]
  rw [← hl] at hil lw ip
  rw [← hK] at i2
  rw [← hbs] at i3
  simp -dsimp -implicitDefEqProofs [-getElem?_pos, go_sem, hP, hi, d2]
  refine adrawB (fun i => decide (i < 2)) [12] hP (by kernel_rfl) (by kernel_rfl) ?_
  have D : ∀ i, decide (i < 2) = true → i = 0 ∨ i = 1 := fun i hi => by
    simp only [decide_eq_true_eq] at hi
    omega
  obtain ⟨A, hA⟩ : ∃ A, A = l.take i := ⟨_, rfl⟩
  obtain ⟨B, hB⟩ : ∃ B, B = l.drop (i + 1) := ⟨_, rfl⟩
  have lA : A.length = i := by rw [hA, List.length_take]; omega
  have lB : B.length = l.length - (i + 1) := by rw [hB, List.length_drop]
  have he : l.eraseIdx i = A ++ B := by rw [hA, hB]; exact List.eraseIdx_eq_take_drop_succ _ _
  have g1 : i ≤ l.length := by omega
  have g2 : (i : Int) + 1 ≤ l.length := by omega
  have g3 : (0 : Int) ≤ (i : Int) + 1 := by omega
  have g4 : ((i : Int) + 1).toNat = i + 1 := by omega
  simp -dsimp -implicitDefEqProofs [-getElem?_pos, go_sem, hP, hi, asliceOp, bound, aslice, ← hl, w1, g1, g2, g3, g4, encL_takeE, encL_dropE, ← hA, ← hB, lA, lB]
  refine ⟨by omega, by omega, fun i hi => ?_, by omega, by omega, fun i hi => ?_, ?_⟩
  · rcases D i hi with rfl | rfl <;> rfl
  · rcases D i hi with rfl | rfl <;> rfl
  refine done_agg2 (cs' := (TQueue.mk (l.eraseIdx i) K bs).cells) ?_ rfl
  refine cw_sref (ty := 34) (es := encL TPayment.cells (l.eraseIdx i)) ?_ (by rw [encL_len, he, List.length_append]; omega) (imm_pays _) (cw_imm i2 (cw_imm i3 .nil))
  simp -dsimp -implicitDefEqProofs [-getElem?_pos, go_sem, he, encL_appE]

set_option maxHeartbeats 1000000 in
theorem add25_pf (q : TQueue) (p : TPayment) (hf : FitQ q) : PFun Try.prog none none 30 [.agg q.cells, .agg p.cells] (· = .tup [.agg (addQ q p).1.cells, iv (addQ q p).2]) := by
  refine pfun_introA Try.func30 rfl (by simp [Try.f30]) ?_
  intro E hP hr hs hW hN
  have ck := rcheck25_pf q hf
  have iq := imm_que q
  have ipp := imm_pay p
  have ip := imm_pays q.Waiting
  have i2 := imm_ints q.Known
  have i3 := imm_bats q.Batches
  have ct := rknown_pf q p.Warrant (by have := hf.k; omega)
  have py := rpay_pf p
  have pt : checkQ q = 0 → _ := fun c => put25_pf ⟨q.Waiting, ins ltB q.Known p.Warrant, q.Batches⟩ p ⟨hf.w, by have := (checkQ_iff.1 c).lk; simp only [ins_len]; omega, hf.b, hf.each⟩
  have iq2 := imm_que ⟨q.Waiting, ins ltB q.Known p.Warrant, q.Batches⟩
  have iqq := imm_que ⟨ins befB q.Waiting p, ins ltB q.Known p.Warrant, q.Batches⟩
  rw [cPy] at py
  simp only [cQu, cPy, intsL] at ck iq iq2 ct pt ipp iqq i2
  refine awp_cut (by rw [hN]; kernel_rfl) ?_
  simp -dsimp -implicitDefEqProofs [-getElem?_pos, go_sem, hP, cQu, cPy, intsL]
  refine awp_cut (by rw [hN]; kernel_rfl) ?_
  simp -dsimp -implicitDefEqProofs [-getElem?_pos, go_sem, hP]
  refine callB_is (ck.lift _ _) hP en_29 (by simpa using iq) .sc ?_
  by_cases c1 : checkQ q = 0
  rotate_left
  · have : addQ q p = (zeroQ, checkQ q) := by rw [addQ, if_neg c1]
    simp -dsimp -implicitDefEqProofs [-getElem?_pos, go_sem, hP, c1]
    refine done_zeroQ ?_
    rw [this]; rfl
  have hq := checkQ_iff.1 c1
  have pt := pt c1
  simp -dsimp -implicitDefEqProofs [-getElem?_pos, go_sem, hP, c1]
  refine awp_cut (by rw [hN]; kernel_rfl) ?_
  simp -dsimp -implicitDefEqProofs [-getElem?_pos, go_sem, hP]
  refine callB_is (py.lift _ _) hP en_34 (by simpa using ipp) .sc ?_
  cases c2 : payB p
  · have : addQ q p = (zeroQ, 64) := by rw [addQ, if_pos c1, if_neg (by simp [c2])]
    simp -dsimp -implicitDefEqProofs [-getElem?_pos, go_sem, hP, c2]
    refine done_zeroQ ?_
    rw [this]; rfl
  simp -dsimp -implicitDefEqProofs [-getElem?_pos, go_sem, hP, c2]
  refine callB_is (ct.lift _ _) hP en_13 (by simpa [imm_sc] using iq) .sc ?_
  by_cases c3 : p.Warrant ∈ q.Known
  · have : addQ q p = (zeroQ, 65) := by rw [addQ, if_pos c1, if_pos c2, if_pos c3]
    simp -dsimp -implicitDefEqProofs [-getElem?_pos, go_sem, hP, c2, c3]
    refine done_zeroQ ?_
    rw [this]; rfl
  by_cases c4 : q.Waiting.length = 100
  · have d4 : decide ((q.Waiting.length : Int) = 100) = true := decide_eq_true (by omega)
    have : addQ q p = (zeroQ, 3) := by rw [addQ, if_pos c1, if_pos c2, if_neg c3, if_pos (.inl c4)]
    simp -dsimp -implicitDefEqProofs [-getElem?_pos, go_sem, hP, c2, c3, d4]
    refine done_zeroQ ?_
    rw [this]; rfl
  have d4 : decide ((q.Waiting.length : Int) = 100) = false := decide_eq_false (by omega)
  by_cases c5 : q.Known.length = 200
  · have d5 : decide ((q.Known.length : Int) = 200) = true := decide_eq_true (by omega)
    have : addQ q p = (zeroQ, 3) := by rw [addQ, if_pos c1, if_pos c2, if_neg c3, if_pos (.inr c5)]
    simp -dsimp -implicitDefEqProofs [-getElem?_pos, go_sem, hP, c2, c3, d4, d5]
    refine done_zeroQ ?_
    rw [this]; rfl
  have d5 : decide ((q.Known.length : Int) = 200) = false := decide_eq_false (by omega)
  have hadd : addQ q p = (⟨ins befB q.Waiting p, ins ltB q.Known p.Warrant, q.Batches⟩, 0) := by rw [addQ, if_pos c1, if_pos c2, if_neg c3, if_neg (by omega)]
  rw [hadd]
  simp -dsimp -implicitDefEqProofs [-getElem?_pos, go_sem, hP, c2, c3, d4, d5]
  refine awp_cut (by rw [hN]; kernel_rfl) ?_
  simp -dsimp -implicitDefEqProofs [-getElem?_pos, go_sem, hP]
  obtain ⟨l, hl⟩ : ∃ l, l = q.Known := ⟨_, rfl⟩
  obtain ⟨W, hWt⟩ : ∃ W, W = q.Waiting := ⟨_, rfl⟩
  obtain ⟨bs, hbs⟩ : ∃ bs, bs = q.Batches := ⟨_, rfl⟩
  have lw : l.length ≤ 100000 := by rw [hl]; exact hf.k
  simp only [← hl, ← hWt, ← hbs] at *
  obtain ⟨Inv, hInv⟩ : ∃ Inv : St → Prop, Inv = fun s => ∃ k : Nat, k ≤ l.length ∧ ins ltB l p.Warrant = l.take k ++ p.Warrant :: l.drop k ∧ s.t 2 = .ref 0 0 0 ∧ s.t 3 = .ref 1 0 0 ∧ s.t 4 = .ref 2 0 0 ∧ s.t 7 = iv k ∧ s.H = [some ⟨28, 3, [[paysL W, .list 1 (l.map fun x => [iv x]), batsL bs]]⟩, some ⟨34, 5, [[iv p.Warrant, iv p.Payee, iv p.Amount, iv p.Due, iv p.Sub]]⟩, some ⟨28, 3, [[.nil, .nil, .nil]]⟩] := ⟨_, rfl⟩
  refine awp_join Inv (by rw [hN]; kernel_rfl) ?_ ?_
  rotate_left
  · intro s hs'
    rw [hInv] at hs'
    obtain ⟨k, hk, hi, t2, t3, t4, t7, hH⟩ := hs'
    refine awp_sound _ _ _ (by rw [hN]; kernel_rfl) ?_
    simp -dsimp -implicitDefEqProofs [-getElem?_pos, go_sem, hP]
    refine adrawB (fun i => decide (i < 3)) [15] hP (by kernel_rfl) (by kernel_rfl) ?_
    have D : ∀ i, decide (i < 3) = true → i = 0 ∨ i = 1 ∨ i = 2 := fun i hi => by
      simp only [decide_eq_true_eq] at hi
      omega
    obtain ⟨A, hA⟩ : ∃ A, A = l.take k := ⟨_, rfl⟩
    obtain ⟨B, hB⟩ : ∃ B, B = l.drop k := ⟨_, rfl⟩
    have lA : A.length = k := by rw [hA, List.length_take]; omega
    have lB : B.length = l.length - k := by rw [hB, List.length_drop]
    have eA : (l.map fun x => [iv x]).take k = A.map fun x => [iv x] := by rw [hA, List.map_take]
    have eB : (l.map fun x => [iv x]).drop k = B.map fun x => [iv x] := by rw [hB, List.map_drop]
    rw [← hA, ← hB] at hi
    simp -dsimp -implicitDefEqProofs [-getElem?_pos, go_sem, hP, t2, t3, t7, hH, asliceOp, bound, aslice, hk, eA, eB, lA, lB]
    refine ⟨by omega, by omega, fun i hi => ?_, by omega, by omega, fun i hi => ?_, by omega, by omega, fun i hi => ?_, ?_⟩
    · rcases D i hi with rfl | rfl | rfl <;> rfl
    · rcases D i hi with rfl | rfl | rfl <;> rfl
    · rcases D i hi with rfl | rfl | rfl <;> rfl
    have eAB : (A.map fun x => [iv x]) ++ [iv p.Warrant] :: (B.map fun x => [iv x]) = intRows (ins ltB l p.Warrant) := by rw [hi]; simp [intRows]
    have lI : k + 1 + (l.length - k) = (intRows (ins ltB l p.Warrant)).length := by rw [intRows_len, ins_len]; omega
    rw [eAB]
    generalize hH6 : (_ :: _ : Heap) = H6
    have b5 : H6[5]? = some (some ⟨3, 1, intRows (ins ltB l p.Warrant)⟩) := by rw [← hH6]; rfl
    have b2 : H6[2]? = some (some ⟨28, 3, [[.nil, .nil, .nil]]⟩) := by rw [← hH6]; rfl
    refine callB_frz (pt.lift _ _) hP hW en_61 (args_agg (cw_imm ip (cw_sref b5 lI (imm_ints _) (cw_imm i3 .nil))) (args_imm ipp (args_nil.2 trivial))) iqq ?_
    generalize hH7 : killAll _ H6 = H7
    have f2 : H7[2]? = some (some ⟨28, 3, [[.nil, .nil, .nil]]⟩) := by
      rw [← hH7]
      show (H6.set 5 none)[2]? = _
      rw [List.getElem?_set_ne (by omega), b2]
    have lt2 := (List.getElem?_eq_some_iff.1 f2).1
    simp -dsimp -implicitDefEqProofs [-getElem?_pos, go_sem, hP, t4, f2, lt2]
    exact done_imm (imm_pair iqq .sc) rfl
  simp -dsimp -implicitDefEqProofs [-getElem?_pos, go_sem, hP]
  obtain ⟨I, hI⟩ : ∃ I : Nat → St → Prop, I = fun m s => ∃ k : Nat, k ≤ l.length ∧ m = l.length - k ∧ ins ltB l p.Warrant = l.take k ++ ins ltB (l.drop k) p.Warrant ∧ s.t 2 = .ref 0 0 0 ∧ s.t 3 = .ref 1 0 0 ∧ s.t 4 = .ref 2 0 0 ∧ s.t 7 = iv k ∧ s.H = [some ⟨28, 3, [[paysL W, .list 1 (l.map fun x => [iv x]), batsL bs]]⟩, some ⟨34, 5, [[iv p.Warrant, iv p.Payee, iv p.Amount, iv p.Due, iv p.Sub]]⟩, some ⟨28, 3, [[.nil, .nil, .nil]]⟩] := ⟨_, rfl⟩
  refine aloop0 I (l.length) (by rw [hN]; rfl) ?_ ?_
  · rw [hI]
    exact ⟨0, by omega, by omega, by simp, by simp -dsimp -implicitDefEqProofs [-getElem?_pos, go_sem], by simp -dsimp -implicitDefEqProofs [-getElem?_pos, go_sem], by simp -dsimp -implicitDefEqProofs [-getElem?_pos, go_sem], by simp -dsimp -implicitDefEqProofs [-getElem?_pos, go_sem], by simp -dsimp -implicitDefEqProofs [-getElem?_pos, go_sem]⟩
  intro m s hs'
  rw [hI] at hs'
  obtain ⟨k, hk, hm, hi, t2, t3, t4, t7, hH⟩ := hs'
  simp -dsimp -implicitDefEqProofs [-getElem?_pos, go_sem, hP]
  refine adrawB (fun _ => true) [] hP (by kernel_rfl) (by kernel_rfl) ?_
  by_cases c : k < l.length
  · obtain ⟨x, hx⟩ : ∃ x, l[k]? = some x := ⟨_, List.getElem?_eq_getElem c⟩
    have d : decide ((k : Int) < (l.length : Int)) = true := decide_eq_true (by omega)
    rw [drop_at hx] at hi
    have wk := wrap_in ((k : Int) + 1) (by omega)
    by_cases cb : x < p.Warrant
    · have db : decide (x < p.Warrant) = true := decide_eq_true cb
      rw [ins_step ((ltB_lt _ _).2 cb)] at hi
      simp -dsimp -implicitDefEqProofs [-getElem?_pos, go_sem, hP, t2, t7, t3, hH, d, c, hx, db, wk]
      refine ⟨l.length - (k + 1), by omega, ?_⟩
      rw [hI]
      exact ⟨k + 1, by omega, rfl, by rw [hi, take_at hx]; simp, by simp -dsimp -implicitDefEqProofs [-getElem?_pos, go_sem, t2], by simp -dsimp -implicitDefEqProofs [-getElem?_pos, go_sem, t3], by simp -dsimp -implicitDefEqProofs [-getElem?_pos, go_sem, t4], by simp -dsimp -implicitDefEqProofs [-getElem?_pos, go_sem], by simp -dsimp -implicitDefEqProofs [-getElem?_pos, go_sem, hH]⟩
    · have db : decide (x < p.Warrant) = false := decide_eq_false cb
      rw [ins_stop (show ltB x p.Warrant = false from db), ← drop_at hx] at hi
      simp -dsimp -implicitDefEqProofs [-getElem?_pos, go_sem, hP, t2, t7, t3, hH, d, c, hx, db]
      refine ⟨_, Weaker.refl _, ?_⟩
      rw [hInv]
      exact ⟨k, hk, hi, by simp -dsimp -implicitDefEqProofs [-getElem?_pos, go_sem, t2], by simp -dsimp -implicitDefEqProofs [-getElem?_pos, go_sem, t3], by simp -dsimp -implicitDefEqProofs [-getElem?_pos, go_sem, t4], by simp -dsimp -implicitDefEqProofs [-getElem?_pos, go_sem, t7], by simp -dsimp -implicitDefEqProofs [-getElem?_pos, go_sem, hH]⟩
  · have hk : k = l.length := by omega
    have d : decide ((k : Int) < (l.length : Int)) = false := decide_eq_false (by omega)
    rw [List.drop_of_length_le (by omega), ins_nil] at hi
    simp -dsimp -implicitDefEqProofs [-getElem?_pos, go_sem, hP, t2, t7, t3, hH, d, c]
    refine ⟨_, Weaker.refl _, ?_⟩
    rw [hInv]
    exact ⟨k, by omega, by rw [hi, List.drop_of_length_le (by omega)], by simp -dsimp -implicitDefEqProofs [-getElem?_pos, go_sem, t2], by simp -dsimp -implicitDefEqProofs [-getElem?_pos, go_sem, t3], by simp -dsimp -implicitDefEqProofs [-getElem?_pos, go_sem, t4], by simp -dsimp -implicitDefEqProofs [-getElem?_pos, go_sem, t7], by simp -dsimp -implicitDefEqProofs [-getElem?_pos, go_sem, hH]⟩
end Go.Proofs.Ytmpncdlhmknkoaa
