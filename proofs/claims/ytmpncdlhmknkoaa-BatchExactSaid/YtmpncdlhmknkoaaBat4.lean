/- Queues: the program's check, last part. -/
import Derived.Test.YtmpncdlhmknkoaaBat3
set_option linter.unusedSimpArgs false
set_option linter.unusedVariables false
namespace Go.Proofs.Ytmpncdlhmknkoaa
open Go.PA
open Go.RowKit

set_option maxHeartbeats 1000000 in
theorem bsent_pf (q : TQueue) (hf : FitQ q) : PFun Try.prog none none 43 [.agg q.cells] (· = bv (batsFrom q.Known 0 0 q.Batches)) := by
  refine pfun_intro Try.func43 rfl (by simp [Try.f43]) (by kernel_rfl) ?_
  intro E hP hr hs hW hN
  have iq := imm_que q
  obtain ⟨R, hR⟩ : ∃ R, R = batsFrom q.Known 0 0 q.Batches := ⟨_, rfl⟩
  rw [← hR]
  have str := bstrange_pf q
  rw [cQu] at iq str
  simp only [intsL] at iq str
  have hk9 := hf.k
  have hb9 := hf.b
  obtain ⟨l, hl⟩ : ∃ l, l = q.Batches := ⟨_, rfl⟩
  have each : ∀ b, b ∈ l → b.Payments.length ≤ 100000 := hl ▸ hf.each
  rw [← hl] at hR hb9 str iq
  simp -dsimp -implicitDefEqProofs [-getElem?_pos, go_sem, hP, cQu, intsL, ← hl]
  obtain ⟨I, hI⟩ : ∃ I : Nat → St → Prop, I = fun m s => ∃ (k : Nat) (d : Int), k ≤ l.length ∧ m = l.length - k ∧ R = batsFrom q.Known k d (l.drop k) ∧ s.t 1 = .ref 0 0 0 ∧ s.t 3 = iv d ∧ s.t 7 = batsL l ∧ s.t 8 = iv l.length ∧ s.t 9 = iv k ∧ s.H[0]? = some (some ⟨28, 3, [[paysL q.Waiting, .list 1 (q.Known.map fun x => [iv x]), batsL l]]⟩) := ⟨_, rfl⟩
  refine aloop0 I (l.length) (by rw [hN]; rfl) ?_ ?_
  · rw [hI]
    exact ⟨0, 0, by omega, by omega, by rw [hR]; rfl, by simp -dsimp -implicitDefEqProofs [-getElem?_pos, go_sem], by simp -dsimp -implicitDefEqProofs [-getElem?_pos, go_sem], by simp -dsimp -implicitDefEqProofs [-getElem?_pos, go_sem], by simp -dsimp -implicitDefEqProofs [-getElem?_pos, go_sem], by simp -dsimp -implicitDefEqProofs [-getElem?_pos, go_sem], by simp -dsimp -implicitDefEqProofs [-getElem?_pos, go_sem]⟩
  intro m s hs'
  rw [hI] at hs'
  obtain ⟨k, d, hk, hm, hq, t1, t3, t7, t8, t9, h0⟩ := hs'
  have lt0 := (List.getElem?_eq_some_iff.1 h0).1
  simp -dsimp -implicitDefEqProofs [-getElem?_pos, go_sem, hP, t8, t9]
  refine condP (fun h => ?_) (fun h => ?_)
  · have hk : k < l.length := by simpa using h
    obtain ⟨b, hb⟩ : ∃ b, l[k]? = some b := ⟨_, List.getElem?_eq_getElem hk⟩
    have hbl := each b (List.mem_of_getElem? hb)
    have wk := wrap_in ((k : Int) + 1) (by omega)
    have ip := imm_pays b.Payments
    rw [drop_at hb, batsFrom, batB] at hq
    simp -dsimp -implicitDefEqProofs [-getElem?_pos, go_sem, hP, t7, t9, hb, cBt]
    by_cases c1 : b.Number = (k : Int) + 1
    rotate_left
    · rw [decide_eq_false c1, Bool.false_and, Bool.false_and] at hq
      have d1 := decide_eq_false c1
      simp -dsimp -implicitDefEqProofs [-getElem?_pos, go_sem, hP, wk, c1, d1, hq]
    rw [decide_eq_true c1, Bool.true_and] at hq
    by_cases c2 : d ≤ b.Day
    rotate_left
    · rw [decide_eq_false c2, Bool.false_and, Bool.false_and] at hq
      have d2 : decide (b.Day < d) = true := decide_eq_true (by omega)
      simp -dsimp -implicitDefEqProofs [-getElem?_pos, go_sem, hP, wk, c1, t3, d2, hq]
    rw [decide_eq_true c2, Bool.true_and] at hq
    have d2 : decide (b.Day < d) = false := decide_eq_false (by omega)
    simp -dsimp -implicitDefEqProofs [-getElem?_pos, go_sem, hP, wk, c1, t3, d2]
    refine callB_pure (cbusiness_pf b.Day) hP en_52 (args_same (by simp -dsimp -implicitDefEqProofs [-getElem?_pos, go_sem])) .sc ?_
    cases c3 : busB b.Day
    · rw [c3, Bool.false_and, Bool.false_and] at hq
      simp -dsimp -implicitDefEqProofs [-getElem?_pos, go_sem, hP, c3, hq]
    rw [c3, Bool.true_and] at hq
    simp -dsimp -implicitDefEqProofs [-getElem?_pos, go_sem, hP, c3]
    refine callB_pure (bamong_pf b.Payments.length 1 10) hP en_63 (args_same (by simp -dsimp -implicitDefEqProofs [-getElem?_pos, go_sem])) .sc ?_
    cases c4 : amg b.Payments.length 1 10
    · rw [c4, Bool.false_and, Bool.false_and] at hq
      simp -dsimp -implicitDefEqProofs [-getElem?_pos, go_sem, hP, c4, hq]
    rw [c4, Bool.true_and, ascB] at hq
    simp -dsimp -implicitDefEqProofs [-getElem?_pos, go_sem, hP, c4]
    refine callB_is ((bordered_pf b.Payments (by omega)).lift _ _) hP en_39 (by simpa using ip) .sc ?_
    cases c5 : ordFrom none b.Payments
    · rw [c5, Bool.false_and, Bool.false_and] at hq
      simp -dsimp -implicitDefEqProofs [-getElem?_pos, go_sem, hP, c5, hq]
    rw [c5, Bool.true_and] at hq
    simp -dsimp -implicitDefEqProofs [-getElem?_pos, go_sem, hP, c5, t1, h0, lt0]
    refine callB_is ((str b.Payments (by omega) (by omega)).lift _ _) hP en_41 (by simpa using ⟨iq, ip⟩) .sc ?_
    cases c6 : b.Payments.all (inK q.Known)
    · rw [c6, Bool.false_and, Bool.false_and] at hq
      simp -dsimp -implicitDefEqProofs [-getElem?_pos, go_sem, hP, c6, hq]
    rw [c6, Bool.true_and] at hq
    simp -dsimp -implicitDefEqProofs [-getElem?_pos, go_sem, hP, c6]
    refine callB_is ((btwice_pf b.Payments (by omega)).lift _ _) hP en_42 (by simpa using ip) .sc ?_
    cases c7 : distFrom [] b.Payments
    · rw [c7, Bool.false_and] at hq
      simp -dsimp -implicitDefEqProofs [-getElem?_pos, go_sem, hP, c7, hq]
    rw [c7, Bool.true_and] at hq
    simp -dsimp -implicitDefEqProofs [-getElem?_pos, go_sem, hP, c7, t9, wk]
    refine ⟨l.length - (k + 1), by omega, ?_⟩
    rw [hI]
    exact ⟨k + 1, b.Day, by omega, rfl, hq, by simp -dsimp -implicitDefEqProofs [-getElem?_pos, go_sem, t1], by simp -dsimp -implicitDefEqProofs [-getElem?_pos, go_sem], by simp -dsimp -implicitDefEqProofs [-getElem?_pos, go_sem, t7], by simp -dsimp -implicitDefEqProofs [-getElem?_pos, go_sem, t8], by simp -dsimp -implicitDefEqProofs [-getElem?_pos, go_sem], by simp -dsimp -implicitDefEqProofs [-getElem?_pos, go_sem, lt0, h0]⟩
  · have hk : k = l.length := by simp at h; omega
    subst hk
    rw [List.drop_length, batsFrom] at hq
    simp -dsimp -implicitDefEqProofs [-getElem?_pos, go_sem, hP, hq]

set_option maxHeartbeats 1000000 in
theorem bcheck_pf (q : TQueue) (hf : FitQ q) : PFun Try.prog none none 10 [.agg q.cells] (· = iv (checkQ q)) := by
  refine pfun_intro Try.func10 rfl (by simp [Try.f10]) (by kernel_rfl) ?_
  intro E hP hr hs hW hN
  have iq := imm_que q
  have iw := imm_pays q.Waiting
  have ik := imm_ints q.Known
  obtain ⟨R, hR⟩ : ∃ R, R = checkQ q := ⟨_, rfl⟩
  rw [← hR]
  have str := bstrange_pf q
  have sen := bsent_pf q hf
  have knn := bknown_pf q.Known (by have := hf.k; omega)
  rw [cQu] at iq str sen
  simp only [intsL] at iq str sen knn ik
  have hk9 := hf.k
  have hb9 := hf.b
  have hw9 := hf.w
  rw [checkQ] at hR
  by_cases c1 : 100 < q.Waiting.length
  · have d1 : decide ((100 : Int) < (q.Waiting.length : Int)) = true := decide_eq_true (by omega)
    rw [if_pos (.inl c1)] at hR
    simp -dsimp -implicitDefEqProofs [-getElem?_pos, go_sem, hP, cQu, intsL, c1, d1, hR]
  have d1 : decide ((100 : Int) < (q.Waiting.length : Int)) = false := decide_eq_false (by omega)
  by_cases c2 : 200 < q.Known.length
  · have d2 : decide ((200 : Int) < (q.Known.length : Int)) = true := decide_eq_true (by omega)
    rw [if_pos (.inr (.inl c2))] at hR
    simp -dsimp -implicitDefEqProofs [-getElem?_pos, go_sem, hP, cQu, intsL, c1, d1, c2, d2, hR]
  have d2 : decide ((200 : Int) < (q.Known.length : Int)) = false := decide_eq_false (by omega)
  by_cases c3 : 200 < q.Batches.length
  · have d3 : decide ((200 : Int) < (q.Batches.length : Int)) = true := decide_eq_true (by omega)
    rw [if_pos (.inr (.inr c3))] at hR
    simp -dsimp -implicitDefEqProofs [-getElem?_pos, go_sem, hP, cQu, intsL, c1, d1, c2, d2, c3, d3, hR]
  have d3 : decide ((200 : Int) < (q.Batches.length : Int)) = false := decide_eq_false (by omega)
  rw [if_neg (by omega), ascB] at hR
  simp -dsimp -implicitDefEqProofs [-getElem?_pos, go_sem, hP, cQu, intsL, d1, d2, d3]
  refine callB_is ((bordered_pf q.Waiting (by omega)).lift _ _) hP en_39 (by simpa using iw) .sc ?_
  cases c5 : ordFrom none q.Waiting
  · rw [c5, Bool.false_and, Bool.false_and, Bool.and_false, if_neg (by simp)] at hR
    simp -dsimp -implicitDefEqProofs [-getElem?_pos, go_sem, hP, c5, hR]
  rw [c5, Bool.true_and] at hR
  simp -dsimp -implicitDefEqProofs [-getElem?_pos, go_sem, hP, c5]
  refine callB_is (knn.lift _ _) hP en_40 (by simpa using ik) .sc ?_
  cases c4 : knFrom none q.Known
  · rw [c4, Bool.false_and, if_neg (by simp)] at hR
    simp -dsimp -implicitDefEqProofs [-getElem?_pos, go_sem, hP, c4, hR]
  rw [c4, Bool.true_and] at hR
  simp -dsimp -implicitDefEqProofs [-getElem?_pos, go_sem, hP, c4]
  refine callB_is ((str q.Waiting (by omega) (by omega)).lift _ _) hP en_41 (by simpa using ⟨iq, iw⟩) .sc ?_
  cases c6 : q.Waiting.all (inK q.Known)
  · rw [c6, Bool.false_and, Bool.false_and, if_neg (by simp)] at hR
    simp -dsimp -implicitDefEqProofs [-getElem?_pos, go_sem, hP, c6, hR]
  rw [c6, Bool.true_and] at hR
  simp -dsimp -implicitDefEqProofs [-getElem?_pos, go_sem, hP, c6]
  refine callB_is ((btwice_pf q.Waiting (by omega)).lift _ _) hP en_42 (by simpa using iw) .sc ?_
  cases c7 : distFrom [] q.Waiting
  · rw [c7, Bool.false_and, if_neg (by simp)] at hR
    simp -dsimp -implicitDefEqProofs [-getElem?_pos, go_sem, hP, c7, hR]
  rw [c7, Bool.true_and] at hR
  simp -dsimp -implicitDefEqProofs [-getElem?_pos, go_sem, hP, c7]
  refine callB_is (sen.lift _ _) hP en_43 (by simpa using iq) .sc ?_
  cases c8 : batsFrom q.Known 0 0 q.Batches
  · rw [c8, if_neg (by simp)] at hR
    simp -dsimp -implicitDefEqProofs [-getElem?_pos, go_sem, hP, c8, hR]
  rw [c8, if_pos rfl] at hR
  simp -dsimp -implicitDefEqProofs [-getElem?_pos, go_sem, hP, c8, hR]
end Go.Proofs.Ytmpncdlhmknkoaa
