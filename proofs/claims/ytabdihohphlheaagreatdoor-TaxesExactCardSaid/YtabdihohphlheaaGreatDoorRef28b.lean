/- The reference of taxes: taxes, amounts, days. -/
import Derived.Test.YtabdihohphlheaaGreatDoorRef28a
set_option linter.unusedSimpArgs false
set_option linter.unusedVariables false
namespace Go.Proofs.YtabdihohphlheaaGreatDoor
open Go.PA
open Go.RowKit

theorem rvalid_pf (n : Int) : PFun Tryz.prog none none 40 [iv n] (· = bv (btw n 0 1000000000000)) := by
  refine pfun_intro Tryz.func40 rfl (by simp [Tryz.f40]) (by kernel_rfl) ?_
  intro E hP hr hs hW hN
  by_cases h1 : 0 ≤ n <;> by_cases h2 : n ≤ 1000000000000 <;> simp -dsimp -implicitDefEqProofs [-getElem?_pos, go_sem, hP, h1, h2, btw]
theorem share_round (n d : Int) (hd : 0 < d) : (2 * n + d) / (2 * d) = n / d + if d ≤ 2 * (n % d) then 1 else 0 := by
  have h1 := Int.emod_add_mul_ediv n d
  have r1 := Int.emod_nonneg n (by omega : d ≠ 0)
  have r2 := Int.emod_lt_of_pos n hd
  obtain ⟨r, hr⟩ : ∃ r, r = n % d := ⟨_, rfl⟩
  obtain ⟨k, hk⟩ : ∃ k, k = n / d := ⟨_, rfl⟩
  rw [← hr, ← hk] at h1
  rw [← hr] at r1 r2
  rw [← hr, ← hk]
  have e : 2 * n + d = (2 * r + d) + (2 * d) * k := by
    rw [← h1, Int.mul_assoc 2 d k]
    omega
  rw [e, Int.add_mul_ediv_left _ _ (by omega : 2 * d ≠ 0)]
  by_cases c : d ≤ 2 * r
  · have e2 : 2 * r + d = (2 * r - d) + (2 * d) * 1 := by omega
    rw [if_pos c, e2, Int.add_mul_ediv_left _ _ (by omega : 2 * d ≠ 0), Int.ediv_eq_zero_of_lt (by omega) (by omega)]
    omega
  · rw [if_neg c, Int.ediv_eq_zero_of_lt (by omega) (by omega)]
    omega
set_option maxHeartbeats 2000000 in
theorem rshare_pf (a n d : Int) : PFun Tryz.prog none none 42 [iv a, iv n, iv d] (· = .tup [iv (shareD a n d).1, iv (shareD a n d).2]) := by
  refine pfun_intro Tryz.func42 rfl (by simp [Tryz.f42]) (by kernel_rfl) ?_
  intro E hP hr hs hW hN
  obtain ⟨R, hR⟩ : ∃ R, R = shareD a n d := ⟨_, rfl⟩
  rw [← hR]
  rw [shareD] at hR
  have no : ¬ (btw a 0 1000000000000 = true ∧ btw n 0 1000000 = true ∧ btw d 1 1000000 = true) → R = (0, 2) := fun h => by
    rw [hR, if_neg]
    intro k
    simp only [Bool.and_eq_true] at k
    exact h ⟨k.1.1.1, k.1.1.2, k.1.2⟩
  simp -dsimp -implicitDefEqProofs [-getElem?_pos, go_sem, hP]
  refine callB_pure (rvalid_pf a) hP en_40 (args_same (by simp -dsimp -implicitDefEqProofs [-getElem?_pos, go_sem])) .sc ?_
  cases ca : btw a 0 1000000000000
  · have e := no fun h => by rw [ca] at h; simp at h
    simp -dsimp -implicitDefEqProofs [-getElem?_pos, go_sem, hP]
    exact done_imm (imm_pair .sc .sc) (by rw [e])
  have ha := btw_iff.1 ca
  by_cases c1 : n < 0
  · have e := no fun h => by have := btw_iff.1 h.2.1; omega
    simp -dsimp -implicitDefEqProofs [-getElem?_pos, go_sem, hP, c1]
    exact done_imm (imm_pair .sc .sc) (by rw [e])
  have d1 := decide_eq_false c1
  by_cases c2 : 1000000 < n
  · have e := no fun h => by have := btw_iff.1 h.2.1; omega
    simp -dsimp -implicitDefEqProofs [-getElem?_pos, go_sem, hP, d1, c2]
    exact done_imm (imm_pair .sc .sc) (by rw [e])
  have d2 := decide_eq_false c2
  by_cases c3 : d < 1
  · have e := no fun h => by have := btw_iff.1 h.2.2; omega
    simp -dsimp -implicitDefEqProofs [-getElem?_pos, go_sem, hP, d1, d2, c3]
    exact done_imm (imm_pair .sc .sc) (by rw [e])
  have d3 := decide_eq_false c3
  by_cases c4 : 1000000 < d
  · have e := no fun h => by have := btw_iff.1 h.2.2; omega
    simp -dsimp -implicitDefEqProofs [-getElem?_pos, go_sem, hP, d1, d2, d3, c4]
    exact done_imm (imm_pair .sc .sc) (by rw [e])
  have d4 := decide_eq_false c4
  have m1 : 0 ≤ a * n := Int.mul_nonneg ha.1 (by omega)
  have m2 : a * n ≤ 1000000000000 * 1000000 := Int.mul_le_mul ha.2 (by omega) (by omega) (by omega)
  have rd := share_round (a * n) d (by omega)
  rw [← Int.mul_assoc 2 a n] at rd
  obtain ⟨N, hN'⟩ : ∃ N, N = a * n := ⟨_, rfl⟩
  rw [← hN'] at m1 m2 rd
  have q1 : N.tdiv d = N / d := Int.tdiv_eq_ediv_of_nonneg m1
  have q2 : N.tmod d = N % d := Int.tmod_eq_emod_of_nonneg m1
  have r1 := Int.emod_nonneg N (by omega : d ≠ 0)
  have r2 := Int.emod_lt_of_pos N (by omega : 0 < d)
  have k1 : 0 ≤ N / d := Int.ediv_nonneg m1 (by omega)
  have k2 : N / d ≤ N := Int.ediv_le_self _ m1
  have dn0 : ¬ d = 0 := by omega
  obtain ⟨q, hq⟩ : ∃ q, q = N / d := ⟨_, rfl⟩
  obtain ⟨r, hr'⟩ : ∃ r, r = N % d := ⟨_, rfl⟩
  rw [← hq] at q1 k1 k2 rd
  rw [← hr'] at q2 r1 r2 rd
  have wN := wrap_in N (by omega)
  have wq := wrap_in q (by omega)
  have wr := wrap_in r (by omega)
  have w2 := wrap_in (2 * r) (by omega)
  have wq1 := wrap_in (q + 1) (by omega)
  have bt : (btw a 0 1000000000000 && btw n 0 1000000 && btw d 1 1000000) = true := by rw [ca, btw_iff.2 ⟨by omega, by omega⟩, btw_iff.2 ⟨by omega, by omega⟩]; rfl
  rw [bt, Bool.true_and] at hR
  by_cases c5 : d ≤ 2 * r
  · rw [rd, if_pos c5] at hR
    simp -dsimp -implicitDefEqProofs [-getElem?_pos, go_sem, hP, d1, d2, d3, d4, hN'.symm, wN, q1, wq, q2, wr, w2, c5, wq1, dn0]
    refine callB_pure (rvalid_pf (q + 1)) hP en_40 (args_same (by simp -dsimp -implicitDefEqProofs [-getElem?_pos, go_sem])) .sc ?_
    by_cases c6 : q + 1 ≤ 1000000000000
    · rw [btw_iff.2 ⟨by omega, c6⟩]
      rw [decide_eq_true c6, if_pos rfl] at hR
      simp -dsimp -implicitDefEqProofs [-getElem?_pos, go_sem, hP]
      exact done_imm (imm_pair .sc .sc) (by rw [hR])
    · rw [btw_no (by omega)]
      rw [decide_eq_false c6, if_neg (by simp)] at hR
      simp -dsimp -implicitDefEqProofs [-getElem?_pos, go_sem, hP]
      exact done_imm (imm_pair .sc .sc) (by rw [hR])
  · have d5 := decide_eq_false c5
    rw [rd, if_neg c5, Int.add_zero] at hR
    simp -dsimp -implicitDefEqProofs [-getElem?_pos, go_sem, hP, d1, d2, d3, d4, hN'.symm, wN, q1, wq, q2, wr, w2, d5, dn0]
    refine callB_pure (rvalid_pf q) hP en_40 (args_same (by simp -dsimp -implicitDefEqProofs [-getElem?_pos, go_sem])) .sc ?_
    by_cases c6 : q ≤ 1000000000000
    · rw [btw_iff.2 ⟨by omega, c6⟩]
      rw [decide_eq_true c6, if_pos rfl] at hR
      simp -dsimp -implicitDefEqProofs [-getElem?_pos, go_sem, hP]
      exact done_imm (imm_pair .sc .sc) (by rw [hR])
    · rw [btw_no (by omega)]
      rw [decide_eq_false c6, if_neg (by simp)] at hR
      simp -dsimp -implicitDefEqProofs [-getElem?_pos, go_sem, hP]
      exact done_imm (imm_pair .sc .sc) (by rw [hR])

theorem ropen_pf (n : Int) (h : 0 ≤ n ∧ n ≤ 1000000000) : PFun Tryz.prog none none 44 [iv n] (· = iv (openD n)) := by
  refine pfun_intro Tryz.func44 rfl (by simp [Tryz.f44]) (by kernel_rfl) ?_
  intro E hP hr hs hW hN
  simp -dsimp -implicitDefEqProofs [-getElem?_pos, go_sem, hP]
  obtain ⟨R, hR⟩ : ∃ R, R = openD n := ⟨_, rfl⟩
  rw [← hR]
  obtain ⟨I, hI⟩ : ∃ I : Nat → St → Prop, I = fun m s => ∃ d : Int, m = (n + 3 - d).toNat ∧ 0 ≤ d ∧ d ≤ n + 2 ∧ openD d = R ∧ s.t 0 = iv d := ⟨_, rfl⟩
  refine aloop0 I (3) (by rw [hN]; rfl) ?_ ?_
  · rw [hI]
    exact ⟨n, by omega, h.1, by omega, hR.symm, by simp -dsimp -implicitDefEqProofs [-getElem?_pos, go_sem]⟩
  intro m s hs'
  rw [hI] at hs'
  obtain ⟨d, hm, h1, h2, hd, t0⟩ := hs'
  have ht : d.tmod 7 = d % 7 := Int.tmod_eq_emod_of_nonneg h1
  have wd := wrap_in (d + 1) (by omega)
  have hb : d ≤ n + 1 ∨ d % 7 < 5 := by
    by_cases c : d % 7 < 5
    · exact .inr c
    · left
      rw [openD, if_neg c] at hd
      unfold openD at hR
      split at hR <;> omega
  by_cases c5 : d % 7 = 5
  · simp -dsimp -implicitDefEqProofs [-getElem?_pos, go_sem, hP, t0, ht, c5, wd]
    refine ⟨(n + 3 - (d + 1)).toNat, by omega, ?_⟩
    rw [hI]
    refine ⟨d + 1, rfl, by omega, by omega, ?_, by simp -dsimp -implicitDefEqProofs [-getElem?_pos, go_sem]⟩
    rw [← hd]
    unfold openD
    repeat' split
    all_goals omega
  have d5 := decide_eq_false c5
  by_cases c6 : d % 7 = 6
  · simp -dsimp -implicitDefEqProofs [-getElem?_pos, go_sem, hP, t0, ht, d5, c6, wd]
    refine ⟨(n + 3 - (d + 1)).toNat, by omega, ?_⟩
    rw [hI]
    refine ⟨d + 1, rfl, by omega, by omega, ?_, by simp -dsimp -implicitDefEqProofs [-getElem?_pos, go_sem]⟩
    rw [← hd]
    unfold openD
    repeat' split
    all_goals omega
  have d6 := decide_eq_false c6
  have e : R = d := by rw [← hd, openD, if_pos (by omega)]
  simp -dsimp -implicitDefEqProofs [-getElem?_pos, go_sem, hP, t0, ht, d5, d6, e]

set_option maxHeartbeats 4000000 in
theorem rtax_pf (t : TTax) : PFun Tryz.prog none none 16 [.agg t.cells] (· = bv (taxB t)) := by
  refine pfun_intro Tryz.func16 rfl (by simp [Tryz.f16]) (by kernel_rfl) ?_
  intro E hP hr hs hW hN
  have hc : codeB t.Code = decide (0 < (partsD t.Code).length) := rfl
  have no : ¬ (codeB t.Code = true ∧ (1 ≤ t.Payer ∧ t.Payer ≤ 1000000) ∧ (0 ≤ t.Base ∧ t.Base ≤ 1000000000000) ∧ (0 ≤ t.Num ∧ t.Num ≤ t.Den) ∧ (1 ≤ t.Den ∧ t.Den ≤ 1000000) ∧ (0 ≤ t.First ∧ t.First ≤ 36000) ∧ (1 ≤ t.Every ∧ t.Every ≤ 60) ∧ (1 ≤ t.Times ∧ t.Times ≤ 60)) → taxB t = false := fun h => by
    cases e : taxB t
    · rfl
    · exact absurd (taxB_iff.1 e) h
  obtain ⟨R, hR⟩ : ∃ R, R = taxB t := ⟨_, rfl⟩
  rw [← hR] at no
  rw [← hR]
  have ip := imm_ints (partsD t.Code)
  obtain ⟨n, hn⟩ : ∃ n, n = (partsD t.Code).length := ⟨_, rfl⟩
  rw [← hn] at hc
  have hm : (List.map (fun x => [iv x]) (partsD t.Code)).length = n := by rw [List.length_map, hn]
  simp -dsimp -implicitDefEqProofs [-getElem?_pos, go_sem, hP, cTx]
  refine callB_is ((rparts_pf t.Code).lift _ _) hP en_39 (by simp -dsimp -implicitDefEqProofs [-getElem?_pos, go_sem]) ip ?_
  by_cases h0 : 0 < n
  rotate_left
  · have d0 : decide (0 < n) = false := decide_eq_false h0
    rw [d0] at hc
    have e := no fun h => by rw [hc] at h; simp at h
    simp -dsimp -implicitDefEqProofs [-getElem?_pos, go_sem, hP, intsL, hm, d0, e]
  have d0 : decide (0 < n) = true := decide_eq_true h0
  rw [d0] at hc
  by_cases c1 : 1 ≤ t.Payer
  rotate_left
  · have d1 := decide_eq_false c1
    have e := no fun h => by omega
    simp -dsimp -implicitDefEqProofs [-getElem?_pos, go_sem, hP, intsL, hm, d0, d1, e]
  have d1 := decide_eq_true c1
  by_cases c2 : t.Payer ≤ 1000000
  rotate_left
  · have d2 := decide_eq_false c2
    have e := no fun h => by omega
    simp -dsimp -implicitDefEqProofs [-getElem?_pos, go_sem, hP, intsL, hm, d0, d1, d2, e]
  have d2 := decide_eq_true c2
  simp -dsimp -implicitDefEqProofs [-getElem?_pos, go_sem, hP, intsL, hm, d0, d1, d2]
  refine callB_pure (rvalid_pf t.Base) hP en_40 (args_same (by simp -dsimp -implicitDefEqProofs [-getElem?_pos, go_sem])) .sc ?_
  cases cb : btw t.Base 0 1000000000000
  · have e := no fun h => by rw [btw_iff.2 h.2.2.1] at cb; cases cb
    simp -dsimp -implicitDefEqProofs [-getElem?_pos, go_sem, hP, e]
  have hb := btw_iff.1 cb
  by_cases c4 : 0 ≤ t.Num
  rotate_left
  · have d4 := decide_eq_false c4
    have e := no fun h => by omega
    simp -dsimp -implicitDefEqProofs [-getElem?_pos, go_sem, hP, d4, e]
  have d4 := decide_eq_true c4
  by_cases c5 : t.Num ≤ t.Den
  rotate_left
  · have d5 := decide_eq_false c5
    have e := no fun h => by omega
    simp -dsimp -implicitDefEqProofs [-getElem?_pos, go_sem, hP, d4, d5, e]
  have d5 := decide_eq_true c5
  by_cases c6 : 1 ≤ t.Den
  rotate_left
  · have d6 := decide_eq_false c6
    have e := no fun h => by omega
    simp -dsimp -implicitDefEqProofs [-getElem?_pos, go_sem, hP, d4, d5, d6, e]
  have d6 := decide_eq_true c6
  by_cases c7 : t.Den ≤ 1000000
  rotate_left
  · have d7 := decide_eq_false c7
    have e := no fun h => by omega
    simp -dsimp -implicitDefEqProofs [-getElem?_pos, go_sem, hP, d4, d5, d6, d7, e]
  have d7 := decide_eq_true c7
  by_cases c8 : 0 ≤ t.First
  rotate_left
  · have d8 := decide_eq_false c8
    have e := no fun h => by omega
    simp -dsimp -implicitDefEqProofs [-getElem?_pos, go_sem, hP, d4, d5, d6, d7, d8, e]
  have d8 := decide_eq_true c8
  by_cases c9 : t.First ≤ 36000
  rotate_left
  · have d9 := decide_eq_false c9
    have e := no fun h => by omega
    simp -dsimp -implicitDefEqProofs [-getElem?_pos, go_sem, hP, d4, d5, d6, d7, d8, d9, e]
  have d9 := decide_eq_true c9
  by_cases c10 : 1 ≤ t.Every
  rotate_left
  · have d10 := decide_eq_false c10
    have e := no fun h => by omega
    simp -dsimp -implicitDefEqProofs [-getElem?_pos, go_sem, hP, d4, d5, d6, d7, d8, d9, d10, e]
  have d10 := decide_eq_true c10
  by_cases c11 : t.Every ≤ 60
  rotate_left
  · have d11 := decide_eq_false c11
    have e := no fun h => by omega
    simp -dsimp -implicitDefEqProofs [-getElem?_pos, go_sem, hP, d4, d5, d6, d7, d8, d9, d10, d11, e]
  have d11 := decide_eq_true c11
  by_cases c12 : 1 ≤ t.Times
  rotate_left
  · have d12 := decide_eq_false c12
    have e := no fun h => by omega
    simp -dsimp -implicitDefEqProofs [-getElem?_pos, go_sem, hP, d4, d5, d6, d7, d8, d9, d10, d11, d12, e]
  have d12 := decide_eq_true c12
  by_cases c13 : t.Times ≤ 60
  rotate_left
  · have d13 := decide_eq_false c13
    have e := no fun h => by omega
    simp -dsimp -implicitDefEqProofs [-getElem?_pos, go_sem, hP, d4, d5, d6, d7, d8, d9, d10, d11, d12, d13, e]
  have d13 := decide_eq_true c13
  have e : R = true := by
    rw [hR]
    exact taxB_iff.2 ⟨hc, ⟨c1, c2⟩, hb, ⟨c4, c5⟩, ⟨c6, c7⟩, ⟨c8, c9⟩, ⟨c10, c11⟩, ⟨c12, c13⟩⟩
  simp -dsimp -implicitDefEqProofs [-getElem?_pos, go_sem, hP, d4, d5, d6, d7, d8, d9, d10, d11, d12, d13, e]

theorem ramount_pf (t : TTax) : PFun Tryz.prog none none 18 [.agg t.cells] (· = iv (amountD t)) := by
  refine pfun_intro Tryz.func18 rfl (by simp [Tryz.f18]) (by kernel_rfl) ?_
  intro E hP hr hs hW hN
  have tx := rtax_pf t
  have it := imm_tax t
  rw [cTx] at tx it
  simp -dsimp -implicitDefEqProofs [-getElem?_pos, go_sem, hP, cTx]
  refine callB_is (tx.lift _ _) hP en_16 (by simpa using it) .sc ?_
  cases c : taxB t
  · have e : amountD t = 0 := by simp [amountD, c]
    simp -dsimp -implicitDefEqProofs [-getElem?_pos, go_sem, hP, e]
  have e : amountD t = (shareD t.Base t.Num t.Den).1 := by simp [amountD, c]
  simp -dsimp -implicitDefEqProofs [-getElem?_pos, go_sem, hP]
  refine callB_is ((rshare_pf t.Base t.Num t.Den).lift _ _) hP en_42 (by simp -dsimp -implicitDefEqProofs [-getElem?_pos, go_sem]) (imm_pair .sc .sc) ?_
  simp -dsimp -implicitDefEqProofs [-getElem?_pos, go_sem, hP, e]

theorem openD_le (x : Int) : x ≤ openD x ∧ openD x ≤ x + 2 := by
  unfold openD
  split <;> omega
theorem nextD_open {x : Int} (h : 0 ≤ x) : nextD x = if openD x ≤ 36000 then (openD x, 0) else (0, 2) := by
  have := (openD_le x).1
  by_cases c : openD x ≤ 36000
  · rw [nextD, if_pos c, if_pos ⟨h, by omega, c⟩]
  · rw [nextD, if_neg c, if_neg fun k => c k.2.2]
set_option maxHeartbeats 2000000 in
theorem rdays_pf (t : TTax) : PFun Tryz.prog none none 21 [.agg t.cells] (· = intsL (daysD t)) := by
  refine pfun_intro Tryz.func21 rfl (by simp [Tryz.f21]) (by kernel_rfl) ?_
  intro E hP hr hs hW hN
  have tx := rtax_pf t
  have it := imm_tax t
  rw [cTx] at tx it
  simp -dsimp -implicitDefEqProofs [-getElem?_pos, go_sem, hP, cTx]
  refine callB_is (tx.lift _ _) hP en_16 (by simpa using it) .sc ?_
  cases c : taxB t
  · have e : daysD t = [] := by simp [daysD, c]
    simp -dsimp -implicitDefEqProofs [-getElem?_pos, go_sem, hP]
    rw [e]
    exact done_nil 1 rfl
  obtain ⟨_, _, _, _, _, ⟨f1, f2⟩, ⟨v1, v2⟩, ⟨n1, n2⟩⟩ := taxB_iff.1 c
  obtain ⟨n, hn⟩ : ∃ n : Nat, n = t.Times.toNat := ⟨_, rfl⟩
  have hT : t.Times = n := by omega
  have e : daysD t = daysGo t n := by simp [daysD, c, hn]
  rw [e]
  simp -dsimp -implicitDefEqProofs [-getElem?_pos, go_sem, hP, hT]
  refine aloop_own 3 3 1 (by simp -dsimp -implicitDefEqProofs [-getElem?_pos, go_sem]) ?_
  obtain ⟨I, hI⟩ : ∃ I : Nat → St → Prop, I = fun m s => ∃ k id : Nat, k ≤ n ∧ m = n - k ∧ ¬ id = 0 ∧ s.t 1 = .ref 0 0 0 ∧ s.t 4 = iv k ∧ s.t 3 = .sref id 0 (daysGo t k).length ∧ s.H[0]? = some (some ⟨30, 8, [[.sc (.string t.Code), iv t.Payer, iv t.Base, iv t.Num, iv t.Den, iv t.First, iv t.Every, iv n]]⟩) ∧ s.H[id]? = some (some ⟨3, 1, (daysGo t k).map fun x => [iv x]⟩) := ⟨_, rfl⟩
  refine aloop0 I (n) (by rw [hN]; rfl) ?_ ?_
  · rw [hI]
    exact ⟨0, 1, by omega, by omega, by omega, by simp -dsimp -implicitDefEqProofs [-getElem?_pos, go_sem], by simp -dsimp -implicitDefEqProofs [-getElem?_pos, go_sem], by simp -dsimp -implicitDefEqProofs [-getElem?_pos, go_sem, daysGo], by simp -dsimp -implicitDefEqProofs [-getElem?_pos, go_sem], by simp -dsimp -implicitDefEqProofs [-getElem?_pos, go_sem, daysGo]⟩
  intro m s hs'
  rw [hI] at hs'
  obtain ⟨k, id, hk, hm, hid, t1, t4, t3, h0, hH⟩ := hs'
  have lt0 := (List.getElem?_eq_some_iff.1 h0).1
  have ltH := (List.getElem?_eq_some_iff.1 hH).1
  subst hm
  simp -dsimp -implicitDefEqProofs [-getElem?_pos, go_sem, hP, t4, t1, h0, lt0]
  refine condP (fun h => ?_) (fun h => ?_)
  · have hk : k < n := by
      have : (k : Int) < (n : Int) := by simpa using h
      omega
    have wk := wrap_in ((k : Int) + 1) (by omega)
    have b1 : 0 ≤ 30 * t.Every * k := Int.mul_nonneg (by omega) (by omega)
    have b2 : 30 * t.Every * k ≤ 1800 * 60 := Int.mul_le_mul (by omega) (by omega) (by omega) (by omega)
    have w1 := wrap_in (30 * t.Every) (by omega)
    have w2 := wrap_in (30 * t.Every * k) (by omega)
    have w3 := wrap_in (t.First + 30 * t.Every * k) (by omega)
    have sn := daysGo_snoc t k
    obtain ⟨x, hx⟩ : ∃ x, x = t.First + 30 * t.Every * k := ⟨_, rfl⟩
    rw [← hx] at w3 sn
    rw [nextD_open (by omega)] at sn
    have ld := daysGo_len t k
    obtain ⟨ds, hds⟩ : ∃ ds, ds = daysGo t k := ⟨_, rfl⟩
    rw [← hds] at sn t3 hH ld
    have nxt : ∀ (s2 : St) (id2 : Nat) (ds2 : List Int), daysGo t (k + 1) = ds2 → ¬ id2 = 0 → s2.t 1 = .ref 0 0 0 → s2.t 4 = iv ((k : Int) + 1) → s2.t 3 = .sref id2 0 ds2.length → s2.H[0]? = s.H[0]? → s2.H[id2]? = some (some ⟨3, 1, ds2.map fun x => [iv x]⟩) → ∃ n', n' < n - k ∧ I n' s2 := fun s2 id2 ds2 e b1 b2 b3 b4 b5 b6 => by
      refine ⟨n - (k + 1), by omega, ?_⟩
      rw [hI]
      exact ⟨k + 1, id2, by omega, rfl, b1, b2, b3, by rw [e]; exact b4, b5.trans h0, by rw [e]; exact b6⟩
    simp -dsimp -implicitDefEqProofs [-getElem?_pos, go_sem, hP, t4, t1, h0, lt0, w1, w2, hx.symm, w3]
    refine callB_pure (ropen_pf x (by omega)) hP en_44 (args_same (by simp -dsimp -implicitDefEqProofs [-getElem?_pos, go_sem])) .sc ?_
    by_cases c36 : openD x ≤ 36000
    · rw [if_pos c36] at sn
      simp only at sn
      rw [if_pos trivial] at sn
      simp -dsimp -implicitDefEqProofs [-getElem?_pos, go_sem, hP, c36, t3, hH, ltH, t4, wk]
      refine ⟨by omega, by omega, nxt _ s.H.length (ds ++ [openD x]) sn (by omega) (by simp -dsimp -implicitDefEqProofs [-getElem?_pos, go_sem, t1]) (by simp -dsimp -implicitDefEqProofs [-getElem?_pos, go_sem]) (by simp -dsimp -implicitDefEqProofs [-getElem?_pos, go_sem]) ?_ ?_⟩
      · rw [List.getElem?_append_left (by rw [List.length_set]; exact lt0), List.getElem?_set_ne hid]
      · rw [List.getElem?_append_right (by rw [List.length_set]; omega), List.length_set, Nat.sub_self]
        simp
    · have d36 := decide_eq_false c36
      rw [if_neg c36] at sn
      simp only at sn
      rw [if_neg (by decide), List.append_nil] at sn
      simp -dsimp -implicitDefEqProofs [-getElem?_pos, go_sem, hP, d36, t4, wk]
      exact nxt _ id ds sn hid (by simp -dsimp -implicitDefEqProofs [-getElem?_pos, go_sem, t1]) (by simp -dsimp -implicitDefEqProofs [-getElem?_pos, go_sem]) (by simp -dsimp -implicitDefEqProofs [-getElem?_pos, go_sem, t3]) rfl hH
  · have hk : k = n := by
      have : ¬ (k : Int) < (n : Int) := by simpa using h
      omega
    subst hk
    simp -dsimp -implicitDefEqProofs [-getElem?_pos, go_sem, hP, t3]
    refine done (x := intsL (daysGo t k)) ?_ rfl ?_ <;> rw [view_sref, hH, viewS_some, List.drop_zero, List.take_of_length_le (by simp)]
    · exact imm_ints _
    · rfl

set_option maxHeartbeats 1000000 in
theorem rcheck_pf (l : List TTax) (hl : l.length ≤ 1000000) : PFun Tryz.prog none none 14 [taxesL l] (· = iv (checkT l)) := by
  refine pfun_intro Tryz.func14 rfl (by simp [Tryz.f14]) (by kernel_rfl) ?_
  intro E hP hr hs hW hN
  by_cases h1 : 20 < l.length
  · have d1 : decide ((20 : Int) < (l.length : Int)) = true := decide_eq_true (by omega)
    have e : checkT l = 3 := by rw [checkT, if_pos h1]
    simp -dsimp -implicitDefEqProofs [-getElem?_pos, go_sem, hP, d1, e]
  have d1 : decide ((20 : Int) < (l.length : Int)) = false := decide_eq_false (by omega)
  simp -dsimp -implicitDefEqProofs [-getElem?_pos, go_sem, hP, d1]
  obtain ⟨I, hI⟩ : ∃ I : Nat → St → Prop, I = fun m s => ∃ k : Nat, k ≤ l.length ∧ m = l.length - k ∧ s.t 8 = taxesL l ∧ s.t 9 = iv l.length ∧ s.t 10 = iv k ∧ ∀ t, t ∈ l.take k → taxB t = true := ⟨_, rfl⟩
  refine aloop0 I (l.length) (by rw [hN]; rfl) ?_ ?_
  · rw [hI]
    exact ⟨0, by omega, by omega, by simp -dsimp -implicitDefEqProofs [-getElem?_pos, go_sem], by simp -dsimp -implicitDefEqProofs [-getElem?_pos, go_sem], by simp -dsimp -implicitDefEqProofs [-getElem?_pos, go_sem], by simp⟩
  intro m s hs'
  rw [hI] at hs'
  obtain ⟨k, hk, hm, t8, t9, t10, hall⟩ := hs'
  subst hm
  simp -dsimp -implicitDefEqProofs [-getElem?_pos, go_sem, hP, t9, t10]
  refine condP (fun h => ?_) (fun h => ?_)
  · have hk : k < l.length := by simpa using h
    obtain ⟨t, ht⟩ : ∃ t, l[k]? = some t := ⟨_, List.getElem?_eq_getElem hk⟩
    have wk := wrap_in ((k : Int) + 1) (by omega)
    have tx := rtax_pf t
    have it := imm_tax t
    rw [cTx] at tx it
    simp -dsimp -implicitDefEqProofs [-getElem?_pos, go_sem, hP, t8, t10, ht, cTx]
    refine callB_is (tx.lift _ _) hP en_16 (by simpa using it) .sc ?_
    cases c : taxB t
    · have e : checkT l = 71 := by
        rw [checkT, if_neg h1, if_pos]
        exact List.any_eq_true.2 ⟨t, List.mem_of_getElem? ht, by rw [c]; rfl⟩
      simp -dsimp -implicitDefEqProofs [-getElem?_pos, go_sem, hP, e]
    · simp -dsimp -implicitDefEqProofs [-getElem?_pos, go_sem, hP, t10, wk]
      refine ⟨l.length - (k + 1), by omega, ?_⟩
      rw [hI]
      refine ⟨k + 1, by omega, rfl, by simp -dsimp -implicitDefEqProofs [-getElem?_pos, go_sem, t8], by simp -dsimp -implicitDefEqProofs [-getElem?_pos, go_sem, t9], by simp -dsimp -implicitDefEqProofs [-getElem?_pos, go_sem], fun u hu => ?_⟩
      rw [takeAt ht] at hu
      rcases List.mem_append.1 hu with hu | hu
      · exact hall u hu
      · rw [List.mem_singleton.1 hu]; exact c
  · have hk : k = l.length := by
      have : ¬ k < l.length := by simpa using h
      omega
    subst hk
    rw [List.take_length] at hall
    have e := checkT_ok (by omega) hall
    simp -dsimp -implicitDefEqProofs [-getElem?_pos, go_sem, hP, e]
end Go.Proofs.YtabdihohphlheaaGreatDoor
