/- Receipts: lists of claims and of incomes. -/
import Derived.Test.YtgapbmaehfdkoaaGreatDoorCash1
import Derived.Test.YtgapbmaehfdkoaaGreatDoorRParts
import Derived.Test.YtgapbmaehfdkoaaGreatDoorCashM
set_option linter.unusedSimpArgs false
set_option linter.unusedVariables false
namespace Go.Proofs.YtgapbmaehfdkoaaGreatDoor
open Go.PA
open Go.RowKit

abbrev claimsL (l : List TClaim) : AV := .list 6 (encL TClaim.cells l)
abbrev incomesL (l : List TIncome) : AV := .list 5 (encL TIncome.cells l)
abbrev matchesL (l : List TMatch) : AV := .list 3 (encL TMatch.cells l)
theorem imm_claims (l : List TClaim) : Imm (claimsL l) := imm_encL _ TClaim.imm l
theorem imm_incomes (l : List TIncome) : Imm (incomesL l) := imm_encL _ TIncome.imm l
theorem imm_matches (l : List TMatch) : Imm (matchesL l) := imm_encL _ TMatch.imm l
theorem cMtc (m : TMatch) : m.cells = [iv m.Income, iv m.Claim, iv m.Amount] := rfl
theorem cCsh (c : TCash) : c.cells = [claimsL c.Claims, incomesL c.Incomes, matchesL c.Matches, .list 1 (encL encI c.Loose)] := rfl
def prevI (l : List TClaim) : Nat → Int
  | 0 => 0
  | k + 1 => ((l[k]?).map (·.ID)).getD 0
def prevN (l : List TIncome) : Nat → Int
  | 0 => 0
  | k + 1 => ((l[k]?).map (·.Number)).getD 0
def prevD (l : List TIncome) : Nat → Int
  | 0 => 0
  | k + 1 => ((l[k]?).map (·.Day)).getD 0

theorem crclaim_pf (x : TClaim) (hl : x.Code.size ≤ 1000000) : PFun Tryz.prog none none 30 [.agg x.cells] (· = bv (payB x)) := by
  refine pfun_intro Tryz.func30 rfl (by simp [Tryz.f30]) (by kernel_rfl) ?_
  intro E hP hr hs hW hN
  have ip : Imm (intsL (partsD x.Code)) := by simp [intsL, go_sem]
  obtain ⟨n, hn⟩ : ∃ n, n = (partsD x.Code).length := ⟨_, rfl⟩
  have hc : codeB x.Code = decide (0 < n) := by rw [hn]; rfl
  have hm : (List.map (fun x => [iv x]) (partsD x.Code)).length = n := by rw [List.length_map, hn]
  obtain ⟨R, hR⟩ : ∃ R, R = payB x := ⟨_, rfl⟩
  rw [← hR]
  rw [payB, hc] at hR
  by_cases h0 : 1 ≤ x.ID
  rotate_left
  · rw [btw_no (by omega)] at hR
    simp -dsimp -implicitDefEqProofs [-getElem?_pos, go_sem, hP, cClm, h0, hR]
  by_cases h1 : x.ID ≤ 1000000
  rotate_left
  · rw [btw_no (n := x.ID) (by omega)] at hR
    simp -dsimp -implicitDefEqProofs [-getElem?_pos, go_sem, hP, cClm, h0, h1, hR]
  rw [btw_iff.2 ⟨h0, h1⟩] at hR
  by_cases h2 : 1 ≤ x.Payer
  rotate_left
  · rw [btw_no (n := x.Payer) (by omega)] at hR
    simp -dsimp -implicitDefEqProofs [-getElem?_pos, go_sem, hP, cClm, h0, h1, h2, hR]
  by_cases h3 : x.Payer ≤ 1000000
  rotate_left
  · rw [btw_no (n := x.Payer) (by omega)] at hR
    simp -dsimp -implicitDefEqProofs [-getElem?_pos, go_sem, hP, cClm, h0, h1, h2, h3, hR]
  rw [btw_iff.2 ⟨h2, h3⟩] at hR
  by_cases h4 : 1 ≤ x.Amount
  rotate_left
  · rw [btw_no (n := x.Amount) (by omega)] at hR
    simp -dsimp -implicitDefEqProofs [-getElem?_pos, go_sem, hP, cClm, h0, h1, h2, h3, h4, hR]
  by_cases h5 : x.Amount ≤ 1000000000000
  rotate_left
  · rw [btw_no (n := x.Amount) (by omega)] at hR
    simp -dsimp -implicitDefEqProofs [-getElem?_pos, go_sem, hP, cClm, h0, h1, h2, h3, h4, h5, hR]
  rw [btw_iff.2 ⟨h4, h5⟩] at hR
  by_cases h6 : 0 ≤ x.Open
  rotate_left
  · rw [btw_no (n := x.Open) (by omega)] at hR
    simp -dsimp -implicitDefEqProofs [-getElem?_pos, go_sem, hP, cClm, h0, h1, h2, h3, h4, h5, h6, hR]
  by_cases h7 : x.Open ≤ x.Amount
  rotate_left
  · rw [btw_no (n := x.Open) (by omega)] at hR
    simp -dsimp -implicitDefEqProofs [-getElem?_pos, go_sem, hP, cClm, h0, h1, h2, h3, h4, h5, h6, h7, hR]
  rw [btw_iff.2 ⟨h6, h7⟩] at hR
  by_cases h8 : 0 ≤ x.Day
  rotate_left
  · rw [btw_no (n := x.Day) (by omega)] at hR
    simp -dsimp -implicitDefEqProofs [-getElem?_pos, go_sem, hP, cClm, h0, h1, h2, h3, h4, h5, h6, h7, h8, hR]
  by_cases h9 : x.Day ≤ 36000
  rotate_left
  · rw [btw_no (n := x.Day) (by omega)] at hR
    simp -dsimp -implicitDefEqProofs [-getElem?_pos, go_sem, hP, cClm, h0, h1, h2, h3, h4, h5, h6, h7, h8, h9, hR]
  rw [btw_iff.2 ⟨h8, h9⟩] at hR
  simp -dsimp -implicitDefEqProofs [-getElem?_pos, go_sem, hP, cClm, h0, h1, h2, h3, h4, h5, h6, h7, h8, h9]
  refine callB_is ((rparts_pf x.Code).lift _ _) hP en_61 (by simp -dsimp -implicitDefEqProofs [-getElem?_pos, go_sem]) ip ?_
  simp -dsimp -implicitDefEqProofs [-getElem?_pos, go_sem, hP, intsL, hm, hR]

theorem crincome_pf (x : TIncome) : PFun Tryz.prog none none 55 [.agg x.cells] (· = bv (incB x)) := by
  refine pfun_intro Tryz.func55 rfl (by simp [Tryz.f55]) (by kernel_rfl) ?_
  intro E hP hr hs hW hN
  obtain ⟨R, hR⟩ : ∃ R, R = incB x := ⟨_, rfl⟩
  rw [← hR]
  rw [incB] at hR
  by_cases h0 : 1 ≤ x.Number
  rotate_left
  · rw [btw_no (by omega)] at hR
    simp -dsimp -implicitDefEqProofs [-getElem?_pos, go_sem, hP, cIncm, h0, hR]
  by_cases h1 : x.Number ≤ 1000000
  rotate_left
  · rw [btw_no (n := x.Number) (by omega)] at hR
    simp -dsimp -implicitDefEqProofs [-getElem?_pos, go_sem, hP, cIncm, h0, h1, hR]
  rw [btw_iff.2 ⟨h0, h1⟩] at hR
  by_cases h2 : 1 ≤ x.Payer
  rotate_left
  · rw [btw_no (n := x.Payer) (by omega)] at hR
    simp -dsimp -implicitDefEqProofs [-getElem?_pos, go_sem, hP, cIncm, h0, h1, h2, hR]
  by_cases h3 : x.Payer ≤ 1000000
  rotate_left
  · rw [btw_no (n := x.Payer) (by omega)] at hR
    simp -dsimp -implicitDefEqProofs [-getElem?_pos, go_sem, hP, cIncm, h0, h1, h2, h3, hR]
  rw [btw_iff.2 ⟨h2, h3⟩] at hR
  by_cases h4 : 0 ≤ x.Day
  rotate_left
  · rw [btw_no (n := x.Day) (by omega)] at hR
    simp -dsimp -implicitDefEqProofs [-getElem?_pos, go_sem, hP, cIncm, h0, h1, h2, h3, h4, hR]
  by_cases h5 : x.Day ≤ 36000
  rotate_left
  · rw [btw_no (n := x.Day) (by omega)] at hR
    simp -dsimp -implicitDefEqProofs [-getElem?_pos, go_sem, hP, cIncm, h0, h1, h2, h3, h4, h5, hR]
  rw [btw_iff.2 ⟨h4, h5⟩] at hR
  by_cases h6 : 1 ≤ x.Amount
  rotate_left
  · rw [btw_no (n := x.Amount) (by omega)] at hR
    simp -dsimp -implicitDefEqProofs [-getElem?_pos, go_sem, hP, cIncm, h0, h1, h2, h3, h4, h5, h6, hR]
  by_cases h7 : x.Amount ≤ 1000000000000
  rotate_left
  · rw [btw_no (n := x.Amount) (by omega)] at hR
    simp -dsimp -implicitDefEqProofs [-getElem?_pos, go_sem, hP, cIncm, h0, h1, h2, h3, h4, h5, h6, h7, hR]
  rw [btw_iff.2 ⟨h6, h7⟩] at hR
  by_cases h8 : 0 ≤ x.Claim
  rotate_left
  · rw [btw_no (n := x.Claim) (by omega)] at hR
    simp -dsimp -implicitDefEqProofs [-getElem?_pos, go_sem, hP, cIncm, h0, h1, h2, h3, h4, h5, h6, h7, h8, hR]
  by_cases h9 : x.Claim ≤ 1000000
  rotate_left
  · rw [btw_no (n := x.Claim) (by omega)] at hR
    simp -dsimp -implicitDefEqProofs [-getElem?_pos, go_sem, hP, cIncm, h0, h1, h2, h3, h4, h5, h6, h7, h8, h9, hR]
  rw [btw_iff.2 ⟨h8, h9⟩] at hR
  simp -dsimp -implicitDefEqProofs [-getElem?_pos, go_sem, hP, cIncm, h0, h1, h2, h3, h4, h5, h6, h7, h8, h9, hR]

set_option maxHeartbeats 1000000 in
theorem cclaims_pf (l : List TClaim) (hl : l.length ≤ 1000000) (hc : ∀ x, x ∈ l → x.Code.size ≤ 1000000) : PFun Tryz.prog none none 46 [claimsL l] (· = bv (paysB 0 l)) := by
  refine pfun_intro Tryz.func46 rfl (by simp [Tryz.f46]) (by kernel_rfl) ?_
  intro E hP hr hs hW hN
  obtain ⟨R, hR⟩ : ∃ R, R = paysB 0 l := ⟨_, rfl⟩
  rw [← hR]
  simp -dsimp -implicitDefEqProofs [-getElem?_pos, go_sem, hP]
  obtain ⟨I, hI⟩ : ∃ I : Nat → St → Prop, I = fun m s => ∃ k : Nat, k ≤ l.length ∧ m = l.length - k ∧ R = paysB (prevI l k) (l.drop k) ∧ s.t 0 = claimsL l ∧ s.t 5 = claimsL l ∧ s.t 6 = iv l.length ∧ s.t 7 = iv k := ⟨_, rfl⟩
  refine aloop0 I (l.length) (by rw [hN]; rfl) ?_ ?_
  · rw [hI]
    exact ⟨0, by omega, by omega, hR, by simp -dsimp -implicitDefEqProofs [-getElem?_pos, go_sem], by simp -dsimp -implicitDefEqProofs [-getElem?_pos, go_sem], by simp -dsimp -implicitDefEqProofs [-getElem?_pos, go_sem], by simp -dsimp -implicitDefEqProofs [-getElem?_pos, go_sem]⟩
  intro m s hs'
  rw [hI] at hs'
  obtain ⟨k, hk, hm, hRk, t0, t5, t6, t7⟩ := hs'
  simp -dsimp -implicitDefEqProofs [-getElem?_pos, go_sem, hP, t6, t7]
  refine condP (fun h => ?_) (fun h => ?_)
  · have hk : k < l.length := by simpa using h
    obtain ⟨x, hx⟩ : ∃ x, l[k]? = some x := ⟨_, List.getElem?_eq_getElem hk⟩
    have wk := wrap_in ((k : Int) + 1) (by omega)
    have px := cclaim_pf x (hc x (List.mem_of_getElem? hx))
    have ix := imm_agg.2 (TClaim.imm x)
    rw [cClm] at px ix
    rw [drop_atL hx, paysB] at hRk
    simp -dsimp -implicitDefEqProofs [-getElem?_pos, go_sem, hP, t5, t7, hx, cClm]
    refine adrawB (fun _ => true) [] hP (by kernel_rfl) (by kernel_rfl) ?_
    simp -dsimp -implicitDefEqProofs [-getElem?_pos, go_sem, hP]
    refine callB_pure px hP en_29 (args_same (by simpa using ix)) .sc ?_
    cases c1 : payB x
    · rw [c1, Bool.false_and, Bool.false_and] at hRk
      simp -dsimp -implicitDefEqProofs [-getElem?_pos, go_sem, hP, hRk]
    have pos := (payB_iff.1 c1).1.1
    rw [c1, Bool.true_and] at hRk
    have fin : ∀ s' : St, R = paysB x.ID (l.drop (k + 1)) → s'.t 0 = claimsL l → s'.t 5 = claimsL l → s'.t 6 = iv l.length → s'.t 7 = iv ((k : Int) + 1) → ∃ m', m' < l.length - k ∧ I m' s' := fun s' a1 a2 a3 a4 a5 => by
      refine ⟨l.length - (k + 1), by omega, ?_⟩
      rw [hI]
      refine ⟨k + 1, by omega, rfl, ?_, a2, a3, a4, by rw [a5]; simp⟩
      rw [a1]
      simp [prevI, hx]
    subst hm
    cases k with
    | zero =>
      have d : decide ((0 : Int) < x.ID) = true := decide_eq_true (by omega)
      rw [prevI, d, Bool.true_and] at hRk
      have w1 : IntKind.i64.wrap 1 = 1 := wrap_in 1 (by omega)
      simp -dsimp -implicitDefEqProofs [-getElem?_pos, go_sem, hP, t7, w1]
      exact fin _ hRk (by simp -dsimp -implicitDefEqProofs [-getElem?_pos, go_sem, t0]) (by simp -dsimp -implicitDefEqProofs [-getElem?_pos, go_sem, t5]) (by simp -dsimp -implicitDefEqProofs [-getElem?_pos, go_sem, t6]) (by simp -dsimp -implicitDefEqProofs [-getElem?_pos, go_sem, w1])
    | succ j =>
      obtain ⟨y, hy⟩ : ∃ y, l[j]? = some y := ⟨_, List.getElem?_eq_getElem (by omega)⟩
      have wj := wrap_in ((j : Int) + 1 - 1) (by omega)
      rw [Int.add_sub_cancel] at wj
      have ep : prevI l (j + 1) = y.ID := by simp [prevI, hy]
      rw [ep] at hRk
      have d0 : decide ((0 : Int) < (j : Int) + 1) = true := decide_eq_true (by omega)
      have wk2 := wrap_in ((j : Int) + 1 + 1) (by omega)
      by_cases c2 : y.ID < x.ID
      · have d : decide (x.ID ≤ y.ID) = false := decide_eq_false (by omega)
        have d2 : decide (y.ID < x.ID) = true := decide_eq_true c2
        rw [d2, Bool.true_and] at hRk
        simp -dsimp -implicitDefEqProofs [-getElem?_pos, go_sem, hP, t0, t7, d0, Int.add_sub_cancel, wj, hy, cClm, d, wk2]
        exact fin _ hRk (by simp -dsimp -implicitDefEqProofs [-getElem?_pos, go_sem, t0]) (by simp -dsimp -implicitDefEqProofs [-getElem?_pos, go_sem, t5]) (by simp -dsimp -implicitDefEqProofs [-getElem?_pos, go_sem, t6]) (by simp -dsimp -implicitDefEqProofs [-getElem?_pos, go_sem])
      · have d : decide (x.ID ≤ y.ID) = true := decide_eq_true (by omega)
        have d2 : decide (y.ID < x.ID) = false := decide_eq_false c2
        rw [d2, Bool.false_and] at hRk
        simp -dsimp -implicitDefEqProofs [-getElem?_pos, go_sem, hP, t0, t7, d0, Int.add_sub_cancel, wj, hy, cClm, d, wk2, hRk]
  · have hk : k = l.length := by simp at h; omega
    subst hk
    rw [List.drop_length, paysB] at hRk
    simp -dsimp -implicitDefEqProofs [-getElem?_pos, go_sem, hP, hRk]

set_option maxHeartbeats 1000000 in
theorem crclaims_pf (l : List TClaim) (hl : l.length ≤ 1000000) (hc : ∀ x, x ∈ l → x.Code.size ≤ 1000000) : PFun Tryz.prog none none 54 [claimsL l] (· = bv (paysB 0 l)) := by
  refine pfun_intro Tryz.func54 rfl (by simp [Tryz.f54]) (by kernel_rfl) ?_
  intro E hP hr hs hW hN
  obtain ⟨R, hR⟩ : ∃ R, R = paysB 0 l := ⟨_, rfl⟩
  rw [← hR]
  simp -dsimp -implicitDefEqProofs [-getElem?_pos, go_sem, hP]
  obtain ⟨I, hI⟩ : ∃ I : Nat → St → Prop, I = fun m s => ∃ k : Nat, k ≤ l.length ∧ m = l.length - k ∧ R = paysB (prevI l k) (l.drop k) ∧ s.t 0 = claimsL l ∧ s.t 5 = claimsL l ∧ s.t 6 = iv l.length ∧ s.t 7 = iv k := ⟨_, rfl⟩
  refine aloop0 I (l.length) (by rw [hN]; rfl) ?_ ?_
  · rw [hI]
    exact ⟨0, by omega, by omega, hR, by simp -dsimp -implicitDefEqProofs [-getElem?_pos, go_sem], by simp -dsimp -implicitDefEqProofs [-getElem?_pos, go_sem], by simp -dsimp -implicitDefEqProofs [-getElem?_pos, go_sem], by simp -dsimp -implicitDefEqProofs [-getElem?_pos, go_sem]⟩
  intro m s hs'
  rw [hI] at hs'
  obtain ⟨k, hk, hm, hRk, t0, t5, t6, t7⟩ := hs'
  simp -dsimp -implicitDefEqProofs [-getElem?_pos, go_sem, hP, t6, t7]
  refine condP (fun h => ?_) (fun h => ?_)
  · have hk : k < l.length := by simpa using h
    obtain ⟨x, hx⟩ : ∃ x, l[k]? = some x := ⟨_, List.getElem?_eq_getElem hk⟩
    have wk := wrap_in ((k : Int) + 1) (by omega)
    have px := crclaim_pf x (hc x (List.mem_of_getElem? hx))
    have ix := imm_agg.2 (TClaim.imm x)
    rw [cClm] at px ix
    rw [drop_atL hx, paysB] at hRk
    simp -dsimp -implicitDefEqProofs [-getElem?_pos, go_sem, hP, t5, t7, hx, cClm]
    refine adrawB (fun _ => true) [] hP (by kernel_rfl) (by kernel_rfl) ?_
    simp -dsimp -implicitDefEqProofs [-getElem?_pos, go_sem, hP]
    refine callB_pure px hP en_30 (args_same (by simpa using ix)) .sc ?_
    cases c1 : payB x
    · rw [c1, Bool.false_and, Bool.false_and] at hRk
      simp -dsimp -implicitDefEqProofs [-getElem?_pos, go_sem, hP, hRk]
    have pos := (payB_iff.1 c1).1.1
    rw [c1, Bool.true_and] at hRk
    have fin : ∀ s' : St, R = paysB x.ID (l.drop (k + 1)) → s'.t 0 = claimsL l → s'.t 5 = claimsL l → s'.t 6 = iv l.length → s'.t 7 = iv ((k : Int) + 1) → ∃ m', m' < l.length - k ∧ I m' s' := fun s' a1 a2 a3 a4 a5 => by
      refine ⟨l.length - (k + 1), by omega, ?_⟩
      rw [hI]
      refine ⟨k + 1, by omega, rfl, ?_, a2, a3, a4, by rw [a5]; simp⟩
      rw [a1]
      simp [prevI, hx]
    subst hm
    cases k with
    | zero =>
      have d : decide ((0 : Int) < x.ID) = true := decide_eq_true (by omega)
      rw [prevI, d, Bool.true_and] at hRk
      have w1 : IntKind.i64.wrap 1 = 1 := wrap_in 1 (by omega)
      simp -dsimp -implicitDefEqProofs [-getElem?_pos, go_sem, hP, t7, w1]
      exact fin _ hRk (by simp -dsimp -implicitDefEqProofs [-getElem?_pos, go_sem, t0]) (by simp -dsimp -implicitDefEqProofs [-getElem?_pos, go_sem, t5]) (by simp -dsimp -implicitDefEqProofs [-getElem?_pos, go_sem, t6]) (by simp -dsimp -implicitDefEqProofs [-getElem?_pos, go_sem, w1])
    | succ j =>
      obtain ⟨y, hy⟩ : ∃ y, l[j]? = some y := ⟨_, List.getElem?_eq_getElem (by omega)⟩
      have wj := wrap_in ((j : Int) + 1 - 1) (by omega)
      rw [Int.add_sub_cancel] at wj
      have ep : prevI l (j + 1) = y.ID := by simp [prevI, hy]
      rw [ep] at hRk
      have d0 : decide ((0 : Int) < (j : Int) + 1) = true := decide_eq_true (by omega)
      have wk2 := wrap_in ((j : Int) + 1 + 1) (by omega)
      by_cases c2 : y.ID < x.ID
      · have d : decide (x.ID ≤ y.ID) = false := decide_eq_false (by omega)
        have d2 : decide (y.ID < x.ID) = true := decide_eq_true c2
        rw [d2, Bool.true_and] at hRk
        simp -dsimp -implicitDefEqProofs [-getElem?_pos, go_sem, hP, t0, t7, d0, Int.add_sub_cancel, wj, hy, cClm, d, wk2]
        exact fin _ hRk (by simp -dsimp -implicitDefEqProofs [-getElem?_pos, go_sem, t0]) (by simp -dsimp -implicitDefEqProofs [-getElem?_pos, go_sem, t5]) (by simp -dsimp -implicitDefEqProofs [-getElem?_pos, go_sem, t6]) (by simp -dsimp -implicitDefEqProofs [-getElem?_pos, go_sem])
      · have d : decide (x.ID ≤ y.ID) = true := decide_eq_true (by omega)
        have d2 : decide (y.ID < x.ID) = false := decide_eq_false c2
        rw [d2, Bool.false_and] at hRk
        simp -dsimp -implicitDefEqProofs [-getElem?_pos, go_sem, hP, t0, t7, d0, Int.add_sub_cancel, wj, hy, cClm, d, wk2, hRk]
  · have hk : k = l.length := by simp at h; omega
    subst hk
    rw [List.drop_length, paysB] at hRk
    simp -dsimp -implicitDefEqProofs [-getElem?_pos, go_sem, hP, hRk]


theorem incB_pos {x : TIncome} (h : incB x = true) : 0 < x.Number ∧ 0 ≤ x.Day := by
  simp only [incB, Bool.and_eq_true] at h
  have a1 := btw_iff.1 h.1.1.1.1
  have a2 := btw_iff.1 h.1.1.2
  omega
set_option maxHeartbeats 1000000 in
theorem cincomes_pf (l : List TIncome) (hl : l.length ≤ 1000000) : PFun Tryz.prog none none 47 [incomesL l] (· = bv (incsB 0 0 l)) := by
  refine pfun_intro Tryz.func47 rfl (by simp [Tryz.f47]) (by kernel_rfl) ?_
  intro E hP hr hs hW hN
  obtain ⟨R, hR⟩ : ∃ R, R = incsB 0 0 l := ⟨_, rfl⟩
  rw [← hR]
  simp -dsimp -implicitDefEqProofs [-getElem?_pos, go_sem, hP]
  obtain ⟨I, hI⟩ : ∃ I : Nat → St → Prop, I = fun m s => ∃ k : Nat, k ≤ l.length ∧ m = l.length - k ∧ R = incsB (prevN l k) (prevD l k) (l.drop k) ∧ s.t 0 = incomesL l ∧ s.t 5 = incomesL l ∧ s.t 6 = iv l.length ∧ s.t 7 = iv k := ⟨_, rfl⟩
  refine aloop0 I (l.length) (by rw [hN]; rfl) ?_ ?_
  · rw [hI]
    exact ⟨0, by omega, by omega, hR, by simp -dsimp -implicitDefEqProofs [-getElem?_pos, go_sem], by simp -dsimp -implicitDefEqProofs [-getElem?_pos, go_sem], by simp -dsimp -implicitDefEqProofs [-getElem?_pos, go_sem], by simp -dsimp -implicitDefEqProofs [-getElem?_pos, go_sem]⟩
  intro m s hs'
  rw [hI] at hs'
  obtain ⟨k, hk, hm, hRk, t0, t5, t6, t7⟩ := hs'
  simp -dsimp -implicitDefEqProofs [-getElem?_pos, go_sem, hP, t6, t7]
  refine condP (fun h => ?_) (fun h => ?_)
  · have hk : k < l.length := by simpa using h
    obtain ⟨x, hx⟩ : ∃ x, l[k]? = some x := ⟨_, List.getElem?_eq_getElem hk⟩
    have wk := wrap_in ((k : Int) + 1) (by omega)
    have px := cincome_pf x
    have ix := imm_agg.2 (TIncome.imm x)
    rw [cIncm] at px ix
    rw [drop_atL hx, incsB] at hRk
    simp -dsimp -implicitDefEqProofs [-getElem?_pos, go_sem, hP, t5, t7, hx, cIncm]
    refine adrawB (fun _ => true) [] hP (by kernel_rfl) (by kernel_rfl) ?_
    simp -dsimp -implicitDefEqProofs [-getElem?_pos, go_sem, hP]
    refine callB_pure px hP en_39 (args_same (by simpa using ix)) .sc ?_
    cases c1 : incB x
    · rw [c1, Bool.false_and, Bool.false_and, Bool.false_and] at hRk
      simp -dsimp -implicitDefEqProofs [-getElem?_pos, go_sem, hP, hRk]
    have pos := incB_pos c1
    rw [c1, Bool.true_and] at hRk
    have fin : ∀ s' : St, R = incsB x.Number x.Day (l.drop (k + 1)) → s'.t 0 = incomesL l → s'.t 5 = incomesL l → s'.t 6 = iv l.length → s'.t 7 = iv ((k : Int) + 1) → ∃ m', m' < l.length - k ∧ I m' s' := fun s' a1 a2 a3 a4 a5 => by
      refine ⟨l.length - (k + 1), by omega, ?_⟩
      rw [hI]
      refine ⟨k + 1, by omega, rfl, ?_, a2, a3, a4, by rw [a5]; simp⟩
      rw [a1]
      simp [prevN, prevD, hx]
    subst hm
    cases k with
    | zero =>
      have d : decide ((0 : Int) < x.Number) = true := decide_eq_true (by omega)
      have d' : decide ((0 : Int) ≤ x.Day) = true := decide_eq_true (by omega)
      rw [prevN, prevD, d, d', Bool.true_and, Bool.true_and] at hRk
      have w1 : IntKind.i64.wrap 1 = 1 := wrap_in 1 (by omega)
      simp -dsimp -implicitDefEqProofs [-getElem?_pos, go_sem, hP, t7, w1]
      exact fin _ hRk (by simp -dsimp -implicitDefEqProofs [-getElem?_pos, go_sem, t0]) (by simp -dsimp -implicitDefEqProofs [-getElem?_pos, go_sem, t5]) (by simp -dsimp -implicitDefEqProofs [-getElem?_pos, go_sem, t6]) (by simp -dsimp -implicitDefEqProofs [-getElem?_pos, go_sem, w1])
    | succ j =>
      obtain ⟨y, hy⟩ : ∃ y, l[j]? = some y := ⟨_, List.getElem?_eq_getElem (by omega)⟩
      have wj := wrap_in ((j : Int) + 1 - 1) (by omega)
      rw [Int.add_sub_cancel] at wj
      have ep : prevN l (j + 1) = y.Number := by simp [prevN, hy]
      have ep2 : prevD l (j + 1) = y.Day := by simp [prevD, hy]
      rw [ep, ep2] at hRk
      have d0 : decide ((0 : Int) < (j : Int) + 1) = true := decide_eq_true (by omega)
      have wk2 := wrap_in ((j : Int) + 1 + 1) (by omega)
      by_cases c2 : y.Number < x.Number
      · have d : decide (x.Number ≤ y.Number) = false := decide_eq_false (by omega)
        have d2 : decide (y.Number < x.Number) = true := decide_eq_true c2
        rw [d2, Bool.true_and] at hRk
        by_cases c3 : y.Day ≤ x.Day
        · have d3 : decide (x.Day < y.Day) = false := decide_eq_false (by omega)
          have d4 : decide (y.Day ≤ x.Day) = true := decide_eq_true c3
          rw [d4, Bool.true_and] at hRk
          simp -dsimp -implicitDefEqProofs [-getElem?_pos, go_sem, hP, t0, t7, d0, Int.add_sub_cancel, wj, hy, cIncm, d, d3, wk2]
          exact fin _ hRk (by simp -dsimp -implicitDefEqProofs [-getElem?_pos, go_sem, t0]) (by simp -dsimp -implicitDefEqProofs [-getElem?_pos, go_sem, t5]) (by simp -dsimp -implicitDefEqProofs [-getElem?_pos, go_sem, t6]) (by simp -dsimp -implicitDefEqProofs [-getElem?_pos, go_sem])
        · have d3 : decide (x.Day < y.Day) = true := decide_eq_true (by omega)
          have d4 : decide (y.Day ≤ x.Day) = false := decide_eq_false c3
          rw [d4, Bool.false_and] at hRk
          simp -dsimp -implicitDefEqProofs [-getElem?_pos, go_sem, hP, t0, t7, d0, Int.add_sub_cancel, wj, hy, cIncm, d, d3, wk2, hRk]
      · have d : decide (x.Number ≤ y.Number) = true := decide_eq_true (by omega)
        have d2 : decide (y.Number < x.Number) = false := decide_eq_false c2
        rw [d2, Bool.false_and, Bool.false_and] at hRk
        simp -dsimp -implicitDefEqProofs [-getElem?_pos, go_sem, hP, t0, t7, d0, Int.add_sub_cancel, wj, hy, cIncm, d, wk2, hRk]
  · have hk : k = l.length := by simp at h; omega
    subst hk
    rw [List.drop_length, incsB] at hRk
    simp -dsimp -implicitDefEqProofs [-getElem?_pos, go_sem, hP, hRk]
end Go.Proofs.YtgapbmaehfdkoaaGreatDoor
