/- Receipts: small functions. -/
import Derived.Test.YtgapbmaehfdkoaaGreatDoorCash0
import Derived.Test.YtgapbmaehfdkoaaGreatDoorPlayAll
set_option linter.unusedSimpArgs false
set_option linter.unusedVariables false
namespace Go.Proofs.YtgapbmaehfdkoaaGreatDoor
open Go.PA
open Go.RowKit

theorem camong_pf (n lo hi : Int) : PFun Tryz.prog none none 58 [iv n, iv lo, iv hi] (· = bv (btw n lo hi)) := by
  refine pfun_intro Tryz.func58 rfl (by simp [Tryz.f58]) (by kernel_rfl) ?_
  intro E hP hr hs hW hN
  by_cases h1 : lo ≤ n <;> by_cases h2 : n ≤ hi <;> simp -dsimp -implicitDefEqProofs [-getElem?_pos, go_sem, hP, h1, h2, btw]
theorem cmvalid_pf (n : Int) : PFun Tryz.prog none none 79 [iv n] (· = bv (btw n 0 1000000000000)) := by
  refine pfun_intro Tryz.func79 rfl (by simp [Tryz.f79]) (by kernel_rfl) ?_
  intro E hP hr hs hW hN
  by_cases h1 : 0 ≤ n <;> by_cases h2 : n ≤ 1000000000000 <;> simp -dsimp -implicitDefEqProofs [-getElem?_pos, go_sem, hP, h1, h2, btw]
theorem cpositive_pf (n : Int) : PFun Tryz.prog none none 59 [iv n] (· = bv (btw n 1 1000000000000)) := by
  refine pfun_intro Tryz.func59 rfl (by simp [Tryz.f59]) (by kernel_rfl) ?_
  intro E hP hr hs hW hN
  by_cases h1 : 0 < n
  · have e : btw n 0 1000000000000 = btw n 1 1000000000000 := by rw [Bool.eq_iff_iff, btw_iff, btw_iff]; omega
    simp -dsimp -implicitDefEqProofs [-getElem?_pos, go_sem, hP, h1]
    refine callB_pure (cmvalid_pf n) hP en_79 (args_same (by simp -dsimp -implicitDefEqProofs [-getElem?_pos, go_sem])) .sc ?_
    rw [e]
    simp -dsimp -implicitDefEqProofs [-getElem?_pos, go_sem, hP]
  · have e : btw n 1 1000000000000 = false := btw_no (by omega)
    have d := decide_eq_false h1
    simp -dsimp -implicitDefEqProofs [-getElem?_pos, go_sem, hP, d, e]

theorem cClm (x : TClaim) : x.cells = [iv x.ID, iv x.Payer, iv x.Amount, iv x.Open, iv x.Day, .sc (.string x.Code)] := rfl
theorem cIncm (x : TIncome) : x.cells = [iv x.Number, iv x.Day, iv x.Payer, iv x.Amount, iv x.Claim] := rfl
theorem cincome_pf (x : TIncome) : PFun Tryz.prog none none 39 [.agg x.cells] (· = bv (incB x)) := by
  refine pfun_intro Tryz.func39 rfl (by simp [Tryz.f39]) (by kernel_rfl) ?_
  intro E hP hr hs hW hN
  simp -dsimp -implicitDefEqProofs [-getElem?_pos, go_sem, hP, cIncm]
  refine callB_pure (camong_pf x.Number 1 1000000) hP en_58 (args_same (by simp -dsimp -implicitDefEqProofs [-getElem?_pos, go_sem])) .sc ?_
  cases c1 : btw x.Number 1 1000000
  · have e : incB x = false := by simp [incB, c1]
    simp -dsimp -implicitDefEqProofs [-getElem?_pos, go_sem, hP, e]
  simp -dsimp -implicitDefEqProofs [-getElem?_pos, go_sem, hP]
  refine callB_pure (camong_pf x.Payer 1 1000000) hP en_58 (args_same (by simp -dsimp -implicitDefEqProofs [-getElem?_pos, go_sem])) .sc ?_
  cases c2 : btw x.Payer 1 1000000
  · have e : incB x = false := by simp [incB, c2]
    simp -dsimp -implicitDefEqProofs [-getElem?_pos, go_sem, hP, e]
  simp -dsimp -implicitDefEqProofs [-getElem?_pos, go_sem, hP]
  refine callB_pure (camong_pf x.Day 0 36000) hP en_58 (args_same (by simp -dsimp -implicitDefEqProofs [-getElem?_pos, go_sem])) .sc ?_
  cases c3 : btw x.Day 0 36000
  · have e : incB x = false := by simp [incB, c3]
    simp -dsimp -implicitDefEqProofs [-getElem?_pos, go_sem, hP, e]
  simp -dsimp -implicitDefEqProofs [-getElem?_pos, go_sem, hP]
  refine callB_pure (cpositive_pf x.Amount) hP en_59 (args_same (by simp -dsimp -implicitDefEqProofs [-getElem?_pos, go_sem])) .sc ?_
  cases c4 : btw x.Amount 1 1000000000000
  · have e : incB x = false := by simp [incB, c4]
    simp -dsimp -implicitDefEqProofs [-getElem?_pos, go_sem, hP, e]
  simp -dsimp -implicitDefEqProofs [-getElem?_pos, go_sem, hP]
  refine callB_pure (camong_pf x.Claim 0 1000000) hP en_58 (args_same (by simp -dsimp -implicitDefEqProofs [-getElem?_pos, go_sem])) .sc ?_
  cases c5 : btw x.Claim 0 1000000
  · have e : incB x = false := by simp [incB, c5]
    simp -dsimp -implicitDefEqProofs [-getElem?_pos, go_sem, hP, e]
  have e : incB x = true := by simp [incB, c1, c2, c3, c4, c5]
  simp -dsimp -implicitDefEqProofs [-getElem?_pos, go_sem, hP, e]

theorem cclaim_pf (x : TClaim) (hl : x.Code.size ≤ 1000000) : PFun Tryz.prog none none 29 [.agg x.cells] (· = bv (payB x)) := by
  refine pfun_intro Tryz.func29 rfl (by simp [Tryz.f29]) (by kernel_rfl) ?_
  intro E hP hr hs hW hN
  have ip : Imm (intsL (partsD x.Code)) := by simp [intsL, go_sem]
  obtain ⟨n, hn⟩ : ∃ n, n = (partsD x.Code).length := ⟨_, rfl⟩
  have hc : codeB x.Code = decide (0 < n) := by rw [hn]; rfl
  have hm : (List.map (fun x => [iv x]) (partsD x.Code)).length = n := by rw [List.length_map, hn]
  simp -dsimp -implicitDefEqProofs [-getElem?_pos, go_sem, hP, cClm]
  refine callB_pure (camong_pf x.ID 1 1000000) hP en_58 (args_same (by simp -dsimp -implicitDefEqProofs [-getElem?_pos, go_sem])) .sc ?_
  cases c1 : btw x.ID 1 1000000
  · have e : payB x = false := by simp [payB, c1]
    simp -dsimp -implicitDefEqProofs [-getElem?_pos, go_sem, hP, e]
  simp -dsimp -implicitDefEqProofs [-getElem?_pos, go_sem, hP]
  refine callB_pure (camong_pf x.Payer 1 1000000) hP en_58 (args_same (by simp -dsimp -implicitDefEqProofs [-getElem?_pos, go_sem])) .sc ?_
  cases c2 : btw x.Payer 1 1000000
  · have e : payB x = false := by simp [payB, c2]
    simp -dsimp -implicitDefEqProofs [-getElem?_pos, go_sem, hP, e]
  simp -dsimp -implicitDefEqProofs [-getElem?_pos, go_sem, hP]
  refine callB_pure (cpositive_pf x.Amount) hP en_59 (args_same (by simp -dsimp -implicitDefEqProofs [-getElem?_pos, go_sem])) .sc ?_
  cases c3 : btw x.Amount 1 1000000000000
  · have e : payB x = false := by simp [payB, c3]
    simp -dsimp -implicitDefEqProofs [-getElem?_pos, go_sem, hP, e]
  simp -dsimp -implicitDefEqProofs [-getElem?_pos, go_sem, hP]
  refine callB_pure (camong_pf x.Open 0 x.Amount) hP en_58 (args_same (by simp -dsimp -implicitDefEqProofs [-getElem?_pos, go_sem])) .sc ?_
  cases c4 : btw x.Open 0 x.Amount
  · have e : payB x = false := by simp [payB, c4]
    simp -dsimp -implicitDefEqProofs [-getElem?_pos, go_sem, hP, e]
  simp -dsimp -implicitDefEqProofs [-getElem?_pos, go_sem, hP]
  refine callB_pure (camong_pf x.Day 0 36000) hP en_58 (args_same (by simp -dsimp -implicitDefEqProofs [-getElem?_pos, go_sem])) .sc ?_
  cases c5 : btw x.Day 0 36000
  · have e : payB x = false := by simp [payB, c5]
    simp -dsimp -implicitDefEqProofs [-getElem?_pos, go_sem, hP, e]
  simp -dsimp -implicitDefEqProofs [-getElem?_pos, go_sem, hP]
  refine callB_is ((parts_pf x.Code hl).lift _ _) hP en_60 (by simp -dsimp -implicitDefEqProofs [-getElem?_pos, go_sem]) ip ?_
  have e : payB x = decide (0 < n) := by simp [payB, c1, c2, c3, c4, c5, hc]
  simp -dsimp -implicitDefEqProofs [-getElem?_pos, go_sem, hP, intsL, hm, e]
end Go.Proofs.YtgapbmaehfdkoaaGreatDoor
