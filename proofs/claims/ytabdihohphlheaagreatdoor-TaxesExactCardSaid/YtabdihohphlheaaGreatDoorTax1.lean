/- Taxes: what is specified; small functions. -/
import Derived.Test.YtabdihohphlheaaGreatDoorCode
import Derived.Test.YtabdihohphlheaaGreatDoorCmp
set_option linter.unusedSimpArgs false
set_option linter.unusedVariables false
namespace Go.Proofs.YtabdihohphlheaaGreatDoor
open Go.PA
open Go.RowKit

def btw (n lo hi : Int) : Bool := decide (lo ≤ n) && decide (n ≤ hi)
theorem btw_iff {n lo hi : Int} : btw n lo hi = true ↔ lo ≤ n ∧ n ≤ hi := by simp [btw]
theorem btw_no {n lo hi : Int} (h : ¬ (lo ≤ n ∧ n ≤ hi)) : btw n lo hi = false := by simp [btw]; omega
def codeB (s : ByteArray) : Bool := decide (0 < (partsD s).length)
def taxB (t : TTax) : Bool := codeB t.Code && btw t.Payer 1 1000000 && btw t.Base 0 1000000000000 && btw t.Num 0 t.Den && btw t.Den 1 1000000 && btw t.First 0 36000 && btw t.Every 1 60 && btw t.Times 1 60
/-- The first business day at or after a day. -/
def openD (d : Int) : Int := if d % 7 < 5 then d else d + (7 - d % 7)
def nextD (d : Int) : Int × Int := if 0 ≤ d ∧ d ≤ 36000 ∧ openD d ≤ 36000 then (openD d, 0) else (0, 2)
def shareD (a n d : Int) : Int × Int := if btw a 0 1000000000000 && btw n 0 1000000 && btw d 1 1000000 && decide ((2 * a * n + d) / (2 * d) ≤ 1000000000000) then ((2 * a * n + d) / (2 * d), 0) else (0, 2)
def amountD (t : TTax) : Int := if taxB t then (shareD t.Base t.Num t.Den).1 else 0
def daysGo (t : TTax) (n : Nat) : List Int := (List.range n).filterMap fun (i : Nat) => if (nextD (t.First + 30 * t.Every * i)).2 = 0 then some (nextD (t.First + 30 * t.Every * i)).1 else none
def daysD (t : TTax) : List Int := if taxB t then daysGo t t.Times.toNat else []
abbrev taxesL (l : List TTax) : AV := .list 8 (encL TTax.cells l)
theorem imm_taxes (l : List TTax) : Imm (taxesL l) := imm_encL _ TTax.imm l
theorem imm_tax (t : TTax) : Imm (.agg t.cells) := .agg fun c hc => t.imm c hc
theorem cTx (t : TTax) : t.cells = [.sc (.string t.Code), iv t.Payer, iv t.Base, iv t.Num, iv t.Den, iv t.First, iv t.Every, iv t.Times] := rfl

theorem tamong_pf (n lo hi : Int) : PFun Tryz.prog none none 36 [iv n, iv lo, iv hi] (· = bv (btw n lo hi)) := by
  refine pfun_intro Tryz.func36 rfl (by simp [Tryz.f36]) (by kernel_rfl) ?_
  intro E hP hr hs hW hN
  by_cases h1 : lo ≤ n <;> by_cases h2 : n ≤ hi <;> simp -dsimp -implicitDefEqProofs [-getElem?_pos, go_sem, hP, h1, h2, btw]
theorem mvalid_pf (n : Int) : PFun Tryz.prog none none 37 [iv n] (· = bv (btw n 0 1000000000000)) := by
  refine pfun_intro Tryz.func37 rfl (by simp [Tryz.f37]) (by kernel_rfl) ?_
  intro E hP hr hs hW hN
  by_cases h1 : 0 ≤ n <;> by_cases h2 : n ≤ 1000000000000 <;> simp -dsimp -implicitDefEqProofs [-getElem?_pos, go_sem, hP, h1, h2, btw]
theorem mweight_pf (n : Int) : PFun Tryz.prog none none 55 [iv n] (· = bv (btw n 0 1000000)) := by
  refine pfun_intro Tryz.func55 rfl (by simp [Tryz.f55]) (by kernel_rfl) ?_
  intro E hP hr hs hW hN
  by_cases h1 : 0 ≤ n <;> by_cases h2 : n ≤ 1000000 <;> simp -dsimp -implicitDefEqProofs [-getElem?_pos, go_sem, hP, h1, h2, btw]
theorem cvalid_pf (n : Int) : PFun Tryz.prog none none 38 [iv n] (· = bv (btw n 0 36000)) := by
  refine pfun_intro Tryz.func38 rfl (by simp [Tryz.f38]) (by kernel_rfl) ?_
  intro E hP hr hs hW hN
  by_cases h1 : 0 ≤ n <;> by_cases h2 : n ≤ 36000 <;> simp -dsimp -implicitDefEqProofs [-getElem?_pos, go_sem, hP, h1, h2, btw]
theorem mchecked_pf (n : Int) : PFun Tryz.prog none none 56 [iv n] (· = if btw n 0 1000000000000 then .tup [iv n, iv 0] else .tup [iv 0, iv 2]) := by
  refine pfun_intro Tryz.func56 rfl (by simp [Tryz.f56]) (by kernel_rfl) ?_
  intro E hP hr hs hW hN
  simp -dsimp -implicitDefEqProofs [-getElem?_pos, go_sem, hP]
  refine callB_pure (mvalid_pf n) hP en_37 (args_same (by simp -dsimp -implicitDefEqProofs [-getElem?_pos, go_sem])) .sc ?_
  cases c : btw n 0 1000000000000
  · simp -dsimp -implicitDefEqProofs [-getElem?_pos, go_sem, hP]
    exact done_imm (imm_pair .sc .sc) rfl
  · simp -dsimp -implicitDefEqProofs [-getElem?_pos, go_sem, hP]
    exact done_imm (imm_pair .sc .sc) rfl

theorem tax_pf (t : TTax) (hl : t.Code.size ≤ 1000000) : PFun Tryz.prog none none 15 [.agg t.cells] (· = bv (taxB t)) := by
  refine pfun_intro Tryz.func15 rfl (by simp [Tryz.f15]) (by kernel_rfl) ?_
  intro E hP hr hs hW hN
  have ip : Imm (intsL (partsD t.Code)) := by simp [intsL, go_sem]
  obtain ⟨n, hn⟩ : ∃ n, n = (partsD t.Code).length := ⟨_, rfl⟩
  have hc : codeB t.Code = decide (0 < n) := by rw [hn]; rfl
  simp -dsimp -implicitDefEqProofs [-getElem?_pos, go_sem, hP, cTx]
  refine callB_is ((parts_pf t.Code hl).lift _ _) hP en_35 (by simp -dsimp -implicitDefEqProofs [-getElem?_pos, go_sem]) ip ?_
  have hm : (List.map (fun x => [iv x]) (partsD t.Code)).length = n := by rw [List.length_map, hn]
  by_cases h0 : 0 < n
  rotate_left
  · have d0 : decide (0 < n) = false := decide_eq_false (by omega)
    have e : taxB t = false := by rw [taxB, hc, decide_eq_false h0]; rfl
    simp -dsimp -implicitDefEqProofs [-getElem?_pos, go_sem, hP, intsL, hm, d0, e]
  have d0 : decide (0 < n) = true := decide_eq_true (by omega)
  have e0 : codeB t.Code = true := by rw [hc, decide_eq_true h0]
  simp -dsimp -implicitDefEqProofs [-getElem?_pos, go_sem, hP, intsL, hm, d0]
  refine callB_pure (tamong_pf t.Payer 1 1000000) hP en_36 (args_same (by simp -dsimp -implicitDefEqProofs [-getElem?_pos, go_sem])) .sc ?_
  cases c1 : btw t.Payer 1 1000000
  · have e : taxB t = false := by simp [taxB, c1]
    simp -dsimp -implicitDefEqProofs [-getElem?_pos, go_sem, hP, e]
  simp -dsimp -implicitDefEqProofs [-getElem?_pos, go_sem, hP]
  refine callB_pure (mvalid_pf t.Base) hP en_37 (args_same (by simp -dsimp -implicitDefEqProofs [-getElem?_pos, go_sem])) .sc ?_
  cases c2 : btw t.Base 0 1000000000000
  · have e : taxB t = false := by simp [taxB, c2]
    simp -dsimp -implicitDefEqProofs [-getElem?_pos, go_sem, hP, e]
  simp -dsimp -implicitDefEqProofs [-getElem?_pos, go_sem, hP]
  refine callB_pure (tamong_pf t.Num 0 t.Den) hP en_36 (args_same (by simp -dsimp -implicitDefEqProofs [-getElem?_pos, go_sem])) .sc ?_
  cases c3 : btw t.Num 0 t.Den
  · have e : taxB t = false := by simp [taxB, c3]
    simp -dsimp -implicitDefEqProofs [-getElem?_pos, go_sem, hP, e]
  simp -dsimp -implicitDefEqProofs [-getElem?_pos, go_sem, hP]
  refine callB_pure (tamong_pf t.Den 1 1000000) hP en_36 (args_same (by simp -dsimp -implicitDefEqProofs [-getElem?_pos, go_sem])) .sc ?_
  cases c4 : btw t.Den 1 1000000
  · have e : taxB t = false := by simp [taxB, c4]
    simp -dsimp -implicitDefEqProofs [-getElem?_pos, go_sem, hP, e]
  simp -dsimp -implicitDefEqProofs [-getElem?_pos, go_sem, hP]
  refine callB_pure (cvalid_pf t.First) hP en_38 (args_same (by simp -dsimp -implicitDefEqProofs [-getElem?_pos, go_sem])) .sc ?_
  cases c5 : btw t.First 0 36000
  · have e : taxB t = false := by simp [taxB, c5]
    simp -dsimp -implicitDefEqProofs [-getElem?_pos, go_sem, hP, e]
  simp -dsimp -implicitDefEqProofs [-getElem?_pos, go_sem, hP]
  refine callB_pure (tamong_pf t.Every 1 60) hP en_36 (args_same (by simp -dsimp -implicitDefEqProofs [-getElem?_pos, go_sem])) .sc ?_
  cases c6 : btw t.Every 1 60
  · have e : taxB t = false := by simp [taxB, c6]
    simp -dsimp -implicitDefEqProofs [-getElem?_pos, go_sem, hP, e]
  simp -dsimp -implicitDefEqProofs [-getElem?_pos, go_sem, hP]
  refine callB_pure (tamong_pf t.Times 1 60) hP en_36 (args_same (by simp -dsimp -implicitDefEqProofs [-getElem?_pos, go_sem])) .sc ?_
  have e : taxB t = btw t.Times 1 60 := by simp [taxB, e0, c1, c2, c3, c4, c5, c6]
  simp -dsimp -implicitDefEqProofs [-getElem?_pos, go_sem, hP, e]

theorem business_pf (n : Int) (h : -1000000000 ≤ n ∧ n ≤ 1000000000) : PFun Tryz.prog none none 57 [iv n] (· = bv (btw n 0 36000 && decide (n % 7 < 5))) := by
  refine pfun_intro Tryz.func57 rfl (by simp [Tryz.f57]) (by kernel_rfl) ?_
  intro E hP hr hs hW hN
  simp -dsimp -implicitDefEqProofs [-getElem?_pos, go_sem, hP]
  refine callB_pure (cvalid_pf n) hP en_38 (args_same (by simp -dsimp -implicitDefEqProofs [-getElem?_pos, go_sem])) .sc ?_
  cases c : btw n 0 36000
  · simp -dsimp -implicitDefEqProofs [-getElem?_pos, go_sem, hP]
  · have hc := btw_iff.1 c
    have ht : n.tmod 7 = n % 7 := Int.tmod_eq_emod_of_nonneg hc.1
    simp -dsimp -implicitDefEqProofs [-getElem?_pos, go_sem, hP, ht]

theorem next_pf (n : Int) (h : -1000000000 ≤ n ∧ n ≤ 1000000000) : PFun Tryz.prog none none 43 [iv n] (· = .tup [iv (nextD n).1, iv (nextD n).2]) := by
  refine pfun_intro Tryz.func43 rfl (by simp [Tryz.f43]) (by kernel_rfl) ?_
  intro E hP hr hs hW hN
  simp -dsimp -implicitDefEqProofs [-getElem?_pos, go_sem, hP]
  obtain ⟨R, hR⟩ : ∃ R, R = nextD n := ⟨_, rfl⟩
  rw [← hR]
  obtain ⟨I, hI⟩ : ∃ I : Nat → St → Prop, I = fun m s => ∃ d : Int, m = (36001 - d).toNat ∧ -1000000000 ≤ d ∧ d ≤ 1000000000 ∧ nextD d = R ∧ s.t 0 = iv d := ⟨_, rfl⟩
  refine aloop0 I ((36001 - n).toNat) (by rw [hN]; rfl) ?_ ?_
  · rw [hI]
    exact ⟨n, rfl, h.1, h.2, hR.symm, by simp -dsimp -implicitDefEqProofs [-getElem?_pos, go_sem]⟩
  intro m s hs'
  rw [hI] at hs'
  obtain ⟨d, hm, h1, h2, hd, t0⟩ := hs'
  simp -dsimp -implicitDefEqProofs [-getElem?_pos, go_sem, hP, t0]
  refine callB_pure (cvalid_pf d) hP en_38 (args_same (by simp -dsimp -implicitDefEqProofs [-getElem?_pos, go_sem])) .sc ?_
  cases c : btw d 0 36000
  · have e : R = (0, 2) := by
      rw [← hd, nextD, if_neg]
      rintro ⟨a, b, _⟩
      rw [btw_iff.2 ⟨a, b⟩] at c
      cases c
    simp -dsimp -implicitDefEqProofs [-getElem?_pos, go_sem, hP, e]
    exact done_imm (imm_pair .sc .sc) (by rw [e])
  have hc := btw_iff.1 c
  simp -dsimp -implicitDefEqProofs [-getElem?_pos, go_sem, hP, t0]
  refine callB_pure (business_pf d ⟨h1, h2⟩) hP en_57 (args_same (by simp -dsimp -implicitDefEqProofs [-getElem?_pos, go_sem])) .sc ?_
  rw [c]
  by_cases hb : d % 7 < 5
  · have e : R = (d, 0) := by
      have ho : openD d = d := by rw [openD, if_pos hb]
      rw [← hd, nextD, ho, if_pos ⟨hc.1, hc.2, hc.2⟩]
    have db := decide_eq_true hb
    simp -dsimp -implicitDefEqProofs [-getElem?_pos, go_sem, hP, db, e, t0]
    exact done_imm (imm_pair .sc .sc) (by rw [e])
  · have db := decide_eq_false hb
    have wd := wrap_in (d + 1) (by omega)
    simp -dsimp -implicitDefEqProofs [-getElem?_pos, go_sem, hP, db, t0, wd]
    refine ⟨(36001 - (d + 1)).toNat, by omega, ?_⟩
    rw [hI]
    refine ⟨d + 1, rfl, by omega, by omega, ?_, by simp -dsimp -implicitDefEqProofs [-getElem?_pos, go_sem]⟩
    rw [← hd, nextD, nextD]
    have ho : openD (d + 1) = openD d := by
      unfold openD
      repeat' split
      all_goals omega
    have hlt : d + 1 ≤ openD d := by
      unfold openD
      split <;> omega
    rw [ho]
    by_cases hx : openD d ≤ 36000
    · rw [if_pos ⟨by omega, by omega, hx⟩, if_pos ⟨hc.1, hc.2, hx⟩]
    · rw [if_neg (fun h => hx h.2.2), if_neg (fun h => hx h.2.2)]

theorem share_pf (a n d : Int) : PFun Tryz.prog none none 41 [iv a, iv n, iv d] (· = .tup [iv (shareD a n d).1, iv (shareD a n d).2]) := by
  refine pfun_intro Tryz.func41 rfl (by simp [Tryz.f41]) (by kernel_rfl) ?_
  intro E hP hr hs hW hN
  simp -dsimp -implicitDefEqProofs [-getElem?_pos, go_sem, hP]
  refine callB_pure (mvalid_pf a) hP en_37 (args_same (by simp -dsimp -implicitDefEqProofs [-getElem?_pos, go_sem])) .sc ?_
  cases c1 : btw a 0 1000000000000
  · have e : shareD a n d = (0, 2) := by simp [shareD, c1]
    simp -dsimp -implicitDefEqProofs [-getElem?_pos, go_sem, hP, e]
    exact done_imm (imm_pair .sc .sc) (by rw [e])
  simp -dsimp -implicitDefEqProofs [-getElem?_pos, go_sem, hP]
  refine callB_pure (mweight_pf n) hP en_55 (args_same (by simp -dsimp -implicitDefEqProofs [-getElem?_pos, go_sem])) .sc ?_
  cases c2 : btw n 0 1000000
  · have e : shareD a n d = (0, 2) := by simp [shareD, c2]
    simp -dsimp -implicitDefEqProofs [-getElem?_pos, go_sem, hP, e]
    exact done_imm (imm_pair .sc .sc) (by rw [e])
  simp -dsimp -implicitDefEqProofs [-getElem?_pos, go_sem, hP]
  refine callB_pure (mweight_pf d) hP en_55 (args_same (by simp -dsimp -implicitDefEqProofs [-getElem?_pos, go_sem])) .sc ?_
  cases c3 : btw d 0 1000000
  · have e : shareD a n d = (0, 2) := by
      have : btw d 1 1000000 = false := btw_no fun h => by rw [btw_iff.2 ⟨by omega, h.2⟩] at c3; cases c3
      simp [shareD, this]
    simp -dsimp -implicitDefEqProofs [-getElem?_pos, go_sem, hP, e]
    exact done_imm (imm_pair .sc .sc) (by rw [e])
  by_cases c4 : d = 0
  · have e : shareD a n d = (0, 2) := by
      have : btw d 1 1000000 = false := btw_no fun h => by omega
      simp [shareD, this]
    simp -dsimp -implicitDefEqProofs [-getElem?_pos, go_sem, hP, c4]
    subst c4
    exact done_imm (imm_pair .sc .sc) (by rw [e])
  have d4 := decide_eq_false c4
  obtain ⟨a1, a2⟩ := btw_iff.1 c1
  obtain ⟨b1, b2⟩ := btw_iff.1 c2
  obtain ⟨e1, e2⟩ := btw_iff.1 c3
  have c3' : btw d 1 1000000 = true := btw_iff.2 ⟨by omega, e2⟩
  have hm0 : 0 ≤ 2 * a * n := Int.mul_nonneg (by omega) b1
  have hm1 : 2 * a * n ≤ 2000000000000000000 := by
    have := Int.mul_le_mul (show 2 * a ≤ 2000000000000 by omega) b2 b1 (by omega)
    omega
  have w1 := wrap_in (2 * a) (by omega)
  have w2 := wrap_in (2 * a * n) (by omega)
  have w3 := wrap_in (2 * a * n + d) (by omega)
  have w4 := wrap_in (2 * d) (by omega)
  have hnz : ¬ 2 * d = 0 := by omega
  have ht : (2 * a * n + d).tdiv (2 * d) = (2 * a * n + d) / (2 * d) := Int.tdiv_eq_ediv_of_nonneg (by omega)
  have hq0 : 0 ≤ (2 * a * n + d) / (2 * d) := Int.ediv_nonneg (by omega) (by omega)
  have hq1 : (2 * a * n + d) / (2 * d) ≤ 2 * a * n + d := Int.ediv_le_self _ (by omega)
  have w5 := wrap_in ((2 * a * n + d) / (2 * d)) (by omega)
  obtain ⟨q, hq⟩ : ∃ q, q = (2 * a * n + d) / (2 * d) := ⟨_, rfl⟩
  have es : shareD a n d = if q ≤ 1000000000000 then (q, 0) else (0, 2) := by simp [shareD, c1, c2, c3', ← hq]
  rw [← hq] at ht w5 hq0
  obtain ⟨S, hS⟩ : ∃ S, S = shareD a n d := ⟨_, rfl⟩
  rw [← hS] at es ⊢
  simp -dsimp -implicitDefEqProofs [-getElem?_pos, go_sem, hP, d4, w1, w2, w3, w4, aint_quo hnz, ht, w5]
  have ck := mchecked_pf q
  by_cases h9 : q ≤ 1000000000000
  · rw [if_pos (btw_iff.2 ⟨hq0, h9⟩)] at ck
    rw [if_pos h9] at es
    refine callB_is (ck.lift _ _) hP en_56 (by simp -dsimp -implicitDefEqProofs [-getElem?_pos, go_sem]) (imm_pair .sc .sc) ?_
    simp -dsimp -implicitDefEqProofs [-getElem?_pos, go_sem, hP, es]
    exact done_imm (imm_pair .sc .sc) (by rw [es])
  · rw [btw_no (fun h => h9 h.2), if_neg (by simp)] at ck
    rw [if_neg h9] at es
    refine callB_is (ck.lift _ _) hP en_56 (by simp -dsimp -implicitDefEqProofs [-getElem?_pos, go_sem]) (imm_pair .sc .sc) ?_
    simp -dsimp -implicitDefEqProofs [-getElem?_pos, go_sem, hP, es]
    exact done_imm (imm_pair .sc .sc) (by rw [es])
end Go.Proofs.YtabdihohphlheaaGreatDoor
