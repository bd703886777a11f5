/- Ledgers: the reference's statements. -/
import Derived.Test.YtellcfkpfccgaaaLed8
set_option linter.unusedSimpArgs false
set_option linter.unusedVariables false
namespace Go.Proofs.Ytellcfkpfccgaaa
open Go.PA
open Go.RowKit

set_option maxHeartbeats 1000000 in
theorem rstate_pf (l : List TPosting) (e from_ to : Int) (hl : FineL l) (hf : -9223372036854775807 ≤ from_ ∧ from_ ≤ 9223372036854775807) : PFun Try.prog none none 88 [postsL l, iv e, iv from_, iv to] (· = .agg (sumsL l e from_ to).cells) := by
  refine pfun_intro Try.func88 rfl (by simp [Try.f88]) (by kernel_rfl) ?_
  intro E hP hr hs hW hN
  have ip := imm_posts l
  have wf := wrap_in (from_ - 1) (by omega)
  have hl2 := hl.2
  have cb : ∀ (f : TPosting → Bool) (c : Int), -100000000000000000 ≤ cls f l c ∧ cls f l c ≤ 100000000000000000 := fun f c => by
    have := netP_bound (fun b => decide (classI b = c)) f l hl.1
    show _ ≤ netP _ f l ∧ netP _ f l ≤ _
    omega
  have c1 := rclasses_pf l e 0 to hl
  have c2 := rclasses_pf l e from_ to hl
  have c3 := rclasses_pf l e 0 (from_ - 1) hl
  obtain ⟨A, hA⟩ : ∃ A : Int → Int, A = cls (ofB e 0 to) l := ⟨_, rfl⟩
  obtain ⟨B, hB⟩ : ∃ B : Int → Int, B = cls (ofB e from_ to) l := ⟨_, rfl⟩
  obtain ⟨C, hC⟩ : ∃ C : Int → Int, C = cls (ofB e 0 (from_ - 1)) l := ⟨_, rfl⟩
  have bA : ∀ c, -100000000000000000 ≤ A c ∧ A c ≤ 100000000000000000 := fun c => hA ▸ cb (ofB e 0 to) c
  have bB : ∀ c, -100000000000000000 ≤ B c ∧ B c ≤ 100000000000000000 := fun c => hB ▸ cb (ofB e from_ to) c
  have bC : ∀ c, -100000000000000000 ≤ C c ∧ C c ≤ 100000000000000000 := fun c => hC ▸ cb (ofB e 0 (from_ - 1)) c
  have rs : sumsL l e from_ to = { Assets := A 1, Liabilities := -A 2, Worth := -C 3 - C 4 - C 5, Revenue := -B 4, Expense := B 5 } := by rw [hA, hB, hC]; rfl
  have arA : arI (clsV (ofB e 0 to) l) = [iv (A 0), iv (A 1), iv (A 2), iv (A 3), iv (A 4), iv (A 5)] := hA ▸ rfl
  have arB : arI (clsV (ofB e from_ to) l) = [iv (B 0), iv (B 1), iv (B 2), iv (B 3), iv (B 4), iv (B 5)] := hB ▸ rfl
  have arC : arI (clsV (ofB e 0 (from_ - 1)) l) = [iv (C 0), iv (C 1), iv (C 2), iv (C 3), iv (C 4), iv (C 5)] := hC ▸ rfl
  rw [arA] at c1
  rw [arB] at c2
  rw [arC] at c3
  have w1 := wrap_in (-A 2) (by have := bA 2; omega)
  have w2 := wrap_in (-C 3) (by have := bC 3; omega)
  have w3 := wrap_in (-C 3 - C 4) (by have := bC 3; have := bC 4; omega)
  have w4 := wrap_in (-C 3 - C 4 - C 5) (by have := bC 3; have := bC 4; have := bC 5; omega)
  have w5 := wrap_in (-B 4) (by have := bB 4; omega)
  rw [rs]
  clear hA hB hC rs arA arB arC cb
  simp -dsimp -implicitDefEqProofs [-getElem?_pos, go_sem, hP]
  refine callB_is (c1.lift _ _) hP en_110 (by simp [ip, imm_sc]) (by simp [imm_agg, imm_sc]) ?_
  simp -dsimp -implicitDefEqProofs [-getElem?_pos, go_sem, hP]
  refine callB_is (c2.lift _ _) hP en_110 (by simp [ip, imm_sc]) (by simp [imm_agg, imm_sc]) ?_
  simp -dsimp -implicitDefEqProofs [-getElem?_pos, go_sem, hP, wf]
  refine callB_is (c3.lift _ _) hP en_110 (by simp [ip, imm_sc]) (by simp [imm_agg, imm_sc]) ?_
  simp -dsimp -implicitDefEqProofs [-getElem?_pos, go_sem, hP, w1, w2, w3, w4, w5]
  exact done_imm (imm_agg.2 (TStatement.mk (A 1) (-A 2) (-C 3 - C 4 - C 5) (-B 4) (B 5)).imm) rfl

set_option maxHeartbeats 1000000 in
theorem rstatement_pf (l : TLedger) (e from_ to : Int) (hl : l.Postings.length ≤ 100000) : PFun Try.prog none none 34 [.agg l.cells, iv e, iv from_, iv to] (· = .tup [.agg (statementL l.Postings e from_ to).1.cells, iv (statementL l.Postings e from_ to).2]) := by
  refine pfun_intro Try.func34 rfl (by simp [Try.f34]) (by kernel_rfl) ?_
  intro E hP hr hs hW hN
  have ck := rcheck_pf l hl
  obtain ⟨l⟩ := l
  simp only at hl ck
  rw [cL] at ck
  have ip := imm_posts l
  have z0 : zeroSt.cells = [iv 0, iv 0, iv 0, iv 0, iv 0] := rfl
  have iz : Imm (.agg zeroSt.cells) := imm_agg.2 zeroSt.imm
  simp -dsimp -implicitDefEqProofs [-getElem?_pos, go_sem, hP, cL]
  refine callB_is (ck.lift _ _) hP en_60 (by simp [ip, imm_agg]) .sc ?_
  by_cases c1 : checkL l = 0
  rotate_left
  · have : statementL l e from_ to = (zeroSt, checkL l) := by rw [statementL, if_neg c1]
    simp -dsimp -implicitDefEqProofs [-getElem?_pos, go_sem, hP, c1]
    refine done_imm (imm_pair iz .sc) ?_
    rw [this]
    rfl
  have fl := checkL_fine c1
  have bad89 : betw e 0 10 = false → statementL l e from_ to = (zeroSt, 89) := fun h => by rw [statementL, if_pos c1, if_pos h]
  by_cases c2 : e < 0
  · have := bad89 (by simp [betw]; omega)
    simp -dsimp -implicitDefEqProofs [-getElem?_pos, go_sem, hP, c1, c2]
    refine done_imm (imm_pair iz .sc) ?_
    rw [this]
    rfl
  by_cases c3 : 10 < e
  · have := bad89 (by simp [betw]; omega)
    simp -dsimp -implicitDefEqProofs [-getElem?_pos, go_sem, hP, c1, c2, c3]
    refine done_imm (imm_pair iz .sc) ?_
    rw [this]
    rfl
  have b1 : betw e 0 10 = true := betw_iff.2 ⟨by omega, by omega⟩
  have nb1 : ¬ betw e 0 10 = false := by simp [b1]
  have bad2 : (betw from_ 0 to = false ∨ 36000 < to) → statementL l e from_ to = (zeroSt, 2) := fun h => by rw [statementL, if_pos c1, if_neg nb1, if_pos h]
  simp -dsimp -implicitDefEqProofs [-getElem?_pos, go_sem, hP, c1, c2, c3]
  refine callB_pure (rday_pf from_) hP en_87 (args_same (by simp -dsimp -implicitDefEqProofs [-getElem?_pos, go_sem])) .sc ?_
  cases c4 : betw from_ 0 36000
  · have := bad2 (by
      rcases Bool.eq_false_or_eq_true (betw from_ 0 to) with h | h
      · right
        have h := betw_iff.1 h
        have : ¬ (0 ≤ from_ ∧ from_ ≤ 36000) := fun e => by rw [betw_iff.2 e] at c4; cases c4
        omega
      · exact .inl h)
    simp -dsimp -implicitDefEqProofs [-getElem?_pos, go_sem, hP]
    refine done_imm (imm_pair iz .sc) ?_
    rw [this]
    rfl
  have c4' := betw_iff.1 c4
  simp -dsimp -implicitDefEqProofs [-getElem?_pos, go_sem, hP]
  refine callB_pure (rday_pf to) hP en_87 (args_same (by simp -dsimp -implicitDefEqProofs [-getElem?_pos, go_sem])) .sc ?_
  cases c5 : betw to 0 36000
  · have := bad2 (by
      rcases Bool.eq_false_or_eq_true (betw from_ 0 to) with h | h
      · right
        have h := betw_iff.1 h
        have : ¬ (0 ≤ to ∧ to ≤ 36000) := fun e => by rw [betw_iff.2 e] at c5; cases c5
        omega
      · exact .inl h)
    simp -dsimp -implicitDefEqProofs [-getElem?_pos, go_sem, hP]
    refine done_imm (imm_pair iz .sc) ?_
    rw [this]
    rfl
  have c5' := betw_iff.1 c5
  by_cases c6 : to < from_
  · have := bad2 (.inl (by simp [betw]; omega))
    have d6 : decide (to < from_) = true := decide_eq_true c6
    simp -dsimp -implicitDefEqProofs [-getElem?_pos, go_sem, hP, d6]
    refine done_imm (imm_pair iz .sc) ?_
    rw [this]
    rfl
  have d6 : decide (to < from_) = false := decide_eq_false c6
  have b2 : betw from_ 0 to = true := betw_iff.2 ⟨by omega, by omega⟩
  have : statementL l e from_ to = (sumsL l e from_ to, 0) := by rw [statementL, if_pos c1, if_neg nb1, if_neg (by simp [b2]; omega)]
  simp -dsimp -implicitDefEqProofs [-getElem?_pos, go_sem, hP, d6]
  refine callB_is ((rstate_pf l e from_ to fl (by omega)).lift _ _) hP en_88 (by simp [ip, imm_sc]) (imm_agg.2 (sumsL l e from_ to).imm) ?_
  generalize hS : sumsL l e from_ to = S at this
  have cS : S.cells = [iv S.Assets, iv S.Liabilities, iv S.Worth, iv S.Revenue, iv S.Expense] := rfl
  simp -dsimp -implicitDefEqProofs [-getElem?_pos, go_sem, hP, cS]
  refine done_imm (imm_pair (imm_agg.2 S.imm) .sc) ?_
  rw [this]
  rfl

end Go.Proofs.Ytellcfkpfccgaaa
