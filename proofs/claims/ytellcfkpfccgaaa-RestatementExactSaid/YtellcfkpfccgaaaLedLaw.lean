/- Ledgers: the chapter's example. -/
import Derived.Test.YtellcfkpfccgaaaLedGen
set_option linter.unusedSimpArgs false
set_option linter.unusedVariables false
namespace Go.Proofs.Ytellcfkpfccgaaa
open Go.PA
open Go.RowKit

def p40 : TPosting := ⟨1, 0, 1, 110, 410, 100, 0, 0⟩
theorem p40_post : postL [] p40 = ([p40], 0) := by decide
theorem p40_of1 : ofL [p40] 1 110 0 = 100 := by decide
theorem p40_of2 : ofL [p40] 0 410 0 = -100 := by decide
theorem p40_bal : balancesL [p40] 1 0 = [⟨110, 100⟩, ⟨410, -100⟩] := by kernel_rfl
theorem sane40_pf : PFun Try.prog none none 21 [] (· = bv true) := by
  refine pfun_intro Try.func21 rfl (by simp [Try.f21]) (by kernel_rfl) ?_
  intro E hP hr hs hW hN
  have po := lpost_pf zeroL p40 (by simp)
  have o1 := of2_pf ⟨[p40]⟩ 1 110 0 (by simp)
  have o2 := of2_pf ⟨[p40]⟩ 0 410 0 (by simp)
  have ba := balances_pf ⟨[p40]⟩ 1 0 (by simp)
  have cl := class_pf 410
  simp only [p40_post] at po
  simp only [p40_of1] at o1
  simp only [p40_of2] at o2
  simp only [p40_bal] at ba
  rw [show classI 410 = 4 from rfl] at cl
  have il : Imm (postsL [p40]) := imm_posts _
  have ib : Imm (balsL [⟨110, 100⟩, ⟨410, -100⟩]) := imm_bals _
  have hBl : (encL TBalance.cells [⟨110, 100⟩, ⟨410, -100⟩]).length = 2 := rfl
  rw [cL] at o1 o2 ba
  rw [cL, cL, cP] at po
  generalize encL TPosting.cells [p40] = L at il o1 o2 ba po
  generalize encL TBalance.cells [⟨110, 100⟩, ⟨410, -100⟩] = B at ba ib hBl
  simp -dsimp -implicitDefEqProofs [-getElem?_pos, go_sem, hP]
  refine callB_imm (po.lift _ _) hP en_20 (.cons (weak_nil1 8) (by simp -dsimp -implicitDefEqProofs [-getElem?_pos, go_sem]) (.cons (.refl _) (by simp -dsimp -implicitDefEqProofs [-getElem?_pos, go_sem]) .nil)) (by simp -dsimp -implicitDefEqProofs [-getElem?_pos, go_sem]) (imm_pair (imm_agg.2 (by simpa using il)) .sc) ?_
  simp -dsimp -implicitDefEqProofs [-getElem?_pos, go_sem, hP]
  refine callB_is (o1.lift _ _) hP en_18 (by simp [il, imm_agg, imm_sc]) .sc ?_
  simp -dsimp -implicitDefEqProofs [-getElem?_pos, go_sem, hP]
  refine callB_is (o2.lift _ _) hP en_18 (by simp [il, imm_agg, imm_sc]) .sc ?_
  simp -dsimp -implicitDefEqProofs [-getElem?_pos, go_sem, hP]
  refine callB_is (ba.lift _ _) hP en_17 (by simp [il, imm_agg, imm_sc]) ib ?_
  simp -dsimp -implicitDefEqProofs [-getElem?_pos, go_sem, hP, hBl]
  refine callB_is (cl.lift _ _) hP en_68 (by simp [imm_sc]) .sc ?_
  simp -dsimp -implicitDefEqProofs [-getElem?_pos, go_sem, hP]
end Go.Proofs.Ytellcfkpfccgaaa
