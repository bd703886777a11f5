/- Receipts: the chapter's example. -/
import Derived.Test.YtgapbmaehfdkoaaGreatDoorCashGen2
import Derived.Test.YtgapbmaehfdkoaaGreatDoorCash13
set_option linter.unusedSimpArgs false
set_option linter.unusedVariables false
namespace Go.Proofs.YtgapbmaehfdkoaaGreatDoor
open Go.PA
open Go.RowKit

def saneL : List TClaim := [⟨1, 1, 5, 5, 0, ⟨#[49]⟩⟩, ⟨2, 1, 7, 7, 0, ⟨#[49]⟩⟩]
def saneC : TCash := ⟨saneL, [], [], []⟩
def saneX : TIncome := ⟨1, 0, 1, 7, 0⟩
theorem sane_new : newD saneL = (saneC, 0) := by kernel_rfl
theorem sane_take : (takeD saneC saneX).2 = ([⟨1, 2, 7⟩], 0) := by kernel_rfl
theorem sane_owed : owedD (takeD saneC saneX).1 1 = 5 := by kernel_rfl
theorem sane_len : (takeD saneC saneX).1.Claims.length = 2 ∧ (takeD saneC saneX).1.Incomes.length = 1 ∧ (takeD saneC saneX).1.Matches.length = 1 ∧ (takeD saneC saneX).1.Loose.length = 1 ∧ ((takeD saneC saneX).1.Claims.all fun x => decide (x.Code.size ≤ 1000000)) = true := by
  refine ⟨?_, ?_, ?_, ?_, ?_⟩ <;> kernel_rfl
theorem sane_fit : FitC (takeD saneC saneX).1 := by
  obtain ⟨h1, h2, h3, h4, h5⟩ := sane_len
  exact ⟨by omega, by omega, by omega, by omega, fun x hx => by have := List.all_eq_true.1 h5 x hx; simpa using this⟩
theorem saneC_fit : FitC saneC := ⟨by simp [saneC, saneL], by simp [saneC], by simp [saneC], by simp [saneC], fun x hx => by
  have key : (saneC.Claims.all fun x => decide (x.Code.size ≤ 1000000)) = true := by kernel_rfl
  have := List.all_eq_true.1 key x hx
  simpa using this⟩
set_option maxRecDepth 8000 in
theorem sane27_pf : PFun Tryz.prog none none 12 [] (· = bv true) := by
  refine pfun_intro Tryz.func12 rfl (by simp [Tryz.f12]) (by kernel_rfl) ?_
  intro E hP hr hs hW hN
  have nw := cnew_pf saneL ⟨by simp [saneL], fun x hx => saneC_fit.code x hx⟩
  rw [sane_new, cCsh] at nw
  have tk := ctake_pf saneC saneX saneC_fit (by simp [saneC, saneL])
  have ow := cowed_pf (takeD saneC saneX).1 1 sane_fit
  rw [sane_owed] at ow
  rw [sane_take] at tk
  obtain ⟨b, hb⟩ : ∃ b, b = (takeD saneC saneX).1 := ⟨_, rfl⟩
  rw [← hb] at tk ow
  have ib := imm_agg.2 b.imm
  have ic := imm_agg.2 saneC.imm
  rw [cCsh] at tk ow ib ic
  have il := imm_claims saneL
  have ix := imm_agg.2 saneX.imm
  rw [cCsh] at tk
  obtain ⟨L, hL⟩ : ∃ L, L = claimsL saneL := ⟨_, rfl⟩
  have hL' : L = .list 6 [[iv 1, iv 1, iv 5, iv 5, iv 0, .sc (.string ⟨#[49]⟩)], [iv 2, iv 1, iv 7, iv 7, iv 0, .sc (.string ⟨#[49]⟩)]] := hL
  have e1 : claimsL saneC.Claims = L := hL.symm
  have e2 : incomesL saneC.Incomes = .list 5 [] := rfl
  have e3 : matchesL saneC.Matches = .list 3 [] := rfl
  have e4 : AV.list 1 (encL encI saneC.Loose) = .list 1 [] := rfl
  have e5 : saneX.cells = [iv 1, iv 0, iv 1, iv 7, iv 0] := rfl
  have e6 : matchesL [⟨1, 2, 7⟩] = .list 3 [[iv 1, iv 2, iv 7]] := rfl
  rw [← hL, e1, e2, e3, e4] at nw
  rw [e1, e2, e3, e4, e5] at tk
  simp only at tk
  rw [e6] at tk
  rw [← hL] at il
  rw [e1, e2, e3, e4] at ic
  rw [e5] at ix
  have im : Imm (.list 3 [[iv 1, iv 2, iv 7]]) := imm_matches [⟨1, 2, 7⟩]
  have cel : L.cellish = true := by rw [hL]; rfl
  simp -dsimp -implicitDefEqProofs [-getElem?_pos, go_sem, hP, ← hL']
  refine callB_is (nw.lift _ _) hP en_21 (by simpa using il) (imm_pair ic .sc) ?_
  simp -dsimp -implicitDefEqProofs [-getElem?_pos, go_sem, hP, cel]
  refine callB_is (tk.lift _ _) hP en_11 (by simpa using ⟨ic, ix⟩) (imm_trip ib im .sc) ?_
  simp -dsimp -implicitDefEqProofs [-getElem?_pos, go_sem, hP]
  refine callB_pure ow hP en_13 (args_same (by simpa [imm_sc] using ib)) .sc ?_
  simp -dsimp -implicitDefEqProofs [-getElem?_pos, go_sem, hP]
end Go.Proofs.YtgapbmaehfdkoaaGreatDoor
