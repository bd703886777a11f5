/- Queues: the chapter's example. -/
import Derived.Test.YtmpncdlhmknkoaaBatGen3
set_option linter.unusedSimpArgs false
set_option linter.unusedVariables false
namespace Go.Proofs.Ytmpncdlhmknkoaa
open Go.PA
open Go.RowKit

def sP : TPayment := ⟨1, 1, 10, 5, 1⟩
def sQ1 : TQueue := ⟨[sP], [1], []⟩
def sB : TBatch := ⟨1, 7, [sP]⟩
def sQ2 : TQueue := ⟨[], [1], [sB]⟩
theorem s_add : addQ zeroQ sP = (sQ1, 0) := by decide
theorem s_t5 : takeQ sQ1 5 [1] = (zeroQ, zeroB, 66) := by decide
theorem s_t7 : takeQ sQ1 7 [1] = (sQ2, sB, 0) := by decide
theorem s_rd : readyQ sQ1 5 = [sP] := by decide
theorem s_sum : sumW [sP] = 10 := by decide
theorem s_fit : FitQ sQ1 := ⟨by decide, by decide, by decide, by simp [sQ1]⟩

theorem sane25_pf : PFun Try.prog none none 14 [] (· = bv true) := by
  refine pfun_intro Try.func14 rfl (by simp [Try.f14]) (by kernel_rfl) ?_
  intro E hP hr hs hW hN
  have ad := badd_pf zeroQ sP zeroQ_ok.fit
  rw [s_add] at ad
  have t5 := btake_pf sQ1 5 [1] s_fit (by simp)
  rw [s_t5] at t5
  have t7 := btake_pf sQ1 7 [1] s_fit (by simp)
  rw [s_t7] at t7
  have rd := bready_pf sQ1 5 s_fit
  rw [s_rd] at rd
  have sm := bsum_pf [sP] (by simp)
  rw [s_sum] at sm
  have iP := imm_pay sP
  have i1 := imm_que sQ1
  have i2 := imm_que sQ2
  have iB := imm_bat sB
  have iz := imm_que zeroQ
  have izb := imm_bat zeroB
  have ipp := imm_pays [sP]
  have e1 : sQ1.cells = [paysL [sP], .list 1 [[iv 1]], batsL []] := rfl
  have e2 : sQ2.cells = [paysL [], .list 1 [[iv 1]], batsL [sB]] := rfl
  have eB : sB.cells = [iv 1, iv 7, paysL [sP]] := rfl
  have eP : sP.cells = [iv 1, iv 1, iv 10, iv 5, iv 1] := rfl
  have ez : zeroQ.cells = [paysL [], .list 1 [], batsL []] := rfl
  have ezb : zeroB.cells = [iv 0, iv 0, paysL []] := rfl
  have eI : intsL [1] = .list 1 [[iv 1]] := rfl
  have ea : zeroQ.cells = zeroQ.cells := rfl
  simp only [e1, e2, eB, eP, ezb, eI] at ad t5 t7 rd i1 i2 iB iP izb
  simp -dsimp -implicitDefEqProofs [-getElem?_pos, go_sem, hP]
  refine callB_imm (ad.lift _ _) hP en_12 (args_agg cw_zeroQ (args_imm iP (args_nil.2 trivial))) (by simp [srefs, srefs2, srefs1]) (imm_pair i1 .sc) ?_
  simp -dsimp -implicitDefEqProofs [-getElem?_pos, go_sem, hP]
  refine callB_is (t5.lift _ _) hP en_18 (by simp [imm_sc, imm_list]; exact i1) (imm_trip iz izb .sc) ?_
  simp -dsimp -implicitDefEqProofs [-getElem?_pos, go_sem, hP, ez]
  refine callB_is (t7.lift _ _) hP en_18 (by simp [imm_sc, imm_list]; exact i1) (imm_trip i2 iB .sc) ?_
  simp -dsimp -implicitDefEqProofs [-getElem?_pos, go_sem, hP]
  refine callB_is (rd.lift _ _) hP en_17 (by simp [imm_sc]; exact i1) ipp ?_
  simp -dsimp -implicitDefEqProofs [-getElem?_pos, go_sem, hP]
  refine callB_is (sm.lift _ _) hP en_20 (by simpa using ipp) .sc ?_
  simp -dsimp -implicitDefEqProofs [-getElem?_pos, go_sem, hP]
end Go.Proofs.Ytmpncdlhmknkoaa
