/- A run that is reckoned out: awake45. -/
import Derived.Test.YtmkhcmiplleghaaGreatDoorFacts
import Derived.Test.YtmkhcmiplleghaaGreatDoorPaRun
import Derived.Test.YtmkhcmiplleghaaGreatDoorPlayAll
set_option linter.unusedSimpArgs false
set_option linter.unusedVariables false
set_option maxRecDepth 100000
namespace Go.Proofs.YtmkhcmiplleghaaGreatDoor
open Go.PA
open Go.RowKit

theorem cloneE_0 {row src : Option Nat} (H : Heap) : MFun Tryz.prog row src 78 [.list 5 []] H (IsL (twoE 165 5 H)) := by
  have own : MFun Tryz.prog row src 78 [.list 5 []] H (fun r H' => (r = .nil ∧ H' = H) ∨ (r = .sref (H.length + 1) 0 0 ∧ H' = H ++ [none] ++ [some ⟨165, 5, []⟩])) := by
    refine mfun_list_nil fun A c => ?_
    refine mfun_intro Tryz.func78 rfl (by simp [Tryz.f78]) (by kernel_rfl) ⟨.nil, H, .inl ⟨rfl, rfl⟩⟩ ?_
    intro E hP hr hs hN
    cases A with
    | none => simp -dsimp -implicitDefEqProofs [-getElem?_pos, go_sem, hP]
    | some a => simp -dsimp -implicitDefEqProofs [-getElem?_pos, go_sem, hP, hset_new]
  refine (own.ownNil 165 5).mono ?_
  rintro r H' (⟨H0, h0, rfl, rfl⟩ | ⟨hne, h⟩)
  · rcases h0 with ⟨_, rfl⟩ | ⟨h, _⟩
    · exact .head _
    · cases h
  · rcases h with ⟨h, _⟩ | ⟨rfl, rfl⟩
    · exact absurd h hne
    · exact .tail _ (.head _)
def runE : List (FuncId × TypeId × Nat) := [(78, 165, 5)]
theorem runE_ok : RunOk Tryz.prog (primE runE) := primE_ok fun x hx H row src => by
  simp only [runE, List.mem_cons, List.not_mem_nil, or_false] at hx
  subst hx
  exact cloneE_0 H
def runM := modeOf [(70, 9, 121), (177, 6, 88), (48, 5, 88), (88, 1, 141), (166, 16, 213), (213, 1, 81), (213, 1, 82), (213, 1, 83), (213, 1, 79), (177, 10, 77), (132, 12, 171), (171, 1, 80), (179, 20, 221), (221, 1, 78), (221, 1, 79), (179, 17, 231), (179, 21, 231), (140, 12, 84), (180, 9, 171), (98, 1, 77), (98, 1, 148)]
def runH : FuncId → Nat → DH := hintOf [(85, 7, ⟨[], [7], []⟩), (86, 4, ⟨[], [6], []⟩), (129, 7, ⟨[], [15], []⟩), (132, 19, ⟨[], [11, 12], []⟩), (139, 1, ⟨[], [19, 20], []⟩), (85, 12, ⟨[13], [], []⟩), (182, 2, ⟨[28], [], []⟩), (46, 10, ⟨[10], [], []⟩), (132, 34, ⟨[3], [], [4]⟩), (179, 23, ⟨[8, 9], [], []⟩), (132, 24, ⟨[7], [], []⟩), (85, 5, ⟨[20], [], []⟩), (131, 14, ⟨[9, 11], [], []⟩), (171, 1, ⟨[10], [], []⟩), (225, 1, ⟨[9], [], []⟩), (167, 11, ⟨[4], [], []⟩), (140, 12, ⟨[7], [], []⟩), (177, 10, ⟨[13], [], []⟩), (142, 11, ⟨[6, 7, 9, 10], [], [0]⟩), (141, 5, ⟨[12, 9], [], []⟩), (166, 35, ⟨[12], [], []⟩), (166, 18, ⟨[19, 22], [], []⟩), (46, 15, ⟨[8, 11], [], []⟩), (74, 1, ⟨[10], [], []⟩), (46, 14, ⟨[26, 29, 32, 35], [], []⟩), (46, 3, ⟨[14, 17], [], []⟩), (46, 2, ⟨[14, 17], [], []⟩)]
theorem k0 : KOk Tryz.prog [] := kOk_nil
def l1 : KL := (69, [.list 1 [[iv 1], [iv 2]]], bv true) :: []
theorem k1 : KOk Tryz.prog l1 := kstep runE_ok k0 runH runM (by kernel_rfl) (by kernel_rfl)
def l2 : KL := (93, [.agg [iv 1, iv 0, iv 1, iv 110, iv 410, iv 100, iv 0, iv 0]], bv true) :: l1
theorem k2 : KOk Tryz.prog l2 := kstep runE_ok k1 runH runM (by kernel_rfl) (by kernel_rfl)
def l3 : KL := (47, [.agg [iv 0, .list 2 [[iv 1, iv 0], [iv 2, iv 0]], .nil, .nil, .nil, .nil, .nil, .nil, .nil, .nil, .nil, .nil, .nil, .nil, .nil], .agg [iv 1, iv 0, iv 2, iv 1, iv 0, iv 100, iv 0]], .tup [.agg [iv 0, .list 2 [[iv 1, iv 0], [iv 2, iv 100]], .list 6 [[iv 1, iv 0, iv 0, iv 2, iv 100, iv 0]], .nil, .nil, .nil, .nil, .nil, .list 5 [[iv 1, iv 0, iv 1, iv 100, iv 0]], .nil, .list 1 [[iv 100]], .nil, .nil, .nil, .list 8 [[iv 1, iv 0, iv 1, iv 110, iv 410, iv 100, iv 0, iv 0]]], iv 0]) :: l2
theorem k3 : KOk Tryz.prog l3 := kstep runE_ok k2 runH runM (by kernel_rfl) (by kernel_rfl)
def l4 : KL := (48, [.agg [iv 0, .list 2 [[iv 1, iv 0], [iv 2, iv 100]], .list 6 [[iv 1, iv 0, iv 0, iv 2, iv 100, iv 0]]]], iv 0) :: l3
theorem k4 : KOk Tryz.prog l4 := kstep runE_ok k3 runH runM (by kernel_rfl) (by kernel_rfl)
def l5 : KL := (219, [.agg [iv 5, iv 1, iv 60, iv 0, iv 2]], bv true) :: l4
theorem k5 : KOk Tryz.prog l5 := kstep runE_ok k4 runH runM (by kernel_rfl) (by kernel_rfl)
def l6 : KL := (190, [.agg [.list 5 [[iv 5, iv 1, iv 60, iv 0, iv 2]], .list 1 [[iv 5]], .nil]], iv 0) :: l5
theorem k6 : KOk Tryz.prog l6 := kstep runE_ok k5 runH runM (by kernel_rfl) (by kernel_rfl)
def l7 : KL := (132, [.agg [iv 0, .list 2 [[iv 1, iv 0], [iv 2, iv 100]], .list 6 [[iv 1, iv 0, iv 0, iv 2, iv 100, iv 0]], .list 5 [[iv 5, iv 1, iv 60, iv 0, iv 2]], .list 1 [[iv 5]], .nil, .list 7 [[iv 5, iv 1, iv 60, iv 0, iv 2, iv 1, iv 0]]], iv 0], .tup [.agg [iv 0, .list 2 [[iv 1, iv 0], [iv 2, iv 40]], .list 6 [[iv 1, iv 0, iv 0, iv 2, iv 100, iv 0], [iv 2, iv 0, iv 2, iv 0, iv 60, iv 5]], .list 5 [], .list 1 [[iv 5]], .list 3 [[iv 1, iv 0, .list 5 [[iv 5, iv 1, iv 60, iv 0, iv 2]]]], .list 7 [[iv 5, iv 1, iv 60, iv 0, iv 2, iv 2, iv 1]]], .agg [iv 1, iv 0, .list 5 [[iv 5, iv 1, iv 60, iv 0, iv 2]]], iv 0]) :: l6
theorem k7 : KOk Tryz.prog l7 := kstep runE_ok k6 runH runM (by kernel_rfl) (by kernel_rfl)
def l8 : KL := (93, [.agg [iv 2, iv 0, iv 1, iv 510, iv 110, iv 60, iv 0, iv 5]], bv true) :: l7
theorem k8 : KOk Tryz.prog l8 := kstep runE_ok k7 runH runM (by kernel_rfl) (by kernel_rfl)
def l9 : KL := (48, [.agg [iv 0, .list 2 [[iv 1, iv 0], [iv 2, iv 40]], .list 6 [[iv 1, iv 0, iv 0, iv 2, iv 100, iv 0], [iv 2, iv 0, iv 2, iv 0, iv 60, iv 5]]]], iv 0) :: l8
theorem k9 : KOk Tryz.prog l9 := kstep runE_ok k8 runH runM (by kernel_rfl) (by kernel_rfl)
def l10 : KL := (243, [.agg [.list 5 [], .list 1 [[iv 5]], .list 3 [[iv 1, iv 0, .list 5 [[iv 5, iv 1, iv 60, iv 0, iv 2]]]]]], bv true) :: l9
theorem k10 : KOk Tryz.prog l10 := kstep runE_ok k9 runH runM (by kernel_rfl) (by kernel_rfl)
def l11 : KL := (191, [.agg [iv 0, .list 2 [[iv 1, iv 0], [iv 2, iv 40]], .list 6 [[iv 1, iv 0, iv 0, iv 2, iv 100, iv 0], [iv 2, iv 0, iv 2, iv 0, iv 60, iv 5]], .list 5 [], .list 1 [[iv 5]], .list 3 [[iv 1, iv 0, .list 5 [[iv 5, iv 1, iv 60, iv 0, iv 2]]]], .list 7 [[iv 5, iv 1, iv 60, iv 0, iv 2, iv 2, iv 1]]], .agg [iv 5, iv 1, iv 60, iv 0, iv 2, iv 2, iv 1]], bv true) :: l10
theorem k11 : KOk Tryz.prog l11 := kstep runE_ok k10 runH runM (by kernel_rfl) (by kernel_rfl)
def l12 : KL := (177, [.agg [iv 0, .list 2 [[iv 1, iv 0], [iv 2, iv 40]], .list 6 [[iv 1, iv 0, iv 0, iv 2, iv 100, iv 0], [iv 2, iv 0, iv 2, iv 0, iv 60, iv 5]]], .agg [iv 3, iv 1, iv 0, iv 2, iv 60, iv 5]], .tup [.agg [iv 0, .list 2 [[iv 1, iv 0], [iv 2, iv 100]], .list 6 [[iv 1, iv 0, iv 0, iv 2, iv 100, iv 0], [iv 2, iv 0, iv 2, iv 0, iv 60, iv 5], [iv 3, iv 1, iv 0, iv 2, iv 60, iv 5]]], iv 0]) :: l11
theorem k12 : KOk Tryz.prog l12 := kstep runE_ok k11 runH runM (by kernel_rfl) (by kernel_rfl)
def l13 : KL := (93, [.agg [iv 3, iv 1, iv 1, iv 110, iv 410, iv 60, iv 0, iv 5]], bv true) :: l12
theorem k13 : KOk Tryz.prog l13 := kstep runE_ok k12 runH runM (by kernel_rfl) (by kernel_rfl)
def l14 : KL := (47, [.agg [iv 0, .list 2 [[iv 1, iv 0], [iv 2, iv 40]], .list 6 [[iv 1, iv 0, iv 0, iv 2, iv 100, iv 0], [iv 2, iv 0, iv 2, iv 0, iv 60, iv 5]], .list 5 [], .list 1 [[iv 5]], .list 3 [[iv 1, iv 0, .list 5 [[iv 5, iv 1, iv 60, iv 0, iv 2]]]], .list 7 [[iv 5, iv 1, iv 60, iv 0, iv 2, iv 2, iv 1]], .nil, .list 5 [[iv 1, iv 0, iv 1, iv 100, iv 0]], .nil, .list 1 [[iv 100]], .nil, .nil, .nil, .list 8 [[iv 1, iv 0, iv 1, iv 110, iv 410, iv 100, iv 0, iv 0], [iv 2, iv 0, iv 1, iv 510, iv 110, iv 60, iv 0, iv 5]]], .agg [iv 5, iv 1, iv 0, iv 0, iv 5, iv 0, iv 0]], .tup [.agg [iv 0, .list 2 [[iv 1, iv 0], [iv 2, iv 100]], .list 6 [[iv 1, iv 0, iv 0, iv 2, iv 100, iv 0], [iv 2, iv 0, iv 2, iv 0, iv 60, iv 5], [iv 3, iv 1, iv 0, iv 2, iv 60, iv 5]], .list 5 [], .list 1 [[iv 5]], .list 3 [[iv 1, iv 0, .list 5 [[iv 5, iv 1, iv 60, iv 0, iv 2]]]], .list 7 [[iv 5, iv 1, iv 60, iv 0, iv 2, iv 4, iv 1]], .nil, .list 5 [[iv 1, iv 0, iv 1, iv 100, iv 0]], .nil, .list 1 [[iv 100]], .nil, .nil, .nil, .list 8 [[iv 1, iv 0, iv 1, iv 110, iv 410, iv 100, iv 0, iv 0], [iv 2, iv 0, iv 1, iv 510, iv 110, iv 60, iv 0, iv 5], [iv 3, iv 1, iv 1, iv 110, iv 410, iv 60, iv 0, iv 5]]], iv 0]) :: l13
theorem k14 : KOk Tryz.prog l14 := kstep runE_ok k13 runH runM (by kernel_rfl) (by kernel_rfl)
def l15 : KL := (29, [.agg [iv 0, .list 2 [[iv 1, iv 0], [iv 2, iv 0]], .nil, .nil, .nil, .nil, .nil, .nil, .nil, .nil, .nil, .nil, .nil, .nil, .nil], .list 7 [[iv 1, iv 0, iv 2, iv 1, iv 0, iv 100, iv 0], [iv 2, iv 0, iv 2, iv 1, iv 5, iv 60, iv 0], [iv 3, iv 0, iv 0, iv 0, iv 0, iv 0, iv 0], [iv 5, iv 1, iv 0, iv 0, iv 5, iv 0, iv 0]]], .tup [.agg [iv 0, .list 2 [[iv 1, iv 0], [iv 2, iv 100]], .list 6 [[iv 1, iv 0, iv 0, iv 2, iv 100, iv 0], [iv 2, iv 0, iv 2, iv 0, iv 60, iv 5], [iv 3, iv 1, iv 0, iv 2, iv 60, iv 5]], .list 5 [], .list 1 [[iv 5]], .list 3 [[iv 1, iv 0, .list 5 [[iv 5, iv 1, iv 60, iv 0, iv 2]]]], .list 7 [[iv 5, iv 1, iv 60, iv 0, iv 2, iv 4, iv 1]], .nil, .list 5 [[iv 1, iv 0, iv 1, iv 100, iv 0]], .nil, .list 1 [[iv 100]], .nil, .nil, .nil, .list 8 [[iv 1, iv 0, iv 1, iv 110, iv 410, iv 100, iv 0, iv 0], [iv 2, iv 0, iv 1, iv 510, iv 110, iv 60, iv 0, iv 5], [iv 3, iv 1, iv 1, iv 110, iv 410, iv 60, iv 0, iv 5]]], iv 4, iv 0]) :: l14
theorem k15 : KOk Tryz.prog l15 := kstep runE_ok k14 runH runM (by kernel_rfl) (by kernel_rfl)
def l16 : KL := (48, [.agg [iv 0, .list 2 [[iv 1, iv 0], [iv 2, iv 100]], .list 6 [[iv 1, iv 0, iv 0, iv 2, iv 100, iv 0], [iv 2, iv 0, iv 2, iv 0, iv 60, iv 5], [iv 3, iv 1, iv 0, iv 2, iv 60, iv 5]]]], iv 0) :: l15
theorem k16 : KOk Tryz.prog l16 := kstep runE_ok k15 runH runM (by kernel_rfl) (by kernel_rfl)
def l17 : KL := (52, [.agg [iv 0, .list 2 [[iv 1, iv 0], [iv 2, iv 100]], .list 6 [[iv 1, iv 0, iv 0, iv 2, iv 100, iv 0], [iv 2, iv 0, iv 2, iv 0, iv 60, iv 5], [iv 3, iv 1, iv 0, iv 2, iv 60, iv 5]], .list 5 [], .list 1 [[iv 5]], .list 3 [[iv 1, iv 0, .list 5 [[iv 5, iv 1, iv 60, iv 0, iv 2]]]], .list 7 [[iv 5, iv 1, iv 60, iv 0, iv 2, iv 4, iv 1]], .nil, .list 5 [[iv 1, iv 0, iv 1, iv 100, iv 0]], .nil, .list 1 [[iv 100]], .nil, .nil, .nil, .list 8 [[iv 1, iv 0, iv 1, iv 110, iv 410, iv 100, iv 0, iv 0], [iv 2, iv 0, iv 1, iv 510, iv 110, iv 60, iv 0, iv 5], [iv 3, iv 1, iv 1, iv 110, iv 410, iv 60, iv 0, iv 5]]]], .nil) :: l16
theorem k17 : KOk Tryz.prog l17 := kstep runE_ok k16 runH runM (by kernel_rfl) (by kernel_rfl)
theorem awake45_pf (row src : Option Nat) : PFun Tryz.prog row src 9 [] (· = bv true) := pfun_run (primOr_ok runE_ok (primK_ok k17)) runH runM 10000 60 (by kernel_rfl) (by kernel_rfl) row src
end Go.Proofs.YtmkhcmiplleghaaGreatDoor
