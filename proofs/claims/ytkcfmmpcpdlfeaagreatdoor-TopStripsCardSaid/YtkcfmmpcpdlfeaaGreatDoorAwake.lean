/- A run that is reckoned out: awake45. -/
import Derived.Test.YtkcfmmpcpdlfeaaGreatDoorFacts
import Derived.Test.YtkcfmmpcpdlfeaaGreatDoorPaRun
import Derived.Test.YtkcfmmpcpdlfeaaGreatDoorPlayAll
set_option linter.unusedSimpArgs false
set_option linter.unusedVariables false
set_option maxRecDepth 100000
namespace Go.Proofs.YtkcfmmpcpdlfeaaGreatDoor
open Go.PA
open Go.RowKit

theorem cloneE_0 {row src : Option Nat} (H : Heap) : MFun Tryz.prog row src 124 [.list 5 []] H (IsL (twoE 202 5 H)) := by
  have own : MFun Tryz.prog row src 124 [.list 5 []] H (fun r H' => (r = .nil ∧ H' = H) ∨ (r = .sref (H.length + 1) 0 0 ∧ H' = H ++ [none] ++ [some ⟨202, 5, []⟩])) := by
    refine mfun_list_nil fun A c => ?_
    refine mfun_intro Tryz.func124 rfl (by simp [Tryz.f124]) (by kernel_rfl) ⟨.nil, H, .inl ⟨rfl, rfl⟩⟩ ?_
    intro E hP hr hs hN
    cases A with
    | none => simp -dsimp -implicitDefEqProofs [-getElem?_pos, go_sem, hP]
    | some a => simp -dsimp -implicitDefEqProofs [-getElem?_pos, go_sem, hP, hset_new]
  refine (own.ownNil 202 5).mono ?_
  rintro r H' (⟨H0, h0, rfl, rfl⟩ | ⟨hne, h⟩)
  · rcases h0 with ⟨_, rfl⟩ | ⟨h, _⟩
    · exact .head _
    · cases h
  · rcases h with ⟨h, _⟩ | ⟨rfl, rfl⟩
    · exact absurd h hne
    · exact .tail _ (.head _)
def runE : List (FuncId × TypeId × Nat) := [(124, 202, 5)]
theorem runE_ok : RunOk Tryz.prog (primE runE) := primE_ok fun x hx H row src => by
  simp only [runE, List.mem_cons, List.not_mem_nil, or_false] at hx
  subst hx
  exact cloneE_0 H
def runM := modeOf [(18, 9, 56), (200, 6, 134), (94, 5, 134), (134, 1, 173), (189, 16, 220), (220, 1, 127), (220, 1, 128), (220, 1, 129), (220, 1, 125), (200, 10, 123), (166, 12, 194), (194, 1, 126), (202, 20, 228), (228, 1, 124), (228, 1, 125), (202, 17, 238), (202, 21, 238), (172, 12, 130), (203, 9, 194), (144, 1, 123), (144, 1, 180)]
def runH : FuncId → Nat → DH := hintOf [(131, 7, ⟨[], [7], []⟩), (132, 4, ⟨[], [6], []⟩), (163, 7, ⟨[], [15], []⟩), (166, 19, ⟨[], [11, 12], []⟩), (171, 1, ⟨[], [19, 20], []⟩), (131, 12, ⟨[13], [], []⟩), (205, 2, ⟨[28], [], []⟩), (92, 10, ⟨[10], [], []⟩), (166, 34, ⟨[3], [], [4]⟩), (202, 23, ⟨[8, 9], [], []⟩), (166, 24, ⟨[7], [], []⟩), (131, 5, ⟨[20], [], []⟩), (165, 14, ⟨[9, 11], [], []⟩), (194, 1, ⟨[10], [], []⟩), (232, 1, ⟨[9], [], []⟩), (190, 11, ⟨[4], [], []⟩), (172, 12, ⟨[7], [], []⟩), (200, 10, ⟨[13], [], []⟩), (174, 11, ⟨[6, 7, 9, 10], [], [0]⟩), (173, 5, ⟨[12, 9], [], []⟩), (189, 35, ⟨[12], [], []⟩), (189, 18, ⟨[19, 22], [], []⟩), (92, 15, ⟨[8, 11], [], []⟩), (23, 1, ⟨[10], [], []⟩), (92, 14, ⟨[26, 29, 32, 35], [], []⟩), (92, 3, ⟨[14, 17], [], []⟩), (92, 2, ⟨[14, 17], [], []⟩)]
theorem k0 : KOk Tryz.prog [] := kOk_nil
def l1 : KL := (121, [.list 1 [[iv 1], [iv 2]]], bv true) :: []
theorem k1 : KOk Tryz.prog l1 := kstep runE_ok k0 runH runM (by kernel_rfl) (by kernel_rfl)
def l2 : KL := (139, [.agg [iv 1, iv 0, iv 1, iv 110, iv 410, iv 100, iv 0, iv 0]], bv true) :: l1
theorem k2 : KOk Tryz.prog l2 := kstep runE_ok k1 runH runM (by kernel_rfl) (by kernel_rfl)
def l3 : KL := (93, [.agg [iv 0, .list 2 [[iv 1, iv 0], [iv 2, iv 0]], .nil, .nil, .nil, .nil, .nil, .nil, .nil, .nil, .nil, .nil, .nil, .nil, .nil], .agg [iv 1, iv 0, iv 2, iv 1, iv 0, iv 100, iv 0]], .tup [.agg [iv 0, .list 2 [[iv 1, iv 0], [iv 2, iv 100]], .list 6 [[iv 1, iv 0, iv 0, iv 2, iv 100, iv 0]], .nil, .nil, .nil, .nil, .nil, .list 5 [[iv 1, iv 0, iv 1, iv 100, iv 0]], .nil, .list 1 [[iv 100]], .nil, .nil, .nil, .list 8 [[iv 1, iv 0, iv 1, iv 110, iv 410, iv 100, iv 0, iv 0]]], iv 0]) :: l2
theorem k3 : KOk Tryz.prog l3 := kstep runE_ok k2 runH runM (by kernel_rfl) (by kernel_rfl)
def l4 : KL := (94, [.agg [iv 0, .list 2 [[iv 1, iv 0], [iv 2, iv 100]], .list 6 [[iv 1, iv 0, iv 0, iv 2, iv 100, iv 0]]]], iv 0) :: l3
theorem k4 : KOk Tryz.prog l4 := kstep runE_ok k3 runH runM (by kernel_rfl) (by kernel_rfl)
def l5 : KL := (226, [.agg [iv 5, iv 1, iv 60, iv 0, iv 2]], bv true) :: l4
theorem k5 : KOk Tryz.prog l5 := kstep runE_ok k4 runH runM (by kernel_rfl) (by kernel_rfl)
def l6 : KL := (212, [.agg [.list 5 [[iv 5, iv 1, iv 60, iv 0, iv 2]], .list 1 [[iv 5]], .nil]], iv 0) :: l5
theorem k6 : KOk Tryz.prog l6 := kstep runE_ok k5 runH runM (by kernel_rfl) (by kernel_rfl)
def l7 : KL := (166, [.agg [iv 0, .list 2 [[iv 1, iv 0], [iv 2, iv 100]], .list 6 [[iv 1, iv 0, iv 0, iv 2, iv 100, iv 0]], .list 5 [[iv 5, iv 1, iv 60, iv 0, iv 2]], .list 1 [[iv 5]], .nil, .list 7 [[iv 5, iv 1, iv 60, iv 0, iv 2, iv 1, iv 0]]], iv 0], .tup [.agg [iv 0, .list 2 [[iv 1, iv 0], [iv 2, iv 40]], .list 6 [[iv 1, iv 0, iv 0, iv 2, iv 100, iv 0], [iv 2, iv 0, iv 2, iv 0, iv 60, iv 5]], .list 5 [], .list 1 [[iv 5]], .list 3 [[iv 1, iv 0, .list 5 [[iv 5, iv 1, iv 60, iv 0, iv 2]]]], .list 7 [[iv 5, iv 1, iv 60, iv 0, iv 2, iv 2, iv 1]]], .agg [iv 1, iv 0, .list 5 [[iv 5, iv 1, iv 60, iv 0, iv 2]]], iv 0]) :: l6
theorem k7 : KOk Tryz.prog l7 := kstep runE_ok k6 runH runM (by kernel_rfl) (by kernel_rfl)
def l8 : KL := (139, [.agg [iv 2, iv 0, iv 1, iv 510, iv 110, iv 60, iv 0, iv 5]], bv true) :: l7
theorem k8 : KOk Tryz.prog l8 := kstep runE_ok k7 runH runM (by kernel_rfl) (by kernel_rfl)
def l9 : KL := (94, [.agg [iv 0, .list 2 [[iv 1, iv 0], [iv 2, iv 40]], .list 6 [[iv 1, iv 0, iv 0, iv 2, iv 100, iv 0], [iv 2, iv 0, iv 2, iv 0, iv 60, iv 5]]]], iv 0) :: l8
theorem k9 : KOk Tryz.prog l9 := kstep runE_ok k8 runH runM (by kernel_rfl) (by kernel_rfl)
def l10 : KL := (249, [.agg [.list 5 [], .list 1 [[iv 5]], .list 3 [[iv 1, iv 0, .list 5 [[iv 5, iv 1, iv 60, iv 0, iv 2]]]]]], bv true) :: l9
theorem k10 : KOk Tryz.prog l10 := kstep runE_ok k9 runH runM (by kernel_rfl) (by kernel_rfl)
def l11 : KL := (213, [.agg [iv 0, .list 2 [[iv 1, iv 0], [iv 2, iv 40]], .list 6 [[iv 1, iv 0, iv 0, iv 2, iv 100, iv 0], [iv 2, iv 0, iv 2, iv 0, iv 60, iv 5]], .list 5 [], .list 1 [[iv 5]], .list 3 [[iv 1, iv 0, .list 5 [[iv 5, iv 1, iv 60, iv 0, iv 2]]]], .list 7 [[iv 5, iv 1, iv 60, iv 0, iv 2, iv 2, iv 1]]], .agg [iv 5, iv 1, iv 60, iv 0, iv 2, iv 2, iv 1]], bv true) :: l10
theorem k11 : KOk Tryz.prog l11 := kstep runE_ok k10 runH runM (by kernel_rfl) (by kernel_rfl)
def l12 : KL := (200, [.agg [iv 0, .list 2 [[iv 1, iv 0], [iv 2, iv 40]], .list 6 [[iv 1, iv 0, iv 0, iv 2, iv 100, iv 0], [iv 2, iv 0, iv 2, iv 0, iv 60, iv 5]]], .agg [iv 3, iv 1, iv 0, iv 2, iv 60, iv 5]], .tup [.agg [iv 0, .list 2 [[iv 1, iv 0], [iv 2, iv 100]], .list 6 [[iv 1, iv 0, iv 0, iv 2, iv 100, iv 0], [iv 2, iv 0, iv 2, iv 0, iv 60, iv 5], [iv 3, iv 1, iv 0, iv 2, iv 60, iv 5]]], iv 0]) :: l11
theorem k12 : KOk Tryz.prog l12 := kstep runE_ok k11 runH runM (by kernel_rfl) (by kernel_rfl)
def l13 : KL := (139, [.agg [iv 3, iv 1, iv 1, iv 110, iv 410, iv 60, iv 0, iv 5]], bv true) :: l12
theorem k13 : KOk Tryz.prog l13 := kstep runE_ok k12 runH runM (by kernel_rfl) (by kernel_rfl)
def l14 : KL := (93, [.agg [iv 0, .list 2 [[iv 1, iv 0], [iv 2, iv 40]], .list 6 [[iv 1, iv 0, iv 0, iv 2, iv 100, iv 0], [iv 2, iv 0, iv 2, iv 0, iv 60, iv 5]], .list 5 [], .list 1 [[iv 5]], .list 3 [[iv 1, iv 0, .list 5 [[iv 5, iv 1, iv 60, iv 0, iv 2]]]], .list 7 [[iv 5, iv 1, iv 60, iv 0, iv 2, iv 2, iv 1]], .nil, .list 5 [[iv 1, iv 0, iv 1, iv 100, iv 0]], .nil, .list 1 [[iv 100]], .nil, .nil, .nil, .list 8 [[iv 1, iv 0, iv 1, iv 110, iv 410, iv 100, iv 0, iv 0], [iv 2, iv 0, iv 1, iv 510, iv 110, iv 60, iv 0, iv 5]]], .agg [iv 5, iv 1, iv 0, iv 0, iv 5, iv 0, iv 0]], .tup [.agg [iv 0, .list 2 [[iv 1, iv 0], [iv 2, iv 100]], .list 6 [[iv 1, iv 0, iv 0, iv 2, iv 100, iv 0], [iv 2, iv 0, iv 2, iv 0, iv 60, iv 5], [iv 3, iv 1, iv 0, iv 2, iv 60, iv 5]], .list 5 [], .list 1 [[iv 5]], .list 3 [[iv 1, iv 0, .list 5 [[iv 5, iv 1, iv 60, iv 0, iv 2]]]], .list 7 [[iv 5, iv 1, iv 60, iv 0, iv 2, iv 4, iv 1]], .nil, .list 5 [[iv 1, iv 0, iv 1, iv 100, iv 0]], .nil, .list 1 [[iv 100]], .nil, .nil, .nil, .list 8 [[iv 1, iv 0, iv 1, iv 110, iv 410, iv 100, iv 0, iv 0], [iv 2, iv 0, iv 1, iv 510, iv 110, iv 60, iv 0, iv 5], [iv 3, iv 1, iv 1, iv 110, iv 410, iv 60, iv 0, iv 5]]], iv 0]) :: l13
theorem k14 : KOk Tryz.prog l14 := kstep runE_ok k13 runH runM (by kernel_rfl) (by kernel_rfl)
def l15 : KL := (52, [.agg [iv 0, .list 2 [[iv 1, iv 0], [iv 2, iv 0]], .nil, .nil, .nil, .nil, .nil, .nil, .nil, .nil, .nil, .nil, .nil, .nil, .nil], .list 7 [[iv 1, iv 0, iv 2, iv 1, iv 0, iv 100, iv 0], [iv 2, iv 0, iv 2, iv 1, iv 5, iv 60, iv 0], [iv 3, iv 0, iv 0, iv 0, iv 0, iv 0, iv 0], [iv 5, iv 1, iv 0, iv 0, iv 5, iv 0, iv 0]]], .tup [.agg [iv 0, .list 2 [[iv 1, iv 0], [iv 2, iv 100]], .list 6 [[iv 1, iv 0, iv 0, iv 2, iv 100, iv 0], [iv 2, iv 0, iv 2, iv 0, iv 60, iv 5], [iv 3, iv 1, iv 0, iv 2, iv 60, iv 5]], .list 5 [], .list 1 [[iv 5]], .list 3 [[iv 1, iv 0, .list 5 [[iv 5, iv 1, iv 60, iv 0, iv 2]]]], .list 7 [[iv 5, iv 1, iv 60, iv 0, iv 2, iv 4, iv 1]], .nil, .list 5 [[iv 1, iv 0, iv 1, iv 100, iv 0]], .nil, .list 1 [[iv 100]], .nil, .nil, .nil, .list 8 [[iv 1, iv 0, iv 1, iv 110, iv 410, iv 100, iv 0, iv 0], [iv 2, iv 0, iv 1, iv 510, iv 110, iv 60, iv 0, iv 5], [iv 3, iv 1, iv 1, iv 110, iv 410, iv 60, iv 0, iv 5]]], iv 4, iv 0]) :: l14
theorem k15 : KOk Tryz.prog l15 := kstep runE_ok k14 runH runM (by kernel_rfl) (by kernel_rfl)
def l16 : KL := (94, [.agg [iv 0, .list 2 [[iv 1, iv 0], [iv 2, iv 100]], .list 6 [[iv 1, iv 0, iv 0, iv 2, iv 100, iv 0], [iv 2, iv 0, iv 2, iv 0, iv 60, iv 5], [iv 3, iv 1, iv 0, iv 2, iv 60, iv 5]]]], iv 0) :: l15
theorem k16 : KOk Tryz.prog l16 := kstep runE_ok k15 runH runM (by kernel_rfl) (by kernel_rfl)
def l17 : KL := (98, [.agg [iv 0, .list 2 [[iv 1, iv 0], [iv 2, iv 100]], .list 6 [[iv 1, iv 0, iv 0, iv 2, iv 100, iv 0], [iv 2, iv 0, iv 2, iv 0, iv 60, iv 5], [iv 3, iv 1, iv 0, iv 2, iv 60, iv 5]], .list 5 [], .list 1 [[iv 5]], .list 3 [[iv 1, iv 0, .list 5 [[iv 5, iv 1, iv 60, iv 0, iv 2]]]], .list 7 [[iv 5, iv 1, iv 60, iv 0, iv 2, iv 4, iv 1]], .nil, .list 5 [[iv 1, iv 0, iv 1, iv 100, iv 0]], .nil, .list 1 [[iv 100]], .nil, .nil, .nil, .list 8 [[iv 1, iv 0, iv 1, iv 110, iv 410, iv 100, iv 0, iv 0], [iv 2, iv 0, iv 1, iv 510, iv 110, iv 60, iv 0, iv 5], [iv 3, iv 1, iv 1, iv 110, iv 410, iv 60, iv 0, iv 5]]]], .nil) :: l16
theorem k17 : KOk Tryz.prog l17 := kstep runE_ok k16 runH runM (by kernel_rfl) (by kernel_rfl)
theorem awake45_pf (row src : Option Nat) : PFun Tryz.prog row src 17 [] (· = bv true) := pfun_run (primOr_ok runE_ok (primK_ok k17)) runH runM 10000 60 (by kernel_rfl) (by kernel_rfl) row src
end Go.Proofs.YtkcfmmpcpdlfeaaGreatDoor
