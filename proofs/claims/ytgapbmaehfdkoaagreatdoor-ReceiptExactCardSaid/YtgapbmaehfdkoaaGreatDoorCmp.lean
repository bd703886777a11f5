/- cmp.Compare, cmp.Or. -/
import Derived.Test.YtgapbmaehfdkoaaGreatDoorPlayAll
set_option linter.unusedSimpArgs false
namespace Go.Proofs.YtgapbmaehfdkoaaGreatDoor
open Go.PA
open Go.RowKit

/-! cmp -/
theorem isNaN_pf (x : Int) : PFun Tryz.prog none none 83 [iv x] (· = bv false) := by
  refine pfun_intro Tryz.func83 rfl (by simp [Tryz.f83]) (by kernel_rfl) ?_
  intro E hP hr hs hW hN
  simp [go_sem, hP]
def cmpI (x y : Int) : Int := if x < y then -1 else if y < x then 1 else 0
theorem compare_pf (x y : Int) : PFun Tryz.prog none none 64 [iv x, iv y] (· = iv (cmpI x y)) := by
  refine pfun_intro Tryz.func64 rfl (by simp [Tryz.f64]) (by kernel_rfl) ?_
  intro E hP hr hs hW hN
  simp [go_sem, hP]
  refine callB_pure (isNaN_pf x) hP en_83 (args_same (by simp [go_sem])) .sc ?_
  simp [go_sem, hP]
  refine callB_pure (isNaN_pf y) hP en_83 (args_same (by simp [go_sem])) .sc ?_
  simp [go_sem, hP]
  refine condP (fun h => ?_) (fun h => ?_)
  · have h : x < y := by simpa using h
    simp [go_sem, hP, cmpI, h]
  · have h : ¬ x < y := by simpa using h
    simp [go_sem, hP]
    refine condP (fun h' => ?_) (fun h' => ?_)
    · have h' : y < x := by simpa using h'
      simp [go_sem, hP, cmpI, h, h']
    · have h' : ¬ y < x := by simpa using h'
      simp [go_sem, hP, cmpI, h, h']
/-- The first number that is not 0. -/
def orI : List Int → Int
  | [] => 0
  | x :: l => if x = 0 then orI l else x
theorem orI_drop (l : List Int) (k : Nat) (h : k < l.length) : orI (l.drop k) = if l[k] = 0 then orI (l.drop (k + 1)) else l[k] := by
  rw [List.drop_eq_getElem_cons h]; rfl
end Go.Proofs.YtgapbmaehfdkoaaGreatDoor
