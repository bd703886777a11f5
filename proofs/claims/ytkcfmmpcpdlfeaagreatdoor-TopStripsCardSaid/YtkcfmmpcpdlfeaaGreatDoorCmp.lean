/- cmp.Compare, cmp.Or. -/
import Derived.Test.YtkcfmmpcpdlfeaaGreatDoorPlayAll
set_option linter.unusedSimpArgs false
namespace Go.Proofs.YtkcfmmpcpdlfeaaGreatDoor
open Go.PA
open Go.RowKit

/-! cmp -/
theorem isNaN_pf (x : Int) : PFun Tryz.prog none none 59 [iv x] (· = bv false) := by
  refine pfun_intro Tryz.func59 rfl (by simp [Tryz.f59]) (by kernel_rfl) ?_
  intro E hP hr hs hW hN
  simp [go_sem, hP]
def cmpI (x y : Int) : Int := if x < y then -1 else if y < x then 1 else 0
theorem compare_pf (x y : Int) : PFun Tryz.prog none none 21 [iv x, iv y] (· = iv (cmpI x y)) := by
  refine pfun_intro Tryz.func21 rfl (by simp [Tryz.f21]) (by kernel_rfl) ?_
  intro E hP hr hs hW hN
  simp [go_sem, hP]
  refine callB_pure (isNaN_pf x) hP en_59 (args_same (by simp [go_sem])) .sc ?_
  simp [go_sem, hP]
  refine callB_pure (isNaN_pf y) hP en_59 (args_same (by simp [go_sem])) .sc ?_
  simp [go_sem, hP]
  refine condP (fun h => ?_) (fun h => ?_)
  · have h : x < y := by simpa using h
    simp [go_sem, hP, cmpI, h]
  · have h : ¬ x < y := by simpa using h
    simp [go_sem, hP]
    refine condP (fun h' => ?_) (fun h' => ?_)
    · have h' : y < x := by simpa using h'
      simp [go_sem, hP, cmpI, h, h']
    · have h' : ¬ y < x := by simpa using h'
      simp [go_sem, hP, cmpI, h, h']
/-- The first number that is not 0. -/
def orI : List Int → Int
  | [] => 0
  | x :: l => if x = 0 then orI l else x
theorem orI_drop (l : List Int) (k : Nat) (h : k < l.length) : orI (l.drop k) = if l[k] = 0 then orI (l.drop (k + 1)) else l[k] := by
  rw [List.drop_eq_getElem_cons h]; rfl
theorem or_pf (l : List Int) (hl : l.length ≤ 1000) : PFun Tryz.prog none none 82 [intsL l] (· = iv (orI l)) := by
  refine pfun_intro Tryz.func82 rfl (by simp [Tryz.f82]) (by kernel_rfl) ?_
  intro E hP hr hs hW hN
  simp [go_sem, hP, intsL]
  refine aloop0 (fun m s => ∃ k : Nat, k ≤ l.length ∧ m = l.length - k ∧ orI l = orI (l.drop k) ∧ s.t 3 = iv 0 ∧ s.t 6 = intsL l ∧ s.t 7 = iv l.length ∧ s.t 8 = iv k) l.length (by rw [hN]; rfl) ?_ ?_
  · exact ⟨0, by omega, by omega, by simp, by simp [go_sem], by simp [go_sem, intsL], by simp [go_sem], by simp [go_sem]⟩
  rintro m s ⟨k, hk, hm, ho, t3, t6, t7, t8⟩
  simp [go_sem, hP, t7, t8]
  refine condP (fun h => ?_) (fun h => ?_)
  · have hk : k < l.length := by simpa using h
    rw [orI_drop l k hk] at ho
    have w := wrap_in ((k : Int) + 1) (by omega)
    simp [go_sem, hP, t3, t6, t7, t8, intsL, hk]
    by_cases h0 : l[k] = 0
    · simp [go_sem, hP, h0, t8, w]
      rw [if_pos h0] at ho
      exact ⟨l.length - (k + 1), by omega, k + 1, by omega, rfl, ho, t3, t6, t7, rfl⟩
    · simp [go_sem, hP, h0]
      rw [if_neg h0] at ho
      exact ho.symm
  · have hk : l.length ≤ k := by simpa using h
    simp [go_sem, hP, t3]
    rw [ho, List.drop_eq_nil_of_le hk]
    rfl
end Go.Proofs.YtkcfmmpcpdlfeaaGreatDoor
