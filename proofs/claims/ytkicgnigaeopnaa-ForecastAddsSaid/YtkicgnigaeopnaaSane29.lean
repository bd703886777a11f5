/- The chapter's example. -/
import Derived.Test.YtkicgnigaeopnaaPositions
set_option linter.unusedSimpArgs false
namespace Go.Proofs.Ytkicgnigaeopnaa
open Go.PA
open Go.RowKit

theorem sane_project : project 10 [⟨2, -4, 5, 0⟩] 1 3 = ([⟨1, 10⟩, ⟨2, 6⟩, ⟨3, 6⟩], 0) := by
  simp [project, checkI, validB, dayB, totalB, amongB, run, delta]
theorem sane_pf : PFun Try.prog none none 12 [] (· = bv true) := by
  refine pfun_intro Try.func12 rfl (by simp [Try.f12]) (by kernel_rfl) ?_
  intro E hP hr hs hW hN
  simp [go_sem, hP]
  have h1 := project_pf 10 [⟨2, -4, 5, 0⟩] 1 3 (by simp)
  rw [sane_project] at h1
  refine callB_is (h1.lift _ _) hP en_10 (by simp [go_sem]) (by simp [go_sem, posL, Pos.cells]) ?_
  simp [go_sem, hP]
  refine callB_is ((lowest_pf [⟨1, 10⟩, ⟨2, 6⟩, ⟨3, 6⟩] (by simp)).lift _ _) hP en_22 (by simp [go_sem, posL, Pos.cells]) (by simp [go_sem, Pos.cells]) ?_
  simp [go_sem, hP, lowest, minP, Pos.cells]
  refine callB_flat ((positions_pf [⟨1, 10⟩, ⟨2, 6⟩, ⟨3, 6⟩] [⟨1, 10⟩, ⟨2, 6⟩, ⟨3, 6⟩] (by simp) (by simp)).lift _ _) hP en_11 (args_same (by simp [go_sem, posL, Pos.cells])) ⟨bv true, true, rfl, by simp⟩ (by rintro r ⟨t, rfl, _⟩; exact .sc) ?_
  rintro r ⟨t, rfl, ht⟩
  have ht : t = true := ht.2 rfl
  subst ht
  simp [go_sem, hP, Try.f12]

end Go.Proofs.Ytkicgnigaeopnaa
