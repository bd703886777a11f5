/- Restatement: histories that are small. -/
import Derived.Test.YtellcfkpfccgaaaRes3
set_option linter.unusedSimpArgs false
set_option linter.unusedVariables false
namespace Go.Proofs.Ytellcfkpfccgaaa
open Go.PA
open Go.RowKit

def fewC (c : TCorrection) : Bool := decide (c.Postings.length ≤ 22)
def smallH (h : THistory) : Bool := h.Corrections.all fewC && (decide (h.Ledger.Postings.length ≤ 15) && (decide (h.Presented.length ≤ 22) && decide (h.Corrections.length ≤ 22)))
theorem smallH_iff (h : THistory) : smallH h = true ↔ (∀ c, c ∈ h.Corrections → c.Postings.length ≤ 22) ∧ h.Ledger.Postings.length ≤ 15 ∧ h.Presented.length ≤ 22 ∧ h.Corrections.length ≤ 22 := by
  simp [smallH, fewC, List.all_eq_true]
theorem small44_pf (h : THistory) (hl : h.Corrections.length ≤ 9223372036854775807) : PFun Try.prog none none 40 [.agg h.cells] (· = bv (smallH h)) := by
  refine pfun_intro Try.func40 rfl (by simp [Try.f40]) (by kernel_rfl) ?_
  intro E hP hr hs hW hN
  obtain ⟨R, hR⟩ : ∃ R, R = smallH h := ⟨_, rfl⟩
  rw [← hR]
  obtain ⟨l, hlc⟩ : ∃ l, l = h.Corrections := ⟨_, rfl⟩
  rw [smallH, ← hlc] at hR
  rw [← hlc] at hl
  simp -dsimp -implicitDefEqProofs [-getElem?_pos, go_sem, hP, cH, ← hlc]
  obtain ⟨I, hI⟩ : ∃ I : Nat → St → Prop, I = fun m s => ∃ (k : Nat), k ≤ l.length ∧ m = l.length - k ∧ l.all fewC = (l.drop k).all fewC ∧ s.t 1 = .ref 0 0 0 ∧ s.t 6 = corrsL l ∧ s.t 7 = iv l.length ∧ s.t 8 = iv k ∧ s.H[0]? = some (some ⟨56, 3, [[postsL h.Ledger.Postings, presL h.Presented, corrsL l]]⟩) := ⟨_, rfl⟩
  refine aloop0 I (l.length) (by rw [hN]; rfl) ?_ ?_
  · rw [hI]
    exact ⟨0, by omega, by omega, by rw [List.drop_zero], by simp -dsimp -implicitDefEqProofs [-getElem?_pos, go_sem], by simp -dsimp -implicitDefEqProofs [-getElem?_pos, go_sem], by simp -dsimp -implicitDefEqProofs [-getElem?_pos, go_sem], by simp -dsimp -implicitDefEqProofs [-getElem?_pos, go_sem], by simp -dsimp -implicitDefEqProofs [-getElem?_pos, go_sem]⟩
  intro m s hs'
  rw [hI] at hs'
  obtain ⟨k, hk, hm, hq, t1, t6, t7, t8, h0⟩ := hs'
  have lt0 := (List.getElem?_eq_some_iff.1 h0).1
  simp -dsimp -implicitDefEqProofs [-getElem?_pos, go_sem, hP, t7, t8]
  refine condP (fun hh => ?_) (fun hh => ?_)
  · have hk : k < l.length := by simpa using hh
    obtain ⟨c, hcc⟩ : ∃ c, l[k]? = some c := ⟨_, List.getElem?_eq_getElem hk⟩
    have wk := wrap_in ((k : Int) + 1) (by omega)
    rw [drop_get hcc, List.all_cons] at hq
    by_cases c1 : c.Postings.length ≤ 22
    · have d1 : decide ((22 : Int) < c.Postings.length) = false := decide_eq_false (by omega)
      rw [show fewC c = true from decide_eq_true c1, Bool.true_and] at hq
      simp -dsimp -implicitDefEqProofs [-getElem?_pos, go_sem, hP, t6, t8, hcc, cC, d1, wk]
      refine ⟨l.length - (k + 1), by omega, ?_⟩
      rw [hI]
      exact ⟨k + 1, by omega, rfl, hq, by simp -dsimp -implicitDefEqProofs [-getElem?_pos, go_sem, t1], by simp -dsimp -implicitDefEqProofs [-getElem?_pos, go_sem, t6], by simp -dsimp -implicitDefEqProofs [-getElem?_pos, go_sem, t7], by simp -dsimp -implicitDefEqProofs [-getElem?_pos, go_sem], by simp -dsimp -implicitDefEqProofs [-getElem?_pos, go_sem, lt0, h0]⟩
    · have d1 : decide ((22 : Int) < c.Postings.length) = true := decide_eq_true (by omega)
      rw [show fewC c = false from decide_eq_false c1, Bool.false_and] at hq
      rw [hq, Bool.false_and] at hR
      simp -dsimp -implicitDefEqProofs [-getElem?_pos, go_sem, hP, t6, t8, hcc, cC, d1, hR]
  · have hk : k = l.length := by simp at hh; omega
    subst hk
    rw [List.drop_length, List.all_nil] at hq
    rw [hq, Bool.true_and] at hR
    by_cases b1 : h.Ledger.Postings.length ≤ 15
    · have d1 : decide ((h.Ledger.Postings.length : Int) ≤ 15) = true := decide_eq_true (by omega)
      by_cases b2 : h.Presented.length ≤ 22
      · have d2 : decide ((h.Presented.length : Int) ≤ 22) = true := decide_eq_true (by omega)
        by_cases b3 : l.length ≤ 22
        · have d3 : decide ((l.length : Int) ≤ 22) = true := decide_eq_true (by omega)
          rw [decide_eq_true b1, decide_eq_true b2, decide_eq_true b3] at hR
          simp -dsimp -implicitDefEqProofs [-getElem?_pos, go_sem, hP, t1, h0, lt0, d1, d2, d3, hR]
        · have d3 : decide ((l.length : Int) ≤ 22) = false := decide_eq_false (by omega)
          rw [decide_eq_true b1, decide_eq_true b2, decide_eq_false b3] at hR
          simp -dsimp -implicitDefEqProofs [-getElem?_pos, go_sem, hP, t1, h0, lt0, d1, d2, d3, hR]
      · have d2 : decide ((h.Presented.length : Int) ≤ 22) = false := decide_eq_false (by omega)
        rw [decide_eq_true b1, decide_eq_false b2] at hR
        simp -dsimp -implicitDefEqProofs [-getElem?_pos, go_sem, hP, t1, h0, lt0, d1, d2, hR]
    · have d1 : decide ((h.Ledger.Postings.length : Int) ≤ 15) = false := decide_eq_false (by omega)
      rw [decide_eq_false b1] at hR
      simp -dsimp -implicitDefEqProofs [-getElem?_pos, go_sem, hP, t1, h0, lt0, d1, hR]
end Go.Proofs.Ytellcfkpfccgaaa
