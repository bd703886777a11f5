/- Lists of numbers: searching. -/
import Derived.Test.YtkcfmmpcpdlfeaaGreatDoorCmp
import Derived.Test.YtkcfmmpcpdlfeaaGreatDoorPaIns
set_option linter.unusedSimpArgs false
set_option linter.unusedVariables false
namespace Go.Proofs.YtkcfmmpcpdlfeaaGreatDoor
open Go.PA
open Go.RowKit

theorem idxInt_pf (l : List Int) (v : Int) (hl : l.length ≤ 1000000) : PFun Tryz.prog none none 119 [intsL l, iv v] (· = iv (idxI (fun x => decide (v = x)) l)) := by
  refine pfun_intro Tryz.func119 rfl (by simp [Tryz.f119]) (by kernel_rfl) ?_
  intro E hP hr hs hW hN
  simp -dsimp -implicitDefEqProofs [-getElem?_pos, go_sem, hP, intsL]
  obtain ⟨I, hI⟩ : ∃ I : Nat → St → Prop, I = fun m s => ∃ k : Nat, k ≤ l.length ∧ m = l.length - k ∧ idxI (fun x => decide (v = x)) l = idxFrom (fun x => decide (v = x)) k (l.drop k) ∧ s.t 0 = intsL l ∧ s.t 1 = iv v ∧ s.t 7 = iv l.length ∧ s.t 8 = iv k := ⟨_, rfl⟩
  refine aloop0 I (l.length) (by rw [hN]; rfl) ?_ ?_
  · rw [hI]
    exact ⟨0, by omega, by omega, by simp [idxI], by simp -dsimp -implicitDefEqProofs [-getElem?_pos, go_sem, intsL], by simp -dsimp -implicitDefEqProofs [-getElem?_pos, go_sem], by simp -dsimp -implicitDefEqProofs [-getElem?_pos, go_sem], by simp -dsimp -implicitDefEqProofs [-getElem?_pos, go_sem]⟩
  intro m s hs'
  rw [hI] at hs'
  obtain ⟨k, hk, hm, hi, t0, t1, t7, t8⟩ := hs'
  simp -dsimp -implicitDefEqProofs [-getElem?_pos, go_sem, hP, t7, t8]
  refine condP (fun h => ?_) (fun h => ?_)
  · have hk : k < l.length := by simpa using h
    obtain ⟨a, ha⟩ : ∃ a, l[k]? = some a := ⟨_, List.getElem?_eq_getElem hk⟩
    have wk := wrap_in ((k : Int) + 1) (by omega)
    have hd : l.drop k = a :: l.drop (k + 1) := by
      rw [List.getElem?_eq_getElem hk] at ha
      rw [List.drop_eq_getElem_cons hk, Option.some.inj ha]
    rw [hd] at hi
    simp only [idxFrom] at hi
    simp -dsimp -implicitDefEqProofs [-getElem?_pos, go_sem, hP, t8, t1, t0, ha, intsL]
    by_cases hp : v = a
    · rw [if_pos (by simpa using hp)] at hi
      simp -dsimp -implicitDefEqProofs [-getElem?_pos, go_sem, hP, hp]
      rw [hp] at hi
      exact hi.symm
    · rw [if_neg (by simpa using hp)] at hi
      simp -dsimp -implicitDefEqProofs [-getElem?_pos, go_sem, hP, t8, wk, hp]
      refine ⟨l.length - (k + 1), by omega, ?_⟩
      rw [hI]
      exact ⟨k + 1, by omega, rfl, hi, by simp -dsimp -implicitDefEqProofs [-getElem?_pos, go_sem, t0], by simp -dsimp -implicitDefEqProofs [-getElem?_pos, go_sem, t1], by simp -dsimp -implicitDefEqProofs [-getElem?_pos, go_sem, t7], by simp -dsimp -implicitDefEqProofs [-getElem?_pos, go_sem]⟩
  · have hk : k = l.length := by simp at h; omega
    subst hk
    rw [List.drop_length] at hi
    simp -dsimp -implicitDefEqProofs [-getElem?_pos, go_sem, hP]
    exact hi.symm
theorem imm_intsX (l : List Int) : Imm (intsL l) := by simp [go_sem, intsL]
theorem hasInt_pf (l : List Int) (v : Int) (hl : l.length ≤ 1000000) : PFun Tryz.prog none none 85 [intsL l, iv v] (· = bv (decide (v ∈ l))) := by
  refine pfun_intro Tryz.func85 rfl (by simp [Tryz.f85]) (by kernel_rfl) ?_
  intro E hP hr hs hW hN
  simp -dsimp -implicitDefEqProofs [-getElem?_pos, go_sem, hP]
  refine callB_is ((idxInt_pf l v hl).lift _ _) hP en_119 (by simp [imm_intsX, imm_sc]) .sc ?_
  rcases idxI_spec (fun x => decide (v = x)) l with ⟨h1, h2⟩ | ⟨i, a, h1, h2, h3, _⟩
  · have : decide (v ∈ l) = false := decide_eq_false fun hv => by simpa using h2 v hv
    simp -dsimp -implicitDefEqProofs [-getElem?_pos, go_sem, hP, h1, this]
  · have d : decide ((0 : Int) ≤ (i : Int)) = true := decide_eq_true (by omega)
    have hva : v = a := by simpa using h2
    have : decide (v ∈ l) = true := decide_eq_true (hva ▸ List.mem_of_getElem? h1)
    simp -dsimp -implicitDefEqProofs [-getElem?_pos, go_sem, hP, h3, d, this]
end Go.Proofs.YtkcfmmpcpdlfeaaGreatDoor
