/- The library's functions that a queue wants: search. -/
import Derived.Test.YtmpncdlhmknkoaaCmp
import Derived.Test.YtmpncdlhmknkoaaDel
import Derived.Test.YtmpncdlhmknkoaaIns
set_option linter.unusedSimpArgs false
set_option linter.unusedVariables false
namespace Go.Proofs.Ytmpncdlhmknkoaa
open Go.PA
open Go.RowKit

theorem indexInt_pf (l : List Int) (v : Int) (hl : l.length ≤ 1000000) : PFun Try.prog none none 76 [intsL l, iv v] (· = iv (idxI (fun x => decide (v = x)) l)) := by
  refine pfun_intro Try.func76 rfl (by simp [Try.f76]) (by kernel_rfl) ?_
  intro E hP hr hs hW hN
  simp -dsimp -implicitDefEqProofs [-getElem?_pos, go_sem, hP, intsL]
  obtain ⟨I, hI⟩ : ∃ I : Nat → St → Prop, I = fun m s => ∃ k : Nat, k ≤ l.length ∧ m = l.length - k ∧ idxI (fun x => decide (v = x)) l = idxFrom (fun x => decide (v = x)) k (l.drop k) ∧ s.t 0 = intsL l ∧ s.t 1 = iv v ∧ s.t 7 = iv l.length ∧ s.t 8 = iv k := ⟨_, rfl⟩
  refine aloop0 I (l.length) (by rw [hN]; rfl) ?_ ?_
  · rw [hI]
    exact ⟨0, by omega, by omega, by simp [idxI], by simp -dsimp -implicitDefEqProofs [-getElem?_pos, go_sem, intsL], by simp -dsimp -implicitDefEqProofs [-getElem?_pos, go_sem], by simp -dsimp -implicitDefEqProofs [-getElem?_pos, go_sem], by simp -dsimp -implicitDefEqProofs [-getElem?_pos, go_sem]⟩
  intro m s hs'
  rw [hI] at hs'
  obtain ⟨k, hk, hm, hi, t0, t1, t7, t8⟩ := hs'
  simp -dsimp -implicitDefEqProofs [-getElem?_pos, go_sem, hP, t7, t8]
  refine condP (fun h => ?_) (fun h => ?_)
  · have hk : k < l.length := by simpa using h
    obtain ⟨a, ha⟩ : ∃ a, l[k]? = some a := ⟨_, List.getElem?_eq_getElem hk⟩
    have wk := wrap_in ((k : Int) + 1) (by omega)
    have hd : l.drop k = a :: l.drop (k + 1) := by
      rw [List.getElem?_eq_getElem hk] at ha
      rw [List.drop_eq_getElem_cons hk, Option.some.inj ha]
    rw [hd] at hi
    simp only [idxFrom] at hi
    simp -dsimp -implicitDefEqProofs [-getElem?_pos, go_sem, hP, t8, t1, t0, ha, intsL]
    by_cases hp : v = a
    · rw [if_pos (by simpa using hp)] at hi
      simp -dsimp -implicitDefEqProofs [-getElem?_pos, go_sem, hP, hp]
      rw [hp] at hi
      exact hi.symm
    · rw [if_neg (by simpa using hp)] at hi
      simp -dsimp -implicitDefEqProofs [-getElem?_pos, go_sem, hP, t8, wk, hp]
      refine ⟨l.length - (k + 1), by omega, ?_⟩
      rw [hI]
      exact ⟨k + 1, by omega, rfl, hi, by simp -dsimp -implicitDefEqProofs [-getElem?_pos, go_sem, t0], by simp -dsimp -implicitDefEqProofs [-getElem?_pos, go_sem, t1], by simp -dsimp -implicitDefEqProofs [-getElem?_pos, go_sem, t7], by simp -dsimp -implicitDefEqProofs [-getElem?_pos, go_sem]⟩
  · have hk : k = l.length := by simp at h; omega
    subst hk
    rw [List.drop_length] at hi
    simp -dsimp -implicitDefEqProofs [-getElem?_pos, go_sem, hP]
    exact hi.symm
theorem imm_ints (l : List Int) : Imm (intsL l) := by simp [go_sem, intsL]
theorem containsInt_pf (l : List Int) (v : Int) (hl : l.length ≤ 1000000) : PFun Try.prog none none 54 [intsL l, iv v] (· = bv (decide (v ∈ l))) := by
  refine pfun_intro Try.func54 rfl (by simp [Try.f54]) (by kernel_rfl) ?_
  intro E hP hr hs hW hN
  simp -dsimp -implicitDefEqProofs [-getElem?_pos, go_sem, hP]
  refine callB_is ((indexInt_pf l v hl).lift _ _) hP en_76 (by simp [imm_ints, imm_sc]) .sc ?_
  rcases idxI_spec (fun x => decide (v = x)) l with ⟨h1, h2⟩ | ⟨i, a, h1, h2, h3, _⟩
  · have : decide (v ∈ l) = false := decide_eq_false fun hv => by simpa using h2 v hv
    simp -dsimp -implicitDefEqProofs [-getElem?_pos, go_sem, hP, h1, this]
  · have d : decide ((0 : Int) ≤ (i : Int)) = true := decide_eq_true (by omega)
    have hva : v = a := by simpa using h2
    have : decide (v ∈ l) = true := decide_eq_true (hva ▸ List.mem_of_getElem? h1)
    simp -dsimp -implicitDefEqProofs [-getElem?_pos, go_sem, hP, h3, d, this]
theorem snan_pf (x : Int) : PFun Try.prog none none 68 [iv x] (· = bv false) := by
  refine pfun_intro Try.func68 rfl (by simp [Try.f68]) (by kernel_rfl) ?_
  intro E hP hr hs hW hN
  simp -dsimp -implicitDefEqProofs [-getElem?_pos, go_sem, hP]
theorem less_pf (x y : Int) : PFun Try.prog none none 67 [iv x, iv y] (· = bv (decide (x < y))) := by
  refine pfun_intro Try.func67 rfl (by simp [Try.f67]) (by kernel_rfl) ?_
  intro E hP hr hs hW hN
  simp -dsimp -implicitDefEqProofs [-getElem?_pos, go_sem, hP]
  refine callB_pure (isNaN_pf x) hP en_81 (args_same (by simp -dsimp -implicitDefEqProofs [-getElem?_pos, go_sem])) .sc ?_
  simp -dsimp -implicitDefEqProofs [-getElem?_pos, go_sem, hP]

set_option maxHeartbeats 1000000 in
theorem bsearch_pf (l : List Int) (v : Int) (k : Nat) (hl : l.length ≤ 1000000) (hk : k ≤ l.length) (hm : ∀ h x, l[h]? = some x → (x < v ↔ h < k)) : PFun Try.prog none none 45 [intsL l, iv v] (· = .tup [iv k, bv (decide (l[k]? = some v))]) := by
  refine pfun_intro Try.func45 rfl (by simp [Try.f45]) (by kernel_rfl) ?_
  intro E hP hr hs hW hN
  simp -dsimp -implicitDefEqProofs [-getElem?_pos, go_sem, hP, intsL]
  obtain ⟨I, hI⟩ : ∃ I : Nat → St → Prop, I = fun m s => ∃ i j : Nat, i ≤ k ∧ k ≤ j ∧ j ≤ l.length ∧ m = j - i ∧ s.t 0 = intsL l ∧ s.t 1 = iv v ∧ s.t 6 = iv l.length ∧ s.t 7 = iv i ∧ s.t 8 = iv j := ⟨_, rfl⟩
  refine aloop0 I (l.length) (by rw [hN]; rfl) ?_ ?_
  · rw [hI]
    exact ⟨0, l.length, by omega, hk, by omega, rfl, by simp -dsimp -implicitDefEqProofs [-getElem?_pos, go_sem, intsL], by simp -dsimp -implicitDefEqProofs [-getElem?_pos, go_sem], by simp -dsimp -implicitDefEqProofs [-getElem?_pos, go_sem], by simp -dsimp -implicitDefEqProofs [-getElem?_pos, go_sem], by simp -dsimp -implicitDefEqProofs [-getElem?_pos, go_sem]⟩
  intro m s hs'
  rw [hI] at hs'
  obtain ⟨i, j, hi, hj, hjl, hm', t0, t1, t6, t7, t8⟩ := hs'
  simp -dsimp -implicitDefEqProofs [-getElem?_pos, go_sem, hP, t7, t8]
  refine condP (fun h => ?_) (fun h => ?_)
  · have hij : i < j := by simpa using h
    have w1 := wrap_in ((i : Int) + j) (by omega)
    have wu : IntKind.u64.wrap ((i : Int) + j) = (i : Int) + j := by rw [IntKind.wrap_u64]; omega
    obtain ⟨h, hh⟩ : ∃ h, h = (i + j) / 2 := ⟨_, rfl⟩
    have wh : IntKind.i64.wrap (((i : Int) + j) / 2) = (h : Int) := by rw [wrap_in _ (by omega)]; omega
    obtain ⟨a, ha⟩ : ∃ a, l[h]? = some a := ⟨_, List.getElem?_eq_getElem (by omega)⟩
    have hcmp := hm h a ha
    have w2 := wrap_in ((h : Int) + 1) (by omega)
    simp -dsimp -implicitDefEqProofs [-getElem?_pos, go_sem, hP, t7, t8, w1, wu, aconv, aint_shr, wh, t0, t1, intsL, ha]
    refine callB_pure (less_pf a v) hP en_67 (args_same (by simp -dsimp -implicitDefEqProofs [-getElem?_pos, go_sem])) .sc ?_
    by_cases c : a < v
    · simp -dsimp -implicitDefEqProofs [-getElem?_pos, go_sem, hP, c, w2]
      refine ⟨j - (h + 1), by omega, ?_⟩
      rw [hI]
      exact ⟨h + 1, j, by have := hcmp.1 c; omega, by omega, by omega, rfl, by simp -dsimp -implicitDefEqProofs [-getElem?_pos, go_sem, t0], by simp -dsimp -implicitDefEqProofs [-getElem?_pos, go_sem, t1], by simp -dsimp -implicitDefEqProofs [-getElem?_pos, go_sem, t6], by simp -dsimp -implicitDefEqProofs [-getElem?_pos, go_sem], by simp -dsimp -implicitDefEqProofs [-getElem?_pos, go_sem, t8]⟩
    · have d : decide (a < v) = false := decide_eq_false c
      simp -dsimp -implicitDefEqProofs [-getElem?_pos, go_sem, hP, d]
      refine ⟨h - i, by omega, ?_⟩
      rw [hI]
      exact ⟨i, h, by omega, by have := mt hcmp.2 c; omega, by omega, rfl, by simp -dsimp -implicitDefEqProofs [-getElem?_pos, go_sem, t0], by simp -dsimp -implicitDefEqProofs [-getElem?_pos, go_sem, t1], by simp -dsimp -implicitDefEqProofs [-getElem?_pos, go_sem, t6], by simp -dsimp -implicitDefEqProofs [-getElem?_pos, go_sem, t7], by simp -dsimp -implicitDefEqProofs [-getElem?_pos, go_sem]⟩
  · have hik : i = k := by
      have : ¬ i < j := by simpa using h
      omega
    subst hik
    by_cases c : i < l.length
    · obtain ⟨a, ha⟩ : ∃ a, l[i]? = some a := ⟨_, List.getElem?_eq_getElem c⟩
      have d : decide ((i : Int) < (l.length : Int)) = true := decide_eq_true (by omega)
      by_cases e : a = v
      · simp -dsimp -implicitDefEqProofs [-getElem?_pos, go_sem, hP, t7, t6, c, d, t0, t1, intsL, ha, e]
        exact done_imm (imm_pair .sc .sc) (by simp [ha, e])
      · have e' : decide (a = v) = false := decide_eq_false e
        simp -dsimp -implicitDefEqProofs [-getElem?_pos, go_sem, hP, t7, t6, c, d, t0, t1, intsL, ha, e, e']
        refine callB_pure (snan_pf a) hP en_68 (args_same (by simp -dsimp -implicitDefEqProofs [-getElem?_pos, go_sem])) .sc ?_
        simp -dsimp -implicitDefEqProofs [-getElem?_pos, go_sem, hP, t7, t6, c, d, t0, t1, intsL, ha, e, e']
        exact done_imm (imm_pair .sc .sc) (by simp [ha, e])
    · have d : decide ((i : Int) < (l.length : Int)) = false := decide_eq_false (by omega)
      have n : l[i]? = none := List.getElem?_eq_none (by omega)
      simp -dsimp -implicitDefEqProofs [-getElem?_pos, go_sem, hP, t7, t6, c, d, n]
      exact done_imm (imm_pair .sc .sc) (by simp [n])
end Go.Proofs.Ytmpncdlhmknkoaa
