/- Queues: the reference's Same. -/
import Derived.Test.YtmpncdlhmknkoaaBat14
set_option linter.unusedSimpArgs false
set_option linter.unusedVariables false
namespace Go.Proofs.Ytmpncdlhmknkoaa
open Go.PA
open Go.RowKit

set_option maxHeartbeats 1000000 in
theorem same25_pf (a b : TQueue) (ha : FitQ a) (hb : FitQ b) : PFun Try.prog none none 24 [.agg a.cells, .agg b.cells] (· = bv (decide (a = b))) := by
  refine pfun_intro Try.func24 rfl (by simp [Try.f24]) (by kernel_rfl) ?_
  intro E hP hr hs hW hN
  obtain ⟨wa, ka, ba⟩ := a
  obtain ⟨wb, kb, bb⟩ := b
  obtain ⟨a1, a2, a3, a4⟩ := ha
  obtain ⟨b1, b2, b3, b4⟩ := hb
  simp only at a1 a2 a3 a4 b1 b2 b3 b4
  obtain ⟨R, hR⟩ : ∃ R, R = decide ((⟨wa, ka, ba⟩ : TQueue) = ⟨wb, kb, bb⟩) := ⟨_, rfl⟩
  rw [← hR]
  simp only [TQueue.mk.injEq] at hR
  have iwa := imm_pays wa
  have iwb := imm_pays wb
  have ika := imm_ints ka
  have ikb := imm_ints kb
  have iba := imm_bats ba
  have ibb := imm_bats bb
  have li := listEq_pf_ints25 ka kb a2 b2
  have e1 : ∀ l : List Int, encL encI l = l.map fun x => [iv x] := fun _ => rfl
  rw [e1, e1] at li
  simp only [intsL] at ika ikb
  simp -dsimp -implicitDefEqProofs [-getElem?_pos, go_sem, hP, cQu, intsL]
  refine callB_is ((listEq_pf_pays25 wa wb a1 b1).lift _ _) hP en_22 (by simp [iwa, iwb]) .sc ?_
  by_cases c1 : wa = wb
  rotate_left
  · have : R = false := by rw [hR]; exact decide_eq_false fun e => c1 e.1
    simp -dsimp -implicitDefEqProofs [-getElem?_pos, go_sem, hP, c1, this]
  simp -dsimp -implicitDefEqProofs [-getElem?_pos, go_sem, hP, c1]
  refine callB_is (li.lift _ _) hP en_58 (by simp [ika, ikb]) .sc ?_
  by_cases c2 : ka = kb
  rotate_left
  · have : R = false := by rw [hR]; exact decide_eq_false fun e => c2 e.2.1
    simp -dsimp -implicitDefEqProofs [-getElem?_pos, go_sem, hP, c1, c2, this]
  by_cases c3 : ba.length = bb.length
  rotate_left
  · have : R = false := by rw [hR]; exact decide_eq_false fun e => c3 (by rw [e.2.2])
    have d3 : decide ((ba.length : Int) = (bb.length : Int)) = false := decide_eq_false (by omega)
    simp -dsimp -implicitDefEqProofs [-getElem?_pos, go_sem, hP, c1, c2, d3, this]
  have d3 : decide ((ba.length : Int) = (bb.length : Int)) = true := decide_eq_true (by omega)
  subst c1 c2
  simp -dsimp -implicitDefEqProofs [-getElem?_pos, go_sem, hP, d3]
  obtain ⟨I, hI⟩ : ∃ I : Nat → St → Prop, I = fun m s => ∃ (k : Nat), k ≤ ba.length ∧ m = ba.length - k ∧ ba.take k = bb.take k ∧ s.t 2 = .ref 0 0 0 ∧ s.t 3 = .ref 1 0 0 ∧ s.t 31 = iv ba.length ∧ s.t 32 = iv k ∧ s.H[0]? = some (some ⟨28, 3, [[paysL wa, .list 1 (ka.map fun x => [iv x]), batsL ba]]⟩) ∧ s.H[1]? = some (some ⟨28, 3, [[paysL wa, .list 1 (ka.map fun x => [iv x]), batsL bb]]⟩) := ⟨_, rfl⟩
  refine aloop0 I (ba.length) (by rw [hN]; rfl) ?_ ?_
  · rw [hI]
    exact ⟨0, by omega, by omega, rfl, by simp -dsimp -implicitDefEqProofs [-getElem?_pos, go_sem], by simp -dsimp -implicitDefEqProofs [-getElem?_pos, go_sem], by simp -dsimp -implicitDefEqProofs [-getElem?_pos, go_sem], by simp -dsimp -implicitDefEqProofs [-getElem?_pos, go_sem], by simp -dsimp -implicitDefEqProofs [-getElem?_pos, go_sem], by simp -dsimp -implicitDefEqProofs [-getElem?_pos, go_sem]⟩
  intro m s hs'
  rw [hI] at hs'
  obtain ⟨k, hk, hm, hq, t2, t3, t31, t32, h0, h1⟩ := hs'
  have lt0 := (List.getElem?_eq_some_iff.1 h0).1
  have lt1 := (List.getElem?_eq_some_iff.1 h1).1
  simp -dsimp -implicitDefEqProofs [-getElem?_pos, go_sem, hP, t31, t32]
  refine condP (fun hh => ?_) (fun hh => ?_)
  · have hk : k < ba.length := by simpa using hh
    obtain ⟨x, hx⟩ : ∃ x, ba[k]? = some x := ⟨_, List.getElem?_eq_getElem hk⟩
    obtain ⟨y, hy⟩ : ∃ y, bb[k]? = some y := ⟨_, List.getElem?_eq_getElem (by omega)⟩
    have wk := wrap_in ((k : Int) + 1) (by omega)
    have ix := imm_bat x
    have iy := imm_bat y
    have bt := batch25_pf x y (a4 x (List.mem_of_getElem? hx)) (b4 y (List.mem_of_getElem? hy))
    rw [cBt, cBt] at bt
    rw [cBt] at ix iy
    simp -dsimp -implicitDefEqProofs [-getElem?_pos, go_sem, hP, t32]
    refine adrawB (fun _ => true) [] hP (by kernel_rfl) (by kernel_rfl) ?_
    simp -dsimp -implicitDefEqProofs [-getElem?_pos, go_sem, hP, t2, t3, h0, h1, lt0, lt1, hx, hy, cBt]
    refine callB_is (bt.lift _ _) hP en_38 (by simpa using ⟨ix, iy⟩) .sc ?_
    by_cases hxy : x = y
    · have dxy : decide (x = y) = true := decide_eq_true hxy
      subst hxy
      simp -dsimp -implicitDefEqProofs [-getElem?_pos, go_sem, hP, t32, wk]
      refine ⟨ba.length - (k + 1), by omega, ?_⟩
      rw [hI]
      exact ⟨k + 1, by omega, rfl, by rw [take_at hx, take_at hy, hq], by simp -dsimp -implicitDefEqProofs [-getElem?_pos, go_sem, t2], by simp -dsimp -implicitDefEqProofs [-getElem?_pos, go_sem, t3], by simp -dsimp -implicitDefEqProofs [-getElem?_pos, go_sem, t31], by simp -dsimp -implicitDefEqProofs [-getElem?_pos, go_sem], by simp -dsimp -implicitDefEqProofs [-getElem?_pos, go_sem, h0], by simp -dsimp -implicitDefEqProofs [-getElem?_pos, go_sem, h1]⟩
    · have dxy : decide (x = y) = false := decide_eq_false hxy
      have hne : R = false := by
        rw [hR]
        refine decide_eq_false fun e => hxy ?_
        have := e.2.2
        subst this
        rw [hx] at hy
        exact Option.some.inj hy
      simp -dsimp -implicitDefEqProofs [-getElem?_pos, go_sem, hP, dxy, hne]
  · have hk : k = ba.length := by simp at hh; omega
    subst hk
    rw [List.take_length] at hq
    rw [c3, List.take_length] at hq
    have : R = true := by rw [hR]; simp [hq]
    simp -dsimp -implicitDefEqProofs [-getElem?_pos, go_sem, hP, this]
end Go.Proofs.Ytmpncdlhmknkoaa
