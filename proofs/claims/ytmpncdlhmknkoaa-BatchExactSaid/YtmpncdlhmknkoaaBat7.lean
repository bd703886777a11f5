/- Queues: BinarySearchFunc; wait. -/
import Derived.Test.YtmpncdlhmknkoaaBat6
import Derived.Test.YtmpncdlhmknkoaaBatLaw
import Derived.Test.YtmpncdlhmknkoaaIns
set_option linter.unusedSimpArgs false
set_option linter.unusedVariables false
namespace Go.Proofs.Ytmpncdlhmknkoaa
open Go.PA
open Go.RowKit

def BsfQ (k : Nat) (r : AV) : Prop := ∃ b, r = .tup [iv k, bv b]
set_option maxHeartbeats 1000000 in
theorem bsf_pf (l : List TPayment) (p : TPayment) (k : Nat) (hl : l.length ≤ 1000000) (hk : k ≤ l.length) (hm : ∀ h x, l[h]? = some x → (Bef x p ↔ h < k)) : PFun Try.prog none none 69 [paysL l, .agg p.cells, .fn 64 []] (BsfQ k) := by
  refine pfun_intro Try.func69 rfl (by simp [Try.f69]) (by kernel_rfl) ?_
  intro E hP hr hs hW hN
  have ip := imm_pay p
  simp -dsimp -implicitDefEqProofs [-getElem?_pos, go_sem, hP, cPy]
  obtain ⟨I, hI⟩ : ∃ I : Nat → St → Prop, I = fun m s => ∃ i j : Nat, i ≤ k ∧ k ≤ j ∧ j ≤ l.length ∧ m = j - i ∧ s.t 0 = paysL l ∧ s.t 2 = .fn 64 [] ∧ s.t 4 = .ref 0 0 0 ∧ s.t 8 = iv l.length ∧ s.t 9 = iv i ∧ s.t 10 = iv j ∧ s.H[0]? = some (some ⟨34, 5, [p.cells]⟩) := ⟨_, rfl⟩
  refine aloop0 I (l.length) (by rw [hN]; rfl) ?_ ?_
  · rw [hI]
    exact ⟨0, l.length, by omega, hk, by omega, rfl, by simp -dsimp -implicitDefEqProofs [-getElem?_pos, go_sem], by simp -dsimp -implicitDefEqProofs [-getElem?_pos, go_sem], by simp -dsimp -implicitDefEqProofs [-getElem?_pos, go_sem], by simp -dsimp -implicitDefEqProofs [-getElem?_pos, go_sem], by simp -dsimp -implicitDefEqProofs [-getElem?_pos, go_sem], by simp -dsimp -implicitDefEqProofs [-getElem?_pos, go_sem], by simp -dsimp -implicitDefEqProofs [-getElem?_pos, go_sem, cPy]⟩
  intro m s hs'
  rw [hI] at hs'
  obtain ⟨i, j, hi, hj, hjl, hm', t0, t2, t4, t8, t9, t10, hp⟩ := hs'
  have lt0 := (List.getElem?_eq_some_iff.1 hp).1
  simp -dsimp -implicitDefEqProofs [-getElem?_pos, go_sem, hP, t9, t10]
  refine condP (fun h => ?_) (fun h => ?_)
  · have hij : i < j := by simpa using h
    have w1 := wrap_in ((i : Int) + j) (by omega)
    have wu : IntKind.u64.wrap ((i : Int) + j) = (i : Int) + j := by rw [IntKind.wrap_u64]; omega
    obtain ⟨h, hh⟩ : ∃ h, h = (i + j) / 2 := ⟨_, rfl⟩
    have wh : IntKind.i64.wrap (((i : Int) + j) / 2) = (h : Int) := by rw [wrap_in _ (by omega)]; omega
    obtain ⟨a, ha⟩ : ∃ a, l[h]? = some a := ⟨_, List.getElem?_eq_getElem (by omega)⟩
    have hcmp := hm h a ha
    have w2 := wrap_in ((h : Int) + 1) (by omega)
    have ia := imm_pay a
    have cm := bcompare_pf a p
    rw [cPy, cPy] at cm
    rw [cPy] at ia ip
    simp -dsimp -implicitDefEqProofs [-getElem?_pos, go_sem, hP, t9, t10, w1, wu, aconv, aint_shr, wh]
    refine adrawB (fun _ => true) [] hP (by kernel_rfl) (by kernel_rfl) ?_
    simp -dsimp -implicitDefEqProofs [-getElem?_pos, go_sem, hP, t0, t2, t4, ha, hp, lt0, cPy]
    refine callB_is (cm.lift _ _) hP en_64 (by simpa using ⟨ia, ip⟩) .sc ?_
    by_cases c : Bef a p
    · have c1 : decide (cmpP a p < 0) = true := decide_eq_true (cmpP_lt.2 c)
      simp -dsimp -implicitDefEqProofs [-getElem?_pos, go_sem, hP, c1, w2]
      refine ⟨j - (h + 1), by omega, ?_⟩
      rw [hI]
      exact ⟨h + 1, j, by have := hcmp.1 c; omega, by omega, by omega, rfl, by simp -dsimp -implicitDefEqProofs [-getElem?_pos, go_sem, t0], by simp -dsimp -implicitDefEqProofs [-getElem?_pos, go_sem, t2], by simp -dsimp -implicitDefEqProofs [-getElem?_pos, go_sem, t4], by simp -dsimp -implicitDefEqProofs [-getElem?_pos, go_sem, t8], by simp -dsimp -implicitDefEqProofs [-getElem?_pos, go_sem], by simp -dsimp -implicitDefEqProofs [-getElem?_pos, go_sem, t10], by simp -dsimp -implicitDefEqProofs [-getElem?_pos, go_sem, hp]⟩
    · have c1 : decide (cmpP a p < 0) = false := decide_eq_false (mt cmpP_lt.1 c)
      simp -dsimp -implicitDefEqProofs [-getElem?_pos, go_sem, hP, c1]
      refine ⟨h - i, by omega, ?_⟩
      rw [hI]
      exact ⟨i, h, by omega, by have := mt hcmp.2 c; omega, by omega, rfl, by simp -dsimp -implicitDefEqProofs [-getElem?_pos, go_sem, t0], by simp -dsimp -implicitDefEqProofs [-getElem?_pos, go_sem, t2], by simp -dsimp -implicitDefEqProofs [-getElem?_pos, go_sem, t4], by simp -dsimp -implicitDefEqProofs [-getElem?_pos, go_sem, t8], by simp -dsimp -implicitDefEqProofs [-getElem?_pos, go_sem, t9], by simp -dsimp -implicitDefEqProofs [-getElem?_pos, go_sem], by simp -dsimp -implicitDefEqProofs [-getElem?_pos, go_sem, hp]⟩
  · have hik : i = k := by
      have : ¬ i < j := by simpa using h
      omega
    subst hik
    simp -dsimp -implicitDefEqProofs [-getElem?_pos, go_sem, hP]
    refine adrawB (fun _ => true) [] hP (by kernel_rfl) (by kernel_rfl) ?_
    by_cases c : i < l.length
    · obtain ⟨a, ha⟩ : ∃ a, l[i]? = some a := ⟨_, List.getElem?_eq_getElem c⟩
      have d : decide ((i : Int) < (l.length : Int)) = true := decide_eq_true (by omega)
      have ia := imm_pay a
      have cm := bcompare_pf a p
      rw [cPy, cPy] at cm
      rw [cPy] at ia ip
      simp -dsimp -implicitDefEqProofs [-getElem?_pos, go_sem, hP, t9, t8, c, d, t0, t2, t4, ha, hp, lt0, cPy]
      refine callB_is (cm.lift _ _) hP en_64 (by simpa using ⟨ia, ip⟩) .sc ?_
      simp -dsimp -implicitDefEqProofs [-getElem?_pos, go_sem, hP, t9, t8, c, d, t0, t2, t4, ha, hp, lt0, cPy]
      exact done_imm (imm_pair .sc .sc) ⟨_, rfl⟩
    · have d : decide ((i : Int) < (l.length : Int)) = false := decide_eq_false (by omega)
      simp -dsimp -implicitDefEqProofs [-getElem?_pos, go_sem, hP, t9, t8, c, d]
      exact done_imm (imm_pair .sc .sc) ⟨_, rfl⟩

/-- Where one belongs. -/
theorem ins_place {l : List TPayment} {p : TPayment} (hl : l.Pairwise Bef) : ∃ k, k ≤ l.length ∧ (∀ h x, l[h]? = some x → (Bef x p ↔ h < k)) ∧ ins befB l p = l.take k ++ p :: l.drop k := by
  obtain ⟨A, B, rfl, h2, h3, h4⟩ := ins_split befB l p
  refine ⟨A.length, by simp, fun h x hx => ?_, by rw [h2]; simp⟩
  by_cases c : h < A.length
  · rw [List.getElem?_append_left c] at hx
    exact ⟨fun _ => c, fun _ => befB_iff.1 (h3 x (List.mem_of_getElem? hx))⟩
  · refine ⟨fun hb => absurd hb ?_, fun hc => absurd hc c⟩
    rw [List.getElem?_append_right (by omega)] at hx
    have hx := List.mem_of_getElem? hx
    obtain ⟨_, p2, _⟩ := List.pairwise_append.1 hl
    cases B with
    | nil => cases hx
    | cons b B =>
      have hb : ¬ Bef b p := fun e => by
        have := h4 b rfl
        rw [befB_iff.2 e] at this
        cases this
      rcases List.mem_cons.1 hx with rfl | hx
      · exact hb
      · exact fun e => hb ((List.rel_of_pairwise_cons p2 hx).trans e)
theorem ins_placeK {l : List Int} {p : Int} (hl : l.Pairwise (· < ·)) : ∃ k, k ≤ l.length ∧ (∀ h x, l[h]? = some x → (x < p ↔ h < k)) ∧ ins ltB l p = l.take k ++ p :: l.drop k ∧ (l[k]? = some p ↔ p ∈ l) := by
  obtain ⟨A, B, rfl, h2, h3, h4⟩ := ins_split ltB l p
  have hB : ∀ x, x ∈ B → ¬ x < p := by
    obtain ⟨_, p2, _⟩ := List.pairwise_append.1 hl
    cases B with
    | nil => simp
    | cons b B =>
      have hb : ¬ b < p := fun e => by
        have := h4 b rfl
        rw [(ltB_lt b p).2 e] at this
        cases this
      intro x hx
      rcases List.mem_cons.1 hx with rfl | hx
      · exact hb
      · have := List.rel_of_pairwise_cons p2 hx
        omega
  refine ⟨A.length, by simp, fun h x hx => ?_, by rw [h2]; simp, ?_⟩
  · by_cases c : h < A.length
    · rw [List.getElem?_append_left c] at hx
      exact ⟨fun _ => c, fun _ => (ltB_lt _ _).1 (h3 x (List.mem_of_getElem? hx))⟩
    · rw [List.getElem?_append_right (by omega)] at hx
      exact ⟨fun hb => absurd hb (hB x (List.mem_of_getElem? hx)), fun hc => absurd hc c⟩
  · rw [List.getElem?_append_right (Nat.le_refl _), Nat.sub_self]
    constructor
    · exact fun h => List.mem_append.2 (.inr (List.mem_of_getElem? h))
    · intro h
      rcases List.mem_append.1 h with h | h
      · exact absurd ((ltB_lt _ _).1 (h3 p h)) (by omega)
      · cases B with
        | nil => cases h
        | cons b B =>
          obtain ⟨_, p2, _⟩ := List.pairwise_append.1 hl
          rcases List.mem_cons.1 h with rfl | h
          · rfl
          · have h1 := List.rel_of_pairwise_cons p2 h
            exact absurd h1 (hB b (by simp))
end Go.Proofs.Ytmpncdlhmknkoaa
