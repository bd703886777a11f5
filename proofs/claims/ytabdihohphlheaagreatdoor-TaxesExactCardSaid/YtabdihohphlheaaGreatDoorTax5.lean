/- Taxes: the chapter's example. -/
import Derived.Test.YtabdihohphlheaaGreatDoorTax4
import Derived.Test.YtabdihohphlheaaGreatDoorTaxGen
set_option linter.unusedSimpArgs false
set_option linter.unusedVariables false
namespace Go.Proofs.YtabdihohphlheaaGreatDoor
open Go.PA
open Go.RowKit

theorem ints28_pf (a b : List Int) (ha : a.length ≤ 100000) (hb : b.length ≤ 100000) : PFun Tryz.prog none none 19 [intsL a, intsL b] (· = bv (decide (a = b))) := by
  refine pfun_intro Tryz.func19 rfl (by simp [Tryz.f19]) (by kernel_rfl) ?_
  intro E hP hr hs hW hN
  by_cases hlen : a.length = b.length
  rotate_left
  · have hne : ¬ a = b := fun h => hlen (by rw [h])
    have hl : decide ((a.length : Int) = (b.length : Int)) = false := by simp; omega
    simp -dsimp -implicitDefEqProofs [-getElem?_pos, go_sem, hP, hl, hne, intsL]
  have hl : decide ((a.length : Int) = (b.length : Int)) = true := by simp; omega
  simp -dsimp -implicitDefEqProofs [-getElem?_pos, go_sem, hP, hl, intsL]
  obtain ⟨I, hI⟩ : ∃ I : Nat → St → Prop, I = fun m s => ∃ k : Nat, k ≤ a.length ∧ m = a.length - k ∧ s.t 0 = intsL a ∧ s.t 1 = intsL b ∧ s.t 12 = iv a.length ∧ s.t 13 = iv k ∧ a.take k = b.take k := ⟨_, rfl⟩
  refine aloop0 I (a.length) (by rw [hN]; rfl) ?_ ?_
  · rw [hI]
    exact ⟨0, by omega, by omega, by simp -dsimp -implicitDefEqProofs [-getElem?_pos, go_sem, intsL], by simp -dsimp -implicitDefEqProofs [-getElem?_pos, go_sem, intsL], by simp -dsimp -implicitDefEqProofs [-getElem?_pos, go_sem, intsL], by simp -dsimp -implicitDefEqProofs [-getElem?_pos, go_sem], by simp⟩
  intro m s hs'
  rw [hI] at hs'
  obtain ⟨k, hk, hm, t0, t1, t12, t13, heq⟩ := hs'
  simp -dsimp -implicitDefEqProofs [-getElem?_pos, go_sem, hP, t12, t13]
  refine condP (fun h => ?_) (fun h => ?_)
  · have hk : k < a.length := by simpa using h
    obtain ⟨x, hx⟩ : ∃ x, a[k]? = some x := ⟨_, List.getElem?_eq_getElem hk⟩
    obtain ⟨y, hy⟩ : ∃ y, b[k]? = some y := ⟨_, List.getElem?_eq_getElem (by omega)⟩
    have wk := wrap_in ((k : Int) + 1) (by omega)
    have tx : a.take (k + 1) = a.take k ++ [x] := by rw [List.take_add_one, hx]; rfl
    have ty : b.take (k + 1) = b.take k ++ [y] := by rw [List.take_add_one, hy]; rfl
    simp -dsimp -implicitDefEqProofs [-getElem?_pos, go_sem, hP, t13]
    refine adrawB (fun _ => true) [] hP (by kernel_rfl) (by kernel_rfl) ?_
    by_cases hxy : x = y
    · subst hxy
      simp -dsimp -implicitDefEqProofs [-getElem?_pos, go_sem, hP, t0, t1, hx, hy, intsL, t13, wk]
      refine ⟨a.length - (k + 1), by omega, ?_⟩
      rw [hI]
      exact ⟨k + 1, by omega, rfl, by simp -dsimp -implicitDefEqProofs [-getElem?_pos, go_sem, t0], by simp -dsimp -implicitDefEqProofs [-getElem?_pos, go_sem, t1], by simp -dsimp -implicitDefEqProofs [-getElem?_pos, go_sem, t12], by simp -dsimp -implicitDefEqProofs [-getElem?_pos, go_sem], by rw [tx, ty, heq]⟩
    · have hne : ¬ a = b := fun h => by
        subst h
        rw [hx] at hy
        exact hxy (Option.some.inj hy)
      have dxy : decide (x = y) = false := decide_eq_false hxy
      simp -dsimp -implicitDefEqProofs [-getElem?_pos, go_sem, hP, t0, t1, hx, hy, intsL, t13, wk, dxy, hne]
  · have hk : k = a.length := by
      have : ¬ k < a.length := by simpa using h
      omega
    subst hk
    rw [List.take_length] at heq
    rw [hlen, List.take_length] at heq
    simp -dsimp -implicitDefEqProofs [-getElem?_pos, go_sem, hP, heq]

def monthly : TTax := ⟨⟨#[49]⟩, 1, 100, 19, 100, 0, 1, 3⟩
theorem monthly_pf : PFun Tryz.prog none none 31 [] (· = .agg monthly.cells) := by
  refine pfun_intro Tryz.func31 rfl (by simp [Tryz.f31]) (by kernel_rfl) ?_
  intro E hP hr hs hW hN
  simp -dsimp -implicitDefEqProofs [-getElem?_pos, go_sem, hP]
  exact done_imm (imm_tax monthly) rfl
theorem monthly_amount : amountD monthly = 19 := by kernel_rfl
theorem monthly_days : daysD monthly = [0, 30, 60] := by kernel_rfl
theorem monthly_exp : expectedD [monthly] 0 100 = ([⟨0, 19, 3, 0⟩, ⟨30, 19, 3, 0⟩, ⟨60, 19, 3, 0⟩], 0) := by kernel_rfl
theorem sane28_pf : PFun Tryz.prog none none 5 [] (· = bv true) := by
  refine pfun_intro Tryz.func5 rfl (by simp [Tryz.f5]) (by kernel_rfl) ?_
  intro E hP hr hs hW hN
  have mo := monthly_pf
  have im := imm_tax monthly
  have ht : monthly.Code.size ≤ 1000000 := by decide
  have ex := texpected_pf [monthly] (fun t ht' => by rw [List.mem_singleton.1 ht']; exact ht) (by simp) 0 100
  have am := tamount_pf monthly ht
  have dy := tdays_pf monthly ht
  rw [monthly_amount] at am
  rw [monthly_days] at dy
  rw [monthly_exp] at ex
  have iq := ints28_pf [0, 30, 60] [0, 30, 60] (by simp) (by simp)
  have it := imm_taxes [monthly]
  rw [taxesL, encL, List.map_cons, List.map_nil] at ex it
  rw [cTx] at mo im am dy ex it
  simp -dsimp -implicitDefEqProofs [-getElem?_pos, go_sem, hP]
  refine callB_is (mo.lift _ _) hP en_31 (by simp -dsimp -implicitDefEqProofs [-getElem?_pos, go_sem]) im ?_
  simp -dsimp -implicitDefEqProofs [-getElem?_pos, go_sem, hP]
  refine callB_is (ex.lift _ _) hP en_22 (by simpa [imm_sc] using it) (imm_pair (imm_flows _) .sc) ?_
  simp -dsimp -implicitDefEqProofs [-getElem?_pos, go_sem, hP]
  refine callB_is (mo.lift _ _) hP en_31 (by simp -dsimp -implicitDefEqProofs [-getElem?_pos, go_sem]) im ?_
  simp -dsimp -implicitDefEqProofs [-getElem?_pos, go_sem, hP]
  refine callB_is (am.lift _ _) hP en_17 (by simpa using im) .sc ?_
  simp -dsimp -implicitDefEqProofs [-getElem?_pos, go_sem, hP]
  refine callB_is (mo.lift _ _) hP en_31 (by simp -dsimp -implicitDefEqProofs [-getElem?_pos, go_sem]) im ?_
  simp -dsimp -implicitDefEqProofs [-getElem?_pos, go_sem, hP]
  refine callB_is (dy.lift _ _) hP en_20 (by simpa using im) (imm_ints _) ?_
  simp -dsimp -implicitDefEqProofs [-getElem?_pos, go_sem, hP]
  refine callB_is (iq.lift _ _) hP en_19 (by have := imm_ints [0, 30, 60]; simp only [List.mem_cons, List.not_mem_nil, or_false]; rintro z (rfl | rfl) <;> exact this) .sc ?_
  simp -dsimp -implicitDefEqProofs [-getElem?_pos, go_sem, hP, flowsL, encL, cFl]
end Go.Proofs.YtabdihohphlheaaGreatDoor
