/- Queues: the program's checks. -/
import Derived.Test.YtmpncdlhmknkoaaBat1
import Derived.Test.YtmpncdlhmknkoaaBatLib
set_option linter.unusedSimpArgs false
set_option linter.unusedVariables false
namespace Go.Proofs.Ytmpncdlhmknkoaa
open Go.PA
open Go.RowKit

theorem prev_at {α β : Type} {f : α → β} {l : List α} {k : Nat} {p : α} (hp : l[k]? = some p) : ∀ j x, k + 1 = j + 1 → l[j]? = some x → f p = f x := fun j x hj hx => by
  cases (show k = j by omega)
  rw [hp] at hx
  cases hx
  rfl
theorem bamong_pf (n lo hi : Int) : PFun Try.prog none none 63 [iv n, iv lo, iv hi] (· = bv (amg n lo hi)) := by
  refine pfun_intro Try.func63 rfl (by simp [Try.f63]) (by kernel_rfl) ?_
  intro E hP hr hs hW hN
  by_cases h1 : lo ≤ n <;> by_cases h2 : n ≤ hi <;> simp -dsimp -implicitDefEqProofs [-getElem?_pos, go_sem, hP, h1, h2, amg]
theorem bpay_pf (p : TPayment) : PFun Try.prog none none 33 [.agg p.cells] (· = bv (payB p)) := by
  refine pfun_intro Try.func33 rfl (by simp [Try.f33]) (by kernel_rfl) ?_
  intro E hP hr hs hW hN
  simp -dsimp -implicitDefEqProofs [-getElem?_pos, go_sem, hP, cPy]
  refine callB_pure (bamong_pf p.Warrant 1 1000000) hP en_63 (args_same (by simp -dsimp -implicitDefEqProofs [-getElem?_pos, go_sem])) .sc ?_
  cases h1 : amg p.Warrant 1 1000000
  · simp -dsimp -implicitDefEqProofs [-getElem?_pos, go_sem, hP, payB, h1]
  simp -dsimp -implicitDefEqProofs [-getElem?_pos, go_sem, hP]
  refine callB_pure (bamong_pf p.Payee 1 1000000) hP en_63 (args_same (by simp -dsimp -implicitDefEqProofs [-getElem?_pos, go_sem])) .sc ?_
  cases h2 : amg p.Payee 1 1000000
  · simp -dsimp -implicitDefEqProofs [-getElem?_pos, go_sem, hP, payB, h1, h2]
  simp -dsimp -implicitDefEqProofs [-getElem?_pos, go_sem, hP]
  refine callB_pure (bamong_pf p.Amount 1 1000000000000) hP en_63 (args_same (by simp -dsimp -implicitDefEqProofs [-getElem?_pos, go_sem])) .sc ?_
  cases h3 : amg p.Amount 1 1000000000000
  · simp -dsimp -implicitDefEqProofs [-getElem?_pos, go_sem, hP, payB, h1, h2, h3]
  simp -dsimp -implicitDefEqProofs [-getElem?_pos, go_sem, hP]
  refine callB_pure (bamong_pf p.Due 0 35990) hP en_63 (args_same (by simp -dsimp -implicitDefEqProofs [-getElem?_pos, go_sem])) .sc ?_
  cases h4 : amg p.Due 0 35990
  · simp -dsimp -implicitDefEqProofs [-getElem?_pos, go_sem, hP, payB, h1, h2, h3, h4]
  simp -dsimp -implicitDefEqProofs [-getElem?_pos, go_sem, hP]
  refine callB_pure (bamong_pf p.Sub 1 1000) hP en_63 (args_same (by simp -dsimp -implicitDefEqProofs [-getElem?_pos, go_sem])) .sc ?_
  simp -dsimp -implicitDefEqProofs [-getElem?_pos, go_sem, hP, payB, h1, h2, h3, h4]
def cmpP (a b : TPayment) : Int := orI [cmpI a.Due b.Due, cmpI a.Warrant b.Warrant]
theorem cmpP_lt {a b : TPayment} : cmpP a b < 0 ↔ Bef a b := by
  simp only [cmpP, orI, cmpI, Bef]
  repeat' split
  all_goals omega
theorem cmpP_ge {a b : TPayment} (h : ¬ Bef a b) : 0 ≤ cmpP a b := by
  have := mt cmpP_lt.1 h
  omega
theorem bcompare_pf (a b : TPayment) : PFun Try.prog none none 64 [.agg a.cells, .agg b.cells] (· = iv (cmpP a b)) := by
  refine pfun_intro Try.func64 rfl (by simp [Try.f64]) (by kernel_rfl) ?_
  intro E hP hr hs hW hN
  simp -dsimp -implicitDefEqProofs [-getElem?_pos, go_sem, hP, cPy]
  refine adrawB (fun _ => true) [] hP (by kernel_rfl) (by kernel_rfl) ?_
  simp -dsimp -implicitDefEqProofs [-getElem?_pos, go_sem, hP]
  refine callB_pure (compare_pf a.Due b.Due) hP en_80 (args_same (by simp -dsimp -implicitDefEqProofs [-getElem?_pos, go_sem])) .sc ?_
  simp -dsimp -implicitDefEqProofs [-getElem?_pos, go_sem, hP]
  refine callB_pure (compare_pf a.Warrant b.Warrant) hP en_80 (args_same (by simp -dsimp -implicitDefEqProofs [-getElem?_pos, go_sem])) .sc ?_
  simp -dsimp -implicitDefEqProofs [-getElem?_pos, go_sem, hP]
  refine callB_pure (or_pf [cmpI a.Due b.Due, cmpI a.Warrant b.Warrant] (by simp)) hP en_79 (args_same (by simp -dsimp -implicitDefEqProofs [-getElem?_pos, go_sem])) .sc ?_
  simp -dsimp -implicitDefEqProofs [-getElem?_pos, go_sem, hP, cmpP]

theorem bordered_pf (l : List TPayment) (hl : l.length ≤ 1000000) : PFun Try.prog none none 39 [paysL l] (· = bv (ordFrom none l)) := by
  refine pfun_intro Try.func39 rfl (by simp [Try.f39]) (by kernel_rfl) ?_
  intro E hP hr hs hW hN
  obtain ⟨R, hR⟩ : ∃ R, R = ordFrom none l := ⟨_, rfl⟩
  rw [← hR]
  simp -dsimp -implicitDefEqProofs [-getElem?_pos, go_sem, hP]
  obtain ⟨I, hI⟩ : ∃ I : Nat → St → Prop, I = fun m s => ∃ (k : Nat) (o : Option TPayment), k ≤ l.length ∧ m = l.length - k ∧ R = ordFrom o (l.drop k) ∧ (k = 0 → o = none) ∧ (∀ j x, k = j + 1 → l[j]? = some x → o = some x) ∧ s.t 0 = paysL l ∧ s.t 5 = paysL l ∧ s.t 6 = iv l.length ∧ s.t 7 = iv k := ⟨_, rfl⟩
  refine aloop0 I (l.length) (by rw [hN]; rfl) ?_ ?_
  · rw [hI]
    exact ⟨0, none, by omega, by omega, by rw [hR]; rfl, by simp, by omega, by simp -dsimp -implicitDefEqProofs [-getElem?_pos, go_sem], by simp -dsimp -implicitDefEqProofs [-getElem?_pos, go_sem], by simp -dsimp -implicitDefEqProofs [-getElem?_pos, go_sem], by simp -dsimp -implicitDefEqProofs [-getElem?_pos, go_sem]⟩
  intro m s hs'
  rw [hI] at hs'
  obtain ⟨k, o, hk, hm, hq, ho0, ho1, t0, t5, t6, t7⟩ := hs'
  simp -dsimp -implicitDefEqProofs [-getElem?_pos, go_sem, hP, t6, t7]
  refine condP (fun h => ?_) (fun h => ?_)
  · have hk : k < l.length := by simpa using h
    obtain ⟨p, hp⟩ : ∃ p, l[k]? = some p := ⟨_, List.getElem?_eq_getElem hk⟩
    have wk := wrap_in ((k : Int) + 1) (by omega)
    have ip := imm_pay p
    have py := bpay_pf p
    rw [cPy] at py ip
    rw [drop_at hp, ordFrom] at hq
    simp -dsimp -implicitDefEqProofs [-getElem?_pos, go_sem, hP, t5, t7, hp, cPy]
    refine adrawB (fun _ => true) [] hP (by kernel_rfl) (by kernel_rfl) ?_
    simp -dsimp -implicitDefEqProofs [-getElem?_pos, go_sem, hP]
    refine callB_is (py.lift _ _) hP en_33 (by simpa using ip) .sc ?_
    cases h1 : payB p
    · rw [h1, Bool.false_and] at hq
      simp -dsimp -implicitDefEqProofs [-getElem?_pos, go_sem, hP, h1, hq]
    rw [h1, Bool.true_and] at hq
    rcases Nat.eq_zero_or_pos k with k0 | k0
    · rw [ho0 k0, allO, Bool.true_and] at hq
      have k0' : ¬ 0 < k := by omega
      have hjk : decide ((0 : Int) < (k : Int)) = false := decide_eq_false (by omega)
      simp -dsimp -implicitDefEqProofs [-getElem?_pos, go_sem, hP, h1, t7, k0', hjk, wk]
      refine ⟨l.length - (k + 1), by omega, ?_⟩
      rw [hI]
      exact ⟨k + 1, some p, by omega, rfl, hq, by omega, prev_at (f := some) hp, by simp -dsimp -implicitDefEqProofs [-getElem?_pos, go_sem, t0], by simp -dsimp -implicitDefEqProofs [-getElem?_pos, go_sem, t5], by simp -dsimp -implicitDefEqProofs [-getElem?_pos, go_sem, t6], by simp -dsimp -implicitDefEqProofs [-getElem?_pos, go_sem]⟩
    · obtain ⟨j, hj⟩ : ∃ j, k = j + 1 := ⟨k - 1, by omega⟩
      obtain ⟨x, hx⟩ : ∃ x, l[j]? = some x := ⟨_, List.getElem?_eq_getElem (by omega)⟩
      have hox := ho1 j x hj hx
      have hjk : decide ((0 : Int) < (k : Int)) = true := decide_eq_true (by omega)
      have wj : IntKind.i64.wrap ((k : Int) - 1) = (j : Int) := by rw [wrap_in _ (by omega)]; omega
      have cm := bcompare_pf x p
      have ix := imm_pay x
      rw [cPy, cPy] at cm
      rw [cPy] at ix
      rw [hox, allO] at hq
      simp -dsimp -implicitDefEqProofs [-getElem?_pos, go_sem, hP, h1, t7, k0, hjk, wj, t0, hx, cPy]
      refine callB_is (cm.lift _ _) hP en_64 (by simpa using ⟨ix, ip⟩) .sc ?_
      by_cases c : Bef x p
      · have c1 := cmpP_lt.2 c
        have d1 : decide (0 ≤ cmpP x p) = false := decide_eq_false (by omega)
        rw [befB_iff.2 c, Bool.true_and] at hq
        simp -dsimp -implicitDefEqProofs [-getElem?_pos, go_sem, hP, h1, t7, k0, hjk, wj, t0, hx, cPy, d1, wk]
        refine ⟨l.length - (k + 1), by omega, ?_⟩
        rw [hI]
        exact ⟨k + 1, some p, by omega, rfl, hq, by omega, prev_at (f := some) hp, by simp -dsimp -implicitDefEqProofs [-getElem?_pos, go_sem, t0], by simp -dsimp -implicitDefEqProofs [-getElem?_pos, go_sem, t5], by simp -dsimp -implicitDefEqProofs [-getElem?_pos, go_sem, t6], by simp -dsimp -implicitDefEqProofs [-getElem?_pos, go_sem]⟩
      · have c1 := cmpP_ge c
        have d1 : decide (0 ≤ cmpP x p) = true := decide_eq_true c1
        have cb : befB x p = false := by simpa [befB] using c
        rw [cb, Bool.false_and] at hq
        simp -dsimp -implicitDefEqProofs [-getElem?_pos, go_sem, hP, h1, t7, k0, hjk, wj, t0, hx, cPy, d1, hq]
  · have hk : k = l.length := by simp at h; omega
    subst hk
    rw [List.drop_length, ordFrom] at hq
    simp -dsimp -implicitDefEqProofs [-getElem?_pos, go_sem, hP, hq]

theorem bknown_pf (l : List Int) (hl : l.length ≤ 1000000) : PFun Try.prog none none 40 [intsL l] (· = bv (knFrom none l)) := by
  refine pfun_intro Try.func40 rfl (by simp [Try.f40]) (by kernel_rfl) ?_
  intro E hP hr hs hW hN
  obtain ⟨R, hR⟩ : ∃ R, R = knFrom none l := ⟨_, rfl⟩
  rw [← hR]
  simp -dsimp -implicitDefEqProofs [-getElem?_pos, go_sem, hP, intsL]
  obtain ⟨I, hI⟩ : ∃ I : Nat → St → Prop, I = fun m s => ∃ (k : Nat) (o : Option Int), k ≤ l.length ∧ m = l.length - k ∧ R = knFrom o (l.drop k) ∧ (k = 0 → o = none) ∧ (∀ j x, k = j + 1 → l[j]? = some x → o = some x) ∧ s.t 0 = intsL l ∧ s.t 5 = intsL l ∧ s.t 6 = iv l.length ∧ s.t 7 = iv k := ⟨_, rfl⟩
  refine aloop0 I (l.length) (by rw [hN]; rfl) ?_ ?_
  · rw [hI]
    exact ⟨0, none, by omega, by omega, by rw [hR]; rfl, by simp, by omega, by simp -dsimp -implicitDefEqProofs [-getElem?_pos, go_sem, intsL], by simp -dsimp -implicitDefEqProofs [-getElem?_pos, go_sem, intsL], by simp -dsimp -implicitDefEqProofs [-getElem?_pos, go_sem], by simp -dsimp -implicitDefEqProofs [-getElem?_pos, go_sem]⟩
  intro m s hs'
  rw [hI] at hs'
  obtain ⟨k, o, hk, hm, hq, ho0, ho1, t0, t5, t6, t7⟩ := hs'
  simp -dsimp -implicitDefEqProofs [-getElem?_pos, go_sem, hP, t6, t7]
  refine condP (fun h => ?_) (fun h => ?_)
  · have hk : k < l.length := by simpa using h
    obtain ⟨p, hp⟩ : ∃ p, l[k]? = some p := ⟨_, List.getElem?_eq_getElem hk⟩
    have wk := wrap_in ((k : Int) + 1) (by omega)
    rw [drop_at hp, knFrom] at hq
    simp -dsimp -implicitDefEqProofs [-getElem?_pos, go_sem, hP, t5, t7, intsL, hp]
    refine callB_pure (bamong_pf p 1 1000000) hP en_63 (args_same (by simp -dsimp -implicitDefEqProofs [-getElem?_pos, go_sem])) .sc ?_
    cases h1 : amg p 1 1000000
    · rw [h1, Bool.false_and] at hq
      simp -dsimp -implicitDefEqProofs [-getElem?_pos, go_sem, hP, h1, hq]
    rw [h1, Bool.true_and] at hq
    rcases Nat.eq_zero_or_pos k with k0 | k0
    · rw [ho0 k0, allO, Bool.true_and] at hq
      have k0' : ¬ 0 < k := by omega
      have hjk : decide ((0 : Int) < (k : Int)) = false := decide_eq_false (by omega)
      simp -dsimp -implicitDefEqProofs [-getElem?_pos, go_sem, hP, h1, t7, k0', hjk, wk]
      refine ⟨l.length - (k + 1), by omega, ?_⟩
      rw [hI]
      exact ⟨k + 1, some p, by omega, rfl, hq, by omega, prev_at (f := some) hp, by simp -dsimp -implicitDefEqProofs [-getElem?_pos, go_sem, t0], by simp -dsimp -implicitDefEqProofs [-getElem?_pos, go_sem, t5], by simp -dsimp -implicitDefEqProofs [-getElem?_pos, go_sem, t6], by simp -dsimp -implicitDefEqProofs [-getElem?_pos, go_sem]⟩
    · obtain ⟨j, hj⟩ : ∃ j, k = j + 1 := ⟨k - 1, by omega⟩
      obtain ⟨x, hx⟩ : ∃ x, l[j]? = some x := ⟨_, List.getElem?_eq_getElem (by omega)⟩
      have hox := ho1 j x hj hx
      have hjk : decide ((0 : Int) < (k : Int)) = true := decide_eq_true (by omega)
      have wj : IntKind.i64.wrap ((k : Int) - 1) = (j : Int) := by rw [wrap_in _ (by omega)]; omega
      rw [hox, allO] at hq
      by_cases c : x < p
      · have d1 : decide (p ≤ x) = false := decide_eq_false (by omega)
        rw [decide_eq_true c, Bool.true_and] at hq
        simp -dsimp -implicitDefEqProofs [-getElem?_pos, go_sem, hP, h1, t7, k0, hjk, wj, t0, intsL, hx, d1, wk]
        refine ⟨l.length - (k + 1), by omega, ?_⟩
        rw [hI]
        exact ⟨k + 1, some p, by omega, rfl, hq, by omega, prev_at (f := some) hp, by simp -dsimp -implicitDefEqProofs [-getElem?_pos, go_sem, t0], by simp -dsimp -implicitDefEqProofs [-getElem?_pos, go_sem, t5], by simp -dsimp -implicitDefEqProofs [-getElem?_pos, go_sem, t6], by simp -dsimp -implicitDefEqProofs [-getElem?_pos, go_sem]⟩
      · have d1 : decide (p ≤ x) = true := decide_eq_true (by omega)
        rw [decide_eq_false c, Bool.false_and] at hq
        simp -dsimp -implicitDefEqProofs [-getElem?_pos, go_sem, hP, h1, t7, k0, hjk, wj, t0, intsL, hx, d1, hq]
  · have hk : k = l.length := by simp at h; omega
    subst hk
    rw [List.drop_length, knFrom] at hq
    simp -dsimp -implicitDefEqProofs [-getElem?_pos, go_sem, hP, hq]
end Go.Proofs.Ytmpncdlhmknkoaa
