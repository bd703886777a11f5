/- Restatement: the program's checks. -/
import Derived.Test.YtellcfkpfccgaaaRes1
import Derived.Test.YtellcfkpfccgaaaLed4
set_option linter.unusedSimpArgs false
set_option linter.unusedVariables false
namespace Go.Proofs.Ytellcfkpfccgaaa
open Go.PA
open Go.RowKit

theorem args_fn {H : Heap} {g : FuncId} {cs cs' xs ys : List AV} (h : cs.map (viewR H) = cs') (hi : ∀ c, c ∈ cs' → Imm c) (ht : Args H xs ys) : Args H (.fn g cs :: xs) (.fn g cs' :: ys) :=
  args_cons.2 ⟨⟨by rw [view_fn, h]; exact .refl _, by rw [view_fn, h]; exact imm_fn.2 hi⟩, ht⟩
theorem prev_get {α : Type} {f : α → Int} {l : List α} {k : Nat} {p : α} (hp : l[k]? = some p) : ∀ j x, k + 1 = j + 1 → l[j]? = some x → f p = f x := fun j x hj hx => by
  cases (show k = j by omega)
  rw [hp] at hx
  cases hx
  rfl

theorem samong_pf (n lo hi : Int) : PFun Try.prog none none 109 [iv n, iv lo, iv hi] (· = bv (betw n lo hi)) := by
  refine pfun_intro Try.func109 rfl (by simp [Try.f109]) (by kernel_rfl) ?_
  intro E hP hr hs hW hN
  by_cases h1 : lo ≤ n <;> by_cases h2 : n ≤ hi <;> simp -dsimp -implicitDefEqProofs [-getElem?_pos, go_sem, hP, h1, h2, betw]
theorem year_pf (n : Int) : PFun Try.prog none none 85 [iv n] (· = bv (yearB n)) := by
  refine pfun_intro Try.func85 rfl (by simp [Try.f85]) (by kernel_rfl) ?_
  intro E hP hr hs hW hN
  simp -dsimp -implicitDefEqProofs [-getElem?_pos, go_sem, hP]
  refine callB_pure (samong_pf n 0 99) hP en_109 (args_same (by simp -dsimp -implicitDefEqProofs [-getElem?_pos, go_sem])) .sc ?_
  simp -dsimp -implicitDefEqProofs [-getElem?_pos, go_sem, hP, yearB]
theorem within_pf (d n : Int) (hn : yearB n = true) : PFun Try.prog none none 125 [iv d, iv n] (· = bv (betw d (360 * n) (360 * n + 359))) := by
  refine pfun_intro Try.func125 rfl (by simp [Try.f125]) (by kernel_rfl) ?_
  intro E hP hr hs hW hN
  have hn := betw_iff.1 hn
  have w1 := wrap_in (360 * n) (by omega)
  have w2 := wrap_in (360 * n + 359) (by omega)
  simp -dsimp -implicitDefEqProofs [-getElem?_pos, go_sem, hP, w1, w2]
  refine callB_pure (samong_pf d (360 * n) (360 * n + 359)) hP en_109 (args_same (by simp -dsimp -implicitDefEqProofs [-getElem?_pos, go_sem])) .sc ?_
  simp -dsimp -implicitDefEqProofs [-getElem?_pos, go_sem, hP]
theorem wrong_pf (p : TPosting) (c : TCorrection) (hn : yearB c.Year = true) : PFun Try.prog none none 124 [.agg p.cells, .iref c.cells] (· = bv (wrongP c.Year p)) := by
  refine pfun_intro Try.func124 rfl (by simp [Try.f124]) (by kernel_rfl) ?_
  intro E hP hr hs hW hN
  have po := posting_pf p
  rw [cP] at po
  have ip := imm_prp p
  simp -dsimp -implicitDefEqProofs [-getElem?_pos, go_sem, hP, cP, cC]
  refine callB_is (po.lift _ _) hP en_63 (by simpa using ip) .sc ?_
  have hw : wrongP c.Year p = (!postB p || !betw p.Day (360 * c.Year) (360 * c.Year + 359)) := rfl
  rw [hw]
  cases postB p
  · simp -dsimp -implicitDefEqProofs [-getElem?_pos, go_sem, hP]
  · simp -dsimp -implicitDefEqProofs [-getElem?_pos, go_sem, hP, cC]
    refine callB_pure (within_pf p.Day c.Year hn) hP en_125 (args_same (by simp -dsimp -implicitDefEqProofs [-getElem?_pos, go_sem])) .sc ?_
    simp -dsimp -implicitDefEqProofs [-getElem?_pos, go_sem, hP]
theorem correction_pf (c : TCorrection) (hl : c.Postings.length ≤ 100000) : PFun Try.prog none none 107 [.agg c.cells] (· = bv (corrB c)) := by
  refine pfun_intro Try.func107 rfl (by simp [Try.f107]) (by kernel_rfl) ?_
  intro E hP hr hs hW hN
  have ip := imm_posts c.Postings
  simp -dsimp -implicitDefEqProofs [-getElem?_pos, go_sem, hP, cC]
  refine callB_pure (year_pf c.Year) hP en_85 (args_same (by simp -dsimp -implicitDefEqProofs [-getElem?_pos, go_sem])) .sc ?_
  cases h1 : yearB c.Year
  · have : corrB c = false := by rw [corrB, h1]; rfl
    simp -dsimp -implicitDefEqProofs [-getElem?_pos, go_sem, hP, h1, this]
  have hn := betw_iff.1 h1
  have w1 := wrap_in (360 * c.Year) (by omega)
  have w2 := wrap_in (360 * c.Year + 360) (by omega)
  simp -dsimp -implicitDefEqProofs [-getElem?_pos, go_sem, hP, w1, w2]
  refine callB_pure (samong_pf c.Found (360 * c.Year + 360) 36000) hP en_109 (args_same (by simp -dsimp -implicitDefEqProofs [-getElem?_pos, go_sem])) .sc ?_
  cases h2 : betw c.Found (360 * c.Year + 360) 36000
  · have : corrB c = false := by rw [corrB, h1, h2]; rfl
    simp -dsimp -implicitDefEqProofs [-getElem?_pos, go_sem, hP, h2, this]
  simp -dsimp -implicitDefEqProofs [-getElem?_pos, go_sem, hP, h2]
  refine callB_pure (samong_pf c.Postings.length 1 20) hP en_109 (args_same (by simp -dsimp -implicitDefEqProofs [-getElem?_pos, go_sem])) .sc ?_
  cases h3 : betw c.Postings.length 1 20
  · have : corrB c = false := by rw [corrB, h1, h2, h3]; rfl
    simp -dsimp -implicitDefEqProofs [-getElem?_pos, go_sem, hP, h3, this]
  have h4 : corrB c = !c.Postings.any (wrongP c.Year) := by rw [corrB, h1, h2, h3]; rfl
  simp -dsimp -implicitDefEqProofs [-getElem?_pos, go_sem, hP, h3]
  refine callB_pure (contains_pf_posting c.Postings 124 [.iref c.cells] (wrongP c.Year) (by omega) en_124 (by simp [imm_iref]; exact c.imm) fun p _ => wrong_pf p c h1) hP en_99 (args_imm ip (args_fn (by simp -dsimp -implicitDefEqProofs [-getElem?_pos, go_sem, viewR_ref, cC]) (by simp [imm_iref]; exact c.imm) (args_nil.2 trivial))) .sc ?_
  rw [h4]
  simp -dsimp -implicitDefEqProofs [-getElem?_pos, go_sem, hP]

theorem corrections_pf (l : List TCorrection) (hl : l.length ≤ 100000) (hc : ∀ c, c ∈ l → c.Postings.length ≤ 100000) : PFun Try.prog none none 78 [corrsL l] (· = bv (corrsB l)) := by
  refine pfun_intro Try.func78 rfl (by simp [Try.f78]) (by kernel_rfl) ?_
  intro E hP hr hs hW hN
  obtain ⟨R, hR⟩ : ∃ R, R = corrsB l := ⟨_, rfl⟩
  rw [← hR]
  simp -dsimp -implicitDefEqProofs [-getElem?_pos, go_sem, hP]
  obtain ⟨I, hI⟩ : ∃ I : Nat → St → Prop, I = fun m s => ∃ (k : Nat) (d : Int), k ≤ l.length ∧ m = l.length - k ∧ R = corrsFrom d (l.drop k) ∧ (k = 0 → d = 0) ∧ (∀ j x, k = j + 1 → l[j]? = some x → d = x.Found) ∧ s.t 0 = corrsL l ∧ s.t 5 = corrsL l ∧ s.t 6 = iv l.length ∧ s.t 7 = iv k := ⟨_, rfl⟩
  refine aloop0 I (l.length) (by rw [hN]; rfl) ?_ ?_
  · rw [hI]
    exact ⟨0, 0, by omega, by omega, by rw [hR]; rfl, by simp, by omega, by simp -dsimp -implicitDefEqProofs [-getElem?_pos, go_sem], by simp -dsimp -implicitDefEqProofs [-getElem?_pos, go_sem], by simp -dsimp -implicitDefEqProofs [-getElem?_pos, go_sem], by simp -dsimp -implicitDefEqProofs [-getElem?_pos, go_sem]⟩
  intro m s hs'
  rw [hI] at hs'
  obtain ⟨k, d, hk, hm, hq, hd0, hd1, t0, t5, t6, t7⟩ := hs'
  simp -dsimp -implicitDefEqProofs [-getElem?_pos, go_sem, hP, t6, t7]
  refine condP (fun h => ?_) (fun h => ?_)
  · have hk : k < l.length := by simpa using h
    obtain ⟨c, hcc⟩ : ∃ c, l[k]? = some c := ⟨_, List.getElem?_eq_getElem hk⟩
    have hcm := hc c (List.mem_of_getElem? hcc)
    have wk := wrap_in ((k : Int) + 1) (by omega)
    have ic := imm_corr c
    have co := correction_pf c hcm
    rw [cC] at co ic
    rw [drop_get hcc, corrsFrom] at hq
    simp -dsimp -implicitDefEqProofs [-getElem?_pos, go_sem, hP, t5, t7, hcc, cC]
    refine adrawB (fun _ => true) [] hP (by kernel_rfl) (by kernel_rfl) ?_
    simp -dsimp -implicitDefEqProofs [-getElem?_pos, go_sem, hP]
    refine callB_is (co.lift _ _) hP en_107 (by simpa using ic) .sc ?_
    cases h1 : corrB c
    · rw [h1, Bool.false_and] at hq
      simp -dsimp -implicitDefEqProofs [-getElem?_pos, go_sem, hP, h1, hq]
    rw [h1, Bool.true_and] at hq
    have ok := (corrB_iff c).1 h1
    rcases Nat.eq_zero_or_pos k with k0 | k0
    · have hdd : d ≤ c.Found := by have := ok.found; have := ok.year; rw [hd0 k0]; omega
      rw [decide_eq_true hdd, Bool.true_and] at hq
      have k0' : ¬ 0 < k := by omega
      have hjk : decide ((0 : Int) < (k : Int)) = false := decide_eq_false (by omega)
      simp -dsimp -implicitDefEqProofs [-getElem?_pos, go_sem, hP, h1, t7, k0', hjk, wk]
      refine ⟨l.length - (k + 1), by omega, ?_⟩
      rw [hI]
      exact ⟨k + 1, c.Found, by omega, rfl, hq, by omega, prev_get (f := (·.Found)) hcc, by simp -dsimp -implicitDefEqProofs [-getElem?_pos, go_sem, t0], by simp -dsimp -implicitDefEqProofs [-getElem?_pos, go_sem, t5], by simp -dsimp -implicitDefEqProofs [-getElem?_pos, go_sem, t6], by simp -dsimp -implicitDefEqProofs [-getElem?_pos, go_sem]⟩
    · obtain ⟨j, hj⟩ : ∃ j, k = j + 1 := ⟨k - 1, by omega⟩
      obtain ⟨x, hx⟩ : ∃ x, l[j]? = some x := ⟨_, List.getElem?_eq_getElem (by omega)⟩
      have hdx := hd1 j x hj hx
      have hjk : decide ((0 : Int) < (k : Int)) = true := decide_eq_true (by omega)
      have wj : IntKind.i64.wrap ((k : Int) - 1) = (j : Int) := by rw [wrap_in _ (by omega)]; omega
      rw [hdx] at hq
      by_cases c2 : x.Found ≤ c.Found
      · have d2 : decide (c.Found < x.Found) = false := decide_eq_false (by omega)
        rw [decide_eq_true c2, Bool.true_and] at hq
        simp -dsimp -implicitDefEqProofs [-getElem?_pos, go_sem, hP, h1, t0, t7, k0, hjk, wj, hx, cC, d2, wk]
        refine ⟨l.length - (k + 1), by omega, ?_⟩
        rw [hI]
        exact ⟨k + 1, c.Found, by omega, rfl, hq, by omega, prev_get (f := (·.Found)) hcc, by simp -dsimp -implicitDefEqProofs [-getElem?_pos, go_sem, t0], by simp -dsimp -implicitDefEqProofs [-getElem?_pos, go_sem, t5], by simp -dsimp -implicitDefEqProofs [-getElem?_pos, go_sem, t6], by simp -dsimp -implicitDefEqProofs [-getElem?_pos, go_sem]⟩
      · have d2 : decide (c.Found < x.Found) = true := decide_eq_true (by omega)
        rw [decide_eq_false c2, Bool.false_and] at hq
        simp -dsimp -implicitDefEqProofs [-getElem?_pos, go_sem, hP, h1, t0, t7, k0, hjk, wj, hx, cC, d2, hq]
  · have hk : k = l.length := by simp at h; omega
    subst hk
    rw [List.drop_length, corrsFrom] at hq
    simp -dsimp -implicitDefEqProofs [-getElem?_pos, go_sem, hP, hq]

theorem versions_pf (l : List TPresented) (y : Int) (hl : l.length ≤ 100000) : PFun Try.prog none none 89 [presL l, iv y] (· = iv (versN l y)) := by
  refine pfun_intro Try.func89 rfl (by simp [Try.f89]) (by kernel_rfl) ?_
  intro E hP hr hs hW hN
  simp -dsimp -implicitDefEqProofs [-getElem?_pos, go_sem, hP]
  obtain ⟨I, hI⟩ : ∃ I : Nat → St → Prop, I = fun m s => ∃ (k : Nat), k ≤ l.length ∧ m = l.length - k ∧ s.t 1 = iv y ∧ s.t 5 = iv (versN (l.take k) y) ∧ s.t 8 = presL l ∧ s.t 9 = iv l.length ∧ s.t 10 = iv k := ⟨_, rfl⟩
  refine aloop0 I (l.length) (by rw [hN]; rfl) ?_ ?_
  · rw [hI]
    exact ⟨0, by omega, by omega, by simp -dsimp -implicitDefEqProofs [-getElem?_pos, go_sem], by simp -dsimp -implicitDefEqProofs [-getElem?_pos, go_sem]; rfl, by simp -dsimp -implicitDefEqProofs [-getElem?_pos, go_sem], by simp -dsimp -implicitDefEqProofs [-getElem?_pos, go_sem], by simp -dsimp -implicitDefEqProofs [-getElem?_pos, go_sem]⟩
  intro m s hs'
  rw [hI] at hs'
  obtain ⟨k, hk, hm, t1, t5, t8, t9, t10⟩ := hs'
  simp -dsimp -implicitDefEqProofs [-getElem?_pos, go_sem, hP, t9, t10]
  refine condP (fun h => ?_) (fun h => ?_)
  · have hk : k < l.length := by simpa using h
    obtain ⟨c, hcc⟩ : ∃ c, l[k]? = some c := ⟨_, List.getElem?_eq_getElem hk⟩
    have wk := wrap_in ((k : Int) + 1) (by omega)
    have nx : versN (l.take (k + 1)) y = versN (l.take k) y + (if c.Year = y then 1 else 0) := by rw [List.take_add_one, hcc]; exact versN_snoc _ _ _
    have vl := versN_le (l.take k) y
    rw [List.length_take] at vl
    have wv := wrap_in ((versN (l.take k) y : Int) + 1) (by omega)
    by_cases h1 : c.Year = y
    · rw [if_pos h1] at nx
      simp -dsimp -implicitDefEqProofs [-getElem?_pos, go_sem, hP, t8, t10, hcc, cPr, t1, h1, t5, wv, wk]
      refine ⟨l.length - (k + 1), by omega, ?_⟩
      rw [hI]
      exact ⟨k + 1, by omega, rfl, by simp -dsimp -implicitDefEqProofs [-getElem?_pos, go_sem, t1], by rw [nx]; simp -dsimp -implicitDefEqProofs [-getElem?_pos, go_sem], by simp -dsimp -implicitDefEqProofs [-getElem?_pos, go_sem, t8], by simp -dsimp -implicitDefEqProofs [-getElem?_pos, go_sem, t9], by simp -dsimp -implicitDefEqProofs [-getElem?_pos, go_sem]⟩
    · rw [if_neg h1] at nx
      have d1 : decide (c.Year = y) = false := decide_eq_false h1
      simp -dsimp -implicitDefEqProofs [-getElem?_pos, go_sem, hP, t8, t10, hcc, cPr, t1, d1, t5, wk]
      refine ⟨l.length - (k + 1), by omega, ?_⟩
      rw [hI]
      exact ⟨k + 1, by omega, rfl, by simp -dsimp -implicitDefEqProofs [-getElem?_pos, go_sem, t1], by rw [nx]; simp -dsimp -implicitDefEqProofs [-getElem?_pos, go_sem, t5], by simp -dsimp -implicitDefEqProofs [-getElem?_pos, go_sem, t8], by simp -dsimp -implicitDefEqProofs [-getElem?_pos, go_sem, t9], by simp -dsimp -implicitDefEqProofs [-getElem?_pos, go_sem]⟩
  · have hk : k = l.length := by simp at h; omega
    subst hk
    rw [List.take_length] at t5
    simp -dsimp -implicitDefEqProofs [-getElem?_pos, go_sem, hP, t5]

set_option maxRecDepth 4000 in
theorem presented_pf (l : List TPresented) (hl : l.length ≤ 100000) : PFun Try.prog none none 79 [presL l] (· = bv (presB l)) := by
  refine pfun_intro Try.func79 rfl (by simp [Try.f79]) (by kernel_rfl) ?_
  intro E hP hr hs hW hN
  obtain ⟨R, hR⟩ : ∃ R, R = presB l := ⟨_, rfl⟩
  rw [← hR]
  simp -dsimp -implicitDefEqProofs [-getElem?_pos, go_sem, hP]
  obtain ⟨I, hI⟩ : ∃ I : Nat → St → Prop, I = fun m s => ∃ (k : Nat), k ≤ l.length ∧ m = l.length - k ∧ R = presFrom (l.take k) (l.drop k) ∧ s.t 0 = presL l ∧ s.t 5 = presL l ∧ s.t 6 = iv l.length ∧ s.t 7 = iv k := ⟨_, rfl⟩
  refine aloop0 I (l.length) (by rw [hN]; rfl) ?_ ?_
  · rw [hI]
    exact ⟨0, by omega, by omega, by rw [hR]; rfl, by simp -dsimp -implicitDefEqProofs [-getElem?_pos, go_sem], by simp -dsimp -implicitDefEqProofs [-getElem?_pos, go_sem], by simp -dsimp -implicitDefEqProofs [-getElem?_pos, go_sem], by simp -dsimp -implicitDefEqProofs [-getElem?_pos, go_sem]⟩
  intro m s hs'
  rw [hI] at hs'
  obtain ⟨k, hk, hm, hq, t0, t5, t6, t7⟩ := hs'
  simp -dsimp -implicitDefEqProofs [-getElem?_pos, go_sem, hP, t6, t7]
  refine condP (fun h => ?_) (fun h => ?_)
  · have hk : k < l.length := by simpa using h
    obtain ⟨c, hcc⟩ : ∃ c, l[k]? = some c := ⟨_, List.getElem?_eq_getElem hk⟩
    have wk := wrap_in ((k : Int) + 1) (by omega)
    have ip : Imm (presL (l.take k)) := imm_pres _
    have ve := versions_pf (l.take k) c.Year (by rw [List.length_take]; omega)
    have vl := versN_le (l.take k) c.Year
    rw [List.length_take] at vl
    have wv := wrap_in ((versN (l.take k) c.Year : Int) + 1) (by omega)
    rw [drop_get hcc, presFrom, show l.take k ++ [c] = l.take (k + 1) by rw [List.take_add_one, hcc]; rfl] at hq
    simp -dsimp -implicitDefEqProofs [-getElem?_pos, go_sem, hP, t5, t7, hcc, cPr]
    refine adrawB (fun _ => true) [] hP (by kernel_rfl) (by kernel_rfl) ?_
    simp -dsimp -implicitDefEqProofs [-getElem?_pos, go_sem, hP]
    refine callB_pure (year_pf c.Year) hP en_85 (args_same (by simp -dsimp -implicitDefEqProofs [-getElem?_pos, go_sem])) .sc ?_
    cases h1 : yearB c.Year
    · rw [h1, Bool.false_and] at hq
      simp -dsimp -implicitDefEqProofs [-getElem?_pos, go_sem, hP, h1, hq]
    rw [h1, Bool.true_and] at hq
    have e1 : (encL TPresented.cells l).take k = encL TPresented.cells (l.take k) := by simp [encL, List.map_take]
    have c1 : (0 : Int) ≤ (k : Int) ∧ (k : Int) ≤ (l.length : Int) := by omega
    simp -dsimp -implicitDefEqProofs [-getElem?_pos, go_sem, hP, h1, t0, t7, asliceOp, bound, aslice, c1, e1]
    refine callB_is (ve.lift _ _) hP en_89 (by simp [imm_sc]; exact ip) .sc ?_
    by_cases c2 : c.Version = (versN (l.take k) c.Year : Int) + 1
    · rw [decide_eq_true c2, Bool.true_and] at hq
      simp -dsimp -implicitDefEqProofs [-getElem?_pos, go_sem, hP, wv, c2, t7, wk]
      refine ⟨l.length - (k + 1), by omega, ?_⟩
      rw [hI]
      exact ⟨k + 1, by omega, rfl, hq, by simp -dsimp -implicitDefEqProofs [-getElem?_pos, go_sem, t0], by simp -dsimp -implicitDefEqProofs [-getElem?_pos, go_sem, t5], by simp -dsimp -implicitDefEqProofs [-getElem?_pos, go_sem, t6], by simp -dsimp -implicitDefEqProofs [-getElem?_pos, go_sem]⟩
    · rw [decide_eq_false c2, Bool.false_and] at hq
      have d2 := decide_eq_false c2
      simp -dsimp -implicitDefEqProofs [-getElem?_pos, go_sem, hP, wv, d2, c2, hq]
  · have hk : k = l.length := by simp at h; omega
    subst hk
    rw [List.drop_length, presFrom] at hq
    simp -dsimp -implicitDefEqProofs [-getElem?_pos, go_sem, hP, hq]
end Go.Proofs.Ytellcfkpfccgaaa
