/- Restatement: the reference's checks. -/
import Derived.Test.YtellcfkpfccgaaaRes3
import Derived.Test.YtellcfkpfccgaaaLed5
set_option linter.unusedSimpArgs false
set_option linter.unusedVariables false
namespace Go.Proofs.Ytellcfkpfccgaaa
open Go.PA
open Go.RowKit

theorem betw_no {n lo hi : Int} (h : ¬ (lo ≤ n ∧ n ≤ hi)) : betw n lo hi = false := Bool.eq_false_iff.2 fun e => h (betw_iff.1 e)
theorem ryear_pf (n : Int) : PFun Try.prog none none 92 [iv n] (· = bv (yearB n)) := by
  refine pfun_intro Try.func92 rfl (by simp [Try.f92]) (by kernel_rfl) ?_
  intro E hP hr hs hW hN
  by_cases h1 : 0 ≤ n <;> by_cases h2 : n ≤ 99 <;> simp -dsimp -implicitDefEqProofs [-getElem?_pos, go_sem, hP, h1, h2, yearB, betw]

set_option maxHeartbeats 1000000 in
theorem rcorrection_pf (c : TCorrection) (hl : c.Postings.length ≤ 100000) : PFun Try.prog none none 91 [.agg c.cells] (· = bv (corrB c)) := by
  refine pfun_intro Try.func91 rfl (by simp [Try.f91]) (by kernel_rfl) ?_
  intro E hP hr hs hW hN
  have ip := imm_posts c.Postings
  obtain ⟨R, hR⟩ : ∃ R, R = corrB c := ⟨_, rfl⟩
  rw [← hR]
  simp -dsimp -implicitDefEqProofs [-getElem?_pos, go_sem, hP, cC]
  refine callB_pure (ryear_pf c.Year) hP en_92 (args_same (by simp -dsimp -implicitDefEqProofs [-getElem?_pos, go_sem])) .sc ?_
  cases h1 : yearB c.Year
  · have : R = false := by rw [hR, corrB, h1]; rfl
    simp -dsimp -implicitDefEqProofs [-getElem?_pos, go_sem, hP, h1, this]
  have hn := betw_iff.1 h1
  have w1 := wrap_in (360 * c.Year) (by omega)
  have w2 := wrap_in (360 * c.Year + 360) (by omega)
  by_cases c2 : c.Found < 360 * c.Year + 360
  · have d2 : decide (c.Found < 360 * c.Year + 360) = true := decide_eq_true c2
    have : R = false := by rw [hR, corrB, h1, betw_no (n := c.Found) (by omega)]; rfl
    simp -dsimp -implicitDefEqProofs [-getElem?_pos, go_sem, hP, h1, w1, w2, d2, this]
  have d2 : decide (c.Found < 360 * c.Year + 360) = false := decide_eq_false c2
  by_cases c3 : 36000 < c.Found
  · have d3 : decide (36000 < c.Found) = true := decide_eq_true c3
    have : R = false := by rw [hR, corrB, h1, betw_no (n := c.Found) (by omega)]; rfl
    simp -dsimp -implicitDefEqProofs [-getElem?_pos, go_sem, hP, h1, w1, w2, d2, c3, this]
  have d3 : decide (36000 < c.Found) = false := decide_eq_false c3
  have b2 : betw c.Found (360 * c.Year + 360) 36000 = true := betw_iff.2 (by omega)
  by_cases c4 : c.Postings.length = 0
  · have : R = false := by rw [hR, corrB, h1, b2, betw_no (n := (c.Postings.length : Int)) (by omega)]; rfl
    simp -dsimp -implicitDefEqProofs [-getElem?_pos, go_sem, hP, h1, w1, w2, d2, d3, c4, this]
  have d4 : decide ((c.Postings.length : Int) < 1) = false := decide_eq_false (by omega)
  by_cases c5 : 20 < c.Postings.length
  · have d5 : decide ((20 : Int) < (c.Postings.length : Int)) = true := decide_eq_true (by omega)
    have : R = false := by rw [hR, corrB, h1, b2, betw_no (n := (c.Postings.length : Int)) (by omega)]; rfl
    simp -dsimp -implicitDefEqProofs [-getElem?_pos, go_sem, hP, h1, w1, w2, d2, d3, d4, c4, c5, d5, this]
  have d5 : decide ((20 : Int) < (c.Postings.length : Int)) = false := decide_eq_false (by omega)
  have b3 : betw c.Postings.length 1 20 = true := betw_iff.2 (by omega)
  have hR' : R = !c.Postings.any (wrongP c.Year) := by rw [hR, corrB, h1, b2, b3]; rfl
  simp -dsimp -implicitDefEqProofs [-getElem?_pos, go_sem, hP, h1, w1, w2, d2, d3, d4, c4, d5]
  obtain ⟨I, hI⟩ : ∃ I : Nat → St → Prop, I = fun m s => ∃ (k : Nat), k ≤ c.Postings.length ∧ m = c.Postings.length - k ∧ R = !(c.Postings.drop k).any (wrongP c.Year) ∧ s.t 1 = .ref 0 0 0 ∧ s.t 36 = postsL c.Postings ∧ s.t 37 = iv c.Postings.length ∧ s.t 38 = iv k ∧ s.H[0]? = some (some ⟨66, 3, [[iv c.Year, iv c.Found, postsL c.Postings]]⟩) := ⟨_, rfl⟩
  refine aloop0 I (c.Postings.length) (by rw [hN]; rfl) ?_ ?_
  · rw [hI]
    exact ⟨0, by omega, by omega, by rw [hR', List.drop_zero], by simp -dsimp -implicitDefEqProofs [-getElem?_pos, go_sem], by simp -dsimp -implicitDefEqProofs [-getElem?_pos, go_sem], by simp -dsimp -implicitDefEqProofs [-getElem?_pos, go_sem], by simp -dsimp -implicitDefEqProofs [-getElem?_pos, go_sem], by simp -dsimp -implicitDefEqProofs [-getElem?_pos, go_sem]⟩
  intro m s hs'
  rw [hI] at hs'
  obtain ⟨k, hk, hm, hq, t1, t36, t37, t38, h0⟩ := hs'
  have lt0 := (List.getElem?_eq_some_iff.1 h0).1
  simp -dsimp -implicitDefEqProofs [-getElem?_pos, go_sem, hP, t37, t38]
  refine condP (fun h => ?_) (fun h => ?_)
  · have hk : k < c.Postings.length := by simpa using h
    obtain ⟨p, hp⟩ : ∃ p, c.Postings[k]? = some p := ⟨_, List.getElem?_eq_getElem hk⟩
    have wk := wrap_in ((k : Int) + 1) (by omega)
    have po := rposting_pf p
    have ipp := imm_prp p
    rw [cP] at po
    rw [drop_get hp, List.any_cons] at hq
    simp -dsimp -implicitDefEqProofs [-getElem?_pos, go_sem, hP, t36, t38, hp, cP]
    refine callB_is (po.lift _ _) hP en_64 (by simpa using ipp) .sc ?_
    cases b : postB p
    · have : R = false := by rw [hq, wrongP, b]; rfl
      simp -dsimp -implicitDefEqProofs [-getElem?_pos, go_sem, hP, b, this]
    have ok := (postB_iff p).1 b
    have hd := ok.day
    have e1 : p.Day.tdiv 360 = p.Day / 360 := Int.tdiv_eq_ediv_of_nonneg (by omega)
    have w3 := wrap_in (p.Day / 360) (by omega)
    have w4 := wrap_in c.Year (by omega)
    by_cases c6 : p.Day / 360 = c.Year
    · have : wrongP c.Year p = false := wrongP_iff.2 ⟨ok, by omega⟩
      rw [this, Bool.false_or] at hq
      simp -dsimp -implicitDefEqProofs [-getElem?_pos, go_sem, hP, b, e1, w3, c6, w4, t1, h0, lt0, t38, wk]
      refine ⟨c.Postings.length - (k + 1), by omega, ?_⟩
      rw [hI]
      exact ⟨k + 1, by omega, rfl, hq, by simp -dsimp -implicitDefEqProofs [-getElem?_pos, go_sem, t1], by simp -dsimp -implicitDefEqProofs [-getElem?_pos, go_sem, t36], by simp -dsimp -implicitDefEqProofs [-getElem?_pos, go_sem, t37], by simp -dsimp -implicitDefEqProofs [-getElem?_pos, go_sem], by simp -dsimp -implicitDefEqProofs [-getElem?_pos, go_sem, lt0, h0]⟩
    · have d6 : decide (p.Day / 360 = c.Year) = false := decide_eq_false c6
      have : R = false := by
        have : wrongP c.Year p = true := by
          cases hw : wrongP c.Year p
          · have := (wrongP_iff.1 hw).2
            omega
          · rfl
        rw [hq, this]
        rfl
      simp -dsimp -implicitDefEqProofs [-getElem?_pos, go_sem, hP, b, e1, w3, d6, c6, t1, h0, lt0, this]
  · have hk : k = c.Postings.length := by simp at h; omega
    subst hk
    rw [List.drop_length] at hq
    simp -dsimp -implicitDefEqProofs [-getElem?_pos, go_sem, hP, hq]

set_option maxHeartbeats 1000000 in
theorem hrcheck_pf (h : THistory) (hf : Fit h) : PFun Try.prog none none 46 [.agg h.cells] (· = iv (checkH h)) := by
  refine pfun_intro Try.func46 rfl (by simp [Try.f46]) (by kernel_rfl) ?_
  intro E hP hr hs hW hN
  have ck := rcheck_pf h.Ledger hf.post
  rw [cL] at ck
  have ip := imm_posts h.Ledger.Postings
  have i2 := imm_pres h.Presented
  have i3 := imm_corrs h.Corrections
  obtain ⟨R, hR⟩ : ∃ R, R = checkH h := ⟨_, rfl⟩
  rw [← hR]
  have w1 := hf.pres
  have w2 := hf.corr
  simp -dsimp -implicitDefEqProofs [-getElem?_pos, go_sem, hP, cH]
  refine callB_is (ck.lift _ _) hP en_60 (by simp [ip, imm_agg]) .sc ?_
  by_cases c1 : checkL h.Ledger.Postings = 0
  rotate_left
  · have : R = checkL h.Ledger.Postings := by rw [hR, checkH, if_neg c1]
    simp -dsimp -implicitDefEqProofs [-getElem?_pos, go_sem, hP, c1, this]
  rw [checkH, if_pos c1] at hR
  by_cases c2 : 20 < h.Corrections.length
  · have d2 : decide ((20 : Int) < (h.Corrections.length : Int)) = true := decide_eq_true (by omega)
    rw [if_pos (.inl c2)] at hR
    simp -dsimp -implicitDefEqProofs [-getElem?_pos, go_sem, hP, c1, c2, d2, hR]
  have d2 : decide ((20 : Int) < (h.Corrections.length : Int)) = false := decide_eq_false (by omega)
  by_cases c3 : 20 < h.Presented.length
  · have d3 : decide ((20 : Int) < (h.Presented.length : Int)) = true := decide_eq_true (by omega)
    rw [if_pos (.inr c3)] at hR
    simp -dsimp -implicitDefEqProofs [-getElem?_pos, go_sem, hP, c1, d2, c3, d3, hR]
  have d3 : decide ((20 : Int) < (h.Presented.length : Int)) = false := decide_eq_false (by omega)
  rw [if_neg (by omega)] at hR
  obtain ⟨l, hlc⟩ : ∃ l, l = h.Corrections := ⟨_, rfl⟩
  obtain ⟨q, hqp⟩ : ∃ q, q = h.Presented := ⟨_, rfl⟩
  have each : ∀ c, c ∈ l → c.Postings.length ≤ 100000 := hlc ▸ hf.each
  rw [← hlc] at hR w2 d2
  rw [← hqp] at hR w1 d3
  simp -dsimp -implicitDefEqProofs [-getElem?_pos, go_sem, hP, c1, ← hlc, ← hqp, d2, d3]
  obtain ⟨I, hI⟩ : ∃ I : Nat → St → Prop, I = fun m s => ∃ (k : Nat) (d : Int), k ≤ l.length ∧ m = l.length - k ∧ corrsB l = corrsFrom d (l.drop k) ∧ (k = 0 → d = 0) ∧ (∀ j x, k = j + 1 → l[j]? = some x → d = x.Found) ∧ s.t 1 = .ref 0 0 0 ∧ s.t 28 = corrsL l ∧ s.t 29 = iv l.length ∧ s.t 30 = iv k ∧ s.H[0]? = some (some ⟨56, 3, [[postsL h.Ledger.Postings, presL q, corrsL l]]⟩) := ⟨_, rfl⟩
  refine aloop0 I (l.length) (by rw [hN]; rfl) ?_ ?_
  · rw [hI]
    exact ⟨0, 0, by omega, by omega, by rfl, by simp, by omega, by simp -dsimp -implicitDefEqProofs [-getElem?_pos, go_sem], by simp -dsimp -implicitDefEqProofs [-getElem?_pos, go_sem], by simp -dsimp -implicitDefEqProofs [-getElem?_pos, go_sem], by simp -dsimp -implicitDefEqProofs [-getElem?_pos, go_sem], by simp -dsimp -implicitDefEqProofs [-getElem?_pos, go_sem]⟩
  intro m s hs'
  rw [hI] at hs'
  obtain ⟨k, d, hk, hm, hq, hd0, hd1, t1, t28, t29, t30, h0⟩ := hs'
  have lt0 := (List.getElem?_eq_some_iff.1 h0).1
  simp -dsimp -implicitDefEqProofs [-getElem?_pos, go_sem, hP, t29, t30]
  refine condP (fun hh => ?_) (fun hh => ?_)
  · have hk : k < l.length := by simpa using hh
    obtain ⟨c, hcc⟩ : ∃ c, l[k]? = some c := ⟨_, List.getElem?_eq_getElem hk⟩
    have hcm := each c (List.mem_of_getElem? hcc)
    have wk := wrap_in ((k : Int) + 1) (by omega)
    have ic := imm_corr c
    have co := rcorrection_pf c hcm
    rw [cC] at co ic
    rw [drop_get hcc, corrsFrom] at hq
    have bad : corrsB l = false → R = 90 := fun e => by rw [hR, e]; rfl
    have g0 : ∀ x : Option AObj, (s.H ++ [x])[0]? = some (some ⟨56, 3, [[postsL h.Ledger.Postings, presL q, corrsL l]]⟩) := fun x => by rw [List.getElem?_append_left lt0]; exact h0
    simp -dsimp -implicitDefEqProofs [-getElem?_pos, go_sem, hP, t28, t30, hcc, cC]
    refine adrawB (fun _ => true) [] hP (by kernel_rfl) (by kernel_rfl) ?_
    simp -dsimp -implicitDefEqProofs [-getElem?_pos, go_sem, hP]
    refine callB_is (co.lift _ _) hP en_91 (by simpa using ic) .sc ?_
    cases b1 : corrB c
    · rw [b1, Bool.false_and] at hq
      simp -dsimp -implicitDefEqProofs [-getElem?_pos, go_sem, hP, b1, bad hq]
    rw [b1, Bool.true_and] at hq
    have ok := (corrB_iff c).1 b1
    rcases Nat.eq_zero_or_pos k with k0 | k0
    · have hdd : d ≤ c.Found := by have := ok.found; have := ok.year; rw [hd0 k0]; omega
      rw [decide_eq_true hdd, Bool.true_and] at hq
      have k0' : ¬ 0 < k := by omega
      have hjk : decide ((0 : Int) < (k : Int)) = false := decide_eq_false (by omega)
      simp -dsimp -implicitDefEqProofs [-getElem?_pos, go_sem, hP, b1, t30, k0', hjk, wk]
      refine ⟨l.length - (k + 1), by omega, ?_⟩
      rw [hI]
      exact ⟨k + 1, c.Found, by omega, rfl, hq, by omega, prev_get (f := (·.Found)) hcc, by simp -dsimp -implicitDefEqProofs [-getElem?_pos, go_sem, t1], by simp -dsimp -implicitDefEqProofs [-getElem?_pos, go_sem, t28], by simp -dsimp -implicitDefEqProofs [-getElem?_pos, go_sem, t29], by simp -dsimp -implicitDefEqProofs [-getElem?_pos, go_sem], by simp -dsimp -implicitDefEqProofs [-getElem?_pos, go_sem, lt0, h0]⟩
    · obtain ⟨j, hj⟩ : ∃ j, k = j + 1 := ⟨k - 1, by omega⟩
      obtain ⟨x, hx⟩ : ∃ x, l[j]? = some x := ⟨_, List.getElem?_eq_getElem (by omega)⟩
      have hdx := hd1 j x hj hx
      have hjk : decide ((0 : Int) < (k : Int)) = true := decide_eq_true (by omega)
      have wj : IntKind.i64.wrap ((k : Int) - 1) = (j : Int) := by rw [wrap_in _ (by omega)]; omega
      rw [hdx] at hq
      by_cases c2 : x.Found ≤ c.Found
      · have d2 : decide (c.Found < x.Found) = false := decide_eq_false (by omega)
        rw [decide_eq_true c2, Bool.true_and] at hq
        simp -dsimp -implicitDefEqProofs [-getElem?_pos, go_sem, hP, b1, t1, t30, k0, hjk, wj, g0, lt0, h0, hx, cC, d2, wk]
        refine ⟨l.length - (k + 1), by omega, ?_⟩
        rw [hI]
        exact ⟨k + 1, c.Found, by omega, rfl, hq, by omega, prev_get (f := (·.Found)) hcc, by simp -dsimp -implicitDefEqProofs [-getElem?_pos, go_sem, t1], by simp -dsimp -implicitDefEqProofs [-getElem?_pos, go_sem, t28], by simp -dsimp -implicitDefEqProofs [-getElem?_pos, go_sem, t29], by simp -dsimp -implicitDefEqProofs [-getElem?_pos, go_sem], by simp -dsimp -implicitDefEqProofs [-getElem?_pos, go_sem, lt0, h0]⟩
      · have d2 : decide (c.Found < x.Found) = true := decide_eq_true (by omega)
        rw [decide_eq_false c2, Bool.false_and] at hq
        simp -dsimp -implicitDefEqProofs [-getElem?_pos, go_sem, hP, b1, t1, t30, k0, hjk, wj, g0, lt0, h0, hx, cC, d2, bad hq]
  have hk : k = l.length := by simp at hh; omega
  subst hk
  rw [List.drop_length, corrsFrom] at hq
  rw [hq, Bool.true_and] at hR
  clear hq hd0 hd1 t28 t29 t30 hh
  have bad : presB q = false → R = 90 := fun e => by rw [hR, e]; rfl
  have good : presB q = true → R = 0 := fun e => by rw [hR, e]; rfl
  clear hI
  simp -dsimp -implicitDefEqProofs [-getElem?_pos, go_sem, hP, t1, h0, lt0]
  obtain ⟨J, hJ⟩ : ∃ I : Nat → St → Prop, I = fun m s => ∃ (k : Nat), k ≤ q.length ∧ m = q.length - k ∧ presB q = presFrom (q.take k) (q.drop k) ∧ s.t 1 = .ref 0 0 0 ∧ s.t 56 = presL q ∧ s.t 57 = iv q.length ∧ s.t 58 = iv k ∧ s.H[0]? = some (some ⟨56, 3, [[postsL h.Ledger.Postings, presL q, corrsL l]]⟩) := ⟨_, rfl⟩
  refine aloop0 J (q.length) (by rw [hN]; rfl) ?_ ?_
  · rw [hJ]
    exact ⟨0, by omega, by omega, rfl, by simp -dsimp -implicitDefEqProofs [-getElem?_pos, go_sem, t1], by simp -dsimp -implicitDefEqProofs [-getElem?_pos, go_sem], by simp -dsimp -implicitDefEqProofs [-getElem?_pos, go_sem], by simp -dsimp -implicitDefEqProofs [-getElem?_pos, go_sem], by simp -dsimp -implicitDefEqProofs [-getElem?_pos, go_sem, h0]⟩
  clear t1 h0 lt0 hk hm
  intro m s hs'
  rw [hJ] at hs'
  obtain ⟨k, hk, hm, hq, t1, t56, t57, t58, h0⟩ := hs'
  have lt0 := (List.getElem?_eq_some_iff.1 h0).1
  simp -dsimp -implicitDefEqProofs [-getElem?_pos, go_sem, hP, t57, t58]
  refine condP (fun hh => ?_) (fun hh => ?_)
  rotate_left
  · have hk : k = q.length := by simp at hh; omega
    subst hk
    rw [List.drop_length, presFrom] at hq
    simp -dsimp -implicitDefEqProofs [-getElem?_pos, go_sem, hP, good hq]
  have hk : k < q.length := by simpa using hh
  obtain ⟨c, hcc⟩ : ∃ c, q[k]? = some c := ⟨_, List.getElem?_eq_getElem hk⟩
  have wk := wrap_in ((k : Int) + 1) (by omega)
  rw [drop_get hcc, presFrom, show q.take k ++ [c] = q.take (k + 1) by rw [List.take_add_one, hcc]; rfl] at hq
  have e1 : (encL TPresented.cells q).take k = encL TPresented.cells (q.take k) := by simp [encL, List.map_take]
  have e2 : (q.take k).length = k := by simp; omega
  obtain ⟨T, hT⟩ : ∃ T, T = q.take k := ⟨_, rfl⟩
  rw [← hT] at e1 e2 hq
  clear hT
  have c1 : (0 : Int) ≤ (k : Int) ∧ (k : Int) ≤ (q.length : Int) := by omega
  obtain ⟨n, hn⟩ : ∃ n, n = s.H.length := ⟨_, rfl⟩
  simp -dsimp -implicitDefEqProofs [-getElem?_pos, go_sem, hP, t56, t58, hcc, cPr, t1, h0, lt0, asliceOp, bound, aslice, c1, e1]
  obtain ⟨K, hK⟩ : ∃ I : Nat → St → Prop, I = fun m s => ∃ (j : Nat), j ≤ k ∧ m = k - j ∧ s.t 1 = .ref 0 0 0 ∧ s.t 56 = presL q ∧ s.t 57 = iv q.length ∧ s.t 58 = iv k ∧ s.t 7 = .ref n 0 0 ∧ s.t 8 = iv ((versN (T.take j) c.Year : Int) + 1) ∧ s.t 66 = presL T ∧ s.t 67 = iv k ∧ s.t 68 = iv j ∧ s.H[0]? = some (some ⟨56, 3, [[postsL h.Ledger.Postings, presL q, corrsL l]]⟩) ∧ s.H[n]? = some (some ⟨62, 7, [[iv c.Year, iv c.Version, iv c.Statement.Assets, iv c.Statement.Liabilities, iv c.Statement.Worth, iv c.Statement.Revenue, iv c.Statement.Expense]]⟩) := ⟨_, rfl⟩
  refine aloop0 K (k) (by rw [hN]; rfl) ?_ ?_
  · rw [hK]
    exact ⟨0, by omega, by omega, by simp -dsimp -implicitDefEqProofs [-getElem?_pos, go_sem, t1], by simp -dsimp -implicitDefEqProofs [-getElem?_pos, go_sem, t56], by simp -dsimp -implicitDefEqProofs [-getElem?_pos, go_sem, t57], by simp -dsimp -implicitDefEqProofs [-getElem?_pos, go_sem, t58], by simp -dsimp -implicitDefEqProofs [-getElem?_pos, go_sem, hn], by simp -dsimp -implicitDefEqProofs [-getElem?_pos, go_sem]; rfl, by simp -dsimp -implicitDefEqProofs [-getElem?_pos, go_sem], by simp -dsimp -implicitDefEqProofs [-getElem?_pos, go_sem, e2], by simp -dsimp -implicitDefEqProofs [-getElem?_pos, go_sem], by simp -dsimp -implicitDefEqProofs [-getElem?_pos, go_sem, lt0, h0], by simp -dsimp -implicitDefEqProofs [-getElem?_pos, go_sem, hn]⟩
  clear t1 t56 t57 t58 h0 lt0 hn hh
  intro m s hs'
  rw [hK] at hs'
  obtain ⟨j, hj, hm2, t1, t56, t57, t58, t7, t8, t66, t67, t68, h0, hnn⟩ := hs'
  have lt0 := (List.getElem?_eq_some_iff.1 h0).1
  have ltn := (List.getElem?_eq_some_iff.1 hnn).1
  simp -dsimp -implicitDefEqProofs [-getElem?_pos, go_sem, hP, t67, t68]
  refine condP (fun hh => ?_) (fun hh => ?_)
  · have hj : j < k := by simpa using hh
    obtain ⟨x, hx⟩ : ∃ x, T[j]? = some x := ⟨_, List.getElem?_eq_getElem (by omega)⟩
    have wj := wrap_in ((j : Int) + 1) (by omega)
    have nx : versN (T.take (j + 1)) c.Year = versN (T.take j) c.Year + (if x.Year = c.Year then 1 else 0) := by rw [List.take_add_one, hx]; exact versN_snoc _ _ _
    have vl := versN_le (T.take j) c.Year
    rw [List.length_take] at vl
    have wv := wrap_in ((versN (T.take j) c.Year : Int) + 1 + 1) (by omega)
    by_cases h1 : x.Year = c.Year
    · rw [if_pos h1] at nx
      simp -dsimp -implicitDefEqProofs [-getElem?_pos, go_sem, hP, t66, t68, hx, cPr, t7, hnn, ltn, h1, t8, wv, wj]
      refine ⟨k - (j + 1), by omega, ?_⟩
      rw [hK]
      exact ⟨j + 1, by omega, rfl, by simp -dsimp -implicitDefEqProofs [-getElem?_pos, go_sem, t1], by simp -dsimp -implicitDefEqProofs [-getElem?_pos, go_sem, t56], by simp -dsimp -implicitDefEqProofs [-getElem?_pos, go_sem, t57], by simp -dsimp -implicitDefEqProofs [-getElem?_pos, go_sem, t58], by simp -dsimp -implicitDefEqProofs [-getElem?_pos, go_sem, t7], by rw [nx]; simp -dsimp -implicitDefEqProofs [-getElem?_pos, go_sem], by simp -dsimp -implicitDefEqProofs [-getElem?_pos, go_sem, t66], by simp -dsimp -implicitDefEqProofs [-getElem?_pos, go_sem, t67], by simp -dsimp -implicitDefEqProofs [-getElem?_pos, go_sem], by simp -dsimp -implicitDefEqProofs [-getElem?_pos, go_sem, lt0, h0], by simp -dsimp -implicitDefEqProofs [-getElem?_pos, go_sem, ltn, hnn]⟩
    · rw [if_neg h1] at nx
      have d1 : decide (x.Year = c.Year) = false := decide_eq_false h1
      simp -dsimp -implicitDefEqProofs [-getElem?_pos, go_sem, hP, t66, t68, hx, cPr, t7, hnn, ltn, d1, wj]
      refine ⟨k - (j + 1), by omega, ?_⟩
      rw [hK]
      exact ⟨j + 1, by omega, rfl, by simp -dsimp -implicitDefEqProofs [-getElem?_pos, go_sem, t1], by simp -dsimp -implicitDefEqProofs [-getElem?_pos, go_sem, t56], by simp -dsimp -implicitDefEqProofs [-getElem?_pos, go_sem, t57], by simp -dsimp -implicitDefEqProofs [-getElem?_pos, go_sem, t58], by simp -dsimp -implicitDefEqProofs [-getElem?_pos, go_sem, t7], by rw [nx]; simp -dsimp -implicitDefEqProofs [-getElem?_pos, go_sem, t8], by simp -dsimp -implicitDefEqProofs [-getElem?_pos, go_sem, t66], by simp -dsimp -implicitDefEqProofs [-getElem?_pos, go_sem, t67], by simp -dsimp -implicitDefEqProofs [-getElem?_pos, go_sem], by simp -dsimp -implicitDefEqProofs [-getElem?_pos, go_sem, lt0, h0], by simp -dsimp -implicitDefEqProofs [-getElem?_pos, go_sem, ltn, hnn]⟩
  have hj : j = k := by simp at hh; omega
  subst hj
  rw [List.take_of_length_le (by omega)] at t8
  simp -dsimp -implicitDefEqProofs [-getElem?_pos, go_sem, hP, t7, hnn, ltn]
  refine callB_pure (ryear_pf c.Year) hP en_92 (args_same (by simp -dsimp -implicitDefEqProofs [-getElem?_pos, go_sem])) .sc ?_
  cases b1 : yearB c.Year
  · rw [b1, Bool.false_and] at hq
    simp -dsimp -implicitDefEqProofs [-getElem?_pos, go_sem, hP, b1, bad hq]
  rw [b1, Bool.true_and] at hq
  by_cases b2 : c.Version = (versN T c.Year : Int) + 1
  · rw [decide_eq_true b2, Bool.true_and] at hq
    simp -dsimp -implicitDefEqProofs [-getElem?_pos, go_sem, hP, b1, t7, hnn, ltn, t8, b2, t58, wk]
    refine ⟨q.length - (j + 1), by omega, ?_⟩
    rw [hJ]
    exact ⟨j + 1, by omega, rfl, hq, by simp -dsimp -implicitDefEqProofs [-getElem?_pos, go_sem, t1], by simp -dsimp -implicitDefEqProofs [-getElem?_pos, go_sem, t56], by simp -dsimp -implicitDefEqProofs [-getElem?_pos, go_sem, t57], by simp -dsimp -implicitDefEqProofs [-getElem?_pos, go_sem], by simp -dsimp -implicitDefEqProofs [-getElem?_pos, go_sem, h0]⟩
  · rw [decide_eq_false b2, Bool.false_and] at hq
    have d2 := decide_eq_false b2
    simp -dsimp -implicitDefEqProofs [-getElem?_pos, go_sem, hP, b1, t7, hnn, ltn, t8, b2, d2, bad hq]
end Go.Proofs.Ytellcfkpfccgaaa
