/- Restatement: the reference's Present, Explained, Same. -/
import Derived.Test.YtellcfkpfccgaaaRes9
set_option linter.unusedSimpArgs false
set_option linter.unusedVariables false
namespace Go.Proofs.Ytellcfkpfccgaaa
open Go.PA
open Go.RowKit

set_option maxHeartbeats 1000000 in
theorem rExplained_pf (h : THistory) (n : Int) (hf : Fit h) : PFun Try.prog none none 53 [.agg h.cells, iv n] (· = bv (explainedH h n)) := by
  refine pfun_intro Try.func53 rfl (by simp [Try.f53]) (by kernel_rfl) ?_
  intro E hP hr hs hW hN
  have re := rRestated_pf h n hf
  have ef := rEffect_pf h n hf
  have ih := imm_his h
  have ip := imm_posts h.Ledger.Postings
  rw [cH] at re ef ih
  obtain ⟨S, hS⟩ : ∃ S, S = (restatedH h n).1 := ⟨_, rfl⟩
  obtain ⟨e, he⟩ : ∃ e, e = (restatedH h n).2 := ⟨_, rfl⟩
  obtain ⟨F, hF⟩ : ∃ F, F = (effectH h n).1 := ⟨_, rfl⟩
  obtain ⟨e', he'⟩ : ∃ e, e = (effectH h n).2 := ⟨_, rfl⟩
  rw [← hS, ← he] at re
  rw [← hF, ← he'] at ef
  have ee : e' = e := by
    rw [he, he', restatedH, effectH]
    repeat' split
    all_goals rfl
  subst ee
  simp -dsimp -implicitDefEqProofs [-getElem?_pos, go_sem, hP, cH]
  refine callB_is (re.lift _ _) hP en_50 (by simp [imm_sc]; exact ih) (imm_pair (imm_st S) .sc) ?_
  simp -dsimp -implicitDefEqProofs [-getElem?_pos, go_sem, hP, cS]
  refine callB_is (ef.lift _ _) hP en_52 (by simp [imm_sc]; exact ih) (imm_pair .sc .sc) ?_
  by_cases c1 : e' = 0
  rotate_left
  · have : explainedH h n = false := by
      rw [he, restatedH] at c1
      unfold explainedH
      by_cases k1 : checkH h = 0
      · rw [if_pos k1] at c1
        cases k2 : yearB n
        · rw [Bool.and_false]
        · rw [k2, if_pos rfl] at c1; exact absurd rfl c1
      · rw [decide_eq_false k1]; rfl
    simp -dsimp -implicitDefEqProofs [-getElem?_pos, go_sem, hP, c1, this]
  have k1 : checkH h = 0 := by
    by_cases k1 : checkH h = 0
    · exact k1
    · rw [he, restatedH, if_neg k1] at c1; exact c1
  have k2 : yearB n = true := by
    cases k2 : yearB n
    · rw [he, restatedH, if_pos k1, if_neg (by simp [k2])] at c1; cases c1
    · rfl
  have : explainedH h n = true := by rw [explainedH, decide_eq_true k1, k2]; rfl
  rw [this]
  have hS' : S = restL h n := by rw [hS, restatedH, if_pos k1, if_pos k2]
  have hF' : F = -resP (effP h n) := by rw [hF, effectH, if_pos k1, if_pos k2]
  have hn := betw_iff.1 k2
  have w1 := wrap_in (360 * n) (by omega)
  have w2 := wrap_in (360 * n + 359) (by omega)
  have f2 : FineL h.Ledger.Postings := checkL_fine (checkH_ok k1).1
  have f1 : FineL (restP h n) := fine_ok (restP_ok k1 n).1 (by have := (restP_ok k1 n).2; omega)
  have st := rstatement_pf h.Ledger 0 (360 * n) (360 * n + 359) hf.post
  rw [statement_good (checkH_ok k1).1 (by omega) (by omega) (by omega), cL] at st
  simp only at st
  have ex := explain k1 n
  rw [← hS', ← hF'] at ex
  have b1 := sumsL_bound f1 0 (360 * n) (360 * n + 359)
  rw [show sumsL (restP h n) 0 (360 * n) (360 * n + 359) = S from hS'.symm] at b1
  have b2 := sumsL_bound f2 0 (360 * n) (360 * n + 359)
  have b3 := resP_bound k1 n
  rw [show resP (effP h n) = -F by rw [hF']; omega] at b3
  generalize sumsL h.Ledger.Postings 0 (360 * n) (360 * n + 359) = T at st ex b2
  have w3 := wrap_in (S.Revenue - S.Expense) (by omega)
  have w4 := wrap_in (T.Revenue - T.Expense) (by omega)
  have w5 := wrap_in (T.Revenue - T.Expense + F) (by omega)
  have dd : decide (S.Revenue - S.Expense = T.Revenue - T.Expense + F) = true := decide_eq_true ex
  simp -dsimp -implicitDefEqProofs [-getElem?_pos, go_sem, hP, c1, w1, w2]
  refine callB_is (st.lift _ _) hP en_34 (by simp [imm_sc, imm_agg, ip]) (imm_pair (imm_st T) .sc) ?_
  simp -dsimp -implicitDefEqProofs [-getElem?_pos, go_sem, hP, cS, w3, w4, w5, dd]

set_option maxHeartbeats 1000000 in
theorem rPresent_pf (h : THistory) (n : Int) (hf : Fit h) : PFun Try.prog none none 49 [.agg h.cells, iv n] (· = .tup [.agg (presentH h n).1.cells, .agg (presentH h n).2.1.cells, iv (presentH h n).2.2]) := by
  refine pfun_intro Try.func49 rfl (by simp [Try.f49]) (by kernel_rfl) ?_
  intro E hP hr hs hW hN
  have re := rRestated_pf h n hf
  have ih := imm_his h
  have ip := imm_posts h.Ledger.Postings
  have i2 := imm_pres h.Presented
  have i3 := imm_corrs h.Corrections
  rw [cH] at re ih
  obtain ⟨S, hS⟩ : ∃ S, S = (restatedH h n).1 := ⟨_, rfl⟩
  obtain ⟨e, he⟩ : ∃ e, e = (restatedH h n).2 := ⟨_, rfl⟩
  rw [← hS, ← he] at re
  simp -dsimp -implicitDefEqProofs [-getElem?_pos, go_sem, hP, cH]
  refine callB_is (re.lift _ _) hP en_50 (by simp [imm_sc]; exact ih) (imm_pair (imm_st S) .sc) ?_
  by_cases c1 : e = 0
  rotate_left
  · have : presentH h n = (zeroH, zeroP, e) := by
      rw [presentH, he]
      rw [he, restatedH] at c1
      rw [restatedH]
      by_cases k1 : checkH h = 0
      · rw [if_pos k1] at c1
        rw [if_pos k1, if_pos k1]
        by_cases k2 : yearB n = true
        · rw [if_pos k2] at c1; exact absurd rfl c1
        · rw [if_neg k2, if_neg k2]
      · rw [if_neg k1, if_neg k1]
    simp -dsimp -implicitDefEqProofs [-getElem?_pos, go_sem, hP, cS, c1]
    refine done_zeroH3 ?_
    rw [this]
  have k1 : checkH h = 0 := by
    by_cases k1 : checkH h = 0
    · exact k1
    · rw [he, restatedH, if_neg k1] at c1; exact c1
  have k2 : yearB n = true := by
    cases k2 : yearB n
    · rw [he, restatedH, if_pos k1, if_neg (by simp [k2])] at c1; cases c1
    · rfl
  have hS' : S = restL h n := by rw [hS, restatedH, if_pos k1, if_pos k2]
  have pl := (checkH_ok k1).2.2.1
  by_cases c2 : h.Presented.length = 20
  · have : presentH h n = (zeroH, zeroP, 3) := by rw [presentH, if_pos k1, if_pos k2, if_pos c2]
    simp -dsimp -implicitDefEqProofs [-getElem?_pos, go_sem, hP, cS, c1, c2]
    refine done_zeroH3 ?_
    rw [this]
  have d2 : decide ((h.Presented.length : Int) = 20) = false := decide_eq_false (by omega)
  have this : presentH h n = (⟨h.Ledger, h.Presented ++ [nextP h n], h.Corrections⟩, nextP h n, 0) := by rw [presentH, if_pos k1, if_pos k2, if_neg c2]
  rw [this]
  obtain ⟨l, hl⟩ : ∃ l, l = h.Presented := ⟨_, rfl⟩
  obtain ⟨P, hPP⟩ : ∃ P : TPresented, P = nextP h n := ⟨_, rfl⟩
  have hP' : P = ⟨n, (versN l n : Int) + 1, S⟩ := by rw [hPP, nextP, hS', hl]
  rw [← hPP]
  rw [← hl] at d2 pl i2 ih ⊢
  simp -dsimp -implicitDefEqProofs [-getElem?_pos, go_sem, hP, cS, c1, ← hl, d2]
  obtain ⟨I, hI⟩ : ∃ I : Nat → St → Prop, I = fun m s => ∃ (k : Nat), k ≤ l.length ∧ m = l.length - k ∧ s.t 1 = iv n ∧ s.t 2 = .ref 0 0 0 ∧ s.t 4 = .ref 1 0 0 ∧ s.t 5 = .ref 2 0 0 ∧ s.t 9 = .ref 4 0 0 ∧ s.t 33 = presL l ∧ s.t 34 = iv l.length ∧ s.t 35 = iv k ∧ s.H[0]? = some (some ⟨56, 3, [[postsL h.Ledger.Postings, presL l, corrsL h.Corrections]]⟩) ∧ s.H[1]? = some (some ⟨56, 3, [[.nil, .nil, .nil]]⟩) ∧ s.H[2]? = some (some ⟨62, 7, [[iv 0, iv 0, iv 0, iv 0, iv 0, iv 0, iv 0]]⟩) ∧ s.H[4]? = some (some ⟨62, 7, [[iv n, iv ((versN (l.take k) n : Int) + 1), iv S.Assets, iv S.Liabilities, iv S.Worth, iv S.Revenue, iv S.Expense]]⟩) := ⟨_, rfl⟩
  refine aloop0 I (l.length) (by rw [hN]; rfl) ?_ ?_
  · rw [hI]
    exact ⟨0, by omega, by omega, by simp -dsimp -implicitDefEqProofs [-getElem?_pos, go_sem], by simp -dsimp -implicitDefEqProofs [-getElem?_pos, go_sem], by simp -dsimp -implicitDefEqProofs [-getElem?_pos, go_sem], by simp -dsimp -implicitDefEqProofs [-getElem?_pos, go_sem], by simp -dsimp -implicitDefEqProofs [-getElem?_pos, go_sem], by simp -dsimp -implicitDefEqProofs [-getElem?_pos, go_sem], by simp -dsimp -implicitDefEqProofs [-getElem?_pos, go_sem], by simp -dsimp -implicitDefEqProofs [-getElem?_pos, go_sem], by simp -dsimp -implicitDefEqProofs [-getElem?_pos, go_sem], by simp -dsimp -implicitDefEqProofs [-getElem?_pos, go_sem], by simp -dsimp -implicitDefEqProofs [-getElem?_pos, go_sem], by simp -dsimp -implicitDefEqProofs [-getElem?_pos, go_sem]; rfl⟩
  intro m s hs'
  rw [hI] at hs'
  obtain ⟨k, hk, hm, t1, t2, t4, t5, t9, t33, t34, t35, h0, h1, h2, h4⟩ := hs'
  have lt0 := (List.getElem?_eq_some_iff.1 h0).1
  have lt1 := (List.getElem?_eq_some_iff.1 h1).1
  have lt2 := (List.getElem?_eq_some_iff.1 h2).1
  have lt4 := (List.getElem?_eq_some_iff.1 h4).1
  simp -dsimp -implicitDefEqProofs [-getElem?_pos, go_sem, hP, t34, t35]
  refine condP (fun hh => ?_) (fun hh => ?_)
  · have hk : k < l.length := by simpa using hh
    obtain ⟨c, hcc⟩ : ∃ c, l[k]? = some c := ⟨_, List.getElem?_eq_getElem hk⟩
    have wk := wrap_in ((k : Int) + 1) (by omega)
    have nx : versN (l.take (k + 1)) n = versN (l.take k) n + (if c.Year = n then 1 else 0) := by rw [List.take_add_one, hcc]; exact versN_snoc _ _ _
    have vl := versN_le (l.take k) n
    rw [List.length_take] at vl
    have wv := wrap_in ((versN (l.take k) n : Int) + 1 + 1) (by omega)
    by_cases e1 : c.Year = n
    · rw [if_pos e1] at nx
      simp -dsimp -implicitDefEqProofs [-getElem?_pos, go_sem, hP, t33, t35, hcc, cPr, t1, e1, t9, h4, lt4, wv, wk]
      refine ⟨l.length - (k + 1), by omega, ?_⟩
      rw [hI]
      exact ⟨k + 1, by omega, rfl, by simp -dsimp -implicitDefEqProofs [-getElem?_pos, go_sem, t1], by simp -dsimp -implicitDefEqProofs [-getElem?_pos, go_sem, t2], by simp -dsimp -implicitDefEqProofs [-getElem?_pos, go_sem, t4], by simp -dsimp -implicitDefEqProofs [-getElem?_pos, go_sem, t5], by simp -dsimp -implicitDefEqProofs [-getElem?_pos, go_sem, t9], by simp -dsimp -implicitDefEqProofs [-getElem?_pos, go_sem, t33], by simp -dsimp -implicitDefEqProofs [-getElem?_pos, go_sem, t34], by simp -dsimp -implicitDefEqProofs [-getElem?_pos, go_sem], by simp -dsimp -implicitDefEqProofs [-getElem?_pos, go_sem, lt0, h0], by simp -dsimp -implicitDefEqProofs [-getElem?_pos, go_sem, lt1, h1], by simp -dsimp -implicitDefEqProofs [-getElem?_pos, go_sem, lt2, h2], by rw [nx]; simp -dsimp -implicitDefEqProofs [-getElem?_pos, go_sem, lt4]⟩
    · rw [if_neg e1] at nx
      have d1 := decide_eq_false e1
      simp -dsimp -implicitDefEqProofs [-getElem?_pos, go_sem, hP, t33, t35, hcc, cPr, t1, d1, wk]
      refine ⟨l.length - (k + 1), by omega, ?_⟩
      rw [hI]
      exact ⟨k + 1, by omega, rfl, by simp -dsimp -implicitDefEqProofs [-getElem?_pos, go_sem, t1], by simp -dsimp -implicitDefEqProofs [-getElem?_pos, go_sem, t2], by simp -dsimp -implicitDefEqProofs [-getElem?_pos, go_sem, t4], by simp -dsimp -implicitDefEqProofs [-getElem?_pos, go_sem, t5], by simp -dsimp -implicitDefEqProofs [-getElem?_pos, go_sem, t9], by simp -dsimp -implicitDefEqProofs [-getElem?_pos, go_sem, t33], by simp -dsimp -implicitDefEqProofs [-getElem?_pos, go_sem, t34], by simp -dsimp -implicitDefEqProofs [-getElem?_pos, go_sem], by simp -dsimp -implicitDefEqProofs [-getElem?_pos, go_sem, lt0, h0], by simp -dsimp -implicitDefEqProofs [-getElem?_pos, go_sem, lt1, h1], by simp -dsimp -implicitDefEqProofs [-getElem?_pos, go_sem, lt2, h2], by rw [nx]; simp -dsimp -implicitDefEqProofs [-getElem?_pos, go_sem, lt4, h4]⟩
  · have hk : k = l.length := by simp at hh; omega
    subst hk
    rw [List.take_length] at h4
    have cPP : P.cells = [iv n, iv ((versN l n : Int) + 1), iv S.Assets, iv S.Liabilities, iv S.Worth, iv S.Revenue, iv S.Expense] := by rw [hP']; rfl
    have en : encL TPresented.cells l ++ [[iv n, iv ((versN l n : Int) + 1), iv S.Assets, iv S.Liabilities, iv S.Worth, iv S.Revenue, iv S.Expense]] = encL TPresented.cells (l ++ [P]) := by rw [← cPP]; exact encL_snoc TPresented.cells l P
    simp -dsimp -implicitDefEqProofs [-getElem?_pos, go_sem, hP]
    refine adrawB (fun i => decide (i = 0) || decide (i = 4)) [7] hP (by kernel_rfl) (by kernel_rfl) ?_
    simp -dsimp -implicitDefEqProofs [-getElem?_pos, go_sem, hP, restr_get, t2, h0, lt0, t9, h4, lt4, en]
    have aD : ∀ l l', Agree (fun i => decide (i = 0) || decide (i = 4)) (s.H ++ l) (s.H ++ l') := fun l l' i hi => by
      simp only [Bool.or_eq_true, decide_eq_true_eq] at hi
      rcases hi with rfl | rfl
      · rw [List.getElem?_append_left lt0, List.getElem?_append_left lt0]
      · rw [List.getElem?_append_left lt4, List.getElem?_append_left lt4]
    refine ⟨by omega, by omega, by have := aD [] [some ⟨62, 7, encL TPresented.cells l⟩]; rwa [List.append_nil] at this, by omega, by omega, aD _ _, ?_⟩
    obtain ⟨H5, hH5⟩ : ∃ H5 : Heap, H5 = s.H.set 0 (some ⟨56, 3, [[postsL h.Ledger.Postings, .sref (s.H.length + 1) 0 (l.length + 1), corrsL h.Corrections]]⟩) ++ [none, some ⟨62, 7, encL TPresented.cells (l ++ [P])⟩] := ⟨_, rfl⟩
    have f0 : H5[0]? = some (some ⟨56, 3, [[postsL h.Ledger.Postings, .sref (s.H.length + 1) 0 (l.length + 1), corrsL h.Corrections]]⟩) := by rw [hH5, List.getElem?_append_left (by simp; omega), List.getElem?_set_self lt0]
    have f1 : H5[1]? = some (some ⟨56, 3, [[.nil, .nil, .nil]]⟩) := by rw [hH5, List.getElem?_append_left (by simp; omega), List.getElem?_set_ne (by omega), h1]
    have f2 : H5[2]? = some (some ⟨62, 7, [[iv 0, iv 0, iv 0, iv 0, iv 0, iv 0, iv 0]]⟩) := by rw [hH5, List.getElem?_append_left (by simp; omega), List.getElem?_set_ne (by omega), h2]
    have f4 : H5[4]? = some (some ⟨62, 7, [[iv n, iv ((versN l n : Int) + 1), iv S.Assets, iv S.Liabilities, iv S.Worth, iv S.Revenue, iv S.Expense]]⟩) := by rw [hH5, List.getElem?_append_left (by simp; omega), List.getElem?_set_ne (by omega), h4]
    have fq : H5[s.H.length + 1]? = some (some ⟨62, 7, encL TPresented.cells (l ++ [P])⟩) := by rw [hH5, List.getElem?_append_right (by simp)]; simp
    rw [← hH5]
    clear hH5 aD
    have m0 := (List.getElem?_eq_some_iff.1 f0).1
    have m1 := (List.getElem?_eq_some_iff.1 f1).1
    have m2 := (List.getElem?_eq_some_iff.1 f2).1
    have m4 := (List.getElem?_eq_some_iff.1 f4).1
    refine adrawB (fun i => decide (i = 0) || decide (i = 4)) [] hP (by kernel_rfl) (by kernel_rfl) ?_
    simp -dsimp -implicitDefEqProofs [-getElem?_pos, go_sem, hP, t2, t4, t5, t9, f0, m0, f1, m1, f2, m2, f4, m4]
    have k0 : ∀ i, (decide (i = 0) || decide (i = 4)) = true → i ≠ 1 ∧ i ≠ 2 := fun i hi => by
      simp only [Bool.or_eq_true, decide_eq_true_eq] at hi
      omega
    refine ⟨fun i hi => ?_, fun i hi => ?_, ?_⟩
    · rw [List.getElem?_set_ne (k0 i hi).1.symm]
    · rw [List.getElem?_set_ne (k0 i hi).2.symm]
    refine done_agg3 (cs' := (THistory.mk h.Ledger (l ++ [P]) h.Corrections).cells) (cw_imm ip (cw_sref (ty := 62) (k := 7) (es := encL TPresented.cells (l ++ [P])) ?_ (by rw [encL_len]; simp) (imm_pres _) (cw_imm i3 .nil))) (by rw [← cPP]; exact imm_prs P) (by rw [← cPP])
    rw [List.getElem?_set_ne (by omega), List.getElem?_set_ne (by omega), fq]
end Go.Proofs.Ytellcfkpfccgaaa
