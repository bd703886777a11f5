/- Restatement: what is restated, and effects. -/
import Derived.Test.YtellcfkpfccgaaaRes3
set_option linter.unusedSimpArgs false
set_option linter.unusedVariables false
namespace Go.Proofs.Ytellcfkpfccgaaa
open Go.PA
open Go.RowKit

theorem cS (S : TStatement) : S.cells = [iv S.Assets, iv S.Liabilities, iv S.Worth, iv S.Revenue, iv S.Expense] := rfl
theorem flat_st (S : TStatement) : Flat (.agg S.cells) := by rw [cS]; simp [flat_agg, flat_sc]
theorem corrP_take {f : TCorrection → Bool} {l : List TCorrection} {k : Nat} {c : TCorrection} (h : l[k]? = some c) : corrP f (l.take (k + 1)) = corrP f (l.take k) ++ (if f c = true then c.Postings else []) := by
  rw [List.take_add_one, h]
  exact corrP_snoc _ _ _
theorem encL_app {α : Type} (enc : α → List AV) (l m : List α) : encL enc l ++ encL enc m = encL enc (l ++ m) := by simp [encL]

set_option maxHeartbeats 1000000 in
theorem restd_pf (h : THistory) (n : Int) (hf : Fit h) (fl : FineL (restP h n)) (hn : yearB n = true) : PFun Try.prog none none 86 [.agg h.cells, iv n] (· = .agg (restL h n).cells) := by
  refine pfun_intro Try.func86 rfl (by simp [Try.f86]) (by kernel_rfl) ?_
  intro E hP hr hs hW hN
  have hn := betw_iff.1 hn
  have w1 := wrap_in (360 * n) (by omega)
  have w2 := wrap_in (360 * n + 359) (by omega)
  have ip := imm_posts h.Ledger.Postings
  have i2 := imm_pres h.Presented
  have i3 := imm_corrs h.Corrections
  have lc := hf.corr
  have lp := hf.post
  have su := sums_pf (restP h n) 0 (360 * n) (360 * n + 359) fl (by omega)
  obtain ⟨S, hS⟩ : ∃ S, S = restL h n := ⟨_, rfl⟩
  have hS' : sumsL (restP h n) 0 (360 * n) (360 * n + 359) = S := hS.symm
  rw [hS'] at su
  rw [← hS]
  obtain ⟨f, hff⟩ : ∃ f : TCorrection → Bool, f = fun c => decide (c.Year ≤ n) := ⟨_, rfl⟩
  obtain ⟨P, hPP⟩ : ∃ P : Nat → List TPosting, P = fun k => h.Ledger.Postings ++ corrP f (h.Corrections.take k) := ⟨_, rfl⟩
  have P0 : P 0 = h.Ledger.Postings := by rw [hPP]; simp [corrP]
  have Pn : P h.Corrections.length = restP h n := by rw [hPP, hff]; simp [restP]
  have Ps : ∀ k c, h.Corrections[k]? = some c → P (k + 1) = P k ++ (if f c = true then c.Postings else []) := fun k c hc => by
    rw [hPP]
    dsimp only
    rw [corrP_take hc, List.append_assoc]
  have each := hf.each
  obtain ⟨l, hlc⟩ : ∃ l, l = h.Corrections := ⟨_, rfl⟩
  have lenP : ∀ k, k ≤ l.length → (P k).length ≤ 100000 + 100000 * k := fun k => by
    induction k with
    | zero => intro _; rw [P0]; omega
    | succ k ih =>
      intro hk
      have ih := ih (by omega)
      obtain ⟨c, hc⟩ : ∃ c, h.Corrections[k]? = some c := ⟨_, List.getElem?_eq_getElem (by rw [← hlc]; omega)⟩
      have := each c (List.mem_of_getElem? hc)
      rw [Ps k c hc, List.length_append]
      split
      · omega
      · simp; omega
  simp -dsimp -implicitDefEqProofs [-getElem?_pos, go_sem, hP, cH]
  obtain ⟨H2, hH2⟩ : ∃ H2 : Heap, H2 = [some ⟨56, 3, [[postsL h.Ledger.Postings, presL h.Presented, corrsL h.Corrections]]⟩, some ⟨48, 5, [[iv 0, iv 0, iv 0, iv 0, iv 0]]⟩] := ⟨_, rfl⟩
  have b0 : H2[0]? = some (some ⟨56, 3, [[postsL h.Ledger.Postings, presL h.Presented, corrsL h.Corrections]]⟩) := by rw [hH2]; rfl
  have b1 : H2[1]? = some (some ⟨48, 5, [[iv 0, iv 0, iv 0, iv 0, iv 0]]⟩) := by rw [hH2]; rfl
  have l2 : H2.length = 2 := by rw [hH2]; rfl
  simp only [← hH2]
  refine callB_m (by rw [hr, hs]; exact clone_m_posting h.Ledger.Postings H2 (by omega)) hP en_75 ?_
  rintro r H3 ⟨id, rfl, hid, ho3, hk3⟩
  have e0 := hk3 _ _ (by simp) b0
  have e1 := hk3 _ _ (by simp) b1
  have n0 := (List.getElem?_eq_some_iff.1 e0).1
  have n1 := (List.getElem?_eq_some_iff.1 e1).1
  have n3 := (List.getElem?_eq_some_iff.1 ho3).1
  rw [← P0] at ho3
  have lz : h.Ledger.Postings.length = (P 0).length := by rw [P0]
  rw [l2] at hid
  clear hk3 hH2 b0 b1 l2
  rw [← hlc] at e0 Ps Pn lc each i3
  simp -dsimp -implicitDefEqProofs [-getElem?_pos, go_sem, hP, e0, n0, lz]
  obtain ⟨I, hI⟩ : ∃ I : Nat → St → Prop, I = fun m s => ∃ (k id : Nat), k ≤ l.length ∧ m = l.length - k ∧ 2 ≤ id ∧ s.t 1 = iv n ∧ s.t 4 = .ref 1 0 0 ∧ s.t 13 = corrsL l ∧ s.t 14 = iv l.length ∧ s.t 15 = iv k ∧ s.t 5 = .sref id 0 (P k).length ∧ s.H[1]? = some (some ⟨48, 5, [[iv 0, iv 0, iv 0, iv 0, iv 0]]⟩) ∧ s.H[id]? = some (some ⟨37, 8, encL TPosting.cells (P k)⟩) := ⟨_, rfl⟩
  refine aloop0 I (l.length) (by rw [hN]; rfl) ?_ ?_
  · rw [hI]
    exact ⟨0, id, by omega, by omega, hid, by simp -dsimp -implicitDefEqProofs [-getElem?_pos, go_sem], by simp -dsimp -implicitDefEqProofs [-getElem?_pos, go_sem], by simp -dsimp -implicitDefEqProofs [-getElem?_pos, go_sem], by simp -dsimp -implicitDefEqProofs [-getElem?_pos, go_sem], by simp -dsimp -implicitDefEqProofs [-getElem?_pos, go_sem], by simp -dsimp -implicitDefEqProofs [-getElem?_pos, go_sem], by simp -dsimp -implicitDefEqProofs [-getElem?_pos, go_sem, e1], by simp -dsimp -implicitDefEqProofs [-getElem?_pos, go_sem, ho3]⟩
  clear e0 e1 n0 n1 n3 ho3 hid
  intro m s hs'
  rw [hI] at hs'
  obtain ⟨k, id, hk, hm, hid, t1, t4, t13, t14, t15, t5, h1, ho⟩ := hs'
  have lt1 := (List.getElem?_eq_some_iff.1 h1).1
  have lto := (List.getElem?_eq_some_iff.1 ho).1
  have pk := lenP k hk
  simp -dsimp -implicitDefEqProofs [-getElem?_pos, go_sem, hP, t14, t15]
  refine condP (fun h => ?_) (fun h => ?_)
  · have hk : k < l.length := by simpa using h
    obtain ⟨c, hcc⟩ : ∃ c, l[k]? = some c := ⟨_, List.getElem?_eq_getElem hk⟩
    have wk := wrap_in ((k : Int) + 1) (by omega)
    have nx := Ps k c hcc
    have ec := each c (List.mem_of_getElem? hcc)
    have hfc : f c = decide (c.Year ≤ n) := by rw [hff]
    rw [hfc] at nx
    have ne1 : ¬ id = 1 := by omega
    by_cases c1 : c.Year ≤ n
    · rw [if_pos (by simpa using c1)] at nx
      have d1 : decide (c.Year ≤ n) = true := decide_eq_true c1
      simp -dsimp -implicitDefEqProofs [-getElem?_pos, go_sem, hP, t13, t15, hcc, cC, t1, d1, t5, ho, lto, wk]
      refine ⟨by omega, by omega, ?_⟩
      refine ⟨l.length - (k + 1), by omega, ?_⟩
      rw [hI]
      exact ⟨k + 1, s.H.length + 1, by omega, rfl, by omega, by simp -dsimp -implicitDefEqProofs [-getElem?_pos, go_sem, t1], by simp -dsimp -implicitDefEqProofs [-getElem?_pos, go_sem, t4], by simp -dsimp -implicitDefEqProofs [-getElem?_pos, go_sem, t13], by simp -dsimp -implicitDefEqProofs [-getElem?_pos, go_sem, t14], by simp -dsimp -implicitDefEqProofs [-getElem?_pos, go_sem], by rw [nx, List.length_append]; simp -dsimp -implicitDefEqProofs [-getElem?_pos, go_sem], by simp -dsimp -implicitDefEqProofs [-getElem?_pos, go_sem, lt1, h1, ne1], by rw [nx, ← encL_app]; simp -dsimp -implicitDefEqProofs [-getElem?_pos, go_sem]⟩
    · rw [if_neg (by simpa using c1), List.append_nil] at nx
      have d1 : decide (c.Year ≤ n) = false := decide_eq_false c1
      simp -dsimp -implicitDefEqProofs [-getElem?_pos, go_sem, hP, t13, t15, hcc, cC, t1, d1, wk]
      refine ⟨l.length - (k + 1), by omega, ?_⟩
      rw [hI]
      exact ⟨k + 1, id, by omega, rfl, by omega, by simp -dsimp -implicitDefEqProofs [-getElem?_pos, go_sem, t1], by simp -dsimp -implicitDefEqProofs [-getElem?_pos, go_sem, t4], by simp -dsimp -implicitDefEqProofs [-getElem?_pos, go_sem, t13], by simp -dsimp -implicitDefEqProofs [-getElem?_pos, go_sem, t14], by simp -dsimp -implicitDefEqProofs [-getElem?_pos, go_sem], by rw [nx]; simp -dsimp -implicitDefEqProofs [-getElem?_pos, go_sem, t5], by simp -dsimp -implicitDefEqProofs [-getElem?_pos, go_sem, lt1, h1], by rw [nx]; simp -dsimp -implicitDefEqProofs [-getElem?_pos, go_sem, lto, ho]⟩
  · have hk : k = l.length := by simp at h; omega
    subst hk
    rw [Pn] at t5 ho
    simp -dsimp -implicitDefEqProofs [-getElem?_pos, go_sem, hP, t5, t1, w1, w2]
    refine callB_pure su hP en_77 (args_sref ho (by rw [encL_len]) (imm_posts _) (args_same (by simp -dsimp -implicitDefEqProofs [-getElem?_pos, go_sem]))) (flat_st S) ?_
    simp -dsimp -implicitDefEqProofs [-getElem?_pos, go_sem, hP, t4, h1, lt1, cS]
    exact done_imm (imm_agg.2 S.imm) rfl

set_option maxHeartbeats 1000000 in
theorem eff_pf (h : THistory) (n : Int) (hf : Fit h) (hh : checkH h = 0) : PFun Try.prog none none 90 [.agg h.cells, iv n] (· = iv (-resP (effP h n))) := by
  refine pfun_intro Try.func90 rfl (by simp [Try.f90]) (by kernel_rfl) ?_
  intro E hP hr hs hW hN
  have ip := imm_posts h.Ledger.Postings
  have i2 := imm_pres h.Presented
  have i3 := imm_corrs h.Corrections
  have lc := hf.corr
  obtain ⟨ok1, ok2⟩ := corrP_ok hh fun c => decide (c.Year = n)
  have su := sums_pf (effP h n) 0 0 36000 (fine_ok ok1 (by show (effP h n).length ≤ 9000; unfold effP; omega)) (by omega)
  have net := effP_net hh n
  have bd := netP_bound (fun b => decide (classI b = 4 ∨ classI b = 5)) (fun _ => true) (effP h n) fun p hp => (ok1 p hp).fine
  have bd2 : (effP h n).length ≤ 400 := ok2
  have bd3 : -400000000000000 ≤ resP (effP h n) ∧ resP (effP h n) ≤ 400000000000000 := by
    show _ ≤ netP _ _ (effP h n) ∧ netP _ _ (effP h n) ≤ _
    omega
  generalize resP (effP h n) = R at net bd3
  generalize sumsL (effP h n) 0 0 36000 = S at su net
  have wS : IntKind.i64.wrap (S.Revenue - S.Expense) = -R := by rw [net]; exact wrap_in _ (by omega)
  obtain ⟨f, hff⟩ : ∃ f : TCorrection → Bool, f = fun c => decide (c.Year = n) := ⟨_, rfl⟩
  have Pn : corrP f (h.Corrections.take h.Corrections.length) = effP h n := by rw [hff]; simp [effP]
  have each := hf.each
  obtain ⟨l, hlc⟩ : ∃ l, l = h.Corrections := ⟨_, rfl⟩
  have lenP : ∀ k, k ≤ l.length → (corrP f (l.take k)).length ≤ 100000 * k := fun k => by
    induction k with
    | zero => intro _; simp [corrP]
    | succ k ih =>
      intro hk
      have ih := ih (by omega)
      obtain ⟨c, hc⟩ : ∃ c, l[k]? = some c := ⟨_, List.getElem?_eq_getElem (by omega)⟩
      have := each c (by rw [← hlc]; exact List.mem_of_getElem? hc)
      rw [corrP_take hc, List.length_append]
      split
      · omega
      · simp; omega
  rw [← hlc] at Pn lc each i3
  simp -dsimp -implicitDefEqProofs [-getElem?_pos, go_sem, hP, cH, ← hlc]
  refine aloop_own 5 37 8 (by simp -dsimp -implicitDefEqProofs [-getElem?_pos, go_sem]) ?_
  obtain ⟨I, hI⟩ : ∃ I : Nat → St → Prop, I = fun m s => ∃ (k id : Nat), k ≤ l.length ∧ m = l.length - k ∧ s.t 1 = iv n ∧ s.t 10 = corrsL l ∧ s.t 11 = iv l.length ∧ s.t 12 = iv k ∧ s.t 5 = .sref id 0 (corrP f (l.take k)).length ∧ s.H[id]? = some (some ⟨37, 8, encL TPosting.cells (corrP f (l.take k))⟩) := ⟨_, rfl⟩
  refine aloop0 I (l.length) (by rw [hN]; rfl) ?_ ?_
  · rw [hI]
    exact ⟨0, 1, by omega, by omega, by simp -dsimp -implicitDefEqProofs [-getElem?_pos, go_sem], by simp -dsimp -implicitDefEqProofs [-getElem?_pos, go_sem], by simp -dsimp -implicitDefEqProofs [-getElem?_pos, go_sem], by simp -dsimp -implicitDefEqProofs [-getElem?_pos, go_sem], by simp -dsimp -implicitDefEqProofs [-getElem?_pos, go_sem, corrP], by simp -dsimp -implicitDefEqProofs [-getElem?_pos, go_sem, corrP]⟩
  intro m s hs'
  rw [hI] at hs'
  obtain ⟨k, id, hk, hm, t1, t10, t11, t12, t5, ho⟩ := hs'
  have lto := (List.getElem?_eq_some_iff.1 ho).1
  have pk := lenP k hk
  simp -dsimp -implicitDefEqProofs [-getElem?_pos, go_sem, hP, t11, t12]
  refine condP (fun h => ?_) (fun h => ?_)
  · have hk : k < l.length := by simpa using h
    obtain ⟨c, hcc⟩ : ∃ c, l[k]? = some c := ⟨_, List.getElem?_eq_getElem hk⟩
    have wk := wrap_in ((k : Int) + 1) (by omega)
    have nx := corrP_take (f := f) hcc
    have ec := each c (List.mem_of_getElem? hcc)
    have hfc : f c = decide (c.Year = n) := by rw [hff]
    rw [hfc] at nx
    by_cases c1 : c.Year = n
    · rw [if_pos (by simpa using c1)] at nx
      simp -dsimp -implicitDefEqProofs [-getElem?_pos, go_sem, hP, t10, t12, hcc, cC, t1, c1, t5, ho, lto, wk]
      refine ⟨by omega, by omega, ?_⟩
      refine ⟨l.length - (k + 1), by omega, ?_⟩
      rw [hI]
      exact ⟨k + 1, s.H.length + 1, by omega, rfl, by simp -dsimp -implicitDefEqProofs [-getElem?_pos, go_sem, t1], by simp -dsimp -implicitDefEqProofs [-getElem?_pos, go_sem, t10], by simp -dsimp -implicitDefEqProofs [-getElem?_pos, go_sem, t11], by simp -dsimp -implicitDefEqProofs [-getElem?_pos, go_sem], by rw [nx, List.length_append]; simp -dsimp -implicitDefEqProofs [-getElem?_pos, go_sem], by rw [nx, ← encL_app]; simp -dsimp -implicitDefEqProofs [-getElem?_pos, go_sem]⟩
    · rw [if_neg (by simpa using c1), List.append_nil] at nx
      have d1 : decide (c.Year = n) = false := decide_eq_false c1
      simp -dsimp -implicitDefEqProofs [-getElem?_pos, go_sem, hP, t10, t12, hcc, cC, t1, d1, wk]
      refine ⟨l.length - (k + 1), by omega, ?_⟩
      rw [hI]
      exact ⟨k + 1, id, by omega, rfl, by simp -dsimp -implicitDefEqProofs [-getElem?_pos, go_sem, t1], by simp -dsimp -implicitDefEqProofs [-getElem?_pos, go_sem, t10], by simp -dsimp -implicitDefEqProofs [-getElem?_pos, go_sem, t11], by simp -dsimp -implicitDefEqProofs [-getElem?_pos, go_sem], by rw [nx]; simp -dsimp -implicitDefEqProofs [-getElem?_pos, go_sem, t5], by rw [nx]; simp -dsimp -implicitDefEqProofs [-getElem?_pos, go_sem, lto, ho]⟩
  · have hk : k = l.length := by simp at h; omega
    subst hk
    rw [Pn] at t5 ho
    simp -dsimp -implicitDefEqProofs [-getElem?_pos, go_sem, hP, t5]
    refine callB_pure su hP en_77 (args_sref ho (by rw [encL_len]) (imm_posts _) (args_same (by simp -dsimp -implicitDefEqProofs [-getElem?_pos, go_sem]))) (flat_st S) ?_
    simp -dsimp -implicitDefEqProofs [-getElem?_pos, go_sem, hP, cS, wS]

theorem Restated_pf (h : THistory) (n : Int) (hf : Fit h) : PFun Try.prog none none 33 [.agg h.cells, iv n] (· = .tup [.agg (restatedH h n).1.cells, iv (restatedH h n).2]) := by
  refine pfun_intro Try.func33 rfl (by simp [Try.f33]) (by kernel_rfl) ?_
  intro E hP hr hs hW hN
  have ck := hcheck_pf h hf
  have ih := imm_his h
  rw [cH] at ck ih
  have iz : Imm (.agg [iv 0, iv 0, iv 0, iv 0, iv 0]) := imm_st zeroSt
  simp -dsimp -implicitDefEqProofs [-getElem?_pos, go_sem, hP, cH]
  refine callB_is (ck.lift _ _) hP en_28 (by simpa using ih) .sc ?_
  by_cases c1 : checkH h = 0
  rotate_left
  · have : restatedH h n = (zeroSt, checkH h) := by rw [restatedH, if_neg c1]
    simp -dsimp -implicitDefEqProofs [-getElem?_pos, go_sem, hP, c1]
    exact done_imm (imm_pair iz .sc) (by rw [this]; rfl)
  simp -dsimp -implicitDefEqProofs [-getElem?_pos, go_sem, hP, c1]
  refine callB_pure (year_pf n) hP en_85 (args_same (by simp -dsimp -implicitDefEqProofs [-getElem?_pos, go_sem])) .sc ?_
  cases c2 : yearB n
  · have : restatedH h n = (zeroSt, 2) := by rw [restatedH, if_pos c1, if_neg (by simp [c2])]
    simp -dsimp -implicitDefEqProofs [-getElem?_pos, go_sem, hP, c2]
    exact done_imm (imm_pair iz .sc) (by rw [this]; rfl)
  have re := restd_pf h n hf (fine_ok (restP_ok c1 n).1 (by have := (restP_ok c1 n).2; omega)) c2
  have : restatedH h n = (restL h n, 0) := by rw [restatedH, if_pos c1, if_pos c2]
  rw [this]
  rw [cH] at re
  generalize restL h n = S at re
  simp -dsimp -implicitDefEqProofs [-getElem?_pos, go_sem, hP, c2]
  refine callB_is (re.lift _ _) hP en_86 (by simp [imm_sc]; exact ih) (imm_st S) ?_
  simp -dsimp -implicitDefEqProofs [-getElem?_pos, go_sem, hP, cS]
  exact done_imm (imm_pair (imm_st S) .sc) rfl

theorem Effect_pf (h : THistory) (n : Int) (hf : Fit h) : PFun Try.prog none none 39 [.agg h.cells, iv n] (· = .tup [iv (effectH h n).1, iv (effectH h n).2]) := by
  refine pfun_intro Try.func39 rfl (by simp [Try.f39]) (by kernel_rfl) ?_
  intro E hP hr hs hW hN
  have ck := hcheck_pf h hf
  have ih := imm_his h
  rw [cH] at ck ih
  simp -dsimp -implicitDefEqProofs [-getElem?_pos, go_sem, hP, cH]
  refine callB_is (ck.lift _ _) hP en_28 (by simpa using ih) .sc ?_
  by_cases c1 : checkH h = 0
  rotate_left
  · have : effectH h n = (0, checkH h) := by rw [effectH, if_neg c1]
    simp -dsimp -implicitDefEqProofs [-getElem?_pos, go_sem, hP, c1]
    exact done_imm (imm_pair .sc .sc) (by rw [this])
  simp -dsimp -implicitDefEqProofs [-getElem?_pos, go_sem, hP, c1]
  refine callB_pure (year_pf n) hP en_85 (args_same (by simp -dsimp -implicitDefEqProofs [-getElem?_pos, go_sem])) .sc ?_
  cases c2 : yearB n
  · have : effectH h n = (0, 2) := by rw [effectH, if_pos c1, if_neg (by simp [c2])]
    simp -dsimp -implicitDefEqProofs [-getElem?_pos, go_sem, hP, c2]
    exact done_imm (imm_pair .sc .sc) (by rw [this])
  have re := eff_pf h n hf c1
  have : effectH h n = (-resP (effP h n), 0) := by rw [effectH, if_pos c1, if_pos c2]
  rw [this]
  rw [cH] at re
  generalize -resP (effP h n) = S at re
  simp -dsimp -implicitDefEqProofs [-getElem?_pos, go_sem, hP, c2]
  refine callB_is (re.lift _ _) hP en_90 (by simp [imm_sc]; exact ih) .sc ?_
  simp -dsimp -implicitDefEqProofs [-getElem?_pos, go_sem, hP]
  exact done_imm (imm_pair .sc .sc) rfl
end Go.Proofs.Ytellcfkpfccgaaa
