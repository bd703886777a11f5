/- Restatement: the reference's histories. -/
import Derived.Test.YtellcfkpfccgaaaRes4
import Derived.Test.YtellcfkpfccgaaaRes7
import Derived.Test.YtellcfkpfccgaaaLed9
set_option linter.unusedSimpArgs false
set_option linter.unusedVariables false
namespace Go.Proofs.Ytellcfkpfccgaaa
open Go.PA
open Go.RowKit

theorem total01_pf (n : Int) (h : -1000000000000000 ≤ n ∧ n ≤ 1000000000000000) : PFun Try.prog none none 93 [iv n] (· = bv true) := by
  refine pfun_intro Try.func93 rfl (by simp [Try.f93]) (by kernel_rfl) ?_
  intro E hP hr hs hW hN
  simp -dsimp -implicitDefEqProofs [-getElem?_pos, go_sem, hP, h.1, h.2]
theorem cls_worth (f : TPosting → Bool) : ∀ l : List TPosting, cls f l 3 + cls f l 4 + cls f l 5 = netP (fun b => decide (classI b = 3 ∨ classI b = 4 ∨ classI b = 5)) f l
  | [] => rfl
  | p :: l => by
    have ih := cls_worth f l
    have key : ∀ a x : Int, (if decide (classI a = 3) = true then x else 0) + (if decide (classI a = 4) = true then x else 0) + (if decide (classI a = 5) = true then x else 0) = (if decide (classI a = 3 ∨ classI a = 4 ∨ classI a = 5) = true then x else 0) := fun a x => by
      by_cases h1 : classI a = 4 <;> by_cases h2 : classI a = 5 <;> by_cases h3 : classI a = 3 <;> simp [h1, h2, h3]
    have k1 := key p.Debit p.Amount
    have k2 := key p.Credit p.Amount
    simp only [cls, netP, addP] at ih ⊢
    cases f p
    · simp only [Bool.false_eq_true, if_false]; omega
    · simp only [if_true]; omega
theorem restL_bound {h : THistory} (hh : checkH h = 0) (n : Int) : ∀ x, x ∈ [(restL h n).Assets, (restL h n).Liabilities, (restL h n).Worth, (restL h n).Revenue, (restL h n).Expense] → -1000000000000000 ≤ x ∧ x ≤ 1000000000000000 := by
  obtain ⟨h1, h2⟩ := restP_ok hh n
  have hb := fun q f => netP_bound q f (restP h n) fun p hp => (h1 p hp).fine
  have w := cls_worth (ofB 0 0 (360 * n - 1)) (restP h n)
  intro x hx
  simp only [List.mem_cons, List.not_mem_nil, or_false] at hx
  rcases hx with rfl | rfl | rfl | rfl | rfl
  · have := hb (fun b => decide (classI b = 1)) (ofB 0 0 (360 * n + 359))
    show _ ≤ netP _ _ (restP h n) ∧ netP _ _ (restP h n) ≤ _
    omega
  · have := hb (fun b => decide (classI b = 2)) (ofB 0 0 (360 * n + 359))
    show _ ≤ -netP _ _ (restP h n) ∧ -netP _ _ (restP h n) ≤ _
    omega
  · have := hb (fun b => decide (classI b = 3 ∨ classI b = 4 ∨ classI b = 5)) (ofB 0 0 (360 * n - 1))
    show _ ≤ -cls (ofB 0 0 (360 * n - 1)) (restP h n) 3 - cls (ofB 0 0 (360 * n - 1)) (restP h n) 4 - cls (ofB 0 0 (360 * n - 1)) (restP h n) 5 ∧ -cls (ofB 0 0 (360 * n - 1)) (restP h n) 3 - cls (ofB 0 0 (360 * n - 1)) (restP h n) 4 - cls (ofB 0 0 (360 * n - 1)) (restP h n) 5 ≤ _
    omega
  · have := hb (fun b => decide (classI b = 4)) (ofB 0 (360 * n) (360 * n + 359))
    show _ ≤ -netP _ _ (restP h n) ∧ -netP _ _ (restP h n) ≤ _
    omega
  · have := hb (fun b => decide (classI b = 5)) (ofB 0 (360 * n) (360 * n + 359))
    show _ ≤ netP _ _ (restP h n) ∧ netP _ _ (restP h n) ≤ _
    omega

theorem rNew_pf (l : TLedger) (hl : l.Postings.length ≤ 100000) : PFun Try.prog none none 45 [.agg l.cells] (· = .tup [.agg (newH l).1.cells, iv (newH l).2]) := by
  refine pfun_intro Try.func45 rfl (by simp [Try.f45]) (by kernel_rfl) ?_
  intro E hP hr hs hW hN
  have ck := rcheck_pf l hl
  obtain ⟨l⟩ := l
  simp only at hl ck
  rw [cL] at ck
  have ip := imm_posts l
  simp -dsimp -implicitDefEqProofs [-getElem?_pos, go_sem, hP, cL]
  refine callB_is (ck.lift _ _) hP en_60 (by simp [ip, imm_agg]) .sc ?_
  by_cases c1 : checkL l = 0
  rotate_left
  · have : newH ⟨l⟩ = (zeroH, checkL l) := by rw [newH, if_neg c1]
    simp -dsimp -implicitDefEqProofs [-getElem?_pos, go_sem, hP, c1]
    refine done_zeroH ?_
    rw [this]
  have : newH ⟨l⟩ = (⟨⟨l⟩, [], []⟩, 0) := by rw [newH, if_pos c1]
  rw [this]
  simp -dsimp -implicitDefEqProofs [-getElem?_pos, go_sem, hP, c1]
  exact done_agg2 (cs' := (THistory.mk ⟨l⟩ [] []).cells) (cw_imm ip (cw_nil (cw_nil .nil))) rfl

theorem corrsFrom_snoc (c : TCorrection) : ∀ (l : List TCorrection) (d : Int), corrsFrom d (l ++ [c]) = (corrsFrom d l && (corrB c && decide ((l.getLast?.map (·.Found)).getD d ≤ c.Found)))
  | [], d => by simp [corrsFrom]; rfl
  | a :: l, d => by
    have ih := corrsFrom_snoc c l a.Found
    have e1 : (((a :: l).getLast?.map (·.Found)).getD d) = (l.getLast?.map (·.Found)).getD a.Found := by
      cases l with
      | nil => rfl
      | cons b l =>
        rw [List.getLast?_cons_cons, List.getLast?_eq_some_getLast (by simp)]
        rfl
    rw [List.cons_append, corrsFrom, ih, corrsFrom, e1]
    simp only [Bool.and_assoc]

set_option maxHeartbeats 1000000 in
theorem rCorrect_pf (h : THistory) (c : TCorrection) (hf : Fit h) (hc : c.Postings.length ≤ 100000) : PFun Try.prog none none 48 [.agg h.cells, .agg c.cells] (· = .tup [.agg (correctH h c).1.cells, iv (correctH h c).2]) := by
  refine pfun_intro Try.func48 rfl (by simp [Try.f48]) (by kernel_rfl) ?_
  intro E hP hr hs hW hN
  have ck := hrcheck_pf h hf
  have co := rcorrection_pf c hc
  have ih := imm_his h
  have icc := imm_corr c
  have ip := imm_posts h.Ledger.Postings
  have i2 := imm_pres h.Presented
  rw [cH] at ck ih
  rw [cC] at icc co
  simp -dsimp -implicitDefEqProofs [-getElem?_pos, go_sem, hP, cH, cC]
  refine callB_is (ck.lift _ _) hP en_46 (by simpa using ih) .sc ?_
  by_cases c1 : checkH h = 0
  rotate_left
  · have : correctH h c = (zeroH, checkH h) := by rw [correctH, if_neg c1]
    simp -dsimp -implicitDefEqProofs [-getElem?_pos, go_sem, hP, c1]
    refine done_zeroH ?_
    rw [this]
  have cl := (checkH_ok c1).2.1
  have cb : corrsFrom 0 h.Corrections = true := (checkH_ok c1).2.2.2.1
  obtain ⟨R, hR⟩ : ∃ R, R = correctH h c := ⟨_, rfl⟩
  have cs : corrsB (h.Corrections ++ [c]) = (corrB c && decide ((h.Corrections.getLast?.map (·.Found)).getD 0 ≤ c.Found)) := by rw [corrsB, corrsFrom_snoc, cb, Bool.true_and]
  have rb : corrsB (h.Corrections ++ [c]) = false → R = (zeroH, 90) := fun e => by rw [hR, correctH, if_pos c1, if_neg (by simp [e])]
  have rl : corrsB (h.Corrections ++ [c]) = true → h.Corrections.length = 20 → R = (zeroH, 3) := fun e e' => by rw [hR, correctH, if_pos c1, if_pos e, if_pos e']
  have rg : corrsB (h.Corrections ++ [c]) = true → ¬ h.Corrections.length = 20 → R = (⟨h.Ledger, h.Presented, h.Corrections ++ [c]⟩, 0) := fun e e' => by rw [hR, correctH, if_pos c1, if_pos e, if_neg e']
  rw [← hR]
  have en : encL TCorrection.cells h.Corrections ++ [[iv c.Year, iv c.Found, postsL c.Postings]] = encL TCorrection.cells (h.Corrections ++ [c]) := encL_snoc TCorrection.cells h.Corrections c
  simp -dsimp -implicitDefEqProofs [-getElem?_pos, go_sem, hP, c1]
  refine adrawB (fun _ => true) [] hP (by kernel_rfl) (by kernel_rfl) ?_
  simp -dsimp -implicitDefEqProofs [-getElem?_pos, go_sem, hP]
  refine callB_is (co.lift _ _) hP en_91 (by simpa using icc) .sc ?_
  cases b1 : corrB c
  · rw [b1, Bool.false_and] at cs
    simp -dsimp -implicitDefEqProofs [-getElem?_pos, go_sem, hP, b1]
    refine done_zeroH ?_
    rw [rb cs]
  rw [b1, Bool.true_and] at cs
  have ok := (corrB_iff c).1 b1
  by_cases h0 : h.Corrections.length = 0
  · have hn : h.Corrections = [] := List.eq_nil_of_length_eq_zero h0
    rw [hn] at cs rg en
    have cs' : corrsB ([] ++ [c]) = true := by
      rw [cs]
      exact decide_eq_true (by have := ok.found; have := ok.year; simp; omega)
    simp -dsimp -implicitDefEqProofs [-getElem?_pos, go_sem, hP, b1, hn]
    refine adrawB (fun id => decide (id < 2)) [7] hP (by kernel_rfl) (by kernel_rfl) ?_
    simp -dsimp -implicitDefEqProofs [-getElem?_pos, go_sem, hP, restr_get]
    refine ⟨agree_2, agree_2, ?_⟩
    refine done_agg2 (cs' := (THistory.mk h.Ledger h.Presented ([] ++ [c])).cells) (cw_imm ip (cw_imm i2 (cw_sref (ty := 66) rfl rfl (imm_corrs [c]) .nil))) ?_
    rw [rg cs' (by simp [h0])]
  · obtain ⟨k, hk⟩ : ∃ k, h.Corrections.length = k + 1 := ⟨h.Corrections.length - 1, by omega⟩
    obtain ⟨x, hx⟩ : ∃ x, h.Corrections[k]? = some x := ⟨_, List.getElem?_eq_getElem (by omega)⟩
    have hld : (h.Corrections.getLast?.map (·.Found)).getD 0 = x.Found := by
      rw [List.getLast?_eq_getElem?, hk]
      simp [hx]
    rw [hld] at cs
    have d0 : decide ((0 : Int) < (h.Corrections.length : Int)) = true := decide_eq_true (by omega)
    have d0' : 0 < h.Corrections.length := by omega
    have wj : IntKind.i64.wrap ((h.Corrections.length : Int) - 1) = (k : Int) := by rw [wrap_in _ (by omega)]; omega
    by_cases c5 : c.Found < x.Found
    · have d5 : decide (c.Found < x.Found) = true := decide_eq_true c5
      rw [decide_eq_false (by omega)] at cs
      simp -dsimp -implicitDefEqProofs [-getElem?_pos, go_sem, hP, b1, d0, d0', wj, hx, cC, d5]
      refine done_zeroH ?_
      rw [rb cs]
    have d5 : decide (c.Found < x.Found) = false := decide_eq_false c5
    rw [decide_eq_true (by omega)] at cs
    by_cases c6 : h.Corrections.length = 20
    · have d6 : decide ((h.Corrections.length : Int) = 20) = true := decide_eq_true (by omega)
      simp -dsimp -implicitDefEqProofs [-getElem?_pos, go_sem, hP, b1, d0, d0', wj, hx, cC, d5, d6]
      refine done_zeroH ?_
      rw [rl cs c6]
    have d6 : decide ((h.Corrections.length : Int) = 20) = false := decide_eq_false (by omega)
    simp -dsimp -implicitDefEqProofs [-getElem?_pos, go_sem, hP, b1, d0, d0', wj, hx, cC, d5, d6]
    refine adrawB (fun id => decide (id < 2)) [7] hP (by kernel_rfl) (by kernel_rfl) ?_
    simp -dsimp -implicitDefEqProofs [-getElem?_pos, go_sem, hP, restr_get]
    refine ⟨by omega, by omega, agree_2, by omega, by omega, agree_2, ?_⟩
    refine done_agg2 (cs' := (THistory.mk h.Ledger h.Presented (h.Corrections ++ [c])).cells) (cw_imm ip (cw_imm i2 (cw_sref (ty := 66) (by rw [← en]; rfl) (by simp [encL]) (imm_corrs _) .nil))) ?_
    rw [rg cs c6]

set_option maxHeartbeats 1000000 in
theorem rRestated_pf (h : THistory) (n : Int) (hf : Fit h) : PFun Try.prog none none 50 [.agg h.cells, iv n] (· = .tup [.agg (restatedH h n).1.cells, iv (restatedH h n).2]) := by
  refine pfun_intro Try.func50 rfl (by simp [Try.f50]) (by kernel_rfl) ?_
  intro E hP hr hs hW hN
  have ck := hrcheck_pf h hf
  have ih := imm_his h
  rw [cH] at ck ih
  have iz : Imm (.agg [iv 0, iv 0, iv 0, iv 0, iv 0]) := imm_st zeroSt
  simp -dsimp -implicitDefEqProofs [-getElem?_pos, go_sem, hP, cH]
  refine callB_is (ck.lift _ _) hP en_46 (by simpa using ih) .sc ?_
  by_cases c1 : checkH h = 0
  rotate_left
  · have : restatedH h n = (zeroSt, checkH h) := by rw [restatedH, if_neg c1]
    simp -dsimp -implicitDefEqProofs [-getElem?_pos, go_sem, hP, c1]
    exact done_imm (imm_pair iz .sc) (by rw [this]; rfl)
  simp -dsimp -implicitDefEqProofs [-getElem?_pos, go_sem, hP, c1]
  refine callB_pure (ryear_pf n) hP en_92 (args_same (by simp -dsimp -implicitDefEqProofs [-getElem?_pos, go_sem])) .sc ?_
  cases c2 : yearB n
  · have : restatedH h n = (zeroSt, 2) := by rw [restatedH, if_pos c1, if_neg (by simp [c2])]
    simp -dsimp -implicitDefEqProofs [-getElem?_pos, go_sem, hP, c2]
    exact done_imm (imm_pair iz .sc) (by rw [this]; rfl)
  have fl : FineL (restP h n) := fine_ok (restP_ok c1 n).1 (by have := (restP_ok c1 n).2; omega)
  have this : restatedH h n = (restL h n, 0) := by rw [restatedH, if_pos c1, if_pos c2]
  rw [this]
  have hn := betw_iff.1 c2
  have w1 := wrap_in (360 * n) (by omega)
  have w2 := wrap_in (360 * n + 359) (by omega)
  have bd := restL_bound c1 n
  have su := rstate_pf (restP h n) 0 (360 * n) (360 * n + 359) fl (by omega)
  obtain ⟨S, hS⟩ : ∃ S, S = restL h n := ⟨_, rfl⟩
  rw [show sumsL (restP h n) 0 (360 * n) (360 * n + 359) = S from hS.symm] at su
  rw [← hS] at bd ⊢
  have lc := hf.corr
  have lp := hf.post
  have ip := imm_posts h.Ledger.Postings
  have i3 := imm_corrs h.Corrections
  obtain ⟨f, hff⟩ : ∃ f : TCorrection → Bool, f = fun c => decide (c.Year ≤ n) := ⟨_, rfl⟩
  obtain ⟨P, hPP⟩ : ∃ P : Nat → List TPosting, P = fun k => h.Ledger.Postings ++ corrP f (h.Corrections.take k) := ⟨_, rfl⟩
  have P0 : P 0 = h.Ledger.Postings := by rw [hPP]; simp [corrP]
  have Pn : P h.Corrections.length = restP h n := by rw [hPP, hff]; simp [restP]
  have Ps : ∀ k c, h.Corrections[k]? = some c → P (k + 1) = P k ++ (if f c = true then c.Postings else []) := fun k c hc => by
    rw [hPP]
    dsimp only
    rw [corrP_take hc, List.append_assoc]
  have each := hf.each
  obtain ⟨l, hlc⟩ : ∃ l, l = h.Corrections := ⟨_, rfl⟩
  have lenP : ∀ k, k ≤ l.length → (P k).length ≤ 100000 + 100000 * k := fun k => by
    induction k with
    | zero => intro _; rw [P0]; omega
    | succ k ih =>
      intro hk
      have ih := ih (by omega)
      obtain ⟨c, hc⟩ : ∃ c, h.Corrections[k]? = some c := ⟨_, List.getElem?_eq_getElem (by rw [← hlc]; omega)⟩
      have := each c (List.mem_of_getElem? hc)
      rw [Ps k c hc, List.length_append]
      split
      · omega
      · simp; omega
  rw [← hlc] at Ps Pn lc each i3
  simp -dsimp -implicitDefEqProofs [-getElem?_pos, go_sem, hP, c2, ← hlc]
  refine ⟨by omega, by omega, ?_⟩
  have lz : h.Ledger.Postings.length = (P 0).length := by rw [P0]
  obtain ⟨I, hI⟩ : ∃ I : Nat → St → Prop, I = fun m s => ∃ (k id : Nat), k ≤ l.length ∧ m = l.length - k ∧ 2 ≤ id ∧ s.t 1 = iv n ∧ s.t 4 = .ref 1 0 0 ∧ s.t 28 = corrsL l ∧ s.t 29 = iv l.length ∧ s.t 30 = iv k ∧ s.t 7 = .sref id 0 (P k).length ∧ s.H[1]? = some (some ⟨48, 5, [[iv 0, iv 0, iv 0, iv 0, iv 0]]⟩) ∧ s.H[id]? = some (some ⟨37, 8, encL TPosting.cells (P k)⟩) := ⟨_, rfl⟩
  refine aloop0 I (l.length) (by rw [hN]; rfl) ?_ ?_
  · rw [hI]
    exact ⟨0, 2, by omega, by omega, by omega, by simp -dsimp -implicitDefEqProofs [-getElem?_pos, go_sem], by simp -dsimp -implicitDefEqProofs [-getElem?_pos, go_sem], by simp -dsimp -implicitDefEqProofs [-getElem?_pos, go_sem], by simp -dsimp -implicitDefEqProofs [-getElem?_pos, go_sem], by simp -dsimp -implicitDefEqProofs [-getElem?_pos, go_sem], by simp -dsimp -implicitDefEqProofs [-getElem?_pos, go_sem, P0], by simp -dsimp -implicitDefEqProofs [-getElem?_pos, go_sem], by simp -dsimp -implicitDefEqProofs [-getElem?_pos, go_sem, P0]⟩
  intro m s hs'
  rw [hI] at hs'
  obtain ⟨k, id, hk, hm, hid, t1, t4, t28, t29, t30, t7, h1, ho⟩ := hs'
  have lt1 := (List.getElem?_eq_some_iff.1 h1).1
  have lto := (List.getElem?_eq_some_iff.1 ho).1
  have pk := lenP k hk
  simp -dsimp -implicitDefEqProofs [-getElem?_pos, go_sem, hP, t29, t30]
  refine condP (fun h => ?_) (fun h => ?_)
  · have hk : k < l.length := by simpa using h
    obtain ⟨c, hcc⟩ : ∃ c, l[k]? = some c := ⟨_, List.getElem?_eq_getElem hk⟩
    have wk := wrap_in ((k : Int) + 1) (by omega)
    have nx := Ps k c hcc
    have ec := each c (List.mem_of_getElem? hcc)
    have hfc : f c = decide (c.Year ≤ n) := by rw [hff]
    rw [hfc] at nx
    have ne1 : ¬ id = 1 := by omega
    by_cases c3 : c.Year ≤ n
    · rw [if_pos (by simpa using c3)] at nx
      have d1 : decide (c.Year ≤ n) = true := decide_eq_true c3
      simp -dsimp -implicitDefEqProofs [-getElem?_pos, go_sem, hP, t28, t30, hcc, cC, t1, d1, t7, ho, lto, wk]
      refine ⟨by omega, by omega, ?_⟩
      refine ⟨l.length - (k + 1), by omega, ?_⟩
      rw [hI]
      exact ⟨k + 1, s.H.length + 1, by omega, rfl, by omega, by simp -dsimp -implicitDefEqProofs [-getElem?_pos, go_sem, t1], by simp -dsimp -implicitDefEqProofs [-getElem?_pos, go_sem, t4], by simp -dsimp -implicitDefEqProofs [-getElem?_pos, go_sem, t28], by simp -dsimp -implicitDefEqProofs [-getElem?_pos, go_sem, t29], by simp -dsimp -implicitDefEqProofs [-getElem?_pos, go_sem], by rw [nx, List.length_append]; simp -dsimp -implicitDefEqProofs [-getElem?_pos, go_sem], by simp -dsimp -implicitDefEqProofs [-getElem?_pos, go_sem, lt1, h1, ne1], by rw [nx, ← encL_app]; simp -dsimp -implicitDefEqProofs [-getElem?_pos, go_sem]⟩
    · rw [if_neg (by simpa using c3), List.append_nil] at nx
      have d1 : decide (c.Year ≤ n) = false := decide_eq_false c3
      simp -dsimp -implicitDefEqProofs [-getElem?_pos, go_sem, hP, t28, t30, hcc, cC, t1, d1, wk]
      refine ⟨l.length - (k + 1), by omega, ?_⟩
      rw [hI]
      exact ⟨k + 1, id, by omega, rfl, by omega, by simp -dsimp -implicitDefEqProofs [-getElem?_pos, go_sem, t1], by simp -dsimp -implicitDefEqProofs [-getElem?_pos, go_sem, t4], by simp -dsimp -implicitDefEqProofs [-getElem?_pos, go_sem, t28], by simp -dsimp -implicitDefEqProofs [-getElem?_pos, go_sem, t29], by simp -dsimp -implicitDefEqProofs [-getElem?_pos, go_sem], by rw [nx]; simp -dsimp -implicitDefEqProofs [-getElem?_pos, go_sem, t7], by simp -dsimp -implicitDefEqProofs [-getElem?_pos, go_sem, lt1, h1], by rw [nx]; simp -dsimp -implicitDefEqProofs [-getElem?_pos, go_sem, lto, ho]⟩
  · have hk : k = l.length := by simp at h; omega
    subst hk
    rw [Pn] at t7 ho
    have z5 : [iv S.Assets, iv S.Liabilities, iv S.Worth, iv S.Revenue, iv S.Expense] = arI [S.Assets, S.Liabilities, S.Worth, S.Revenue, S.Expense] := rfl
    obtain ⟨A5, hA5⟩ : ∃ A5 : List Int, A5 = [S.Assets, S.Liabilities, S.Worth, S.Revenue, S.Expense] := ⟨_, rfl⟩
    have hA5l : A5.length = 5 := by rw [hA5]; rfl
    rw [← hA5] at z5 bd
    clear hA5
    obtain ⟨q, hq⟩ : ∃ q, q = s.H.length := ⟨_, rfl⟩
    simp -dsimp -implicitDefEqProofs [-getElem?_pos, go_sem, hP, t7, t1, w1, w2]
    refine callB_pure su hP en_88 (args_sref ho (by rw [encL_len]) (imm_posts _) (args_same (by simp -dsimp -implicitDefEqProofs [-getElem?_pos, go_sem]))) (flat_st S) ?_
    simp -dsimp -implicitDefEqProofs [-getElem?_pos, go_sem, hP, cS]
    obtain ⟨J, hJ⟩ : ∃ I : Nat → St → Prop, I = fun m s => ∃ (i : Nat), i ≤ 5 ∧ m = 5 - i ∧ s.t 4 = .ref 1 0 0 ∧ s.t 10 = .ref q 0 0 ∧ s.t 60 = .agg (arI A5) ∧ s.t 61 = iv i ∧ s.H[1]? = some (some ⟨48, 5, [[iv 0, iv 0, iv 0, iv 0, iv 0]]⟩) ∧ s.H[q]? = some (some ⟨48, 5, [[iv S.Assets, iv S.Liabilities, iv S.Worth, iv S.Revenue, iv S.Expense]]⟩) := ⟨_, rfl⟩
    refine aloop0 J (5) (by rw [hN]; rfl) ?_ ?_
    · rw [hJ]
      exact ⟨0, by omega, by omega, by simp -dsimp -implicitDefEqProofs [-getElem?_pos, go_sem, t4], by simp -dsimp -implicitDefEqProofs [-getElem?_pos, go_sem, hq], by simp -dsimp -implicitDefEqProofs [-getElem?_pos, go_sem, z5], by simp -dsimp -implicitDefEqProofs [-getElem?_pos, go_sem], by simp -dsimp -implicitDefEqProofs [-getElem?_pos, go_sem, lt1, h1], by simp -dsimp -implicitDefEqProofs [-getElem?_pos, go_sem, hq]⟩
    have q1 : ¬ q = 1 := by omega
    clear t1 t4 h1 lt1 ho lto t7 t28 t29 t30 hq
    intro m s hs'
    rw [hJ] at hs'
    obtain ⟨i, hi, hm2, t4, t10, t60, t61, h1, hq⟩ := hs'
    have lt1 := (List.getElem?_eq_some_iff.1 h1).1
    have ltq := (List.getElem?_eq_some_iff.1 hq).1
    simp -dsimp -implicitDefEqProofs [-getElem?_pos, go_sem, hP, t61]
    refine condP (fun h => ?_) (fun h => ?_)
    · have hi : i < 5 := by simp at h; omega
      have i4 : (i : Int) < 5 := by omega
      obtain ⟨x, hx⟩ : ∃ x, A5[i]? = some x := ⟨_, List.getElem?_eq_getElem (by omega)⟩
      have wi := wrap_in ((i : Int) + 1) (by omega)
      simp -dsimp -implicitDefEqProofs [-getElem?_pos, go_sem, hP, t60, t61, i4, hx]
      refine callB_pure (total01_pf x (bd x (List.mem_of_getElem? hx))) hP en_93 (args_same (by simp -dsimp -implicitDefEqProofs [-getElem?_pos, go_sem])) .sc ?_
      simp -dsimp -implicitDefEqProofs [-getElem?_pos, go_sem, hP, t61, wi]
      refine ⟨5 - (i + 1), by omega, ?_⟩
      rw [hJ]
      exact ⟨i + 1, by omega, rfl, by simp -dsimp -implicitDefEqProofs [-getElem?_pos, go_sem, t4], by simp -dsimp -implicitDefEqProofs [-getElem?_pos, go_sem, t10], by simp -dsimp -implicitDefEqProofs [-getElem?_pos, go_sem, t60], by simp -dsimp -implicitDefEqProofs [-getElem?_pos, go_sem], by simp -dsimp -implicitDefEqProofs [-getElem?_pos, go_sem, h1], by simp -dsimp -implicitDefEqProofs [-getElem?_pos, go_sem, hq]⟩
    · simp -dsimp -implicitDefEqProofs [-getElem?_pos, go_sem, hP, t10, hq, ltq, t4, h1, lt1]
      exact done_imm (imm_pair (imm_st S) .sc) rfl
end Go.Proofs.Ytellcfkpfccgaaa
