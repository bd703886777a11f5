/- Restatement: new histories. -/
import Derived.Test.YtellcfkpfccgaaaRes6
set_option linter.unusedSimpArgs false
set_option linter.unusedVariables false
namespace Go.Proofs.Ytellcfkpfccgaaa
open Go.PA
open Go.RowKit

theorem imm_trip {a b c : AV} (ha : Imm a) (hb : Imm b) (hc : Imm c) : Imm (.tup [a, b, c]) := by
  refine .tup fun x hx => ?_
  simp only [List.mem_cons, List.not_mem_nil, or_false] at hx
  rcases hx with rfl | rfl | rfl <;> assumption
theorem weak_tup3 {a b c a' b' c' : AV} (ha : Weak a a') (hb : Weak b b') (hc : Weak c c') : Weak (.tup [a, b, c]) (.tup [a', b', c']) := by
  refine .tup rfl fun i x y hx hy => ?_
  match i, hx, hy with
  | 0, hx, hy => simp at hx hy; subst hx; subst hy; exact ha
  | 1, hx, hy => simp at hx hy; subst hx; subst hy; exact hb
  | 2, hx, hy => simp at hx hy; subst hx; subst hy; exact hc
  | i + 3, hx, hy => simp at hx
theorem done_agg3 {H : Heap} {cs cs' ds : List AV} {v : Value} {Q : AV → Prop} {b : Bx Q} (h : CW H cs cs') (hd : Imm (.agg ds)) (hq : Q (.tup [.agg cs', .agg ds, .sc v])) : Done H (.tup [.agg cs, .agg ds, .sc v]) Q b := by
  have hv : view H (.agg ds) = .agg ds := view_imm hd
  rw [view_agg] at hv
  exact done_weak (imm_trip h.imm (by show Imm (view2 H (.agg ds)); rw [show view2 H (.agg ds) = .agg ds from hv]; exact hd) .sc) (imm_trip h.imm' hd .sc) (weak_tup3 h.weak (by show Weak (view2 H (.agg ds)) _; rw [show view2 H (.agg ds) = .agg ds from hv]; exact .refl _) (.refl _)) hq
theorem cw_zeroH {H : Heap} : CW H [.nil, .nil, .nil] zeroH.cells := cw_nil (cw_nil (cw_nil .nil))
theorem done_zeroH {H : Heap} {n : Int} {Q : AV → Prop} {b : Bx Q} (h : Q (.tup [.agg zeroH.cells, iv n])) : Done H (.tup [.agg [.nil, .nil, .nil], iv n]) Q b := done_agg2 cw_zeroH h
theorem done_zeroH3 {H : Heap} {n : Int} {Q : AV → Prop} {b : Bx Q} (h : Q (.tup [.agg zeroH.cells, .agg zeroP.cells, iv n])) : Done H (.tup [.agg [.nil, .nil, .nil], .agg [iv 0, iv 0, iv 0, iv 0, iv 0, iv 0, iv 0], iv n]) Q b := done_agg3 cw_zeroH (imm_prs zeroP) h

theorem New_pf (l : TLedger) (hl : l.Postings.length ≤ 100000) : PFun Try.prog none none 44 [.agg l.cells] (· = .tup [.agg (newH l).1.cells, iv (newH l).2]) := by
  refine pfun_intro Try.func44 rfl (by simp [Try.f44]) (by kernel_rfl) ?_
  intro E hP hr hs hW hN
  have ck := lcheck_pf l hl
  obtain ⟨l⟩ := l
  simp only at hl ck
  rw [cL] at ck
  have ip := imm_posts l
  simp -dsimp -implicitDefEqProofs [-getElem?_pos, go_sem, hP, cL]
  refine callB_is (ck.lift _ _) hP en_56 (by simp [ip, imm_agg]) .sc ?_
  by_cases c1 : checkL l = 0
  rotate_left
  · have : newH ⟨l⟩ = (zeroH, checkL l) := by rw [newH, if_neg c1]
    simp -dsimp -implicitDefEqProofs [-getElem?_pos, go_sem, hP, c1]
    refine done_zeroH ?_
    rw [this]
  have : newH ⟨l⟩ = (⟨⟨l⟩, [], []⟩, 0) := by rw [newH, if_pos c1]
  rw [this]
  simp -dsimp -implicitDefEqProofs [-getElem?_pos, go_sem, hP, c1]
  refine callB_frzM (args' := [.agg (THistory.mk ⟨l⟩ [] []).cells]) (by rw [hr, hs]; exact copied_m ⟨⟨l⟩, [], []⟩ _ ⟨hl, by simp, by simp, by simp⟩) hP hW en_84 (args_agg (cw_imm ip (cw_nil (cw_nil .nil))) (args_nil.2 trivial)) ?_
  rintro r H' ⟨id, x, rfl, hid, ho, ⟨B, hB, hg⟩, hk⟩
  have e1 := hk 1 _ (by simp) rfl
  have lt1 := (List.getElem?_eq_some_iff.1 e1).1
  have hc := hg.cellish
  simp only [List.length_cons, List.length_nil, killAll_len] at hid
  simp -dsimp -implicitDefEqProofs [-getElem?_pos, go_sem, hP, e1, lt1, hc]
  refine done_agg2 (cs' := (THistory.mk ⟨l⟩ [] []).cells) (cw_imm ip (cw_sref (ty := 62) (k := 7) (es := []) ?_ rfl (imm_pres []) ((hg.kept (X := [1]) (kept_set _ (by simp) (kept_refl _ _)) (by simp; omega)).cw (imm_corrs []) .nil))) rfl
  rw [List.getElem?_set_ne (by omega)]
  exact ho

set_option maxHeartbeats 1000000 in
theorem Correct_pf (h : THistory) (c : TCorrection) (hf : Fit h) (hc : c.Postings.length ≤ 100000) : PFun Try.prog none none 32 [.agg h.cells, .agg c.cells] (· = .tup [.agg (correctH h c).1.cells, iv (correctH h c).2]) := by
  refine pfun_intro Try.func32 rfl (by simp [Try.f32]) (by kernel_rfl) ?_
  intro E hP hr hs hW hN
  have ck := hcheck_pf h hf
  have ih := imm_his h
  have icc := imm_corr c
  have ip := imm_posts h.Ledger.Postings
  have i2 := imm_pres h.Presented
  rw [cH] at ck ih
  rw [cC] at icc
  simp -dsimp -implicitDefEqProofs [-getElem?_pos, go_sem, hP, cH, cC]
  refine callB_is (ck.lift _ _) hP en_28 (by simpa using ih) .sc ?_
  by_cases c1 : checkH h = 0
  rotate_left
  · have : correctH h c = (zeroH, checkH h) := by rw [correctH, if_neg c1]
    simp -dsimp -implicitDefEqProofs [-getElem?_pos, go_sem, hP, c1]
    refine done_zeroH ?_
    rw [this]
  have cl := (checkH_ok c1).2.1
  simp -dsimp -implicitDefEqProofs [-getElem?_pos, go_sem, hP, c1]
  obtain ⟨H2, hH2⟩ : ∃ H2 : Heap, H2 = [some ⟨56, 3, [[postsL h.Ledger.Postings, presL h.Presented, corrsL h.Corrections]]⟩, some ⟨66, 3, [[iv c.Year, iv c.Found, postsL c.Postings]]⟩, some ⟨56, 3, [[.nil, .nil, .nil]]⟩] := ⟨_, rfl⟩
  have b0 : H2[0]? = some (some ⟨56, 3, [[postsL h.Ledger.Postings, presL h.Presented, corrsL h.Corrections]]⟩) := by rw [hH2]; rfl
  have b1 : H2[1]? = some (some ⟨66, 3, [[iv c.Year, iv c.Found, postsL c.Postings]]⟩) := by rw [hH2]; rfl
  have b2 : H2[2]? = some (some ⟨56, 3, [[.nil, .nil, .nil]]⟩) := by rw [hH2]; rfl
  have l2 : H2.length = 3 := by rw [hH2]; rfl
  simp only [← hH2]
  refine adrawB (fun i => decide (i < 2)) [] hP (by kernel_rfl) (by kernel_rfl) ?_
  simp -dsimp -implicitDefEqProofs [-getElem?_pos, go_sem, hP, b0, l2]
  refine callB_m (by rw [hr, hs]; exact clone_m_correction h.Corrections H2 (by omega)) hP en_83 ?_
  rintro r H3 ⟨id, rfl, hid, ho3, hk3⟩
  have e0 := hk3 _ _ (by simp) b0
  have e1 := hk3 _ _ (by simp) b1
  have e2 := hk3 _ _ (by simp) b2
  have n0 := (List.getElem?_eq_some_iff.1 e0).1
  have n1 := (List.getElem?_eq_some_iff.1 e1).1
  have n2 := (List.getElem?_eq_some_iff.1 e2).1
  have n3 := (List.getElem?_eq_some_iff.1 ho3).1
  have en : encL TCorrection.cells h.Corrections ++ [[iv c.Year, iv c.Found, postsL c.Postings]] = encL TCorrection.cells (h.Corrections ++ [c]) := encL_snoc TCorrection.cells h.Corrections c
  simp -dsimp -implicitDefEqProofs [-getElem?_pos, go_sem, hP, e1, n1, ho3, n3]
  obtain ⟨l, hl⟩ : ∃ l, l = h.Corrections ++ [c] := ⟨_, rfl⟩
  have ll : l.length = h.Corrections.length + 1 := by rw [hl]; simp
  have lall : ∀ x, x ∈ l → x.Postings.length ≤ 100000 := fun x hx => by
    rw [hl, List.mem_append, List.mem_singleton] at hx
    rcases hx with hx | rfl
    · exact hf.each x hx
    · exact hc
  rw [en, ← hl]
  obtain ⟨H4, hH4⟩ : ∃ H4 : Heap, H4 = H3.set id none ++ [some ⟨66, 3, encL TCorrection.cells l⟩] := ⟨_, rfl⟩
  have g0 : H4[0]? = H3[0]? := by rw [hH4, List.getElem?_append_left (by simp; omega), List.getElem?_set_ne (by omega)]
  have g1 : H4[1]? = H3[1]? := by rw [hH4, List.getElem?_append_left (by simp; omega), List.getElem?_set_ne (by omega)]
  have g2 : H4[2]? = H3[2]? := by rw [hH4, List.getElem?_append_left (by simp; omega), List.getElem?_set_ne (by omega)]
  have gn : H4[H3.length]? = some (some ⟨66, 3, encL TCorrection.cells l⟩) := by rw [hH4, List.getElem?_append_right (by simp)]; simp
  have l4 : H4.length = H3.length + 1 := by rw [hH4]; simp
  rw [e0] at g0
  rw [e1] at g1
  rw [e2] at g2
  rw [← hH4]
  have D : ∀ i, decide (i < 2) = true → i = 0 ∨ i = 1 := fun i hi => by
    simp only [decide_eq_true_eq] at hi
    omega
  refine ⟨agree_live hk3 fun i hi => ⟨by simp, ?_⟩, by omega, by omega, fun i hi => ?_, ?_⟩
  · rcases D i hi with rfl | rfl
    · exact ⟨_, b0⟩
    · exact ⟨_, b1⟩
  · rcases D i hi with rfl | rfl
    · rw [e0, g0]
    · rw [e1, g1]
  have a0 := (List.getElem?_eq_some_iff.1 g0).1
  have a2 := (List.getElem?_eq_some_iff.1 g2).1
  have an := (List.getElem?_eq_some_iff.1 gn).1
  refine callB_pure (corrections_pf l (by omega) lall) hP en_78 (args_sref gn (by rw [encL_len]; omega) (imm_corrs l) (args_nil.2 trivial)) .sc ?_
  cases c2 : corrsB l
  · have : correctH h c = (zeroH, 90) := by rw [correctH, if_pos c1, ← hl, if_neg (by simp [c2])]
    simp -dsimp -implicitDefEqProofs [-getElem?_pos, go_sem, hP, c2, g2, a2]
    refine done_zeroH ?_
    rw [this]
  by_cases c3 : h.Corrections.length = 20
  · have d3 : decide ((20 : Int) < (h.Corrections.length : Int) + 1) = true := decide_eq_true (by omega)
    have : correctH h c = (zeroH, 3) := by rw [correctH, if_pos c1, ← hl, if_pos c2, if_pos c3]
    simp -dsimp -implicitDefEqProofs [-getElem?_pos, go_sem, hP, c2, gn, an, g2, a2, c3]
    refine done_zeroH ?_
    rw [this]
  have d3 : decide ((20 : Int) < (h.Corrections.length : Int) + 1) = false := decide_eq_false (by omega)
  have : correctH h c = (⟨h.Ledger, h.Presented, l⟩, 0) := by rw [correctH, if_pos c1, ← hl, if_pos c2, if_neg c3]
  rw [this]
  simp -dsimp -implicitDefEqProofs [-getElem?_pos, go_sem, hP, c2, gn, an, d3, g0, a0]
  refine callB_frzM (args' := [.agg (THistory.mk h.Ledger h.Presented l).cells]) (by rw [hr, hs]; exact copied_m ⟨h.Ledger, h.Presented, l⟩ _ ⟨hf.post, hf.pres, by simp only; omega, lall⟩) hP hW en_84 (args_agg (cw_imm ip (cw_imm i2 (cw_sref (ty := 66) (k := 3) (es := encL TCorrection.cells l) ?_ (by rw [encL_len]; omega) (imm_corrs l) .nil))) (args_nil.2 trivial)) ?_
  · rw [List.getElem?_set_ne (by omega), gn]
  rintro r H' ⟨jd, x, rfl, hjd, ho, ⟨B, hB, hg⟩, hk⟩
  rw [killAll_len, List.length_set] at hjd
  have e5 := hk 2 ⟨56, 3, [[.nil, .nil, .nil]]⟩ (by simp) (by
    show ((H4.set 0 _).set H3.length none)[2]? = _
    rw [List.getElem?_set_ne (by omega), List.getElem?_set_ne (by omega), g2])
  have lt5 := (List.getElem?_eq_some_iff.1 e5).1
  have hc := hg.cellish
  simp -dsimp -implicitDefEqProofs [-getElem?_pos, go_sem, hP, e5, lt5, hc]
  refine done_agg2 (cs' := (THistory.mk h.Ledger h.Presented l).cells) (cw_imm ip (cw_sref (ty := 62) (k := 7) (es := encL TPresented.cells h.Presented) ?_ (by rw [encL_len]) i2 ((hg.kept (X := [2]) (kept_set _ (by simp) (kept_refl _ _)) (by simp; omega)).cw (imm_corrs l) .nil))) rfl
  rw [List.getElem?_set_ne (by omega)]
  exact ho

set_option maxHeartbeats 1000000 in
theorem Present_pf (h : THistory) (n : Int) (hf : Fit h) : PFun Try.prog none none 36 [.agg h.cells, iv n] (· = .tup [.agg (presentH h n).1.cells, .agg (presentH h n).2.1.cells, iv (presentH h n).2.2]) := by
  refine pfun_intro Try.func36 rfl (by simp [Try.f36]) (by kernel_rfl) ?_
  intro E hP hr hs hW hN
  have re := Restated_pf h n hf
  have ih := imm_his h
  have ip := imm_posts h.Ledger.Postings
  have i2 := imm_pres h.Presented
  have i3 := imm_corrs h.Corrections
  rw [cH] at re ih
  obtain ⟨S, hS⟩ : ∃ S, S = (restatedH h n).1 := ⟨_, rfl⟩
  obtain ⟨e, he⟩ : ∃ e, e = (restatedH h n).2 := ⟨_, rfl⟩
  rw [← hS, ← he] at re
  simp -dsimp -implicitDefEqProofs [-getElem?_pos, go_sem, hP, cH]
  refine callB_is (re.lift _ _) hP en_33 (by simp [imm_sc]; exact ih) (imm_pair (imm_st S) .sc) ?_
  by_cases c1 : e = 0
  rotate_left
  · have : presentH h n = (zeroH, zeroP, e) := by
      rw [presentH, he]
      rw [he, restatedH] at c1
      rw [restatedH]
      by_cases k1 : checkH h = 0
      · rw [if_pos k1] at c1
        rw [if_pos k1, if_pos k1]
        by_cases k2 : yearB n = true
        · rw [if_pos k2] at c1; exact absurd rfl c1
        · rw [if_neg k2, if_neg k2]
      · rw [if_neg k1, if_neg k1]
    simp -dsimp -implicitDefEqProofs [-getElem?_pos, go_sem, hP, cS, c1]
    refine done_zeroH3 ?_
    rw [this]
  have k1 : checkH h = 0 := by
    by_cases k1 : checkH h = 0
    · exact k1
    · rw [he, restatedH, if_neg k1] at c1; exact c1
  have k2 : yearB n = true := by
    cases k2 : yearB n
    · rw [he, restatedH, if_pos k1, if_neg (by simp [k2])] at c1; cases c1
    · rfl
  have hS' : S = restL h n := by rw [hS, restatedH, if_pos k1, if_pos k2]
  have pl := (checkH_ok k1).2.2.1
  by_cases c2 : h.Presented.length = 20
  · have : presentH h n = (zeroH, zeroP, 3) := by rw [presentH, if_pos k1, if_pos k2, if_pos c2]
    simp -dsimp -implicitDefEqProofs [-getElem?_pos, go_sem, hP, cS, c1, c2]
    refine done_zeroH3 ?_
    rw [this]
  have d2 : decide ((h.Presented.length : Int) = 20) = false := decide_eq_false (by omega)
  have : presentH h n = (⟨h.Ledger, h.Presented ++ [nextP h n], h.Corrections⟩, nextP h n, 0) := by rw [presentH, if_pos k1, if_pos k2, if_neg c2]
  rw [this]
  simp -dsimp -implicitDefEqProofs [-getElem?_pos, go_sem, hP, cS, c1, d2]
  obtain ⟨H2, hH2⟩ : ∃ H2 : Heap, H2 = [some ⟨56, 3, [[postsL h.Ledger.Postings, presL h.Presented, corrsL h.Corrections]]⟩, some ⟨56, 3, [[.nil, .nil, .nil]]⟩, some ⟨62, 7, [[iv 0, iv 0, iv 0, iv 0, iv 0, iv 0, iv 0]]⟩, some ⟨48, 5, [[iv S.Assets, iv S.Liabilities, iv S.Worth, iv S.Revenue, iv S.Expense]]⟩] := ⟨_, rfl⟩
  have b0 : H2[0]? = some (some ⟨56, 3, [[postsL h.Ledger.Postings, presL h.Presented, corrsL h.Corrections]]⟩) := by rw [hH2]; rfl
  have b1 : H2[1]? = some (some ⟨56, 3, [[.nil, .nil, .nil]]⟩) := by rw [hH2]; rfl
  have b2 : H2[2]? = some (some ⟨62, 7, [[iv 0, iv 0, iv 0, iv 0, iv 0, iv 0, iv 0]]⟩) := by rw [hH2]; rfl
  have b3 : H2[3]? = some (some ⟨48, 5, [[iv S.Assets, iv S.Liabilities, iv S.Worth, iv S.Revenue, iv S.Expense]]⟩) := by rw [hH2]; rfl
  have l2 : H2.length = 4 := by rw [hH2]; rfl
  simp only [← hH2]
  have cp := @copied_m none none h H2 hf
  rw [cH] at cp
  refine callB_m (by rw [hr, hs]; exact cp) hP en_84 ?_
  rintro r H3 ⟨jd, x, rfl, hjd, ho, ⟨B, hB, hg⟩, hk⟩
  have e0 := hk _ _ (by simp) b0
  have e1 := hk _ _ (by simp) b1
  have e2 := hk _ _ (by simp) b2
  have e3 := hk _ _ (by simp) b3
  have n0 := (List.getElem?_eq_some_iff.1 e0).1
  have n1 := (List.getElem?_eq_some_iff.1 e1).1
  have n2 := (List.getElem?_eq_some_iff.1 e2).1
  have n3 := (List.getElem?_eq_some_iff.1 e3).1
  have nj := (List.getElem?_eq_some_iff.1 ho).1
  have hc := hg.cellish
  have ve := versions_pf h.Presented n hf.pres
  have vl := versN_le h.Presented n
  have wv := wrap_in ((versN h.Presented n : Int) + 1) (by omega)
  have hP' : (nextP h n) = ⟨n, (versN h.Presented n : Int) + 1, S⟩ := by rw [nextP, hS']
  simp -dsimp -implicitDefEqProofs [-getElem?_pos, go_sem, hP, hc]
  refine adrawQ (fun i => decide (i = 0) || decide (i = 3)) [9] [4] hP (by kernel_rfl) (by kernel_rfl) ?_
  simp -dsimp -implicitDefEqProofs [-getElem?_pos, go_sem, hP, restr_get, e0, n0, e3, n3]
  refine callQ_is (ve.lift _ _) hP en_89 (by simp [imm_sc, i2]) .sc ?_
  simp -dsimp -implicitDefEqProofs [-getElem?_pos, go_sem, hP, restr_get, e0, n0, e3, n3, wv]
  have aD : ∀ l l', Agree (fun i => decide (i = 0) || decide (i = 3)) (H3 ++ l) (H3 ++ l') := fun l l' i hi => by
    simp only [Bool.or_eq_true, decide_eq_true_eq] at hi
    rcases hi with rfl | rfl
    · rw [List.getElem?_append_left n0, List.getElem?_append_left n0]
    · rw [List.getElem?_append_left n3, List.getElem?_append_left n3]
  refine ⟨aD _ _, ?_⟩
  obtain ⟨P, hPP⟩ : ∃ P : TPresented, P = nextP h n := ⟨_, rfl⟩
  rw [← hPP] at hP' ⊢
  have cPP : P.cells = [iv n, iv ((versN h.Presented n : Int) + 1), iv S.Assets, iv S.Liabilities, iv S.Worth, iv S.Revenue, iv S.Expense] := by rw [hP']; rfl
  have en : encL TPresented.cells h.Presented ++ [[iv n, iv ((versN h.Presented n : Int) + 1), iv S.Assets, iv S.Liabilities, iv S.Worth, iv S.Revenue, iv S.Expense]] = encL TPresented.cells (h.Presented ++ [P]) := by rw [← cPP]; exact encL_snoc TPresented.cells h.Presented P
  have nej : ¬ jd = H3.length := by omega
  have nej1 : ¬ jd = H3.length + 1 := by omega
  simp -dsimp -implicitDefEqProofs [-getElem?_pos, go_sem, hP, ho, nj, nej, nej1, en]
  refine ⟨by omega, by omega, ?_⟩
  obtain ⟨H5, hH5⟩ : ∃ H5 : Heap, H5 = H3.set jd none ++ [some ⟨56, 3, [[postsL h.Ledger.Postings, .sref (H3.length + 2) 0 (h.Presented.length + 1), x]]⟩, some ⟨62, 7, [[iv n, iv ((versN h.Presented n : Int) + 1), iv S.Assets, iv S.Liabilities, iv S.Worth, iv S.Revenue, iv S.Expense]]⟩, some ⟨62, 7, encL TPresented.cells (h.Presented ++ [P])⟩] := ⟨_, rfl⟩
  have f1 : H5[1]? = some (some ⟨56, 3, [[.nil, .nil, .nil]]⟩) := by rw [hH5, List.getElem?_append_left (by simp; omega), List.getElem?_set_ne (by omega), e1]
  have f2 : H5[2]? = some (some ⟨62, 7, [[iv 0, iv 0, iv 0, iv 0, iv 0, iv 0, iv 0]]⟩) := by rw [hH5, List.getElem?_append_left (by simp; omega), List.getElem?_set_ne (by omega), e2]
  have fo : H5[H3.length]? = some (some ⟨56, 3, [[postsL h.Ledger.Postings, .sref (H3.length + 2) 0 (h.Presented.length + 1), x]]⟩) := by rw [hH5, List.getElem?_append_right (by simp)]; simp
  have fp : H5[H3.length + 1]? = some (some ⟨62, 7, [[iv n, iv ((versN h.Presented n : Int) + 1), iv S.Assets, iv S.Liabilities, iv S.Worth, iv S.Revenue, iv S.Expense]]⟩) := by rw [hH5, List.getElem?_append_right (by simp)]; simp
  have fq : H5[H3.length + 2]? = some (some ⟨62, 7, encL TPresented.cells (h.Presented ++ [P])⟩) := by rw [hH5, List.getElem?_append_right (by simp)]; simp
  have hg5 : Grown B H5 x 66 3 (encL TCorrection.cells h.Corrections) := by
    rw [hH5]
    exact hg.kept (X := [jd]) ((kept_set _ (by simp) (kept_refl _ _)).trans (kept_app _ _ _)) (by simp; omega)
  rw [← hH5]
  clear hH5
  have m1 := (List.getElem?_eq_some_iff.1 f1).1
  have m2 := (List.getElem?_eq_some_iff.1 f2).1
  have mo := (List.getElem?_eq_some_iff.1 fo).1
  have mp := (List.getElem?_eq_some_iff.1 fp).1
  have o1 : ¬ H3.length = 1 := by omega
  have o2 : ¬ H3.length = 2 := by omega
  have o3 : ¬ H3.length + 1 = 1 := by omega
  have o4 : ¬ H3.length + 1 = 2 := by omega
  refine adrawB (fun i => decide (i = H3.length) || decide (i = H3.length + 1)) [] hP (by kernel_rfl) (by kernel_rfl) ?_
  simp -dsimp -implicitDefEqProofs [-getElem?_pos, go_sem, hP, fo, mo, fp, mp, f1, m1, f2, m2, hc]
  have k0 : ∀ i, (decide (i = H3.length) || decide (i = H3.length + 1)) = true → i ≠ 1 ∧ i ≠ 2 := fun i hi => by
    simp only [Bool.or_eq_true, decide_eq_true_eq] at hi
    omega
  refine ⟨fun i hi => ?_, fun i hi => ?_, ?_⟩
  · rw [List.getElem?_set_ne (k0 i hi).1.symm]
  · rw [List.getElem?_set_ne (k0 i hi).2.symm]
  refine done_agg3 (cs' := (THistory.mk h.Ledger (h.Presented ++ [P]) h.Corrections).cells) (cw_imm ip (cw_sref (ty := 62) (k := 7) (es := encL TPresented.cells (h.Presented ++ [P])) ?_ (by rw [encL_len]; simp) (imm_pres _) ((hg5.kept (X := [1, 2]) (kept_set _ (by simp) (kept_set _ (by simp) (kept_refl _ _))) (by simp; omega)).cw i3 .nil))) (by rw [← cPP]; exact imm_prs P) (by rw [← cPP])
  rw [List.getElem?_set_ne (by omega), List.getElem?_set_ne (by omega), fq]
end Go.Proofs.Ytellcfkpfccgaaa
