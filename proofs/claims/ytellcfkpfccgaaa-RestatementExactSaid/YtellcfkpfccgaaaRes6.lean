/- Restatement: what is presented and shown. -/
import Derived.Test.YtellcfkpfccgaaaRes5
set_option linter.unusedSimpArgs false
set_option linter.unusedVariables false
namespace Go.Proofs.Ytellcfkpfccgaaa
open Go.PA
open Go.RowKit

theorem find_idx {α : Type} (p : α → Bool) (l : List α) : (idxI p l = -1 ∧ l.find? p = none) ∨ ∃ (i : Nat) (s : α), idxI p l = i ∧ l[i]? = some s ∧ l.find? p = some s := by
  suffices h : ∀ (l : List α) (k : Nat), (idxFrom p k l = -1 ∧ l.find? p = none) ∨ ∃ (i : Nat) (s : α), idxFrom p k l = ((k + i : Nat) : Int) ∧ l[i]? = some s ∧ l.find? p = some s by
    have := h l 0
    simpa [idxI] using this
  intro l
  induction l with
  | nil => exact fun k => .inl ⟨rfl, rfl⟩
  | cons a l ih =>
    intro k
    rw [idxFrom, List.find?_cons]
    cases h : p a
    · simp only [Bool.false_eq_true, if_false]
      rcases ih (k + 1) with h | ⟨i, s, h1, h2, h3⟩
      · exact .inl h
      · exact .inr ⟨i + 1, s, by rw [h1]; congr 1; omega, h2, h3⟩
    · simp only [if_true]
      exact .inr ⟨0, a, by simp, rfl, rfl⟩
theorem sumsL_bound {l : List TPosting} (h : FineL l) (e f t : Int) : (-9000000000000000 ≤ (sumsL l e f t).Revenue ∧ (sumsL l e f t).Revenue ≤ 9000000000000000) ∧ (-9000000000000000 ≤ (sumsL l e f t).Expense ∧ (sumsL l e f t).Expense ≤ 9000000000000000) := by
  obtain ⟨h1, h2⟩ := h
  have b1 := netP_bound (fun b => decide (classI b = 4)) (ofB e f t) l h1
  have b2 := netP_bound (fun b => decide (classI b = 5)) (ofB e f t) l h1
  show (_ ≤ -netP _ _ l ∧ -netP _ _ l ≤ _) ∧ (_ ≤ netP _ _ l ∧ netP _ _ l ≤ _)
  omega
theorem resP_bound {h : THistory} (hh : checkH h = 0) (n : Int) : -400000000000000 ≤ resP (effP h n) ∧ resP (effP h n) ≤ 400000000000000 := by
  obtain ⟨ok1, ok2⟩ := corrP_ok hh fun c => decide (c.Year = n)
  have bd := netP_bound (fun b => decide (classI b = 4 ∨ classI b = 5)) (fun _ => true) (effP h n) fun p hp => (ok1 p hp).fine
  have bd2 : (effP h n).length ≤ 400 := ok2
  show _ ≤ netP _ _ (effP h n) ∧ netP _ _ (effP h n) ≤ _
  omega

set_option maxHeartbeats 1000000 in
theorem Explained_pf (h : THistory) (n : Int) (hf : Fit h) : PFun Try.prog none none 37 [.agg h.cells, iv n] (· = bv (explainedH h n)) := by
  refine pfun_intro Try.func37 rfl (by simp [Try.f37]) (by kernel_rfl) ?_
  intro E hP hr hs hW hN
  have ck := hcheck_pf h hf
  have ih := imm_his h
  have ip := imm_posts h.Ledger.Postings
  rw [cH] at ck ih
  simp -dsimp -implicitDefEqProofs [-getElem?_pos, go_sem, hP, cH]
  refine callB_is (ck.lift _ _) hP en_28 (by simpa using ih) .sc ?_
  by_cases c1 : checkH h = 0
  rotate_left
  · have : explainedH h n = false := by rw [explainedH, decide_eq_false c1]; rfl
    simp -dsimp -implicitDefEqProofs [-getElem?_pos, go_sem, hP, c1, this]
  simp -dsimp -implicitDefEqProofs [-getElem?_pos, go_sem, hP, c1]
  refine callB_pure (year_pf n) hP en_85 (args_same (by simp -dsimp -implicitDefEqProofs [-getElem?_pos, go_sem])) .sc ?_
  cases c2 : yearB n
  · have : explainedH h n = false := by rw [explainedH, decide_eq_true c1, c2]; rfl
    simp -dsimp -implicitDefEqProofs [-getElem?_pos, go_sem, hP, c2, this]
  have : explainedH h n = true := by rw [explainedH, decide_eq_true c1, c2]; rfl
  rw [this]
  have hn := betw_iff.1 c2
  have w1 := wrap_in (360 * n) (by omega)
  have w2 := wrap_in (360 * n + 359) (by omega)
  have f1 : FineL (restP h n) := fine_ok (restP_ok c1 n).1 (by have := (restP_ok c1 n).2; omega)
  have f2 : FineL h.Ledger.Postings := checkL_fine (checkH_ok c1).1
  have re := restd_pf h n hf f1 c2
  have su := sums_pf h.Ledger.Postings 0 (360 * n) (360 * n + 359) f2 (by omega)
  have ef := eff_pf h n hf c1
  have ex := explain c1 n
  have b1 := sumsL_bound f1 0 (360 * n) (360 * n + 359)
  have b2 := sumsL_bound f2 0 (360 * n) (360 * n + 359)
  have b3 := resP_bound c1 n
  rw [show sumsL (restP h n) 0 (360 * n) (360 * n + 359) = restL h n from rfl] at b1
  rw [cH] at re ef
  generalize restL h n = S at re ex b1
  generalize sumsL h.Ledger.Postings 0 (360 * n) (360 * n + 359) = T at su ex b2
  generalize -resP (effP h n) = R at ef ex
  have w3 := wrap_in (S.Revenue - S.Expense) (by omega)
  have w4 := wrap_in (T.Revenue - T.Expense) (by omega)
  have w5 := wrap_in (T.Revenue - T.Expense + R) (by omega)
  have dd : decide (S.Revenue - S.Expense = T.Revenue - T.Expense + R) = true := decide_eq_true ex
  simp -dsimp -implicitDefEqProofs [-getElem?_pos, go_sem, hP, c2]
  obtain ⟨Inv, hInv⟩ : ∃ Inv : St → Prop, Inv = fun s => ∃ (p q : Nat), s.t 1 = iv n ∧ s.t 2 = .ref 0 0 0 ∧ s.t 5 = .ref p 0 0 ∧ s.t 6 = .ref q 0 0 ∧ s.H[0]? = some (some ⟨56, 3, [[postsL h.Ledger.Postings, presL h.Presented, corrsL h.Corrections]]⟩) ∧ s.H[p]? = some (some ⟨48, 5, [[iv S.Assets, iv S.Liabilities, iv S.Worth, iv S.Revenue, iv S.Expense]]⟩) ∧ s.H[q]? = some (some ⟨48, 5, [[iv T.Assets, iv T.Liabilities, iv T.Worth, iv T.Revenue, iv T.Expense]]⟩) := ⟨_, rfl⟩
  refine adraw_cut Inv ?_ ?_
  · refine adrawK (fun i => decide (i < 1)) [] [2, 11] 12 hP (by kernel_rfl) (by kernel_rfl) (by simp) ?_
    simp -dsimp -implicitDefEqProofs [-getElem?_pos, go_sem, hP, List.take_succ_cons, List.take_zero, restr_get]
    refine callQ_is (re.lift _ _) hP en_86 (by simp [imm_sc]; exact ih) (imm_st S) ?_
    simp -dsimp -implicitDefEqProofs [-getElem?_pos, go_sem, hP, restr_get, w1, w2]
    refine callQ_is (su.lift _ _) hP en_77 (by simp [imm_sc, ip]) (imm_st T) ?_
    simp -dsimp -implicitDefEqProofs [-getElem?_pos, go_sem, hP, cS]
    have aD : ∀ (a : Option AObj) (l l' : Heap), Agree (fun i => decide (i = 0)) (a :: l) (a :: l') := fun a l l' => agree_1
    refine xany_two (i := 12) (j := 13) (by kernel_rfl) rfl rfl ?_ ?_
    · simp -dsimp -implicitDefEqProofs [-getElem?_pos, go_sem, hP]
      refine ⟨aD _ _ _, ?_⟩
      refine xany_one (i := 13) (by kernel_rfl) rfl ?_
      simp -dsimp -implicitDefEqProofs [-getElem?_pos, go_sem, hP]
      refine ⟨aD _ _ _, ?_⟩
      refine xany_one (i := 14) (by kernel_rfl) rfl ?_
      simp -dsimp -implicitDefEqProofs [-getElem?_pos, go_sem, hP]
      refine ⟨aD _ _ _, ?_⟩
      refine xany_one (i := 15) (by kernel_rfl) rfl ?_
      simp -dsimp -implicitDefEqProofs [-getElem?_pos, go_sem, hP]
      refine ⟨aD _ _ _, ?_⟩
      refine xany_nil (by kernel_rfl) ?_
      rw [hInv]
      exact ⟨1, 2, by simp -dsimp -implicitDefEqProofs [-getElem?_pos, go_sem], by simp -dsimp -implicitDefEqProofs [-getElem?_pos, go_sem], by simp -dsimp -implicitDefEqProofs [-getElem?_pos, go_sem], by simp -dsimp -implicitDefEqProofs [-getElem?_pos, go_sem], by simp -dsimp -implicitDefEqProofs [-getElem?_pos, go_sem], by simp -dsimp -implicitDefEqProofs [-getElem?_pos, go_sem], by simp -dsimp -implicitDefEqProofs [-getElem?_pos, go_sem]⟩
    · simp -dsimp -implicitDefEqProofs [-getElem?_pos, go_sem, hP]
      refine ⟨aD _ _ _, ?_⟩
      refine xany_one (i := 12) (by kernel_rfl) rfl ?_
      simp -dsimp -implicitDefEqProofs [-getElem?_pos, go_sem, hP]
      refine ⟨aD _ _ _, ?_⟩
      refine xany_one (i := 14) (by kernel_rfl) rfl ?_
      simp -dsimp -implicitDefEqProofs [-getElem?_pos, go_sem, hP]
      refine ⟨aD _ _ _, ?_⟩
      refine xany_one (i := 15) (by kernel_rfl) rfl ?_
      simp -dsimp -implicitDefEqProofs [-getElem?_pos, go_sem, hP]
      refine ⟨aD _ _ _, ?_⟩
      refine xany_nil (by kernel_rfl) ?_
      rw [hInv]
      exact ⟨2, 1, by simp -dsimp -implicitDefEqProofs [-getElem?_pos, go_sem], by simp -dsimp -implicitDefEqProofs [-getElem?_pos, go_sem], by simp -dsimp -implicitDefEqProofs [-getElem?_pos, go_sem], by simp -dsimp -implicitDefEqProofs [-getElem?_pos, go_sem], by simp -dsimp -implicitDefEqProofs [-getElem?_pos, go_sem], by simp -dsimp -implicitDefEqProofs [-getElem?_pos, go_sem], by simp -dsimp -implicitDefEqProofs [-getElem?_pos, go_sem]⟩
  rw [hInv]
  rintro s ⟨p, q, t1, t2, t5, t6, h0, hp, hq⟩
  have lt0 := (List.getElem?_eq_some_iff.1 h0).1
  have ltp := (List.getElem?_eq_some_iff.1 hp).1
  have ltq := (List.getElem?_eq_some_iff.1 hq).1
  simp -dsimp -implicitDefEqProofs [-getElem?_pos, go_sem, hP]
  refine adrawB (fun _ => true) [] hP (by kernel_rfl) (by kernel_rfl) ?_
  simp -dsimp -implicitDefEqProofs [-getElem?_pos, go_sem, hP, t1, t2, t5, t6, h0, lt0, hp, ltp, hq, ltq, w3, w4]
  refine callB_is (ef.lift _ _) hP en_90 (by simp [imm_sc]; exact ih) .sc ?_
  simp -dsimp -implicitDefEqProofs [-getElem?_pos, go_sem, hP, w5, dd]

theorem shows_pf (p : TPresented) (n v : Int) : PFun Try.prog none none 81 [.agg p.cells, .iref [iv n], .iref [iv v]] (· = bv (isP n v p)) := by
  refine pfun_intro Try.func81 rfl (by simp [Try.f81]) (by kernel_rfl) ?_
  intro E hP hr hs hW hN
  by_cases h1 : p.Year = n
  · by_cases h2 : p.Version = v <;> simp -dsimp -implicitDefEqProofs [-getElem?_pos, go_sem, hP, cPr, h1, h2, isP]
  · simp -dsimp -implicitDefEqProofs [-getElem?_pos, go_sem, hP, cPr, h1, isP]

theorem index_pf_presented (l : List TPresented) (g : FuncId) (caps : List AV) (p : TPresented → Bool) (hl : l.length ≤ 1000000) (hen : enterable Try.prog g = true) (hcap : ∀ a, a ∈ caps → Imm a)
    (hg : ∀ a, a ∈ l → PFun Try.prog none none g (.agg (TPresented.cells a) :: caps) (· = bv (p a))) :
    PFun Try.prog none none 80 [.list 7 (encL TPresented.cells l), .fn g caps] (· = iv (idxI p l)) := by
  refine pfun_intro Try.func80 rfl (by simp [Try.f80]) (by kernel_rfl) ?_
  intro E hP hr hs hW hN
  simp -dsimp -implicitDefEqProofs [-getElem?_pos, go_sem, hP]
  obtain ⟨I, hI⟩ : ∃ I : Nat → St → Prop, I = fun m s => ∃ k : Nat, k ≤ l.length ∧ m = l.length - k ∧ idxI p l = idxFrom p k (l.drop k) ∧ s.t 0 = .list 7 (encL TPresented.cells l) ∧ s.t 1 = .fn g caps ∧ s.t 7 = iv l.length ∧ s.t 8 = iv k := ⟨_, rfl⟩
  refine aloop0 I (l.length) (by rw [hN]; rfl) ?_ ?_
  · rw [hI]
    exact ⟨0, by omega, by omega, by simp [idxI], by simp -dsimp -implicitDefEqProofs [-getElem?_pos, go_sem], by simp -dsimp -implicitDefEqProofs [-getElem?_pos, go_sem], by simp -dsimp -implicitDefEqProofs [-getElem?_pos, go_sem], by simp -dsimp -implicitDefEqProofs [-getElem?_pos, go_sem]⟩
  intro m s hs'
  rw [hI] at hs'
  obtain ⟨k, hk, hm, hi, t0, t1, t7, t8⟩ := hs'
  simp -dsimp -implicitDefEqProofs [-getElem?_pos, go_sem, hP, t7, t8]
  refine condP (fun h => ?_) (fun h => ?_)
  · have hk : k < l.length := by simpa using h
    obtain ⟨a, ha⟩ : ∃ a, l[k]? = some a := ⟨_, List.getElem?_eq_getElem hk⟩
    have wk := wrap_in ((k : Int) + 1) (by omega)
    have hz : (TPresented.cells a).take 7 = TPresented.cells a := List.take_of_length_le (by rw [TPresented.len]; omega)
    have hd : l.drop k = a :: l.drop (k + 1) := by
      rw [List.getElem?_eq_getElem hk] at ha
      rw [List.drop_eq_getElem_cons hk, Option.some.inj ha]
    simp -dsimp -implicitDefEqProofs [-getElem?_pos, go_sem, hP, t8, t1, t0, ha, TPresented.len, hz]
    refine callB_is ((hg a (List.mem_of_getElem? ha)).lift _ _) hP hen (fun x hx => ?_) .sc ?_
    · rcases List.mem_cons.1 hx with rfl | hx
      · exact imm_agg.2 (TPresented.imm a)
      · exact hcap x hx
    rw [hd] at hi
    simp only [idxFrom] at hi
    simp -dsimp -implicitDefEqProofs [-getElem?_pos, go_sem, hP]
    refine condP (fun hp => ?_) (fun hp => ?_)
    · rw [if_pos hp] at hi
      simp -dsimp -implicitDefEqProofs [-getElem?_pos, go_sem, hP]
      exact hi.symm
    · rw [hp, if_neg (by simp)] at hi
      simp -dsimp -implicitDefEqProofs [-getElem?_pos, go_sem, hP, t8, wk]
      refine ⟨l.length - (k + 1), by omega, ?_⟩
      rw [hI]
      exact ⟨k + 1, by omega, rfl, hi, by simp -dsimp -implicitDefEqProofs [-getElem?_pos, go_sem, t0], by simp -dsimp -implicitDefEqProofs [-getElem?_pos, go_sem, t1], by simp -dsimp -implicitDefEqProofs [-getElem?_pos, go_sem, t7], by simp -dsimp -implicitDefEqProofs [-getElem?_pos, go_sem]⟩
  · have hk : k = l.length := by simp at h; omega
    subst hk
    rw [List.drop_length] at hi
    simp -dsimp -implicitDefEqProofs [-getElem?_pos, go_sem, hP]
    exact hi.symm


theorem Shown_pf (h : THistory) (n v : Int) (hf : Fit h) : PFun Try.prog none none 29 [.agg h.cells, iv n, iv v] (· = .tup [.agg (shownH h n v).1.cells, bv (shownH h n v).2]) := by
  refine pfun_intro Try.func29 rfl (by simp [Try.f29]) (by kernel_rfl) ?_
  intro E hP hr hs hW hN
  have ck := hcheck_pf h hf
  have ih := imm_his h
  have i2 := imm_pres h.Presented
  rw [cH] at ck ih
  have iz : Imm (.agg [iv 0, iv 0, iv 0, iv 0, iv 0]) := imm_st zeroSt
  have lp := hf.pres
  simp -dsimp -implicitDefEqProofs [-getElem?_pos, go_sem, hP, cH]
  refine callB_pure (index_pf_presented h.Presented 81 [.iref [iv n], .iref [iv v]] (isP n v) (by omega) en_81 (by simp [imm_iref, imm_sc]) fun p _ => shows_pf p n v) hP en_80 (args_imm i2 (args_fn (by simp -dsimp -implicitDefEqProofs [-getElem?_pos, go_sem, viewR_ref]) (by simp [imm_iref, imm_sc]) (args_nil.2 trivial))) .sc ?_
  rcases find_idx (isP n v) h.Presented with ⟨h1, h2⟩ | ⟨i, p, h1, h2, h3⟩
  · have : shownH h n v = (zeroSt, false) := by rw [shownH, h2]; split <;> rfl
    simp -dsimp -implicitDefEqProofs [-getElem?_pos, go_sem, hP, h1]
    exact done_imm (imm_pair iz .sc) (by rw [this]; rfl)
  have d1 : decide ((i : Int) < 0) = false := decide_eq_false (by omega)
  simp -dsimp -implicitDefEqProofs [-getElem?_pos, go_sem, hP, h1, d1]
  refine callB_is (ck.lift _ _) hP en_28 (by simpa using ih) .sc ?_
  by_cases c1 : checkH h = 0
  rotate_left
  · have : shownH h n v = (zeroSt, false) := by rw [shownH, if_neg c1]
    simp -dsimp -implicitDefEqProofs [-getElem?_pos, go_sem, hP, c1]
    exact done_imm (imm_pair iz .sc) (by rw [this]; rfl)
  have : shownH h n v = (p.Statement, true) := by rw [shownH, if_pos c1, h3]
  rw [this]
  simp -dsimp -implicitDefEqProofs [-getElem?_pos, go_sem, hP, c1, h2, cPr]
  exact done_imm (imm_pair (imm_st p.Statement) .sc) rfl
end Go.Proofs.Ytellcfkpfccgaaa
