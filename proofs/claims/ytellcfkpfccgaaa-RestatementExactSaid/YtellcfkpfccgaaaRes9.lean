/- Restatement: what the reference presents, shows and explains. -/
import Derived.Test.YtellcfkpfccgaaaRes8
set_option linter.unusedSimpArgs false
set_option linter.unusedVariables false
namespace Go.Proofs.Ytellcfkpfccgaaa
open Go.PA
open Go.RowKit

theorem rShown_pf (h : THistory) (n v : Int) (hf : Fit h) : PFun Try.prog none none 51 [.agg h.cells, iv n, iv v] (· = .tup [.agg (shownH h n v).1.cells, bv (shownH h n v).2]) := by
  refine pfun_intro Try.func51 rfl (by simp [Try.f51]) (by kernel_rfl) ?_
  intro E hP hr hs hW hN
  have ck := hrcheck_pf h hf
  have ih := imm_his h
  have i2 := imm_pres h.Presented
  rw [cH] at ck ih
  have iz : Imm (.agg [iv 0, iv 0, iv 0, iv 0, iv 0]) := imm_st zeroSt
  have lp := hf.pres
  simp -dsimp -implicitDefEqProofs [-getElem?_pos, go_sem, hP, cH]
  refine callB_is (ck.lift _ _) hP en_46 (by simpa using ih) .sc ?_
  by_cases c1 : checkH h = 0
  rotate_left
  · have : shownH h n v = (zeroSt, false) := by rw [shownH, if_neg c1]
    simp -dsimp -implicitDefEqProofs [-getElem?_pos, go_sem, hP, c1]
    exact done_imm (imm_pair iz .sc) (by rw [this]; rfl)
  obtain ⟨R, hR⟩ : ∃ R, R = shownH h n v := ⟨_, rfl⟩
  have good : ∀ p, h.Presented.find? (isP n v) = some p → R = (p.Statement, true) := fun p e => by rw [hR, shownH, if_pos c1, e]
  have bad : h.Presented.find? (isP n v) = none → R = (zeroSt, false) := fun e => by rw [hR, shownH, if_pos c1, e]
  rw [← hR]
  obtain ⟨l, hl⟩ : ∃ l, l = h.Presented := ⟨_, rfl⟩
  rw [← hl] at good bad lp
  simp -dsimp -implicitDefEqProofs [-getElem?_pos, go_sem, hP, c1, ← hl]
  obtain ⟨I, hI⟩ : ∃ I : Nat → St → Prop, I = fun m s => ∃ (k : Nat), k ≤ l.length ∧ m = l.length - k ∧ l.find? (isP n v) = (l.drop k).find? (isP n v) ∧ s.t 1 = iv n ∧ s.t 2 = iv v ∧ s.t 6 = .ref 1 0 0 ∧ s.t 15 = presL l ∧ s.t 16 = iv l.length ∧ s.t 17 = iv k ∧ s.H[1]? = some (some ⟨48, 5, [[iv 0, iv 0, iv 0, iv 0, iv 0]]⟩) := ⟨_, rfl⟩
  refine aloop0 I (l.length) (by rw [hN]; rfl) ?_ ?_
  · rw [hI]
    exact ⟨0, by omega, by omega, by rw [List.drop_zero], by simp -dsimp -implicitDefEqProofs [-getElem?_pos, go_sem], by simp -dsimp -implicitDefEqProofs [-getElem?_pos, go_sem], by simp -dsimp -implicitDefEqProofs [-getElem?_pos, go_sem], by simp -dsimp -implicitDefEqProofs [-getElem?_pos, go_sem], by simp -dsimp -implicitDefEqProofs [-getElem?_pos, go_sem], by simp -dsimp -implicitDefEqProofs [-getElem?_pos, go_sem], by simp -dsimp -implicitDefEqProofs [-getElem?_pos, go_sem]⟩
  intro m s hs'
  rw [hI] at hs'
  obtain ⟨k, hk, hm, hq, t1, t2, t6, t15, t16, t17, h1⟩ := hs'
  have lt1 := (List.getElem?_eq_some_iff.1 h1).1
  simp -dsimp -implicitDefEqProofs [-getElem?_pos, go_sem, hP, t16, t17]
  refine condP (fun hh => ?_) (fun hh => ?_)
  · have hk : k < l.length := by simpa using hh
    obtain ⟨p, hp⟩ : ∃ p, l[k]? = some p := ⟨_, List.getElem?_eq_getElem hk⟩
    have wk := wrap_in ((k : Int) + 1) (by omega)
    rw [drop_get hp, List.find?_cons] at hq
    by_cases e1 : p.Year = n
    · by_cases e2 : p.Version = v
      · have : isP n v p = true := by simp [isP, e1, e2]
        rw [this] at hq
        have hb := good p hq
        rw [hb]
        simp -dsimp -implicitDefEqProofs [-getElem?_pos, go_sem, hP, t15, t17, hp, cPr, t1, t2, e1, e2, t6, h1, lt1]
        exact done_imm (imm_pair (imm_st p.Statement) .sc) rfl
      · have : isP n v p = false := by simp [isP, e2]
        rw [this] at hq
        have d2 := decide_eq_false e2
        simp -dsimp -implicitDefEqProofs [-getElem?_pos, go_sem, hP, t15, t17, hp, cPr, t1, t2, e1, d2, wk]
        refine ⟨l.length - (k + 1), by omega, ?_⟩
        rw [hI]
        exact ⟨k + 1, by omega, rfl, hq, by simp -dsimp -implicitDefEqProofs [-getElem?_pos, go_sem, t1], by simp -dsimp -implicitDefEqProofs [-getElem?_pos, go_sem, t2], by simp -dsimp -implicitDefEqProofs [-getElem?_pos, go_sem, t6], by simp -dsimp -implicitDefEqProofs [-getElem?_pos, go_sem, t15], by simp -dsimp -implicitDefEqProofs [-getElem?_pos, go_sem, t16], by simp -dsimp -implicitDefEqProofs [-getElem?_pos, go_sem], by simp -dsimp -implicitDefEqProofs [-getElem?_pos, go_sem, lt1, h1]⟩
    · have : isP n v p = false := by simp [isP, e1]
      rw [this] at hq
      have d1 := decide_eq_false e1
      simp -dsimp -implicitDefEqProofs [-getElem?_pos, go_sem, hP, t15, t17, hp, cPr, t1, t2, d1, wk]
      refine ⟨l.length - (k + 1), by omega, ?_⟩
      rw [hI]
      exact ⟨k + 1, by omega, rfl, hq, by simp -dsimp -implicitDefEqProofs [-getElem?_pos, go_sem, t1], by simp -dsimp -implicitDefEqProofs [-getElem?_pos, go_sem, t2], by simp -dsimp -implicitDefEqProofs [-getElem?_pos, go_sem, t6], by simp -dsimp -implicitDefEqProofs [-getElem?_pos, go_sem, t15], by simp -dsimp -implicitDefEqProofs [-getElem?_pos, go_sem, t16], by simp -dsimp -implicitDefEqProofs [-getElem?_pos, go_sem], by simp -dsimp -implicitDefEqProofs [-getElem?_pos, go_sem, lt1, h1]⟩
  · have hk : k = l.length := by simp at hh; omega
    subst hk
    rw [List.drop_length, List.find?_nil] at hq
    rw [bad hq]
    simp -dsimp -implicitDefEqProofs [-getElem?_pos, go_sem, hP, t6, h1, lt1]
    exact done_imm (imm_pair iz .sc) rfl

theorem resP_app (l m : List TPosting) : resP (l ++ m) = resP l + resP m := netP_app _ _ _ _
theorem resP_snoc (l : List TPosting) (p : TPosting) : resP (l ++ [p]) = resP l + addP (fun b => decide (classI b = 4 ∨ classI b = 5)) p := by
  rw [resP_app]; simp [resP, netP]
theorem resP_fine {l : List TPosting} (h : ∀ p, p ∈ l → PostOk p) : -(1000000000000 * (l.length : Int)) ≤ resP l ∧ resP l ≤ 1000000000000 * (l.length : Int) := netP_bound _ _ _ fun p hp => (h p hp).fine

set_option maxHeartbeats 2000000 in
theorem rEffect_pf (h : THistory) (n : Int) (hf : Fit h) : PFun Try.prog none none 52 [.agg h.cells, iv n] (· = .tup [iv (effectH h n).1, iv (effectH h n).2]) := by
  refine pfun_intro Try.func52 rfl (by simp [Try.f52]) (by kernel_rfl) ?_
  intro E hP hr hs hW hN
  have ck := hrcheck_pf h hf
  have ih := imm_his h
  rw [cH] at ck ih
  simp -dsimp -implicitDefEqProofs [-getElem?_pos, go_sem, hP, cH]
  refine callB_is (ck.lift _ _) hP en_46 (by simpa using ih) .sc ?_
  by_cases c1 : checkH h = 0
  rotate_left
  · have : effectH h n = (0, checkH h) := by rw [effectH, if_neg c1]
    simp -dsimp -implicitDefEqProofs [-getElem?_pos, go_sem, hP, c1]
    exact done_imm (imm_pair .sc .sc) (by rw [this])
  simp -dsimp -implicitDefEqProofs [-getElem?_pos, go_sem, hP, c1]
  refine callB_pure (ryear_pf n) hP en_92 (args_same (by simp -dsimp -implicitDefEqProofs [-getElem?_pos, go_sem])) .sc ?_
  cases c2 : yearB n
  · have : effectH h n = (0, 2) := by rw [effectH, if_pos c1, if_neg (by simp [c2])]
    simp -dsimp -implicitDefEqProofs [-getElem?_pos, go_sem, hP, c2]
    exact done_imm (imm_pair .sc .sc) (by rw [this])
  have this : effectH h n = (-resP (effP h n), 0) := by rw [effectH, if_pos c1, if_pos c2]
  rw [this]
  obtain ⟨f, hff⟩ : ∃ f : TCorrection → Bool, f = fun c => decide (c.Year = n) := ⟨_, rfl⟩
  have Pn : corrP f (h.Corrections.take h.Corrections.length) = effP h n := by rw [hff]; simp [effP]
  have cok := checkH_corr c1
  have lc := (checkH_ok c1).2.1
  obtain ⟨l, hlc⟩ : ∃ l, l = h.Corrections := ⟨_, rfl⟩
  rw [← hlc] at Pn cok lc
  have hcl : ∀ k, (corrP f (l.take k)).length ≤ 400 := fun k => by
    have := corrP_len f (l.take k) fun c hc => (cok c (List.mem_of_mem_take hc)).len.2
    have := List.length_take_le' k l
    omega
  have hco : ∀ k p, p ∈ corrP f (l.take k) → PostOk p := fun k p hp => by
    obtain ⟨c, h1, _, h3⟩ := corrP_mem hp
    exact ((cok c (List.mem_of_mem_take h1)).all p h3).1
  simp -dsimp -implicitDefEqProofs [-getElem?_pos, go_sem, hP, c2, ← hlc]
  obtain ⟨I, hI⟩ : ∃ I : Nat → St → Prop, I = fun m s => ∃ (k : Nat), k ≤ l.length ∧ m = l.length - k ∧ s.t 1 = iv n ∧ s.t 7 = iv (-resP (corrP f (l.take k))) ∧ s.t 23 = corrsL l ∧ s.t 24 = iv l.length ∧ s.t 25 = iv k := ⟨_, rfl⟩
  refine aloop0 I (l.length) (by rw [hN]; rfl) ?_ ?_
  · rw [hI]
    exact ⟨0, by omega, by omega, by simp -dsimp -implicitDefEqProofs [-getElem?_pos, go_sem], by simp -dsimp -implicitDefEqProofs [-getElem?_pos, go_sem]; rfl, by simp -dsimp -implicitDefEqProofs [-getElem?_pos, go_sem], by simp -dsimp -implicitDefEqProofs [-getElem?_pos, go_sem], by simp -dsimp -implicitDefEqProofs [-getElem?_pos, go_sem]⟩
  intro m s hs'
  rw [hI] at hs'
  obtain ⟨k, hk, hm, t1, t7, t23, t24, t25⟩ := hs'
  simp -dsimp -implicitDefEqProofs [-getElem?_pos, go_sem, hP, t24, t25]
  refine condP (fun hh => ?_) (fun hh => ?_)
  rotate_left
  · have hk : k = l.length := by simp at hh; omega
    subst hk
    rw [Pn] at t7
    simp -dsimp -implicitDefEqProofs [-getElem?_pos, go_sem, hP, t7]
    exact done_imm (imm_pair .sc .sc) rfl
  have hk : k < l.length := by simpa using hh
  obtain ⟨c, hcc⟩ : ∃ c, l[k]? = some c := ⟨_, List.getElem?_eq_getElem hk⟩
  have wk := wrap_in ((k : Int) + 1) (by omega)
  have nx := corrP_take (f := f) hcc
  have hfc : f c = decide (c.Year = n) := by rw [hff]
  rw [hfc] at nx
  have cc := cok c (List.mem_of_getElem? hcc)
  by_cases e1 : c.Year = n
  rotate_left
  · rw [if_neg (by simpa using e1), List.append_nil] at nx
    have d1 : decide (c.Year = n) = false := decide_eq_false e1
    simp -dsimp -implicitDefEqProofs [-getElem?_pos, go_sem, hP, t23, t25, hcc, cC, t1, d1, e1, wk]
    refine ⟨l.length - (k + 1), by omega, ?_⟩
    rw [hI]
    exact ⟨k + 1, by omega, rfl, by simp -dsimp -implicitDefEqProofs [-getElem?_pos, go_sem, t1], by rw [nx]; simp -dsimp -implicitDefEqProofs [-getElem?_pos, go_sem, t7], by simp -dsimp -implicitDefEqProofs [-getElem?_pos, go_sem, t23], by simp -dsimp -implicitDefEqProofs [-getElem?_pos, go_sem, t24], by simp -dsimp -implicitDefEqProofs [-getElem?_pos, go_sem]⟩
  rw [if_pos (by simpa using e1)] at nx
  have b0 := resP_fine (hco k)
  have b1 := hcl k
  obtain ⟨B, hB⟩ : ∃ B, B = -resP (corrP f (l.take k)) := ⟨_, rfl⟩
  rw [← hB] at t7
  have bB : -400000000000000 ≤ B ∧ B ≤ 400000000000000 := by omega
  have nxr : -resP (corrP f (l.take (k + 1))) = B - resP c.Postings := by rw [nx, resP_app]; omega
  obtain ⟨ps, hps⟩ : ∃ ps, ps = c.Postings := ⟨_, rfl⟩
  have pok : ∀ p, p ∈ ps → PostOk p := fun p hp => (cc.all p (hps ▸ hp)).1
  have pln : ps.length ≤ 20 := hps ▸ cc.len.2
  rw [← hps] at nxr
  have cC' : c.cells = [iv c.Year, iv c.Found, postsL ps] := by rw [hps]; rfl
  simp -dsimp -implicitDefEqProofs [-getElem?_pos, go_sem, hP, t23, t25, hcc, cC', t1, e1]
  obtain ⟨J, hJ⟩ : ∃ I : Nat → St → Prop, I = fun m s => ∃ (j : Nat), j ≤ ps.length ∧ m = ps.length - j ∧ s.t 1 = iv n ∧ s.t 7 = iv (B - resP (ps.take j)) ∧ s.t 23 = corrsL l ∧ s.t 24 = iv l.length ∧ s.t 25 = iv k ∧ s.t 34 = postsL ps ∧ s.t 35 = iv ps.length ∧ s.t 36 = iv j := ⟨_, rfl⟩
  refine aloop0 J (ps.length) (by rw [hN]; rfl) ?_ ?_
  · rw [hJ]
    exact ⟨0, by omega, by omega, by simp -dsimp -implicitDefEqProofs [-getElem?_pos, go_sem, t1], by simp -dsimp -implicitDefEqProofs [-getElem?_pos, go_sem, t7]; simp [resP, netP], by simp -dsimp -implicitDefEqProofs [-getElem?_pos, go_sem, t23], by simp -dsimp -implicitDefEqProofs [-getElem?_pos, go_sem, t24], by simp -dsimp -implicitDefEqProofs [-getElem?_pos, go_sem, t25], by simp -dsimp -implicitDefEqProofs [-getElem?_pos, go_sem], by simp -dsimp -implicitDefEqProofs [-getElem?_pos, go_sem], by simp -dsimp -implicitDefEqProofs [-getElem?_pos, go_sem]⟩
  clear t1 t7 t23 t24 t25 hh
  intro m s hs'
  rw [hJ] at hs'
  obtain ⟨j, hj, hm2, t1, t7, t23, t24, t25, t34, t35, t36⟩ := hs'
  simp -dsimp -implicitDefEqProofs [-getElem?_pos, go_sem, hP, t35, t36]
  refine condP (fun hh => ?_) (fun hh => ?_)
  rotate_left
  · have hj : j = ps.length := by simp at hh; omega
    subst hj
    rw [List.take_length] at t7
    simp -dsimp -implicitDefEqProofs [-getElem?_pos, go_sem, hP, t25, wk]
    refine ⟨l.length - (k + 1), by omega, ?_⟩
    rw [hI]
    exact ⟨k + 1, by omega, rfl, by simp -dsimp -implicitDefEqProofs [-getElem?_pos, go_sem, t1], by rw [nxr]; simp -dsimp -implicitDefEqProofs [-getElem?_pos, go_sem, t7], by simp -dsimp -implicitDefEqProofs [-getElem?_pos, go_sem, t23], by simp -dsimp -implicitDefEqProofs [-getElem?_pos, go_sem, t24], by simp -dsimp -implicitDefEqProofs [-getElem?_pos, go_sem]⟩
  have hj : j < ps.length := by simpa using hh
  obtain ⟨p, hp⟩ : ∃ p, ps[j]? = some p := ⟨_, List.getElem?_eq_getElem hj⟩
  have po := pok p (List.mem_of_getElem? hp)
  have hamt := po.amt
  have wj := wrap_in ((j : Int) + 1) (by omega)
  have b2 := resP_fine (l := ps.take j) fun p hp => pok p (List.mem_of_mem_take hp)
  rw [List.length_take, Nat.min_eq_left (by omega)] at b2
  have ad : resP (ps.take (j + 1)) = resP (ps.take j) + ((if classI p.Debit = 4 ∨ classI p.Debit = 5 then p.Amount else 0) - (if classI p.Credit = 4 ∨ classI p.Credit = 5 then p.Amount else 0)) := by
    rw [List.take_add_one, hp]
    exact (resP_snoc _ _).trans (by simp [addP])
  obtain ⟨M, hM⟩ : ∃ M, M = B - resP (ps.take j) := ⟨_, rfl⟩
  rw [← hM] at t7
  have nM : B - resP (ps.take (j + 1)) = M + (if classI p.Credit = 4 ∨ classI p.Credit = 5 then p.Amount else 0) - (if classI p.Debit = 4 ∨ classI p.Debit = 5 then p.Amount else 0) := by rw [ad]; omega
  have bM : -500000000000000 ≤ M ∧ M ≤ 500000000000000 := by omega
  have u1 := wrap_in (M + p.Amount) (by omega)
  have u2 := wrap_in (M - p.Amount) (by omega)
  have u3 := wrap_in (M + p.Amount - p.Amount) (by omega)
  have fin : ∀ (s' : St) (x : Int), x = B - resP (ps.take (j + 1)) → s'.t 1 = iv n → s'.t 7 = iv x → s'.t 23 = corrsL l → s'.t 24 = iv l.length → s'.t 25 = iv k → s'.t 34 = postsL ps → s'.t 35 = iv ps.length → s'.t 36 = iv ((j : Int) + 1) → J (ps.length - (j + 1)) s' := fun s' x hx g1 g2 g3 g4 g5 g6 g7 g8 => by
    rw [hJ]
    exact ⟨j + 1, by omega, rfl, g1, by rw [g2, hx], g3, g4, g5, g6, g7, g8⟩
  simp -dsimp -implicitDefEqProofs [-getElem?_pos, go_sem, hP, t34, t36, hp, cP]
  refine callB_pure (rclass_pf p.Credit) hP en_25 (args_same (by simp -dsimp -implicitDefEqProofs [-getElem?_pos, go_sem])) .sc ?_
  obtain ⟨kc, hkc⟩ : ∃ kc, kc = classI p.Credit := ⟨_, rfl⟩
  obtain ⟨kd, hkd⟩ : ∃ kd, kd = classI p.Debit := ⟨_, rfl⟩
  have rd := rclass_pf p.Debit
  rw [← hkd] at rd nM
  rw [← hkc] at nM ⊢
  have u3' := wrap_in M (by omega)
  have cd : kd = 4 ∨ kd = 5 ∨ (¬ kd = 4 ∧ ¬ kd = 5) := by omega
  have cc : kc = 4 ∨ kc = 5 ∨ (¬ kc = 4 ∧ ¬ kc = 5) := by omega
  rcases cc with ec4 | ec5 | ⟨hc4, hc5⟩
  · simp -dsimp -implicitDefEqProofs [-getElem?_pos, go_sem, hP, ec4, t7, u1]
    refine callB_pure rd hP en_25 (args_same (by simp -dsimp -implicitDefEqProofs [-getElem?_pos, go_sem])) .sc ?_
    rcases cd with ed4 | ed5 | ⟨hd4, hd5⟩
    · simp -dsimp -implicitDefEqProofs [-getElem?_pos, go_sem, hP, ed4, Int.add_sub_cancel, u3', t36, wj]
      refine ⟨ps.length - (j + 1), by omega, fin _ (M) (by rw [if_pos (by omega), if_pos (by omega)] at nM; omega) (by simp -dsimp -implicitDefEqProofs [-getElem?_pos, go_sem, t1]) (by simp -dsimp -implicitDefEqProofs [-getElem?_pos, go_sem]) (by simp -dsimp -implicitDefEqProofs [-getElem?_pos, go_sem, t23]) (by simp -dsimp -implicitDefEqProofs [-getElem?_pos, go_sem, t24]) (by simp -dsimp -implicitDefEqProofs [-getElem?_pos, go_sem, t25]) (by simp -dsimp -implicitDefEqProofs [-getElem?_pos, go_sem, t34]) (by simp -dsimp -implicitDefEqProofs [-getElem?_pos, go_sem, t35]) (by simp -dsimp -implicitDefEqProofs [-getElem?_pos, go_sem])⟩
    · simp -dsimp -implicitDefEqProofs [-getElem?_pos, go_sem, hP, ed5, Int.add_sub_cancel, u3', t36, wj]
      refine ⟨ps.length - (j + 1), by omega, fin _ (M) (by rw [if_pos (by omega), if_pos (by omega)] at nM; omega) (by simp -dsimp -implicitDefEqProofs [-getElem?_pos, go_sem, t1]) (by simp -dsimp -implicitDefEqProofs [-getElem?_pos, go_sem]) (by simp -dsimp -implicitDefEqProofs [-getElem?_pos, go_sem, t23]) (by simp -dsimp -implicitDefEqProofs [-getElem?_pos, go_sem, t24]) (by simp -dsimp -implicitDefEqProofs [-getElem?_pos, go_sem, t25]) (by simp -dsimp -implicitDefEqProofs [-getElem?_pos, go_sem, t34]) (by simp -dsimp -implicitDefEqProofs [-getElem?_pos, go_sem, t35]) (by simp -dsimp -implicitDefEqProofs [-getElem?_pos, go_sem])⟩
    · simp -dsimp -implicitDefEqProofs [-getElem?_pos, go_sem, hP, hd4, hd5, t36, wj]
      refine ⟨ps.length - (j + 1), by omega, fin _ (M + p.Amount) (by rw [if_pos (by omega), if_neg (by omega)] at nM; omega) (by simp -dsimp -implicitDefEqProofs [-getElem?_pos, go_sem, t1]) (by simp -dsimp -implicitDefEqProofs [-getElem?_pos, go_sem]) (by simp -dsimp -implicitDefEqProofs [-getElem?_pos, go_sem, t23]) (by simp -dsimp -implicitDefEqProofs [-getElem?_pos, go_sem, t24]) (by simp -dsimp -implicitDefEqProofs [-getElem?_pos, go_sem, t25]) (by simp -dsimp -implicitDefEqProofs [-getElem?_pos, go_sem, t34]) (by simp -dsimp -implicitDefEqProofs [-getElem?_pos, go_sem, t35]) (by simp -dsimp -implicitDefEqProofs [-getElem?_pos, go_sem])⟩
  · simp -dsimp -implicitDefEqProofs [-getElem?_pos, go_sem, hP, ec5, t7, u1]
    refine callB_pure rd hP en_25 (args_same (by simp -dsimp -implicitDefEqProofs [-getElem?_pos, go_sem])) .sc ?_
    rcases cd with ed4 | ed5 | ⟨hd4, hd5⟩
    · simp -dsimp -implicitDefEqProofs [-getElem?_pos, go_sem, hP, ed4, Int.add_sub_cancel, u3', t36, wj]
      refine ⟨ps.length - (j + 1), by omega, fin _ (M) (by rw [if_pos (by omega), if_pos (by omega)] at nM; omega) (by simp -dsimp -implicitDefEqProofs [-getElem?_pos, go_sem, t1]) (by simp -dsimp -implicitDefEqProofs [-getElem?_pos, go_sem]) (by simp -dsimp -implicitDefEqProofs [-getElem?_pos, go_sem, t23]) (by simp -dsimp -implicitDefEqProofs [-getElem?_pos, go_sem, t24]) (by simp -dsimp -implicitDefEqProofs [-getElem?_pos, go_sem, t25]) (by simp -dsimp -implicitDefEqProofs [-getElem?_pos, go_sem, t34]) (by simp -dsimp -implicitDefEqProofs [-getElem?_pos, go_sem, t35]) (by simp -dsimp -implicitDefEqProofs [-getElem?_pos, go_sem])⟩
    · simp -dsimp -implicitDefEqProofs [-getElem?_pos, go_sem, hP, ed5, Int.add_sub_cancel, u3', t36, wj]
      refine ⟨ps.length - (j + 1), by omega, fin _ (M) (by rw [if_pos (by omega), if_pos (by omega)] at nM; omega) (by simp -dsimp -implicitDefEqProofs [-getElem?_pos, go_sem, t1]) (by simp -dsimp -implicitDefEqProofs [-getElem?_pos, go_sem]) (by simp -dsimp -implicitDefEqProofs [-getElem?_pos, go_sem, t23]) (by simp -dsimp -implicitDefEqProofs [-getElem?_pos, go_sem, t24]) (by simp -dsimp -implicitDefEqProofs [-getElem?_pos, go_sem, t25]) (by simp -dsimp -implicitDefEqProofs [-getElem?_pos, go_sem, t34]) (by simp -dsimp -implicitDefEqProofs [-getElem?_pos, go_sem, t35]) (by simp -dsimp -implicitDefEqProofs [-getElem?_pos, go_sem])⟩
    · simp -dsimp -implicitDefEqProofs [-getElem?_pos, go_sem, hP, hd4, hd5, t36, wj]
      refine ⟨ps.length - (j + 1), by omega, fin _ (M + p.Amount) (by rw [if_pos (by omega), if_neg (by omega)] at nM; omega) (by simp -dsimp -implicitDefEqProofs [-getElem?_pos, go_sem, t1]) (by simp -dsimp -implicitDefEqProofs [-getElem?_pos, go_sem]) (by simp -dsimp -implicitDefEqProofs [-getElem?_pos, go_sem, t23]) (by simp -dsimp -implicitDefEqProofs [-getElem?_pos, go_sem, t24]) (by simp -dsimp -implicitDefEqProofs [-getElem?_pos, go_sem, t25]) (by simp -dsimp -implicitDefEqProofs [-getElem?_pos, go_sem, t34]) (by simp -dsimp -implicitDefEqProofs [-getElem?_pos, go_sem, t35]) (by simp -dsimp -implicitDefEqProofs [-getElem?_pos, go_sem])⟩
  · simp -dsimp -implicitDefEqProofs [-getElem?_pos, go_sem, hP, hc4, hc5]
    refine callB_pure rd hP en_25 (args_same (by simp -dsimp -implicitDefEqProofs [-getElem?_pos, go_sem])) .sc ?_
    rcases cd with ed4 | ed5 | ⟨hd4, hd5⟩
    · simp -dsimp -implicitDefEqProofs [-getElem?_pos, go_sem, hP, ed4, t7, u2, t36, wj]
      refine ⟨ps.length - (j + 1), by omega, fin _ (M - p.Amount) (by rw [if_neg (by omega), if_pos (by omega)] at nM; omega) (by simp -dsimp -implicitDefEqProofs [-getElem?_pos, go_sem, t1]) (by simp -dsimp -implicitDefEqProofs [-getElem?_pos, go_sem]) (by simp -dsimp -implicitDefEqProofs [-getElem?_pos, go_sem, t23]) (by simp -dsimp -implicitDefEqProofs [-getElem?_pos, go_sem, t24]) (by simp -dsimp -implicitDefEqProofs [-getElem?_pos, go_sem, t25]) (by simp -dsimp -implicitDefEqProofs [-getElem?_pos, go_sem, t34]) (by simp -dsimp -implicitDefEqProofs [-getElem?_pos, go_sem, t35]) (by simp -dsimp -implicitDefEqProofs [-getElem?_pos, go_sem])⟩
    · simp -dsimp -implicitDefEqProofs [-getElem?_pos, go_sem, hP, ed5, t7, u2, t36, wj]
      refine ⟨ps.length - (j + 1), by omega, fin _ (M - p.Amount) (by rw [if_neg (by omega), if_pos (by omega)] at nM; omega) (by simp -dsimp -implicitDefEqProofs [-getElem?_pos, go_sem, t1]) (by simp -dsimp -implicitDefEqProofs [-getElem?_pos, go_sem]) (by simp -dsimp -implicitDefEqProofs [-getElem?_pos, go_sem, t23]) (by simp -dsimp -implicitDefEqProofs [-getElem?_pos, go_sem, t24]) (by simp -dsimp -implicitDefEqProofs [-getElem?_pos, go_sem, t25]) (by simp -dsimp -implicitDefEqProofs [-getElem?_pos, go_sem, t34]) (by simp -dsimp -implicitDefEqProofs [-getElem?_pos, go_sem, t35]) (by simp -dsimp -implicitDefEqProofs [-getElem?_pos, go_sem])⟩
    · simp -dsimp -implicitDefEqProofs [-getElem?_pos, go_sem, hP, hd4, hd5, t7, t36, wj]
      refine ⟨ps.length - (j + 1), by omega, fin _ (M) (by rw [if_neg (by omega), if_neg (by omega)] at nM; omega) (by simp -dsimp -implicitDefEqProofs [-getElem?_pos, go_sem, t1]) (by simp -dsimp -implicitDefEqProofs [-getElem?_pos, go_sem, t7]) (by simp -dsimp -implicitDefEqProofs [-getElem?_pos, go_sem, t23]) (by simp -dsimp -implicitDefEqProofs [-getElem?_pos, go_sem, t24]) (by simp -dsimp -implicitDefEqProofs [-getElem?_pos, go_sem, t25]) (by simp -dsimp -implicitDefEqProofs [-getElem?_pos, go_sem, t34]) (by simp -dsimp -implicitDefEqProofs [-getElem?_pos, go_sem, t35]) (by simp -dsimp -implicitDefEqProofs [-getElem?_pos, go_sem])⟩
end Go.Proofs.Ytellcfkpfccgaaa
