/- RestatementLater: the walk. -/
import Derived.Test.YtellcfkpfccgaaaResSane
set_option linter.unusedSimpArgs false
set_option linter.unusedVariables false
namespace Go.Proofs.Ytellcfkpfccgaaa
open Go.PA
open Go.RowKit

set_option maxRecDepth 8000 in
set_option maxHeartbeats 4000000 in
theorem later44_law_pf (xs : List Int) (hx : Small xs) (hl : xs.length ≤ 9223372036854775807) :
    PFun Try.prog none none 8 [intsL xs] (· = bv true) := by
  refine pfun_introA Try.func8 rfl (by simp [Try.f8]) ?_
  intro E hP hr hs hW hN
  refine awp_cut (by rw [hN]; kernel_rfl) ?_
  simp [go_sem, hP]
  refine awp_cut (by rw [hN]; kernel_rfl) ?_
  simp [go_sem, hP]
  have hnew : POwn Try.prog E.row E.src 15 [intsL xs] 112 2 (· = [[intsL (xs.take 900), iv 0]]) := by rw [hr, hs]; exact new_pf xs hl
  refine callB_own hnew hP en_15 (args_same (by simp [go_sem, intsL])) (by simp [srefs_imm, go_sem, intsL]) ⟨_, rfl⟩ ?_
  rintro es rfl
  simp [go_sem, hP]
  refine awp_adopt 3 (ty := 112) (xs := xs.take 900) (at_ := 0) hr hs hW (by simp [go_sem]) (by simp [go_sem, intsL]) (by omega) (by simp; omega) (fun x hx' => hx x (List.mem_of_mem_take hx')) (by rw [hN]; kernel_rfl) ?_
  intro E' p hP' hr' hN' hW'
  rw [hP] at hP'
  rw [hN] at hN'
  clear hnew hP hr hs hW hN E
  rename Env => E
  rename E.P = _ => hP
  rename E.row = _ => hr
  rename E.N = _ => hN
  rename (∀ b, ¬ E.W b) => hW
  obtain ⟨src, hs⟩ : ∃ src, E.src = src := ⟨_, rfl⟩
  have up : ∀ {f : FuncId} {args : List AV} {Q : AV → Prop}, PFun Try.prog (some p) src f args Q → PFun Try.prog E.row E.src f args Q := fun h => hr ▸ hs ▸ h

  simp -dsimp -implicitDefEqProofs [-getElem?_pos, go_sem, hP]
  refine callB_isQ (up (made_pf p src 5 (by omega))) hP en_26 (by simp [go_sem]) (made_ex 5) ?_
  rintro r ⟨h, f0, rfl, hf0, hg⟩ _
  have hok := hg.ok
  have hfit := fit_of_check hok
  have sz := hg.size
  simp -dsimp -implicitDefEqProofs [-getElem?_pos, go_sem, hP, cH]
  refine callB_isQ (up (gcorr_pf p src 3000)) hP en_31 (by simp [go_sem]) (genc_ex _) ?_
  rintro r ⟨c, rfl, hc⟩ _
  have cok := hc.ok (by omega)
  have hcy := hc.year
  have e0 := correct_good hok cok (fun x hx => by have := hg.found x hx; rw [hc.found]; omega) (by omega)
  obtain ⟨_, _, _, k4, k5⟩ := correct_ok e0
  have c1 := Correct_pf h c hfit (by have := hc.len; omega)
  rw [k4] at c1
  simp only at c1
  obtain ⟨a, ha⟩ : ∃ a : THistory, a = ⟨h.Ledger, h.Presented, h.Corrections ++ [c]⟩ := ⟨_, rfl⟩
  rw [← ha] at c1 k5
  have rL : ∀ y : Int, y < c.Year → restL a y = restL h y := fun y hy => by
    unfold restL
    rw [show restP a y = restP h y by
      rw [ha, restP, corrP_snoc, if_neg (by simp; omega), List.append_nil]
      rfl]
  have rA := fun y : Int => Restated_pf a y (fit_of_check k5)
  have rH := fun y : Int => Restated_pf h y hfit
  have ihh := imm_his h
  have iha := imm_his a
  have icc := imm_corr c
  have ip := imm_posts h.Ledger.Postings
  rw [cH] at ihh iha
  rw [cH, cH, cC] at c1
  rw [cC] at icc
  simp -dsimp -implicitDefEqProofs [-getElem?_pos, go_sem, hP, cC]
  refine callB_is (c1.lift _ _) hP en_32 (by simp; exact ⟨ihh, icc⟩) (imm_pair iha .sc) ?_
  simp -dsimp -implicitDefEqProofs [-getElem?_pos, go_sem, hP]
  obtain ⟨y0, hy0⟩ : ∃ y0 : Nat, c.Year = (y0 : Int) := ⟨c.Year.toNat, by omega⟩
  obtain ⟨I, hI⟩ : ∃ I : Nat → St → Prop, I = fun m s => ∃ (k : Nat), k ≤ y0 ∧ m = y0 - k ∧ s.t 4 = .ref 1 0 0 ∧ s.t 5 = .ref 2 0 0 ∧ s.t 6 = .ref 3 0 0 ∧ s.t 8 = iv k ∧ s.H[1]? = some (some ⟨56, 3, [[postsL h.Ledger.Postings, presL h.Presented, corrsL h.Corrections]]⟩) ∧ s.H[2]? = some (some ⟨66, 3, [[iv c.Year, iv c.Found, postsL c.Postings]]⟩) ∧ s.H[3]? = some (some ⟨56, 3, [[postsL a.Ledger.Postings, presL a.Presented, corrsL a.Corrections]]⟩) := ⟨_, rfl⟩
  refine aloop0 I (y0) (by rw [hN]; rfl) ?_ ?_
  · rw [hI]
    exact ⟨0, by omega, by omega, by simp -dsimp -implicitDefEqProofs [-getElem?_pos, go_sem], by simp -dsimp -implicitDefEqProofs [-getElem?_pos, go_sem], by simp -dsimp -implicitDefEqProofs [-getElem?_pos, go_sem], by simp -dsimp -implicitDefEqProofs [-getElem?_pos, go_sem], by simp -dsimp -implicitDefEqProofs [-getElem?_pos, go_sem], by simp -dsimp -implicitDefEqProofs [-getElem?_pos, go_sem], by simp -dsimp -implicitDefEqProofs [-getElem?_pos, go_sem]⟩
  intro m s hs'
  rw [hI] at hs'
  obtain ⟨k, hk, hm, t4, t5, t6, t8, h1, h2, h3⟩ := hs'
  have lt1 := (List.getElem?_eq_some_iff.1 h1).1
  have lt2 := (List.getElem?_eq_some_iff.1 h2).1
  have lt3 := (List.getElem?_eq_some_iff.1 h3).1
  simp -dsimp -implicitDefEqProofs [-getElem?_pos, go_sem, hP, t8, t5, h2, lt2, hy0]
  refine condP (fun hh => ?_) (fun hh => ?_)
  · have hk : k < y0 := by simpa using hh
    have wk := wrap_in ((k : Int) + 1) (by omega)
    have yk : yearB (k : Int) = true := betw_iff.2 (by omega)
    have r1 := rH k
    have r2 := rA k
    rw [restatedH, if_pos hok, if_pos yk, cH] at r1
    rw [restatedH, if_pos k5, if_pos yk, cH, rL k (by omega)] at r2
    simp only at r1 r2
    generalize restL h (k : Int) = S at r1 r2
    simp -dsimp -implicitDefEqProofs [-getElem?_pos, go_sem, hP, t4, h1, lt1, t8]
    refine callB_is (r1.lift _ _) hP en_33 (by simp [imm_sc]; exact ihh) (imm_pair (imm_st S) .sc) ?_
    simp -dsimp -implicitDefEqProofs [-getElem?_pos, go_sem, hP, cS, t6, h3, lt3, t8]
    refine callB_is (r2.lift _ _) hP en_33 (by simp [imm_sc]; exact iha) (imm_pair (imm_st S) .sc) ?_
    simp -dsimp -implicitDefEqProofs [-getElem?_pos, go_sem, hP, cS, t8, wk]
    refine ⟨y0 - (k + 1), by omega, ?_⟩
    rw [hI]
    exact ⟨k + 1, by omega, rfl, by simp -dsimp -implicitDefEqProofs [-getElem?_pos, go_sem, t4], by simp -dsimp -implicitDefEqProofs [-getElem?_pos, go_sem, t5], by simp -dsimp -implicitDefEqProofs [-getElem?_pos, go_sem, t6], by simp -dsimp -implicitDefEqProofs [-getElem?_pos, go_sem], by simp -dsimp -implicitDefEqProofs [-getElem?_pos, go_sem, lt1, h1], by simp -dsimp -implicitDefEqProofs [-getElem?_pos, go_sem, lt2, h2, hy0], by simp -dsimp -implicitDefEqProofs [-getElem?_pos, go_sem, lt3, h3]⟩
  clear hI
  obtain ⟨q, hq⟩ : ∃ q, q = s.H.length := ⟨_, rfl⟩
  have nq : 4 ≤ q := by omega
  have pok : checkH ⟨h.Ledger, [], []⟩ = 0 := by rw [checkH, if_pos (checkH_ok hok).1]; rfl
  have rP := fun y : Int => Restated_pf ⟨h.Ledger, [], []⟩ y (fit_of_check pok)
  have ihp := imm_his ⟨h.Ledger, [], []⟩
  rw [cH] at ihp
  simp -dsimp -implicitDefEqProofs [-getElem?_pos, go_sem, hP, t4, h1, lt1]
  refine aloop_cells (ty := 56) (k := 3) q [postsL h.Ledger.Postings, .nil, .nil] [postsL h.Ledger.Postings, presL [], corrsL []] (by simp -dsimp -implicitDefEqProofs [-getElem?_pos, go_sem, hq]) (by omega) (by simp) rfl (fun j a b ha hb => ?_) ?_
  · match j, ha, hb with
    | 0, ha, hb => simp at ha hb; subst ha; subst hb; exact .refl _
    | 1, ha, hb => simp at ha hb; subst ha; subst hb; exact .nil 7
    | 2, ha, hb => simp at ha hb; subst ha; subst hb; exact .nil 3
    | j + 3, ha, hb => simp at ha
  simp -dsimp -implicitDefEqProofs [-getElem?_pos, go_sem, hP]
  obtain ⟨J, hJ⟩ : ∃ I : Nat → St → Prop, I = fun m s => ∃ (k : Nat), k ≤ 4 ∧ m = 4 - k ∧ s.t 4 = .ref 1 0 0 ∧ s.t 13 = .ref q 0 0 ∧ s.t 14 = iv k ∧ s.H[1]? = some (some ⟨56, 3, [[postsL h.Ledger.Postings, presL h.Presented, corrsL h.Corrections]]⟩) ∧ s.H[q]? = some (some ⟨56, 3, [[postsL h.Ledger.Postings, presL [], corrsL []]]⟩) := ⟨_, rfl⟩
  refine aloop0 J (4) (by rw [hN]; rfl) ?_ ?_
  · rw [hJ]
    exact ⟨0, by omega, by omega, by simp -dsimp -implicitDefEqProofs [-getElem?_pos, go_sem, t4], by simp -dsimp -implicitDefEqProofs [-getElem?_pos, go_sem, hq], by simp -dsimp -implicitDefEqProofs [-getElem?_pos, go_sem], by simp -dsimp -implicitDefEqProofs [-getElem?_pos, go_sem, lt1, h1, hq], by simp -dsimp -implicitDefEqProofs [-getElem?_pos, go_sem, hq]⟩
  have nq1 : ¬ q = 1 := by omega
  clear t4 t5 t6 t8 h1 h2 h3 lt1 lt2 lt3 hq hh hk hm
  intro m s hs'
  rw [hJ] at hs'
  obtain ⟨k, hk, hm, t4, t13, t14, h1, hq⟩ := hs'
  have lt1 := (List.getElem?_eq_some_iff.1 h1).1
  have ltq := (List.getElem?_eq_some_iff.1 hq).1
  simp -dsimp -implicitDefEqProofs [-getElem?_pos, go_sem, hP, t14]
  refine condP (fun hh => ?_) (fun hh => ?_)
  rotate_left
  · simp -dsimp -implicitDefEqProofs [-getElem?_pos, go_sem, hP]
    refine callB_pure sane44_pf hP en_30 (args_same (by simp -dsimp -implicitDefEqProofs [-getElem?_pos, go_sem])) .sc ?_
    simp -dsimp -implicitDefEqProofs [-getElem?_pos, go_sem, hP]
  have hk3 : k ≤ 3 := by simp at hh; omega
  have wk := wrap_in ((k : Int) + 1) (by omega)
  have w1 := wrap_in (360 * (k : Int)) (by omega)
  have w2 := wrap_in (360 * (k : Int) + 359) (by omega)
  have yk : yearB (k : Int) = true := betw_iff.2 (by omega)
  have r1 := rP k
  rw [restatedH, if_pos pok, if_pos yk, cH] at r1
  have st := rstatement_pf h.Ledger 0 (360 * (k : Int)) (360 * (k : Int) + 359) hfit.post
  rw [statement_good (checkH_ok hok).1 (by omega) (by omega) (by omega), cL] at st
  simp only at r1 st
  rw [show restL ⟨h.Ledger, [], []⟩ (k : Int) = sumsL h.Ledger.Postings 0 (360 * (k : Int)) (360 * (k : Int) + 359) by rw [restL, restP]; simp [corrP]] at r1
  generalize sumsL h.Ledger.Postings 0 (360 * (k : Int)) (360 * (k : Int) + 359) = S at r1 st
  simp -dsimp -implicitDefEqProofs [-getElem?_pos, go_sem, hP, t13, hq, ltq, t14]
  refine callB_is (r1.lift _ _) hP en_33 (by simp [imm_sc]; exact ihp) (imm_pair (imm_st S) .sc) ?_
  simp -dsimp -implicitDefEqProofs [-getElem?_pos, go_sem, hP, cS, t4, h1, lt1, t14, w1, w2]
  refine callB_is (st.lift _ _) hP en_34 (by simp [imm_sc, imm_agg, ip]) (imm_pair (imm_st S) .sc) ?_
  simp -dsimp -implicitDefEqProofs [-getElem?_pos, go_sem, hP, cS, t14, wk]
  refine ⟨4 - (k + 1), by omega, ?_⟩
  rw [hJ]
  exact ⟨k + 1, by omega, rfl, by simp -dsimp -implicitDefEqProofs [-getElem?_pos, go_sem, t4], by simp -dsimp -implicitDefEqProofs [-getElem?_pos, go_sem, t13], by simp -dsimp -implicitDefEqProofs [-getElem?_pos, go_sem], by simp -dsimp -implicitDefEqProofs [-getElem?_pos, go_sem, lt1, h1], by simp -dsimp -implicitDefEqProofs [-getElem?_pos, go_sem, ltq, hq]⟩
end Go.Proofs.Ytellcfkpfccgaaa
