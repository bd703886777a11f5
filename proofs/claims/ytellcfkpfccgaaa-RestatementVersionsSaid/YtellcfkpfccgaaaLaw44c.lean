/- RestatementVersions: the walk. -/
import Derived.Test.YtellcfkpfccgaaaResSane
set_option linter.unusedSimpArgs false
set_option linter.unusedVariables false
namespace Go.Proofs.Ytellcfkpfccgaaa
open Go.PA
open Go.RowKit

set_option maxRecDepth 8000 in
set_option maxHeartbeats 4000000 in
theorem versions_law_pf (xs : List Int) (hx : Small xs) (hl : xs.length ≤ 9223372036854775807) :
    PFun Try.prog none none 9 [intsL xs] (· = bv true) := by
  refine pfun_introA Try.func9 rfl (by simp [Try.f9]) ?_
  intro E hP hr hs hW hN
  refine awp_cut (by rw [hN]; kernel_rfl) ?_
  simp [go_sem, hP]
  refine awp_cut (by rw [hN]; kernel_rfl) ?_
  simp [go_sem, hP]
  have hnew : POwn Try.prog E.row E.src 15 [intsL xs] 112 2 (· = [[intsL (xs.take 900), iv 0]]) := by rw [hr, hs]; exact new_pf xs hl
  refine callB_own hnew hP en_15 (args_same (by simp [go_sem, intsL])) (by simp [srefs_imm, go_sem, intsL]) ⟨_, rfl⟩ ?_
  rintro es rfl
  simp [go_sem, hP]
  refine awp_adopt 3 (ty := 112) (xs := xs.take 900) (at_ := 0) hr hs hW (by simp [go_sem]) (by simp [go_sem, intsL]) (by omega) (by simp; omega) (fun x hx' => hx x (List.mem_of_mem_take hx')) (by rw [hN]; kernel_rfl) ?_
  intro E' p hP' hr' hN' hW'
  rw [hP] at hP'
  rw [hN] at hN'
  clear hnew hP hr hs hW hN E
  rename Env => E
  rename E.P = _ => hP
  rename E.row = _ => hr
  rename E.N = _ => hN
  rename (∀ b, ¬ E.W b) => hW
  obtain ⟨src, hs⟩ : ∃ src, E.src = src := ⟨_, rfl⟩
  have up : ∀ {f : FuncId} {args : List AV} {Q : AV → Prop}, PFun Try.prog (some p) src f args Q → PFun Try.prog E.row E.src f args Q := fun h => hr ▸ hs ▸ h

  simp -dsimp -implicitDefEqProofs [-getElem?_pos, go_sem, hP]
  refine callB_isQ (up (made_pf p src 5 (by omega))) hP en_26 (by simp [go_sem]) (made_ex 5) ?_
  rintro r ⟨h, f0, rfl, hf0, hg⟩ _
  have hok := hg.ok
  have hfit := fit_of_check hok
  have sz := hg.size
  simp -dsimp -implicitDefEqProofs [-getElem?_pos, go_sem, hP, cH]
  refine callB_isQ (up (N_pf p src 4 (by omega))) hP en_35 (by simp [go_sem]) (N_exI _) ?_
  rintro r ⟨y, rfl, _, hy⟩ _
  have hy := hy (by omega)
  have yy : yearB y = true := betw_iff.2 (by omega)
  simp -dsimp -implicitDefEqProofs [-getElem?_pos, go_sem, hP]
  have i2 := imm_pres h.Presented
  obtain ⟨l, hlp⟩ : ∃ l, l = h.Presented := ⟨_, rfl⟩
  have ll : l.length ≤ 5 := by rw [hlp]; omega
  obtain ⟨I, hI⟩ : ∃ I : Nat → St → Prop, I = fun m s => ∃ (k : Nat), k ≤ l.length ∧ m = l.length - k ∧ s.t 4 = .ref 1 0 0 ∧ s.t 5 = iv y ∧ s.t 6 = iv (versN (l.take k) y) ∧ s.t 28 = presL l ∧ s.t 29 = iv l.length ∧ s.t 30 = iv k ∧ s.H[1]? = some (some ⟨56, 3, [[postsL h.Ledger.Postings, presL h.Presented, corrsL h.Corrections]]⟩) := ⟨_, rfl⟩
  refine aloop0 I (l.length) (by rw [hN]; rfl) ?_ ?_
  · rw [hI]
    exact ⟨0, by omega, by omega, by simp -dsimp -implicitDefEqProofs [-getElem?_pos, go_sem], by simp -dsimp -implicitDefEqProofs [-getElem?_pos, go_sem], by simp -dsimp -implicitDefEqProofs [-getElem?_pos, go_sem]; rfl, by simp -dsimp -implicitDefEqProofs [-getElem?_pos, go_sem, hlp], by simp -dsimp -implicitDefEqProofs [-getElem?_pos, go_sem, hlp], by simp -dsimp -implicitDefEqProofs [-getElem?_pos, go_sem], by simp -dsimp -implicitDefEqProofs [-getElem?_pos, go_sem]⟩
  intro m s hs'
  rw [hI] at hs'
  obtain ⟨k, hk, hm, t4, t5, t6, t28, t29, t30, h1⟩ := hs'
  have lt1 := (List.getElem?_eq_some_iff.1 h1).1
  simp -dsimp -implicitDefEqProofs [-getElem?_pos, go_sem, hP, t29, t30]
  refine condP (fun hh => ?_) (fun hh => ?_)
  · have hk : k < l.length := by simpa using hh
    obtain ⟨c, hcc⟩ : ∃ c, l[k]? = some c := ⟨_, List.getElem?_eq_getElem hk⟩
    have wk := wrap_in ((k : Int) + 1) (by omega)
    have nx : versN (l.take (k + 1)) y = versN (l.take k) y + (if c.Year = y then 1 else 0) := by rw [List.take_add_one, hcc]; exact versN_snoc _ _ _
    have vl := versN_le (l.take k) y
    rw [List.length_take] at vl
    have wv := wrap_in ((versN (l.take k) y : Int) + 1) (by omega)
    by_cases e1 : c.Year = y
    · rw [if_pos e1] at nx
      simp -dsimp -implicitDefEqProofs [-getElem?_pos, go_sem, hP, t28, t30, hcc, cPr, t5, e1, t6, wv, wk]
      refine ⟨l.length - (k + 1), by omega, ?_⟩
      rw [hI]
      exact ⟨k + 1, by omega, rfl, by simp -dsimp -implicitDefEqProofs [-getElem?_pos, go_sem, t4], by simp -dsimp -implicitDefEqProofs [-getElem?_pos, go_sem, t5], by rw [nx]; simp -dsimp -implicitDefEqProofs [-getElem?_pos, go_sem], by simp -dsimp -implicitDefEqProofs [-getElem?_pos, go_sem, t28], by simp -dsimp -implicitDefEqProofs [-getElem?_pos, go_sem, t29], by simp -dsimp -implicitDefEqProofs [-getElem?_pos, go_sem], by simp -dsimp -implicitDefEqProofs [-getElem?_pos, go_sem, lt1, h1]⟩
    · rw [if_neg e1] at nx
      have d1 := decide_eq_false e1
      simp -dsimp -implicitDefEqProofs [-getElem?_pos, go_sem, hP, t28, t30, hcc, cPr, t5, d1, wk]
      refine ⟨l.length - (k + 1), by omega, ?_⟩
      rw [hI]
      exact ⟨k + 1, by omega, rfl, by simp -dsimp -implicitDefEqProofs [-getElem?_pos, go_sem, t4], by simp -dsimp -implicitDefEqProofs [-getElem?_pos, go_sem, t5], by rw [nx]; simp -dsimp -implicitDefEqProofs [-getElem?_pos, go_sem, t6], by simp -dsimp -implicitDefEqProofs [-getElem?_pos, go_sem, t28], by simp -dsimp -implicitDefEqProofs [-getElem?_pos, go_sem, t29], by simp -dsimp -implicitDefEqProofs [-getElem?_pos, go_sem], by simp -dsimp -implicitDefEqProofs [-getElem?_pos, go_sem, lt1, h1]⟩
  have hk : k = l.length := by simp at hh; omega
  subst hk
  rw [List.take_length] at t6
  have vl := versN_le l y
  have pk : ¬ h.Presented.length = 20 := by rw [← hlp]; omega
  have pr := present_good hok yy pk
  have ok1 := (present_ok (show (presentH h y).2.2 = 0 by rw [pr])).2.2.2.2
  have c1 := Present_pf h y hfit
  rw [pr] at c1
  simp only at c1
  obtain ⟨P, hP1⟩ : ∃ P, P = nextP h y := ⟨_, rfl⟩
  rw [← hP1, ← hlp] at c1 ok1
  have hPY : P.Year = y := by rw [hP1]; rfl
  have hPV : P.Version = (versN l y : Int) + 1 := by rw [hP1, hlp]; rfl
  obtain ⟨a, ha⟩ : ∃ a : THistory, a = ⟨h.Ledger, l ++ [P], h.Corrections⟩ := ⟨_, rfl⟩
  rw [← ha] at c1 ok1
  have apl : a.Presented = l ++ [P] := by rw [ha]
  have pk2 : ¬ a.Presented.length = 20 := by rw [apl, List.length_append, List.length_singleton]; omega
  have pr2 := present_good ok1 yy pk2
  have ok2 := (present_ok (show (presentH a y).2.2 = 0 by rw [pr2])).2.2.2.2
  have c2 := Present_pf a y (fit_of_check ok1)
  rw [pr2] at c2
  simp only at c2
  obtain ⟨Q, hQ1⟩ : ∃ Q, Q = nextP a y := ⟨_, rfl⟩
  rw [← hQ1, apl] at c2 ok2
  have va : versN a.Presented y = versN l y + 1 := by rw [apl, versN_snoc, if_pos hPY]
  have hQY : Q.Year = y := by rw [hQ1]; rfl
  have hQV : Q.Version = (versN l y : Int) + 2 := by
    rw [hQ1]
    show (versN a.Presented y : Int) + 1 = _
    rw [va]
    omega
  have hQS : Q.Statement = P.Statement := by
    rw [hQ1, hP1, ha]
    rfl
  obtain ⟨b, hb⟩ : ∃ b : THistory, b = ⟨a.Ledger, l ++ [P] ++ [Q], a.Corrections⟩ := ⟨_, rfl⟩
  rw [← hb] at c2 ok2
  have bpl : b.Presented = l ++ [P] ++ [Q] := by rw [hb]
  have vb : versN b.Presented y = versN l y + 2 := by rw [bpl, versN_snoc, if_pos hQY, versN_snoc, if_pos hPY]
  have s1 := Shown_pf b y ((versN l y : Int) + 1) (fit_of_check ok2)
  have s2 := Shown_pf b y ((versN l y : Int) + 2) (fit_of_check ok2)
  have s3 := Shown_pf b y ((versN l y : Int) + 3) (fit_of_check ok2)
  have f1 := shown_find ok2 (p := P) (by rw [bpl]; simp)
  have f2 := shown_find ok2 (p := Q) (by rw [bpl]; simp)
  have f3 := shown_none ok2 (y := y) (v := (versN l y : Int) + 3) (by rw [vb]; omega)
  rw [hPY, hPV] at f1
  rw [hQY, hQV, hQS] at f2
  rw [f1] at s1
  rw [f2] at s2
  rw [f3] at s3
  have ba : (presL b.Presented) = .list 7 (encL TPresented.cells b.Presented) := rfl
  have blen : b.Presented.length = l.length + 2 := by rw [bpl]; simp
  have w1 := wrap_in ((versN l y : Int) + 1) (by omega)
  have w2 := wrap_in ((versN l y : Int) + 2) (by omega)
  have w3 := wrap_in ((versN l y : Int) + 3) (by omega)
  have w4 := wrap_in ((l.length : Int) + 2) (by omega)
  have hPc : P.cells = [iv y, iv ((versN l y : Int) + 1), iv P.Statement.Assets, iv P.Statement.Liabilities, iv P.Statement.Worth, iv P.Statement.Revenue, iv P.Statement.Expense] := by rw [cPr, hPY, hPV]
  have hQc : Q.cells = [iv y, iv ((versN l y : Int) + 2), iv P.Statement.Assets, iv P.Statement.Liabilities, iv P.Statement.Worth, iv P.Statement.Revenue, iv P.Statement.Expense] := by rw [cPr, hQY, hQV, hQS]
  have ihh := imm_his h
  have iha := imm_his a
  have ihb := imm_his b
  have iP := imm_prs P
  have iQ := imm_prs Q
  rw [cH] at ihh iha ihb c1
  rw [cH] at c1 c2
  rw [cH] at c2
  rw [cH] at s1 s2 s3
  rw [hPc] at c1 iP
  rw [hQc] at c2 iQ
  generalize P.Statement = S at *
  generalize versN l y = V at *
  simp -dsimp -implicitDefEqProofs [-getElem?_pos, go_sem, hP, t4, h1, lt1, t5]
  refine callB_is (c1.lift _ _) hP en_36 (by simp [imm_sc]; exact ihh) (imm_trip iha iP .sc) ?_
  simp -dsimp -implicitDefEqProofs [-getElem?_pos, go_sem, hP, t5]
  refine callB_is (c2.lift _ _) hP en_36 (by simp [imm_sc]; exact iha) (imm_trip ihb iQ .sc) ?_
  simp -dsimp -implicitDefEqProofs [-getElem?_pos, go_sem, hP, t5, t6, w1]
  refine callB_is (s1.lift _ _) hP en_29 (by simp [imm_sc]; exact ihb) (imm_pair (imm_st S) .sc) ?_
  simp -dsimp -implicitDefEqProofs [-getElem?_pos, go_sem, hP, cS, t5, t6, w2]
  refine callB_is (s2.lift _ _) hP en_29 (by simp [imm_sc]; exact ihb) (imm_pair (imm_st S) .sc) ?_
  simp -dsimp -implicitDefEqProofs [-getElem?_pos, go_sem, hP, cS, t5, t6, w3]
  refine callB_is (s3.lift _ _) hP en_29 (by simp [imm_sc]; exact ihb) (imm_pair (imm_st zeroSt) .sc) ?_
  simp -dsimp -implicitDefEqProofs [-getElem?_pos, go_sem, hP, cS, t6, w1, w2, t4, h1, lt1, blen, ← hlp, w4]
  refine callB_pure sane44_pf hP en_30 (args_same (by simp -dsimp -implicitDefEqProofs [-getElem?_pos, go_sem])) .sc ?_
  simp -dsimp -implicitDefEqProofs [-getElem?_pos, go_sem, hP]
end Go.Proofs.Ytellcfkpfccgaaa
