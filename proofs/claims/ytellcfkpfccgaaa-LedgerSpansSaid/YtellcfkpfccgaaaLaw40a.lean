/- LedgerSpans: the walk. -/
import Derived.Test.YtellcfkpfccgaaaLedNet
set_option linter.unusedSimpArgs false
set_option linter.unusedVariables false
namespace Go.Proofs.Ytellcfkpfccgaaa
open Go.PA
open Go.RowKit

theorem spans_sums {l : List TPosting} (h : checkL l = 0) {a b : Int} (ha : 0 ≤ a) (hab : a ≤ b) :
    (sumsL l 1 0 a).Revenue + (sumsL l 1 (a + 1) b).Revenue = (sumsL l 1 0 b).Revenue ∧ (sumsL l 1 0 a).Expense + (sumsL l 1 (a + 1) b).Expense = (sumsL l 1 0 b).Expense ∧
    (sumsL l 1 (a + 1) b).Worth = (sumsL l 1 0 a).Assets - (sumsL l 1 0 a).Liabilities ∧ (sumsL l 1 (a + 1) b).Assets = (sumsL l 1 0 b).Assets := by
  obtain ⟨h1, h2, _⟩ := checkL_ok h
  have s4 := ofB_split 1 a b (by omega) hab h2 (fun b => decide (classI b = 4))
  have s5 := ofB_split 1 a b (by omega) hab h2 (fun b => decide (classI b = 5))
  have z := cls_zero (ofB 1 0 a) l fun p hp => (h2 p hp).fine
  simp only [sumsL, Int.add_sub_cancel]
  simp only [cls] at z ⊢
  exact ⟨by omega, by omega, by omega, trivial⟩

set_option maxHeartbeats 1000000 in
theorem spans_law_pf (xs : List Int) (m n : Nat) (hx : Small xs) (hl : xs.length ≤ 9223372036854775807) (hm : m ≤ 65535) (hn : n ≤ 65535) :
    PFun Try.prog none none 6 [intsL xs, .sc (.int .u16 m), .sc (.int .u16 n)] (· = bv true) := by
  refine pfun_introA Try.func6 rfl (by simp [Try.f6]) ?_
  intro E hP hr hs hW hN
  refine awp_cut (by rw [hN]; kernel_rfl) ?_
  simp [go_sem, hP]
  refine awp_cut (by rw [hN]; kernel_rfl) ?_
  simp [go_sem, hP]
  have hnew : POwn Try.prog E.row E.src 15 [intsL xs] 112 2 (· = [[intsL (xs.take 900), iv 0]]) := by rw [hr, hs]; exact new_pf xs hl
  refine callB_own hnew hP en_15 (args_same (by simp [go_sem, intsL])) (by simp [srefs_imm, go_sem, intsL]) ⟨_, rfl⟩ ?_
  rintro es rfl
  simp [go_sem, hP]
  refine awp_adopt 7 (ty := 112) (xs := xs.take 900) (at_ := 0) hr hs hW (by simp [go_sem]) (by simp [go_sem, intsL]) (by omega) (by simp; omega) (fun x hx' => hx x (List.mem_of_mem_take hx')) (by rw [hN]; kernel_rfl) ?_
  intro E' p hP' hr' hN' hW'
  rw [hP] at hP'
  rw [hN] at hN'
  clear hnew hP hr hs hW hN E
  rename Env => E
  rename E.P = _ => hP
  rename E.row = _ => hr
  rename E.N = _ => hN
  rename (∀ b, ¬ E.W b) => hW
  obtain ⟨src, hs⟩ : ∃ src, E.src = src := ⟨_, rfl⟩
  have up : ∀ {f : FuncId} {args : List AV} {Q : AV → Prop}, PFun Try.prog (some p) src f args Q → PFun Try.prog E.row E.src f args Q := fun h => hr ▸ hs ▸ h

  simp -dsimp -implicitDefEqProofs [-getElem?_pos, go_sem, hP]
  refine callB_isQ (up (gledger_pf p src 12 2 800 (by omega) (by omega) (by omega))) hP en_16 (by simp [go_sem]) (genl_ex 12 2 800) ?_
  rintro r ⟨l, rfl, hg⟩ _
  have il : Imm (postsL l) := imm_posts l
  have hok := hg.ok
  have hls := hg.small
  have wm := wrap_in (m : Int) (by omega)
  have wn := wrap_in (n : Int) (by omega)
  have hk : ((m : Int).tmod 600) = ((m % 600 : Nat) : Int) := (Int.ofNat_tmod m 600).symm
  have hk' : ((n : Int).tmod 300) = ((n % 300 : Nat) : Int) := (Int.ofNat_tmod n 300).symm
  have hk1 : m % 600 < 600 := Nat.mod_lt _ (by omega)
  have hk2 : n % 300 < 300 := Nat.mod_lt _ (by omega)
  obtain ⟨a, ha⟩ : ∃ a, a = m % 600 := ⟨_, rfl⟩
  obtain ⟨d, hd⟩ : ∃ d, d = n % 300 := ⟨_, rfl⟩
  rw [← ha] at hk hk1
  rw [← hd] at hk' hk2
  clear ha hd
  obtain ⟨b, hb⟩ : ∃ b : Nat, b = a + 1 + d := ⟨_, rfl⟩
  have wa := wrap_in ((a : Int) + 1) (by omega)
  have wb : IntKind.i64.wrap ((a : Int) + 1 + (d : Int)) = (b : Int) := by rw [wrap_in _ (by omega)]; omega
  have sx := statement_pf ⟨l⟩ 1 0 a (by dsimp only; omega)
  have sy := statement_pf ⟨l⟩ 1 ((a : Int) + 1) b (by dsimp only; omega)
  have sz := statement_pf ⟨l⟩ 1 0 b (by dsimp only; omega)
  simp only [statement_good hok (show (0 : Int) ≤ 1 ∧ (1 : Int) ≤ 10 by omega) (show (0 : Int) ≤ 0 ∧ (0 : Int) ≤ (a : Int) by omega) (show (a : Int) ≤ 36000 by omega)] at sx
  simp only [statement_good hok (show (0 : Int) ≤ 1 ∧ (1 : Int) ≤ 10 by omega) (show (0 : Int) ≤ (a : Int) + 1 ∧ (a : Int) + 1 ≤ (b : Int) by omega) (show (b : Int) ≤ 36000 by omega)] at sy
  simp only [statement_good hok (show (0 : Int) ≤ 1 ∧ (1 : Int) ≤ 10 by omega) (show (0 : Int) ≤ 0 ∧ (0 : Int) ≤ (b : Int) by omega) (show (b : Int) ≤ 36000 by omega)] at sz
  obtain ⟨e1, e2, e3, e4⟩ := spans_sums hok (a := a) (b := b) (by omega) (by omega)
  have bd := cls_bound hok
  have bz1 : -400000000000000 ≤ (sumsL l 1 0 b).Revenue ∧ (sumsL l 1 0 b).Revenue ≤ 400000000000000 := by have := bd (ofB 1 0 b) 4; show _ ≤ -cls _ _ _ ∧ -cls _ _ _ ≤ _; omega
  have bz2 : -400000000000000 ≤ (sumsL l 1 0 b).Expense ∧ (sumsL l 1 0 b).Expense ≤ 400000000000000 := bd (ofB 1 0 b) 5
  have by1 : -1200000000000000 ≤ (sumsL l 1 ((a : Int) + 1) b).Worth ∧ (sumsL l 1 ((a : Int) + 1) b).Worth ≤ 1200000000000000 := by
    have h3 := bd (ofB 1 0 ((a : Int) + 1 - 1)) 3
    have h4 := bd (ofB 1 0 ((a : Int) + 1 - 1)) 4
    have h5 := bd (ofB 1 0 ((a : Int) + 1 - 1)) 5
    show _ ≤ -cls _ _ _ - cls _ _ _ - cls _ _ _ ∧ -cls _ _ _ - cls _ _ _ - cls _ _ _ ≤ _
    omega
  have w1 := wrap_in _ (show -9223372036854775808 ≤ (sumsL l 1 0 a).Revenue + (sumsL l 1 ((a : Int) + 1) b).Revenue ∧ (sumsL l 1 0 a).Revenue + (sumsL l 1 ((a : Int) + 1) b).Revenue ≤ 9223372036854775807 by rw [e1]; omega)
  have w2 := wrap_in _ (show -9223372036854775808 ≤ (sumsL l 1 0 a).Expense + (sumsL l 1 ((a : Int) + 1) b).Expense ∧ (sumsL l 1 0 a).Expense + (sumsL l 1 ((a : Int) + 1) b).Expense ≤ 9223372036854775807 by rw [e2]; omega)
  have w3 := wrap_in _ (show -9223372036854775808 ≤ (sumsL l 1 0 a).Assets - (sumsL l 1 0 a).Liabilities ∧ (sumsL l 1 0 a).Assets - (sumsL l 1 0 a).Liabilities ≤ 9223372036854775807 by rw [← e3]; omega)
  have w1 := w1.trans e1
  have w2 := w2.trans e2
  have w3 := w3.trans e3.symm
  generalize sumsL l 1 0 a = X at *
  generalize sumsL l 1 ((a : Int) + 1) b = Y at *
  generalize sumsL l 1 0 b = Z at *
  rw [cL, cSt] at sx sy sz
  have iX := imm_st X
  have iY := imm_st Y
  have iZ := imm_st Z
  rw [cSt] at iX iY iZ
  clear bd hb
  simp -dsimp -implicitDefEqProofs [-getElem?_pos, go_sem, hP, cL, aconv, wm, wn, hk, hk', wa, wb]
  refine callB_is (sx.lift _ _) hP en_24 (by simp [il, imm_sc, imm_agg]) (imm_pair iX .sc) ?_
  simp -dsimp -implicitDefEqProofs [-getElem?_pos, go_sem, hP, wa]
  refine callB_is (sy.lift _ _) hP en_24 (by simp [il, imm_sc, imm_agg]) (imm_pair iY .sc) ?_
  simp -dsimp -implicitDefEqProofs [-getElem?_pos, go_sem, hP]
  refine callB_is (sz.lift _ _) hP en_24 (by simp [il, imm_sc, imm_agg]) (imm_pair iZ .sc) ?_
  simp -dsimp -implicitDefEqProofs [-getElem?_pos, go_sem, hP, e4, w1, w2, w3]
  refine callB_pure sane40_pf hP en_21 (args_same (by simp -dsimp -implicitDefEqProofs [-getElem?_pos, go_sem])) .sc ?_
  simp -dsimp -implicitDefEqProofs [-getElem?_pos, go_sem, hP]
end Go.Proofs.Ytellcfkpfccgaaa
