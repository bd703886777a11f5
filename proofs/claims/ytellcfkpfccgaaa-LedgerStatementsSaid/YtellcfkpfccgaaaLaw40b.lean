/- LedgerStatements: the walk. -/
import Derived.Test.YtellcfkpfccgaaaLedNet
set_option linter.unusedSimpArgs false
set_option linter.unusedVariables false
namespace Go.Proofs.Ytellcfkpfccgaaa
open Go.PA
open Go.RowKit

theorem statements_sums {l : List TPosting} (h : checkL l = 0) {e a b : Int} (ha : 0 ≤ a) (hab : a ≤ b) :
    (sumsL l e a b).Assets - (sumsL l e a b).Liabilities = (sumsL l e a b).Worth + (sumsL l e a b).Revenue - (sumsL l e a b).Expense + -cls (ofB e a b) l 3 := by
  obtain ⟨h1, h2, _⟩ := checkL_ok h
  have s3 := ofB_split e (a - 1) b (by omega) (by omega) h2 (fun b => decide (classI b = 3))
  have s4 := ofB_split e (a - 1) b (by omega) (by omega) h2 (fun b => decide (classI b = 4))
  have s5 := ofB_split e (a - 1) b (by omega) (by omega) h2 (fun b => decide (classI b = 5))
  rw [Int.sub_add_cancel] at s3 s4 s5
  have z := cls_zero (ofB e 0 b) l fun p hp => (h2 p hp).fine
  simp only [sumsL]
  simp only [cls] at z ⊢
  omega

set_option maxHeartbeats 2000000 in
theorem statements_law_pf (xs : List Int) (m n : Nat) (hx : Small xs) (hl : xs.length ≤ 9223372036854775807) (hm : m ≤ 65535) (hn : n ≤ 65535) :
    PFun Try.prog none none 5 [intsL xs, .sc (.int .u16 m), .sc (.int .u16 n)] (· = bv true) := by
  refine pfun_introA Try.func5 rfl (by simp [Try.f5]) ?_
  intro E hP hr hs hW hN
  refine awp_cut (by rw [hN]; kernel_rfl) ?_
  simp [go_sem, hP]
  refine awp_cut (by rw [hN]; kernel_rfl) ?_
  simp [go_sem, hP]
  have hnew : POwn Try.prog E.row E.src 15 [intsL xs] 112 2 (· = [[intsL (xs.take 900), iv 0]]) := by rw [hr, hs]; exact new_pf xs hl
  refine callB_own hnew hP en_15 (args_same (by simp [go_sem, intsL])) (by simp [srefs_imm, go_sem, intsL]) ⟨_, rfl⟩ ?_
  rintro es rfl
  simp [go_sem, hP]
  refine awp_adopt 7 (ty := 112) (xs := xs.take 900) (at_ := 0) hr hs hW (by simp [go_sem]) (by simp [go_sem, intsL]) (by omega) (by simp; omega) (fun x hx' => hx x (List.mem_of_mem_take hx')) (by rw [hN]; kernel_rfl) ?_
  intro E' p hP' hr' hN' hW'
  rw [hP] at hP'
  rw [hN] at hN'
  clear hnew hP hr hs hW hN E
  rename Env => E
  rename E.P = _ => hP
  rename E.row = _ => hr
  rename E.N = _ => hN
  rename (∀ b, ¬ E.W b) => hW
  obtain ⟨src, hs⟩ : ∃ src, E.src = src := ⟨_, rfl⟩
  have up : ∀ {f : FuncId} {args : List AV} {Q : AV → Prop}, PFun Try.prog (some p) src f args Q → PFun Try.prog E.row E.src f args Q := fun h => hr ▸ hs ▸ h

  simp -dsimp -implicitDefEqProofs [-getElem?_pos, go_sem, hP]
  refine callB_isQ (up (gledger_pf p src 12 3 800 (by omega) (by omega) (by omega))) hP en_16 (by simp [go_sem]) (genl_ex 12 3 800) ?_
  rintro r ⟨l, rfl, hg⟩ _
  have il : Imm (postsL l) := imm_posts l
  have hok := hg.ok
  have hls := hg.small
  have hpo := (checkL_ok hok).2.1
  have wm := wrap_in (m : Int) (by omega)
  have wn := wrap_in (n : Int) (by omega)
  have hk : ((m : Int).tmod 700) = ((m % 700 : Nat) : Int) := (Int.ofNat_tmod m 700).symm
  have hk' : ((n : Int).tmod 200) = ((n % 200 : Nat) : Int) := (Int.ofNat_tmod n 200).symm
  have hk1 : m % 700 < 700 := Nat.mod_lt _ (by omega)
  have hk2 : n % 200 < 200 := Nat.mod_lt _ (by omega)
  obtain ⟨a, ha⟩ : ∃ a, a = m % 700 := ⟨_, rfl⟩
  obtain ⟨d, hd⟩ : ∃ d, d = n % 200 := ⟨_, rfl⟩
  rw [← ha] at hk hk1
  rw [← hd] at hk' hk2
  clear ha hd
  obtain ⟨b, hb⟩ : ∃ b : Nat, b = a + d := ⟨_, rfl⟩
  have wb : IntKind.i64.wrap ((a : Int) + (d : Int)) = (b : Int) := by rw [wrap_in _ (by omega)]; omega
  simp -dsimp -implicitDefEqProofs [-getElem?_pos, go_sem, hP, cL, aconv, wm, wn, hk, hk', wb]
  obtain ⟨I, hI⟩ : ∃ I : Nat → St → Prop, I = fun m s => ∃ e : Nat, e ≤ 4 ∧ m = 4 - e ∧ s.t 8 = .ref 1 0 0 ∧ s.t 9 = iv a ∧ s.t 10 = iv b ∧ s.t 11 = iv e ∧ s.H[1]? = some (some ⟨28, 1, [[postsL l]]⟩) := ⟨_, rfl⟩
  refine aloop0 I (4) (by rw [hN]; rfl) ?_ ?_
  · rw [hI]
    exact ⟨0, by omega, by omega, by simp -dsimp -implicitDefEqProofs [-getElem?_pos, go_sem], by simp -dsimp -implicitDefEqProofs [-getElem?_pos, go_sem], by simp -dsimp -implicitDefEqProofs [-getElem?_pos, go_sem], by simp -dsimp -implicitDefEqProofs [-getElem?_pos, go_sem], by simp -dsimp -implicitDefEqProofs [-getElem?_pos, go_sem]⟩
  intro m s hs'
  rw [hI] at hs'
  obtain ⟨e, he, hme, t8, t9, t10, t11, h1⟩ := hs'
  have lt1 := (List.getElem?_eq_some_iff.1 h1).1
  simp -dsimp -implicitDefEqProofs [-getElem?_pos, go_sem, hP, t11]
  refine condP (fun h => ?_) (fun h => ?_)
  rotate_left
  · simp -dsimp -implicitDefEqProofs [-getElem?_pos, go_sem, hP]
    refine callB_pure sane40_pf hP en_21 (args_same (by simp -dsimp -implicitDefEqProofs [-getElem?_pos, go_sem])) .sc ?_
    simp -dsimp -implicitDefEqProofs [-getElem?_pos, go_sem, hP]
  have he3 : e ≤ 3 := by simp at h; omega
  have we := wrap_in ((e : Int) + 1) (by omega)
  have st := statement_pf ⟨l⟩ e a b (by dsimp only; omega)
  simp only [statement_good hok (show (0 : Int) ≤ (e : Int) ∧ (e : Int) ≤ 10 by omega) (show (0 : Int) ≤ (a : Int) ∧ (a : Int) ≤ (b : Int) by omega) (show (b : Int) ≤ 36000 by omega)] at st
  have key := statements_sums hok (e := e) (a := a) (b := b) (by omega) (by omega)
  have bd := cls_bound hok
  obtain ⟨X, hX⟩ : ∃ X, X = sumsL l e a b := ⟨_, rfl⟩
  have bX : (-400000000000000 ≤ X.Assets ∧ X.Assets ≤ 400000000000000) ∧ (-400000000000000 ≤ X.Liabilities ∧ X.Liabilities ≤ 400000000000000) ∧ (-1200000000000000 ≤ X.Worth ∧ X.Worth ≤ 1200000000000000) ∧ (-400000000000000 ≤ X.Revenue ∧ X.Revenue ≤ 400000000000000) ∧ (-400000000000000 ≤ X.Expense ∧ X.Expense ≤ 400000000000000) := by
    have b1 := bd (ofB e 0 b) 1
    have b2 := bd (ofB e 0 b) 2
    have b3 := bd (ofB e 0 ((a : Int) - 1)) 3
    have b4 := bd (ofB e 0 ((a : Int) - 1)) 4
    have b5 := bd (ofB e 0 ((a : Int) - 1)) 5
    have b6 := bd (ofB e a b) 4
    have b7 := bd (ofB e a b) 5
    rw [hX]
    refine ⟨b1, ?_, ?_, ?_, b7⟩
    · show _ ≤ -cls _ _ _ ∧ -cls _ _ _ ≤ _; omega
    · show _ ≤ -cls _ _ _ - cls _ _ _ - cls _ _ _ ∧ -cls _ _ _ - cls _ _ _ - cls _ _ _ ≤ _; omega
    · show _ ≤ -cls _ _ _ ∧ -cls _ _ _ ≤ _; omega
  have b3 := bd (ofB e a b) 3
  rw [← hX] at st key
  rw [cL, cSt] at st
  have iX := imm_st X
  rw [cSt] at iX
  obtain ⟨f, hf⟩ : ∃ f, f = ofB e a b := ⟨_, rfl⟩
  obtain ⟨M, hM⟩ : ∃ M : Nat → Int, M = fun k => -cls f (l.take k) 3 := ⟨_, rfl⟩
  have bM : ∀ k, -400000000000000 ≤ M k ∧ M k ≤ 400000000000000 := fun k => by
    have := netP_bound (fun b => decide (classI b = 3)) f (l.take k) fun p hp => (hpo p (List.mem_of_mem_take hp)).fine
    have hlk : (l.take k).length ≤ l.length := by rw [List.length_take]; omega
    rw [hM]
    show _ ≤ -netP _ f _ ∧ -netP _ f _ ≤ _
    omega
  have M0 : M 0 = 0 := by rw [hM]; rfl
  have ML : M l.length = -cls f l 3 := by rw [hM]; simp only [List.take_length]
  have MS : ∀ (k : Nat) (p : TPosting), l[k]? = some p → M (k + 1) = M k - (if f p = true then addP (fun b => decide (classI b = 3)) p else 0) := fun k p hp => by
    rw [hM]
    simp only [cls]
    rw [List.take_add_one, hp]
    show -netP _ f (l.take k ++ [p]) = _
    rw [netP_snoc]
    omega
  rw [← hf, ← ML] at key
  clear hM b3 bd
  simp -dsimp -implicitDefEqProofs [-getElem?_pos, go_sem, hP, t8, t9, t10, t11, h1, lt1]
  refine callB_is (st.lift _ _) hP en_24 (by simp [il, imm_sc, imm_agg]) (imm_pair iX .sc) ?_
  obtain ⟨N0, hN0⟩ : ∃ N0, N0 = s.H.length := ⟨_, rfl⟩
  simp -dsimp -implicitDefEqProofs [-getElem?_pos, go_sem, hP, t8, h1, lt1]
  obtain ⟨J, hJ⟩ : ∃ I : Nat → St → Prop, I = fun m s => ∃ k : Nat, k ≤ l.length ∧ m = l.length - k ∧ s.t 8 = .ref 1 0 0 ∧ s.t 9 = iv a ∧ s.t 10 = iv b ∧ s.t 11 = iv e ∧ s.t 12 = .ref N0 0 0 ∧ s.t 14 = iv (M k) ∧ s.t 44 = postsL l ∧ s.t 45 = iv l.length ∧ s.t 46 = iv k ∧ s.H[1]? = some (some ⟨28, 1, [[postsL l]]⟩) ∧ s.H[N0]? = some (some ⟨48, 5, [[iv X.Assets, iv X.Liabilities, iv X.Worth, iv X.Revenue, iv X.Expense]]⟩) := ⟨_, rfl⟩
  refine aloop0 J (l.length) (by rw [hN]; rfl) ?_ ?_
  · rw [hJ]
    exact ⟨0, by omega, by omega, by simp -dsimp -implicitDefEqProofs [-getElem?_pos, go_sem, t8], by simp -dsimp -implicitDefEqProofs [-getElem?_pos, go_sem, t9], by simp -dsimp -implicitDefEqProofs [-getElem?_pos, go_sem, t10], by simp -dsimp -implicitDefEqProofs [-getElem?_pos, go_sem, t11], by simp -dsimp -implicitDefEqProofs [-getElem?_pos, go_sem, hN0], by simp -dsimp -implicitDefEqProofs [-getElem?_pos, go_sem, M0], by simp -dsimp -implicitDefEqProofs [-getElem?_pos, go_sem], by simp -dsimp -implicitDefEqProofs [-getElem?_pos, go_sem], by simp -dsimp -implicitDefEqProofs [-getElem?_pos, go_sem], by simp -dsimp -implicitDefEqProofs [-getElem?_pos, go_sem, lt1, h1], by simp -dsimp -implicitDefEqProofs [-getElem?_pos, go_sem, hN0]⟩
  have lt1N : 1 < N0 := by omega
  clear t8 t9 t10 t11 h1 lt1 hN0
  intro m s hs'
  rw [hJ] at hs'
  obtain ⟨k, hk, hmk, t8, t9, t10, t11, t12, t14, t44, t45, t46, h1, hN⟩ := hs'
  have lt1 := (List.getElem?_eq_some_iff.1 h1).1
  have ltN := (List.getElem?_eq_some_iff.1 hN).1
  simp -dsimp -implicitDefEqProofs [-getElem?_pos, go_sem, hP, t45, t46]
  refine condP (fun h => ?_) (fun h => ?_)
  rotate_left
  · have hk : k = l.length := by simp at h; omega
    subst hk
    have bL := bM l.length
    have w1 := wrap_in (X.Assets - X.Liabilities) (by omega)
    have w2 := wrap_in (X.Worth + X.Revenue) (by omega)
    have w3 := wrap_in (X.Worth + X.Revenue - X.Expense) (by omega)
    have w4 := wrap_in (X.Worth + X.Revenue - X.Expense + M l.length) (by omega)
    have d1 : decide (X.Assets - X.Liabilities = X.Worth + X.Revenue - X.Expense + M l.length) = true := decide_eq_true key
    simp -dsimp -implicitDefEqProofs [-getElem?_pos, go_sem, hP, t12, hN, w1, w2, w3, w4, t14, d1, t11, we]
    refine ⟨4 - (e + 1), by omega, ?_⟩
    rw [hI]
    exact ⟨e + 1, by omega, rfl, by simp -dsimp -implicitDefEqProofs [-getElem?_pos, go_sem, t8], by simp -dsimp -implicitDefEqProofs [-getElem?_pos, go_sem, t9], by simp -dsimp -implicitDefEqProofs [-getElem?_pos, go_sem, t10], by simp -dsimp -implicitDefEqProofs [-getElem?_pos, go_sem], by simp -dsimp -implicitDefEqProofs [-getElem?_pos, go_sem, h1]⟩
  have hk : k < l.length := by simpa using h
  obtain ⟨q, hq⟩ : ∃ q, l[k]? = some q := ⟨_, List.getElem?_eq_getElem hk⟩
  have hqo := hpo q (List.mem_of_getElem? hq)
  have wk := wrap_in ((k : Int) + 1) (by omega)
  have ms := MS k q hq
  have bk := bM k
  have hamt := hqo.amt
  have hn := ofB_not e a b q
  rw [← hf] at hn
  have skip : f q = false → M (k + 1) = M k := fun hc => by rw [ms, hc]; simp
  simp -dsimp -implicitDefEqProofs [-getElem?_pos, go_sem, hP, t44, t46, hq, cP]
  by_cases c1 : q.Day < (a : Int)
  · have d1 : decide (q.Day < (a : Int)) = true := decide_eq_true c1
    have hs := skip (hn.1 (.inl c1))
    simp -dsimp -implicitDefEqProofs [-getElem?_pos, go_sem, hP, t9, d1, t46, wk]
    refine ⟨l.length - (k + 1), by omega, ?_⟩
    rw [hJ]
    exact ⟨k + 1, by omega, rfl, by simp -dsimp -implicitDefEqProofs [-getElem?_pos, go_sem, t8], by simp -dsimp -implicitDefEqProofs [-getElem?_pos, go_sem, t9], by simp -dsimp -implicitDefEqProofs [-getElem?_pos, go_sem, t10], by simp -dsimp -implicitDefEqProofs [-getElem?_pos, go_sem, t11], by simp -dsimp -implicitDefEqProofs [-getElem?_pos, go_sem, t12], by rw [hs]; simp -dsimp -implicitDefEqProofs [-getElem?_pos, go_sem, t14], by simp -dsimp -implicitDefEqProofs [-getElem?_pos, go_sem, t44], by simp -dsimp -implicitDefEqProofs [-getElem?_pos, go_sem, t45], by simp -dsimp -implicitDefEqProofs [-getElem?_pos, go_sem], by simp -dsimp -implicitDefEqProofs [-getElem?_pos, go_sem, lt1, h1], by simp -dsimp -implicitDefEqProofs [-getElem?_pos, go_sem, ltN, hN]⟩
  have d1 : decide (q.Day < (a : Int)) = false := decide_eq_false c1
  by_cases c2 : (b : Int) < q.Day
  · have d2 : decide ((b : Int) < q.Day) = true := decide_eq_true c2
    have hs := skip (hn.1 (.inr (.inl c2)))
    simp -dsimp -implicitDefEqProofs [-getElem?_pos, go_sem, hP, t9, t10, d1, d2, t46, wk]
    refine ⟨l.length - (k + 1), by omega, ?_⟩
    rw [hJ]
    exact ⟨k + 1, by omega, rfl, by simp -dsimp -implicitDefEqProofs [-getElem?_pos, go_sem, t8], by simp -dsimp -implicitDefEqProofs [-getElem?_pos, go_sem, t9], by simp -dsimp -implicitDefEqProofs [-getElem?_pos, go_sem, t10], by simp -dsimp -implicitDefEqProofs [-getElem?_pos, go_sem, t11], by simp -dsimp -implicitDefEqProofs [-getElem?_pos, go_sem, t12], by rw [hs]; simp -dsimp -implicitDefEqProofs [-getElem?_pos, go_sem, t14], by simp -dsimp -implicitDefEqProofs [-getElem?_pos, go_sem, t44], by simp -dsimp -implicitDefEqProofs [-getElem?_pos, go_sem, t45], by simp -dsimp -implicitDefEqProofs [-getElem?_pos, go_sem], by simp -dsimp -implicitDefEqProofs [-getElem?_pos, go_sem, lt1, h1], by simp -dsimp -implicitDefEqProofs [-getElem?_pos, go_sem, ltN, hN]⟩
  have d2 : decide ((b : Int) < q.Day) = false := decide_eq_false c2
  by_cases c3 : ¬ (e : Int) = 0 ∧ ¬ q.Entity = (e : Int)
  · have hs := skip (hn.1 (.inr (.inr c3)))
    have e0 : ¬ e = 0 := by omega
    have d3 : decide ((e : Int) = 0) = false := decide_eq_false c3.1
    have d4 : decide (q.Entity = (e : Int)) = false := decide_eq_false c3.2
    simp -dsimp -implicitDefEqProofs [-getElem?_pos, go_sem, hP, t9, t10, t11, d1, d2, e0, d3, d4, t46, wk]
    refine ⟨l.length - (k + 1), by omega, ?_⟩
    rw [hJ]
    exact ⟨k + 1, by omega, rfl, by simp -dsimp -implicitDefEqProofs [-getElem?_pos, go_sem, t8], by simp -dsimp -implicitDefEqProofs [-getElem?_pos, go_sem, t9], by simp -dsimp -implicitDefEqProofs [-getElem?_pos, go_sem, t10], by simp -dsimp -implicitDefEqProofs [-getElem?_pos, go_sem, t11], by simp -dsimp -implicitDefEqProofs [-getElem?_pos, go_sem, t12], by rw [hs]; simp -dsimp -implicitDefEqProofs [-getElem?_pos, go_sem, t14], by simp -dsimp -implicitDefEqProofs [-getElem?_pos, go_sem, t44], by simp -dsimp -implicitDefEqProofs [-getElem?_pos, go_sem, t45], by simp -dsimp -implicitDefEqProofs [-getElem?_pos, go_sem], by simp -dsimp -implicitDefEqProofs [-getElem?_pos, go_sem, lt1, h1], by simp -dsimp -implicitDefEqProofs [-getElem?_pos, go_sem, ltN, hN]⟩
  have hc : f q = true := by
    cases hfp' : f q with
    | true => rfl
    | false => have := hn.2 hfp'; omega
  rw [hc, if_pos rfl] at ms
  have w1 := wrap_in (M k + q.Amount) (by omega)
  have w2 := wrap_in (M k - q.Amount) (by omega)
  have w3 := wrap_in (M k + q.Amount - q.Amount) (by omega)
  rw [Int.add_sub_cancel] at w3
  have ad : addP (fun b => decide (classI b = 3)) q = (if classI q.Debit = 3 then q.Amount else 0) - (if classI q.Credit = 3 then q.Amount else 0) := by simp [addP]
  have d3 : (e : Int) = 0 ∨ (¬ (e : Int) = 0 ∧ q.Entity = (e : Int)) := by omega
  rcases d3 with d3 | ⟨d3, d4⟩
  · have e0 : e = 0 := by omega
    simp -dsimp -implicitDefEqProofs [-getElem?_pos, go_sem, hP, t9, t10, t11, d1, d2, e0]
    refine callB_pure (rclass_pf q.Credit) hP en_25 (args_same (by simp -dsimp -implicitDefEqProofs [-getElem?_pos, go_sem])) .sc ?_
    by_cases k1 : classI q.Credit = 3
    · rw [if_pos k1] at ad
      simp -dsimp -implicitDefEqProofs [-getElem?_pos, go_sem, hP, k1, t14, w1]
      refine callB_pure (rclass_pf q.Debit) hP en_25 (args_same (by simp -dsimp -implicitDefEqProofs [-getElem?_pos, go_sem])) .sc ?_
      by_cases k2 : classI q.Debit = 3
      · rw [if_pos k2] at ad
        have hs : M (k + 1) = M k := by rw [ms, ad]; omega
        simp -dsimp -implicitDefEqProofs [-getElem?_pos, go_sem, hP, k2, Int.add_sub_cancel, w3, t46, wk]
        refine ⟨l.length - (k + 1), by omega, ?_⟩
        rw [hJ]
        exact ⟨k + 1, by omega, rfl, by simp -dsimp -implicitDefEqProofs [-getElem?_pos, go_sem, t8], by simp -dsimp -implicitDefEqProofs [-getElem?_pos, go_sem, t9], by simp -dsimp -implicitDefEqProofs [-getElem?_pos, go_sem, t10], by simp -dsimp -implicitDefEqProofs [-getElem?_pos, go_sem, t11], by simp -dsimp -implicitDefEqProofs [-getElem?_pos, go_sem, t12], by rw [hs]; simp -dsimp -implicitDefEqProofs [-getElem?_pos, go_sem], by simp -dsimp -implicitDefEqProofs [-getElem?_pos, go_sem, t44], by simp -dsimp -implicitDefEqProofs [-getElem?_pos, go_sem, t45], by simp -dsimp -implicitDefEqProofs [-getElem?_pos, go_sem], by simp -dsimp -implicitDefEqProofs [-getElem?_pos, go_sem, lt1, h1], by simp -dsimp -implicitDefEqProofs [-getElem?_pos, go_sem, ltN, hN]⟩
      · rw [if_neg k2] at ad
        have hs : M (k + 1) = M k + q.Amount := by rw [ms, ad]; omega
        simp -dsimp -implicitDefEqProofs [-getElem?_pos, go_sem, hP, k2, t46, wk]
        refine ⟨l.length - (k + 1), by omega, ?_⟩
        rw [hJ]
        exact ⟨k + 1, by omega, rfl, by simp -dsimp -implicitDefEqProofs [-getElem?_pos, go_sem, t8], by simp -dsimp -implicitDefEqProofs [-getElem?_pos, go_sem, t9], by simp -dsimp -implicitDefEqProofs [-getElem?_pos, go_sem, t10], by simp -dsimp -implicitDefEqProofs [-getElem?_pos, go_sem, t11], by simp -dsimp -implicitDefEqProofs [-getElem?_pos, go_sem, t12], by rw [hs]; simp -dsimp -implicitDefEqProofs [-getElem?_pos, go_sem], by simp -dsimp -implicitDefEqProofs [-getElem?_pos, go_sem, t44], by simp -dsimp -implicitDefEqProofs [-getElem?_pos, go_sem, t45], by simp -dsimp -implicitDefEqProofs [-getElem?_pos, go_sem], by simp -dsimp -implicitDefEqProofs [-getElem?_pos, go_sem, lt1, h1], by simp -dsimp -implicitDefEqProofs [-getElem?_pos, go_sem, ltN, hN]⟩
    · rw [if_neg k1] at ad
      simp -dsimp -implicitDefEqProofs [-getElem?_pos, go_sem, hP, k1]
      refine callB_pure (rclass_pf q.Debit) hP en_25 (args_same (by simp -dsimp -implicitDefEqProofs [-getElem?_pos, go_sem])) .sc ?_
      by_cases k2 : classI q.Debit = 3
      · rw [if_pos k2] at ad
        have hs : M (k + 1) = M k - q.Amount := by rw [ms, ad]; omega
        simp -dsimp -implicitDefEqProofs [-getElem?_pos, go_sem, hP, k2, t14, w2, t46, wk]
        refine ⟨l.length - (k + 1), by omega, ?_⟩
        rw [hJ]
        exact ⟨k + 1, by omega, rfl, by simp -dsimp -implicitDefEqProofs [-getElem?_pos, go_sem, t8], by simp -dsimp -implicitDefEqProofs [-getElem?_pos, go_sem, t9], by simp -dsimp -implicitDefEqProofs [-getElem?_pos, go_sem, t10], by simp -dsimp -implicitDefEqProofs [-getElem?_pos, go_sem, t11], by simp -dsimp -implicitDefEqProofs [-getElem?_pos, go_sem, t12], by rw [hs]; simp -dsimp -implicitDefEqProofs [-getElem?_pos, go_sem], by simp -dsimp -implicitDefEqProofs [-getElem?_pos, go_sem, t44], by simp -dsimp -implicitDefEqProofs [-getElem?_pos, go_sem, t45], by simp -dsimp -implicitDefEqProofs [-getElem?_pos, go_sem], by simp -dsimp -implicitDefEqProofs [-getElem?_pos, go_sem, lt1, h1], by simp -dsimp -implicitDefEqProofs [-getElem?_pos, go_sem, ltN, hN]⟩
      · rw [if_neg k2] at ad
        have hs : M (k + 1) = M k := by rw [ms, ad]; omega
        simp -dsimp -implicitDefEqProofs [-getElem?_pos, go_sem, hP, k2, t46, wk]
        refine ⟨l.length - (k + 1), by omega, ?_⟩
        rw [hJ]
        exact ⟨k + 1, by omega, rfl, by simp -dsimp -implicitDefEqProofs [-getElem?_pos, go_sem, t8], by simp -dsimp -implicitDefEqProofs [-getElem?_pos, go_sem, t9], by simp -dsimp -implicitDefEqProofs [-getElem?_pos, go_sem, t10], by simp -dsimp -implicitDefEqProofs [-getElem?_pos, go_sem, t11], by simp -dsimp -implicitDefEqProofs [-getElem?_pos, go_sem, t12], by rw [hs]; simp -dsimp -implicitDefEqProofs [-getElem?_pos, go_sem, t14], by simp -dsimp -implicitDefEqProofs [-getElem?_pos, go_sem, t44], by simp -dsimp -implicitDefEqProofs [-getElem?_pos, go_sem, t45], by simp -dsimp -implicitDefEqProofs [-getElem?_pos, go_sem], by simp -dsimp -implicitDefEqProofs [-getElem?_pos, go_sem, lt1, h1], by simp -dsimp -implicitDefEqProofs [-getElem?_pos, go_sem, ltN, hN]⟩

  · have e0 : ¬ e = 0 := by omega
    have d5 : decide ((e : Int) = 0) = false := decide_eq_false d3
    have d6 : decide (q.Entity = (e : Int)) = true := decide_eq_true d4
    simp -dsimp -implicitDefEqProofs [-getElem?_pos, go_sem, hP, t9, t10, t11, d1, d2, e0, d5, d6]
    refine callB_pure (rclass_pf q.Credit) hP en_25 (args_same (by simp -dsimp -implicitDefEqProofs [-getElem?_pos, go_sem])) .sc ?_
    by_cases k1 : classI q.Credit = 3
    · rw [if_pos k1] at ad
      simp -dsimp -implicitDefEqProofs [-getElem?_pos, go_sem, hP, k1, t14, w1]
      refine callB_pure (rclass_pf q.Debit) hP en_25 (args_same (by simp -dsimp -implicitDefEqProofs [-getElem?_pos, go_sem])) .sc ?_
      by_cases k2 : classI q.Debit = 3
      · rw [if_pos k2] at ad
        have hs : M (k + 1) = M k := by rw [ms, ad]; omega
        simp -dsimp -implicitDefEqProofs [-getElem?_pos, go_sem, hP, k2, Int.add_sub_cancel, w3, t46, wk]
        refine ⟨l.length - (k + 1), by omega, ?_⟩
        rw [hJ]
        exact ⟨k + 1, by omega, rfl, by simp -dsimp -implicitDefEqProofs [-getElem?_pos, go_sem, t8], by simp -dsimp -implicitDefEqProofs [-getElem?_pos, go_sem, t9], by simp -dsimp -implicitDefEqProofs [-getElem?_pos, go_sem, t10], by simp -dsimp -implicitDefEqProofs [-getElem?_pos, go_sem, t11], by simp -dsimp -implicitDefEqProofs [-getElem?_pos, go_sem, t12], by rw [hs]; simp -dsimp -implicitDefEqProofs [-getElem?_pos, go_sem], by simp -dsimp -implicitDefEqProofs [-getElem?_pos, go_sem, t44], by simp -dsimp -implicitDefEqProofs [-getElem?_pos, go_sem, t45], by simp -dsimp -implicitDefEqProofs [-getElem?_pos, go_sem], by simp -dsimp -implicitDefEqProofs [-getElem?_pos, go_sem, lt1, h1], by simp -dsimp -implicitDefEqProofs [-getElem?_pos, go_sem, ltN, hN]⟩
      · rw [if_neg k2] at ad
        have hs : M (k + 1) = M k + q.Amount := by rw [ms, ad]; omega
        simp -dsimp -implicitDefEqProofs [-getElem?_pos, go_sem, hP, k2, t46, wk]
        refine ⟨l.length - (k + 1), by omega, ?_⟩
        rw [hJ]
        exact ⟨k + 1, by omega, rfl, by simp -dsimp -implicitDefEqProofs [-getElem?_pos, go_sem, t8], by simp -dsimp -implicitDefEqProofs [-getElem?_pos, go_sem, t9], by simp -dsimp -implicitDefEqProofs [-getElem?_pos, go_sem, t10], by simp -dsimp -implicitDefEqProofs [-getElem?_pos, go_sem, t11], by simp -dsimp -implicitDefEqProofs [-getElem?_pos, go_sem, t12], by rw [hs]; simp -dsimp -implicitDefEqProofs [-getElem?_pos, go_sem], by simp -dsimp -implicitDefEqProofs [-getElem?_pos, go_sem, t44], by simp -dsimp -implicitDefEqProofs [-getElem?_pos, go_sem, t45], by simp -dsimp -implicitDefEqProofs [-getElem?_pos, go_sem], by simp -dsimp -implicitDefEqProofs [-getElem?_pos, go_sem, lt1, h1], by simp -dsimp -implicitDefEqProofs [-getElem?_pos, go_sem, ltN, hN]⟩
    · rw [if_neg k1] at ad
      simp -dsimp -implicitDefEqProofs [-getElem?_pos, go_sem, hP, k1]
      refine callB_pure (rclass_pf q.Debit) hP en_25 (args_same (by simp -dsimp -implicitDefEqProofs [-getElem?_pos, go_sem])) .sc ?_
      by_cases k2 : classI q.Debit = 3
      · rw [if_pos k2] at ad
        have hs : M (k + 1) = M k - q.Amount := by rw [ms, ad]; omega
        simp -dsimp -implicitDefEqProofs [-getElem?_pos, go_sem, hP, k2, t14, w2, t46, wk]
        refine ⟨l.length - (k + 1), by omega, ?_⟩
        rw [hJ]
        exact ⟨k + 1, by omega, rfl, by simp -dsimp -implicitDefEqProofs [-getElem?_pos, go_sem, t8], by simp -dsimp -implicitDefEqProofs [-getElem?_pos, go_sem, t9], by simp -dsimp -implicitDefEqProofs [-getElem?_pos, go_sem, t10], by simp -dsimp -implicitDefEqProofs [-getElem?_pos, go_sem, t11], by simp -dsimp -implicitDefEqProofs [-getElem?_pos, go_sem, t12], by rw [hs]; simp -dsimp -implicitDefEqProofs [-getElem?_pos, go_sem], by simp -dsimp -implicitDefEqProofs [-getElem?_pos, go_sem, t44], by simp -dsimp -implicitDefEqProofs [-getElem?_pos, go_sem, t45], by simp -dsimp -implicitDefEqProofs [-getElem?_pos, go_sem], by simp -dsimp -implicitDefEqProofs [-getElem?_pos, go_sem, lt1, h1], by simp -dsimp -implicitDefEqProofs [-getElem?_pos, go_sem, ltN, hN]⟩
      · rw [if_neg k2] at ad
        have hs : M (k + 1) = M k := by rw [ms, ad]; omega
        simp -dsimp -implicitDefEqProofs [-getElem?_pos, go_sem, hP, k2, t46, wk]
        refine ⟨l.length - (k + 1), by omega, ?_⟩
        rw [hJ]
        exact ⟨k + 1, by omega, rfl, by simp -dsimp -implicitDefEqProofs [-getElem?_pos, go_sem, t8], by simp -dsimp -implicitDefEqProofs [-getElem?_pos, go_sem, t9], by simp -dsimp -implicitDefEqProofs [-getElem?_pos, go_sem, t10], by simp -dsimp -implicitDefEqProofs [-getElem?_pos, go_sem, t11], by simp -dsimp -implicitDefEqProofs [-getElem?_pos, go_sem, t12], by rw [hs]; simp -dsimp -implicitDefEqProofs [-getElem?_pos, go_sem, t14], by simp -dsimp -implicitDefEqProofs [-getElem?_pos, go_sem, t44], by simp -dsimp -implicitDefEqProofs [-getElem?_pos, go_sem, t45], by simp -dsimp -implicitDefEqProofs [-getElem?_pos, go_sem], by simp -dsimp -implicitDefEqProofs [-getElem?_pos, go_sem, lt1, h1], by simp -dsimp -implicitDefEqProofs [-getElem?_pos, go_sem, ltN, hN]⟩

end Go.Proofs.Ytellcfkpfccgaaa
