/- Receipts: the checks of cash. -/
import Derived.Test.YtgapbmaehfdkoaaGreatDoorCash4
set_option linter.unusedSimpArgs false
set_option linter.unusedVariables false
namespace Go.Proofs.YtgapbmaehfdkoaaGreatDoor
open Go.PA
open Go.RowKit

theorem ccheck_pf (c : TCash) (hf : FitC c) : PFun Tryz.prog none none 15 [.agg c.cells] (· = iv (cashE c)) := by
  refine pfun_intro Tryz.func15 rfl (by simp [Tryz.f15]) (by kernel_rfl) ?_
  intro E hP hr hs hW hN
  have hfc := hf.fc
  have hfi := hf.fi
  have hfm := hf.fm
  have hfl := hf.fl
  have ip := imm_claims c.Claims
  have ii := imm_incomes c.Incomes
  have ic := imm_agg.2 c.imm
  have mp := matched_pf c hf
  rw [cCsh] at ic mp
  obtain ⟨R, hR⟩ : ∃ R, R = cashE c := ⟨_, rfl⟩
  rw [← hR]
  rw [cashE] at hR
  by_cases c1 : 60 < c.Claims.length
  · have d1 : decide ((60 : Int) < (c.Claims.length : Int)) = true := decide_eq_true (by omega)
    rw [if_neg (by omega)] at hR
    simp -dsimp -implicitDefEqProofs [-getElem?_pos, go_sem, hP, cCsh, c1, d1, hR]
  have d1 : decide ((60 : Int) < (c.Claims.length : Int)) = false := decide_eq_false (by omega)
  by_cases c2 : 100 < c.Incomes.length
  · have d2 : decide ((100 : Int) < (c.Incomes.length : Int)) = true := decide_eq_true (by omega)
    rw [if_neg (by omega)] at hR
    simp -dsimp -implicitDefEqProofs [-getElem?_pos, go_sem, hP, cCsh, c1, d1, c2, d2, hR]
  have d2 : decide ((100 : Int) < (c.Incomes.length : Int)) = false := decide_eq_false (by omega)
  by_cases c3 : 160 < c.Matches.length
  · have d3 : decide ((160 : Int) < (c.Matches.length : Int)) = true := decide_eq_true (by omega)
    rw [if_neg (by omega)] at hR
    simp -dsimp -implicitDefEqProofs [-getElem?_pos, go_sem, hP, cCsh, c1, d1, c2, d2, c3, d3, hR]
  have d3 : decide ((160 : Int) < (c.Matches.length : Int)) = false := decide_eq_false (by omega)
  rw [if_pos (by omega)] at hR
  simp -dsimp -implicitDefEqProofs [-getElem?_pos, go_sem, hP, cCsh, c1, d1, c2, d2, c3, d3]
  refine callB_pure (cclaims_pf c.Claims (by omega) hf.code) hP en_46 (args_same (by simpa using ip)) .sc ?_
  cases c4 : paysB 0 c.Claims
  · rw [c4, if_neg (by simp)] at hR
    simp -dsimp -implicitDefEqProofs [-getElem?_pos, go_sem, hP, hR]
  rw [c4, if_pos rfl] at hR
  simp -dsimp -implicitDefEqProofs [-getElem?_pos, go_sem, hP]
  refine callB_pure (cincomes_pf c.Incomes (by omega)) hP en_47 (args_same (by simpa using ii)) .sc ?_
  cases c5 : incsB 0 0 c.Incomes
  · rw [c5, Bool.false_and, if_neg (by simp)] at hR
    simp -dsimp -implicitDefEqProofs [-getElem?_pos, go_sem, hP, hR]
  rw [c5, Bool.true_and] at hR
  by_cases c6 : c.Loose.length = c.Incomes.length
  · have d6 : decide ((c.Loose.length : Int) = (c.Incomes.length : Int)) = true := decide_eq_true (by omega)
    simp -dsimp -implicitDefEqProofs [-getElem?_pos, go_sem, hP, c6, d6]
    refine callB_pure (mp c4 c5 c6) hP en_48 (args_same (by simpa using ic)) .sc ?_
    cases c7 : booksB c
    · rw [c7, if_neg (by simp)] at hR
      simp -dsimp -implicitDefEqProofs [-getElem?_pos, go_sem, hP, hR]
    · rw [c7, if_pos rfl] at hR
      simp -dsimp -implicitDefEqProofs [-getElem?_pos, go_sem, hP, hR]
  · have d6 : decide ((c.Loose.length : Int) = (c.Incomes.length : Int)) = false := decide_eq_false (by omega)
    have e : booksB c = false := by
      cases hb : booksB c
      · rfl
      · exact absurd ((booksB_iff c).1 hb).len c6
    rw [e, if_neg (by simp)] at hR
    simp -dsimp -implicitDefEqProofs [-getElem?_pos, go_sem, hP, c6, d6, hR]

theorem gotS_le : ∀ (ms : List TMatch) (id : Int), (∀ m, m ∈ ms → 0 < m.Amount ∧ m.Amount ≤ 1000000000000) → gotS ms id ≤ ms.length * 1000000000000
  | [], _, _ => by simp [gotS]
  | m :: ms, id, h => by
    have ih := gotS_le ms id fun z hz => h z (List.mem_cons_of_mem _ hz)
    have := h m (List.mem_cons_self ..)
    unfold gotS at ih ⊢
    rw [List.length_cons]
    by_cases e : m.Claim = id
    · simp only [List.filter_cons, e, decide_true, if_true, List.map_cons, List.sum_cons]; omega
    · simp only [List.filter_cons, e, decide_false, Bool.false_eq_true, if_false]; omega
theorem usedS_le : ∀ (ms : List TMatch) (n : Int), (∀ m, m ∈ ms → 0 < m.Amount ∧ m.Amount ≤ 1000000000000) → usedS ms n ≤ ms.length * 1000000000000
  | [], _, _ => by simp [usedS]
  | m :: ms, n, h => by
    have ih := usedS_le ms n fun z hz => h z (List.mem_cons_of_mem _ hz)
    have := h m (List.mem_cons_self ..)
    unfold usedS at ih ⊢
    rw [List.length_cons]
    by_cases e : m.Income = n
    · simp only [List.filter_cons, e, decide_true, if_true, List.map_cons, List.sum_cons]; omega
    · simp only [List.filter_cons, e, decide_false, Bool.false_eq_true, if_false]; omega
/-- A match that names a claim and an income of one payer. -/
def mateM (c : TCash) (m : TMatch) : Prop := ∃ i k x y, incAt c.Incomes m.Income = some i ∧ payAt c.Claims m.Claim = some k ∧ c.Claims[k]? = some x ∧ c.Incomes[i]? = some y ∧ x.ID = m.Claim ∧ y.Number = m.Income ∧ y.Payer = x.Payer ∧ 0 < m.Amount ∧ m.Amount ≤ 1000000000000

set_option maxHeartbeats 8000000 in
set_option maxRecDepth 8000 in
theorem crcheck_pf (c : TCash) (hf : FitC c) : PFun Tryz.prog none none 28 [.agg c.cells] (· = iv (cashE c)) := by
  refine pfun_intro Tryz.func28 rfl (by simp [Tryz.f28]) (by kernel_rfl) ?_
  intro E hP hr hs hW hN
  have hfc := hf.fc
  have hfi := hf.fi
  have hfm := hf.fm
  have hfl := hf.fl
  have ip := imm_claims c.Claims
  have ic := imm_agg.2 c.imm
  have ca := fun id => crclaimAt_pf c id hf
  have ia := fun n => crincomeAt_pf c n hf
  rw [cCsh] at ic
  simp only [cCsh] at ca ia
  obtain ⟨R, hR⟩ : ∃ R, R = cashE c := ⟨_, rfl⟩
  rw [← hR]
  rw [cashE] at hR
  by_cases c1 : 60 < c.Claims.length
  · have d1 : decide ((60 : Int) < (c.Claims.length : Int)) = true := decide_eq_true (by omega)
    rw [if_neg (by omega)] at hR
    simp -dsimp -implicitDefEqProofs [-getElem?_pos, go_sem, hP, cCsh, c1, d1, hR]
  have d1 : decide ((60 : Int) < (c.Claims.length : Int)) = false := decide_eq_false (by omega)
  by_cases c2 : 100 < c.Incomes.length
  · have d2 : decide ((100 : Int) < (c.Incomes.length : Int)) = true := decide_eq_true (by omega)
    rw [if_neg (by omega)] at hR
    simp -dsimp -implicitDefEqProofs [-getElem?_pos, go_sem, hP, cCsh, c1, d1, c2, d2, hR]
  have d2 : decide ((100 : Int) < (c.Incomes.length : Int)) = false := decide_eq_false (by omega)
  by_cases c3 : 160 < c.Matches.length
  · have d3 : decide ((160 : Int) < (c.Matches.length : Int)) = true := decide_eq_true (by omega)
    rw [if_neg (by omega)] at hR
    simp -dsimp -implicitDefEqProofs [-getElem?_pos, go_sem, hP, cCsh, c1, d1, c2, d2, c3, d3, hR]
  have d3 : decide ((160 : Int) < (c.Matches.length : Int)) = false := decide_eq_false (by omega)
  rw [if_pos (by omega)] at hR
  simp -dsimp -implicitDefEqProofs [-getElem?_pos, go_sem, hP, cCsh, c1, d1, c2, d2, c3, d3]
  refine callB_pure (crclaims_pf c.Claims (by omega) hf.code) hP en_54 (args_same (by simpa using ip)) .sc ?_
  cases c4 : paysB 0 c.Claims
  · rw [c4, if_neg (by simp)] at hR
    simp -dsimp -implicitDefEqProofs [-getElem?_pos, go_sem, hP, hR]
  rw [c4, if_pos rfl] at hR
  have bad : ¬ (incsB 0 0 c.Incomes = true ∧ Books c) → R = 70 := fun h => by
    rw [hR, if_neg]
    intro k
    rw [Bool.and_eq_true] at k
    exact h ⟨k.1, (booksB_iff c).1 k.2⟩
  by_cases c6 : c.Loose.length = c.Incomes.length
  rotate_left
  · have d6 : decide ((c.Loose.length : Int) = (c.Incomes.length : Int)) = false := decide_eq_false (by omega)
    have e := bad fun h => c6 h.2.len
    simp -dsimp -implicitDefEqProofs [-getElem?_pos, go_sem, hP, c6, d6, e]
  have d6 : decide ((c.Loose.length : Int) = (c.Incomes.length : Int)) = true := decide_eq_true (by omega)
  obtain ⟨nC, hnC⟩ : ∃ n, n = c.Claims.length := ⟨_, rfl⟩
  obtain ⟨nI, hnI⟩ : ∃ n, n = c.Incomes.length := ⟨_, rfl⟩
  obtain ⟨nM, hnM⟩ : ∃ n, n = c.Matches.length := ⟨_, rfl⟩
  obtain ⟨ls, hls⟩ : ∃ ls, ls = c.Loose := ⟨_, rfl⟩
  have hl : ls.length = nI := by rw [hls, hnI]; exact c6
  rw [← hnC] at hfc c1
  rw [← hnI] at hfi c2
  rw [← hnM] at hfm c3
  have pw := (paysB_iff _ _).1 c4
  rw [← hls] at ic
  simp only [← hls] at ca ia
  obtain ⟨O, hO⟩ : ∃ O : AObj, O = ⟨29, 4, [[claimsL c.Claims, incomesL c.Incomes, matchesL c.Matches, .list 1 (encL encI ls)]]⟩ := ⟨_, rfl⟩
  simp -dsimp -implicitDefEqProofs [-getElem?_pos, go_sem, hP, ← hnC, ← hnI, ← hls, hl, rowsI_zero]
  refine ⟨by omega, by omega, by omega, by omega, ?_⟩
  simp only [← hO]
  -- the incomes
  obtain ⟨I, hI⟩ : ∃ I : Nat → St → Prop, I = fun m s => ∃ (k : Nat), k ≤ nI ∧ m = nI - k ∧ incsB 0 0 c.Incomes = incsB (prevN c.Incomes k) (prevD c.Incomes k) (c.Incomes.drop k) ∧ (∀ (i : Nat) (y : TIncome) (lo : Int), i < k → c.Incomes[i]? = some y → ls[i]? = some lo → 0 ≤ lo ∧ lo ≤ y.Amount) ∧ s.t 1 = .ref 0 0 0 ∧ s.t 3 = .sref 1 0 nC ∧ s.t 4 = .sref 2 0 nI ∧ s.t 51 = incomesL c.Incomes ∧ s.t 52 = iv nI ∧ s.t 53 = iv k ∧ s.H[0]? = some (some O) ∧ s.H[1]? = some (some ⟨3, 1, rowsI (List.replicate nC 0)⟩) ∧ s.H[2]? = some (some ⟨3, 1, rowsI (List.replicate nI 0)⟩) := ⟨_, rfl⟩
  refine aloop0 I (nI) (by rw [hN]; rfl) ?_ ?_
  · rw [hI]
    exact ⟨0, by omega, by omega, rfl, fun i y lo hj => by omega, by simp -dsimp -implicitDefEqProofs [-getElem?_pos, go_sem], by simp -dsimp -implicitDefEqProofs [-getElem?_pos, go_sem], by simp -dsimp -implicitDefEqProofs [-getElem?_pos, go_sem], by simp -dsimp -implicitDefEqProofs [-getElem?_pos, go_sem], by simp -dsimp -implicitDefEqProofs [-getElem?_pos, go_sem], by simp -dsimp -implicitDefEqProofs [-getElem?_pos, go_sem], by simp -dsimp -implicitDefEqProofs [-getElem?_pos, go_sem], by simp -dsimp -implicitDefEqProofs [-getElem?_pos, go_sem], by simp -dsimp -implicitDefEqProofs [-getElem?_pos, go_sem]⟩
  intro m s hs'
  rw [hI] at hs'
  obtain ⟨k, hk, hm, hinc, hlo, t1, t3, t4, t51, t52, t53, h0, ha, hb⟩ := hs'
  have lt0 := (List.getElem?_eq_some_iff.1 h0).1
  have lta := (List.getElem?_eq_some_iff.1 ha).1
  have ltb := (List.getElem?_eq_some_iff.1 hb).1
  simp -dsimp -implicitDefEqProofs [-getElem?_pos, go_sem, hP, t52, t53]
  refine condP (fun h => ?_) (fun h => ?_)
  · have hk : k < nI := by simpa using h
    obtain ⟨x, hx⟩ : ∃ x, c.Incomes[k]? = some x := ⟨_, List.getElem?_eq_getElem (by omega)⟩
    obtain ⟨lo, hlo1⟩ : ∃ lo, ls[k]? = some lo := ⟨_, List.getElem?_eq_getElem (by omega)⟩
    have wk := wrap_in ((k : Int) + 1) (by omega)
    have px := crincome_pf x
    have ix := imm_agg.2 (TIncome.imm x)
    rw [cIncm] at px ix
    rw [drop_atL hx, incsB] at hinc
    simp -dsimp -implicitDefEqProofs [-getElem?_pos, go_sem, hP, t51, t53, hx, cIncm]
    refine adrawB (fun _ => true) [] hP (by kernel_rfl) (by kernel_rfl) ?_
    simp -dsimp -implicitDefEqProofs [-getElem?_pos, go_sem, hP]
    refine callB_pure px hP en_55 (args_same (by simpa using ix)) .sc ?_
    cases e1 : incB x
    · rw [e1, Bool.false_and, Bool.false_and, Bool.false_and] at hinc
      have e := bad fun h => by rw [h.1] at hinc; cases hinc
      simp -dsimp -implicitDefEqProofs [-getElem?_pos, go_sem, hP, e]
    have pos := incB_pos e1
    have amt := incB_amount e1
    rw [e1, Bool.true_and] at hinc
    have fin : ∀ s' : St, incsB 0 0 c.Incomes = incsB x.Number x.Day (c.Incomes.drop (k + 1)) → 0 ≤ lo → lo ≤ x.Amount → s'.t 1 = .ref 0 0 0 → s'.t 3 = .sref 1 0 nC → s'.t 4 = .sref 2 0 nI → s'.t 51 = incomesL c.Incomes → s'.t 52 = iv nI → s'.t 53 = iv ((k : Int) + 1) → s'.H[0]? = some (some O) → s'.H[1]? = some (some ⟨3, 1, rowsI (List.replicate nC 0)⟩) → s'.H[2]? = some (some ⟨3, 1, rowsI (List.replicate nI 0)⟩) → ∃ m', m' < nI - k ∧ I m' s' := fun s' a1 b1 b2 a2 a3 a4 a5 a6 a7 a8 a9 a10 => by
      refine ⟨nI - (k + 1), by omega, ?_⟩
      rw [hI]
      refine ⟨k + 1, by omega, rfl, ?_, fun i y l hi hy hl => ?_, a2, a3, a4, a5, a6, by rw [a7]; simp, a8, a9, a10⟩
      · rw [a1]
        simp [prevN, prevD, hx]
      · by_cases ei : i = k
        · subst ei
          rw [hx] at hy; cases hy
          rw [hlo1] at hl; cases hl
          exact ⟨b1, b2⟩
        · exact hlo i y l (by omega) hy hl
    have loose : ∀ s' : St, True → True := fun _ h => h
    have badlo : ¬ (0 ≤ lo ∧ lo ≤ x.Amount) → R = 70 := fun h => bad fun hb => h (by
      have h1 := hb.2.used k x lo hx (by rw [← hls]; exact hlo1)
      have h2 := usedS_nonneg c.Matches x.Number fun z hz => (hb.2.mates z hz).1
      omega)
    subst hm
    cases k with
    | zero =>
      have d : decide ((0 : Int) < x.Number) = true := decide_eq_true (by omega)
      have d' : decide ((0 : Int) ≤ x.Day) = true := decide_eq_true (by omega)
      rw [prevN, prevD, d, d', Bool.true_and, Bool.true_and] at hinc
      have w1 : IntKind.i64.wrap 1 = 1 := wrap_in 1 (by omega)
      by_cases f1 : lo < 0
      · have e := badlo (by omega)
        simp -dsimp -implicitDefEqProofs [-getElem?_pos, go_sem, hP, t53, t1, h0, hO, lt0, hlo1, encI, f1, e]
      by_cases f2 : x.Amount < lo
      · have e := badlo (by omega)
        simp -dsimp -implicitDefEqProofs [-getElem?_pos, go_sem, hP, t53, t1, h0, hO, lt0, hlo1, encI, f1, f2, e]
      simp -dsimp -implicitDefEqProofs [-getElem?_pos, go_sem, hP, t53, t1, h0, hO, lt0, hlo1, encI, f1, f2, w1]
      exact fin _ hinc (by omega) (by omega) (by simp -dsimp -implicitDefEqProofs [-getElem?_pos, go_sem, t1]) (by simp -dsimp -implicitDefEqProofs [-getElem?_pos, go_sem, t3]) (by simp -dsimp -implicitDefEqProofs [-getElem?_pos, go_sem, t4]) (by simp -dsimp -implicitDefEqProofs [-getElem?_pos, go_sem, t51]) (by simp -dsimp -implicitDefEqProofs [-getElem?_pos, go_sem, t52]) (by simp -dsimp -implicitDefEqProofs [-getElem?_pos, go_sem, w1]) (by simp -dsimp -implicitDefEqProofs [-getElem?_pos, go_sem, lt0, h0]) (by simp -dsimp -implicitDefEqProofs [-getElem?_pos, go_sem, lta, ha]) (by simp -dsimp -implicitDefEqProofs [-getElem?_pos, go_sem, ltb, hb])
    | succ j =>
      obtain ⟨y, hy⟩ : ∃ y, c.Incomes[j]? = some y := ⟨_, List.getElem?_eq_getElem (by omega)⟩
      have wj := wrap_in ((j : Int) + 1 - 1) (by omega)
      rw [Int.add_sub_cancel] at wj
      have ep : prevN c.Incomes (j + 1) = y.Number := by simp [prevN, hy]
      have ep2 : prevD c.Incomes (j + 1) = y.Day := by simp [prevD, hy]
      rw [ep, ep2] at hinc
      have d0 : decide ((0 : Int) < (j : Int) + 1) = true := decide_eq_true (by omega)
      have wk2 := wrap_in ((j : Int) + 1 + 1) (by omega)
      by_cases g1 : y.Number < x.Number
      rotate_left
      · have d : decide (x.Number ≤ y.Number) = true := decide_eq_true (by omega)
        have d2 : decide (y.Number < x.Number) = false := decide_eq_false g1
        rw [d2, Bool.false_and, Bool.false_and] at hinc
        have e := bad fun h => by rw [h.1] at hinc; cases hinc
        simp -dsimp -implicitDefEqProofs [-getElem?_pos, go_sem, hP, t53, t1, h0, hO, lt0, hlo1, encI, d0, Int.add_sub_cancel, wj, hy, cIncm, d, e]
      have d : decide (x.Number ≤ y.Number) = false := decide_eq_false (by omega)
      have d2 : decide (y.Number < x.Number) = true := decide_eq_true g1
      rw [d2, Bool.true_and] at hinc
      by_cases g2 : y.Day ≤ x.Day
      rotate_left
      · have d3 : decide (x.Day < y.Day) = true := decide_eq_true (by omega)
        have d4 : decide (y.Day ≤ x.Day) = false := decide_eq_false g2
        rw [d4, Bool.false_and] at hinc
        have e := bad fun h => by rw [h.1] at hinc; cases hinc
        simp -dsimp -implicitDefEqProofs [-getElem?_pos, go_sem, hP, t53, t1, h0, hO, lt0, hlo1, encI, d0, Int.add_sub_cancel, wj, hy, cIncm, d, d3, e]
      have d3 : decide (x.Day < y.Day) = false := decide_eq_false (by omega)
      have d4 : decide (y.Day ≤ x.Day) = true := decide_eq_true g2
      rw [d4, Bool.true_and] at hinc
      have j0 : (0 : Int) ≤ (j : Int) + 1 := by omega
      by_cases f1 : lo < 0
      · have e := badlo (by omega)
        simp -dsimp -implicitDefEqProofs [-getElem?_pos, go_sem, hP, t53, t1, h0, hO, lt0, hlo1, encI, d0, j0, Int.add_sub_cancel, wj, hy, cIncm, d, d3, f1, e]
      by_cases f2 : x.Amount < lo
      · have e := badlo (by omega)
        simp -dsimp -implicitDefEqProofs [-getElem?_pos, go_sem, hP, t53, t1, h0, hO, lt0, hlo1, encI, d0, j0, Int.add_sub_cancel, wj, hy, cIncm, d, d3, f1, f2, e]
      simp -dsimp -implicitDefEqProofs [-getElem?_pos, go_sem, hP, t53, t1, h0, hO, lt0, hlo1, encI, d0, j0, Int.add_sub_cancel, wj, hy, cIncm, d, d3, f1, f2, wk2]
      exact fin _ hinc (by omega) (by omega) (by simp -dsimp -implicitDefEqProofs [-getElem?_pos, go_sem, t1]) (by simp -dsimp -implicitDefEqProofs [-getElem?_pos, go_sem, t3]) (by simp -dsimp -implicitDefEqProofs [-getElem?_pos, go_sem, t4]) (by simp -dsimp -implicitDefEqProofs [-getElem?_pos, go_sem, t51]) (by simp -dsimp -implicitDefEqProofs [-getElem?_pos, go_sem, t52]) (by simp -dsimp -implicitDefEqProofs [-getElem?_pos, go_sem]) (by simp -dsimp -implicitDefEqProofs [-getElem?_pos, go_sem, lt0, h0]) (by simp -dsimp -implicitDefEqProofs [-getElem?_pos, go_sem, lta, ha]) (by simp -dsimp -implicitDefEqProofs [-getElem?_pos, go_sem, ltb, hb])
  have hk : nI = k := by
    have : ¬ k < nI := by simpa using h
    omega
  subst hk
  rw [List.drop_eq_nil_of_le (by omega), incsB] at hinc
  have iw := (incsB_iff _ _ _).1 hinc
  have bad : ¬ Books c → R = 70 := fun h => bad fun k => h k.2
  have hl0 : ∀ (i : Nat) (y : TIncome) (lo : Int), c.Incomes[i]? = some y → ls[i]? = some lo → 0 ≤ lo ∧ lo ≤ y.Amount := fun i y lo hy hl => hlo i y lo (by rw [hnI]; exact (List.getElem?_eq_some_iff.1 hy).1) hy hl
  have za : List.replicate nC 0 = gotL c [] := by
    rw [hnC]
    apply List.ext_getElem?
    intro i
    simp [gotL, gotS, List.getElem?_replicate, List.getElem?_map]
    by_cases e : i < c.Claims.length <;> simp [e]
  have zb : List.replicate nI 0 = useL c [] := by
    rw [hnI]
    apply List.ext_getElem?
    intro i
    simp [useL, usedS, List.getElem?_replicate, List.getElem?_map]
    by_cases e : i < c.Incomes.length <;> simp [e]
  rw [za] at ha
  rw [zb] at hb
  clear hI h t51 t52 t53 za zb
  simp -dsimp -implicitDefEqProofs [-getElem?_pos, go_sem, hP, t1, h0, lt0, hO, ← hnM]
  -- the matches
  obtain ⟨I, hI⟩ : ∃ I : Nat → St → Prop, I = fun m s => ∃ (j : Nat), j ≤ nM ∧ m = nM - j ∧ (∀ (i : Nat) (q : TMatch), i < j → c.Matches[i]? = some q → mateM c q) ∧ s.t 1 = .ref 0 0 0 ∧ s.t 3 = .sref 1 0 nC ∧ s.t 4 = .sref 2 0 nI ∧ s.t 109 = matchesL c.Matches ∧ s.t 110 = iv nM ∧ s.t 111 = iv j ∧ s.H[0]? = some (some O) ∧ s.H[1]? = some (some ⟨3, 1, rowsI (gotL c (c.Matches.take j))⟩) ∧ s.H[2]? = some (some ⟨3, 1, rowsI (useL c (c.Matches.take j))⟩) := ⟨_, rfl⟩
  refine aloop0 I (nM) (by rw [hN]; rfl) ?_ ?_
  · rw [hI]
    exact ⟨0, by omega, by omega, fun i q hj => by omega, by simp -dsimp -implicitDefEqProofs [-getElem?_pos, go_sem, t1], by simp -dsimp -implicitDefEqProofs [-getElem?_pos, go_sem, t3], by simp -dsimp -implicitDefEqProofs [-getElem?_pos, go_sem, t4], by simp -dsimp -implicitDefEqProofs [-getElem?_pos, go_sem], by simp -dsimp -implicitDefEqProofs [-getElem?_pos, go_sem], by simp -dsimp -implicitDefEqProofs [-getElem?_pos, go_sem], by simp -dsimp -implicitDefEqProofs [-getElem?_pos, go_sem, h0], by simp -dsimp -implicitDefEqProofs [-getElem?_pos, go_sem, ha], by simp -dsimp -implicitDefEqProofs [-getElem?_pos, go_sem, hb]⟩
  clear t1 t3 t4 h0 ha hb lt0 lta ltb
  intro m s hs'
  rw [hI] at hs'
  obtain ⟨j, hj, hm, hfits, t1, t3, t4, t109, t110, t111, h0, ha, hb⟩ := hs'
  have lt0 := (List.getElem?_eq_some_iff.1 h0).1
  have lta := (List.getElem?_eq_some_iff.1 ha).1
  have ltb := (List.getElem?_eq_some_iff.1 hb).1
  simp -dsimp -implicitDefEqProofs [-getElem?_pos, go_sem, hP, t110, t111]
  refine condP (fun h => ?_) (fun h => ?_)
  · have hj : j < nM := by simpa using h
    obtain ⟨q, hq⟩ : ∃ q, c.Matches[j]? = some q := ⟨_, List.getElem?_eq_getElem (by omega)⟩
    have wk := wrap_in ((j : Int) + 1) (by omega)
    obtain ⟨ms, hms⟩ : ∃ ms, ms = c.Matches.take j := ⟨_, rfl⟩
    have lms : ms.length ≤ 160 := by rw [hms, List.length_take]; omega
    rw [← hms] at ha hb
    have posM : ∀ z, z ∈ ms → 0 < z.Amount ∧ z.Amount ≤ 1000000000000 := fun z hz => by
      rw [hms] at hz
      obtain ⟨i', hi'⟩ := List.getElem?_of_mem hz
      rw [List.getElem?_take] at hi'
      split at hi'
      · obtain ⟨_, _, _, _, _, _, _, _, _, _, _, h8, h9⟩ := hfits i' z (by assumption) hi'
        exact ⟨h8, h9⟩
      · cases hi'
    have unfit : ¬ mateM c q → R = 70 := fun h => bad fun hb => h (by
      obtain ⟨i, k, x, y, h1, h2, h3, h4, h5, h6, h7, h8, h9, _⟩ := hb.fits c4 hinc hq
      have xb := (payB_iff.1 (pw.1 x (List.mem_of_getElem? h3)).1).2.2.1.2
      have gp := gotS_nonneg (c.Matches.take j) x.ID (by rw [← hms]; exact fun z hz => (posM z hz).1)
      exact ⟨i, k, x, y, h1, h2, h3, h4, h5, h6, h7, h8, by omega⟩)
    simp -dsimp -implicitDefEqProofs [-getElem?_pos, go_sem, hP, t109, t111, hq, cMtc]
    refine adrawB (fun _ => true) [] hP (by kernel_rfl) (by kernel_rfl) ?_
    simp -dsimp -implicitDefEqProofs [-getElem?_pos, go_sem, hP, t1, h0, lt0, hO]
    refine callB_pure (ia q.Income) hP en_56 (args_same (by simpa [imm_sc] using ic)) .sc ?_
    simp -dsimp -implicitDefEqProofs [-getElem?_pos, go_sem, hP, t1, h0, lt0, hO]
    refine callB_pure (ca q.Claim) hP en_57 (args_same (by simpa [imm_sc] using ic)) .sc ?_
    cases hi : incAt c.Incomes q.Income with
    | none =>
      have e := unfit (by rintro ⟨i, k, x, y, h1, _⟩; rw [hi] at h1; cases h1)
      simp -dsimp -implicitDefEqProofs [-getElem?_pos, go_sem, hP, hi, idxO, e]
      refine adrawB (fun _ => true) [] hP (by kernel_rfl) (by kernel_rfl) ?_
      simp -dsimp -implicitDefEqProofs [-getElem?_pos, go_sem, hP, e]
    | some i =>
    cases hk : payAt c.Claims q.Claim with
    | none =>
      have e := unfit (by rintro ⟨i, k, x, y, _, h1, _⟩; rw [hk] at h1; cases h1)
      have d1 : decide ((i : Int) < 0) = false := decide_eq_false (by omega)
      simp -dsimp -implicitDefEqProofs [-getElem?_pos, go_sem, hP, hi, hk, idxO, e, d1]
      refine adrawB (fun _ => true) [] hP (by kernel_rfl) (by kernel_rfl) ?_
      simp -dsimp -implicitDefEqProofs [-getElem?_pos, go_sem, hP, e, d1]
    | some k =>
    obtain ⟨x, hx1, hx2⟩ := payAt_some hk
    obtain ⟨y, hy1, hy2⟩ := incAt_some hi
    have ltk : k < nC := by have := (List.getElem?_eq_some_iff.1 hx1).1; omega
    have lti : i < nI := by have := (List.getElem?_eq_some_iff.1 hy1).1; omega
    have d1 : decide ((i : Int) < 0) = false := decide_eq_false (by omega)
    have d2 : decide ((k : Int) < 0) = false := decide_eq_false (by omega)
    have gx : (gotL c ms)[k]? = some (gotS ms x.ID) := by simp [gotL, hx1]
    have gy : (useL c ms)[i]? = some (usedS ms y.Number) := by simp [useL, hy1]
    have lx : (gotL c ms).length = nC := by simp [gotL, hnC]
    have ly : (useL c ms).length = nI := by simp [useL, hnI]
    have fit : mateM c q ↔ y.Payer = x.Payer ∧ 0 < q.Amount ∧ q.Amount ≤ 1000000000000 := by
      constructor
      · rintro ⟨i', k', x', y', h1, h2, h3, h4, h5, h6, h7⟩
        rw [hi] at h1; cases h1
        rw [hk] at h2; cases h2
        rw [hx1] at h3; cases h3
        rw [hy1] at h4; cases h4
        exact h7
      · intro h
        exact ⟨i, k, x, y, hi, hk, hx1, hy1, hx2, hy2, h⟩
    have sx := gotL_snoc (ms := ms) pw.2 hx1 hx2
    have sy := useL_snoc (ms := ms) iw.2 hy1 hy2
    have gpos := gotS_nonneg ms x.ID fun z hz => (posM z hz).1
    have upos := usedS_nonneg ms y.Number fun z hz => (posM z hz).1
    have gle := gotS_le ms x.ID posM
    have ule := usedS_le ms y.Number posM
    obtain ⟨L, hL⟩ : ∃ L, L = gotL c ms := ⟨_, rfl⟩
    obtain ⟨M, hM⟩ : ∃ M, M = useL c ms := ⟨_, rfl⟩
    obtain ⟨u, hu⟩ : ∃ u, u = gotS ms x.ID := ⟨_, rfl⟩
    obtain ⟨w, hw⟩ : ∃ w, w = usedS ms y.Number := ⟨_, rfl⟩
    rw [← hL, ← hu] at gx sx
    rw [← hM, ← hw] at gy sy
    rw [← hL] at ha lx
    rw [← hM] at hb ly
    rw [← hu] at gpos gle
    rw [← hw] at upos ule
    have rx := rowsI_get gx
    have ry := rowsI_get gy
    have rsx := rowsI_set L k (u + q.Amount)
    have rsy := rowsI_set M i (w + q.Amount)
    have rlx := rowsI_len L
    have rly := rowsI_len M
    obtain ⟨P, hP'⟩ : ∃ P, P = rowsI L := ⟨_, rfl⟩
    obtain ⟨Q, hQ'⟩ : ∃ Q, Q = rowsI M := ⟨_, rfl⟩
    rw [← hP'] at ha rx rsx rlx
    rw [← hQ'] at hb ry rsy rly
    simp -dsimp -implicitDefEqProofs [-getElem?_pos, go_sem, hP, hi, hk, idxO]
    refine adrawB (fun _ => true) [] hP (by kernel_rfl) (by kernel_rfl) ?_
    by_cases e1 : y.Payer = x.Payer
    rotate_left
    · have e := unfit fun h => e1 (fit.1 h).1
      simp -dsimp -implicitDefEqProofs [-getElem?_pos, go_sem, hP, t1, t3, t4, h0, hO, d1, d2, hx1, hy1, cClm, cIncm, e1, e, lt0]
    by_cases e2 : q.Amount < 1
    · have e := unfit fun h => by have := (fit.1 h).2.1; omega
      simp -dsimp -implicitDefEqProofs [-getElem?_pos, go_sem, hP, t1, t3, t4, h0, hO, d1, d2, hx1, hy1, cClm, cIncm, e1, e2, e, lt0]
    by_cases e3 : 1000000000000 < q.Amount
    · have e := unfit fun h => by have := (fit.1 h).2.2; omega
      simp -dsimp -implicitDefEqProofs [-getElem?_pos, go_sem, hP, t1, t3, t4, h0, hO, d1, d2, hx1, hy1, cClm, cIncm, e1, e2, e3, e, lt0]
    have fq : mateM c q := fit.2 ⟨e1, by omega, by omega⟩
    simp -dsimp -implicitDefEqProofs [-getElem?_pos, go_sem, hP, t1, t3, t4, h0, hO, d1, d2, hx1, hy1, cClm, cIncm, e1, e2, e3, lt0]
    have wa := wrap_in (u + q.Amount) (by omega)
    have wb := wrap_in (w + q.Amount) (by omega)
    refine adrawB (fun _ => true) [8] hP (by kernel_rfl) (by kernel_rfl) ?_
    simp -dsimp -implicitDefEqProofs [-getElem?_pos, go_sem, hP, t3, t4, ha, hb, lta, ltb, rx, ry, rlx, rly, lx, ly, ltk, lti, wa, wb]
    refine adrawB (fun _ => true) [8] hP (by kernel_rfl) (by kernel_rfl) ?_
    simp -dsimp -implicitDefEqProofs [-getElem?_pos, go_sem, hP, t3, t4, ha, hb, lta, ltb, rx, ry, rlx, rly, lx, ly, ltk, lti, wa, wb, t111, wk]
    refine ⟨nM - (j + 1), by omega, ?_⟩
    rw [hI]
    refine ⟨j + 1, by omega, rfl, fun i' q' hi' hq' => ?_, by simp -dsimp -implicitDefEqProofs [-getElem?_pos, go_sem, t1], by simp -dsimp -implicitDefEqProofs [-getElem?_pos, go_sem, t3], by simp -dsimp -implicitDefEqProofs [-getElem?_pos, go_sem, t4], by simp -dsimp -implicitDefEqProofs [-getElem?_pos, go_sem, t109], by simp -dsimp -implicitDefEqProofs [-getElem?_pos, go_sem, t110], by simp -dsimp -implicitDefEqProofs [-getElem?_pos, go_sem], by simp -dsimp -implicitDefEqProofs [-getElem?_pos, go_sem, lt0, h0], ?_, ?_⟩
    · by_cases e : i' = j
      · subst e
        rw [hq] at hq'
        cases hq'
        exact fq
      · exact hfits i' q' (by omega) hq'
    · rw [take_snoc hq, ← hms, sx]
      simp -dsimp -implicitDefEqProofs [-getElem?_pos, go_sem, lta, rsx]
    · rw [take_snoc hq, ← hms, sy]
      simp -dsimp -implicitDefEqProofs [-getElem?_pos, go_sem, ltb, rsy]
  have hj : nM = j := by
    have : ¬ j < nM := by simpa using h
    omega
  subst hj
  rw [hnM, List.take_length] at ha hb
  have hfits : ∀ q, q ∈ c.Matches → mateM c q := fun q hq => by
    obtain ⟨i, hi⟩ := List.getElem?_of_mem hq
    exact hfits i q (by rw [hnM]; exact (List.getElem?_eq_some_iff.1 hi).1) hi
  clear hI h t109 t110 t111
  have lx : (gotL c c.Matches).length = nC := by simp [gotL, hnC]
  have ly : (useL c c.Matches).length = nI := by simp [useL, hnI]
  have gx : ∀ (k : Nat) x, c.Claims[k]? = some x → (gotL c c.Matches)[k]? = some (gotS c.Matches x.ID) := fun k x h => by simp [gotL, h]
  have gy : ∀ (k : Nat) y, c.Incomes[k]? = some y → (useL c c.Matches)[k]? = some (usedS c.Matches y.Number) := fun k x h => by simp [useL, h]
  obtain ⟨L, hL⟩ : ∃ L, L = gotL c c.Matches := ⟨_, rfl⟩
  obtain ⟨M, hM⟩ : ∃ M, M = useL c c.Matches := ⟨_, rfl⟩
  rw [← hL] at ha lx gx
  rw [← hM] at hb ly gy
  have rlx := rowsI_len L
  have rly := rowsI_len M
  simp -dsimp -implicitDefEqProofs [-getElem?_pos, go_sem, hP, t1, h0, lt0, hO, ← hnC]
  -- what is open
  obtain ⟨I, hI⟩ : ∃ I : Nat → St → Prop, I = fun m s => ∃ (k : Nat), k ≤ nC ∧ m = nC - k ∧ (∀ (i : Nat) (x : TClaim), i < k → c.Claims[i]? = some x → gotS c.Matches x.ID = x.Amount - x.Open) ∧ s.t 1 = .ref 0 0 0 ∧ s.t 3 = .sref 1 0 nC ∧ s.t 4 = .sref 2 0 nI ∧ s.t 172 = claimsL c.Claims ∧ s.t 173 = iv nC ∧ s.t 174 = iv k ∧ s.H[0]? = some (some O) ∧ s.H[1]? = some (some ⟨3, 1, rowsI L⟩) ∧ s.H[2]? = some (some ⟨3, 1, rowsI M⟩) := ⟨_, rfl⟩
  refine aloop0 I (nC) (by rw [hN]; rfl) ?_ ?_
  · rw [hI]
    exact ⟨0, by omega, by omega, fun i x hj => by omega, by simp -dsimp -implicitDefEqProofs [-getElem?_pos, go_sem, t1], by simp -dsimp -implicitDefEqProofs [-getElem?_pos, go_sem, t3], by simp -dsimp -implicitDefEqProofs [-getElem?_pos, go_sem, t4], by simp -dsimp -implicitDefEqProofs [-getElem?_pos, go_sem], by simp -dsimp -implicitDefEqProofs [-getElem?_pos, go_sem], by simp -dsimp -implicitDefEqProofs [-getElem?_pos, go_sem], by simp -dsimp -implicitDefEqProofs [-getElem?_pos, go_sem, h0], by simp -dsimp -implicitDefEqProofs [-getElem?_pos, go_sem, ha], by simp -dsimp -implicitDefEqProofs [-getElem?_pos, go_sem, hb]⟩
  clear t1 t3 t4 h0 ha hb lt0 lta ltb
  intro m s hs'
  rw [hI] at hs'
  obtain ⟨k, hk, hm, hopen, t1, t3, t4, t172, t173, t174, h0, ha, hb⟩ := hs'
  have lt0 := (List.getElem?_eq_some_iff.1 h0).1
  have lta := (List.getElem?_eq_some_iff.1 ha).1
  have ltb := (List.getElem?_eq_some_iff.1 hb).1
  simp -dsimp -implicitDefEqProofs [-getElem?_pos, go_sem, hP, t173, t174]
  refine condP (fun h => ?_) (fun h => ?_)
  · have hk : k < nC := by simpa using h
    obtain ⟨x, hx1⟩ : ∃ x, c.Claims[k]? = some x := ⟨_, List.getElem?_eq_getElem (by omega)⟩
    have rv := rowsI_get (gx k x hx1)
    have wk := wrap_in ((k : Int) + 1) (by omega)
    have pb := payB_iff.1 (pw.1 x (List.mem_of_getElem? hx1)).1
    have wd := wrap_in (x.Amount - x.Open) (by omega)
    simp -dsimp -implicitDefEqProofs [-getElem?_pos, go_sem, hP, t172, t174, hx1, cClm]
    refine adrawB (fun _ => true) [] hP (by kernel_rfl) (by kernel_rfl) ?_
    by_cases e1 : gotS c.Matches x.ID = x.Amount - x.Open
    · simp -dsimp -implicitDefEqProofs [-getElem?_pos, go_sem, hP, t3, ha, lta, rv, rlx, lx, hk, wd, e1, t174, wk]
      refine ⟨nC - (k + 1), by omega, ?_⟩
      rw [hI]
      refine ⟨k + 1, by omega, rfl, fun i x' hi hx' => ?_, by simp -dsimp -implicitDefEqProofs [-getElem?_pos, go_sem, t1], by simp -dsimp -implicitDefEqProofs [-getElem?_pos, go_sem, t3], by simp -dsimp -implicitDefEqProofs [-getElem?_pos, go_sem, t4], by simp -dsimp -implicitDefEqProofs [-getElem?_pos, go_sem, t172], by simp -dsimp -implicitDefEqProofs [-getElem?_pos, go_sem, t173], by simp -dsimp -implicitDefEqProofs [-getElem?_pos, go_sem], by simp -dsimp -implicitDefEqProofs [-getElem?_pos, go_sem, lt0, h0], by simp -dsimp -implicitDefEqProofs [-getElem?_pos, go_sem, lta, ha], by simp -dsimp -implicitDefEqProofs [-getElem?_pos, go_sem, ltb, hb]⟩
      by_cases e : i = k
      · subst e
        rw [hx1] at hx'
        cases hx'
        exact e1
      · exact hopen i x' (by omega) hx'
    · have e : R = 70 := bad fun hb => e1 (hb.got x (List.mem_of_getElem? hx1))
      simp -dsimp -implicitDefEqProofs [-getElem?_pos, go_sem, hP, t3, ha, lta, rv, rlx, lx, hk, wd, e1, e]
  have hk : nC = k := by
    have : ¬ k < nC := by simpa using h
    omega
  subst hk
  clear hI h t172 t173 t174
  simp -dsimp -implicitDefEqProofs [-getElem?_pos, go_sem, hP, t1, h0, lt0, hO, ← hnI]
  -- what is loose
  obtain ⟨I, hI⟩ : ∃ I : Nat → St → Prop, I = fun m s => ∃ (k : Nat), k ≤ nI ∧ m = nI - k ∧ (∀ (i : Nat) (y : TIncome) (lo : Int), i < k → c.Incomes[i]? = some y → ls[i]? = some lo → usedS c.Matches y.Number ≤ y.Amount - lo) ∧ s.t 1 = .ref 0 0 0 ∧ s.t 4 = .sref 2 0 nI ∧ s.t 191 = incomesL c.Incomes ∧ s.t 192 = iv nI ∧ s.t 193 = iv k ∧ s.H[0]? = some (some O) ∧ s.H[2]? = some (some ⟨3, 1, rowsI M⟩) := ⟨_, rfl⟩
  refine aloop0 I (nI) (by rw [hN]; rfl) ?_ ?_
  · rw [hI]
    exact ⟨0, by omega, by omega, fun i x lo hj => by omega, by simp -dsimp -implicitDefEqProofs [-getElem?_pos, go_sem, t1], by simp -dsimp -implicitDefEqProofs [-getElem?_pos, go_sem, t4], by simp -dsimp -implicitDefEqProofs [-getElem?_pos, go_sem], by simp -dsimp -implicitDefEqProofs [-getElem?_pos, go_sem], by simp -dsimp -implicitDefEqProofs [-getElem?_pos, go_sem], by simp -dsimp -implicitDefEqProofs [-getElem?_pos, go_sem, h0], by simp -dsimp -implicitDefEqProofs [-getElem?_pos, go_sem, hb]⟩
  clear t1 t3 t4 h0 ha hb lt0 lta ltb
  intro m s hs'
  rw [hI] at hs'
  obtain ⟨k, hk, hm, hloose, t1, t4, t191, t192, t193, h0, hb⟩ := hs'
  have lt0 := (List.getElem?_eq_some_iff.1 h0).1
  have ltb := (List.getElem?_eq_some_iff.1 hb).1
  simp -dsimp -implicitDefEqProofs [-getElem?_pos, go_sem, hP, t192, t193]
  refine condP (fun h => ?_) (fun h => ?_)
  · have hk : k < nI := by simpa using h
    obtain ⟨y, hy1⟩ : ∃ y, c.Incomes[k]? = some y := ⟨_, List.getElem?_eq_getElem (by omega)⟩
    obtain ⟨lo, hlo⟩ : ∃ lo, ls[k]? = some lo := ⟨_, List.getElem?_eq_getElem (by omega)⟩
    have rv := rowsI_get (gy k y hy1)
    have wk := wrap_in ((k : Int) + 1) (by omega)
    have lb := hl0 k y lo hy1 hlo
    have yb := (incB_amount (iw.1 y (List.mem_of_getElem? hy1)).1).2
    have wd := wrap_in (y.Amount - lo) (by omega)
    simp -dsimp -implicitDefEqProofs [-getElem?_pos, go_sem, hP, t191, t193, hy1, cIncm]
    refine adrawB (fun _ => true) [] hP (by kernel_rfl) (by kernel_rfl) ?_
    by_cases f2 : y.Amount - lo < usedS c.Matches y.Number
    · have e : R = 70 := bad fun hb => by
        have := (hb.used k y lo hy1 (by rw [← hls]; exact hlo)).2
        omega
      simp -dsimp -implicitDefEqProofs [-getElem?_pos, go_sem, hP, t1, h0, hO, lt0, hlo, encI, t4, hb, ltb, rv, rly, ly, hk, wd, f2, e]
    simp -dsimp -implicitDefEqProofs [-getElem?_pos, go_sem, hP, t1, h0, hO, lt0, hlo, encI, t4, hb, ltb, rv, rly, ly, hk, wd, f2, t193, wk]
    refine ⟨nI - (k + 1), by omega, ?_⟩
    rw [hI]
    refine ⟨k + 1, by omega, rfl, fun i y' lo' hi hy' hlo' => ?_, by simp -dsimp -implicitDefEqProofs [-getElem?_pos, go_sem, t1], by simp -dsimp -implicitDefEqProofs [-getElem?_pos, go_sem, t4], by simp -dsimp -implicitDefEqProofs [-getElem?_pos, go_sem, t191], by simp -dsimp -implicitDefEqProofs [-getElem?_pos, go_sem, t192], by simp -dsimp -implicitDefEqProofs [-getElem?_pos, go_sem], by simp -dsimp -implicitDefEqProofs [-getElem?_pos, go_sem, lt0, h0], by simp -dsimp -implicitDefEqProofs [-getElem?_pos, go_sem, ltb, hb]⟩
    by_cases e : i = k
    · subst e
      rw [hy1] at hy'
      cases hy'
      rw [hlo] at hlo'
      cases hlo'
      omega
    · exact hloose i y' lo' (by omega) hy' hlo'
  have hk : nI = k := by
    have : ¬ k < nI := by simpa using h
    omega
  subst hk
  have e : R = 0 := by
    rw [hR, if_pos]
    rw [Bool.and_eq_true]
    refine ⟨hinc, (booksB_iff c).2 ⟨by rw [← hls]; omega, fun q hq => ?_, fun x hx => ?_, fun i y lo hy hlo => ?_⟩⟩
    · obtain ⟨i, k, x, y, h1, h2, h3, h4, h5, h6, h7, h8, _⟩ := hfits q hq
      exact ⟨h8, x, y, List.mem_of_getElem? h3, List.mem_of_getElem? h4, h5, h6, h7⟩
    · obtain ⟨k, hk⟩ := List.getElem?_of_mem hx
      exact hopen k x (by have := (List.getElem?_eq_some_iff.1 hk).1; omega) hk
    · have hlo : ls[i]? = some lo := by rw [hls]; exact hlo
      exact ⟨(hl0 i y lo hy hlo).1, hloose i y lo (by have := (List.getElem?_eq_some_iff.1 hy).1; omega) hy hlo⟩
  simp -dsimp -implicitDefEqProofs [-getElem?_pos, go_sem, hP, e]
end Go.Proofs.YtgapbmaehfdkoaaGreatDoor
