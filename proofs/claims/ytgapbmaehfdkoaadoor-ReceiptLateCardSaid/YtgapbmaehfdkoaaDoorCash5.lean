/- Receipts: the checks of cash. -/
import Derived.Test.YtgapbmaehfdkoaaDoorCash4
set_option linter.unusedSimpArgs false
set_option linter.unusedVariables false
namespace Go.Proofs.YtgapbmaehfdkoaaDoor
open Go.PA
open Go.RowKit

theorem ccheck_pf (c : TCash) (hf : FitC c) : PFun Tryd.prog none none 12 [.agg c.cells] (· = iv (cashE c)) := by
  refine pfun_intro Tryd.func12 rfl (by simp [Tryd.f12]) (by kernel_rfl) ?_
  intro E hP hr hs hW hN
  have hfc := hf.fc
  have hfi := hf.fi
  have hfm := hf.fm
  have hfl := hf.fl
  have ip := imm_claims c.Claims
  have ii := imm_incomes c.Incomes
  have ic := imm_agg.2 c.imm
  have mp := matched_pf c hf
  rw [cCsh] at ic mp
  obtain ⟨R, hR⟩ : ∃ R, R = cashE c := ⟨_, rfl⟩
  rw [← hR]
  rw [cashE] at hR
  by_cases c1 : 60 < c.Claims.length
  · have d1 : decide ((60 : Int) < (c.Claims.length : Int)) = true := decide_eq_true (by omega)
    rw [if_neg (by omega)] at hR
    simp -dsimp -implicitDefEqProofs [-getElem?_pos, go_sem, hP, cCsh, c1, d1, hR]
  have d1 : decide ((60 : Int) < (c.Claims.length : Int)) = false := decide_eq_false (by omega)
  by_cases c2 : 100 < c.Incomes.length
  · have d2 : decide ((100 : Int) < (c.Incomes.length : Int)) = true := decide_eq_true (by omega)
    rw [if_neg (by omega)] at hR
    simp -dsimp -implicitDefEqProofs [-getElem?_pos, go_sem, hP, cCsh, c1, d1, c2, d2, hR]
  have d2 : decide ((100 : Int) < (c.Incomes.length : Int)) = false := decide_eq_false (by omega)
  by_cases c3 : 160 < c.Matches.length
  · have d3 : decide ((160 : Int) < (c.Matches.length : Int)) = true := decide_eq_true (by omega)
    rw [if_neg (by omega)] at hR
    simp -dsimp -implicitDefEqProofs [-getElem?_pos, go_sem, hP, cCsh, c1, d1, c2, d2, c3, d3, hR]
  have d3 : decide ((160 : Int) < (c.Matches.length : Int)) = false := decide_eq_false (by omega)
  rw [if_pos (by omega)] at hR
  simp -dsimp -implicitDefEqProofs [-getElem?_pos, go_sem, hP, cCsh, c1, d1, c2, d2, c3, d3]
  refine callB_pure (cclaims_pf c.Claims (by omega) hf.code) hP en_27 (args_same (by simpa using ip)) .sc ?_
  cases c4 : paysB 0 c.Claims
  · rw [c4, if_neg (by simp)] at hR
    simp -dsimp -implicitDefEqProofs [-getElem?_pos, go_sem, hP, hR]
  rw [c4, if_pos rfl] at hR
  simp -dsimp -implicitDefEqProofs [-getElem?_pos, go_sem, hP]
  refine callB_pure (cincomes_pf c.Incomes (by omega)) hP en_28 (args_same (by simpa using ii)) .sc ?_
  cases c5 : incsB 0 0 c.Incomes
  · rw [c5, Bool.false_and, if_neg (by simp)] at hR
    simp -dsimp -implicitDefEqProofs [-getElem?_pos, go_sem, hP, hR]
  rw [c5, Bool.true_and] at hR
  by_cases c6 : c.Loose.length = c.Incomes.length
  · have d6 : decide ((c.Loose.length : Int) = (c.Incomes.length : Int)) = true := decide_eq_true (by omega)
    simp -dsimp -implicitDefEqProofs [-getElem?_pos, go_sem, hP, c6, d6]
    refine callB_pure (mp c4 c5 c6) hP en_29 (args_same (by simpa using ic)) .sc ?_
    cases c7 : booksB c
    · rw [c7, if_neg (by simp)] at hR
      simp -dsimp -implicitDefEqProofs [-getElem?_pos, go_sem, hP, hR]
    · rw [c7, if_pos rfl] at hR
      simp -dsimp -implicitDefEqProofs [-getElem?_pos, go_sem, hP, hR]
  · have d6 : decide ((c.Loose.length : Int) = (c.Incomes.length : Int)) = false := decide_eq_false (by omega)
    have e : booksB c = false := by
      cases hb : booksB c
      · rfl
      · exact absurd ((booksB_iff c).1 hb).len c6
    rw [e, if_neg (by simp)] at hR
    simp -dsimp -implicitDefEqProofs [-getElem?_pos, go_sem, hP, c6, d6, hR]

theorem gotS_le : ∀ (ms : List TMatch) (id : Int), (∀ m, m ∈ ms → 0 < m.Amount ∧ m.Amount ≤ 1000000000000) → gotS ms id ≤ ms.length * 1000000000000
  | [], _, _ => by simp [gotS]
  | m :: ms, id, h => by
    have ih := gotS_le ms id fun z hz => h z (List.mem_cons_of_mem _ hz)
    have := h m (List.mem_cons_self ..)
    unfold gotS at ih ⊢
    rw [List.length_cons]
    by_cases e : m.Claim = id
    · simp only [List.filter_cons, e, decide_true, if_true, List.map_cons, List.sum_cons]; omega
    · simp only [List.filter_cons, e, decide_false, Bool.false_eq_true, if_false]; omega
theorem usedS_le : ∀ (ms : List TMatch) (n : Int), (∀ m, m ∈ ms → 0 < m.Amount ∧ m.Amount ≤ 1000000000000) → usedS ms n ≤ ms.length * 1000000000000
  | [], _, _ => by simp [usedS]
  | m :: ms, n, h => by
    have ih := usedS_le ms n fun z hz => h z (List.mem_cons_of_mem _ hz)
    have := h m (List.mem_cons_self ..)
    unfold usedS at ih ⊢
    rw [List.length_cons]
    by_cases e : m.Income = n
    · simp only [List.filter_cons, e, decide_true, if_true, List.map_cons, List.sum_cons]; omega
    · simp only [List.filter_cons, e, decide_false, Bool.false_eq_true, if_false]; omega
/-- A match that names a claim and an income of one payer. -/
def mateM (c : TCash) (m : TMatch) : Prop := ∃ i k x y, incAt c.Incomes m.Income = some i ∧ payAt c.Claims m.Claim = some k ∧ c.Claims[k]? = some x ∧ c.Incomes[i]? = some y ∧ x.ID = m.Claim ∧ y.Number = m.Income ∧ y.Payer = x.Payer ∧ 0 < m.Amount ∧ m.Amount ≤ 1000000000000

end Go.Proofs.YtgapbmaehfdkoaaDoor
