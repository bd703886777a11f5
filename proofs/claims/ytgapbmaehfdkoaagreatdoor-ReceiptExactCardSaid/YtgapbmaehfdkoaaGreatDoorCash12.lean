/- Receipts: what is loose, what is owed; new cash; equality. -/
import Derived.Test.YtgapbmaehfdkoaaGreatDoorCash10
set_option linter.unusedSimpArgs false
set_option linter.unusedVariables false
namespace Go.Proofs.YtgapbmaehfdkoaaGreatDoor
open Go.PA
open Go.RowKit

theorem owedS_snoc (l : List TClaim) (x : TClaim) (p : Int) : owedS (l ++ [x]) p = owedS l p + if x.Payer = p then x.Open else 0 := by
  unfold owedS
  rw [List.filter_append, List.map_append, List.sum_append]
  by_cases h : x.Payer = p <;> simp [h]
set_option maxHeartbeats 1000000 in
theorem cloose_pf (c : TCash) (p : Int) (hf : FitC c) : PFun Tryz.prog none none 14 [.agg c.cells, iv p] (· = iv (looseD c p)) := by
  refine pfun_intro Tryz.func14 rfl (by simp [Tryz.f14]) (by kernel_rfl) ?_
  intro E hP hr hs hW hN
  have ck := ccheck_pf c hf
  have ic := imm_agg.2 c.imm
  rw [cCsh] at ck ic
  obtain ⟨R, hR⟩ : ∃ R, R = looseD c p := ⟨_, rfl⟩
  rw [← hR]
  by_cases c1 : cashE c = 0
  rotate_left
  · have e : R = 0 := by rw [hR, looseD, if_neg c1]
    simp -dsimp -implicitDefEqProofs [-getElem?_pos, go_sem, hP, cCsh]
    refine callB_pure ck hP en_15 (args_same (by simpa using ic)) .sc ?_
    simp -dsimp -implicitDefEqProofs [-getElem?_pos, go_sem, hP, c1, e]
  rw [looseD_eq c1] at hR
  have ok := (cashE_ok.1 c1).2
  have l2 := (cashE_ok.1 c1).1.2.1
  obtain ⟨n, hn⟩ : ∃ n, n = c.Incomes.length := ⟨_, rfl⟩
  obtain ⟨ls, hls⟩ : ∃ ls, ls = c.Loose := ⟨_, rfl⟩
  have ll := ok.len
  rw [← hls, ← hn] at ll
  rw [← hn] at l2
  rw [← hls] at hR ck ic
  obtain ⟨O, hO⟩ : ∃ O : AObj, O = ⟨29, 4, [[claimsL c.Claims, incomesL c.Incomes, matchesL c.Matches, .list 1 (encL encI ls)]]⟩ := ⟨_, rfl⟩
  simp -dsimp -implicitDefEqProofs [-getElem?_pos, go_sem, hP, cCsh, ← hls]
  refine callB_pure ck hP en_15 (args_same (by simpa using ic)) .sc ?_
  simp -dsimp -implicitDefEqProofs [-getElem?_pos, go_sem, hP, c1, ← hn]
  simp only [← hO]
  obtain ⟨I, hI⟩ : ∃ I : Nat → St → Prop, I = fun m s => ∃ (k : Nat) (S : Int), k ≤ n ∧ m = n - k ∧ S = looseS (c.Incomes.take k) (ls.take k) p ∧ 0 ≤ S ∧ S ≤ k * 1000000000000 ∧ s.t 1 = iv p ∧ s.t 2 = .ref 0 0 0 ∧ s.t 5 = iv S ∧ s.t 12 = incomesL c.Incomes ∧ s.t 13 = iv n ∧ s.t 14 = iv k ∧ s.H[0]? = some (some O) := ⟨_, rfl⟩
  refine aloop0 I (n) (by rw [hN]; rfl) ?_ ?_
  · rw [hI]
    exact ⟨0, 0, by omega, by omega, by simp [looseS], by omega, by omega, by simp -dsimp -implicitDefEqProofs [-getElem?_pos, go_sem], by simp -dsimp -implicitDefEqProofs [-getElem?_pos, go_sem], by simp -dsimp -implicitDefEqProofs [-getElem?_pos, go_sem], by simp -dsimp -implicitDefEqProofs [-getElem?_pos, go_sem], by simp -dsimp -implicitDefEqProofs [-getElem?_pos, go_sem], by simp -dsimp -implicitDefEqProofs [-getElem?_pos, go_sem], by simp -dsimp -implicitDefEqProofs [-getElem?_pos, go_sem]⟩
  intro m s hs'
  rw [hI] at hs'
  obtain ⟨k, S, hk, hm, hS, hS0, hS1, t1, t2, t5, t12, t13, t14, h0⟩ := hs'
  have lt0 := (List.getElem?_eq_some_iff.1 h0).1
  simp -dsimp -implicitDefEqProofs [-getElem?_pos, go_sem, hP, t13, t14]
  refine condP (fun h => ?_) (fun h => ?_)
  · have hk : k < n := by simpa using h
    obtain ⟨y, hy⟩ : ∃ y, c.Incomes[k]? = some y := ⟨_, List.getElem?_eq_getElem (by omega)⟩
    obtain ⟨lo, hlo⟩ : ∃ lo, ls[k]? = some lo := ⟨_, List.getElem?_eq_getElem (by omega)⟩
    have wk := wrap_in ((k : Int) + 1) (by omega)
    have ub := ok.used k y lo hy (by rw [← hls]; exact hlo)
    have un := usedS_nonneg c.Matches y.Number fun z hz => (ok.mates z hz).1
    have yb := (incB_amount (ok.incs.1 y (List.mem_of_getElem? hy))).2
    have es : looseS (c.Incomes.take (k + 1)) (ls.take (k + 1)) p = S + if y.Payer = p then lo else 0 := by
      rw [take_snoc hy, take_snoc hlo, looseS_snoc _ _ _ _ _ (by rw [List.length_take, List.length_take]; omega), ← hS]
    by_cases e1 : y.Payer = p
    · rw [if_pos e1] at es
      have ws := wrap_in (S + lo) (by omega)
      simp -dsimp -implicitDefEqProofs [-getElem?_pos, go_sem, hP, t12, t14, hy, cIncm, t1, e1, t5, t2, h0, lt0, hO, hlo, encI, ws, wk]
      refine ⟨n - (k + 1), by omega, ?_⟩
      rw [hI]
      exact ⟨k + 1, S + lo, by omega, rfl, es.symm, by omega, by omega, by simp -dsimp -implicitDefEqProofs [-getElem?_pos, go_sem, t1, e1], by simp -dsimp -implicitDefEqProofs [-getElem?_pos, go_sem, t2], by simp -dsimp -implicitDefEqProofs [-getElem?_pos, go_sem], by simp -dsimp -implicitDefEqProofs [-getElem?_pos, go_sem, t12], by simp -dsimp -implicitDefEqProofs [-getElem?_pos, go_sem, t13], by simp -dsimp -implicitDefEqProofs [-getElem?_pos, go_sem], by simp -dsimp -implicitDefEqProofs [-getElem?_pos, go_sem, lt0, h0]⟩
    · rw [if_neg e1, Int.add_zero] at es
      simp -dsimp -implicitDefEqProofs [-getElem?_pos, go_sem, hP, t12, t14, hy, cIncm, t1, e1, wk]
      refine ⟨n - (k + 1), by omega, ?_⟩
      rw [hI]
      exact ⟨k + 1, S, by omega, rfl, es.symm, hS0, by omega, by simp -dsimp -implicitDefEqProofs [-getElem?_pos, go_sem, t1], by simp -dsimp -implicitDefEqProofs [-getElem?_pos, go_sem, t2], by simp -dsimp -implicitDefEqProofs [-getElem?_pos, go_sem, t5], by simp -dsimp -implicitDefEqProofs [-getElem?_pos, go_sem, t12], by simp -dsimp -implicitDefEqProofs [-getElem?_pos, go_sem, t13], by simp -dsimp -implicitDefEqProofs [-getElem?_pos, go_sem], by simp -dsimp -implicitDefEqProofs [-getElem?_pos, go_sem, lt0, h0]⟩
  · have hk : n = k := by
      have : ¬ k < n := by simpa using h
      omega
    subst hk
    have e : S = R := by
      rw [hS, hR, hn, List.take_length, List.take_of_length_le (by omega)]
    simp -dsimp -implicitDefEqProofs [-getElem?_pos, go_sem, hP, t5, e]
theorem cowed_pf (c : TCash) (p : Int) (hf : FitC c) : PFun Tryz.prog none none 13 [.agg c.cells, iv p] (· = iv (owedD c p)) := by
  refine pfun_intro Tryz.func13 rfl (by simp [Tryz.f13]) (by kernel_rfl) ?_
  intro E hP hr hs hW hN
  have ck := ccheck_pf c hf
  have ic := imm_agg.2 c.imm
  rw [cCsh] at ck ic
  obtain ⟨R, hR⟩ : ∃ R, R = owedD c p := ⟨_, rfl⟩
  rw [← hR]
  by_cases c1 : cashE c = 0
  rotate_left
  · have e : R = 0 := by rw [hR, owedD, if_neg c1]
    simp -dsimp -implicitDefEqProofs [-getElem?_pos, go_sem, hP, cCsh]
    refine callB_pure ck hP en_15 (args_same (by simpa using ic)) .sc ?_
    simp -dsimp -implicitDefEqProofs [-getElem?_pos, go_sem, hP, c1, e]
  rw [owedD_eq c1] at hR
  have ok := (cashE_ok.1 c1).2
  have l2 := (cashE_ok.1 c1).1.1
  obtain ⟨n, hn⟩ : ∃ n, n = c.Claims.length := ⟨_, rfl⟩
  rw [← hn] at l2
  simp -dsimp -implicitDefEqProofs [-getElem?_pos, go_sem, hP, cCsh]
  refine callB_pure ck hP en_15 (args_same (by simpa using ic)) .sc ?_
  simp -dsimp -implicitDefEqProofs [-getElem?_pos, go_sem, hP, c1, ← hn]
  obtain ⟨I, hI⟩ : ∃ I : Nat → St → Prop, I = fun m s => ∃ (k : Nat) (S : Int), k ≤ n ∧ m = n - k ∧ S = owedS (c.Claims.take k) p ∧ 0 ≤ S ∧ S ≤ k * 1000000000000 ∧ s.t 1 = iv p ∧ s.t 5 = iv S ∧ s.t 12 = claimsL c.Claims ∧ s.t 13 = iv n ∧ s.t 14 = iv k := ⟨_, rfl⟩
  refine aloop0 I (n) (by rw [hN]; rfl) ?_ ?_
  · rw [hI]
    exact ⟨0, 0, by omega, by omega, by simp [owedS], by omega, by omega, by simp -dsimp -implicitDefEqProofs [-getElem?_pos, go_sem], by simp -dsimp -implicitDefEqProofs [-getElem?_pos, go_sem], by simp -dsimp -implicitDefEqProofs [-getElem?_pos, go_sem], by simp -dsimp -implicitDefEqProofs [-getElem?_pos, go_sem], by simp -dsimp -implicitDefEqProofs [-getElem?_pos, go_sem]⟩
  intro m s hs'
  rw [hI] at hs'
  obtain ⟨k, S, hk, hm, hS, hS0, hS1, t1, t5, t12, t13, t14⟩ := hs'
  simp -dsimp -implicitDefEqProofs [-getElem?_pos, go_sem, hP, t13, t14]
  refine condP (fun h => ?_) (fun h => ?_)
  · have hk : k < n := by simpa using h
    obtain ⟨y, hy⟩ : ∃ y, c.Claims[k]? = some y := ⟨_, List.getElem?_eq_getElem (by omega)⟩
    have wk := wrap_in ((k : Int) + 1) (by omega)
    have yb := payB_iff.1 (ok.pays.1 y (List.mem_of_getElem? hy))
    have es : owedS (c.Claims.take (k + 1)) p = S + if y.Payer = p then y.Open else 0 := by
      rw [take_snoc hy, owedS_snoc, ← hS]
    by_cases e1 : y.Payer = p
    · rw [if_pos e1] at es
      have ws := wrap_in (S + y.Open) (by omega)
      simp -dsimp -implicitDefEqProofs [-getElem?_pos, go_sem, hP, t12, t14, hy, cClm, t1, e1, t5, ws, wk]
      refine ⟨n - (k + 1), by omega, ?_⟩
      rw [hI]
      exact ⟨k + 1, S + y.Open, by omega, rfl, es.symm, by omega, by omega, by simp -dsimp -implicitDefEqProofs [-getElem?_pos, go_sem, t1, e1], by simp -dsimp -implicitDefEqProofs [-getElem?_pos, go_sem], by simp -dsimp -implicitDefEqProofs [-getElem?_pos, go_sem, t12], by simp -dsimp -implicitDefEqProofs [-getElem?_pos, go_sem, t13], by simp -dsimp -implicitDefEqProofs [-getElem?_pos, go_sem]⟩
    · rw [if_neg e1, Int.add_zero] at es
      simp -dsimp -implicitDefEqProofs [-getElem?_pos, go_sem, hP, t12, t14, hy, cClm, t1, e1, wk]
      refine ⟨n - (k + 1), by omega, ?_⟩
      rw [hI]
      exact ⟨k + 1, S, by omega, rfl, es.symm, hS0, by omega, by simp -dsimp -implicitDefEqProofs [-getElem?_pos, go_sem, t1], by simp -dsimp -implicitDefEqProofs [-getElem?_pos, go_sem, t5], by simp -dsimp -implicitDefEqProofs [-getElem?_pos, go_sem, t12], by simp -dsimp -implicitDefEqProofs [-getElem?_pos, go_sem, t13], by simp -dsimp -implicitDefEqProofs [-getElem?_pos, go_sem]⟩
  · have hk : n = k := by
      have : ¬ k < n := by simpa using h
      omega
    subst hk
    have e : S = R := by rw [hS, hR, hn, List.take_length]
    simp -dsimp -implicitDefEqProofs [-getElem?_pos, go_sem, hP, t5, e]

set_option maxHeartbeats 1000000 in
theorem crloose_pf (c : TCash) (p : Int) (hf : FitC c) : PFun Tryz.prog none none 36 [.agg c.cells, iv p] (· = iv (looseD c p)) := by
  refine pfun_intro Tryz.func36 rfl (by simp [Tryz.f36]) (by kernel_rfl) ?_
  intro E hP hr hs hW hN
  have ck := crcheck_pf c hf
  have ic := imm_agg.2 c.imm
  rw [cCsh] at ck ic
  obtain ⟨R, hR⟩ : ∃ R, R = looseD c p := ⟨_, rfl⟩
  rw [← hR]
  by_cases c1 : cashE c = 0
  rotate_left
  · have e : R = 0 := by rw [hR, looseD, if_neg c1]
    simp -dsimp -implicitDefEqProofs [-getElem?_pos, go_sem, hP, cCsh]
    refine callB_pure ck hP en_28 (args_same (by simpa using ic)) .sc ?_
    simp -dsimp -implicitDefEqProofs [-getElem?_pos, go_sem, hP, c1, e]
  rw [looseD_eq c1] at hR
  have ok := (cashE_ok.1 c1).2
  have l2 := (cashE_ok.1 c1).1.2.1
  obtain ⟨n, hn⟩ : ∃ n, n = c.Incomes.length := ⟨_, rfl⟩
  obtain ⟨ls, hls⟩ : ∃ ls, ls = c.Loose := ⟨_, rfl⟩
  have ll := ok.len
  rw [← hls, ← hn] at ll
  rw [← hn] at l2
  rw [← hls] at hR ck ic
  obtain ⟨O, hO⟩ : ∃ O : AObj, O = ⟨29, 4, [[claimsL c.Claims, incomesL c.Incomes, matchesL c.Matches, .list 1 (encL encI ls)]]⟩ := ⟨_, rfl⟩
  simp -dsimp -implicitDefEqProofs [-getElem?_pos, go_sem, hP, cCsh, ← hls]
  refine callB_pure ck hP en_28 (args_same (by simpa using ic)) .sc ?_
  simp -dsimp -implicitDefEqProofs [-getElem?_pos, go_sem, hP, c1, ← hn]
  simp only [← hO]
  obtain ⟨I, hI⟩ : ∃ I : Nat → St → Prop, I = fun m s => ∃ (k : Nat) (S : Int), k ≤ n ∧ m = n - k ∧ S = looseS (c.Incomes.take k) (ls.take k) p ∧ 0 ≤ S ∧ S ≤ k * 1000000000000 ∧ s.t 1 = iv p ∧ s.t 2 = .ref 0 0 0 ∧ s.t 5 = iv S ∧ s.t 12 = incomesL c.Incomes ∧ s.t 13 = iv n ∧ s.t 14 = iv k ∧ s.H[0]? = some (some O) := ⟨_, rfl⟩
  refine aloop0 I (n) (by rw [hN]; rfl) ?_ ?_
  · rw [hI]
    exact ⟨0, 0, by omega, by omega, by simp [looseS], by omega, by omega, by simp -dsimp -implicitDefEqProofs [-getElem?_pos, go_sem], by simp -dsimp -implicitDefEqProofs [-getElem?_pos, go_sem], by simp -dsimp -implicitDefEqProofs [-getElem?_pos, go_sem], by simp -dsimp -implicitDefEqProofs [-getElem?_pos, go_sem], by simp -dsimp -implicitDefEqProofs [-getElem?_pos, go_sem], by simp -dsimp -implicitDefEqProofs [-getElem?_pos, go_sem], by simp -dsimp -implicitDefEqProofs [-getElem?_pos, go_sem]⟩
  intro m s hs'
  rw [hI] at hs'
  obtain ⟨k, S, hk, hm, hS, hS0, hS1, t1, t2, t5, t12, t13, t14, h0⟩ := hs'
  have lt0 := (List.getElem?_eq_some_iff.1 h0).1
  simp -dsimp -implicitDefEqProofs [-getElem?_pos, go_sem, hP, t13, t14]
  refine condP (fun h => ?_) (fun h => ?_)
  · have hk : k < n := by simpa using h
    obtain ⟨y, hy⟩ : ∃ y, c.Incomes[k]? = some y := ⟨_, List.getElem?_eq_getElem (by omega)⟩
    obtain ⟨lo, hlo⟩ : ∃ lo, ls[k]? = some lo := ⟨_, List.getElem?_eq_getElem (by omega)⟩
    have wk := wrap_in ((k : Int) + 1) (by omega)
    have ub := ok.used k y lo hy (by rw [← hls]; exact hlo)
    have un := usedS_nonneg c.Matches y.Number fun z hz => (ok.mates z hz).1
    have yb := (incB_amount (ok.incs.1 y (List.mem_of_getElem? hy))).2
    have es : looseS (c.Incomes.take (k + 1)) (ls.take (k + 1)) p = S + if y.Payer = p then lo else 0 := by
      rw [take_snoc hy, take_snoc hlo, looseS_snoc _ _ _ _ _ (by rw [List.length_take, List.length_take]; omega), ← hS]
    by_cases e1 : y.Payer = p
    · rw [if_pos e1] at es
      have ws := wrap_in (S + lo) (by omega)
      simp -dsimp -implicitDefEqProofs [-getElem?_pos, go_sem, hP, t12, t14, hy, cIncm, t1, e1, t5, t2, h0, lt0, hO, hlo, encI, ws, wk]
      refine ⟨n - (k + 1), by omega, ?_⟩
      rw [hI]
      exact ⟨k + 1, S + lo, by omega, rfl, es.symm, by omega, by omega, by simp -dsimp -implicitDefEqProofs [-getElem?_pos, go_sem, t1, e1], by simp -dsimp -implicitDefEqProofs [-getElem?_pos, go_sem, t2], by simp -dsimp -implicitDefEqProofs [-getElem?_pos, go_sem], by simp -dsimp -implicitDefEqProofs [-getElem?_pos, go_sem, t12], by simp -dsimp -implicitDefEqProofs [-getElem?_pos, go_sem, t13], by simp -dsimp -implicitDefEqProofs [-getElem?_pos, go_sem], by simp -dsimp -implicitDefEqProofs [-getElem?_pos, go_sem, lt0, h0]⟩
    · rw [if_neg e1, Int.add_zero] at es
      simp -dsimp -implicitDefEqProofs [-getElem?_pos, go_sem, hP, t12, t14, hy, cIncm, t1, e1, wk]
      refine ⟨n - (k + 1), by omega, ?_⟩
      rw [hI]
      exact ⟨k + 1, S, by omega, rfl, es.symm, hS0, by omega, by simp -dsimp -implicitDefEqProofs [-getElem?_pos, go_sem, t1], by simp -dsimp -implicitDefEqProofs [-getElem?_pos, go_sem, t2], by simp -dsimp -implicitDefEqProofs [-getElem?_pos, go_sem, t5], by simp -dsimp -implicitDefEqProofs [-getElem?_pos, go_sem, t12], by simp -dsimp -implicitDefEqProofs [-getElem?_pos, go_sem, t13], by simp -dsimp -implicitDefEqProofs [-getElem?_pos, go_sem], by simp -dsimp -implicitDefEqProofs [-getElem?_pos, go_sem, lt0, h0]⟩
  · have hk : n = k := by
      have : ¬ k < n := by simpa using h
      omega
    subst hk
    have e : S = R := by
      rw [hS, hR, hn, List.take_length, List.take_of_length_le (by omega)]
    simp -dsimp -implicitDefEqProofs [-getElem?_pos, go_sem, hP, t5, e]
theorem crowed_pf (c : TCash) (p : Int) (hf : FitC c) : PFun Tryz.prog none none 37 [.agg c.cells, iv p] (· = iv (owedD c p)) := by
  refine pfun_intro Tryz.func37 rfl (by simp [Tryz.f37]) (by kernel_rfl) ?_
  intro E hP hr hs hW hN
  have ck := crcheck_pf c hf
  have ic := imm_agg.2 c.imm
  rw [cCsh] at ck ic
  obtain ⟨R, hR⟩ : ∃ R, R = owedD c p := ⟨_, rfl⟩
  rw [← hR]
  by_cases c1 : cashE c = 0
  rotate_left
  · have e : R = 0 := by rw [hR, owedD, if_neg c1]
    simp -dsimp -implicitDefEqProofs [-getElem?_pos, go_sem, hP, cCsh]
    refine callB_pure ck hP en_28 (args_same (by simpa using ic)) .sc ?_
    simp -dsimp -implicitDefEqProofs [-getElem?_pos, go_sem, hP, c1, e]
  rw [owedD_eq c1] at hR
  have ok := (cashE_ok.1 c1).2
  have l2 := (cashE_ok.1 c1).1.1
  obtain ⟨n, hn⟩ : ∃ n, n = c.Claims.length := ⟨_, rfl⟩
  rw [← hn] at l2
  simp -dsimp -implicitDefEqProofs [-getElem?_pos, go_sem, hP, cCsh]
  refine callB_pure ck hP en_28 (args_same (by simpa using ic)) .sc ?_
  simp -dsimp -implicitDefEqProofs [-getElem?_pos, go_sem, hP, c1, ← hn]
  obtain ⟨I, hI⟩ : ∃ I : Nat → St → Prop, I = fun m s => ∃ (k : Nat) (S : Int), k ≤ n ∧ m = n - k ∧ S = owedS (c.Claims.take k) p ∧ 0 ≤ S ∧ S ≤ k * 1000000000000 ∧ s.t 1 = iv p ∧ s.t 5 = iv S ∧ s.t 12 = claimsL c.Claims ∧ s.t 13 = iv n ∧ s.t 14 = iv k := ⟨_, rfl⟩
  refine aloop0 I (n) (by rw [hN]; rfl) ?_ ?_
  · rw [hI]
    exact ⟨0, 0, by omega, by omega, by simp [owedS], by omega, by omega, by simp -dsimp -implicitDefEqProofs [-getElem?_pos, go_sem], by simp -dsimp -implicitDefEqProofs [-getElem?_pos, go_sem], by simp -dsimp -implicitDefEqProofs [-getElem?_pos, go_sem], by simp -dsimp -implicitDefEqProofs [-getElem?_pos, go_sem], by simp -dsimp -implicitDefEqProofs [-getElem?_pos, go_sem]⟩
  intro m s hs'
  rw [hI] at hs'
  obtain ⟨k, S, hk, hm, hS, hS0, hS1, t1, t5, t12, t13, t14⟩ := hs'
  simp -dsimp -implicitDefEqProofs [-getElem?_pos, go_sem, hP, t13, t14]
  refine condP (fun h => ?_) (fun h => ?_)
  · have hk : k < n := by simpa using h
    obtain ⟨y, hy⟩ : ∃ y, c.Claims[k]? = some y := ⟨_, List.getElem?_eq_getElem (by omega)⟩
    have wk := wrap_in ((k : Int) + 1) (by omega)
    have yb := payB_iff.1 (ok.pays.1 y (List.mem_of_getElem? hy))
    have es : owedS (c.Claims.take (k + 1)) p = S + if y.Payer = p then y.Open else 0 := by
      rw [take_snoc hy, owedS_snoc, ← hS]
    by_cases e1 : y.Payer = p
    · rw [if_pos e1] at es
      have ws := wrap_in (S + y.Open) (by omega)
      simp -dsimp -implicitDefEqProofs [-getElem?_pos, go_sem, hP, t12, t14, hy, cClm, t1, e1, t5, ws, wk]
      refine ⟨n - (k + 1), by omega, ?_⟩
      rw [hI]
      exact ⟨k + 1, S + y.Open, by omega, rfl, es.symm, by omega, by omega, by simp -dsimp -implicitDefEqProofs [-getElem?_pos, go_sem, t1, e1], by simp -dsimp -implicitDefEqProofs [-getElem?_pos, go_sem], by simp -dsimp -implicitDefEqProofs [-getElem?_pos, go_sem, t12], by simp -dsimp -implicitDefEqProofs [-getElem?_pos, go_sem, t13], by simp -dsimp -implicitDefEqProofs [-getElem?_pos, go_sem]⟩
    · rw [if_neg e1, Int.add_zero] at es
      simp -dsimp -implicitDefEqProofs [-getElem?_pos, go_sem, hP, t12, t14, hy, cClm, t1, e1, wk]
      refine ⟨n - (k + 1), by omega, ?_⟩
      rw [hI]
      exact ⟨k + 1, S, by omega, rfl, es.symm, hS0, by omega, by simp -dsimp -implicitDefEqProofs [-getElem?_pos, go_sem, t1], by simp -dsimp -implicitDefEqProofs [-getElem?_pos, go_sem, t5], by simp -dsimp -implicitDefEqProofs [-getElem?_pos, go_sem, t12], by simp -dsimp -implicitDefEqProofs [-getElem?_pos, go_sem, t13], by simp -dsimp -implicitDefEqProofs [-getElem?_pos, go_sem]⟩
  · have hk : n = k := by
      have : ¬ k < n := by simpa using h
      omega
    subst hk
    have e : S = R := by rw [hS, hR, hn, List.take_length]
    simp -dsimp -implicitDefEqProofs [-getElem?_pos, go_sem, hP, t5, e]


theorem clone_pf_clm (l : List TClaim) (hl : l.length ≤ 1000000) : PFun Tryz.prog none none 53 [.list 6 (encL TClaim.cells l)] (· = .list 6 (encL TClaim.cells l)) := by
  cases l with
  | nil =>
    refine pfun_list_nil fun A c => ?_
    refine pfun_intro Tryz.func53 rfl (by simp [Tryz.f53]) (by kernel_rfl) ?_
    intro E hP hr hs hW hN
    cases A with
    | none =>
      simp -dsimp -implicitDefEqProofs [-getElem?_pos, go_sem, hP]
      exact done_weak .nil (imm_list.2 (by simp)) (.nil _) rfl
    | some a =>
      simp -dsimp -implicitDefEqProofs [-getElem?_pos, go_sem, hP]
      refine done_weak (x := .list 6 []) ?_ (imm_list.2 (by simp)) ?_ rfl
      · simp -dsimp -implicitDefEqProofs [-getElem?_pos, go_sem]
      · simp -dsimp -implicitDefEqProofs [-getElem?_pos, go_sem]
        first | exact .refl _ | skip
  | cons a l =>
    refine pfun_intro Tryz.func53 rfl (by simp [Tryz.f53]) (by kernel_rfl) ?_
    intro E hP hr hs hW hN
    simp only [List.length_cons] at hl
    have e : encL TClaim.cells (a :: l) = TClaim.cells a :: encL TClaim.cells l := rfl
    have im : Imm (.list 6 (TClaim.cells a :: encL TClaim.cells l)) := by rw [← e]; exact imm_encL _ TClaim.imm _
    have et : (TClaim.cells a :: encL TClaim.cells l).take (l.length + 1) = TClaim.cells a :: encL TClaim.cells l := by
      rw [← e]
      exact encL_take TClaim.cells (a :: l) _ (by simp)
    simp -dsimp -implicitDefEqProofs [-getElem?_pos, go_sem, hP, e]
    refine ⟨by omega, by omega, ?_⟩
    refine done_weak (x := .list 6 (TClaim.cells a :: encL TClaim.cells l)) ?_ im ?_ rfl
    · simp -dsimp -implicitDefEqProofs [-getElem?_pos, go_sem]
      first | exact im | (have h := imm_list.1 im; simp only [List.mem_cons, forall_eq_or_imp] at h; exact h)
    · simp -dsimp -implicitDefEqProofs [-getElem?_pos, go_sem]
      first | exact .refl _ | skip

theorem contains_pf_clm (l : List TClaim) (g : FuncId) (caps : List AV) (p : TClaim → Bool) (hl : l.length ≤ 1000000) (hen : enterable Tryz.prog g = true) (hcap : ∀ a, a ∈ caps → Imm a)
    (hg : ∀ a, a ∈ l → PFun Tryz.prog none none g (.agg (TClaim.cells a) :: caps) (· = bv (p a))) :
    PFun Tryz.prog none none 52 [.list 6 (encL TClaim.cells l), .fn g caps] (· = bv (l.any p)) := by
  refine pfun_intro Tryz.func52 rfl (by simp [Tryz.f52]) (by kernel_rfl) ?_
  intro E hP hr hs hW hN
  obtain ⟨w, hw⟩ : ∃ w, w = l.any p := ⟨_, rfl⟩
  rw [← hw]
  have hi : ∀ a, a ∈ [AV.list 6 (encL TClaim.cells l), .fn g caps] → Imm a := fun a ha => by
    simp only [List.mem_cons, List.not_mem_nil, or_false] at ha
    rcases ha with rfl | rfl
    · exact imm_encL _ TClaim.imm _
    · exact imm_fn.2 hcap
  simp -dsimp -implicitDefEqProofs [-getElem?_pos, go_sem, hP]
  refine callB_is ((index_pf_clm l g caps p hl hen hcap hg).lift _ _) hP en_71 hi .sc ?_
  rcases idxI_spec p l with ⟨h1, h2⟩ | ⟨i, a, h1, h2, h3, _⟩
  · have : w = false := by rw [hw]; exact List.any_eq_false.2 fun a ha => by simp [h2 a ha]
    simp -dsimp -implicitDefEqProofs [-getElem?_pos, go_sem, hP, h1, this]
  · have d : decide ((0 : Int) ≤ (i : Int)) = true := decide_eq_true (by omega)
    have : w = true := by rw [hw]; exact List.any_eq_true.2 ⟨a, List.mem_of_getElem? h1, h2⟩
    simp -dsimp -implicitDefEqProofs [-getElem?_pos, go_sem, hP, h3, d, this]

theorem new1_pf (x : TClaim) : PFun Tryz.prog none none 51 [.agg x.cells] (· = bv (!decide (x.Open = x.Amount))) := by
  refine pfun_intro Tryz.func51 rfl (by simp [Tryz.f51]) (by kernel_rfl) ?_
  intro E hP hr hs hW hN
  by_cases h : x.Open = x.Amount <;> simp -dsimp -implicitDefEqProofs [-getElem?_pos, go_sem, hP, cClm, h]
/-- A list of claims that fits. -/
structure FitL (l : List TClaim) : Prop where
  n : l.length ≤ 100000
  code : ∀ x, x ∈ l → x.Code.size ≤ 1000000
theorem any_all (l : List TClaim) : l.any (fun x => !decide (x.Open = x.Amount)) = !(l.all fun c => decide (c.Open = c.Amount)) := by
  induction l with
  | nil => rfl
  | cons a l ih => simp [ih, Bool.not_and]
theorem cnew_pf (l : List TClaim) (hf : FitL l) : PFun Tryz.prog none none 21 [claimsL l] (· = .tup [.agg (newD l).1.cells, iv (newD l).2]) := by
  refine pfun_intro Tryz.func21 rfl (by simp [Tryz.f21]) (by kernel_rfl) ?_
  intro E hP hr hs hW hN
  have hn := hf.n
  have ic := imm_claims l
  obtain ⟨Q, hQ⟩ : ∃ Q : AV → Prop, Q = (· = .tup [.agg (newD l).1.cells, iv (newD l).2]) := ⟨_, rfl⟩
  rw [← hQ]
  obtain ⟨R, hR⟩ : ∃ R, R = newD l := ⟨_, rfl⟩
  rw [← hR] at hQ
  rw [newD] at hR
  by_cases c1 : 60 < l.length
  · have d1 : decide ((60 : Int) < (l.length : Int)) = true := decide_eq_true (by omega)
    rw [if_neg (by omega)] at hR
    simp -dsimp -implicitDefEqProofs [-getElem?_pos, go_sem, hP, c1, d1]
    refine done_noCash ?_
    rw [hQ, hR]
  have d1 : decide ((60 : Int) < (l.length : Int)) = false := decide_eq_false (by omega)
  rw [if_pos (by omega)] at hR
  simp -dsimp -implicitDefEqProofs [-getElem?_pos, go_sem, hP, c1, d1]
  refine callB_pure (cclaims_pf l (by omega) hf.code) hP en_46 (args_same (by simpa using ic)) .sc ?_
  cases c2 : paysB 0 l
  · rw [c2, Bool.false_and, if_neg (by simp)] at hR
    simp -dsimp -implicitDefEqProofs [-getElem?_pos, go_sem, hP, c2]
    refine done_noCash ?_
    rw [hQ, hR]
  rw [c2, Bool.true_and] at hR
  simp -dsimp -implicitDefEqProofs [-getElem?_pos, go_sem, hP, c2]
  refine callB_pure (contains_pf_clm l 51 [] (fun x => !decide (x.Open = x.Amount)) (by omega) en_51 (by simp) fun x _ => new1_pf x) hP en_52 (args_imm ic (args_fnc (cs := []) (by simp -dsimp -implicitDefEqProofs [-getElem?_pos, go_sem]) (by simp) (args_nil.2 trivial))) .sc ?_
  rw [any_all]
  cases c3 : l.all fun c => decide (c.Open = c.Amount)
  · rw [c3, if_neg (by simp)] at hR
    simp -dsimp -implicitDefEqProofs [-getElem?_pos, go_sem, hP, c3]
    refine done_noCash ?_
    rw [hQ, hR]
  rw [c3, if_pos rfl] at hR
  simp -dsimp -implicitDefEqProofs [-getElem?_pos, go_sem, hP, c3]
  refine callB_is ((clone_pf_clm l (by omega)).lift _ _) hP en_53 (by simpa using ic) ic ?_
  simp -dsimp -implicitDefEqProofs [-getElem?_pos, go_sem, hP]
  refine done_agg2 (cs' := (TCash.mk l [] [] []).cells) (cw_imm ic (cw_nil (cw_nil (cw_nil .nil)))) ?_
  rw [hQ, hR]
theorem crnew_pf (l : List TClaim) (hf : FitL l) : PFun Tryz.prog none none 22 [claimsL l] (· = .tup [.agg (newD l).1.cells, iv (newD l).2]) := by
  refine pfun_intro Tryz.func22 rfl (by simp [Tryz.f22]) (by kernel_rfl) ?_
  intro E hP hr hs hW hN
  have hn := hf.n
  have ic := imm_claims l
  obtain ⟨Q, hQ⟩ : ∃ Q : AV → Prop, Q = (· = .tup [.agg (newD l).1.cells, iv (newD l).2]) := ⟨_, rfl⟩
  rw [← hQ]
  obtain ⟨R, hR⟩ : ∃ R, R = newD l := ⟨_, rfl⟩
  rw [← hR] at hQ
  rw [newD] at hR
  by_cases c1 : 60 < l.length
  · have d1 : decide ((60 : Int) < (l.length : Int)) = true := decide_eq_true (by omega)
    rw [if_neg (by omega)] at hR
    simp -dsimp -implicitDefEqProofs [-getElem?_pos, go_sem, hP, c1, d1]
    refine done_noCash ?_
    rw [hQ, hR]
  have d1 : decide ((60 : Int) < (l.length : Int)) = false := decide_eq_false (by omega)
  rw [if_pos (by omega)] at hR
  simp -dsimp -implicitDefEqProofs [-getElem?_pos, go_sem, hP, c1, d1]
  refine callB_pure (crclaims_pf l (by omega) hf.code) hP en_54 (args_same (by simpa using ic)) .sc ?_
  cases c2 : paysB 0 l
  · rw [c2, Bool.false_and, if_neg (by simp)] at hR
    simp -dsimp -implicitDefEqProofs [-getElem?_pos, go_sem, hP, c2]
    refine done_noCash ?_
    rw [hQ, hR]
  rw [c2, Bool.true_and] at hR
  simp -dsimp -implicitDefEqProofs [-getElem?_pos, go_sem, hP, c2]
  obtain ⟨I, hI⟩ : ∃ I : Nat → St → Prop, I = fun m s => ∃ k : Nat, k ≤ l.length ∧ m = l.length - k ∧ (∀ x, x ∈ l.take k → x.Open = x.Amount) ∧ s.t 0 = claimsL l ∧ s.t 2 = .ref 0 0 0 ∧ s.t 14 = claimsL l ∧ s.t 15 = iv l.length ∧ s.t 16 = iv k ∧ s.H[0]? = some (some ⟨29, 4, [[.nil, .nil, .nil, .nil]]⟩) := ⟨_, rfl⟩
  refine aloop0 I (l.length) (by rw [hN]; rfl) ?_ ?_
  · rw [hI]
    exact ⟨0, by omega, by omega, by simp, by simp -dsimp -implicitDefEqProofs [-getElem?_pos, go_sem], by simp -dsimp -implicitDefEqProofs [-getElem?_pos, go_sem], by simp -dsimp -implicitDefEqProofs [-getElem?_pos, go_sem], by simp -dsimp -implicitDefEqProofs [-getElem?_pos, go_sem], by simp -dsimp -implicitDefEqProofs [-getElem?_pos, go_sem], by simp -dsimp -implicitDefEqProofs [-getElem?_pos, go_sem]⟩
  intro m s hs'
  rw [hI] at hs'
  obtain ⟨k, hk, hm, hall, t0, t2, t14, t15, t16, h0⟩ := hs'
  have lt0 := (List.getElem?_eq_some_iff.1 h0).1
  simp -dsimp -implicitDefEqProofs [-getElem?_pos, go_sem, hP, t15, t16]
  refine condP (fun h => ?_) (fun h => ?_)
  · have hk : k < l.length := by simpa using h
    obtain ⟨x, hx⟩ : ∃ x, l[k]? = some x := ⟨_, List.getElem?_eq_getElem hk⟩
    have wk := wrap_in ((k : Int) + 1) (by omega)
    by_cases e1 : x.Open = x.Amount
    · simp -dsimp -implicitDefEqProofs [-getElem?_pos, go_sem, hP, t14, t16, hx, cClm, e1, wk]
      refine ⟨l.length - (k + 1), by omega, ?_⟩
      rw [hI]
      refine ⟨k + 1, by omega, rfl, fun z hz => ?_, by simp -dsimp -implicitDefEqProofs [-getElem?_pos, go_sem, t0], by simp -dsimp -implicitDefEqProofs [-getElem?_pos, go_sem, t2], by simp -dsimp -implicitDefEqProofs [-getElem?_pos, go_sem, t14], by simp -dsimp -implicitDefEqProofs [-getElem?_pos, go_sem, t15], by simp -dsimp -implicitDefEqProofs [-getElem?_pos, go_sem], by simp -dsimp -implicitDefEqProofs [-getElem?_pos, go_sem, lt0, h0]⟩
      rw [take_snoc hx] at hz
      rcases List.mem_append.1 hz with hz | hz
      · exact hall z hz
      · rw [List.mem_singleton.1 hz]; exact e1
    · have c3 : (l.all fun c => decide (c.Open = c.Amount)) = false := List.all_eq_false.2 ⟨x, List.mem_of_getElem? hx, by simpa using e1⟩
      rw [c3, if_neg (by simp)] at hR
      simp -dsimp -implicitDefEqProofs [-getElem?_pos, go_sem, hP, t14, t16, hx, cClm, e1, t2, h0, lt0]
      refine done_noCash ?_
      rw [hQ, hR]
  · have hk : k = l.length := by simp at h; omega
    subst hk
    rw [List.take_length] at hall
    have c3 : (l.all fun c => decide (c.Open = c.Amount)) = true := List.all_eq_true.2 fun x hx => decide_eq_true (hall x hx)
    rw [c3, if_pos rfl] at hR
    simp -dsimp -implicitDefEqProofs [-getElem?_pos, go_sem, hP, t0, t2, h0, lt0]
    refine ⟨by omega, by omega, ?_⟩
    refine done_agg2 (cs' := (TCash.mk l [] [] []).cells) (cw_sref (ty := 38) (k := 6) (es := encL TClaim.cells l) (by simp -dsimp -implicitDefEqProofs [-getElem?_pos, go_sem]) (by rw [encL_len]) ic (cw_nil (cw_nil (cw_nil .nil)))) ?_
    rw [hQ, hR]

theorem listEq_pf_claims27 (a b : List TClaim) (ha : a.length ≤ 100000) (hb : b.length ≤ 100000) :
    PFun Tryz.prog none none 17 [.list 6 (encL TClaim.cells a), .list 6 (encL TClaim.cells b)] (· = bv (decide (a = b))) := by
  refine pfun_intro Tryz.func17 rfl (by simp [Tryz.f17]) (by kernel_rfl) ?_
  intro E hP hr hs hW hN
  by_cases hlen : a.length = b.length
  rotate_left
  · have hne : ¬ a = b := fun h => hlen (by rw [h])
    have hl : decide ((a.length : Int) = (b.length : Int)) = false := by simp; omega
    simp -dsimp -implicitDefEqProofs [-getElem?_pos, go_sem, hP, hl, hne]
  have hl : decide ((a.length : Int) = (b.length : Int)) = true := by simp; omega
  simp -dsimp -implicitDefEqProofs [-getElem?_pos, go_sem, hP, hl]
  obtain ⟨I, hI⟩ : ∃ I : Nat → St → Prop, I = fun m s => ∃ k : Nat, k ≤ a.length ∧ m = a.length - k ∧ s.t 0 = .list 6 (encL TClaim.cells a) ∧ s.t 1 = .list 6 (encL TClaim.cells b) ∧ s.t 12 = iv a.length ∧ s.t 13 = iv k ∧ a.take k = b.take k := ⟨_, rfl⟩
  refine aloop0 I (a.length) (by rw [hN]; rfl) ?_ ?_
  · rw [hI]
    exact ⟨0, by omega, by omega, by simp -dsimp -implicitDefEqProofs [-getElem?_pos, go_sem], by simp -dsimp -implicitDefEqProofs [-getElem?_pos, go_sem], by simp -dsimp -implicitDefEqProofs [-getElem?_pos, go_sem], by simp -dsimp -implicitDefEqProofs [-getElem?_pos, go_sem], by simp⟩
  intro m s hs'
  rw [hI] at hs'
  obtain ⟨k, hk, hm, t0, t1, t12, t13, heq⟩ := hs'
  simp -dsimp -implicitDefEqProofs [-getElem?_pos, go_sem, hP, t12, t13]
  refine condP (fun h => ?_) (fun h => ?_)
  · have hk : k < a.length := by simpa using h
    obtain ⟨x, hx⟩ : ∃ x, a[k]? = some x := ⟨_, List.getElem?_eq_getElem hk⟩
    obtain ⟨y, hy⟩ : ∃ y, b[k]? = some y := ⟨_, List.getElem?_eq_getElem (by omega)⟩
    have wk := wrap_in ((k : Int) + 1) (by omega)
    have tx : a.take (k + 1) = a.take k ++ [x] := by rw [List.take_add_one, hx]; rfl
    have ty : b.take (k + 1) = b.take k ++ [y] := by rw [List.take_add_one, hy]; rfl
    simp -dsimp -implicitDefEqProofs [-getElem?_pos, go_sem, hP, t13]
    refine adrawB (fun _ => true) [] hP (by kernel_rfl) (by kernel_rfl) ?_
    by_cases hxy : x = y
    · subst hxy
      simp -dsimp -implicitDefEqProofs [-getElem?_pos, go_sem, hP, t0, t1, hx, hy, TClaim.cells, t13, wk]
      refine ⟨a.length - (k + 1), by omega, ?_⟩
      rw [hI]
      exact ⟨k + 1, by omega, rfl, by simp -dsimp -implicitDefEqProofs [-getElem?_pos, go_sem, t0], by simp -dsimp -implicitDefEqProofs [-getElem?_pos, go_sem, t1], by simp -dsimp -implicitDefEqProofs [-getElem?_pos, go_sem, t12], by simp -dsimp -implicitDefEqProofs [-getElem?_pos, go_sem], by rw [tx, ty, heq]⟩
    · have hne : ¬ a = b := fun h => by
        subst h
        rw [hx] at hy
        exact hxy (Option.some.inj hy)
      simp -dsimp -implicitDefEqProofs [-getElem?_pos, go_sem, hP, t0, t1, hx, hy, TClaim.cells, t13, wk]
      refine condP (fun h => ?_) (fun h => ?_)
      · simp -dsimp -implicitDefEqProofs [-getElem?_pos, go_sem, hP, hne]
      · exact absurd (by cases x; cases y; simp at h; simp [h]) hxy
  · have hk : k = a.length := by simp at h; omega
    subst hk
    rw [List.take_length] at heq
    rw [hlen, List.take_length] at heq
    simp -dsimp -implicitDefEqProofs [-getElem?_pos, go_sem, hP, heq]

theorem listEq_pf_matches27 (a b : List TMatch) (ha : a.length ≤ 100000) (hb : b.length ≤ 100000) :
    PFun Tryz.prog none none 18 [.list 3 (encL TMatch.cells a), .list 3 (encL TMatch.cells b)] (· = bv (decide (a = b))) := by
  refine pfun_intro Tryz.func18 rfl (by simp [Tryz.f18]) (by kernel_rfl) ?_
  intro E hP hr hs hW hN
  by_cases hlen : a.length = b.length
  rotate_left
  · have hne : ¬ a = b := fun h => hlen (by rw [h])
    have hl : decide ((a.length : Int) = (b.length : Int)) = false := by simp; omega
    simp -dsimp -implicitDefEqProofs [-getElem?_pos, go_sem, hP, hl, hne]
  have hl : decide ((a.length : Int) = (b.length : Int)) = true := by simp; omega
  simp -dsimp -implicitDefEqProofs [-getElem?_pos, go_sem, hP, hl]
  obtain ⟨I, hI⟩ : ∃ I : Nat → St → Prop, I = fun m s => ∃ k : Nat, k ≤ a.length ∧ m = a.length - k ∧ s.t 0 = .list 3 (encL TMatch.cells a) ∧ s.t 1 = .list 3 (encL TMatch.cells b) ∧ s.t 12 = iv a.length ∧ s.t 13 = iv k ∧ a.take k = b.take k := ⟨_, rfl⟩
  refine aloop0 I (a.length) (by rw [hN]; rfl) ?_ ?_
  · rw [hI]
    exact ⟨0, by omega, by omega, by simp -dsimp -implicitDefEqProofs [-getElem?_pos, go_sem], by simp -dsimp -implicitDefEqProofs [-getElem?_pos, go_sem], by simp -dsimp -implicitDefEqProofs [-getElem?_pos, go_sem], by simp -dsimp -implicitDefEqProofs [-getElem?_pos, go_sem], by simp⟩
  intro m s hs'
  rw [hI] at hs'
  obtain ⟨k, hk, hm, t0, t1, t12, t13, heq⟩ := hs'
  simp -dsimp -implicitDefEqProofs [-getElem?_pos, go_sem, hP, t12, t13]
  refine condP (fun h => ?_) (fun h => ?_)
  · have hk : k < a.length := by simpa using h
    obtain ⟨x, hx⟩ : ∃ x, a[k]? = some x := ⟨_, List.getElem?_eq_getElem hk⟩
    obtain ⟨y, hy⟩ : ∃ y, b[k]? = some y := ⟨_, List.getElem?_eq_getElem (by omega)⟩
    have wk := wrap_in ((k : Int) + 1) (by omega)
    have tx : a.take (k + 1) = a.take k ++ [x] := by rw [List.take_add_one, hx]; rfl
    have ty : b.take (k + 1) = b.take k ++ [y] := by rw [List.take_add_one, hy]; rfl
    simp -dsimp -implicitDefEqProofs [-getElem?_pos, go_sem, hP, t13]
    refine adrawB (fun _ => true) [] hP (by kernel_rfl) (by kernel_rfl) ?_
    by_cases hxy : x = y
    · subst hxy
      simp -dsimp -implicitDefEqProofs [-getElem?_pos, go_sem, hP, t0, t1, hx, hy, TMatch.cells, t13, wk]
      refine ⟨a.length - (k + 1), by omega, ?_⟩
      rw [hI]
      exact ⟨k + 1, by omega, rfl, by simp -dsimp -implicitDefEqProofs [-getElem?_pos, go_sem, t0], by simp -dsimp -implicitDefEqProofs [-getElem?_pos, go_sem, t1], by simp -dsimp -implicitDefEqProofs [-getElem?_pos, go_sem, t12], by simp -dsimp -implicitDefEqProofs [-getElem?_pos, go_sem], by rw [tx, ty, heq]⟩
    · have hne : ¬ a = b := fun h => by
        subst h
        rw [hx] at hy
        exact hxy (Option.some.inj hy)
      simp -dsimp -implicitDefEqProofs [-getElem?_pos, go_sem, hP, t0, t1, hx, hy, TMatch.cells, t13, wk]
      refine condP (fun h => ?_) (fun h => ?_)
      · simp -dsimp -implicitDefEqProofs [-getElem?_pos, go_sem, hP, hne]
      · exact absurd (by cases x; cases y; simp at h; simp [h]) hxy
  · have hk : k = a.length := by simp at h; omega
    subst hk
    rw [List.take_length] at heq
    rw [hlen, List.take_length] at heq
    simp -dsimp -implicitDefEqProofs [-getElem?_pos, go_sem, hP, heq]

def sameC (a b : TCash) : Bool := decide (a = b)
set_option maxHeartbeats 2000000 in
theorem same27_pf (a b : TCash) (fa : FitC a) (fb : FitC b) : PFun Tryz.prog none none 23 [.agg a.cells, .agg b.cells] (· = bv (decide (a = b))) := by
  refine pfun_intro Tryz.func23 rfl (by simp [Tryz.f23]) (by kernel_rfl) ?_
  intro E hP hr hs hW hN
  have e1 := listEq_pf_claims27 a.Claims b.Claims fa.fc fb.fc
  have e2 := listEq_pf_matches27 a.Matches b.Matches fa.fm fb.fm
  have i1 := imm_claims a.Claims
  have i2 := imm_claims b.Claims
  have i3 := imm_matches a.Matches
  have i4 := imm_matches b.Matches
  obtain ⟨R, hR⟩ : ∃ R, R = decide (a = b) := ⟨_, rfl⟩
  rw [← hR]
  have bad : ¬ a = b → R = false := fun h => by rw [hR]; exact decide_eq_false h
  have ai := fa.fi
  have bi := fb.fi
  have al := fa.fl
  have bl := fb.fl
  obtain ⟨n, hn⟩ : ∃ n, n = a.Incomes.length := ⟨_, rfl⟩
  obtain ⟨q, hq⟩ : ∃ q, q = a.Loose.length := ⟨_, rfl⟩
  rw [← hn] at ai
  rw [← hq] at al
  obtain ⟨Oa, hOa⟩ : ∃ O : AObj, O = ⟨29, 4, [[claimsL a.Claims, incomesL a.Incomes, matchesL a.Matches, .list 1 (encL encI a.Loose)]]⟩ := ⟨_, rfl⟩
  obtain ⟨Ob, hOb⟩ : ∃ O : AObj, O = ⟨29, 4, [[claimsL b.Claims, incomesL b.Incomes, matchesL b.Matches, .list 1 (encL encI b.Loose)]]⟩ := ⟨_, rfl⟩
  simp -dsimp -implicitDefEqProofs [-getElem?_pos, go_sem, hP, cCsh]
  refine callB_pure e1 hP en_17 (args_same (by simpa using ⟨i1, i2⟩)) .sc ?_
  by_cases h1 : a.Claims = b.Claims
  rotate_left
  · have d := decide_eq_false h1
    have e := bad fun h => h1 (by rw [h])
    simp -dsimp -implicitDefEqProofs [-getElem?_pos, go_sem, hP, d, e]
  have d1 := decide_eq_true h1
  simp -dsimp -implicitDefEqProofs [-getElem?_pos, go_sem, hP, d1]
  refine callB_pure e2 hP en_18 (args_same (by simpa using ⟨i3, i4⟩)) .sc ?_
  by_cases h2 : a.Matches = b.Matches
  rotate_left
  · have d := decide_eq_false h2
    have e := bad fun h => h2 (by rw [h])
    simp -dsimp -implicitDefEqProofs [-getElem?_pos, go_sem, hP, d, e]
  have d2 := decide_eq_true h2
  by_cases h3 : n = b.Incomes.length
  rotate_left
  · have d : decide ((n : Int) = (b.Incomes.length : Int)) = false := decide_eq_false (by omega)
    have e := bad fun h => h3 (by rw [hn, h])
    simp -dsimp -implicitDefEqProofs [-getElem?_pos, go_sem, hP, d2, ← hn, h3, d, e]
  have d3 : decide ((n : Int) = (b.Incomes.length : Int)) = true := decide_eq_true (by omega)
  by_cases h4 : q = b.Loose.length
  rotate_left
  · have d : decide ((q : Int) = (b.Loose.length : Int)) = false := decide_eq_false (by omega)
    have e := bad fun h => h4 (by rw [hq, h])
    simp -dsimp -implicitDefEqProofs [-getElem?_pos, go_sem, hP, d2, ← hn, ← h3, ← hq, h4, d, e]
  have d4 : decide ((q : Int) = (b.Loose.length : Int)) = true := decide_eq_true (by omega)
  simp -dsimp -implicitDefEqProofs [-getElem?_pos, go_sem, hP, d2, ← hn, ← h3, ← hq, ← h4]
  simp only [← hOa, ← hOb]
  obtain ⟨I, hI⟩ : ∃ I : Nat → St → Prop, I = fun m s => ∃ k : Nat, k ≤ n ∧ m = n - k ∧ a.Incomes.take k = b.Incomes.take k ∧ s.t 2 = .ref 0 0 0 ∧ s.t 3 = .ref 1 0 0 ∧ s.t 41 = iv n ∧ s.t 42 = iv k ∧ s.H = [some Oa, some Ob] := ⟨_, rfl⟩
  refine aloop0 I (n) (by rw [hN]; rfl) ?_ ?_
  · rw [hI]
    exact ⟨0, by omega, by omega, by simp, by simp -dsimp -implicitDefEqProofs [-getElem?_pos, go_sem], by simp -dsimp -implicitDefEqProofs [-getElem?_pos, go_sem], by simp -dsimp -implicitDefEqProofs [-getElem?_pos, go_sem], by simp -dsimp -implicitDefEqProofs [-getElem?_pos, go_sem], by simp -dsimp -implicitDefEqProofs [-getElem?_pos, go_sem]⟩
  intro m s hs'
  rw [hI] at hs'
  obtain ⟨k, hk, hm, heq, t2, t3, t41, t42, sH⟩ := hs'
  simp -dsimp -implicitDefEqProofs [-getElem?_pos, go_sem, hP, t41, t42]
  refine condP (fun h => ?_) (fun h => ?_)
  · have hk : k < n := by simpa using h
    obtain ⟨x, hx⟩ : ∃ x, a.Incomes[k]? = some x := ⟨_, List.getElem?_eq_getElem (by omega)⟩
    obtain ⟨y, hy⟩ : ∃ y, b.Incomes[k]? = some y := ⟨_, List.getElem?_eq_getElem (by omega)⟩
    have wk := wrap_in ((k : Int) + 1) (by omega)
    simp -dsimp -implicitDefEqProofs [-getElem?_pos, go_sem, hP, t42]
    refine adrawB (fun _ => true) [] hP (by kernel_rfl) (by kernel_rfl) ?_
    by_cases hxy : x = y
    · subst hxy
      simp -dsimp -implicitDefEqProofs [-getElem?_pos, go_sem, hP, t2, t3, sH, hOa, hOb, hx, hy, cIncm, t42, wk]
      refine ⟨n - (k + 1), by omega, ?_⟩
      rw [hI]
      exact ⟨k + 1, by omega, rfl, by rw [take_snoc hx, take_snoc hy, heq], by simp -dsimp -implicitDefEqProofs [-getElem?_pos, go_sem, t2], by simp -dsimp -implicitDefEqProofs [-getElem?_pos, go_sem, t3], by simp -dsimp -implicitDefEqProofs [-getElem?_pos, go_sem, t41], by simp -dsimp -implicitDefEqProofs [-getElem?_pos, go_sem], by simp -dsimp -implicitDefEqProofs [-getElem?_pos, go_sem, sH, hOa, hOb]⟩
    · have e := bad fun h => hxy (by rw [h, hy] at hx; exact (Option.some.inj hx).symm)
      simp -dsimp -implicitDefEqProofs [-getElem?_pos, go_sem, hP, t2, t3, sH, hOa, hOb, hx, hy, cIncm, t42, wk]
      refine condP (fun hh => ?_) (fun hh => ?_)
      · simp -dsimp -implicitDefEqProofs [-getElem?_pos, go_sem, hP, e]
      · exfalso
        refine hxy ?_
        cases x
        cases y
        simp at hh
        simp [hh]
  have hk : n = k := by
    have : ¬ k < n := by simpa using h
    omega
  subst hk
  have ei : a.Incomes = b.Incomes := by
    have l1 : a.Incomes.take n = a.Incomes := List.take_of_length_le (by omega)
    have l2 : b.Incomes.take n = b.Incomes := List.take_of_length_le (by omega)
    rw [← l1, ← l2, heq]
  clear hI h t41 t42 heq
  simp -dsimp -implicitDefEqProofs [-getElem?_pos, go_sem, hP, t2, sH, hOa, ← hq]
  simp only [← hOa]
  obtain ⟨I, hI⟩ : ∃ I : Nat → St → Prop, I = fun m s => ∃ k : Nat, k ≤ q ∧ m = q - k ∧ a.Loose.take k = b.Loose.take k ∧ s.t 2 = .ref 0 0 0 ∧ s.t 3 = .ref 1 0 0 ∧ s.t 59 = iv q ∧ s.t 60 = iv k ∧ s.H = [some Oa, some Ob] := ⟨_, rfl⟩
  refine aloop0 I (q) (by rw [hN]; rfl) ?_ ?_
  · rw [hI]
    exact ⟨0, by omega, by omega, by simp, by simp -dsimp -implicitDefEqProofs [-getElem?_pos, go_sem, t2], by simp -dsimp -implicitDefEqProofs [-getElem?_pos, go_sem, t3], by simp -dsimp -implicitDefEqProofs [-getElem?_pos, go_sem], by simp -dsimp -implicitDefEqProofs [-getElem?_pos, go_sem], by simp -dsimp -implicitDefEqProofs [-getElem?_pos, go_sem]⟩
  clear t2 t3 sH
  intro m s hs'
  rw [hI] at hs'
  obtain ⟨k, hk, hm, heq, t2, t3, t59, t60, sH⟩ := hs'
  simp -dsimp -implicitDefEqProofs [-getElem?_pos, go_sem, hP, t59, t60]
  refine condP (fun h => ?_) (fun h => ?_)
  · have hk : k < q := by simpa using h
    obtain ⟨x, hx⟩ : ∃ x, a.Loose[k]? = some x := ⟨_, List.getElem?_eq_getElem (by omega)⟩
    obtain ⟨y, hy⟩ : ∃ y, b.Loose[k]? = some y := ⟨_, List.getElem?_eq_getElem (by omega)⟩
    have wk := wrap_in ((k : Int) + 1) (by omega)
    simp -dsimp -implicitDefEqProofs [-getElem?_pos, go_sem, hP, t60]
    refine adrawB (fun _ => true) [] hP (by kernel_rfl) (by kernel_rfl) ?_
    by_cases hxy : x = y
    · subst hxy
      simp -dsimp -implicitDefEqProofs [-getElem?_pos, go_sem, hP, t2, t3, sH, hOa, hOb, hx, hy, encI, t60, wk]
      refine ⟨q - (k + 1), by omega, ?_⟩
      rw [hI]
      exact ⟨k + 1, by omega, rfl, by rw [take_snoc hx, take_snoc hy, heq], by simp -dsimp -implicitDefEqProofs [-getElem?_pos, go_sem, t2], by simp -dsimp -implicitDefEqProofs [-getElem?_pos, go_sem, t3], by simp -dsimp -implicitDefEqProofs [-getElem?_pos, go_sem, t59], by simp -dsimp -implicitDefEqProofs [-getElem?_pos, go_sem], by simp -dsimp -implicitDefEqProofs [-getElem?_pos, go_sem, sH, hOa, hOb]⟩
    · have e := bad fun h => hxy (by rw [h, hy] at hx; exact (Option.some.inj hx).symm)
      have dxy := decide_eq_false hxy
      simp -dsimp -implicitDefEqProofs [-getElem?_pos, go_sem, hP, t2, t3, sH, hOa, hOb, hx, hy, encI, t60, wk, dxy, e]
  have hk : q = k := by
    have : ¬ k < q := by simpa using h
    omega
  subst hk
  have el : a.Loose = b.Loose := by
    have l1 : a.Loose.take q = a.Loose := List.take_of_length_le (by omega)
    have l2 : b.Loose.take q = b.Loose := List.take_of_length_le (by omega)
    rw [← l1, ← l2, heq]
  have e : R = true := by
    rw [hR]
    refine decide_eq_true ?_
    cases a
    cases b
    simp only at h1 h2 ei el
    rw [h1, h2, ei, el]
  simp -dsimp -implicitDefEqProofs [-getElem?_pos, go_sem, hP, e]
end Go.Proofs.YtgapbmaehfdkoaaGreatDoor
