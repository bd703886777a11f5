/- Receipts: what is loose, what is owed; new cash; equality. -/
import Derived.Test.YtgapbmaehfdkoaaDoorCash10
set_option linter.unusedSimpArgs false
set_option linter.unusedVariables false
namespace Go.Proofs.YtgapbmaehfdkoaaDoor
open Go.PA
open Go.RowKit

theorem owedS_snoc (l : List TClaim) (x : TClaim) (p : Int) : owedS (l ++ [x]) p = owedS l p + if x.Payer = p then x.Open else 0 := by
  unfold owedS
  rw [List.filter_append, List.map_append, List.sum_append]
  by_cases h : x.Payer = p <;> simp [h]
set_option maxHeartbeats 1000000 in
theorem cloose_pf (c : TCash) (p : Int) (hf : FitC c) : PFun Tryd.prog none none 10 [.agg c.cells, iv p] (· = iv (looseD c p)) := by
  refine pfun_intro Tryd.func10 rfl (by simp [Tryd.f10]) (by kernel_rfl) ?_
  intro E hP hr hs hW hN
  have ck := ccheck_pf c hf
  have ic := imm_agg.2 c.imm
  rw [cCsh] at ck ic
  obtain ⟨R, hR⟩ : ∃ R, R = looseD c p := ⟨_, rfl⟩
  rw [← hR]
  by_cases c1 : cashE c = 0
  rotate_left
  · have e : R = 0 := by rw [hR, looseD, if_neg c1]
    simp -dsimp -implicitDefEqProofs [-getElem?_pos, go_sem, hP, cCsh]
    refine callB_pure ck hP en_12 (args_same (by simpa using ic)) .sc ?_
    simp -dsimp -implicitDefEqProofs [-getElem?_pos, go_sem, hP, c1, e]
  rw [looseD_eq c1] at hR
  have ok := (cashE_ok.1 c1).2
  have l2 := (cashE_ok.1 c1).1.2.1
  obtain ⟨n, hn⟩ : ∃ n, n = c.Incomes.length := ⟨_, rfl⟩
  obtain ⟨ls, hls⟩ : ∃ ls, ls = c.Loose := ⟨_, rfl⟩
  have ll := ok.len
  rw [← hls, ← hn] at ll
  rw [← hn] at l2
  rw [← hls] at hR ck ic
  obtain ⟨O, hO⟩ : ∃ O : AObj, O = ⟨29, 4, [[claimsL c.Claims, incomesL c.Incomes, matchesL c.Matches, .list 1 (encL encI ls)]]⟩ := ⟨_, rfl⟩
  simp -dsimp -implicitDefEqProofs [-getElem?_pos, go_sem, hP, cCsh, ← hls]
  refine callB_pure ck hP en_12 (args_same (by simpa using ic)) .sc ?_
  simp -dsimp -implicitDefEqProofs [-getElem?_pos, go_sem, hP, c1, ← hn]
  simp only [← hO]
  obtain ⟨I, hI⟩ : ∃ I : Nat → St → Prop, I = fun m s => ∃ (k : Nat) (S : Int), k ≤ n ∧ m = n - k ∧ S = looseS (c.Incomes.take k) (ls.take k) p ∧ 0 ≤ S ∧ S ≤ k * 1000000000000 ∧ s.t 1 = iv p ∧ s.t 2 = .ref 0 0 0 ∧ s.t 5 = iv S ∧ s.t 12 = incomesL c.Incomes ∧ s.t 13 = iv n ∧ s.t 14 = iv k ∧ s.H[0]? = some (some O) := ⟨_, rfl⟩
  refine aloop0 I (n) (by rw [hN]; rfl) ?_ ?_
  · rw [hI]
    exact ⟨0, 0, by omega, by omega, by simp [looseS], by omega, by omega, by simp -dsimp -implicitDefEqProofs [-getElem?_pos, go_sem], by simp -dsimp -implicitDefEqProofs [-getElem?_pos, go_sem], by simp -dsimp -implicitDefEqProofs [-getElem?_pos, go_sem], by simp -dsimp -implicitDefEqProofs [-getElem?_pos, go_sem], by simp -dsimp -implicitDefEqProofs [-getElem?_pos, go_sem], by simp -dsimp -implicitDefEqProofs [-getElem?_pos, go_sem], by simp -dsimp -implicitDefEqProofs [-getElem?_pos, go_sem]⟩
  intro m s hs'
  rw [hI] at hs'
  obtain ⟨k, S, hk, hm, hS, hS0, hS1, t1, t2, t5, t12, t13, t14, h0⟩ := hs'
  have lt0 := (List.getElem?_eq_some_iff.1 h0).1
  simp -dsimp -implicitDefEqProofs [-getElem?_pos, go_sem, hP, t13, t14]
  refine condP (fun h => ?_) (fun h => ?_)
  · have hk : k < n := by simpa using h
    obtain ⟨y, hy⟩ : ∃ y, c.Incomes[k]? = some y := ⟨_, List.getElem?_eq_getElem (by omega)⟩
    obtain ⟨lo, hlo⟩ : ∃ lo, ls[k]? = some lo := ⟨_, List.getElem?_eq_getElem (by omega)⟩
    have wk := wrap_in ((k : Int) + 1) (by omega)
    have ub := ok.used k y lo hy (by rw [← hls]; exact hlo)
    have un := usedS_nonneg c.Matches y.Number fun z hz => (ok.mates z hz).1
    have yb := (incB_amount (ok.incs.1 y (List.mem_of_getElem? hy))).2
    have es : looseS (c.Incomes.take (k + 1)) (ls.take (k + 1)) p = S + if y.Payer = p then lo else 0 := by
      rw [take_snoc hy, take_snoc hlo, looseS_snoc _ _ _ _ _ (by rw [List.length_take, List.length_take]; omega), ← hS]
    by_cases e1 : y.Payer = p
    · rw [if_pos e1] at es
      have ws := wrap_in (S + lo) (by omega)
      simp -dsimp -implicitDefEqProofs [-getElem?_pos, go_sem, hP, t12, t14, hy, cIncm, t1, e1, t5, t2, h0, lt0, hO, hlo, encI, ws, wk]
      refine ⟨n - (k + 1), by omega, ?_⟩
      rw [hI]
      exact ⟨k + 1, S + lo, by omega, rfl, es.symm, by omega, by omega, by simp -dsimp -implicitDefEqProofs [-getElem?_pos, go_sem, t1, e1], by simp -dsimp -implicitDefEqProofs [-getElem?_pos, go_sem, t2], by simp -dsimp -implicitDefEqProofs [-getElem?_pos, go_sem], by simp -dsimp -implicitDefEqProofs [-getElem?_pos, go_sem, t12], by simp -dsimp -implicitDefEqProofs [-getElem?_pos, go_sem, t13], by simp -dsimp -implicitDefEqProofs [-getElem?_pos, go_sem], by simp -dsimp -implicitDefEqProofs [-getElem?_pos, go_sem, lt0, h0]⟩
    · rw [if_neg e1, Int.add_zero] at es
      simp -dsimp -implicitDefEqProofs [-getElem?_pos, go_sem, hP, t12, t14, hy, cIncm, t1, e1, wk]
      refine ⟨n - (k + 1), by omega, ?_⟩
      rw [hI]
      exact ⟨k + 1, S, by omega, rfl, es.symm, hS0, by omega, by simp -dsimp -implicitDefEqProofs [-getElem?_pos, go_sem, t1], by simp -dsimp -implicitDefEqProofs [-getElem?_pos, go_sem, t2], by simp -dsimp -implicitDefEqProofs [-getElem?_pos, go_sem, t5], by simp -dsimp -implicitDefEqProofs [-getElem?_pos, go_sem, t12], by simp -dsimp -implicitDefEqProofs [-getElem?_pos, go_sem, t13], by simp -dsimp -implicitDefEqProofs [-getElem?_pos, go_sem], by simp -dsimp -implicitDefEqProofs [-getElem?_pos, go_sem, lt0, h0]⟩
  · have hk : n = k := by
      have : ¬ k < n := by simpa using h
      omega
    subst hk
    have e : S = R := by
      rw [hS, hR, hn, List.take_length, List.take_of_length_le (by omega)]
    simp -dsimp -implicitDefEqProofs [-getElem?_pos, go_sem, hP, t5, e]
theorem cowed_pf (c : TCash) (p : Int) (hf : FitC c) : PFun Tryd.prog none none 9 [.agg c.cells, iv p] (· = iv (owedD c p)) := by
  refine pfun_intro Tryd.func9 rfl (by simp [Tryd.f9]) (by kernel_rfl) ?_
  intro E hP hr hs hW hN
  have ck := ccheck_pf c hf
  have ic := imm_agg.2 c.imm
  rw [cCsh] at ck ic
  obtain ⟨R, hR⟩ : ∃ R, R = owedD c p := ⟨_, rfl⟩
  rw [← hR]
  by_cases c1 : cashE c = 0
  rotate_left
  · have e : R = 0 := by rw [hR, owedD, if_neg c1]
    simp -dsimp -implicitDefEqProofs [-getElem?_pos, go_sem, hP, cCsh]
    refine callB_pure ck hP en_12 (args_same (by simpa using ic)) .sc ?_
    simp -dsimp -implicitDefEqProofs [-getElem?_pos, go_sem, hP, c1, e]
  rw [owedD_eq c1] at hR
  have ok := (cashE_ok.1 c1).2
  have l2 := (cashE_ok.1 c1).1.1
  obtain ⟨n, hn⟩ : ∃ n, n = c.Claims.length := ⟨_, rfl⟩
  rw [← hn] at l2
  simp -dsimp -implicitDefEqProofs [-getElem?_pos, go_sem, hP, cCsh]
  refine callB_pure ck hP en_12 (args_same (by simpa using ic)) .sc ?_
  simp -dsimp -implicitDefEqProofs [-getElem?_pos, go_sem, hP, c1, ← hn]
  obtain ⟨I, hI⟩ : ∃ I : Nat → St → Prop, I = fun m s => ∃ (k : Nat) (S : Int), k ≤ n ∧ m = n - k ∧ S = owedS (c.Claims.take k) p ∧ 0 ≤ S ∧ S ≤ k * 1000000000000 ∧ s.t 1 = iv p ∧ s.t 5 = iv S ∧ s.t 12 = claimsL c.Claims ∧ s.t 13 = iv n ∧ s.t 14 = iv k := ⟨_, rfl⟩
  refine aloop0 I (n) (by rw [hN]; rfl) ?_ ?_
  · rw [hI]
    exact ⟨0, 0, by omega, by omega, by simp [owedS], by omega, by omega, by simp -dsimp -implicitDefEqProofs [-getElem?_pos, go_sem], by simp -dsimp -implicitDefEqProofs [-getElem?_pos, go_sem], by simp -dsimp -implicitDefEqProofs [-getElem?_pos, go_sem], by simp -dsimp -implicitDefEqProofs [-getElem?_pos, go_sem], by simp -dsimp -implicitDefEqProofs [-getElem?_pos, go_sem]⟩
  intro m s hs'
  rw [hI] at hs'
  obtain ⟨k, S, hk, hm, hS, hS0, hS1, t1, t5, t12, t13, t14⟩ := hs'
  simp -dsimp -implicitDefEqProofs [-getElem?_pos, go_sem, hP, t13, t14]
  refine condP (fun h => ?_) (fun h => ?_)
  · have hk : k < n := by simpa using h
    obtain ⟨y, hy⟩ : ∃ y, c.Claims[k]? = some y := ⟨_, List.getElem?_eq_getElem (by omega)⟩
    have wk := wrap_in ((k : Int) + 1) (by omega)
    have yb := payB_iff.1 (ok.pays.1 y (List.mem_of_getElem? hy))
    have es : owedS (c.Claims.take (k + 1)) p = S + if y.Payer = p then y.Open else 0 := by
      rw [take_snoc hy, owedS_snoc, ← hS]
    by_cases e1 : y.Payer = p
    · rw [if_pos e1] at es
      have ws := wrap_in (S + y.Open) (by omega)
      simp -dsimp -implicitDefEqProofs [-getElem?_pos, go_sem, hP, t12, t14, hy, cClm, t1, e1, t5, ws, wk]
      refine ⟨n - (k + 1), by omega, ?_⟩
      rw [hI]
      exact ⟨k + 1, S + y.Open, by omega, rfl, es.symm, by omega, by omega, by simp -dsimp -implicitDefEqProofs [-getElem?_pos, go_sem, t1, e1], by simp -dsimp -implicitDefEqProofs [-getElem?_pos, go_sem], by simp -dsimp -implicitDefEqProofs [-getElem?_pos, go_sem, t12], by simp -dsimp -implicitDefEqProofs [-getElem?_pos, go_sem, t13], by simp -dsimp -implicitDefEqProofs [-getElem?_pos, go_sem]⟩
    · rw [if_neg e1, Int.add_zero] at es
      simp -dsimp -implicitDefEqProofs [-getElem?_pos, go_sem, hP, t12, t14, hy, cClm, t1, e1, wk]
      refine ⟨n - (k + 1), by omega, ?_⟩
      rw [hI]
      exact ⟨k + 1, S, by omega, rfl, es.symm, hS0, by omega, by simp -dsimp -implicitDefEqProofs [-getElem?_pos, go_sem, t1], by simp -dsimp -implicitDefEqProofs [-getElem?_pos, go_sem, t5], by simp -dsimp -implicitDefEqProofs [-getElem?_pos, go_sem, t12], by simp -dsimp -implicitDefEqProofs [-getElem?_pos, go_sem, t13], by simp -dsimp -implicitDefEqProofs [-getElem?_pos, go_sem]⟩
  · have hk : n = k := by
      have : ¬ k < n := by simpa using h
      omega
    subst hk
    have e : S = R := by rw [hS, hR, hn, List.take_length]
    simp -dsimp -implicitDefEqProofs [-getElem?_pos, go_sem, hP, t5, e]

theorem clone_pf_clm (l : List TClaim) (hl : l.length ≤ 1000000) : PFun Tryd.prog none none 32 [.list 6 (encL TClaim.cells l)] (· = .list 6 (encL TClaim.cells l)) := by
  cases l with
  | nil =>
    refine pfun_list_nil fun A c => ?_
    refine pfun_intro Tryd.func32 rfl (by simp [Tryd.f32]) (by kernel_rfl) ?_
    intro E hP hr hs hW hN
    cases A with
    | none =>
      simp -dsimp -implicitDefEqProofs [-getElem?_pos, go_sem, hP]
      exact done_weak .nil (imm_list.2 (by simp)) (.nil _) rfl
    | some a =>
      simp -dsimp -implicitDefEqProofs [-getElem?_pos, go_sem, hP]
      refine done_weak (x := .list 6 []) ?_ (imm_list.2 (by simp)) ?_ rfl
      · simp -dsimp -implicitDefEqProofs [-getElem?_pos, go_sem]
      · simp -dsimp -implicitDefEqProofs [-getElem?_pos, go_sem]
        first | exact .refl _ | skip
  | cons a l =>
    refine pfun_intro Tryd.func32 rfl (by simp [Tryd.f32]) (by kernel_rfl) ?_
    intro E hP hr hs hW hN
    simp only [List.length_cons] at hl
    have e : encL TClaim.cells (a :: l) = TClaim.cells a :: encL TClaim.cells l := rfl
    have im : Imm (.list 6 (TClaim.cells a :: encL TClaim.cells l)) := by rw [← e]; exact imm_encL _ TClaim.imm _
    have et : (TClaim.cells a :: encL TClaim.cells l).take (l.length + 1) = TClaim.cells a :: encL TClaim.cells l := by
      rw [← e]
      exact encL_take TClaim.cells (a :: l) _ (by simp)
    simp -dsimp -implicitDefEqProofs [-getElem?_pos, go_sem, hP, e]
    refine ⟨by omega, by omega, ?_⟩
    refine done_weak (x := .list 6 (TClaim.cells a :: encL TClaim.cells l)) ?_ im ?_ rfl
    · simp -dsimp -implicitDefEqProofs [-getElem?_pos, go_sem]
      first | exact im | (have h := imm_list.1 im; simp only [List.mem_cons, forall_eq_or_imp] at h; exact h)
    · simp -dsimp -implicitDefEqProofs [-getElem?_pos, go_sem]
      first | exact .refl _ | skip

theorem contains_pf_clm (l : List TClaim) (g : FuncId) (caps : List AV) (p : TClaim → Bool) (hl : l.length ≤ 1000000) (hen : enterable Tryd.prog g = true) (hcap : ∀ a, a ∈ caps → Imm a)
    (hg : ∀ a, a ∈ l → PFun Tryd.prog none none g (.agg (TClaim.cells a) :: caps) (· = bv (p a))) :
    PFun Tryd.prog none none 46 [.list 6 (encL TClaim.cells l), .fn g caps] (· = bv (l.any p)) := by
  refine pfun_intro Tryd.func46 rfl (by simp [Tryd.f46]) (by kernel_rfl) ?_
  intro E hP hr hs hW hN
  obtain ⟨w, hw⟩ : ∃ w, w = l.any p := ⟨_, rfl⟩
  rw [← hw]
  have hi : ∀ a, a ∈ [AV.list 6 (encL TClaim.cells l), .fn g caps] → Imm a := fun a ha => by
    simp only [List.mem_cons, List.not_mem_nil, or_false] at ha
    rcases ha with rfl | rfl
    · exact imm_encL _ TClaim.imm _
    · exact imm_fn.2 hcap
  simp -dsimp -implicitDefEqProofs [-getElem?_pos, go_sem, hP]
  refine callB_is ((index_pf_clm l g caps p hl hen hcap hg).lift _ _) hP en_35 hi .sc ?_
  rcases idxI_spec p l with ⟨h1, h2⟩ | ⟨i, a, h1, h2, h3, _⟩
  · have : w = false := by rw [hw]; exact List.any_eq_false.2 fun a ha => by simp [h2 a ha]
    simp -dsimp -implicitDefEqProofs [-getElem?_pos, go_sem, hP, h1, this]
  · have d : decide ((0 : Int) ≤ (i : Int)) = true := decide_eq_true (by omega)
    have : w = true := by rw [hw]; exact List.any_eq_true.2 ⟨a, List.mem_of_getElem? h1, h2⟩
    simp -dsimp -implicitDefEqProofs [-getElem?_pos, go_sem, hP, h3, d, this]

theorem new1_pf (x : TClaim) : PFun Tryd.prog none none 45 [.agg x.cells] (· = bv (!decide (x.Open = x.Amount))) := by
  refine pfun_intro Tryd.func45 rfl (by simp [Tryd.f45]) (by kernel_rfl) ?_
  intro E hP hr hs hW hN
  by_cases h : x.Open = x.Amount <;> simp -dsimp -implicitDefEqProofs [-getElem?_pos, go_sem, hP, cClm, h]
/-- A list of claims that fits. -/
structure FitL (l : List TClaim) : Prop where
  n : l.length ≤ 100000
  code : ∀ x, x ∈ l → x.Code.size ≤ 1000000
theorem any_all (l : List TClaim) : l.any (fun x => !decide (x.Open = x.Amount)) = !(l.all fun c => decide (c.Open = c.Amount)) := by
  induction l with
  | nil => rfl
  | cons a l ih => simp [ih, Bool.not_and]
theorem cnew_pf (l : List TClaim) (hf : FitL l) : PFun Tryd.prog none none 26 [claimsL l] (· = .tup [.agg (newD l).1.cells, iv (newD l).2]) := by
  refine pfun_intro Tryd.func26 rfl (by simp [Tryd.f26]) (by kernel_rfl) ?_
  intro E hP hr hs hW hN
  have hn := hf.n
  have ic := imm_claims l
  obtain ⟨Q, hQ⟩ : ∃ Q : AV → Prop, Q = (· = .tup [.agg (newD l).1.cells, iv (newD l).2]) := ⟨_, rfl⟩
  rw [← hQ]
  obtain ⟨R, hR⟩ : ∃ R, R = newD l := ⟨_, rfl⟩
  rw [← hR] at hQ
  rw [newD] at hR
  by_cases c1 : 60 < l.length
  · have d1 : decide ((60 : Int) < (l.length : Int)) = true := decide_eq_true (by omega)
    rw [if_neg (by omega)] at hR
    simp -dsimp -implicitDefEqProofs [-getElem?_pos, go_sem, hP, c1, d1]
    refine done_noCash ?_
    rw [hQ, hR]
  have d1 : decide ((60 : Int) < (l.length : Int)) = false := decide_eq_false (by omega)
  rw [if_pos (by omega)] at hR
  simp -dsimp -implicitDefEqProofs [-getElem?_pos, go_sem, hP, c1, d1]
  refine callB_pure (cclaims_pf l (by omega) hf.code) hP en_27 (args_same (by simpa using ic)) .sc ?_
  cases c2 : paysB 0 l
  · rw [c2, Bool.false_and, if_neg (by simp)] at hR
    simp -dsimp -implicitDefEqProofs [-getElem?_pos, go_sem, hP, c2]
    refine done_noCash ?_
    rw [hQ, hR]
  rw [c2, Bool.true_and] at hR
  simp -dsimp -implicitDefEqProofs [-getElem?_pos, go_sem, hP, c2]
  refine callB_pure (contains_pf_clm l 45 [] (fun x => !decide (x.Open = x.Amount)) (by omega) en_45 (by simp) fun x _ => new1_pf x) hP en_46 (args_imm ic (args_fnc (cs := []) (by simp -dsimp -implicitDefEqProofs [-getElem?_pos, go_sem]) (by simp) (args_nil.2 trivial))) .sc ?_
  rw [any_all]
  cases c3 : l.all fun c => decide (c.Open = c.Amount)
  · rw [c3, if_neg (by simp)] at hR
    simp -dsimp -implicitDefEqProofs [-getElem?_pos, go_sem, hP, c3]
    refine done_noCash ?_
    rw [hQ, hR]
  rw [c3, if_pos rfl] at hR
  simp -dsimp -implicitDefEqProofs [-getElem?_pos, go_sem, hP, c3]
  refine callB_is ((clone_pf_clm l (by omega)).lift _ _) hP en_32 (by simpa using ic) ic ?_
  simp -dsimp -implicitDefEqProofs [-getElem?_pos, go_sem, hP]
  refine done_agg2 (cs' := (TCash.mk l [] [] []).cells) (cw_imm ic (cw_nil (cw_nil (cw_nil .nil)))) ?_
  rw [hQ, hR]
def sameC (a b : TCash) : Bool := decide (a = b)
end Go.Proofs.YtgapbmaehfdkoaaDoor
