/- Receipts: the program's check. -/
import Derived.Test.YtgapbmaehfdkoaaGreatDoorCash3
set_option linter.unusedSimpArgs false
set_option linter.unusedVariables false
namespace Go.Proofs.YtgapbmaehfdkoaaGreatDoor
open Go.PA
open Go.RowKit

set_option maxHeartbeats 8000000 in
set_option maxRecDepth 8000 in
theorem matched_pf (c : TCash) (hf : FitC c) (hp : paysB 0 c.Claims = true) (hx : incsB 0 0 c.Incomes = true) (hl : c.Loose.length = c.Incomes.length) : PFun Tryz.prog none none 48 [.agg c.cells] (· = bv (booksB c)) := by
  refine pfun_intro Tryz.func48 rfl (by simp [Tryz.f48]) (by kernel_rfl) ?_
  intro E hP hr hs hW hN
  have hfc := hf.fc
  have hfi := hf.fi
  have hfm := hf.fm
  have hfl := hf.fl
  obtain ⟨nC, hnC⟩ : ∃ n, n = c.Claims.length := ⟨_, rfl⟩
  obtain ⟨nI, hnI⟩ : ∃ n, n = c.Incomes.length := ⟨_, rfl⟩
  rw [← hnC] at hfc
  rw [← hnI] at hfi hl
  obtain ⟨R, hR⟩ : ∃ R, R = booksB c := ⟨_, rfl⟩
  rw [← hR]
  have bad : ¬ Books c → R = false := fun h => by
    rw [hR]
    cases hb : booksB c
    · rfl
    · exact absurd ((booksB_iff c).1 hb) h
  have pw := (paysB_iff _ _).1 hp
  have iw := (incsB_iff _ _ _).1 hx
  have ca := fun id => claimAt_pf c id hf
  have ia := fun n => incomeAt_pf c n hf
  have ic := imm_agg.2 c.imm
  rw [cCsh] at ic
  simp only [cCsh] at ca ia
  obtain ⟨O, hO⟩ : ∃ O : AObj, O = ⟨29, 4, [[claimsL c.Claims, incomesL c.Incomes, matchesL c.Matches, .list 1 (encL encI c.Loose)]]⟩ := ⟨_, rfl⟩
  obtain ⟨Inv, hInv⟩ : ∃ Inv : List Int → List Int → St → Prop, Inv = fun xs ys s => ∃ a b, a ≠ b ∧ 0 < a ∧ 0 < b ∧ s.t 1 = .ref 0 0 0 ∧ s.t 3 = .sref a 0 nC ∧ s.t 4 = .sref b 0 nI ∧ s.H[0]? = some (some O) ∧ s.H[a]? = some (some ⟨3, 1, rowsI xs⟩) ∧ s.H[b]? = some (some ⟨3, 1, rowsI ys⟩) := ⟨_, rfl⟩
  simp -dsimp -implicitDefEqProofs [-getElem?_pos, go_sem, hP, cCsh, ← hO]
  refine adraw_cut (Inv (List.replicate nC 0) (List.replicate nI 0)) ?_ ?_
  · refine adrawK (fun id => decide (id = 0)) [] [] 3 hP (by kernel_rfl) (by kernel_rfl) (by simp) ?_
    simp -dsimp -implicitDefEqProofs [-getElem?_pos, go_sem, hP, List.take_succ_cons, List.take_zero, hO, ← hnC, restr_get]
    refine xany_pick 4 rfl (by kernel_rfl) ?_
    simp -dsimp -implicitDefEqProofs [-getElem?_pos, go_sem, hP, hO, restr_get]
    refine xany_pick 5 rfl (by kernel_rfl) ?_
    simp -dsimp -implicitDefEqProofs [-getElem?_pos, go_sem, hP, hO, restr_get]
    refine xany_pick 6 rfl (by kernel_rfl) ?_
    simp -dsimp -implicitDefEqProofs [-getElem?_pos, go_sem, hP, hO, ← hnI, restr_get]
    refine xany_two (i := 3) (j := 7) (by kernel_rfl) rfl rfl ?_ ?_
    · simp -dsimp -implicitDefEqProofs [-getElem?_pos, go_sem, hP, rowsI_zero, restr_get]
      refine ⟨by omega, by omega, agree_1, ?_⟩
      refine xany_pick 8 rfl (by kernel_rfl) ?_
      simp -dsimp -implicitDefEqProofs [-getElem?_pos, go_sem, hP, restr_get]
      refine xany_one (i := 7) (by kernel_rfl) rfl ?_
      simp -dsimp -implicitDefEqProofs [-getElem?_pos, go_sem, hP, rowsI_zero, restr_get]
      refine ⟨by omega, by omega, agree_1, ?_⟩
      refine xany_one (i := 9) (by kernel_rfl) rfl ?_
      simp -dsimp -implicitDefEqProofs [-getElem?_pos, go_sem, hP, restr_get]
      refine xany_nil (by kernel_rfl) ?_
      rw [hInv]
      exact ⟨1, 2, by omega, by omega, by omega, by simp -dsimp -implicitDefEqProofs [-getElem?_pos, go_sem], by simp -dsimp -implicitDefEqProofs [-getElem?_pos, go_sem], by simp -dsimp -implicitDefEqProofs [-getElem?_pos, go_sem], by simp -dsimp -implicitDefEqProofs [-getElem?_pos, go_sem, hO], by simp -dsimp -implicitDefEqProofs [-getElem?_pos, go_sem], by simp -dsimp -implicitDefEqProofs [-getElem?_pos, go_sem]⟩
    · simp -dsimp -implicitDefEqProofs [-getElem?_pos, go_sem, hP, rowsI_zero, restr_get]
      refine ⟨by omega, by omega, agree_1, ?_⟩
      refine xany_one (i := 3) (by kernel_rfl) rfl ?_
      simp -dsimp -implicitDefEqProofs [-getElem?_pos, go_sem, hP, rowsI_zero, restr_get]
      refine ⟨by omega, by omega, agree_1, ?_⟩
      refine xany_one (i := 8) (by kernel_rfl) rfl ?_
      simp -dsimp -implicitDefEqProofs [-getElem?_pos, go_sem, hP, restr_get]
      refine xany_one (i := 9) (by kernel_rfl) rfl ?_
      simp -dsimp -implicitDefEqProofs [-getElem?_pos, go_sem, hP, restr_get]
      refine xany_nil (by kernel_rfl) ?_
      rw [hInv]
      exact ⟨2, 1, by omega, by omega, by omega, by simp -dsimp -implicitDefEqProofs [-getElem?_pos, go_sem], by simp -dsimp -implicitDefEqProofs [-getElem?_pos, go_sem], by simp -dsimp -implicitDefEqProofs [-getElem?_pos, go_sem], by simp -dsimp -implicitDefEqProofs [-getElem?_pos, go_sem, hO], by simp -dsimp -implicitDefEqProofs [-getElem?_pos, go_sem], by simp -dsimp -implicitDefEqProofs [-getElem?_pos, go_sem]⟩
  rw [hInv]
  rintro s ⟨a, b, nab, pa, pb, t1, t3, t4, h0, ha, hb⟩
  have lt0 := (List.getElem?_eq_some_iff.1 h0).1
  simp -dsimp -implicitDefEqProofs [-getElem?_pos, go_sem, hP, t1, h0, lt0, hO, ← hnC]
  -- the amounts of the claims
  obtain ⟨I, hI⟩ : ∃ I : Nat → St → Prop, I = fun m s => ∃ (k : Nat) (xs : List Int), k ≤ nC ∧ m = nC - k ∧ xs.length = nC ∧ (∀ (j : Nat) (x : TClaim), j < k → c.Claims[j]? = some x → xs[j]? = some x.Amount) ∧ s.t 1 = .ref 0 0 0 ∧ s.t 3 = .sref a 0 nC ∧ s.t 4 = .sref b 0 nI ∧ s.t 26 = claimsL c.Claims ∧ s.t 27 = iv nC ∧ s.t 28 = iv k ∧ s.H[0]? = some (some O) ∧ s.H[a]? = some (some ⟨3, 1, rowsI xs⟩) ∧ s.H[b]? = some (some ⟨3, 1, rowsI (List.replicate nI 0)⟩) := ⟨_, rfl⟩
  refine aloop0 I (nC) (by rw [hN]; rfl) ?_ ?_
  · rw [hI]
    exact ⟨0, List.replicate nC 0, by omega, by omega, List.length_replicate, fun j x hj => by omega, by simp -dsimp -implicitDefEqProofs [-getElem?_pos, go_sem, t1], by simp -dsimp -implicitDefEqProofs [-getElem?_pos, go_sem, t3], by simp -dsimp -implicitDefEqProofs [-getElem?_pos, go_sem, t4], by simp -dsimp -implicitDefEqProofs [-getElem?_pos, go_sem], by simp -dsimp -implicitDefEqProofs [-getElem?_pos, go_sem], by simp -dsimp -implicitDefEqProofs [-getElem?_pos, go_sem], by simp -dsimp -implicitDefEqProofs [-getElem?_pos, go_sem, h0], by simp -dsimp -implicitDefEqProofs [-getElem?_pos, go_sem, ha], by simp -dsimp -implicitDefEqProofs [-getElem?_pos, go_sem, hb]⟩
  clear t1 t3 t4 h0 ha hb lt0
  intro m s hs'
  rw [hI] at hs'
  obtain ⟨k, xs, hk, hm, hxl, hxs, t1, t3, t4, t26, t27, t28, h0, ha, hb⟩ := hs'
  have lt0 := (List.getElem?_eq_some_iff.1 h0).1
  have lta := (List.getElem?_eq_some_iff.1 ha).1
  have ltb := (List.getElem?_eq_some_iff.1 hb).1
  simp -dsimp -implicitDefEqProofs [-getElem?_pos, go_sem, hP, t27, t28]
  refine condP (fun h => ?_) (fun h => ?_)
  · have hk : k < nC := by simpa using h
    obtain ⟨x, hx⟩ : ∃ x, c.Claims[k]? = some x := ⟨_, List.getElem?_eq_getElem (by omega)⟩
    obtain ⟨v, hv⟩ : ∃ v, xs[k]? = some v := ⟨_, List.getElem?_eq_getElem (by omega)⟩
    have wk := wrap_in ((k : Int) + 1) (by omega)
    have rv := rowsI_get hv
    have rs := rowsI_set xs k x.Amount
    have rl := rowsI_len xs
    obtain ⟨rw', hrw⟩ : ∃ r, r = rowsI xs := ⟨_, rfl⟩
    rw [← hrw] at ha rv rs rl
    have na0 : ¬ a = 0 := by omega
    have nb0 : ¬ b = 0 := by omega
    have nba : ¬ b = a := fun e => nab e.symm
    simp -dsimp -implicitDefEqProofs [-getElem?_pos, go_sem, hP, t26, t28, hx, cClm, t3, ha, lta, rv, rl, hxl, hk, wk]
    refine ⟨nC - (k + 1), by omega, ?_⟩
    rw [hI]
    refine ⟨k + 1, xs.set k x.Amount, by omega, rfl, by simp [hxl], fun j y hj hy => ?_, by simp -dsimp -implicitDefEqProofs [-getElem?_pos, go_sem, t1], by simp -dsimp -implicitDefEqProofs [-getElem?_pos, go_sem, t3], by simp -dsimp -implicitDefEqProofs [-getElem?_pos, go_sem, t4], by simp -dsimp -implicitDefEqProofs [-getElem?_pos, go_sem, t26], by simp -dsimp -implicitDefEqProofs [-getElem?_pos, go_sem, t27], by simp -dsimp -implicitDefEqProofs [-getElem?_pos, go_sem], by simp -dsimp -implicitDefEqProofs [-getElem?_pos, go_sem, lt0, h0, na0], by simp -dsimp -implicitDefEqProofs [-getElem?_pos, go_sem, lta, rs], by simp -dsimp -implicitDefEqProofs [-getElem?_pos, go_sem, ltb, hb, nab]⟩
    by_cases e : j = k
    · subst e
      rw [hx] at hy
      cases hy
      exact List.getElem?_set_self (by omega)
    · rw [List.getElem?_set_ne (fun h => e h.symm)]
      exact hxs j y (by omega) hy
  have hk : nC = k := by
    have : ¬ k < nC := by simpa using h
    omega
  subst hk
  have exs : xs = leftL c [] := map_done (by omega) fun j x hj hx => by
    rw [hxs j x (by omega) hx]
    simp [gotS]
  subst exs
  clear hxs hxl hI h t26 t27 t28
  simp -dsimp -implicitDefEqProofs [-getElem?_pos, go_sem, hP, t1, h0, lt0, hO, ← hnI]
  -- the amounts of the incomes
  obtain ⟨I, hI⟩ : ∃ I : Nat → St → Prop, I = fun m s => ∃ (k : Nat) (xs : List Int), k ≤ nI ∧ m = nI - k ∧ xs.length = nI ∧ (∀ (j : Nat) (x : TIncome), j < k → c.Incomes[j]? = some x → xs[j]? = some x.Amount) ∧ s.t 1 = .ref 0 0 0 ∧ s.t 3 = .sref a 0 nC ∧ s.t 4 = .sref b 0 nI ∧ s.t 40 = incomesL c.Incomes ∧ s.t 41 = iv nI ∧ s.t 42 = iv k ∧ s.H[0]? = some (some O) ∧ s.H[a]? = some (some ⟨3, 1, rowsI (leftL c [])⟩) ∧ s.H[b]? = some (some ⟨3, 1, rowsI xs⟩) := ⟨_, rfl⟩
  refine aloop0 I (nI) (by rw [hN]; rfl) ?_ ?_
  · rw [hI]
    exact ⟨0, List.replicate nI 0, by omega, by omega, List.length_replicate, fun j x hj => by omega, by simp -dsimp -implicitDefEqProofs [-getElem?_pos, go_sem, t1], by simp -dsimp -implicitDefEqProofs [-getElem?_pos, go_sem, t3], by simp -dsimp -implicitDefEqProofs [-getElem?_pos, go_sem, t4], by simp -dsimp -implicitDefEqProofs [-getElem?_pos, go_sem], by simp -dsimp -implicitDefEqProofs [-getElem?_pos, go_sem], by simp -dsimp -implicitDefEqProofs [-getElem?_pos, go_sem], by simp -dsimp -implicitDefEqProofs [-getElem?_pos, go_sem, h0], by simp -dsimp -implicitDefEqProofs [-getElem?_pos, go_sem, ha], by simp -dsimp -implicitDefEqProofs [-getElem?_pos, go_sem, hb]⟩
  clear t1 t3 t4 h0 ha hb lt0 lta ltb
  intro m s hs'
  rw [hI] at hs'
  obtain ⟨k, xs, hk, hm, hxl, hxs, t1, t3, t4, t40, t41, t42, h0, ha, hb⟩ := hs'
  have lt0 := (List.getElem?_eq_some_iff.1 h0).1
  have lta := (List.getElem?_eq_some_iff.1 ha).1
  have ltb := (List.getElem?_eq_some_iff.1 hb).1
  simp -dsimp -implicitDefEqProofs [-getElem?_pos, go_sem, hP, t41, t42]
  refine condP (fun h => ?_) (fun h => ?_)
  · have hk : k < nI := by simpa using h
    obtain ⟨x, hx⟩ : ∃ x, c.Incomes[k]? = some x := ⟨_, List.getElem?_eq_getElem (by omega)⟩
    obtain ⟨v, hv⟩ : ∃ v, xs[k]? = some v := ⟨_, List.getElem?_eq_getElem (by omega)⟩
    have wk := wrap_in ((k : Int) + 1) (by omega)
    have rv := rowsI_get hv
    have rs := rowsI_set xs k x.Amount
    have rl := rowsI_len xs
    obtain ⟨rw', hrw⟩ : ∃ r, r = rowsI xs := ⟨_, rfl⟩
    rw [← hrw] at hb rv rs rl
    have nb0 : ¬ b = 0 := by omega
    have nba : ¬ b = a := fun e => nab e.symm
    simp -dsimp -implicitDefEqProofs [-getElem?_pos, go_sem, hP, t40, t42, hx, cIncm, t4, hb, ltb, rv, rl, hxl, hk, wk]
    refine ⟨nI - (k + 1), by omega, ?_⟩
    rw [hI]
    refine ⟨k + 1, xs.set k x.Amount, by omega, rfl, by simp [hxl], fun j y hj hy => ?_, by simp -dsimp -implicitDefEqProofs [-getElem?_pos, go_sem, t1], by simp -dsimp -implicitDefEqProofs [-getElem?_pos, go_sem, t3], by simp -dsimp -implicitDefEqProofs [-getElem?_pos, go_sem, t4], by simp -dsimp -implicitDefEqProofs [-getElem?_pos, go_sem, t40], by simp -dsimp -implicitDefEqProofs [-getElem?_pos, go_sem, t41], by simp -dsimp -implicitDefEqProofs [-getElem?_pos, go_sem], by simp -dsimp -implicitDefEqProofs [-getElem?_pos, go_sem, lt0, h0, nb0], by simp -dsimp -implicitDefEqProofs [-getElem?_pos, go_sem, lta, ha, nba], by simp -dsimp -implicitDefEqProofs [-getElem?_pos, go_sem, ltb, rs]⟩
    by_cases e : j = k
    · subst e
      rw [hx] at hy
      cases hy
      exact List.getElem?_set_self (by omega)
    · rw [List.getElem?_set_ne (fun h => e h.symm)]
      exact hxs j y (by omega) hy
  have hk : nI = k := by
    have : ¬ k < nI := by simpa using h
    omega
  subst hk
  have exs : xs = restL c [] := map_done (by omega) fun j x hj hx => by
    rw [hxs j x (by omega) hx]
    simp [usedS]
  subst exs
  clear hxs hxl hI h t40 t41 t42
  obtain ⟨nM, hnM⟩ : ∃ n, n = c.Matches.length := ⟨_, rfl⟩
  rw [← hnM] at hfm
  simp -dsimp -implicitDefEqProofs [-getElem?_pos, go_sem, hP, t1, h0, lt0, hO, ← hnM]
  -- the matches
  obtain ⟨I, hI⟩ : ∃ I : Nat → St → Prop, I = fun m s => ∃ (j : Nat), j ≤ nM ∧ m = nM - j ∧ (∀ (i : Nat) (q : TMatch), i < j → c.Matches[i]? = some q → fitsM c (c.Matches.take i) q) ∧ s.t 1 = .ref 0 0 0 ∧ s.t 3 = .sref a 0 nC ∧ s.t 4 = .sref b 0 nI ∧ s.t 54 = matchesL c.Matches ∧ s.t 55 = iv nM ∧ s.t 56 = iv j ∧ s.H[0]? = some (some O) ∧ s.H[a]? = some (some ⟨3, 1, rowsI (leftL c (c.Matches.take j))⟩) ∧ s.H[b]? = some (some ⟨3, 1, rowsI (restL c (c.Matches.take j))⟩) := ⟨_, rfl⟩
  refine aloop0 I (nM) (by rw [hN]; rfl) ?_ ?_
  · rw [hI]
    exact ⟨0, by omega, by omega, fun i q hj => by omega, by simp -dsimp -implicitDefEqProofs [-getElem?_pos, go_sem, t1], by simp -dsimp -implicitDefEqProofs [-getElem?_pos, go_sem, t3], by simp -dsimp -implicitDefEqProofs [-getElem?_pos, go_sem, t4], by simp -dsimp -implicitDefEqProofs [-getElem?_pos, go_sem], by simp -dsimp -implicitDefEqProofs [-getElem?_pos, go_sem], by simp -dsimp -implicitDefEqProofs [-getElem?_pos, go_sem], by simp -dsimp -implicitDefEqProofs [-getElem?_pos, go_sem, h0], by simp -dsimp -implicitDefEqProofs [-getElem?_pos, go_sem, ha], by simp -dsimp -implicitDefEqProofs [-getElem?_pos, go_sem, hb]⟩
  clear t1 t3 t4 h0 ha hb lt0 lta ltb
  intro m s hs'
  rw [hI] at hs'
  obtain ⟨j, hj, hm, hfits, t1, t3, t4, t54, t55, t56, h0, ha, hb⟩ := hs'
  have lt0 := (List.getElem?_eq_some_iff.1 h0).1
  have lta := (List.getElem?_eq_some_iff.1 ha).1
  have ltb := (List.getElem?_eq_some_iff.1 hb).1
  simp -dsimp -implicitDefEqProofs [-getElem?_pos, go_sem, hP, t55, t56]
  refine condP (fun h => ?_) (fun h => ?_)
  · have hj : j < nM := by simpa using h
    obtain ⟨q, hq⟩ : ∃ q, c.Matches[j]? = some q := ⟨_, List.getElem?_eq_getElem (by omega)⟩
    have wk := wrap_in ((j : Int) + 1) (by omega)
    obtain ⟨ms, hms⟩ : ∃ ms, ms = c.Matches.take j := ⟨_, rfl⟩
    rw [← hms] at ha hb
    have unfit : ¬ fitsM c ms q → R = false := fun h => bad fun hb => h (by rw [hms]; exact hb.fits hp hx hq)
    simp -dsimp -implicitDefEqProofs [-getElem?_pos, go_sem, hP, t54, t56, hq, cMtc]
    refine adrawB (fun _ => true) [] hP (by kernel_rfl) (by kernel_rfl) ?_
    simp -dsimp -implicitDefEqProofs [-getElem?_pos, go_sem, hP, t1, h0, lt0, hO]
    refine callB_pure (ia q.Income) hP en_49 (args_same (by simpa [imm_sc] using ic)) .sc ?_
    simp -dsimp -implicitDefEqProofs [-getElem?_pos, go_sem, hP, t1, h0, lt0, hO]
    refine callB_pure (ca q.Claim) hP en_41 (args_same (by simpa [imm_sc] using ic)) .sc ?_
    simp -dsimp -implicitDefEqProofs [-getElem?_pos, go_sem, hP]
    cases hi : incAt c.Incomes q.Income with
    | none =>
      have e := unfit (by rintro ⟨i, k, x, y, h1, _⟩; rw [hi] at h1; cases h1)
      simp -dsimp -implicitDefEqProofs [-getElem?_pos, go_sem, hP, hi, idxO, e]
      refine adrawB (fun _ => true) [] hP (by kernel_rfl) (by kernel_rfl) ?_
      simp -dsimp -implicitDefEqProofs [-getElem?_pos, go_sem, hP, e]
    | some i =>
    cases hk : payAt c.Claims q.Claim with
    | none =>
      have e := unfit (by rintro ⟨i, k, x, y, _, h1, _⟩; rw [hk] at h1; cases h1)
      have d1 : decide ((i : Int) < 0) = false := decide_eq_false (by omega)
      simp -dsimp -implicitDefEqProofs [-getElem?_pos, go_sem, hP, hi, hk, idxO, e, d1]
      refine adrawB (fun _ => true) [] hP (by kernel_rfl) (by kernel_rfl) ?_
      simp -dsimp -implicitDefEqProofs [-getElem?_pos, go_sem, hP, e, d1]
    | some k =>
    obtain ⟨x, hx1, hx2⟩ := payAt_some hk
    obtain ⟨y, hy1, hy2⟩ := incAt_some hi
    have ltk : k < nC := by have := (List.getElem?_eq_some_iff.1 hx1).1; omega
    have lti : i < nI := by have := (List.getElem?_eq_some_iff.1 hy1).1; omega
    have d1 : decide ((i : Int) < 0) = false := decide_eq_false (by omega)
    have d2 : decide ((k : Int) < 0) = false := decide_eq_false (by omega)
    have gx : (leftL c ms)[k]? = some (x.Amount - gotS ms x.ID) := by simp [leftL, hx1]
    have gy : (restL c ms)[i]? = some (y.Amount - usedS ms y.Number) := by simp [restL, hy1]
    have lx : (leftL c ms).length = nC := by simp [leftL, hnC]
    have ly : (restL c ms).length = nI := by simp [restL, hnI]
    have fit : fitsM c ms q ↔ y.Payer = x.Payer ∧ 0 < q.Amount ∧ q.Amount ≤ x.Amount - gotS ms x.ID ∧ q.Amount ≤ y.Amount - usedS ms y.Number := by
      constructor
      · rintro ⟨i', k', x', y', h1, h2, h3, h4, h5, h6, h7⟩
        rw [hi] at h1; cases h1
        rw [hk] at h2; cases h2
        rw [hx1] at h3; cases h3
        rw [hy1] at h4; cases h4
        exact h7
      · intro h
        exact ⟨i, k, x, y, hi, hk, hx1, hy1, hx2, hy2, h⟩
    have sx := leftL_snoc (ms := ms) pw.2 hx1 hx2
    have sy := restL_snoc (ms := ms) iw.2 hy1 hy2
    obtain ⟨L, hL⟩ : ∃ L, L = leftL c ms := ⟨_, rfl⟩
    obtain ⟨M, hM⟩ : ∃ M, M = restL c ms := ⟨_, rfl⟩
    obtain ⟨u, hu⟩ : ∃ u, u = x.Amount - gotS ms x.ID := ⟨_, rfl⟩
    obtain ⟨w, hw⟩ : ∃ w, w = y.Amount - usedS ms y.Number := ⟨_, rfl⟩
    rw [← hL, ← hu] at gx sx
    rw [← hM, ← hw] at gy sy
    rw [← hL] at ha lx
    rw [← hM] at hb ly
    rw [← hu, ← hw] at fit
    have rx := rowsI_get gx
    have ry := rowsI_get gy
    have rsx := rowsI_set L k (u - q.Amount)
    have rsy := rowsI_set M i (w - q.Amount)
    have rlx := rowsI_len L
    have rly := rowsI_len M
    obtain ⟨P, hP'⟩ : ∃ P, P = rowsI L := ⟨_, rfl⟩
    obtain ⟨Q, hQ'⟩ : ∃ Q, Q = rowsI M := ⟨_, rfl⟩
    rw [← hP'] at ha rx rsx rlx
    rw [← hQ'] at hb ry rsy rly
    simp -dsimp -implicitDefEqProofs [-getElem?_pos, go_sem, hP, hi, hk, idxO]
    refine adrawB (fun _ => true) [] hP (by kernel_rfl) (by kernel_rfl) ?_
    by_cases c1 : y.Payer = x.Payer
    rotate_left
    · have e := unfit fun h => c1 (fit.1 h).1
      simp -dsimp -implicitDefEqProofs [-getElem?_pos, go_sem, hP, t1, t3, t4, h0, hO, d1, d2, hx1, hy1, cClm, cIncm, c1, e, lt0]
    by_cases c2 : q.Amount ≤ 0
    · have e := unfit fun h => by have := (fit.1 h).2.1; omega
      simp -dsimp -implicitDefEqProofs [-getElem?_pos, go_sem, hP, t1, t3, t4, h0, hO, d1, d2, hx1, hy1, cClm, cIncm, c1, c2, e, lt0]
    by_cases c3 : u < q.Amount
    · have e := unfit fun h => by have := (fit.1 h).2.2.1; omega
      simp -dsimp -implicitDefEqProofs [-getElem?_pos, go_sem, hP, t1, t3, t4, h0, hO, d1, d2, hx1, hy1, cClm, cIncm, c1, c2, c3, e, lt0, ha, hb, lta, ltb, rx, ry, rlx, rly, lx, ly, ltk, lti]
    by_cases c4 : w < q.Amount
    · have e := unfit fun h => by have := (fit.1 h).2.2.2; omega
      simp -dsimp -implicitDefEqProofs [-getElem?_pos, go_sem, hP, t1, t3, t4, h0, hO, d1, d2, hx1, hy1, cClm, cIncm, c1, c2, c3, c4, e, lt0, ha, hb, lta, ltb, rx, ry, rlx, rly, lx, ly, ltk, lti]
    have fq : fitsM c ms q := fit.2 ⟨c1, by omega, by omega, by omega⟩
    simp -dsimp -implicitDefEqProofs [-getElem?_pos, go_sem, hP, t1, t3, t4, h0, hO, d1, d2, hx1, hy1, cClm, cIncm, c1, c2, c3, c4, lt0, ha, hb, lta, ltb, rx, ry, rlx, rly, lx, ly, ltk, lti]
    refine adrawB (fun id => decide (id = s.H.length)) [6, 7, 13, 14, 18, 20] hP (by kernel_rfl) (by kernel_rfl) ?_
    have posM : ∀ z, z ∈ ms → 0 < z.Amount := fun z hz => by
      rw [hms] at hz
      obtain ⟨i', hi'⟩ := List.getElem?_of_mem hz
      rw [List.getElem?_take] at hi'
      split at hi'
      · obtain ⟨_, _, _, _, _, _, _, _, _, _, _, h8, _⟩ := hfits i' z (by assumption) hi'
        exact h8
      · cases hi'
    have gpos := gotS_nonneg ms x.ID posM
    have upos := usedS_nonneg ms y.Number posM
    have xb := (payB_iff.1 (pw.1 x (List.mem_of_getElem? hx1)).1).2.2.1.2
    have yb := (incB_amount (iw.1 y (List.mem_of_getElem? hy1)).1).2
    have wa := wrap_in (u - q.Amount) (by omega)
    have wb := wrap_in (w - q.Amount) (by omega)
    have na0 : ¬ a = 0 := by omega
    have nb0 : ¬ b = 0 := by omega
    have nba : ¬ b = a := fun e => nab e.symm
    simp -dsimp -implicitDefEqProofs [-getElem?_pos, go_sem, hP, t1, t3, t4, h0, hO, hx1, hy1, lt0, ha, hb, lta, ltb, rx, ry, rlx, rly, lx, ly, ltk, lti, nab, nba, na0, nb0, wa, wb, t56, wk, restr_get]
    refine ⟨agree_setA (decide_eq_false (by omega)), agree_setA (decide_eq_false (by omega)), ?_⟩
    refine ⟨nM - (j + 1), by omega, ?_⟩
    rw [hI]
    refine ⟨j + 1, by omega, rfl, fun i' q' hi' hq' => ?_, by simp -dsimp -implicitDefEqProofs [-getElem?_pos, go_sem, t1], by simp -dsimp -implicitDefEqProofs [-getElem?_pos, go_sem, t3], by simp -dsimp -implicitDefEqProofs [-getElem?_pos, go_sem, t4], by simp -dsimp -implicitDefEqProofs [-getElem?_pos, go_sem, t54], by simp -dsimp -implicitDefEqProofs [-getElem?_pos, go_sem, t55], by simp -dsimp -implicitDefEqProofs [-getElem?_pos, go_sem], by simp -dsimp -implicitDefEqProofs [-getElem?_pos, go_sem, lt0, h0, na0, nb0], ?_, ?_⟩
    · by_cases e : i' = j
      · subst e
        rw [hq] at hq'
        cases hq'
        rw [← hms]
        exact fq
      · exact hfits i' q' (by omega) hq'
    · rw [take_snoc hq, ← hms, sx]
      simp -dsimp -implicitDefEqProofs [-getElem?_pos, go_sem, lta, nba, rsx]
    · rw [take_snoc hq, ← hms, sy]
      simp -dsimp -implicitDefEqProofs [-getElem?_pos, go_sem, ltb, nab, rsy]
  have hj : nM = j := by
    have : ¬ j < nM := by simpa using h
    omega
  subst hj
  rw [hnM, List.take_length] at ha hb
  have hfits : ∀ (i : Nat) (q : TMatch), c.Matches[i]? = some q → fitsM c (c.Matches.take i) q := fun i q hq => hfits i q (by rw [hnM]; exact (List.getElem?_eq_some_iff.1 hq).1) hq
  clear hI h t54 t55 t56
  have lx : (leftL c c.Matches).length = nC := by simp [leftL, hnC]
  have ly : (restL c c.Matches).length = nI := by simp [restL, hnI]
  have gx : ∀ (k : Nat) x, c.Claims[k]? = some x → (leftL c c.Matches)[k]? = some (x.Amount - gotS c.Matches x.ID) := fun k x h => by simp [leftL, h]
  have gy : ∀ (k : Nat) y, c.Incomes[k]? = some y → (restL c c.Matches)[k]? = some (y.Amount - usedS c.Matches y.Number) := fun k x h => by simp [restL, h]
  obtain ⟨L, hL⟩ : ∃ L, L = leftL c c.Matches := ⟨_, rfl⟩
  obtain ⟨M, hM⟩ : ∃ M, M = restL c c.Matches := ⟨_, rfl⟩
  rw [← hL] at ha lx gx
  rw [← hM] at hb ly gy
  have rlx := rowsI_len L
  have rly := rowsI_len M
  simp -dsimp -implicitDefEqProofs [-getElem?_pos, go_sem, hP, t1, h0, lt0, hO, ← hnC]
  -- what is open
  obtain ⟨I, hI⟩ : ∃ I : Nat → St → Prop, I = fun m s => ∃ (k : Nat), k ≤ nC ∧ m = nC - k ∧ (∀ (i : Nat) (x : TClaim), i < k → c.Claims[i]? = some x → x.Amount - gotS c.Matches x.ID = x.Open) ∧ s.t 1 = .ref 0 0 0 ∧ s.t 3 = .sref a 0 nC ∧ s.t 4 = .sref b 0 nI ∧ s.t 134 = claimsL c.Claims ∧ s.t 135 = iv nC ∧ s.t 136 = iv k ∧ s.H[0]? = some (some O) ∧ s.H[a]? = some (some ⟨3, 1, rowsI L⟩) ∧ s.H[b]? = some (some ⟨3, 1, rowsI M⟩) := ⟨_, rfl⟩
  refine aloop0 I (nC) (by rw [hN]; rfl) ?_ ?_
  · rw [hI]
    exact ⟨0, by omega, by omega, fun i x hj => by omega, by simp -dsimp -implicitDefEqProofs [-getElem?_pos, go_sem, t1], by simp -dsimp -implicitDefEqProofs [-getElem?_pos, go_sem, t3], by simp -dsimp -implicitDefEqProofs [-getElem?_pos, go_sem, t4], by simp -dsimp -implicitDefEqProofs [-getElem?_pos, go_sem], by simp -dsimp -implicitDefEqProofs [-getElem?_pos, go_sem], by simp -dsimp -implicitDefEqProofs [-getElem?_pos, go_sem], by simp -dsimp -implicitDefEqProofs [-getElem?_pos, go_sem, h0], by simp -dsimp -implicitDefEqProofs [-getElem?_pos, go_sem, ha], by simp -dsimp -implicitDefEqProofs [-getElem?_pos, go_sem, hb]⟩
  clear t1 t3 t4 h0 ha hb lt0 lta ltb
  intro m s hs'
  rw [hI] at hs'
  obtain ⟨k, hk, hm, hopen, t1, t3, t4, t134, t135, t136, h0, ha, hb⟩ := hs'
  have lt0 := (List.getElem?_eq_some_iff.1 h0).1
  have lta := (List.getElem?_eq_some_iff.1 ha).1
  have ltb := (List.getElem?_eq_some_iff.1 hb).1
  simp -dsimp -implicitDefEqProofs [-getElem?_pos, go_sem, hP, t135, t136]
  refine condP (fun h => ?_) (fun h => ?_)
  · have hk : k < nC := by simpa using h
    obtain ⟨x, hx1⟩ : ∃ x, c.Claims[k]? = some x := ⟨_, List.getElem?_eq_getElem (by omega)⟩
    have rv := rowsI_get (gx k x hx1)
    have wk := wrap_in ((k : Int) + 1) (by omega)
    simp -dsimp -implicitDefEqProofs [-getElem?_pos, go_sem, hP, t134, t136, hx1, cClm]
    refine adrawB (fun _ => true) [] hP (by kernel_rfl) (by kernel_rfl) ?_
    by_cases c1 : x.Amount - gotS c.Matches x.ID = x.Open
    · simp -dsimp -implicitDefEqProofs [-getElem?_pos, go_sem, hP, t3, ha, lta, rv, rlx, lx, hk, c1, t136, wk]
      refine ⟨nC - (k + 1), by omega, ?_⟩
      rw [hI]
      refine ⟨k + 1, by omega, rfl, fun i x' hi hx' => ?_, by simp -dsimp -implicitDefEqProofs [-getElem?_pos, go_sem, t1], by simp -dsimp -implicitDefEqProofs [-getElem?_pos, go_sem, t3], by simp -dsimp -implicitDefEqProofs [-getElem?_pos, go_sem, t4], by simp -dsimp -implicitDefEqProofs [-getElem?_pos, go_sem, t134], by simp -dsimp -implicitDefEqProofs [-getElem?_pos, go_sem, t135], by simp -dsimp -implicitDefEqProofs [-getElem?_pos, go_sem], by simp -dsimp -implicitDefEqProofs [-getElem?_pos, go_sem, lt0, h0], by simp -dsimp -implicitDefEqProofs [-getElem?_pos, go_sem, lta, ha], by simp -dsimp -implicitDefEqProofs [-getElem?_pos, go_sem, ltb, hb]⟩
      by_cases e : i = k
      · subst e
        rw [hx1] at hx'
        cases hx'
        exact c1
      · exact hopen i x' (by omega) hx'
    · have e : R = false := bad fun hb => by
        have := hb.got x (List.mem_of_getElem? hx1)
        omega
      simp -dsimp -implicitDefEqProofs [-getElem?_pos, go_sem, hP, t3, ha, lta, rv, rlx, lx, hk, c1, e]
  have hk : nC = k := by
    have : ¬ k < nC := by simpa using h
    omega
  subst hk
  clear hI h t134 t135 t136
  obtain ⟨ls, hls⟩ : ∃ ls, ls = c.Loose := ⟨_, rfl⟩
  rw [← hls] at hO hl hfl
  simp -dsimp -implicitDefEqProofs [-getElem?_pos, go_sem, hP, t1, h0, lt0, hO, hl]
  -- what is loose
  obtain ⟨I, hI⟩ : ∃ I : Nat → St → Prop, I = fun m s => ∃ (k : Nat), k ≤ nI ∧ m = nI - k ∧ (∀ (i : Nat) (y : TIncome) (lo : Int), i < k → c.Incomes[i]? = some y → ls[i]? = some lo → 0 ≤ lo ∧ lo ≤ y.Amount - usedS c.Matches y.Number) ∧ s.t 4 = .sref b 0 nI ∧ s.t 150 = .list 1 (encL encI ls) ∧ s.t 151 = iv nI ∧ s.t 152 = iv k ∧ s.H[b]? = some (some ⟨3, 1, rowsI M⟩) := ⟨_, rfl⟩
  refine aloop0 I (nI) (by rw [hN]; rfl) ?_ ?_
  · rw [hI]
    exact ⟨0, by omega, by omega, fun i x lo hj => by omega, by simp -dsimp -implicitDefEqProofs [-getElem?_pos, go_sem, t4], by simp -dsimp -implicitDefEqProofs [-getElem?_pos, go_sem], by simp -dsimp -implicitDefEqProofs [-getElem?_pos, go_sem], by simp -dsimp -implicitDefEqProofs [-getElem?_pos, go_sem], by simp -dsimp -implicitDefEqProofs [-getElem?_pos, go_sem, hb]⟩
  clear t1 t3 t4 h0 ha hb lt0 lta ltb
  intro m s hs'
  rw [hI] at hs'
  obtain ⟨k, hk, hm, hloose, t4, t150, t151, t152, hb⟩ := hs'
  have ltb := (List.getElem?_eq_some_iff.1 hb).1
  simp -dsimp -implicitDefEqProofs [-getElem?_pos, go_sem, hP, t151, t152]
  refine condP (fun h => ?_) (fun h => ?_)
  · have hk : k < nI := by simpa using h
    obtain ⟨y, hy1⟩ : ∃ y, c.Incomes[k]? = some y := ⟨_, List.getElem?_eq_getElem (by omega)⟩
    obtain ⟨lo, hlo⟩ : ∃ lo, ls[k]? = some lo := ⟨_, List.getElem?_eq_getElem (by omega)⟩
    have rv := rowsI_get (gy k y hy1)
    have wk := wrap_in ((k : Int) + 1) (by omega)
    by_cases c1 : lo < 0
    · have e : R = false := bad fun hb => by
        have := (hb.used k y lo hy1 (by rw [← hls]; exact hlo)).1
        omega
      simp -dsimp -implicitDefEqProofs [-getElem?_pos, go_sem, hP, t150, t152, hlo, encI, c1, e]
    by_cases c2 : y.Amount - usedS c.Matches y.Number < lo
    · have e : R = false := bad fun hb => by
        have := (hb.used k y lo hy1 (by rw [← hls]; exact hlo)).2
        omega
      simp -dsimp -implicitDefEqProofs [-getElem?_pos, go_sem, hP, t150, t152, hlo, encI, c1, c2, t4, hb, ltb, rv, rly, ly, hk, e]
    simp -dsimp -implicitDefEqProofs [-getElem?_pos, go_sem, hP, t150, t152, hlo, encI, c1, c2, t4, hb, ltb, rv, rly, ly, hk, wk]
    refine ⟨nI - (k + 1), by omega, ?_⟩
    rw [hI]
    refine ⟨k + 1, by omega, rfl, fun i y' lo' hi hy' hlo' => ?_, by simp -dsimp -implicitDefEqProofs [-getElem?_pos, go_sem, t4], by simp -dsimp -implicitDefEqProofs [-getElem?_pos, go_sem, t150], by simp -dsimp -implicitDefEqProofs [-getElem?_pos, go_sem, t151], by simp -dsimp -implicitDefEqProofs [-getElem?_pos, go_sem], by simp -dsimp -implicitDefEqProofs [-getElem?_pos, go_sem, hb]⟩
    by_cases e : i = k
    · subst e
      rw [hy1] at hy'
      cases hy'
      rw [hlo] at hlo'
      cases hlo'
      omega
    · exact hloose i y' lo' (by omega) hy' hlo'
  have hk : nI = k := by
    have : ¬ k < nI := by simpa using h
    omega
  subst hk
  have e : R = true := by
    rw [hR, booksB_iff]
    refine Books.ofFits (by rw [← hls]; omega) (fun j q hq => hfits j q hq) (fun x hx => ?_) fun i y lo hy hlo => hloose i y lo ?_ hy (by rw [hls]; exact hlo)
    · obtain ⟨k, hk⟩ := List.getElem?_of_mem hx
      exact hopen k x (by have := (List.getElem?_eq_some_iff.1 hk).1; omega) hk
    · have := (List.getElem?_eq_some_iff.1 hy).1
      omega
  simp -dsimp -implicitDefEqProofs [-getElem?_pos, go_sem, hP, e]
end Go.Proofs.YtgapbmaehfdkoaaGreatDoor
