/- Receipts: a claim is added, by the program. -/
import Derived.Test.YtgapbmaehfdkoaaGreatDoorCash14
set_option linter.unusedSimpArgs false
set_option linter.unusedVariables false
namespace Go.Proofs.YtgapbmaehfdkoaaGreatDoor
open Go.PA
open Go.RowKit

/-- The state in which a claim is counted. -/
def TA (O1 O2 : AObj) (q p nI b : Nat) (d : TCash) (s : St) : Prop := s.t 3 = .ref 1 0 0 ∧ s.t 4 = .ref 2 0 0 ∧ s.t 7 = iv q ∧ s.t 9 = .ref p 0 0 ∧ s.H[1]? = some (some O1) ∧ s.H[2]? = some (some O2) ∧ 3 ≤ p ∧ ∃ A D F, HC 3 s.H p d A (.sref b 0 nI) D F
set_option maxHeartbeats 8000000 in
set_option maxRecDepth 8000 in
theorem cadd_pf (c : TCash) (x : TClaim) (hf : FitC c) (hxc : x.Code.size ≤ 1000000) : PFun Tryz.prog none none 31 [.agg c.cells, .agg x.cells] (· = .tup [.agg (addD c x).1.cells, iv (addD c x).2]) := by
  refine pfun_introA Tryz.func31 rfl (by simp [Tryz.f31]) ?_
  intro E hP hr hs hW hN
  have ck := ccheck_pf c hf
  have ic := imm_agg.2 c.imm
  have ix := imm_agg.2 x.imm
  have px := cclaim_pf x hxc
  have ip := imm_claims c.Claims
  rw [cCsh] at ck ic
  rw [cClm] at px ix
  obtain ⟨Q, hQ⟩ : ∃ Q : AV → Prop, Q = (· = .tup [.agg (addD c x).1.cells, iv (addD c x).2]) := ⟨_, rfl⟩
  rw [← hQ]
  obtain ⟨R, hR⟩ : ∃ R, R = addD c x := ⟨_, rfl⟩
  rw [← hR] at hQ
  rw [addD] at hR
  have hfc := hf.fc
  have hfi := hf.fi
  have hfm := hf.fm
  have hfl := hf.fl
  obtain ⟨O0, hO0⟩ : ∃ O : AObj, O = ⟨29, 4, [[claimsL c.Claims, incomesL c.Incomes, matchesL c.Matches, .list 1 (encL encI c.Loose)]]⟩ := ⟨_, rfl⟩
  obtain ⟨O1, hO1⟩ : ∃ O : AObj, O = ⟨38, 6, [[iv x.ID, iv x.Payer, iv x.Amount, iv x.Open, iv x.Day, .sc (.string x.Code)]]⟩ := ⟨_, rfl⟩
  obtain ⟨O2, hO2⟩ : ∃ O : AObj, O = ⟨29, 4, [[.nil, .nil, .nil, .nil]]⟩ := ⟨_, rfl⟩
  obtain ⟨nI, hnI⟩ : ∃ n, n = c.Incomes.length := ⟨_, rfl⟩
  refine awp_cut (by rw [hN]; kernel_rfl) ?_
  simp -dsimp -implicitDefEqProofs [-getElem?_pos, go_sem, hP, cCsh, cClm]
  simp only [← hO0, ← hO1, ← hO2]
  refine awp_cut (by rw [hN]; kernel_rfl) ?_
  simp -dsimp -implicitDefEqProofs [-getElem?_pos, go_sem, hP, hO0]
  refine callB_pure ck hP en_15 (args_same (by simpa using ic)) .sc ?_
  by_cases c1 : cashE c = 0
  rotate_left
  · rw [if_neg c1] at hR
    simp -dsimp -implicitDefEqProofs [-getElem?_pos, go_sem, hP, c1, hO2]
    refine done_noCash ?_
    rw [hQ, hR]
  rw [if_pos c1] at hR
  have ok := (cashE_ok.1 c1).2
  have sizes := (cashE_ok.1 c1).1
  simp -dsimp -implicitDefEqProofs [-getElem?_pos, go_sem, hP, c1]
  have bs := bsfClm_pf c.Claims x.ID (by omega) ok.pays.2
  obtain ⟨q, hq⟩ : ∃ q, q = insAt c.Claims x.ID := ⟨_, rfl⟩
  have hql : q ≤ c.Claims.length := by rw [hq]; exact insAt_le _ _
  rw [← hq] at bs
  refine awp_cut (by rw [hN]; kernel_rfl) ?_
  simp -dsimp -implicitDefEqProofs [-getElem?_pos, go_sem, hP, hO0, hO1]
  refine callB_is (bs.lift _ _) hP en_62 (by simp [imm_sc, imm_fn, ip]) (imm_pair .sc .sc) ?_
  simp -dsimp -implicitDefEqProofs [-getElem?_pos, go_sem, hP]
  refine awp_cut (by rw [hN]; kernel_rfl) ?_
  simp -dsimp -implicitDefEqProofs [-getElem?_pos, go_sem, hP, hO1]
  refine callB_pure px hP en_29 (args_same (by simpa using ix)) .sc ?_
  cases c2 : payB x
  · rw [c2, Bool.false_and, Bool.false_and, if_neg (by simp)] at hR
    simp -dsimp -implicitDefEqProofs [-getElem?_pos, go_sem, hP, hO1, hO2]
    refine done_noCash ?_
    rw [hQ, hR]
  rw [c2, Bool.true_and] at hR
  by_cases c3 : x.Open = x.Amount
  rotate_left
  · rw [decide_eq_false c3, Bool.false_and, if_neg (by simp)] at hR
    simp -dsimp -implicitDefEqProofs [-getElem?_pos, go_sem, hP, hO1, hO2, c3]
    refine done_noCash ?_
    rw [hQ, hR]
  rw [decide_eq_true c3, Bool.true_and] at hR
  have e3 : (x.Open = x.Amount) = True := eq_true c3
  cases c4 : payAt c.Claims x.ID with
  | some k =>
    rw [c4, if_neg (by simp)] at hR
    simp -dsimp -implicitDefEqProofs [-getElem?_pos, go_sem, hP, hO1, hO2, e3]
    refine done_noCash ?_
    rw [hQ, hR]
  | none =>
  rw [c4, if_pos (by simp)] at hR
  by_cases c5 : c.Claims.length < 60
  rotate_left
  · have le : c.Claims.length = 60 := by omega
    rw [if_neg c5] at hR
    simp -dsimp -implicitDefEqProofs [-getElem?_pos, go_sem, hP, hO0, hO1, hO2, e3, le]
    refine done_noCash ?_
    rw [hQ, hR]
  rw [if_pos c5] at hR
  have d5 : decide ((c.Claims.length : Int) = 60) = false := decide_eq_false (by omega)
  have n5 : ¬ c.Claims.length = 60 := by omega
  have xb := payB_iff.1 c2
  simp -dsimp -implicitDefEqProofs [-getElem?_pos, go_sem, hP, hO0, hO1, e3, d5, n5]
  -- copies
  obtain ⟨H0, hH0⟩ : ∃ H0 : Heap, H0 = [some O0, some O1, some O2] := ⟨_, rfl⟩
  have cp := copied_c (row := E.row) (src := E.src) c H0 hf
  have l0 : H0.length = 3 := by rw [hH0]; rfl
  rw [cCsh, l0] at cp
  refine awp_cut (by rw [hN]; kernel_rfl) ?_
  simp -dsimp -implicitDefEqProofs [-getElem?_pos, go_sem, hP, hO0]
  rw [hO0, hO1, hO2] at hH0
  simp only [hO2, ← hH0]
  refine callB_m cp hP en_40 ?_
  rintro r H1 ⟨p, A, B, D, F, rfl, hp3, hc, hk⟩
  have g0 := hk 0 O0 (by simp) (by rw [hH0, hO0]; rfl)
  have g1 := hk 1 O1 (by simp) (by rw [hH0, hO1]; rfl)
  have g2 := hk 2 O2 (by simp) (by rw [hH0, hO2]; rfl)
  have lt0 := (List.getElem?_eq_some_iff.1 g0).1
  have lt1 := (List.getElem?_eq_some_iff.1 g1).1
  have lt2 := (List.getElem?_eq_some_iff.1 g2).1
  have ho := hc.obj
  have lto := (List.getElem?_eq_some_iff.1 ho).1
  obtain ⟨a, na, hA, ha⟩ := hc.a
  have hlen := hc.len
  have insm := insert_m_clm (row := E.row) (src := E.src) (encL TClaim.cells c.Claims) [iv x.ID, iv x.Payer, iv x.Amount, iv x.Open, iv x.Day, .sc (.string x.Code)] q a H1 (by rw [encL_len]; exact hql) (by rw [encL_len]; omega) ha (by simp)
  have wr := withC_rows c x
  have wl := withC_len c x
  rw [← hq] at wr
  rw [wr] at insm
  have lA := encL_len TClaim.cells c.Claims
  rw [lA] at insm hA
  subst hA
  obtain ⟨InvB, hInvB⟩ : ∃ Inv : St → Prop, Inv = fun s => ∃ b, TA O1 O2 q p nI b (withC c x) s := ⟨_, rfl⟩
  simp -dsimp -implicitDefEqProofs [-getElem?_pos, go_sem, hP]
  refine awp_join InvB (by rw [hN]; kernel_rfl) ?_ ?_
  · simp -dsimp -implicitDefEqProofs [-getElem?_pos, go_sem, hP]
    have hD : ∀ i, (decide (i = p) || decide (i < 3)) = true → ¬ a = i ∧ ∃ o, H1[i]? = some (some o) := fun i hi => by
      simp only [Bool.or_eq_true, decide_eq_true_eq] at hi
      rcases hi with rfl | hi
      · exact ⟨obj_ne ha ho (by simp), _, ho⟩
      · refine ⟨by omega, ?_⟩
        match i, hi with
        | 0, _ => exact ⟨_, g0⟩
        | 1, _ => exact ⟨_, g1⟩
        | 2, _ => exact ⟨_, g2⟩
    refine adrawB (fun i => decide (i = p) || decide (i < 3)) [11] hP (by kernel_rfl) (by kernel_rfl) ?_
    simp -dsimp -implicitDefEqProofs [-getElem?_pos, go_sem, hP, restr_get, ho, lto, g1, lt1, hO1]
    refine callB_m insm hP en_65 ?_
    rintro r H2 ⟨jd, rfl, hjd, hoj, hk2⟩
    have ho2 := hk2 p _ (by simp; exact fun e => (hD p (by simp)).1 e.symm) ho
    have g1' := hk2 1 _ (by simp; omega) g1
    have g2' := hk2 2 _ (by simp; omega) g2
    have lto2 := (List.getElem?_eq_some_iff.1 ho2).1
    have agr : Agree (fun i => decide (i = p) || decide (i < 3)) H1 H2 := fun i hi => by
      obtain ⟨h1, o, ho⟩ := hD i hi
      rw [ho, hk2 i o (by simp; exact fun e => h1 e.symm) ho]
    refine ⟨fun _ => agr, ?_⟩
    simp -dsimp -implicitDefEqProofs [-getElem?_pos, go_sem, hP, ho2, lto2]
    refine ⟨_, Weaker.refl _, ?_⟩
    rw [hInvB]
    obtain ⟨b, nb, hB, hb⟩ := hc.b
    obtain ⟨d, nd, hD', hd⟩ := hc.d
    obtain ⟨f, nf, hF, hf'⟩ := hc.f
    have kb : ∀ {i : Nat} {o : AObj}, H1[i]? = some (some o) → ¬ o.ty = 38 → H2[i]? = some (some o) := fun h ht => hk2 _ _ (by simp; exact obj_ne h ha ht) h
    have np : ∀ {i : Nat} {o : AObj}, H2[i]? = some (some o) → ¬ o.ty = 29 → ¬ p = i := fun h ht => obj_ne ho2 h (fun e => ht e.symm)
    refine ⟨b, by simp -dsimp -implicitDefEqProofs [-getElem?_pos, go_sem], by simp -dsimp -implicitDefEqProofs [-getElem?_pos, go_sem], by simp -dsimp -implicitDefEqProofs [-getElem?_pos, go_sem], by simp -dsimp -implicitDefEqProofs [-getElem?_pos, go_sem], ?_, ?_, hp3, .sref jd 0 (c.Claims.length + 1), D, F, ?_, ?_, ?_, ?_, ?_, ?_⟩
    · simp -dsimp -implicitDefEqProofs [-getElem?_pos, go_sem, hP]
      rw [List.getElem?_set_ne (by omega)]
      exact g1'
    · simp -dsimp -implicitDefEqProofs [-getElem?_pos, go_sem, hP]
      rw [List.getElem?_set_ne (by omega)]
      exact g2'
    · simp -dsimp -implicitDefEqProofs [-getElem?_pos, go_sem, hP]
      omega
    · simp -dsimp -implicitDefEqProofs [-getElem?_pos, go_sem, hP]
      rw [List.getElem?_set_self lto2, hB, encL_len, hnI]
    · refine ⟨jd, ?_, ?_, ?_⟩
      · rcases hjd with h | h <;> omega
      · rw [encL_len, wl]
      · simp -dsimp -implicitDefEqProofs [-getElem?_pos, go_sem, hP]
        rw [List.getElem?_set_ne (np hoj (by simp))]
        exact hoj
    · refine ⟨b, nb, ?_, ?_⟩
      · rw [encL_len]
        rw [hnI]
        rfl
      · simp -dsimp -implicitDefEqProofs [-getElem?_pos, go_sem, hP]
        rw [List.getElem?_set_ne (np (kb hb (by simp)) (by simp))]
        exact kb hb (by simp)
    · refine ⟨d, nd, hD', ?_⟩
      simp -dsimp -implicitDefEqProofs [-getElem?_pos, go_sem, hP]
      rw [List.getElem?_set_ne (np (kb hd (by simp)) (by simp))]
      exact kb hd (by simp)
    · refine ⟨f, nf, hF, ?_⟩
      simp -dsimp -implicitDefEqProofs [-getElem?_pos, go_sem, hP]
      rw [List.getElem?_set_ne (np (kb hf' (by simp)) (by simp))]
      exact kb hf' (by simp)
  intro s hs'
  rw [hInvB] at hs'
  obtain ⟨b, hs'⟩ := hs'
  clear hInvB InvB hk hc ho lto ha insm wr na g0 g1 g2 lt0 lt1 lt2 hlen
  have xo : 0 ≤ x.Open := by omega
  obtain ⟨InvC, hInvC⟩ : ∃ Inv : St → Prop, Inv = fun s => ∃ b, TA O1 O2 q p nI b (added c x) s := ⟨_, rfl⟩
  have ha0 : added c x = meetI (withC c x) (ofP c x.Payer nI) q := by rw [hq, hnI]; rfl
  refine awp_join InvC (by rw [hN]; kernel_rfl) ?_ ?_
  · obtain ⟨t3, t4, t7, t9, h1, h2, _, A, D, F, hc⟩ := hs'
    have ho := hc.obj
    have lto := (List.getElem?_eq_some_iff.1 ho).1
    obtain ⟨b', nb, hB, hb⟩ := hc.b
    have eb : b = b' := by injection hB
    subst eb
    have ltb := (List.getElem?_eq_some_iff.1 hb).1
    have lb : (encL TIncome.cells (withC c x).Incomes).length = nI := by rw [encL_len, hnI]; rfl
    simp -dsimp -implicitDefEqProofs [-getElem?_pos, go_sem, hP, t9, ho, lto, hb, ltb, lb]
    obtain ⟨I, hI⟩ : ∃ I : Nat → St → Prop, I = fun m s => ∃ (j : Nat), j ≤ nI ∧ m = nI - j ∧ s.t 63 = .sref b 0 nI ∧ s.t 64 = iv nI ∧ s.t 65 = iv j ∧ TA O1 O2 q p nI b (meetI (withC c x) (ofP c x.Payer j) q) s := ⟨_, rfl⟩
    refine aloop0 I (nI) (by rw [hN]; rfl) ?_ ?_
    · rw [hI]
      exact ⟨0, by omega, by omega, by simp -dsimp -implicitDefEqProofs [-getElem?_pos, go_sem], by simp -dsimp -implicitDefEqProofs [-getElem?_pos, go_sem], by simp -dsimp -implicitDefEqProofs [-getElem?_pos, go_sem], by simp -dsimp -implicitDefEqProofs [-getElem?_pos, go_sem, t3], by simp -dsimp -implicitDefEqProofs [-getElem?_pos, go_sem, t4], by simp -dsimp -implicitDefEqProofs [-getElem?_pos, go_sem, t7], by simp -dsimp -implicitDefEqProofs [-getElem?_pos, go_sem, t9], h1, h2, hp3, A, D, F, hc⟩
    clear t3 t4 t7 t9 h1 h2 hc ho lto hb ltb
    intro m s hs'
    rw [hI] at hs'
    obtain ⟨j, hj, hm, t63, t64, t65, ts⟩ := hs'
    simp -dsimp -implicitDefEqProofs [-getElem?_pos, go_sem, hP, t64, t65]
    refine condP (fun h => ?_) (fun h => ?_)
    · have hj : j < nI := by simpa using h
      obtain ⟨d, hd⟩ : ∃ d, d = meetI (withC c x) (ofP c x.Payer j) q := ⟨_, rfl⟩
      have gd : GoodA c x d := by rw [hd]; exact GoodA.meetI c1 xo _ _
      rw [← hd] at ts
      obtain ⟨t3, t4, t7, t9, h1, h2, _, A, D, F, hc⟩ := ts
      have lt1 := (List.getElem?_eq_some_iff.1 h1).1
      obtain ⟨b', nb, hB, hb⟩ := hc.b
      have eb : b = b' := by injection hB
      subst eb
      have ltb := (List.getElem?_eq_some_iff.1 hb).1
      have dinc : d.Incomes = c.Incomes := gd.fall.inc
      obtain ⟨y, hy⟩ : ∃ y, c.Incomes[j]? = some y := ⟨_, List.getElem?_eq_getElem (by omega)⟩
      have ry := rowsN_get (show d.Incomes[j]? = some y by rw [dinc]; exact hy)
      have lb : (encL TIncome.cells d.Incomes).length = nI := by rw [encL_len, hnI, dinc]
      have wj := wrap_in ((j : Int) + 1) (by omega)
      obtain ⟨PB, hPB⟩ : ∃ P, P = encL TIncome.cells d.Incomes := ⟨_, rfl⟩
      rw [← hPB] at hb ry lb
      have eo := ofP_snoc (c := c) (p := x.Payer) hy
      by_cases e1 : y.Payer = x.Payer
      · rw [if_pos e1] at eo
        have hyj : d.Incomes[j]? = some y := by rw [dinc]; exact hy
        obtain ⟨z, hz⟩ := gd.at
        rw [← hq] at hz
        obtain ⟨lo, hlo, lo1, lo2⟩ := gd.lo c1 (by rw [← hnI]; exact hj)
        have mm := cmatch_m (row := E.row) (src := E.src) (hc.app (l := [some ⟨32, 5, [[iv y.Number, iv y.Day, iv y.Payer, iv y.Amount, iv y.Claim]]⟩])) (i := j) (k := q) hlo hz hyj ⟨lo1, lo2⟩ (gd.cl c1 c2 hz) (by have := gd.len; omega)
        simp -dsimp -implicitDefEqProofs [-getElem?_pos, go_sem, hP, t63, t65, hb, ltb, ry, lb, hj, t3, h1, lt1, hO1, e1, t9, t7]
        rw [e1] at mm
        refine callB_m mm hP en_42 ?_
        rintro r H' ⟨⟨D', hc'⟩, hkk⟩
        simp -dsimp -implicitDefEqProofs [-getElem?_pos, go_sem, hP, t65, wj]
        refine ⟨nI - (j + 1), by omega, ?_⟩
        rw [hI]
        refine ⟨j + 1, by omega, rfl, by simp -dsimp -implicitDefEqProofs [-getElem?_pos, go_sem, t63], by simp -dsimp -implicitDefEqProofs [-getElem?_pos, go_sem, t64], by simp -dsimp -implicitDefEqProofs [-getElem?_pos, go_sem], ?_⟩
        rw [eo, meetI_snoc, ← hd]
        have q1 := hkk 1 O1 (by omega) (by omega) (by rw [List.getElem?_append_left lt1]; exact h1)
        have q2 := hkk 2 O2 (by omega) (by omega) (by rw [List.getElem?_append_left (List.getElem?_eq_some_iff.1 h2).1]; exact h2)
        exact ⟨by simp -dsimp -implicitDefEqProofs [-getElem?_pos, go_sem, t3], by simp -dsimp -implicitDefEqProofs [-getElem?_pos, go_sem, t4], by simp -dsimp -implicitDefEqProofs [-getElem?_pos, go_sem, t7], by simp -dsimp -implicitDefEqProofs [-getElem?_pos, go_sem, t9], q1, q2, hp3, A, D', F, hc'⟩
      · rw [if_neg e1] at eo
        simp -dsimp -implicitDefEqProofs [-getElem?_pos, go_sem, hP, t63, t65, hb, ltb, ry, lb, hj, t3, h1, lt1, hO1, e1, wj]
        refine ⟨nI - (j + 1), by omega, ?_⟩
        rw [hI]
        refine ⟨j + 1, by omega, rfl, by simp -dsimp -implicitDefEqProofs [-getElem?_pos, go_sem, t63], by simp -dsimp -implicitDefEqProofs [-getElem?_pos, go_sem, t64], by simp -dsimp -implicitDefEqProofs [-getElem?_pos, go_sem], ?_⟩
        rw [eo, ← hd]
        exact ⟨by simp -dsimp -implicitDefEqProofs [-getElem?_pos, go_sem, t3], by simp -dsimp -implicitDefEqProofs [-getElem?_pos, go_sem, t4], by simp -dsimp -implicitDefEqProofs [-getElem?_pos, go_sem, t7], by simp -dsimp -implicitDefEqProofs [-getElem?_pos, go_sem, t9], by simp -dsimp -implicitDefEqProofs [-getElem?_pos, go_sem, lt1, h1], by simp -dsimp -implicitDefEqProofs [-getElem?_pos, go_sem, (List.getElem?_eq_some_iff.1 h2).1, h2], hp3, A, D, F, hc.app⟩
    · have hj : nI = j := by
        have : ¬ j < nI := by simpa using h
        omega
      subst hj
      simp -dsimp -implicitDefEqProofs [-getElem?_pos, go_sem, hP]
      refine ⟨_, Weaker.refl _, ?_⟩
      rw [hInvC, ha0]
      exact ⟨b, ts⟩
  clear hs' s
  intro s hs'
  rw [hInvC] at hs'
  obtain ⟨b, t3, t4, t7, t9, h1, h2, _, A, D, F, hc⟩ := hs'
  obtain ⟨d, hdd⟩ : ∃ d, d = added c x := ⟨_, rfl⟩
  rw [← hdd] at hc hR
  have lt2 := (List.getElem?_eq_some_iff.1 h2).1
  have ho := hc.obj
  have lto := (List.getElem?_eq_some_iff.1 ho).1
  obtain ⟨dd, nd, hDD, hd⟩ := hc.d
  have ltd := (List.getElem?_eq_some_iff.1 hd).1
  have ld := encL_len TMatch.cells d.Matches
  obtain ⟨nD, hnD⟩ : ∃ n, n = d.Matches.length := ⟨_, rfl⟩
  rw [← hnD] at ld hR
  have hD2 : D = .sref dd 0 nD := by rw [hDD, ld]
  have ho2 := ho
  rw [hD2] at ho2
  obtain ⟨PD, hPD⟩ : ∃ P, P = encL TMatch.cells d.Matches := ⟨_, rfl⟩
  rw [← hPD] at hd ld
  refine awp_sound _ _ _ (by rw [hN]; kernel_rfl) ?_
  by_cases c6 : nD ≤ 160
  rotate_left
  · have d6 : decide ((160 : Int) < (nD : Int)) = true := decide_eq_true (by omega)
    have n6 : 160 < nD := by omega
    rw [if_neg c6] at hR
    simp -dsimp -implicitDefEqProofs [-getElem?_pos, go_sem, hP, t9, ho2, lto, hd, ltd, ld, d6, n6, t4, h2, lt2, hO2]
    refine done_noCash ?_
    rw [hQ, hR]
  have d6 : decide ((160 : Int) < (nD : Int)) = false := decide_eq_false (by omega)
  have n6 : ¬ 160 < nD := by omega
  rw [if_pos c6] at hR
  have ca : A.cellish = true := by obtain ⟨_, _, rfl, _⟩ := hc.a; rfl
  have cf : F.cellish = true := by obtain ⟨_, _, rfl, _⟩ := hc.f; rfl
  simp -dsimp -implicitDefEqProofs [-getElem?_pos, go_sem, hP, t9, ho2, lto, hd, ltd, ld, d6, n6, t4, h2, lt2, hO2, ca, cf]
  have q1 := hc.a.set (o' := some ⟨29, 4, [[A, .sref b 0 nI, .sref dd 0 nD, F]]⟩) h2 (by rw [hO2]; simp)
  have q2 := hc.b.set (o' := some ⟨29, 4, [[A, .sref b 0 nI, .sref dd 0 nD, F]]⟩) h2 (by rw [hO2]; simp)
  have q3 := hc.d.set (o' := some ⟨29, 4, [[A, .sref b 0 nI, .sref dd 0 nD, F]]⟩) h2 (by rw [hO2]; simp)
  have q4 := hc.f.set (o' := some ⟨29, 4, [[A, .sref b 0 nI, .sref dd 0 nD, F]]⟩) h2 (by rw [hO2]; simp)
  rw [hD2] at q3
  refine done_agg2 (cs' := d.cells) ?_ ?_
  · rw [cCsh]
    exact q1.cw (imm_claims _) (q2.cw (imm_incomes _) (q3.cw (imm_matches _) (q4.cw (d.imm _ (by simp [cCsh])) .nil)))
  · rw [hQ, hR]
end Go.Proofs.YtgapbmaehfdkoaaGreatDoor
