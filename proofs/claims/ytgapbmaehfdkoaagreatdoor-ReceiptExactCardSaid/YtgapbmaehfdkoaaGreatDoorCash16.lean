/- Receipts: a claim is added, by the reference. -/
import Derived.Test.YtgapbmaehfdkoaaGreatDoorCash15
set_option linter.unusedSimpArgs false
set_option linter.unusedVariables false
namespace Go.Proofs.YtgapbmaehfdkoaaGreatDoor
open Go.PA
open Go.RowKit

/-- The state in which a claim is counted. -/
def TB (O1 O2 : AObj) (q nI b : Nat) (d : TCash) (s : St) : Prop := s.t 2 = .ref 0 0 0 ∧ s.t 3 = .ref 1 0 0 ∧ s.t 4 = .ref 2 0 0 ∧ s.t 7 = iv q ∧ s.H[1]? = some (some O1) ∧ s.H[2]? = some (some O2) ∧ ∃ A D F, HC 3 s.H 0 d A (.sref b 0 nI) D F
set_option maxHeartbeats 8000000 in
set_option maxRecDepth 8000 in
theorem cradd_pf (c : TCash) (x : TClaim) (hf : FitC c) (hxc : x.Code.size ≤ 1000000) : PFun Tryz.prog none none 32 [.agg c.cells, .agg x.cells] (· = .tup [.agg (addD c x).1.cells, iv (addD c x).2]) := by
  refine pfun_introA Tryz.func32 rfl (by simp [Tryz.f32]) ?_
  intro E hP hr hs hW hN
  have ck := crcheck_pf c hf
  have ic := imm_agg.2 c.imm
  have ix := imm_agg.2 x.imm
  have px := crclaim_pf x hxc
  have ip := imm_claims c.Claims
  rw [cCsh] at ck ic
  rw [cClm] at px ix
  obtain ⟨Q, hQ⟩ : ∃ Q : AV → Prop, Q = (· = .tup [.agg (addD c x).1.cells, iv (addD c x).2]) := ⟨_, rfl⟩
  rw [← hQ]
  obtain ⟨R, hR⟩ : ∃ R, R = addD c x := ⟨_, rfl⟩
  rw [← hR] at hQ
  rw [addD] at hR
  have hfc := hf.fc
  have hfi := hf.fi
  have hfm := hf.fm
  have hfl := hf.fl
  obtain ⟨O0, hO0⟩ : ∃ O : AObj, O = ⟨29, 4, [[claimsL c.Claims, incomesL c.Incomes, matchesL c.Matches, .list 1 (encL encI c.Loose)]]⟩ := ⟨_, rfl⟩
  obtain ⟨O1, hO1⟩ : ∃ O : AObj, O = ⟨38, 6, [[iv x.ID, iv x.Payer, iv x.Amount, iv x.Open, iv x.Day, .sc (.string x.Code)]]⟩ := ⟨_, rfl⟩
  obtain ⟨O2, hO2⟩ : ∃ O : AObj, O = ⟨29, 4, [[.nil, .nil, .nil, .nil]]⟩ := ⟨_, rfl⟩
  obtain ⟨nI, hnI⟩ : ∃ n, n = c.Incomes.length := ⟨_, rfl⟩
  refine awp_cut (by rw [hN]; kernel_rfl) ?_
  simp -dsimp -implicitDefEqProofs [-getElem?_pos, go_sem, hP, cCsh, cClm]
  simp only [← hO0, ← hO1, ← hO2]
  refine awp_cut (by rw [hN]; kernel_rfl) ?_
  simp -dsimp -implicitDefEqProofs [-getElem?_pos, go_sem, hP, hO0]
  refine callB_pure ck hP en_28 (args_same (by simpa using ic)) .sc ?_
  by_cases c1 : cashE c = 0
  rotate_left
  · rw [if_neg c1] at hR
    simp -dsimp -implicitDefEqProofs [-getElem?_pos, go_sem, hP, c1, hO2]
    refine done_noCash ?_
    rw [hQ, hR]
  rw [if_pos c1] at hR
  have ok := (cashE_ok.1 c1).2
  have sizes := (cashE_ok.1 c1).1
  simp -dsimp -implicitDefEqProofs [-getElem?_pos, go_sem, hP, c1]
  obtain ⟨q, hq⟩ : ∃ q, q = insAt c.Claims x.ID := ⟨_, rfl⟩
  have hql : q ≤ c.Claims.length := by rw [hq]; exact insAt_le _ _
  have ca := crclaimAt_pf c x.ID hf
  rw [cCsh] at ca
  refine awp_cut (by rw [hN]; kernel_rfl) ?_
  simp -dsimp -implicitDefEqProofs [-getElem?_pos, go_sem, hP, hO1]
  refine callB_pure px hP en_30 (args_same (by simpa using ix)) .sc ?_
  cases c2 : payB x
  · rw [c2, Bool.false_and, Bool.false_and, if_neg (by simp)] at hR
    simp -dsimp -implicitDefEqProofs [-getElem?_pos, go_sem, hP, hO1, hO2]
    refine done_noCash ?_
    rw [hQ, hR]
  rw [c2, Bool.true_and] at hR
  by_cases c3 : x.Open = x.Amount
  rotate_left
  · rw [decide_eq_false c3, Bool.false_and, if_neg (by simp)] at hR
    simp -dsimp -implicitDefEqProofs [-getElem?_pos, go_sem, hP, hO1, hO2, c3]
    refine done_noCash ?_
    rw [hQ, hR]
  rw [decide_eq_true c3, Bool.true_and] at hR
  have e3 : (x.Open = x.Amount) = True := eq_true c3
  simp -dsimp -implicitDefEqProofs [-getElem?_pos, go_sem, hP, hO0, hO1, e3]
  refine callB_pure ca hP en_57 (args_same (by simpa [imm_sc] using ic)) .sc ?_
  cases c4 : payAt c.Claims x.ID with
  | some k =>
    rw [c4, if_neg (by simp)] at hR
    have dk : decide ((0 : Int) ≤ (k : Int)) = true := decide_eq_true (by omega)
    simp -dsimp -implicitDefEqProofs [-getElem?_pos, go_sem, hP, idxO, dk, hO2]
    refine done_noCash ?_
    rw [hQ, hR]
  | none =>
  rw [c4, if_pos (by simp)] at hR
  have xb := payB_iff.1 c2
  simp -dsimp -implicitDefEqProofs [-getElem?_pos, go_sem, hP, idxO]
  refine awp_cut (by rw [hN]; kernel_rfl) ?_
  by_cases c5 : c.Claims.length < 60
  rotate_left
  · have le : c.Claims.length = 60 := by omega
    rw [if_neg c5] at hR
    simp -dsimp -implicitDefEqProofs [-getElem?_pos, go_sem, hP, hO0, hO2, le]
    refine done_noCash ?_
    rw [hQ, hR]
  rw [if_pos c5] at hR
  have d5 : decide ((c.Claims.length : Int) = 60) = false := decide_eq_false (by omega)
  have n5 : ¬ c.Claims.length = 60 := by omega
  simp -dsimp -implicitDefEqProofs [-getElem?_pos, go_sem, hP, hO0, d5, n5]
  -- copies
  obtain ⟨H0, hH0⟩ : ∃ H0 : Heap, H0 = [some O0, some O1, some O2] := ⟨_, rfl⟩
  have cp := rcopied_c (row := E.row) (src := E.src) c H0 hf
  have l0 : H0.length = 3 := by rw [hH0]; rfl
  rw [cCsh, l0] at cp
  rw [hO0, hO1, hO2] at hH0
  simp only [hO2, ← hH0]
  refine awp_cut (by rw [hN]; kernel_rfl) ?_
  have h00 : H0[0]? = some (some ⟨29, 4, [[claimsL c.Claims, incomesL c.Incomes, matchesL c.Matches, .list 1 (encL encI c.Loose)]]⟩) := by rw [hH0]; rfl
  simp -dsimp -implicitDefEqProofs [-getElem?_pos, go_sem, hP, h00, (List.getElem?_eq_some_iff.1 h00).1]
  refine callB_m cp hP en_66 ?_
  rintro r H1 ⟨⟨A, B, D, F, rfl, ha, hb, hd, hff⟩, hk⟩
  have g0 := hk 0 _ (by simp) h00
  have g1 := hk 1 O1 (by simp) (by rw [hH0, hO1]; rfl)
  have g2 := hk 2 O2 (by simp) (by rw [hH0, hO2]; rfl)
  have lt0 := (List.getElem?_eq_some_iff.1 g0).1
  have lt1 := (List.getElem?_eq_some_iff.1 g1).1
  have lt2 := (List.getElem?_eq_some_iff.1 g2).1
  obtain ⟨a, na, hA, ha⟩ := ha
  obtain ⟨b, nb, hB, hb⟩ := hb
  have lA := encL_len TClaim.cells c.Claims
  rw [lA] at hA
  rw [encL_len, ← hnI] at hB
  subst hA
  subst hB
  have lta := (List.getElem?_eq_some_iff.1 ha).1
  have rows : ∀ (k : Nat) z, c.Claims[k]? = some z → (encL TClaim.cells c.Claims)[k]? = some [iv z.ID, iv z.Payer, iv z.Amount, iv z.Open, iv z.Day, .sc (.string z.Code)] := fun k z h => rowsC_get h
  have cdd : D.cellish = true := by obtain ⟨_, _, rfl, _⟩ := hd; rfl
  have cff : F.cellish = true := by obtain ⟨_, _, rfl, _⟩ := hff; rfl
  obtain ⟨nC, hnC⟩ : ∃ n, n = c.Claims.length := ⟨_, rfl⟩
  rw [← hnC] at hql lA c5 hfc
  simp only [← hnC]
  simp -dsimp -implicitDefEqProofs [-getElem?_pos, go_sem, hP, g0, lt0, cdd, cff]
  refine awp_cut (by rw [hN]; kernel_rfl) ?_
  simp -dsimp -implicitDefEqProofs [-getElem?_pos, go_sem, hP]
  obtain ⟨H2, hH2⟩ : ∃ H2 : Heap, H2 = H1.set 0 (some ⟨29, 4, [[.sref a 0 nC, .sref b 0 nI, D, F]]⟩) := ⟨_, rfl⟩
  have na0 : ¬ a = 0 := by omega
  have na0' : ¬ 0 = a := by omega
  have k0 : H2[0]? = some (some ⟨29, 4, [[.sref a 0 nC, .sref b 0 nI, D, F]]⟩) := by rw [hH2, List.getElem?_set_self lt0]
  have k1 : H2[1]? = some (some O1) := by rw [hH2, List.getElem?_set_ne (by omega)]; exact g1
  have k2 : H2[2]? = some (some O2) := by rw [hH2, List.getElem?_set_ne (by omega)]; exact g2
  have ka : H2[a]? = some (some ⟨38, 6, encL TClaim.cells c.Claims⟩) := by rw [hH2, List.getElem?_set_ne na0']; exact ha
  have kb : Own 3 H2 (.sref b 0 nI) 32 5 (encL TIncome.cells c.Incomes) := ⟨b, nb, by rw [encL_len, hnI], by rw [hH2, List.getElem?_set_ne (by omega)]; exact hb⟩
  have kd : Own 3 H2 D 40 3 (encL TMatch.cells c.Matches) := by rw [hH2]; exact hd.set g0 (by simp)
  have kf : Own 3 H2 F 3 1 (rowsI c.Loose) := by rw [hH2]; exact hff.set g0 (by simp)
  have lt0 := (List.getElem?_eq_some_iff.1 k0).1
  have lt1 := (List.getElem?_eq_some_iff.1 k1).1
  have lt2 := (List.getElem?_eq_some_iff.1 k2).1
  have lta := (List.getElem?_eq_some_iff.1 ka).1
  have wr := withC_rows c x
  have wl := withC_len c x
  rw [← hq] at wr
  obtain ⟨PA, hPA⟩ : ∃ P, P = encL TClaim.cells c.Claims := ⟨_, rfl⟩
  rw [← hPA] at ka lA wr
  simp only [← hPA] at rows
  simp only [← hH2]
  obtain ⟨InvK, hInvK⟩ : ∃ Inv : St → Prop, Inv = fun s => s.t 2 = .ref 0 0 0 ∧ s.t 3 = .ref 1 0 0 ∧ s.t 4 = .ref 2 0 0 ∧ s.t 7 = iv q ∧ s.H = H2 := ⟨_, rfl⟩
  refine awp_join InvK (by rw [hN]; kernel_rfl) ?_ ?_
  · simp -dsimp -implicitDefEqProofs [-getElem?_pos, go_sem, hP]
    obtain ⟨I, hI⟩ : ∃ I : Nat → St → Prop, I = fun m s => ∃ (k : Nat), k ≤ q ∧ m = nC - k ∧ s.t 2 = .ref 0 0 0 ∧ s.t 3 = .ref 1 0 0 ∧ s.t 4 = .ref 2 0 0 ∧ s.t 7 = iv k ∧ s.H = H2 := ⟨_, rfl⟩
    refine aloop0 I (nC) (by rw [hN]; rfl) ?_ ?_
    · rw [hI]
      exact ⟨0, by omega, by omega, by simp -dsimp -implicitDefEqProofs [-getElem?_pos, go_sem], by simp -dsimp -implicitDefEqProofs [-getElem?_pos, go_sem], by simp -dsimp -implicitDefEqProofs [-getElem?_pos, go_sem], by simp -dsimp -implicitDefEqProofs [-getElem?_pos, go_sem], by simp -dsimp -implicitDefEqProofs [-getElem?_pos, go_sem]⟩
    intro m s hs'
    rw [hI] at hs'
    obtain ⟨k, hk, hm, t2, t3, t4, t7, sH⟩ := hs'
    obtain ⟨t, HH⟩ := s
    simp only at t2 t3 t4 t7 sH
    subst sH
    simp -dsimp -implicitDefEqProofs [-getElem?_pos, go_sem, hP]
    refine adrawB (fun _ => true) [] hP (by kernel_rfl) (by kernel_rfl) ?_
    by_cases e1 : k < nC
    rotate_left
    · have hkq : k = q := by omega
      have d1 : decide ((k : Int) < (nC : Int)) = false := decide_eq_false (by omega)
      simp -dsimp -implicitDefEqProofs [-getElem?_pos, go_sem, hP, t2, t3, t7, k0, lt0, ka, lta, lA, k1, lt1, hO1, d1, e1]
      refine ⟨_, Weaker.refl _, ?_⟩
      rw [hInvK]
      exact ⟨by simp -dsimp -implicitDefEqProofs [-getElem?_pos, go_sem, t2], by simp -dsimp -implicitDefEqProofs [-getElem?_pos, go_sem, t3], by simp -dsimp -implicitDefEqProofs [-getElem?_pos, go_sem, t4], by simp -dsimp -implicitDefEqProofs [-getElem?_pos, go_sem, t7, hkq], by simp -dsimp -implicitDefEqProofs [-getElem?_pos, go_sem]⟩
    have d1 : decide ((k : Int) < (nC : Int)) = true := decide_eq_true (by omega)
    obtain ⟨z, hz⟩ : ∃ z, c.Claims[k]? = some z := ⟨_, List.getElem?_eq_getElem (by omega)⟩
    have rz := rows k z hz
    have iff := insAt_iff ok.pays.2 (id := x.ID) hz
    rw [← hq] at iff
    by_cases e2 : z.ID < x.ID
    · have wk := wrap_in ((k : Int) + 1) (by omega)
      simp -dsimp -implicitDefEqProofs [-getElem?_pos, go_sem, hP, t2, t3, t7, k0, lt0, ka, lta, lA, k1, lt1, hO1, d1, e1, rz, e2, wk]
      refine ⟨nC - (k + 1), by omega, ?_⟩
      rw [hI]
      exact ⟨k + 1, by have := iff.1 e2; omega, rfl, by simp -dsimp -implicitDefEqProofs [-getElem?_pos, go_sem, t2], by simp -dsimp -implicitDefEqProofs [-getElem?_pos, go_sem, t3], by simp -dsimp -implicitDefEqProofs [-getElem?_pos, go_sem, t4], by simp -dsimp -implicitDefEqProofs [-getElem?_pos, go_sem], by simp -dsimp -implicitDefEqProofs [-getElem?_pos, go_sem]⟩
    · have hkq : k = q := by have := mt iff.2 e2; omega
      simp -dsimp -implicitDefEqProofs [-getElem?_pos, go_sem, hP, t2, t3, t7, k0, lt0, ka, lta, lA, k1, lt1, hO1, d1, e1, rz, e2]
      refine ⟨_, Weaker.refl _, ?_⟩
      rw [hInvK]
      exact ⟨by simp -dsimp -implicitDefEqProofs [-getElem?_pos, go_sem, t2], by simp -dsimp -implicitDefEqProofs [-getElem?_pos, go_sem, t3], by simp -dsimp -implicitDefEqProofs [-getElem?_pos, go_sem, t4], by simp -dsimp -implicitDefEqProofs [-getElem?_pos, go_sem, t7, hkq], by simp -dsimp -implicitDefEqProofs [-getElem?_pos, go_sem]⟩
  intro s hs'
  rw [hInvK] at hs'
  obtain ⟨t2, t3, t4, t7, sH⟩ := hs'
  obtain ⟨t, HH⟩ := s
  simp only at t2 t3 t4 t7 sH
  subst sH
  obtain ⟨InvB, hInvB⟩ : ∃ Inv : St → Prop, Inv = fun s => ∃ b, TB O1 O2 q nI b (withC c x) s := ⟨_, rfl⟩
  refine awp_join InvB (by rw [hN]; kernel_rfl) ?_ ?_
  · simp -dsimp -implicitDefEqProofs [-getElem?_pos, go_sem, hP]
    refine adrawB (fun i => decide (i < 3) || decide (i = a)) [14] hP (by kernel_rfl) (by kernel_rfl) ?_
    have hqI : (q : Int) ≤ nC := by omega
    have td : (PA.drop q).take (nC - q) = PA.drop q := List.take_of_length_le (by rw [List.length_drop]; omega)
    have ld : (PA.drop q).length = nC - q := by rw [List.length_drop, lA]
    have ltq : (PA.take q).length = q := by rw [List.length_take]; omega
    have lnq : ∀ z : List AV, (PA.take q ++ [z]).length = q + 1 := fun z => by rw [List.length_append, ltq]; rfl
    have mem : ∀ i, (decide (i < 3) || decide (i = a)) = true → i < HH.length := fun i hi => by
      simp only [Bool.or_eq_true, decide_eq_true_eq] at hi
      omega
    have ag : ∀ l, Agree (fun i => decide (i < 3) || decide (i = a)) HH (HH ++ l) := fun l i hi => List.getElem?_append_left (mem i hi)
    have ag2 : ∀ l l', Agree (fun i => decide (i < 3) || decide (i = a)) (HH ++ l) (HH ++ l') := fun l l' i hi => by rw [List.getElem?_append_left (mem i hi), List.getElem?_append_left (mem i hi)]
    have fin : ∀ (t' : Nat → AV) (id la : Nat) (l : Heap) (es : List (List AV)), HH.length ≤ id → la = nC + 1 → (HH ++ l)[id]? = some (some ⟨38, 6, es⟩) → es = encL TClaim.cells (withC c x).Claims → t' 2 = .ref 0 0 0 → t' 3 = .ref 1 0 0 → t' 4 = .ref 2 0 0 → t' 7 = iv q → AInv E InvB ⟨t', HH.set 0 (some ⟨29, 4, [[.sref id 0 la, .sref b 0 nI, D, F]]⟩) ++ l⟩ := fun t' id la l es hid hla hl hes a2 a3 a4 a7 => by
      subst hla
      refine ⟨_, Weaker.refl _, ?_⟩
      rw [hInvB]
      have hn3 : 3 ≤ HH.length := by omega
      have kk0 : (HH ++ l)[0]? = some (some ⟨29, 4, [[.sref a 0 nC, .sref b 0 nI, D, F]]⟩) := by rw [List.getElem?_append_left lt0]; exact k0
      have es0 : HH.set 0 (some (⟨29, 4, [[.sref id 0 (nC + 1), .sref b 0 nI, D, F]]⟩ : AObj)) ++ l = (HH ++ l).set 0 (some ⟨29, 4, [[.sref id 0 (nC + 1), .sref b 0 nI, D, F]]⟩) := by rw [List.set_append_left _ _ lt0]
      rw [es0]
      refine ⟨b, a2, a3, a4, a7, ?_, ?_, .sref id 0 (nC + 1), D, F, ?_, ?_, ⟨id, by omega, ?_, ?_⟩, kb.app.set kk0 (by simp), kd.app.set kk0 (by simp), kf.app.set kk0 (by simp)⟩
      · show ((HH ++ l).set 0 _)[1]? = _
        rw [List.getElem?_set_ne (by omega), List.getElem?_append_left lt1]
        exact k1
      · show ((HH ++ l).set 0 _)[2]? = _
        rw [List.getElem?_set_ne (by omega), List.getElem?_append_left lt2]
        exact k2
      · simp
        omega
      · show ((HH ++ l).set 0 _)[0]? = _
        rw [List.getElem?_set_self (by simp; omega)]
      · rw [encL_len, wl, hnC]
      · show ((HH ++ l).set 0 _)[id]? = _
        rw [List.getElem?_set_ne (by omega), hl, hes]
    have wr' : PA.take q ++ ([iv x.ID, iv x.Payer, iv x.Amount, iv x.Open, iv x.Day, .sc (.string x.Code)] :: PA.drop q) = encL TClaim.cells (withC c x).Claims := wr
    by_cases q0 : q = 0
    · have dr : PA.drop q = PA := by rw [q0]; rfl
      simp -dsimp -implicitDefEqProofs [-getElem?_pos, go_sem, hP, restr_get, t2, t3, t7, k0, lt0, ka, lta, lA, k1, lt1, hO1, asliceOp, bound, aslice, hql, hqI, ltq, lnq, q0]
      refine ⟨ag _, ag2 _ _, by omega, by omega, ag2 _ _, ?_⟩
      refine fin _ (HH.length + 2) _ _ _ (by omega) (by omega) (by simp -dsimp -implicitDefEqProofs [-getElem?_pos, go_sem]; rfl) ?_ (by simp -dsimp -implicitDefEqProofs [-getElem?_pos, go_sem, t2]) (by simp -dsimp -implicitDefEqProofs [-getElem?_pos, go_sem, t3]) (by simp -dsimp -implicitDefEqProofs [-getElem?_pos, go_sem, t4]) (by simp -dsimp -implicitDefEqProofs [-getElem?_pos, go_sem, t7, q0])
      rw [q0] at wr'
      simp only [List.take_zero, List.nil_append, List.drop_zero] at wr'
      rw [List.take_of_length_le (by omega)]
      exact wr'
    by_cases q1 : q = nC
    · have q1I : (q : Int) = nC := by omega
      have dr : PA.drop q = [] := List.drop_of_length_le (by omega)
      have n0 : ¬ nC = 0 := by omega
      have ltn : (PA.take nC).length = nC := by rw [List.length_take]; omega
      simp -dsimp -implicitDefEqProofs [-getElem?_pos, go_sem, hP, restr_get, t2, t3, t7, k0, lt0, ka, lta, lA, k1, lt1, hO1, asliceOp, bound, aslice, hql, hqI, ltq, ltn, q0, n0, q1, srcEs]
      refine ⟨by omega, by omega, ag _, by omega, by omega, ag2 _ _, by omega, by omega, ag2 _ _, ?_⟩
      refine fin _ (HH.length + 2) _ _ _ (by omega) (by omega) (by simp -dsimp -implicitDefEqProofs [-getElem?_pos, go_sem]; rfl) ?_ (by simp -dsimp -implicitDefEqProofs [-getElem?_pos, go_sem, t2]) (by simp -dsimp -implicitDefEqProofs [-getElem?_pos, go_sem, t3]) (by simp -dsimp -implicitDefEqProofs [-getElem?_pos, go_sem, t4]) (by simp -dsimp -implicitDefEqProofs [-getElem?_pos, go_sem, t7, q1])
      rw [dr, q1] at wr'
      simpa using wr'
    · have q1I : ¬ (q : Int) = nC := by omega
      have hsz : q + 1 + (nC - q) = nC + 1 := by omega
      simp -dsimp -implicitDefEqProofs [-getElem?_pos, go_sem, hP, restr_get, t2, t3, t7, k0, lt0, ka, lta, lA, k1, lt1, hO1, asliceOp, bound, aslice, hql, hqI, ltq, q0, q1, q1I, srcEs, td, ld]
      refine ⟨by omega, by omega, ag _, by omega, by omega, ag2 _ _, by omega, by omega, ag2 _ _, ?_⟩
      exact fin _ (HH.length + 2) _ _ _ (by omega) (by omega) (by simp -dsimp -implicitDefEqProofs [-getElem?_pos, go_sem]) wr' (by simp -dsimp -implicitDefEqProofs [-getElem?_pos, go_sem, t2]) (by simp -dsimp -implicitDefEqProofs [-getElem?_pos, go_sem, t3]) (by simp -dsimp -implicitDefEqProofs [-getElem?_pos, go_sem, t4]) (by simp -dsimp -implicitDefEqProofs [-getElem?_pos, go_sem, t7])
  clear t2 t3 t4 t7 k0 k1 k2 ka kb kd kf lt0 lt1 lt2 lta hH2 hInvK InvK HH t
  intro s hs'
  rw [hInvB] at hs'
  obtain ⟨b, hs'⟩ := hs'
  have xo : 0 ≤ x.Open := by omega
  obtain ⟨InvC, hInvC⟩ : ∃ Inv : St → Prop, Inv = fun s => ∃ b, TB O1 O2 q nI b (added c x) s := ⟨_, rfl⟩
  have ha0 : added c x = meetI (withC c x) (ofP c x.Payer nI) q := by rw [hq, hnI]; rfl
  refine awp_join InvC (by rw [hN]; kernel_rfl) ?_ ?_
  · obtain ⟨t2, t3, t4, t7, h1, h2, A, D, F, hc⟩ := hs'
    have ho := hc.obj
    have lto := (List.getElem?_eq_some_iff.1 ho).1
    obtain ⟨b', nb, hB, hb⟩ := hc.b
    have eb : b = b' := by injection hB
    subst eb
    have ltb := (List.getElem?_eq_some_iff.1 hb).1
    have lb : (encL TIncome.cells (withC c x).Incomes).length = nI := by rw [encL_len, hnI]; rfl
    simp -dsimp -implicitDefEqProofs [-getElem?_pos, go_sem, hP, t2, ho, lto, hb, ltb, lb]
    obtain ⟨I, hI⟩ : ∃ I : Nat → St → Prop, I = fun m s => ∃ (j : Nat), j ≤ nI ∧ m = nI - j ∧ s.t 74 = iv nI ∧ s.t 75 = iv j ∧ TB O1 O2 q nI b (meetI (withC c x) (ofP c x.Payer j) q) s := ⟨_, rfl⟩
    refine aloop0 I (nI) (by rw [hN]; rfl) ?_ ?_
    · rw [hI]
      exact ⟨0, by omega, by omega, by simp -dsimp -implicitDefEqProofs [-getElem?_pos, go_sem], by simp -dsimp -implicitDefEqProofs [-getElem?_pos, go_sem], by simp -dsimp -implicitDefEqProofs [-getElem?_pos, go_sem, t2], by simp -dsimp -implicitDefEqProofs [-getElem?_pos, go_sem, t3], by simp -dsimp -implicitDefEqProofs [-getElem?_pos, go_sem, t4], by simp -dsimp -implicitDefEqProofs [-getElem?_pos, go_sem, t7], h1, h2, A, D, F, hc⟩
    clear t2 t3 t4 t7 h1 h2 hc ho lto hb ltb
    intro m s hs'
    rw [hI] at hs'
    obtain ⟨j, hj, hm, t74, t75, ts⟩ := hs'
    simp -dsimp -implicitDefEqProofs [-getElem?_pos, go_sem, hP, t74, t75]
    refine condP (fun h => ?_) (fun h => ?_)
    · have hj : j < nI := by simpa using h
      obtain ⟨d, hd⟩ : ∃ d, d = meetI (withC c x) (ofP c x.Payer j) q := ⟨_, rfl⟩
      have gd : GoodA c x d := by rw [hd]; exact GoodA.meetI c1 xo _ _
      rw [← hd] at ts
      obtain ⟨t2, t3, t4, t7, h1, h2, A, D, F, hc⟩ := ts
      have lt1 := (List.getElem?_eq_some_iff.1 h1).1
      have ho := hc.obj
      have lto := (List.getElem?_eq_some_iff.1 ho).1
      obtain ⟨b', nb, hB, hb⟩ := hc.b
      have eb : b = b' := by injection hB
      subst eb
      have ltb := (List.getElem?_eq_some_iff.1 hb).1
      have dinc : d.Incomes = c.Incomes := gd.fall.inc
      obtain ⟨y, hy⟩ : ∃ y, c.Incomes[j]? = some y := ⟨_, List.getElem?_eq_getElem (by omega)⟩
      have ry := rowsN_get (show d.Incomes[j]? = some y by rw [dinc]; exact hy)
      have lb : (encL TIncome.cells d.Incomes).length = nI := by rw [encL_len, hnI, dinc]
      have wj := wrap_in ((j : Int) + 1) (by omega)
      obtain ⟨PB, hPB⟩ : ∃ P, P = encL TIncome.cells d.Incomes := ⟨_, rfl⟩
      rw [← hPB] at hb ry lb
      have eo := ofP_snoc (c := c) (p := x.Payer) hy
      simp -dsimp -implicitDefEqProofs [-getElem?_pos, go_sem, hP, t75]
      refine adrawB (fun _ => true) [] hP (by kernel_rfl) (by kernel_rfl) ?_
      by_cases e1 : y.Payer = x.Payer
      · rw [if_pos e1] at eo
        have hyj : d.Incomes[j]? = some y := by rw [dinc]; exact hy
        obtain ⟨z, hz⟩ := gd.at
        rw [← hq] at hz
        obtain ⟨lo, hlo, lo1, lo2⟩ := gd.lo c1 (by rw [← hnI]; exact hj)
        have mm := rmatch_m (row := E.row) (src := E.src) hc (i := j) (k := q) hlo hz hyj ⟨lo1, lo2⟩ (gd.cl c1 c2 hz) (by have := gd.len; omega)
        simp -dsimp -implicitDefEqProofs [-getElem?_pos, go_sem, hP, t75, t2, ho, lto, hb, ltb, ry, lb, hj, t3, h1, lt1, hO1, e1, t7]
        refine callB_m mm hP en_67 ?_
        rintro r H' ⟨_, ⟨D', hc', hfr⟩, hkk⟩
        have nS : ∀ j, j < 3 → ¬ isS A j := fun j hj h => by obtain ⟨i, h1, rfl, _⟩ := hc.a; rw [isS_iff] at h; omega
        have nD : ∀ j, j < 3 → ¬ isS D j := fun j hj h => by obtain ⟨i, h1, rfl, _⟩ := hc.d; rw [isS_iff] at h; omega
        have nF : ∀ j, j < 3 → ¬ isS F j := fun j hj h => by obtain ⟨i, h1, rfl, _⟩ := hc.f; rw [isS_iff] at h; omega
        have h1' := hkk 1 _ (by omega) (nS 1 (by omega)) (nD 1 (by omega)) (nF 1 (by omega)) h1
        have h2' := hkk 2 _ (by omega) (nS 2 (by omega)) (nD 2 (by omega)) (nF 2 (by omega)) h2
        simp -dsimp -implicitDefEqProofs [-getElem?_pos, go_sem, hP, t75, wj]
        refine ⟨nI - (j + 1), by omega, ?_⟩
        rw [hI]
        refine ⟨j + 1, by omega, rfl, by simp -dsimp -implicitDefEqProofs [-getElem?_pos, go_sem, t74], by simp -dsimp -implicitDefEqProofs [-getElem?_pos, go_sem], ?_⟩
        rw [eo, meetI_snoc, ← hd]
        exact ⟨by simp -dsimp -implicitDefEqProofs [-getElem?_pos, go_sem, t2], by simp -dsimp -implicitDefEqProofs [-getElem?_pos, go_sem, t3], by simp -dsimp -implicitDefEqProofs [-getElem?_pos, go_sem, t4], by simp -dsimp -implicitDefEqProofs [-getElem?_pos, go_sem, t7], h1', h2', A, D', F, hc'⟩
      · rw [if_neg e1] at eo
        simp -dsimp -implicitDefEqProofs [-getElem?_pos, go_sem, hP, t75, t2, ho, lto, hb, ltb, ry, lb, hj, t3, h1, lt1, hO1, e1, wj]
        refine ⟨nI - (j + 1), by omega, ?_⟩
        rw [hI]
        refine ⟨j + 1, by omega, rfl, by simp -dsimp -implicitDefEqProofs [-getElem?_pos, go_sem, t74], by simp -dsimp -implicitDefEqProofs [-getElem?_pos, go_sem], ?_⟩
        rw [eo, ← hd]
        exact ⟨by simp -dsimp -implicitDefEqProofs [-getElem?_pos, go_sem, t2], by simp -dsimp -implicitDefEqProofs [-getElem?_pos, go_sem, t3], by simp -dsimp -implicitDefEqProofs [-getElem?_pos, go_sem, t4], by simp -dsimp -implicitDefEqProofs [-getElem?_pos, go_sem, t7], h1, h2, A, D, F, hc⟩
    · have hj : nI = j := by
        have : ¬ j < nI := by simpa using h
        omega
      subst hj
      simp -dsimp -implicitDefEqProofs [-getElem?_pos, go_sem, hP]
      refine ⟨_, Weaker.refl _, ?_⟩
      rw [hInvC, ha0]
      exact ⟨b, ts⟩
  clear hs' s
  intro s hs'
  rw [hInvC] at hs'
  obtain ⟨b, t2, t3, t4, t7, h1, h2, A, D, F, hc⟩ := hs'
  obtain ⟨d, hdd⟩ : ∃ d, d = added c x := ⟨_, rfl⟩
  rw [← hdd] at hc hR
  have lt2 := (List.getElem?_eq_some_iff.1 h2).1
  have ho := hc.obj
  have lto := (List.getElem?_eq_some_iff.1 ho).1
  obtain ⟨dd, nd, hDD, hd⟩ := hc.d
  have ltd := (List.getElem?_eq_some_iff.1 hd).1
  have ld := encL_len TMatch.cells d.Matches
  obtain ⟨nD, hnD⟩ : ∃ n, n = d.Matches.length := ⟨_, rfl⟩
  rw [← hnD] at ld hR
  have hD2 : D = .sref dd 0 nD := by rw [hDD, ld]
  have ho2 := ho
  rw [hD2] at ho2
  obtain ⟨PD, hPD⟩ : ∃ P, P = encL TMatch.cells d.Matches := ⟨_, rfl⟩
  rw [← hPD] at hd ld
  refine awp_sound _ _ _ (by rw [hN]; kernel_rfl) ?_
  by_cases c6 : nD ≤ 160
  rotate_left
  · have d6 : decide ((160 : Int) < (nD : Int)) = true := decide_eq_true (by omega)
    have n6 : 160 < nD := by omega
    rw [if_neg c6] at hR
    simp -dsimp -implicitDefEqProofs [-getElem?_pos, go_sem, hP, t2, ho2, lto, hd, ltd, ld, d6, n6, t4, h2, lt2, hO2]
    refine done_noCash ?_
    rw [hQ, hR]
  have d6 : decide ((160 : Int) < (nD : Int)) = false := decide_eq_false (by omega)
  have n6 : ¬ 160 < nD := by omega
  rw [if_pos c6] at hR
  have ca : A.cellish = true := by obtain ⟨_, _, rfl, _⟩ := hc.a; rfl
  have cf : F.cellish = true := by obtain ⟨_, _, rfl, _⟩ := hc.f; rfl
  simp -dsimp -implicitDefEqProofs [-getElem?_pos, go_sem, hP, t2, ho2, lto, hd, ltd, ld, d6, n6, t4, h2, lt2, hO2, ca, cf]
  have q1 := hc.a.set (o' := some ⟨29, 4, [[A, .sref b 0 nI, .sref dd 0 nD, F]]⟩) h2 (by rw [hO2]; simp)
  have q2 := hc.b.set (o' := some ⟨29, 4, [[A, .sref b 0 nI, .sref dd 0 nD, F]]⟩) h2 (by rw [hO2]; simp)
  have q3 := hc.d.set (o' := some ⟨29, 4, [[A, .sref b 0 nI, .sref dd 0 nD, F]]⟩) h2 (by rw [hO2]; simp)
  have q4 := hc.f.set (o' := some ⟨29, 4, [[A, .sref b 0 nI, .sref dd 0 nD, F]]⟩) h2 (by rw [hO2]; simp)
  rw [hD2] at q3
  refine done_agg2 (cs' := d.cells) ?_ ?_
  · rw [cCsh]
    exact q1.cw (imm_claims _) (q2.cw (imm_incomes _) (q3.cw (imm_matches _) (q4.cw (d.imm _ (by simp [cCsh])) .nil)))
  · rw [hQ, hR]
end Go.Proofs.YtgapbmaehfdkoaaGreatDoor
