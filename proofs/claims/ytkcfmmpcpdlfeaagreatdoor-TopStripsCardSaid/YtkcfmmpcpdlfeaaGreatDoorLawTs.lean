/- TopStrips. -/
import Derived.Test.YtkcfmmpcpdlfeaaGreatDoorStr3
import Derived.Test.YtkcfmmpcpdlfeaaGreatDoorReg11
import Derived.Test.YtkcfmmpcpdlfeaaGreatDoorAwake
import Derived.Test.YtkcfmmpcpdlfeaaGreatDoorPlayAll
set_option linter.unusedSimpArgs false
set_option linter.unusedVariables false
namespace Go.Proofs.YtkcfmmpcpdlfeaaGreatDoor
open Go.PA
open Go.RowKit

theorem rangeS_ex (lo hi : Int) (h : lo ≤ hi) : ∃ r, (∃ m : Int, r = iv m ∧ (lo ≤ hi → lo ≤ m ∧ m ≤ hi) ∧ (hi < lo → m = lo)) ∧ Imm r := ⟨_, ⟨lo, rfl, fun h => ⟨Int.le_refl _, h⟩, fun _ => rfl⟩, .sc⟩
theorem pickS_ex {l : List Int} (h : l ≠ []) : ∃ r, (∃ m : Int, r = iv m ∧ m ∈ l) ∧ Imm r := by
  cases l with
  | nil => exact absurd rfl h
  | cons b l => exact ⟨_, ⟨b, rfl, by simp⟩, .sc⟩
theorem sumD_step {l : List TDue} {k : Nat} {x : TDue} (hp : ∀ y, y ∈ l → 0 ≤ y.Amount) (hx : l[k]? = some x) : sumD (l.take (k + 1)) = sumD (l.take k) + x.Amount ∧ 0 ≤ sumD (l.take k) ∧ sumD (l.take (k + 1)) ≤ sumD l := by
  refine ⟨by rw [List.take_add_one, hx, sumD_append]; simp [sumD], (sumD_nn fun y hy => hp y (List.mem_of_mem_take hy)).1, ?_⟩
  have e : sumD l = sumD (l.take (k + 1)) + sumD (l.drop (k + 1)) := by rw [← sumD_append, List.take_append_drop]
  have := (sumD_nn (l := l.drop (k + 1)) fun y hy => hp y (List.mem_of_mem_drop hy)).1
  omega
set_option maxHeartbeats 8000000 in
set_option maxRecDepth 8000 in
theorem strips45_pf (xs : List Int) (hx : Small xs) (hl : xs.length ≤ 9223372036854775807) : PFun Tryz.prog none none 3 [intsL xs] (· = bv true) := by
  refine pfun_introA Tryz.func3 rfl (by simp [Tryz.f3]) ?_
  intro E hP hr hs hW hN
  refine awp_cut (by rw [hN]; kernel_rfl) ?_
  simp [go_sem, hP]
  refine awp_cut (by rw [hN]; kernel_rfl) ?_
  simp [go_sem, hP]
  have hnew : POwn Tryz.prog E.row E.src 4 [intsL xs] 57 2 (· = [[intsL (xs.take 900), iv 0]]) := by rw [hr, hs]; exact new_pf xs hl
  refine callB_own hnew hP en_4 (args_same (by simp [go_sem, intsL])) (by simp [srefs_imm, go_sem, intsL]) ⟨_, rfl⟩ ?_
  rintro es rfl
  simp [go_sem, hP]
  refine awp_adopt 3 (ty := 57) (xs := xs.take 900) (at_ := 0) hr hs hW (by simp [go_sem]) (by simp [go_sem, intsL]) (by omega) (by simp; omega) (fun x hx' => hx x (List.mem_of_mem_take hx')) (by rw [hN]; kernel_rfl) ?_
  intro E' p hP' hr' hN' hW'
  rw [hP] at hP'
  rw [hN] at hN'
  clear hnew hP hr hs hW hN E
  rename Env => E
  rename E.P = _ => hP
  rename E.row = _ => hr
  rename E.N = _ => hN
  rename (∀ b, ¬ E.W b) => hW
  obtain ⟨src, hs⟩ : ∃ src, E.src = src := ⟨_, rfl⟩
  have up : ∀ {f : FuncId} {args : List AV} {Q : AV → Prop}, PFun Tryz.prog (some p) src f args Q → PFun Tryz.prog E.row E.src f args Q := fun h => hr ▸ hs ▸ h

  simp -dsimp -implicitDefEqProofs [-getElem?_pos, go_sem, hP]
  refine callB_isQ (up (range_pf p src 1 4 (by omega) (by omega))) hP en_5 (by simp -dsimp -implicitDefEqProofs [-getElem?_pos, go_sem]) (rangeS_ex _ _ (by omega)) ?_
  rintro r ⟨z, rfl, az, _⟩ _
  have az := az (by omega)
  obtain ⟨mm, rfl⟩ : ∃ mm : Nat, z = mm := ⟨z.toNat, by omega⟩
  have wz := wrap_in (180 * (mm : Int)) (by omega)
  simp -dsimp -implicitDefEqProofs [-getElem?_pos, go_sem, hP, wz]
  refine callB_isQ (up (pick_pf p src [0, 2500, 5000] (by simp))) hP en_6 (by simp -dsimp -implicitDefEqProofs [-getElem?_pos, go_sem]) (pickS_ex (by simp)) ?_
  rintro r ⟨rate, rfl, ar⟩ _
  have hb : BOk mm rate := ⟨by omega, by simpa using ar⟩
  have bs := bS_ok hb
  have cb : (bS mm rate).cells = [iv 1, iv 100, iv 0, iv (180 * (mm : Int)), iv rate, iv 6, bv false] := rfl
  have ib := imm_sec (bS mm rate)
  have ad := gadd_pf (bS mm rate) bs.ok
  have ir1 := imm_reg (reg1 (bS mm rate))
  rw [cb] at ad ib
  simp -dsimp -implicitDefEqProofs [-getElem?_pos, go_sem, hP]
  refine callB_frz (ad.lift _ _) hP hW en_7 (args_agg cw_zeroR (args_imm ib (args_nil.2 trivial))) (imm_pair ir1 .sc) ?_
  have c1 : (reg1 (bS mm rate)).cells = [secsL [bS mm rate], holdsL [], movesL []] := rfl
  have r10 : RegS (bS mm rate) (reg1 (bS mm rate)) 0 0 0 := ⟨⟨by unfold reg1 secsB; rw [bs.ok]; simp [secsB, bS], by simp [reg1], .nil, by simp [reg1]⟩, rfl, by simp [reg1], rfl, rfl, by simp [reg1], rfl, by simp [reg1, cntQ]⟩
  obtain ⟨R0, hR0⟩ : ∃ R0, R0 = reg1 (bS mm rate) := ⟨_, rfl⟩
  rw [← hR0] at c1 r10 ir1 ⊢
  have ka : ∀ X : Heap, killAll [] X = X := fun X => rfl
  simp -dsimp -implicitDefEqProofs [-getElem?_pos, go_sem, hP, cReg, ka]
  obtain ⟨I, hI⟩ : ∃ I : Nat → St → Prop, I = fun m s => ∃ (j : Nat) (R : TRegister) (T : Int), j ≤ 3 ∧ m = 3 - j ∧ RegS (bS mm rate) R T 0 j ∧ 0 ≤ T ∧ T ≤ 2000 * (j : Int) ∧ s.t 3 = sp p ∧ s.t 4 = .ref 1 0 0 ∧ s.t 5 = .ref 2 0 0 ∧ s.t 7 = iv ((j : Int) + 1) ∧ s.H[1]? = some (some ⟨28, 7, [[iv 1, iv 100, iv 0, iv (180 * (mm : Int)), iv rate, iv 6, bv false]]⟩) ∧ s.H[2]? = some (some ⟨33, 3, [[secsL R.Securities, holdsL R.Holdings, movesL R.Moves]]⟩) := ⟨_, rfl⟩
  refine aloop0 I (3) (by rw [hN]; rfl) ?_ ?_
  · rw [hI]
    exact ⟨0, R0, 0, by omega, by omega, r10, by omega, by omega, by simp -dsimp -implicitDefEqProofs [-getElem?_pos, go_sem], by simp -dsimp -implicitDefEqProofs [-getElem?_pos, go_sem], by simp -dsimp -implicitDefEqProofs [-getElem?_pos, go_sem], by simp -dsimp -implicitDefEqProofs [-getElem?_pos, go_sem], by simp -dsimp -implicitDefEqProofs [-getElem?_pos, go_sem], by simp -dsimp -implicitDefEqProofs [-getElem?_pos, go_sem]⟩
  intro m s hs'
  rw [hI] at hs'
  obtain ⟨j, R, T, hj, hm, rS, hT0, hT, t3, t4, t5, t7, g1, g2⟩ := hs'
  have l1 := (List.getElem?_eq_some_iff.1 g1).1
  have l2 := (List.getElem?_eq_some_iff.1 g2).1
  by_cases hj3 : j < 3
  · have dj : decide ((j : Int) + 1 ≤ 3) = true := decide_eq_true (by omega)
    have wj := wrap_in ((j : Int) + 1 + 1) (by omega)
    have iR := imm_reg R
    rw [cReg] at iR
    simp -dsimp -implicitDefEqProofs [-getElem?_pos, go_sem, hP, t7, dj]
    refine adrawB (fun _ => true) [9] hP (by kernel_rfl) (by kernel_rfl) ?_
    simp -dsimp -implicitDefEqProofs [-getElem?_pos, go_sem, hP, t5, g2, l2, t3, t7]
    refine callB_isQ (up (range_pf p src 1 20 (by omega) (by omega))) hP en_5 (by simp -dsimp -implicitDefEqProofs [-getElem?_pos, go_sem]) (rangeS_ex _ _ (by omega)) ?_
    rintro r ⟨z, rfl, bz, _⟩ _
    have bz := bz (by omega)
    have wz2 := wrap_in (100 * z) (by omega)
    obtain ⟨mo, rS'⟩ := regS_issue hb rS (hd := (j : Int) + 1) (n := 100 * z) (by omega) (by omega) (by omega) (by omega)
    have is := gissue_pf R 0 ⟨(j : Int) + 1, 0, 1, 1, 0, (j : Int) + 1, 100 * z⟩ rS.ok (by rw [rS.mv]; omega) (by rw [rS.mv]) ⟨rfl, rfl⟩
    have isx := moveQ_ex R 0 ⟨(j : Int) + 1, 0, 1, 1, 0, (j : Int) + 1, 100 * z⟩
    have e0 := moveE_zero mo
    rw [cReg] at is
    simp -dsimp -implicitDefEqProofs [-getElem?_pos, go_sem, hP, wz2, t7]
    refine callB_isQ (is.lift _ _) hP en_8 (by simpa [imm_sc] using iR) isx ?_
    rintro r ⟨R', rfl, hR'⟩ _
    have hR' := hR' e0
    rw [e0]
    simp -dsimp -implicitDefEqProofs [-getElem?_pos, go_sem, hP, cReg, t5, g2, l2, t7, wj]
    refine ⟨3 - (j + 1), by omega, ?_⟩
    rw [hI]
    refine ⟨j + 1, R', T + 100 * z, by omega, rfl, by rw [hR']; exact rS', by omega, by omega, by simp -dsimp -implicitDefEqProofs [-getElem?_pos, go_sem, t3], by simp -dsimp -implicitDefEqProofs [-getElem?_pos, go_sem, t4], by simp -dsimp -implicitDefEqProofs [-getElem?_pos, go_sem, t5], by simp -dsimp -implicitDefEqProofs [-getElem?_pos, go_sem], ?_, by simp -dsimp -implicitDefEqProofs [-getElem?_pos, go_sem, l2]⟩
    dsimp only
    rw [List.getElem?_set_ne (by omega)]
    exact g1
  · have hj3 : j = 3 := by omega
    subst hj3
    have dj : decide (((3 : Nat) : Int) + 1 ≤ 3) = false := decide_eq_false (by omega)
    have sn := snew_pf R 0 rS.ok (regS_noStr rS)
    have iR := imm_reg R
    obtain ⟨V0, hV0⟩ : ∃ V0 : TVault, V0 = ⟨R, []⟩ := ⟨_, rfl⟩
    have iV := imm_vlt V0
    have vs0 : VS mm rate V0 T 0 0 := by
      rw [hV0]
      exact ⟨rS, strS_nil _, by omega, by omega, by omega⟩
    rw [← hV0] at sn
    rw [cReg, cVlt] at sn
    rw [cReg] at iR
    rw [cVlt] at iV
    simp -dsimp -implicitDefEqProofs [-getElem?_pos, go_sem, hP, t7, dj]
    simp -dsimp -implicitDefEqProofs [-getElem?_pos, go_sem, hP, t5, g2, l2]
    refine callB_is (sn.lift _ _) hP en_9 (by simpa using iR) (imm_pair iV .sc) ?_
    simp -dsimp -implicitDefEqProofs [-getElem?_pos, go_sem, hP, t5, g2, l2, List.getElem?_append]
    refine callB_is (sn.lift _ _) hP en_9 (by simpa using iR) (imm_pair iV .sc) ?_
    simp -dsimp -implicitDefEqProofs [-getElem?_pos, go_sem, hP, t3]
    obtain ⟨B0, hB0⟩ : ∃ B0, B0 = s.H.length := ⟨_, rfl⟩
    obtain ⟨H1, hH1⟩ : ∃ H1 : Heap, H1 = s.H ++ [some ⟨40, 4, [[secsL V0.Register.Securities, holdsL V0.Register.Holdings, movesL V0.Register.Moves, stripsL V0.Strips]]⟩, some ⟨40, 4, [[secsL V0.Register.Securities, holdsL V0.Register.Holdings, movesL V0.Register.Moves, stripsL V0.Strips]]⟩] := ⟨_, rfl⟩
    have h1 : H1[1]? = some (some ⟨28, 7, [[iv 1, iv 100, iv 0, iv (180 * (mm : Int)), iv rate, iv 6, bv false]]⟩) := by rw [hH1, List.getElem?_append_left l1]; exact g1
    have hv1 : H1[B0]? = some (some ⟨40, 4, [[secsL V0.Register.Securities, holdsL V0.Register.Holdings, movesL V0.Register.Moves, stripsL V0.Strips]]⟩) := by rw [hH1, hB0]; simp
    have hv2 : H1[B0 + 1]? = some (some ⟨40, 4, [[secsL V0.Register.Securities, holdsL V0.Register.Holdings, movesL V0.Register.Moves, stripsL V0.Strips]]⟩) := by rw [hH1, hB0, List.getElem?_append_right (by omega)]; simp
    have B3 : 3 ≤ B0 := by omega
    rw [← hH1, ← hB0]
    refine callB_flat (up (N_pf p src 4 (by omega))) hP en_10 (args_same (by simp -dsimp -implicitDefEqProofs [-getElem?_pos, go_sem, t3])) (NQ_ex _) (NQ_flat _) ?_
    rintro r ⟨z, rfl, _, hz⟩
    have hz := hz (by omega)
    obtain ⟨c, rfl⟩ : ∃ c : Nat, z = c := ⟨z.toNat, by omega⟩
    simp -dsimp -implicitDefEqProofs [-getElem?_pos, go_sem, hP, t3, t4]
    obtain ⟨J, hJ⟩ : ∃ I : Nat → St → Prop, I = fun m s => ∃ (c : Nat) (V : TVault) (S : Int) (k : Nat), m = c ∧ k + c ≤ 3 ∧ VS mm rate V T S k ∧ s.t 3 = sp p ∧ s.t 4 = .ref 1 0 0 ∧ s.t 8 = .ref B0 0 0 ∧ s.t 10 = .ref (B0 + 1) 0 0 ∧ s.t 12 = iv c ∧ s.H[1]? = some (some ⟨28, 7, [[iv 1, iv 100, iv 0, iv (180 * (mm : Int)), iv rate, iv 6, bv false]]⟩) ∧ s.H[B0]? = some (some ⟨40, 4, [[secsL V0.Register.Securities, holdsL V0.Register.Holdings, movesL V0.Register.Moves, stripsL V0.Strips]]⟩) ∧ s.H[B0 + 1]? = some (some ⟨40, 4, [[secsL V.Register.Securities, holdsL V.Register.Holdings, movesL V.Register.Moves, stripsL V.Strips]]⟩) := ⟨_, rfl⟩
    refine aloop0 J (c) (by rw [hN]; rfl) ?_ ?_
    · rw [hJ]
      exact ⟨c, V0, 0, 0, rfl, by omega, vs0, by simp -dsimp -implicitDefEqProofs [-getElem?_pos, go_sem, t3], by simp -dsimp -implicitDefEqProofs [-getElem?_pos, go_sem, t4], by simp -dsimp -implicitDefEqProofs [-getElem?_pos, go_sem], by simp -dsimp -implicitDefEqProofs [-getElem?_pos, go_sem], by simp -dsimp -implicitDefEqProofs [-getElem?_pos, go_sem], h1, hv1, hv2⟩
    clear h1 hv1 hv2 hH1 hB0 g1 g2 l1 l2 t3 t4 t5 t7 hI hz
    intro m s hs'
    rw [hJ] at hs'
    obtain ⟨c, V, S, k, hmc, hkc, vs, t3, t4, t8, t10, t12, g1, g8, g10⟩ := hs'
    have l1 := (List.getElem?_eq_some_iff.1 g1).1
    have l8 := (List.getElem?_eq_some_iff.1 g8).1
    have l10 := (List.getElem?_eq_some_iff.1 g10).1
    simp -dsimp -implicitDefEqProofs [-getElem?_pos, go_sem, hP, t12]
    refine condP (fun hq => ?_) (fun hq => ?_)
    · have hc : 0 < c := by simpa using hq
      have wc := wrap_in ((c : Int) - 1) (by omega)
      have iV2 := imm_vlt V
      rw [cVlt] at iV2
      simp -dsimp -implicitDefEqProofs [-getElem?_pos, go_sem, hP]
      obtain ⟨N, hN0⟩ : ∃ N, N = s.H.length := ⟨_, rfl⟩
      refine adrawQ (fun i => decide (i < s.H.length)) [11] [2, 4, 6] hP (by kernel_rfl) (by kernel_rfl) ?_
      simp -dsimp -implicitDefEqProofs [-getElem?_pos, go_sem, hP, restr_get, t10, g10, l10, t3]
      refine callQ_isQ (up (range_pf p src 1 3 (by omega) (by omega))) hP en_5 (by simp -dsimp -implicitDefEqProofs [-getElem?_pos, go_sem]) (rangeS_ex _ _ (by omega)) ?_
      rintro r ⟨hd, rfl, ah, _⟩ _
      have ah := ah (by omega)
      simp -dsimp -implicitDefEqProofs [-getElem?_pos, go_sem, hP, t3]
      refine callQ_isQ (up (range_pf p src 1 5 (by omega) (by omega))) hP en_5 (by simp -dsimp -implicitDefEqProofs [-getElem?_pos, go_sem]) (rangeS_ex _ _ (by omega)) ?_
      rintro r ⟨z, rfl, az2, _⟩ _
      have az2 := az2 (by omega)
      have wz3 := wrap_in (100 * z) (by omega)
      have hsl : V.Strips.length + (daysS (bS mm rate)).length + 1 ≤ 400 := by
        have e1 := vs.str.len
        have e2 : (daysS (bS mm rate)).length = mm := by rw [days_bS hb]; simp [dayL]
        omega
      have spl := ssplit_pf (bS mm rate) bs V S 0 hd (100 * z) vs.vok (by omega) (by rw [vs.reg.mv]; omega) hsl
      have splx := splitQ_ex (bS mm rate) V 0 hd (100 * z)
      have spl : PFun Tryz.prog none none 11 [.agg [secsL V.Register.Securities, holdsL V.Register.Holdings, movesL V.Register.Moves, stripsL V.Strips], iv 0, iv 1, iv hd, iv (100 * z)] (SplitQ (bS mm rate) V 0 hd (100 * z)) := spl
      simp -dsimp -implicitDefEqProofs [-getElem?_pos, go_sem, hP, wz3]
      refine callQ_isQ (spl.lift _ _) hP en_11 (by simpa [imm_sc] using iV2) splx ?_
      rintro r ⟨V', rfl, hV'⟩ _
      obtain ⟨e, he⟩ : ∃ e, e = moveE V.Register.Securities V.Register.Holdings 0 (splitM (bS mm rate) V hd (100 * z)) := ⟨_, rfl⟩
      rw [← he] at hV' ⊢
      simp -dsimp -implicitDefEqProofs [-getElem?_pos, go_sem, hP, cVlt]
      refine ⟨agree_push (Nat.le_refl _), ?_⟩
      have lt8 : B0 < s.H.length := l8
      have ap : ∀ (q : Nat) (x : Heap) (o : Option AObj), q < s.H.length → s.H[q]? = some o → (s.H ++ x)[q]? = some o := fun q x o hq h => by rw [List.getElem?_append_left hq]; exact h
      have g1' := fun x => ap 1 x _ l1 g1
      have g8' := fun x => ap B0 x _ l8 g8
      have g10' := fun x => ap (B0 + 1) x _ l10 g10
      by_cases e0 : e = 0
      · have hV2 := hV' e0
        rw [e0] at he
        have vs' := vs.split hb (by omega) ah az2 he.symm
        rw [← hV2] at vs'
        simp -dsimp -implicitDefEqProofs [-getElem?_pos, go_sem, hP, e0, t10, g10', l10, t12, wc]
        refine ⟨c - 1, by omega, ?_⟩
        rw [hJ]
        refine ⟨c - 1, V', S + 100 * z, k + 1, rfl, by omega, vs', by simp -dsimp -implicitDefEqProofs [-getElem?_pos, go_sem, t3], by simp -dsimp -implicitDefEqProofs [-getElem?_pos, go_sem, t4], by simp -dsimp -implicitDefEqProofs [-getElem?_pos, go_sem, t8], by simp -dsimp -implicitDefEqProofs [-getElem?_pos, go_sem, t10], ?_, ?_, ?_, ?_⟩
        · simp -dsimp -implicitDefEqProofs [-getElem?_pos, go_sem]
          omega
        · dsimp only
          rw [List.getElem?_append_left (by simpa using l1), List.getElem?_set_ne (by omega)]; exact g1
        · dsimp only
          rw [List.getElem?_append_left (by simpa using l8), List.getElem?_set_ne (by omega)]; exact g8
        · dsimp only
          rw [List.getElem?_append_left (by simpa using l10)]; simp [l10]
      · simp -dsimp -implicitDefEqProofs [-getElem?_pos, go_sem, hP, e0, t12, wc]
        refine ⟨c - 1, by omega, ?_⟩
        rw [hJ]
        refine ⟨c - 1, V, S, k, rfl, by omega, vs, by simp -dsimp -implicitDefEqProofs [-getElem?_pos, go_sem, t3], by simp -dsimp -implicitDefEqProofs [-getElem?_pos, go_sem, t4], by simp -dsimp -implicitDefEqProofs [-getElem?_pos, go_sem, t8], by simp -dsimp -implicitDefEqProofs [-getElem?_pos, go_sem, t10], ?_, ?_, ?_, ?_⟩
        · simp -dsimp -implicitDefEqProofs [-getElem?_pos, go_sem]
          omega
        · exact g1' _
        · exact g8' _
        · exact g10' _
    · have hc : c = 0 := by
        have : ¬ 0 < c := by simpa using hq
        omega
      subst hc
      clear hJ
      have dp := cdays_pf (bS mm rate) bs.ok bs.ev
      obtain ⟨_, hdl0⟩ := days_ne bs
      have pnd := fun (day : Int) (hd : day ∈ daysS (bS mm rate)) => pend_diff hb vs0 vs hd
      have iL := imm_intsX (daysS (bS mm rate))
      have lenL : (daysS (bS mm rate)).length ≤ 4 := by rw [days_bS hb]; simp [dayL]; omega
      obtain ⟨L, hL⟩ : ∃ L, L = daysS (bS mm rate) := ⟨_, rfl⟩
      rw [← hL] at dp iL lenL pnd
      rw [cb] at dp
      have iV1 := imm_vlt V
      rw [cVlt] at iV1
      simp -dsimp -implicitDefEqProofs [-getElem?_pos, go_sem, hP, t4, g1, l1]
      refine callB_is (dp.lift _ _) hP en_12 (by simpa using ib) iL ?_
      simp -dsimp -implicitDefEqProofs [-getElem?_pos, go_sem, hP, intsL]
      obtain ⟨K, hK⟩ : ∃ I : Nat → St → Prop, I = fun m s => ∃ (k2 : Nat) (P Q : Int), k2 ≤ L.length ∧ m = L.length - k2 ∧ (0 ≤ P ∧ P ≤ 20000 * (k2 : Int)) ∧ (0 ≤ Q ∧ Q ≤ 20000 * (k2 : Int)) ∧ (P - Q ≤ 10 * (k2 : Int) ∧ Q - P ≤ 10 * (k2 : Int)) ∧ s.t 4 = .ref 1 0 0 ∧ s.t 8 = .ref B0 0 0 ∧ s.t 10 = .ref (B0 + 1) 0 0 ∧ s.t 15 = iv P ∧ s.t 16 = iv Q ∧ s.t 17 = iv k2 ∧ s.t 98 = intsL L ∧ s.t 99 = iv L.length ∧ s.t 100 = iv k2 ∧ s.H[1]? = some (some ⟨28, 7, [[iv 1, iv 100, iv 0, iv (180 * (mm : Int)), iv rate, iv 6, bv false]]⟩) ∧ s.H[B0]? = some (some ⟨40, 4, [[secsL V0.Register.Securities, holdsL V0.Register.Holdings, movesL V0.Register.Moves, stripsL V0.Strips]]⟩) ∧ s.H[B0 + 1]? = some (some ⟨40, 4, [[secsL V.Register.Securities, holdsL V.Register.Holdings, movesL V.Register.Moves, stripsL V.Strips]]⟩) := ⟨_, rfl⟩
      refine aloop0 K (L.length) (by rw [hN]; rfl) ?_ ?_
      · rw [hK]
        exact ⟨0, 0, 0, by omega, by omega, by omega, by omega, by omega, by simp -dsimp -implicitDefEqProofs [-getElem?_pos, go_sem, t4], by simp -dsimp -implicitDefEqProofs [-getElem?_pos, go_sem, t8], by simp -dsimp -implicitDefEqProofs [-getElem?_pos, go_sem, t10], by simp -dsimp -implicitDefEqProofs [-getElem?_pos, go_sem], by simp -dsimp -implicitDefEqProofs [-getElem?_pos, go_sem], by simp -dsimp -implicitDefEqProofs [-getElem?_pos, go_sem], by simp -dsimp -implicitDefEqProofs [-getElem?_pos, go_sem, intsL], by simp -dsimp -implicitDefEqProofs [-getElem?_pos, go_sem], by simp -dsimp -implicitDefEqProofs [-getElem?_pos, go_sem], g1, g8, g10⟩
      clear g1 g8 g10 l1 l8 l10 t3 t4 t8 t10 t12 hq hmc
      intro m s hs'
      rw [hK] at hs'
      obtain ⟨k2, P, Q, hk2, hm2, hP2, hQ2, hPQ, t4, t8, t10, t15, t16, t17, t98, t99, t100, g1, g8, g10⟩ := hs'
      have l1 := (List.getElem?_eq_some_iff.1 g1).1
      have l8 := (List.getElem?_eq_some_iff.1 g8).1
      have l10 := (List.getElem?_eq_some_iff.1 g10).1
      simp -dsimp -implicitDefEqProofs [-getElem?_pos, go_sem, hP, t99, t100]
      refine condP (fun hq => ?_) (fun hq => ?_)
      · have hkL : k2 < L.length := by simpa using hq
        obtain ⟨day, hday⟩ : ∃ day, L[k2]? = some day := ⟨_, List.getElem?_eq_getElem hkL⟩
        have hdm : day ∈ daysS (bS mm rate) := by rw [← hL]; exact List.mem_of_getElem? hday
        have wk2 := wrap_in ((k2 : Int) + 1) (by omega)
        have p0 := spending_pf (bS mm rate) bs V0 0 0 day (vs0.pend hb hdm)
        have p0x := pendQ_ex (bS mm rate) bs V0 0 0 day (vs0.pend hb hdm)
        have p1 := spending_pf (bS mm rate) bs V S 0 day (vs.pend hb hdm)
        have p1x := pendQ_ex (bS mm rate) bs V S 0 day (vs.pend hb hdm)
        have pd := pend_diff hb vs0 vs hdm
        have pb0 := pend_bnd hb vs0 hdm
        have pb1 := pend_bnd hb vs hdm
        rw [cVlt] at p0 p1
        simp -dsimp -implicitDefEqProofs [-getElem?_pos, go_sem, hP, t98, t100, hday, intsL]
        simp -dsimp -implicitDefEqProofs [-getElem?_pos, go_sem, hP, t8, g8, l8]
        refine callB_isQ (p0.lift _ _) hP en_13 (by simpa [imm_sc] using iV) p0x ?_
        rintro r ⟨A, rfl, hA, hAp, hAl⟩ iA
        simp -dsimp -implicitDefEqProofs [-getElem?_pos, go_sem, hP, t10, g10, l10]
        refine callB_isQ (p1.lift _ _) hP en_13 (by simpa [imm_sc] using iV1) p1x ?_
        rintro r ⟨C, rfl, hC, hCp, hCl⟩ iC
        obtain ⟨a, ha⟩ : ∃ a, a = pendD (bS mm rate) V0.Register.Holdings V0.Strips day := ⟨_, rfl⟩
        obtain ⟨c, hc⟩ : ∃ c, c = pendD (bS mm rate) V.Register.Holdings V.Strips day := ⟨_, rfl⟩
        rw [← ha] at hA pd pb0
        rw [← hc] at hC pd pb1
        have nA := (sumD_nn hAp).1
        have nC := (sumD_nn hCp).1
        simp -dsimp -implicitDefEqProofs [-getElem?_pos, go_sem, hP, encL_len]
        obtain ⟨IA, hIA⟩ : ∃ I : Nat → St → Prop, I = fun m s => ∃ (k : Nat), k ≤ A.length ∧ m = A.length - k ∧ s.t 4 = .ref 1 0 0 ∧ s.t 8 = .ref B0 0 0 ∧ s.t 10 = .ref (B0 + 1) 0 0 ∧ s.t 15 = iv (P + sumD (A.take k)) ∧ s.t 16 = iv (Q) ∧ s.t 17 = iv k2 ∧ s.t 22 = duesL C ∧ s.t 98 = intsL L ∧ s.t 99 = iv L.length ∧ s.t 100 = iv k2 ∧ s.t 122 = duesL A ∧ s.t 123 = iv A.length ∧ s.t 124 = iv k ∧ s.H[1]? = some (some ⟨28, 7, [[iv 1, iv 100, iv 0, iv (180 * (mm : Int)), iv rate, iv 6, bv false]]⟩) ∧ s.H[B0]? = some (some ⟨40, 4, [[secsL V0.Register.Securities, holdsL V0.Register.Holdings, movesL V0.Register.Moves, stripsL V0.Strips]]⟩) ∧ s.H[B0 + 1]? = some (some ⟨40, 4, [[secsL V.Register.Securities, holdsL V.Register.Holdings, movesL V.Register.Moves, stripsL V.Strips]]⟩) := ⟨_, rfl⟩
        refine aloop0 IA (A.length) (by rw [hN]; rfl) ?_ ?_
        · rw [hIA]
          exact ⟨0, by omega, by omega, by simp -dsimp -implicitDefEqProofs [-getElem?_pos, go_sem, t4], by simp -dsimp -implicitDefEqProofs [-getElem?_pos, go_sem, t8], by simp -dsimp -implicitDefEqProofs [-getElem?_pos, go_sem, t10], by simp -dsimp -implicitDefEqProofs [-getElem?_pos, go_sem, t15, sumD], by simp -dsimp -implicitDefEqProofs [-getElem?_pos, go_sem, t16, sumD], by simp -dsimp -implicitDefEqProofs [-getElem?_pos, go_sem, t17], by simp -dsimp -implicitDefEqProofs [-getElem?_pos, go_sem], by simp -dsimp -implicitDefEqProofs [-getElem?_pos, go_sem, t98], by simp -dsimp -implicitDefEqProofs [-getElem?_pos, go_sem, t99], by simp -dsimp -implicitDefEqProofs [-getElem?_pos, go_sem, t100], by simp -dsimp -implicitDefEqProofs [-getElem?_pos, go_sem], by simp -dsimp -implicitDefEqProofs [-getElem?_pos, go_sem], by simp -dsimp -implicitDefEqProofs [-getElem?_pos, go_sem], by simp -dsimp -implicitDefEqProofs [-getElem?_pos, go_sem, g1], by simp -dsimp -implicitDefEqProofs [-getElem?_pos, go_sem, g8], by simp -dsimp -implicitDefEqProofs [-getElem?_pos, go_sem, g10]⟩
        clear g1 g8 g10 l1 l8 l10 t4 t8 t10 t15 t16 t17 t98 t99 t100
        intro m s hs'
        rw [hIA] at hs'
        obtain ⟨k, hk, hmA, t4, t8, t10, t15, t16, t17, t22, t98, t99, t100, t122, t123, t124, g1, g8, g10⟩ := hs'
        have l1 := (List.getElem?_eq_some_iff.1 g1).1
        have l8 := (List.getElem?_eq_some_iff.1 g8).1
        have l10 := (List.getElem?_eq_some_iff.1 g10).1
        simp -dsimp -implicitDefEqProofs [-getElem?_pos, go_sem, hP, t123, t124]
        refine condP (fun hq2 => ?_) (fun hq2 => ?_)
        · have hk' : k < A.length := by simpa using hq2
          obtain ⟨x, hx⟩ : ∃ x, A[k]? = some x := ⟨_, List.getElem?_eq_getElem hk'⟩
          have wk := wrap_in ((k : Int) + 1) (by omega)
          have st := sumD_step hAp hx
          have xp := hAp x (List.mem_of_getElem? hx)
          obtain ⟨z0, hz0⟩ : ∃ z0, z0 = sumD (A.take k) := ⟨_, rfl⟩
          rw [← hz0] at st t15
          have wz := wrap_in (P + z0 + x.Amount) (by omega)
          have st1 : P + sumD (A.take (k + 1)) = P + z0 + x.Amount := by omega
          simp -dsimp -implicitDefEqProofs [-getElem?_pos, go_sem, hP, t122, t124, hx, cDue, t15, wz, wk]
          refine ⟨A.length - (k + 1), by omega, ?_⟩
          rw [hIA]
          refine ⟨k + 1, by omega, rfl, by simp -dsimp -implicitDefEqProofs [-getElem?_pos, go_sem, t4], by simp -dsimp -implicitDefEqProofs [-getElem?_pos, go_sem, t8], by simp -dsimp -implicitDefEqProofs [-getElem?_pos, go_sem, t10], by simp -dsimp -implicitDefEqProofs [-getElem?_pos, go_sem, t15, st1], by simp -dsimp -implicitDefEqProofs [-getElem?_pos, go_sem, t16, st1], by simp -dsimp -implicitDefEqProofs [-getElem?_pos, go_sem, t17], by simp -dsimp -implicitDefEqProofs [-getElem?_pos, go_sem, t22], by simp -dsimp -implicitDefEqProofs [-getElem?_pos, go_sem, t98], by simp -dsimp -implicitDefEqProofs [-getElem?_pos, go_sem, t99], by simp -dsimp -implicitDefEqProofs [-getElem?_pos, go_sem, t100], by simp -dsimp -implicitDefEqProofs [-getElem?_pos, go_sem, t122], by simp -dsimp -implicitDefEqProofs [-getElem?_pos, go_sem, t123], by simp -dsimp -implicitDefEqProofs [-getElem?_pos, go_sem], ?_, ?_, ?_⟩ <;> dsimp only
          · rw [List.getElem?_append_left l1]; exact g1
          · rw [List.getElem?_append_left l8]; exact g8
          · rw [List.getElem?_append_left l10]; exact g10
        have hk : k = A.length := by simp at hq2; omega
        subst hk
        rw [List.take_length, hA] at t15
        clear hIA
        simp -dsimp -implicitDefEqProofs [-getElem?_pos, go_sem, hP, t22, encL_len]
        obtain ⟨IC, hIC⟩ : ∃ I : Nat → St → Prop, I = fun m s => ∃ (k : Nat), k ≤ C.length ∧ m = C.length - k ∧ s.t 4 = .ref 1 0 0 ∧ s.t 8 = .ref B0 0 0 ∧ s.t 10 = .ref (B0 + 1) 0 0 ∧ s.t 15 = iv (P + a) ∧ s.t 16 = iv (Q + sumD (C.take k)) ∧ s.t 17 = iv k2 ∧ s.t 22 = duesL C ∧ s.t 98 = intsL L ∧ s.t 99 = iv L.length ∧ s.t 100 = iv k2 ∧ s.t 133 = duesL C ∧ s.t 134 = iv C.length ∧ s.t 135 = iv k ∧ s.H[1]? = some (some ⟨28, 7, [[iv 1, iv 100, iv 0, iv (180 * (mm : Int)), iv rate, iv 6, bv false]]⟩) ∧ s.H[B0]? = some (some ⟨40, 4, [[secsL V0.Register.Securities, holdsL V0.Register.Holdings, movesL V0.Register.Moves, stripsL V0.Strips]]⟩) ∧ s.H[B0 + 1]? = some (some ⟨40, 4, [[secsL V.Register.Securities, holdsL V.Register.Holdings, movesL V.Register.Moves, stripsL V.Strips]]⟩) := ⟨_, rfl⟩
        refine aloop0 IC (C.length) (by rw [hN]; rfl) ?_ ?_
        · rw [hIC]
          exact ⟨0, by omega, by omega, by simp -dsimp -implicitDefEqProofs [-getElem?_pos, go_sem, t4], by simp -dsimp -implicitDefEqProofs [-getElem?_pos, go_sem, t8], by simp -dsimp -implicitDefEqProofs [-getElem?_pos, go_sem, t10], by simp -dsimp -implicitDefEqProofs [-getElem?_pos, go_sem, t15, sumD], by simp -dsimp -implicitDefEqProofs [-getElem?_pos, go_sem, t16, sumD], by simp -dsimp -implicitDefEqProofs [-getElem?_pos, go_sem, t17], by simp -dsimp -implicitDefEqProofs [-getElem?_pos, go_sem, t22], by simp -dsimp -implicitDefEqProofs [-getElem?_pos, go_sem, t98], by simp -dsimp -implicitDefEqProofs [-getElem?_pos, go_sem, t99], by simp -dsimp -implicitDefEqProofs [-getElem?_pos, go_sem, t100], by simp -dsimp -implicitDefEqProofs [-getElem?_pos, go_sem, t22], by simp -dsimp -implicitDefEqProofs [-getElem?_pos, go_sem], by simp -dsimp -implicitDefEqProofs [-getElem?_pos, go_sem], by simp -dsimp -implicitDefEqProofs [-getElem?_pos, go_sem, g1], by simp -dsimp -implicitDefEqProofs [-getElem?_pos, go_sem, g8], by simp -dsimp -implicitDefEqProofs [-getElem?_pos, go_sem, g10]⟩
        clear g1 g8 g10 l1 l8 l10 t4 t8 t10 t15 t16 t17 t22 t98 t99 t100
        intro m s hs'
        rw [hIC] at hs'
        obtain ⟨k, hk, hmC, t4, t8, t10, t15, t16, t17, t22, t98, t99, t100, t133, t134, t135, g1, g8, g10⟩ := hs'
        have l1 := (List.getElem?_eq_some_iff.1 g1).1
        have l8 := (List.getElem?_eq_some_iff.1 g8).1
        have l10 := (List.getElem?_eq_some_iff.1 g10).1
        simp -dsimp -implicitDefEqProofs [-getElem?_pos, go_sem, hP, t134, t135]
        refine condP (fun hq2 => ?_) (fun hq2 => ?_)
        · have hk' : k < C.length := by simpa using hq2
          obtain ⟨x, hx⟩ : ∃ x, C[k]? = some x := ⟨_, List.getElem?_eq_getElem hk'⟩
          have wk := wrap_in ((k : Int) + 1) (by omega)
          have st := sumD_step hCp hx
          have xp := hCp x (List.mem_of_getElem? hx)
          obtain ⟨z0, hz0⟩ : ∃ z0, z0 = sumD (C.take k) := ⟨_, rfl⟩
          rw [← hz0] at st t16
          have wz := wrap_in (Q + z0 + x.Amount) (by omega)
          have st1 : Q + sumD (C.take (k + 1)) = Q + z0 + x.Amount := by omega
          simp -dsimp -implicitDefEqProofs [-getElem?_pos, go_sem, hP, t133, t135, hx, cDue, t16, wz, wk]
          refine ⟨C.length - (k + 1), by omega, ?_⟩
          rw [hIC]
          refine ⟨k + 1, by omega, rfl, by simp -dsimp -implicitDefEqProofs [-getElem?_pos, go_sem, t4], by simp -dsimp -implicitDefEqProofs [-getElem?_pos, go_sem, t8], by simp -dsimp -implicitDefEqProofs [-getElem?_pos, go_sem, t10], by simp -dsimp -implicitDefEqProofs [-getElem?_pos, go_sem, t15, st1], by simp -dsimp -implicitDefEqProofs [-getElem?_pos, go_sem, t16, st1], by simp -dsimp -implicitDefEqProofs [-getElem?_pos, go_sem, t17], by simp -dsimp -implicitDefEqProofs [-getElem?_pos, go_sem, t22], by simp -dsimp -implicitDefEqProofs [-getElem?_pos, go_sem, t98], by simp -dsimp -implicitDefEqProofs [-getElem?_pos, go_sem, t99], by simp -dsimp -implicitDefEqProofs [-getElem?_pos, go_sem, t100], by simp -dsimp -implicitDefEqProofs [-getElem?_pos, go_sem, t133], by simp -dsimp -implicitDefEqProofs [-getElem?_pos, go_sem, t134], by simp -dsimp -implicitDefEqProofs [-getElem?_pos, go_sem], ?_, ?_, ?_⟩ <;> dsimp only
          · rw [List.getElem?_append_left l1]; exact g1
          · rw [List.getElem?_append_left l8]; exact g8
          · rw [List.getElem?_append_left l10]; exact g10
        have hk : k = C.length := by simp at hq2; omega
        subst hk
        rw [List.take_length, hC] at t16
        clear hIC
        simp -dsimp -implicitDefEqProofs [-getElem?_pos, go_sem, hP, t17, t100, wk2]
        refine ⟨L.length - (k2 + 1), by omega, ?_⟩
        rw [hK]
        refine ⟨k2 + 1, P + a, Q + c, by omega, rfl, by omega, by omega, by omega, by simp -dsimp -implicitDefEqProofs [-getElem?_pos, go_sem, t4], by simp -dsimp -implicitDefEqProofs [-getElem?_pos, go_sem, t8], by simp -dsimp -implicitDefEqProofs [-getElem?_pos, go_sem, t10], by simp -dsimp -implicitDefEqProofs [-getElem?_pos, go_sem, t15], by simp -dsimp -implicitDefEqProofs [-getElem?_pos, go_sem, t16], by simp -dsimp -implicitDefEqProofs [-getElem?_pos, go_sem], by simp -dsimp -implicitDefEqProofs [-getElem?_pos, go_sem, t98], by simp -dsimp -implicitDefEqProofs [-getElem?_pos, go_sem, t99], by simp -dsimp -implicitDefEqProofs [-getElem?_pos, go_sem], ?_, ?_, ?_⟩
        · exact g1
        · exact g8
        · exact g10
      · have hk2 : k2 = L.length := by simp at hq; omega
        subst hk2
        clear hK
        obtain ⟨hM, d, okE⟩ := vs.pay hb
        have hds : ∀ x, x ∈ V.Strips → x.Day ≤ (bS mm rate).Maturity := fun x hx => by
          have e := (vs.str.el x hx).day
          by_cases hp : x.Principal = true
          · rw [if_pos hp] at e
            rw [e]
            exact Int.le_refl _
          · rw [if_neg hp, days_bS hb] at e
            obtain ⟨i, hi, e⟩ := List.mem_map.1 e
            have := List.mem_range.1 hi
            rw [← e]
            show _ ≤ 180 * (mm : Int)
            omega
        have sp := spay_pf (bS mm rate) bs V S 0 vs.vok (by rw [vs.reg.mv]; have := vs.k3; omega) hds hM
        obtain ⟨R, hR⟩ : ∃ R, R = payR (bS mm rate) V S := ⟨_, rfl⟩
        rw [← hR] at sp okE
        have hl := gheld_pf R d 1 1000 okE.reg
        have h0 : heldH R.Holdings 1 1000 = 0 := okE.held
        rw [h0] at hl
        have ck := scheck_pf (bS mm rate) bs ⟨R, []⟩ 0 d okE
        have cV : (⟨R, []⟩ : TVault).cells = [secsL R.Securities, holdsL R.Holdings, movesL R.Moves, stripsL []] := rfl
        have iE := imm_vlt ⟨R, []⟩
        have iR := imm_reg R
        rw [cVlt, show (bS mm rate).Maturity = 180 * (mm : Int) from rfl, cV] at sp
        rw [cReg] at hl iR
        rw [cV] at ck iE
        have w1 := wrap_in (P - Q) (by omega)
        have w2 := wrap_in (Q - P) (by omega)
        have w3 := wrap_in (10 * (L.length : Int)) (by omega)
        have d1 : decide (P - Q ≤ 10 * (L.length : Int)) = true := decide_eq_true (by omega)
        have d2 : decide (Q - P ≤ 10 * (L.length : Int)) = true := decide_eq_true (by omega)
        simp -dsimp -implicitDefEqProofs [-getElem?_pos, go_sem, hP, t10, g10, l10, t4, g1, l1]
        refine callB_is (sp.lift _ _) hP en_14 (by simpa [imm_sc] using iV1) (imm_pair iE .sc) ?_
        simp -dsimp -implicitDefEqProofs [-getElem?_pos, go_sem, hP, t15, t16, t17, w1, w2, w3, d1, d2]
        refine callB_is (hl.lift _ _) hP en_15 (by simpa [imm_sc] using iR) .sc ?_
        simp -dsimp -implicitDefEqProofs [-getElem?_pos, go_sem, hP]
        refine callB_is (ck.lift _ _) hP en_16 (by simpa [imm_sc] using iE) .sc ?_
        simp -dsimp -implicitDefEqProofs [-getElem?_pos, go_sem, hP]
        refine callB_is (awake45_pf _ _) hP en_17 (by simp -dsimp -implicitDefEqProofs [-getElem?_pos, go_sem]) .sc ?_
        simp -dsimp -implicitDefEqProofs [-getElem?_pos, go_sem, hP]
        try exact done_imm rfl .sc
end Go.Proofs.YtkcfmmpcpdlfeaaGreatDoor
