/- Coupons. -/
import Derived.Test.YtkcfmmpcpdlfeaaGreatDoorReg10
import Derived.Test.YtkcfmmpcpdlfeaaGreatDoorStr1
import Derived.Test.YtkcfmmpcpdlfeaaGreatDoorInts
set_option linter.unusedSimpArgs false
set_option linter.unusedVariables false
namespace Go.Proofs.YtkcfmmpcpdlfeaaGreatDoor
open Go.PA
open Go.RowKit

abbrev duesL (l : List TDue) : AV := .list 5 (encL TDue.cells l)
theorem cDue (x : TDue) : x.cells = [iv x.Day, iv x.Security, iv x.Holder, iv x.Kind, iv x.Amount] := rfl
theorem imm_dues (l : List TDue) : Imm (duesL l) := imm_encL _ TDue.imm _
theorem cnearest_pf (n : Int) (h : 0 ≤ n ∧ n ≤ 1000000000000000000) : PFun Tryz.prog none none 80 [iv n, iv 1200000] (· = iv ((n + 600000) / 1200000)) := by
  refine pfun_intro Tryz.func80 rfl (by simp [Tryz.f80]) (by kernel_rfl) ?_
  intro E hP hr hs hW hN
  have w1 := wrap_in (n + 600000) (by omega)
  have w2 : IntKind.i64.wrap ((1200000 : Int).tdiv 2) = 600000 := by decide
  have t : (n + 600000).tdiv 1200000 = (n + 600000) / 1200000 := Int.tdiv_eq_ediv_of_nonneg (by omega)
  have w3 := wrap_in ((n + 600000) / 1200000) (by omega)
  have w4 := wrap_in 600000 (by omega)
  simp -dsimp -implicitDefEqProofs [-getElem?_pos, go_sem, hP, w1, w2, w4, t, w3]
theorem ccheck_pf2 (s : TSecurity) (n : Int) (hs0 : secB s = true) (hn : 0 ≤ n ∧ n ≤ 1000000000000) : PFun Tryz.prog none none 79 [.agg s.cells, iv n] (· = iv 0) := by
  have sp := gsec_pf s hs0
  have hv := bet_yes hn
  rw [cSec] at sp
  refine pfun_intro Tryz.func79 rfl (by simp [Tryz.f79]) (by kernel_rfl) ?_
  intro E hP hr hs hW hN
  simp -dsimp -implicitDefEqProofs [-getElem?_pos, go_sem, hP, cSec]
  refine callB_pure sp hP en_22 (args_same (by simp -dsimp -implicitDefEqProofs [-getElem?_pos, go_sem])) .sc ?_
  simp -dsimp -implicitDefEqProofs [-getElem?_pos, go_sem, hP]
  refine callB_pure (gvalid_pf n) hP en_100 (args_same (by simp -dsimp -implicitDefEqProofs [-getElem?_pos, go_sem])) .sc ?_
  simp -dsimp -implicitDefEqProofs [-getElem?_pos, go_sem, hP, hv]
theorem coupon_pf (s : TSecurity) (n : Int) (hs0 : secB s = true) (hn : 0 ≤ n ∧ n ≤ 1000000000) : PFun Tryz.prog none none 37 [.agg s.cells, iv n] (· = .tup [iv (coupD s n), iv 0]) := by
  have so := secOk hs0
  have ck := ccheck_pf2 s n hs0 (by omega)
  have is := imm_sec s
  have b1 : 0 ≤ n * s.Rate ∧ n * s.Rate ≤ 1000000000 * 20000 := ⟨Int.mul_nonneg hn.1 so.rate.1, Int.mul_le_mul hn.2 so.rate.2 so.rate.1 (by omega)⟩
  have e1 : 0 ≤ s.Every ∧ s.Every ≤ 12 := by rcases so.every with ⟨e, _⟩ | ⟨e | e | e | e, _⟩ <;> omega
  have b2 : 0 ≤ n * s.Rate * s.Every ∧ n * s.Rate * s.Every ≤ 1000000000 * 20000 * 12 := ⟨Int.mul_nonneg b1.1 e1.1, Int.mul_le_mul b1.2 e1.2 e1.1 (by omega)⟩
  have w1 := wrap_in (n * s.Rate) (by omega)
  have w2 := wrap_in (n * s.Rate * s.Every) (by omega)
  have nr := cnearest_pf (n * s.Rate * s.Every) (by omega)
  rw [cSec] at ck is
  refine pfun_intro Tryz.func37 rfl (by simp [Tryz.f37]) (by kernel_rfl) ?_
  intro E hP hr hs hW hN
  simp -dsimp -implicitDefEqProofs [-getElem?_pos, go_sem, hP, cSec]
  refine callB_is (ck.lift _ _) hP en_79 (by simpa [imm_sc] using is) .sc ?_
  simp -dsimp -implicitDefEqProofs [-getElem?_pos, go_sem, hP, w1, w2]
  refine callB_pure nr hP en_80 (args_same (by simp -dsimp -implicitDefEqProofs [-getElem?_pos, go_sem])) .sc ?_
  simp -dsimp -implicitDefEqProofs [-getElem?_pos, go_sem, hP]
  exact done_imm (imm_pair .sc .sc) rfl
theorem plain1_pf (s : TSecurity) (n : Int) (hs0 : secB s = true) (hn : 0 ≤ n ∧ n ≤ 1000000000) : PFun Tryz.prog none none 110 [iv n, .iref s.cells] (· = .tup [iv (coupD s n), iv 0]) := by
  have cp := coupon_pf s n hs0 hn
  have is := imm_sec s
  rw [cSec] at cp is
  refine pfun_intro Tryz.func110 rfl (by simp [Tryz.f110]) (by kernel_rfl) ?_
  intro E hP hr hs hW hN
  simp -dsimp -implicitDefEqProofs [-getElem?_pos, go_sem, hP, cSec]
  refine callB_is (cp.lift _ _) hP en_37 (by simpa [imm_sc] using is) (imm_pair .sc .sc) ?_
  simp -dsimp -implicitDefEqProofs [-getElem?_pos, go_sem, hP]
  exact done_imm (imm_pair .sc .sc) rfl
theorem plain2_pf (n : Int) : PFun Tryz.prog none none 111 [iv n] (· = .tup [iv n, iv 0]) := by
  refine pfun_intro Tryz.func111 rfl (by simp [Tryz.f111]) (by kernel_rfl) ?_
  intro E hP hr hs hW hN
  simp -dsimp -implicitDefEqProofs [-getElem?_pos, go_sem, hP]
  exact done_imm (imm_pair .sc .sc) rfl
/-- The days of a security with coupons. -/
theorem days_arith {s : TSecurity} (so : SecOk s) (he : s.Every ≠ 0) : ∃ (q : Int) (n : Nat), 30 * s.Every = q ∧ (30 ≤ q ∧ q ≤ 360) ∧ s.Maturity = s.Issued + q * n ∧ n ≤ 600 ∧ daysS s = (List.range n).map fun i : Nat => s.Issued + q * ((i : Int) + 1) := by
  have h1 := so.every
  have h2 := so.mat
  have hE : (s.Every = 1 ∨ s.Every = 3 ∨ s.Every = 6 ∨ s.Every = 12) ∧ (s.Maturity - s.Issued) % (30 * s.Every) = 0 := by
    rcases h1 with ⟨e, _⟩ | h1
    · exact absurd e he
    · exact h1
  have hq : 30 ≤ 30 * s.Every ∧ 30 * s.Every ≤ 360 := by omega
  have hd := Int.mul_ediv_cancel_of_emod_eq_zero hE.2
  obtain ⟨k, hk⟩ : ∃ k, k = (s.Maturity - s.Issued) / (30 * s.Every) := ⟨_, rfl⟩
  rw [← hk] at hd
  have hkn : 0 ≤ k := by rw [hk]; exact Int.ediv_nonneg (by omega) (by omega)
  have hku : k ≤ 600 := by
    rw [hk]
    rcases hE.1 with e | e | e | e <;> rw [e] <;> omega
  refine ⟨30 * s.Every, k.toNat, rfl, hq, ?_, by omega, ?_⟩
  · rw [Int.toNat_of_nonneg hkn]
    omega
  · unfold daysS
    rw [if_neg he, ← hk]
set_option maxHeartbeats 2000000 in
theorem cdays_pf (B : TSecurity) (hs0 : secB B = true) (he : B.Every ≠ 0) : PFun Tryz.prog none none 12 [.agg B.cells] (· = intsL (daysS B)) := by
  have so := secOk hs0
  obtain ⟨q, n, hq, hqb, hm, hn, hd⟩ := days_arith so he
  have sp := gsec_pf B hs0
  rw [cSec] at sp
  have h1 := so.iss
  have h2 := so.mat
  have hb : ∀ k : Nat, k ≤ n → 0 ≤ q * (k : Int) ∧ q * (k : Int) ≤ 360 * 600 := fun k hk => ⟨Int.mul_nonneg (by omega) (by omega), Int.mul_le_mul hqb.2 (by omega) (by omega) (by omega)⟩
  have wq : IntKind.i64.wrap (30 * B.Every) = q := by rw [hq]; exact wrap_in q (by omega)
  obtain ⟨L, hL⟩ : ∃ L, L = daysS B := ⟨_, rfl⟩
  rw [← hL]
  have hLn : L.length = n := by rw [hL, hd]; simp
  have hLk : ∀ k : Nat, k < n → L.take (k + 1) = L.take k ++ [B.Issued + q * ((k : Int) + 1)] := fun k hk => by
    rw [hL, hd, ← List.map_take, ← List.map_take, List.take_range, List.take_range, Nat.min_eq_left (by omega), Nat.min_eq_left (by omega), List.range_succ]
    simp
  refine pfun_intro Tryz.func12 rfl (by simp [Tryz.f12]) (by kernel_rfl) ?_
  intro E hP hr hs hW hN
  simp -dsimp -implicitDefEqProofs [-getElem?_pos, go_sem, hP, cSec]
  refine callB_pure sp hP en_22 (args_same (by simp -dsimp -implicitDefEqProofs [-getElem?_pos, go_sem])) .sc ?_
  have w0 := wrap_in (B.Issued + q) (by omega)
  simp -dsimp -implicitDefEqProofs [-getElem?_pos, go_sem, hP, he, wq, w0]
  refine aloop_own 3 3 1 (by simp -dsimp -implicitDefEqProofs [-getElem?_pos, go_sem]) ?_
  obtain ⟨I, hI⟩ : ∃ I : Nat → St → Prop, I = fun m s => ∃ (k id : Nat), k ≤ n ∧ m = n - k ∧ s.t 1 = .ref 0 0 0 ∧ s.t 3 = .sref id 0 k ∧ s.t 4 = iv (B.Issued + q * ((k : Int) + 1)) ∧ s.H[0]? = some (some ⟨28, 7, [[iv B.ID, iv B.Unit, iv B.Issued, iv B.Maturity, iv B.Rate, iv B.Every, bv B.Indexed]]⟩) ∧ id ≠ 0 ∧ s.H[id]? = some (some ⟨3, 1, (L.take k).map fun x => [iv x]⟩) := ⟨_, rfl⟩
  refine aloop0 I (n) (by rw [hN]; rfl) ?_ ?_
  · rw [hI]
    exact ⟨0, 1, by omega, by omega, by simp -dsimp -implicitDefEqProofs [-getElem?_pos, go_sem], by simp -dsimp -implicitDefEqProofs [-getElem?_pos, go_sem], by simp -dsimp -implicitDefEqProofs [-getElem?_pos, go_sem], by simp -dsimp -implicitDefEqProofs [-getElem?_pos, go_sem], by omega, by simp -dsimp -implicitDefEqProofs [-getElem?_pos, go_sem]⟩
  intro m s hs'
  rw [hI] at hs'
  obtain ⟨k, id, hk, hm', t1, t3, t4, g0, hid, gi⟩ := hs'
  have l0 := (List.getElem?_eq_some_iff.1 g0).1
  have li := (List.getElem?_eq_some_iff.1 gi).1
  have hlk : (L.take k).length = k := by rw [List.length_take]; omega
  have hb1 := hb k hk
  have ek : q * ((k : Int) + 1) = q * (k : Int) + q := by rw [Int.mul_add, Int.mul_one]
  by_cases hkn : k < n
  · have hb2 := hb (k + 1) (by omega)
    have ek2 : q * ((k : Int) + 1 + 1) = q * ((k : Int) + 1) + q := by rw [Int.mul_add, Int.mul_one]
    have le := Int.mul_le_mul_of_nonneg_left (show ((k : Int) + 1) ≤ (n : Int) by omega) (show 0 ≤ q by omega)
    have dk : decide (B.Issued + q * ((k : Int) + 1) ≤ B.Maturity) = true := decide_eq_true (by omega)
    have w2 : IntKind.i64.wrap (B.Issued + q * ((k : Int) + 1) + q) = B.Issued + q * ((k : Int) + 1 + 1) := by rw [ek2, wrap_in _ (by omega)]; omega
    simp -dsimp -implicitDefEqProofs [-getElem?_pos, go_sem, hP, t4, t1, g0, dk]
    have hmin : min k L.length = k := by omega
    have hm2 : min k n = k := by omega
    have n0 : ¬ (0 : Nat) = id := fun e => hid e.symm
    have s0 : (s.H.set id none)[0]? = some (some ⟨28, 7, [[iv B.ID, iv B.Unit, iv B.Issued, iv B.Maturity, iv B.Rate, iv B.Every, bv B.Indexed]]⟩) := by rw [List.getElem?_set_ne hid]; exact g0
    simp -dsimp -implicitDefEqProofs [-getElem?_pos, go_sem, hP, t3, t4, gi, li, hlk, t1, g0, wq, w2, hmin, hm2, hLn, s0, l0]
    refine ⟨by omega, by omega, n - (k + 1), by omega, ?_⟩
    rw [hI]
    refine ⟨k + 1, s.H.length, by omega, rfl, by simp -dsimp -implicitDefEqProofs [-getElem?_pos, go_sem, t1], by simp -dsimp -implicitDefEqProofs [-getElem?_pos, go_sem], by simp -dsimp -implicitDefEqProofs [-getElem?_pos, go_sem], ?_, by omega, ?_⟩
    · simp -dsimp -implicitDefEqProofs [-getElem?_pos, go_sem, s0, l0]
    · simp -dsimp -implicitDefEqProofs [-getElem?_pos, go_sem, hLk k hkn]
  · have hkn : k = n := by omega
    subst hkn
    have dk : decide (B.Issued + q * ((k : Int) + 1) ≤ B.Maturity) = false := decide_eq_false (by omega)
    simp -dsimp -implicitDefEqProofs [-getElem?_pos, go_sem, hP, t4, t1, g0, dk, t3]
    have hLL : L.take k = L := List.take_of_length_le (by omega)
    rw [hLL] at gi
    refine done (x := intsL L) ?_ rfl ?_ <;> rw [view_sref, gi, viewS_some]
    · rw [List.drop_zero, List.take_of_length_le (by simp [hLn])]
      exact imm_intsX L
    · rw [List.drop_zero, List.take_of_length_le (by simp [hLn])]
      rfl
end Go.Proofs.YtkcfmmpcpdlfeaaGreatDoor
