/- Registers: small functions. -/
import Derived.Test.YtkcfmmpcpdlfeaaGreatDoorReg1
import Derived.Test.YtkcfmmpcpdlfeaaGreatDoorCmp
import Derived.Test.YtkcfmmpcpdlfeaaGreatDoorShelf
set_option linter.unusedSimpArgs false
set_option linter.unusedVariables false
namespace Go.Proofs.YtkcfmmpcpdlfeaaGreatDoor
open Go.PA
open Go.RowKit

abbrev secsL (l : List TSecurity) : AV := .list 7 (encL TSecurity.cells l)
abbrev holdsL (l : List THolding) : AV := .list 3 (encL THolding.cells l)
abbrev movesL (l : List TMove) : AV := .list 7 (encL TMove.cells l)
theorem cSec (x : TSecurity) : x.cells = [iv x.ID, iv x.Unit, iv x.Issued, iv x.Maturity, iv x.Rate, iv x.Every, bv x.Indexed] := rfl
theorem cHol (x : THolding) : x.cells = [iv x.Security, iv x.Holder, iv x.Amount] := rfl
theorem cMov (x : TMove) : x.cells = [iv x.Number, iv x.Day, iv x.Kind, iv x.Security, iv x.From, iv x.To, iv x.Amount] := rfl
theorem cReg (x : TRegister) : x.cells = [secsL x.Securities, holdsL x.Holdings, movesL x.Moves] := rfl
theorem imm_secs (l : List TSecurity) : Imm (secsL l) := imm_encL _ TSecurity.imm _
theorem imm_holds (l : List THolding) : Imm (holdsL l) := imm_encL _ THolding.imm _
theorem imm_moves (l : List TMove) : Imm (movesL l) := imm_encL _ TMove.imm _
theorem imm_sec (x : TSecurity) : Imm (.agg x.cells) := .agg fun c hc => x.imm c hc
theorem imm_hol (x : THolding) : Imm (.agg x.cells) := .agg fun c hc => x.imm c hc
theorem imm_mov (x : TMove) : Imm (.agg x.cells) := .agg fun c hc => x.imm c hc
theorem imm_reg (x : TRegister) : Imm (.agg x.cells) := .agg fun c hc => x.imm c hc

def bet (n lo hi : Int) : Bool := decide (lo ≤ n) && decide (n ≤ hi)
theorem bet_yes {n lo hi : Int} (h : lo ≤ n ∧ n ≤ hi) : bet n lo hi = true := by simp [bet, h]
theorem bet_no {n lo hi : Int} (h : ¬ (lo ≤ n ∧ n ≤ hi)) : bet n lo hi = false := by simp [bet]; omega
theorem gamong_pf (n lo hi : Int) : PFun Tryz.prog none none 60 [iv n, iv lo, iv hi] (· = bv (bet n lo hi)) := by
  refine pfun_intro Tryz.func60 rfl (by simp [Tryz.f60]) (by kernel_rfl) ?_
  intro E hP hr hs hW hN
  by_cases h1 : lo ≤ n <;> by_cases h2 : n ≤ hi <;> simp -dsimp -implicitDefEqProofs [-getElem?_pos, go_sem, hP, h1, h2, bet]
theorem gholder_pf (n : Int) : PFun Tryz.prog none none 156 [iv n] (· = bv (holderB n)) := by
  refine pfun_intro Tryz.func156 rfl (by simp [Tryz.f156]) (by kernel_rfl) ?_
  intro E hP hr hs hW hN
  simp -dsimp -implicitDefEqProofs [-getElem?_pos, go_sem, hP]
  refine callB_pure (gamong_pf n 1 1000) hP en_60 (args_same (by simp -dsimp -implicitDefEqProofs [-getElem?_pos, go_sem])) .sc ?_
  simp -dsimp -implicitDefEqProofs [-getElem?_pos, go_sem, hP, holderB, bet]
theorem gvalid_pf (n : Int) : PFun Tryz.prog none none 100 [iv n] (· = bv (bet n 0 1000000000000)) := by
  refine pfun_intro Tryz.func100 rfl (by simp [Tryz.f100]) (by kernel_rfl) ?_
  intro E hP hr hs hW hN
  by_cases h1 : 0 ≤ n <;> by_cases h2 : n ≤ 1000000000000 <;> simp -dsimp -implicitDefEqProofs [-getElem?_pos, go_sem, hP, h1, h2, bet]
structure SecOk (s : TSecurity) : Prop where
  id : 1 ≤ s.ID ∧ s.ID ≤ 1000
  unit : 1 ≤ s.Unit ∧ s.Unit ≤ 1000000000
  iss : 0 ≤ s.Issued ∧ s.Issued ≤ 36000
  mat : s.Issued + 30 ≤ s.Maturity ∧ s.Maturity ≤ min (s.Issued + 18000) 35990
  rate : 0 ≤ s.Rate ∧ s.Rate ≤ 20000
  every : (s.Every = 0 ∧ (s.Maturity - s.Issued) % 30 = 0 ∧ s.Rate = 0) ∨ ((s.Every = 1 ∨ s.Every = 3 ∨ s.Every = 6 ∨ s.Every = 12) ∧ (s.Maturity - s.Issued) % (30 * s.Every) = 0)
theorem secOk {s : TSecurity} (h : secB s = true) : SecOk s := by
  unfold secB at h
  rw [Bool.and_eq_true, decide_eq_true_eq] at h
  obtain ⟨⟨h1, h2, h3, h4, h5⟩, h6⟩ := h
  refine ⟨h1, h2, h3, h4, h5, ?_⟩
  by_cases e : s.Every = 0
  · rw [if_pos e, Bool.and_eq_true, decide_eq_true_eq, decide_eq_true_eq] at h6
    exact .inl ⟨e, h6⟩
  · rw [if_neg e] at h6
    by_cases e2 : s.Every = 1 ∨ s.Every = 3 ∨ s.Every = 6 ∨ s.Every = 12
    · rw [if_pos e2, decide_eq_true_eq] at h6
      exact .inr ⟨e2, h6⟩
    · rw [if_neg e2] at h6
      cases h6
theorem gsec_pf (s : TSecurity) (h : secB s = true) : PFun Tryz.prog none none 22 [.agg s.cells] (· = bv true) := by
  obtain ⟨h1, h2, h3, h4, h5, h6⟩ := secOk h
  refine pfun_intro Tryz.func22 rfl (by simp [Tryz.f22]) (by kernel_rfl) ?_
  intro E hP hr hs hW hN
  have c1 := bet_yes h1
  have c2 := bet_yes h2
  have c3 := bet_yes h3
  have c4 := bet_yes h4
  have c5 := bet_yes h5
  have w1 := wrap_in (s.Issued + 30) (by omega)
  have w2 := wrap_in (s.Issued + 18000) (by omega)
  have w3 := wrap_in (s.Maturity - s.Issued) (by omega)
  have am : amin [iv (s.Issued + 18000), iv 35990] = some (iv (min (s.Issued + 18000) 35990)) := by simp [amin, aminFrom]
  simp -dsimp -implicitDefEqProofs [-getElem?_pos, go_sem, hP, cSec]
  refine callB_pure (gamong_pf s.ID 1 1000) hP en_60 (args_same (by simp -dsimp -implicitDefEqProofs [-getElem?_pos, go_sem])) .sc ?_
  simp -dsimp -implicitDefEqProofs [-getElem?_pos, go_sem, hP, c1]
  refine callB_pure (gamong_pf s.Unit 1 1000000000) hP en_60 (args_same (by simp -dsimp -implicitDefEqProofs [-getElem?_pos, go_sem])) .sc ?_
  simp -dsimp -implicitDefEqProofs [-getElem?_pos, go_sem, hP, c2]
  refine callB_pure (gamong_pf s.Issued 0 36000) hP en_60 (args_same (by simp -dsimp -implicitDefEqProofs [-getElem?_pos, go_sem])) .sc ?_
  simp -dsimp -implicitDefEqProofs [-getElem?_pos, go_sem, hP, c3, w1, w2, am]
  refine callB_pure (gamong_pf s.Maturity (s.Issued + 30) (min (s.Issued + 18000) 35990)) hP en_60 (args_same (by simp -dsimp -implicitDefEqProofs [-getElem?_pos, go_sem])) .sc ?_
  simp -dsimp -implicitDefEqProofs [-getElem?_pos, go_sem, hP, c4]
  refine callB_pure (gamong_pf s.Rate 0 20000) hP en_60 (args_same (by simp -dsimp -implicitDefEqProofs [-getElem?_pos, go_sem])) .sc ?_
  simp -dsimp -implicitDefEqProofs [-getElem?_pos, go_sem, hP, c5, w3]
  rcases h6 with ⟨e, e2, e3⟩ | ⟨e, e2⟩
  · have t : (s.Maturity - s.Issued).tmod 30 = 0 := by rw [Int.tmod_eq_emod_of_nonneg (by omega)]; exact e2
    simp -dsimp -implicitDefEqProofs [-getElem?_pos, go_sem, hP, e, e3, t]
  · rcases e with e | e | e | e
    · rw [e] at e2
      have t : (s.Maturity - s.Issued).tmod 30 = 0 := (Int.tmod_eq_emod_of_nonneg (by omega)).trans e2
      have w5 : IntKind.i64.wrap 30 = 30 := by decide
      simp -dsimp -implicitDefEqProofs [-getElem?_pos, go_sem, hP, e, t, w5]
    · rw [e] at e2
      have t : (s.Maturity - s.Issued).tmod 90 = 0 := (Int.tmod_eq_emod_of_nonneg (by omega)).trans e2
      have w5 : IntKind.i64.wrap 90 = 90 := by decide
      simp -dsimp -implicitDefEqProofs [-getElem?_pos, go_sem, hP, e, t, w5]
    · rw [e] at e2
      have t : (s.Maturity - s.Issued).tmod 180 = 0 := (Int.tmod_eq_emod_of_nonneg (by omega)).trans e2
      have w5 : IntKind.i64.wrap 180 = 180 := by decide
      simp -dsimp -implicitDefEqProofs [-getElem?_pos, go_sem, hP, e, t, w5]
    · rw [e] at e2
      have t : (s.Maturity - s.Issued).tmod 360 = 0 := (Int.tmod_eq_emod_of_nonneg (by omega)).trans e2
      have w5 : IntKind.i64.wrap 360 = 360 := by decide
      simp -dsimp -implicitDefEqProofs [-getElem?_pos, go_sem, hP, e, t, w5]
end Go.Proofs.YtkcfmmpcpdlfeaaGreatDoor
