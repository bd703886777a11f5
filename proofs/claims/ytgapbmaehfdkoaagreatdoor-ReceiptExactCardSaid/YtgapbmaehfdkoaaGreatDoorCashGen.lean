/- The source of numbers: claims, incomes, cash. -/
import Derived.Test.YtgapbmaehfdkoaaGreatDoorCash11
import Derived.Test.YtgapbmaehfdkoaaGreatDoorCash12
import Derived.Test.YtgapbmaehfdkoaaGreatDoorPlayOdd
set_option linter.unusedSimpArgs false
set_option linter.unusedVariables false
namespace Go.Proofs.YtgapbmaehfdkoaaGreatDoor
open Go.PA
open Go.RowKit

abbrev strsC (l : List ByteArray) : AV := .list 1 (l.map fun b => [.sc (.string b)])
def codesC : List ByteArray := [⟨#[49]⟩, ⟨#[49, 46, 49]⟩, ⟨#[49, 46, 50]⟩, ⟨#[49, 46, 50, 46, 51]⟩, ⟨#[50]⟩, ⟨#[50, 46, 49, 48]⟩, ⟨#[50, 46, 57]⟩]
def StrC (l : List ByteArray) (x : AV) : Prop := ∃ b, x = .sc (.string b) ∧ b ∈ l
theorem ctext_pf (p : Nat) (src : Option Nat) (l : List ByteArray) (h : 1 ≤ l.length ∧ l.length ≤ 1000) :
    PFun Tryz.prog (some p) src 26 [sp p, strsC l] (StrC l) := by
  refine pfun_intro Tryz.func26 rfl (by simp [Tryz.f26]) (by kernel_rfl) ?_
  intro E hP hr hs hW hN
  simp -dsimp -implicitDefEqProofs [-getElem?_pos, go_sem, hP]
  refine callB_flat (hr ▸ hs ▸ N_pf p src l.length (by omega)) hP en_38 (by simp -dsimp -implicitDefEqProofs [-getElem?_pos, go_sem]) (NQ_ex _) (NQ_flat _) ?_
  rintro r ⟨m, rfl, _, a⟩
  obtain ⟨b1, b2⟩ := a (by omega)
  obtain ⟨k, rfl⟩ : ∃ k : Nat, m = k := ⟨m.toNat, by omega⟩
  obtain ⟨b, hb⟩ : ∃ b, l[k]? = some b := ⟨_, List.getElem?_eq_getElem (by omega)⟩
  simp -dsimp -implicitDefEqProofs [-getElem?_pos, go_sem, hP, hb]
  exact ⟨b, rfl, List.mem_of_getElem? hb⟩
theorem strC_ex {l : List ByteArray} (h : l ≠ []) : ∃ r, StrC l r ∧ Imm r := by
  cases l with
  | nil => exact absurd rfl h
  | cons b l => exact ⟨_, ⟨b, rfl, by simp⟩, .sc⟩
theorem ccode_pf (p : Nat) (src : Option Nat) : PFun Tryz.prog (some p) src 50 [sp p] (StrC codesC) := by
  refine pfun_intro Tryz.func50 rfl (by simp [Tryz.f50]) (by kernel_rfl) ?_
  intro E hP hr hs hW hN
  simp -dsimp -implicitDefEqProofs [-getElem?_pos, go_sem, hP]
  refine callB_isQ (Q := StrC codesC) (hr ▸ hs ▸ ctext_pf p src codesC (by simp [codesC])) hP en_26 (by simp -dsimp -implicitDefEqProofs [-getElem?_pos, go_sem]) (strC_ex (by simp [codesC])) ?_
  rintro r ⟨b, rfl, hb⟩ _
  simp -dsimp -implicitDefEqProofs [-getElem?_pos, go_sem, hP]
  exact ⟨b, rfl, hb⟩
theorem codesC_ok {b : ByteArray} (h : b ∈ codesC) : codeB b = true ∧ b.size ≤ 30 := by
  have key : (codesC.all fun c => codeB c && decide (c.size ≤ 30)) = true := by kernel_rfl
  have := List.all_eq_true.1 key b h
  simpa using this
/-- Claims as the source makes them. -/
def GenCl (i : Nat) (y : TClaim) : Prop := y.ID = 3 * i + 1 ∧ (1 ≤ y.Payer ∧ y.Payer ≤ 3) ∧ y.Amount ∈ [5, 10, 10, 100, 250] ∧ y.Open = y.Amount ∧ (0 ≤ y.Day ∧ y.Day < 60) ∧ y.Code ∈ codesC
def GenCs (l : List TClaim) : Prop := ∀ i y, l[i]? = some y → GenCl i y
def ClaimsQ (n : Nat) (x : AV) : Prop := ∃ l : List TClaim, x = claimsL l ∧ l.length ≤ n ∧ GenCs l
theorem claimsQ_ex (n : Nat) : ∃ r, ClaimsQ n r ∧ Imm r := ⟨_, ⟨[], rfl, by simp, fun i y h => by simp at h⟩, imm_claims []⟩
theorem picks_ex {l : List Int} (h : l ≠ []) : ∃ r, (∃ m : Int, r = iv m ∧ m ∈ l) ∧ Imm r := by
  cases l with
  | nil => exact absurd rfl h
  | cons b l => exact ⟨_, ⟨b, rfl, by simp⟩, .sc⟩
theorem ranges_ex (lo hi : Int) (h : lo ≤ hi) : ∃ r, (∃ m : Int, r = iv m ∧ (lo ≤ hi → lo ≤ m ∧ m ≤ hi) ∧ (hi < lo → m = lo)) ∧ Imm r := ⟨_, ⟨lo, rfl, fun h => ⟨Int.le_refl _, h⟩, fun _ => rfl⟩, .sc⟩
set_option maxHeartbeats 2000000 in
theorem sclaims_pf (p : Nat) (src : Option Nat) (n : Nat) (hn : n ≤ 100) : PFun Tryz.prog (some p) src 20 [sp p, iv n] (ClaimsQ n) := by
  refine pfun_intro Tryz.func20 rfl (by simp [Tryz.f20]) (by kernel_rfl) ?_
  intro E hP hr hs hW hN
  have up : ∀ {f : FuncId} {args : List AV} {Q : AV → Prop}, PFun Tryz.prog (some p) src f args Q → PFun Tryz.prog E.row E.src f args Q := fun h => hr ▸ hs ▸ h
  have w1 := wrap_in ((n : Int) + 1) (by omega)
  simp -dsimp -implicitDefEqProofs [-getElem?_pos, go_sem, hP, w1]
  refine callB_flat (up (N_pf p src ((n : Int) + 1) (by omega))) hP en_38 (args_same (by simp -dsimp -implicitDefEqProofs [-getElem?_pos, go_sem])) (NQ_ex _) (NQ_flat _) ?_
  rintro r ⟨z, rfl, _, hz⟩
  have hz := hz (by omega)
  obtain ⟨c, rfl⟩ : ∃ c : Nat, z = c := ⟨z.toNat, by omega⟩
  simp -dsimp -implicitDefEqProofs [-getElem?_pos, go_sem, hP]
  refine aloop_own 5 38 6 (by simp -dsimp -implicitDefEqProofs [-getElem?_pos, go_sem]) ?_
  obtain ⟨I, hI⟩ : ∃ I : Nat → St → Prop, I = fun m s => ∃ (id : Nat) (l : List TClaim), m ≤ c ∧ l.length + m = c ∧ GenCs l ∧ s.t 0 = sp p ∧ s.t 5 = .sref id 0 l.length ∧ s.t 6 = iv m ∧ s.H[id]? = some (some ⟨38, 6, encL TClaim.cells l⟩) := ⟨_, rfl⟩
  refine aloop0 I (c) (by rw [hN]; rfl) ?_ ?_
  · rw [hI]
    exact ⟨0, [], by omega, by simp, fun i y h => by simp at h, by simp -dsimp -implicitDefEqProofs [-getElem?_pos, go_sem], by simp -dsimp -implicitDefEqProofs [-getElem?_pos, go_sem], by simp -dsimp -implicitDefEqProofs [-getElem?_pos, go_sem], by simp -dsimp -implicitDefEqProofs [-getElem?_pos, go_sem, encL]⟩
  intro m s hs'
  rw [hI] at hs'
  obtain ⟨id, l, hk, hl, hg, t0, t5, t6, hH⟩ := hs'
  have ltH := (List.getElem?_eq_some_iff.1 hH).1
  simp -dsimp -implicitDefEqProofs [-getElem?_pos, go_sem, hP, t6]
  refine condP (fun h => ?_) (fun h => ?_)
  · have hm : 0 < m := by simpa using h
    have wm := wrap_in ((m : Int) - 1) (by omega)
    have w3 := wrap_in ((l.length : Int) * 3) (by omega)
    have w4 := wrap_in ((l.length : Int) * 3 + 1) (by omega)
    simp -dsimp -implicitDefEqProofs [-getElem?_pos, go_sem, hP, t5, t0, hH]
    refine callB_isQ (up (pick_pf p src [5, 10, 10, 100, 250] (by simp))) hP en_25 (by simp -dsimp -implicitDefEqProofs [-getElem?_pos, go_sem]) (picks_ex (by simp)) ?_
    rintro r ⟨m1, rfl, a1⟩ _
    simp -dsimp -implicitDefEqProofs [-getElem?_pos, go_sem, hP, t5, t0, hH, w3, w4, encL_len]
    refine callB_isQ (up (range_pf p src 1 3 (by omega) (by omega))) hP en_24 (by simp -dsimp -implicitDefEqProofs [-getElem?_pos, go_sem]) (ranges_ex _ _ (by omega)) ?_
    rintro r ⟨m2, rfl, a2, _⟩ _
    have a2 := a2 (by omega)
    simp -dsimp -implicitDefEqProofs [-getElem?_pos, go_sem, hP, t5, t0, hH]
    refine callB_isQ (up (N_pf p src 60 (by omega))) hP en_38 (by simp -dsimp -implicitDefEqProofs [-getElem?_pos, go_sem]) ⟨_, ⟨0, rfl, by omega, by omega⟩, .sc⟩ ?_
    rintro r ⟨m3, rfl, _, a3⟩ _
    have a3 := a3 (by omega)
    simp -dsimp -implicitDefEqProofs [-getElem?_pos, go_sem, hP, t5, t0, hH]
    refine callB_isQ (up (ccode_pf p src)) hP en_50 (by simp -dsimp -implicitDefEqProofs [-getElem?_pos, go_sem]) (strC_ex (by simp [codesC])) ?_
    rintro r ⟨b, rfl, hb⟩ _
    simp -dsimp -implicitDefEqProofs [-getElem?_pos, go_sem, hP, t5, t0, hH, ltH, encL_len, t6, wm]
    refine ⟨by omega, by omega, m - 1, by omega, ?_⟩
    rw [hI]
    refine ⟨s.H.length, l ++ [⟨(l.length : Int) * 3 + 1, m2, m1, m1, m3, b⟩], by omega, by simp; omega, ?_, by simp -dsimp -implicitDefEqProofs [-getElem?_pos, go_sem, t0], by simp -dsimp -implicitDefEqProofs [-getElem?_pos, go_sem], ?_, by simp -dsimp -implicitDefEqProofs [-getElem?_pos, go_sem, encL, cClm]⟩
    · intro i y hy
      by_cases e : i < l.length
      · rw [List.getElem?_append_left e] at hy
        exact hg i y hy
      · have lt := (List.getElem?_eq_some_iff.1 hy).1
        rw [List.length_append, List.length_singleton] at lt
        have ei : i = l.length := by omega
        subst ei
        rw [List.getElem?_append_right (Nat.le_refl _), Nat.sub_self] at hy
        cases hy
        exact ⟨by simp only; omega, a2, a1, rfl, a3, hb⟩
    · simp -dsimp -implicitDefEqProofs [-getElem?_pos, go_sem, hP]
      omega
  · have hm : m = 0 := by
      have : ¬ 0 < m := by simpa using h
      omega
    simp -dsimp -implicitDefEqProofs [-getElem?_pos, go_sem, hP, t5]
    refine done (x := claimsL l) ?_ ⟨l, rfl, by omega, hg⟩ ?_ <;> rw [view_sref, hH, viewS_some]
    · rw [List.drop_zero, List.take_of_length_le (by simp [encL])]
      exact imm_claims l
    · rw [List.drop_zero, List.take_of_length_le (by simp [encL])]
/-- Incomes as the source makes them. -/
def GenI (n d : Int) (y : TIncome) : Prop := y.Number = n ∧ y.Day = d ∧ (1 ≤ y.Payer ∧ y.Payer ≤ 3) ∧ y.Amount ∈ [1, 5, 10, 60, 100, 300] ∧ y.Claim ∈ [0, 0, 1, 4, 7, 99]
def IncomeQ (n d : Int) (x : AV) : Prop := ∃ y : TIncome, x = .agg y.cells ∧ GenI n d y
theorem incomeQ_ex (n d : Int) : ∃ r, IncomeQ n d r ∧ Imm r := ⟨_, ⟨⟨n, d, 1, 1, 0⟩, rfl, by simp [GenI]⟩, imm_agg.2 (TIncome.imm _)⟩
theorem sincome_pf (p : Nat) (src : Option Nat) (n d : Int) : PFun Tryz.prog (some p) src 10 [sp p, iv n, iv d] (IncomeQ n d) := by
  refine pfun_intro Tryz.func10 rfl (by simp [Tryz.f10]) (by kernel_rfl) ?_
  intro E hP hr hs hW hN
  have up : ∀ {f : FuncId} {args : List AV} {Q : AV → Prop}, PFun Tryz.prog (some p) src f args Q → PFun Tryz.prog E.row E.src f args Q := fun h => hr ▸ hs ▸ h
  simp -dsimp -implicitDefEqProofs [-getElem?_pos, go_sem, hP]
  refine callB_isQ (up (range_pf p src 1 3 (by omega) (by omega))) hP en_24 (by simp -dsimp -implicitDefEqProofs [-getElem?_pos, go_sem]) (ranges_ex _ _ (by omega)) ?_
  rintro r ⟨m1, rfl, a1, _⟩ _
  have a1 := a1 (by omega)
  simp -dsimp -implicitDefEqProofs [-getElem?_pos, go_sem, hP]
  refine callB_isQ (up (pick_pf p src [1, 5, 10, 60, 100, 300] (by simp))) hP en_25 (by simp -dsimp -implicitDefEqProofs [-getElem?_pos, go_sem]) (picks_ex (by simp)) ?_
  rintro r ⟨m2, rfl, a2⟩ _
  simp -dsimp -implicitDefEqProofs [-getElem?_pos, go_sem, hP]
  refine callB_isQ (up (pick_pf p src [0, 0, 1, 4, 7, 99] (by simp))) hP en_25 (by simp -dsimp -implicitDefEqProofs [-getElem?_pos, go_sem]) (picks_ex (by simp)) ?_
  rintro r ⟨m3, rfl, a3⟩ _
  simp -dsimp -implicitDefEqProofs [-getElem?_pos, go_sem, hP]
  exact done_imm (imm_agg.2 (TIncome.imm ⟨n, d, m1, m2, m3⟩)) ⟨⟨n, d, m1, m2, m3⟩, rfl, rfl, rfl, a1, a2, a3⟩
end Go.Proofs.YtgapbmaehfdkoaaGreatDoor
