/- The source of numbers: claims, incomes, cash. -/
import Derived.Test.YtgapbmaehfdkoaaDoorCash11
import Derived.Test.YtgapbmaehfdkoaaDoorCash12
import Derived.Test.YtgapbmaehfdkoaaDoorPlayOdd
set_option linter.unusedSimpArgs false
set_option linter.unusedVariables false
namespace Go.Proofs.YtgapbmaehfdkoaaDoor
open Go.PA
open Go.RowKit

abbrev strsC (l : List ByteArray) : AV := .list 1 (l.map fun b => [.sc (.string b)])
def codesC : List ByteArray := [⟨#[49]⟩, ⟨#[49, 46, 49]⟩, ⟨#[49, 46, 50]⟩, ⟨#[49, 46, 50, 46, 51]⟩, ⟨#[50]⟩, ⟨#[50, 46, 49, 48]⟩, ⟨#[50, 46, 57]⟩]
def StrC (l : List ByteArray) (x : AV) : Prop := ∃ b, x = .sc (.string b) ∧ b ∈ l
theorem strC_ex {l : List ByteArray} (h : l ≠ []) : ∃ r, StrC l r ∧ Imm r := by
  cases l with
  | nil => exact absurd rfl h
  | cons b l => exact ⟨_, ⟨b, rfl, by simp⟩, .sc⟩
theorem codesC_ok {b : ByteArray} (h : b ∈ codesC) : codeB b = true ∧ b.size ≤ 30 := by
  have key : (codesC.all fun c => codeB c && decide (c.size ≤ 30)) = true := by kernel_rfl
  have := List.all_eq_true.1 key b h
  simpa using this
/-- Claims as the source makes them. -/
def GenCl (i : Nat) (y : TClaim) : Prop := y.ID = 3 * i + 1 ∧ (1 ≤ y.Payer ∧ y.Payer ≤ 3) ∧ y.Amount ∈ [5, 10, 10, 100, 250] ∧ y.Open = y.Amount ∧ (0 ≤ y.Day ∧ y.Day < 60) ∧ y.Code ∈ codesC
def GenCs (l : List TClaim) : Prop := ∀ i y, l[i]? = some y → GenCl i y
def ClaimsQ (n : Nat) (x : AV) : Prop := ∃ l : List TClaim, x = claimsL l ∧ l.length ≤ n ∧ GenCs l
theorem claimsQ_ex (n : Nat) : ∃ r, ClaimsQ n r ∧ Imm r := ⟨_, ⟨[], rfl, by simp, fun i y h => by simp at h⟩, imm_claims []⟩
theorem picks_ex {l : List Int} (h : l ≠ []) : ∃ r, (∃ m : Int, r = iv m ∧ m ∈ l) ∧ Imm r := by
  cases l with
  | nil => exact absurd rfl h
  | cons b l => exact ⟨_, ⟨b, rfl, by simp⟩, .sc⟩
theorem ranges_ex (lo hi : Int) (h : lo ≤ hi) : ∃ r, (∃ m : Int, r = iv m ∧ (lo ≤ hi → lo ≤ m ∧ m ≤ hi) ∧ (hi < lo → m = lo)) ∧ Imm r := ⟨_, ⟨lo, rfl, fun h => ⟨Int.le_refl _, h⟩, fun _ => rfl⟩, .sc⟩
/-- Incomes as the source makes them. -/
def GenI (n d : Int) (y : TIncome) : Prop := y.Number = n ∧ y.Day = d ∧ (1 ≤ y.Payer ∧ y.Payer ≤ 3) ∧ y.Amount ∈ [1, 5, 10, 60, 100, 300] ∧ y.Claim ∈ [0, 0, 1, 4, 7, 99]
def IncomeQ (n d : Int) (x : AV) : Prop := ∃ y : TIncome, x = .agg y.cells ∧ GenI n d y
theorem incomeQ_ex (n d : Int) : ∃ r, IncomeQ n d r ∧ Imm r := ⟨_, ⟨⟨n, d, 1, 1, 0⟩, rfl, by simp [GenI]⟩, imm_agg.2 (TIncome.imm _)⟩
end Go.Proofs.YtgapbmaehfdkoaaDoor
