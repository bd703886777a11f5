/- The source: numbers at the ends of ranges. -/
import Derived.Test.YtgapbmaehfdkoaaDoorPlayAll
import Derived.Test.YtgapbmaehfdkoaaDoorPaC
set_option linter.unusedSimpArgs false
set_option linter.unusedVariables false
namespace Go.Proofs.YtgapbmaehfdkoaaDoor
open Go.PA
open Go.RowKit
def RQ (lo hi : Int) (x : AV) : Prop := ∃ m : Int, x = iv m ∧ lo ≤ m ∧ m ≤ hi
theorem RQ_ex {lo hi : Int} (h : lo ≤ hi) : ∃ r, RQ lo hi r ∧ Imm r := ⟨_, ⟨lo, rfl, by omega, h⟩, .sc⟩
theorem rangeQ_pf (p : Nat) (src : Option Nat) (lo hi : Int) (h1 : -1000000000000000000 ≤ lo ∧ lo ≤ hi) (h2 : hi ≤ 1000000000000000000) : PFun Tryd.prog (some p) src 7 [sp p, iv lo, iv hi] (RQ lo hi) :=
  (range_pf p src lo hi (by omega) (by omega)).mono fun x h => by
    obtain ⟨m, rfl, h3, _⟩ := h
    exact ⟨m, rfl, h3 h1.2⟩
theorem N_exI (n : Int) : ∃ r, NQ n r ∧ Imm r := ⟨_, ⟨0, rfl, fun _ => rfl, fun h => by omega⟩, .sc⟩
def PQ (xs : List Int) (x : AV) : Prop := ∃ m : Int, x = iv m ∧ m ∈ xs
theorem PQ_ex {xs : List Int} (h : xs ≠ []) : ∃ r, PQ xs r ∧ Imm r := by
  cases xs with
  | nil => exact absurd rfl h
  | cons a l => exact ⟨_, ⟨a, rfl, by simp⟩, .sc⟩
theorem pickQ_pf (p : Nat) (src : Option Nat) (xs : List Int) (h : 1 ≤ xs.length ∧ xs.length ≤ 1000) : PFun Tryd.prog (some p) src 6 [sp p, intsL xs] (PQ xs) := pick_pf p src xs h
def OQ (x : AV) : Prop := ∃ m : Int, x = iv m
theorem OQ_ex : ∃ r, OQ r ∧ Imm r := ⟨_, ⟨0, rfl⟩, .sc⟩
end Go.Proofs.YtgapbmaehfdkoaaDoor
