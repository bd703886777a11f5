/- The source: numbers at the ends of ranges. -/
import Derived.Test.YtgapbmaehfdkoaaGreatDoorPlayAll
import Derived.Test.YtgapbmaehfdkoaaGreatDoorPaC
set_option linter.unusedSimpArgs false
set_option linter.unusedVariables false
namespace Go.Proofs.YtgapbmaehfdkoaaGreatDoor
open Go.PA
open Go.RowKit
theorem odd_pf (p : Nat) (src : Option Nat) : PFun Tryz.prog (some p) src 33 [sp p] (fun x => ∃ m : Int, x = iv m) := by
  refine pfun_intro Tryz.func33 rfl (by simp [Tryz.f33]) (by kernel_rfl) ?_
  intro E hP hr hs hW hN
  simp -dsimp -implicitDefEqProofs [-getElem?_pos, go_sem, hP]
  refine callB_flat (hr ▸ hs ▸ pick_pf p src [-1, 0, 1, 2, 9223372036854775807, -9223372036854775808, 1000000000000, 1000000000001, 1000000000000000, 1000000000000001, 36000, 36001, 35991, 1000000, 1000001, 1000, 1001, 360] (by simp)) hP en_25 (by simp [go_sem, intsL]) ⟨iv 0, 0, rfl, by simp⟩ (by rintro r ⟨m, rfl, _⟩; exact .sc) ?_
  rintro r ⟨m, rfl, _⟩
  simp -dsimp -implicitDefEqProofs [-getElem?_pos, go_sem, hP]

def RQ (lo hi : Int) (x : AV) : Prop := ∃ m : Int, x = iv m ∧ lo ≤ m ∧ m ≤ hi
theorem RQ_ex {lo hi : Int} (h : lo ≤ hi) : ∃ r, RQ lo hi r ∧ Imm r := ⟨_, ⟨lo, rfl, by omega, h⟩, .sc⟩
theorem rangeQ_pf (p : Nat) (src : Option Nat) (lo hi : Int) (h1 : -1000000000000000000 ≤ lo ∧ lo ≤ hi) (h2 : hi ≤ 1000000000000000000) : PFun Tryz.prog (some p) src 24 [sp p, iv lo, iv hi] (RQ lo hi) :=
  (range_pf p src lo hi (by omega) (by omega)).mono fun x h => by
    obtain ⟨m, rfl, h3, _⟩ := h
    exact ⟨m, rfl, h3 h1.2⟩
theorem N_exI (n : Int) : ∃ r, NQ n r ∧ Imm r := ⟨_, ⟨0, rfl, fun _ => rfl, fun h => by omega⟩, .sc⟩
def PQ (xs : List Int) (x : AV) : Prop := ∃ m : Int, x = iv m ∧ m ∈ xs
theorem PQ_ex {xs : List Int} (h : xs ≠ []) : ∃ r, PQ xs r ∧ Imm r := by
  cases xs with
  | nil => exact absurd rfl h
  | cons a l => exact ⟨_, ⟨a, rfl, by simp⟩, .sc⟩
theorem pickQ_pf (p : Nat) (src : Option Nat) (xs : List Int) (h : 1 ≤ xs.length ∧ xs.length ≤ 1000) : PFun Tryz.prog (some p) src 25 [sp p, intsL xs] (PQ xs) := pick_pf p src xs h
def OQ (x : AV) : Prop := ∃ m : Int, x = iv m
theorem OQ_ex : ∃ r, OQ r ∧ Imm r := ⟨_, ⟨0, rfl⟩, .sc⟩
theorem oddQ_pf (p : Nat) (src : Option Nat) : PFun Tryz.prog (some p) src 33 [sp p] OQ := odd_pf p src
end Go.Proofs.YtgapbmaehfdkoaaGreatDoor
