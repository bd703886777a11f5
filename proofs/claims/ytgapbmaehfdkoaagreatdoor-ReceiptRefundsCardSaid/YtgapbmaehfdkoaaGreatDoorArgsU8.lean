/- Arguments of 8 bits. -/
import Derived.Test.YtgapbmaehfdkoaaGreatDoorArgsUse
set_option linter.unusedSimpArgs false
set_option linter.unusedVariables false
namespace Go.Proofs.YtgapbmaehfdkoaaGreatDoor
open Go.ChangeShapes Go.WideShapes Go.ChangeAt Go.RowKit
open Go.PA (RepI PFun AV Rep Sh ShsA Fs)
theorem arg_u8 {a : AV} (h : (Sh.int .u8).A a) : ∃ m : Nat, a = .sc (.int .u8 m) ∧ m ≤ 255 := by
  obtain ⟨n, e, hw⟩ := h
  simp only [List.cons.injEq, and_true] at e
  have wm' : 0 ≤ n ∧ n ≤ 255 := by
    simp only [Lit.wf, Bool.and_eq_true, decide_eq_true_eq] at hw
    exact hw
  obtain ⟨m, rfl⟩ := Int.eq_ofNat_of_zero_le wm'.1
  exact ⟨m, e, by omega⟩
end Go.Proofs.YtgapbmaehfdkoaaGreatDoor
