/- Arguments, read. -/
import Derived.Test.YtkcfmmpcpdlfeaaGreatDoorFrame
import Derived.Test.YtkcfmmpcpdlfeaaGreatDoorArgs
set_option linter.unusedSimpArgs false
set_option linter.unusedVariables false
namespace Go.Proofs.YtkcfmmpcpdlfeaaGreatDoor
open Go.ChangeShapes Go.WideShapes Go.ChangeAt Go.RowKit
open Go.PA (RepI PFun AV Rep Sh ShsA Fs)

theorem arg_ints {a : AV} (h : (Sh.slice (.int .i64)).A a) : ∃ l : List Int, a = intsL l ∧ Small l ∧ l.length ≤ 9223372036854775807 := by
  obtain ⟨l, e, hl, hw⟩ := of_slice (.int .i64) of_int [a] h
  have hml : maxLen ≤ 9223372036854775807 := by decide
  simp only [List.cons.injEq, and_true] at e
  exact ⟨l, e, hw, by omega⟩
theorem arg_int {a : AV} (h : (Sh.int .i64).A a) : ∃ n : Int, a = iv n ∧ fits n := by
  obtain ⟨n, e, hw⟩ := of_int [a] h
  simp only [encI, List.cons.injEq, and_true] at e
  exact ⟨n, e, hw⟩

theorem arg_list {α : Type} {enc : α → List AV} {wf : α → Prop} {f : Fs} (of : ∀ av, (Sh.strct f).V av → ∃ x : α, av = enc x ∧ wf x) {a : AV} (h : (Sh.slice (.strct f)).A a) : ∃ l : List α, a = .list f.size (Go.PA.encL enc l) ∧ ∀ x, x ∈ l → wf x := by
  obtain ⟨l, e, hl, hw⟩ := of_slice (.strct f) of [a] h
  simp only [List.cons.injEq, and_true] at e
  exact ⟨l, e, hw⟩
end Go.Proofs.YtkcfmmpcpdlfeaaGreatDoor
