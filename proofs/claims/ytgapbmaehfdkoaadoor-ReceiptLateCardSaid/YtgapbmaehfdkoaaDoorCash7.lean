/- Receipts: an income meets a claim, in the reference. -/
import Derived.Test.YtgapbmaehfdkoaaDoorCash6
set_option linter.unusedSimpArgs false
set_option linter.unusedVariables false
namespace Go.Proofs.YtgapbmaehfdkoaaDoor
open Go.PA
open Go.RowKit

/-- A slice of the walk's own with this object. -/
def isS (x : AV) (j : Nat) : Prop := ∃ n, x = .sref j 0 n
theorem isS_self (j n : Nat) : isS (.sref j 0 n) j := ⟨n, rfl⟩
theorem isS_iff {i j n : Nat} : isS (.sref i 0 n) j ↔ i = j := ⟨fun ⟨m, h⟩ => by cases h; rfl, fun h => by subst h; exact ⟨n, rfl⟩⟩
/-- What is not the cash's own is there still. -/
def KeptS (p : Nat) (A D F : AV) (H H' : Heap) : Prop := ∀ j o, ¬ j = p → ¬ isS A j → ¬ isS D j → ¬ isS F j → H[j]? = some (some o) → H'[j]? = some (some o)
theorem KeptS.refl (p : Nat) (A D F : AV) (H : Heap) : KeptS p A D F H H := fun _ _ _ _ _ _ h => h
theorem KeptS.app {p : Nat} {A D F : AV} {H H' l : Heap} (h : KeptS p A D F H H') : KeptS p A D F H (H' ++ l) := fun j o h1 h2 h3 h4 ho => by
  have := h j o h1 h2 h3 h4 ho
  rw [List.getElem?_append_left (List.getElem?_eq_some_iff.1 this).1]
  exact this
theorem KeptS.set {p : Nat} {A D F : AV} {H H' : Heap} {i : Nat} {x : Option AObj} (h : KeptS p A D F H H') (hi : i = p ∨ isS A i ∨ isS D i ∨ isS F i) : KeptS p A D F H (H'.set i x) := fun j o h1 h2 h3 h4 ho => by
  have e : ¬ i = j := fun e => by
    subst e
    rcases hi with hi | hi | hi | hi
    · exact h1 hi
    · exact h2 hi
    · exact h3 hi
    · exact h4 hi
  rw [List.getElem?_set_ne e]
  exact h j o h1 h2 h3 h4 ho
theorem agree_pre {X l : Heap} {z w : Option AObj} {n : Nat} (h : n ≤ X.length + 1) : Agree (fun i => decide (i < n)) (X ++ [z]) (X ++ [z, w]) := by
  have := agree_push (n := n) (H := X ++ [z]) (l := [w]) (by simp; omega)
  simpa using this
theorem agree_pre2 {X l : Heap} {z z' w : Option AObj} {n : Nat} (h : n ≤ X.length + 2) : Agree (fun i => decide (i < n)) (X ++ [z, z']) (X ++ [z, z', w]) := by
  have := agree_push (n := n) (H := X ++ [z, z']) (l := [w]) (by simp; omega)
  simpa using this
end Go.Proofs.YtgapbmaehfdkoaaDoor
