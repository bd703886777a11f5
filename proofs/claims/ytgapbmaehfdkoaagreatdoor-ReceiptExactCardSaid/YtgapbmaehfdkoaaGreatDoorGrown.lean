/- Fields that are appended to. -/
import Derived.Test.YtgapbmaehfdkoaaGreatDoorPaC
set_option linter.unusedSimpArgs false
set_option linter.unusedVariables false
namespace Go.Proofs.YtgapbmaehfdkoaaGreatDoor
open Go.PA
open Go.RowKit

/-- What a field holds that is appended to: nothing yet, or an object of one's own. -/
def Grown (n : Nat) (H : Heap) (x : AV) (ty : TypeId) (k : Nat) (es : List (List AV)) : Prop := (x = .nil ∧ es = []) ∨ ∃ id, n ≤ id ∧ x = .sref id 0 es.length ∧ H[id]? = some (some ⟨ty, k, es⟩)
theorem Grown.cw {n : Nat} {H : Heap} {x : AV} {ty : TypeId} {k : Nat} {es : List (List AV)} {xs ys : List AV} (h : Grown n H x ty k es) (hi : Imm (.list k es)) (t : CW H xs ys) : CW H (x :: xs) (.list k es :: ys) := by
  rcases h with ⟨rfl, rfl⟩ | ⟨id, _, rfl, h⟩
  · exact cw_nil t
  · exact cw_sref h rfl hi t
theorem Grown.cellish {n : Nat} {H : Heap} {x : AV} {ty : TypeId} {k : Nat} {es : List (List AV)} (h : Grown n H x ty k es) : x.cellish = true := by
  rcases h with ⟨rfl, rfl⟩ | ⟨id, _, rfl, h⟩ <;> rfl
theorem Grown.kept {n : Nat} {H H' : Heap} {x : AV} {ty : TypeId} {k : Nat} {es : List (List AV)} {X : List Nat} (h : Grown n H x ty k es) (hk : Kept X H H') (hX : ∀ i, i ∈ X → i < n) : Grown n H' x ty k es := by
  rcases h with ⟨rfl, rfl⟩ | ⟨id, hn, rfl, h⟩
  · exact .inl ⟨rfl, rfl⟩
  · refine .inr ⟨id, hn, rfl, hk _ _ (fun hi => ?_) h⟩
    have := hX id hi
    omega
end Go.Proofs.YtgapbmaehfdkoaaGreatDoor
