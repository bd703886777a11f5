/- Sorting flows: the library's insertion sort, for lists of fewer than 20. -/
import Derived.Test.YtkcfmmpcpdlfeaaGreatDoorCmp
import Derived.Test.YtkcfmmpcpdlfeaaGreatDoorPaC
set_option linter.unusedSimpArgs false
namespace Go.Proofs.YtkcfmmpcpdlfeaaGreatDoor
open Go.PA
open Go.RowKit

/-- Insertion into a list that lies back to front. -/
def rins {α : Type} (lt : α → α → Bool) (x : α) : List α → List α
  | [] => [x]
  | y :: ys => if lt x y then y :: rins lt x ys else x :: y :: ys
def rsort {α : Type} (lt : α → α → Bool) (l : List α) : List α := l.foldl (fun acc x => rins lt x acc) []
/-- Stable sorting. -/
def isort {α : Type} (lt : α → α → Bool) (l : List α) : List α := (rsort lt l).reverse

theorem rins_len {α : Type} (lt : α → α → Bool) (x : α) : ∀ l : List α, (rins lt x l).length = l.length + 1
  | [] => rfl
  | y :: ys => by
    simp only [rins]
    split
    · simp [rins_len lt x ys]
    · simp
theorem rsort_snoc {α : Type} (lt : α → α → Bool) (l : List α) (x : α) : rsort lt (l ++ [x]) = rins lt x (rsort lt l) := by simp [rsort]
theorem foldl_rins_len {α : Type} (lt : α → α → Bool) : ∀ (l acc : List α), (l.foldl (fun acc x => rins lt x acc) acc).length = acc.length + l.length
  | [], acc => by simp
  | x :: l, acc => by rw [List.foldl_cons, foldl_rins_len lt l, rins_len]; simp; omega
theorem rsort_len {α : Type} (lt : α → α → Bool) (l : List α) : (rsort lt l).length = l.length := by simp [rsort, foldl_rins_len]
theorem isort_len {α : Type} (lt : α → α → Bool) (l : List α) : (isort lt l).length = l.length := by simp [isort, rsort_len]

theorem set_swap {β : Type} (L M : List β) (x y : β) (j : Nat) (hj : j = L.length + 1) : ((L ++ y :: x :: M).set j y).set (j - 1) x = L ++ x :: y :: M := by
  subst hj
  rw [List.set_append_right _ _ (by omega), List.set_append_right _ _ (by omega)]
  simp

section
variable {α : Type} (enc : α → List AV) (lt : α → α → Bool) (g : FuncId)
/-- What the comparison does. -/
def CmpOk : Prop := (∀ a, (enc a).length = 4) ∧ (∀ a c, c ∈ enc a → Imm c ∧ c.cellish = true) ∧ enterable Tryz.prog g = true ∧ ∀ a b, PFun Tryz.prog none none g [.agg (enc a), .agg (enc b)] (fun r => ∃ i : Int, r = iv i ∧ decide (i < 0) = lt a b)

end

end Go.Proofs.YtkcfmmpcpdlfeaaGreatDoor
