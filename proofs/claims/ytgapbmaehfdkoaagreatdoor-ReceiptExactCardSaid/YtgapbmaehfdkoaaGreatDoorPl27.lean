/- Plain laws for chapter 27 (the same as in Tax1 and Tax7, for a seat without taxes). -/
import Derived.Test.YtgapbmaehfdkoaaGreatDoorCode
import Derived.Test.YtgapbmaehfdkoaaGreatDoorStab0
set_option linter.unusedSimpArgs false
set_option linter.unusedVariables false
namespace Go.Proofs.YtgapbmaehfdkoaaGreatDoor

def btw (n lo hi : Int) : Bool := decide (lo ≤ n) && decide (n ≤ hi)
theorem btw_iff {n lo hi : Int} : btw n lo hi = true ↔ lo ≤ n ∧ n ≤ hi := by simp [btw]
theorem btw_no {n lo hi : Int} (h : ¬ (lo ≤ n ∧ n ≤ hi)) : btw n lo hi = false := by simp [btw]; omega
def codeB (s : ByteArray) : Bool := decide (0 < (partsD s).length)
section
variable {α : Type} {lt : α → α → Bool}
theorem insR_first {x : α} : ∀ {l : List α}, (∀ z, z ∈ l → lt x z = true) → insR lt x l = x :: l
  | [], _ => rfl
  | z :: l, h => by rw [insR, if_pos (h z (by simp))]
theorem insR_filter (h : SOrd lt) (p : α → Bool) (x : α) : ∀ {l : List α}, Srt lt l → (insR lt x l).filter p = if p x then insR lt x (l.filter p) else l.filter p
  | [], _ => by cases hp : p x <;> simp [insR, hp]
  | y :: l, hs => by
    have hy := List.pairwise_cons.1 hs
    rw [insR]
    by_cases c : lt x y = true
    · rw [if_pos c, List.filter_cons]
      cases hp : p x
      · simp
      · rw [if_pos rfl, if_pos rfl, insR_first]
        intro z hz
        have hz := (List.mem_filter.1 hz).1
        rcases List.mem_cons.1 hz with rfl | hz
        · exact c
        · have h2 : lt z y = false := hy.1 z hz
          cases hc : lt x z
          · have := h.tr x z y hc h2
            rw [this] at c
            cases c
          · rfl
    · rw [if_neg c, List.filter_cons, insR_filter h p x hy.2, List.filter_cons]
      cases hq : p y
      · simp
      · cases hp : p x
        · simp
        · simp [insR, c]
theorem ssort_filter (h : SOrd lt) (p : α → Bool) (l : List α) : (ssort lt l).filter p = ssort lt (l.filter p) := by
  induction l using snocRec with
  | h0 => rfl
  | h1 l x ih =>
    rw [ssort_snoc, insR_filter h p x (ssort_srt h l), List.filter_append, ih]
    cases hp : p x
    · simp [hp]
    · simp only [List.filter_cons, hp, if_true, List.filter_nil]
      rw [ssort_snoc]
theorem filter_split {p q : α → Bool} : ∀ {l : List α}, l.Pairwise (fun x y => q x = true → p y = false) → (∀ x, x ∈ l → p x = true → q x = false) → l.filter p ++ l.filter q = l.filter fun x => p x || q x
  | [], _, _ => rfl
  | x :: l, h, k => by
    have hx := List.pairwise_cons.1 h
    have ih := filter_split hx.2 fun y hy => k y (List.mem_cons_of_mem _ hy)
    cases hp : p x
    · cases hq : q x
      · simp only [List.filter_cons, hp, hq, Bool.or_self]
        simpa using ih
      · have e : l.filter p = [] := List.filter_eq_nil_iff.2 fun y hy => by rw [hx.1 y hy hq]; simp
        rw [e, List.nil_append] at ih
        simp only [List.filter_cons, hp, hq, Bool.or_true]
        rw [e, ih]
        rfl
    · have hq := k x (List.mem_cons_self ..) hp
      simp only [List.filter_cons, hp, hq, Bool.or_false, if_true]
      rw [List.cons_append]
      simpa using ih
end

end Go.Proofs.YtgapbmaehfdkoaaGreatDoor
