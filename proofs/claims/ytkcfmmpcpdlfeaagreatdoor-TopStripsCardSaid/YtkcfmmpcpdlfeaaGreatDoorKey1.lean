/- Lists in the order of their keys: adding to what stands under a key. Plain. -/
import Derived.Test.YtkcfmmpcpdlfeaaGreatDoorPaC
set_option linter.unusedSimpArgs false
set_option linter.unusedVariables false
namespace Go.Proofs.YtkcfmmpcpdlfeaaGreatDoor

def sumQ {α : Type} (q : α → Bool) (am : α → Int) (l : List α) : Int := ((l.filter q).map am).sum
def cntQ {α : Type} (q : α → Bool) (l : List α) : Nat := (l.filter q).length
theorem sumQ_nil {α : Type} (q : α → Bool) (am : α → Int) : sumQ q am [] = 0 := rfl
theorem sumQ_cons {α : Type} (q : α → Bool) (am : α → Int) (x : α) (l : List α) : sumQ q am (x :: l) = (if q x = true then am x else 0) + sumQ q am l := by
  unfold sumQ
  by_cases h : q x = true
  · simp [h]
  · simp [h]
theorem sumQ_append {α : Type} (q : α → Bool) (am : α → Int) (a b : List α) : sumQ q am (a ++ b) = sumQ q am a + sumQ q am b := by
  unfold sumQ
  simp
theorem cntQ_cons {α : Type} (q : α → Bool) (x : α) (l : List α) : cntQ q (x :: l) = (if q x = true then 1 else 0) + cntQ q l := by
  unfold cntQ
  by_cases h : q x = true
  · simp [h]; omega
  · simp [h]
theorem sumQ_le {α : Type} (q : α → Bool) (am : α → Int) : ∀ l : List α, (∀ x, x ∈ l → 0 < am x) → 0 ≤ sumQ q am l ∧ ∀ x, x ∈ l → q x = true → am x ≤ sumQ q am l
  | [], _ => ⟨Int.le_refl _, fun x h => by cases h⟩
  | y :: l, h => by
    obtain ⟨h1, h2⟩ := sumQ_le q am l fun x hx => h x (by simp [hx])
    have hy := h y (by simp)
    rw [sumQ_cons]
    refine ⟨by split <;> omega, fun x hx hq => ?_⟩
    rcases List.mem_cons.1 hx with rfl | hx
    · rw [if_pos hq]; omega
    · have := h2 x hx hq
      split <;> omega
theorem sumQ_none {α : Type} (q : α → Bool) (am : α → Int) (l : List α) (h : ∀ x, x ∈ l → q x = false) : sumQ q am l = 0 := by
  unfold sumQ
  rw [List.filter_eq_nil_iff.2 fun x hx => by simp [h x hx]]
  rfl

def setK {α : Type} (lt is : α → Bool) (mk : Int → α) (am : α → Int) : List α → Int → List α
  | [], n => if n = 0 then [] else [mk n]
  | x :: l, n => if lt x = true then x :: setK lt is mk am l n else if is x = true then (if am x + n = 0 then l else mk (am x + n) :: l) else if n = 0 then x :: l else mk n :: x :: l
/-- An order of keys, and one key in it. -/
structure KeyOk {α : Type} (R : α → α → Prop) (lt is : α → Bool) (mk : Int → α) (am : α → Int) : Prop where
  am : ∀ a, am (mk a) = a
  trans : ∀ x y z, R x y → R y z → R x z
  ltMk : ∀ x a, lt x = true → R x (mk a)
  isR : ∀ x y a, is x = true → R x y → R (mk a) y
  tri : ∀ x a, lt x = false → is x = false → R (mk a) x
  mono : ∀ x y, R x y → lt y = true → lt x = true
  irr : ∀ x y, is x = true → R x y → is y = false
  dis : ∀ x, lt x = true → is x = false
  aft : ∀ x y, lt x = false → is x = false → R x y → is y = false
section
variable {α : Type} {R : α → α → Prop} {lt is : α → Bool} {mk : Int → α} {am : α → Int}
theorem sumQ_setK (q : α → Bool) (hm : ∀ a, am (mk a) = a) (c : Bool) (hq : ∀ a, q (mk a) = c) (hi : ∀ x, is x = true → q x = c) : ∀ (l : List α) (n : Int), sumQ q am (setK lt is mk am l n) = sumQ q am l + if c = true then n else 0
  | [], n => by
    unfold setK
    by_cases h : n = 0
    · subst h; simp [sumQ_nil]
    · rw [if_neg h, sumQ_cons, hq, hm, sumQ_nil]; omega
  | x :: l, n => by
    have ih := sumQ_setK q hm c hq hi l n
    unfold setK
    split
    · rw [sumQ_cons, sumQ_cons, ih]; omega
    · split
      · rename_i h1 h2
        have := hi x h2
        split
        · rename_i h3
          rw [sumQ_cons, this]
          split <;> omega
        · rw [sumQ_cons, sumQ_cons, hq, hm, this]
          split <;> omega
      · split
        · rename_i h
          subst h
          simp
        · rw [sumQ_cons, hq, hm]; omega
theorem cntQ_setK (q : α → Bool) (c : Bool) (hq : ∀ a, q (mk a) = c) (hi : ∀ x, is x = true → q x = c) : ∀ (l : List α) (n : Int), cntQ q (setK lt is mk am l n) ≤ cntQ q l + if c = true then 1 else 0
  | [], n => by
    unfold setK
    by_cases h : n = 0
    · subst h; simp [cntQ]
    · rw [if_neg h, cntQ_cons, hq]; simp [cntQ]
  | x :: l, n => by
    have ih := cntQ_setK q c hq hi l n
    unfold setK
    split
    · rw [cntQ_cons, cntQ_cons]; omega
    · split
      · rename_i h1 h2
        have := hi x h2
        split
        · rw [cntQ_cons, this]; omega
        · rw [cntQ_cons, cntQ_cons, hq, this]; omega
      · split
        · omega
        · rw [cntQ_cons, hq]; omega
theorem len_setK (l : List α) (n : Int) : (setK lt is mk am l n).length ≤ l.length + 1 := by
  have := cntQ_setK (lt := lt) (is := is) (mk := mk) (am := am) (fun _ => true) true (fun _ => rfl) (fun _ _ => rfl) l n
  have e : ∀ l : List α, l.filter (fun _ => true) = l := fun l => List.filter_eq_self.2 (by simp)
  unfold cntQ at this
  rw [e, e] at this
  simpa using this
theorem mem_setK : ∀ {l : List α} {n : Int} {x : α}, x ∈ setK lt is mk am l n → x ∈ l ∨ (n ≠ 0 ∧ x = mk n) ∨ ∃ y, y ∈ l ∧ is y = true ∧ am y + n ≠ 0 ∧ x = mk (am y + n)
  | [], n, x, h => by
    unfold setK at h
    split at h
    · cases h
    · rename_i h0
      exact .inr (.inl ⟨h0, by simpa using h⟩)
  | y :: l, n, x, h => by
    unfold setK at h
    split at h
    · rcases List.mem_cons.1 h with rfl | h
      · exact .inl (by simp)
      · rcases mem_setK h with h | h | ⟨z, h1, h2⟩
        · exact .inl (by simp [h])
        · exact .inr (.inl h)
        · exact .inr (.inr ⟨z, by simp [h1], h2⟩)
    · split at h
      · rename_i h1 h2
        split at h
        · exact .inl (by simp [h])
        · rename_i h3
          rcases List.mem_cons.1 h with rfl | h
          · exact .inr (.inr ⟨y, by simp, h2, h3, rfl⟩)
          · exact .inl (by simp [h])
      · split at h
        · exact .inl h
        · rename_i h3
          rcases List.mem_cons.1 h with rfl | h
          · exact .inr (.inl ⟨h3, rfl⟩)
          · exact .inl h
theorem sorted_setK (ok : KeyOk R lt is mk am) : ∀ {l : List α} (n : Int), l.Pairwise R → (setK lt is mk am l n).Pairwise R
  | [], n, _ => by
    unfold setK
    split <;> simp
  | x :: l, n, h => by
    obtain ⟨h1, h2⟩ := List.pairwise_cons.1 h
    unfold setK
    split
    · rename_i hl
      refine List.pairwise_cons.2 ⟨fun y hy => ?_, sorted_setK ok n h2⟩
      rcases mem_setK hy with hy | ⟨_, rfl⟩ | ⟨_, _, _, _, rfl⟩
      · exact h1 y hy
      · exact ok.ltMk _ _ hl
      · exact ok.ltMk _ _ hl
    · split
      · rename_i hl hi
        split
        · exact h2
        · exact List.pairwise_cons.2 ⟨fun y hy => ok.isR x y _ hi (h1 y hy), h2⟩
      · rename_i hl hi
        split
        · exact h
        · have ht := ok.tri x n (by simpa using hl) (by simpa using hi)
          refine List.pairwise_cons.2 ⟨fun y hy => ?_, h⟩
          rcases List.mem_cons.1 hy with rfl | hy
          · exact ht
          · exact ok.trans _ _ _ ht (h1 y hy)
/-- Where a key stands, or belongs. -/
theorem place_setK (ok : KeyOk R lt is mk am) : ∀ {l : List α}, l.Pairwise R → ∃ k, k ≤ l.length ∧ (∀ h x, l[h]? = some x → (lt x = true ↔ h < k)) ∧
    ((∃ x, l[k]? = some x ∧ is x = true ∧ sumQ is am l = am x ∧ ∀ n, setK lt is mk am l n = if am x + n = 0 then l.take k ++ l.drop (k + 1) else l.take k ++ mk (am x + n) :: l.drop (k + 1)) ∨
      ((∀ x, l[k]? = some x → is x = false) ∧ sumQ is am l = 0 ∧ ∀ n, setK lt is mk am l n = if n = 0 then l else l.take k ++ mk n :: l.drop k))
  | [], _ => ⟨0, by simp, by simp, .inr ⟨by simp, rfl, fun n => by unfold setK; simp⟩⟩
  | x :: l, h => by
    obtain ⟨h1, h2⟩ := List.pairwise_cons.1 h
    by_cases hl : lt x = true
    · obtain ⟨k, hk, hm, hc⟩ := place_setK ok h2
      have hd := ok.dis x hl
      refine ⟨k + 1, by simp; omega, fun j y hy => ?_, ?_⟩
      · cases j with
        | zero =>
          simp only [List.getElem?_cons_zero, Option.some.injEq] at hy
          subst hy
          simp [hl]
        | succ j =>
          rw [List.getElem?_cons_succ] at hy
          rw [hm j y hy]
          omega
      · rcases hc with ⟨y, c1, c2, c3, c4⟩ | ⟨c1, c3, c4⟩
        · refine .inl ⟨y, by simpa using c1, c2, by rw [sumQ_cons, hd, c3]; simp, fun n => ?_⟩
          unfold setK
          rw [if_pos hl, c4]
          split <;> simp
        · refine .inr ⟨fun y hy => c1 y (by simpa using hy), by rw [sumQ_cons, hd, c3]; simp, fun n => ?_⟩
          unfold setK
          rw [if_pos hl, c4]
          split <;> simp
    · have hl' : lt x = false := by simpa using hl
      have hm : ∀ (j : Nat) (y : α), (x :: l)[j]? = some y → (lt y = true ↔ j < 0) := fun j y hy => by
        refine ⟨fun e => ?_, fun e => by omega⟩
        rcases List.mem_cons.1 (List.mem_of_getElem? hy) with rfl | hy
        · exact absurd e hl
        · exact absurd (ok.mono x y (h1 y hy) e) hl
      refine ⟨0, by simp, hm, ?_⟩
      by_cases hi : is x = true
      · refine .inl ⟨x, rfl, hi, ?_, fun n => ?_⟩
        · rw [sumQ_cons, if_pos hi, sumQ_none is am l fun y hy => ok.irr x y hi (h1 y hy)]
          omega
        · unfold setK
          rw [if_neg hl, if_pos hi]
          simp
      · have hi' : is x = false := by simpa using hi
        refine .inr ⟨fun y hy => ?_, ?_, fun n => ?_⟩
        · simp only [List.getElem?_cons_zero, Option.some.injEq] at hy
          subst hy
          exact hi'
        · rw [sumQ_cons, if_neg hi, sumQ_none is am l fun y hy => ok.aft x y hl' hi' (h1 y hy)]
          omega
        · unfold setK
          rw [if_neg hl, if_neg hi]
          simp
end
end Go.Proofs.YtkcfmmpcpdlfeaaGreatDoor
