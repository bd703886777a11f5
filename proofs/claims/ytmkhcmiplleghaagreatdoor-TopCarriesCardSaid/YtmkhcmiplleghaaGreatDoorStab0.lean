/- Stable sorting: plain laws. -/
import Derived.Test.YtmkhcmiplleghaaGreatDoorSortFlow
set_option linter.unusedSimpArgs false
set_option linter.unusedVariables false
namespace Go.Proofs.YtmkhcmiplleghaaGreatDoor

structure SOrd {α : Type} (lt : α → α → Bool) : Prop where
  asym : ∀ a b, lt a b = true → lt b a = false
  tr : ∀ a b c, lt a b = false → lt b c = false → lt a c = false

section
variable {α : Type} {lt : α → α → Bool}
/-- Insertion behind what is equal. -/
def insR (lt : α → α → Bool) (x : α) : List α → List α
  | [] => [x]
  | y :: l => if lt x y then x :: y :: l else y :: insR lt x l
def smerge (lt : α → α → Bool) : List α → List α → List α
  | [], B => B
  | a :: A, [] => a :: A
  | a :: A, b :: B => if lt b a then b :: smerge lt (a :: A) B else a :: smerge lt A (b :: B)
termination_by A B => A.length + B.length
abbrev Srt (lt : α → α → Bool) (l : List α) : Prop := l.Pairwise fun x y => lt y x = false

theorem SOrd.lt_lt (h : SOrd lt) {a b c : α} (h1 : lt a b = true) (h2 : lt b c = true) : lt a c = true := by
  cases hc : lt a c
  · have := h.tr a c b hc (h.asym _ _ h2)
    rw [this] at h1
    cases h1
  · rfl
theorem SOrd.le_lt_le (h : SOrd lt) {y l x z : α} (h1 : lt l y = false) (h2 : lt l z = true) (h3 : lt x z = false) : lt y x = true := by
  cases hc : lt y x
  · have := h.tr l y z h1 (h.tr y x z hc h3)
    rw [this] at h2
    cases h2
  · rfl
theorem snocRec {P : List α → Prop} (h0 : P []) (h1 : ∀ l x, P l → P (l ++ [x])) (l : List α) : P l := by
  rw [← l.reverse_reverse]
  induction l.reverse with
  | nil => exact h0
  | cons x r ih => rw [List.reverse_cons]; exact h1 _ _ ih
theorem smerge_lt {a b : α} {A B : List α} (h : lt b a = true) : smerge lt (a :: A) (b :: B) = b :: smerge lt (a :: A) B := by rw [smerge, if_pos h]
theorem smerge_ge {a b : α} {A B : List α} (h : lt b a = false) : smerge lt (a :: A) (b :: B) = a :: smerge lt A (b :: B) := by rw [smerge, if_neg (by rw [h]; simp)]
theorem smerge_nil (A : List α) : smerge lt A [] = A := by cases A <;> simp [smerge]
theorem smerge_len : ∀ A B : List α, (smerge lt A B).length = A.length + B.length
  | [], B => by simp [smerge]
  | a :: A, [] => by simp [smerge]
  | a :: A, b :: B => by
    rw [smerge]
    split
    · rw [List.length_cons, smerge_len]; simp; omega
    · rw [List.length_cons, smerge_len]; simp; omega
termination_by A B => A.length + B.length
theorem insR_len (x : α) : ∀ l : List α, (insR lt x l).length = l.length + 1
  | [] => rfl
  | y :: l => by
    rw [insR]
    split
    · simp
    · simp [insR_len x l]

theorem smerge_insR (h : SOrd lt) (x : α) : ∀ A B : List α, smerge lt A (insR lt x B) = insR lt x (smerge lt A B)
  | [], B => by simp [smerge]
  | a :: A, [] => by
    rw [smerge_nil, insR, smerge, insR, smerge_nil]
    split
    · rfl
    · have := smerge_insR h x A []
      rw [smerge_nil, insR] at this
      rw [this]
  | a :: A, b :: B => by
    rw [insR, smerge]
    by_cases h1 : lt b a = true
    · rw [if_pos h1, insR]
      by_cases h2 : lt x b = true
      · rw [if_pos h2, if_pos h2, smerge, if_pos (h.lt_lt h2 h1), smerge, if_pos h1]
      · rw [if_neg h2, if_neg h2, smerge, if_pos h1, smerge_insR h x (a :: A) B]
    · rw [if_neg h1, insR]
      have ih := smerge_insR h x A (b :: B)
      rw [insR] at ih
      by_cases h2 : lt x b = true
      · rw [if_pos h2] at ih ⊢
        rw [smerge]
        by_cases h3 : lt x a = true
        · rw [if_pos h3, if_pos h3, smerge, if_neg h1]
        · rw [if_neg h3, if_neg h3, ih]
      · rw [if_neg h2] at ih ⊢
        have h3 : lt x a = false := h.tr x b a (by simpa using h2) (by simpa using h1)
        rw [smerge, if_neg h1, h3, ih]
        simp
termination_by A B => A.length + B.length

def ssort (lt : α → α → Bool) (l : List α) : List α := l.foldl (fun acc x => insR lt x acc) []
theorem ssort_snoc (l : List α) (x : α) : ssort lt (l ++ [x]) = insR lt x (ssort lt l) := by simp [ssort]
theorem ssort_len (l : List α) : (ssort lt l).length = l.length := by
  induction l using snocRec with
  | h0 => rfl
  | h1 l x ih => rw [ssort_snoc, insR_len, ih]; simp
theorem ssort_app (h : SOrd lt) (A B : List α) : ssort lt (A ++ B) = smerge lt (ssort lt A) (ssort lt B) := by
  induction B using snocRec with
  | h0 => rw [List.append_nil]; exact (smerge_nil _).symm
  | h1 B x ih => rw [← List.append_assoc, ssort_snoc, ssort_snoc, ih, smerge_insR h]

theorem insR_mem {x y : α} : ∀ {l : List α}, y ∈ insR lt x l ↔ y = x ∨ y ∈ l
  | [] => by simp [insR]
  | z :: l => by
    rw [insR]
    split
    · simp
    · simp [insR_mem (l := l)]
      constructor
      · rintro (h | h | h) <;> simp [h]
      · rintro (h | h | h) <;> simp [h]
theorem ssort_mem {y : α} {l : List α} : y ∈ ssort lt l ↔ y ∈ l := by
  induction l using snocRec with
  | h0 => rfl
  | h1 l x ih => rw [ssort_snoc, insR_mem, ih]; simp [or_comm]
theorem insR_srt (h : SOrd lt) (x : α) : ∀ {l : List α}, Srt lt l → Srt lt (insR lt x l)
  | [], _ => by simp [insR]
  | y :: l, hs => by
    rw [insR]
    have hy := List.pairwise_cons.1 hs
    split
    · rename_i hx
      refine List.pairwise_cons.2 ⟨fun z hz => ?_, hs⟩
      rcases List.mem_cons.1 hz with rfl | hz
      · exact h.asym _ _ hx
      · exact h.tr z y x (hy.1 z hz) (h.asym _ _ hx)
    · rename_i hx
      refine List.pairwise_cons.2 ⟨fun z hz => ?_, insR_srt h x hy.2⟩
      rcases insR_mem.1 hz with rfl | hz
      · simpa using hx
      · exact hy.1 z hz
theorem ssort_srt (h : SOrd lt) (l : List α) : Srt lt (ssort lt l) := by
  induction l using snocRec with
  | h0 => exact .nil
  | h1 l x ih => rw [ssort_snoc]; exact insR_srt h x ih

theorem insR_end (h : SOrd lt) {x y : α} (hx : lt x y = true) : ∀ l : List α, insR lt x (l ++ [y]) = insR lt x l ++ [y]
  | [] => by simp [insR, hx]
  | z :: l => by
    rw [List.cons_append, insR, insR]
    split
    · rfl
    · rw [insR_end h hx l]; rfl
theorem insR_last {x : α} : ∀ {l : List α}, (∀ z, z ∈ l → lt x z = false) → insR lt x l = l ++ [x]
  | [], _ => rfl
  | z :: l, hz => by
    rw [insR, if_neg (by rw [hz z (by simp)]; simp), insR_last fun w hw => hz w (by simp [hw])]
    rfl
theorem rins_insR (h : SOrd lt) (x : α) (l : List α) (hs : Srt lt l) : (rins lt x l.reverse).reverse = insR lt x l := by
  induction l using snocRec with
  | h0 => rfl
  | h1 l y ih =>
    rw [List.reverse_append, List.reverse_singleton, List.singleton_append, rins]
    have hp := List.pairwise_append.1 hs
    split
    · rename_i hx
      rw [List.reverse_cons, ih hp.1, insR_end h hx]
    · rename_i hx
      rw [insR_last]
      · simp
      · intro z hz
        rcases List.mem_append.1 hz with hz | hz
        · exact h.tr x y z (by simpa using hx) (hp.2.2 z hz y (by simp))
        · simp at hz; subst hz; simpa using hx
theorem isort_ssort (h : SOrd lt) (l : List α) : isort lt l = ssort lt l := by
  induction l using snocRec with
  | h0 => rfl
  | h1 l x ih =>
    have e : rsort lt l = (ssort lt l).reverse := by rw [← ih, isort, List.reverse_reverse]
    rw [isort, rsort_snoc, e, rins_insR h x _ (ssort_srt h l), ssort_snoc]

theorem smerge_split (h : SOrd lt) : ∀ {A1 A2 B1 B2 : List α}, (∀ x, x ∈ A2 → ∀ y, y ∈ B1 → lt y x = true) → (∀ x, x ∈ A1 → ∀ y, y ∈ B2 → lt y x = false) → smerge lt (A1 ++ A2) (B1 ++ B2) = smerge lt A1 B1 ++ smerge lt A2 B2
  | [], A2, [], B2, _, _ => by simp [smerge]
  | [], [], b :: B1, B2, _, _ => by simp [smerge]
  | [], a :: A2, b :: B1, B2, h1, h2 => by
    rw [List.nil_append, List.cons_append, smerge_lt (h1 a (by simp) b (by simp))]
    have ih := smerge_split h (A1 := []) (A2 := a :: A2) (B1 := B1) (B2 := B2) (fun x hx y hy => h1 x hx y (by simp [hy])) (by simp)
    rw [List.nil_append] at ih
    rw [ih]
    simp [smerge]
  | a :: A1, A2, b :: B1, B2, h1, h2 => by
    rw [List.cons_append, List.cons_append, smerge, smerge]
    split
    · have ih := smerge_split h (A1 := a :: A1) (A2 := A2) (B1 := B1) (B2 := B2) (fun x hx y hy => h1 x hx y (by simp [hy])) h2
      rw [List.cons_append] at ih
      rw [ih]; rfl
    · have ih := smerge_split h (A1 := A1) (A2 := A2) (B1 := b :: B1) (B2 := B2) h1 (fun x hx => h2 x (by simp [hx]))
      rw [List.cons_append] at ih
      rw [ih]; rfl
  | a :: A1, A2, [], [], _, _ => by simp [smerge_nil]
  | a :: A1, A2, [], b :: B2, h1, h2 => by
    rw [List.cons_append, List.nil_append, smerge_ge (h2 a (by simp) b (by simp))]
    have ih := smerge_split h (A1 := A1) (A2 := A2) (B1 := []) (B2 := b :: B2) (by simp) (fun x hx => h2 x (by simp [hx]))
    rw [List.nil_append] at ih
    rw [ih, smerge_nil, smerge_nil]; rfl
termination_by A1 A2 B1 B2 => A1.length + A2.length + B1.length + B2.length

theorem smerge_one (x : α) : ∀ (B : List α) (i : Nat), i ≤ B.length → (∀ y, y ∈ B.take i → lt y x = true) → (∀ y, (B.drop i).head? = some y → lt y x = false) → smerge lt [x] B = B.take i ++ x :: B.drop i
  | [], i, _, _, _ => by simp [smerge]
  | b :: B, 0, _, _, h2 => by
    rw [smerge, if_neg (by rw [h2 b rfl]; simp)]
    simp [smerge]
  | b :: B, i + 1, hi, h1, h2 => by
    rw [smerge, if_pos (h1 b (by simp)), smerge_one x B i (by simpa using hi) (fun y hy => h1 y (by simp [hy])) (by simpa using h2)]
    simp
theorem smerge_one' (y : α) : ∀ (A : List α) (i : Nat), i ≤ A.length → (∀ x, x ∈ A.take i → lt y x = false) → (∀ x, (A.drop i).head? = some x → lt y x = true) → smerge lt A [y] = A.take i ++ y :: A.drop i
  | [], i, _, _, _ => by simp [smerge]
  | a :: A, 0, _, _, h2 => by
    rw [smerge, if_pos (h2 a rfl), smerge_nil]
    simp
  | a :: A, i + 1, hi, h1, h2 => by
    rw [smerge, if_neg (by rw [h1 a (by simp)]; simp), smerge_one' y A i (by simpa using hi) (fun x hx => h1 x (by simp [hx])) (by simpa using h2)]
    simp
theorem smerge_srt (h : SOrd lt) : ∀ {A B : List α}, Srt lt A → Srt lt B → Srt lt (smerge lt A B) ∧ ∀ z, z ∈ smerge lt A B → z ∈ A ∨ z ∈ B
  | [], B, _, hb => by simpa [smerge] using hb
  | a :: A, [], ha, _ => by simpa [smerge] using ha
  | a :: A, b :: B, ha, hb => by
    have ha' := List.pairwise_cons.1 ha
    have hb' := List.pairwise_cons.1 hb
    rw [smerge]
    split
    · rename_i hlt
      obtain ⟨i1, i2⟩ := smerge_srt h ha hb'.2
      refine ⟨List.pairwise_cons.2 ⟨fun z hz => ?_, i1⟩, fun z hz => ?_⟩
      · rcases i2 z hz with h' | h'
        · rcases List.mem_cons.1 h' with rfl | h'
          · exact h.asym _ _ hlt
          · exact h.tr z a b (ha'.1 z h') (h.asym _ _ hlt)
        · exact hb'.1 z h'
      · rcases List.mem_cons.1 hz with rfl | hz
        · simp
        · rcases i2 z hz with h' | h'
          · exact .inl h'
          · simp [h']
    · rename_i hlt
      obtain ⟨i1, i2⟩ := smerge_srt h ha'.2 hb
      refine ⟨List.pairwise_cons.2 ⟨fun z hz => ?_, i1⟩, fun z hz => ?_⟩
      · rcases i2 z hz with h' | h'
        · exact ha'.1 z h'
        · rcases List.mem_cons.1 h' with rfl | h'
          · simpa using hlt
          · exact h.tr z b a (hb'.1 z h') (by simpa using hlt)
      · rcases List.mem_cons.1 hz with rfl | hz
        · simp
        · rcases i2 z hz with h' | h'
          · simp [h']
          · exact .inr h'
termination_by A B => A.length + B.length

/-- Blocks of a length, each sorted. -/
def blk (lt : α → α → Bool) (bs : Nat) : Nat → List α → List α
  | 0, _ => []
  | f + 1, l => ssort lt (l.take bs) ++ blk lt bs f (l.drop bs)
theorem blk_nil (bs : Nat) : ∀ f, blk lt bs f [] = []
  | 0 => rfl
  | f + 1 => by simp [blk, blk_nil bs f, ssort]
theorem blk_one (bs f : Nat) {l : List α} (h : l.length ≤ bs) : blk lt bs (f + 1) l = ssort lt l := by rw [blk, List.take_of_length_le h, List.drop_eq_nil_of_le h, blk_nil, List.append_nil]
theorem blk_len (bs : Nat) : ∀ (f : Nat) (l : List α), l.length ≤ f * bs → (blk lt bs f l).length = l.length
  | 0, l, h => by simp at h; simp [blk, h]
  | f + 1, l, h => by
    rw [blk, List.length_append, ssort_len, blk_len bs f _ (by rw [List.length_drop]; rw [Nat.succ_mul] at h; omega)]
    simp; omega
theorem blk_two (h : SOrd lt) (bs f : Nat) (l : List α) : blk lt bs (f + 2) l = ssort lt (l.take bs) ++ ssort lt ((l.drop bs).take bs) ++ blk lt bs f (l.drop (2 * bs)) ∧ ssort lt (l.take (2 * bs)) = smerge lt (ssort lt (l.take bs)) (ssort lt ((l.drop bs).take bs)) := by
  constructor
  · rw [blk, blk, List.drop_drop, List.append_assoc]
    congr 3
    rw [Nat.two_mul]
  · rw [← ssort_app h, Nat.two_mul, List.take_add]
end
end Go.Proofs.YtmkhcmiplleghaaGreatDoor
