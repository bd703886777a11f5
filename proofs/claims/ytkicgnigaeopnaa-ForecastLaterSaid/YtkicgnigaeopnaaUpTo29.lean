/- Forecast: the plain laws. -/
import Derived.Test.YtkicgnigaeopnaaSplits
import Derived.Test.YtkicgnigaeopnaaMerge29
set_option linter.unusedSimpArgs false
set_option linter.unusedVariables false
namespace Go.Proofs.Ytkicgnigaeopnaa

/-- What the flows up to a day come to. -/
def upTo (fs : List Flow) (i : Int) : Int := ((fs.filter fun f => decide (0 ≤ f.d ∧ f.d ≤ i)).map (·.a)).sum
theorem upTo_nil (i : Int) : upTo [] i = 0 := rfl
theorem upTo_cons (f : Flow) (fs : List Flow) (i : Int) : upTo (f :: fs) i = (if 0 ≤ f.d ∧ f.d ≤ i then f.a else 0) + upTo fs i := by
  unfold upTo
  by_cases h : 0 ≤ f.d ∧ f.d ≤ i
  · rw [List.filter_cons_of_pos (by simpa using h), if_pos h]; simp
  · rw [List.filter_cons_of_neg (by simpa using h), if_neg h]; simp
theorem upTo_app (xs ys : List Flow) (i : Int) : upTo (xs ++ ys) i = upTo xs i + upTo ys i := by
  induction xs with
  | nil => simp [upTo_nil]
  | cons f xs ih => rw [List.cons_append, upTo_cons, upTo_cons, ih]; omega
theorem upTo_neg (fs : List Flow) : upTo fs (-1) = 0 := by
  induction fs with
  | nil => rfl
  | cons f fs ih => rw [upTo_cons, ih, if_neg (by omega)]; rfl
theorem delta_cons (f : Flow) (fs : List Flow) (d : Int) : delta (f :: fs) d = (if f.d = d then f.a else 0) + delta fs d := by
  rw [show f :: fs = [f] ++ fs from rfl, delta_app, delta_one]
theorem upTo_step (fs : List Flow) (i : Int) (hi : 0 ≤ i) : upTo fs i = upTo fs (i - 1) + delta fs i := by
  induction fs with
  | nil => rfl
  | cons f fs ih =>
    rw [upTo_cons, upTo_cons, delta_cons, ih]
    split <;> split <;> (try split) <;> omega
theorem upTo_perm {xs ys : List Flow} (h : xs.Perm ys) (i : Int) : upTo xs i = upTo ys i := by
  induction h with
  | nil => rfl
  | cons x _ ih => rw [upTo_cons, upTo_cons, ih]
  | swap x y l => simp only [upTo_cons]; omega
  | trans _ _ h1 h2 => rw [h1, h2]
theorem upTo_small (i : Int) : ∀ fs : List Flow, (∀ f, f ∈ fs → -700 ≤ f.a ∧ f.a ≤ 700) → -700 * (fs.length : Int) ≤ upTo fs i ∧ upTo fs i ≤ 700 * (fs.length : Int)
  | [], _ => by simp [upTo_nil]
  | f :: fs, h => by
    have h1 := upTo_small i fs fun g hg => h g (List.mem_cons_of_mem _ hg)
    have h2 := h f (List.mem_cons_self ..)
    rw [upTo_cons, List.length_cons]
    split <;> omega
/-- The positions of the first n days. -/
def posns (o : Int) (fs : List Flow) (n : Nat) : List Pos := (List.range n).map fun j : Nat => ⟨(j : Int), o + upTo fs j⟩
theorem posns_len (o : Int) (fs : List Flow) (n : Nat) : (posns o fs n).length = n := by simp [posns]
theorem posns_get (o : Int) (fs : List Flow) (n k : Nat) (h : k < n) : (posns o fs n)[k]? = some ⟨(k : Int), o + upTo fs k⟩ := by simp [posns, h]
theorem run_closed (fs : List Flow) (o : Int) (hb : ∀ i, totalB (o + upTo fs i) = true) : ∀ n i : Nat, run fs 0 i n (o + upTo fs ((i : Int) - 1)) = some ((List.range' i n).map fun j : Nat => (⟨(j : Int), o + upTo fs j⟩ : Pos))
  | 0, i => rfl
  | n + 1, i => by
    have e : o + upTo fs ((i : Int) - 1) + delta fs (0 + (i : Int)) = o + upTo fs i := by
      have := upTo_step fs i (by omega)
      rw [Int.zero_add]
      omega
    have e2 : o + upTo fs i = o + upTo fs (((i + 1 : Nat) : Int) - 1) := by congr 2; omega
    rw [run, e, if_pos (hb _), e2, run_closed fs o hb n (i + 1), List.range'_succ]
    simp
theorem project_closed (fs : List Flow) (o : Int) (m : Nat) (hc : checkI fs = 0) (ho : totalB o = true) (hm : m ≤ 900) (hb : ∀ i, totalB (o + upTo fs i) = true) : project o fs 0 m = (posns o fs (m + 1), 0) := by
  have h := run_closed fs o hb (m + 1) 0
  have e : o + upTo fs (((0 : Nat) : Int) - 1) = o := by
    have := upTo_neg fs
    simp at this ⊢
    omega
  rw [e] at h
  unfold project
  rw [if_neg (by simp [hc]), if_neg (by simp [ho, dayB, amongB]; omega), if_neg (by omega), show ((m : Int) - 0 + 1).toNat = m + 1 from by omega, h]
  simp [posns, List.range_eq_range']

theorem rins_perm {α : Type} (lt : α → α → Bool) (x : α) : ∀ l : List α, (rins lt x l).Perm (x :: l)
  | [] => .refl _
  | y :: ys => by
    simp only [rins]
    split
    · exact ((rins_perm lt x ys).cons y).trans (.swap x y ys)
    · exact .refl _
theorem rsort_perm {α : Type} (lt : α → α → Bool) : ∀ l acc : List α, (l.foldl (fun acc x => rins lt x acc) acc).Perm (l ++ acc)
  | [], acc => .refl _
  | x :: l, acc => by
    rw [List.foldl_cons]
    refine (rsort_perm lt l _).trans ?_
    refine ((rins_perm lt x acc).append_left l).trans ?_
    exact List.perm_middle
theorem isort_perm {α : Type} (lt : α → α → Bool) (l : List α) : (isort lt l).Perm l := by
  refine (List.reverse_perm _).trans ?_
  have := rsort_perm lt l []
  rwa [List.append_nil] at this
theorem checkI_perm {xs ys : List Flow} (h : xs.Perm ys) : checkI xs = checkI ys := by
  unfold checkI
  rw [h.length_eq]
  have : (xs.any fun f => !validB f) = ys.any fun f => !validB f := by
    rw [Bool.eq_iff_iff, List.any_eq_true, List.any_eq_true]
    exact ⟨fun ⟨f, hf, hv⟩ => ⟨f, h.mem_iff.1 hf, hv⟩, fun ⟨f, hf, hv⟩ => ⟨f, h.mem_iff.2 hf, hv⟩⟩
  rw [this]

/-- In order, back to front. -/
def Desc {α : Type} (lt : α → α → Bool) : List α → Prop
  | [] => True
  | [_] => True
  | x :: y :: l => lt x y = false ∧ Desc lt (y :: l)
theorem rins_desc {α : Type} (lt : α → α → Bool) (has : ∀ a b, lt a b = true → lt b a = false) (x : α) : ∀ l : List α, Desc lt l → Desc lt (rins lt x l)
  | [], _ => trivial
  | [y], _ => by
    simp only [rins]
    split
    · rename_i h; exact ⟨has _ _ h, trivial⟩
    · rename_i h; exact ⟨by simpa using h, trivial⟩
  | y :: z :: l, h => by
    have ih := rins_desc lt has x (z :: l) h.2
    simp only [rins]
    split
    · rename_i hxy
      simp only [rins] at ih
      split
      · rename_i hxz
        rw [if_pos hxz] at ih
        exact ⟨h.1, ih⟩
      · rename_i hxz
        rw [if_neg hxz] at ih
        exact ⟨has _ _ hxy, ih⟩
    · rename_i hxy; exact ⟨by simpa using hxy, h⟩
theorem rsort_desc {α : Type} (lt : α → α → Bool) (has : ∀ a b, lt a b = true → lt b a = false) : ∀ l acc : List α, Desc lt acc → Desc lt (l.foldl (fun acc x => rins lt x acc) acc)
  | [], acc, h => h
  | x :: l, acc, h => rsort_desc lt has l _ (rins_desc lt has x acc h)
theorem Desc.get {α : Type} {lt : α → α → Bool} : ∀ {l : List α}, Desc lt l → ∀ i (h : i + 1 < l.length), lt (l[i]'(by omega)) (l[i + 1]) = false
  | [], _, i, h => by simp at h
  | [_], _, i, h => by simp at h
  | x :: y :: l, hd, 0, _ => hd.1
  | x :: y :: l, hd, i + 1, h => Desc.get hd.2 i (by simpa using h)
/-- Sorted: no element comes ahead of the one in front of it. -/
theorem isort_sorted {α : Type} (lt : α → α → Bool) (has : ∀ a b, lt a b = true → lt b a = false) (l : List α) (i : Nat) (h : i + 1 < (isort lt l).length) : lt ((isort lt l)[i + 1]) ((isort lt l)[i]'(by omega)) = false := by
  have hd := rsort_desc lt has l [] trivial
  have hl : (isort lt l).length = (rsort lt l).length := by simp [isort]
  have := Desc.get (l := rsort lt l) hd ((rsort lt l).length - 1 - (i + 1)) (by omega)
  simp only [isort, List.getElem_reverse]
  have e : (rsort lt l).length - 1 - (i + 1) + 1 = (rsort lt l).length - 1 - i := by omega
  simp only [e] at this
  exact this
theorem bef_asymm (a b : Flow) (h : befB a b = true) : befB b a = false := by
  unfold befB at *
  simp at *
  omega

end Go.Proofs.Ytkicgnigaeopnaa
