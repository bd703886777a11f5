/- Taxes: plain laws. -/
import Derived.Test.YtabdihohphlheaaGreatDoorTax6
import Derived.Test.YtabdihohphlheaaGreatDoorLaw28a
set_option linter.unusedSimpArgs false
set_option linter.unusedVariables false
namespace Go.Proofs.YtabdihohphlheaaGreatDoor
open Go.PA
open Go.RowKit

section
variable {α : Type} {lt : α → α → Bool}
theorem insR_first {x : α} : ∀ {l : List α}, (∀ z, z ∈ l → lt x z = true) → insR lt x l = x :: l
  | [], _ => rfl
  | z :: l, h => by rw [insR, if_pos (h z (by simp))]
theorem insR_filter (h : SOrd lt) (p : α → Bool) (x : α) : ∀ {l : List α}, Srt lt l → (insR lt x l).filter p = if p x then insR lt x (l.filter p) else l.filter p
  | [], _ => by cases hp : p x <;> simp [insR, hp]
  | y :: l, hs => by
    have hy := List.pairwise_cons.1 hs
    rw [insR]
    by_cases c : lt x y = true
    · rw [if_pos c, List.filter_cons]
      cases hp : p x
      · simp
      · rw [if_pos rfl, if_pos rfl, insR_first]
        intro z hz
        have hz := (List.mem_filter.1 hz).1
        rcases List.mem_cons.1 hz with rfl | hz
        · exact c
        · have h2 : lt z y = false := hy.1 z hz
          cases hc : lt x z
          · have := h.tr x z y hc h2
            rw [this] at c
            cases c
          · rfl
    · rw [if_neg c, List.filter_cons, insR_filter h p x hy.2, List.filter_cons]
      cases hq : p y
      · simp
      · cases hp : p x
        · simp
        · simp [insR, c]
theorem ssort_filter (h : SOrd lt) (p : α → Bool) (l : List α) : (ssort lt l).filter p = ssort lt (l.filter p) := by
  induction l using snocRec with
  | h0 => rfl
  | h1 l x ih =>
    rw [ssort_snoc, insR_filter h p x (ssort_srt h l), List.filter_append, ih]
    cases hp : p x
    · simp [hp]
    · simp only [List.filter_cons, hp, if_true, List.filter_nil]
      rw [ssort_snoc]
theorem filter_split {p q : α → Bool} : ∀ {l : List α}, l.Pairwise (fun x y => q x = true → p y = false) → (∀ x, x ∈ l → p x = true → q x = false) → l.filter p ++ l.filter q = l.filter fun x => p x || q x
  | [], _, _ => rfl
  | x :: l, h, k => by
    have hx := List.pairwise_cons.1 h
    have ih := filter_split hx.2 fun y hy => k y (List.mem_cons_of_mem _ hy)
    cases hp : p x
    · cases hq : q x
      · simp only [List.filter_cons, hp, hq, Bool.or_self]
        simpa using ih
      · have e : l.filter p = [] := List.filter_eq_nil_iff.2 fun y hy => by rw [hx.1 y hy hq]; simp
        rw [e, List.nil_append] at ih
        simp only [List.filter_cons, hp, hq, Bool.or_true]
        rw [e, ih]
        rfl
    · have hq := k x (List.mem_cons_self ..) hp
      simp only [List.filter_cons, hp, hq, Bool.or_false, if_true]
      rw [List.cons_append]
      simpa using ih
end

/-! ### Spans -/
theorem rowF_filter (g : Int → Bool) (t : TTax) (i : Nat) (ds : List Int) : rowF (fun _ d => g d) t i ds = (rowF (fun _ _ => true) t i ds).filter fun x => g x.Day := by
  unfold rowF
  rw [List.filter_map, List.filter_filter]
  congr 1
  apply List.filter_congr
  intro d _
  simp [Bool.and_comm]
theorem rawF_filter (g : Int → Bool) : ∀ (l : List TTax) (i : Nat), rawF (fun _ d => g d) i l = (rawF (fun _ _ => true) i l).filter fun x => g x.Day
  | [], _ => rfl
  | t :: l, i => by rw [rawF, rawF, List.filter_append, rowF_filter, rawF_filter g l (i + 1)]
theorem flowsD_filter (g : Int → Bool) (l : List TTax) : flowsD (fun _ d => g d) l = (flowsD (fun _ _ => true) l).filter fun x => g x.Day := by
  rw [flowsD, flowsD, ssort_filter dayLt_ord, rawF_filter]
theorem flows_spans (l : List TTax) {a m b : Int} (h1 : a ≤ m) (h2 : m < b) : flowsD (fun _ d => btw d a m) l ++ flowsD (fun _ d => btw d (m + 1) b) l = flowsD (fun _ d => btw d a b) l := by
  rw [flowsD_filter (fun d => btw d a m), flowsD_filter (fun d => btw d (m + 1) b), flowsD_filter (fun d => btw d a b), filter_split]
  · apply List.filter_congr
    intro x _
    rw [Bool.eq_iff_iff, Bool.or_eq_true, btw_iff, btw_iff, btw_iff]
    omega
  · refine List.Pairwise.imp ?_ (ssort_srt dayLt_ord (rawF (fun _ _ => true) 0 l))
    intro x y hxy hq
    have hxy : dayLt y x = false := hxy
    simp only [dayLt, decide_eq_false_iff_not] at hxy
    have := btw_iff.1 hq
    exact btw_no (by omega)
  · intro x _ hp
    have := btw_iff.1 hp
    exact btw_no (by omega)

/-! ### Sums -/
theorem sumA_insR (x : TFlow) : ∀ l : List TFlow, sumA (insR dayLt x l) = x.Amount + sumA l
  | [] => by simp [insR, sumA]
  | y :: l => by
    rw [insR]
    split
    · simp [sumA]
    · have := sumA_insR x l
      have e : ∀ z (k : List TFlow), sumA (z :: k) = z.Amount + sumA k := fun z k => by simp [sumA]
      rw [e, e, this]
      omega
theorem sumA_ssort (l : List TFlow) : sumA (ssort dayLt l) = sumA l := by
  induction l using snocRec with
  | h0 => rfl
  | h1 l x ih => rw [ssort_snoc, sumA_insR, ih, sumA_snoc]; omega
/-- What a tax brings on the days that are wanted. -/
def dsum (g : Int → Bool) (A : Int) (ds : List Int) : Int := (ds.map fun d => if g d then A else 0).sum
def tsum (w : TTax → Int → Bool) (l : List TTax) : Int := (l.map fun t => dsum (w t) (amountD t) (daysD t)).sum
theorem sumA_row (w : TTax → Int → Bool) (t : TTax) (i : Nat) : ∀ ds : List Int, sumA (rowF w t i ds) = dsum (w t) (amountD t) ds
  | [] => rfl
  | d :: ds => by
    have ih := sumA_row w t i ds
    have hA := (amountD_bd t).1
    unfold rowF at ih ⊢
    have e : dsum (w t) (amountD t) (d :: ds) = (if w t d then amountD t else 0) + dsum (w t) (amountD t) ds := by simp [dsum]
    rw [e, ← ih, List.filter_cons]
    cases hw : w t d
    · simp
    · by_cases h0 : 0 < amountD t
      · simp [h0, sumA]
      · have : amountD t = 0 := by omega
        simp [this, sumA]
theorem sumA_app (a b : List TFlow) : sumA (a ++ b) = sumA a + sumA b := by simp [sumA]
theorem sumA_raw (w : TTax → Int → Bool) : ∀ (l : List TTax) (i : Nat), sumA (rawF w i l) = tsum w l
  | [], _ => rfl
  | t :: l, i => by
    rw [rawF, sumA_app, sumA_row, sumA_raw w l (i + 1)]
    simp [tsum]
theorem sumA_flows (w : TTax → Int → Bool) (l : List TTax) : sumA (flowsD w l) = tsum w l := by rw [flowsD, sumA_ssort, sumA_raw]

/-- Two wanted days at a time. -/
theorem tsum_eq {w : TTax → Int → Bool} {l : List TTax} {f : TTax → Int} (h : ∀ t, t ∈ l → dsum (w t) (amountD t) (daysD t) = f t) : tsum w l = (l.map f).sum := by
  rw [tsum]
  congr 1
  exact List.map_congr_left h
theorem sum_add {β : Type} (f g : β → Int) : ∀ l : List β, (l.map fun t => f t + g t).sum = (l.map f).sum + (l.map g).sum
  | [] => rfl
  | t :: l => by
    have := sum_add f g l
    simp only [List.map_cons, List.sum_cons] at this ⊢
    omega
theorem dsum_add {g1 g2 g : Int → Bool} (A : Int) : ∀ (ds : List Int), (∀ d, d ∈ ds → ((if g d then A else 0) : Int) = (if g1 d then A else 0) + (if g2 d then A else 0)) → dsum g A ds = dsum g1 A ds + dsum g2 A ds
  | [], _ => rfl
  | d :: ds, h => by
    have e : ∀ g, dsum g A (d :: ds) = (if g d then A else 0) + dsum g A ds := fun g => by simp [dsum]
    rw [e, e, e, dsum_add A ds fun x hx => h x (List.mem_cons_of_mem _ hx), h d (List.mem_cons_self ..)]
    omega
theorem dsum_congr {g g' : Int → Bool} (A : Int) {ds : List Int} (h : ∀ d, d ∈ ds → g d = g' d) : dsum g A ds = dsum g' A ds := by
  rw [dsum, dsum]
  congr 1
  exact List.map_congr_left fun d hd => by rw [h d hd]
theorem dsum_no (A : Int) (ds : List Int) : dsum (fun _ => false) A ds = 0 := by
  rw [dsum]
  induction ds with
  | nil => rfl
  | cons d ds ih => simpa using ih

abbrev k1 : ByteArray := ⟨#[49]⟩
abbrev k2 : ByteArray := ⟨#[50]⟩
abbrev k29 : ByteArray := ⟨#[50, 46, 57]⟩
abbrev k210 : ByteArray := ⟨#[50, 46, 49, 48]⟩
/-- What lies under which code. -/
theorem under_codes : (codes.all fun c => (underB c k1 != underB c k2) && (underB c k2 == (underB c k29 || underB c k210 || decide (c = k2))) && !(underB c k29 && underB c k210) && !(decide (c = k2) && (underB c k29 || underB c k210))) = true := by kernel_rfl
theorem code_cases {c : ByteArray} (h : c ∈ codes) : (underB c k1 = !underB c k2) ∧ ((underB c k2 = false ∧ underB c k29 = false ∧ underB c k210 = false ∧ ¬ c = k2) ∨ (underB c k2 = true ∧ ((underB c k29 = true ∧ underB c k210 = false ∧ ¬ c = k2) ∨ (underB c k29 = false ∧ underB c k210 = true ∧ ¬ c = k2) ∨ (underB c k29 = false ∧ underB c k210 = false ∧ c = k2)))) := by
  have := List.all_eq_true.1 under_codes _ h
  cases h1 : underB c k1 <;> cases h2 : underB c k2 <;> cases h3 : underB c k29 <;> cases h4 : underB c k210 <;> by_cases h5 : c = k2 <;> simp_all

/-- What the taxes of the code "2" itself bring in a year. -/
def ownSum (l : List TTax) (y : Int) : Int := (l.map fun t => if t.Code = k2 then dsum (fun d => decide (calY d = y)) (amountD t) (daysD t) else 0).sum
theorem dsum_year {t : TTax} (h : t.Code ∈ codes) (c : ByteArray) (y A : Int) (ds : List Int) : dsum (yearW c y t) A ds = if underB t.Code c then dsum (fun d => decide (calY d = y)) A ds else 0 := by
  cases hu : underB t.Code c
  · rw [if_neg (by simp), ← dsum_no A ds]
    exact dsum_congr A fun d _ => by simp [yearW, hu]
  · rw [if_pos rfl]
    exact dsum_congr A fun d _ => by simp [yearW, hu]
theorem years_parts {l : List TTax} (h : ∀ t, t ∈ l → t.Code ∈ codes) (y : Int) : tsum (yearW k2 y) l = tsum (yearW k29 y) l + tsum (yearW k210 y) l + ownSum l y := by
  rw [tsum, tsum, tsum, ownSum, ← sum_add, ← sum_add]
  congr 1
  refine List.map_congr_left fun t ht => ?_
  have hc := h t ht
  rw [dsum_year hc, dsum_year hc, dsum_year hc]
  obtain ⟨_, ⟨a1, a2, a3, a4⟩ | ⟨a1, ⟨a2, a3, a4⟩ | ⟨a2, a3, a4⟩ | ⟨a2, a3, a4⟩⟩⟩ := code_cases hc
  all_goals simp [a1, a2, a3, a4]
  all_goals (rw [a4] at a1 a2 a3; simp [a1, a2, a3])

/-- What is brought before a year. -/
def upTo (l : List TTax) (n : Int) : Int := tsum (fun _ d => decide (calY d < n)) l
theorem upTo_step {l : List TTax} (h : ∀ t, t ∈ l → t.Code ∈ codes) (n : Int) : upTo l (n + 1) = upTo l n + (tsum (yearW k1 n) l + tsum (yearW k2 n) l) := by
  rw [upTo, upTo, tsum, tsum, tsum, tsum, ← sum_add, ← sum_add]
  congr 1
  refine List.map_congr_left fun t ht => ?_
  have hc := h t ht
  rw [dsum_year hc, dsum_year hc]
  have e : dsum (fun d => decide (calY d < n + 1)) (amountD t) (daysD t) = dsum (fun d => decide (calY d < n)) (amountD t) (daysD t) + dsum (fun d => decide (calY d = n)) (amountD t) (daysD t) := by
    refine dsum_add _ _ fun d _ => ?_
    by_cases c1 : calY d < n
    · have c2 : ¬ calY d = n := by omega
      have c3 : calY d < n + 1 := by omega
      simp [c1, c2, c3]
    · by_cases c2 : calY d = n
      · have c3 : calY d < n + 1 := by omega
        rw [decide_eq_true c3, decide_eq_false c1, decide_eq_true c2]
        simp
      · have c3 : ¬ calY d < n + 1 := by omega
        simp [c1, c2, c3]
  rw [e]
  have := (code_cases hc).1
  cases hu : underB t.Code k2 <;> rw [hu] at this <;> simp [this]
theorem days_in {t : TTax} (h : GenTax t) : ∀ d, d ∈ daysD t → 0 ≤ d ∧ d ≤ 36000 := by
  intro d hd
  rw [days_gen h] at hd
  obtain ⟨i, hi, rfl⟩ := List.mem_map.1 hd
  have hi := List.mem_range.1 hi
  obtain ⟨_, _, _, _, _, ⟨f1, f2⟩, h7, ⟨n1, n2⟩⟩ := h
  simp only [List.mem_cons, List.not_mem_nil, or_false] at h7
  have b : 0 ≤ t.First + 30 * t.Every * i ∧ t.First + 30 * t.Every * i ≤ 3000 := by
    rcases h7 with e | e | e | e <;> rw [e] <;> omega
  obtain ⟨_, o2, o3⟩ := openD_facts _ b.1
  omega
theorem calY_in {d : Int} (h : 0 ≤ d ∧ d ≤ 36000) : calY d = d / 360 ∧ 0 ≤ calY d ∧ calY d ≤ 100 := by
  have e : calY d = d / 360 := by rw [calY, if_pos (btw_iff.2 h)]
  rw [e]
  omega
theorem upTo_zero {l : List TTax} (h : ∀ t, t ∈ l → GenTax t) : upTo l 0 = 0 := by
  have e : upTo l 0 = (l.map fun _ => (0 : Int)).sum := by
    refine tsum_eq fun t ht => ?_
    refine (dsum_congr _ fun d hd => ?_).trans (dsum_no (amountD t) (daysD t))
    have := (calY_in (days_in (h t ht) d hd)).2.1
    simp only [decide_eq_false_iff_not]
    omega
  rw [e]
  clear e h
  induction l with
  | nil => rfl
  | cons t l ih => simpa using ih
theorem upTo_all {l : List TTax} (h : ∀ t, t ∈ l → GenTax t) : upTo l 101 = tsum (fun _ d => btw d 0 36000) l := by
  rw [upTo, tsum, tsum]
  congr 1
  refine List.map_congr_left fun t ht => dsum_congr _ fun d hd => ?_
  have b := days_in (h t ht) d hd
  have := (calY_in b).2.2
  rw [btw_iff.2 b, decide_eq_true_eq]
  omega
end Go.Proofs.YtabdihohphlheaaGreatDoor
