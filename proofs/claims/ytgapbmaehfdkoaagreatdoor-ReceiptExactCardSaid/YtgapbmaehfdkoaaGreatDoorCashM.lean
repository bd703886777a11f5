/- Receipts: the running sums of the matches. Plain. -/
import Derived.Test.YtgapbmaehfdkoaaGreatDoorCash0
set_option linter.unusedSimpArgs false
set_option linter.unusedVariables false
namespace Go.Proofs.YtgapbmaehfdkoaaGreatDoor

theorem map_set_of {α : Type} {l : List α} {f g : α → Int} {k : Nat} {x : α} {v : Int} (hk : l[k]? = some x) (hne : ∀ j y, l[j]? = some y → ¬ j = k → g y = f y) (hx : g x = v) : l.map g = (l.map f).set k v := by
  apply List.ext_getElem?
  intro j
  rw [List.getElem?_map]
  by_cases e : k = j
  · subst e
    rw [hk, List.getElem?_set_self (by rw [List.length_map]; exact (List.getElem?_eq_some_iff.1 hk).1), ← hx]
    rfl
  · rw [List.getElem?_set_ne e, List.getElem?_map]
    cases hj : l[j]? with
    | none => rfl
    | some y => simp [hne j y hj (fun h => e h.symm)]
theorem take_snoc {α : Type} {l : List α} {j : Nat} {m : α} (h : l[j]? = some m) : l.take (j + 1) = l.take j ++ [m] := by
  rw [List.take_add_one, h]
  rfl
theorem drop_atL {α : Type} {l : List α} {k : Nat} {e : α} (h : l[k]? = some e) : l.drop k = e :: l.drop (k + 1) := by
  obtain ⟨h1, h2⟩ := List.getElem?_eq_some_iff.1 h
  rw [List.drop_eq_getElem_cons h1, h2]
/-- What is matched of each claim, and used of each income, by the first matches. -/
def gotL (c : TCash) (ms : List TMatch) : List Int := c.Claims.map fun x => gotS ms x.ID
def useL (c : TCash) (ms : List TMatch) : List Int := c.Incomes.map fun y => usedS ms y.Number
def leftL (c : TCash) (ms : List TMatch) : List Int := c.Claims.map fun x => x.Amount - gotS ms x.ID
def restL (c : TCash) (ms : List TMatch) : List Int := c.Incomes.map fun y => y.Amount - usedS ms y.Number
section
variable {c : TCash} {ms : List TMatch} {m : TMatch} {i k : Nat} {x : TClaim} {y : TIncome}
theorem gotL_snoc (hp : c.Claims.Pairwise fun a b => a.ID < b.ID) (hk : c.Claims[k]? = some x) (e : x.ID = m.Claim) : gotL c (ms ++ [m]) = (gotL c ms).set k (gotS ms x.ID + m.Amount) :=
  map_set_of hk (fun j z hj hne => by rw [gotS_snoc, if_neg (fun h => hne (id_inj hp hj hk (by omega))), Int.add_zero]) (by rw [gotS_snoc, if_pos e.symm])
theorem leftL_snoc (hp : c.Claims.Pairwise fun a b => a.ID < b.ID) (hk : c.Claims[k]? = some x) (e : x.ID = m.Claim) : leftL c (ms ++ [m]) = (leftL c ms).set k (x.Amount - gotS ms x.ID - m.Amount) :=
  map_set_of hk (fun j z hj hne => by rw [gotS_snoc, if_neg (fun h => hne (id_inj hp hj hk (by omega))), Int.add_zero]) (by rw [gotS_snoc, if_pos e.symm]; omega)
theorem useL_snoc (hp : c.Incomes.Pairwise fun a b => a.Number < b.Number ∧ a.Day ≤ b.Day) (hi : c.Incomes[i]? = some y) (e : y.Number = m.Income) : useL c (ms ++ [m]) = (useL c ms).set i (usedS ms y.Number + m.Amount) :=
  map_set_of hi (fun j z hj hne => by rw [usedS_snoc, if_neg (fun h => hne (num_inj hp hj hi (by omega))), Int.add_zero]) (by rw [usedS_snoc, if_pos e.symm])
theorem restL_snoc (hp : c.Incomes.Pairwise fun a b => a.Number < b.Number ∧ a.Day ≤ b.Day) (hi : c.Incomes[i]? = some y) (e : y.Number = m.Income) : restL c (ms ++ [m]) = (restL c ms).set i (y.Amount - usedS ms y.Number - m.Amount) :=
  map_set_of hi (fun j z hj hne => by rw [usedS_snoc, if_neg (fun h => hne (num_inj hp hj hi (by omega))), Int.add_zero]) (by rw [usedS_snoc, if_pos e.symm]; omega)
end
theorem sum_app (f : TMatch → Int) (a b : List TMatch) : ((a ++ b).map f).sum = (a.map f).sum + (b.map f).sum := by rw [List.map_append, List.sum_append]
theorem gotS_nonneg : ∀ (ms : List TMatch) (id : Int), (∀ m, m ∈ ms → 0 < m.Amount) → 0 ≤ gotS ms id
  | [], _, _ => by simp [gotS]
  | m :: ms, id, h => by
    have ih := gotS_nonneg ms id fun z hz => h z (List.mem_cons_of_mem _ hz)
    have := h m (List.mem_cons_self ..)
    unfold gotS at ih ⊢
    by_cases e : m.Claim = id
    · simp only [List.filter_cons, e, decide_true, if_true, List.map_cons, List.sum_cons]; omega
    · simp only [List.filter_cons, e, decide_false, Bool.false_eq_true, if_false]; exact ih
theorem usedS_nonneg : ∀ (ms : List TMatch) (n : Int), (∀ m, m ∈ ms → 0 < m.Amount) → 0 ≤ usedS ms n
  | [], _, _ => by simp [usedS]
  | m :: ms, n, h => by
    have ih := usedS_nonneg ms n fun z hz => h z (List.mem_cons_of_mem _ hz)
    have := h m (List.mem_cons_self ..)
    unfold usedS at ih ⊢
    by_cases e : m.Income = n
    · simp only [List.filter_cons, e, decide_true, if_true, List.map_cons, List.sum_cons]; omega
    · simp only [List.filter_cons, e, decide_false, Bool.false_eq_true, if_false]; exact ih
theorem gotS_app (a b : List TMatch) (id : Int) : gotS (a ++ b) id = gotS a id + gotS b id := by
  unfold gotS
  rw [List.filter_append, List.map_append, List.sum_append]
theorem usedS_app (a b : List TMatch) (n : Int) : usedS (a ++ b) n = usedS a n + usedS b n := by
  unfold usedS
  rw [List.filter_append, List.map_append, List.sum_append]
/-- A match that can be counted, behind those before it. -/
def fitsM (c : TCash) (ms : List TMatch) (m : TMatch) : Prop := ∃ i k x y, incAt c.Incomes m.Income = some i ∧ payAt c.Claims m.Claim = some k ∧ c.Claims[k]? = some x ∧ c.Incomes[i]? = some y ∧ x.ID = m.Claim ∧ y.Number = m.Income ∧ y.Payer = x.Payer ∧ 0 < m.Amount ∧ m.Amount ≤ x.Amount - gotS ms x.ID ∧ m.Amount ≤ y.Amount - usedS ms y.Number
theorem payAt_some {l : List TClaim} {id : Int} {k : Nat} (h : payAt l id = some k) : ∃ x, l[k]? = some x ∧ x.ID = id := by
  obtain ⟨h1, h2, _⟩ := List.findIdx?_eq_some_iff_getElem.1 h
  exact ⟨_, List.getElem?_eq_getElem h1, by simpa using h2⟩
theorem incAt_some {l : List TIncome} {n : Int} {i : Nat} (h : incAt l n = some i) : ∃ y, l[i]? = some y ∧ y.Number = n := by
  obtain ⟨h1, h2, _⟩ := List.findIdx?_eq_some_iff_getElem.1 h
  exact ⟨_, List.getElem?_eq_getElem h1, by simpa using h2⟩
theorem payAt_none {l : List TClaim} {id : Int} (h : payAt l id = none) : ∀ x, x ∈ l → ¬ x.ID = id := fun x hx => by
  have := List.findIdx?_eq_none_iff.1 h x hx
  simpa using this
theorem incAt_none {l : List TIncome} {n : Int} (h : incAt l n = none) : ∀ x, x ∈ l → ¬ x.Number = n := fun x hx => by
  have := List.findIdx?_eq_none_iff.1 h x hx
  simpa using this
theorem payAt_mem {l : List TClaim} {x : TClaim} (hx : x ∈ l) : ∃ k, payAt l x.ID = some k := by
  cases h : payAt l x.ID with
  | some k => exact ⟨k, rfl⟩
  | none => exact absurd rfl (payAt_none h x hx)
theorem incAt_mem {l : List TIncome} {x : TIncome} (hx : x ∈ l) : ∃ k, incAt l x.Number = some k := by
  cases h : incAt l x.Number with
  | some k => exact ⟨k, rfl⟩
  | none => exact absurd rfl (incAt_none h x hx)
structure Books (c : TCash) : Prop where
  len : c.Loose.length = c.Incomes.length
  mates : ∀ m, m ∈ c.Matches → 0 < m.Amount ∧ ∃ x y, x ∈ c.Claims ∧ y ∈ c.Incomes ∧ x.ID = m.Claim ∧ y.Number = m.Income ∧ y.Payer = x.Payer
  got : ∀ x, x ∈ c.Claims → gotS c.Matches x.ID = x.Amount - x.Open
  used : ∀ (i : Nat) y lo, c.Incomes[i]? = some y → c.Loose[i]? = some lo → 0 ≤ lo ∧ usedS c.Matches y.Number ≤ y.Amount - lo
theorem zip_mem {α β : Type} {l : List α} {r : List β} {p : α × β} : p ∈ l.zip r ↔ ∃ i : Nat, l[i]? = some p.1 ∧ r[i]? = some p.2 := by
  constructor
  · intro h
    obtain ⟨i, hi⟩ := List.getElem?_of_mem h
    exact ⟨i, List.getElem?_zip_eq_some.1 hi⟩
  · rintro ⟨i, h⟩
    exact List.mem_of_getElem? (i := i) (List.getElem?_zip_eq_some.2 h)
theorem booksB_iff (c : TCash) : booksB c = true ↔ Books c := by
  unfold booksB
  simp only [Bool.and_eq_true, decide_eq_true_eq, List.all_eq_true]
  constructor
  · rintro ⟨⟨⟨h1, h2⟩, h3⟩, h4⟩
    refine ⟨h1, fun m hm => ?_, h3, fun i y lo hy hl => h4 (y, lo) (zip_mem.2 ⟨i, hy, hl⟩)⟩
    have := h2 m hm
    simp only [mateB, Bool.and_eq_true, decide_eq_true_eq, List.any_eq_true] at this
    obtain ⟨q1, x, q2, q3, y, q4, q5, q6⟩ := this
    exact ⟨q1, x, y, q2, q4, q3, q5, q6⟩
  · intro h
    refine ⟨⟨⟨h.len, fun m hm => ?_⟩, h.got⟩, fun p hp => ?_⟩
    · obtain ⟨q1, x, y, q2, q3, q4, q5, q6⟩ := h.mates m hm
      simp only [mateB, Bool.and_eq_true, decide_eq_true_eq, List.any_eq_true]
      exact ⟨q1, x, q2, q4, y, q3, q5, q6⟩
    · obtain ⟨i, h1, h2⟩ := zip_mem.1 hp
      exact h.used i p.1 p.2 h1 h2
theorem incB_amount {y : TIncome} (h : incB y = true) : 1 ≤ y.Amount ∧ y.Amount ≤ 1000000000000 := by
  simp only [incB, Bool.and_eq_true] at h
  exact btw_iff.1 h.1.2
/-- In books that are right each match fits behind those before it. -/
theorem Books.fits {c : TCash} (h : Books c) (hp : paysB 0 c.Claims = true) (hx : incsB 0 0 c.Incomes = true) {j : Nat} {m : TMatch} (hm : c.Matches[j]? = some m) : fitsM c (c.Matches.take j) m := by
  obtain ⟨h1, x, y, h2, h3, h4, h5, h6⟩ := h.mates m (List.mem_of_getElem? hm)
  have hpw := ((paysB_iff _ _).1 hp)
  have hiw := ((incsB_iff _ _ _).1 hx)
  obtain ⟨k, hk⟩ := payAt_mem h2
  obtain ⟨i, hi⟩ := incAt_mem h3
  obtain ⟨x', hx1, hx2⟩ := payAt_some hk
  obtain ⟨y', hy1, hy2⟩ := incAt_some hi
  obtain ⟨k2, hk2⟩ := List.getElem?_of_mem h2
  obtain ⟨i2, hi2⟩ := List.getElem?_of_mem h3
  have ek := id_inj hpw.2 hx1 hk2 hx2
  have ei := num_inj hiw.2 hy1 hi2 hy2
  subst ek; subst ei
  rw [hx1] at hk2; cases hk2
  rw [hy1] at hi2; cases hi2
  have split : c.Matches = c.Matches.take j ++ (m :: c.Matches.drop (j + 1)) := by
    have hl := (List.getElem?_eq_some_iff.1 hm)
    obtain ⟨hl1, hl2⟩ := hl
    have e := List.drop_eq_getElem_cons hl1
    rw [hl2] at e
    rw [← e, List.take_append_drop]
  have pos : ∀ z, z ∈ c.Matches.drop (j + 1) → 0 < z.Amount := fun z hz => (h.mates z (List.mem_of_mem_drop hz)).1
  have hg := h.got x h2
  have hc := payB_iff.1 (hpw.1 x h2).1
  rw [split, gotS_app, ← List.singleton_append, gotS_app] at hg
  have g1 : gotS [m] x.ID = m.Amount := by simp [gotS, h4]
  have g2 := gotS_nonneg _ x.ID pos
  have hil := (List.getElem?_eq_some_iff.1 hy1).1
  obtain ⟨lo, hlo⟩ : ∃ lo, c.Loose[i]? = some lo := ⟨_, List.getElem?_eq_getElem (by rw [h.len]; exact hil)⟩
  have hu := h.used i y lo hy1 hlo
  rw [split, usedS_app, ← List.singleton_append, usedS_app] at hu
  have u1 : usedS [m] y.Number = m.Amount := by simp [usedS, h5]
  have u2 := usedS_nonneg _ y.Number pos
  refine ⟨i, k, x, y, by rw [← h5]; exact hi, by rw [← h4]; exact hk, hx1, hy1, h4, h5, h6, h1, by omega, by omega⟩
theorem Books.ofFits {c : TCash} (hl : c.Loose.length = c.Incomes.length) (hf : ∀ j m, c.Matches[j]? = some m → fitsM c (c.Matches.take j) m) (hg : ∀ x, x ∈ c.Claims → x.Amount - gotS c.Matches x.ID = x.Open) (hu : ∀ (i : Nat) y lo, c.Incomes[i]? = some y → c.Loose[i]? = some lo → 0 ≤ lo ∧ lo ≤ y.Amount - usedS c.Matches y.Number) : Books c := by
  refine ⟨hl, fun m hm => ?_, fun x hx => by have := hg x hx; omega, fun i y lo h1 h2 => by have := hu i y lo h1 h2; omega⟩
  obtain ⟨j, hj⟩ := List.getElem?_of_mem hm
  obtain ⟨i, k, x, y, h1, h2, h3, h4, h5, h6, h7, h8, _⟩ := hf j m hj
  exact ⟨h8, x, y, List.mem_of_getElem? h3, List.mem_of_getElem? h4, h5, h6, h7⟩
end Go.Proofs.YtgapbmaehfdkoaaGreatDoor
