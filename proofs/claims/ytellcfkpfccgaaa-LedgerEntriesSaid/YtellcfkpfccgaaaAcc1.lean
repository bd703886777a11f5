/- Accounts: what they are, no program in sight. -/
import Derived.Test.YtellcfkpfccgaaaTypes
set_option linter.unusedSimpArgs false
set_option linter.unusedVariables false
namespace Go.Proofs.Ytellcfkpfccgaaa
open Go.PA

def amongB (n lo hi : Int) : Bool := decide (lo ≤ n) && decide (n ≤ hi)
theorem amongB_iff {n lo hi : Int} : amongB n lo hi = true ↔ lo ≤ n ∧ n ≤ hi := by simp [amongB]
/-- A valid amount. -/
def vB (n : Int) : Bool := amongB n 0 1000000000000
/-- Numbers that ascend, from 1 to 1000, each greater than p. -/
def ascB : Int → List Int → Bool
  | _, [] => true
  | p, i :: l => amongB i 1 1000 && (decide (p < i) && ascB i l)
def numB (ids : List Int) : Bool := ascB 0 ids && decide (ids.head? = some 1)

def ids (l : List TSub) : List Int := l.map (·.ID)
theorem ids_len (l : List TSub) : (ids l).length = l.length := by simp [ids]
theorem ids_get (l : List TSub) (i : Nat) : (ids l)[i]? = (l[i]?).map (·.ID) := by simp [ids]

theorem ascB_gt : ∀ (l : List Int) (p : Int), ascB p l = true → ∀ i, i ∈ l → p < i ∧ 1 ≤ i ∧ i ≤ 1000
  | [], p, _, i, hi => by simp at hi
  | a :: l, p, h, i, hi => by
    simp only [ascB, Bool.and_eq_true, amongB_iff, decide_eq_true_eq] at h
    rcases List.mem_cons.1 hi with rfl | hi
    · exact ⟨h.2.1, h.1⟩
    · have := ascB_gt l a h.2.2 i hi
      omega
theorem ascB_nodup : ∀ (l : List Int) (p : Int), ascB p l = true → l.Nodup
  | [], p, _ => List.nodup_nil
  | a :: l, p, h => by
    simp only [ascB, Bool.and_eq_true, amongB_iff, decide_eq_true_eq] at h
    refine List.nodup_cons.2 ⟨fun hm => ?_, ascB_nodup l a h.2.2⟩
    have := ascB_gt l a h.2.2 a hm
    omega
theorem ascB_tail {p a : Int} {l : List Int} (h : ascB p (a :: l) = true) : ascB a l = true := by
  simp only [ascB, Bool.and_eq_true] at h
  exact h.2.2

/-- Balances with an amount added to one of them. -/
def adj (l : List TSub) (id amt : Int) : List TSub := l.map fun s => if s.ID = id then ⟨s.ID, s.Balance + amt⟩ else s
theorem adj_len (l : List TSub) (id amt : Int) : (adj l id amt).length = l.length := by simp [adj]
theorem adj_ids (l : List TSub) (id amt : Int) : ids (adj l id amt) = ids l := by
  simp only [ids, adj, List.map_map]
  apply List.map_congr_left
  intro s _
  simp only [Function.comp]
  split <;> rfl
theorem adj_none {l : List TSub} {id amt : Int} (h : id ∉ ids l) : adj l id amt = l := by
  have : ∀ s, s ∈ l → (if s.ID = id then (⟨s.ID, s.Balance + amt⟩ : TSub) else s) = s := fun s hs => by
    rw [if_neg]
    intro e
    exact h (List.mem_map.2 ⟨s, hs, e⟩)
  unfold adj
  rw [List.map_congr_left this]
  simp
theorem adj_get (l : List TSub) (id amt : Int) (i : Nat) : (adj l id amt)[i]? = (l[i]?).map fun s => if s.ID = id then ⟨s.ID, s.Balance + amt⟩ else s := by simp [adj]

theorem nodup_get {l : List TSub} (h : (ids l).Nodup) {i j : Nat} {a b : TSub} (hi : l[i]? = some a) (hj : l[j]? = some b) (e : a.ID = b.ID) : i = j := by
  have h1 : (ids l)[i]? = some a.ID := by rw [ids_get, hi]; rfl
  have h2 : (ids l)[j]? = some a.ID := by rw [ids_get, hj, e]; rfl
  exact (List.getElem?_inj (List.getElem?_eq_some_iff.1 h1).1 h).1 (h1.trans h2.symm)

/-- What a store to one balance makes. -/
theorem set_adj {l : List TSub} (hn : (ids l).Nodup) {i : Nat} {a : TSub} (hi : l[i]? = some a) (amt : Int) : l.set i ⟨a.ID, a.Balance + amt⟩ = adj l a.ID amt := by
  apply List.ext_getElem?
  intro j
  rw [adj_get, List.getElem?_set]
  by_cases hij : i = j
  · subst hij
    have := (List.getElem?_eq_some_iff.1 hi).1
    simp [-getElem?_pos, this, hi]
  · rw [if_neg hij]
    cases hj : l[j]? with
    | none => rfl
    | some b =>
      have : ¬ b.ID = a.ID := fun e => hij (nodup_get hn hi hj e.symm)
      simp [this]

/-- Where a sub-account is; -1 if there is none. -/
def placeI (l : List TSub) (id : Int) : Int := idxI (fun s => decide (s.ID = id)) l
theorem placeI_spec (l : List TSub) (id : Int) : (placeI l id = -1 ∧ id ∉ ids l) ∨ ∃ (i : Nat) (a : TSub), l[i]? = some a ∧ a.ID = id ∧ placeI l id = (i : Int) ∧ id ∈ ids l := by
  rcases idxI_spec (fun s : TSub => decide (s.ID = id)) l with ⟨h1, h2⟩ | ⟨i, a, h1, h2, h3, _⟩
  · refine .inl ⟨h1, fun hm => ?_⟩
    obtain ⟨s, hs, e⟩ := List.mem_map.1 hm
    have := h2 s hs
    simp [e] at this
  · exact .inr ⟨i, a, h1, by simpa using h2, h3, List.mem_map.2 ⟨a, List.mem_of_getElem? h1, by simpa using h2⟩⟩

/-- May a sub-account have its balance? -/
def okSub (credit : Int) (s : TSub) : Bool := decide ((if s.ID = 1 then -credit else 0) ≤ s.Balance) && decide (s.Balance ≤ 1000000000000000)
def okAt (credit : Int) (l : List TSub) (id : Int) : Bool := l.all fun s => !decide (s.ID = id) || okSub credit s
def okAll (credit : Int) (l : List TSub) : Bool := l.all (okSub credit)
theorem okAt_none {credit : Int} {l : List TSub} {id : Int} (h : id ∉ ids l) : okAt credit l id = true := by
  refine List.all_eq_true.2 fun s hs => ?_
  have : ¬ s.ID = id := fun e => h (List.mem_map.2 ⟨s, hs, e⟩)
  simp [this]
theorem okAt_get {credit : Int} {l : List TSub} (hn : (ids l).Nodup) {i : Nat} {a : TSub} (hi : l[i]? = some a) : okAt credit l a.ID = okSub credit a := by
  rw [Bool.eq_iff_iff, okAt, List.all_eq_true]
  constructor
  · intro h
    have := h a (List.mem_of_getElem? hi)
    simpa using this
  · intro h s hs
    obtain ⟨j, hj⟩ := List.getElem?_of_mem hs
    by_cases e : s.ID = a.ID
    · have := nodup_get hn hi hj e.symm
      subst this
      rw [hi] at hj
      simp only [Option.some.injEq] at hj
      subst hj
      simp [h]
    · simp [e]

def badNum (n : Int) (e : TEntry) : Bool := !decide (e.Number = n + 1)
def badDay (d : Int) (e : TEntry) : Bool := !amongB e.Day d 36000
def badAmt (e : TEntry) : Bool := !(decide (0 < e.Amount) && vB e.Amount) || !amongB e.Ref 0 1000000
def knownB (l : List TSub) (id : Int) : Bool := decide (id = 0) || decide (0 ≤ placeI l id)
theorem knownB_iff (l : List TSub) (id : Int) : knownB l id = true ↔ id = 0 ∨ id ∈ ids l := by
  unfold knownB
  rcases placeI_spec l id with ⟨h1, h2⟩ | ⟨i, a, _, _, h3, h4⟩
  · simp [h1, h2]
  · simp [h3, h4]
def badSub (l : List TSub) (e : TEntry) : Bool := decide (e.From = e.To) || (!knownB l e.From || !knownB l e.To)

/-- An entry behind others: the error, and the balances. -/
def postS (credit n d : Int) (l : List TSub) (e : TEntry) : Int × List TSub :=
  if badNum n e = true then (65, l) else if badDay d e = true then (8, l) else if badAmt e = true then (2, l) else if badSub l e = true then (60, l) else
  if okAt credit (adj l e.From (-e.Amount)) e.From = false then (61, adj l e.From (-e.Amount)) else
  if okAt credit (adj (adj l e.From (-e.Amount)) e.To e.Amount) e.To = false then (61, adj (adj l e.From (-e.Amount)) e.To e.Amount) else (0, adj (adj l e.From (-e.Amount)) e.To e.Amount)

/-- Entries one behind the other: the number and the day of the last one, the balances. -/
def replayS (credit : Int) : Int → Int → List TSub → List TEntry → Option (Int × Int × List TSub)
  | n, d, l, [] => some (n, d, l)
  | n, d, l, e :: es => if (postS credit n d l e).1 = 0 then replayS credit e.Number e.Day (postS credit n d l e).2 es else none

def zeroS (l : List TSub) : List TSub := l.map fun s => ⟨s.ID, 0⟩
theorem zeroS_ids (l : List TSub) : ids (zeroS l) = ids l := by simp [ids, zeroS]
theorem zeroS_len (l : List TSub) : (zeroS l).length = l.length := by simp [zeroS]

/-- The check of an account. -/
def checkA (a : TAccount) : Int :=
  if 20 < a.Subs.length ∨ 400 < a.Entries.length then 3 else if (!vB a.Credit || !numB (ids a.Subs)) = true then 62 else
  match replayS a.Credit 0 0 (zeroS a.Subs) a.Entries with
  | none => 62
  | some r => if r.2.2 = a.Subs then 0 else 62

/-! ### What a replay keeps -/

theorem postS_ids (credit n d : Int) (l : List TSub) (e : TEntry) : ids (postS credit n d l e).2 = ids l := by
  unfold postS
  repeat' split
  all_goals simp [adj_ids]

theorem okAll_adj {credit : Int} {l : List TSub} {id amt : Int} (h : okAll credit l = true) (ha : okAt credit (adj l id amt) id = true) : okAll credit (adj l id amt) = true := by
  refine List.all_eq_true.2 fun s hs => ?_
  by_cases e : s.ID = id
  · have := List.all_eq_true.1 ha s hs
    simpa [e] using this
  · obtain ⟨t, ht, hst⟩ := List.mem_map.1 hs
    split at hst
    · rename_i h'
      subst hst
      exact absurd h' e
    · subst hst
      exact List.all_eq_true.1 h t ht
theorem postS_ok {credit n d : Int} {l : List TSub} {e : TEntry} (h : (postS credit n d l e).1 = 0) :
    e.Number = n + 1 ∧ d ≤ e.Day ∧ e.Day ≤ 36000 ∧ 0 < e.Amount ∧ e.Amount ≤ 1000000000000 ∧ 0 ≤ e.Ref ∧ e.Ref ≤ 1000000 ∧ e.From ≠ e.To ∧ (e.From = 0 ∨ e.From ∈ ids l) ∧ (e.To = 0 ∨ e.To ∈ ids l) ∧
      okAt credit (adj l e.From (-e.Amount)) e.From = true ∧ okAt credit (adj (adj l e.From (-e.Amount)) e.To e.Amount) e.To = true ∧ (postS credit n d l e).2 = adj (adj l e.From (-e.Amount)) e.To e.Amount := by
  unfold postS at h ⊢
  split at h
  · simp at h
  rename_i h1
  rw [if_neg h1]
  split at h
  · simp at h
  rename_i h2
  rw [if_neg h2]
  split at h
  · simp at h
  rename_i h3
  rw [if_neg h3]
  split at h
  · simp at h
  rename_i h4
  rw [if_neg h4]
  split at h
  · simp at h
  rename_i h5
  rw [if_neg h5]
  split at h
  · simp at h
  rename_i h6
  rw [if_neg h6]
  have h1 : e.Number = n + 1 := by simpa [badNum] using h1
  have h2 : d ≤ e.Day ∧ e.Day ≤ 36000 := by simpa [badDay, amongB] using h2
  have h3 : (0 < e.Amount ∧ (0 ≤ e.Amount ∧ e.Amount ≤ 1000000000000)) ∧ (0 ≤ e.Ref ∧ e.Ref ≤ 1000000) := by simpa [badAmt, vB, amongB] using h3
  have h4 : ¬ e.From = e.To ∧ (knownB l e.From = true ∧ knownB l e.To = true) := by simpa [badSub] using h4
  rw [knownB_iff, knownB_iff] at h4
  exact ⟨h1, h2.1, h2.2, h3.1.1, h3.1.2.2, h3.2.1, h3.2.2, h4.1, h4.2.1, h4.2.2, by simpa using h5, by simpa using h6, rfl⟩
theorem postS_all {credit n d : Int} {l : List TSub} {e : TEntry} (h : (postS credit n d l e).1 = 0) (hl : okAll credit l = true) : okAll credit (postS credit n d l e).2 = true := by
  obtain ⟨_, _, _, _, _, _, _, _, _, _, h1, h2, h3⟩ := postS_ok h
  rw [h3]
  exact okAll_adj (okAll_adj hl h1) h2
theorem zeroS_all {credit : Int} (hc : 0 ≤ credit) (l : List TSub) : okAll credit (zeroS l) = true := by
  refine List.all_eq_true.2 fun s hs => ?_
  obtain ⟨t, _, rfl⟩ := List.mem_map.1 hs
  simp [okSub]
  split <;> omega
theorem replayS_app (credit : Int) : ∀ (es es' : List TEntry) (n d : Int) (l : List TSub), replayS credit n d l (es ++ es') = (replayS credit n d l es).bind fun r => replayS credit r.1 r.2.1 r.2.2 es'
  | [], es', n, d, l => rfl
  | e :: es, es', n, d, l => by
    rw [List.cons_append, replayS, replayS]
    split
    · exact replayS_app credit es es' _ _ _
    · rfl
theorem replayS_keeps (credit : Int) : ∀ (es : List TEntry) (n d : Int) (l : List TSub) (r : Int × Int × List TSub), okAll credit l = true → replayS credit n d l es = some r →
    okAll credit r.2.2 = true ∧ ids r.2.2 = ids l ∧ r.1 = n + es.length ∧ d ≤ r.2.1 ∧ (d ≤ 36000 → r.2.1 ≤ 36000)
  | [], n, d, l, r, hl, h => by
    simp only [replayS, Option.some.injEq] at h
    subst h
    exact ⟨hl, rfl, by simp, Int.le_refl _, fun h => h⟩
  | e :: es, n, d, l, r, hl, h => by
    rw [replayS] at h
    split at h
    · rename_i hp
      obtain ⟨h1, h2, h3, _⟩ := postS_ok hp
      obtain ⟨a1, a2, a3, a4, a5⟩ := replayS_keeps credit es _ _ _ r (postS_all hp hl) h
      refine ⟨a1, a2.trans (postS_ids _ _ _ _ _), by rw [a3, h1, List.length_cons]; omega, by omega, fun _ => a5 h3⟩
    · cases h

end Go.Proofs.Ytellcfkpfccgaaa
