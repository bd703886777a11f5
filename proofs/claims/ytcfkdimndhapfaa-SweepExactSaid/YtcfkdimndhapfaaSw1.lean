/- Sweeps: what they are, no program in sight. -/
import Derived.Test.YtcfkdimndhapfaaAccNet
set_option linter.unusedSimpArgs false
set_option linter.unusedVariables false
namespace Go.Proofs.Ytcfkdimndhapfaa
open Go.PA

/-- The balance of a sub-account; 0 if there is none. -/
def balI (l : List TSub) (id : Int) : Int := match l.find? (fun s => decide (s.ID = id)) with
  | some s => s.Balance
  | none => 0
theorem find_some {l : List TSub} {id : Int} (h : id ∈ ids l) : ∃ s, l.find? (fun s => decide (s.ID = id)) = some s ∧ s ∈ l ∧ s.ID = id := by
  obtain ⟨s, hs, e⟩ := List.mem_map.1 h
  cases hf : l.find? (fun s => decide (s.ID = id)) with
  | none =>
    have := List.find?_eq_none.1 hf s hs
    simp [e] at this
  | some t =>
    have := List.find?_some hf
    exact ⟨t, rfl, List.mem_of_find?_eq_some hf, by simpa using this⟩
theorem find_not {l : List TSub} {id : Int} (h : id ∉ ids l) : l.find? (fun s => decide (s.ID = id)) = none := by
  refine List.find?_eq_none.2 fun s hs => ?_
  simp only [decide_eq_true_eq]
  exact fun e => h (List.mem_map.2 ⟨s, hs, e⟩)
theorem balance_in {a : TAccount} (h : checkA a = 0) {id : Int} (hm : id ∈ ids a.Subs) : balanceA a id = (balI a.Subs id, true) := by
  obtain ⟨s, hs, _⟩ := find_some hm
  rw [balanceA, if_pos h, balI, hs]
theorem balance_out {a : TAccount} {id : Int} (hm : id ∉ ids a.Subs) : balanceA a id = (0, false) := by
  rw [balanceA, find_not hm]
  split <;> rfl
theorem balI_out {l : List TSub} {id : Int} (hm : id ∉ ids l) : balI l id = 0 := by rw [balI, find_not hm]
theorem balance_fst {a : TAccount} (h : checkA a = 0) (id : Int) : (balanceA a id).1 = balI a.Subs id := by
  by_cases hm : id ∈ ids a.Subs
  · rw [balance_in h hm]
  · rw [balance_out hm, balI_out hm]
theorem balI_bounds {a : TAccount} (h : checkA a = 0) (id : Int) : -1000000000000 ≤ balI a.Subs id ∧ balI a.Subs id ≤ 1000000000000000 := by
  by_cases hm : id ∈ ids a.Subs
  · obtain ⟨s, hs, hsm, _⟩ := find_some hm
    rw [balI, hs]
    exact okSub_bounds (check_ok h).2.2.1 (List.all_eq_true.1 (check_keeps h).1 s hsm)
  · rw [balI_out hm]
    omega

def keepB (l : List Int) (p : Int) (k : TKeep) : Bool := decide (k.Sub ∈ l) && (!decide (k.Sub = 1) && (decide (p < k.Sub) && (decide (0 ≤ k.Low) && (decide (k.Low ≤ k.High) && decide (k.High ≤ 1000000000000)))))
def keepsB (l : List Int) : Int → List TKeep → Bool
  | _, [] => true
  | p, k :: ks => keepB l p k && keepsB l k.Sub ks
/-- The check of rules. -/
def checkK (a : TAccount) (l : List TKeep) : Int := if checkA a = 0 then (if keepsB (ids a.Subs) 0 l = true then 0 else 63) else checkA a
theorem checkK_ok {a : TAccount} {l : List TKeep} (h : checkK a l = 0) : checkA a = 0 ∧ keepsB (ids a.Subs) 0 l = true := by
  unfold checkK at h
  split at h
  · rename_i h1
    split at h
    · rename_i h2
      exact ⟨h1, h2⟩
    · simp at h
  · rename_i h1
    exact absurd h h1
theorem keepB_iff {l : List Int} {p : Int} {k : TKeep} : keepB l p k = true ↔ k.Sub ∈ l ∧ ¬ k.Sub = 1 ∧ p < k.Sub ∧ 0 ≤ k.Low ∧ k.Low ≤ k.High ∧ k.High ≤ 1000000000000 := by simp [keepB]
theorem keepsB_mem (l : List Int) : ∀ (ks : List TKeep) (p : Int), keepsB l p ks = true → ∀ k, k ∈ ks → k.Sub ∈ l ∧ ¬ k.Sub = 1 ∧ p < k.Sub ∧ 0 ≤ k.Low ∧ k.Low ≤ k.High ∧ k.High ≤ 1000000000000
  | [], p, _, k, hk => by simp at hk
  | x :: ks, p, h, k, hk => by
    simp only [keepsB, Bool.and_eq_true, keepB_iff] at h
    rcases List.mem_cons.1 hk with rfl | hk
    · exact h.1
    · obtain ⟨h1, h2, h3, h4, h5, h6⟩ := keepsB_mem l ks x.Sub h.2 k hk
      exact ⟨h1, h2, by have := h.1.2.2.1; omega, h4, h5, h6⟩
theorem keepsB_nodup (l : List Int) : ∀ (ks : List TKeep) (p : Int), keepsB l p ks = true → (ks.map (·.Sub)).Nodup
  | [], p, _ => List.nodup_nil
  | x :: ks, p, h => by
    simp only [keepsB, Bool.and_eq_true] at h
    rw [List.map_cons, List.nodup_cons]
    refine ⟨fun hm => ?_, keepsB_nodup l ks x.Sub h.2⟩
    obtain ⟨k, hk, e⟩ := List.mem_map.1 hm
    have := keepsB_mem l ks x.Sub h.2 k hk
    omega

/-- A sub-account with too much gives to the main one; the main one's balance, and the entries. -/
def take1 (bal : Int → Int) (n day : Int) (st : Int × List TEntry) (k : TKeep) : Int × List TEntry :=
  if k.High < bal k.Sub then (st.1 + min (bal k.Sub - k.High) 1000000000000, st.2 ++ [⟨n + 1 + st.2.length, day, k.Sub, 1, min (bal k.Sub - k.High) 1000000000000, 0⟩]) else st
def give1 (bal : Int → Int) (n day : Int) (st : Int × List TEntry) (k : TKeep) : Int × List TEntry :=
  if bal k.Sub < k.Low ∧ 0 < min (k.Low - bal k.Sub) st.1 then (st.1 - min (k.Low - bal k.Sub) st.1, st.2 ++ [⟨n + 1 + st.2.length, day, 1, k.Sub, min (k.Low - bal k.Sub) st.1, 0⟩]) else st
def planL (bal : Int → Int) (n day : Int) (l : List TKeep) : Int × List TEntry := l.foldl (give1 bal n day) (l.foldl (take1 bal n day) (bal 1, []))
/-- The entries of a sweep. -/
def planA (a : TAccount) (l : List TKeep) (day : Int) : List TEntry × Int :=
  if checkK a l = 0 then if amongB day (lastE a).Day 36000 = true then
    if 400 < a.Entries.length + (planL (balI a.Subs) a.Entries.length day l).2.length then ([], 3) else ((planL (balI a.Subs) a.Entries.length day l).2, 0)
    else ([], 8)
  else ([], checkK a l)
/-- Entries posted one behind the other. -/
def postAll : TAccount → List TEntry → TAccount × Int
  | a, [] => (a, 0)
  | a, x :: xs => if (postA a x).2 = 0 then postAll (postA a x).1 xs else (zeroA, (postA a x).2)
def sweepA (a : TAccount) (l : List TKeep) (day : Int) : TAccount × Int := if (planA a l day).2 = 0 then postAll a (planA a l day).1 else (zeroA, (planA a l day).2)
def keptA (a : TAccount) (l : List TKeep) : Bool := decide (checkK a l = 0) && l.all fun k => decide (k.Low ≤ balI a.Subs k.Sub) && decide (balI a.Subs k.Sub ≤ k.High)
def missK (bal : Int → Int) (k : TKeep) : Int := max (k.Low - bal k.Sub) 0
def shortL (bal : Int → Int) (l : List TKeep) : Int := (l.map (missK bal)).sum
def shortA (a : TAccount) (l : List TKeep) : Int := if checkK a l = 0 then shortL (balI a.Subs) l else 0
theorem shortL_snoc (bal : Int → Int) (l : List TKeep) (k : TKeep) : shortL bal (l ++ [k]) = shortL bal l + missK bal k := by simp [shortL]

/-! ### How great the numbers are -/
theorem take1_bound (bal : Int → Int) (n day : Int) (hb : ∀ i, -1000000000000 ≤ bal i ∧ bal i ≤ 1000000000000000) : ∀ (l : List TKeep) (st : Int × List TEntry), (∀ k, k ∈ l → 0 ≤ k.High) →
    st.1 ≤ (l.foldl (take1 bal n day) st).1 ∧ (l.foldl (take1 bal n day) st).1 ≤ st.1 + 1000000000000 * (l.length : Int) ∧ st.2.length ≤ (l.foldl (take1 bal n day) st).2.length ∧ (l.foldl (take1 bal n day) st).2.length ≤ st.2.length + l.length
  | [], st, _ => by simp
  | k :: l, st, h => by
    have ih := take1_bound bal n day hb l (take1 bal n day st k) fun x hx => h x (List.mem_cons_of_mem _ hx)
    rw [List.foldl_cons]
    have h1 : st.1 ≤ (take1 bal n day st k).1 ∧ (take1 bal n day st k).1 ≤ st.1 + 1000000000000 ∧ st.2.length ≤ (take1 bal n day st k).2.length ∧ (take1 bal n day st k).2.length ≤ st.2.length + 1 := by
      unfold take1
      split
      · refine ⟨?_, ?_, ?_, ?_⟩
        · dsimp only; omega
        · dsimp only; omega
        · simp
        · simp
      · exact ⟨Int.le_refl _, by omega, Nat.le_refl _, by omega⟩
    have e : ((k :: l).length : Int) = (l.length : Int) + 1 := by simp
    rw [e]
    simp only [List.length_cons]
    omega
theorem give1_bound (bal : Int → Int) (n day : Int) : ∀ (l : List TKeep) (st : Int × List TEntry), 
    (l.foldl (give1 bal n day) st).1 ≤ st.1 ∧ (0 ≤ st.1 → 0 ≤ (l.foldl (give1 bal n day) st).1) ∧ (st.1 ≤ 0 → (l.foldl (give1 bal n day) st).1 = st.1) ∧ st.2.length ≤ (l.foldl (give1 bal n day) st).2.length ∧ (l.foldl (give1 bal n day) st).2.length ≤ st.2.length + l.length
  | [], st => by simp
  | k :: l, st => by
    have ih := give1_bound bal n day l (give1 bal n day st k)
    rw [List.foldl_cons]
    have h1 : (give1 bal n day st k).1 ≤ st.1 ∧ (0 ≤ st.1 → 0 ≤ (give1 bal n day st k).1) ∧ (st.1 ≤ 0 → (give1 bal n day st k).1 = st.1) ∧ st.2.length ≤ (give1 bal n day st k).2.length ∧ (give1 bal n day st k).2.length ≤ st.2.length + 1 := by
      unfold give1
      split
      · rename_i hc
        refine ⟨?_, ?_, ?_, ?_, ?_⟩
        · dsimp only; omega
        · dsimp only; omega
        · dsimp only; omega
        · simp
        · simp
      · exact ⟨Int.le_refl _, id, fun _ => rfl, Nat.le_refl _, by omega⟩
    simp only [List.length_cons]
    obtain ⟨a1, a2, a3, a4, a5⟩ := ih
    obtain ⟨b1, b2, b3, b4, b5⟩ := h1
    refine ⟨by omega, fun h => a2 (b2 h), fun h => (a3 (by rw [b3 h]; exact h)).trans (b3 h), by omega, by omega⟩
theorem shortL_bound (bal : Int → Int) (hb : ∀ i, -1000000000000 ≤ bal i ∧ bal i ≤ 1000000000000000) : ∀ l : List TKeep, (∀ k, k ∈ l → k.Low ≤ 1000000000000) → 0 ≤ shortL bal l ∧ shortL bal l ≤ 2000000000000 * (l.length : Int)
  | [], _ => by simp [shortL]
  | k :: l, h => by
    have ih := shortL_bound bal hb l fun x hx => h x (List.mem_cons_of_mem _ hx)
    have h1 := h k (by simp)
    have h2 := hb k.Sub
    have e : shortL bal (k :: l) = missK bal k + shortL bal l := by simp [shortL]
    have e2 : ((k :: l).length : Int) = (l.length : Int) + 1 := by simp
    rw [e, e2]
    unfold missK
    omega
end Go.Proofs.Ytcfkdimndhapfaa
