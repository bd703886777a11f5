/- Sweeps: the program's plan is the reference's, no program in sight. -/
import Derived.Test.YtcfkdimndhapfaaSw5
set_option linter.unusedSimpArgs false
set_option linter.unusedVariables false
namespace Go.Proofs.Ytcfkdimndhapfaa
open Go.PA
open Go.RowKit

theorem find_adj (l : List TSub) (id amt i : Int) : (adj l id amt).find? (fun s => decide (s.ID = i)) = (l.find? (fun s => decide (s.ID = i))).map fun s => if s.ID = id then ⟨s.ID, s.Balance + amt⟩ else s := by
  induction l with
  | nil => rfl
  | cons a l ih =>
    have e : adj (a :: l) id amt = (if a.ID = id then ⟨a.ID, a.Balance + amt⟩ else a) :: adj l id amt := rfl
    rw [e, List.find?_cons, List.find?_cons]
    have e2 : (if a.ID = id then (⟨a.ID, a.Balance + amt⟩ : TSub) else a).ID = a.ID := by split <;> rfl
    rw [e2]
    by_cases h : a.ID = i
    · simp [h]
    · simp only [h, decide_false]
      exact ih
theorem balI_adj {l : List TSub} {id amt i : Int} (hi : i ∈ ids l) : balI (adj l id amt) i = balI l i + if i = id then amt else 0 := by
  obtain ⟨s, h1, _, h3⟩ := find_some hi
  rw [balI, balI, find_adj, h1]
  simp only [Option.map_some]
  by_cases h : s.ID = id
  · rw [if_pos h, if_pos (by rw [← h3]; exact h)]
  · rw [if_neg h, if_neg (by rw [← h3]; exact h)]
    omega
theorem balI_mvL {l : List TSub} {f t amt i : Int} (hi : i ∈ ids l) : balI (mvL l f t amt) i = balI l i + if amt ≤ 0 then 0 else (if i = t then amt else 0) - (if i = f then amt else 0) := by
  unfold mvL
  split
  · omega
  · rw [balI_adj (by rw [adj_ids]; exact hi), balI_adj hi]
    split <;> split <;> omega
theorem balI_mem {l : List TSub} (hn : (ids l).Nodup) {s : TSub} (hs : s ∈ l) : balI l s.ID = s.Balance := by
  have hm : s.ID ∈ ids l := List.mem_map.2 ⟨s, hs, rfl⟩
  obtain ⟨t, h1, h2, h3⟩ := find_some hm
  obtain ⟨i, hi⟩ := List.getElem?_of_mem hs
  obtain ⟨j, hj⟩ := List.getElem?_of_mem h2
  have := nodup_get hn hi hj h3.symm
  subst this
  rw [hi] at hj
  rw [balI, h1, Option.some.inj hj]

def ps1 (n day : Int) (st : List TSub × List TEntry) (k : TKeep) : List TSub × List TEntry := (mvL st.1 k.Sub 1 (min (balI st.1 k.Sub - k.High) 1000000000000), mvE n day st.2 k.Sub 1 (min (balI st.1 k.Sub - k.High) 1000000000000))
def ps2 (n day : Int) (st : List TSub × List TEntry) (k : TKeep) : List TSub × List TEntry := (mvL st.1 1 k.Sub (min (k.Low - balI st.1 k.Sub) (balI st.1 1)), mvE n day st.2 1 k.Sub (min (k.Low - balI st.1 k.Sub) (balI st.1 1)))

/-- A rule's balance when all with too much have given. -/
def low1 (bal : Int → Int) (k : TKeep) : Int := if k.High < bal k.Sub then bal k.Sub - min (bal k.Sub - k.High) 1000000000000 else bal k.Sub

structure PI1 (bal : Int → Int) (is : List Int) (pre : List TKeep) (T : Int × List TEntry) (st : List TSub × List TEntry) : Prop where
  ents : st.2 = T.2
  ids : ids st.1 = is
  main : balI st.1 1 = T.1
  rest : ∀ i, i ∈ is → ¬ i = 1 → (∀ k, k ∈ pre → ¬ k.Sub = i) → balI st.1 i = bal i
  seen : ∀ k, k ∈ pre → balI st.1 k.Sub = low1 bal k
theorem PI1.step {bal : Int → Int} {is : List Int} {pre : List TKeep} {T : Int × List TEntry} {st : List TSub × List TEntry} {n day : Int} (h : PI1 bal is pre T st) {x : TKeep} (h1 : 1 ∈ is) (hx : x.Sub ∈ is) (hx1 : ¬ x.Sub = 1) (hp : ∀ k, k ∈ pre → ¬ k.Sub = x.Sub) (hp1 : ∀ k, k ∈ pre → k.Sub ∈ is ∧ ¬ k.Sub = 1) :
    PI1 bal is (pre ++ [x]) (take1 bal n day T x) (ps1 n day st x) := by
  have hb := h.rest x.Sub hx hx1 hp
  have hids := h.ids
  obtain ⟨amt, ha⟩ : ∃ amt, amt = min (bal x.Sub - x.High) 1000000000000 := ⟨_, rfl⟩
  have e : ps1 n day st x = (mvL st.1 x.Sub 1 amt, mvE n day st.2 x.Sub 1 amt) := by rw [ps1, hb, ← ha]
  have t : take1 bal n day T x = if amt ≤ 0 then T else (T.1 + amt, T.2 ++ [⟨n + 1 + T.2.length, day, x.Sub, 1, amt, 0⟩]) := by
    unfold take1
    rw [← ha]
    by_cases hc : x.High < bal x.Sub
    · rw [if_pos hc, if_neg (by omega)]
    · rw [if_neg hc, if_pos (by omega)]
  rw [e, t]
  refine ⟨?_, ?_, ?_, ?_, ?_⟩
  · dsimp only
    unfold mvE
    split
    · exact h.ents
    · rw [h.ents]
  · dsimp only
    rw [mvL_ids]
    exact hids
  · dsimp only
    rw [balI_mvL (by rw [hids]; exact h1), h.main]
    by_cases hc : amt ≤ 0
    · rw [if_pos hc, if_pos hc]; omega
    · rw [if_neg hc, if_neg hc, if_pos rfl, if_neg (fun h => hx1 h.symm)]
      dsimp only
      omega
  · intro i hi hi1 hpi
    dsimp only
    have hne : ¬ i = x.Sub := fun e => hpi x (by simp) e.symm
    rw [balI_mvL (by rw [hids]; exact hi), h.rest i hi hi1 fun k hk => hpi k (by simp [hk]), if_neg hi1, if_neg hne]
    split <;> omega
  · intro k hk
    dsimp only
    rcases List.mem_append.1 hk with hk | hk
    · obtain ⟨q1, q2⟩ := hp1 k hk
      rw [balI_mvL (by rw [hids]; exact q1), h.seen k hk, if_neg q2, if_neg (hp k hk)]
      split <;> omega
    · simp at hk
      subst hk
      rw [balI_mvL (by rw [hids]; exact hx), hb, if_neg hx1, if_pos rfl, low1, ← ha]
      split <;> split <;> omega

structure PI2 (bal : Int → Int) (is : List Int) (suf : List TKeep) (G : Int × List TEntry) (st : List TSub × List TEntry) : Prop where
  ents : st.2 = G.2
  ids : ids st.1 = is
  main : balI st.1 1 = G.1
  left : ∀ k, k ∈ suf → balI st.1 k.Sub = low1 bal k
theorem PI2.step {bal : Int → Int} {is : List Int} {suf : List TKeep} {G : Int × List TEntry} {st : List TSub × List TEntry} {n day : Int} {x : TKeep} (h : PI2 bal is (x :: suf) G st) (h1 : 1 ∈ is) (hx : x.Sub ∈ is) (hx1 : ¬ x.Sub = 1) (hlh : x.Low ≤ x.High) (hp : ∀ k, k ∈ suf → k.Sub ∈ is ∧ ¬ k.Sub = 1 ∧ ¬ k.Sub = x.Sub) :
    PI2 bal is suf (give1 bal n day G x) (ps2 n day st x) := by
  have hb := h.left x (by simp)
  have hids := h.ids
  obtain ⟨amt, ha⟩ : ∃ amt, amt = min (x.Low - low1 bal x) G.1 := ⟨_, rfl⟩
  have e : ps2 n day st x = (mvL st.1 1 x.Sub amt, mvE n day st.2 1 x.Sub amt) := by rw [ps2, hb, h.main, ← ha]
  have t : give1 bal n day G x = if amt ≤ 0 then G else (G.1 - amt, G.2 ++ [⟨n + 1 + G.2.length, day, 1, x.Sub, amt, 0⟩]) := by
    unfold give1
    unfold low1 at ha
    by_cases hc : x.High < bal x.Sub
    · rw [if_pos hc] at ha
      rw [if_neg (fun h => by omega), if_pos (by omega)]
    · rw [if_neg hc] at ha
      rw [← ha]
      by_cases hz : amt ≤ 0
      · rw [if_neg (fun h => by omega), if_pos hz]
      · rw [if_pos ⟨by omega, by omega⟩, if_neg hz]
  rw [e, t]
  refine ⟨?_, ?_, ?_, ?_⟩
  · dsimp only
    unfold mvE
    split
    · exact h.ents
    · rw [h.ents]
  · dsimp only
    rw [mvL_ids]
    exact hids
  · dsimp only
    rw [balI_mvL (by rw [hids]; exact h1), h.main]
    by_cases hc : amt ≤ 0
    · rw [if_pos hc, if_pos hc]; omega
    · rw [if_neg hc, if_neg hc, if_neg (fun h => hx1 h.symm), if_pos rfl]
      dsimp only
      omega
  · intro k hk
    obtain ⟨q1, q2, q3⟩ := hp k hk
    dsimp only
    rw [balI_mvL (by rw [hids]; exact q1), h.left k (by simp [hk]), if_neg q3, if_neg q2]
    split <;> omega

/-- How great the balances are. -/
def Bnd (B : Int) (is : List Int) (l : List TSub) : Prop := ∀ i, i ∈ is → -B ≤ balI l i ∧ balI l i ≤ B
theorem Bnd.mem {B : Int} {is : List Int} {l : List TSub} (h : Bnd B is l) (hi : ids l = is) (hn : (ids l).Nodup) : ∀ s, s ∈ l → -B ≤ s.Balance ∧ s.Balance ≤ B := fun s hs => by
  rw [← balI_mem hn hs]
  exact h _ (by rw [← hi]; exact List.mem_map.2 ⟨s, hs, rfl⟩)
theorem Bnd.step1 {B : Int} {is : List Int} {st : List TSub × List TEntry} {n day : Int} {x : TKeep} (h : Bnd B is st.1) (hi : ids st.1 = is) (hB : 0 ≤ B) (hx : x.Sub ∈ is) (hx1 : ¬ x.Sub = 1) (hh : 0 ≤ x.High) : Bnd (B + 1000000000000) is (ps1 n day st x).1 := fun i him => by
  have h1 := h i him
  have h2 := h x.Sub hx
  rw [ps1]
  dsimp only
  rw [balI_mvL (by rw [hi]; exact him)]
  split
  · omega
  · by_cases e1 : i = 1
    · rw [if_pos e1, if_neg (fun e => hx1 (e.symm.trans e1))]; omega
    · rw [if_neg e1]
      by_cases e2 : i = x.Sub
      · rw [if_pos e2]; subst e2; omega
      · rw [if_neg e2]; omega
theorem Bnd.step2 {B : Int} {is : List Int} {st : List TSub × List TEntry} {n day : Int} {x : TKeep} (h : Bnd B is st.1) (hi : ids st.1 = is) (h1m : 1 ∈ is) (hB : 1000000000000 ≤ B) (hx : x.Sub ∈ is) (hx1 : ¬ x.Sub = 1) (hl : x.Low ≤ 1000000000000) : Bnd B is (ps2 n day st x).1 := fun i him => by
  have h1 := h i him
  have h2 := h x.Sub hx
  have h3 := h 1 h1m
  rw [ps2]
  dsimp only
  rw [balI_mvL (by rw [hi]; exact him)]
  split
  · omega
  · by_cases e2 : i = x.Sub
    · rw [if_pos e2, if_neg (fun e => hx1 (e2.symm.trans e))]; subst e2; omega
    · rw [if_neg e2]
      by_cases e1 : i = 1
      · rw [if_pos e1]; subst e1; omega
      · rw [if_neg e1]; omega
end Go.Proofs.Ytcfkdimndhapfaa
