/- Registers: what is computed, and plain laws. -/
import Derived.Test.YtkcfmmpcpdlfeaaGreatDoorKey1
import Derived.Test.YtkcfmmpcpdlfeaaGreatDoorTypes
set_option linter.unusedSimpArgs false
set_option linter.unusedVariables false
namespace Go.Proofs.YtkcfmmpcpdlfeaaGreatDoor
open Go.PA
open Go.RowKit

def secB (s : TSecurity) : Bool :=
  decide ((1 ≤ s.ID ∧ s.ID ≤ 1000) ∧ (1 ≤ s.Unit ∧ s.Unit ≤ 1000000000) ∧ (0 ≤ s.Issued ∧ s.Issued ≤ 36000) ∧ (s.Issued + 30 ≤ s.Maturity ∧ s.Maturity ≤ min (s.Issued + 18000) 35990) ∧ (0 ≤ s.Rate ∧ s.Rate ≤ 20000)) &&
    (if s.Every = 0 then decide ((s.Maturity - s.Issued) % 30 = 0) && decide (s.Rate = 0) else if s.Every = 1 ∨ s.Every = 3 ∨ s.Every = 6 ∨ s.Every = 12 then decide ((s.Maturity - s.Issued) % (30 * s.Every) = 0) else false)
def findS (l : List TSecurity) (id : Int) : Option TSecurity := l.find? fun s => decide (s.ID = id)
/-- Holdings are in the order of their keys. -/
def hLt (id h : Int) (x : THolding) : Bool := decide (x.Security < id) || (decide (x.Security = id) && decide (x.Holder < h))
def hIs (id h : Int) (x : THolding) : Bool := decide (x.Security = id) && decide (x.Holder = h)
def hMk (id h a : Int) : THolding := ⟨id, h, a⟩
def hAm (x : THolding) : Int := x.Amount
def hR (x y : THolding) : Prop := x.Security < y.Security ∨ (x.Security = y.Security ∧ x.Holder < y.Holder)
theorem hLt_iff {id h : Int} {x : THolding} : hLt id h x = true ↔ (x.Security < id ∨ (x.Security = id ∧ x.Holder < h)) := by simp [hLt]
theorem hIs_iff {id h : Int} {x : THolding} : hIs id h x = true ↔ (x.Security = id ∧ x.Holder = h) := by simp [hIs]
theorem hLt_not {id h : Int} {x : THolding} : hLt id h x = false ↔ ¬ (x.Security < id ∨ (x.Security = id ∧ x.Holder < h)) := by rw [← hLt_iff]; simp
theorem hIs_not {id h : Int} {x : THolding} : hIs id h x = false ↔ ¬ (x.Security = id ∧ x.Holder = h) := by rw [← hIs_iff]; simp
theorem hOk (id h : Int) : KeyOk hR (hLt id h) (hIs id h) (hMk id h) hAm where
  am a := rfl
  trans x y z h1 h2 := by unfold hR at *; omega
  ltMk x a h1 := by rw [hLt_iff] at h1; unfold hR hMk; dsimp only; omega
  isR x y a h1 h2 := by rw [hIs_iff] at h1; unfold hR hMk at *; dsimp only at *; omega
  tri x a h1 h2 := by rw [hLt_not] at h1; rw [hIs_not] at h2; unfold hR hMk; dsimp only; omega
  mono x y h1 h2 := by rw [hLt_iff] at *; unfold hR at h1; omega
  irr x y h1 h2 := by rw [hIs_iff] at h1; rw [hIs_not]; unfold hR at h2; omega
  dis x h1 := by rw [hLt_iff] at h1; rw [hIs_not]; omega
  aft x y h1 h2 h3 := by rw [hLt_not] at h1; rw [hIs_not] at *; unfold hR at h3; omega
def setH (l : List THolding) (id h n : Int) : List THolding := setK (hLt id h) (hIs id h) (hMk id h) hAm l n
def heldH (l : List THolding) (id h : Int) : Int := sumQ (hIs id h) hAm l
def secQ (id : Int) (x : THolding) : Bool := decide (x.Security = id)
def outH (l : List THolding) (id : Int) : Int := sumQ (secQ id) hAm l
theorem outH_setH (l : List THolding) (id h n id' : Int) : outH (setH l id h n) id' = outH l id' + if id = id' then n else 0 := by
  have := sumQ_setK (lt := hLt id h) (is := hIs id h) (mk := hMk id h) (am := hAm) (secQ id') (fun _ => rfl) (decide (id = id')) (fun _ => rfl) (fun x hx => by rw [hIs_iff] at hx; unfold secQ; rw [hx.1]) l n
  unfold outH setH
  rw [this]
  simp
theorem heldH_setH (l : List THolding) (id h n id' h' : Int) : heldH (setH l id h n) id' h' = heldH l id' h' + if id = id' ∧ h = h' then n else 0 := by
  have := sumQ_setK (lt := hLt id h) (is := hIs id h) (mk := hMk id h) (am := hAm) (hIs id' h') (fun _ => rfl) (decide (id = id' ∧ h = h')) (fun _ => by unfold hIs hMk; rw [Bool.eq_iff_iff]; simp) (fun x hx => by rw [hIs_iff] at hx; simp [hIs, hx.1, hx.2]) l n
  unfold heldH setH
  rw [this]
  simp only [decide_eq_true_eq]
theorem pos_setH {l : List THolding} {id h n : Int} (hs : l.Pairwise hR) (hp : ∀ x, x ∈ l → 0 < x.Amount) (hn : 0 ≤ heldH l id h + n) : ∀ x, x ∈ setH l id h n → 0 < x.Amount := by
  intro x hx
  obtain ⟨k, hk, hm, ⟨y, c1, c2, c3, c4⟩ | ⟨c1, c3, c4⟩⟩ := place_setK (hOk id h) hs
  all_goals
    unfold setH at hx
    unfold heldH at hn
    rw [c4] at hx
    rw [c3] at hn
    split at hx
  · rcases List.mem_append.1 hx with hx | hx
    · exact hp x (List.mem_of_mem_take hx)
    · exact hp x (List.mem_of_mem_drop hx)
  · rcases List.mem_append.1 hx with hx | hx
    · exact hp x (List.mem_of_mem_take hx)
    · rcases List.mem_cons.1 hx with rfl | hx
      · unfold hMk; dsimp only; omega
      · exact hp x (List.mem_of_mem_drop hx)
  · exact hp x hx
  · rcases List.mem_append.1 hx with hx | hx
    · exact hp x (List.mem_of_mem_take hx)
    · rcases List.mem_cons.1 hx with rfl | hx
      · unfold hMk; dsimp only; omega
      · exact hp x (List.mem_of_mem_drop hx)

def holderB (n : Int) : Bool := decide (1 ≤ n) && decide (n ≤ 1000)
def strangeB (m : TMove) : Bool :=
  if m.Kind = 1 then !decide (m.From = 0) || !holderB m.To else if m.Kind = 2 then !holderB m.From || !holderB m.To || decide (m.From = m.To) else !holderB m.From || !decide (m.To = 0)
/-- What a move makes of holdings. -/
def goH (l : List THolding) (m : TMove) : List THolding :=
  let l1 := if m.From = 0 then l else setH l m.Security m.From (-m.Amount)
  if m.To = 0 then l1 else setH l1 m.Security m.To m.Amount
/-- The error of a move, behind a day. -/
def moveE (secs : List TSecurity) (l : List THolding) (day : Int) (m : TMove) : Int :=
  match findS secs m.Security with
  | none => 76
  | some s =>
    if ¬ (max day s.Issued ≤ m.Day ∧ m.Day ≤ if m.Kind = 3 then 36000 else s.Maturity) then 8
    else if m.Amount ≤ 0 ∨ 1000000000000 < m.Amount ∨ m.Amount % s.Unit ≠ 0 then 79
    else if strangeB m = true then 6
    else if m.From ≠ 0 ∧ heldH l m.Security m.From < m.Amount then 77
    else if m.From = 0 ∧ 1000000000000 < outH l m.Security + m.Amount then 2
    else 0
structure HoldOk (l : List THolding) (N : Nat) : Prop where
  srt : l.Pairwise hR
  pos : ∀ x, x ∈ l → 0 < x.Amount
  tot : ∀ id, outH l id ≤ 1000000000000
  len : l.length ≤ N
theorem HoldOk.am {l : List THolding} {N : Nat} (h : HoldOk l N) {x : THolding} (hx : x ∈ l) : 0 < x.Amount ∧ x.Amount ≤ 1000000000000 := by
  have h1 := (sumQ_le (secQ x.Security) hAm l h.pos).2 x hx (by simp [secQ])
  have h2 := h.tot x.Security
  have h3 := h.pos x hx
  unfold outH at h2
  unfold hAm at h1 h2
  omega
structure MoveOk (secs : List TSecurity) (l : List THolding) (day : Int) (m : TMove) (s : TSecurity) : Prop where
  sec : findS secs m.Security = some s
  day : max day s.Issued ≤ m.Day ∧ m.Day ≤ if m.Kind = 3 then 36000 else s.Maturity
  am : 0 < m.Amount ∧ m.Amount ≤ 1000000000000 ∧ m.Amount % s.Unit = 0
  str : strangeB m = false
  held : m.From ≠ 0 → m.Amount ≤ heldH l m.Security m.From
  out : m.From = 0 → outH l m.Security + m.Amount ≤ 1000000000000
theorem moveE_ok {secs : List TSecurity} {l : List THolding} {day : Int} {m : TMove} (h : moveE secs l day m = 0) : ∃ s, MoveOk secs l day m s := by
  unfold moveE at h
  cases hs : findS secs m.Security with
  | none => rw [hs] at h; cases h
  | some s =>
    rw [hs] at h
    dsimp only at h
    by_cases h1 : max day s.Issued ≤ m.Day ∧ m.Day ≤ if m.Kind = 3 then 36000 else s.Maturity
    · rw [if_neg (by simpa using h1)] at h
      by_cases h2 : m.Amount ≤ 0 ∨ 1000000000000 < m.Amount ∨ m.Amount % s.Unit ≠ 0
      · rw [if_pos h2] at h; cases h
      · rw [if_neg h2] at h
        by_cases h3 : strangeB m = true
        · rw [if_pos h3] at h; cases h
        · rw [if_neg h3] at h
          by_cases h4 : m.From ≠ 0 ∧ heldH l m.Security m.From < m.Amount
          · rw [if_pos h4] at h; cases h
          · rw [if_neg h4] at h
            by_cases h5 : m.From = 0 ∧ 1000000000000 < outH l m.Security + m.Amount
            · rw [if_pos h5] at h; cases h
            · exact ⟨s, hs, h1, by omega, by simpa using h3, fun e => by have := fun c => h4 ⟨e, c⟩; omega, fun e => by have := fun c => h5 ⟨e, c⟩; omega⟩
    · rw [if_pos h1] at h; cases h
theorem moveE_zero {secs : List TSecurity} {l : List THolding} {day : Int} {m : TMove} {s : TSecurity} (h : MoveOk secs l day m s) : moveE secs l day m = 0 := by
  unfold moveE
  rw [h.sec]
  dsimp only
  have h2 := h.am
  rw [if_neg (by simpa using h.day), if_neg (by omega), if_neg (by simp [h.str]), if_neg (fun c => by have := h.held c.1; omega), if_neg (fun c => by have := h.out c.1; omega)]
def addH (l : List THolding) (id h n : Int) : List THolding := if h = 0 then l else setH l id h n
theorem goH1_ok {secs : List TSecurity} {l : List THolding} {day : Int} {m : TMove} {s : TSecurity} {N : Nat} (h : HoldOk l N) (hm : MoveOk secs l day m s) : HoldOk (addH l m.Security m.From (-m.Amount)) (N + 1) ∧ (addH l m.Security m.From (-m.Amount)).length ≤ l.length + 1 := by
  have h0 := h.len
  have am := hm.am
  unfold addH
  split
  · exact ⟨⟨h.srt, h.pos, h.tot, by omega⟩, by omega⟩
  · rename_i hf
    have := hm.held hf
    refine ⟨⟨sorted_setK (hOk _ _) _ h.srt, pos_setH h.srt h.pos (by omega), fun id => ?_, Nat.le_trans (len_setK _ _) (by omega)⟩, len_setK _ _⟩
    rw [outH_setH]
    have := h.tot id
    split <;> omega
theorem goH_eq (l : List THolding) (m : TMove) : goH l m = addH (addH l m.Security m.From (-m.Amount)) m.Security m.To m.Amount := rfl
theorem goH_ok {secs : List TSecurity} {l : List THolding} {day : Int} {m : TMove} {s : TSecurity} {N : Nat} (h : HoldOk l N) (hm : MoveOk secs l day m s) : HoldOk (goH l m) (N + 2) := by
  have am := hm.am
  obtain ⟨k1, _⟩ := goH1_ok h hm
  rw [goH_eq]
  obtain ⟨l1, h1⟩ : ∃ l1, l1 = addH l m.Security m.From (-m.Amount) := ⟨_, rfl⟩
  rw [← h1] at k1 ⊢
  rw [addH]
  split
  · exact ⟨k1.srt, k1.pos, k1.tot, by have := k1.len; omega⟩
  · have hh : 0 ≤ heldH l1 m.Security m.To := (sumQ_le _ hAm l1 k1.pos).1
    refine ⟨sorted_setK (hOk _ _) _ k1.srt, pos_setH k1.srt k1.pos (by omega), fun id => ?_, Nat.le_trans (len_setK _ _) (by have := k1.len; omega)⟩
    rw [outH_setH]
    have ht := h.tot id
    by_cases hid : m.Security = id
    · subst hid
      rw [if_pos rfl, h1, addH]
      split
      · rename_i hf; have := hm.out hf; omega
      · rw [outH_setH, if_pos rfl]; omega
    · rw [if_neg hid]
      have := k1.tot id
      omega
/-- The clerk: the holdings, the number of the last move, and its day. -/
structure RepSt where
  l : List THolding
  n : Nat
  d : Int
def stepOk (secs : List TSecurity) (t : RepSt) (m : TMove) : Prop := m.Number = t.n + 1 ∧ (1 ≤ m.Kind ∧ m.Kind ≤ 3) ∧ moveE secs t.l t.d m = 0
def stepR (t : RepSt) (m : TMove) : RepSt := ⟨goH t.l m, t.n + 1, m.Day⟩
/-- Moves that can be made, one behind the other: from a state to a state. -/
inductive Runs (secs : List TSecurity) : RepSt → List TMove → RepSt → Prop
  | nil {t} : Runs secs t [] t
  | snoc {t u ms m} : Runs secs t ms u → stepOk secs u m → Runs secs t (ms ++ [m]) (stepR u m)
def rep0 : RepSt := ⟨[], 0, 0⟩
theorem Runs.n {secs : List TSecurity} {t u : RepSt} {ms : List TMove} (h : Runs secs t ms u) : u.n = t.n + ms.length := by
  induction h with
  | nil => rfl
  | snoc _ _ ih => simp [stepR, ih]; omega
theorem Runs.take {secs : List TSecurity} {t u : RepSt} {ms : List TMove} (h : Runs secs t ms u) : ∀ k, ∃ v, Runs secs t (ms.take k) v ∧ ∀ m, ms[k]? = some m → stepOk secs v m ∧ Runs secs t (ms.take (k + 1)) (stepR v m) := by
  induction h with
  | nil => exact fun k => ⟨t, by simpa using Runs.nil, fun m hm => by simp at hm⟩
  | @snoc u ms m hr hs ih =>
    intro k
    rcases Nat.lt_trichotomy k ms.length with hk | hk | hk
    · obtain ⟨v, h1, h2⟩ := ih k
      refine ⟨v, by rw [List.take_append_of_le_length (by omega)]; exact h1, fun x hx => ?_⟩
      rw [List.getElem?_append_left hk] at hx
      rw [List.take_append_of_le_length (by omega)]
      exact h2 x hx
    · subst hk
      refine ⟨u, by simpa using hr, fun x hx => ?_⟩
      simp only [List.getElem?_append_right (Nat.le_refl _), Nat.sub_self, List.getElem?_cons_zero, Option.some.injEq] at hx
      subst hx
      exact ⟨hs, by rw [List.take_of_length_le (by simp)]; exact .snoc hr hs⟩
    · exact ⟨_, by rw [List.take_of_length_le (by simp; omega)]; exact .snoc hr hs, fun x hx => by rw [List.getElem?_eq_none (by simp; omega)] at hx; cases hx⟩
theorem Runs.det {secs : List TSecurity} {t u : RepSt} {ms : List TMove} (h : Runs secs t ms u) : u = ms.foldl stepR t := by
  induction h with
  | nil => rfl
  | snoc _ _ ih => rw [List.foldl_append, ← ih]; rfl
theorem Runs.ok {secs : List TSecurity} {u : RepSt} {ms : List TMove} (h : Runs secs rep0 ms u) : HoldOk u.l (2 * ms.length) := by
  induction h with
  | nil =>
    exact ⟨by simp [rep0], by simp [rep0], fun id => by simp [rep0, outH, sumQ], by simp [rep0]⟩
  | snoc _ hs ih =>
    obtain ⟨s, hm⟩ := moveE_ok hs.2.2
    have := goH_ok ih hm
    simpa [stepR, Nat.mul_add] using this
def secsB : Int → List TSecurity → Bool
  | _, [] => true
  | p, s :: l => secB s && decide (p < s.ID) && secsB s.ID l
structure RegOk (r : TRegister) (d : Int) : Prop where
  secs : secsB 0 r.Securities = true
  slen : r.Securities.length ≤ 20
  run : Runs r.Securities rep0 r.Moves ⟨r.Holdings, r.Moves.length, d⟩
  mlen : r.Moves.length ≤ 400
def moved (r : TRegister) (m : TMove) : TRegister := ⟨r.Securities, goH r.Holdings m, r.Moves ++ [m]⟩
theorem regOk_move {r : TRegister} {d : Int} {m : TMove} {s : TSecurity} (h : RegOk r d) (hm : MoveOk r.Securities r.Holdings d m s) (hn : m.Number = (r.Moves.length : Int) + 1) (hk : 1 ≤ m.Kind ∧ m.Kind ≤ 3) (hl : r.Moves.length < 400) : RegOk (moved r m) m.Day where
  secs := h.secs
  slen := h.slen
  run := by
    have := Runs.snoc h.run (m := m) ⟨hn, hk, moveE_zero hm⟩
    unfold moved
    simp only [stepR] at this
    simpa using this
  mlen := by unfold moved; simp; omega
end Go.Proofs.YtkcfmmpcpdlfeaaGreatDoor
