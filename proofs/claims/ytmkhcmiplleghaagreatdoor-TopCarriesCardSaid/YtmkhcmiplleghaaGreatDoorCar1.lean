/- Carrying over: what is computed, and plain laws. -/
import Derived.Test.YtmkhcmiplleghaaGreatDoorPaMapK
import Derived.Test.YtmkhcmiplleghaaGreatDoorStab0
import Derived.Test.YtmkhcmiplleghaaGreatDoorTypes
set_option linter.unusedSimpArgs false
set_option linter.unusedVariables false
namespace Go.Proofs.YtmkhcmiplleghaaGreatDoor
open Go.PA
open Go.RowKit

def codes4 : List ByteArray := [⟨#[49, 46, 49]⟩, ⟨#[49, 46, 50]⟩, ⟨#[50, 46, 57]⟩, ⟨#[50, 46, 49, 48]⟩]
/-- A commitment as they come here. -/
structure OpOk (x : TOpen) : Prop where
  of : 1 ≤ x.Office ∧ x.Office ≤ 3
  cm : 1 ≤ x.Commitment ∧ x.Commitment ≤ 9
  cd : x.Code ∈ codes4
  yr : x.Year = 3
  am : 1 ≤ x.Amount ∧ x.Amount ≤ 100
abbrev Rest := List (ByteArray × Int)
def restAt (r : Rest) (c : ByteArray) : Int := (getG r c).getD 0
def covI (r : Rest) (x : TOpen) : Int := min x.Amount (restAt r x.Code)
structure CarrySt where
  r : Rest
  c : List TOpen
  s : List TOpen
def carryStep (t : CarrySt) (x : TOpen) : CarrySt :=
  ⟨putG t.r x.Code (restAt t.r x.Code - covI t.r x), if 0 < covI t.r x then t.c ++ [{ x with Amount := covI t.r x }] else t.c, if 0 < x.Amount - covI t.r x then t.s ++ [{ x with Amount := x.Amount - covI t.r x }] else t.s⟩
def restOf (left : List TLeft) : Rest := left.foldl (fun r x => putG r x.Code x.Amount) []
def lapsedOf (r : Rest) (left : List TLeft) : List TLeft := (left.filter fun x => decide (0 < restAt r x.Code)).map fun x => ⟨x.Code, restAt r x.Code⟩
def sumO (l : List TOpen) : Int := (l.map (·.Amount)).sum
def sumLf (l : List TLeft) : Int := (l.map (·.Amount)).sum
def totR (C : List ByteArray) (r : Rest) : Int := (C.map (restAt r)).sum

theorem restAt_put (r : Rest) (c c' : ByteArray) (v : Int) : restAt (putG r c v) c' = if c = c' then v else restAt r c' := by
  unfold restAt
  rw [get_putG]
  split <;> rfl
theorem sumO_app (a b : List TOpen) : sumO (a ++ b) = sumO a + sumO b := by simp [sumO]
theorem totR_out (C : List ByteArray) (r : Rest) (c : ByteArray) (v : Int) (h : c ∉ C) : totR C (putG r c v) = totR C r := by
  unfold totR
  congr 1
  refine List.map_congr_left fun a ha => ?_
  rw [restAt_put, if_neg (by rintro rfl; exact h ha)]
theorem totR_in {C : List ByteArray} (hn : C.Nodup) (r : Rest) (c : ByteArray) (v : Int) (h : c ∈ C) : totR C (putG r c v) = totR C r + (v - restAt r c) := by
  induction C with
  | nil => cases h
  | cons a C ih =>
    have ha := (List.nodup_cons.1 hn).1
    have e1 : totR (a :: C) (putG r c v) = restAt (putG r c v) a + totR C (putG r c v) := by simp [totR]
    have e2 : totR (a :: C) r = restAt r a + totR C r := by simp [totR]
    rw [e1, e2, restAt_put]
    by_cases hc : c = a
    · subst hc
      rw [if_pos rfl, totR_out C r c v ha]
      omega
    · rw [if_neg hc, ih (List.nodup_cons.1 hn).2 ((List.mem_cons.1 h).resolve_left hc)]
      omega

/-- What holds while commitments are covered. -/
structure CarryOk (C : List ByteArray) (had : Int) (done : Int) (k : Nat) (t : CarrySt) : Prop where
  tot : totR C t.r + sumO t.c = had
  sum : sumO t.c + sumO t.s = done
  pos : ∀ c, 0 ≤ restAt t.r c ∧ restAt t.r c ≤ 1000
  out : ∀ c, c ∉ C → restAt t.r c = 0
  car : ∀ x, x ∈ t.c → OpOk x
  len : t.c.length ≤ k ∧ t.s.length ≤ k
  sh : ∀ x, x ∈ t.s → 1 ≤ x.Amount ∧ x.Amount ≤ 100
theorem carryStep_ok {C : List ByteArray} (hn : C.Nodup) {had done : Int} {k : Nat} {t : CarrySt} (h : CarryOk C had done k t) {x : TOpen} (hx : OpOk x) :
    CarryOk C had (done + x.Amount) (k + 1) (carryStep t x) := by
  obtain ⟨v, hv⟩ : ∃ v, v = covI t.r x := ⟨_, rfl⟩
  have hp := h.pos x.Code
  have ha := hx.am
  have hv1 : 0 ≤ v ∧ v ≤ restAt t.r x.Code ∧ v ≤ x.Amount := by rw [hv]; unfold covI; omega
  have e1 : sumO (carryStep t x).c = sumO t.c + v := by
    simp only [carryStep, ← hv]
    split
    · rw [sumO_app]; simp [sumO]
    · omega
  have e2 : sumO (carryStep t x).s = sumO t.s + (x.Amount - v) := by
    simp only [carryStep, ← hv]
    split
    · rw [sumO_app]; simp [sumO]
    · omega
  refine ⟨?_, by rw [e1, e2]; have := h.sum; omega, fun c => ?_, fun c hc => ?_, fun y hy => ?_, ?_, fun y hy => ?_⟩
  · rw [e1]
    simp only [carryStep, ← hv]
    have := h.tot
    by_cases hc : x.Code ∈ C
    · rw [totR_in hn _ _ _ hc]; omega
    · rw [totR_out _ _ _ _ hc]; have := h.out _ hc; omega
  · simp only [carryStep, ← hv, restAt_put]
    split
    · omega
    · exact h.pos c
  · simp only [carryStep, ← hv, restAt_put]
    split
    · rename_i e
      subst e
      have := h.out _ hc
      omega
    · exact h.out c hc
  · simp only [carryStep, ← hv] at hy
    split at hy
    · rcases List.mem_append.1 hy with hy | hy
      · exact h.car y hy
      · simp only [List.mem_singleton] at hy
        subst hy
        exact ⟨hx.of, hx.cm, hx.cd, hx.yr, by dsimp only; omega⟩
    · exact h.car y hy
  · simp only [carryStep]
    have := h.len
    constructor
    · split <;> (try simp only [List.length_append, List.length_singleton]) <;> omega
    · split <;> (try simp only [List.length_append, List.length_singleton]) <;> omega
  · simp only [carryStep, ← hv] at hy
    split at hy
    · rcases List.mem_append.1 hy with hy | hy
      · exact h.sh y hy
      · simp only [List.mem_singleton] at hy
        subst hy
        dsimp only
        omega
    · exact h.sh y hy
theorem foldl_snocC {α β : Type} (f : β → α → β) (b : β) (l : List α) (x : α) : (l ++ [x]).foldl f b = f (l.foldl f b) x := by simp
theorem restOf_snoc (l : List TLeft) (x : TLeft) : restOf (l ++ [x]) = putG (restOf l) x.Code x.Amount := by simp [restOf]
theorem restOf_at (left : List TLeft) (hn : (left.map (·.Code)).Nodup) : (∀ x, x ∈ left → restAt (restOf left) x.Code = x.Amount) ∧ ∀ c, c ∉ left.map (·.Code) → restAt (restOf left) c = 0 := by
  induction left using snocRec with
  | h0 => exact ⟨by simp, fun c _ => rfl⟩
  | h1 l x ih =>
    rw [List.map_append, List.nodup_append] at hn
    obtain ⟨h1, h2⟩ := ih hn.1
    have hx : ∀ y, y ∈ l → y.Code ≠ x.Code := fun y hy => hn.2.2 _ (List.mem_map_of_mem hy) _ (by simp)
    rw [restOf_snoc]
    constructor
    · intro y hy
      rw [restAt_put]
      rcases List.mem_append.1 hy with hy | hy
      · rw [if_neg (Ne.symm (hx y hy))]
        exact h1 y hy
      · simp only [List.mem_singleton] at hy
        subst hy
        rw [if_pos rfl]
    · intro c hc
      rw [List.map_append, List.mem_append, not_or] at hc
      rw [restAt_put, if_neg (by simpa using Ne.symm (by simpa using hc.2))]
      exact h2 c hc.1
theorem totR_left (r : Rest) : ∀ left : List TLeft, totR (left.map (·.Code)) r = (left.map fun x => restAt r x.Code).sum := fun left => by simp [totR, Function.comp_def]
theorem lapsed_sum {r : Rest} (hp : ∀ c, 0 ≤ restAt r c) (left : List TLeft) : sumLf (lapsedOf r left) = totR (left.map (·.Code)) r := by
  rw [totR_left]
  induction left with
  | nil => rfl
  | cons x l ih =>
    simp only [lapsedOf, sumLf, List.filter_cons, List.map_cons, List.sum_cons] at ih ⊢
    have := hp x.Code
    by_cases h : 0 < restAt r x.Code
    · rw [decide_eq_true h, if_pos rfl]
      simp only [List.map_cons, List.sum_cons]
      rw [ih]
    · rw [decide_eq_false h]
      simp only [Bool.false_eq_true, if_false]
      rw [ih]
      omega
theorem carry_start (left : List TLeft) (hn : (left.map (·.Code)).Nodup) (hl : ∀ x, x ∈ left → 0 ≤ x.Amount ∧ x.Amount ≤ 1000) : CarryOk (left.map (·.Code)) (sumLf left) 0 0 ⟨restOf left, [], []⟩ := by
  obtain ⟨h1, h2⟩ := restOf_at left hn
  refine ⟨?_, rfl, fun c => ?_, h2, by simp, by simp, by simp⟩
  · rw [totR_left]
    have : (left.map fun x => restAt (restOf left) x.Code) = left.map (·.Amount) := List.map_congr_left fun x hx => h1 x hx
    rw [this]
    simp [sumO, sumLf]
  · by_cases hc : c ∈ left.map (·.Code)
    · obtain ⟨x, hx, rfl⟩ := List.mem_map.1 hc
      rw [h1 x hx]
      exact hl x hx
    · rw [h2 c hc]; omega

/-! Lines -/
def lineStep (out : List TCarry) (x : TOpen) : List TCarry :=
  match out.getLast? with
  | some y => if y.Code = x.Code then out.dropLast ++ [{ y with Amount := y.Amount + x.Amount }] else out ++ [⟨out.length + 1, 1440, x.Code, 4, x.Amount⟩]
  | none => [⟨1, 1440, x.Code, 4, x.Amount⟩]
def linesOf (l : List TOpen) : List TCarry := l.foldl lineStep []
def sumK (l : List TCarry) : Int := (l.map (·.Amount)).sum
theorem lineStep_ok (out : List TCarry) (x : TOpen) (n : Int) (hx : 1 ≤ x.Amount ∧ x.Amount ≤ 100) (h : ∀ y, y ∈ out → 1 ≤ y.Amount ∧ y.Amount ≤ n) (hn : 0 ≤ n) :
    sumK (lineStep out x) = sumK out + x.Amount ∧ (∀ y, y ∈ lineStep out x → 1 ≤ y.Amount ∧ y.Amount ≤ n + 100) ∧ (lineStep out x).length ≤ out.length + 1 := by
  unfold lineStep
  rcases List.eq_nil_or_concat out with rfl | ⟨l, y, rfl⟩
  · simp [sumK]
    omega
  · rw [List.concat_eq_append] at *
    simp only [List.getLast?_append, List.getLast?_singleton, Option.some_or, List.dropLast_append_of_ne_nil, List.dropLast_singleton, ne_eq, List.cons_ne_self, not_false_eq_true, List.append_nil]
    have hy := h y (by simp)
    split
    · refine ⟨?_, fun z hz => ?_, by simp⟩
      · simp [sumK]
        omega
      · rcases List.mem_append.1 hz with hz | hz
        · have := h z (by simp [hz]); omega
        · simp only [List.mem_singleton] at hz; subst hz; dsimp only; omega
    · refine ⟨?_, fun z hz => ?_, by simp⟩
      · simp [sumK]
        try omega
      · rcases List.mem_append.1 hz with hz | hz
        · have := h z hz; omega
        · simp only [List.mem_singleton] at hz; subst hz; dsimp only; omega
theorem lines_ok (l : List TOpen) (hl : ∀ x, x ∈ l → 1 ≤ x.Amount ∧ x.Amount ≤ 100) : sumK (linesOf l) = sumO l ∧ (∀ y, y ∈ linesOf l → 1 ≤ y.Amount ∧ y.Amount ≤ 100 * (l.length : Int)) ∧ (linesOf l).length ≤ l.length := by
  induction l using snocRec with
  | h0 => simp [linesOf, sumK, sumO]
  | h1 l x ih =>
    obtain ⟨h1, h2, h3⟩ := ih fun y hy => hl y (by simp [hy])
    have e : linesOf (l ++ [x]) = lineStep (linesOf l) x := by simp [linesOf]
    rw [e]
    obtain ⟨g1, g2, g3⟩ := lineStep_ok (linesOf l) x (100 * (l.length : Int)) (hl x (by simp)) h2 (by omega)
    refine ⟨by rw [g1, h1, sumO_app]; simp [sumO], fun y hy => ?_, by simp; omega⟩
    have := g2 y hy
    simp only [List.length_append, List.length_singleton]
    omega
end Go.Proofs.YtmkhcmiplleghaaGreatDoor
