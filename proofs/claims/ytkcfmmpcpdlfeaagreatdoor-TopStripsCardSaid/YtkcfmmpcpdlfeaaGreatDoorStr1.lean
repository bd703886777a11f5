/- Strips and what is due: what is computed, and plain laws. -/
import Derived.Test.YtkcfmmpcpdlfeaaGreatDoorReg1
set_option linter.unusedSimpArgs false
set_option linter.unusedVariables false
namespace Go.Proofs.YtkcfmmpcpdlfeaaGreatDoor
open Go.PA
open Go.RowKit

/-! ### Coupons -/
def daysS (s : TSecurity) : List Int := if s.Every = 0 then [] else (List.range ((s.Maturity - s.Issued) / (30 * s.Every)).toNat).map fun i : Nat => s.Issued + 30 * s.Every * ((i : Int) + 1)
def coupD (s : TSecurity) (n : Int) : Int := (n * s.Rate * s.Every + 600000) / 1200000
def dueH (s : TSecurity) (day : Int) (h : THolding) : List TDue :=
  (if day ∈ daysS s ∧ coupD s h.Amount ≠ 0 then [⟨day, h.Security, h.Holder, 1, coupD s h.Amount⟩] else []) ++ (if day = s.Maturity then [⟨day, h.Security, h.Holder, 2, h.Amount⟩] else [])
def sumD (l : List TDue) : Int := (l.map (·.Amount)).sum
theorem sumD_cons (x : TDue) (l : List TDue) : sumD (x :: l) = x.Amount + sumD l := rfl
theorem sumD_append (a b : List TDue) : sumD (a ++ b) = sumD a + sumD b := by simp [sumD]

/-! ### Strips -/
def knd (b : Bool) : Int := if b then 1 else 0
theorem knd_inj {a b : Bool} : knd a = knd b ↔ a = b := by cases a <;> cases b <;> simp [knd]
def sLt (id d k h : Int) (x : TStrip) : Bool := decide (x.Security < id ∨ (x.Security = id ∧ (x.Day < d ∨ (x.Day = d ∧ (knd x.Principal < k ∨ (knd x.Principal = k ∧ x.Holder < h))))))
def sIs (id d k h : Int) (x : TStrip) : Bool := decide (x.Security = id ∧ x.Day = d ∧ knd x.Principal = k ∧ x.Holder = h)
def sMk (id d : Int) (p : Bool) (h a : Int) : TStrip := ⟨id, d, p, h, a⟩
def sAm (x : TStrip) : Int := x.Amount
def sR (x y : TStrip) : Prop := x.Security < y.Security ∨ (x.Security = y.Security ∧ (x.Day < y.Day ∨ (x.Day = y.Day ∧ (knd x.Principal < knd y.Principal ∨ (knd x.Principal = knd y.Principal ∧ x.Holder < y.Holder)))))
theorem sOk (id d : Int) (p : Bool) (h : Int) : KeyOk sR (sLt id d (knd p) h) (sIs id d (knd p) h) (sMk id d p h) sAm where
  am a := rfl
  trans x y z h1 h2 := by unfold sR at *; omega
  ltMk x a h1 := by unfold sLt at h1; rw [decide_eq_true_eq] at h1; unfold sR sMk; dsimp only; omega
  isR x y a h1 h2 := by unfold sIs at h1; rw [decide_eq_true_eq] at h1; unfold sR sMk at *; dsimp only at *; omega
  tri x a h1 h2 := by unfold sLt at h1; unfold sIs at h2; rw [decide_eq_false_iff_not] at h1 h2; unfold sR sMk; dsimp only; omega
  mono x y h1 h2 := by unfold sLt at *; rw [decide_eq_true_eq] at *; unfold sR at h1; omega
  irr x y h1 h2 := by unfold sIs at *; rw [decide_eq_true_eq] at h1; rw [decide_eq_false_iff_not]; unfold sR at h2; omega
  dis x h1 := by unfold sLt at h1; unfold sIs; rw [decide_eq_true_eq] at h1; rw [decide_eq_false_iff_not]; omega
  aft x y h1 h2 h3 := by unfold sLt at h1; unfold sIs at *; rw [decide_eq_false_iff_not] at *; unfold sR at h3; omega
def setS (l : List TStrip) (x : TStrip) (n : Int) : List TStrip := setK (sLt x.Security x.Day (knd x.Principal) x.Holder) (sIs x.Security x.Day (knd x.Principal) x.Holder) (sMk x.Security x.Day x.Principal x.Holder) sAm l n
def partQ (id d : Int) (p : Bool) (x : TStrip) : Bool := decide (x.Security = id ∧ x.Day = d ∧ x.Principal = p)
def sumS (l : List TStrip) (id d : Int) (p : Bool) : Int := sumQ (partQ id d p) sAm l
def cntS (l : List TStrip) (id d : Int) (p : Bool) : Nat := cntQ (partQ id d p) l
theorem sumS_setS (l : List TStrip) (x : TStrip) (n id d : Int) (p : Bool) : sumS (setS l x n) id d p = sumS l id d p + if partQ id d p x = true then n else 0 := by
  unfold sumS setS
  exact sumQ_setK (lt := sLt x.Security x.Day (knd x.Principal) x.Holder) (is := sIs x.Security x.Day (knd x.Principal) x.Holder) (mk := sMk x.Security x.Day x.Principal x.Holder) (am := sAm) (partQ id d p) (fun _ => rfl) (partQ id d p x) (fun _ => rfl) (fun y hy => by
    unfold sIs at hy
    rw [decide_eq_true_eq, knd_inj] at hy
    obtain ⟨h1, h2, h3, _⟩ := hy
    simp [partQ, h1, h2, h3]) l n
theorem cntS_setS (l : List TStrip) (x : TStrip) (n id d : Int) (p : Bool) : cntS (setS l x n) id d p ≤ cntS l id d p + if partQ id d p x = true then 1 else 0 := by
  unfold cntS setS
  exact cntQ_setK (lt := sLt x.Security x.Day (knd x.Principal) x.Holder) (is := sIs x.Security x.Day (knd x.Principal) x.Holder) (mk := sMk x.Security x.Day x.Principal x.Holder) (am := sAm) (partQ id d p) (partQ id d p x) (fun _ => rfl) (fun y hy => by
    unfold sIs at hy
    rw [decide_eq_true_eq, knd_inj] at hy
    obtain ⟨h1, h2, h3, _⟩ := hy
    simp [partQ, h1, h2, h3]) l n
/-- The parts of a security. -/
def partsD (s : TSecurity) (day h : Int) : List TStrip := ((daysS s).filter fun d => decide (day < d)).map (fun d => ⟨s.ID, d, false, h, 0⟩) ++ [⟨s.ID, s.Maturity, true, h, 0⟩]
def addAll (l : List TStrip) (ps : List TStrip) (n : Int) : List TStrip := ps.foldl (fun l x => setS l x n) l
theorem sumS_addAll (n id d : Int) (p : Bool) : ∀ (ps l : List TStrip), sumS (addAll l ps n) id d p = sumS l id d p + (cntS ps id d p : Int) * n
  | [], l => by simp [addAll, cntS, cntQ]
  | x :: ps, l => by
    have := sumS_addAll n id d p ps (setS l x n)
    unfold addAll at *
    rw [List.foldl_cons, this, sumS_setS]
    unfold cntS
    rw [cntQ_cons]
    split <;> simp [Int.add_mul] <;> omega
theorem cntS_addAll (n id d : Int) (p : Bool) : ∀ (ps l : List TStrip), cntS (addAll l ps n) id d p ≤ cntS l id d p + cntS ps id d p
  | [], l => by simp [addAll, cntS, cntQ]
  | x :: ps, l => by
    have := cntS_addAll n id d p ps (setS l x n)
    have h2 := cntS_setS l x n id d p
    unfold addAll at *
    rw [List.foldl_cons]
    have h3 : cntS (x :: ps) id d p = (if partQ id d p x = true then 1 else 0) + cntS ps id d p := cntQ_cons _ _ _
    omega
/-- An entry of strips. -/
structure StripEl (s : TSecurity) (x : TStrip) : Prop where
  sec : x.Security = s.ID
  day : if x.Principal = true then x.Day = s.Maturity else x.Day ∈ daysS s
  hol : 1 ≤ x.Holder ∧ x.Holder ≤ 3
  am : 0 < x.Amount ∧ x.Amount % s.Unit = 0
theorem el_setS {s : TSecurity} {l : List TStrip} {x : TStrip} {n : Int} (hn : 0 < n ∧ n % s.Unit = 0) (hx : x.Security = s.ID ∧ (if x.Principal = true then x.Day = s.Maturity else x.Day ∈ daysS s) ∧ 1 ≤ x.Holder ∧ x.Holder ≤ 3) (hl : ∀ y, y ∈ l → StripEl s y) : ∀ y, y ∈ setS l x n → StripEl s y := by
  intro y hy
  rcases mem_setK hy with h | ⟨_, rfl⟩ | ⟨z, h1, h2, _, rfl⟩
  · exact hl y h
  · exact ⟨hx.1, hx.2.1, hx.2.2, hn⟩
  · have := (hl z h1).am
    exact ⟨hx.1, hx.2.1, hx.2.2, by unfold sMk sAm; dsimp only; omega, by unfold sMk sAm; dsimp only; rw [Int.add_emod, this.2, hn.2]; simp⟩
theorem el_addAll {s : TSecurity} {n : Int} (hn : 0 < n ∧ n % s.Unit = 0) : ∀ (ps l : List TStrip), (∀ x, x ∈ ps → x.Security = s.ID ∧ (if x.Principal = true then x.Day = s.Maturity else x.Day ∈ daysS s) ∧ 1 ≤ x.Holder ∧ x.Holder ≤ 3) → (∀ y, y ∈ l → StripEl s y) → ∀ y, y ∈ addAll l ps n → StripEl s y
  | [], l, _, h => h
  | x :: ps, l, hp, h => by
    unfold addAll
    rw [List.foldl_cons]
    exact el_addAll hn ps _ (fun z hz => hp z (by simp [hz])) (el_setS hn (hp x (by simp)) h)
theorem srt_addAll {n : Int} : ∀ (ps l : List TStrip), l.Pairwise sR → (addAll l ps n).Pairwise sR
  | [], l, h => h
  | x :: ps, l, h => by
    unfold addAll
    rw [List.foldl_cons]
    exact srt_addAll ps _ (sorted_setK (sOk _ _ _ _) _ h)
theorem len_addAll {n : Int} : ∀ (ps l : List TStrip), (addAll l ps n).length ≤ l.length + ps.length
  | [], l => by simp [addAll]
  | x :: ps, l => by
    have := len_addAll (n := n) ps (setS l x n)
    have h2 : (setS l x n).length ≤ l.length + 1 := len_setK _ _
    unfold addAll at *
    rw [List.foldl_cons, List.length_cons]
    omega
end Go.Proofs.YtkcfmmpcpdlfeaaGreatDoor
