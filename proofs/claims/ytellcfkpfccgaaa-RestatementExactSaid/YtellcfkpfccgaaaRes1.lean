/- Restatement: what histories are, no program in sight. -/
import Derived.Test.YtellcfkpfccgaaaLed4
import Derived.Test.YtellcfkpfccgaaaLedNet
set_option linter.unusedSimpArgs false
set_option linter.unusedVariables false
namespace Go.Proofs.Ytellcfkpfccgaaa
open Go.PA
open Go.RowKit

abbrev corrsL (l : List TCorrection) : AV := .list 3 (encL TCorrection.cells l)
abbrev presL (l : List TPresented) : AV := .list 7 (encL TPresented.cells l)
theorem imm_corrs (l : List TCorrection) : Imm (corrsL l) := imm_encL _ TCorrection.imm _
theorem imm_pres (l : List TPresented) : Imm (presL l) := imm_encL _ TPresented.imm _
theorem cC (c : TCorrection) : c.cells = [iv c.Year, iv c.Found, postsL c.Postings] := rfl
theorem cPr (p : TPresented) : p.cells = [iv p.Year, iv p.Version, iv p.Statement.Assets, iv p.Statement.Liabilities, iv p.Statement.Worth, iv p.Statement.Revenue, iv p.Statement.Expense] := rfl
theorem cH (h : THistory) : h.cells = [postsL h.Ledger.Postings, presL h.Presented, corrsL h.Corrections] := rfl
theorem imm_corr (c : TCorrection) : Imm (.agg c.cells) := imm_agg.2 c.imm
theorem imm_prs (c : TPresented) : Imm (.agg c.cells) := imm_agg.2 c.imm
theorem imm_his (c : THistory) : Imm (.agg c.cells) := imm_agg.2 c.imm

def yearB (n : Int) : Bool := betw n 0 99
def wrongP (y : Int) (p : TPosting) : Bool := !postB p || !betw p.Day (360 * y) (360 * y + 359)
/-- A valid correction. -/
def corrB (c : TCorrection) : Bool := yearB c.Year && (betw c.Found (360 * c.Year + 360) 36000 && (betw c.Postings.length 1 20 && !c.Postings.any (wrongP c.Year)))
structure CorrOk (c : TCorrection) : Prop where
  year : 0 ≤ c.Year ∧ c.Year ≤ 99
  found : 360 * c.Year + 360 ≤ c.Found ∧ c.Found ≤ 36000
  len : 1 ≤ c.Postings.length ∧ c.Postings.length ≤ 20
  all : ∀ p, p ∈ c.Postings → PostOk p ∧ 360 * c.Year ≤ p.Day ∧ p.Day ≤ 360 * c.Year + 359
theorem wrongP_iff {y : Int} {p : TPosting} : wrongP y p = false ↔ PostOk p ∧ 360 * y ≤ p.Day ∧ p.Day ≤ 360 * y + 359 := by
  unfold wrongP
  rw [Bool.or_eq_false_iff, Bool.not_eq_false', Bool.not_eq_false', postB_iff, betw_iff]
theorem corrB_iff (c : TCorrection) : corrB c = true ↔ CorrOk c := by
  simp only [corrB, yearB, Bool.and_eq_true, betw_iff, Bool.not_eq_true']
  constructor
  · rintro ⟨h1, h2, h3, h4⟩
    refine ⟨h1, h2, by omega, fun p hp => ?_⟩
    rw [← wrongP_iff]
    exact Bool.eq_false_iff.2 fun h => by
      have := List.any_eq_true.2 ⟨p, hp, h⟩
      rw [h4] at this
      cases this
  · rintro ⟨h1, h2, h3, h4⟩
    refine ⟨h1, h2, by omega, Bool.eq_false_iff.2 fun h => ?_⟩
    obtain ⟨p, hp, hw⟩ := List.any_eq_true.1 h
    rw [wrongP_iff.2 (h4 p hp)] at hw
    cases hw

/-- Corrections one behind the other. -/
def corrsFrom : Int → List TCorrection → Bool
  | _, [] => true
  | d, c :: l => corrB c && (decide (d ≤ c.Found) && corrsFrom c.Found l)
def corrsB (l : List TCorrection) : Bool := corrsFrom 0 l
def versN (l : List TPresented) (y : Int) : Nat := l.countP fun p => decide (p.Year = y)
def presFrom : List TPresented → List TPresented → Bool
  | _, [] => true
  | pre, p :: l => yearB p.Year && (decide (p.Version = (versN pre p.Year : Int) + 1) && presFrom (pre ++ [p]) l)
def presB (l : List TPresented) : Bool := presFrom [] l
theorem versN_le (l : List TPresented) (y : Int) : versN l y ≤ l.length := List.countP_le_length
theorem versN_snoc (l : List TPresented) (p : TPresented) (y : Int) : versN (l ++ [p]) y = versN l y + (if p.Year = y then 1 else 0) := by
  simp [versN, List.countP_append, List.countP_cons]

def checkH (h : THistory) : Int :=
  if checkL h.Ledger.Postings = 0 then (if 20 < h.Corrections.length ∨ 20 < h.Presented.length then 3 else if (corrsB h.Corrections && presB h.Presented) = true then 0 else 90) else checkL h.Ledger.Postings

theorem checkH_ok {h : THistory} (hh : checkH h = 0) : checkL h.Ledger.Postings = 0 ∧ h.Corrections.length ≤ 20 ∧ h.Presented.length ≤ 20 ∧ corrsB h.Corrections = true ∧ presB h.Presented = true := by
  unfold checkH at hh
  split at hh
  · rename_i h1
    split at hh
    · cases hh
    · split at hh
      · rename_i h2 h3
        rw [Bool.and_eq_true] at h3
        exact ⟨h1, by omega, by omega, h3.1, h3.2⟩
      · cases hh
  · contradiction
abbrev zeroH : THistory := ⟨⟨[]⟩, [], []⟩
abbrev zeroP : TPresented := ⟨0, 0, ⟨0, 0, 0, 0, 0⟩⟩
def newH (l : TLedger) : THistory × Int := if checkL l.Postings = 0 then (⟨l, [], []⟩, 0) else (zeroH, checkL l.Postings)
def correctH (h : THistory) (c : TCorrection) : THistory × Int :=
  if checkH h = 0 then (if corrsB (h.Corrections ++ [c]) = true then (if h.Corrections.length = 20 then (zeroH, 3) else (⟨h.Ledger, h.Presented, h.Corrections ++ [c]⟩, 0)) else (zeroH, 90)) else (zeroH, checkH h)
/-- The postings of the corrections that a test takes. -/
def corrP (f : TCorrection → Bool) : List TCorrection → List TPosting
  | [] => []
  | c :: l => (if f c = true then c.Postings else []) ++ corrP f l
theorem corrP_app (f : TCorrection → Bool) : ∀ l m : List TCorrection, corrP f (l ++ m) = corrP f l ++ corrP f m
  | [], m => rfl
  | c :: l, m => by rw [List.cons_append, corrP, corrP_app f l m, corrP, List.append_assoc]
theorem corrP_snoc (f : TCorrection → Bool) (l : List TCorrection) (c : TCorrection) : corrP f (l ++ [c]) = corrP f l ++ (if f c = true then c.Postings else []) := by
  rw [corrP_app]; simp [corrP]
def restP (h : THistory) (n : Int) : List TPosting := h.Ledger.Postings ++ corrP (fun c => decide (c.Year ≤ n)) h.Corrections
def restL (h : THistory) (n : Int) : TStatement := sumsL (restP h n) 0 (360 * n) (360 * n + 359)
def restatedH (h : THistory) (n : Int) : TStatement × Int := if checkH h = 0 then (if yearB n = true then (restL h n, 0) else (zeroSt, 2)) else (zeroSt, checkH h)
def nextP (h : THistory) (n : Int) : TPresented := ⟨n, (versN h.Presented n : Int) + 1, restL h n⟩
def presentH (h : THistory) (n : Int) : THistory × TPresented × Int :=
  if checkH h = 0 then (if yearB n = true then (if h.Presented.length = 20 then (zeroH, zeroP, 3) else (⟨h.Ledger, h.Presented ++ [nextP h n], h.Corrections⟩, nextP h n, 0)) else (zeroH, zeroP, 2)) else (zeroH, zeroP, checkH h)
def isP (n v : Int) (p : TPresented) : Bool := decide (p.Year = n) && decide (p.Version = v)
def shownH (h : THistory) (n v : Int) : TStatement × Bool :=
  if checkH h = 0 then (match h.Presented.find? (isP n v) with | some p => (p.Statement, true) | none => (zeroSt, false)) else (zeroSt, false)
/-- What postings change in a result. -/
def resP (l : List TPosting) : Int := netP (fun b => decide (classI b = 4 ∨ classI b = 5)) (fun _ => true) l
def effP (h : THistory) (n : Int) : List TPosting := corrP (fun c => decide (c.Year = n)) h.Corrections
def effectH (h : THistory) (n : Int) : Int × Int := if checkH h = 0 then (if yearB n = true then (-resP (effP h n), 0) else (0, 2)) else (0, checkH h)
def explainedH (h : THistory) (n : Int) : Bool := decide (checkH h = 0) && yearB n

/-! ### Laws -/
theorem corrsFrom_ok : ∀ {l : List TCorrection} {d : Int}, corrsFrom d l = true → ∀ c, c ∈ l → CorrOk c
  | [], _, _, c, hc => by cases hc
  | a :: l, d, h, c, hc => by
    rw [corrsFrom, Bool.and_eq_true, Bool.and_eq_true] at h
    rcases List.mem_cons.1 hc with rfl | hc
    · exact (corrB_iff _).1 h.1
    · exact corrsFrom_ok h.2.2 c hc
theorem corrP_mem {f : TCorrection → Bool} {p : TPosting} : ∀ {l : List TCorrection}, p ∈ corrP f l → ∃ c, c ∈ l ∧ f c = true ∧ p ∈ c.Postings
  | [], h => by cases h
  | a :: l, h => by
    rw [corrP, List.mem_append] at h
    rcases h with h | h
    · split at h
      · rename_i hf
        exact ⟨a, by simp, hf, h⟩
      · cases h
    · obtain ⟨c, h1, h2, h3⟩ := corrP_mem h
      exact ⟨c, by simp [h1], h2, h3⟩
theorem corrP_len (f : TCorrection → Bool) : ∀ l : List TCorrection, (∀ c, c ∈ l → c.Postings.length ≤ 20) → (corrP f l).length ≤ 20 * l.length
  | [], _ => by simp [corrP]
  | a :: l, h => by
    have ih := corrP_len f l fun c hc => h c (by simp [hc])
    have ha := h a (by simp)
    rw [corrP, List.length_append, List.length_cons]
    split
    · omega
    · simp; omega
theorem checkH_corr {h : THistory} (hh : checkH h = 0) : ∀ c, c ∈ h.Corrections → CorrOk c := corrsFrom_ok (checkH_ok hh).2.2.2.1
theorem corrP_ok {h : THistory} (hh : checkH h = 0) (f : TCorrection → Bool) : (∀ p, p ∈ corrP f h.Corrections → PostOk p) ∧ (corrP f h.Corrections).length ≤ 400 := by
  refine ⟨fun p hp => ?_, ?_⟩
  · obtain ⟨c, h1, _, h3⟩ := corrP_mem hp
    exact ((checkH_corr hh c h1).all p h3).1
  · have := corrP_len f h.Corrections fun c hc => (checkH_corr hh c hc).len.2
    have := (checkH_ok hh).2.1
    omega
theorem restP_ok {h : THistory} (hh : checkH h = 0) (n : Int) : (∀ p, p ∈ restP h n → PostOk p) ∧ (restP h n).length ≤ 800 := by
  obtain ⟨h1, h2⟩ := corrP_ok hh fun c => decide (c.Year ≤ n)
  obtain ⟨k1, k2, _⟩ := checkL_ok (checkH_ok hh).1
  refine ⟨fun p hp => ?_, ?_⟩
  · rw [restP, List.mem_append] at hp
    exact hp.elim (k2 p) (h1 p)
  · rw [restP, List.length_append]; omega
theorem fine_ok {l : List TPosting} (h : ∀ p, p ∈ l → PostOk p) (hl : l.length ≤ 9000) : FineL l := ⟨fun p hp => (h p hp).fine, hl⟩
theorem cls_res (f : TPosting → Bool) : ∀ l : List TPosting, cls f l 4 + cls f l 5 = netP (fun b => decide (classI b = 4 ∨ classI b = 5)) f l
  | [] => rfl
  | p :: l => by
    have ih := cls_res f l
    have key : ∀ a x : Int, (if decide (classI a = 4) = true then x else 0) + (if decide (classI a = 5) = true then x else 0) = (if decide (classI a = 4 ∨ classI a = 5) = true then x else 0) := fun a x => by
      by_cases h1 : classI a = 4 <;> by_cases h2 : classI a = 5 <;> simp [h1, h2]
    have k1 := key p.Debit p.Amount
    have k2 := key p.Credit p.Amount
    simp only [cls, netP, addP] at ih ⊢
    cases f p
    · simp only [Bool.false_eq_true, if_false]; omega
    · simp only [if_true]; omega
theorem ofB_all {l : List TPosting} (h : ∀ p, p ∈ l → PostOk p) (q : Int → Bool) : netP q (ofB 0 0 36000) l = netP q (fun _ => true) l :=
  netP_congr fun p hp => by
    have := (h p hp).day
    simp [ofB]
    omega
theorem effP_net {h : THistory} (hh : checkH h = 0) (n : Int) : (sumsL (effP h n) 0 0 36000).Revenue - (sumsL (effP h n) 0 0 36000).Expense = -resP (effP h n) := by
  have h1 := (corrP_ok hh fun c => decide (c.Year = n)).1
  have h2 := cls_res (ofB 0 0 36000) (effP h n)
  have h3 := ofB_all h1 fun b => decide (classI b = 4 ∨ classI b = 5)
  show -cls (ofB 0 0 36000) (effP h n) 4 - cls (ofB 0 0 36000) (effP h n) 5 = -netP _ _ (effP h n)
  have h3' : netP (fun b => decide (classI b = 4 ∨ classI b = 5)) (ofB 0 0 36000) (effP h n) = netP (fun b => decide (classI b = 4 ∨ classI b = 5)) (fun _ => true) (effP h n) := h3
  omega
/-- Of the corrections up to a year those of the year have its days. -/
theorem corrP_year (n : Int) (q : Int → Bool) : ∀ l : List TCorrection, (∀ c, c ∈ l → CorrOk c) → netP q (ofB 0 (360 * n) (360 * n + 359)) (corrP (fun c => decide (c.Year ≤ n)) l) = netP q (fun _ => true) (corrP (fun c => decide (c.Year = n)) l)
  | [], _ => rfl
  | c :: l, h => by
    have ih := corrP_year n q l fun x hx => h x (by simp [hx])
    have hc := h c (by simp)
    simp only [corrP]
    rw [netP_app, netP_app, ih]
    congr 1
    by_cases h1 : c.Year = n
    · rw [if_pos (by simp; omega), if_pos (by simp [h1])]
      refine netP_congr fun p hp => ?_
      have := (hc.all p hp).2
      simp [ofB]
      omega
    · rw [if_neg (c := decide (c.Year = n) = true) (by simp [h1])]
      by_cases h2 : c.Year ≤ n
      · rw [if_pos (by simp [h2])]
        refine netP_none fun p hp => ?_
        have := (hc.all p hp).2
        simp [ofB]
        omega
      · rw [if_neg (by simp; omega)]
        rfl
theorem explain {h : THistory} (hh : checkH h = 0) (n : Int) : (restL h n).Revenue - (restL h n).Expense = (sumsL h.Ledger.Postings 0 (360 * n) (360 * n + 359)).Revenue - (sumsL h.Ledger.Postings 0 (360 * n) (360 * n + 359)).Expense + -resP (effP h n) := by
  have h1 := cls_res (ofB 0 (360 * n) (360 * n + 359)) (restP h n)
  have h2 := cls_res (ofB 0 (360 * n) (360 * n + 359)) h.Ledger.Postings
  have h3 := corrP_year n (fun b => decide (classI b = 4 ∨ classI b = 5)) h.Corrections (checkH_corr hh)
  rw [restP, netP_app, h3, ← restP] at h1
  show -cls (ofB 0 (360 * n) (360 * n + 359)) (restP h n) 4 - cls (ofB 0 (360 * n) (360 * n + 359)) (restP h n) 5 = -cls (ofB 0 (360 * n) (360 * n + 359)) h.Ledger.Postings 4 - cls (ofB 0 (360 * n) (360 * n + 359)) h.Ledger.Postings 5 + -netP _ _ (effP h n)
  have h1' : cls (ofB 0 (360 * n) (360 * n + 359)) (restP h n) 4 + cls (ofB 0 (360 * n) (360 * n + 359)) (restP h n) 5 = netP (fun b => decide (classI b = 4 ∨ classI b = 5)) (ofB 0 (360 * n) (360 * n + 359)) h.Ledger.Postings + netP (fun b => decide (classI b = 4 ∨ classI b = 5)) (fun _ => true) (effP h n) := h1
  omega
end Go.Proofs.Ytellcfkpfccgaaa
