/- Ledgers: what balances and statements come to. -/
import Derived.Test.YtellcfkpfccgaaaLedLaw
set_option linter.unusedSimpArgs false
set_option linter.unusedVariables false
namespace Go.Proofs.Ytellcfkpfccgaaa
open Go.PA
open Go.RowKit

theorem netP_congr {q : Int → Bool} {f g : TPosting → Bool} : ∀ {l : List TPosting}, (∀ p, p ∈ l → f p = g p) → netP q f l = netP q g l
  | [], _ => rfl
  | p :: l, h => by
    have ih := netP_congr (q := q) (f := f) (g := g) (l := l) fun p hp => h p (by simp [hp])
    simp only [netP, ih, h p (by simp)]
theorem netP_split {q : Int → Bool} {f g h : TPosting → Bool} : ∀ {l : List TPosting}, (∀ p, p ∈ l → (h p = true ∧ f p = true ∧ g p = false) ∨ (h p = true ∧ f p = false ∧ g p = true) ∨ (h p = false ∧ f p = false ∧ g p = false)) → netP q h l = netP q f l + netP q g l
  | [], _ => rfl
  | p :: l, hh => by
    have ih := netP_split (q := q) (f := f) (g := g) (h := h) (l := l) fun p hp => hh p (by simp [hp])
    rcases hh p (by simp) with ⟨h1, h2, h3⟩ | ⟨h1, h2, h3⟩ | ⟨h1, h2, h3⟩ <;> simp only [netP, ih, h1, h2, h3, if_true, Bool.false_eq_true, if_false] <;> omega
theorem netP_none {q : Int → Bool} {f : TPosting → Bool} : ∀ {l : List TPosting}, (∀ p, p ∈ l → f p = false) → netP q f l = 0
  | [], _ => rfl
  | p :: l, h => by
    have ih := netP_none (q := q) (f := f) (l := l) fun p hp => h p (by simp [hp])
    simp [netP, ih, h p (by simp)]
theorem addP_classes {p : TPosting} (h : Fine p) : addP (fun b => decide (classI b = 1)) p + addP (fun b => decide (classI b = 2)) p + addP (fun b => decide (classI b = 3)) p + addP (fun b => decide (classI b = 4)) p + addP (fun b => decide (classI b = 5)) p = 0 := by
  have key : ∀ a x : Int, (100 ≤ a ∧ a ≤ 599) → (if decide (classI a = 1) = true then x else 0) + (if decide (classI a = 2) = true then x else 0) + (if decide (classI a = 3) = true then x else 0) + (if decide (classI a = 4) = true then x else 0) + (if decide (classI a = 5) = true then x else 0) = x := fun a x ha => by
    have h1 := (classI_pos a).2 ha
    have h2 := (classI_nat' a).2
    have : classI a = 1 ∨ classI a = 2 ∨ classI a = 3 ∨ classI a = 4 ∨ classI a = 5 := by omega
    rcases this with e | e | e | e | e <;> simp [e]
  have k1 := key p.Debit p.Amount h.deb
  have k2 := key p.Credit p.Amount h.cre
  unfold addP
  dsimp only at k1 k2 ⊢
  omega
theorem cls_zero (f : TPosting → Bool) : ∀ l : List TPosting, (∀ p, p ∈ l → Fine p) → cls f l 1 + cls f l 2 + cls f l 3 + cls f l 4 + cls f l 5 = 0
  | [], _ => rfl
  | p :: l, h => by
    have ih := cls_zero f l fun p hp => h p (by simp [hp])
    have ha := addP_classes (h p (by simp))
    simp only [cls, netP] at ih ⊢
    cases f p <;> simp only [if_true, Bool.false_eq_true, if_false] <;> omega

theorem ofB_split {l : List TPosting} (e a b : Int) (ha : -1 ≤ a) (hab : a ≤ b) (h : ∀ p, p ∈ l → PostOk p) (q : Int → Bool) : netP q (ofB e 0 b) l = netP q (ofB e 0 a) l + netP q (ofB e (a + 1) b) l := by
  refine netP_split fun p hp => ?_
  have := (h p hp).day
  unfold ofB
  by_cases he : (decide (e = 0) || decide (p.Entity = e)) = true
  · rw [he, Bool.true_and, Bool.true_and, Bool.true_and]
    by_cases h1 : p.Day ≤ a
    · exact .inl ⟨by simp; omega, by simp; omega, by simp; omega⟩
    · by_cases h2 : p.Day ≤ b
      · exact .inr (.inl ⟨by simp; omega, by simp; omega, by simp; omega⟩)
      · exact .inr (.inr ⟨by simp; omega, by simp; omega, by simp; omega⟩)
  · have he' : (decide (e = 0) || decide (p.Entity = e)) = false := by simpa using he
    rw [he']
    exact .inr (.inr ⟨rfl, rfl, rfl⟩)
theorem ofB_none {l : List TPosting} (e a : Int) (ha : a < 0) (h : ∀ p, p ∈ l → PostOk p) (q : Int → Bool) : netP q (ofB e 0 a) l = 0 := by
  refine netP_none fun p hp => ?_
  have := (h p hp).day
  unfold ofB
  rw [decide_eq_false (show ¬ p.Day ≤ a by omega), Bool.and_false, Bool.and_false]

theorem statement_good {l : List TPosting} (h : checkL l = 0) {e f t : Int} (he : 0 ≤ e ∧ e ≤ 10) (hf : 0 ≤ f ∧ f ≤ t) (ht : t ≤ 36000) : statementL l e f t = (sumsL l e f t, 0) := by
  rw [statementL, if_pos h, if_neg (by rw [betw_iff.2 he]; simp), if_neg]
  rw [betw_iff.2 hf]
  simp
  omega
theorem cls_bound {l : List TPosting} (h : checkL l = 0) (f : TPosting → Bool) (c : Int) : -400000000000000 ≤ cls f l c ∧ cls f l c ≤ 400000000000000 := by
  obtain ⟨h1, h2, _⟩ := checkL_ok h
  have := netP_bound (fun b => decide (classI b = c)) f l fun p hp => (h2 p hp).fine
  show _ ≤ netP _ f l ∧ netP _ f l ≤ _
  omega
theorem drop_get {α : Type} {l : List α} {k : Nat} {e : α} (h : l[k]? = some e) : l.drop k = e :: l.drop (k + 1) := by
  obtain ⟨hk, he⟩ := List.getElem?_eq_some_iff.1 h
  rw [List.drop_eq_getElem_cons hk, he]
theorem cSt (x : TStatement) : x.cells = [iv x.Assets, iv x.Liabilities, iv x.Worth, iv x.Revenue, iv x.Expense] := rfl
theorem imm_st (x : TStatement) : Imm (.agg x.cells) := imm_agg.2 x.imm
end Go.Proofs.Ytellcfkpfccgaaa
