/- Ledgers: the postings of an account, no program in sight. -/
import Derived.Test.YtellcfkpfccgaaaLedLaw
import Derived.Test.YtellcfkpfccgaaaLedNet
import Derived.Test.YtellcfkpfccgaaaAccNet
set_option linter.unusedSimpArgs false
set_option linter.unusedVariables false
namespace Go.Proofs.Ytellcfkpfccgaaa
open Go.PA
open Go.RowKit

/-- Entries to or from outside. -/
def ioB (e : TEntry) : Bool := decide (e.To = 0) || decide (e.From = 0)
def entP (number first : Int) (k : Nat) (e : TEntry) : TPosting := ⟨first + (k : Int), e.Day, number, if e.To = 0 then 510 else 110, if e.To = 0 then 110 else 410, e.Amount, 0, e.Ref⟩
def entGo (number first : Int) : List TPosting → List TEntry → List TPosting
  | out, [] => out
  | out, e :: l => entGo number first (if ioB e = true then out ++ [entP number first out.length e] else out) l
def entriesL (a : TAccount) (number first : Int) : List TPosting := if checkA a = 0 ∧ (1 ≤ number ∧ number ≤ 10) ∧ (1 ≤ first ∧ first ≤ 999600) then entGo number first [] a.Entries else []
theorem entGo_len (number first : Int) : ∀ (l : List TEntry) (out : List TPosting), (entGo number first out l).length ≤ out.length + l.length
  | [], out => by simp [entGo]
  | e :: l, out => by
    rw [entGo]
    refine Nat.le_trans (entGo_len number first l _) ?_
    split <;> simp <;> omega
theorem entriesL_len (a : TAccount) (number first : Int) : (entriesL a number first).length ≤ 400 := by
  unfold entriesL
  split
  · rename_i h
    have := (check_ok h.1).2.1
    have := entGo_len number first a.Entries []
    simp at this
    omega
  · simp

/-- The postings of a right account are a right ledger. -/
theorem entGo_check (credit number : Int) (hnum : 1 ≤ number ∧ number ≤ 10) : ∀ (es : List TEntry) (n d : Int) (l : List TSub) (r : Int × Int × List TSub) (out : List TPosting), 0 ≤ d → replayS credit n d l es = some r → checkL out = 0 → lastD out ≤ d → out.length + es.length ≤ 400 → checkL (entGo number 1 out es) = 0
  | [], n, d, l, r, out, hd, h, hc, hl, hn => hc
  | e :: es, n, d, l, r, out, hd, h, hc, hl, hn => by
    rw [replayS] at h
    split at h
    · rename_i hp
      obtain ⟨k1, k2, k3, k4, k5, k6, k7, k8, _⟩ := postS_ok hp
      rw [List.length_cons] at hn
      rw [entGo]
      by_cases hi : ioB e = true
      · rw [if_pos hi]
        have hq : PostOk (entP number 1 out.length e) := by
          refine ⟨?_, ⟨?_, k3⟩, hnum, ?_, ?_, ?_, ⟨?_, k5⟩, ⟨?_, ?_⟩, ?_, ⟨k6, k7⟩⟩
          all_goals dsimp only [entP]
          all_goals first | omega | (split <;> omega)
        have pg := postL_good hc hq (by dsimp only [entP]; omega) (show lastD out ≤ e.Day by omega) (by omega)
        have hc' := (postL_ok (show (postL out (entP number 1 out.length e)).2 = 0 by rw [pg])).2.2.2.2.2.2
        refine entGo_check credit number hnum es _ _ _ r _ (by omega) h hc' ?_ (by simp; omega)
        simp [lastD, entP]
      · rw [if_neg hi]
        exact entGo_check credit number hnum es _ _ _ r _ (by omega) h hc (by omega) (by omega)
    · cases h
theorem entriesL_check {a : TAccount} (h : checkA a = 0) : checkL (entriesL a 1 1) = 0 := by
  obtain ⟨_, h2, _, _, h5⟩ := check_ok h
  rw [entriesL, if_pos ⟨h, by omega, by omega⟩]
  exact entGo_check a.Credit 1 (by omega) a.Entries 0 0 _ _ [] (by omega) h5 rfl (by simp [lastD]) (by simpa using h2)
theorem entGo_net (q : Int → Bool) (f : TPosting → Bool) (g : TEntry → Int) (number first : Int) : ∀ (es : List TEntry) (out : List TPosting), (∀ e, e ∈ es → ∀ k : Nat, (if ioB e = true then (if f (entP number first k e) = true then addP q (entP number first k e) else 0) else 0) = g e) → netP q f (entGo number first out es) = netP q f out + sumE g es
  | [], out, h => by simp [entGo, sumE]
  | e :: es, out, h => by
    have he := h e (by simp) out.length
    rw [entGo, entGo_net q f g number first es _ fun x hx => h x (List.mem_cons_of_mem _ hx), sumE_cons, ← he]
    split
    · rw [netP_snoc]; omega
    · omega
theorem entriesL_net {a : TAccount} (h : checkA a = 0) (k : Int) :
    ofL (entriesL a 1 1) 1 110 k = (flowA a 0 k).1 - (flowA a 0 k).2 ∧ ofL (entriesL a 1 1) 1 410 k = -(flowA a 0 k).1 ∧ ofL (entriesL a 1 1) 1 510 k = (flowA a 0 k).2 := by
  have hne : ∀ e, e ∈ a.Entries → e.From ≠ e.To := fun e he => (check_mem h e he).2.2.2.2.1
  have hf : ∀ (j : Nat) (e : TEntry), ofB 1 0 k (entP 1 1 j e) = amongB e.Day 0 k := fun j e => by simp [ofB, entP]; rfl
  have ec := entriesL_check h
  rw [ofL, if_pos ec, ofL, if_pos ec, ofL, if_pos ec, entriesL, if_pos ⟨h, by omega, by omega⟩, flowA, if_pos h]
  refine ⟨?_, ?_, ?_⟩
  · rw [bal, entGo_net _ _ (fun e => inF 0 k e - outF 0 k e), sumE_sub]
    · simp [netP]
    · intro e he j
      have := hne e he
      rw [hf]
      simp only [ioB, addP, entP, inF, outF]
      by_cases w : amongB e.Day 0 k = true <;> by_cases t : e.To = 0 <;> by_cases s : e.From = 0 <;> simp [w, t, s]
      omega
  · rw [bal, entGo_net _ _ (fun e => 0 - inF 0 k e), sumE_sub]
    · rw [show sumE (fun _ => 0) a.Entries = 0 from ?_]
      · simp [netP]
      · induction a.Entries with
        | nil => rfl
        | cons e l ih => rw [sumE_cons, ih]; rfl
    · intro e he j
      have := hne e he
      rw [hf]
      simp only [ioB, addP, entP, inF, outF]
      by_cases w : amongB e.Day 0 k = true <;> by_cases t : e.To = 0 <;> by_cases s : e.From = 0 <;> simp [w, t, s]
      omega
  · rw [bal, entGo_net _ _ (outF 0 k)]
    · simp [netP]
    · intro e he j
      have := hne e he
      rw [hf]
      simp only [ioB, addP, entP, inF, outF]
      by_cases w : amongB e.Day 0 k = true <;> by_cases t : e.To = 0 <;> by_cases s : e.From = 0 <;> simp [w, t, s]
end Go.Proofs.Ytellcfkpfccgaaa
