/- Arguments of this seat's types. Printed by wip/types.py. -/
import Derived.Test.YtellcfkpfccgaaaTypes
import Derived.Test.YtellcfkpfccgaaaPaArg
set_option linter.unusedSimpArgs false
set_option linter.unusedVariables false
namespace Go.Proofs.Ytellcfkpfccgaaa
open Go.PA
open Go.RowKit

def fits (n : Int) : Prop := -9223372036854775808 ≤ n ∧ n ≤ 9223372036854775807
theorem fits_wf {n : Int} (h : (Lit.int .i64 n).wf = true) : fits n := by
  simp only [Lit.wf, Bool.and_eq_true, decide_eq_true_eq] at h
  exact h
theorem of_int (as : List AV) (h : (Sh.int .i64).V as) : ∃ x : Int, as = encI x ∧ fits x := by
  obtain ⟨n, rfl, h⟩ := h
  exact ⟨n, rfl, fits_wf h⟩
theorem of_bool (as : List AV) (h : Sh.bool.V as) : ∃ x : Bool, as = [bv x] ∧ True := by
  obtain ⟨n, rfl⟩ := h
  exact ⟨n, rfl, trivial⟩
theorem of_str (as : List AV) (h : Sh.str.V as) : ∃ x : ByteArray, as = encS x ∧ x.size ≤ maxLen := by
  obtain ⟨n, rfl, h⟩ := h
  exact ⟨n, rfl, h⟩
theorem of_list {α : Type} {enc : α → List AV} {wf : α → Prop} {s : Sh} (h : ∀ as, s.V as → ∃ x : α, as = enc x ∧ wf x) : ∀ es : List (List AV), (∀ x, x ∈ es → s.V x) → ∃ l : List α, es = encL enc l ∧ ∀ z, z ∈ l → wf z
  | [], _ => ⟨[], rfl, by simp⟩
  | e :: es, he => by
    obtain ⟨a, rfl, ha⟩ := h e (he e (by simp))
    obtain ⟨l, rfl, hl⟩ := of_list h es fun x hx => he x (List.mem_cons_of_mem _ hx)
    refine ⟨a :: l, rfl, fun z hz => ?_⟩
    rcases List.mem_cons.1 hz with rfl | hz
    · exact ha
    · exact hl z hz
theorem of_slice {α : Type} {enc : α → List AV} {wf : α → Prop} (s : Sh) (h : ∀ as, s.V as → ∃ x : α, as = enc x ∧ wf x) (as : List AV) (hs : (Sh.slice s).V as) : ∃ l : List α, as = [.list s.size (encL enc l)] ∧ (l.length ≤ maxLen ∧ ∀ z, z ∈ l → wf z) := by
  obtain ⟨es, rfl, hl, he⟩ := hs
  obtain ⟨l, rfl, hw⟩ := of_list h es he
  exact ⟨l, rfl, by simpa [encL] using hl, hw⟩

def TPosting.shF : Fs := .cons (.int .i64) <| .cons (.int .i64) <| .cons (.int .i64) <| .cons (.int .i64) <| .cons (.int .i64) <| .cons (.int .i64) <| .cons (.int .i64) <| .cons (.int .i64) <|  .nil
def TPosting.wf (x : TPosting) : Prop := fits x.Number ∧ fits x.Day ∧ fits x.Entity ∧ fits x.Debit ∧ fits x.Credit ∧ fits x.Amount ∧ fits x.Partner ∧ fits x.Ref
theorem TPosting.of (as : List AV) (h : (Sh.strct TPosting.shF).V as) : ∃ x : TPosting, as = x.cells ∧ x.wf := by
  obtain ⟨_, _, rfl, h0, _, _, rfl, h1, _, _, rfl, h2, _, _, rfl, h3, _, _, rfl, h4, _, _, rfl, h5, _, _, rfl, h6, _, _, rfl, h7, rfl⟩ := h
  obtain ⟨x0, rfl, w0⟩ := of_int _ h0
  obtain ⟨x1, rfl, w1⟩ := of_int _ h1
  obtain ⟨x2, rfl, w2⟩ := of_int _ h2
  obtain ⟨x3, rfl, w3⟩ := of_int _ h3
  obtain ⟨x4, rfl, w4⟩ := of_int _ h4
  obtain ⟨x5, rfl, w5⟩ := of_int _ h5
  obtain ⟨x6, rfl, w6⟩ := of_int _ h6
  obtain ⟨x7, rfl, w7⟩ := of_int _ h7
  exact ⟨⟨x0, x1, x2, x3, x4, x5, x6, x7⟩, rfl, w0, w1, w2, w3, w4, w5, w6, w7⟩
def TLedger.shF : Fs := .cons (.slice (.strct TPosting.shF)) <|  .nil
def TLedger.wf (x : TLedger) : Prop := (x.Postings.length ≤ maxLen ∧ ∀ z, z ∈ x.Postings → z.wf)
theorem TLedger.of (as : List AV) (h : (Sh.strct TLedger.shF).V as) : ∃ x : TLedger, as = x.cells ∧ x.wf := by
  obtain ⟨_, _, rfl, h0, rfl⟩ := h
  obtain ⟨x0, rfl, w0⟩ := (of_slice (.strct TPosting.shF) TPosting.of) _ h0
  exact ⟨⟨x0⟩, rfl, w0⟩
def TBalance.shF : Fs := .cons (.int .i64) <| .cons (.int .i64) <|  .nil
def TBalance.wf (x : TBalance) : Prop := fits x.Account ∧ fits x.Amount
theorem TBalance.of (as : List AV) (h : (Sh.strct TBalance.shF).V as) : ∃ x : TBalance, as = x.cells ∧ x.wf := by
  obtain ⟨_, _, rfl, h0, _, _, rfl, h1, rfl⟩ := h
  obtain ⟨x0, rfl, w0⟩ := of_int _ h0
  obtain ⟨x1, rfl, w1⟩ := of_int _ h1
  exact ⟨⟨x0, x1⟩, rfl, w0, w1⟩
def TStatement.shF : Fs := .cons (.int .i64) <| .cons (.int .i64) <| .cons (.int .i64) <| .cons (.int .i64) <| .cons (.int .i64) <|  .nil
def TStatement.wf (x : TStatement) : Prop := fits x.Assets ∧ fits x.Liabilities ∧ fits x.Worth ∧ fits x.Revenue ∧ fits x.Expense
theorem TStatement.of (as : List AV) (h : (Sh.strct TStatement.shF).V as) : ∃ x : TStatement, as = x.cells ∧ x.wf := by
  obtain ⟨_, _, rfl, h0, _, _, rfl, h1, _, _, rfl, h2, _, _, rfl, h3, _, _, rfl, h4, rfl⟩ := h
  obtain ⟨x0, rfl, w0⟩ := of_int _ h0
  obtain ⟨x1, rfl, w1⟩ := of_int _ h1
  obtain ⟨x2, rfl, w2⟩ := of_int _ h2
  obtain ⟨x3, rfl, w3⟩ := of_int _ h3
  obtain ⟨x4, rfl, w4⟩ := of_int _ h4
  exact ⟨⟨x0, x1, x2, x3, x4⟩, rfl, w0, w1, w2, w3, w4⟩
def TPresented.shF : Fs := .cons (.int .i64) <| .cons (.int .i64) <| .cons (.strct TStatement.shF) <|  .nil
def TPresented.wf (x : TPresented) : Prop := fits x.Year ∧ fits x.Version ∧ x.Statement.wf
theorem TPresented.of (as : List AV) (h : (Sh.strct TPresented.shF).V as) : ∃ x : TPresented, as = x.cells ∧ x.wf := by
  obtain ⟨_, _, rfl, h0, _, _, rfl, h1, _, _, rfl, h2, rfl⟩ := h
  obtain ⟨x0, rfl, w0⟩ := of_int _ h0
  obtain ⟨x1, rfl, w1⟩ := of_int _ h1
  obtain ⟨x2, rfl, w2⟩ := TStatement.of _ h2
  exact ⟨⟨x0, x1, x2⟩, rfl, w0, w1, w2⟩
def TCorrection.shF : Fs := .cons (.int .i64) <| .cons (.int .i64) <| .cons (.slice (.strct TPosting.shF)) <|  .nil
def TCorrection.wf (x : TCorrection) : Prop := fits x.Year ∧ fits x.Found ∧ (x.Postings.length ≤ maxLen ∧ ∀ z, z ∈ x.Postings → z.wf)
theorem TCorrection.of (as : List AV) (h : (Sh.strct TCorrection.shF).V as) : ∃ x : TCorrection, as = x.cells ∧ x.wf := by
  obtain ⟨_, _, rfl, h0, _, _, rfl, h1, _, _, rfl, h2, rfl⟩ := h
  obtain ⟨x0, rfl, w0⟩ := of_int _ h0
  obtain ⟨x1, rfl, w1⟩ := of_int _ h1
  obtain ⟨x2, rfl, w2⟩ := (of_slice (.strct TPosting.shF) TPosting.of) _ h2
  exact ⟨⟨x0, x1, x2⟩, rfl, w0, w1, w2⟩
def THistory.shF : Fs := .cons (.strct TLedger.shF) <| .cons (.slice (.strct TPresented.shF)) <| .cons (.slice (.strct TCorrection.shF)) <|  .nil
def THistory.wf (x : THistory) : Prop := x.Ledger.wf ∧ (x.Presented.length ≤ maxLen ∧ ∀ z, z ∈ x.Presented → z.wf) ∧ (x.Corrections.length ≤ maxLen ∧ ∀ z, z ∈ x.Corrections → z.wf)
theorem THistory.of (as : List AV) (h : (Sh.strct THistory.shF).V as) : ∃ x : THistory, as = x.cells ∧ x.wf := by
  obtain ⟨_, _, rfl, h0, _, _, rfl, h1, _, _, rfl, h2, rfl⟩ := h
  obtain ⟨x0, rfl, w0⟩ := TLedger.of _ h0
  obtain ⟨x1, rfl, w1⟩ := (of_slice (.strct TPresented.shF) TPresented.of) _ h1
  obtain ⟨x2, rfl, w2⟩ := (of_slice (.strct TCorrection.shF) TCorrection.of) _ h2
  exact ⟨⟨x0, x1, x2⟩, rfl, w0, w1, w2⟩
def TSub.shF : Fs := .cons (.int .i64) <| .cons (.int .i64) <|  .nil
def TSub.wf (x : TSub) : Prop := fits x.ID ∧ fits x.Balance
theorem TSub.of (as : List AV) (h : (Sh.strct TSub.shF).V as) : ∃ x : TSub, as = x.cells ∧ x.wf := by
  obtain ⟨_, _, rfl, h0, _, _, rfl, h1, rfl⟩ := h
  obtain ⟨x0, rfl, w0⟩ := of_int _ h0
  obtain ⟨x1, rfl, w1⟩ := of_int _ h1
  exact ⟨⟨x0, x1⟩, rfl, w0, w1⟩
def TEntry.shF : Fs := .cons (.int .i64) <| .cons (.int .i64) <| .cons (.int .i64) <| .cons (.int .i64) <| .cons (.int .i64) <| .cons (.int .i64) <|  .nil
def TEntry.wf (x : TEntry) : Prop := fits x.Number ∧ fits x.Day ∧ fits x.From ∧ fits x.To ∧ fits x.Amount ∧ fits x.Ref
theorem TEntry.of (as : List AV) (h : (Sh.strct TEntry.shF).V as) : ∃ x : TEntry, as = x.cells ∧ x.wf := by
  obtain ⟨_, _, rfl, h0, _, _, rfl, h1, _, _, rfl, h2, _, _, rfl, h3, _, _, rfl, h4, _, _, rfl, h5, rfl⟩ := h
  obtain ⟨x0, rfl, w0⟩ := of_int _ h0
  obtain ⟨x1, rfl, w1⟩ := of_int _ h1
  obtain ⟨x2, rfl, w2⟩ := of_int _ h2
  obtain ⟨x3, rfl, w3⟩ := of_int _ h3
  obtain ⟨x4, rfl, w4⟩ := of_int _ h4
  obtain ⟨x5, rfl, w5⟩ := of_int _ h5
  exact ⟨⟨x0, x1, x2, x3, x4, x5⟩, rfl, w0, w1, w2, w3, w4, w5⟩
def TAccount.shF : Fs := .cons (.int .i64) <| .cons (.slice (.strct TSub.shF)) <| .cons (.slice (.strct TEntry.shF)) <|  .nil
def TAccount.wf (x : TAccount) : Prop := fits x.Credit ∧ (x.Subs.length ≤ maxLen ∧ ∀ z, z ∈ x.Subs → z.wf) ∧ (x.Entries.length ≤ maxLen ∧ ∀ z, z ∈ x.Entries → z.wf)
theorem TAccount.of (as : List AV) (h : (Sh.strct TAccount.shF).V as) : ∃ x : TAccount, as = x.cells ∧ x.wf := by
  obtain ⟨_, _, rfl, h0, _, _, rfl, h1, _, _, rfl, h2, rfl⟩ := h
  obtain ⟨x0, rfl, w0⟩ := of_int _ h0
  obtain ⟨x1, rfl, w1⟩ := (of_slice (.strct TSub.shF) TSub.of) _ h1
  obtain ⟨x2, rfl, w2⟩ := (of_slice (.strct TEntry.shF) TEntry.of) _ h2
  exact ⟨⟨x0, x1, x2⟩, rfl, w0, w1, w2⟩

end Go.Proofs.Ytellcfkpfccgaaa
