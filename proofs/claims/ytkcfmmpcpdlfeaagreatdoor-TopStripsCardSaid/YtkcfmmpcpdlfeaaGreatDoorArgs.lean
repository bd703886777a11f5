/- Arguments of this seat's types. Printed by wip/types.py. -/
import Derived.Test.YtkcfmmpcpdlfeaaGreatDoorTypes
import Derived.Test.YtkcfmmpcpdlfeaaGreatDoorPaArg
set_option linter.unusedSimpArgs false
set_option linter.unusedVariables false
namespace Go.Proofs.YtkcfmmpcpdlfeaaGreatDoor
open Go.PA
open Go.RowKit

def fits (n : Int) : Prop := -9223372036854775808 ≤ n ∧ n ≤ 9223372036854775807
theorem fits_wf {n : Int} (h : (Lit.int .i64 n).wf = true) : fits n := by
  simp only [Lit.wf, Bool.and_eq_true, decide_eq_true_eq] at h
  exact h
theorem of_int (as : List AV) (h : (Sh.int .i64).V as) : ∃ x : Int, as = encI x ∧ fits x := by
  obtain ⟨n, rfl, h⟩ := h
  exact ⟨n, rfl, fits_wf h⟩
theorem of_bool (as : List AV) (h : Sh.bool.V as) : ∃ x : Bool, as = [bv x] ∧ True := by
  obtain ⟨n, rfl⟩ := h
  exact ⟨n, rfl, trivial⟩
theorem of_str (as : List AV) (h : Sh.str.V as) : ∃ x : ByteArray, as = encS x ∧ x.size ≤ maxLen := by
  obtain ⟨n, rfl, h⟩ := h
  exact ⟨n, rfl, h⟩
theorem of_list {α : Type} {enc : α → List AV} {wf : α → Prop} {s : Sh} (h : ∀ as, s.V as → ∃ x : α, as = enc x ∧ wf x) : ∀ es : List (List AV), (∀ x, x ∈ es → s.V x) → ∃ l : List α, es = encL enc l ∧ ∀ z, z ∈ l → wf z
  | [], _ => ⟨[], rfl, by simp⟩
  | e :: es, he => by
    obtain ⟨a, rfl, ha⟩ := h e (he e (by simp))
    obtain ⟨l, rfl, hl⟩ := of_list h es fun x hx => he x (List.mem_cons_of_mem _ hx)
    refine ⟨a :: l, rfl, fun z hz => ?_⟩
    rcases List.mem_cons.1 hz with rfl | hz
    · exact ha
    · exact hl z hz
theorem of_slice {α : Type} {enc : α → List AV} {wf : α → Prop} (s : Sh) (h : ∀ as, s.V as → ∃ x : α, as = enc x ∧ wf x) (as : List AV) (hs : (Sh.slice s).V as) : ∃ l : List α, as = [.list s.size (encL enc l)] ∧ (l.length ≤ maxLen ∧ ∀ z, z ∈ l → wf z) := by
  obtain ⟨es, rfl, hl, he⟩ := hs
  obtain ⟨l, rfl, hw⟩ := of_list h es he
  exact ⟨l, rfl, by simpa [encL] using hl, hw⟩

def TSecurity.shF : Fs := .cons (.int .i64) <| .cons (.int .i64) <| .cons (.int .i64) <| .cons (.int .i64) <| .cons (.int .i64) <| .cons (.int .i64) <| .cons (.bool) <|  .nil
def TSecurity.wf (x : TSecurity) : Prop := fits x.ID ∧ fits x.Unit ∧ fits x.Issued ∧ fits x.Maturity ∧ fits x.Rate ∧ fits x.Every ∧ True
theorem TSecurity.of (as : List AV) (h : (Sh.strct TSecurity.shF).V as) : ∃ x : TSecurity, as = x.cells ∧ x.wf := by
  obtain ⟨_, _, rfl, h0, _, _, rfl, h1, _, _, rfl, h2, _, _, rfl, h3, _, _, rfl, h4, _, _, rfl, h5, _, _, rfl, h6, rfl⟩ := h
  obtain ⟨x0, rfl, w0⟩ := of_int _ h0
  obtain ⟨x1, rfl, w1⟩ := of_int _ h1
  obtain ⟨x2, rfl, w2⟩ := of_int _ h2
  obtain ⟨x3, rfl, w3⟩ := of_int _ h3
  obtain ⟨x4, rfl, w4⟩ := of_int _ h4
  obtain ⟨x5, rfl, w5⟩ := of_int _ h5
  obtain ⟨x6, rfl, w6⟩ := of_bool _ h6
  exact ⟨⟨x0, x1, x2, x3, x4, x5, x6⟩, rfl, w0, w1, w2, w3, w4, w5, w6⟩
def THolding.shF : Fs := .cons (.int .i64) <| .cons (.int .i64) <| .cons (.int .i64) <|  .nil
def THolding.wf (x : THolding) : Prop := fits x.Security ∧ fits x.Holder ∧ fits x.Amount
theorem THolding.of (as : List AV) (h : (Sh.strct THolding.shF).V as) : ∃ x : THolding, as = x.cells ∧ x.wf := by
  obtain ⟨_, _, rfl, h0, _, _, rfl, h1, _, _, rfl, h2, rfl⟩ := h
  obtain ⟨x0, rfl, w0⟩ := of_int _ h0
  obtain ⟨x1, rfl, w1⟩ := of_int _ h1
  obtain ⟨x2, rfl, w2⟩ := of_int _ h2
  exact ⟨⟨x0, x1, x2⟩, rfl, w0, w1, w2⟩
def TMove.shF : Fs := .cons (.int .i64) <| .cons (.int .i64) <| .cons (.int .i64) <| .cons (.int .i64) <| .cons (.int .i64) <| .cons (.int .i64) <| .cons (.int .i64) <|  .nil
def TMove.wf (x : TMove) : Prop := fits x.Number ∧ fits x.Day ∧ fits x.Kind ∧ fits x.Security ∧ fits x.From ∧ fits x.To ∧ fits x.Amount
theorem TMove.of (as : List AV) (h : (Sh.strct TMove.shF).V as) : ∃ x : TMove, as = x.cells ∧ x.wf := by
  obtain ⟨_, _, rfl, h0, _, _, rfl, h1, _, _, rfl, h2, _, _, rfl, h3, _, _, rfl, h4, _, _, rfl, h5, _, _, rfl, h6, rfl⟩ := h
  obtain ⟨x0, rfl, w0⟩ := of_int _ h0
  obtain ⟨x1, rfl, w1⟩ := of_int _ h1
  obtain ⟨x2, rfl, w2⟩ := of_int _ h2
  obtain ⟨x3, rfl, w3⟩ := of_int _ h3
  obtain ⟨x4, rfl, w4⟩ := of_int _ h4
  obtain ⟨x5, rfl, w5⟩ := of_int _ h5
  obtain ⟨x6, rfl, w6⟩ := of_int _ h6
  exact ⟨⟨x0, x1, x2, x3, x4, x5, x6⟩, rfl, w0, w1, w2, w3, w4, w5, w6⟩
def TRegister.shF : Fs := .cons (.slice (.strct TSecurity.shF)) <| .cons (.slice (.strct THolding.shF)) <| .cons (.slice (.strct TMove.shF)) <|  .nil
def TRegister.wf (x : TRegister) : Prop := (x.Securities.length ≤ maxLen ∧ ∀ z, z ∈ x.Securities → z.wf) ∧ (x.Holdings.length ≤ maxLen ∧ ∀ z, z ∈ x.Holdings → z.wf) ∧ (x.Moves.length ≤ maxLen ∧ ∀ z, z ∈ x.Moves → z.wf)
theorem TRegister.of (as : List AV) (h : (Sh.strct TRegister.shF).V as) : ∃ x : TRegister, as = x.cells ∧ x.wf := by
  obtain ⟨_, _, rfl, h0, _, _, rfl, h1, _, _, rfl, h2, rfl⟩ := h
  obtain ⟨x0, rfl, w0⟩ := (of_slice (.strct TSecurity.shF) TSecurity.of) _ h0
  obtain ⟨x1, rfl, w1⟩ := (of_slice (.strct THolding.shF) THolding.of) _ h1
  obtain ⟨x2, rfl, w2⟩ := (of_slice (.strct TMove.shF) TMove.of) _ h2
  exact ⟨⟨x0, x1, x2⟩, rfl, w0, w1, w2⟩
def TStrip.shF : Fs := .cons (.int .i64) <| .cons (.int .i64) <| .cons (.bool) <| .cons (.int .i64) <| .cons (.int .i64) <|  .nil
def TStrip.wf (x : TStrip) : Prop := fits x.Security ∧ fits x.Day ∧ True ∧ fits x.Holder ∧ fits x.Amount
theorem TStrip.of (as : List AV) (h : (Sh.strct TStrip.shF).V as) : ∃ x : TStrip, as = x.cells ∧ x.wf := by
  obtain ⟨_, _, rfl, h0, _, _, rfl, h1, _, _, rfl, h2, _, _, rfl, h3, _, _, rfl, h4, rfl⟩ := h
  obtain ⟨x0, rfl, w0⟩ := of_int _ h0
  obtain ⟨x1, rfl, w1⟩ := of_int _ h1
  obtain ⟨x2, rfl, w2⟩ := of_bool _ h2
  obtain ⟨x3, rfl, w3⟩ := of_int _ h3
  obtain ⟨x4, rfl, w4⟩ := of_int _ h4
  exact ⟨⟨x0, x1, x2, x3, x4⟩, rfl, w0, w1, w2, w3, w4⟩
def TVault.shF : Fs := .cons (.strct TRegister.shF) <| .cons (.slice (.strct TStrip.shF)) <|  .nil
def TVault.wf (x : TVault) : Prop := x.Register.wf ∧ (x.Strips.length ≤ maxLen ∧ ∀ z, z ∈ x.Strips → z.wf)
theorem TVault.of (as : List AV) (h : (Sh.strct TVault.shF).V as) : ∃ x : TVault, as = x.cells ∧ x.wf := by
  obtain ⟨_, _, rfl, h0, _, _, rfl, h1, rfl⟩ := h
  obtain ⟨x0, rfl, w0⟩ := TRegister.of _ h0
  obtain ⟨x1, rfl, w1⟩ := (of_slice (.strct TStrip.shF) TStrip.of) _ h1
  exact ⟨⟨x0, x1⟩, rfl, w0, w1⟩
def TDue.shF : Fs := .cons (.int .i64) <| .cons (.int .i64) <| .cons (.int .i64) <| .cons (.int .i64) <| .cons (.int .i64) <|  .nil
def TDue.wf (x : TDue) : Prop := fits x.Day ∧ fits x.Security ∧ fits x.Holder ∧ fits x.Kind ∧ fits x.Amount
theorem TDue.of (as : List AV) (h : (Sh.strct TDue.shF).V as) : ∃ x : TDue, as = x.cells ∧ x.wf := by
  obtain ⟨_, _, rfl, h0, _, _, rfl, h1, _, _, rfl, h2, _, _, rfl, h3, _, _, rfl, h4, rfl⟩ := h
  obtain ⟨x0, rfl, w0⟩ := of_int _ h0
  obtain ⟨x1, rfl, w1⟩ := of_int _ h1
  obtain ⟨x2, rfl, w2⟩ := of_int _ h2
  obtain ⟨x3, rfl, w3⟩ := of_int _ h3
  obtain ⟨x4, rfl, w4⟩ := of_int _ h4
  exact ⟨⟨x0, x1, x2, x3, x4⟩, rfl, w0, w1, w2, w3, w4⟩
def TSub.shF : Fs := .cons (.int .i64) <| .cons (.int .i64) <|  .nil
def TSub.wf (x : TSub) : Prop := fits x.ID ∧ fits x.Balance
theorem TSub.of (as : List AV) (h : (Sh.strct TSub.shF).V as) : ∃ x : TSub, as = x.cells ∧ x.wf := by
  obtain ⟨_, _, rfl, h0, _, _, rfl, h1, rfl⟩ := h
  obtain ⟨x0, rfl, w0⟩ := of_int _ h0
  obtain ⟨x1, rfl, w1⟩ := of_int _ h1
  exact ⟨⟨x0, x1⟩, rfl, w0, w1⟩
def TEntry.shF : Fs := .cons (.int .i64) <| .cons (.int .i64) <| .cons (.int .i64) <| .cons (.int .i64) <| .cons (.int .i64) <| .cons (.int .i64) <|  .nil
def TEntry.wf (x : TEntry) : Prop := fits x.Number ∧ fits x.Day ∧ fits x.From ∧ fits x.To ∧ fits x.Amount ∧ fits x.Ref
theorem TEntry.of (as : List AV) (h : (Sh.strct TEntry.shF).V as) : ∃ x : TEntry, as = x.cells ∧ x.wf := by
  obtain ⟨_, _, rfl, h0, _, _, rfl, h1, _, _, rfl, h2, _, _, rfl, h3, _, _, rfl, h4, _, _, rfl, h5, rfl⟩ := h
  obtain ⟨x0, rfl, w0⟩ := of_int _ h0
  obtain ⟨x1, rfl, w1⟩ := of_int _ h1
  obtain ⟨x2, rfl, w2⟩ := of_int _ h2
  obtain ⟨x3, rfl, w3⟩ := of_int _ h3
  obtain ⟨x4, rfl, w4⟩ := of_int _ h4
  obtain ⟨x5, rfl, w5⟩ := of_int _ h5
  exact ⟨⟨x0, x1, x2, x3, x4, x5⟩, rfl, w0, w1, w2, w3, w4, w5⟩
def TAccount.shF : Fs := .cons (.int .i64) <| .cons (.slice (.strct TSub.shF)) <| .cons (.slice (.strct TEntry.shF)) <|  .nil
def TAccount.wf (x : TAccount) : Prop := fits x.Credit ∧ (x.Subs.length ≤ maxLen ∧ ∀ z, z ∈ x.Subs → z.wf) ∧ (x.Entries.length ≤ maxLen ∧ ∀ z, z ∈ x.Entries → z.wf)
theorem TAccount.of (as : List AV) (h : (Sh.strct TAccount.shF).V as) : ∃ x : TAccount, as = x.cells ∧ x.wf := by
  obtain ⟨_, _, rfl, h0, _, _, rfl, h1, _, _, rfl, h2, rfl⟩ := h
  obtain ⟨x0, rfl, w0⟩ := of_int _ h0
  obtain ⟨x1, rfl, w1⟩ := (of_slice (.strct TSub.shF) TSub.of) _ h1
  obtain ⟨x2, rfl, w2⟩ := (of_slice (.strct TEntry.shF) TEntry.of) _ h2
  exact ⟨⟨x0, x1, x2⟩, rfl, w0, w1, w2⟩
def TPayment.shF : Fs := .cons (.int .i64) <| .cons (.int .i64) <| .cons (.int .i64) <| .cons (.int .i64) <| .cons (.int .i64) <|  .nil
def TPayment.wf (x : TPayment) : Prop := fits x.Warrant ∧ fits x.Payee ∧ fits x.Amount ∧ fits x.Due ∧ fits x.Sub
theorem TPayment.of (as : List AV) (h : (Sh.strct TPayment.shF).V as) : ∃ x : TPayment, as = x.cells ∧ x.wf := by
  obtain ⟨_, _, rfl, h0, _, _, rfl, h1, _, _, rfl, h2, _, _, rfl, h3, _, _, rfl, h4, rfl⟩ := h
  obtain ⟨x0, rfl, w0⟩ := of_int _ h0
  obtain ⟨x1, rfl, w1⟩ := of_int _ h1
  obtain ⟨x2, rfl, w2⟩ := of_int _ h2
  obtain ⟨x3, rfl, w3⟩ := of_int _ h3
  obtain ⟨x4, rfl, w4⟩ := of_int _ h4
  exact ⟨⟨x0, x1, x2, x3, x4⟩, rfl, w0, w1, w2, w3, w4⟩
def TBatch.shF : Fs := .cons (.int .i64) <| .cons (.int .i64) <| .cons (.slice (.strct TPayment.shF)) <|  .nil
def TBatch.wf (x : TBatch) : Prop := fits x.Number ∧ fits x.Day ∧ (x.Payments.length ≤ maxLen ∧ ∀ z, z ∈ x.Payments → z.wf)
theorem TBatch.of (as : List AV) (h : (Sh.strct TBatch.shF).V as) : ∃ x : TBatch, as = x.cells ∧ x.wf := by
  obtain ⟨_, _, rfl, h0, _, _, rfl, h1, _, _, rfl, h2, rfl⟩ := h
  obtain ⟨x0, rfl, w0⟩ := of_int _ h0
  obtain ⟨x1, rfl, w1⟩ := of_int _ h1
  obtain ⟨x2, rfl, w2⟩ := (of_slice (.strct TPayment.shF) TPayment.of) _ h2
  exact ⟨⟨x0, x1, x2⟩, rfl, w0, w1, w2⟩
def TQueue.shF : Fs := .cons (.slice (.strct TPayment.shF)) <| .cons (.slice (.int .i64)) <| .cons (.slice (.strct TBatch.shF)) <|  .nil
def TQueue.wf (x : TQueue) : Prop := (x.Waiting.length ≤ maxLen ∧ ∀ z, z ∈ x.Waiting → z.wf) ∧ (x.Known.length ≤ maxLen ∧ ∀ z, z ∈ x.Known → fits z) ∧ (x.Batches.length ≤ maxLen ∧ ∀ z, z ∈ x.Batches → z.wf)
theorem TQueue.of (as : List AV) (h : (Sh.strct TQueue.shF).V as) : ∃ x : TQueue, as = x.cells ∧ x.wf := by
  obtain ⟨_, _, rfl, h0, _, _, rfl, h1, _, _, rfl, h2, rfl⟩ := h
  obtain ⟨x0, rfl, w0⟩ := (of_slice (.strct TPayment.shF) TPayment.of) _ h0
  obtain ⟨x1, rfl, w1⟩ := (of_slice (.int .i64) of_int) _ h1
  obtain ⟨x2, rfl, w2⟩ := (of_slice (.strct TBatch.shF) TBatch.of) _ h2
  exact ⟨⟨x0, x1, x2⟩, rfl, w0, w1, w2⟩
def TItem.shF : Fs := .cons (.strct TPayment.shF) <| .cons (.int .i64) <| .cons (.int .i64) <|  .nil
def TItem.wf (x : TItem) : Prop := x.Payment.wf ∧ fits x.State ∧ fits x.Attempts
theorem TItem.of (as : List AV) (h : (Sh.strct TItem.shF).V as) : ∃ x : TItem, as = x.cells ∧ x.wf := by
  obtain ⟨_, _, rfl, h0, _, _, rfl, h1, _, _, rfl, h2, rfl⟩ := h
  obtain ⟨x0, rfl, w0⟩ := TPayment.of _ h0
  obtain ⟨x1, rfl, w1⟩ := of_int _ h1
  obtain ⟨x2, rfl, w2⟩ := of_int _ h2
  exact ⟨⟨x0, x1, x2⟩, rfl, w0, w1, w2⟩
def TDesk.shF : Fs := .cons (.strct TAccount.shF) <| .cons (.strct TQueue.shF) <| .cons (.slice (.strct TItem.shF)) <|  .nil
def TDesk.wf (x : TDesk) : Prop := x.Account.wf ∧ x.Queue.wf ∧ (x.Items.length ≤ maxLen ∧ ∀ z, z ∈ x.Items → z.wf)
theorem TDesk.of (as : List AV) (h : (Sh.strct TDesk.shF).V as) : ∃ x : TDesk, as = x.cells ∧ x.wf := by
  obtain ⟨_, _, rfl, h0, _, _, rfl, h1, _, _, rfl, h2, rfl⟩ := h
  obtain ⟨x0, rfl, w0⟩ := TAccount.of _ h0
  obtain ⟨x1, rfl, w1⟩ := TQueue.of _ h1
  obtain ⟨x2, rfl, w2⟩ := (of_slice (.strct TItem.shF) TItem.of) _ h2
  exact ⟨⟨x0, x1, x2⟩, rfl, w0, w1, w2⟩
def TClaim.shF : Fs := .cons (.int .i64) <| .cons (.int .i64) <| .cons (.int .i64) <| .cons (.int .i64) <| .cons (.int .i64) <| .cons (.str) <|  .nil
def TClaim.wf (x : TClaim) : Prop := fits x.ID ∧ fits x.Payer ∧ fits x.Amount ∧ fits x.Open ∧ fits x.Day ∧ x.Code.size ≤ maxLen
theorem TClaim.of (as : List AV) (h : (Sh.strct TClaim.shF).V as) : ∃ x : TClaim, as = x.cells ∧ x.wf := by
  obtain ⟨_, _, rfl, h0, _, _, rfl, h1, _, _, rfl, h2, _, _, rfl, h3, _, _, rfl, h4, _, _, rfl, h5, rfl⟩ := h
  obtain ⟨x0, rfl, w0⟩ := of_int _ h0
  obtain ⟨x1, rfl, w1⟩ := of_int _ h1
  obtain ⟨x2, rfl, w2⟩ := of_int _ h2
  obtain ⟨x3, rfl, w3⟩ := of_int _ h3
  obtain ⟨x4, rfl, w4⟩ := of_int _ h4
  obtain ⟨x5, rfl, w5⟩ := of_str _ h5
  exact ⟨⟨x0, x1, x2, x3, x4, x5⟩, rfl, w0, w1, w2, w3, w4, w5⟩
def TIncome.shF : Fs := .cons (.int .i64) <| .cons (.int .i64) <| .cons (.int .i64) <| .cons (.int .i64) <| .cons (.int .i64) <|  .nil
def TIncome.wf (x : TIncome) : Prop := fits x.Number ∧ fits x.Day ∧ fits x.Payer ∧ fits x.Amount ∧ fits x.Claim
theorem TIncome.of (as : List AV) (h : (Sh.strct TIncome.shF).V as) : ∃ x : TIncome, as = x.cells ∧ x.wf := by
  obtain ⟨_, _, rfl, h0, _, _, rfl, h1, _, _, rfl, h2, _, _, rfl, h3, _, _, rfl, h4, rfl⟩ := h
  obtain ⟨x0, rfl, w0⟩ := of_int _ h0
  obtain ⟨x1, rfl, w1⟩ := of_int _ h1
  obtain ⟨x2, rfl, w2⟩ := of_int _ h2
  obtain ⟨x3, rfl, w3⟩ := of_int _ h3
  obtain ⟨x4, rfl, w4⟩ := of_int _ h4
  exact ⟨⟨x0, x1, x2, x3, x4⟩, rfl, w0, w1, w2, w3, w4⟩
def TMatch.shF : Fs := .cons (.int .i64) <| .cons (.int .i64) <| .cons (.int .i64) <|  .nil
def TMatch.wf (x : TMatch) : Prop := fits x.Income ∧ fits x.Claim ∧ fits x.Amount
theorem TMatch.of (as : List AV) (h : (Sh.strct TMatch.shF).V as) : ∃ x : TMatch, as = x.cells ∧ x.wf := by
  obtain ⟨_, _, rfl, h0, _, _, rfl, h1, _, _, rfl, h2, rfl⟩ := h
  obtain ⟨x0, rfl, w0⟩ := of_int _ h0
  obtain ⟨x1, rfl, w1⟩ := of_int _ h1
  obtain ⟨x2, rfl, w2⟩ := of_int _ h2
  exact ⟨⟨x0, x1, x2⟩, rfl, w0, w1, w2⟩
def TCash.shF : Fs := .cons (.slice (.strct TClaim.shF)) <| .cons (.slice (.strct TIncome.shF)) <| .cons (.slice (.strct TMatch.shF)) <| .cons (.slice (.int .i64)) <|  .nil
def TCash.wf (x : TCash) : Prop := (x.Claims.length ≤ maxLen ∧ ∀ z, z ∈ x.Claims → z.wf) ∧ (x.Incomes.length ≤ maxLen ∧ ∀ z, z ∈ x.Incomes → z.wf) ∧ (x.Matches.length ≤ maxLen ∧ ∀ z, z ∈ x.Matches → z.wf) ∧ (x.Loose.length ≤ maxLen ∧ ∀ z, z ∈ x.Loose → fits z)
theorem TCash.of (as : List AV) (h : (Sh.strct TCash.shF).V as) : ∃ x : TCash, as = x.cells ∧ x.wf := by
  obtain ⟨_, _, rfl, h0, _, _, rfl, h1, _, _, rfl, h2, _, _, rfl, h3, rfl⟩ := h
  obtain ⟨x0, rfl, w0⟩ := (of_slice (.strct TClaim.shF) TClaim.of) _ h0
  obtain ⟨x1, rfl, w1⟩ := (of_slice (.strct TIncome.shF) TIncome.of) _ h1
  obtain ⟨x2, rfl, w2⟩ := (of_slice (.strct TMatch.shF) TMatch.of) _ h2
  obtain ⟨x3, rfl, w3⟩ := (of_slice (.int .i64) of_int) _ h3
  exact ⟨⟨x0, x1, x2, x3⟩, rfl, w0, w1, w2, w3⟩
def TPosting.shF : Fs := .cons (.int .i64) <| .cons (.int .i64) <| .cons (.int .i64) <| .cons (.int .i64) <| .cons (.int .i64) <| .cons (.int .i64) <| .cons (.int .i64) <| .cons (.int .i64) <|  .nil
def TPosting.wf (x : TPosting) : Prop := fits x.Number ∧ fits x.Day ∧ fits x.Entity ∧ fits x.Debit ∧ fits x.Credit ∧ fits x.Amount ∧ fits x.Partner ∧ fits x.Ref
theorem TPosting.of (as : List AV) (h : (Sh.strct TPosting.shF).V as) : ∃ x : TPosting, as = x.cells ∧ x.wf := by
  obtain ⟨_, _, rfl, h0, _, _, rfl, h1, _, _, rfl, h2, _, _, rfl, h3, _, _, rfl, h4, _, _, rfl, h5, _, _, rfl, h6, _, _, rfl, h7, rfl⟩ := h
  obtain ⟨x0, rfl, w0⟩ := of_int _ h0
  obtain ⟨x1, rfl, w1⟩ := of_int _ h1
  obtain ⟨x2, rfl, w2⟩ := of_int _ h2
  obtain ⟨x3, rfl, w3⟩ := of_int _ h3
  obtain ⟨x4, rfl, w4⟩ := of_int _ h4
  obtain ⟨x5, rfl, w5⟩ := of_int _ h5
  obtain ⟨x6, rfl, w6⟩ := of_int _ h6
  obtain ⟨x7, rfl, w7⟩ := of_int _ h7
  exact ⟨⟨x0, x1, x2, x3, x4, x5, x6, x7⟩, rfl, w0, w1, w2, w3, w4, w5, w6, w7⟩
def TLedger.shF : Fs := .cons (.slice (.strct TPosting.shF)) <|  .nil
def TLedger.wf (x : TLedger) : Prop := (x.Postings.length ≤ maxLen ∧ ∀ z, z ∈ x.Postings → z.wf)
theorem TLedger.of (as : List AV) (h : (Sh.strct TLedger.shF).V as) : ∃ x : TLedger, as = x.cells ∧ x.wf := by
  obtain ⟨_, _, rfl, h0, rfl⟩ := h
  obtain ⟨x0, rfl, w0⟩ := (of_slice (.strct TPosting.shF) TPosting.of) _ h0
  exact ⟨⟨x0⟩, rfl, w0⟩
def TState.shF : Fs := .cons (.strct TDesk.shF) <| .cons (.strct TCash.shF) <| .cons (.strct TRegister.shF) <| .cons (.strct TLedger.shF) <|  .nil
def TState.wf (x : TState) : Prop := x.Desk.wf ∧ x.Cash.wf ∧ x.Register.wf ∧ x.Ledger.wf
theorem TState.of (as : List AV) (h : (Sh.strct TState.shF).V as) : ∃ x : TState, as = x.cells ∧ x.wf := by
  obtain ⟨_, _, rfl, h0, _, _, rfl, h1, _, _, rfl, h2, _, _, rfl, h3, rfl⟩ := h
  obtain ⟨x0, rfl, w0⟩ := TDesk.of _ h0
  obtain ⟨x1, rfl, w1⟩ := TCash.of _ h1
  obtain ⟨x2, rfl, w2⟩ := TRegister.of _ h2
  obtain ⟨x3, rfl, w3⟩ := TLedger.of _ h3
  exact ⟨⟨x0, x1, x2, x3⟩, rfl, w0, w1, w2, w3⟩
def TDeed.shF : Fs := .cons (.int .i64) <| .cons (.int .i64) <| .cons (.int .i64) <| .cons (.int .i64) <| .cons (.int .i64) <| .cons (.int .i64) <| .cons (.int .i64) <|  .nil
def TDeed.wf (x : TDeed) : Prop := fits x.Kind ∧ fits x.Day ∧ fits x.Sub ∧ fits x.Who ∧ fits x.Ref ∧ fits x.Amount ∧ fits x.Due
theorem TDeed.of (as : List AV) (h : (Sh.strct TDeed.shF).V as) : ∃ x : TDeed, as = x.cells ∧ x.wf := by
  obtain ⟨_, _, rfl, h0, _, _, rfl, h1, _, _, rfl, h2, _, _, rfl, h3, _, _, rfl, h4, _, _, rfl, h5, _, _, rfl, h6, rfl⟩ := h
  obtain ⟨x0, rfl, w0⟩ := of_int _ h0
  obtain ⟨x1, rfl, w1⟩ := of_int _ h1
  obtain ⟨x2, rfl, w2⟩ := of_int _ h2
  obtain ⟨x3, rfl, w3⟩ := of_int _ h3
  obtain ⟨x4, rfl, w4⟩ := of_int _ h4
  obtain ⟨x5, rfl, w5⟩ := of_int _ h5
  obtain ⟨x6, rfl, w6⟩ := of_int _ h6
  exact ⟨⟨x0, x1, x2, x3, x4, x5, x6⟩, rfl, w0, w1, w2, w3, w4, w5, w6⟩
def TFinding.shF : Fs := .cons (.int .i64) <| .cons (.int .i64) <|  .nil
def TFinding.wf (x : TFinding) : Prop := fits x.Layer ∧ fits x.Number
theorem TFinding.of (as : List AV) (h : (Sh.strct TFinding.shF).V as) : ∃ x : TFinding, as = x.cells ∧ x.wf := by
  obtain ⟨_, _, rfl, h0, _, _, rfl, h1, rfl⟩ := h
  obtain ⟨x0, rfl, w0⟩ := of_int _ h0
  obtain ⟨x1, rfl, w1⟩ := of_int _ h1
  exact ⟨⟨x0, x1⟩, rfl, w0, w1⟩

end Go.Proofs.YtkcfmmpcpdlfeaaGreatDoor
