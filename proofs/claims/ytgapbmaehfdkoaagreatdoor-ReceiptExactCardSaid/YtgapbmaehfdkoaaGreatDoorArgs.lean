/- Arguments of this seat's types. Printed by wip/types.py. -/
import Derived.Test.YtgapbmaehfdkoaaGreatDoorTypes
import Derived.Test.YtgapbmaehfdkoaaGreatDoorPaArg
set_option linter.unusedSimpArgs false
set_option linter.unusedVariables false
namespace Go.Proofs.YtgapbmaehfdkoaaGreatDoor
open Go.PA
open Go.RowKit

def fits (n : Int) : Prop := -9223372036854775808 ≤ n ∧ n ≤ 9223372036854775807
theorem fits_wf {n : Int} (h : (Lit.int .i64 n).wf = true) : fits n := by
  simp only [Lit.wf, Bool.and_eq_true, decide_eq_true_eq] at h
  exact h
theorem of_int (as : List AV) (h : (Sh.int .i64).V as) : ∃ x : Int, as = encI x ∧ fits x := by
  obtain ⟨n, rfl, h⟩ := h
  exact ⟨n, rfl, fits_wf h⟩
theorem of_bool (as : List AV) (h : Sh.bool.V as) : ∃ x : Bool, as = [bv x] ∧ True := by
  obtain ⟨n, rfl⟩ := h
  exact ⟨n, rfl, trivial⟩
theorem of_str (as : List AV) (h : Sh.str.V as) : ∃ x : ByteArray, as = encS x ∧ x.size ≤ maxLen := by
  obtain ⟨n, rfl, h⟩ := h
  exact ⟨n, rfl, h⟩
theorem of_list {α : Type} {enc : α → List AV} {wf : α → Prop} {s : Sh} (h : ∀ as, s.V as → ∃ x : α, as = enc x ∧ wf x) : ∀ es : List (List AV), (∀ x, x ∈ es → s.V x) → ∃ l : List α, es = encL enc l ∧ ∀ z, z ∈ l → wf z
  | [], _ => ⟨[], rfl, by simp⟩
  | e :: es, he => by
    obtain ⟨a, rfl, ha⟩ := h e (he e (by simp))
    obtain ⟨l, rfl, hl⟩ := of_list h es fun x hx => he x (List.mem_cons_of_mem _ hx)
    refine ⟨a :: l, rfl, fun z hz => ?_⟩
    rcases List.mem_cons.1 hz with rfl | hz
    · exact ha
    · exact hl z hz
theorem of_slice {α : Type} {enc : α → List AV} {wf : α → Prop} (s : Sh) (h : ∀ as, s.V as → ∃ x : α, as = enc x ∧ wf x) (as : List AV) (hs : (Sh.slice s).V as) : ∃ l : List α, as = [.list s.size (encL enc l)] ∧ (l.length ≤ maxLen ∧ ∀ z, z ∈ l → wf z) := by
  obtain ⟨es, rfl, hl, he⟩ := hs
  obtain ⟨l, rfl, hw⟩ := of_list h es he
  exact ⟨l, rfl, by simpa [encL] using hl, hw⟩

def TClaim.shF : Fs := .cons (.int .i64) <| .cons (.int .i64) <| .cons (.int .i64) <| .cons (.int .i64) <| .cons (.int .i64) <| .cons (.str) <|  .nil
def TClaim.wf (x : TClaim) : Prop := fits x.ID ∧ fits x.Payer ∧ fits x.Amount ∧ fits x.Open ∧ fits x.Day ∧ x.Code.size ≤ maxLen
theorem TClaim.of (as : List AV) (h : (Sh.strct TClaim.shF).V as) : ∃ x : TClaim, as = x.cells ∧ x.wf := by
  obtain ⟨_, _, rfl, h0, _, _, rfl, h1, _, _, rfl, h2, _, _, rfl, h3, _, _, rfl, h4, _, _, rfl, h5, rfl⟩ := h
  obtain ⟨x0, rfl, w0⟩ := of_int _ h0
  obtain ⟨x1, rfl, w1⟩ := of_int _ h1
  obtain ⟨x2, rfl, w2⟩ := of_int _ h2
  obtain ⟨x3, rfl, w3⟩ := of_int _ h3
  obtain ⟨x4, rfl, w4⟩ := of_int _ h4
  obtain ⟨x5, rfl, w5⟩ := of_str _ h5
  exact ⟨⟨x0, x1, x2, x3, x4, x5⟩, rfl, w0, w1, w2, w3, w4, w5⟩
def TIncome.shF : Fs := .cons (.int .i64) <| .cons (.int .i64) <| .cons (.int .i64) <| .cons (.int .i64) <| .cons (.int .i64) <|  .nil
def TIncome.wf (x : TIncome) : Prop := fits x.Number ∧ fits x.Day ∧ fits x.Payer ∧ fits x.Amount ∧ fits x.Claim
theorem TIncome.of (as : List AV) (h : (Sh.strct TIncome.shF).V as) : ∃ x : TIncome, as = x.cells ∧ x.wf := by
  obtain ⟨_, _, rfl, h0, _, _, rfl, h1, _, _, rfl, h2, _, _, rfl, h3, _, _, rfl, h4, rfl⟩ := h
  obtain ⟨x0, rfl, w0⟩ := of_int _ h0
  obtain ⟨x1, rfl, w1⟩ := of_int _ h1
  obtain ⟨x2, rfl, w2⟩ := of_int _ h2
  obtain ⟨x3, rfl, w3⟩ := of_int _ h3
  obtain ⟨x4, rfl, w4⟩ := of_int _ h4
  exact ⟨⟨x0, x1, x2, x3, x4⟩, rfl, w0, w1, w2, w3, w4⟩
def TMatch.shF : Fs := .cons (.int .i64) <| .cons (.int .i64) <| .cons (.int .i64) <|  .nil
def TMatch.wf (x : TMatch) : Prop := fits x.Income ∧ fits x.Claim ∧ fits x.Amount
theorem TMatch.of (as : List AV) (h : (Sh.strct TMatch.shF).V as) : ∃ x : TMatch, as = x.cells ∧ x.wf := by
  obtain ⟨_, _, rfl, h0, _, _, rfl, h1, _, _, rfl, h2, rfl⟩ := h
  obtain ⟨x0, rfl, w0⟩ := of_int _ h0
  obtain ⟨x1, rfl, w1⟩ := of_int _ h1
  obtain ⟨x2, rfl, w2⟩ := of_int _ h2
  exact ⟨⟨x0, x1, x2⟩, rfl, w0, w1, w2⟩
def TCash.shF : Fs := .cons (.slice (.strct TClaim.shF)) <| .cons (.slice (.strct TIncome.shF)) <| .cons (.slice (.strct TMatch.shF)) <| .cons (.slice (.int .i64)) <|  .nil
def TCash.wf (x : TCash) : Prop := (x.Claims.length ≤ maxLen ∧ ∀ z, z ∈ x.Claims → z.wf) ∧ (x.Incomes.length ≤ maxLen ∧ ∀ z, z ∈ x.Incomes → z.wf) ∧ (x.Matches.length ≤ maxLen ∧ ∀ z, z ∈ x.Matches → z.wf) ∧ (x.Loose.length ≤ maxLen ∧ ∀ z, z ∈ x.Loose → fits z)
theorem TCash.of (as : List AV) (h : (Sh.strct TCash.shF).V as) : ∃ x : TCash, as = x.cells ∧ x.wf := by
  obtain ⟨_, _, rfl, h0, _, _, rfl, h1, _, _, rfl, h2, _, _, rfl, h3, rfl⟩ := h
  obtain ⟨x0, rfl, w0⟩ := (of_slice (.strct TClaim.shF) TClaim.of) _ h0
  obtain ⟨x1, rfl, w1⟩ := (of_slice (.strct TIncome.shF) TIncome.of) _ h1
  obtain ⟨x2, rfl, w2⟩ := (of_slice (.strct TMatch.shF) TMatch.of) _ h2
  obtain ⟨x3, rfl, w3⟩ := (of_slice (.int .i64) of_int) _ h3
  exact ⟨⟨x0, x1, x2, x3⟩, rfl, w0, w1, w2, w3⟩

end Go.Proofs.YtgapbmaehfdkoaaGreatDoor
