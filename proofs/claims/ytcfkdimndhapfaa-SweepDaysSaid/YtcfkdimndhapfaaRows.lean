/-
  No cell of these rows narrows 'for every input' (looked for: loops, veiled, ifaces, maps, wideKeys, modest, calm, conditions, laid).
  DERIVED. THE GIVEN ROWS OF THIS SEAT. 10 by the template 'for every input the law returns true; each argument reads behind the call as it read before'; 0 by the template 'total and deterministic' (their statements: YtcfkdimndhapfaaTotals.lean).
  GIVEN WITH THE SEED: the statements are not yours to turn. If you find one false, say at which input.
  Laid BY PROGRAM, IN A SANDBOX (cutbox-rows.mjs): the forced cells as the released guide's own fill.sh prints them over the translation e93d277c575bc69b… (all of the seat's roots in one cut). By AI agents, Wed Nov 11 2026. No macro, syntax, notation, axiom, sorry.
-/
import Derived.Test.YtcfkdimndhapfaaChecked
import GoSem.Claim
import GoSem.ClaimJoined
import GoSem.ClaimMapViews
import Derived.JoinedTies
import Derived.KernelRfl
namespace Go.Proofs.Ytcfkdimndhapfaa
/- THE CELL 'sum', in the pinned program and in every row, IS THE sha256 OF THE DUMP (.gsa) THAT YtcfkdimndhapfaaProg.lean LOADS. Nothing in Lean hashes anything: it is a label: what it is worth is what the hold of that sum in a sandbox is worth. -/
noncomputable def Try.pinned : Pinned := { name := "ytcfkdimndhapfaa", sum := "e93d277c575bc69b7d80ec7f07e1dd9a6b10148e73b4fe6311724045d9dae2ab", checked := Try.checked }
namespace Rows
def none {H : Type} : Left H := { results := [], args := [] }

/-- 'treasurylaw23.AccountBent': WHATEVER THE INPUT: true; the input reads as it did. -/
def accountBentSpec : ChangeSpec := { name := "accountBent", fn := fun _ => fun
  | [d] => { results := [.lit (.bool true)], args := [d] }
  | _ => none }
def accountBentRow : OpenClaim := { program := "ytcfkdimndhapfaa", sum := "e93d277c575bc69b7d80ec7f07e1dd9a6b10148e73b4fe6311724045d9dae2ab", func := "treasury/treasurylaw23.AccountBent", spec := "accountBent", unfollowed := true, recurses := true, apart := false }
def AccountBentSaid : Prop := accountBentRow.holds Try.pinned (OpenSpec.ofChange accountBentSpec)

/-- ITS FALSE NEIGHBOUR: 'it returns false'. Refute it at one input. -/
def accountBentWrong : ChangeSpec := { name := "accountBent", fn := fun _ => fun
  | [d] => { results := [.lit (.bool false)], args := [d] }
  | _ => none }
def AccountBentWrongFalsely : Prop := accountBentRow.holds Try.pinned (OpenSpec.ofChange accountBentWrong)

/-- 'treasurylaw23.AccountNumbers': WHATEVER THE INPUT: true; the input reads as it did. -/
def accountNumbersSpec : ChangeSpec := { name := "accountNumbers", fn := fun _ => fun
  | [d] => { results := [.lit (.bool true)], args := [d] }
  | _ => none }
def accountNumbersRow : OpenClaim := { program := "ytcfkdimndhapfaa", sum := "e93d277c575bc69b7d80ec7f07e1dd9a6b10148e73b4fe6311724045d9dae2ab", func := "treasury/treasurylaw23.AccountNumbers", spec := "accountNumbers", unfollowed := true, recurses := true, apart := false }
def AccountNumbersSaid : Prop := accountNumbersRow.holds Try.pinned (OpenSpec.ofChange accountNumbersSpec)

/-- ITS FALSE NEIGHBOUR: 'it returns false'. Refute it at one input. -/
def accountNumbersWrong : ChangeSpec := { name := "accountNumbers", fn := fun _ => fun
  | [d] => { results := [.lit (.bool false)], args := [d] }
  | _ => none }
def AccountNumbersWrongFalsely : Prop := accountNumbersRow.holds Try.pinned (OpenSpec.ofChange accountNumbersWrong)

/-- 'treasurylaw23.AccountSums': WHATEVER THE INPUT: true; the input reads as it did. -/
def accountSumsSpec : ChangeSpec := { name := "accountSums", fn := fun _ => fun
  | [d] => { results := [.lit (.bool true)], args := [d] }
  | _ => none }
def accountSumsRow : OpenClaim := { program := "ytcfkdimndhapfaa", sum := "e93d277c575bc69b7d80ec7f07e1dd9a6b10148e73b4fe6311724045d9dae2ab", func := "treasury/treasurylaw23.AccountSums", spec := "accountSums", unfollowed := true, recurses := true, apart := false }
def AccountSumsSaid : Prop := accountSumsRow.holds Try.pinned (OpenSpec.ofChange accountSumsSpec)

/-- ITS FALSE NEIGHBOUR: 'it returns false'. Refute it at one input. -/
def accountSumsWrong : ChangeSpec := { name := "accountSums", fn := fun _ => fun
  | [d] => { results := [.lit (.bool false)], args := [d] }
  | _ => none }
def AccountSumsWrongFalsely : Prop := accountSumsRow.holds Try.pinned (OpenSpec.ofChange accountSumsWrong)

/-- 'treasurylaw23.AccountExact': WHATEVER THE INPUT: true; the input reads as it did. -/
def accountExactSpec : ChangeSpec := { name := "accountExact", fn := fun _ => fun
  | [d1, d2, d3, d4, d5, d6] => { results := [.lit (.bool true)], args := [d1, d2, d3, d4, d5, d6] }
  | _ => none }
def accountExactRow : OpenClaim := { program := "ytcfkdimndhapfaa", sum := "e93d277c575bc69b7d80ec7f07e1dd9a6b10148e73b4fe6311724045d9dae2ab", func := "treasury/treasurylaw23.AccountExact", spec := "accountExact", unfollowed := true, recurses := true, apart := false }
def AccountExactSaid : Prop := accountExactRow.holds Try.pinned (OpenSpec.ofChange accountExactSpec)

/-- ITS FALSE NEIGHBOUR: 'it returns false'. Refute it at one input. -/
def accountExactWrong : ChangeSpec := { name := "accountExact", fn := fun _ => fun
  | [d1, d2, d3, d4, d5, d6] => { results := [.lit (.bool false)], args := [d1, d2, d3, d4, d5, d6] }
  | _ => none }
def AccountExactWrongFalsely : Prop := accountExactRow.holds Try.pinned (OpenSpec.ofChange accountExactWrong)

/-- 'treasurylaw23.AccountDays': WHATEVER THE INPUT: true; the input reads as it did. -/
def accountDaysSpec : ChangeSpec := { name := "accountDays", fn := fun _ => fun
  | [d1, d2] => { results := [.lit (.bool true)], args := [d1, d2] }
  | _ => none }
def accountDaysRow : OpenClaim := { program := "ytcfkdimndhapfaa", sum := "e93d277c575bc69b7d80ec7f07e1dd9a6b10148e73b4fe6311724045d9dae2ab", func := "treasury/treasurylaw23.AccountDays", spec := "accountDays", unfollowed := true, recurses := true, apart := false }
def AccountDaysSaid : Prop := accountDaysRow.holds Try.pinned (OpenSpec.ofChange accountDaysSpec)

/-- ITS FALSE NEIGHBOUR: 'it returns false'. Refute it at one input. -/
def accountDaysWrong : ChangeSpec := { name := "accountDays", fn := fun _ => fun
  | [d1, d2] => { results := [.lit (.bool false)], args := [d1, d2] }
  | _ => none }
def AccountDaysWrongFalsely : Prop := accountDaysRow.holds Try.pinned (OpenSpec.ofChange accountDaysWrong)

/-- 'treasurylaw24.SweepLeast': WHATEVER THE INPUT: true; the input reads as it did. -/
def sweepLeastSpec : ChangeSpec := { name := "sweepLeast", fn := fun _ => fun
  | [d] => { results := [.lit (.bool true)], args := [d] }
  | _ => none }
def sweepLeastRow : OpenClaim := { program := "ytcfkdimndhapfaa", sum := "e93d277c575bc69b7d80ec7f07e1dd9a6b10148e73b4fe6311724045d9dae2ab", func := "treasury/treasurylaw24.SweepLeast", spec := "sweepLeast", unfollowed := true, recurses := true, apart := false }
def SweepLeastSaid : Prop := sweepLeastRow.holds Try.pinned (OpenSpec.ofChange sweepLeastSpec)

/-- ITS FALSE NEIGHBOUR: 'it returns false'. Refute it at one input. -/
def sweepLeastWrong : ChangeSpec := { name := "sweepLeast", fn := fun _ => fun
  | [d] => { results := [.lit (.bool false)], args := [d] }
  | _ => none }
def SweepLeastWrongFalsely : Prop := sweepLeastRow.holds Try.pinned (OpenSpec.ofChange sweepLeastWrong)

/-- 'treasurylaw24.SweepDays': WHATEVER THE INPUT: true; the input reads as it did. -/
def sweepDaysSpec : ChangeSpec := { name := "sweepDays", fn := fun _ => fun
  | [d] => { results := [.lit (.bool true)], args := [d] }
  | _ => none }
def sweepDaysRow : OpenClaim := { program := "ytcfkdimndhapfaa", sum := "e93d277c575bc69b7d80ec7f07e1dd9a6b10148e73b4fe6311724045d9dae2ab", func := "treasury/treasurylaw24.SweepDays", spec := "sweepDays", unfollowed := true, recurses := true, apart := false }
def SweepDaysSaid : Prop := sweepDaysRow.holds Try.pinned (OpenSpec.ofChange sweepDaysSpec)

/-- ITS FALSE NEIGHBOUR: 'it returns false'. Refute it at one input. -/
def sweepDaysWrong : ChangeSpec := { name := "sweepDays", fn := fun _ => fun
  | [d] => { results := [.lit (.bool false)], args := [d] }
  | _ => none }
def SweepDaysWrongFalsely : Prop := sweepDaysRow.holds Try.pinned (OpenSpec.ofChange sweepDaysWrong)

/-- 'treasurylaw24.SweepShort': WHATEVER THE INPUT: true; the input reads as it did. -/
def sweepShortSpec : ChangeSpec := { name := "sweepShort", fn := fun _ => fun
  | [d] => { results := [.lit (.bool true)], args := [d] }
  | _ => none }
def sweepShortRow : OpenClaim := { program := "ytcfkdimndhapfaa", sum := "e93d277c575bc69b7d80ec7f07e1dd9a6b10148e73b4fe6311724045d9dae2ab", func := "treasury/treasurylaw24.SweepShort", spec := "sweepShort", unfollowed := true, recurses := true, apart := false }
def SweepShortSaid : Prop := sweepShortRow.holds Try.pinned (OpenSpec.ofChange sweepShortSpec)

/-- ITS FALSE NEIGHBOUR: 'it returns false'. Refute it at one input. -/
def sweepShortWrong : ChangeSpec := { name := "sweepShort", fn := fun _ => fun
  | [d] => { results := [.lit (.bool false)], args := [d] }
  | _ => none }
def SweepShortWrongFalsely : Prop := sweepShortRow.holds Try.pinned (OpenSpec.ofChange sweepShortWrong)

/-- 'treasurylaw24.SweepExact': WHATEVER THE INPUT: true; the input reads as it did. -/
def sweepExactSpec : ChangeSpec := { name := "sweepExact", fn := fun _ => fun
  | [d1, d2, d3, d4] => { results := [.lit (.bool true)], args := [d1, d2, d3, d4] }
  | _ => none }
def sweepExactRow : OpenClaim := { program := "ytcfkdimndhapfaa", sum := "e93d277c575bc69b7d80ec7f07e1dd9a6b10148e73b4fe6311724045d9dae2ab", func := "treasury/treasurylaw24.SweepExact", spec := "sweepExact", unfollowed := true, recurses := true, apart := false }
def SweepExactSaid : Prop := sweepExactRow.holds Try.pinned (OpenSpec.ofChange sweepExactSpec)

/-- ITS FALSE NEIGHBOUR: 'it returns false'. Refute it at one input. -/
def sweepExactWrong : ChangeSpec := { name := "sweepExact", fn := fun _ => fun
  | [d1, d2, d3, d4] => { results := [.lit (.bool false)], args := [d1, d2, d3, d4] }
  | _ => none }
def SweepExactWrongFalsely : Prop := sweepExactRow.holds Try.pinned (OpenSpec.ofChange sweepExactWrong)

/-- 'treasurylaw24.SweepKeeps': WHATEVER THE INPUT: true; the input reads as it did. -/
def sweepKeepsSpec : ChangeSpec := { name := "sweepKeeps", fn := fun _ => fun
  | [d] => { results := [.lit (.bool true)], args := [d] }
  | _ => none }
def sweepKeepsRow : OpenClaim := { program := "ytcfkdimndhapfaa", sum := "e93d277c575bc69b7d80ec7f07e1dd9a6b10148e73b4fe6311724045d9dae2ab", func := "treasury/treasurylaw24.SweepKeeps", spec := "sweepKeeps", unfollowed := true, recurses := true, apart := false }
def SweepKeepsSaid : Prop := sweepKeepsRow.holds Try.pinned (OpenSpec.ofChange sweepKeepsSpec)

/-- ITS FALSE NEIGHBOUR: 'it returns false'. Refute it at one input. -/
def sweepKeepsWrong : ChangeSpec := { name := "sweepKeeps", fn := fun _ => fun
  | [d] => { results := [.lit (.bool false)], args := [d] }
  | _ => none }
def SweepKeepsWrongFalsely : Prop := sweepKeepsRow.holds Try.pinned (OpenSpec.ofChange sweepKeepsWrong)

/- THE SECOND FORM. 'bulk': how many values and letters a reading holds, each counted each time it is reached (what is shared counts as often as it is met; a slice's spare places count too). A statement '..UptoSaid' is the law's where the arguments, and the package variables that the reading takes, are together of bulk at most 1048576: NARROWER than '..Said'. Prove '..Said' where nothing that the law and all that it calls make is longer than what came in: it says more and counts as full. Else prove '..UptoSaid'. A law counts once. -/
mutual
def uptoBulk {H : Type} : DataW H → Nat
  | .lit (.string bytes) => bytes.length + 1
  | .lit _ => 1
  | .nil => 1
  | .ptr d => uptoBulk d + 1
  | .slice elems spare => uptoBulkAll elems + uptoBulkAll spare + 1
  | .agg parts => uptoBulkAll parts + 1
  | .iface _ d => uptoBulk d + 1
  | .map entries => uptoBulkEntries entries + 1
  | .held _ => 1
def uptoBulkAll {H : Type} : List (DataW H) → Nat
  | [] => 0
  | d :: r => uptoBulk d + uptoBulkAll r
def uptoBulkEntries {H : Type} : List (Lit × DataW H) → Nat
  | [] => 0
  | x :: r => uptoBulkEntry x + uptoBulkEntries r
def uptoBulkEntry {H : Type} : Lit × DataW H → Nat
  | (.string bytes, d) => bytes.length + uptoBulk d + 1
  | (_, d) => uptoBulk d + 1
 end
def uptoSmall : (H : Type) → List (DataW H) → Bool := fun _ ds => decide (uptoBulkAll ds ≤ 1048576)
def OpenSpec.upto (s : _root_.Go.ChangeSpec) : _root_.Go.OpenSpec := { _root_.Go.OpenSpec.ofChange s with cond := some uptoSmall }

/-- 'treasurylaw23.AccountBent', WHERE WHAT IT READS IS OF BULK AT MOST 1048576: true; the input reads as it did. -/
def accountBentUptoRow : OpenClaim := { program := "ytcfkdimndhapfaa", sum := "e93d277c575bc69b7d80ec7f07e1dd9a6b10148e73b4fe6311724045d9dae2ab", func := "treasury/treasurylaw23.AccountBent", spec := "accountBent", unfollowed := true, recurses := true, apart := false, narrowed := true }
def AccountBentUptoSaid : Prop := accountBentUptoRow.holds Try.pinned (OpenSpec.upto accountBentSpec)

/-- 'treasurylaw23.AccountNumbers', WHERE WHAT IT READS IS OF BULK AT MOST 1048576: true; the input reads as it did. -/
def accountNumbersUptoRow : OpenClaim := { program := "ytcfkdimndhapfaa", sum := "e93d277c575bc69b7d80ec7f07e1dd9a6b10148e73b4fe6311724045d9dae2ab", func := "treasury/treasurylaw23.AccountNumbers", spec := "accountNumbers", unfollowed := true, recurses := true, apart := false, narrowed := true }
def AccountNumbersUptoSaid : Prop := accountNumbersUptoRow.holds Try.pinned (OpenSpec.upto accountNumbersSpec)

/-- 'treasurylaw23.AccountSums', WHERE WHAT IT READS IS OF BULK AT MOST 1048576: true; the input reads as it did. -/
def accountSumsUptoRow : OpenClaim := { program := "ytcfkdimndhapfaa", sum := "e93d277c575bc69b7d80ec7f07e1dd9a6b10148e73b4fe6311724045d9dae2ab", func := "treasury/treasurylaw23.AccountSums", spec := "accountSums", unfollowed := true, recurses := true, apart := false, narrowed := true }
def AccountSumsUptoSaid : Prop := accountSumsUptoRow.holds Try.pinned (OpenSpec.upto accountSumsSpec)

/-- 'treasurylaw23.AccountExact', WHERE WHAT IT READS IS OF BULK AT MOST 1048576: true; the input reads as it did. -/
def accountExactUptoRow : OpenClaim := { program := "ytcfkdimndhapfaa", sum := "e93d277c575bc69b7d80ec7f07e1dd9a6b10148e73b4fe6311724045d9dae2ab", func := "treasury/treasurylaw23.AccountExact", spec := "accountExact", unfollowed := true, recurses := true, apart := false, narrowed := true }
def AccountExactUptoSaid : Prop := accountExactUptoRow.holds Try.pinned (OpenSpec.upto accountExactSpec)

/-- 'treasurylaw23.AccountDays', WHERE WHAT IT READS IS OF BULK AT MOST 1048576: true; the input reads as it did. -/
def accountDaysUptoRow : OpenClaim := { program := "ytcfkdimndhapfaa", sum := "e93d277c575bc69b7d80ec7f07e1dd9a6b10148e73b4fe6311724045d9dae2ab", func := "treasury/treasurylaw23.AccountDays", spec := "accountDays", unfollowed := true, recurses := true, apart := false, narrowed := true }
def AccountDaysUptoSaid : Prop := accountDaysUptoRow.holds Try.pinned (OpenSpec.upto accountDaysSpec)

/-- 'treasurylaw24.SweepLeast', WHERE WHAT IT READS IS OF BULK AT MOST 1048576: true; the input reads as it did. -/
def sweepLeastUptoRow : OpenClaim := { program := "ytcfkdimndhapfaa", sum := "e93d277c575bc69b7d80ec7f07e1dd9a6b10148e73b4fe6311724045d9dae2ab", func := "treasury/treasurylaw24.SweepLeast", spec := "sweepLeast", unfollowed := true, recurses := true, apart := false, narrowed := true }
def SweepLeastUptoSaid : Prop := sweepLeastUptoRow.holds Try.pinned (OpenSpec.upto sweepLeastSpec)

/-- 'treasurylaw24.SweepDays', WHERE WHAT IT READS IS OF BULK AT MOST 1048576: true; the input reads as it did. -/
def sweepDaysUptoRow : OpenClaim := { program := "ytcfkdimndhapfaa", sum := "e93d277c575bc69b7d80ec7f07e1dd9a6b10148e73b4fe6311724045d9dae2ab", func := "treasury/treasurylaw24.SweepDays", spec := "sweepDays", unfollowed := true, recurses := true, apart := false, narrowed := true }
def SweepDaysUptoSaid : Prop := sweepDaysUptoRow.holds Try.pinned (OpenSpec.upto sweepDaysSpec)

/-- 'treasurylaw24.SweepShort', WHERE WHAT IT READS IS OF BULK AT MOST 1048576: true; the input reads as it did. -/
def sweepShortUptoRow : OpenClaim := { program := "ytcfkdimndhapfaa", sum := "e93d277c575bc69b7d80ec7f07e1dd9a6b10148e73b4fe6311724045d9dae2ab", func := "treasury/treasurylaw24.SweepShort", spec := "sweepShort", unfollowed := true, recurses := true, apart := false, narrowed := true }
def SweepShortUptoSaid : Prop := sweepShortUptoRow.holds Try.pinned (OpenSpec.upto sweepShortSpec)

/-- 'treasurylaw24.SweepExact', WHERE WHAT IT READS IS OF BULK AT MOST 1048576: true; the input reads as it did. -/
def sweepExactUptoRow : OpenClaim := { program := "ytcfkdimndhapfaa", sum := "e93d277c575bc69b7d80ec7f07e1dd9a6b10148e73b4fe6311724045d9dae2ab", func := "treasury/treasurylaw24.SweepExact", spec := "sweepExact", unfollowed := true, recurses := true, apart := false, narrowed := true }
def SweepExactUptoSaid : Prop := sweepExactUptoRow.holds Try.pinned (OpenSpec.upto sweepExactSpec)

/-- 'treasurylaw24.SweepKeeps', WHERE WHAT IT READS IS OF BULK AT MOST 1048576: true; the input reads as it did. -/
def sweepKeepsUptoRow : OpenClaim := { program := "ytcfkdimndhapfaa", sum := "e93d277c575bc69b7d80ec7f07e1dd9a6b10148e73b4fe6311724045d9dae2ab", func := "treasury/treasurylaw24.SweepKeeps", spec := "sweepKeeps", unfollowed := true, recurses := true, apart := false, narrowed := true }
def SweepKeepsUptoSaid : Prop := sweepKeepsUptoRow.holds Try.pinned (OpenSpec.upto sweepKeepsSpec)

end Rows
end Go.Proofs.Ytcfkdimndhapfaa
