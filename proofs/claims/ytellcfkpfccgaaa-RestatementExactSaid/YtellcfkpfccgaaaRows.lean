/-
  No cell of these rows narrows 'for every input' (looked for: loops, veiled, ifaces, maps, wideKeys, modest, calm, conditions, laid).
  DERIVED. THE GIVEN ROWS OF THIS SEAT. 12 by the template 'for every input the law returns true; each argument reads behind the call as it read before'; 0 by the template 'total and deterministic' (their statements: YtellcfkpfccgaaaTotals.lean).
  GIVEN WITH THE SEED: the statements are not yours to turn. If you find one false, say at which input.
  Laid BY PROGRAM, IN A SANDBOX (cutbox-rows.mjs): the forced cells as the released guide's own fill.sh prints them over the translation d84f53be01b56498… (all of the seat's roots in one cut). By AI agents, Wed Nov 11 2026. No macro, syntax, notation, axiom, sorry.
-/
import Derived.Test.YtellcfkpfccgaaaChecked
import GoSem.Claim
import GoSem.ClaimJoined
import GoSem.ClaimMapViews
import Derived.JoinedTies
import Derived.KernelRfl
namespace Go.Proofs.Ytellcfkpfccgaaa
/- THE CELL 'sum', in the pinned program and in every row, IS THE sha256 OF THE DUMP (.gsa) THAT YtellcfkpfccgaaaProg.lean LOADS. Nothing in Lean hashes anything: it is a label: what it is worth is what the hold of that sum in a sandbox is worth. -/
noncomputable def Try.pinned : Pinned := { name := "ytellcfkpfccgaaa", sum := "d84f53be01b5649801d6c4a45bd202128ec33d501eba5f072cbb7a4be84d7fe0", checked := Try.checked }
namespace Rows
def none {H : Type} : Left H := { results := [], args := [] }

/-- 'treasurylaw40.LedgerBalances': WHATEVER THE INPUT: true; the input reads as it did. -/
def ledgerBalancesSpec : ChangeSpec := { name := "ledgerBalances", fn := fun _ => fun
  | [d1, d2] => { results := [.lit (.bool true)], args := [d1, d2] }
  | _ => none }
def ledgerBalancesRow : OpenClaim := { program := "ytellcfkpfccgaaa", sum := "d84f53be01b5649801d6c4a45bd202128ec33d501eba5f072cbb7a4be84d7fe0", func := "treasury/treasurylaw40.LedgerBalances", spec := "ledgerBalances", unfollowed := true, recurses := true, apart := false }
def LedgerBalancesSaid : Prop := ledgerBalancesRow.holds Try.pinned (OpenSpec.ofChange ledgerBalancesSpec)

/-- ITS FALSE NEIGHBOUR: 'it returns false'. Refute it at one input. -/
def ledgerBalancesWrong : ChangeSpec := { name := "ledgerBalances", fn := fun _ => fun
  | [d1, d2] => { results := [.lit (.bool false)], args := [d1, d2] }
  | _ => none }
def LedgerBalancesWrongFalsely : Prop := ledgerBalancesRow.holds Try.pinned (OpenSpec.ofChange ledgerBalancesWrong)

/-- 'treasurylaw40.LedgerTurns': WHATEVER THE INPUT: true; the input reads as it did. -/
def ledgerTurnsSpec : ChangeSpec := { name := "ledgerTurns", fn := fun _ => fun
  | [d] => { results := [.lit (.bool true)], args := [d] }
  | _ => none }
def ledgerTurnsRow : OpenClaim := { program := "ytellcfkpfccgaaa", sum := "d84f53be01b5649801d6c4a45bd202128ec33d501eba5f072cbb7a4be84d7fe0", func := "treasury/treasurylaw40.LedgerTurns", spec := "ledgerTurns", unfollowed := true, recurses := true, apart := false }
def LedgerTurnsSaid : Prop := ledgerTurnsRow.holds Try.pinned (OpenSpec.ofChange ledgerTurnsSpec)

/-- ITS FALSE NEIGHBOUR: 'it returns false'. Refute it at one input. -/
def ledgerTurnsWrong : ChangeSpec := { name := "ledgerTurns", fn := fun _ => fun
  | [d] => { results := [.lit (.bool false)], args := [d] }
  | _ => none }
def LedgerTurnsWrongFalsely : Prop := ledgerTurnsRow.holds Try.pinned (OpenSpec.ofChange ledgerTurnsWrong)

/-- 'treasurylaw40.LedgerStatements': WHATEVER THE INPUT: true; the input reads as it did. -/
def ledgerStatementsSpec : ChangeSpec := { name := "ledgerStatements", fn := fun _ => fun
  | [d1, d2, d3] => { results := [.lit (.bool true)], args := [d1, d2, d3] }
  | _ => none }
def ledgerStatementsRow : OpenClaim := { program := "ytellcfkpfccgaaa", sum := "d84f53be01b5649801d6c4a45bd202128ec33d501eba5f072cbb7a4be84d7fe0", func := "treasury/treasurylaw40.LedgerStatements", spec := "ledgerStatements", unfollowed := true, recurses := true, apart := false }
def LedgerStatementsSaid : Prop := ledgerStatementsRow.holds Try.pinned (OpenSpec.ofChange ledgerStatementsSpec)

/-- ITS FALSE NEIGHBOUR: 'it returns false'. Refute it at one input. -/
def ledgerStatementsWrong : ChangeSpec := { name := "ledgerStatements", fn := fun _ => fun
  | [d1, d2, d3] => { results := [.lit (.bool false)], args := [d1, d2, d3] }
  | _ => none }
def LedgerStatementsWrongFalsely : Prop := ledgerStatementsRow.holds Try.pinned (OpenSpec.ofChange ledgerStatementsWrong)

/-- 'treasurylaw40.LedgerSpans': WHATEVER THE INPUT: true; the input reads as it did. -/
def ledgerSpansSpec : ChangeSpec := { name := "ledgerSpans", fn := fun _ => fun
  | [d1, d2, d3] => { results := [.lit (.bool true)], args := [d1, d2, d3] }
  | _ => none }
def ledgerSpansRow : OpenClaim := { program := "ytellcfkpfccgaaa", sum := "d84f53be01b5649801d6c4a45bd202128ec33d501eba5f072cbb7a4be84d7fe0", func := "treasury/treasurylaw40.LedgerSpans", spec := "ledgerSpans", unfollowed := true, recurses := true, apart := false }
def LedgerSpansSaid : Prop := ledgerSpansRow.holds Try.pinned (OpenSpec.ofChange ledgerSpansSpec)

/-- ITS FALSE NEIGHBOUR: 'it returns false'. Refute it at one input. -/
def ledgerSpansWrong : ChangeSpec := { name := "ledgerSpans", fn := fun _ => fun
  | [d1, d2, d3] => { results := [.lit (.bool false)], args := [d1, d2, d3] }
  | _ => none }
def LedgerSpansWrongFalsely : Prop := ledgerSpansRow.holds Try.pinned (OpenSpec.ofChange ledgerSpansWrong)

/-- 'treasurylaw44.RestatementKeeps': WHATEVER THE INPUT: true; the input reads as it did. -/
def restatementKeepsSpec : ChangeSpec := { name := "restatementKeeps", fn := fun _ => fun
  | [d] => { results := [.lit (.bool true)], args := [d] }
  | _ => none }
def restatementKeepsRow : OpenClaim := { program := "ytellcfkpfccgaaa", sum := "d84f53be01b5649801d6c4a45bd202128ec33d501eba5f072cbb7a4be84d7fe0", func := "treasury/treasurylaw44.RestatementKeeps", spec := "restatementKeeps", unfollowed := true, recurses := true, apart := false }
def RestatementKeepsSaid : Prop := restatementKeepsRow.holds Try.pinned (OpenSpec.ofChange restatementKeepsSpec)

/-- ITS FALSE NEIGHBOUR: 'it returns false'. Refute it at one input. -/
def restatementKeepsWrong : ChangeSpec := { name := "restatementKeeps", fn := fun _ => fun
  | [d] => { results := [.lit (.bool false)], args := [d] }
  | _ => none }
def RestatementKeepsWrongFalsely : Prop := restatementKeepsRow.holds Try.pinned (OpenSpec.ofChange restatementKeepsWrong)

/-- 'treasurylaw44.RestatementLater': WHATEVER THE INPUT: true; the input reads as it did. -/
def restatementLaterSpec : ChangeSpec := { name := "restatementLater", fn := fun _ => fun
  | [d] => { results := [.lit (.bool true)], args := [d] }
  | _ => none }
def restatementLaterRow : OpenClaim := { program := "ytellcfkpfccgaaa", sum := "d84f53be01b5649801d6c4a45bd202128ec33d501eba5f072cbb7a4be84d7fe0", func := "treasury/treasurylaw44.RestatementLater", spec := "restatementLater", unfollowed := true, recurses := true, apart := false }
def RestatementLaterSaid : Prop := restatementLaterRow.holds Try.pinned (OpenSpec.ofChange restatementLaterSpec)

/-- ITS FALSE NEIGHBOUR: 'it returns false'. Refute it at one input. -/
def restatementLaterWrong : ChangeSpec := { name := "restatementLater", fn := fun _ => fun
  | [d] => { results := [.lit (.bool false)], args := [d] }
  | _ => none }
def RestatementLaterWrongFalsely : Prop := restatementLaterRow.holds Try.pinned (OpenSpec.ofChange restatementLaterWrong)

/-- 'treasurylaw44.RestatementVersions': WHATEVER THE INPUT: true; the input reads as it did. -/
def restatementVersionsSpec : ChangeSpec := { name := "restatementVersions", fn := fun _ => fun
  | [d] => { results := [.lit (.bool true)], args := [d] }
  | _ => none }
def restatementVersionsRow : OpenClaim := { program := "ytellcfkpfccgaaa", sum := "d84f53be01b5649801d6c4a45bd202128ec33d501eba5f072cbb7a4be84d7fe0", func := "treasury/treasurylaw44.RestatementVersions", spec := "restatementVersions", unfollowed := true, recurses := true, apart := false }
def RestatementVersionsSaid : Prop := restatementVersionsRow.holds Try.pinned (OpenSpec.ofChange restatementVersionsSpec)

/-- ITS FALSE NEIGHBOUR: 'it returns false'. Refute it at one input. -/
def restatementVersionsWrong : ChangeSpec := { name := "restatementVersions", fn := fun _ => fun
  | [d] => { results := [.lit (.bool false)], args := [d] }
  | _ => none }
def RestatementVersionsWrongFalsely : Prop := restatementVersionsRow.holds Try.pinned (OpenSpec.ofChange restatementVersionsWrong)

/-- 'treasurylaw44.RestatementExplains': WHATEVER THE INPUT: true; the input reads as it did. -/
def restatementExplainsSpec : ChangeSpec := { name := "restatementExplains", fn := fun _ => fun
  | [d] => { results := [.lit (.bool true)], args := [d] }
  | _ => none }
def restatementExplainsRow : OpenClaim := { program := "ytellcfkpfccgaaa", sum := "d84f53be01b5649801d6c4a45bd202128ec33d501eba5f072cbb7a4be84d7fe0", func := "treasury/treasurylaw44.RestatementExplains", spec := "restatementExplains", unfollowed := true, recurses := true, apart := false }
def RestatementExplainsSaid : Prop := restatementExplainsRow.holds Try.pinned (OpenSpec.ofChange restatementExplainsSpec)

/-- ITS FALSE NEIGHBOUR: 'it returns false'. Refute it at one input. -/
def restatementExplainsWrong : ChangeSpec := { name := "restatementExplains", fn := fun _ => fun
  | [d] => { results := [.lit (.bool false)], args := [d] }
  | _ => none }
def RestatementExplainsWrongFalsely : Prop := restatementExplainsRow.holds Try.pinned (OpenSpec.ofChange restatementExplainsWrong)

/-- 'treasurylaw44.RestatementEffects': WHATEVER THE INPUT: true; the input reads as it did. -/
def restatementEffectsSpec : ChangeSpec := { name := "restatementEffects", fn := fun _ => fun
  | [d] => { results := [.lit (.bool true)], args := [d] }
  | _ => none }
def restatementEffectsRow : OpenClaim := { program := "ytellcfkpfccgaaa", sum := "d84f53be01b5649801d6c4a45bd202128ec33d501eba5f072cbb7a4be84d7fe0", func := "treasury/treasurylaw44.RestatementEffects", spec := "restatementEffects", unfollowed := true, recurses := true, apart := false }
def RestatementEffectsSaid : Prop := restatementEffectsRow.holds Try.pinned (OpenSpec.ofChange restatementEffectsSpec)

/-- ITS FALSE NEIGHBOUR: 'it returns false'. Refute it at one input. -/
def restatementEffectsWrong : ChangeSpec := { name := "restatementEffects", fn := fun _ => fun
  | [d] => { results := [.lit (.bool false)], args := [d] }
  | _ => none }
def RestatementEffectsWrongFalsely : Prop := restatementEffectsRow.holds Try.pinned (OpenSpec.ofChange restatementEffectsWrong)

/-- 'treasurylaw44.RestatementExact': WHATEVER THE INPUT: true; the input reads as it did. -/
def restatementExactSpec : ChangeSpec := { name := "restatementExact", fn := fun _ => fun
  | [d1, d2, d3, d4, d5] => { results := [.lit (.bool true)], args := [d1, d2, d3, d4, d5] }
  | _ => none }
def restatementExactRow : OpenClaim := { program := "ytellcfkpfccgaaa", sum := "d84f53be01b5649801d6c4a45bd202128ec33d501eba5f072cbb7a4be84d7fe0", func := "treasury/treasurylaw44.RestatementExact", spec := "restatementExact", unfollowed := true, recurses := true, apart := false }
def RestatementExactSaid : Prop := restatementExactRow.holds Try.pinned (OpenSpec.ofChange restatementExactSpec)

/-- ITS FALSE NEIGHBOUR: 'it returns false'. Refute it at one input. -/
def restatementExactWrong : ChangeSpec := { name := "restatementExact", fn := fun _ => fun
  | [d1, d2, d3, d4, d5] => { results := [.lit (.bool false)], args := [d1, d2, d3, d4, d5] }
  | _ => none }
def RestatementExactWrongFalsely : Prop := restatementExactRow.holds Try.pinned (OpenSpec.ofChange restatementExactWrong)

/-- 'treasurylaw40.LedgerEntries': WHATEVER THE INPUT: true; the input reads as it did. -/
def ledgerEntriesSpec : ChangeSpec := { name := "ledgerEntries", fn := fun _ => fun
  | [d1, d2] => { results := [.lit (.bool true)], args := [d1, d2] }
  | _ => none }
def ledgerEntriesRow : OpenClaim := { program := "ytellcfkpfccgaaa", sum := "d84f53be01b5649801d6c4a45bd202128ec33d501eba5f072cbb7a4be84d7fe0", func := "treasury/treasurylaw40.LedgerEntries", spec := "ledgerEntries", unfollowed := true, recurses := true, apart := false }
def LedgerEntriesSaid : Prop := ledgerEntriesRow.holds Try.pinned (OpenSpec.ofChange ledgerEntriesSpec)

/-- ITS FALSE NEIGHBOUR: 'it returns false'. Refute it at one input. -/
def ledgerEntriesWrong : ChangeSpec := { name := "ledgerEntries", fn := fun _ => fun
  | [d1, d2] => { results := [.lit (.bool false)], args := [d1, d2] }
  | _ => none }
def LedgerEntriesWrongFalsely : Prop := ledgerEntriesRow.holds Try.pinned (OpenSpec.ofChange ledgerEntriesWrong)

/-- 'treasurylaw40.LedgerExact': WHATEVER THE INPUT: true; the input reads as it did. -/
def ledgerExactSpec : ChangeSpec := { name := "ledgerExact", fn := fun _ => fun
  | [d1, d2, d3, d4, d5, d6, d7, d8, d9] => { results := [.lit (.bool true)], args := [d1, d2, d3, d4, d5, d6, d7, d8, d9] }
  | _ => none }
def ledgerExactRow : OpenClaim := { program := "ytellcfkpfccgaaa", sum := "d84f53be01b5649801d6c4a45bd202128ec33d501eba5f072cbb7a4be84d7fe0", func := "treasury/treasurylaw40.LedgerExact", spec := "ledgerExact", unfollowed := true, recurses := true, apart := false }
def LedgerExactSaid : Prop := ledgerExactRow.holds Try.pinned (OpenSpec.ofChange ledgerExactSpec)

/-- ITS FALSE NEIGHBOUR: 'it returns false'. Refute it at one input. -/
def ledgerExactWrong : ChangeSpec := { name := "ledgerExact", fn := fun _ => fun
  | [d1, d2, d3, d4, d5, d6, d7, d8, d9] => { results := [.lit (.bool false)], args := [d1, d2, d3, d4, d5, d6, d7, d8, d9] }
  | _ => none }
def LedgerExactWrongFalsely : Prop := ledgerExactRow.holds Try.pinned (OpenSpec.ofChange ledgerExactWrong)

/- THE SECOND FORM. 'bulk': how many values and letters a reading holds, each counted each time it is reached (what is shared counts as often as it is met; a slice's spare places count too). A statement '..UptoSaid' is the law's where the arguments, and the package variables that the reading takes, are together of bulk at most 1048576: NARROWER than '..Said'. Prove '..Said' where nothing that the law and all that it calls make is longer than what came in: it says more and counts as full. Else prove '..UptoSaid'. A law counts once. -/
mutual
def uptoBulk {H : Type} : DataW H → Nat
  | .lit (.string bytes) => bytes.length + 1
  | .lit _ => 1
  | .nil => 1
  | .ptr d => uptoBulk d + 1
  | .slice elems spare => uptoBulkAll elems + uptoBulkAll spare + 1
  | .agg parts => uptoBulkAll parts + 1
  | .iface _ d => uptoBulk d + 1
  | .map entries => uptoBulkEntries entries + 1
  | .held _ => 1
def uptoBulkAll {H : Type} : List (DataW H) → Nat
  | [] => 0
  | d :: r => uptoBulk d + uptoBulkAll r
def uptoBulkEntries {H : Type} : List (Lit × DataW H) → Nat
  | [] => 0
  | x :: r => uptoBulkEntry x + uptoBulkEntries r
def uptoBulkEntry {H : Type} : Lit × DataW H → Nat
  | (.string bytes, d) => bytes.length + uptoBulk d + 1
  | (_, d) => uptoBulk d + 1
 end
def uptoSmall : (H : Type) → List (DataW H) → Bool := fun _ ds => decide (uptoBulkAll ds ≤ 1048576)
def OpenSpec.upto (s : _root_.Go.ChangeSpec) : _root_.Go.OpenSpec := { _root_.Go.OpenSpec.ofChange s with cond := some uptoSmall }

/-- 'treasurylaw40.LedgerBalances', WHERE WHAT IT READS IS OF BULK AT MOST 1048576: true; the input reads as it did. -/
def ledgerBalancesUptoRow : OpenClaim := { program := "ytellcfkpfccgaaa", sum := "d84f53be01b5649801d6c4a45bd202128ec33d501eba5f072cbb7a4be84d7fe0", func := "treasury/treasurylaw40.LedgerBalances", spec := "ledgerBalances", unfollowed := true, recurses := true, apart := false, narrowed := true }
def LedgerBalancesUptoSaid : Prop := ledgerBalancesUptoRow.holds Try.pinned (OpenSpec.upto ledgerBalancesSpec)

/-- 'treasurylaw40.LedgerTurns', WHERE WHAT IT READS IS OF BULK AT MOST 1048576: true; the input reads as it did. -/
def ledgerTurnsUptoRow : OpenClaim := { program := "ytellcfkpfccgaaa", sum := "d84f53be01b5649801d6c4a45bd202128ec33d501eba5f072cbb7a4be84d7fe0", func := "treasury/treasurylaw40.LedgerTurns", spec := "ledgerTurns", unfollowed := true, recurses := true, apart := false, narrowed := true }
def LedgerTurnsUptoSaid : Prop := ledgerTurnsUptoRow.holds Try.pinned (OpenSpec.upto ledgerTurnsSpec)

/-- 'treasurylaw40.LedgerStatements', WHERE WHAT IT READS IS OF BULK AT MOST 1048576: true; the input reads as it did. -/
def ledgerStatementsUptoRow : OpenClaim := { program := "ytellcfkpfccgaaa", sum := "d84f53be01b5649801d6c4a45bd202128ec33d501eba5f072cbb7a4be84d7fe0", func := "treasury/treasurylaw40.LedgerStatements", spec := "ledgerStatements", unfollowed := true, recurses := true, apart := false, narrowed := true }
def LedgerStatementsUptoSaid : Prop := ledgerStatementsUptoRow.holds Try.pinned (OpenSpec.upto ledgerStatementsSpec)

/-- 'treasurylaw40.LedgerSpans', WHERE WHAT IT READS IS OF BULK AT MOST 1048576: true; the input reads as it did. -/
def ledgerSpansUptoRow : OpenClaim := { program := "ytellcfkpfccgaaa", sum := "d84f53be01b5649801d6c4a45bd202128ec33d501eba5f072cbb7a4be84d7fe0", func := "treasury/treasurylaw40.LedgerSpans", spec := "ledgerSpans", unfollowed := true, recurses := true, apart := false, narrowed := true }
def LedgerSpansUptoSaid : Prop := ledgerSpansUptoRow.holds Try.pinned (OpenSpec.upto ledgerSpansSpec)

/-- 'treasurylaw44.RestatementKeeps', WHERE WHAT IT READS IS OF BULK AT MOST 1048576: true; the input reads as it did. -/
def restatementKeepsUptoRow : OpenClaim := { program := "ytellcfkpfccgaaa", sum := "d84f53be01b5649801d6c4a45bd202128ec33d501eba5f072cbb7a4be84d7fe0", func := "treasury/treasurylaw44.RestatementKeeps", spec := "restatementKeeps", unfollowed := true, recurses := true, apart := false, narrowed := true }
def RestatementKeepsUptoSaid : Prop := restatementKeepsUptoRow.holds Try.pinned (OpenSpec.upto restatementKeepsSpec)

/-- 'treasurylaw44.RestatementLater', WHERE WHAT IT READS IS OF BULK AT MOST 1048576: true; the input reads as it did. -/
def restatementLaterUptoRow : OpenClaim := { program := "ytellcfkpfccgaaa", sum := "d84f53be01b5649801d6c4a45bd202128ec33d501eba5f072cbb7a4be84d7fe0", func := "treasury/treasurylaw44.RestatementLater", spec := "restatementLater", unfollowed := true, recurses := true, apart := false, narrowed := true }
def RestatementLaterUptoSaid : Prop := restatementLaterUptoRow.holds Try.pinned (OpenSpec.upto restatementLaterSpec)

/-- 'treasurylaw44.RestatementVersions', WHERE WHAT IT READS IS OF BULK AT MOST 1048576: true; the input reads as it did. -/
def restatementVersionsUptoRow : OpenClaim := { program := "ytellcfkpfccgaaa", sum := "d84f53be01b5649801d6c4a45bd202128ec33d501eba5f072cbb7a4be84d7fe0", func := "treasury/treasurylaw44.RestatementVersions", spec := "restatementVersions", unfollowed := true, recurses := true, apart := false, narrowed := true }
def RestatementVersionsUptoSaid : Prop := restatementVersionsUptoRow.holds Try.pinned (OpenSpec.upto restatementVersionsSpec)

/-- 'treasurylaw44.RestatementExplains', WHERE WHAT IT READS IS OF BULK AT MOST 1048576: true; the input reads as it did. -/
def restatementExplainsUptoRow : OpenClaim := { program := "ytellcfkpfccgaaa", sum := "d84f53be01b5649801d6c4a45bd202128ec33d501eba5f072cbb7a4be84d7fe0", func := "treasury/treasurylaw44.RestatementExplains", spec := "restatementExplains", unfollowed := true, recurses := true, apart := false, narrowed := true }
def RestatementExplainsUptoSaid : Prop := restatementExplainsUptoRow.holds Try.pinned (OpenSpec.upto restatementExplainsSpec)

/-- 'treasurylaw44.RestatementEffects', WHERE WHAT IT READS IS OF BULK AT MOST 1048576: true; the input reads as it did. -/
def restatementEffectsUptoRow : OpenClaim := { program := "ytellcfkpfccgaaa", sum := "d84f53be01b5649801d6c4a45bd202128ec33d501eba5f072cbb7a4be84d7fe0", func := "treasury/treasurylaw44.RestatementEffects", spec := "restatementEffects", unfollowed := true, recurses := true, apart := false, narrowed := true }
def RestatementEffectsUptoSaid : Prop := restatementEffectsUptoRow.holds Try.pinned (OpenSpec.upto restatementEffectsSpec)

/-- 'treasurylaw44.RestatementExact', WHERE WHAT IT READS IS OF BULK AT MOST 1048576: true; the input reads as it did. -/
def restatementExactUptoRow : OpenClaim := { program := "ytellcfkpfccgaaa", sum := "d84f53be01b5649801d6c4a45bd202128ec33d501eba5f072cbb7a4be84d7fe0", func := "treasury/treasurylaw44.RestatementExact", spec := "restatementExact", unfollowed := true, recurses := true, apart := false, narrowed := true }
def RestatementExactUptoSaid : Prop := restatementExactUptoRow.holds Try.pinned (OpenSpec.upto restatementExactSpec)

/-- 'treasurylaw40.LedgerEntries', WHERE WHAT IT READS IS OF BULK AT MOST 1048576: true; the input reads as it did. -/
def ledgerEntriesUptoRow : OpenClaim := { program := "ytellcfkpfccgaaa", sum := "d84f53be01b5649801d6c4a45bd202128ec33d501eba5f072cbb7a4be84d7fe0", func := "treasury/treasurylaw40.LedgerEntries", spec := "ledgerEntries", unfollowed := true, recurses := true, apart := false, narrowed := true }
def LedgerEntriesUptoSaid : Prop := ledgerEntriesUptoRow.holds Try.pinned (OpenSpec.upto ledgerEntriesSpec)

/-- 'treasurylaw40.LedgerExact', WHERE WHAT IT READS IS OF BULK AT MOST 1048576: true; the input reads as it did. -/
def ledgerExactUptoRow : OpenClaim := { program := "ytellcfkpfccgaaa", sum := "d84f53be01b5649801d6c4a45bd202128ec33d501eba5f072cbb7a4be84d7fe0", func := "treasury/treasurylaw40.LedgerExact", spec := "ledgerExact", unfollowed := true, recurses := true, apart := false, narrowed := true }
def LedgerExactUptoSaid : Prop := ledgerExactUptoRow.holds Try.pinned (OpenSpec.upto ledgerExactSpec)

end Rows
end Go.Proofs.Ytellcfkpfccgaaa
