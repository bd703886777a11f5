/-
  No cell of these rows narrows 'for every input' (looked for: loops, veiled, ifaces, maps, wideKeys, modest, calm, conditions, laid).
  DERIVED. THE GIVEN ROWS OF THIS SEAT. 4 by the template 'for every input the law returns true; each argument reads behind the call as it read before'; 0 by the template 'total and deterministic' (their statements: YtkicgnigaeopnaaTotals.lean).
  GIVEN WITH THE SEED: the statements are not yours to turn. If you find one false, say at which input.
  Laid BY PROGRAM, IN A SANDBOX (cutbox-rows.mjs): the forced cells as the released guide's own fill.sh prints them over the translation 3501f4e96d149426… (all of the seat's roots in one cut). By AI agents, Wed Nov 11 2026. No macro, syntax, notation, axiom, sorry.
-/
import Derived.Test.YtkicgnigaeopnaaChecked
import GoSem.Claim
import GoSem.ClaimJoined
import GoSem.ClaimMapViews
import Derived.JoinedTies
import Derived.KernelRfl
namespace Go.Proofs.Ytkicgnigaeopnaa
/- THE CELL 'sum', in the pinned program and in every row, IS THE sha256 OF THE DUMP (.gsa) THAT YtkicgnigaeopnaaProg.lean LOADS. Nothing in Lean hashes anything: it is a label: what it is worth is what the hold of that sum in a sandbox is worth. -/
noncomputable def Try.pinned : Pinned := { name := "ytkicgnigaeopnaa", sum := "3501f4e96d1494268ea77f388d9f257f8886a96b5ea774a5c4feea6e85134445", checked := Try.checked }
namespace Rows
def none {H : Type} : Left H := { results := [], args := [] }

/-- 'treasurylaw29.ForecastSplits': WHATEVER THE INPUT: true; the input reads as it did. -/
def forecastSplitsSpec : ChangeSpec := { name := "forecastSplits", fn := fun _ => fun
  | [d1, d2] => { results := [.lit (.bool true)], args := [d1, d2] }
  | _ => none }
def forecastSplitsRow : OpenClaim := { program := "ytkicgnigaeopnaa", sum := "3501f4e96d1494268ea77f388d9f257f8886a96b5ea774a5c4feea6e85134445", func := "treasury/treasurylaw29.ForecastSplits", spec := "forecastSplits", unfollowed := true, recurses := true, apart := false }
def ForecastSplitsSaid : Prop := forecastSplitsRow.holds Try.pinned (OpenSpec.ofChange forecastSplitsSpec)

/-- ITS FALSE NEIGHBOUR: 'it returns false'. Refute it at one input. -/
def forecastSplitsWrong : ChangeSpec := { name := "forecastSplits", fn := fun _ => fun
  | [d1, d2] => { results := [.lit (.bool false)], args := [d1, d2] }
  | _ => none }
def ForecastSplitsWrongFalsely : Prop := forecastSplitsRow.holds Try.pinned (OpenSpec.ofChange forecastSplitsWrong)

/-- 'treasurylaw29.ForecastLater': WHATEVER THE INPUT: true; the input reads as it did. -/
def forecastLaterSpec : ChangeSpec := { name := "forecastLater", fn := fun _ => fun
  | [d1, d2] => { results := [.lit (.bool true)], args := [d1, d2] }
  | _ => none }
def forecastLaterRow : OpenClaim := { program := "ytkicgnigaeopnaa", sum := "3501f4e96d1494268ea77f388d9f257f8886a96b5ea774a5c4feea6e85134445", func := "treasury/treasurylaw29.ForecastLater", spec := "forecastLater", unfollowed := true, recurses := true, apart := false }
def ForecastLaterSaid : Prop := forecastLaterRow.holds Try.pinned (OpenSpec.ofChange forecastLaterSpec)

/-- ITS FALSE NEIGHBOUR: 'it returns false'. Refute it at one input. -/
def forecastLaterWrong : ChangeSpec := { name := "forecastLater", fn := fun _ => fun
  | [d1, d2] => { results := [.lit (.bool false)], args := [d1, d2] }
  | _ => none }
def ForecastLaterWrongFalsely : Prop := forecastLaterRow.holds Try.pinned (OpenSpec.ofChange forecastLaterWrong)

/-- 'treasurylaw29.ForecastAdds': WHATEVER THE INPUT: true; the input reads as it did. -/
def forecastAddsSpec : ChangeSpec := { name := "forecastAdds", fn := fun _ => fun
  | [d] => { results := [.lit (.bool true)], args := [d] }
  | _ => none }
def forecastAddsRow : OpenClaim := { program := "ytkicgnigaeopnaa", sum := "3501f4e96d1494268ea77f388d9f257f8886a96b5ea774a5c4feea6e85134445", func := "treasury/treasurylaw29.ForecastAdds", spec := "forecastAdds", unfollowed := true, recurses := true, apart := false }
def ForecastAddsSaid : Prop := forecastAddsRow.holds Try.pinned (OpenSpec.ofChange forecastAddsSpec)

/-- ITS FALSE NEIGHBOUR: 'it returns false'. Refute it at one input. -/
def forecastAddsWrong : ChangeSpec := { name := "forecastAdds", fn := fun _ => fun
  | [d] => { results := [.lit (.bool false)], args := [d] }
  | _ => none }
def ForecastAddsWrongFalsely : Prop := forecastAddsRow.holds Try.pinned (OpenSpec.ofChange forecastAddsWrong)

/-- 'treasurylaw29.ForecastOrder': WHATEVER THE INPUT: true; the input reads as it did. -/
def forecastOrderSpec : ChangeSpec := { name := "forecastOrder", fn := fun _ => fun
  | [d] => { results := [.lit (.bool true)], args := [d] }
  | _ => none }
def forecastOrderRow : OpenClaim := { program := "ytkicgnigaeopnaa", sum := "3501f4e96d1494268ea77f388d9f257f8886a96b5ea774a5c4feea6e85134445", func := "treasury/treasurylaw29.ForecastOrder", spec := "forecastOrder", unfollowed := true, recurses := true, apart := false }
def ForecastOrderSaid : Prop := forecastOrderRow.holds Try.pinned (OpenSpec.ofChange forecastOrderSpec)

/-- ITS FALSE NEIGHBOUR: 'it returns false'. Refute it at one input. -/
def forecastOrderWrong : ChangeSpec := { name := "forecastOrder", fn := fun _ => fun
  | [d] => { results := [.lit (.bool false)], args := [d] }
  | _ => none }
def ForecastOrderWrongFalsely : Prop := forecastOrderRow.holds Try.pinned (OpenSpec.ofChange forecastOrderWrong)

/- THE SECOND FORM. 'bulk': how many values and letters a reading holds, each counted each time it is reached (what is shared counts as often as it is met; a slice's spare places count too). A statement '..UptoSaid' is the law's where the arguments, and the package variables that the reading takes, are together of bulk at most 1048576: NARROWER than '..Said'. Prove '..Said' where nothing that the law and all that it calls make is longer than what came in: it says more and counts as full. Else prove '..UptoSaid'. A law counts once. -/
mutual
def uptoBulk {H : Type} : DataW H → Nat
  | .lit (.string bytes) => bytes.length + 1
  | .lit _ => 1
  | .nil => 1
  | .ptr d => uptoBulk d + 1
  | .slice elems spare => uptoBulkAll elems + uptoBulkAll spare + 1
  | .agg parts => uptoBulkAll parts + 1
  | .iface _ d => uptoBulk d + 1
  | .map entries => uptoBulkEntries entries + 1
  | .held _ => 1
def uptoBulkAll {H : Type} : List (DataW H) → Nat
  | [] => 0
  | d :: r => uptoBulk d + uptoBulkAll r
def uptoBulkEntries {H : Type} : List (Lit × DataW H) → Nat
  | [] => 0
  | x :: r => uptoBulkEntry x + uptoBulkEntries r
def uptoBulkEntry {H : Type} : Lit × DataW H → Nat
  | (.string bytes, d) => bytes.length + uptoBulk d + 1
  | (_, d) => uptoBulk d + 1
 end
def uptoSmall : (H : Type) → List (DataW H) → Bool := fun _ ds => decide (uptoBulkAll ds ≤ 1048576)
def OpenSpec.upto (s : _root_.Go.ChangeSpec) : _root_.Go.OpenSpec := { _root_.Go.OpenSpec.ofChange s with cond := some uptoSmall }

/-- 'treasurylaw29.ForecastSplits', WHERE WHAT IT READS IS OF BULK AT MOST 1048576: true; the input reads as it did. -/
def forecastSplitsUptoRow : OpenClaim := { program := "ytkicgnigaeopnaa", sum := "3501f4e96d1494268ea77f388d9f257f8886a96b5ea774a5c4feea6e85134445", func := "treasury/treasurylaw29.ForecastSplits", spec := "forecastSplits", unfollowed := true, recurses := true, apart := false, narrowed := true }
def ForecastSplitsUptoSaid : Prop := forecastSplitsUptoRow.holds Try.pinned (OpenSpec.upto forecastSplitsSpec)

/-- 'treasurylaw29.ForecastLater', WHERE WHAT IT READS IS OF BULK AT MOST 1048576: true; the input reads as it did. -/
def forecastLaterUptoRow : OpenClaim := { program := "ytkicgnigaeopnaa", sum := "3501f4e96d1494268ea77f388d9f257f8886a96b5ea774a5c4feea6e85134445", func := "treasury/treasurylaw29.ForecastLater", spec := "forecastLater", unfollowed := true, recurses := true, apart := false, narrowed := true }
def ForecastLaterUptoSaid : Prop := forecastLaterUptoRow.holds Try.pinned (OpenSpec.upto forecastLaterSpec)

/-- 'treasurylaw29.ForecastAdds', WHERE WHAT IT READS IS OF BULK AT MOST 1048576: true; the input reads as it did. -/
def forecastAddsUptoRow : OpenClaim := { program := "ytkicgnigaeopnaa", sum := "3501f4e96d1494268ea77f388d9f257f8886a96b5ea774a5c4feea6e85134445", func := "treasury/treasurylaw29.ForecastAdds", spec := "forecastAdds", unfollowed := true, recurses := true, apart := false, narrowed := true }
def ForecastAddsUptoSaid : Prop := forecastAddsUptoRow.holds Try.pinned (OpenSpec.upto forecastAddsSpec)

/-- 'treasurylaw29.ForecastOrder', WHERE WHAT IT READS IS OF BULK AT MOST 1048576: true; the input reads as it did. -/
def forecastOrderUptoRow : OpenClaim := { program := "ytkicgnigaeopnaa", sum := "3501f4e96d1494268ea77f388d9f257f8886a96b5ea774a5c4feea6e85134445", func := "treasury/treasurylaw29.ForecastOrder", spec := "forecastOrder", unfollowed := true, recurses := true, apart := false, narrowed := true }
def ForecastOrderUptoSaid : Prop := forecastOrderUptoRow.holds Try.pinned (OpenSpec.upto forecastOrderSpec)

end Rows
end Go.Proofs.Ytkicgnigaeopnaa
