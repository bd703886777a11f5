/-
  No cell of these rows narrows 'for every input' (looked for: loops, veiled, ifaces, maps, wideKeys, modest, calm, conditions, laid).
  DERIVED. THE GIVEN ROWS OF THIS SEAT. 5 by the template 'for every input the law returns true; each argument reads behind the call as it read before'; 0 by the template 'total and deterministic' (their statements: YtmpncdlhmknkoaaTotals.lean).
  GIVEN WITH THE SEED: the statements are not yours to turn. If you find one false, say at which input.
  Laid BY PROGRAM, IN A SANDBOX (cutbox-rows.mjs): the forced cells as the released guide's own fill.sh prints them over the translation e3de10f841cf22a5… (all of the seat's roots in one cut). By AI agents, Wed Nov 11 2026. No macro, syntax, notation, axiom, sorry.
-/
import Derived.Test.YtmpncdlhmknkoaaChecked
import GoSem.Claim
import GoSem.ClaimJoined
import GoSem.ClaimMapViews
import Derived.JoinedTies
import Derived.KernelRfl
namespace Go.Proofs.Ytmpncdlhmknkoaa
/- THE CELL 'sum', in the pinned program and in every row, IS THE sha256 OF THE DUMP (.gsa) THAT YtmpncdlhmknkoaaProg.lean LOADS. Nothing in Lean hashes anything: it is a label: what it is worth is what the hold of that sum in a sandbox is worth. -/
noncomputable def Try.pinned : Pinned := { name := "ytmpncdlhmknkoaa", sum := "e3de10f841cf22a59e6bcb680070ec673c58c709a34c5a9977bf61750c1d29da", checked := Try.checked }
namespace Rows
def none {H : Type} : Left H := { results := [], args := [] }

/-- 'treasurylaw25.BatchOnce': WHATEVER THE INPUT: true; the input reads as it did. -/
def batchOnceSpec : ChangeSpec := { name := "batchOnce", fn := fun _ => fun
  | [d] => { results := [.lit (.bool true)], args := [d] }
  | _ => none }
def batchOnceRow : OpenClaim := { program := "ytmpncdlhmknkoaa", sum := "e3de10f841cf22a59e6bcb680070ec673c58c709a34c5a9977bf61750c1d29da", func := "treasury/treasurylaw25.BatchOnce", spec := "batchOnce", inPlace := ["slices.overlaps[treasury/api.Payment]", "slices.overlaps[int]"], unfollowed := true, recurses := true, apart := false }
def BatchOnceSaid : Prop := batchOnceRow.holds Try.pinned (OpenSpec.ofChange batchOnceSpec)

/-- ITS FALSE NEIGHBOUR: 'it returns false'. Refute it at one input. -/
def batchOnceWrong : ChangeSpec := { name := "batchOnce", fn := fun _ => fun
  | [d] => { results := [.lit (.bool false)], args := [d] }
  | _ => none }
def BatchOnceWrongFalsely : Prop := batchOnceRow.holds Try.pinned (OpenSpec.ofChange batchOnceWrong)

/-- 'treasurylaw25.BatchOrder': WHATEVER THE INPUT: true; the input reads as it did. -/
def batchOrderSpec : ChangeSpec := { name := "batchOrder", fn := fun _ => fun
  | [d1, d2] => { results := [.lit (.bool true)], args := [d1, d2] }
  | _ => none }
def batchOrderRow : OpenClaim := { program := "ytmpncdlhmknkoaa", sum := "e3de10f841cf22a59e6bcb680070ec673c58c709a34c5a9977bf61750c1d29da", func := "treasury/treasurylaw25.BatchOrder", spec := "batchOrder", inPlace := ["slices.overlaps[treasury/api.Payment]", "slices.overlaps[int]"], unfollowed := true, recurses := true, apart := false }
def BatchOrderSaid : Prop := batchOrderRow.holds Try.pinned (OpenSpec.ofChange batchOrderSpec)

/-- ITS FALSE NEIGHBOUR: 'it returns false'. Refute it at one input. -/
def batchOrderWrong : ChangeSpec := { name := "batchOrder", fn := fun _ => fun
  | [d1, d2] => { results := [.lit (.bool false)], args := [d1, d2] }
  | _ => none }
def BatchOrderWrongFalsely : Prop := batchOrderRow.holds Try.pinned (OpenSpec.ofChange batchOrderWrong)

/-- 'treasurylaw25.BatchLater': WHATEVER THE INPUT: true; the input reads as it did. -/
def batchLaterSpec : ChangeSpec := { name := "batchLater", fn := fun _ => fun
  | [d1, d2, d3] => { results := [.lit (.bool true)], args := [d1, d2, d3] }
  | _ => none }
def batchLaterRow : OpenClaim := { program := "ytmpncdlhmknkoaa", sum := "e3de10f841cf22a59e6bcb680070ec673c58c709a34c5a9977bf61750c1d29da", func := "treasury/treasurylaw25.BatchLater", spec := "batchLater", inPlace := ["slices.overlaps[treasury/api.Payment]", "slices.overlaps[int]"], unfollowed := true, recurses := true, apart := false }
def BatchLaterSaid : Prop := batchLaterRow.holds Try.pinned (OpenSpec.ofChange batchLaterSpec)

/-- ITS FALSE NEIGHBOUR: 'it returns false'. Refute it at one input. -/
def batchLaterWrong : ChangeSpec := { name := "batchLater", fn := fun _ => fun
  | [d1, d2, d3] => { results := [.lit (.bool false)], args := [d1, d2, d3] }
  | _ => none }
def BatchLaterWrongFalsely : Prop := batchLaterRow.holds Try.pinned (OpenSpec.ofChange batchLaterWrong)

/-- 'treasurylaw25.BatchBack': WHATEVER THE INPUT: true; the input reads as it did. -/
def batchBackSpec : ChangeSpec := { name := "batchBack", fn := fun _ => fun
  | [d] => { results := [.lit (.bool true)], args := [d] }
  | _ => none }
def batchBackRow : OpenClaim := { program := "ytmpncdlhmknkoaa", sum := "e3de10f841cf22a59e6bcb680070ec673c58c709a34c5a9977bf61750c1d29da", func := "treasury/treasurylaw25.BatchBack", spec := "batchBack", inPlace := ["slices.overlaps[treasury/api.Payment]", "slices.overlaps[int]"], unfollowed := true, recurses := true, apart := false }
def BatchBackSaid : Prop := batchBackRow.holds Try.pinned (OpenSpec.ofChange batchBackSpec)

/-- ITS FALSE NEIGHBOUR: 'it returns false'. Refute it at one input. -/
def batchBackWrong : ChangeSpec := { name := "batchBack", fn := fun _ => fun
  | [d] => { results := [.lit (.bool false)], args := [d] }
  | _ => none }
def BatchBackWrongFalsely : Prop := batchBackRow.holds Try.pinned (OpenSpec.ofChange batchBackWrong)

/-- 'treasurylaw25.BatchExact': WHATEVER THE INPUT: true; the input reads as it did. -/
def batchExactSpec : ChangeSpec := { name := "batchExact", fn := fun _ => fun
  | [d1, d2, d3, d4, d5, d6] => { results := [.lit (.bool true)], args := [d1, d2, d3, d4, d5, d6] }
  | _ => none }
def batchExactRow : OpenClaim := { program := "ytmpncdlhmknkoaa", sum := "e3de10f841cf22a59e6bcb680070ec673c58c709a34c5a9977bf61750c1d29da", func := "treasury/treasurylaw25.BatchExact", spec := "batchExact", inPlace := ["slices.overlaps[treasury/api.Payment]", "slices.overlaps[int]"], unfollowed := true, recurses := true, apart := false }
def BatchExactSaid : Prop := batchExactRow.holds Try.pinned (OpenSpec.ofChange batchExactSpec)

/-- ITS FALSE NEIGHBOUR: 'it returns false'. Refute it at one input. -/
def batchExactWrong : ChangeSpec := { name := "batchExact", fn := fun _ => fun
  | [d1, d2, d3, d4, d5, d6] => { results := [.lit (.bool false)], args := [d1, d2, d3, d4, d5, d6] }
  | _ => none }
def BatchExactWrongFalsely : Prop := batchExactRow.holds Try.pinned (OpenSpec.ofChange batchExactWrong)

/- THE SECOND FORM. 'bulk': how many values and letters a reading holds, each counted each time it is reached (what is shared counts as often as it is met; a slice's spare places count too). A statement '..UptoSaid' is the law's where the arguments, and the package variables that the reading takes, are together of bulk at most 1048576: NARROWER than '..Said'. Prove '..Said' where nothing that the law and all that it calls make is longer than what came in: it says more and counts as full. Else prove '..UptoSaid'. A law counts once. -/
mutual
def uptoBulk {H : Type} : DataW H → Nat
  | .lit (.string bytes) => bytes.length + 1
  | .lit _ => 1
  | .nil => 1
  | .ptr d => uptoBulk d + 1
  | .slice elems spare => uptoBulkAll elems + uptoBulkAll spare + 1
  | .agg parts => uptoBulkAll parts + 1
  | .iface _ d => uptoBulk d + 1
  | .map entries => uptoBulkEntries entries + 1
  | .held _ => 1
def uptoBulkAll {H : Type} : List (DataW H) → Nat
  | [] => 0
  | d :: r => uptoBulk d + uptoBulkAll r
def uptoBulkEntries {H : Type} : List (Lit × DataW H) → Nat
  | [] => 0
  | x :: r => uptoBulkEntry x + uptoBulkEntries r
def uptoBulkEntry {H : Type} : Lit × DataW H → Nat
  | (.string bytes, d) => bytes.length + uptoBulk d + 1
  | (_, d) => uptoBulk d + 1
 end
def uptoSmall : (H : Type) → List (DataW H) → Bool := fun _ ds => decide (uptoBulkAll ds ≤ 1048576)
def OpenSpec.upto (s : _root_.Go.ChangeSpec) : _root_.Go.OpenSpec := { _root_.Go.OpenSpec.ofChange s with cond := some uptoSmall }

/-- 'treasurylaw25.BatchOnce', WHERE WHAT IT READS IS OF BULK AT MOST 1048576: true; the input reads as it did. -/
def batchOnceUptoRow : OpenClaim := { program := "ytmpncdlhmknkoaa", sum := "e3de10f841cf22a59e6bcb680070ec673c58c709a34c5a9977bf61750c1d29da", func := "treasury/treasurylaw25.BatchOnce", spec := "batchOnce", inPlace := ["slices.overlaps[treasury/api.Payment]", "slices.overlaps[int]"], unfollowed := true, recurses := true, apart := false, narrowed := true }
def BatchOnceUptoSaid : Prop := batchOnceUptoRow.holds Try.pinned (OpenSpec.upto batchOnceSpec)

/-- 'treasurylaw25.BatchOrder', WHERE WHAT IT READS IS OF BULK AT MOST 1048576: true; the input reads as it did. -/
def batchOrderUptoRow : OpenClaim := { program := "ytmpncdlhmknkoaa", sum := "e3de10f841cf22a59e6bcb680070ec673c58c709a34c5a9977bf61750c1d29da", func := "treasury/treasurylaw25.BatchOrder", spec := "batchOrder", inPlace := ["slices.overlaps[treasury/api.Payment]", "slices.overlaps[int]"], unfollowed := true, recurses := true, apart := false, narrowed := true }
def BatchOrderUptoSaid : Prop := batchOrderUptoRow.holds Try.pinned (OpenSpec.upto batchOrderSpec)

/-- 'treasurylaw25.BatchLater', WHERE WHAT IT READS IS OF BULK AT MOST 1048576: true; the input reads as it did. -/
def batchLaterUptoRow : OpenClaim := { program := "ytmpncdlhmknkoaa", sum := "e3de10f841cf22a59e6bcb680070ec673c58c709a34c5a9977bf61750c1d29da", func := "treasury/treasurylaw25.BatchLater", spec := "batchLater", inPlace := ["slices.overlaps[treasury/api.Payment]", "slices.overlaps[int]"], unfollowed := true, recurses := true, apart := false, narrowed := true }
def BatchLaterUptoSaid : Prop := batchLaterUptoRow.holds Try.pinned (OpenSpec.upto batchLaterSpec)

/-- 'treasurylaw25.BatchBack', WHERE WHAT IT READS IS OF BULK AT MOST 1048576: true; the input reads as it did. -/
def batchBackUptoRow : OpenClaim := { program := "ytmpncdlhmknkoaa", sum := "e3de10f841cf22a59e6bcb680070ec673c58c709a34c5a9977bf61750c1d29da", func := "treasury/treasurylaw25.BatchBack", spec := "batchBack", inPlace := ["slices.overlaps[treasury/api.Payment]", "slices.overlaps[int]"], unfollowed := true, recurses := true, apart := false, narrowed := true }
def BatchBackUptoSaid : Prop := batchBackUptoRow.holds Try.pinned (OpenSpec.upto batchBackSpec)

/-- 'treasurylaw25.BatchExact', WHERE WHAT IT READS IS OF BULK AT MOST 1048576: true; the input reads as it did. -/
def batchExactUptoRow : OpenClaim := { program := "ytmpncdlhmknkoaa", sum := "e3de10f841cf22a59e6bcb680070ec673c58c709a34c5a9977bf61750c1d29da", func := "treasury/treasurylaw25.BatchExact", spec := "batchExact", inPlace := ["slices.overlaps[treasury/api.Payment]", "slices.overlaps[int]"], unfollowed := true, recurses := true, apart := false, narrowed := true }
def BatchExactUptoSaid : Prop := batchExactUptoRow.holds Try.pinned (OpenSpec.upto batchExactSpec)

end Rows
end Go.Proofs.Ytmpncdlhmknkoaa
