/-
  No cell of these rows narrows 'for every input' (looked for: loops, veiled, ifaces, maps, wideKeys, modest, calm, conditions, laid).
  DERIVED. THE GIVEN ROWS OF THIS SEAT. 6 by the template 'for every input the law returns true; each argument reads behind the call as it read before'; 0 by the template 'total and deterministic' (their statements: YtmpncdlhmknkoaaGreatTotals.lean).
  GIVEN WITH THE SEED: the statements are not yours to turn. If you find one false, say at which input.
  Laid BY PROGRAM, IN A SANDBOX (cutbox-rows.mjs): the forced cells as the released guide's own fill.sh prints them over the translation 1e5e5c6cc00ac034… (all of the seat's roots in one cut). By AI agents, Wed Nov 11 2026. No macro, syntax, notation, axiom, sorry.
-/
import Derived.Test.YtmpncdlhmknkoaaGreatChecked
import GoSem.Claim
import GoSem.ClaimJoined
import GoSem.ClaimMapViews
import Derived.JoinedTies
import Derived.KernelRfl
namespace Go.Proofs.YtmpncdlhmknkoaaGreat
/- THE CELL 'sum', in the pinned program and in every row, IS THE sha256 OF THE DUMP (.gsa) THAT YtmpncdlhmknkoaaGreatProg.lean LOADS. Nothing in Lean hashes anything: it is a label: what it is worth is what the hold of that sum in a sandbox is worth. -/
noncomputable def Tryz.pinned : Pinned := { name := "ytmpncdlhmknkoaagreat", sum := "1e5e5c6cc00ac034beec1428469489d1fd47a7479cbf3c6384f011ca8200cf0b", checked := Tryz.checked }
namespace Rows
def none {H : Type} : Left H := { results := [], args := [] }

/-- 'treasurylaw26.RecallOnce': WHATEVER THE INPUT: true; the input reads as it did. -/
def recallOnceSpec : ChangeSpec := { name := "recallOnce", fn := fun _ => fun
  | [d] => { results := [.lit (.bool true)], args := [d] }
  | _ => none }
def recallOnceRow : OpenClaim := { program := "ytmpncdlhmknkoaagreat", sum := "1e5e5c6cc00ac034beec1428469489d1fd47a7479cbf3c6384f011ca8200cf0b", func := "treasury/treasurylaw26.RecallOnce", spec := "recallOnce", inPlace := ["slices.overlaps[treasury/api.Payment]", "slices.overlaps[int]", "slices.overlaps[treasury/api.Item]"], unfollowed := true, recurses := true, apart := false }
def RecallOnceSaid : Prop := recallOnceRow.holds Tryz.pinned (OpenSpec.ofChange recallOnceSpec)

/-- ITS FALSE NEIGHBOUR: 'it returns false'. Refute it at one input. -/
def recallOnceWrong : ChangeSpec := { name := "recallOnce", fn := fun _ => fun
  | [d] => { results := [.lit (.bool false)], args := [d] }
  | _ => none }
def RecallOnceWrongFalsely : Prop := recallOnceRow.holds Tryz.pinned (OpenSpec.ofChange recallOnceWrong)

/-- 'treasurylaw26.RecallSends': WHATEVER THE INPUT: true; the input reads as it did. -/
def recallSendsSpec : ChangeSpec := { name := "recallSends", fn := fun _ => fun
  | [d] => { results := [.lit (.bool true)], args := [d] }
  | _ => none }
def recallSendsRow : OpenClaim := { program := "ytmpncdlhmknkoaagreat", sum := "1e5e5c6cc00ac034beec1428469489d1fd47a7479cbf3c6384f011ca8200cf0b", func := "treasury/treasurylaw26.RecallSends", spec := "recallSends", inPlace := ["slices.overlaps[treasury/api.Payment]", "slices.overlaps[int]", "slices.overlaps[treasury/api.Item]"], unfollowed := true, recurses := true, apart := false }
def RecallSendsSaid : Prop := recallSendsRow.holds Tryz.pinned (OpenSpec.ofChange recallSendsSpec)

/-- ITS FALSE NEIGHBOUR: 'it returns false'. Refute it at one input. -/
def recallSendsWrong : ChangeSpec := { name := "recallSends", fn := fun _ => fun
  | [d] => { results := [.lit (.bool false)], args := [d] }
  | _ => none }
def RecallSendsWrongFalsely : Prop := recallSendsRow.holds Tryz.pinned (OpenSpec.ofChange recallSendsWrong)

/-- 'treasurylaw26.RecallAgain': WHATEVER THE INPUT: true; the input reads as it did. -/
def recallAgainSpec : ChangeSpec := { name := "recallAgain", fn := fun _ => fun
  | [d] => { results := [.lit (.bool true)], args := [d] }
  | _ => none }
def recallAgainRow : OpenClaim := { program := "ytmpncdlhmknkoaagreat", sum := "1e5e5c6cc00ac034beec1428469489d1fd47a7479cbf3c6384f011ca8200cf0b", func := "treasury/treasurylaw26.RecallAgain", spec := "recallAgain", inPlace := ["slices.overlaps[treasury/api.Payment]", "slices.overlaps[int]", "slices.overlaps[treasury/api.Item]"], unfollowed := true, recurses := true, apart := false }
def RecallAgainSaid : Prop := recallAgainRow.holds Tryz.pinned (OpenSpec.ofChange recallAgainSpec)

/-- ITS FALSE NEIGHBOUR: 'it returns false'. Refute it at one input. -/
def recallAgainWrong : ChangeSpec := { name := "recallAgain", fn := fun _ => fun
  | [d] => { results := [.lit (.bool false)], args := [d] }
  | _ => none }
def RecallAgainWrongFalsely : Prop := recallAgainRow.holds Tryz.pinned (OpenSpec.ofChange recallAgainWrong)

/-- 'treasurylaw26.RecallSums': WHATEVER THE INPUT: true; the input reads as it did. -/
def recallSumsSpec : ChangeSpec := { name := "recallSums", fn := fun _ => fun
  | [d] => { results := [.lit (.bool true)], args := [d] }
  | _ => none }
def recallSumsRow : OpenClaim := { program := "ytmpncdlhmknkoaagreat", sum := "1e5e5c6cc00ac034beec1428469489d1fd47a7479cbf3c6384f011ca8200cf0b", func := "treasury/treasurylaw26.RecallSums", spec := "recallSums", inPlace := ["slices.overlaps[treasury/api.Payment]", "slices.overlaps[int]", "slices.overlaps[treasury/api.Item]"], unfollowed := true, recurses := true, apart := false }
def RecallSumsSaid : Prop := recallSumsRow.holds Tryz.pinned (OpenSpec.ofChange recallSumsSpec)

/-- ITS FALSE NEIGHBOUR: 'it returns false'. Refute it at one input. -/
def recallSumsWrong : ChangeSpec := { name := "recallSums", fn := fun _ => fun
  | [d] => { results := [.lit (.bool false)], args := [d] }
  | _ => none }
def RecallSumsWrongFalsely : Prop := recallSumsRow.holds Tryz.pinned (OpenSpec.ofChange recallSumsWrong)

/-- 'treasurylaw26.RecallStages': WHATEVER THE INPUT: true; the input reads as it did. -/
def recallStagesSpec : ChangeSpec := { name := "recallStages", fn := fun _ => fun
  | [d] => { results := [.lit (.bool true)], args := [d] }
  | _ => none }
def recallStagesRow : OpenClaim := { program := "ytmpncdlhmknkoaagreat", sum := "1e5e5c6cc00ac034beec1428469489d1fd47a7479cbf3c6384f011ca8200cf0b", func := "treasury/treasurylaw26.RecallStages", spec := "recallStages", inPlace := ["slices.overlaps[treasury/api.Payment]", "slices.overlaps[int]", "slices.overlaps[treasury/api.Item]"], unfollowed := true, recurses := true, apart := false }
def RecallStagesSaid : Prop := recallStagesRow.holds Tryz.pinned (OpenSpec.ofChange recallStagesSpec)

/-- ITS FALSE NEIGHBOUR: 'it returns false'. Refute it at one input. -/
def recallStagesWrong : ChangeSpec := { name := "recallStages", fn := fun _ => fun
  | [d] => { results := [.lit (.bool false)], args := [d] }
  | _ => none }
def RecallStagesWrongFalsely : Prop := recallStagesRow.holds Tryz.pinned (OpenSpec.ofChange recallStagesWrong)

/-- 'treasurylaw26.RecallExact': WHATEVER THE INPUT: true; the input reads as it did. -/
def recallExactSpec : ChangeSpec := { name := "recallExact", fn := fun _ => fun
  | [d1, d2, d3, d4, d5] => { results := [.lit (.bool true)], args := [d1, d2, d3, d4, d5] }
  | _ => none }
def recallExactRow : OpenClaim := { program := "ytmpncdlhmknkoaagreat", sum := "1e5e5c6cc00ac034beec1428469489d1fd47a7479cbf3c6384f011ca8200cf0b", func := "treasury/treasurylaw26.RecallExact", spec := "recallExact", inPlace := ["slices.overlaps[treasury/api.Payment]", "slices.overlaps[int]", "slices.overlaps[treasury/api.Item]"], unfollowed := true, recurses := true, apart := false }
def RecallExactSaid : Prop := recallExactRow.holds Tryz.pinned (OpenSpec.ofChange recallExactSpec)

/-- ITS FALSE NEIGHBOUR: 'it returns false'. Refute it at one input. -/
def recallExactWrong : ChangeSpec := { name := "recallExact", fn := fun _ => fun
  | [d1, d2, d3, d4, d5] => { results := [.lit (.bool false)], args := [d1, d2, d3, d4, d5] }
  | _ => none }
def RecallExactWrongFalsely : Prop := recallExactRow.holds Tryz.pinned (OpenSpec.ofChange recallExactWrong)

/- THE SECOND FORM. 'bulk': how many values and letters a reading holds, each counted each time it is reached (what is shared counts as often as it is met; a slice's spare places count too). A statement '..UptoSaid' is the law's where the arguments, and the package variables that the reading takes, are together of bulk at most 1048576: NARROWER than '..Said'. Prove '..Said' where nothing that the law and all that it calls make is longer than what came in: it says more and counts as full. Else prove '..UptoSaid'. A law counts once. -/
mutual
def uptoBulk {H : Type} : DataW H → Nat
  | .lit (.string bytes) => bytes.length + 1
  | .lit _ => 1
  | .nil => 1
  | .ptr d => uptoBulk d + 1
  | .slice elems spare => uptoBulkAll elems + uptoBulkAll spare + 1
  | .agg parts => uptoBulkAll parts + 1
  | .iface _ d => uptoBulk d + 1
  | .map entries => uptoBulkEntries entries + 1
  | .held _ => 1
def uptoBulkAll {H : Type} : List (DataW H) → Nat
  | [] => 0
  | d :: r => uptoBulk d + uptoBulkAll r
def uptoBulkEntries {H : Type} : List (Lit × DataW H) → Nat
  | [] => 0
  | x :: r => uptoBulkEntry x + uptoBulkEntries r
def uptoBulkEntry {H : Type} : Lit × DataW H → Nat
  | (.string bytes, d) => bytes.length + uptoBulk d + 1
  | (_, d) => uptoBulk d + 1
 end
def uptoSmall : (H : Type) → List (DataW H) → Bool := fun _ ds => decide (uptoBulkAll ds ≤ 1048576)
def OpenSpec.upto (s : _root_.Go.ChangeSpec) : _root_.Go.OpenSpec := { _root_.Go.OpenSpec.ofChange s with cond := some uptoSmall }

/-- 'treasurylaw26.RecallOnce', WHERE WHAT IT READS IS OF BULK AT MOST 1048576: true; the input reads as it did. -/
def recallOnceUptoRow : OpenClaim := { program := "ytmpncdlhmknkoaagreat", sum := "1e5e5c6cc00ac034beec1428469489d1fd47a7479cbf3c6384f011ca8200cf0b", func := "treasury/treasurylaw26.RecallOnce", spec := "recallOnce", inPlace := ["slices.overlaps[treasury/api.Payment]", "slices.overlaps[int]", "slices.overlaps[treasury/api.Item]"], unfollowed := true, recurses := true, apart := false, narrowed := true }
def RecallOnceUptoSaid : Prop := recallOnceUptoRow.holds Tryz.pinned (OpenSpec.upto recallOnceSpec)

/-- 'treasurylaw26.RecallSends', WHERE WHAT IT READS IS OF BULK AT MOST 1048576: true; the input reads as it did. -/
def recallSendsUptoRow : OpenClaim := { program := "ytmpncdlhmknkoaagreat", sum := "1e5e5c6cc00ac034beec1428469489d1fd47a7479cbf3c6384f011ca8200cf0b", func := "treasury/treasurylaw26.RecallSends", spec := "recallSends", inPlace := ["slices.overlaps[treasury/api.Payment]", "slices.overlaps[int]", "slices.overlaps[treasury/api.Item]"], unfollowed := true, recurses := true, apart := false, narrowed := true }
def RecallSendsUptoSaid : Prop := recallSendsUptoRow.holds Tryz.pinned (OpenSpec.upto recallSendsSpec)

/-- 'treasurylaw26.RecallAgain', WHERE WHAT IT READS IS OF BULK AT MOST 1048576: true; the input reads as it did. -/
def recallAgainUptoRow : OpenClaim := { program := "ytmpncdlhmknkoaagreat", sum := "1e5e5c6cc00ac034beec1428469489d1fd47a7479cbf3c6384f011ca8200cf0b", func := "treasury/treasurylaw26.RecallAgain", spec := "recallAgain", inPlace := ["slices.overlaps[treasury/api.Payment]", "slices.overlaps[int]", "slices.overlaps[treasury/api.Item]"], unfollowed := true, recurses := true, apart := false, narrowed := true }
def RecallAgainUptoSaid : Prop := recallAgainUptoRow.holds Tryz.pinned (OpenSpec.upto recallAgainSpec)

/-- 'treasurylaw26.RecallSums', WHERE WHAT IT READS IS OF BULK AT MOST 1048576: true; the input reads as it did. -/
def recallSumsUptoRow : OpenClaim := { program := "ytmpncdlhmknkoaagreat", sum := "1e5e5c6cc00ac034beec1428469489d1fd47a7479cbf3c6384f011ca8200cf0b", func := "treasury/treasurylaw26.RecallSums", spec := "recallSums", inPlace := ["slices.overlaps[treasury/api.Payment]", "slices.overlaps[int]", "slices.overlaps[treasury/api.Item]"], unfollowed := true, recurses := true, apart := false, narrowed := true }
def RecallSumsUptoSaid : Prop := recallSumsUptoRow.holds Tryz.pinned (OpenSpec.upto recallSumsSpec)

/-- 'treasurylaw26.RecallStages', WHERE WHAT IT READS IS OF BULK AT MOST 1048576: true; the input reads as it did. -/
def recallStagesUptoRow : OpenClaim := { program := "ytmpncdlhmknkoaagreat", sum := "1e5e5c6cc00ac034beec1428469489d1fd47a7479cbf3c6384f011ca8200cf0b", func := "treasury/treasurylaw26.RecallStages", spec := "recallStages", inPlace := ["slices.overlaps[treasury/api.Payment]", "slices.overlaps[int]", "slices.overlaps[treasury/api.Item]"], unfollowed := true, recurses := true, apart := false, narrowed := true }
def RecallStagesUptoSaid : Prop := recallStagesUptoRow.holds Tryz.pinned (OpenSpec.upto recallStagesSpec)

/-- 'treasurylaw26.RecallExact', WHERE WHAT IT READS IS OF BULK AT MOST 1048576: true; the input reads as it did. -/
def recallExactUptoRow : OpenClaim := { program := "ytmpncdlhmknkoaagreat", sum := "1e5e5c6cc00ac034beec1428469489d1fd47a7479cbf3c6384f011ca8200cf0b", func := "treasury/treasurylaw26.RecallExact", spec := "recallExact", inPlace := ["slices.overlaps[treasury/api.Payment]", "slices.overlaps[int]", "slices.overlaps[treasury/api.Item]"], unfollowed := true, recurses := true, apart := false, narrowed := true }
def RecallExactUptoSaid : Prop := recallExactUptoRow.holds Tryz.pinned (OpenSpec.upto recallExactSpec)

end Rows
end Go.Proofs.YtmpncdlhmknkoaaGreat
