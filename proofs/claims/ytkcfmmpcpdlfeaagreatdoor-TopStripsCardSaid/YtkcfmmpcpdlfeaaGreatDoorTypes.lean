/- The structs of this seat's program. Printed by wip/types.py. -/
import Derived.Test.YtkcfmmpcpdlfeaaGreatDoorPaC
set_option linter.unusedSimpArgs false
set_option linter.unusedVariables false
namespace Go.Proofs.YtkcfmmpcpdlfeaaGreatDoor
open Go.PA
open Go.RowKit

abbrev iv (n : Int) : AV := .sc (.int .i64 n)
abbrev bv (b : Bool) : AV := .sc (.bool b)
def encI (n : Int) : List AV := [iv n]
def encS (s : ByteArray) : List AV := [.sc (.string s)]
theorem imm_encI (n : Int) (c : AV) (h : c ∈ encI n) : Imm c := by simp [encI] at h; subst h; exact .sc
theorem imm_encS (n : ByteArray) (c : AV) (h : c ∈ encS n) : Imm c := by simp [encS] at h; subst h; exact .sc

structure TSecurity where
  ID : Int
  Unit : Int
  Issued : Int
  Maturity : Int
  Rate : Int
  Every : Int
  Indexed : Bool
deriving DecidableEq, Inhabited
def TSecurity.cells (x : TSecurity) : List AV := [iv x.ID, iv x.Unit, iv x.Issued, iv x.Maturity, iv x.Rate, iv x.Every, bv x.Indexed]
theorem TSecurity.len (x : TSecurity) : x.cells.length = 7 := by simp [TSecurity.cells]
theorem TSecurity.imm (x : TSecurity) (c : AV) (h : c ∈ x.cells) : Imm c := by
  simp only [TSecurity.cells, List.mem_cons, List.not_mem_nil, or_false] at h
  rcases h with rfl | rfl | rfl | rfl | rfl | rfl | rfl
  · exact .sc
  · exact .sc
  · exact .sc
  · exact .sc
  · exact .sc
  · exact .sc
  · exact .sc
theorem TSecurity.cel (x : TSecurity) : x.cells.all AV.cellish = true := by simp [TSecurity.cells, go_sem]
structure THolding where
  Security : Int
  Holder : Int
  Amount : Int
deriving DecidableEq, Inhabited
def THolding.cells (x : THolding) : List AV := [iv x.Security, iv x.Holder, iv x.Amount]
theorem THolding.len (x : THolding) : x.cells.length = 3 := by simp [THolding.cells]
theorem THolding.imm (x : THolding) (c : AV) (h : c ∈ x.cells) : Imm c := by
  simp only [THolding.cells, List.mem_cons, List.not_mem_nil, or_false] at h
  rcases h with rfl | rfl | rfl
  · exact .sc
  · exact .sc
  · exact .sc
theorem THolding.cel (x : THolding) : x.cells.all AV.cellish = true := by simp [THolding.cells, go_sem]
structure TMove where
  Number : Int
  Day : Int
  Kind : Int
  Security : Int
  From : Int
  To : Int
  Amount : Int
deriving DecidableEq, Inhabited
def TMove.cells (x : TMove) : List AV := [iv x.Number, iv x.Day, iv x.Kind, iv x.Security, iv x.From, iv x.To, iv x.Amount]
theorem TMove.len (x : TMove) : x.cells.length = 7 := by simp [TMove.cells]
theorem TMove.imm (x : TMove) (c : AV) (h : c ∈ x.cells) : Imm c := by
  simp only [TMove.cells, List.mem_cons, List.not_mem_nil, or_false] at h
  rcases h with rfl | rfl | rfl | rfl | rfl | rfl | rfl
  · exact .sc
  · exact .sc
  · exact .sc
  · exact .sc
  · exact .sc
  · exact .sc
  · exact .sc
theorem TMove.cel (x : TMove) : x.cells.all AV.cellish = true := by simp [TMove.cells, go_sem]
structure TRegister where
  Securities : List TSecurity
  Holdings : List THolding
  Moves : List TMove
deriving DecidableEq, Inhabited
def TRegister.cells (x : TRegister) : List AV := [.list 7 (encL TSecurity.cells x.Securities), .list 3 (encL THolding.cells x.Holdings), .list 7 (encL TMove.cells x.Moves)]
theorem TRegister.len (x : TRegister) : x.cells.length = 3 := by simp [TRegister.cells]
theorem TRegister.imm (x : TRegister) (c : AV) (h : c ∈ x.cells) : Imm c := by
  simp only [TRegister.cells, List.mem_cons, List.not_mem_nil, or_false] at h
  rcases h with rfl | rfl | rfl
  · exact imm_encL _ (TSecurity.imm) _
  · exact imm_encL _ (THolding.imm) _
  · exact imm_encL _ (TMove.imm) _
theorem TRegister.cel (x : TRegister) : x.cells.all AV.cellish = true := by simp [TRegister.cells, go_sem]
structure TStrip where
  Security : Int
  Day : Int
  Principal : Bool
  Holder : Int
  Amount : Int
deriving DecidableEq, Inhabited
def TStrip.cells (x : TStrip) : List AV := [iv x.Security, iv x.Day, bv x.Principal, iv x.Holder, iv x.Amount]
theorem TStrip.len (x : TStrip) : x.cells.length = 5 := by simp [TStrip.cells]
theorem TStrip.imm (x : TStrip) (c : AV) (h : c ∈ x.cells) : Imm c := by
  simp only [TStrip.cells, List.mem_cons, List.not_mem_nil, or_false] at h
  rcases h with rfl | rfl | rfl | rfl | rfl
  · exact .sc
  · exact .sc
  · exact .sc
  · exact .sc
  · exact .sc
theorem TStrip.cel (x : TStrip) : x.cells.all AV.cellish = true := by simp [TStrip.cells, go_sem]
structure TVault where
  Register : TRegister
  Strips : List TStrip
deriving DecidableEq, Inhabited
def TVault.cells (x : TVault) : List AV := x.Register.cells ++ [.list 5 (encL TStrip.cells x.Strips)]
theorem TVault.len (x : TVault) : x.cells.length = 4 := by simp [TVault.cells, TRegister.len]
theorem TVault.imm (x : TVault) (c : AV) (h : c ∈ x.cells) : Imm c := by
  simp only [TVault.cells, List.mem_append, List.mem_cons, List.not_mem_nil, or_false] at h
  rcases h with (h) | (rfl)
  · exact TRegister.imm _ c h
  · exact imm_encL _ (TStrip.imm) _
theorem TVault.cel (x : TVault) : x.cells.all AV.cellish = true := by simp only [TVault.cells, List.all_append, List.all_cons, List.all_nil, cel_sc, cel_list, Value.oneCell', Bool.and_true, Bool.true_and, TRegister.cel]
structure TDue where
  Day : Int
  Security : Int
  Holder : Int
  Kind : Int
  Amount : Int
deriving DecidableEq, Inhabited
def TDue.cells (x : TDue) : List AV := [iv x.Day, iv x.Security, iv x.Holder, iv x.Kind, iv x.Amount]
theorem TDue.len (x : TDue) : x.cells.length = 5 := by simp [TDue.cells]
theorem TDue.imm (x : TDue) (c : AV) (h : c ∈ x.cells) : Imm c := by
  simp only [TDue.cells, List.mem_cons, List.not_mem_nil, or_false] at h
  rcases h with rfl | rfl | rfl | rfl | rfl
  · exact .sc
  · exact .sc
  · exact .sc
  · exact .sc
  · exact .sc
theorem TDue.cel (x : TDue) : x.cells.all AV.cellish = true := by simp [TDue.cells, go_sem]
structure TSub where
  ID : Int
  Balance : Int
deriving DecidableEq, Inhabited
def TSub.cells (x : TSub) : List AV := [iv x.ID, iv x.Balance]
theorem TSub.len (x : TSub) : x.cells.length = 2 := by simp [TSub.cells]
theorem TSub.imm (x : TSub) (c : AV) (h : c ∈ x.cells) : Imm c := by
  simp only [TSub.cells, List.mem_cons, List.not_mem_nil, or_false] at h
  rcases h with rfl | rfl
  · exact .sc
  · exact .sc
theorem TSub.cel (x : TSub) : x.cells.all AV.cellish = true := by simp [TSub.cells, go_sem]
structure TEntry where
  Number : Int
  Day : Int
  From : Int
  To : Int
  Amount : Int
  Ref : Int
deriving DecidableEq, Inhabited
def TEntry.cells (x : TEntry) : List AV := [iv x.Number, iv x.Day, iv x.From, iv x.To, iv x.Amount, iv x.Ref]
theorem TEntry.len (x : TEntry) : x.cells.length = 6 := by simp [TEntry.cells]
theorem TEntry.imm (x : TEntry) (c : AV) (h : c ∈ x.cells) : Imm c := by
  simp only [TEntry.cells, List.mem_cons, List.not_mem_nil, or_false] at h
  rcases h with rfl | rfl | rfl | rfl | rfl | rfl
  · exact .sc
  · exact .sc
  · exact .sc
  · exact .sc
  · exact .sc
  · exact .sc
theorem TEntry.cel (x : TEntry) : x.cells.all AV.cellish = true := by simp [TEntry.cells, go_sem]
structure TAccount where
  Credit : Int
  Subs : List TSub
  Entries : List TEntry
deriving DecidableEq, Inhabited
def TAccount.cells (x : TAccount) : List AV := [iv x.Credit, .list 2 (encL TSub.cells x.Subs), .list 6 (encL TEntry.cells x.Entries)]
theorem TAccount.len (x : TAccount) : x.cells.length = 3 := by simp [TAccount.cells]
theorem TAccount.imm (x : TAccount) (c : AV) (h : c ∈ x.cells) : Imm c := by
  simp only [TAccount.cells, List.mem_cons, List.not_mem_nil, or_false] at h
  rcases h with rfl | rfl | rfl
  · exact .sc
  · exact imm_encL _ (TSub.imm) _
  · exact imm_encL _ (TEntry.imm) _
theorem TAccount.cel (x : TAccount) : x.cells.all AV.cellish = true := by simp [TAccount.cells, go_sem]
structure TPayment where
  Warrant : Int
  Payee : Int
  Amount : Int
  Due : Int
  Sub : Int
deriving DecidableEq, Inhabited
def TPayment.cells (x : TPayment) : List AV := [iv x.Warrant, iv x.Payee, iv x.Amount, iv x.Due, iv x.Sub]
theorem TPayment.len (x : TPayment) : x.cells.length = 5 := by simp [TPayment.cells]
theorem TPayment.imm (x : TPayment) (c : AV) (h : c ∈ x.cells) : Imm c := by
  simp only [TPayment.cells, List.mem_cons, List.not_mem_nil, or_false] at h
  rcases h with rfl | rfl | rfl | rfl | rfl
  · exact .sc
  · exact .sc
  · exact .sc
  · exact .sc
  · exact .sc
theorem TPayment.cel (x : TPayment) : x.cells.all AV.cellish = true := by simp [TPayment.cells, go_sem]
structure TBatch where
  Number : Int
  Day : Int
  Payments : List TPayment
deriving DecidableEq, Inhabited
def TBatch.cells (x : TBatch) : List AV := [iv x.Number, iv x.Day, .list 5 (encL TPayment.cells x.Payments)]
theorem TBatch.len (x : TBatch) : x.cells.length = 3 := by simp [TBatch.cells]
theorem TBatch.imm (x : TBatch) (c : AV) (h : c ∈ x.cells) : Imm c := by
  simp only [TBatch.cells, List.mem_cons, List.not_mem_nil, or_false] at h
  rcases h with rfl | rfl | rfl
  · exact .sc
  · exact .sc
  · exact imm_encL _ (TPayment.imm) _
theorem TBatch.cel (x : TBatch) : x.cells.all AV.cellish = true := by simp [TBatch.cells, go_sem]
structure TQueue where
  Waiting : List TPayment
  Known : List Int
  Batches : List TBatch
deriving DecidableEq, Inhabited
def TQueue.cells (x : TQueue) : List AV := [.list 5 (encL TPayment.cells x.Waiting), .list 1 (encL encI x.Known), .list 3 (encL TBatch.cells x.Batches)]
theorem TQueue.len (x : TQueue) : x.cells.length = 3 := by simp [TQueue.cells]
theorem TQueue.imm (x : TQueue) (c : AV) (h : c ∈ x.cells) : Imm c := by
  simp only [TQueue.cells, List.mem_cons, List.not_mem_nil, or_false] at h
  rcases h with rfl | rfl | rfl
  · exact imm_encL _ (TPayment.imm) _
  · exact imm_encL _ (imm_encI) _
  · exact imm_encL _ (TBatch.imm) _
theorem TQueue.cel (x : TQueue) : x.cells.all AV.cellish = true := by simp [TQueue.cells, go_sem]
structure TItem where
  Payment : TPayment
  State : Int
  Attempts : Int
deriving DecidableEq, Inhabited
def TItem.cells (x : TItem) : List AV := x.Payment.cells ++ [iv x.State, iv x.Attempts]
theorem TItem.len (x : TItem) : x.cells.length = 7 := by simp [TItem.cells, TPayment.len]
theorem TItem.imm (x : TItem) (c : AV) (h : c ∈ x.cells) : Imm c := by
  simp only [TItem.cells, List.mem_append, List.mem_cons, List.not_mem_nil, or_false] at h
  rcases h with (h) | (rfl | rfl)
  · exact TPayment.imm _ c h
  · exact .sc
  · exact .sc
theorem TItem.cel (x : TItem) : x.cells.all AV.cellish = true := by simp only [TItem.cells, List.all_append, List.all_cons, List.all_nil, cel_sc, cel_list, Value.oneCell', Bool.and_true, Bool.true_and, TPayment.cel]
structure TDesk where
  Account : TAccount
  Queue : TQueue
  Items : List TItem
deriving DecidableEq, Inhabited
def TDesk.cells (x : TDesk) : List AV := x.Account.cells ++ x.Queue.cells ++ [.list 7 (encL TItem.cells x.Items)]
theorem TDesk.len (x : TDesk) : x.cells.length = 7 := by simp [TDesk.cells, TAccount.len, TQueue.len]
theorem TDesk.imm (x : TDesk) (c : AV) (h : c ∈ x.cells) : Imm c := by
  simp only [TDesk.cells, List.mem_append, List.mem_cons, List.not_mem_nil, or_false] at h
  rcases h with ((h) | (h)) | (rfl)
  · exact TAccount.imm _ c h
  · exact TQueue.imm _ c h
  · exact imm_encL _ (TItem.imm) _
theorem TDesk.cel (x : TDesk) : x.cells.all AV.cellish = true := by simp only [TDesk.cells, List.all_append, List.all_cons, List.all_nil, cel_sc, cel_list, Value.oneCell', Bool.and_true, Bool.true_and, TAccount.cel, TQueue.cel]
structure TClaim where
  ID : Int
  Payer : Int
  Amount : Int
  Open : Int
  Day : Int
  Code : ByteArray
deriving DecidableEq, Inhabited
def TClaim.cells (x : TClaim) : List AV := [iv x.ID, iv x.Payer, iv x.Amount, iv x.Open, iv x.Day, .sc (.string x.Code)]
theorem TClaim.len (x : TClaim) : x.cells.length = 6 := by simp [TClaim.cells]
theorem TClaim.imm (x : TClaim) (c : AV) (h : c ∈ x.cells) : Imm c := by
  simp only [TClaim.cells, List.mem_cons, List.not_mem_nil, or_false] at h
  rcases h with rfl | rfl | rfl | rfl | rfl | rfl
  · exact .sc
  · exact .sc
  · exact .sc
  · exact .sc
  · exact .sc
  · exact .sc
theorem TClaim.cel (x : TClaim) : x.cells.all AV.cellish = true := by simp [TClaim.cells, go_sem]
structure TIncome where
  Number : Int
  Day : Int
  Payer : Int
  Amount : Int
  Claim : Int
deriving DecidableEq, Inhabited
def TIncome.cells (x : TIncome) : List AV := [iv x.Number, iv x.Day, iv x.Payer, iv x.Amount, iv x.Claim]
theorem TIncome.len (x : TIncome) : x.cells.length = 5 := by simp [TIncome.cells]
theorem TIncome.imm (x : TIncome) (c : AV) (h : c ∈ x.cells) : Imm c := by
  simp only [TIncome.cells, List.mem_cons, List.not_mem_nil, or_false] at h
  rcases h with rfl | rfl | rfl | rfl | rfl
  · exact .sc
  · exact .sc
  · exact .sc
  · exact .sc
  · exact .sc
theorem TIncome.cel (x : TIncome) : x.cells.all AV.cellish = true := by simp [TIncome.cells, go_sem]
structure TMatch where
  Income : Int
  Claim : Int
  Amount : Int
deriving DecidableEq, Inhabited
def TMatch.cells (x : TMatch) : List AV := [iv x.Income, iv x.Claim, iv x.Amount]
theorem TMatch.len (x : TMatch) : x.cells.length = 3 := by simp [TMatch.cells]
theorem TMatch.imm (x : TMatch) (c : AV) (h : c ∈ x.cells) : Imm c := by
  simp only [TMatch.cells, List.mem_cons, List.not_mem_nil, or_false] at h
  rcases h with rfl | rfl | rfl
  · exact .sc
  · exact .sc
  · exact .sc
theorem TMatch.cel (x : TMatch) : x.cells.all AV.cellish = true := by simp [TMatch.cells, go_sem]
structure TCash where
  Claims : List TClaim
  Incomes : List TIncome
  Matches : List TMatch
  Loose : List Int
deriving DecidableEq, Inhabited
def TCash.cells (x : TCash) : List AV := [.list 6 (encL TClaim.cells x.Claims), .list 5 (encL TIncome.cells x.Incomes), .list 3 (encL TMatch.cells x.Matches), .list 1 (encL encI x.Loose)]
theorem TCash.len (x : TCash) : x.cells.length = 4 := by simp [TCash.cells]
theorem TCash.imm (x : TCash) (c : AV) (h : c ∈ x.cells) : Imm c := by
  simp only [TCash.cells, List.mem_cons, List.not_mem_nil, or_false] at h
  rcases h with rfl | rfl | rfl | rfl
  · exact imm_encL _ (TClaim.imm) _
  · exact imm_encL _ (TIncome.imm) _
  · exact imm_encL _ (TMatch.imm) _
  · exact imm_encL _ (imm_encI) _
theorem TCash.cel (x : TCash) : x.cells.all AV.cellish = true := by simp [TCash.cells, go_sem]
structure TPosting where
  Number : Int
  Day : Int
  Entity : Int
  Debit : Int
  Credit : Int
  Amount : Int
  Partner : Int
  Ref : Int
deriving DecidableEq, Inhabited
def TPosting.cells (x : TPosting) : List AV := [iv x.Number, iv x.Day, iv x.Entity, iv x.Debit, iv x.Credit, iv x.Amount, iv x.Partner, iv x.Ref]
theorem TPosting.len (x : TPosting) : x.cells.length = 8 := by simp [TPosting.cells]
theorem TPosting.imm (x : TPosting) (c : AV) (h : c ∈ x.cells) : Imm c := by
  simp only [TPosting.cells, List.mem_cons, List.not_mem_nil, or_false] at h
  rcases h with rfl | rfl | rfl | rfl | rfl | rfl | rfl | rfl
  · exact .sc
  · exact .sc
  · exact .sc
  · exact .sc
  · exact .sc
  · exact .sc
  · exact .sc
  · exact .sc
theorem TPosting.cel (x : TPosting) : x.cells.all AV.cellish = true := by simp [TPosting.cells, go_sem]
structure TLedger where
  Postings : List TPosting
deriving DecidableEq, Inhabited
def TLedger.cells (x : TLedger) : List AV := [.list 8 (encL TPosting.cells x.Postings)]
theorem TLedger.len (x : TLedger) : x.cells.length = 1 := by simp [TLedger.cells]
theorem TLedger.imm (x : TLedger) (c : AV) (h : c ∈ x.cells) : Imm c := by
  simp only [TLedger.cells, List.mem_cons, List.not_mem_nil, or_false] at h
  rcases h with rfl
  · exact imm_encL _ (TPosting.imm) _
theorem TLedger.cel (x : TLedger) : x.cells.all AV.cellish = true := by simp [TLedger.cells, go_sem]
structure TState where
  Desk : TDesk
  Cash : TCash
  Register : TRegister
  Ledger : TLedger
deriving DecidableEq, Inhabited
def TState.cells (x : TState) : List AV := x.Desk.cells ++ x.Cash.cells ++ x.Register.cells ++ x.Ledger.cells
theorem TState.len (x : TState) : x.cells.length = 15 := by simp [TState.cells, TDesk.len, TCash.len, TRegister.len, TLedger.len]
theorem TState.imm (x : TState) (c : AV) (h : c ∈ x.cells) : Imm c := by
  simp only [TState.cells, List.mem_append, List.mem_cons, List.not_mem_nil, or_false] at h
  rcases h with (((h) | (h)) | (h)) | (h)
  · exact TDesk.imm _ c h
  · exact TCash.imm _ c h
  · exact TRegister.imm _ c h
  · exact TLedger.imm _ c h
theorem TState.cel (x : TState) : x.cells.all AV.cellish = true := by simp only [TState.cells, List.all_append, List.all_cons, List.all_nil, cel_sc, cel_list, Value.oneCell', Bool.and_true, Bool.true_and, TDesk.cel, TCash.cel, TRegister.cel, TLedger.cel]
structure TDeed where
  Kind : Int
  Day : Int
  Sub : Int
  Who : Int
  Ref : Int
  Amount : Int
  Due : Int
deriving DecidableEq, Inhabited
def TDeed.cells (x : TDeed) : List AV := [iv x.Kind, iv x.Day, iv x.Sub, iv x.Who, iv x.Ref, iv x.Amount, iv x.Due]
theorem TDeed.len (x : TDeed) : x.cells.length = 7 := by simp [TDeed.cells]
theorem TDeed.imm (x : TDeed) (c : AV) (h : c ∈ x.cells) : Imm c := by
  simp only [TDeed.cells, List.mem_cons, List.not_mem_nil, or_false] at h
  rcases h with rfl | rfl | rfl | rfl | rfl | rfl | rfl
  · exact .sc
  · exact .sc
  · exact .sc
  · exact .sc
  · exact .sc
  · exact .sc
  · exact .sc
theorem TDeed.cel (x : TDeed) : x.cells.all AV.cellish = true := by simp [TDeed.cells, go_sem]
structure TFinding where
  Layer : Int
  Number : Int
deriving DecidableEq, Inhabited
def TFinding.cells (x : TFinding) : List AV := [iv x.Layer, iv x.Number]
theorem TFinding.len (x : TFinding) : x.cells.length = 2 := by simp [TFinding.cells]
theorem TFinding.imm (x : TFinding) (c : AV) (h : c ∈ x.cells) : Imm c := by
  simp only [TFinding.cells, List.mem_cons, List.not_mem_nil, or_false] at h
  rcases h with rfl | rfl
  · exact .sc
  · exact .sc
theorem TFinding.cel (x : TFinding) : x.cells.all AV.cellish = true := by simp [TFinding.cells, go_sem]

end Go.Proofs.YtkcfmmpcpdlfeaaGreatDoor
