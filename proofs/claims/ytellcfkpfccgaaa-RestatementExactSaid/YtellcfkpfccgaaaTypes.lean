/- The structs of this seat's program. Printed by wip/types.py. -/
import Derived.Test.YtellcfkpfccgaaaPaC
set_option linter.unusedSimpArgs false
set_option linter.unusedVariables false
namespace Go.Proofs.Ytellcfkpfccgaaa
open Go.PA
open Go.RowKit

abbrev iv (n : Int) : AV := .sc (.int .i64 n)
abbrev bv (b : Bool) : AV := .sc (.bool b)
def encI (n : Int) : List AV := [iv n]
def encS (s : ByteArray) : List AV := [.sc (.string s)]
theorem imm_encI (n : Int) (c : AV) (h : c ∈ encI n) : Imm c := by simp [encI] at h; subst h; exact .sc
theorem imm_encS (n : ByteArray) (c : AV) (h : c ∈ encS n) : Imm c := by simp [encS] at h; subst h; exact .sc

structure TPosting where
  Number : Int
  Day : Int
  Entity : Int
  Debit : Int
  Credit : Int
  Amount : Int
  Partner : Int
  Ref : Int
deriving DecidableEq, Inhabited
def TPosting.cells (x : TPosting) : List AV := [iv x.Number, iv x.Day, iv x.Entity, iv x.Debit, iv x.Credit, iv x.Amount, iv x.Partner, iv x.Ref]
theorem TPosting.len (x : TPosting) : x.cells.length = 8 := by simp [TPosting.cells]
theorem TPosting.imm (x : TPosting) (c : AV) (h : c ∈ x.cells) : Imm c := by
  simp only [TPosting.cells, List.mem_cons, List.not_mem_nil, or_false] at h
  rcases h with rfl | rfl | rfl | rfl | rfl | rfl | rfl | rfl
  · exact .sc
  · exact .sc
  · exact .sc
  · exact .sc
  · exact .sc
  · exact .sc
  · exact .sc
  · exact .sc
theorem TPosting.cel (x : TPosting) : x.cells.all AV.cellish = true := by simp [TPosting.cells, go_sem]
structure TLedger where
  Postings : List TPosting
deriving DecidableEq, Inhabited
def TLedger.cells (x : TLedger) : List AV := [.list 8 (encL TPosting.cells x.Postings)]
theorem TLedger.len (x : TLedger) : x.cells.length = 1 := by simp [TLedger.cells]
theorem TLedger.imm (x : TLedger) (c : AV) (h : c ∈ x.cells) : Imm c := by
  simp only [TLedger.cells, List.mem_cons, List.not_mem_nil, or_false] at h
  rcases h with rfl
  · exact imm_encL _ (TPosting.imm) _
theorem TLedger.cel (x : TLedger) : x.cells.all AV.cellish = true := by simp [TLedger.cells, go_sem]
structure TBalance where
  Account : Int
  Amount : Int
deriving DecidableEq, Inhabited
def TBalance.cells (x : TBalance) : List AV := [iv x.Account, iv x.Amount]
theorem TBalance.len (x : TBalance) : x.cells.length = 2 := by simp [TBalance.cells]
theorem TBalance.imm (x : TBalance) (c : AV) (h : c ∈ x.cells) : Imm c := by
  simp only [TBalance.cells, List.mem_cons, List.not_mem_nil, or_false] at h
  rcases h with rfl | rfl
  · exact .sc
  · exact .sc
theorem TBalance.cel (x : TBalance) : x.cells.all AV.cellish = true := by simp [TBalance.cells, go_sem]
structure TStatement where
  Assets : Int
  Liabilities : Int
  Worth : Int
  Revenue : Int
  Expense : Int
deriving DecidableEq, Inhabited
def TStatement.cells (x : TStatement) : List AV := [iv x.Assets, iv x.Liabilities, iv x.Worth, iv x.Revenue, iv x.Expense]
theorem TStatement.len (x : TStatement) : x.cells.length = 5 := by simp [TStatement.cells]
theorem TStatement.imm (x : TStatement) (c : AV) (h : c ∈ x.cells) : Imm c := by
  simp only [TStatement.cells, List.mem_cons, List.not_mem_nil, or_false] at h
  rcases h with rfl | rfl | rfl | rfl | rfl
  · exact .sc
  · exact .sc
  · exact .sc
  · exact .sc
  · exact .sc
theorem TStatement.cel (x : TStatement) : x.cells.all AV.cellish = true := by simp [TStatement.cells, go_sem]
structure TPresented where
  Year : Int
  Version : Int
  Statement : TStatement
deriving DecidableEq, Inhabited
def TPresented.cells (x : TPresented) : List AV := [iv x.Year, iv x.Version] ++ x.Statement.cells
theorem TPresented.len (x : TPresented) : x.cells.length = 7 := by simp [TPresented.cells, TStatement.len]
theorem TPresented.imm (x : TPresented) (c : AV) (h : c ∈ x.cells) : Imm c := by
  simp only [TPresented.cells, List.mem_append, List.mem_cons, List.not_mem_nil, or_false] at h
  rcases h with (rfl | rfl) | (h)
  · exact .sc
  · exact .sc
  · exact TStatement.imm _ c h
theorem TPresented.cel (x : TPresented) : x.cells.all AV.cellish = true := by simp only [TPresented.cells, List.all_append, List.all_cons, List.all_nil, cel_sc, cel_list, Value.oneCell', Bool.and_true, Bool.true_and, TStatement.cel]
structure TCorrection where
  Year : Int
  Found : Int
  Postings : List TPosting
deriving DecidableEq, Inhabited
def TCorrection.cells (x : TCorrection) : List AV := [iv x.Year, iv x.Found, .list 8 (encL TPosting.cells x.Postings)]
theorem TCorrection.len (x : TCorrection) : x.cells.length = 3 := by simp [TCorrection.cells]
theorem TCorrection.imm (x : TCorrection) (c : AV) (h : c ∈ x.cells) : Imm c := by
  simp only [TCorrection.cells, List.mem_cons, List.not_mem_nil, or_false] at h
  rcases h with rfl | rfl | rfl
  · exact .sc
  · exact .sc
  · exact imm_encL _ (TPosting.imm) _
theorem TCorrection.cel (x : TCorrection) : x.cells.all AV.cellish = true := by simp [TCorrection.cells, go_sem]
structure THistory where
  Ledger : TLedger
  Presented : List TPresented
  Corrections : List TCorrection
deriving DecidableEq, Inhabited
def THistory.cells (x : THistory) : List AV := x.Ledger.cells ++ [.list 7 (encL TPresented.cells x.Presented), .list 3 (encL TCorrection.cells x.Corrections)]
theorem THistory.len (x : THistory) : x.cells.length = 3 := by simp [THistory.cells, TLedger.len]
theorem THistory.imm (x : THistory) (c : AV) (h : c ∈ x.cells) : Imm c := by
  simp only [THistory.cells, List.mem_append, List.mem_cons, List.not_mem_nil, or_false] at h
  rcases h with (h) | (rfl | rfl)
  · exact TLedger.imm _ c h
  · exact imm_encL _ (TPresented.imm) _
  · exact imm_encL _ (TCorrection.imm) _
theorem THistory.cel (x : THistory) : x.cells.all AV.cellish = true := by simp only [THistory.cells, List.all_append, List.all_cons, List.all_nil, cel_sc, cel_list, Value.oneCell', Bool.and_true, Bool.true_and, TLedger.cel]
structure TSub where
  ID : Int
  Balance : Int
deriving DecidableEq, Inhabited
def TSub.cells (x : TSub) : List AV := [iv x.ID, iv x.Balance]
theorem TSub.len (x : TSub) : x.cells.length = 2 := by simp [TSub.cells]
theorem TSub.imm (x : TSub) (c : AV) (h : c ∈ x.cells) : Imm c := by
  simp only [TSub.cells, List.mem_cons, List.not_mem_nil, or_false] at h
  rcases h with rfl | rfl
  · exact .sc
  · exact .sc
theorem TSub.cel (x : TSub) : x.cells.all AV.cellish = true := by simp [TSub.cells, go_sem]
structure TEntry where
  Number : Int
  Day : Int
  From : Int
  To : Int
  Amount : Int
  Ref : Int
deriving DecidableEq, Inhabited
def TEntry.cells (x : TEntry) : List AV := [iv x.Number, iv x.Day, iv x.From, iv x.To, iv x.Amount, iv x.Ref]
theorem TEntry.len (x : TEntry) : x.cells.length = 6 := by simp [TEntry.cells]
theorem TEntry.imm (x : TEntry) (c : AV) (h : c ∈ x.cells) : Imm c := by
  simp only [TEntry.cells, List.mem_cons, List.not_mem_nil, or_false] at h
  rcases h with rfl | rfl | rfl | rfl | rfl | rfl
  · exact .sc
  · exact .sc
  · exact .sc
  · exact .sc
  · exact .sc
  · exact .sc
theorem TEntry.cel (x : TEntry) : x.cells.all AV.cellish = true := by simp [TEntry.cells, go_sem]
structure TAccount where
  Credit : Int
  Subs : List TSub
  Entries : List TEntry
deriving DecidableEq, Inhabited
def TAccount.cells (x : TAccount) : List AV := [iv x.Credit, .list 2 (encL TSub.cells x.Subs), .list 6 (encL TEntry.cells x.Entries)]
theorem TAccount.len (x : TAccount) : x.cells.length = 3 := by simp [TAccount.cells]
theorem TAccount.imm (x : TAccount) (c : AV) (h : c ∈ x.cells) : Imm c := by
  simp only [TAccount.cells, List.mem_cons, List.not_mem_nil, or_false] at h
  rcases h with rfl | rfl | rfl
  · exact .sc
  · exact imm_encL _ (TSub.imm) _
  · exact imm_encL _ (TEntry.imm) _
theorem TAccount.cel (x : TAccount) : x.cells.all AV.cellish = true := by simp [TAccount.cells, go_sem]

end Go.Proofs.Ytellcfkpfccgaaa
