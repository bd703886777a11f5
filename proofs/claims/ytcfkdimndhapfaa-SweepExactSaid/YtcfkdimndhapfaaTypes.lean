/- The structs of this seat's program. Printed by wip/types.py. -/
import Derived.Test.YtcfkdimndhapfaaPaM
set_option linter.unusedSimpArgs false
set_option linter.unusedVariables false
namespace Go.Proofs.Ytcfkdimndhapfaa
open Go.PA
open Go.RowKit

abbrev iv (n : Int) : AV := .sc (.int .i64 n)
abbrev bv (b : Bool) : AV := .sc (.bool b)
def encI (n : Int) : List AV := [iv n]
def encS (s : ByteArray) : List AV := [.sc (.string s)]
theorem imm_encI (n : Int) (c : AV) (h : c ∈ encI n) : Imm c := by simp [encI] at h; subst h; exact .sc
theorem imm_encS (n : ByteArray) (c : AV) (h : c ∈ encS n) : Imm c := by simp [encS] at h; subst h; exact .sc

structure TSub where
  ID : Int
  Balance : Int
deriving DecidableEq, Inhabited
def TSub.cells (x : TSub) : List AV := [iv x.ID, iv x.Balance]
theorem TSub.len (x : TSub) : x.cells.length = 2 := by simp [TSub.cells]
theorem TSub.imm (x : TSub) (c : AV) (h : c ∈ x.cells) : Imm c := by
  simp only [TSub.cells, List.mem_cons, List.not_mem_nil, or_false] at h
  rcases h with rfl | rfl
  · exact .sc
  · exact .sc
theorem TSub.cel (x : TSub) : x.cells.all AV.cellish = true := by simp [TSub.cells, go_sem]
structure TEntry where
  Number : Int
  Day : Int
  From : Int
  To : Int
  Amount : Int
  Ref : Int
deriving DecidableEq, Inhabited
def TEntry.cells (x : TEntry) : List AV := [iv x.Number, iv x.Day, iv x.From, iv x.To, iv x.Amount, iv x.Ref]
theorem TEntry.len (x : TEntry) : x.cells.length = 6 := by simp [TEntry.cells]
theorem TEntry.imm (x : TEntry) (c : AV) (h : c ∈ x.cells) : Imm c := by
  simp only [TEntry.cells, List.mem_cons, List.not_mem_nil, or_false] at h
  rcases h with rfl | rfl | rfl | rfl | rfl | rfl
  · exact .sc
  · exact .sc
  · exact .sc
  · exact .sc
  · exact .sc
  · exact .sc
theorem TEntry.cel (x : TEntry) : x.cells.all AV.cellish = true := by simp [TEntry.cells, go_sem]
structure TAccount where
  Credit : Int
  Subs : List TSub
  Entries : List TEntry
deriving DecidableEq, Inhabited
def TAccount.cells (x : TAccount) : List AV := [iv x.Credit, .list 2 (encL TSub.cells x.Subs), .list 6 (encL TEntry.cells x.Entries)]
theorem TAccount.len (x : TAccount) : x.cells.length = 3 := by simp [TAccount.cells]
theorem TAccount.imm (x : TAccount) (c : AV) (h : c ∈ x.cells) : Imm c := by
  simp only [TAccount.cells, List.mem_cons, List.not_mem_nil, or_false] at h
  rcases h with rfl | rfl | rfl
  · exact .sc
  · exact imm_encL _ (TSub.imm) _
  · exact imm_encL _ (TEntry.imm) _
theorem TAccount.cel (x : TAccount) : x.cells.all AV.cellish = true := by simp [TAccount.cells, go_sem]
structure TKeep where
  Sub : Int
  Low : Int
  High : Int
deriving DecidableEq, Inhabited
def TKeep.cells (x : TKeep) : List AV := [iv x.Sub, iv x.Low, iv x.High]
theorem TKeep.len (x : TKeep) : x.cells.length = 3 := by simp [TKeep.cells]
theorem TKeep.imm (x : TKeep) (c : AV) (h : c ∈ x.cells) : Imm c := by
  simp only [TKeep.cells, List.mem_cons, List.not_mem_nil, or_false] at h
  rcases h with rfl | rfl | rfl
  · exact .sc
  · exact .sc
  · exact .sc
theorem TKeep.cel (x : TKeep) : x.cells.all AV.cellish = true := by simp [TKeep.cells, go_sem]

end Go.Proofs.Ytcfkdimndhapfaa
