/- The structs of this seat's program. Printed by wip/types.py. -/
import Derived.Test.YtgapbmaehfdkoaaGreatDoorPaC
set_option linter.unusedSimpArgs false
set_option linter.unusedVariables false
namespace Go.Proofs.YtgapbmaehfdkoaaGreatDoor
open Go.PA
open Go.RowKit

abbrev iv (n : Int) : AV := .sc (.int .i64 n)
abbrev bv (b : Bool) : AV := .sc (.bool b)
def encI (n : Int) : List AV := [iv n]
def encS (s : ByteArray) : List AV := [.sc (.string s)]
theorem imm_encI (n : Int) (c : AV) (h : c ∈ encI n) : Imm c := by simp [encI] at h; subst h; exact .sc
theorem imm_encS (n : ByteArray) (c : AV) (h : c ∈ encS n) : Imm c := by simp [encS] at h; subst h; exact .sc

structure TClaim where
  ID : Int
  Payer : Int
  Amount : Int
  Open : Int
  Day : Int
  Code : ByteArray
deriving DecidableEq, Inhabited
def TClaim.cells (x : TClaim) : List AV := [iv x.ID, iv x.Payer, iv x.Amount, iv x.Open, iv x.Day, .sc (.string x.Code)]
theorem TClaim.len (x : TClaim) : x.cells.length = 6 := by simp [TClaim.cells]
theorem TClaim.imm (x : TClaim) (c : AV) (h : c ∈ x.cells) : Imm c := by
  simp only [TClaim.cells, List.mem_cons, List.not_mem_nil, or_false] at h
  rcases h with rfl | rfl | rfl | rfl | rfl | rfl
  · exact .sc
  · exact .sc
  · exact .sc
  · exact .sc
  · exact .sc
  · exact .sc
theorem TClaim.cel (x : TClaim) : x.cells.all AV.cellish = true := by simp [TClaim.cells, go_sem]
structure TIncome where
  Number : Int
  Day : Int
  Payer : Int
  Amount : Int
  Claim : Int
deriving DecidableEq, Inhabited
def TIncome.cells (x : TIncome) : List AV := [iv x.Number, iv x.Day, iv x.Payer, iv x.Amount, iv x.Claim]
theorem TIncome.len (x : TIncome) : x.cells.length = 5 := by simp [TIncome.cells]
theorem TIncome.imm (x : TIncome) (c : AV) (h : c ∈ x.cells) : Imm c := by
  simp only [TIncome.cells, List.mem_cons, List.not_mem_nil, or_false] at h
  rcases h with rfl | rfl | rfl | rfl | rfl
  · exact .sc
  · exact .sc
  · exact .sc
  · exact .sc
  · exact .sc
theorem TIncome.cel (x : TIncome) : x.cells.all AV.cellish = true := by simp [TIncome.cells, go_sem]
structure TMatch where
  Income : Int
  Claim : Int
  Amount : Int
deriving DecidableEq, Inhabited
def TMatch.cells (x : TMatch) : List AV := [iv x.Income, iv x.Claim, iv x.Amount]
theorem TMatch.len (x : TMatch) : x.cells.length = 3 := by simp [TMatch.cells]
theorem TMatch.imm (x : TMatch) (c : AV) (h : c ∈ x.cells) : Imm c := by
  simp only [TMatch.cells, List.mem_cons, List.not_mem_nil, or_false] at h
  rcases h with rfl | rfl | rfl
  · exact .sc
  · exact .sc
  · exact .sc
theorem TMatch.cel (x : TMatch) : x.cells.all AV.cellish = true := by simp [TMatch.cells, go_sem]
structure TCash where
  Claims : List TClaim
  Incomes : List TIncome
  Matches : List TMatch
  Loose : List Int
deriving DecidableEq, Inhabited
def TCash.cells (x : TCash) : List AV := [.list 6 (encL TClaim.cells x.Claims), .list 5 (encL TIncome.cells x.Incomes), .list 3 (encL TMatch.cells x.Matches), .list 1 (encL encI x.Loose)]
theorem TCash.len (x : TCash) : x.cells.length = 4 := by simp [TCash.cells]
theorem TCash.imm (x : TCash) (c : AV) (h : c ∈ x.cells) : Imm c := by
  simp only [TCash.cells, List.mem_cons, List.not_mem_nil, or_false] at h
  rcases h with rfl | rfl | rfl | rfl
  · exact imm_encL _ (TClaim.imm) _
  · exact imm_encL _ (TIncome.imm) _
  · exact imm_encL _ (TMatch.imm) _
  · exact imm_encL _ (imm_encI) _
theorem TCash.cel (x : TCash) : x.cells.all AV.cellish = true := by simp [TCash.cells, go_sem]

end Go.Proofs.YtgapbmaehfdkoaaGreatDoor
