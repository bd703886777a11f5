/- The structs of this seat's program. Printed by wip/types.py. -/
import Derived.Test.YtabdihohphlheaaGreatDoorPaC
set_option linter.unusedSimpArgs false
set_option linter.unusedVariables false
namespace Go.Proofs.YtabdihohphlheaaGreatDoor
open Go.PA
open Go.RowKit

abbrev iv (n : Int) : AV := .sc (.int .i64 n)
abbrev bv (b : Bool) : AV := .sc (.bool b)
def encI (n : Int) : List AV := [iv n]
def encS (s : ByteArray) : List AV := [.sc (.string s)]
theorem imm_encI (n : Int) (c : AV) (h : c ∈ encI n) : Imm c := by simp [encI] at h; subst h; exact .sc
theorem imm_encS (n : ByteArray) (c : AV) (h : c ∈ encS n) : Imm c := by simp [encS] at h; subst h; exact .sc

structure TTax where
  Code : ByteArray
  Payer : Int
  Base : Int
  Num : Int
  Den : Int
  First : Int
  Every : Int
  Times : Int
deriving DecidableEq, Inhabited
def TTax.cells (x : TTax) : List AV := [.sc (.string x.Code), iv x.Payer, iv x.Base, iv x.Num, iv x.Den, iv x.First, iv x.Every, iv x.Times]
theorem TTax.len (x : TTax) : x.cells.length = 8 := by simp [TTax.cells]
theorem TTax.imm (x : TTax) (c : AV) (h : c ∈ x.cells) : Imm c := by
  simp only [TTax.cells, List.mem_cons, List.not_mem_nil, or_false] at h
  rcases h with rfl | rfl | rfl | rfl | rfl | rfl | rfl | rfl
  · exact .sc
  · exact .sc
  · exact .sc
  · exact .sc
  · exact .sc
  · exact .sc
  · exact .sc
  · exact .sc
theorem TTax.cel (x : TTax) : x.cells.all AV.cellish = true := by simp [TTax.cells, go_sem]
structure TFlow where
  Day : Int
  Amount : Int
  Kind : Int
  Ref : Int
deriving DecidableEq, Inhabited
def TFlow.cells (x : TFlow) : List AV := [iv x.Day, iv x.Amount, iv x.Kind, iv x.Ref]
theorem TFlow.len (x : TFlow) : x.cells.length = 4 := by simp [TFlow.cells]
theorem TFlow.imm (x : TFlow) (c : AV) (h : c ∈ x.cells) : Imm c := by
  simp only [TFlow.cells, List.mem_cons, List.not_mem_nil, or_false] at h
  rcases h with rfl | rfl | rfl | rfl
  · exact .sc
  · exact .sc
  · exact .sc
  · exact .sc
theorem TFlow.cel (x : TFlow) : x.cells.all AV.cellish = true := by simp [TFlow.cells, go_sem]
structure TClaim where
  ID : Int
  Payer : Int
  Amount : Int
  Open : Int
  Day : Int
  Code : ByteArray
deriving DecidableEq, Inhabited
def TClaim.cells (x : TClaim) : List AV := [iv x.ID, iv x.Payer, iv x.Amount, iv x.Open, iv x.Day, .sc (.string x.Code)]
theorem TClaim.len (x : TClaim) : x.cells.length = 6 := by simp [TClaim.cells]
theorem TClaim.imm (x : TClaim) (c : AV) (h : c ∈ x.cells) : Imm c := by
  simp only [TClaim.cells, List.mem_cons, List.not_mem_nil, or_false] at h
  rcases h with rfl | rfl | rfl | rfl | rfl | rfl
  · exact .sc
  · exact .sc
  · exact .sc
  · exact .sc
  · exact .sc
  · exact .sc
theorem TClaim.cel (x : TClaim) : x.cells.all AV.cellish = true := by simp [TClaim.cells, go_sem]

end Go.Proofs.YtabdihohphlheaaGreatDoor
