/- The structs of this seat's program. Printed by wip/types.py. -/
import Derived.Test.YtmpncdlhmknkoaaPaC
set_option linter.unusedSimpArgs false
set_option linter.unusedVariables false
namespace Go.Proofs.Ytmpncdlhmknkoaa
open Go.PA
open Go.RowKit

abbrev iv (n : Int) : AV := .sc (.int .i64 n)
abbrev bv (b : Bool) : AV := .sc (.bool b)
def encI (n : Int) : List AV := [iv n]
def encS (s : ByteArray) : List AV := [.sc (.string s)]
theorem imm_encI (n : Int) (c : AV) (h : c ∈ encI n) : Imm c := by simp [encI] at h; subst h; exact .sc
theorem imm_encS (n : ByteArray) (c : AV) (h : c ∈ encS n) : Imm c := by simp [encS] at h; subst h; exact .sc

structure TPayment where
  Warrant : Int
  Payee : Int
  Amount : Int
  Due : Int
  Sub : Int
deriving DecidableEq, Inhabited
def TPayment.cells (x : TPayment) : List AV := [iv x.Warrant, iv x.Payee, iv x.Amount, iv x.Due, iv x.Sub]
theorem TPayment.len (x : TPayment) : x.cells.length = 5 := by simp [TPayment.cells]
theorem TPayment.imm (x : TPayment) (c : AV) (h : c ∈ x.cells) : Imm c := by
  simp only [TPayment.cells, List.mem_cons, List.not_mem_nil, or_false] at h
  rcases h with rfl | rfl | rfl | rfl | rfl
  · exact .sc
  · exact .sc
  · exact .sc
  · exact .sc
  · exact .sc
theorem TPayment.cel (x : TPayment) : x.cells.all AV.cellish = true := by simp [TPayment.cells, go_sem]
structure TBatch where
  Number : Int
  Day : Int
  Payments : List TPayment
deriving DecidableEq, Inhabited
def TBatch.cells (x : TBatch) : List AV := [iv x.Number, iv x.Day, .list 5 (encL TPayment.cells x.Payments)]
theorem TBatch.len (x : TBatch) : x.cells.length = 3 := by simp [TBatch.cells]
theorem TBatch.imm (x : TBatch) (c : AV) (h : c ∈ x.cells) : Imm c := by
  simp only [TBatch.cells, List.mem_cons, List.not_mem_nil, or_false] at h
  rcases h with rfl | rfl | rfl
  · exact .sc
  · exact .sc
  · exact imm_encL _ (TPayment.imm) _
theorem TBatch.cel (x : TBatch) : x.cells.all AV.cellish = true := by simp [TBatch.cells, go_sem]
structure TQueue where
  Waiting : List TPayment
  Known : List Int
  Batches : List TBatch
deriving DecidableEq, Inhabited
def TQueue.cells (x : TQueue) : List AV := [.list 5 (encL TPayment.cells x.Waiting), .list 1 (encL encI x.Known), .list 3 (encL TBatch.cells x.Batches)]
theorem TQueue.len (x : TQueue) : x.cells.length = 3 := by simp [TQueue.cells]
theorem TQueue.imm (x : TQueue) (c : AV) (h : c ∈ x.cells) : Imm c := by
  simp only [TQueue.cells, List.mem_cons, List.not_mem_nil, or_false] at h
  rcases h with rfl | rfl | rfl
  · exact imm_encL _ (TPayment.imm) _
  · exact imm_encL _ (imm_encI) _
  · exact imm_encL _ (TBatch.imm) _
theorem TQueue.cel (x : TQueue) : x.cells.all AV.cellish = true := by simp [TQueue.cells, go_sem]

end Go.Proofs.Ytmpncdlhmknkoaa
