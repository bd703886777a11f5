/- What a row of this seat gives: the two errors of strconv. -/
import Derived.Test.YtkcfmmpcpdlfeaaGreatDoorFrame
import Derived.Test.YtkcfmmpcpdlfeaaGreatDoorArgsUse
import Derived.Stop.LaidErr
import Derived.LaidMore
import Derived.Lay
import Derived.SevenTiedAt
import Derived.Stop.Joined
import Derived.Test.YtkcfmmpcpdlfeaaGreatDoorCards
import Derived.Test.YtkcfmmpcpdlfeaaGreatDoorTie
set_option linter.unusedSimpArgs false
set_option maxRecDepth 100000
namespace Go.Proofs.YtkcfmmpcpdlfeaaGreatDoor
open Go.RowKit Go.WideShapes Go.ChangeShapes
open Go.PA (RepI PFun AV Rep GlobOk)

theorem gES : Tryz.prog.globalNamed "strconv.ErrSyntax" = some 0 := by kernel_rfl
theorem gER : Tryz.prog.globalNamed "strconv.ErrRange" = some 1 := by kernel_rfl
theorem gEST : (Tryz.prog.globals[0]?).map (·.type) = some 353 := by kernel_rfl
theorem gERT : (Tryz.prog.globals[1]?).map (·.type) = some 353 := by kernel_rfl
theorem cellsES : Tryz.prog.cellsOf 396 = 1 := by kernel_rfl
theorem cellsStr : Tryz.prog.cellsOf 9 = 1 := by kernel_rfl
theorem starES : "*" ++ "errors.errorString" = "*errors.errorString" := by decide
theorem rowES (u : TypeId) (h : Tryz.prog.typeName? 3 u = some "*errors.errorString") : u = 394 :=
  typeName_ptr_named (nm := "errors.errorString") (by rw [starES]; kernel_rfl) (by kernel_rfl) (by decide) u (by rw [starES]; exact h)
theorem lt_of_cell {W : World} {g : Nat} {v : Value} (h : W.cell? ⟨g, 0, none⟩ = some v) : g < W.heap.size := by
  rcases Nat.lt_or_ge g W.heap.size with h' | h'
  · exact h'
  · simp [World.cell?, Array.getElem?_eq_none h'] at h
theorem glob_ok {W : World} (h : laidMetH Tryz.prog Rows.topStripsRow.laid W) : GlobOk (fun b => b < W.heap.size) W := by
  rw [MakeChecks.laidMetH_plain _ _ _ (by kernel_rfl)] at h
  have h4 := h.tail.tail.tail.tail
  obtain ⟨a0, s0, hv0, -, -, -⟩ := laid_sentinel h4 gER gERT Tryz.underlying353 rowES Tryz.underlying394 Tryz.underlying396 rfl rfl Tryz.underlying9 cellsES cellsStr
  obtain ⟨a1, s1, hv1, -, -, -⟩ := laid_sentinel h4.tail gES gEST Tryz.underlying353 rowES Tryz.underlying394 Tryz.underlying396 rfl rfl Tryz.underlying9 cellsES cellsStr
  have h0 : W.cell? ⟨1, 0, none⟩ = some (.iface 394 (.pointer (some a0))) := by simpa using World.var?_cell gER hv0 0
  have h1 : W.cell? ⟨0, 0, none⟩ = some (.iface 394 (.pointer (some a1))) := by simpa using World.var?_cell gES hv1 0
  intro g hg
  simp only [Go.PA.globs, List.mem_cons, List.not_mem_nil, or_false] at hg
  rcases hg with rfl | rfl
  · exact ⟨lt_of_cell h1, _, _, h1⟩
  · exact ⟨lt_of_cell h0, _, _, h0⟩

end Go.Proofs.YtkcfmmpcpdlfeaaGreatDoor
