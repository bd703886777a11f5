/- Several texts of this claim, joined: JfTlFGH. -/
import Derived.Test.YtfbogibogkbhmaaGreatDoorPk15
import Derived.JoinedOf
set_option linter.unusedSimpArgs false
set_option linter.unusedVariables false
set_option maxRecDepth 4000
set_option maxRecDepth 100000
namespace Go.Proofs.YtfbogibogkbhmaaGreatDoor
open Go.ChangeShapes Go.WideShapes Go.ChangeAt Go.RowKit
theorem Aq:Tryz.pinned.checked.prog.mayEnter=true:=by kernel_rfl
theorem zu:Tryz.pinned.checked.prog.stopsHeard=true:=by kernel_rfl
theorem A8:mapsRowed Tryz.pinned.checked.prog=true:=by kernel_rfl
end Go.Proofs.YtfbogibogkbhmaaGreatDoor
