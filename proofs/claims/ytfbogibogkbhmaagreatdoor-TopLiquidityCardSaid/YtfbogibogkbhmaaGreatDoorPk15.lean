/- Several texts of this claim, joined: JfTlE. -/
import Derived.Test.YtfbogibogkbhmaaGreatDoorPk14
import Derived.JoinedOf
set_option linter.unusedSimpArgs false
set_option linter.unusedVariables false
set_option maxRecDepth 4000
set_option maxRecDepth 100000
namespace Go.Proofs.YtfbogibogkbhmaaGreatDoor
open Go.ChangeShapes Go.WideShapes Go.ChangeAt Go.RowKit
theorem Bw:laidOutB Tryz.pinned.checked.prog=true:=by kernel_rfl
end Go.Proofs.YtfbogibogkbhmaaGreatDoor
