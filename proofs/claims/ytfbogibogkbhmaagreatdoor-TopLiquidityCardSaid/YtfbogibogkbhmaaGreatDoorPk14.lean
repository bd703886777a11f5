/- Several texts of this claim, joined: JfTlD. -/
import Derived.Test.YtfbogibogkbhmaaGreatDoorPk13
import Derived.JoinedOf
set_option linter.unusedSimpArgs false
set_option linter.unusedVariables false
set_option maxRecDepth 4000
set_option maxRecDepth 100000
namespace Go.Proofs.YtfbogibogkbhmaaGreatDoor
open Go.ChangeShapes Go.WideShapes Go.ChangeAt Go.RowKit
theorem Az:(Rows.topLiquidityRow.named==Tryz.pinned.checked.prog.varsNamed 3)=true:=by kernel_rfl
end Go.Proofs.YtfbogibogkbhmaaGreatDoor
