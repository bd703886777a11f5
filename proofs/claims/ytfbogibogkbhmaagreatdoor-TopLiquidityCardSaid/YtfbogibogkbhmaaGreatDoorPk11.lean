/- Several texts of this claim, joined: JfTlA. -/
import Derived.Test.YtfbogibogkbhmaaGreatDoorPk10
import Derived.JoinedOf
set_option linter.unusedSimpArgs false
set_option linter.unusedVariables false
set_option maxRecDepth 4000
set_option maxRecDepth 100000
namespace Go.Proofs.YtfbogibogkbhmaaGreatDoor
open Go.ChangeShapes Go.WideShapes Go.ChangeAt Go.RowKit
theorem Bn:(Rows.topLiquidityRow.inPlace==Tryz.pinned.checked.prog.inPlace 3)=true:=by kernel_rfl
end Go.Proofs.YtfbogibogkbhmaaGreatDoor
