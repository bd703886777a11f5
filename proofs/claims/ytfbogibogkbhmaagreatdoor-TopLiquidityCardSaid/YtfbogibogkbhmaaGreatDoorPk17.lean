/- Several texts of this claim, joined: JfTlJ. -/
import Derived.Test.YtfbogibogkbhmaaGreatDoorPk16
set_option linter.unusedSimpArgs false
set_option linter.unusedVariables false
set_option maxRecDepth 4000
namespace Go.Proofs.YtfbogibogkbhmaaGreatDoor
open Go.ChangeShapes Go.WideShapes Go.ChangeAt Go.RowKit
theorem yv {a b:Bool} (h:a=true) (h':b=true):(a&&b)=true:=by rw[h,h'];rfl
set_option maxHeartbeats 4000000 in
set_option maxRecDepth 100000 in
theorem rZ:joinedFacts Tryz.pinned.checked.prog 3 Tryz.f3 Rows.topLiquiditySpec Rows.topLiquidityRow=true:=by
 unfold joinedFacts
 repeat' with_reducible refine yv ?_ ?_
 all_goals first|with_reducible exact Bn|with_reducible exact Ad|with_reducible exact BI|with_reducible exact Az|with_reducible exact Bw|with_reducible exact Aq|with_reducible exact zu|with_reducible exact A8|(as_aux_lemma=>kernel_rfl)
end Go.Proofs.YtfbogibogkbhmaaGreatDoor
