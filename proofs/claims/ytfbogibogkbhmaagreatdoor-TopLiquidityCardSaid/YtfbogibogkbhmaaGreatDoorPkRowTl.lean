/- TopLiquidity: the card: the law returns true for every input. -/
import Derived.Test.YtfbogibogkbhmaaGreatDoorPk19
set_option linter.unusedSimpArgs false
set_option linter.unusedVariables false
set_option maxRecDepth 4000
namespace Go.Proofs.YtfbogibogkbhmaaGreatDoor
open Go.ChangeShapes Go.WideShapes Go.ChangeAt Go.RowKit
theorem sO (f:FuncId) (fn:Func) (hf:Tryz.pinned.checked.prog.funcNamed "treasury/treasurytop.TopLiquidity"=some f) (hfn:Tryz.pinned.checked.prog.funcs[f]?=some fn):
  true=Tryz.pinned.checked.prog.looks []∧∀(j:Nat) t,fn.params[j]?=some t→Tryz.pinned.checked.prog.wantsStandIn t=false:=by
 obtain rfl:f=3:=wT ((show Tryz.prog.funcNamed "treasury/treasurytop.TopLiquidity"=some 3 by kernel_rfl).symm.trans hf) |>.symm
 obtain rfl:fn=Tryz.f3:=(wT (Tryz.func3.symm.trans hfn)).symm
 refine⟨by kernel_rfl,fun j t ht=>?_⟩
 have hm:t∈Tryz.f3.params.toList:=by simpa using Array.mem_of_getElem? ht
 have hall:(Tryz.f3.params.toList.all fun u=>!Tryz.prog.wantsStandIn u)=true:=by kernel_rfl
 exact (show Tryz.prog.wantsStandIn t=false by simpa using zS.1 hall t hm)
theorem liquidity45_card:Rows.TopLiquidityCardSaid:=
 Claim7.holds_tied_plain_at .later [] _ _ _ _ sa (fun _ h=>by cases h) (by kernel_rfl) (fun _ h=>by cases h) topLiquidity_row_tie rfl ⟨rfl,rfl⟩ (by kernel_rfl) rfl sO (GR rfl uZ)
end Go.Proofs.YtfbogibogkbhmaaGreatDoor
