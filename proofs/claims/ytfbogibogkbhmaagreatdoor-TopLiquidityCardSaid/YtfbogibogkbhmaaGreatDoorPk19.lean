/- Several texts of this claim, joined: JfTlG. -/
import Derived.Test.YtfbogibogkbhmaaGreatDoorPk18
import Derived.JoinedOf
set_option linter.unusedSimpArgs false
set_option linter.unusedVariables false
set_option maxRecDepth 4000
set_option maxRecDepth 100000
namespace Go.Proofs.YtfbogibogkbhmaaGreatDoor
open Go.ChangeShapes Go.WideShapes Go.ChangeAt Go.RowKit
theorem Mo {P:Program} (h:P.funcs.any Func.goes=false) (f:FuncId):P.goes f=false:=by
 have key:∀g:FuncId,(P.funcs[g]?).any Func.goes=false:=fun g=>by
  cases hg:P.funcs[g]? with
  |none=>rfl
  |some fn=>
   have:=Array.any_eq_false.1 h
   obtain⟨hl,rfl⟩:=zW.1 hg
   simpa using this g hl
 unfold Program.goes
 rw[h,vM,Bool.or_false]
 simp[key]
theorem GR {P:Program} {c:OpenClaim} (hs:c.start= .entering) (h:P.funcs.any Func.goes=false):false=c.goesBy P:=by
 unfold OpenClaim.goesBy Program.goesAt Program.goesFrom
 rw[hs]
 cases hf:P.funcNamed c.func with
 |none=>rfl
 |some f=>simp[Mo h f]
theorem uZ:Tryz.pinned.checked.prog.funcs.any Func.goes=false:=by kernel_rfl
end Go.Proofs.YtfbogibogkbhmaaGreatDoor
