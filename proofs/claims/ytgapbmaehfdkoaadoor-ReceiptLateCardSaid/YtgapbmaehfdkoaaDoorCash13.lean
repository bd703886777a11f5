/- Receipts: refunds. -/
import Derived.Test.YtgapbmaehfdkoaaDoorCash11
import Derived.Test.YtgapbmaehfdkoaaDoorCash12
set_option linter.unusedSimpArgs false
set_option linter.unusedVariables false
namespace Go.Proofs.YtgapbmaehfdkoaaDoor
open Go.PA
open Go.RowKit

theorem weak_tup3s {a a' : AV} {v w : Value} (ha : Weak a a') : Weak (.tup [a, .sc v, .sc w]) (.tup [a', .sc v, .sc w]) := weak_tup3 ha (.refl _) (.refl _)
theorem done_cash2 {H : Heap} {cs cs' : List AV} {v w : Value} {Q : AV → Prop} {b : Bx Q} (h : CW H cs cs') (hq : Q (.tup [.agg cs', .sc v, .sc w])) : Done H (.tup [.agg cs, .sc v, .sc w]) Q b :=
  done_weak (imm_trip h.imm .sc .sc) (imm_trip h.imm' .sc .sc) (weak_tup3s h.weak) hq
end Go.Proofs.YtgapbmaehfdkoaaDoor
