/- Carrying over: codes, and comparing. -/
import Derived.Test.YtmkhcmiplleghaaGreatDoorCar2
import Derived.Test.YtmkhcmiplleghaaGreatDoorCmp
import Derived.Test.YtmkhcmiplleghaaGreatDoorPaRun
set_option linter.unusedSimpArgs false
set_option linter.unusedVariables false
set_option maxRecDepth 100000
namespace Go.Proofs.YtmkhcmiplleghaaGreatDoor
open Go.PA
open Go.RowKit

def cmpLL : List Int → List Int → Int
  | [], [] => 0
  | [], _ :: _ => -1
  | _ :: _, [] => 1
  | x :: xs, y :: ys => if x < y then -1 else if y < x then 1 else cmpLL xs ys
def cmpC (a b : ByteArray) : Int := cmpLL (partsD a) (partsD b)
def parts4 : KL := codes4.map fun c => (40, [.sc (.string c)], intsL (partsD c))
theorem codes4_size : (codes4.all fun c => decide (c.size ≤ 1000000) && decide (0 < (partsD c).length)) = true := by kernel_rfl
theorem parts4_ok : KOk Tryz.prog parts4 := by
  intro x hx
  obtain ⟨c, hc, rfl⟩ := List.mem_map.1 hx
  have := List.all_eq_true.1 codes4_size c hc
  simp only [Bool.and_eq_true, decide_eq_true_eq] at this
  exact parts_pf c this.1
def runN : Run := fun _ _ _ => none
theorem runN_ok : RunOk Tryz.prog runN := fun _ _ _ _ h => by cases h
theorem cmp4_run : (codes4.all fun a => codes4.all fun b => (xpure (xrun Tryz.prog (primOr runN (primK parts4)) (hintOf []) (modeOf []) 1000 20) 24 [.sc (.string a), .sc (.string b)]).any (avEq 6 (iv (cmpC a b)))) = true := by kernel_rfl
theorem cmp4_pf {a b : ByteArray} (ha : a ∈ codes4) (hb : b ∈ codes4) : PFun Tryz.prog none none 24 [.sc (.string a), .sc (.string b)] (· = iv (cmpC a b)) := by
  have h1 := List.all_eq_true.1 (List.all_eq_true.1 cmp4_run a ha) b hb
  rw [Option.any_eq_true] at h1
  obtain ⟨v, h2, h3⟩ := h1
  rw [avEq_eq 6 h3]
  exact pfun_run (primOr_ok runN_ok (primK_ok parts4_ok)) (hintOf []) (modeOf []) 1000 20 (by kernel_rfl) h2 none none
theorem len_run : ((List.range 10).all fun n : Nat => (xpure (xrun Tryz.prog runN (hintOf []) (modeOf []) 1000 20) 35 [.sc (.int .u64 n)]).any fun v => match v with | .sc (.int .i64 _) => true | _ => false) = true := by kernel_rfl
end Go.Proofs.YtmkhcmiplleghaaGreatDoor
