/- The source of numbers: what draws from it. -/
import Derived.Test.YtellcfkpfccgaaaPlayN
import Derived.Test.YtellcfkpfccgaaaPaOwn
set_option linter.unusedSimpArgs false
namespace Go.Proofs.Ytellcfkpfccgaaa
open Go.PA
open Go.RowKit

def intsL (xs : List Int) : AV := .list 1 (xs.map fun x => [iv x])
def Small (xs : List Int) : Prop := ∀ x, x ∈ xs → -9223372036854775808 ≤ x ∧ x ≤ 9223372036854775807

theorem new_pf (xs : List Int) (hl : xs.length ≤ 9223372036854775807) : POwn Try.prog none none 15 [intsL xs] 112 2 (· = [[intsL (xs.take 900), iv 0]]) := by
  refine pown_intro Try.func15 rfl (by simp [Try.f15]) (by kernel_rfl) ?_
  intro E hP hr hs hW hN
  simp [go_sem, hP, intsL, amin, aminFrom, asliceOp, bound, aslice]
  have c : 0 ≤ min (xs.length : Int) 900 ∧ min (xs.length : Int) 900 ≤ xs.length := ⟨by omega, by omega⟩
  have m : (min (xs.length : Int) 900).toNat = min 900 xs.length := by omega
  rw [if_pos c, m]
  simp [go_sem, hP, AOwn, Try.f15]
  intro e he a ha
  have := List.mem_of_mem_take he
  simp at this
  obtain ⟨x, _, rfl⟩ := this
  simp at ha
  subst ha
  exact .sc

theorem range_pf (p : Nat) (src : Option Nat) (lo hi : Int) (h1 : -1000000000000000000 ≤ lo ∧ lo ≤ 1000000000000000000) (h2 : -1000000000000000000 ≤ hi ∧ hi ≤ 1000000000000000000) :
    PFun Try.prog (some p) src 61 [sp p, iv lo, iv hi] (fun x => ∃ m : Int, x = iv m ∧ (lo ≤ hi → lo ≤ m ∧ m ≤ hi) ∧ (hi < lo → m = lo)) := by
  refine pfun_intro Try.func61 rfl (by simp [Try.f61]) (by kernel_rfl) ?_
  intro E hP hr hs hW hN
  have w1 := wrap_in (hi - lo) (by omega)
  have w2 := wrap_in (hi - lo + 1) (by omega)
  simp [go_sem, *]
  refine callB_flat (hr ▸ hs ▸ N_pf p src (hi - lo + 1) (by omega)) hP en_35 (by simp [go_sem]) ?_ ?_ ?_
  · by_cases h : hi - lo + 1 < 1
    · exact ⟨iv 0, 0, rfl, fun _ => rfl, fun h' => by omega⟩
    · exact ⟨iv 0, 0, rfl, fun _ => rfl, fun h' => by omega⟩
  · rintro r ⟨m, rfl, _⟩; exact .sc
  · rintro r ⟨m, rfl, a1, a2⟩
    have w3 := wrap_in (lo + m) (by omega)
    simp [go_sem, *, Try.f61]
    omega

theorem pick_pf (p : Nat) (src : Option Nat) (xs : List Int) (h : 1 ≤ xs.length ∧ xs.length ≤ 1000) :
    PFun Try.prog (some p) src 42 [sp p, intsL xs] (fun x => ∃ m : Int, x = iv m ∧ m ∈ xs) := by
  refine pfun_intro Try.func42 rfl (by simp [Try.f42]) (by kernel_rfl) ?_
  intro E hP hr hs hW hN
  simp [go_sem, hP, intsL]
  refine callB_flat (hr ▸ hs ▸ N_pf p src xs.length (by omega)) hP en_35 (by simp [go_sem]) ?_ ?_ ?_
  · exact ⟨iv 0, 0, rfl, fun _ => rfl, fun h' => by omega⟩
  · rintro r ⟨m, rfl, _⟩; exact .sc
  · rintro r ⟨m, rfl, a1, a2⟩
    obtain ⟨b1, b2⟩ := a2 (by omega)
    have b3 : m.toNat < xs.length := by omega
    simp [go_sem, *, Try.f42]

theorem NQ_ex (n : Int) : ∃ r, NQ n r := ⟨iv 0, 0, rfl, fun _ => rfl, fun h => by omega⟩
theorem NQ_flat (n : Int) : ∀ r, NQ n r → Flat r := by
  rintro r ⟨m, rfl, _⟩; exact .sc

end Go.Proofs.Ytellcfkpfccgaaa
