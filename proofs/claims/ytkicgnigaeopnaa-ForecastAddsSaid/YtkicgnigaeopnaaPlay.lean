/- The source of numbers: what draws from it. -/
import Derived.Test.YtkicgnigaeopnaaPlayN
import Derived.Test.YtkicgnigaeopnaaPaOwn
set_option linter.unusedSimpArgs false
namespace Go.Proofs.Ytkicgnigaeopnaa
open Go.PA
open Go.RowKit

def intsL (xs : List Int) : AV := .list 1 (xs.map fun x => [iv x])
def Small (xs : List Int) : Prop := ∀ x, x ∈ xs → -9223372036854775808 ≤ x ∧ x ≤ 9223372036854775807

theorem new_pf (xs : List Int) (hl : xs.length ≤ 9223372036854775807) : POwn Try.prog none none 7 [intsL xs] 47 2 (· = [[intsL (xs.take 900), iv 0]]) := by
  refine pown_intro Try.func7 rfl (by simp [Try.f7]) (by kernel_rfl) ?_
  intro E hP hr hs hW hN
  simp [go_sem, hP, intsL, amin, aminFrom, asliceOp, bound, aslice]
  have c : 0 ≤ min (xs.length : Int) 900 ∧ min (xs.length : Int) 900 ≤ xs.length := ⟨by omega, by omega⟩
  have m : (min (xs.length : Int) 900).toNat = min 900 xs.length := by omega
  rw [if_pos c, m]
  simp [go_sem, hP, AOwn, Try.f7]
  intro e he a ha
  have := List.mem_of_mem_take he
  simp at this
  obtain ⟨x, _, rfl⟩ := this
  simp at ha
  subst ha
  exact .sc

theorem range_pf (p : Nat) (src : Option Nat) (lo hi : Int) (h1 : -1000000000000000000 ≤ lo ∧ lo ≤ 1000000000000000000) (h2 : -1000000000000000000 ≤ hi ∧ hi ≤ 1000000000000000000) :
    PFun Try.prog (some p) src 9 [sp p, iv lo, iv hi] (fun x => ∃ m : Int, x = iv m ∧ (lo ≤ hi → lo ≤ m ∧ m ≤ hi) ∧ (hi < lo → m = lo)) := by
  refine pfun_intro Try.func9 rfl (by simp [Try.f9]) (by kernel_rfl) ?_
  intro E hP hr hs hW hN
  have w1 := wrap_in (hi - lo) (by omega)
  have w2 := wrap_in (hi - lo + 1) (by omega)
  simp [go_sem, *]
  refine callB_flat (hr ▸ hs ▸ N_pf p src (hi - lo + 1) (by omega)) hP en_14 (by simp [go_sem]) ?_ ?_ ?_
  · by_cases h : hi - lo + 1 < 1
    · exact ⟨iv 0, 0, rfl, fun _ => rfl, fun h' => by omega⟩
    · exact ⟨iv 0, 0, rfl, fun _ => rfl, fun h' => by omega⟩
  · rintro r ⟨m, rfl, _⟩; exact .sc
  · rintro r ⟨m, rfl, a1, a2⟩
    have w3 := wrap_in (lo + m) (by omega)
    simp [go_sem, *, Try.f9]
    omega

theorem pick_pf (p : Nat) (src : Option Nat) (xs : List Int) (h : 1 ≤ xs.length ∧ xs.length ≤ 1000) :
    PFun Try.prog (some p) src 25 [sp p, intsL xs] (fun x => ∃ m : Int, x = iv m ∧ m ∈ xs) := by
  refine pfun_intro Try.func25 rfl (by simp [Try.f25]) (by kernel_rfl) ?_
  intro E hP hr hs hW hN
  simp [go_sem, hP, intsL]
  refine callB_flat (hr ▸ hs ▸ N_pf p src xs.length (by omega)) hP en_14 (by simp [go_sem]) ?_ ?_ ?_
  · exact ⟨iv 0, 0, rfl, fun _ => rfl, fun h' => by omega⟩
  · rintro r ⟨m, rfl, _⟩; exact .sc
  · rintro r ⟨m, rfl, a1, a2⟩
    obtain ⟨b1, b2⟩ := a2 (by omega)
    have b3 : m.toNat < xs.length := by omega
    simp [go_sem, *, Try.f25]

structure Flow where
  d : Int
  a : Int
  k : Int
  n : Int
def Flow.cells (f : Flow) : List AV := [iv f.d, iv f.a, iv f.k, iv f.n]
def flowsL (fs : List Flow) : AV := .list 4 (fs.map Flow.cells)
theorem imm_flowsL (fs : List Flow) : Imm (flowsL fs) := by simp [go_sem, flowsL, Flow.cells]

/-- A flow as the source makes it. -/
def GenFlow (f : Flow) : Prop := (0 ≤ f.d ∧ f.d < 30) ∧ f.a ∈ [-500, -10, -1, 1, 10, 700] ∧ (1 ≤ f.k ∧ f.k ≤ 5) ∧ (0 ≤ f.n ∧ f.n < 4)
theorem NQ_ex (n : Int) : ∃ r, NQ n r := ⟨iv 0, 0, rfl, fun _ => rfl, fun h => by omega⟩
theorem NQ_flat (n : Int) : ∀ r, NQ n r → Flat r := by
  rintro r ⟨m, rfl, _⟩; exact .sc

theorem flow_pf (p : Nat) (src : Option Nat) : PFun Try.prog (some p) src 17 [sp p] (fun x => ∃ f : Flow, x = .agg f.cells ∧ GenFlow f) := by
  refine pfun_intro Try.func17 rfl (by simp [Try.f17]) (by kernel_rfl) ?_
  intro E hP hr hs hW hN
  simp [go_sem, hP]
  refine callB_flat (hr ▸ hs ▸ N_pf p src 30 (by omega)) hP en_14 (by simp [go_sem]) (NQ_ex _) (NQ_flat _) ?_
  rintro r ⟨m, rfl, _, a1⟩
  have a1 := a1 (by omega)
  simp [go_sem, hP]
  refine callB_flat (hr ▸ hs ▸ pick_pf p src [-500, -10, -1, 1, 10, 700] (by simp)) hP en_25 (by simp [go_sem, intsL]) ⟨iv 1, 1, rfl, by simp⟩ (by rintro r ⟨m, rfl, _⟩; exact .sc) ?_
  rintro r ⟨m2, rfl, a2⟩
  simp [go_sem, hP]
  refine callB_flat (hr ▸ hs ▸ range_pf p src 1 5 (by omega) (by omega)) hP en_9 (by simp [go_sem]) ⟨iv 1, 1, rfl, by omega, by omega⟩ (by rintro r ⟨m, rfl, _⟩; exact .sc) ?_
  rintro r ⟨m3, rfl, a3, _⟩
  have a3 := a3 (by omega)
  simp [go_sem, hP]
  refine callB_flat (hr ▸ hs ▸ N_pf p src 4 (by omega)) hP en_14 (by simp [go_sem]) (NQ_ex _) (NQ_flat _) ?_
  rintro r ⟨m4, rfl, _, a4⟩
  have a4 := a4 (by omega)
  simp [go_sem, hP, Try.f17]
  refine done_imm (by simp [go_sem]) ⟨⟨m, m2, m3, m4⟩, rfl, a1, a2, a3, a4⟩

theorem flows_pf (p : Nat) (src : Option Nat) (n : Nat) (hn : n ≤ 1000) : PFun Try.prog (some p) src 8 [sp p, iv n] (fun x => ∃ fs : List Flow, x = flowsL fs ∧ fs.length ≤ n ∧ ∀ f, f ∈ fs → GenFlow f) := by
  refine pfun_intro Try.func8 rfl (by simp [Try.f8]) (by kernel_rfl) ?_
  intro E hP hr hs hW hN
  have w1 := wrap_in ((n : Int) + 1) (by omega)
  simp [go_sem, hP, w1]
  refine callB_flat (hr ▸ hs ▸ N_pf p src (n + 1) (by omega)) hP en_14 (by simp [go_sem]) (NQ_ex _) (NQ_flat _) ?_
  rintro r ⟨m, rfl, _, a1⟩
  have a1 := a1 (by omega)
  simp [go_sem, hP]
  refine aloop_own 5 38 4 (by simp [go_sem]) ?_
  refine aloop0 (fun k s => ∃ (fs : List Flow) (id : Nat), fs.length + k ≤ n ∧ (∀ f, f ∈ fs → GenFlow f) ∧ s.t 0 = sp p ∧ s.t 6 = iv k ∧ s.t 5 = .sref id 0 fs.length ∧ s.H[id]? = some (some ⟨38, 4, fs.map Flow.cells⟩)) m.toNat (by rw [hN]; rfl) ?_ ?_
  · exact ⟨[], 0, by simp; omega, by simp, by simp [go_sem], by simp [go_sem]; omega, by simp [go_sem], by simp [go_sem]⟩
  rintro k s ⟨fs, id, h1, h2, t0, t6, t5, hH⟩
  simp [go_sem, hP, t6]
  refine condP (fun h => ?_) (fun h => ?_)
  · have h : 0 < k := by simpa using h
    simp [go_sem, hP, t5, t0]
    refine callB_immQ (hr ▸ hs ▸ flow_pf p src) hP en_17 (by simp [go_sem]) (by simp [go_sem]) ⟨_, ⟨⟨0, 1, 1, 0⟩, rfl, by simp [GenFlow]⟩, by simp [go_sem, Flow.cells]⟩ ?_
    rintro r ⟨f, rfl, hf⟩ _
    have w2 := wrap_in ((k : Int) - 1) (by omega)
    simp [go_sem, hP, hH, Flow.cells, t6, w2]
    refine ⟨by omega, by omega, k - 1, by omega, fs ++ [f], by simp; omega, ?_, t0, by omega, s.H.length, ⟨rfl, by simp⟩, by simp [go_sem, Flow.cells]⟩
    intro f' hf'
    rcases List.mem_append.1 hf' with h' | h'
    · exact h2 f' h'
    · simp at h'; subst h'; exact hf
  · simp [go_sem, hP, t5, Try.f8]
    refine done (by simp [go_sem, hH, Flow.cells]) ⟨fs, rfl, by omega, h2⟩ (by simp [go_sem, hH, flowsL])

end Go.Proofs.Ytkicgnigaeopnaa
