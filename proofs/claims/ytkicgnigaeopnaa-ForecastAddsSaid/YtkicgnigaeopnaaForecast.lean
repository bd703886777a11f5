/- Forecast. -/
import Derived.Test.YtkicgnigaeopnaaPlay
set_option linter.unusedSimpArgs false
namespace Go.Proofs.Ytkicgnigaeopnaa
open Go.PA
open Go.RowKit

def amongB (n lo hi : Int) : Bool := decide (lo ≤ n) && decide (n ≤ hi)
theorem among_pf (n lo hi : Int) : PFun Try.prog none none 21 [iv n, iv lo, iv hi] (· = bv (amongB n lo hi)) := by
  refine pfun_intro Try.func21 rfl (by simp [Try.f21]) (by kernel_rfl) ?_
  intro E hP hr hs hW hN
  by_cases h1 : lo ≤ n <;> by_cases h2 : n ≤ hi <;> simp [go_sem, hP, h1, h2, amongB]
def totalB (n : Int) : Bool := amongB n (-1000000000000000) 1000000000000000
theorem total_pf (n : Int) : PFun Try.prog none none 19 [iv n] (· = bv (totalB n)) := by
  refine pfun_intro Try.func19 rfl (by simp [Try.f19]) (by kernel_rfl) ?_
  intro E hP hr hs hW hN
  by_cases h1 : -1000000000000000 ≤ n <;> by_cases h2 : n ≤ 1000000000000000 <;> simp [go_sem, hP, h1, h2, totalB, amongB]
def dayB (n : Int) : Bool := amongB n 0 36000
theorem day_pf (n : Int) : PFun Try.prog none none 20 [iv n] (· = bv (dayB n)) := by
  refine pfun_intro Try.func20 rfl (by simp [Try.f20]) (by kernel_rfl) ?_
  intro E hP hr hs hW hN
  by_cases h1 : 0 ≤ n <;> by_cases h2 : n ≤ 36000 <;> simp [go_sem, hP, h1, h2, dayB, amongB]

def validB (f : Flow) : Bool := dayB f.d && !decide (f.a = 0) && amongB f.a (-1000000000000) 1000000000000 && amongB f.k 1 5 && amongB f.n 0 1000000
theorem valid_pf (f : Flow) : PFun Try.prog none none 28 [.agg f.cells] (· = bv (validB f)) := by
  refine pfun_intro Try.func28 rfl (by simp [Try.f28]) (by kernel_rfl) ?_
  intro E hP hr hs hW hN
  simp [go_sem, hP, Flow.cells]
  refine callB_pure (day_pf f.d) hP en_20 (by simp [go_sem]) .sc ?_
  simp [go_sem, *]
  refine oi_split (fun h1 => ?_) (fun h1 => by simp [go_sem, validB, *])
  simp [go_sem, *]
  by_cases h2 : f.a = 0
  · simp [go_sem, validB, *]
  simp [go_sem, *]
  refine callB_pure (among_pf f.a (-1000000000000) 1000000000000) hP en_21 (by simp [go_sem]) .sc ?_
  simp [go_sem, *]
  refine oi_split (fun h3 => ?_) (fun h3 => by simp [go_sem, validB, *])
  simp [go_sem, *]
  refine callB_pure (among_pf f.k 1 5) hP en_21 (by simp [go_sem]) .sc ?_
  simp [go_sem, *]
  refine oi_split (fun h4 => ?_) (fun h4 => by simp [go_sem, validB, *])
  simp [go_sem, *]
  refine callB_pure (among_pf f.n 0 1000000) hP en_21 (by simp [go_sem]) .sc ?_
  simp [go_sem, validB, *]
/-- forecast.Check's own test. -/
theorem check1_pf (f : Flow) : PFun Try.prog none none 27 [.agg f.cells] (· = bv (!validB f)) := by
  refine pfun_intro Try.func27 rfl (by simp [Try.f27]) (by kernel_rfl) ?_
  intro E hP hr hs hW hN
  simp [go_sem, hP, Flow.cells]
  refine callB_pure (valid_pf f) hP en_28 (by simp [go_sem, Flow.cells]) .sc ?_
  simp [go_sem, *]

theorem index_pf (fs : List Flow) (hl : fs.length ≤ 100000) : PFun Try.prog none none 36 [flowsL fs, .fn 27 []] (fun x => ∃ i : Int, x = iv i ∧ decide (0 ≤ i) = fs.any (fun f => !validB f)) := by
  refine pfun_intro Try.func36 rfl (by simp [Try.f36]) (by kernel_rfl) ?_
  intro E hP hr hs hW hN
  simp [go_sem, hP, flowsL]
  refine aloop0 (fun n s => ∃ k, k ≤ fs.length ∧ n = fs.length - k ∧ (∀ f, f ∈ fs.take k → validB f = true) ∧ s.t 0 = flowsL fs ∧ s.t 1 = .fn 27 [] ∧ s.t 7 = iv fs.length ∧ s.t 8 = iv k) fs.length (by rw [hN]; rfl) ?_ ?_
  · refine ⟨0, by simp, by simp, by simp, ?_⟩
    simp [go_sem, flowsL]
  rintro n s ⟨k, hk, hn, hv, t0, t1, t7, t8⟩
  simp [go_sem, *, flowsL]
  refine condP (fun h => ?_) (fun h => ?_)
  · have hk' : k < fs.length := by simpa using h
    simp [go_sem, *, flowsL, Flow.cells]
    refine callB_pure (check1_pf fs[k]) hP en_27 (by simp [go_sem, Flow.cells]) .sc ?_
    simp [go_sem, *]
    refine condP (fun h => ?_) (fun h => ?_)
    · have hw : IntKind.i64.wrap (↑k + 1) = ((k + 1 : Nat) : Int) := by rw [wrap_in _ (by omega)]; rfl
      simp [go_sem, hP, hw, t0, t1, t7, t8, flowsL, Flow.cells]
      refine ⟨fs.length - (k + 1), by omega, k + 1, by omega, rfl, ?_, rfl⟩
      intro f hf
      rw [List.take_succ_eq_append_getElem hk', List.mem_append] at hf
      rcases hf with hf | hf
      · exact hv f hf
      · simp at hf; subst hf; exact h
    · simp [go_sem, *, Try.f36]
      refine ⟨fs[k], List.getElem_mem hk', h⟩
  · simp [go_sem, *, Try.f36]
    intro f hf
    refine hv f ?_
    rw [List.take_of_length_le (by simpa using h)]
    exact hf
theorem contains_pf (fs : List Flow) (hl : fs.length ≤ 100000) : PFun Try.prog none none 26 [flowsL fs, .fn 27 []] (· = bv (fs.any (fun f => !validB f))) := by
  refine pfun_intro Try.func26 rfl (by simp [Try.f26]) (by kernel_rfl) ?_
  intro E hP hr hs hW hN
  simp [go_sem, hP, flowsL]
  refine callB_flat ((index_pf fs hl).lift _ _) hP en_36 (args_same (by simp [go_sem, Flow.cells])) ⟨iv (if fs.any (fun f => !validB f) then 0 else -1), _, rfl, by cases fs.any (fun f => !validB f) <;> simp⟩ ?_ ?_
  · rintro r ⟨i, rfl, _⟩
    exact .sc
  · rintro r ⟨i, rfl, h⟩
    simp [go_sem, hP, Try.f26]
    simpa using h
def checkI (fs : List Flow) : Int := if 400 < fs.length then 3 else if fs.any (fun f => !validB f) then 72 else 0
theorem check_pf (fs : List Flow) (hl : fs.length ≤ 100000) : PFun Try.prog none none 18 [flowsL fs] (· = iv (checkI fs)) := by
  refine pfun_intro Try.func18 rfl (by simp [Try.f18]) (by kernel_rfl) ?_
  intro E hP hr hs hW hN
  simp [go_sem, hP, flowsL]
  refine condP (fun h => ?_) (fun h => ?_)
  · have h' : 400 < fs.length := by simp at h; omega
    simp [go_sem, hP, Try.f18]
    simp [checkI, h']
  have h' : ¬ 400 < fs.length := by simp at h; omega
  simp [go_sem, *]
  refine callB_pure (contains_pf fs hl) hP en_26 (args_same (by simp [go_sem, Flow.cells])) .sc ?_
  simp [go_sem, *]
  refine condP (fun h => ?_) (fun h => ?_)
  · simp [go_sem, hP, Try.f18]
    simp only [checkI, h, if_neg h', if_true]
  · simp [go_sem, hP, Try.f18]
    simp only [checkI, h, if_neg h']
    simp

end Go.Proofs.Ytkicgnigaeopnaa
