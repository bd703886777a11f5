/- Forecast: order, Shift. -/
import Derived.Test.YtkicgnigaeopnaaSortFlow
import Derived.Test.YtkicgnigaeopnaaForecast
import Derived.Test.YtkicgnigaeopnaaProject
set_option linter.unusedSimpArgs false
namespace Go.Proofs.Ytkicgnigaeopnaa
open Go.PA
open Go.RowKit

/-- Does a flow come ahead of another one? -/
def befB (a b : Flow) : Bool := decide (a.d < b.d) || (decide (a.d = b.d) && (decide (a.k < b.k) || (decide (a.k = b.k) && decide (a.n < b.n))))
theorem bef_or (a b : Flow) : decide (orI [cmpI a.d b.d, cmpI a.k b.k, cmpI a.n b.n] < 0) = befB a b := by
  grind [cmpI, orI, befB]

theorem cmpFlow_pf (a b : Flow) : PFun Try.prog none none 33 [.agg a.cells, .agg b.cells] (fun r => ∃ i : Int, r = iv i ∧ decide (i < 0) = befB a b) := by
  refine pfun_intro Try.func33 rfl (by simp [Try.f33]) (by kernel_rfl) ?_
  intro E hP hr hs hW hN
  simp [go_sem, hP, Flow.cells]
  refine adrawB (fun _ => true) [] hP (by kernel_rfl) (by kernel_rfl) ?_
  simp [go_sem, hP]
  refine callB_pure (compare_pf a.d b.d) hP en_31 (args_same (by simp [go_sem])) .sc ?_
  simp [go_sem, hP]
  refine callB_pure (compare_pf a.k b.k) hP en_31 (args_same (by simp [go_sem])) .sc ?_
  simp [go_sem, hP]
  refine callB_pure (compare_pf a.n b.n) hP en_31 (args_same (by simp [go_sem])) .sc ?_
  simp [go_sem, hP]
  refine callB_pure (or_pf [cmpI a.d b.d, cmpI a.k b.k, cmpI a.n b.n] (by simp)) hP en_34 (args_same (by simp [go_sem])) .sc ?_
  simp [go_sem, hP]
  exact bef_or a b

theorem cmp_ok : CmpOk Flow.cells befB 33 := by
  refine ⟨fun a => rfl, fun a c h => ?_, en_33, cmpFlow_pf⟩
  simp [Flow.cells] at h
  rcases h with rfl | rfl | rfl | rfl <;> exact ⟨.sc, rfl⟩

abbrev flowObj (fs : List Flow) : Option AObj := some ⟨38, 4, encL Flow.cells fs⟩

theorem order_m {row src : Option Nat} (l : List Flow) (H : Heap) (id n : Nat) (hn : n = l.length) (hb9 : n < 20) (hH : H[id]? = some (flowObj l)) :
    MFun Try.prog row src 23 [.sref id 0 n] H (fun r H' => r = .sref id 0 n ∧ H' = H.set id (flowObj (isort befB l))) := by
  refine mfun_intro Try.func23 rfl (by simp [Try.f23]) (by kernel_rfl) ⟨_, _, rfl, rfl⟩ ?_
  intro E hP hr hs hN
  simp [go_sem, hP]
  refine callB_m (sortStable_m Flow.cells befB _ cmp_ok l H id n hn hb9 hH) hP (by kernel_rfl) ?_
  rintro r H' rfl
  simp [go_sem, hP]

def shiftL (fs : List Flow) (lo by_ : Int) : List Flow := (fs.map fun f => if lo ≤ f.d then { f with d := f.d + by_ } else f).filter fun f => decide (f.d ≤ 36000)
theorem shiftL_snoc (fs : List Flow) (f : Flow) (lo by_ : Int) : shiftL (fs ++ [f]) lo by_ = shiftL fs lo by_ ++ shiftL [f] lo by_ := by simp [shiftL]
theorem shiftL_len (fs : List Flow) (lo by_ : Int) : (shiftL fs lo by_).length ≤ fs.length := by
  unfold shiftL
  exact Nat.le_trans (List.length_filter_le _ _) (by simp)
def shiftR (fs : List Flow) (lo by_ : Int) : List Flow × Int :=
  if ¬ checkI fs = 0 then ([], checkI fs) else if amongB by_ 0 1000 = false then ([], 2) else (isort befB (shiftL fs lo by_), 0)

theorem imm_flow (a : Flow) (c : AV) (h : c ∈ a.cells) : Imm c := by
  simp [Flow.cells] at h
  rcases h with rfl | rfl | rfl | rfl <;> exact .sc

set_option maxHeartbeats 1000000 in
theorem shift_pf (fs : List Flow) (lo by_ : Int) (hl : fs.length < 20) :
    PFun Try.prog none none 13 [flowsL fs, iv lo, iv by_] (· = .tup [flowsL (shiftR fs lo by_).1, iv (shiftR fs lo by_).2]) := by
  refine pfun_intro Try.func13 rfl (by simp [Try.f13]) (by kernel_rfl) ?_
  intro E hP hr hs hW hN
  simp -implicitDefEqProofs [-getElem?_pos, go_sem, hP]
  refine callB_pure (check_pf fs (by omega)) hP en_18 (args_same (by simp [imm_flowsL])) .sc ?_
  simp -implicitDefEqProofs [-getElem?_pos, go_sem, hP]
  refine condP (fun h0 => ?_) (fun h0 => ?_)
  rotate_left
  · simp -implicitDefEqProofs [-getElem?_pos, go_sem, hP]
    refine done_nil2 4 ?_
    have : ¬ checkI fs = 0 := by simpa using h0
    simp [shiftR, this, flowsL]
  have h0 : checkI fs = 0 := by simpa using h0
  simp -implicitDefEqProofs [-getElem?_pos, go_sem, hP, h0]
  refine callB_pure (among_pf by_ 0 1000) hP en_21 (args_same (by simp -implicitDefEqProofs [-getElem?_pos, go_sem])) .sc ?_
  simp -implicitDefEqProofs [-getElem?_pos, go_sem, hP]
  refine condP (fun h1 => ?_) (fun h1 => ?_)
  rotate_left
  · simp -implicitDefEqProofs [-getElem?_pos, go_sem, hP]
    refine done_nil2 4 ?_
    simp [shiftR, h0, h1, flowsL]
  have h1' : 0 ≤ by_ ∧ by_ ≤ 1000 := by simpa [amongB] using h1
  obtain ⟨hlen, hfs⟩ := check_ok h0
  simp -implicitDefEqProofs [-getElem?_pos, go_sem, hP, flowsL]
  refine aloop_own 9 38 4 (by simp -implicitDefEqProofs [-getElem?_pos, go_sem]) ?_
  obtain ⟨I, hI⟩ : ∃ I : Nat → St → Prop, I = fun m s => ∃ (k id : Nat), k ≤ fs.length ∧ m = fs.length - k ∧ s.t 1 = iv lo ∧ s.t 2 = iv by_ ∧ s.t 20 = flowsL fs ∧ s.t 21 = iv fs.length ∧ s.t 22 = iv k ∧ s.t 9 = .sref id 0 (shiftL (fs.take k) lo by_).length ∧ s.H[id]? = some (flowObj (shiftL (fs.take k) lo by_)) := ⟨_, rfl⟩
  refine aloop0 I fs.length (by rw [hN]; rfl) ?_ ?_
  · rw [hI]
    exact ⟨0, 0, by omega, by omega, by simp -implicitDefEqProofs [-getElem?_pos, go_sem], by simp -implicitDefEqProofs [-getElem?_pos, go_sem], by simp -implicitDefEqProofs [-getElem?_pos, go_sem, flowsL], by simp -implicitDefEqProofs [-getElem?_pos, go_sem], by simp -implicitDefEqProofs [-getElem?_pos, go_sem], by simp -implicitDefEqProofs [-getElem?_pos, go_sem, shiftL], by simp -implicitDefEqProofs [-getElem?_pos, go_sem, shiftL, encL]⟩
  intro m s hs'
  rw [hI] at hs'
  obtain ⟨k, id, hk, hm, t1, t2, t20, t21, t22, t9, hH⟩ := hs'
  simp -implicitDefEqProofs [-getElem?_pos, go_sem, hP, t22, t21]
  refine condP (fun h => ?_) (fun h => ?_)
  · have hk : k < fs.length := by simpa using h
    have wk := wrap_in ((k : Int) + 1) (by omega)
    obtain ⟨f, hf⟩ : ∃ f, f = fs[k] := ⟨_, rfl⟩
    have hfd := (hfs f (hf ▸ List.getElem_mem hk)).1
    have wd := wrap_in (f.d + by_) (by omega)
    have hfk : fs[k]? = some f := by rw [hf]; exact List.getElem?_eq_getElem hk
    have e1 : fs.take (k + 1) = fs.take k ++ [f] := by rw [List.take_succ_eq_append_getElem hk, hf]
    have hlt := (List.getElem?_eq_some_iff.1 hH).1
    simp -implicitDefEqProofs [-getElem?_pos, go_sem, hP, t20, t22, t1, t2, flowsL, hk, hfk, Flow.cells]
    refine condP (fun h2 => ?_) (fun h2 => ?_)
    · have h2 : lo ≤ f.d := by simpa using h2
      simp -implicitDefEqProofs [-getElem?_pos, go_sem, hP, t2, wd]
      refine condP (fun h3 => ?_) (fun h3 => ?_)
      · have h3 : f.d + by_ ≤ 36000 := by simpa using h3
        have e2 : shiftL [f] lo by_ = [⟨f.d + by_, f.a, f.k, f.n⟩] := by simp [shiftL, h2, h3]
        have e3 : shiftL (fs.take (k + 1)) lo by_ = shiftL (fs.take k) lo by_ ++ [⟨f.d + by_, f.a, f.k, f.n⟩] := by rw [e1, shiftL_snoc, e2]
        have e4 := encL_take Flow.cells (shiftL (fs.take k) lo by_) _ rfl
        have hln := shiftL_len (fs.take k) lo by_
        simp at hln
        simp -implicitDefEqProofs [-getElem?_pos, go_sem, hP, t9, hH, t22, wk, hlt, e4]
        refine ⟨by omega, by omega, fs.length - (k + 1), by omega, ?_⟩
        rw [hI]
        refine ⟨k + 1, s.H.length + 1, by omega, rfl, by simp -implicitDefEqProofs [-getElem?_pos, go_sem, t1], by simp -implicitDefEqProofs [-getElem?_pos, go_sem, t2], by simp -implicitDefEqProofs [-getElem?_pos, go_sem, t20], by simp -implicitDefEqProofs [-getElem?_pos, go_sem, t21], by simp -implicitDefEqProofs [-getElem?_pos, go_sem], ?_, ?_⟩
        · simp -implicitDefEqProofs [-getElem?_pos, go_sem, e3]
        · simp -implicitDefEqProofs [-getElem?_pos, go_sem, e3, encL, Flow.cells]
      · have h3 : ¬ f.d + by_ ≤ 36000 := by simpa using h3
        have e2 : shiftL [f] lo by_ = [] := by simp [shiftL, h2]; omega
        have e3 : shiftL (fs.take (k + 1)) lo by_ = shiftL (fs.take k) lo by_ := by rw [e1, shiftL_snoc, e2, List.append_nil]
        simp -implicitDefEqProofs [-getElem?_pos, go_sem, hP, t22, wk]
        refine ⟨fs.length - (k + 1), by omega, ?_⟩
        rw [hI]
        exact ⟨k + 1, id, by omega, rfl, by simp -implicitDefEqProofs [-getElem?_pos, go_sem, t1], by simp -implicitDefEqProofs [-getElem?_pos, go_sem, t2], by simp -implicitDefEqProofs [-getElem?_pos, go_sem, t20], by simp -implicitDefEqProofs [-getElem?_pos, go_sem, t21], by simp -implicitDefEqProofs [-getElem?_pos, go_sem], by simp -implicitDefEqProofs [-getElem?_pos, go_sem, t9, e3], by simp -implicitDefEqProofs [-getElem?_pos, go_sem, hlt, e3, hH]⟩
    · have h2 : ¬ lo ≤ f.d := by simpa using h2
      simp -implicitDefEqProofs [-getElem?_pos, go_sem, hP, t2, wd]
      refine condP (fun h3 => ?_) (fun h3 => ?_)
      · have h3 : f.d ≤ 36000 := by simpa using h3
        have e2 : shiftL [f] lo by_ = [⟨f.d, f.a, f.k, f.n⟩] := by simp [shiftL, h2, h3]
        have e3 : shiftL (fs.take (k + 1)) lo by_ = shiftL (fs.take k) lo by_ ++ [⟨f.d, f.a, f.k, f.n⟩] := by rw [e1, shiftL_snoc, e2]
        have e4 := encL_take Flow.cells (shiftL (fs.take k) lo by_) _ rfl
        have hln := shiftL_len (fs.take k) lo by_
        simp at hln
        simp -implicitDefEqProofs [-getElem?_pos, go_sem, hP, t9, hH, t22, wk, hlt, e4]
        refine ⟨by omega, by omega, fs.length - (k + 1), by omega, ?_⟩
        rw [hI]
        refine ⟨k + 1, s.H.length + 1, by omega, rfl, by simp -implicitDefEqProofs [-getElem?_pos, go_sem, t1], by simp -implicitDefEqProofs [-getElem?_pos, go_sem, t2], by simp -implicitDefEqProofs [-getElem?_pos, go_sem, t20], by simp -implicitDefEqProofs [-getElem?_pos, go_sem, t21], by simp -implicitDefEqProofs [-getElem?_pos, go_sem], ?_, ?_⟩
        · simp -implicitDefEqProofs [-getElem?_pos, go_sem, e3]
        · simp -implicitDefEqProofs [-getElem?_pos, go_sem, e3, encL, Flow.cells]
      · have h3 : ¬ f.d ≤ 36000 := by simpa using h3
        have e2 : shiftL [f] lo by_ = [] := by simp [shiftL, h2]; omega
        have e3 : shiftL (fs.take (k + 1)) lo by_ = shiftL (fs.take k) lo by_ := by rw [e1, shiftL_snoc, e2, List.append_nil]
        simp -implicitDefEqProofs [-getElem?_pos, go_sem, hP, t22, wk]
        refine ⟨fs.length - (k + 1), by omega, ?_⟩
        rw [hI]
        exact ⟨k + 1, id, by omega, rfl, by simp -implicitDefEqProofs [-getElem?_pos, go_sem, t1], by simp -implicitDefEqProofs [-getElem?_pos, go_sem, t2], by simp -implicitDefEqProofs [-getElem?_pos, go_sem, t20], by simp -implicitDefEqProofs [-getElem?_pos, go_sem, t21], by simp -implicitDefEqProofs [-getElem?_pos, go_sem], by simp -implicitDefEqProofs [-getElem?_pos, go_sem, t9, e3], by simp -implicitDefEqProofs [-getElem?_pos, go_sem, hlt, e3, hH]⟩
  · have hk : fs.length ≤ k := by simpa using h
    have e1 : fs.take k = fs := List.take_of_length_le hk
    rw [e1] at t9 hH
    have hln := shiftL_len fs lo by_
    simp -implicitDefEqProofs [-getElem?_pos, go_sem, hP, t9]
    refine callB_m (order_m (shiftL fs lo by_) s.H id _ rfl (by omega) hH) hP en_23 ?_
    rintro r H' ⟨rfl, rfl⟩
    have hlt := (List.getElem?_eq_some_iff.1 hH).1
    simp -implicitDefEqProofs [-getElem?_pos, go_sem, hP]
    have e5 := encL_take Flow.cells (isort befB (shiftL fs lo by_)) (shiftL fs lo by_).length (by rw [isort_len])
    refine done (x := .tup [flowsL (isort befB (shiftL fs lo by_)), iv 0]) ?_ (by simp [shiftR, h0, h1, flowsL]) ?_
    · simp -implicitDefEqProofs [-getElem?_pos, go_sem, hlt, e5]
      exact imm_list.1 (imm_encL Flow.cells (k := 4) imm_flow _)
    · simp -implicitDefEqProofs [-getElem?_pos, go_sem, hlt, e5]
      rfl

end Go.Proofs.Ytkicgnigaeopnaa
