/- Forecast: Project. -/
import Derived.Test.YtkicgnigaeopnaaForecast
set_option linter.unusedSimpArgs false
namespace Go.Proofs.Ytkicgnigaeopnaa
open Go.PA
open Go.RowKit

structure Pos where
  d : Int
  a : Int
def Pos.cells (p : Pos) : List AV := [iv p.d, iv p.a]
def posL (l : List Pos) : AV := .list 2 (l.map Pos.cells)

/-- What the flows of a day come to. -/
def delta (fs : List Flow) (d : Int) : Int := ((fs.filter fun f => decide (f.d = d)).map (·.a)).sum
/-- The positions from a day on. -/
def run (fs : List Flow) (lo : Int) : Nat → Nat → Int → Option (List Pos)
  | _, 0, _ => some []
  | i, n + 1, o => if totalB (o + delta fs (lo + i)) then (run fs lo (i + 1) n (o + delta fs (lo + i))).map (⟨lo + i, o + delta fs (lo + i)⟩ :: ·) else none
def project (o : Int) (fs : List Flow) (lo hi : Int) : List Pos × Int :=
  if ¬ checkI fs = 0 then ([], checkI fs) else if (!totalB o || (!dayB lo || !dayB hi)) = true then ([], 2) else if 1000 < hi - lo + 1 then ([], 3) else
  match run fs lo 0 (hi - lo + 1).toNat o with
  | none => ([], 2)
  | some l => (l, 0)

theorem check_ok {fs : List Flow} (h : checkI fs = 0) : fs.length ≤ 400 ∧ ∀ f, f ∈ fs → (0 ≤ f.d ∧ f.d ≤ 36000) ∧ (-1000000000000 ≤ f.a ∧ f.a ≤ 1000000000000) := by
  unfold checkI at h
  split at h
  · cases h
  · rename_i hl
    split at h
    · cases h
    · rename_i ha
      refine ⟨by omega, fun f hf => ?_⟩
      have hv : validB f = true := by
        cases hv : validB f with
        | true => rfl
        | false => exact absurd (List.any_eq_true.2 ⟨f, hf, by simp [hv]⟩) ha
      simp [validB, dayB, amongB] at hv
      omega

theorem delta_nil (d : Int) : delta [] d = 0 := rfl
theorem delta_app (xs ys : List Flow) (d : Int) : delta (xs ++ ys) d = delta xs d + delta ys d := by simp [delta, List.filter_append]
theorem delta_one (f : Flow) (d : Int) : delta [f] d = if f.d = d then f.a else 0 := by
  by_cases h : f.d = d <;> simp [delta, h]
theorem delta_bound (d : Int) : ∀ (fs : List Flow), (∀ f, f ∈ fs → -1000000000000 ≤ f.a ∧ f.a ≤ 1000000000000) → -1000000000000 * (fs.length : Int) ≤ delta fs d ∧ delta fs d ≤ 1000000000000 * (fs.length : Int)
  | [], _ => by simp [delta]
  | f :: fs, h => by
    have h1 := delta_bound d fs fun g hg => h g (List.mem_cons_of_mem _ hg)
    have h2 := h f (List.mem_cons_self ..)
    have e : delta (f :: fs) d = delta [f] d + delta fs d := delta_app [f] fs d
    rw [e, delta_one, List.length_cons]
    split <;> omega
/-- The days' sums. -/
def dl (lo : Int) (n : Nat) (fs : List Flow) : List (List AV) := (List.range n).map fun (i : Nat) => [iv (delta fs (lo + (i : Int)))]
theorem dl_len (lo : Int) (n : Nat) (fs : List Flow) : (dl lo n fs).length = n := by simp [dl]
theorem dl_get (lo : Int) (n i : Nat) (fs : List Flow) (h : i < n) : (dl lo n fs)[i]? = some [iv (delta fs (lo + (i : Int)))] := by simp [dl, h]
theorem dl_getE (lo : Int) (n i : Nat) (fs : List Flow) (h : i < (dl lo n fs).length) : (dl lo n fs)[i] = [iv (delta fs (lo + (i : Int)))] := by simp [dl]
theorem dl_nil (lo : Int) (n : Nat) : dl lo n [] = List.replicate n [iv 0] := by simp [dl, delta_nil, List.eq_replicate_iff]
theorem dl_in (lo : Int) (n i : Nat) (fs : List Flow) (f : Flow) (hd : f.d = lo + (i : Int)) : (dl lo n fs).set i [iv (delta fs (lo + (i : Int)) + f.a)] = dl lo n (fs ++ [f]) := by
  apply List.ext_getElem
  · simp [dl]
  · intro j h1 h2
    simp only [dl, List.getElem_set, List.getElem_map, List.getElem_range, delta_app, delta_one]
    by_cases hj : i = j
    · subst hj; simp [hd]
    · have : ¬ f.d = lo + (j : Int) := by omega
      simp [hj, this]
theorem dl_out (lo : Int) (n : Nat) (fs : List Flow) (f : Flow) (hd : f.d < lo ∨ lo + (n : Int) ≤ f.d) : dl lo n (fs ++ [f]) = dl lo n fs := by
  apply List.map_congr_left
  intro j hj
  have := List.mem_range.1 hj
  rw [delta_app, delta_one, if_neg (by omega)]
  simp

theorem project_pf (o : Int) (fs : List Flow) (lo hi : Int) (hl : fs.length ≤ 100000) :
    PFun Try.prog none none 10 [iv o, flowsL fs, iv lo, iv hi] (· = .tup [posL (project o fs lo hi).1, iv (project o fs lo hi).2]) := by
  refine pfun_intro Try.func10 rfl (by simp [Try.f10]) (by kernel_rfl) ?_
  intro E hP hr hs hW hN
  simp [go_sem, hP]
  refine callB_pure (check_pf fs hl) hP en_18 (args_same (by simp [imm_flowsL])) .sc ?_
  simp [go_sem, hP]
  refine condP (fun h0 => ?_) (fun h0 => ?_)
  rotate_left
  · simp [go_sem, hP, Try.f10]
    refine done_nil2 2 ?_
    have : ¬ checkI fs = 0 := by simpa using h0
    simp [project, this, posL]
  have h0 : checkI fs = 0 := by simpa using h0
  simp [go_sem, hP, h0]
  refine callB_pure (total_pf o) hP en_19 (args_same (by simp [go_sem])) .sc ?_
  simp [go_sem, hP]
  have bad : (!totalB o || (!dayB lo || !dayB hi)) = true → ∀ (H : Heap) (b), Done H (.tup [.nil, iv 2]) (· = .tup [posL (project o fs lo hi).1, iv (project o fs lo hi).2]) b := fun hc H b => by
    refine done_nil2 2 ?_
    simp [project, h0, hc, posL]
  cases h1 : totalB o with
  | false =>
    simp [go_sem, hP, h1, Try.f10]
    exact bad (by simp [h1]) _ _
  | true =>
  simp [go_sem, hP, h1]
  refine callB_pure (day_pf lo) hP en_20 (args_same (by simp [go_sem])) .sc ?_
  simp [go_sem, hP]
  cases h2 : dayB lo with
  | false =>
    simp [go_sem, hP, h1, h2, Try.f10]
    exact bad (by simp [h2]) _ _
  | true =>
  simp [go_sem, hP, h1, h2]
  refine callB_pure (day_pf hi) hP en_20 (args_same (by simp [go_sem])) .sc ?_
  simp [go_sem, hP]
  cases h3 : dayB hi with
  | false =>
    simp [go_sem, hP, h1, h2, h3, Try.f10]
    exact bad (by simp [h3]) _ _
  | true =>
  have b1 : -1000000000000000 ≤ o ∧ o ≤ 1000000000000000 := by simpa [totalB, amongB] using h1
  have b2 : 0 ≤ lo ∧ lo ≤ 36000 := by simpa [dayB, amongB] using h2
  have b3 : 0 ≤ hi ∧ hi ≤ 36000 := by simpa [dayB, amongB] using h3
  have w1 := wrap_in (hi - lo) (by omega)
  have w2 := wrap_in (hi - lo + 1) (by omega)
  simp [go_sem, hP, h1, h2, h3, w1, w2]
  refine condP (fun h4 => ?_) (fun h4 => ?_)
  · have h4 : 1000 < hi - lo + 1 := by simpa using h4
    simp [go_sem, hP, Try.f10]
    refine done_nil2 2 ?_
    simp [project, h0, h1, h2, h3, h4, posL]
  have h4 : ¬ 1000 < hi - lo + 1 := by simpa using h4
  simp [go_sem, hP, w1, w2, amax, amaxFrom]
  obtain ⟨n, hn⟩ : ∃ n : Nat, max (hi - lo + 1) 0 = n := ⟨(max (hi - lo + 1) 0).toNat, by omega⟩
  have hn1 : n ≤ 1000 := by omega
  simp [hn, go_sem, hP, flowsL]
  refine ⟨by omega, by omega, ?_⟩
  obtain ⟨k1, k2⟩ := check_ok h0
  refine aloop0 (fun m s => ∃ (k id : Nat), k ≤ fs.length ∧ m = fs.length - k ∧ s.t 0 = iv o ∧ s.t 2 = iv lo ∧ s.t 3 = iv hi ∧ s.t 46 = flowsL fs ∧ s.t 47 = iv fs.length ∧ s.t 48 = iv k ∧ s.t 11 = .sref id 0 n ∧ s.H[id]? = some (some ⟨3, 1, dl lo n (fs.take k)⟩)) fs.length (by rw [hN]; rfl) ?_ ?_
  · exact ⟨0, 0, by simp, by simp, by simp [go_sem], by simp [go_sem], by simp [go_sem], by simp [go_sem, flowsL], by simp [go_sem], by simp [go_sem], by simp [go_sem], by simp [dl_nil]⟩
  rintro m s ⟨k, id, hk, rfl, t0, t2, t3, t46, t47, t48, t11, hH⟩
  obtain ⟨hlt, hG⟩ := List.getElem?_eq_some_iff.1 hH
  simp [go_sem, hP, t46, t47, t48]
  refine condP (fun h => ?_) (fun h => ?_)
  · have hk' : k < fs.length := by simpa using h
    have tk : fs.take (k + 1) = fs.take k ++ [fs[k]] := List.take_succ_eq_append_getElem hk'
    have wk : IntKind.i64.wrap (↑k + 1) = ((k + 1 : Nat) : Int) := by rw [wrap_in _ (by omega)]; rfl
    simp [go_sem, hP, t46, t48, flowsL, hk', Flow.cells, t2, t3]
    refine callB_pure (among_pf fs[k].d lo hi) hP en_21 (args_same (by simp [go_sem])) .sc ?_
    simp [go_sem, hP]
    refine condP (fun h5 => ?_) (fun h5 => ?_)
    · have h5 : lo ≤ fs[k].d ∧ fs[k].d ≤ hi := by simpa [amongB] using h5
      obtain ⟨b4, b5⟩ := k2 fs[k] (List.getElem_mem hk')
      obtain ⟨i, hi'⟩ : ∃ i : Nat, fs[k].d - lo = i := ⟨(fs[k].d - lo).toNat, by omega⟩
      have w5 := wrap_in (i : Int) (by omega)
      have hin : i < n := by omega
      have b6 := delta_bound (lo + i) (fs.take k) fun f hf => (k2 f (List.mem_of_mem_take hf)).2
      have b7 : (fs.take k).length ≤ 400 := by rw [List.length_take]; omega
      have w6 := wrap_in (delta (fs.take k) (lo + i) + fs[k].a) (by omega)
      refine adrawB (fun _ => true) [11] hP (by kernel_rfl) rfl ?_
      simp [go_sem, hP, t2, t11, t48, wk, w5, hi', hG, hlt, hin, dl_len, dl_getE, w6]
      refine ⟨fs.length - (k + 1), by omega, k + 1, by omega, rfl, t0, t3, by rw [t46]; rfl, t47, by omega, ?_⟩
      rw [tk]
      exact dl_in lo n i _ _ (by omega)
    · simp [go_sem, hP, t48, wk]
      have h5 : ¬ (lo ≤ fs[k].d ∧ fs[k].d ≤ hi) := by simpa [amongB] using h5
      refine ⟨fs.length - (k + 1), by omega, k + 1, by omega, rfl, t0, t2, t3, t46, t47, by omega, id, ?_⟩
      rw [tk, dl_out lo n _ _ (by omega)]
      simp [go_sem, hlt, t11, hG]
  · have hk' : k = fs.length := by simp at h; omega
    subst hk'
    have hnn : n = (hi - lo + 1).toNat := by omega
    have hpr : project o fs lo hi = match run fs lo 0 n o with | none => ([], 2) | some l => (l, 0) := by
      rw [hnn]
      unfold project
      rw [if_neg (by simp [h0]), if_neg (by simp [h1, h2, h3]), if_neg h4]
    rw [List.take_length] at hH hG
    simp [go_sem, hP, t11, hG, hlt]
    refine aloop_own 14 33 2 (by simp [go_sem]) ?_
    refine aloop0 (fun m s => ∃ (i id id2 : Nat) (oi : Int) (l : List Pos), i + m = n ∧ l.length ≤ i ∧ s.t 2 = iv lo ∧ s.t 69 = .sref id 0 n ∧ s.t 70 = iv n ∧ s.t 71 = iv i ∧ s.t 0 = iv oi ∧ (-1000000000000000 ≤ oi ∧ oi ≤ 1000000000000000) ∧ s.t 14 = .sref id2 0 l.length ∧ ¬ id2 = id ∧
      s.H[id]? = some (some ⟨3, 1, dl lo n fs⟩) ∧ s.H[id2]? = some (some ⟨33, 2, l.map Pos.cells⟩) ∧ run fs lo 0 n o = (run fs lo i m oi).map (l ++ ·)) n (by rw [hN]; rfl) ?_ ?_
    · refine ⟨0, id, s.H.length, o, [], by simp, by simp, by simp [go_sem, t2], by simp [go_sem], by simp [go_sem], by simp [go_sem], by simp [go_sem, t0], b1, by simp [go_sem], by omega, by simp [go_sem, hlt, hG], by simp [go_sem], by simp⟩
    rintro m s ⟨i, id, id2, oi, l, him, hll, t2, t69, t70, t71, t0, ho, t14, hne, hH, hH2, hrun⟩
    obtain ⟨hlt, hG⟩ := List.getElem?_eq_some_iff.1 hH
    obtain ⟨hlt2, hG2⟩ := List.getElem?_eq_some_iff.1 hH2
    simp [go_sem, hP, t70, t71]
    refine condP (fun h => ?_) (fun h => ?_)
    · have hin : i < n := by simpa using h
      obtain ⟨m, rfl⟩ : ∃ m', m = m' + 1 := ⟨m - 1, by omega⟩
      have hD := delta_bound (lo + i) fs fun f hf => (k2 f hf).2
      have w7 := wrap_in (oi + delta fs (lo + i)) (by omega)
      have w8 := wrap_in (lo + i) (by omega)
      have w9 : IntKind.i64.wrap (↑i + 1) = ((i + 1 : Nat) : Int) := by rw [wrap_in _ (by omega)]; rfl
      simp [go_sem, hP, t70, t71, t0, t69, hlt, hG, hin, dl_len, dl_getE, w7]
      refine callB_pure (total_pf (oi + delta fs (lo + i))) hP en_19 (args_same (by simp [go_sem])) .sc ?_
      simp [go_sem, hP]
      refine condP (fun h6 => ?_) (fun h6 => ?_)
      · have b8 : -1000000000000000 ≤ oi + delta fs (lo + i) ∧ oi + delta fs (lo + i) ≤ 1000000000000000 := by simpa [totalB, amongB] using h6
        simp [go_sem, hP, t2, t14, hlt, hlt2, hG, hG2, w8, t71, w9]
        refine ⟨by omega, by omega, m, by omega, i + 1, by omega, id, s.H.length, _, l ++ [⟨lo + i, oi + delta fs (lo + i)⟩], by simp; omega, t69, t70, by omega, rfl, b8, ⟨rfl, by simp⟩, by omega, ?_, ?_, ?_⟩
        · simp [go_sem, hlt, hne, hG]
        · simp [go_sem, Pos.cells]
        · rw [hrun, run, if_pos (by rw [h6])]
          cases run fs lo (i + 1) m (oi + delta fs (lo + i)) <;> simp
      · simp [go_sem, hP, Try.f10]
        refine done_nil2 2 ?_
        have : run fs lo 0 n o = none := by rw [hrun, run, if_neg (by rw [h6]; simp)]; rfl
        rw [hpr, this]
        rfl
    · have hin : m = 0 := by simp at h; omega
      subst hin
      simp [go_sem, hP, Try.f10, t14]
      have : run fs lo 0 n o = some l := by rw [hrun]; simp [run]
      refine done (x := .tup [posL l, iv 0]) ?_ ?_ ?_
      · simp [go_sem, hlt2, hG2, Pos.cells]
      · rw [hpr, this]
      · simp [go_sem, hlt2, hG2, posL]
end Go.Proofs.Ytkicgnigaeopnaa
