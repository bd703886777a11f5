/- Stable sorting, of whatever length. -/
import Derived.Test.YtabdihohphlheaaGreatDoorStab3
set_option linter.unusedSimpArgs false
set_option linter.unusedVariables false
namespace Go.Proofs.YtabdihohphlheaaGreatDoor
open Go.PA
open Go.RowKit

section
variable {α : Type} (enc : α → List AV) (lt : α → α → Bool) (g : FuncId)

set_option maxHeartbeats 4000000 in
theorem stableL_m {row src : Option Nat} (hc : CmpOk enc lt g) (ho : SOrd lt) (l : List α) (H : Heap) (id n : Nat) (hn : n = l.length) (hb9 : n ≤ 100000000)
    (hH : H[id]? = some (flO enc l)) :
    MFun Tryz.prog row src 66 [.sref id 0 n, iv n, .fn g []] H (fun _ H' => H' = H.set id (flO enc (ssort lt l))) := by
  refine mfun_intro Tryz.func66 rfl (by simp [Tryz.f66]) (by kernel_rfl) (⟨.tup [], _, rfl⟩) ?_
  intro E hP hr hs hN
  have hlt : id < H.length := (List.getElem?_eq_some_iff.1 hH).1
  obtain ⟨C, hC⟩ : ∃ C, C = fun (_ : AV) H' => H' = H.set id (flO enc (ssort lt l)) := ⟨_, rfl⟩
  rw [← hC]
  simp -dsimp -implicitDefEqProofs [-getElem?_pos, go_sem, hP]
  obtain ⟨I, hI⟩ : ∃ I : Nat → St → Prop, I = fun m s => ∃ (D rest : List α) (f a : Nat), a = D.length ∧ m = n + 20 - a ∧ D.length + rest.length = n ∧ rest.length ≤ f ∧ blk lt 20 (n + 1) l = D ++ blk lt 20 (f + 1) rest ∧ s.t 0 = .sref id 0 n ∧ s.t 1 = iv n ∧ s.t 2 = .fn g [] ∧ s.t 6 = iv 20 ∧ s.t 7 = iv a ∧ s.t 8 = iv (a + 20 : Nat) ∧ s.H = H.set id (flO enc (D ++ rest)) := ⟨_, rfl⟩
  refine aloop0 I (n + 20) (by rw [hN]; rfl) ?_ ?_
  · rw [hI]
    exact ⟨[], l, n, 0, rfl, rfl, by simp [hn], by omega, rfl, by simp -dsimp -implicitDefEqProofs [-getElem?_pos, go_sem], by simp -dsimp -implicitDefEqProofs [-getElem?_pos, go_sem], by simp -dsimp -implicitDefEqProofs [-getElem?_pos, go_sem], by simp -dsimp -implicitDefEqProofs [-getElem?_pos, go_sem], by simp -dsimp -implicitDefEqProofs [-getElem?_pos, go_sem], by simp -dsimp -implicitDefEqProofs [-getElem?_pos, go_sem], (set_same hH).symm⟩
  intro m s hs'
  rw [hI] at hs'
  obtain ⟨D, rest, f, a, ha, hm, hl, hf, hblk, t0, t1, t2, t6, t7, t8, hs'⟩ := hs'
  have hid : s.H[id]? = some (flO enc (D ++ rest)) := by rw [hs']; simp [hlt]
  obtain ⟨b, hb⟩ : ∃ b, b = a + 20 := ⟨_, rfl⟩
  rw [← hb] at t8
  simp -dsimp -implicitDefEqProofs [-getElem?_pos, go_sem, hP, t8, t1]
  refine condP (fun h => ?_) (fun h => ?_)
  · have hbn : b ≤ n := by simpa using h
    obtain ⟨f', rfl⟩ : ∃ f', f = f' + 1 := ⟨f - 1, by omega⟩
    have er : rest = rest.take 20 ++ rest.drop 20 := (List.take_append_drop _ _).symm
    have l20 : (rest.take 20).length = 20 := by rw [List.length_take]; omega
    have hins := insertion_m (row := E.row) (src := E.src) enc lt g hc D (rest.take 20) (rest.drop 20) s.H id a b n ha (by omega) (by rw [List.length_drop]; omega) (by omega) (by rw [List.append_assoc, ← er]; exact hid)
    have wb := wrap_in ((b : Int) + 20) (by omega)
    simp -dsimp -implicitDefEqProofs [-getElem?_pos, go_sem, hP, t0, t7, t8, t2]
    refine callB_m hins hP (by kernel_rfl) ?_
    rintro r H' rfl
    simp -dsimp -implicitDefEqProofs [-getElem?_pos, go_sem, hP, t8, t6, wb]
    refine ⟨n + 20 - b, by omega, ?_⟩
    rw [hI]
    refine ⟨D ++ ssort lt (rest.take 20), rest.drop 20, f', b, by rw [List.length_append, ssort_len]; omega, rfl, by rw [List.length_append, ssort_len, List.length_drop]; omega, by rw [List.length_drop]; omega, by rw [hblk, blk]; simp, by simp -dsimp -implicitDefEqProofs [-getElem?_pos, go_sem, t0], by simp -dsimp -implicitDefEqProofs [-getElem?_pos, go_sem, t1], by simp -dsimp -implicitDefEqProofs [-getElem?_pos, go_sem, t2], by simp -dsimp -implicitDefEqProofs [-getElem?_pos, go_sem, t6], by simp -dsimp -implicitDefEqProofs [-getElem?_pos, go_sem], by simp -dsimp -implicitDefEqProofs [-getElem?_pos, go_sem], ?_⟩
    show s.H.set id _ = _
    rw [hs', List.set_set, isort_ssort ho]
    simp
  have hbn : n < b := by
    have : ¬ b ≤ n := by simpa using h
    omega
  have hins := insertion_m (row := E.row) (src := E.src) enc lt g hc D rest [] s.H id a n n ha (by omega) (by simp only [List.length_nil]; omega) (by omega) (by rw [List.append_nil]; exact hid)
  simp -dsimp -implicitDefEqProofs [-getElem?_pos, go_sem, hP, t0, t7, t1, t2]
  refine callB_m hins hP (by kernel_rfl) ?_
  rintro r H' hH'
  have hH2 : H' = H.set id (flO enc (blk lt 20 (n + 1) l)) := by
    rw [hH', hs', List.set_set]
    congr 2
    rw [hblk, blk_one _ _ (by omega), isort_ssort ho, List.append_nil]
  clear hH' hblk hs' hid hins
  simp -dsimp -implicitDefEqProofs [-getElem?_pos, go_sem, hP]
  obtain ⟨J, hJ⟩ : ∃ I : Nat → St → Prop, I = fun m s => ∃ bs : Nat, 1 ≤ bs ∧ bs ≤ 200000000 ∧ m = n - bs ∧ s.t 0 = .sref id 0 n ∧ s.t 1 = iv n ∧ s.t 2 = .fn g [] ∧ s.t 6 = iv bs ∧ s.H = H.set id (flO enc (blk lt bs (n + 1) l)) := ⟨_, rfl⟩
  refine aloop0 J (n - 20) (by rw [hN]; rfl) ?_ ?_
  · rw [hJ]
    exact ⟨20, by omega, by omega, rfl, by simp -dsimp -implicitDefEqProofs [-getElem?_pos, go_sem, t0], by simp -dsimp -implicitDefEqProofs [-getElem?_pos, go_sem, t1], by simp -dsimp -implicitDefEqProofs [-getElem?_pos, go_sem, t2], by simp -dsimp -implicitDefEqProofs [-getElem?_pos, go_sem, t6], hH2⟩
  clear t0 t1 t2 t6 t7 t8 hH2 hbn h hb b hm hl hf ha a f rest D m
  intro m s hs'
  rw [hJ] at hs'
  obtain ⟨bs, hb1, hb2, hm3, t0, t1, t2, t6, hs'⟩ := hs'
  subst hm3
  simp -dsimp -implicitDefEqProofs [-getElem?_pos, go_sem, hP, t6, t1]
  refine condP (fun h => ?_) (fun h => ?_)
  rotate_left
  · have hbs : n ≤ bs := by
      have : ¬ bs < n := by simpa using h
      omega
    simp -dsimp -implicitDefEqProofs [-getElem?_pos, go_sem, hP]
    rw [hC, hs', blk_one _ _ (by omega)]
  have hbs : bs < n := by simpa using h
  have w2 := wrap_in (2 * (bs : Int)) (by omega)
  obtain ⟨b2, hb22⟩ : ∃ b2, b2 = 2 * bs := ⟨_, rfl⟩
  have c2 : 2 * (bs : Int) = b2 := by omega
  rw [c2] at w2
  simp -dsimp -implicitDefEqProofs [-getElem?_pos, go_sem, hP, t6, c2, w2]
  obtain ⟨K, hK⟩ : ∃ I : Nat → St → Prop, I = fun m s => ∃ (D rest : List α) (f f2 a : Nat), a = D.length ∧ m = n - a ∧ D.length + rest.length = n ∧ rest.length ≤ f ∧ rest.length ≤ f2 ∧ blk lt b2 (n + 1) l = D ++ blk lt b2 (f2 + 1) rest ∧ s.t 0 = .sref id 0 n ∧ s.t 1 = iv n ∧ s.t 2 = .fn g [] ∧ s.t 6 = iv bs ∧ s.t 7 = iv a ∧ s.t 8 = iv (a + b2 : Nat) ∧ s.H = H.set id (flO enc (D ++ blk lt bs (f + 1) rest)) := ⟨_, rfl⟩
  refine aloop0 K (n) (by rw [hN]; rfl) ?_ ?_
  · rw [hK]
    exact ⟨[], l, n, n, 0, rfl, rfl, by simp [hn], by omega, by omega, rfl, by simp -dsimp -implicitDefEqProofs [-getElem?_pos, go_sem, t0], by simp -dsimp -implicitDefEqProofs [-getElem?_pos, go_sem, t1], by simp -dsimp -implicitDefEqProofs [-getElem?_pos, go_sem, t2], by simp -dsimp -implicitDefEqProofs [-getElem?_pos, go_sem, t6], by simp -dsimp -implicitDefEqProofs [-getElem?_pos, go_sem], by simp -dsimp -implicitDefEqProofs [-getElem?_pos, go_sem], hs'⟩
  clear t0 t1 t2 t6 hs'
  intro m s hs'
  rw [hK] at hs'
  obtain ⟨D, rest, f, f2, a, ha, hm, hl, hf, hf2, hblk, t0, t1, t2, t6, t7, t8, hs'⟩ := hs'
  subst hm
  have hid : s.H[id]? = some (flO enc (D ++ blk lt bs (f + 1) rest)) := by rw [hs']; simp [hlt]
  obtain ⟨b, hb⟩ : ∃ b, b = a + b2 := ⟨_, rfl⟩
  rw [← hb] at t8
  obtain ⟨m1, hm1⟩ : ∃ m1, m1 = a + bs := ⟨_, rfl⟩
  have wm : IntKind.i64.wrap ((a : Int) + bs) = (m1 : Int) := by rw [wrap_in _ (by omega)]; omega
  simp -dsimp -implicitDefEqProofs [-getElem?_pos, go_sem, hP, t8, t1]
  refine condP (fun h => ?_) (fun h => ?_)
  · have hbn : b ≤ n := by simpa using h
    obtain ⟨f', rfl⟩ : ∃ f', f = f' + 2 := ⟨f - 2, by omega⟩
    obtain ⟨f3, rfl⟩ : ∃ f3, f2 = f3 + 1 := ⟨f2 - 1, by omega⟩
    obtain ⟨k1, k2⟩ := blk_two (lt := lt) ho bs (f' + 1) rest
    rw [show f' + 1 + 2 = f' + 2 + 1 from rfl, ← hb22] at k1
    rw [← hb22] at k2
    have lA : (ssort lt (rest.take bs)).length = bs := by rw [ssort_len, List.length_take]; omega
    have lB : (ssort lt ((rest.drop bs).take bs)).length = bs := by rw [ssort_len, List.length_take, List.length_drop]; omega
    have lR : (blk lt bs (f' + 1) (rest.drop b2)).length = rest.length - b2 := by
      have hle : (rest.drop b2).length ≤ f' + 1 := by rw [List.length_drop]; omega
      rw [blk_len _ _ _ (Nat.le_trans hle (Nat.le_mul_of_pos_right _ hb1)), List.length_drop]
    have hsy := symMerge_m enc lt g hc ho (bs + bs) E.row E.src D (ssort lt (rest.take bs)) (ssort lt ((rest.drop bs).take bs)) (blk lt bs (f' + 1) (rest.drop b2)) s.H id a m1 b n (by omega) (by omega) (by omega) (ssort_srt ho _) (ssort_srt ho _) ha (by omega) (by omega) (by simp only [List.length_append]; omega) (by omega) (by rw [hid, k1]; simp)
    have wb : IntKind.i64.wrap ((b : Int) + b2) = ((b + b2 : Nat) : Int) := by rw [wrap_in _ (by omega)]; omega
    obtain ⟨b3, hb3⟩ : ∃ b3, b3 = b + b2 := ⟨_, rfl⟩
    rw [← hb3] at wb
    simp -dsimp -implicitDefEqProofs [-getElem?_pos, go_sem, hP, t0, t7, t6, wm, t8, t2]
    refine callB_m hsy hP (by kernel_rfl) ?_
    rintro r H' hH'
    simp -dsimp -implicitDefEqProofs [-getElem?_pos, go_sem, hP, t8, t6, c2, w2, wb]
    refine ⟨n - b, by omega, ?_⟩
    rw [hK]
    refine ⟨D ++ ssort lt (rest.take b2), rest.drop b2, f', f3, b, by rw [List.length_append, ssort_len, List.length_take]; omega, rfl, by rw [List.length_append, ssort_len, List.length_take, List.length_drop]; omega, by rw [List.length_drop]; omega, by rw [List.length_drop]; omega, by rw [hblk, blk]; simp, by simp -dsimp -implicitDefEqProofs [-getElem?_pos, go_sem, t0], by simp -dsimp -implicitDefEqProofs [-getElem?_pos, go_sem, t1], by simp -dsimp -implicitDefEqProofs [-getElem?_pos, go_sem, t2], by simp -dsimp -implicitDefEqProofs [-getElem?_pos, go_sem, t6], by simp -dsimp -implicitDefEqProofs [-getElem?_pos, go_sem], by rw [← hb3]; simp -dsimp -implicitDefEqProofs [-getElem?_pos, go_sem], ?_⟩
    show H' = _
    rw [hH', hs', List.set_set, k2]
  have hbn : n < b := by
    have : ¬ b ≤ n := by simpa using h
    omega
  have w6 := wrap_in ((bs : Int) * 2) (by omega)
  have c6 : (bs : Int) * 2 = b2 := by omega
  rw [c6] at w6
  have fin : ∀ (s' : St), s'.t 0 = .sref id 0 n → s'.t 1 = iv n → s'.t 2 = .fn g [] → s'.t 6 = iv b2 → s'.H = H.set id (flO enc (blk lt b2 (n + 1) l)) → ∃ n', n' < n - bs ∧ J n' s' := fun s' a0 a1 a2 a6 aH => by
    refine ⟨n - b2, by omega, ?_⟩
    rw [hJ]
    exact ⟨b2, by omega, by omega, rfl, a0, a1, a2, a6, aH⟩
  by_cases hmn : m1 < n
  · have d1 : decide (m1 < n) = true := decide_eq_true hmn
    have er : blk lt bs (f + 1) rest = ssort lt (rest.take bs) ++ ssort lt (rest.drop bs) := by
      obtain ⟨f', rfl⟩ : ∃ f', f = f' + 1 := ⟨f - 1, by omega⟩
      rw [blk, blk_one _ _ (by rw [List.length_drop]; omega)]
    have lA : (ssort lt (rest.take bs)).length = bs := by rw [ssort_len, List.length_take]; omega
    have lB : (ssort lt (rest.drop bs)).length = rest.length - bs := by rw [ssort_len, List.length_drop]
    have hsy := symMerge_m enc lt g hc ho (bs + rest.length) E.row E.src D (ssort lt (rest.take bs)) (ssort lt (rest.drop bs)) [] s.H id a m1 n n (by omega) (by omega) (by omega) (ssort_srt ho _) (ssort_srt ho _) ha (by omega) (by omega) (by simp only [List.length_append, List.length_nil]; omega) (by omega) (by rw [hid, er]; simp)
    simp -dsimp -implicitDefEqProofs [-getElem?_pos, go_sem, hP, t7, t6, wm, t1, d1, t0, t2]
    refine callB_m hsy hP (by kernel_rfl) ?_
    rintro r H' hH'
    simp -dsimp -implicitDefEqProofs [-getElem?_pos, go_sem, hP, t6, c6, w6]
    refine fin _ (by simp -dsimp -implicitDefEqProofs [-getElem?_pos, go_sem, t0]) (by simp -dsimp -implicitDefEqProofs [-getElem?_pos, go_sem, t1]) (by simp -dsimp -implicitDefEqProofs [-getElem?_pos, go_sem, t2]) (by simp -dsimp -implicitDefEqProofs [-getElem?_pos, go_sem]) ?_
    show H' = _
    rw [hH', hs', List.set_set, hblk, blk_one _ _ (by omega), ← ssort_app ho, List.take_append_drop]
    simp
  · have d1 : decide (m1 < n) = false := decide_eq_false hmn
    simp -dsimp -implicitDefEqProofs [-getElem?_pos, go_sem, hP, t7, t6, wm, t1, d1, c6, w6]
    refine fin _ (by simp -dsimp -implicitDefEqProofs [-getElem?_pos, go_sem, t0]) (by simp -dsimp -implicitDefEqProofs [-getElem?_pos, go_sem, t1]) (by simp -dsimp -implicitDefEqProofs [-getElem?_pos, go_sem, t2]) (by simp -dsimp -implicitDefEqProofs [-getElem?_pos, go_sem]) ?_
    show s.H = _
    rw [hs', hblk, blk_one _ _ (by omega), blk_one _ _ (by omega)]

theorem sortStableL_m {row src : Option Nat} (hc : CmpOk enc lt g) (ho : SOrd lt) (l : List α) (H : Heap) (id n : Nat) (hn : n = l.length) (hb9 : n ≤ 100000000)
    (hH : H[id]? = some (flO enc l)) :
    MFun Tryz.prog row src 58 [.sref id 0 n, .fn g []] H (fun _ H' => H' = H.set id (flO enc (ssort lt l))) := by
  refine mfun_intro Tryz.func58 rfl (by simp [Tryz.f58]) (by kernel_rfl) (⟨.tup [], _, rfl⟩) ?_
  intro E hP hr hs hN
  simp -dsimp -implicitDefEqProofs [-getElem?_pos, go_sem, hP, hH]
  refine callB_m (stableL_m enc lt g hc ho l H id n hn hb9 hH) hP (by kernel_rfl) ?_
  rintro r H' rfl
  simp -dsimp -implicitDefEqProofs [-getElem?_pos, go_sem, hP]
end
end Go.Proofs.YtabdihohphlheaaGreatDoor
