/- Stable sorting: merging in place. -/
import Derived.Test.YtabdihohphlheaaGreatDoorStab1
set_option linter.unusedSimpArgs false
set_option linter.unusedVariables false
namespace Go.Proofs.YtabdihohphlheaaGreatDoor
open Go.PA
open Go.RowKit

section
variable {α : Type} (enc : α → List AV) (lt : α → α → Bool) (g : FuncId)

theorem SOrd.irr {lt : α → α → Bool} (h : SOrd lt) (x : α) : lt x x = false := by
  cases hc : lt x x
  · rfl
  · rw [h.asym _ _ hc] at hc; cases hc
theorem take_mem {l : List α} {k : Nat} {y : α} (hy : y ∈ l.take (k + 1)) {z : α} (hz : l[k]? = some z) : y = z ∨ y ∈ l.take k := by
  rw [List.take_add_one, hz] at hy
  rcases List.mem_append.1 hy with h | h
  · exact .inr h
  · simp at h; exact .inl h
theorem srt_take {lt : α → α → Bool} {l : List α} (hs : Srt lt l) {k : Nat} {y z : α} (hy : y ∈ l.take k) (hz : l[k]? = some z) : lt z y = false := by
  obtain ⟨i, hi⟩ := List.getElem?_of_mem hy
  have hik : i < k := by have := (List.getElem?_eq_some_iff.1 hi).1; rw [List.length_take] at this; omega
  rw [List.getElem?_take, if_pos hik] at hi
  obtain ⟨h1, e1⟩ := List.getElem?_eq_some_iff.1 hi
  obtain ⟨h2, e2⟩ := List.getElem?_eq_some_iff.1 hz
  have := List.pairwise_iff_getElem.1 hs i k h1 h2 hik
  rw [e1, e2] at this
  exact this
theorem srt_drop {lt : α → α → Bool} (ho : SOrd lt) {l : List α} (hs : Srt lt l) {k : Nat} {y z : α} (hy : y ∈ l.drop k) (hz : l[k]? = some z) : lt y z = false := by
  obtain ⟨i, hi⟩ := List.getElem?_of_mem hy
  rw [List.getElem?_drop] at hi
  obtain ⟨h1, e1⟩ := List.getElem?_eq_some_iff.1 hi
  obtain ⟨h2, e2⟩ := List.getElem?_eq_some_iff.1 hz
  cases i with
  | zero => rw [Nat.add_zero] at hi; rw [hi] at hz; cases hz; exact ho.irr _
  | succ i =>
    have := List.pairwise_iff_getElem.1 hs k (k + (i + 1)) h2 h1 (by omega)
    rw [e1, e2] at this
    exact this
theorem dropAt {l : List α} {k : Nat} {y : α} (h : l[k]? = some y) : l.drop k = y :: l.drop (k + 1) := by
  obtain ⟨h1, h2⟩ := List.getElem?_eq_some_iff.1 h
  rw [List.drop_eq_getElem_cons h1, h2]
theorem takeAt {l : List α} {k : Nat} {y : α} (h : l[k]? = some y) : l.take (k + 1) = l.take k ++ [y] := by rw [List.take_add_one, h]; rfl
theorem drop_head (l : List α) (k : Nat) : (l.drop k).head? = l[k]? := by rw [List.head?_drop]

theorem symOne_m {row src : Option Nat} (hc : CmpOk enc lt g) (ho : SOrd lt) (P : List α) (x : α) (B S : List α) (H : Heap) (id a b N : Nat) (hB : 1 ≤ B.length) (sB : Srt lt B) (ha : a = P.length) (hb : b = a + 1 + B.length) (hT : N = (P ++ [x] ++ B ++ S).length) (hb9 : N ≤ 1000000000)
    (hH : H[id]? = some (flO enc (P ++ [x] ++ B ++ S))) :
    MFun Tryz.prog row src 78 [.sref id 0 N, iv a, iv (a + 1 : Nat), iv b, .fn g []] H (fun _ H' => H' = H.set id (flO enc (P ++ smerge lt [x] B ++ S))) := by
  have hc' := hc
  obtain ⟨hk, him, hen, hcmp⟩ := hc'
  refine mfun_intro Tryz.func78 rfl (by simp [Tryz.f78]) (by kernel_rfl) (⟨.tup [], _, rfl⟩) ?_
  intro E hP hr hs hN
  have hlt : id < H.length := (List.getElem?_eq_some_iff.1 hH).1
  obtain ⟨C, hC⟩ : ∃ C, C = fun (_ : AV) H' => H' = H.set id (flO enc (P ++ smerge lt [x] B ++ S)) := ⟨_, rfl⟩
  rw [← hC]
  simp only [List.length_append, List.length_singleton] at hT
  obtain ⟨m0, hm0⟩ : ∃ m0, m0 = a + 1 := ⟨_, rfl⟩
  rw [← hm0]
  have c1 : (m0 : Int) - a = 1 := by omega
  have w1 := wrap_in 1 (by omega)
  simp -dsimp -implicitDefEqProofs [-getElem?_pos, go_sem, hP, c1, w1]
  obtain ⟨cs, hcs⟩ : ∃ cs, cs = P ++ [x] ++ B ++ S := ⟨_, rfl⟩
  rw [← hcs] at hH
  have ga : cs[a]? = some x := by rw [hcs, show P ++ [x] ++ B ++ S = P ++ x :: (B ++ S) by simp]; exact get_at _ _ _ ha
  have gb : ∀ k y, B[k]? = some y → cs[m0 + k]? = some y := fun k y hy => by
    have hk := (List.getElem?_eq_some_iff.1 hy).1
    rw [hcs, List.getElem?_append_left (by simp only [List.length_append, List.length_singleton]; omega), List.getElem?_append_right (by simp only [List.length_append, List.length_singleton]; omega)]
    rw [show m0 + k - (P ++ [x]).length = k by rw [List.length_append, List.length_singleton]; omega]
    exact hy
  obtain ⟨I, hI⟩ : ∃ I : Nat → St → Prop, I = fun m s => ∃ i j : Nat, m0 ≤ i ∧ i ≤ j ∧ j ≤ b ∧ m = j - i ∧ (∀ y, y ∈ B.take (i - m0) → lt y x = true) ∧ (∀ y, (B.drop (j - m0)).head? = some y → lt y x = false) ∧ s.t 0 = .sref id 0 N ∧ s.t 1 = iv a ∧ s.t 2 = iv m0 ∧ s.t 3 = iv b ∧ s.t 4 = .fn g [] ∧ s.t 10 = iv i ∧ s.t 11 = iv j ∧ s.H = H := ⟨_, rfl⟩
  refine aloop0 I (B.length) (by rw [hN]; rfl) ?_ ?_
  · rw [hI]
    refine ⟨m0, b, by omega, by omega, by omega, by omega, by simp, ?_, by simp -dsimp -implicitDefEqProofs [-getElem?_pos, go_sem], by simp -dsimp -implicitDefEqProofs [-getElem?_pos, go_sem], by simp -dsimp -implicitDefEqProofs [-getElem?_pos, go_sem], by simp -dsimp -implicitDefEqProofs [-getElem?_pos, go_sem], by simp -dsimp -implicitDefEqProofs [-getElem?_pos, go_sem], by simp -dsimp -implicitDefEqProofs [-getElem?_pos, go_sem], by simp -dsimp -implicitDefEqProofs [-getElem?_pos, go_sem], by simp -dsimp -implicitDefEqProofs [-getElem?_pos, go_sem]⟩
    rw [List.drop_eq_nil_of_le (by omega)]
    simp
  intro m s hs'
  rw [hI] at hs'
  obtain ⟨i, j, h1, h2, h3, hm, hi, hj, t0, t1, t2, t3, t4, t10, t11, hs'⟩ := hs'
  simp -dsimp -implicitDefEqProofs [-getElem?_pos, go_sem, hP, t10, t11]
  refine condP (fun h => ?_) (fun h => ?_)
  · have hij : i < j := by simpa using h
    have e1 := wrap_in ((i : Int) + j) (by omega)
    have wu : IntKind.u64.wrap ((i : Int) + j) = (i : Int) + j := by rw [IntKind.wrap_u64]; omega
    obtain ⟨h, hh⟩ : ∃ h, h = (i + j) / 2 := ⟨_, rfl⟩
    have wh : IntKind.i64.wrap (((i : Int) + j) / 2) = (h : Int) := by rw [wrap_in _ (by omega)]; omega
    obtain ⟨y, hy⟩ : ∃ y, B[h - m0]? = some y := ⟨_, List.getElem?_eq_getElem (by omega)⟩
    have gh : cs[h]? = some y := by have := gb _ _ hy; rwa [show m0 + (h - m0) = h by omega] at this
    have eh := encL_get enc gh
    have ea := encL_get enc ga
    have w2 := wrap_in ((h : Int) + 1) (by omega)
    have hN' : h < N := by omega
    have aN : a < N := by omega
    have tk : ∀ z, (enc z).take 4 = enc z := fun z => List.take_of_length_le (by rw [hk]; omega)
    obtain ⟨es, hes⟩ : ∃ es, es = encL enc cs := ⟨_, rfl⟩
    rw [← hes] at eh ea
    have hid : s.H[id]? = some (some ⟨59, 4, es⟩) := by rw [hs', hes]; exact hH
    simp -dsimp -implicitDefEqProofs [-getElem?_pos, go_sem, hP, t10, t11, e1, wu, aconv, aint_shr, wh]
    refine adrawB (fun _ => true) [] hP (by kernel_rfl) (by kernel_rfl) ?_
    simp -dsimp -implicitDefEqProofs [-getElem?_pos, go_sem, hP, t0, t1, t4, hid, hN', aN, eh, ea, tk, hk]
    refine callB_flat ((hcmp y x).lift _ _) hP hen (args_same (by simp [go_sem]; exact ⟨fun c h => (him y c h).1, fun c h => (him x c h).1⟩)) ⟨iv (if lt y x then -1 else 0), _, rfl, by cases lt y x <;> simp⟩ (by rintro r ⟨c, rfl, _⟩; exact .sc) ?_
    rintro r ⟨c, rfl, hlt'⟩
    simp -dsimp -implicitDefEqProofs [-getElem?_pos, go_sem, hP, hlt']
    refine condP (fun hl => ?_) (fun hl => ?_)
    · simp -dsimp -implicitDefEqProofs [-getElem?_pos, go_sem, hP, w2]
      refine ⟨j - (h + 1), by omega, ?_⟩
      rw [hI]
      refine ⟨h + 1, j, by omega, by omega, h3, rfl, fun z hz => ?_, hj, by simp -dsimp -implicitDefEqProofs [-getElem?_pos, go_sem, t0], by simp -dsimp -implicitDefEqProofs [-getElem?_pos, go_sem, t1], by simp -dsimp -implicitDefEqProofs [-getElem?_pos, go_sem, t2], by simp -dsimp -implicitDefEqProofs [-getElem?_pos, go_sem, t3], by simp -dsimp -implicitDefEqProofs [-getElem?_pos, go_sem, t4], by simp -dsimp -implicitDefEqProofs [-getElem?_pos, go_sem], by simp -dsimp -implicitDefEqProofs [-getElem?_pos, go_sem, t11], hs'⟩
      rw [show h + 1 - m0 = (h - m0) + 1 by omega] at hz
      rcases take_mem hz hy with rfl | hz
      · exact hl
      · exact ho.le_lt_le (srt_take sB hz hy) hl (ho.irr x)
    · simp -dsimp -implicitDefEqProofs [-getElem?_pos, go_sem, hP]
      refine ⟨h - i, by omega, ?_⟩
      rw [hI]
      refine ⟨i, h, by omega, by omega, by omega, rfl, hi, fun z hz => ?_, by simp -dsimp -implicitDefEqProofs [-getElem?_pos, go_sem, t0], by simp -dsimp -implicitDefEqProofs [-getElem?_pos, go_sem, t1], by simp -dsimp -implicitDefEqProofs [-getElem?_pos, go_sem, t2], by simp -dsimp -implicitDefEqProofs [-getElem?_pos, go_sem, t3], by simp -dsimp -implicitDefEqProofs [-getElem?_pos, go_sem, t4], by simp -dsimp -implicitDefEqProofs [-getElem?_pos, go_sem, t10], by simp -dsimp -implicitDefEqProofs [-getElem?_pos, go_sem], hs'⟩
      rw [drop_head, hy] at hz
      cases hz
      exact hl
  · have hij : i = j := by
      have : ¬ i < j := by simpa using h
      omega
    subst hij
    have hres := smerge_one x B (i - m0) (by omega) hi hj
    obtain ⟨d, hd⟩ : ∃ d, d = i - m0 := ⟨_, rfl⟩
    rw [← hd] at hres
    have w3 := wrap_in ((i : Int) - 1) (by omega)
    have c3 : (i : Int) - 1 = ((a + d : Nat) : Int) := by omega
    obtain ⟨e, he⟩ : ∃ e, e = a + d := ⟨_, rfl⟩
    rw [← he] at c3
    rw [c3] at w3
    simp -dsimp -implicitDefEqProofs [-getElem?_pos, go_sem, hP, t1]
    obtain ⟨J, hJ⟩ : ∃ I : Nat → St → Prop, I = fun m s => ∃ k : Nat, k ≤ d ∧ m = d - k ∧ s.t 0 = .sref id 0 N ∧ s.t 10 = iv i ∧ s.t 13 = iv (a + k : Nat) ∧ s.H = H.set id (flO enc (P ++ B.take k ++ x :: B.drop k ++ S)) := ⟨_, rfl⟩
    refine aloop0 J (d) (by rw [hN]; rfl) ?_ ?_
    · rw [hJ]
      refine ⟨0, by omega, by omega, by simp -dsimp -implicitDefEqProofs [-getElem?_pos, go_sem, t0], by simp -dsimp -implicitDefEqProofs [-getElem?_pos, go_sem, t10], by simp -dsimp -implicitDefEqProofs [-getElem?_pos, go_sem, t1], ?_⟩
      show s.H = _
      rw [hs', List.take_zero, List.drop_zero, List.append_nil, show P ++ x :: B ++ S = cs by rw [hcs]; simp]
      exact (set_same hH).symm
    clear t0 t1 t2 t3 t4 t10 t11 hs'
    intro m s hs'
    rw [hJ] at hs'
    obtain ⟨k, hkd, hm2, t0, t10, t13, hs'⟩ := hs'
    obtain ⟨q, hq⟩ : ∃ q, q = a + k := ⟨_, rfl⟩
    rw [← hq] at t13
    simp -dsimp -implicitDefEqProofs [-getElem?_pos, go_sem, hP, t13, t10, c3, w3]
    refine condP (fun h => ?_) (fun h => ?_)
    · have hke : q < e := by simpa using h
      obtain ⟨y, hy⟩ : ∃ y, B[k]? = some y := ⟨_, List.getElem?_eq_getElem (by omega)⟩
      have ed : B.drop k = y :: B.drop (k + 1) := dropAt hy
      have et : B.take (k + 1) = B.take k ++ [y] := takeAt hy
      obtain ⟨cs2, hcs2⟩ : ∃ cs2, cs2 = P ++ B.take k ++ x :: B.drop k ++ S := ⟨_, rfl⟩
      rw [← hcs2] at hs'
      have ecs : cs2 = (P ++ B.take k) ++ x :: ([] ++ y :: (B.drop (k + 1) ++ S)) := by rw [hcs2, ed]; simp
      have lL : (P ++ B.take k).length = q := by simp; omega
      have gi : cs2[q]? = some x := by rw [ecs]; exact get_at _ _ _ lL.symm
      have gj : cs2[q + 1]? = some y := by
        rw [ecs, show (P ++ B.take k) ++ x :: ([] ++ y :: (B.drop (k + 1) ++ S)) = ((P ++ B.take k) ++ [x]) ++ y :: (B.drop (k + 1) ++ S) by simp]
        exact get_at _ _ _ (by rw [List.length_append, lL]; rfl)
      have sw : (cs2.set q y).set (q + 1) x = P ++ B.take (k + 1) ++ x :: B.drop (k + 1) ++ S := by
        rw [ecs, swap2 _ [] _ x y lL.symm (by rw [lL]; rfl), et]
        simp
      obtain ⟨q1, hq1⟩ : ∃ q1, q1 = q + 1 := ⟨_, rfl⟩
      rw [← hq1] at gj sw
      obtain ⟨hHid, hlS, ei, ej, eij, eji, hset, tk, dk, cx, cy⟩ := swap_facts enc hk him hs' hlt gi gj (by omega)
      have wq := wrap_in ((q : Int) + 1) (by omega)
      have cq : (q : Int) + 1 = q1 := by omega
      rw [cq] at wq
      have di : q < N := by omega
      have dj : q1 < N := by omega
      obtain ⟨es, hes⟩ : ∃ es, es = encL enc cs2 := ⟨_, rfl⟩
      rw [← hes] at ei ej eij eji
      simp only [flO] at hHid
      rw [← hes] at hHid
      simp -dsimp -implicitDefEqProofs [-getElem?_pos, go_sem, hP]
      refine adrawB (fun _ => true) [15, 17] hP (by kernel_rfl) (by kernel_rfl) ?_
      simp -dsimp -implicitDefEqProofs [-getElem?_pos, go_sem, hP, t0, t13, cq, wq, hHid, hlS, ei, ej, eij, hset, tk, dk, cx, cy, di, dj, hk]
      refine ⟨d - (k + 1), by omega, ?_⟩
      rw [hJ]
      refine ⟨k + 1, by omega, rfl, by simp -dsimp -implicitDefEqProofs [-getElem?_pos, go_sem, t0], by simp -dsimp -implicitDefEqProofs [-getElem?_pos, go_sem, t10], by rw [show a + (k + 1) = q1 by omega]; simp -dsimp -implicitDefEqProofs [-getElem?_pos, go_sem], ?_⟩
      rw [← sw, flO, encL_set, encL_set, ← hes]
      show s.H.set id _ = _
      rw [hs', List.set_set]
    · have hke : k = d := by
        have : ¬ q < e := by simpa using h
        omega
      subst hke
      simp -dsimp -implicitDefEqProofs [-getElem?_pos, go_sem, hP]
      rw [hC, hs', hres]
      simp

theorem symLast_m {row src : Option Nat} (hc : CmpOk enc lt g) (ho : SOrd lt) (P A : List α) (y : α) (S : List α) (H : Heap) (id a m0 b N : Nat) (hA : 2 ≤ A.length) (sA : Srt lt A) (ha : a = P.length) (hm0 : m0 = a + A.length) (hb : b = m0 + 1) (hT : N = (P ++ A ++ [y] ++ S).length) (hb9 : N ≤ 1000000000)
    (hH : H[id]? = some (flO enc (P ++ A ++ [y] ++ S))) :
    MFun Tryz.prog row src 78 [.sref id 0 N, iv a, iv m0, iv b, .fn g []] H (fun _ H' => H' = H.set id (flO enc (P ++ smerge lt A [y] ++ S))) := by
  have hc' := hc
  obtain ⟨hk, him, hen, hcmp⟩ := hc'
  refine mfun_intro Tryz.func78 rfl (by simp [Tryz.f78]) (by kernel_rfl) (⟨.tup [], _, rfl⟩) ?_
  intro E hP hr hs hN
  have hlt : id < H.length := (List.getElem?_eq_some_iff.1 hH).1
  obtain ⟨C, hC⟩ : ∃ C, C = fun (_ : AV) H' => H' = H.set id (flO enc (P ++ smerge lt A [y] ++ S)) := ⟨_, rfl⟩
  rw [← hC]
  simp only [List.length_append, List.length_singleton] at hT
  have c1 : (m0 : Int) - a = A.length := by omega
  have w1 := wrap_in ((A.length : Nat) : Int) (by omega)
  have d1 : decide (((A.length : Nat) : Int) = 1) = false := decide_eq_false (by omega)
  have c2 : (b : Int) - m0 = 1 := by omega
  have w2 := wrap_in 1 (by omega)
  simp -dsimp -implicitDefEqProofs [-getElem?_pos, go_sem, hP, c1, w1, d1, c2, w2]
  obtain ⟨cs, hcs⟩ : ∃ cs, cs = P ++ A ++ [y] ++ S := ⟨_, rfl⟩
  rw [← hcs] at hH
  have gm : cs[m0]? = some y := by rw [hcs, show P ++ A ++ [y] ++ S = (P ++ A) ++ y :: S by simp]; exact get_at _ _ _ (by rw [List.length_append]; omega)
  have gb : ∀ k x, A[k]? = some x → cs[a + k]? = some x := fun k x hx => by
    have hk := (List.getElem?_eq_some_iff.1 hx).1
    rw [hcs, List.append_assoc, List.getElem?_append_left (by simp only [List.length_append]; omega), List.getElem?_append_right (by omega), ← ha, Nat.add_sub_cancel_left]
    exact hx
  obtain ⟨I, hI⟩ : ∃ I : Nat → St → Prop, I = fun m s => ∃ i j : Nat, a ≤ i ∧ i ≤ j ∧ j ≤ m0 ∧ m = j - i ∧ (∀ x, x ∈ A.take (i - a) → lt y x = false) ∧ (∀ x, (A.drop (j - a)).head? = some x → lt y x = true) ∧ s.t 0 = .sref id 0 N ∧ s.t 1 = iv a ∧ s.t 2 = iv m0 ∧ s.t 3 = iv b ∧ s.t 4 = .fn g [] ∧ s.t 14 = iv i ∧ s.t 15 = iv j ∧ s.H = H := ⟨_, rfl⟩
  refine aloop0 I (A.length) (by rw [hN]; rfl) ?_ ?_
  · rw [hI]
    refine ⟨a, m0, by omega, by omega, by omega, by omega, by simp, ?_, by simp -dsimp -implicitDefEqProofs [-getElem?_pos, go_sem], by simp -dsimp -implicitDefEqProofs [-getElem?_pos, go_sem], by simp -dsimp -implicitDefEqProofs [-getElem?_pos, go_sem], by simp -dsimp -implicitDefEqProofs [-getElem?_pos, go_sem], by simp -dsimp -implicitDefEqProofs [-getElem?_pos, go_sem], by simp -dsimp -implicitDefEqProofs [-getElem?_pos, go_sem], by simp -dsimp -implicitDefEqProofs [-getElem?_pos, go_sem], by simp -dsimp -implicitDefEqProofs [-getElem?_pos, go_sem]⟩
    rw [List.drop_eq_nil_of_le (by omega)]
    simp
  intro m s hs'
  rw [hI] at hs'
  obtain ⟨i, j, h1, h2, h3, hm, hi, hj, t0, t1, t2, t3, t4, t14, t15, hs'⟩ := hs'
  simp -dsimp -implicitDefEqProofs [-getElem?_pos, go_sem, hP, t14, t15]
  refine condP (fun h => ?_) (fun h => ?_)
  · have hij : i < j := by simpa using h
    have e1 := wrap_in ((i : Int) + j) (by omega)
    have wu : IntKind.u64.wrap ((i : Int) + j) = (i : Int) + j := by rw [IntKind.wrap_u64]; omega
    obtain ⟨h, hh⟩ : ∃ h, h = (i + j) / 2 := ⟨_, rfl⟩
    have wh : IntKind.i64.wrap (((i : Int) + j) / 2) = (h : Int) := by rw [wrap_in _ (by omega)]; omega
    obtain ⟨x, hx⟩ : ∃ x, A[h - a]? = some x := ⟨_, List.getElem?_eq_getElem (by omega)⟩
    have gh : cs[h]? = some x := by have := gb _ _ hx; rwa [show a + (h - a) = h by omega] at this
    have eh := encL_get enc gh
    have ea := encL_get enc gm
    have w3 := wrap_in ((h : Int) + 1) (by omega)
    have hN' : h < N := by omega
    have mN : m0 < N := by omega
    have tk : ∀ z, (enc z).take 4 = enc z := fun z => List.take_of_length_le (by rw [hk]; omega)
    obtain ⟨es, hes⟩ : ∃ es, es = encL enc cs := ⟨_, rfl⟩
    rw [← hes] at eh ea
    have hid : s.H[id]? = some (some ⟨59, 4, es⟩) := by rw [hs', hes]; exact hH
    simp -dsimp -implicitDefEqProofs [-getElem?_pos, go_sem, hP, t14, t15, e1, wu, aconv, aint_shr, wh]
    refine adrawB (fun _ => true) [] hP (by kernel_rfl) (by kernel_rfl) ?_
    simp -dsimp -implicitDefEqProofs [-getElem?_pos, go_sem, hP, t0, t2, t4, hid, hN', mN, eh, ea, tk, hk]
    refine callB_flat ((hcmp y x).lift _ _) hP hen (args_same (by simp [go_sem]; exact ⟨fun c h => (him y c h).1, fun c h => (him x c h).1⟩)) ⟨iv (if lt y x then -1 else 0), _, rfl, by cases lt y x <;> simp⟩ (by rintro r ⟨c, rfl, _⟩; exact .sc) ?_
    rintro r ⟨c, rfl, hlt'⟩
    simp -dsimp -implicitDefEqProofs [-getElem?_pos, go_sem, hP, hlt']
    refine condP (fun hl => ?_) (fun hl => ?_)
    · simp -dsimp -implicitDefEqProofs [-getElem?_pos, go_sem, hP]
      refine ⟨h - i, by omega, ?_⟩
      rw [hI]
      refine ⟨i, h, by omega, by omega, by omega, rfl, hi, fun z hz => ?_, by simp -dsimp -implicitDefEqProofs [-getElem?_pos, go_sem, t0], by simp -dsimp -implicitDefEqProofs [-getElem?_pos, go_sem, t1], by simp -dsimp -implicitDefEqProofs [-getElem?_pos, go_sem, t2], by simp -dsimp -implicitDefEqProofs [-getElem?_pos, go_sem, t3], by simp -dsimp -implicitDefEqProofs [-getElem?_pos, go_sem, t4], by simp -dsimp -implicitDefEqProofs [-getElem?_pos, go_sem, t14], by simp -dsimp -implicitDefEqProofs [-getElem?_pos, go_sem], hs'⟩
      rw [drop_head, hx] at hz
      cases hz
      exact hl
    · simp -dsimp -implicitDefEqProofs [-getElem?_pos, go_sem, hP, w3]
      refine ⟨j - (h + 1), by omega, ?_⟩
      rw [hI]
      refine ⟨h + 1, j, by omega, by omega, h3, rfl, fun z hz => ?_, hj, by simp -dsimp -implicitDefEqProofs [-getElem?_pos, go_sem, t0], by simp -dsimp -implicitDefEqProofs [-getElem?_pos, go_sem, t1], by simp -dsimp -implicitDefEqProofs [-getElem?_pos, go_sem, t2], by simp -dsimp -implicitDefEqProofs [-getElem?_pos, go_sem, t3], by simp -dsimp -implicitDefEqProofs [-getElem?_pos, go_sem, t4], by simp -dsimp -implicitDefEqProofs [-getElem?_pos, go_sem], by simp -dsimp -implicitDefEqProofs [-getElem?_pos, go_sem, t15], hs'⟩
      rw [show h + 1 - a = (h - a) + 1 by omega] at hz
      rcases take_mem hz hx with rfl | hz
      · exact hl
      · exact ho.tr _ _ _ hl (srt_take sA hz hx)
  · have hij : i = j := by
      have : ¬ i < j := by simpa using h
      omega
    subst hij
    have hres := smerge_one' y A (i - a) (by omega) hi hj
    obtain ⟨d, hd⟩ : ∃ d, d = i - a := ⟨_, rfl⟩
    rw [← hd] at hres
    simp -dsimp -implicitDefEqProofs [-getElem?_pos, go_sem, hP, t2]
    obtain ⟨J, hJ⟩ : ∃ I : Nat → St → Prop, I = fun m s => ∃ k : Nat, d ≤ k ∧ k ≤ A.length ∧ m = k ∧ s.t 0 = .sref id 0 N ∧ s.t 14 = iv i ∧ s.t 17 = iv (a + k : Nat) ∧ s.H = H.set id (flO enc (P ++ A.take k ++ y :: A.drop k ++ S)) := ⟨_, rfl⟩
    refine aloop0 J (A.length) (by rw [hN]; rfl) ?_ ?_
    · rw [hJ]
      refine ⟨A.length, by omega, by omega, rfl, by simp -dsimp -implicitDefEqProofs [-getElem?_pos, go_sem, t0], by simp -dsimp -implicitDefEqProofs [-getElem?_pos, go_sem, t14], by rw [← hm0]; simp -dsimp -implicitDefEqProofs [-getElem?_pos, go_sem, t2], ?_⟩
      show s.H = _
      rw [hs', List.take_length, List.drop_length, show P ++ A ++ [y] ++ S = cs by rw [hcs]]
      exact (set_same hH).symm
    clear t0 t1 t2 t3 t4 t14 t15 hs'
    intro m s hs'
    rw [hJ] at hs'
    obtain ⟨k, hdk, hkA, hm2, t0, t14, t17, hs'⟩ := hs'
    obtain ⟨q, hq⟩ : ∃ q, q = a + k := ⟨_, rfl⟩
    rw [← hq] at t17
    simp -dsimp -implicitDefEqProofs [-getElem?_pos, go_sem, hP, t17, t14]
    refine condP (fun h => ?_) (fun h => ?_)
    · have hke : i < q := by simpa using h
      obtain ⟨k', rfl⟩ : ∃ k', k = k' + 1 := ⟨k - 1, by omega⟩
      obtain ⟨z, hz⟩ : ∃ z, A[k']? = some z := ⟨_, List.getElem?_eq_getElem (by omega)⟩
      have ed : A.drop k' = z :: A.drop (k' + 1) := dropAt hz
      have et : A.take (k' + 1) = A.take k' ++ [z] := takeAt hz
      obtain ⟨cs2, hcs2⟩ : ∃ cs2, cs2 = P ++ A.take (k' + 1) ++ y :: A.drop (k' + 1) ++ S := ⟨_, rfl⟩
      rw [← hcs2] at hs'
      have ecs : cs2 = (P ++ A.take k') ++ z :: ([] ++ y :: (A.drop (k' + 1) ++ S)) := by rw [hcs2, et]; simp
      obtain ⟨q0, hq0⟩ : ∃ q0, q0 = a + k' := ⟨_, rfl⟩
      have lL : (P ++ A.take k').length = q0 := by rw [List.length_append, List.length_take]; omega
      have gi : cs2[q0]? = some z := by rw [ecs]; exact get_at _ _ _ lL.symm
      have gj : cs2[q]? = some y := by
        rw [ecs, show (P ++ A.take k') ++ z :: ([] ++ y :: (A.drop (k' + 1) ++ S)) = ((P ++ A.take k') ++ [z]) ++ y :: (A.drop (k' + 1) ++ S) by simp]
        exact get_at _ _ _ (by rw [List.length_append, lL, List.length_singleton]; omega)
      have sw : (cs2.set q z).set q0 y = P ++ A.take k' ++ y :: A.drop k' ++ S := by
        rw [List.set_comm _ _ (by omega), ecs, swap2 _ [] _ z y lL.symm (by rw [lL, List.length_nil]; omega), ed]
        simp
      obtain ⟨hHid, hlS, ei, ej, eij, eji, hset, tk, dk, cx, cy⟩ := swap_facts enc hk him hs' hlt gi gj (by omega)
      have wq := wrap_in ((q : Int) - 1) (by omega)
      have cq : (q : Int) - 1 = q0 := by omega
      rw [cq] at wq
      have di : q < N := by omega
      have dj : q0 < N := by omega
      obtain ⟨es, hes⟩ : ∃ es, es = encL enc cs2 := ⟨_, rfl⟩
      rw [← hes] at ei ej eij eji
      simp only [flO] at hHid
      rw [← hes] at hHid
      simp -dsimp -implicitDefEqProofs [-getElem?_pos, go_sem, hP]
      refine adrawB (fun _ => true) [15, 17] hP (by kernel_rfl) (by kernel_rfl) ?_
      simp -dsimp -implicitDefEqProofs [-getElem?_pos, go_sem, hP, t0, t17, cq, wq, hHid, hlS, ei, ej, eji, hset, tk, dk, cx, cy, di, dj, hk]
      refine ⟨k', by omega, ?_⟩
      rw [hJ]
      refine ⟨k', by omega, by omega, rfl, by simp -dsimp -implicitDefEqProofs [-getElem?_pos, go_sem, t0], by simp -dsimp -implicitDefEqProofs [-getElem?_pos, go_sem, t14], by rw [← hq0]; simp -dsimp -implicitDefEqProofs [-getElem?_pos, go_sem], ?_⟩
      rw [← sw, flO, encL_set, encL_set, ← hes]
      show s.H.set id _ = _
      rw [hs', List.set_set]
    · have hke : k = d := by
        have : ¬ i < q := by simpa using h
        omega
      subst hke
      simp -dsimp -implicitDefEqProofs [-getElem?_pos, go_sem, hP]
      rw [hC, hs', hres]
      simp
end
end Go.Proofs.YtabdihohphlheaaGreatDoor
