/- Stable sorting: exchanging ranges, rotating. -/
import Derived.Test.YtabdihohphlheaaGreatDoorStab0
set_option linter.unusedSimpArgs false
set_option linter.unusedVariables false
namespace Go.Proofs.YtabdihohphlheaaGreatDoor
open Go.PA
open Go.RowKit

theorem get_at {β : Type} (L R : List β) (x : β) {i : Nat} (h : i = L.length) : (L ++ x :: R)[i]? = some x := by subst h; simp
theorem swap2 {β : Type} (L M R : List β) (x y : β) {i j : Nat} (hi : i = L.length) (hj : j = L.length + 1 + M.length) : ((L ++ x :: (M ++ y :: R)).set i y).set j x = L ++ y :: (M ++ x :: R) := by
  subst hi; subst hj
  rw [List.set_append_right _ _ (Nat.le_refl _), Nat.sub_self, List.set_cons_zero, List.set_append_right _ _ (by omega), show L.length + 1 + M.length - L.length = M.length + 1 from by omega, List.set_cons_succ, List.set_append_right _ _ (Nat.le_refl _), Nat.sub_self, List.set_cons_zero]

section
variable {α : Type} (enc : α → List AV) (lt : α → α → Bool) (g : FuncId)
theorem encL_get {cs : List α} {i : Nat} {x : α} (h : cs[i]? = some x) : (encL enc cs)[i]? = some (enc x) := by rw [encL, List.getElem?_map, h]; rfl
theorem encL_set (cs : List α) (i : Nat) (x : α) : encL enc (cs.set i x) = (encL enc cs).set i (enc x) := by rw [encL, encL, List.map_set]
theorem encL_length (cs : List α) : (encL enc cs).length = cs.length := by simp [encL]

/-- What the slice's object holds. -/
abbrev flO (cs : List α) : Option AObj := some ⟨59, 4, encL enc cs⟩

theorem set_same {H : Heap} {id : Nat} {o : Option AObj} (h : H[id]? = some o) : H.set id o = H := by
  apply List.ext_getElem?
  intro j
  rw [List.getElem?_set]
  split
  · rename_i e; subst e; rw [if_pos (List.getElem?_eq_some_iff.1 h).1, h]
  · rfl
/-- What a step that exchanges two elements needs. -/
theorem swap_facts {cs : List α} {H Hs : Heap} {id : Nat} (hk : ∀ a, (enc a).length = 4) (him : ∀ a c, c ∈ enc a → Imm c ∧ c.cellish = true) (hs : Hs = H.set id (flO enc cs)) (hlt : id < H.length) {i j : Nat} {x y : α} (hi : cs[i]? = some x) (hj : cs[j]? = some y) (hij : i ≠ j) :
    Hs[id]? = some (flO enc cs) ∧ id < Hs.length ∧ (encL enc cs)[i]? = some (enc x) ∧ (encL enc cs)[j]? = some (enc y) ∧ (∀ v, ((encL enc cs).set i v)[j]? = some (enc y)) ∧ (∀ v, ((encL enc cs).set j v)[i]? = some (enc x)) ∧ (∀ o : Option AObj, (Hs.set id o)[id]? = some o) ∧ (∀ z, (enc z).take 4 = enc z) ∧ (∀ z, (enc z).drop 4 = []) ∧ (enc x).all AV.cellish = true ∧ (enc y).all AV.cellish = true := by
  have hl : id < Hs.length := by rw [hs, List.length_set]; exact hlt
  refine ⟨by rw [hs]; simp [hlt], hl, encL_get enc hi, encL_get enc hj, fun v => ?_, fun v => ?_, fun o => by simp [hl], fun z => List.take_of_length_le (by rw [hk]; omega), fun z => List.drop_eq_nil_of_le (by rw [hk]; omega), List.all_eq_true.2 fun c h => (him x c h).2, List.all_eq_true.2 fun c h => (him y c h).2⟩
  · rw [List.getElem?_set_ne hij]; exact encL_get enc hj
  · rw [List.getElem?_set_ne hij.symm]; exact encL_get enc hi

theorem swapRange_m {row src : Option Nat} (hc : CmpOk enc lt g) (P X M Y S : List α) (H : Heap) (id a b n N : Nat) (hX : X.length = n) (hY : Y.length = n) (ha : a = P.length) (hb : b = P.length + n + M.length) (hT : N = (P ++ X ++ M ++ Y ++ S).length) (hb9 : N ≤ 1000000000)
    (hH : H[id]? = some (flO enc (P ++ X ++ M ++ Y ++ S))) :
    MFun Tryz.prog row src 100 [.sref id 0 N, iv a, iv b, iv n, .fn g []] H (fun _ H' => H' = H.set id (flO enc (P ++ Y ++ M ++ X ++ S))) := by
  obtain ⟨hk, him, hen, hcmp⟩ := hc
  refine mfun_intro Tryz.func100 rfl (by simp [Tryz.f100]) (by kernel_rfl) (⟨.tup [], _, rfl⟩) ?_
  intro E hP hr hs hN
  have hlt : id < H.length := (List.getElem?_eq_some_iff.1 hH).1
  obtain ⟨C, hC⟩ : ∃ C, C = fun (_ : AV) H' => H' = H.set id (flO enc (P ++ Y ++ M ++ X ++ S)) := ⟨_, rfl⟩
  rw [← hC]
  simp only [List.length_append] at hT
  simp -dsimp -implicitDefEqProofs [-getElem?_pos, go_sem, hP]
  obtain ⟨I, hI⟩ : ∃ I : Nat → St → Prop, I = fun m s => ∃ (k : Nat) (X1 X2 Y1 Y2 : List α), k ≤ n ∧ m = n - k ∧ X = X1 ++ X2 ∧ Y = Y1 ++ Y2 ∧ X1.length = k ∧ Y1.length = k ∧ s.t 0 = .sref id 0 N ∧ s.t 1 = iv a ∧ s.t 2 = iv b ∧ s.t 3 = iv n ∧ s.t 10 = iv k ∧ s.H = H.set id (flO enc (P ++ Y1 ++ X2 ++ M ++ X1 ++ Y2 ++ S)) := ⟨_, rfl⟩
  refine aloop0 I (n) (by rw [hN]; rfl) ?_ ?_
  · rw [hI]
    refine ⟨0, [], X, [], Y, by omega, by omega, rfl, rfl, rfl, rfl, by simp -dsimp -implicitDefEqProofs [-getElem?_pos, go_sem], by simp -dsimp -implicitDefEqProofs [-getElem?_pos, go_sem], by simp -dsimp -implicitDefEqProofs [-getElem?_pos, go_sem], by simp -dsimp -implicitDefEqProofs [-getElem?_pos, go_sem], by simp -dsimp -implicitDefEqProofs [-getElem?_pos, go_sem], ?_⟩
    rw [List.append_nil, List.append_nil, set_same hH]
  intro m s hs'
  rw [hI] at hs'
  obtain ⟨k, X1, X2, Y1, Y2, hkn, hm, e1, e2, l1, l2, t0, t1, t2, t3, t10, hs'⟩ := hs'
  simp -dsimp -implicitDefEqProofs [-getElem?_pos, go_sem, hP, t10, t3]
  refine condP (fun h => ?_) (fun h => ?_)
  · have hkn : k < n := by simpa using h
    rw [e1, List.length_append] at hX
    rw [e2, List.length_append] at hY
    obtain ⟨x, X3, rfl⟩ := List.exists_cons_of_ne_nil (l := X2) (by rintro rfl; simp at hX; omega)
    obtain ⟨y, Y3, rfl⟩ := List.exists_cons_of_ne_nil (l := Y2) (by rintro rfl; simp at hY; omega)
    rw [List.length_cons] at hX hY
    have lX : X.length = n := by rw [e1, List.length_append, List.length_cons]; omega
    have lY : Y.length = n := by rw [e2, List.length_append, List.length_cons]; omega
    obtain ⟨cs, hcs⟩ : ∃ cs, cs = P ++ Y1 ++ (x :: X3) ++ M ++ X1 ++ (y :: Y3) ++ S := ⟨_, rfl⟩
    have ecs : cs = (P ++ Y1) ++ x :: ((X3 ++ M ++ X1) ++ y :: (Y3 ++ S)) := by rw [hcs]; simp
    obtain ⟨i, hi⟩ : ∃ i, i = a + k := ⟨_, rfl⟩
    obtain ⟨j, hj⟩ : ∃ j, j = b + k := ⟨_, rfl⟩
    have li : i = (P ++ Y1).length := by rw [List.length_append]; omega
    have lj : j = (P ++ Y1).length + 1 + (X3 ++ M ++ X1).length := by simp only [List.length_append]; omega
    rw [← hcs] at hs'
    have gi : cs[i]? = some x := by rw [ecs]; exact get_at _ _ _ li
    have gj : cs[j]? = some y := by
      rw [ecs, show (P ++ Y1) ++ x :: ((X3 ++ M ++ X1) ++ y :: (Y3 ++ S)) = ((P ++ Y1) ++ x :: (X3 ++ M ++ X1)) ++ y :: (Y3 ++ S) by simp]
      exact get_at _ _ _ (by rw [lj]; simp; omega)
    have sw : (cs.set i y).set j x = P ++ (Y1 ++ [y]) ++ X3 ++ M ++ (X1 ++ [x]) ++ Y3 ++ S := by rw [ecs, swap2 _ _ _ x y li lj]; simp
    obtain ⟨hHid, hlS, ei, ej, eij, eji, hset, tk, dk, cx, cy⟩ := swap_facts enc hk him hs' hlt gi gj (by omega)
    have wi := wrap_in ((i : Int)) (by omega)
    have wj := wrap_in ((j : Int)) (by omega)
    have ci : (a : Int) + k = i := by omega
    have cj : (b : Int) + k = j := by omega
    have di : i < N := by omega
    have dj : j < N := by omega
    have wk := wrap_in ((k : Int) + 1) (by omega)
    obtain ⟨es, hes⟩ : ∃ es, es = encL enc cs := ⟨_, rfl⟩
    rw [← hes] at ei ej eij eji
    simp only [flO] at hHid
    rw [← hes] at hHid
    simp -dsimp -implicitDefEqProofs [-getElem?_pos, go_sem, hP]
    refine adrawB (fun _ => true) [21, 23] hP (by kernel_rfl) (by kernel_rfl) ?_
    simp -dsimp -implicitDefEqProofs [-getElem?_pos, go_sem, hP, t0, t1, t2, t10, ci, cj, wi, wj, hHid, hlS, ei, ej, eij, hset, tk, dk, cx, cy, di, dj, hk, wk]
    refine ⟨n - (k + 1), by omega, ?_⟩
    rw [hI]
    refine ⟨k + 1, X1 ++ [x], X3, Y1 ++ [y], Y3, by omega, rfl, by rw [e1]; simp, by rw [e2]; simp, by simp; omega, by simp; omega, by simp -dsimp -implicitDefEqProofs [-getElem?_pos, go_sem, t0], by simp -dsimp -implicitDefEqProofs [-getElem?_pos, go_sem, t1], by simp -dsimp -implicitDefEqProofs [-getElem?_pos, go_sem, t2], by simp -dsimp -implicitDefEqProofs [-getElem?_pos, go_sem, t3], by simp -dsimp -implicitDefEqProofs [-getElem?_pos, go_sem], ?_⟩
    rw [← sw, flO, encL_set, encL_set, ← hes]
    show s.H.set id _ = _
    rw [hs', List.set_set]
  · have hkn : k = n := by
      have : ¬ k < n := by simpa using h
      omega
    subst hkn
    rw [e1, List.length_append] at hX
    rw [e2, List.length_append] at hY
    have x2 : X2 = [] := List.length_eq_zero_iff.1 (by omega)
    have y2 : Y2 = [] := List.length_eq_zero_iff.1 (by omega)
    subst x2; subst y2
    simp -dsimp -implicitDefEqProofs [-getElem?_pos, go_sem, hP]
    rw [hC, hs', e1, e2]
    simp

theorem rotate_m {row src : Option Nat} (hc : CmpOk enc lt g) (P A B S : List α) (H : Heap) (id a m0 b N : Nat) (hA : 1 ≤ A.length) (hB : 1 ≤ B.length) (ha : a = P.length) (hm0 : m0 = a + A.length) (hb : b = m0 + B.length) (hT : N = (P ++ A ++ B ++ S).length) (hb9 : N ≤ 1000000000)
    (hH : H[id]? = some (flO enc (P ++ A ++ B ++ S))) :
    MFun Tryz.prog row src 88 [.sref id 0 N, iv a, iv m0, iv b, .fn g []] H (fun _ H' => H' = H.set id (flO enc (P ++ B ++ A ++ S))) := by
  refine mfun_intro Tryz.func88 rfl (by simp [Tryz.f88]) (by kernel_rfl) (⟨.tup [], _, rfl⟩) ?_
  intro E hP hr hs hN
  have hlt : id < H.length := (List.getElem?_eq_some_iff.1 hH).1
  obtain ⟨C, hC⟩ : ∃ C, C = fun (_ : AV) H' => H' = H.set id (flO enc (P ++ B ++ A ++ S)) := ⟨_, rfl⟩
  rw [← hC]
  simp only [List.length_append] at hT
  have w1 := wrap_in ((m0 : Int) - a) (by omega)
  have w2 := wrap_in ((b : Int) - m0) (by omega)
  have c1 : (m0 : Int) - a = A.length := by omega
  have c2 : (b : Int) - m0 = B.length := by omega
  rw [c1] at w1
  rw [c2] at w2
  simp -dsimp -implicitDefEqProofs [-getElem?_pos, go_sem, hP, c1, c2, w1, w2]
  obtain ⟨I, hI⟩ : ∃ I : Nat → St → Prop, I = fun m s => ∃ (DL X Y DR : List α), m = X.length + Y.length ∧ 1 ≤ X.length ∧ 1 ≤ Y.length ∧ B ++ A = DL ++ Y ++ X ++ DR ∧ P.length + DL.length + X.length = m0 ∧ s.t 0 = .sref id 0 N ∧ s.t 2 = iv m0 ∧ s.t 4 = .fn g [] ∧ s.t 10 = iv X.length ∧ s.t 11 = iv Y.length ∧ s.H = H.set id (flO enc (P ++ DL ++ X ++ Y ++ DR ++ S)) := ⟨_, rfl⟩
  refine aloop0 I (A.length + B.length) (by rw [hN]; rfl) ?_ ?_
  · rw [hI]
    refine ⟨[], A, B, [], rfl, hA, hB, by simp, by simp; omega, by simp -dsimp -implicitDefEqProofs [-getElem?_pos, go_sem], by simp -dsimp -implicitDefEqProofs [-getElem?_pos, go_sem], by simp -dsimp -implicitDefEqProofs [-getElem?_pos, go_sem], by simp -dsimp -implicitDefEqProofs [-getElem?_pos, go_sem], by simp -dsimp -implicitDefEqProofs [-getElem?_pos, go_sem], ?_⟩
    simp only [List.append_nil]
    exact (set_same hH).symm
  intro m s hs'
  rw [hI] at hs'
  obtain ⟨DL, X, Y, DR, hm, lx, ly, he, hmm, t0, t2, t4, t10, t11, hs'⟩ := hs'
  have hid : s.H[id]? = some (flO enc (P ++ DL ++ X ++ Y ++ DR ++ S)) := by rw [hs']; simp [hlt]
  have htot : (P ++ DL ++ X ++ Y ++ DR ++ S).length = N := by
    have := congrArg List.length he
    simp only [List.length_append] at this ⊢
    omega
  simp only [List.length_append] at htot
  obtain ⟨q, hq⟩ : ∃ q, q = (P ++ DL).length := ⟨_, rfl⟩
  have hq2 : q = P.length + DL.length := by rw [hq, List.length_append]
  simp -dsimp -implicitDefEqProofs [-getElem?_pos, go_sem, hP, t10, t11]
  refine condP (fun h => ?_) (fun h => ?_)
  rotate_left
  · have hne : ¬ X.length = Y.length := by
      have : ¬ (X.length : Int) = Y.length := by simpa using h
      omega
    simp -dsimp -implicitDefEqProofs [-getElem?_pos, go_sem, hP, t10, t11]
    refine condP (fun h => ?_) (fun h => ?_)
    · have hgt : Y.length < X.length := by simpa using h
      obtain ⟨X1, X2, rfl, l1⟩ : ∃ X1 X2, X = X1 ++ X2 ∧ X1.length = Y.length := ⟨X.take Y.length, X.drop Y.length, (List.take_append_drop _ _).symm, by rw [List.length_take]; omega⟩
      rw [List.length_append] at hgt hne hmm htot lx t10
      have w3 := wrap_in ((m0 : Int) - ((X1.length : Int) + X2.length)) (by omega)
      have c3 : (m0 : Int) - ((X1.length : Int) + X2.length) = (q : Nat) := by omega
      rw [c3] at w3
      have hsr := swapRange_m (row := E.row) (src := E.src) enc lt g hc (P ++ DL) X1 X2 Y (DR ++ S) s.H id q m0 Y.length N l1 rfl hq (by rw [← hq]; omega) (by simp only [List.length_append]; omega) hb9 (by rw [hid]; simp)
      have w4 := wrap_in (((X1.length : Int) + X2.length) - Y.length) (by omega)
      have c4 : ((X1.length : Int) + X2.length) - Y.length = (X2.length : Nat) := by omega
      rw [c4] at w4
      simp -dsimp -implicitDefEqProofs [-getElem?_pos, go_sem, hP, t0, t2, t4, t10, t11, c3, w3]
      refine callB_m hsr hP en_100 ?_
      rintro r H' rfl
      simp -dsimp -implicitDefEqProofs [-getElem?_pos, go_sem, hP, t10, t11, c4, w4]
      refine ⟨X2.length + Y.length, by simp only [List.length_append] at hm; omega, ?_⟩
      rw [hI]
      refine ⟨DL ++ Y, X2, X1, DR, by omega, by omega, by omega, by rw [he]; simp, by rw [List.length_append]; omega, by simp -dsimp -implicitDefEqProofs [-getElem?_pos, go_sem, t0], by simp -dsimp -implicitDefEqProofs [-getElem?_pos, go_sem, t2], by simp -dsimp -implicitDefEqProofs [-getElem?_pos, go_sem, t4], by simp -dsimp -implicitDefEqProofs [-getElem?_pos, go_sem], by simp -dsimp -implicitDefEqProofs [-getElem?_pos, go_sem, t11, l1], ?_⟩
      show s.H.set id _ = _
      rw [hs', List.set_set]
      simp
    · have hgt : X.length < Y.length := by
        have : ¬ Y.length < X.length := by simpa using h
        omega
      obtain ⟨Y1, Y2, rfl, l1⟩ : ∃ Y1 Y2, Y = Y1 ++ Y2 ∧ Y2.length = X.length := ⟨Y.take (Y.length - X.length), Y.drop (Y.length - X.length), (List.take_append_drop _ _).symm, by rw [List.length_drop]; omega⟩
      rw [List.length_append] at hgt hne htot ly t11
      have w3 := wrap_in ((m0 : Int) - X.length) (by omega)
      have c3 : (m0 : Int) - X.length = (q : Nat) := by omega
      rw [c3] at w3
      obtain ⟨q3, hq3⟩ : ∃ q3, q3 = m0 + Y1.length := ⟨_, rfl⟩
      have w5 := wrap_in ((m0 : Int) + ((Y1.length : Int) + Y2.length)) (by omega)
      have w6 := wrap_in ((m0 : Int) + ((Y1.length : Int) + Y2.length) - X.length) (by omega)
      have c6 : (m0 : Int) + ((Y1.length : Int) + Y2.length) - X.length = (q3 : Nat) := by omega
      rw [c6] at w6
      have hsr := swapRange_m (row := E.row) (src := E.src) enc lt g hc (P ++ DL) X Y1 Y2 (DR ++ S) s.H id q q3 X.length N rfl l1 hq (by rw [← hq]; omega) (by simp only [List.length_append]; omega) hb9 (by rw [hid]; simp)
      have w4 := wrap_in (((Y1.length : Int) + Y2.length) - X.length) (by omega)
      have c4 : ((Y1.length : Int) + Y2.length) - X.length = (Y1.length : Nat) := by omega
      rw [c4] at w4
      simp -dsimp -implicitDefEqProofs [-getElem?_pos, go_sem, hP, t0, t2, t4, t10, t11, c3, w3, w5, c6, w6]
      refine callB_m hsr hP en_100 ?_
      rintro r H' rfl
      simp -dsimp -implicitDefEqProofs [-getElem?_pos, go_sem, hP, t10, t11, c4, w4]
      refine ⟨X.length + Y1.length, by simp only [List.length_append] at hm; omega, ?_⟩
      rw [hI]
      refine ⟨DL, Y2, Y1, X ++ DR, by omega, by omega, by omega, by rw [he]; simp, by omega, by simp -dsimp -implicitDefEqProofs [-getElem?_pos, go_sem, t0], by simp -dsimp -implicitDefEqProofs [-getElem?_pos, go_sem, t2], by simp -dsimp -implicitDefEqProofs [-getElem?_pos, go_sem, t4], by simp -dsimp -implicitDefEqProofs [-getElem?_pos, go_sem, t10, l1], by simp -dsimp -implicitDefEqProofs [-getElem?_pos, go_sem], ?_⟩
      show s.H.set id _ = _
      rw [hs', List.set_set]
      simp
  · have heq : X.length = Y.length := by
      have : (X.length : Int) = Y.length := by simpa using h
      omega
    have w3 := wrap_in ((m0 : Int) - X.length) (by omega)
    have c3 : (m0 : Int) - X.length = (q : Nat) := by omega
    rw [c3] at w3
    have hsr := swapRange_m (row := E.row) (src := E.src) enc lt g hc (P ++ DL) X [] Y (DR ++ S) s.H id q m0 X.length N rfl heq.symm hq (by rw [← hq, List.length_nil]; omega) (by simp only [List.length_append, List.length_nil]; omega) hb9 (by rw [hid]; simp)
    simp -dsimp -implicitDefEqProofs [-getElem?_pos, go_sem, hP, t0, t2, t4, t10, t11, c3, w3]
    refine callB_m hsr hP en_100 ?_
    rintro r H' rfl
    simp -dsimp -implicitDefEqProofs [-getElem?_pos, go_sem, hP]
    rw [hC, hs', List.set_set]
    have : P ++ B ++ A ++ S = P ++ (B ++ A) ++ S := by simp
    rw [this, he]
    simp
end
end Go.Proofs.YtabdihohphlheaaGreatDoor
