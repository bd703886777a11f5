/- Registers: what a holder has; what is outstanding; adding. -/
import Derived.Test.YtkcfmmpcpdlfeaaGreatDoorReg3
import Derived.Test.YtkcfmmpcpdlfeaaGreatDoorPaCut
set_option linter.unusedSimpArgs false
set_option linter.unusedVariables false
namespace Go.Proofs.YtkcfmmpcpdlfeaaGreatDoor
open Go.PA
open Go.RowKit

set_option maxRecDepth 8000 in
set_option maxHeartbeats 2000000 in
theorem insert_m_hol {row src : Option Nat} (es : List (List AV)) (e : List AV) (i id : Nat) (H : Heap) (hi : i ≤ es.length) (hl : es.length ≤ 100000) (ho : H[id]? = some (some ⟨70, 3, es⟩)) (he0 : e ≠ []) :
    MFun Tryz.prog row src 157 [.sref id 0 es.length, iv i, .list 3 [e]] H (fun r H' => ∃ jd, r = .sref jd 0 (es.length + 1) ∧ (jd = id ∨ H.length ≤ jd) ∧ H'[jd]? = some (some ⟨70, 3, es.take i ++ e :: es.drop i⟩) ∧ Kept [id] H H') := by
  obtain ⟨C, hC⟩ : ∃ C : AV → Heap → Prop, C = fun r H' => ∃ jd, r = .sref jd 0 (es.length + 1) ∧ (jd = id ∨ H.length ≤ jd) ∧ H'[jd]? = some (some ⟨70, 3, es.take i ++ e :: es.drop i⟩) ∧ Kept [id] H H' := ⟨_, rfl⟩
  rw [← hC]
  have ex : ∃ r H', C r H' := by
    rw [hC]
    exact ⟨.sref H.length 0 (es.length + 1), H ++ [some ⟨70, 3, es.take i ++ e :: es.drop i⟩], H.length, rfl, .inr (Nat.le_refl _), by simp, kept_app _ _ _⟩
  have lid := (List.getElem?_eq_some_iff.1 ho).1
  obtain ⟨n, hn⟩ : ∃ n, n = es.length := ⟨_, rfl⟩
  rw [← hn] at hi hl hC ⊢
  by_cases hin : i = n
  · subst hin
    refine mfun_intro Tryz.func157 rfl (by simp [Tryz.f157]) (by kernel_rfl) (ex) ?_
    intro E hP hr hs hN
    by_cases h0 : i = 0
    · subst h0
      simp -dsimp -implicitDefEqProofs [-getElem?_pos, go_sem, hP, ho, ← hn, asliceOp, bound, aslice]
      rw [hC]
      exact ⟨H.length, rfl, .inr (Nat.le_refl _), by simp -dsimp -implicitDefEqProofs [-getElem?_pos, go_sem, List.eq_nil_of_length_eq_zero hn.symm], (kept_set none (by simp) (kept_refl _ _)).trans (kept_app _ _ _)⟩
    · simp -dsimp -implicitDefEqProofs [-getElem?_pos, go_sem, hP, ho, ← hn, h0, asliceOp, bound, aslice]
      refine ⟨by omega, by omega, ?_⟩
      rw [hC]
      exact ⟨H.length, rfl, .inr (Nat.le_refl _), by simp -dsimp -implicitDefEqProofs [-getElem?_pos, go_sem, hn], (kept_set none (by simp) (kept_refl _ _)).trans (kept_app _ _ _)⟩
  · have hlt : i < n := by omega
    have hin' : ¬ (i : Int) = n := by omega
    have w1 := wrap_in ((n : Int) + 1) (by omega)
    have w2 := wrap_in ((i : Int) + 1) (by omega)
    have w3 := wrap_in ((n : Int) + 1 - i) (by omega)
    have hesne : es ≠ [] := by intro e0; simp [e0] at hn; omega
    refine mfun_unfull (C := fun r H' => C r H' ∨ ∃ N, r = .full id 0 (n + 1) N ∧ ∃ o, H'[id]? = some (some o) ∧ n + 1 ≤ o.es.length ∧ C (.sref id 0 (n + 1)) H') ?_ (fun r H' h => ?_)
    rotate_left
    · rcases h with h | ⟨N, h1, o, h2, h3, h4⟩
      · exact .inl h
      · exact .inr ⟨id, n + 1, N, o, h1, h2, h3, h4⟩
    refine mfun_full ho hesne (by dsimp only; omega) fun N hN0 => ?_
    dsimp only at hN0
    obtain ⟨D, hD⟩ : ∃ D : AV → Heap → Prop, D = fun r H' => C r H' ∨ ∃ N, r = .full id 0 (n + 1) N ∧ ∃ o, H'[id]? = some (some o) ∧ n + 1 ≤ o.es.length ∧ C (.sref id 0 (n + 1)) H' := ⟨_, rfl⟩
    rw [← hD]
    have exD : ∃ r H', D r H' := by
      obtain ⟨r, H', h⟩ := ex
      rw [hD]
      exact ⟨r, H', .inl h⟩
    have fx : ∀ (id n N : Nat), (if i = 0 then some (AV.full id 0 n N) else some (AV.full id i (n - i) N)) = some (.full id i (n - i) N) := fun id n N => by
      split
      · subst i; rfl
      · rfl
    have nN : n ≤ N := by omega
    have iN : i ≤ N := by omega
    have a1 : (0 : Int) ≤ (n : Int) + 1 := by omega
    have a3 : (0 : Int) ≤ (i : Int) + 1 := by omega
    have a4 : (i : Int) + 1 ≤ (n : Int) + 1 := by omega
    refine mfun_intro Tryz.func157 rfl (by simp [Tryz.f157]) (by kernel_rfl) (exD) ?_
    intro E hP hr hs hN
    by_cases hroom : N < n + 1
    · have dN : decide ((N : Int) < (n : Int) + 1) = true := decide_eq_true (by omega)
      obtain ⟨zs, hz⟩ := Option.isSome_iff_exists.1 (show (zeros Tryz.prog 70).isSome = true by kernel_rfl)
      have hbt : bytesOf Tryz.prog 70 = 24 := by kernel_rfl
      have hm : (n : Int) + 1 - i = ((n + 1 - i : Nat) : Int) := by omega
      have sx : ∀ (id n : Nat), (if i = 0 then some (AV.sref id 0 n) else some (AV.sref id i (n - i))) = some (.sref id i (n - i)) := fun id n => by
        split
        · subst i; rfl
        · rfl
      simp -dsimp -implicitDefEqProofs [-getElem?_pos, go_sem, hP, dN, ho, ← hn, hin, hin', asliceOp, bound, aslice, w1, w2, w3, hroom, hi, nN, iN, a1, a3, a4, fx]
      refine buiB_makeE (e := 70) (m := n + 1 - i) (L := n + 1) (kn := .i64) (zs := zs) ho (by rw [hP]; kernel_rfl) (by rw [hP]; kernel_rfl) (by rw [hP]; kernel_rfl) (by omega) rfl (by rw [hP]; exact hz) (by omega) hm (by omega) (by omega) hroom (by omega) (by rw [hP, hbt]; omega) ?_
      have ho2 : (H ++ [some (⟨70, 3, es.take i ++ List.replicate (n + 1 - i) zs⟩ : AObj)])[id]? = some (some ⟨70, 3, es⟩) := by rw [List.getElem?_append_left lid]; exact ho
      have hl1 : (es.take i ++ List.replicate (n + 1 - i) zs).length = n + 1 := by simp; omega
      have a7 : (i : Int) ≤ (n : Int) + 1 := by omega
      have a8 : ¬ ((i : Int) = (n : Int) + 1) := by omega
      have a9 : i ≤ n + 1 := by omega
      have a10 : ¬ i = n + 1 := by omega
      have hA : (es.take i).length = i := by simp; omega
      have d1 : (es.take i ++ List.replicate (n + 1 - i) zs).drop (i + 1) = List.replicate (n - i) zs := by
        rw [List.drop_append, List.drop_of_length_le (by omega), hA, List.nil_append, List.drop_replicate]
        congr 1
        omega
      simp -dsimp -implicitDefEqProofs [-getElem?_pos, go_sem, hP, ho2, asliceOp, bound, aslice, a7, a8, a9, a10, sx]
      refine buiB_copyE (e := 70) (ty := 70) (k := 3) (lo := i) (dn := n + 1 - i) (m := 1) (es := es.take i ++ List.replicate (n + 1 - i) zs) (news := [e]) (es' := es.take i ++ e :: List.replicate (n - i) zs) (by simp) (.inl rfl) (by rw [hP]; kernel_rfl) (by rw [hP]; kernel_rfl) (by omega) (by rw [hP]; kernel_rfl) ?_ rfl (by omega) (by omega) (by simp; omega) ?_ ?_
      · simp only [srcEs]
        rw [if_pos (by rw [hP]; kernel_rfl)]
      · rw [d1, List.take_append_of_le_length (by omega), List.take_of_length_le (by omega)]
        simp
      have ho3 : (H ++ [some (⟨70, 3, es.take i ++ e :: List.replicate (n - i) zs⟩ : AObj)])[id]? = some (some ⟨70, 3, es⟩) := by rw [List.getElem?_append_left lid]; exact ho
      have a5 : ¬ ((i : Int) + 1 = 0) := by omega
      have a6 : ((n : Int) + 1 - ((i : Int) + 1)).toNat = n - i := by omega
      have a11 : ¬ ((i : Int) + 1 = (n : Int) + 1) := by omega
      simp -dsimp -implicitDefEqProofs [-getElem?_pos, go_sem, hP]
      refine adrawB (fun _ => true) [8] hP (by kernel_rfl) (by kernel_rfl) ?_
      simp -dsimp -implicitDefEqProofs [-getElem?_pos, go_sem, hP, ho3, ← hn, hin, hin', asliceOp, bound, aslice, w1, w2, hi, nN, iN, a1, a3, a4, a5, a6, a7, a8, a11, fx, sx]
      refine buiB_copyE (e := 70) (ty := 70) (k := 3) (lo := i + 1) (dn := n - i) (m := n - i) (es := es.take i ++ e :: List.replicate (n - i) zs) (news := es.drop i) (es' := es.take i ++ e :: es.drop i) (by simp) (.inl rfl) (by rw [hP]; kernel_rfl) (by rw [hP]; kernel_rfl) (by omega) (by rw [hP]; kernel_rfl) ?_ (by simp [← hn]) (by omega) (by omega) (by simp; omega) ?_ ?_
      · simp only [srcEs, ho3]
        rw [if_pos ⟨by rw [hP]; kernel_rfl, by omega⟩, List.take_of_length_le (by simp; omega)]
      · rw [show es.take i ++ e :: List.replicate (n - i) zs = (es.take i ++ [e]) ++ List.replicate (n - i) zs from by simp, List.take_append_of_le_length (by simp; omega), List.take_of_length_le (by simp; omega), List.drop_of_length_le (show ((es.take i ++ [e]) ++ List.replicate (n - i) zs).length ≤ i + 1 + (n - i) by simp; omega)]
        simp
      simp -dsimp -implicitDefEqProofs [-getElem?_pos, go_sem, hP]
      rw [hD, hC]
      exact .inl ⟨H.length, rfl, .inr (Nat.le_refl _), by simp, kept_app _ _ _⟩
    · have dN : decide ((N : Int) < (n : Int) + 1) = false := decide_eq_false (by omega)
      have a2 : (n : Int) + 1 ≤ N := by omega
      have a5 : ¬ ((i : Int) + 1 = 0) := by omega
      have a6 : ((n : Int) + 1 - ((i : Int) + 1)).toNat = n - i := by omega
      have a7 : (i : Int) ≤ (n : Int) + 1 := by omega
      have a8 : ¬ ((i : Int) = (n : Int) + 1) := by omega
      simp -dsimp -implicitDefEqProofs [-getElem?_pos, go_sem, hP, dN, ho, ← hn, hin, hin', asliceOp, bound, aslice, w1, w2, w3, hroom, hi, nN, iN, a1, a2, a3, a4, a5, a6, a7, a8, fx]
      refine callB_overlapsL (t := 30) (e := 70) (tR := 4) (fn := Tryz.f185) (id' := id) (lo' := i + 1) (dn' := n - i) (by rw [hP]; exact Tryz.func185) (by kernel_rfl) (by kernel_rfl) (by kernel_rfl) (by kernel_rfl) (by rw [hP]; kernel_rfl) (by rw [hP]; kernel_rfl) he0 (.inr ⟨N, rfl⟩) ho (by omega) ?_
      simp -dsimp -implicitDefEqProofs [-getElem?_pos, go_sem, hP]
      refine adrawB (fun _ => true) [8] hP (by kernel_rfl) (by kernel_rfl) ?_
      simp -dsimp -implicitDefEqProofs [-getElem?_pos, go_sem, hP, dN, ho, ← hn, hin, hin', asliceOp, bound, aslice, w1, w2, w3, hroom, hi, nN, iN, a1, a2, a3, a4, a5, a6, a7, a8, fx]
      refine buiB_copyS (e := 70) (lo := i + 1) (dn := n - i) (news := es.drop i) (es' := es.take (i + 1) ++ es.drop i) ho (.inr ⟨N, rfl⟩) (by rw [hP]; kernel_rfl) (by rw [hP]; kernel_rfl) (by omega) (by rw [hP]; kernel_rfl) ?_ (by simp [← hn]) (by omega) (by omega) (by omega) (by rw [List.drop_of_length_le (show es.length ≤ i + 1 + (n - i) by omega), List.append_nil]) ?_
      · simp only [srcEs, ho]
        rw [if_pos ⟨by rw [hP]; kernel_rfl, by omega⟩, List.take_of_length_le (by simp; omega)]
      simp -dsimp -implicitDefEqProofs [-getElem?_pos, go_sem, hP, lid, ho, asliceOp, bound, aslice, a2, a7, a8, fx]
      refine buiB_copyE (e := 70) (ty := 70) (k := 3) (lo := i) (dn := n + 1 - i) (m := 1) (es := es.take (i + 1) ++ es.drop i) (news := [e]) (es' := es.take i ++ e :: es.drop i) (by simp [lid]) (.inr ⟨N, rfl⟩) (by rw [hP]; kernel_rfl) (by rw [hP]; kernel_rfl) (by omega) (by rw [hP]; kernel_rfl) ?_ rfl (by omega) (by omega) (by simp [← hn]; omega) ?_ ?_
      · simp only [srcEs]
        rw [if_pos (by rw [hP]; kernel_rfl)]
      · rw [List.take_append_of_le_length (by simp; omega), List.take_take, Nat.min_eq_left (by omega), List.drop_append_of_le_length (by simp; omega), List.drop_of_length_le (by simp; omega)]
        simp
      simp -dsimp -implicitDefEqProofs [-getElem?_pos, go_sem, hP, lid]
      rw [hD, hC]
      simp only [List.set_set]
      exact .inr ⟨N, rfl, ⟨70, 3, es.take i ++ e :: es.drop i⟩, by simp [lid], by simp [← hn]; omega, id, rfl, .inl rfl, by simp [lid], kept_set _ (by simp) (kept_refl _ _)⟩

set_option maxHeartbeats 2000000 in
theorem delete_m_hol {row src : Option Nat} (es : List (List AV)) (i id : Nat) (H : Heap) (hi : i < es.length) (hl : es.length ≤ 100000) (ho : H[id]? = some (some ⟨70, 3, es⟩)) :
    MFun Tryz.prog row src 158 [.sref id 0 es.length, iv i, iv ((i : Int) + 1)] H (fun r H' => ∃ tl, r = .sref id 0 (es.length - 1) ∧ H'[id]? = some (some ⟨70, 3, es.take i ++ es.drop (i + 1) ++ tl⟩) ∧ Kept [id] H H') := by
  obtain ⟨C, hC⟩ : ∃ C : AV → Heap → Prop, C = fun r H' => ∃ tl, r = .sref id 0 (es.length - 1) ∧ H'[id]? = some (some ⟨70, 3, es.take i ++ es.drop (i + 1) ++ tl⟩) ∧ Kept [id] H H' := ⟨_, rfl⟩
  rw [← hC]
  have lid := (List.getElem?_eq_some_iff.1 ho).1
  have ex : ∃ r H', C r H' := by
    rw [hC]
    exact ⟨.sref id 0 (es.length - 1), H.set id (some ⟨70, 3, es.take i ++ es.drop (i + 1) ++ []⟩), [], rfl, by simp [lid], kept_set _ (by simp) (kept_refl _ _)⟩
  obtain ⟨n, hn⟩ : ∃ n, n = es.length := ⟨_, rfl⟩
  rw [← hn] at hi hl hC ⊢
  have hesne : es ≠ [] := by intro e0; simp [e0] at hn; omega
  refine mfun_unfull (C := fun r H' => ∃ N, r = .full id 0 (n - 1) N ∧ ∃ o, H'[id]? = some (some o) ∧ n - 1 ≤ o.es.length ∧ C (.sref id 0 (n - 1)) H') ?_ (fun r H' h => ?_)
  rotate_left
  · obtain ⟨N, h1, o, h2, h3, h4⟩ := h
    exact .inr ⟨id, n - 1, N, o, h1, h2, h3, h4⟩
  refine mfun_full ho hesne (by dsimp only; omega) fun N hN0 => ?_
  dsimp only at hN0
  obtain ⟨D, hD⟩ : ∃ D : AV → Heap → Prop, D = fun r H' => ∃ N, r = .full id 0 (n - 1) N ∧ ∃ o, H'[id]? = some (some o) ∧ n - 1 ≤ o.es.length ∧ C (.sref id 0 (n - 1)) H' := ⟨_, rfl⟩
  rw [← hD]
  have exD : ∃ r H', D r H' := by
    rw [hD, hC]
    refine ⟨.full id 0 (n - 1) n, H.set id (some ⟨70, 3, es.take i ++ es.drop (i + 1) ++ []⟩), n, rfl, ⟨70, 3, es.take i ++ es.drop (i + 1) ++ []⟩, by simp [lid], by simp; omega, [], rfl, by simp [lid], kept_set _ (by simp) (kept_refl _ _)⟩
  obtain ⟨zs, hz⟩ := Option.isSome_iff_exists.1 (show (zeros Tryz.prog 70).isSome = true by kernel_rfl)
  have nN : n ≤ N := by omega
  have iN : i ≤ N := by omega
  have b1 : (0 : Int) ≤ i := by omega
  have b2 : (i : Int) ≤ (i : Int) + 1 := by omega
  have b3 : (i : Int) + 1 ≤ n := by omega
  have b4 : ¬ (i : Int) = (i : Int) + 1 := by omega
  have b5 : (0 : Int) ≤ (i : Int) + 1 := by omega
  have b6 : ¬ ((i : Int) + 1 = 0) := by omega
  have fin : ∀ (es1 : List (List AV)), es1.take (n - 1) = es.take i ++ es.drop (i + 1) → es1.length = n → (H1 : Heap) → H1[id]? = some (some ⟨70, 3, es1⟩) → Kept [id] H H1 → D (.full id 0 (n - 1) N) (H1.set id (some ⟨70, 3, es.take i ++ es.drop (i + 1) ++ [zs]⟩)) := fun es1 h1 h2 H1 h3 h4 => by
    have l1 := (List.getElem?_eq_some_iff.1 h3).1
    rw [hD, hC]
    exact ⟨N, rfl, ⟨70, 3, es.take i ++ es.drop (i + 1) ++ [zs]⟩, by simp [l1], by simp [← hn]; omega, [zs], rfl, by simp [l1], kept_set _ (by simp) h4⟩
  refine mfun_intro Tryz.func158 rfl (by simp [Tryz.f158]) (by kernel_rfl) (exD) ?_
  intro E hP hr hs hN
  simp -dsimp -implicitDefEqProofs [-getElem?_pos, go_sem, hP, ho, ← hn, asliceOp, bound, aslice, aslice3, b1, b2, b3, b4, b5]
  refine adrawB (fun _ => true) [6] hP (by kernel_rfl) (by kernel_rfl) ?_
  have sx : (if n - 1 = 0 then some (AV.full id 0 n N) else some (AV.full id (n - 1) 1 N)) = some (.full id (n - 1) 1 N) := by
    split
    · rename_i h0; rw [h0, show n = 1 by omega]
    · rfl
  have n4 : ¬ (((n - 1 : Nat) : Int) = (n : Int)) := by omega
  have n1 : n - (n - 1) = 1 := by omega
  have n2 : n - 1 ≤ n := by omega
  have n3 : ¬ (n - 1 = n) := by omega
  have n0 : ¬ n = 0 := by omega
  by_cases hlast : i + 1 = n
  · have c1 : (i : Int) + 1 = n := by omega
    have iN1 : i = n - 1 := by omega
    simp -dsimp -implicitDefEqProofs [-getElem?_pos, go_sem, hP, ho, ← hn, asliceOp, bound, aslice, b1, b2, b3, b4, b5, b6, c1, iN, nN, n0]
    refine buiB_appendN (e := 70) (L := n - 1) (o := ⟨70, 3, es⟩) ho (by rw [hP]; kernel_rfl) (by rw [hP]; kernel_rfl) iN iN1 ?_
    simp -dsimp -implicitDefEqProofs [-getElem?_pos, go_sem, hP, ho, asliceOp, bound, aslice, n1, n2, n3, n4, nN, sx]
    refine buiB_clearE (e := 70) (es' := es.take i ++ es.drop (i + 1) ++ [zs]) ho (.inr ⟨N, rfl⟩) (by rw [hP]; kernel_rfl) (by rw [hP]; kernel_rfl) (by omega) (by rw [hP]; exact hz) (by omega) (by omega) ?_ ?_
    · rw [List.drop_of_length_le (show es.length ≤ n - 1 + 1 by omega), List.drop_of_length_le (show es.length ≤ i + 1 by omega), iN1]
      simp
    simp -dsimp -implicitDefEqProofs [-getElem?_pos, go_sem, hP]
    have := fin es (by rw [List.drop_of_length_le (show es.length ≤ i + 1 by omega), iN1]; simp) hn.symm H ho (kept_refl _ _)
    simpa using this
  · have c1 : ¬ (i : Int) + 1 = n := by omega
    have c2 : (n : Int) - ((i : Int) + 1) = ((n - (i + 1) : Nat) : Int) := by omega
    simp -dsimp -implicitDefEqProofs [-getElem?_pos, go_sem, hP, ho, ← hn, asliceOp, bound, aslice, b1, b2, b3, b4, b5, b6, c1, c2, iN, nN]
    refine buiB_appendE (e := 70) (L := n - 1) (m := n - (i + 1)) (news := es.drop (i + 1)) (es' := es.take i ++ es.drop (i + 1) ++ es.drop (n - 1)) ho (by rw [hP]; kernel_rfl) (by rw [hP]; kernel_rfl) (by omega) (by rw [hP]; kernel_rfl) ?_ (by simp [← hn]) (by omega) (by omega) (by omega) rfl (by omega) ?_
    · simp only [srcEs, ho]
      rw [if_pos ⟨by rw [hP]; kernel_rfl, by omega⟩, List.take_of_length_le (by simp; omega)]
    simp -dsimp -implicitDefEqProofs [-getElem?_pos, go_sem, hP, lid, asliceOp, bound, aslice, n1, n2, n3, n4, nN, sx]
    have hl2 : (es.take i ++ es.drop (i + 1)).length = n - 1 := by simp; omega
    refine buiB_clearE (e := 70) (ty := 70) (k := 3) (es := es.take i ++ es.drop (i + 1) ++ es.drop (n - 1)) (es' := es.take i ++ es.drop (i + 1) ++ [zs]) (by simp [lid]) (.inr ⟨N, rfl⟩) (by rw [hP]; kernel_rfl) (by rw [hP]; kernel_rfl) (by omega) (by rw [hP]; exact hz) (by omega) (by simp; omega) ?_ ?_
    · rw [List.take_append_of_le_length (by omega), List.take_of_length_le (by omega), List.drop_of_length_le (show (es.take i ++ es.drop (i + 1) ++ es.drop (n - 1)).length ≤ n - 1 + 1 by rw [List.length_append, hl2, List.length_drop]; omega)]
      simp
    simp -dsimp -implicitDefEqProofs [-getElem?_pos, go_sem, hP]
    have := fin (es.take i ++ es.drop (i + 1) ++ es.drop (n - 1)) (by rw [List.take_append_of_le_length (by omega), List.take_of_length_le (by omega)]) (by rw [List.length_append, hl2, List.length_drop]; omega) (H.set id (some ⟨70, 3, es.take i ++ es.drop (i + 1) ++ es.drop (n - 1)⟩)) (by simp [lid]) (kept_set _ (by simp) (kept_refl _ _))
    simpa using this

theorem deleteC_hol {row src : Option Nat} (es : List (List AV)) (i id : Nat) (H : Heap) (hi : i < es.length) (hl : es.length ≤ 100000) (ho : H[id]? = some (some ⟨70, 3, es⟩)) :
    MFun Tryz.prog row src 158 [.sref id 0 es.length, iv i, iv ((i : Int) + 1)] H (fun r H' => ∃ jd, r = .sref jd 0 (es.length - 1) ∧ (∀ (x : Nat) (o : AObj), x ≠ id → H[x]? = some (some o) → x < jd) ∧ H'[jd]? = some (some ⟨70, 3, es.take i ++ es.drop (i + 1)⟩) ∧ Kept [id] H H') := by
  refine mfun_cut (delete_m_hol es i id H hi hl ho) ?_
  rintro r H' ⟨tl, rfl, h1, h2⟩
  have hn : (es.take i ++ es.drop (i + 1)).length = es.length - 1 := by simp; omega
  refine ⟨id, _, _, rfl, h1, by dsimp only; rw [List.length_append, hn]; omega, H'.length, rfl, fun x o hx e => ?_, ?_, ?_⟩
  · exact (List.getElem?_eq_some_iff.1 (h2 x o (by simpa using hx) e)).1
  · dsimp only
    rw [List.take_append_of_le_length (by omega), List.take_of_length_le (by omega)]
    simp
  · exact h2.trans ((kept_set none (by simp) (kept_refl _ _)).trans (kept_app _ _ _))


theorem held_m {row src : Option Nat} (c : Nat) (sx hx n d : AV) (l : List THolding) (id h : Int) (H : Heap) (hc : H[c]? = some (some ⟨94, 4, [[sx, hx, n, d]]⟩)) (hsl : SlIs H hx 3 (encL THolding.cells l)) (hl : l.length ≤ 100000) (ho : l.Pairwise hR) :
    MFun Tryz.prog row src 43 [.ref c 0 0, iv id, iv h] H (fun r H' => r = iv (heldH l id h) ∧ Kept [] H H') := by
  obtain ⟨v, hv⟩ : ∃ v, v = heldH l id h := ⟨_, rfl⟩
  rw [← hv]
  obtain ⟨C, hC⟩ : ∃ C : AV → Heap → Prop, C = fun r H' => r = iv v ∧ Kept [] H H' := ⟨_, rfl⟩
  rw [← hC]
  have ex : ∃ r H', C r H' := ⟨_, H, by rw [hC]; exact ⟨rfl, kept_refl _ _⟩⟩
  obtain ⟨k, hk, hm, hcase⟩ := place_setK (hOk id h) ho
  have pm := fun {row src : Option Nat} => place_m (row := row) (src := src) c sx hx n d l id h k H hc hsl hl hk hm
  rcases hcase with ⟨x, e1, e2, e3, _⟩ | ⟨e1, e3, _⟩
  · have hb : (l[k]?).any (hIs id h) = true := by rw [e1]; exact e2
    have ev : v = x.Amount := by rw [hv]; exact e3
    have lk := (List.getElem?_eq_some_iff.1 e1).1
    rw [hb] at pm
    refine mfun_intro Tryz.func43 rfl (by simp [Tryz.f43]) (by kernel_rfl) (ex) ?_
    intro E hP hr hs hN
    simp -dsimp -implicitDefEqProofs [-getElem?_pos, go_sem, hP]
    refine callB_m (by rw [hr, hs]; exact pm) hP en_84 ?_
    rintro r H' ⟨rfl, kp⟩
    have c1 := kp _ _ (by simp) hc
    have s1 := hsl.kept kp
    have lc1 := (List.getElem?_eq_some_iff.1 c1).1
    rcases s1 with rfl | ⟨rfl, e⟩ | ⟨hid, ty, rfl, hh⟩
    · simp -dsimp -implicitDefEqProofs [-getElem?_pos, go_sem, hP, c1, lc1, e1, cHol]
      rw [hC]
      exact ⟨by rw [ev], kp⟩
    · exfalso
      cases l with
      | nil => simp at lk
      | cons _ _ => simp [encL] at e
    · have lh := (List.getElem?_eq_some_iff.1 hh).1
      simp -dsimp -implicitDefEqProofs [-getElem?_pos, go_sem, hP, c1, lc1, hh, lh, e1, cHol, encL_len, lk]
      rw [hC]
      exact ⟨by rw [ev], kp⟩
  · have hb : (l[k]?).any (hIs id h) = false := by
      cases e : l[k]? with
      | none => rfl
      | some x => simpa using e1 x e
    have ev : v = 0 := by rw [hv]; exact e3
    rw [hb] at pm
    refine mfun_intro Tryz.func43 rfl (by simp [Tryz.f43]) (by kernel_rfl) (ex) ?_
    intro E hP hr hs hN
    simp -dsimp -implicitDefEqProofs [-getElem?_pos, go_sem, hP]
    refine callB_m (by rw [hr, hs]; exact pm) hP en_84 ?_
    rintro r H' ⟨rfl, kp⟩
    simp -dsimp -implicitDefEqProofs [-getElem?_pos, go_sem, hP]
    rw [hC]
    exact ⟨by rw [ev], kp⟩
theorem outH_take {l : List THolding} {N : Nat} (h : HoldOk l N) (id : Int) (k : Nat) : 0 ≤ outH (l.take k) id ∧ outH (l.take k) id ≤ 1000000000000 := by
  have h1 := sumQ_le (secQ id) hAm (l.take k) fun x hx => h.pos x (List.mem_of_mem_take hx)
  have h2 := sumQ_le (secQ id) hAm (l.drop k) fun x hx => h.pos x (List.mem_of_mem_drop hx)
  have h3 := sumQ_append (secQ id) hAm (l.take k) (l.drop k)
  rw [List.take_append_drop] at h3
  have h4 := h.tot id
  unfold outH at *
  omega
theorem outH_succ {l : List THolding} {k : Nat} {x : THolding} (hx : l[k]? = some x) (id : Int) : outH (l.take (k + 1)) id = outH (l.take k) id + if x.Security = id then x.Amount else 0 := by
  unfold outH
  rw [List.take_add_one, hx, sumQ_append]
  simp only [Option.toList_some, sumQ_cons, sumQ_nil, secQ, decide_eq_true_eq, hAm]
  omega
theorem outst_m {row src : Option Nat} (c : Nat) (sx hx n d : AV) (l : List THolding) (N : Nat) (id : Int) (H : Heap) (hc : H[c]? = some (some ⟨94, 4, [[sx, hx, n, d]]⟩)) (hsl : SlIs H hx 3 (encL THolding.cells l)) (hl : l.length ≤ 100000) (ho : HoldOk l N) :
    MFun Tryz.prog row src 102 [.ref c 0 0, iv id] H (fun r H' => r = iv (outH l id) ∧ Kept [] H H') := by
  obtain ⟨v, hv⟩ : ∃ v, v = outH l id := ⟨_, rfl⟩
  rw [← hv]
  obtain ⟨C, hC⟩ : ∃ C : AV → Heap → Prop, C = fun r H' => r = iv v ∧ Kept [] H H' := ⟨_, rfl⟩
  rw [← hC]
  have ex : ∃ r H', C r H' := ⟨_, H, by rw [hC]; exact ⟨rfl, kept_refl _ _⟩⟩
  have lc := (List.getElem?_eq_some_iff.1 hc).1
  have hlen := hsl.len
  rw [encL_len] at hlen
  refine mfun_intro Tryz.func102 rfl (by simp [Tryz.f102]) (by kernel_rfl) (ex) ?_
  intro E hP hr hs hN
  simp -dsimp -implicitDefEqProofs [-getElem?_pos, go_sem, hP, hc, lc, hlen]
  obtain ⟨I, hI⟩ : ∃ I : Nat → St → Prop, I = fun m s => ∃ (k : Nat) (w : Int), k ≤ l.length ∧ m = l.length - k ∧ w = outH (l.take k) id ∧ s.t 0 = .ref c 0 0 ∧ s.t 1 = iv id ∧ s.t 5 = iv w ∧ s.t 11 = hx ∧ s.t 12 = iv l.length ∧ s.t 13 = iv k ∧ Kept [] H s.H := ⟨_, rfl⟩
  refine aloop0 I (l.length) (by rw [hN]; rfl) ?_ ?_
  · rw [hI]
    exact ⟨0, 0, by omega, by omega, rfl, by simp -dsimp -implicitDefEqProofs [-getElem?_pos, go_sem], by simp -dsimp -implicitDefEqProofs [-getElem?_pos, go_sem], by simp -dsimp -implicitDefEqProofs [-getElem?_pos, go_sem], by simp -dsimp -implicitDefEqProofs [-getElem?_pos, go_sem], by simp -dsimp -implicitDefEqProofs [-getElem?_pos, go_sem], by simp -dsimp -implicitDefEqProofs [-getElem?_pos, go_sem], by simp -dsimp -implicitDefEqProofs [-getElem?_pos, go_sem]; exact kept_refl _ _⟩
  intro m s hs'
  rw [hI] at hs'
  obtain ⟨k, w, hk, hm, hw, t0, t1, t5, t11, t12, t13, kp⟩ := hs'
  simp -dsimp -implicitDefEqProofs [-getElem?_pos, go_sem, hP, t12, t13]
  refine condP (fun hq => ?_) (fun hq => ?_)
  · have hk : k < l.length := by simpa using hq
    obtain ⟨a, ha⟩ : ∃ a, l[k]? = some a := ⟨_, List.getElem?_eq_getElem hk⟩
    have wk := wrap_in ((k : Int) + 1) (by omega)
    obtain ⟨ad, h1, h2⟩ := (hsl.kept kp).idx (P := Tryz.prog) (t := 30) (e := 70) el_30 (by rw [sz_70]) kn_70 k (by rw [encL_len]; exact hk)
    have h2' : addrCells s.H ad = some [iv a.Security, iv a.Holder, iv a.Amount] := by
      rw [h2]
      have := encL_get THolding.cells l k
      rw [ha, List.getElem?_eq_getElem (by rw [encL_len]; exact hk)] at this
      exact this
    have hs2 := outH_succ ha id
    have hb := outH_take ho id (k + 1)
    rw [← hw] at hs2
    by_cases e : a.Security = id
    · rw [if_pos e] at hs2
      have wa := wrap_in (w + a.Amount) (by omega)
      simp -dsimp -implicitDefEqProofs [-getElem?_pos, go_sem, hP, t13, t11, h1, h2', t1, t5, e, wa, wk]
      refine ⟨l.length - (k + 1), by omega, ?_⟩
      rw [hI]
      exact ⟨k + 1, _, by omega, rfl, hs2.symm, by simp -dsimp -implicitDefEqProofs [-getElem?_pos, go_sem, t0], by simp -dsimp -implicitDefEqProofs [-getElem?_pos, go_sem, t1], by simp -dsimp -implicitDefEqProofs [-getElem?_pos, go_sem], by simp -dsimp -implicitDefEqProofs [-getElem?_pos, go_sem, t11], by simp -dsimp -implicitDefEqProofs [-getElem?_pos, go_sem, t12], by simp -dsimp -implicitDefEqProofs [-getElem?_pos, go_sem], by simp -dsimp -implicitDefEqProofs [-getElem?_pos, go_sem]; exact kp.trans (kept_app _ _ _)⟩
    · rw [if_neg e, Int.add_zero] at hs2
      simp -dsimp -implicitDefEqProofs [-getElem?_pos, go_sem, hP, t13, t11, h1, h2', t1, t5, e, wk]
      refine ⟨l.length - (k + 1), by omega, ?_⟩
      rw [hI]
      exact ⟨k + 1, _, by omega, rfl, hs2.symm, by simp -dsimp -implicitDefEqProofs [-getElem?_pos, go_sem, t0], by simp -dsimp -implicitDefEqProofs [-getElem?_pos, go_sem, t1], by simp -dsimp -implicitDefEqProofs [-getElem?_pos, go_sem, t5], by simp -dsimp -implicitDefEqProofs [-getElem?_pos, go_sem, t11], by simp -dsimp -implicitDefEqProofs [-getElem?_pos, go_sem, t12], by simp -dsimp -implicitDefEqProofs [-getElem?_pos, go_sem], by simp -dsimp -implicitDefEqProofs [-getElem?_pos, go_sem]; exact kp.trans (kept_app _ _ _)⟩
  · have hk : k = l.length := by simp at hq; omega
    subst hk
    rw [List.take_length, ← hv] at hw
    simp -dsimp -implicitDefEqProofs [-getElem?_pos, go_sem, hP, t5]
    rw [hC]
    exact ⟨by rw [hw], kp⟩
end Go.Proofs.YtkcfmmpcpdlfeaaGreatDoor
