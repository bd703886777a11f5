/- slices.Insert. -/
import Derived.Test.YtmpncdlhmknkoaaPlayAll
import Derived.Test.YtmpncdlhmknkoaaPaIns
set_option linter.unusedSimpArgs false
set_option linter.unusedVariables false
namespace Go.Proofs.Ytmpncdlhmknkoaa
open Go.PA
open Go.RowKit
set_option maxHeartbeats 2000000 in
theorem insert_m_int {row src : Option Nat} (es : List (List AV)) (e : List AV) (i id : Nat) (H : Heap) (hi : i ≤ es.length) (hl : es.length ≤ 100000) (ho : H[id]? = some (some ⟨3, 1, es⟩)) (he0 : e ≠ []) :
    MFun Try.prog row src 48 [.sref id 0 es.length, iv i, .list 1 [e]] H (fun r H' => ∃ jd, r = .sref jd 0 (es.length + 1) ∧ (jd = id ∨ H.length ≤ jd) ∧ H'[jd]? = some (some ⟨3, 1, es.take i ++ e :: es.drop i⟩) ∧ Kept [id] H H') := by
  obtain ⟨C, hC⟩ : ∃ C : AV → Heap → Prop, C = fun r H' => ∃ jd, r = .sref jd 0 (es.length + 1) ∧ (jd = id ∨ H.length ≤ jd) ∧ H'[jd]? = some (some ⟨3, 1, es.take i ++ e :: es.drop i⟩) ∧ Kept [id] H H' := ⟨_, rfl⟩
  rw [← hC]
  have ex : ∃ r H', C r H' := by
    rw [hC]
    exact ⟨.sref H.length 0 (es.length + 1), H ++ [some ⟨3, 1, es.take i ++ e :: es.drop i⟩], H.length, rfl, .inr (Nat.le_refl _), by simp, kept_app _ _ _⟩
  have lid := (List.getElem?_eq_some_iff.1 ho).1
  obtain ⟨n, hn⟩ : ∃ n, n = es.length := ⟨_, rfl⟩
  rw [← hn] at hi hl hC ⊢
  by_cases hin : i = n
  · subst hin
    refine mfun_intro Try.func48 rfl (by simp [Try.f48]) (by kernel_rfl) (ex) ?_
    intro E hP hr hs hN
    by_cases h0 : i = 0
    · subst h0
      simp -dsimp -implicitDefEqProofs [-getElem?_pos, go_sem, hP, ho, ← hn, asliceOp, bound, aslice]
      rw [hC]
      exact ⟨H.length, rfl, .inr (Nat.le_refl _), by simp -dsimp -implicitDefEqProofs [-getElem?_pos, go_sem, List.eq_nil_of_length_eq_zero hn.symm], (kept_set none (by simp) (kept_refl _ _)).trans (kept_app _ _ _)⟩
    · simp -dsimp -implicitDefEqProofs [-getElem?_pos, go_sem, hP, ho, ← hn, h0, asliceOp, bound, aslice]
      refine ⟨by omega, by omega, ?_⟩
      rw [hC]
      exact ⟨H.length, rfl, .inr (Nat.le_refl _), by simp -dsimp -implicitDefEqProofs [-getElem?_pos, go_sem, hn], (kept_set none (by simp) (kept_refl _ _)).trans (kept_app _ _ _)⟩
  · have hlt : i < n := by omega
    have hin' : ¬ (i : Int) = n := by omega
    have w1 := wrap_in ((n : Int) + 1) (by omega)
    have w2 := wrap_in ((i : Int) + 1) (by omega)
    have w3 := wrap_in ((n : Int) + 1 - i) (by omega)
    have hesne : es ≠ [] := by intro e0; simp [e0] at hn; omega
    refine mfun_unfull (C := fun r H' => C r H' ∨ ∃ N, r = .full id 0 (n + 1) N ∧ ∃ o, H'[id]? = some (some o) ∧ n + 1 ≤ o.es.length ∧ C (.sref id 0 (n + 1)) H') ?_ (fun r H' h => ?_)
    rotate_left
    · rcases h with h | ⟨N, h1, o, h2, h3, h4⟩
      · exact .inl h
      · exact .inr ⟨id, n + 1, N, o, h1, h2, h3, h4⟩
    refine mfun_full ho hesne (by dsimp only; omega) fun N hN0 => ?_
    dsimp only at hN0
    obtain ⟨D, hD⟩ : ∃ D : AV → Heap → Prop, D = fun r H' => C r H' ∨ ∃ N, r = .full id 0 (n + 1) N ∧ ∃ o, H'[id]? = some (some o) ∧ n + 1 ≤ o.es.length ∧ C (.sref id 0 (n + 1)) H' := ⟨_, rfl⟩
    rw [← hD]
    have exD : ∃ r H', D r H' := by
      obtain ⟨r, H', h⟩ := ex
      rw [hD]
      exact ⟨r, H', .inl h⟩
    have fx : ∀ (id n N : Nat), (if i = 0 then some (AV.full id 0 n N) else some (AV.full id i (n - i) N)) = some (.full id i (n - i) N) := fun id n N => by
      split
      · subst i; rfl
      · rfl
    have nN : n ≤ N := by omega
    have iN : i ≤ N := by omega
    have a1 : (0 : Int) ≤ (n : Int) + 1 := by omega
    have a3 : (0 : Int) ≤ (i : Int) + 1 := by omega
    have a4 : (i : Int) + 1 ≤ (n : Int) + 1 := by omega
    refine mfun_intro Try.func48 rfl (by simp [Try.f48]) (by kernel_rfl) (exD) ?_
    intro E hP hr hs hN
    by_cases hroom : N < n + 1
    · have dN : decide ((N : Int) < (n : Int) + 1) = true := decide_eq_true (by omega)
      obtain ⟨zs, hz⟩ := Option.isSome_iff_exists.1 (show (zeros Try.prog 3).isSome = true by kernel_rfl)
      have hbt : bytesOf Try.prog 3 = 8 := by kernel_rfl
      have hm : (n : Int) + 1 - i = ((n + 1 - i : Nat) : Int) := by omega
      have sx : ∀ (id n : Nat), (if i = 0 then some (AV.sref id 0 n) else some (AV.sref id i (n - i))) = some (.sref id i (n - i)) := fun id n => by
        split
        · subst i; rfl
        · rfl
      simp -dsimp -implicitDefEqProofs [-getElem?_pos, go_sem, hP, dN, ho, ← hn, hin, hin', asliceOp, bound, aslice, w1, w2, w3, hroom, hi, nN, iN, a1, a3, a4, fx]
      refine buiB_makeE (e := 3) (m := n + 1 - i) (L := n + 1) (kn := .i64) (zs := zs) ho (by rw [hP]; kernel_rfl) (by rw [hP]; kernel_rfl) (by rw [hP]; kernel_rfl) (by omega) rfl (by rw [hP]; exact hz) (by omega) hm (by omega) (by omega) hroom (by omega) (by rw [hP, hbt]; omega) ?_
      have ho2 : (H ++ [some (⟨3, 1, es.take i ++ List.replicate (n + 1 - i) zs⟩ : AObj)])[id]? = some (some ⟨3, 1, es⟩) := by rw [List.getElem?_append_left lid]; exact ho
      have hl1 : (es.take i ++ List.replicate (n + 1 - i) zs).length = n + 1 := by simp; omega
      have a7 : (i : Int) ≤ (n : Int) + 1 := by omega
      have a8 : ¬ ((i : Int) = (n : Int) + 1) := by omega
      have a9 : i ≤ n + 1 := by omega
      have a10 : ¬ i = n + 1 := by omega
      have hA : (es.take i).length = i := by simp; omega
      have d1 : (es.take i ++ List.replicate (n + 1 - i) zs).drop (i + 1) = List.replicate (n - i) zs := by
        rw [List.drop_append, List.drop_of_length_le (by omega), hA, List.nil_append, List.drop_replicate]
        congr 1
        omega
      simp -dsimp -implicitDefEqProofs [-getElem?_pos, go_sem, hP, ho2, asliceOp, bound, aslice, a7, a8, a9, a10, sx]
      refine buiB_copyE (e := 3) (ty := 3) (k := 1) (lo := i) (dn := n + 1 - i) (m := 1) (es := es.take i ++ List.replicate (n + 1 - i) zs) (news := [e]) (es' := es.take i ++ e :: List.replicate (n - i) zs) (by simp) (.inl rfl) (by rw [hP]; kernel_rfl) (by rw [hP]; kernel_rfl) (by omega) (by rw [hP]; kernel_rfl) ?_ rfl (by omega) (by omega) (by simp; omega) ?_ ?_
      · simp only [srcEs]
        rw [if_pos (by rw [hP]; kernel_rfl)]
      · rw [d1, List.take_append_of_le_length (by omega), List.take_of_length_le (by omega)]
        simp
      have ho3 : (H ++ [some (⟨3, 1, es.take i ++ e :: List.replicate (n - i) zs⟩ : AObj)])[id]? = some (some ⟨3, 1, es⟩) := by rw [List.getElem?_append_left lid]; exact ho
      have a5 : ¬ ((i : Int) + 1 = 0) := by omega
      have a6 : ((n : Int) + 1 - ((i : Int) + 1)).toNat = n - i := by omega
      have a11 : ¬ ((i : Int) + 1 = (n : Int) + 1) := by omega
      simp -dsimp -implicitDefEqProofs [-getElem?_pos, go_sem, hP]
      refine adrawB (fun _ => true) [8] hP (by kernel_rfl) (by kernel_rfl) ?_
      simp -dsimp -implicitDefEqProofs [-getElem?_pos, go_sem, hP, ho3, ← hn, hin, hin', asliceOp, bound, aslice, w1, w2, hi, nN, iN, a1, a3, a4, a5, a6, a7, a8, a11, fx, sx]
      refine buiB_copyE (e := 3) (ty := 3) (k := 1) (lo := i + 1) (dn := n - i) (m := n - i) (es := es.take i ++ e :: List.replicate (n - i) zs) (news := es.drop i) (es' := es.take i ++ e :: es.drop i) (by simp) (.inl rfl) (by rw [hP]; kernel_rfl) (by rw [hP]; kernel_rfl) (by omega) (by rw [hP]; kernel_rfl) ?_ (by simp [← hn]) (by omega) (by omega) (by simp; omega) ?_ ?_
      · simp only [srcEs, ho3]
        rw [if_pos ⟨by rw [hP]; kernel_rfl, by omega⟩, List.take_of_length_le (by simp; omega)]
      · rw [show es.take i ++ e :: List.replicate (n - i) zs = (es.take i ++ [e]) ++ List.replicate (n - i) zs from by simp, List.take_append_of_le_length (by simp; omega), List.take_of_length_le (by simp; omega), List.drop_of_length_le (show ((es.take i ++ [e]) ++ List.replicate (n - i) zs).length ≤ i + 1 + (n - i) by simp; omega)]
        simp
      simp -dsimp -implicitDefEqProofs [-getElem?_pos, go_sem, hP]
      rw [hD, hC]
      exact .inl ⟨H.length, rfl, .inr (Nat.le_refl _), by simp, kept_app _ _ _⟩
    · have dN : decide ((N : Int) < (n : Int) + 1) = false := decide_eq_false (by omega)
      have a2 : (n : Int) + 1 ≤ N := by omega
      have a5 : ¬ ((i : Int) + 1 = 0) := by omega
      have a6 : ((n : Int) + 1 - ((i : Int) + 1)).toNat = n - i := by omega
      have a7 : (i : Int) ≤ (n : Int) + 1 := by omega
      have a8 : ¬ ((i : Int) = (n : Int) + 1) := by omega
      simp -dsimp -implicitDefEqProofs [-getElem?_pos, go_sem, hP, dN, ho, ← hn, hin, hin', asliceOp, bound, aslice, w1, w2, w3, hroom, hi, nN, iN, a1, a2, a3, a4, a5, a6, a7, a8, fx]
      refine callB_overlapsL (t := 22) (e := 3) (tR := 4) (fn := Try.f72) (id' := id) (lo' := i + 1) (dn' := n - i) (by rw [hP]; exact Try.func72) (by kernel_rfl) (by kernel_rfl) (by kernel_rfl) (by kernel_rfl) (by rw [hP]; kernel_rfl) (by rw [hP]; kernel_rfl) he0 (.inr ⟨N, rfl⟩) ho (by omega) ?_
      simp -dsimp -implicitDefEqProofs [-getElem?_pos, go_sem, hP]
      refine adrawB (fun _ => true) [8] hP (by kernel_rfl) (by kernel_rfl) ?_
      simp -dsimp -implicitDefEqProofs [-getElem?_pos, go_sem, hP, dN, ho, ← hn, hin, hin', asliceOp, bound, aslice, w1, w2, w3, hroom, hi, nN, iN, a1, a2, a3, a4, a5, a6, a7, a8, fx]
      refine buiB_copyS (e := 3) (lo := i + 1) (dn := n - i) (news := es.drop i) (es' := es.take (i + 1) ++ es.drop i) ho (.inr ⟨N, rfl⟩) (by rw [hP]; kernel_rfl) (by rw [hP]; kernel_rfl) (by omega) (by rw [hP]; kernel_rfl) ?_ (by simp [← hn]) (by omega) (by omega) (by omega) (by rw [List.drop_of_length_le (show es.length ≤ i + 1 + (n - i) by omega), List.append_nil]) ?_
      · simp only [srcEs, ho]
        rw [if_pos ⟨by rw [hP]; kernel_rfl, by omega⟩, List.take_of_length_le (by simp; omega)]
      simp -dsimp -implicitDefEqProofs [-getElem?_pos, go_sem, hP, lid, ho, asliceOp, bound, aslice, a2, a7, a8, fx]
      refine buiB_copyE (e := 3) (ty := 3) (k := 1) (lo := i) (dn := n + 1 - i) (m := 1) (es := es.take (i + 1) ++ es.drop i) (news := [e]) (es' := es.take i ++ e :: es.drop i) (by simp [lid]) (.inr ⟨N, rfl⟩) (by rw [hP]; kernel_rfl) (by rw [hP]; kernel_rfl) (by omega) (by rw [hP]; kernel_rfl) ?_ rfl (by omega) (by omega) (by simp [← hn]; omega) ?_ ?_
      · simp only [srcEs]
        rw [if_pos (by rw [hP]; kernel_rfl)]
      · rw [List.take_append_of_le_length (by simp; omega), List.take_take, Nat.min_eq_left (by omega), List.drop_append_of_le_length (by simp; omega), List.drop_of_length_le (by simp; omega)]
        simp
      simp -dsimp -implicitDefEqProofs [-getElem?_pos, go_sem, hP, lid]
      rw [hD, hC]
      simp only [List.set_set]
      exact .inr ⟨N, rfl, ⟨3, 1, es.take i ++ e :: es.drop i⟩, by simp [lid], by simp [← hn]; omega, id, rfl, .inl rfl, by simp [lid], kept_set _ (by simp) (kept_refl _ _)⟩

set_option maxHeartbeats 2000000 in
theorem insert_m_pay {row src : Option Nat} (es : List (List AV)) (e : List AV) (i id : Nat) (H : Heap) (hi : i ≤ es.length) (hl : es.length ≤ 100000) (ho : H[id]? = some (some ⟨34, 5, es⟩)) (he0 : e ≠ []) :
    MFun Try.prog row src 70 [.sref id 0 es.length, iv i, .list 5 [e]] H (fun r H' => ∃ jd, r = .sref jd 0 (es.length + 1) ∧ (jd = id ∨ H.length ≤ jd) ∧ H'[jd]? = some (some ⟨34, 5, es.take i ++ e :: es.drop i⟩) ∧ Kept [id] H H') := by
  obtain ⟨C, hC⟩ : ∃ C : AV → Heap → Prop, C = fun r H' => ∃ jd, r = .sref jd 0 (es.length + 1) ∧ (jd = id ∨ H.length ≤ jd) ∧ H'[jd]? = some (some ⟨34, 5, es.take i ++ e :: es.drop i⟩) ∧ Kept [id] H H' := ⟨_, rfl⟩
  rw [← hC]
  have ex : ∃ r H', C r H' := by
    rw [hC]
    exact ⟨.sref H.length 0 (es.length + 1), H ++ [some ⟨34, 5, es.take i ++ e :: es.drop i⟩], H.length, rfl, .inr (Nat.le_refl _), by simp, kept_app _ _ _⟩
  have lid := (List.getElem?_eq_some_iff.1 ho).1
  obtain ⟨n, hn⟩ : ∃ n, n = es.length := ⟨_, rfl⟩
  rw [← hn] at hi hl hC ⊢
  by_cases hin : i = n
  · subst hin
    refine mfun_intro Try.func70 rfl (by simp [Try.f70]) (by kernel_rfl) (ex) ?_
    intro E hP hr hs hN
    by_cases h0 : i = 0
    · subst h0
      simp -dsimp -implicitDefEqProofs [-getElem?_pos, go_sem, hP, ho, ← hn, asliceOp, bound, aslice]
      rw [hC]
      exact ⟨H.length, rfl, .inr (Nat.le_refl _), by simp -dsimp -implicitDefEqProofs [-getElem?_pos, go_sem, List.eq_nil_of_length_eq_zero hn.symm], (kept_set none (by simp) (kept_refl _ _)).trans (kept_app _ _ _)⟩
    · simp -dsimp -implicitDefEqProofs [-getElem?_pos, go_sem, hP, ho, ← hn, h0, asliceOp, bound, aslice]
      refine ⟨by omega, by omega, ?_⟩
      rw [hC]
      exact ⟨H.length, rfl, .inr (Nat.le_refl _), by simp -dsimp -implicitDefEqProofs [-getElem?_pos, go_sem, hn], (kept_set none (by simp) (kept_refl _ _)).trans (kept_app _ _ _)⟩
  · have hlt : i < n := by omega
    have hin' : ¬ (i : Int) = n := by omega
    have w1 := wrap_in ((n : Int) + 1) (by omega)
    have w2 := wrap_in ((i : Int) + 1) (by omega)
    have w3 := wrap_in ((n : Int) + 1 - i) (by omega)
    have hesne : es ≠ [] := by intro e0; simp [e0] at hn; omega
    refine mfun_unfull (C := fun r H' => C r H' ∨ ∃ N, r = .full id 0 (n + 1) N ∧ ∃ o, H'[id]? = some (some o) ∧ n + 1 ≤ o.es.length ∧ C (.sref id 0 (n + 1)) H') ?_ (fun r H' h => ?_)
    rotate_left
    · rcases h with h | ⟨N, h1, o, h2, h3, h4⟩
      · exact .inl h
      · exact .inr ⟨id, n + 1, N, o, h1, h2, h3, h4⟩
    refine mfun_full ho hesne (by dsimp only; omega) fun N hN0 => ?_
    dsimp only at hN0
    obtain ⟨D, hD⟩ : ∃ D : AV → Heap → Prop, D = fun r H' => C r H' ∨ ∃ N, r = .full id 0 (n + 1) N ∧ ∃ o, H'[id]? = some (some o) ∧ n + 1 ≤ o.es.length ∧ C (.sref id 0 (n + 1)) H' := ⟨_, rfl⟩
    rw [← hD]
    have exD : ∃ r H', D r H' := by
      obtain ⟨r, H', h⟩ := ex
      rw [hD]
      exact ⟨r, H', .inl h⟩
    have fx : ∀ (id n N : Nat), (if i = 0 then some (AV.full id 0 n N) else some (AV.full id i (n - i) N)) = some (.full id i (n - i) N) := fun id n N => by
      split
      · subst i; rfl
      · rfl
    have nN : n ≤ N := by omega
    have iN : i ≤ N := by omega
    have a1 : (0 : Int) ≤ (n : Int) + 1 := by omega
    have a3 : (0 : Int) ≤ (i : Int) + 1 := by omega
    have a4 : (i : Int) + 1 ≤ (n : Int) + 1 := by omega
    refine mfun_intro Try.func70 rfl (by simp [Try.f70]) (by kernel_rfl) (exD) ?_
    intro E hP hr hs hN
    by_cases hroom : N < n + 1
    · have dN : decide ((N : Int) < (n : Int) + 1) = true := decide_eq_true (by omega)
      obtain ⟨zs, hz⟩ := Option.isSome_iff_exists.1 (show (zeros Try.prog 34).isSome = true by kernel_rfl)
      have hbt : bytesOf Try.prog 34 = 40 := by kernel_rfl
      have hm : (n : Int) + 1 - i = ((n + 1 - i : Nat) : Int) := by omega
      have sx : ∀ (id n : Nat), (if i = 0 then some (AV.sref id 0 n) else some (AV.sref id i (n - i))) = some (.sref id i (n - i)) := fun id n => by
        split
        · subst i; rfl
        · rfl
      simp -dsimp -implicitDefEqProofs [-getElem?_pos, go_sem, hP, dN, ho, ← hn, hin, hin', asliceOp, bound, aslice, w1, w2, w3, hroom, hi, nN, iN, a1, a3, a4, fx]
      refine buiB_makeE (e := 34) (m := n + 1 - i) (L := n + 1) (kn := .i64) (zs := zs) ho (by rw [hP]; kernel_rfl) (by rw [hP]; kernel_rfl) (by rw [hP]; kernel_rfl) (by omega) rfl (by rw [hP]; exact hz) (by omega) hm (by omega) (by omega) hroom (by omega) (by rw [hP, hbt]; omega) ?_
      have ho2 : (H ++ [some (⟨34, 5, es.take i ++ List.replicate (n + 1 - i) zs⟩ : AObj)])[id]? = some (some ⟨34, 5, es⟩) := by rw [List.getElem?_append_left lid]; exact ho
      have hl1 : (es.take i ++ List.replicate (n + 1 - i) zs).length = n + 1 := by simp; omega
      have a7 : (i : Int) ≤ (n : Int) + 1 := by omega
      have a8 : ¬ ((i : Int) = (n : Int) + 1) := by omega
      have a9 : i ≤ n + 1 := by omega
      have a10 : ¬ i = n + 1 := by omega
      have hA : (es.take i).length = i := by simp; omega
      have d1 : (es.take i ++ List.replicate (n + 1 - i) zs).drop (i + 1) = List.replicate (n - i) zs := by
        rw [List.drop_append, List.drop_of_length_le (by omega), hA, List.nil_append, List.drop_replicate]
        congr 1
        omega
      simp -dsimp -implicitDefEqProofs [-getElem?_pos, go_sem, hP, ho2, asliceOp, bound, aslice, a7, a8, a9, a10, sx]
      refine buiB_copyE (e := 34) (ty := 34) (k := 5) (lo := i) (dn := n + 1 - i) (m := 1) (es := es.take i ++ List.replicate (n + 1 - i) zs) (news := [e]) (es' := es.take i ++ e :: List.replicate (n - i) zs) (by simp) (.inl rfl) (by rw [hP]; kernel_rfl) (by rw [hP]; kernel_rfl) (by omega) (by rw [hP]; kernel_rfl) ?_ rfl (by omega) (by omega) (by simp; omega) ?_ ?_
      · simp only [srcEs]
        rw [if_pos (by rw [hP]; kernel_rfl)]
      · rw [d1, List.take_append_of_le_length (by omega), List.take_of_length_le (by omega)]
        simp
      have ho3 : (H ++ [some (⟨34, 5, es.take i ++ e :: List.replicate (n - i) zs⟩ : AObj)])[id]? = some (some ⟨34, 5, es⟩) := by rw [List.getElem?_append_left lid]; exact ho
      have a5 : ¬ ((i : Int) + 1 = 0) := by omega
      have a6 : ((n : Int) + 1 - ((i : Int) + 1)).toNat = n - i := by omega
      have a11 : ¬ ((i : Int) + 1 = (n : Int) + 1) := by omega
      simp -dsimp -implicitDefEqProofs [-getElem?_pos, go_sem, hP]
      refine adrawB (fun _ => true) [8] hP (by kernel_rfl) (by kernel_rfl) ?_
      simp -dsimp -implicitDefEqProofs [-getElem?_pos, go_sem, hP, ho3, ← hn, hin, hin', asliceOp, bound, aslice, w1, w2, hi, nN, iN, a1, a3, a4, a5, a6, a7, a8, a11, fx, sx]
      refine buiB_copyE (e := 34) (ty := 34) (k := 5) (lo := i + 1) (dn := n - i) (m := n - i) (es := es.take i ++ e :: List.replicate (n - i) zs) (news := es.drop i) (es' := es.take i ++ e :: es.drop i) (by simp) (.inl rfl) (by rw [hP]; kernel_rfl) (by rw [hP]; kernel_rfl) (by omega) (by rw [hP]; kernel_rfl) ?_ (by simp [← hn]) (by omega) (by omega) (by simp; omega) ?_ ?_
      · simp only [srcEs, ho3]
        rw [if_pos ⟨by rw [hP]; kernel_rfl, by omega⟩, List.take_of_length_le (by simp; omega)]
      · rw [show es.take i ++ e :: List.replicate (n - i) zs = (es.take i ++ [e]) ++ List.replicate (n - i) zs from by simp, List.take_append_of_le_length (by simp; omega), List.take_of_length_le (by simp; omega), List.drop_of_length_le (show ((es.take i ++ [e]) ++ List.replicate (n - i) zs).length ≤ i + 1 + (n - i) by simp; omega)]
        simp
      simp -dsimp -implicitDefEqProofs [-getElem?_pos, go_sem, hP]
      rw [hD, hC]
      exact .inl ⟨H.length, rfl, .inr (Nat.le_refl _), by simp, kept_app _ _ _⟩
    · have dN : decide ((N : Int) < (n : Int) + 1) = false := decide_eq_false (by omega)
      have a2 : (n : Int) + 1 ≤ N := by omega
      have a5 : ¬ ((i : Int) + 1 = 0) := by omega
      have a6 : ((n : Int) + 1 - ((i : Int) + 1)).toNat = n - i := by omega
      have a7 : (i : Int) ≤ (n : Int) + 1 := by omega
      have a8 : ¬ ((i : Int) = (n : Int) + 1) := by omega
      simp -dsimp -implicitDefEqProofs [-getElem?_pos, go_sem, hP, dN, ho, ← hn, hin, hin', asliceOp, bound, aslice, w1, w2, w3, hroom, hi, nN, iN, a1, a2, a3, a4, a5, a6, a7, a8, fx]
      refine callB_overlapsL (t := 25) (e := 34) (tR := 4) (fn := Try.f82) (id' := id) (lo' := i + 1) (dn' := n - i) (by rw [hP]; exact Try.func82) (by kernel_rfl) (by kernel_rfl) (by kernel_rfl) (by kernel_rfl) (by rw [hP]; kernel_rfl) (by rw [hP]; kernel_rfl) he0 (.inr ⟨N, rfl⟩) ho (by omega) ?_
      simp -dsimp -implicitDefEqProofs [-getElem?_pos, go_sem, hP]
      refine adrawB (fun _ => true) [8] hP (by kernel_rfl) (by kernel_rfl) ?_
      simp -dsimp -implicitDefEqProofs [-getElem?_pos, go_sem, hP, dN, ho, ← hn, hin, hin', asliceOp, bound, aslice, w1, w2, w3, hroom, hi, nN, iN, a1, a2, a3, a4, a5, a6, a7, a8, fx]
      refine buiB_copyS (e := 34) (lo := i + 1) (dn := n - i) (news := es.drop i) (es' := es.take (i + 1) ++ es.drop i) ho (.inr ⟨N, rfl⟩) (by rw [hP]; kernel_rfl) (by rw [hP]; kernel_rfl) (by omega) (by rw [hP]; kernel_rfl) ?_ (by simp [← hn]) (by omega) (by omega) (by omega) (by rw [List.drop_of_length_le (show es.length ≤ i + 1 + (n - i) by omega), List.append_nil]) ?_
      · simp only [srcEs, ho]
        rw [if_pos ⟨by rw [hP]; kernel_rfl, by omega⟩, List.take_of_length_le (by simp; omega)]
      simp -dsimp -implicitDefEqProofs [-getElem?_pos, go_sem, hP, lid, ho, asliceOp, bound, aslice, a2, a7, a8, fx]
      refine buiB_copyE (e := 34) (ty := 34) (k := 5) (lo := i) (dn := n + 1 - i) (m := 1) (es := es.take (i + 1) ++ es.drop i) (news := [e]) (es' := es.take i ++ e :: es.drop i) (by simp [lid]) (.inr ⟨N, rfl⟩) (by rw [hP]; kernel_rfl) (by rw [hP]; kernel_rfl) (by omega) (by rw [hP]; kernel_rfl) ?_ rfl (by omega) (by omega) (by simp [← hn]; omega) ?_ ?_
      · simp only [srcEs]
        rw [if_pos (by rw [hP]; kernel_rfl)]
      · rw [List.take_append_of_le_length (by simp; omega), List.take_take, Nat.min_eq_left (by omega), List.drop_append_of_le_length (by simp; omega), List.drop_of_length_le (by simp; omega)]
        simp
      simp -dsimp -implicitDefEqProofs [-getElem?_pos, go_sem, hP, lid]
      rw [hD, hC]
      simp only [List.set_set]
      exact .inr ⟨N, rfl, ⟨34, 5, es.take i ++ e :: es.drop i⟩, by simp [lid], by simp [← hn]; omega, id, rfl, .inl rfl, by simp [lid], kept_set _ (by simp) (kept_refl _ _)⟩

end Go.Proofs.Ytmpncdlhmknkoaa
