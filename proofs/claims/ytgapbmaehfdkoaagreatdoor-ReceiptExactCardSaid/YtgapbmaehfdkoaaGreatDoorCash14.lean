/- Receipts: where a claim belongs; insertion. -/
import Derived.Test.YtgapbmaehfdkoaaGreatDoorCash13
import Derived.Test.YtgapbmaehfdkoaaGreatDoorPaIns
set_option linter.unusedSimpArgs false
set_option linter.unusedVariables false
namespace Go.Proofs.YtgapbmaehfdkoaaGreatDoor
open Go.PA
open Go.RowKit

theorem add1_pf (x : TClaim) (w : Int) : PFun Tryz.prog none none 63 [.agg x.cells, iv w] (· = iv (cmpI x.ID w)) := by
  refine pfun_intro Tryz.func63 rfl (by simp [Tryz.f63]) (by kernel_rfl) ?_
  intro E hP hr hs hW hN
  simp -dsimp -implicitDefEqProofs [-getElem?_pos, go_sem, hP, cClm]
  refine callB_pure (compare_pf x.ID w) hP en_64 (args_same (by simp -dsimp -implicitDefEqProofs [-getElem?_pos, go_sem])) .sc ?_
  simp -dsimp -implicitDefEqProofs [-getElem?_pos, go_sem, hP]
theorem cmpI_eqC (a b : Int) : decide (cmpI a b = 0) = decide (a = b) := by
  rw [decide_eq_decide]
  simp only [cmpI]
  repeat' split
  all_goals omega
theorem insAt_iff {l : List TClaim} (hp : l.Pairwise fun a b => a.ID < b.ID) {id : Int} {j : Nat} {y : TClaim} (hj : l[j]? = some y) : y.ID < id ↔ j < insAt l id := by
  constructor
  · intro h
    refine Classical.byContradiction fun hn => ?_
    have := insAt_ge hp (id := id) (by omega : insAt l id ≤ j) hj
    omega
  · intro h
    exact insAt_lt l id j y h hj
theorem payAt_ins {l : List TClaim} (hp : l.Pairwise fun a b => a.ID < b.ID) (id : Int) : (payAt l id).isSome = decide ((l[insAt l id]?).map (·.ID) = some id) := by
  cases h : payAt l id with
  | some k =>
    obtain ⟨z, hz, hid⟩ := payAt_some h
    have h1 : ¬ k < insAt l id := fun hh => by have := (insAt_iff hp (id := id) hz).2 hh; omega
    obtain ⟨a, ha⟩ : ∃ a, l[insAt l id]? = some a := ⟨_, List.getElem?_eq_getElem (by have := (List.getElem?_eq_some_iff.1 hz).1; omega)⟩
    have h2 := insAt_at l id a ha
    have h3 : insAt l id = k := by
      refine Classical.byContradiction fun hn => ?_
      have hk := (List.getElem?_eq_some_iff.1 hz)
      have hi := (List.getElem?_eq_some_iff.1 ha)
      have := List.pairwise_iff_getElem.1 hp (insAt l id) k hi.1 hk.1 (by omega)
      rw [hi.2, hk.2] at this
      omega
    rw [h3, hz]
    simp [hid]
  | none =>
    cases ha : l[insAt l id]? with
    | none => simp
    | some a =>
      have := payAt_none h a (List.mem_of_getElem? ha)
      simp [this]
set_option maxHeartbeats 2000000 in
theorem bsfClm_pf (l : List TClaim) (w : Int) (hl : l.length ≤ 1000000) (hp : l.Pairwise fun a b => a.ID < b.ID) : PFun Tryz.prog none none 62 [claimsL l, iv w, .fn 63 []] (· = .tup [iv (insAt l w), bv (payAt l w).isSome]) := by
  refine pfun_intro Tryz.func62 rfl (by simp [Tryz.f62]) (by kernel_rfl) ?_
  intro E hP hr hs hW hN
  have hle := insAt_le l w
  have hpay := payAt_ins hp w
  obtain ⟨q, hq⟩ : ∃ q, q = insAt l w := ⟨_, rfl⟩
  have hiff : ∀ (j : Nat) y, l[j]? = some y → (y.ID < w ↔ j < q) := fun j y h => by rw [hq]; exact insAt_iff hp h
  rw [← hq] at hle hpay ⊢
  rw [hpay]
  simp -dsimp -implicitDefEqProofs [-getElem?_pos, go_sem, hP]
  obtain ⟨I, hI⟩ : ∃ I : Nat → St → Prop, I = fun m s => ∃ i j : Nat, i ≤ q ∧ q ≤ j ∧ j ≤ l.length ∧ m = j - i ∧ s.t 0 = claimsL l ∧ s.t 1 = iv w ∧ s.t 2 = .fn 63 [] ∧ s.t 8 = iv l.length ∧ s.t 9 = iv i ∧ s.t 10 = iv j := ⟨_, rfl⟩
  refine aloop0 I (l.length) (by rw [hN]; rfl) ?_ ?_
  · rw [hI]
    exact ⟨0, l.length, by omega, by omega, by omega, rfl, by simp -dsimp -implicitDefEqProofs [-getElem?_pos, go_sem], by simp -dsimp -implicitDefEqProofs [-getElem?_pos, go_sem], by simp -dsimp -implicitDefEqProofs [-getElem?_pos, go_sem], by simp -dsimp -implicitDefEqProofs [-getElem?_pos, go_sem], by simp -dsimp -implicitDefEqProofs [-getElem?_pos, go_sem], by simp -dsimp -implicitDefEqProofs [-getElem?_pos, go_sem]⟩
  intro m s hs'
  rw [hI] at hs'
  obtain ⟨i, j, hiq, hqj, hjl, hm', t0, t1, t2, t8, t9, t10⟩ := hs'
  simp -dsimp -implicitDefEqProofs [-getElem?_pos, go_sem, hP, t9, t10]
  refine condP (fun h => ?_) (fun h => ?_)
  · have hij : i < j := by simpa using h
    have w1 := wrap_in ((i : Int) + j) (by omega)
    have wu : IntKind.u64.wrap ((i : Int) + j) = (i : Int) + j := by rw [IntKind.wrap_u64]; omega
    obtain ⟨h, hh⟩ : ∃ h, h = (i + j) / 2 := ⟨_, rfl⟩
    have wh : IntKind.i64.wrap (((i : Int) + j) / 2) = (h : Int) := by rw [wrap_in _ (by omega)]; omega
    obtain ⟨a, ha⟩ : ∃ a, l[h]? = some a := ⟨_, List.getElem?_eq_getElem (by omega)⟩
    have w2 := wrap_in ((h : Int) + 1) (by omega)
    have ia := imm_agg.2 (TClaim.imm a)
    have cm := add1_pf a w
    rw [cClm] at cm ia
    have cl := cmpI_ltC a.ID w
    have hf := hiff h a ha
    simp -dsimp -implicitDefEqProofs [-getElem?_pos, go_sem, hP, t9, t10, w1, wu, aconv, aint_shr, wh, t0, t1, t2, ha, cClm]
    refine callB_is (cm.lift _ _) hP en_63 (by simpa [imm_sc] using ia) .sc ?_
    by_cases c : a.ID < w
    · have c1 : decide (cmpI a.ID w < 0) = true := by rw [cl]; exact decide_eq_true c
      simp -dsimp -implicitDefEqProofs [-getElem?_pos, go_sem, hP, c1, w2]
      refine ⟨j - (h + 1), by omega, ?_⟩
      rw [hI]
      exact ⟨h + 1, j, by have := hf.1 c; omega, hqj, by omega, rfl, by simp -dsimp -implicitDefEqProofs [-getElem?_pos, go_sem, t0], by simp -dsimp -implicitDefEqProofs [-getElem?_pos, go_sem, t1], by simp -dsimp -implicitDefEqProofs [-getElem?_pos, go_sem, t2], by simp -dsimp -implicitDefEqProofs [-getElem?_pos, go_sem, t8], by simp -dsimp -implicitDefEqProofs [-getElem?_pos, go_sem], by simp -dsimp -implicitDefEqProofs [-getElem?_pos, go_sem, t10]⟩
    · have c1 : decide (cmpI a.ID w < 0) = false := by rw [cl]; exact decide_eq_false c
      simp -dsimp -implicitDefEqProofs [-getElem?_pos, go_sem, hP, c1]
      refine ⟨h - i, by omega, ?_⟩
      rw [hI]
      exact ⟨i, h, hiq, by have := mt hf.2 c; omega, by omega, rfl, by simp -dsimp -implicitDefEqProofs [-getElem?_pos, go_sem, t0], by simp -dsimp -implicitDefEqProofs [-getElem?_pos, go_sem, t1], by simp -dsimp -implicitDefEqProofs [-getElem?_pos, go_sem, t2], by simp -dsimp -implicitDefEqProofs [-getElem?_pos, go_sem, t8], by simp -dsimp -implicitDefEqProofs [-getElem?_pos, go_sem, t9], by simp -dsimp -implicitDefEqProofs [-getElem?_pos, go_sem]⟩
  · have hik : i = q := by
      have : ¬ i < j := by simpa using h
      omega
    subst hik
    by_cases c : i < l.length
    · obtain ⟨a, ha⟩ : ∃ a, l[i]? = some a := ⟨_, List.getElem?_eq_getElem c⟩
      have d : decide ((i : Int) < (l.length : Int)) = true := decide_eq_true (by omega)
      have ia := imm_agg.2 (TClaim.imm a)
      have cm := add1_pf a w
      rw [cClm] at cm ia
      have e : decide (Option.map (fun x : TClaim => x.ID) (some a) = some w) = decide (cmpI a.ID w = 0) := by rw [cmpI_eqC, decide_eq_decide]; simp
      rw [ha, e]
      simp -dsimp -implicitDefEqProofs [-getElem?_pos, go_sem, hP, t9, t8, c, d, t0, t1, t2, ha, cClm]
      refine callB_is (cm.lift _ _) hP en_63 (by simpa [imm_sc] using ia) .sc ?_
      simp -dsimp -implicitDefEqProofs [-getElem?_pos, go_sem, hP, t9, t8, c, d, t0, t2, ha]
      exact done_imm (imm_pair .sc .sc) rfl
    · have d : decide ((i : Int) < (l.length : Int)) = false := decide_eq_false (by omega)
      rw [List.getElem?_eq_none (by omega)]
      simp -dsimp -implicitDefEqProofs [-getElem?_pos, go_sem, hP, t9, t8, c, d]
      exact done_imm (imm_pair .sc .sc) (by simp)
set_option maxRecDepth 8000 in
set_option maxHeartbeats 2000000 in
theorem insert_m_clm {row src : Option Nat} (es : List (List AV)) (e : List AV) (i id : Nat) (H : Heap) (hi : i ≤ es.length) (hl : es.length ≤ 100000) (ho : H[id]? = some (some ⟨38, 6, es⟩)) (he0 : e ≠ []) :
    MFun Tryz.prog row src 65 [.sref id 0 es.length, iv i, .list 6 [e]] H (fun r H' => ∃ jd, r = .sref jd 0 (es.length + 1) ∧ (jd = id ∨ H.length ≤ jd) ∧ H'[jd]? = some (some ⟨38, 6, es.take i ++ e :: es.drop i⟩) ∧ Kept [id] H H') := by
  obtain ⟨C, hC⟩ : ∃ C : AV → Heap → Prop, C = fun r H' => ∃ jd, r = .sref jd 0 (es.length + 1) ∧ (jd = id ∨ H.length ≤ jd) ∧ H'[jd]? = some (some ⟨38, 6, es.take i ++ e :: es.drop i⟩) ∧ Kept [id] H H' := ⟨_, rfl⟩
  rw [← hC]
  have ex : ∃ r H', C r H' := by
    rw [hC]
    exact ⟨.sref H.length 0 (es.length + 1), H ++ [some ⟨38, 6, es.take i ++ e :: es.drop i⟩], H.length, rfl, .inr (Nat.le_refl _), by simp, kept_app _ _ _⟩
  have lid := (List.getElem?_eq_some_iff.1 ho).1
  obtain ⟨n, hn⟩ : ∃ n, n = es.length := ⟨_, rfl⟩
  rw [← hn] at hi hl hC ⊢
  by_cases hin : i = n
  · subst hin
    refine mfun_intro Tryz.func65 rfl (by simp [Tryz.f65]) (by kernel_rfl) (ex) ?_
    intro E hP hr hs hN
    by_cases h0 : i = 0
    · subst h0
      simp -dsimp -implicitDefEqProofs [-getElem?_pos, go_sem, hP, ho, ← hn, asliceOp, bound, aslice]
      rw [hC]
      exact ⟨H.length, rfl, .inr (Nat.le_refl _), by simp -dsimp -implicitDefEqProofs [-getElem?_pos, go_sem, List.eq_nil_of_length_eq_zero hn.symm], (kept_set none (by simp) (kept_refl _ _)).trans (kept_app _ _ _)⟩
    · simp -dsimp -implicitDefEqProofs [-getElem?_pos, go_sem, hP, ho, ← hn, h0, asliceOp, bound, aslice]
      refine ⟨by omega, by omega, ?_⟩
      rw [hC]
      exact ⟨H.length, rfl, .inr (Nat.le_refl _), by simp -dsimp -implicitDefEqProofs [-getElem?_pos, go_sem, hn], (kept_set none (by simp) (kept_refl _ _)).trans (kept_app _ _ _)⟩
  · have hlt : i < n := by omega
    have hin' : ¬ (i : Int) = n := by omega
    have w1 := wrap_in ((n : Int) + 1) (by omega)
    have w2 := wrap_in ((i : Int) + 1) (by omega)
    have w3 := wrap_in ((n : Int) + 1 - i) (by omega)
    have hesne : es ≠ [] := by intro e0; simp [e0] at hn; omega
    refine mfun_unfull (C := fun r H' => C r H' ∨ ∃ N, r = .full id 0 (n + 1) N ∧ ∃ o, H'[id]? = some (some o) ∧ n + 1 ≤ o.es.length ∧ C (.sref id 0 (n + 1)) H') ?_ (fun r H' h => ?_)
    rotate_left
    · rcases h with h | ⟨N, h1, o, h2, h3, h4⟩
      · exact .inl h
      · exact .inr ⟨id, n + 1, N, o, h1, h2, h3, h4⟩
    refine mfun_full ho hesne (by dsimp only; omega) fun N hN0 => ?_
    dsimp only at hN0
    obtain ⟨D, hD⟩ : ∃ D : AV → Heap → Prop, D = fun r H' => C r H' ∨ ∃ N, r = .full id 0 (n + 1) N ∧ ∃ o, H'[id]? = some (some o) ∧ n + 1 ≤ o.es.length ∧ C (.sref id 0 (n + 1)) H' := ⟨_, rfl⟩
    rw [← hD]
    have exD : ∃ r H', D r H' := by
      obtain ⟨r, H', h⟩ := ex
      rw [hD]
      exact ⟨r, H', .inl h⟩
    have fx : ∀ (id n N : Nat), (if i = 0 then some (AV.full id 0 n N) else some (AV.full id i (n - i) N)) = some (.full id i (n - i) N) := fun id n N => by
      split
      · subst i; rfl
      · rfl
    have nN : n ≤ N := by omega
    have iN : i ≤ N := by omega
    have a1 : (0 : Int) ≤ (n : Int) + 1 := by omega
    have a3 : (0 : Int) ≤ (i : Int) + 1 := by omega
    have a4 : (i : Int) + 1 ≤ (n : Int) + 1 := by omega
    refine mfun_intro Tryz.func65 rfl (by simp [Tryz.f65]) (by kernel_rfl) (exD) ?_
    intro E hP hr hs hN
    by_cases hroom : N < n + 1
    · have dN : decide ((N : Int) < (n : Int) + 1) = true := decide_eq_true (by omega)
      obtain ⟨zs, hz⟩ := Option.isSome_iff_exists.1 (show (zeros Tryz.prog 38).isSome = true by kernel_rfl)
      have hbt : bytesOf Tryz.prog 38 = 56 := by kernel_rfl
      have hm : (n : Int) + 1 - i = ((n + 1 - i : Nat) : Int) := by omega
      have sx : ∀ (id n : Nat), (if i = 0 then some (AV.sref id 0 n) else some (AV.sref id i (n - i))) = some (.sref id i (n - i)) := fun id n => by
        split
        · subst i; rfl
        · rfl
      simp -dsimp -implicitDefEqProofs [-getElem?_pos, go_sem, hP, dN, ho, ← hn, hin, hin', asliceOp, bound, aslice, w1, w2, w3, hroom, hi, nN, iN, a1, a3, a4, fx]
      refine buiB_makeE (e := 38) (m := n + 1 - i) (L := n + 1) (kn := .i64) (zs := zs) ho (by rw [hP]; kernel_rfl) (by rw [hP]; kernel_rfl) (by rw [hP]; kernel_rfl) (by omega) rfl (by rw [hP]; exact hz) (by omega) hm (by omega) (by omega) hroom (by omega) (by rw [hP, hbt]; omega) ?_
      have ho2 : (H ++ [some (⟨38, 6, es.take i ++ List.replicate (n + 1 - i) zs⟩ : AObj)])[id]? = some (some ⟨38, 6, es⟩) := by rw [List.getElem?_append_left lid]; exact ho
      have hl1 : (es.take i ++ List.replicate (n + 1 - i) zs).length = n + 1 := by simp; omega
      have a7 : (i : Int) ≤ (n : Int) + 1 := by omega
      have a8 : ¬ ((i : Int) = (n : Int) + 1) := by omega
      have a9 : i ≤ n + 1 := by omega
      have a10 : ¬ i = n + 1 := by omega
      have hA : (es.take i).length = i := by simp; omega
      have d1 : (es.take i ++ List.replicate (n + 1 - i) zs).drop (i + 1) = List.replicate (n - i) zs := by
        rw [List.drop_append, List.drop_of_length_le (by omega), hA, List.nil_append, List.drop_replicate]
        congr 1
        omega
      simp -dsimp -implicitDefEqProofs [-getElem?_pos, go_sem, hP, ho2, asliceOp, bound, aslice, a7, a8, a9, a10, sx]
      refine buiB_copyE (e := 38) (ty := 38) (k := 6) (lo := i) (dn := n + 1 - i) (m := 1) (es := es.take i ++ List.replicate (n + 1 - i) zs) (news := [e]) (es' := es.take i ++ e :: List.replicate (n - i) zs) (by simp) (.inl rfl) (by rw [hP]; kernel_rfl) (by rw [hP]; kernel_rfl) (by omega) (by rw [hP]; kernel_rfl) ?_ rfl (by omega) (by omega) (by simp; omega) ?_ ?_
      · simp only [srcEs]
        rw [if_pos (by rw [hP]; kernel_rfl)]
      · rw [d1, List.take_append_of_le_length (by omega), List.take_of_length_le (by omega)]
        simp
      have ho3 : (H ++ [some (⟨38, 6, es.take i ++ e :: List.replicate (n - i) zs⟩ : AObj)])[id]? = some (some ⟨38, 6, es⟩) := by rw [List.getElem?_append_left lid]; exact ho
      have a5 : ¬ ((i : Int) + 1 = 0) := by omega
      have a6 : ((n : Int) + 1 - ((i : Int) + 1)).toNat = n - i := by omega
      have a11 : ¬ ((i : Int) + 1 = (n : Int) + 1) := by omega
      simp -dsimp -implicitDefEqProofs [-getElem?_pos, go_sem, hP]
      refine adrawB (fun _ => true) [8] hP (by kernel_rfl) (by kernel_rfl) ?_
      simp -dsimp -implicitDefEqProofs [-getElem?_pos, go_sem, hP, ho3, ← hn, hin, hin', asliceOp, bound, aslice, w1, w2, hi, nN, iN, a1, a3, a4, a5, a6, a7, a8, a11, fx, sx]
      refine buiB_copyE (e := 38) (ty := 38) (k := 6) (lo := i + 1) (dn := n - i) (m := n - i) (es := es.take i ++ e :: List.replicate (n - i) zs) (news := es.drop i) (es' := es.take i ++ e :: es.drop i) (by simp) (.inl rfl) (by rw [hP]; kernel_rfl) (by rw [hP]; kernel_rfl) (by omega) (by rw [hP]; kernel_rfl) ?_ (by simp [← hn]) (by omega) (by omega) (by simp; omega) ?_ ?_
      · simp only [srcEs, ho3]
        rw [if_pos ⟨by rw [hP]; kernel_rfl, by omega⟩, List.take_of_length_le (by simp; omega)]
      · rw [show es.take i ++ e :: List.replicate (n - i) zs = (es.take i ++ [e]) ++ List.replicate (n - i) zs from by simp, List.take_append_of_le_length (by simp; omega), List.take_of_length_le (by simp; omega), List.drop_of_length_le (show ((es.take i ++ [e]) ++ List.replicate (n - i) zs).length ≤ i + 1 + (n - i) by simp; omega)]
        simp
      simp -dsimp -implicitDefEqProofs [-getElem?_pos, go_sem, hP]
      rw [hD, hC]
      exact .inl ⟨H.length, rfl, .inr (Nat.le_refl _), by simp, kept_app _ _ _⟩
    · have dN : decide ((N : Int) < (n : Int) + 1) = false := decide_eq_false (by omega)
      have a2 : (n : Int) + 1 ≤ N := by omega
      have a5 : ¬ ((i : Int) + 1 = 0) := by omega
      have a6 : ((n : Int) + 1 - ((i : Int) + 1)).toNat = n - i := by omega
      have a7 : (i : Int) ≤ (n : Int) + 1 := by omega
      have a8 : ¬ ((i : Int) = (n : Int) + 1) := by omega
      simp -dsimp -implicitDefEqProofs [-getElem?_pos, go_sem, hP, dN, ho, ← hn, hin, hin', asliceOp, bound, aslice, w1, w2, w3, hroom, hi, nN, iN, a1, a2, a3, a4, a5, a6, a7, a8, fx]
      refine callB_overlapsL (t := 25) (e := 38) (tR := 4) (fn := Tryz.f84) (id' := id) (lo' := i + 1) (dn' := n - i) (by rw [hP]; exact Tryz.func84) (by kernel_rfl) (by kernel_rfl) (by kernel_rfl) (by kernel_rfl) (by rw [hP]; kernel_rfl) (by rw [hP]; kernel_rfl) he0 (.inr ⟨N, rfl⟩) ho (by omega) ?_
      simp -dsimp -implicitDefEqProofs [-getElem?_pos, go_sem, hP]
      refine adrawB (fun _ => true) [8] hP (by kernel_rfl) (by kernel_rfl) ?_
      simp -dsimp -implicitDefEqProofs [-getElem?_pos, go_sem, hP, dN, ho, ← hn, hin, hin', asliceOp, bound, aslice, w1, w2, w3, hroom, hi, nN, iN, a1, a2, a3, a4, a5, a6, a7, a8, fx]
      refine buiB_copyS (e := 38) (lo := i + 1) (dn := n - i) (news := es.drop i) (es' := es.take (i + 1) ++ es.drop i) ho (.inr ⟨N, rfl⟩) (by rw [hP]; kernel_rfl) (by rw [hP]; kernel_rfl) (by omega) (by rw [hP]; kernel_rfl) ?_ (by simp [← hn]) (by omega) (by omega) (by omega) (by rw [List.drop_of_length_le (show es.length ≤ i + 1 + (n - i) by omega), List.append_nil]) ?_
      · simp only [srcEs, ho]
        rw [if_pos ⟨by rw [hP]; kernel_rfl, by omega⟩, List.take_of_length_le (by simp; omega)]
      simp -dsimp -implicitDefEqProofs [-getElem?_pos, go_sem, hP, lid, ho, asliceOp, bound, aslice, a2, a7, a8, fx]
      refine buiB_copyE (e := 38) (ty := 38) (k := 6) (lo := i) (dn := n + 1 - i) (m := 1) (es := es.take (i + 1) ++ es.drop i) (news := [e]) (es' := es.take i ++ e :: es.drop i) (by simp [lid]) (.inr ⟨N, rfl⟩) (by rw [hP]; kernel_rfl) (by rw [hP]; kernel_rfl) (by omega) (by rw [hP]; kernel_rfl) ?_ rfl (by omega) (by omega) (by simp [← hn]; omega) ?_ ?_
      · simp only [srcEs]
        rw [if_pos (by rw [hP]; kernel_rfl)]
      · rw [List.take_append_of_le_length (by simp; omega), List.take_take, Nat.min_eq_left (by omega), List.drop_append_of_le_length (by simp; omega), List.drop_of_length_le (by simp; omega)]
        simp
      simp -dsimp -implicitDefEqProofs [-getElem?_pos, go_sem, hP, lid]
      rw [hD, hC]
      simp only [List.set_set]
      exact .inr ⟨N, rfl, ⟨38, 6, es.take i ++ e :: es.drop i⟩, by simp [lid], by simp [← hn]; omega, id, rfl, .inl rfl, by simp [lid], kept_set _ (by simp) (kept_refl _ _)⟩

/-- A claim in its place. -/
theorem withC_rows (c : TCash) (x : TClaim) : (encL TClaim.cells c.Claims).take (insAt c.Claims x.ID) ++ [iv x.ID, iv x.Payer, iv x.Amount, iv x.Open, iv x.Day, .sc (.string x.Code)] :: (encL TClaim.cells c.Claims).drop (insAt c.Claims x.ID) = encL TClaim.cells (withC c x).Claims := by
  rw [encL_takeE, encL_dropE]
  unfold withC encL
  simp [cClm]
theorem withC_len (c : TCash) (x : TClaim) : (withC c x).Claims.length = c.Claims.length + 1 := by
  have := insAt_le c.Claims x.ID
  unfold withC
  simp only [List.length_append, List.length_cons, List.length_take, List.length_drop]
  omega
/-- What comes of the cash while a claim is added. -/
structure GoodA (c : TCash) (x : TClaim) (d : TCash) : Prop where
  fall : Fall (withC c x) d
  pot : pot d ≤ 400
theorem GoodA.start {c : TCash} {x : TClaim} (h : cashE c = 0) : GoodA c x (withC c x) := by
  have ok := cashE_ok.1 h
  refine ⟨.refl _, ?_⟩
  have h1 := List.countP_le_length (p := fun z : TClaim => decide (0 < z.Open)) (l := (withC c x).Claims)
  have h2 := List.countP_le_length (p := fun z : Int => decide (0 < z)) (l := (withC c x).Loose)
  have h3 := ok.2.len
  rw [withC_len] at h1
  have e1 : (withC c x).Loose = c.Loose := rfl
  have e2 : (withC c x).Matches = c.Matches := rfl
  unfold Go.Proofs.YtgapbmaehfdkoaaGreatDoor.pot
  rw [e1] at h2 ⊢
  rw [e2]
  omega
theorem GoodA.meet {c : TCash} {x : TClaim} {d : TCash} (g : GoodA c x d) (h : cashE c = 0) (hx : 0 ≤ x.Open) (i k : Nat) : GoodA c x (meet d i k) := by
  have pd := g.fall.pos (withC_pos (cashE_ok.1 h).2.pos hx)
  have := meet_pot d i k pd
  exact ⟨g.fall.trans (meet_fall d _ k pd.1 pd.2), by have := g.pot; omega⟩
theorem GoodA.lo {c : TCash} {x : TClaim} {d : TCash} (g : GoodA c x d) (h : cashE c = 0) {i : Nat} (hi : i < c.Incomes.length) : ∃ lo, d.Loose[i]? = some lo ∧ 0 ≤ lo ∧ lo ≤ 1000000000000 := by
  have ok := (cashE_ok.1 h).2
  have hl := ok.len
  have e0 : (withC c x).Loose[i]? = some c.Loose[i] := List.getElem?_eq_getElem (by omega : i < c.Loose.length)
  obtain ⟨n, h1, h2, h3⟩ := g.fall.lo i _ e0
  have ub := ok.used i _ _ (List.getElem?_eq_getElem hi) (List.getElem?_eq_getElem (by omega : i < c.Loose.length))
  have un := usedS_nonneg c.Matches c.Incomes[i].Number fun z hz => (ok.mates z hz).1
  have yb := (incB_amount (ok.incs.1 _ (List.getElem_mem hi))).2
  exact ⟨n, h3, h2 ub.1, by omega⟩
theorem GoodA.cl {c : TCash} {x : TClaim} {d : TCash} (g : GoodA c x d) (h : cashE c = 0) (hx : payB x = true) {k : Nat} {z : TClaim} (hz : d.Claims[k]? = some z) : 0 ≤ z.Open ∧ z.Open ≤ 1000000000000 := by
  obtain ⟨y, hy, h1, h2, _⟩ := g.fall.back hz
  have : payB y = true := by
    rcases withC_mem.1 (List.mem_of_getElem? hy) with rfl | hm
    · exact hx
    · exact (cashE_ok.1 h).2.pays.1 y hm
  have := payB_iff.1 this
  omega
theorem GoodA.len {c : TCash} {x : TClaim} {d : TCash} (g : GoodA c x d) : d.Matches.length ≤ 400 := by
  have := g.pot
  unfold Go.Proofs.YtgapbmaehfdkoaaGreatDoor.pot at this
  omega
theorem GoodA.at {c : TCash} {x : TClaim} {d : TCash} (g : GoodA c x d) : ∃ z, d.Claims[insAt c.Claims x.ID]? = some z := by
  obtain ⟨n, _, _, h⟩ := g.fall.cl _ _ (withC_at c x)
  exact ⟨_, h⟩
theorem ofP_snoc {c : TCash} {p : Int} {n : Nat} {y : TIncome} (hy : c.Incomes[n]? = some y) : ofP c p (n + 1) = if y.Payer = p then ofP c p n ++ [n] else ofP c p n := by
  unfold ofP
  rw [List.range_succ, List.filter_append, List.filter_cons, List.filter_nil, hy]
  by_cases h : y.Payer = p <;> simp [h]
theorem meetI_snoc (d : TCash) (is : List Nat) (i k : Nat) : meetI d (is ++ [i]) k = meet (meetI d is k) i k := by simp [meetI]
theorem GoodA.meetI {c : TCash} {x : TClaim} (h : cashE c = 0) (hx : 0 ≤ x.Open) (is : List Nat) (k : Nat) : GoodA c x (meetI (withC c x) is k) :=
  meetI_ind (GoodA c x) k is (withC c x) (.start h) fun e i he _ => he.meet h hx i k
end Go.Proofs.YtgapbmaehfdkoaaGreatDoor
