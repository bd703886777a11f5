/- Registers: the first security. -/
import Derived.Test.YtkcfmmpcpdlfeaaGreatDoorReg10
set_option linter.unusedSimpArgs false
set_option linter.unusedVariables false
namespace Go.Proofs.YtkcfmmpcpdlfeaaGreatDoor
open Go.PA
open Go.RowKit

set_option maxRecDepth 8000 in
set_option maxHeartbeats 2000000 in
theorem insert_m_sec {row src : Option Nat} (es : List (List AV)) (e : List AV) (i id : Nat) (H : Heap) (hi : i ≤ es.length) (hl : es.length ≤ 100000) (ho : H[id]? = some (some ⟨28, 7, es⟩)) (he0 : e ≠ []) :
    MFun Tryz.prog row src 24 [.sref id 0 es.length, iv i, .list 7 [e]] H (fun r H' => ∃ jd, r = .sref jd 0 (es.length + 1) ∧ (jd = id ∨ H.length ≤ jd) ∧ H'[jd]? = some (some ⟨28, 7, es.take i ++ e :: es.drop i⟩) ∧ Kept [id] H H') := by
  obtain ⟨C, hC⟩ : ∃ C : AV → Heap → Prop, C = fun r H' => ∃ jd, r = .sref jd 0 (es.length + 1) ∧ (jd = id ∨ H.length ≤ jd) ∧ H'[jd]? = some (some ⟨28, 7, es.take i ++ e :: es.drop i⟩) ∧ Kept [id] H H' := ⟨_, rfl⟩
  rw [← hC]
  have ex : ∃ r H', C r H' := by
    rw [hC]
    exact ⟨.sref H.length 0 (es.length + 1), H ++ [some ⟨28, 7, es.take i ++ e :: es.drop i⟩], H.length, rfl, .inr (Nat.le_refl _), by simp, kept_app _ _ _⟩
  have lid := (List.getElem?_eq_some_iff.1 ho).1
  obtain ⟨n, hn⟩ : ∃ n, n = es.length := ⟨_, rfl⟩
  rw [← hn] at hi hl hC ⊢
  by_cases hin : i = n
  · subst hin
    refine mfun_intro Tryz.func24 rfl (by simp [Tryz.f24]) (by kernel_rfl) (ex) ?_
    intro E hP hr hs hN
    by_cases h0 : i = 0
    · subst h0
      simp -dsimp -implicitDefEqProofs [-getElem?_pos, go_sem, hP, ho, ← hn, asliceOp, bound, aslice]
      rw [hC]
      exact ⟨H.length, rfl, .inr (Nat.le_refl _), by simp -dsimp -implicitDefEqProofs [-getElem?_pos, go_sem, List.eq_nil_of_length_eq_zero hn.symm], (kept_set none (by simp) (kept_refl _ _)).trans (kept_app _ _ _)⟩
    · simp -dsimp -implicitDefEqProofs [-getElem?_pos, go_sem, hP, ho, ← hn, h0, asliceOp, bound, aslice]
      refine ⟨by omega, by omega, ?_⟩
      rw [hC]
      exact ⟨H.length, rfl, .inr (Nat.le_refl _), by simp -dsimp -implicitDefEqProofs [-getElem?_pos, go_sem, hn], (kept_set none (by simp) (kept_refl _ _)).trans (kept_app _ _ _)⟩
  · have hlt : i < n := by omega
    have hin' : ¬ (i : Int) = n := by omega
    have w1 := wrap_in ((n : Int) + 1) (by omega)
    have w2 := wrap_in ((i : Int) + 1) (by omega)
    have w3 := wrap_in ((n : Int) + 1 - i) (by omega)
    have hesne : es ≠ [] := by intro e0; simp [e0] at hn; omega
    refine mfun_unfull (C := fun r H' => C r H' ∨ ∃ N, r = .full id 0 (n + 1) N ∧ ∃ o, H'[id]? = some (some o) ∧ n + 1 ≤ o.es.length ∧ C (.sref id 0 (n + 1)) H') ?_ (fun r H' h => ?_)
    rotate_left
    · rcases h with h | ⟨N, h1, o, h2, h3, h4⟩
      · exact .inl h
      · exact .inr ⟨id, n + 1, N, o, h1, h2, h3, h4⟩
    refine mfun_full ho hesne (by dsimp only; omega) fun N hN0 => ?_
    dsimp only at hN0
    obtain ⟨D, hD⟩ : ∃ D : AV → Heap → Prop, D = fun r H' => C r H' ∨ ∃ N, r = .full id 0 (n + 1) N ∧ ∃ o, H'[id]? = some (some o) ∧ n + 1 ≤ o.es.length ∧ C (.sref id 0 (n + 1)) H' := ⟨_, rfl⟩
    rw [← hD]
    have exD : ∃ r H', D r H' := by
      obtain ⟨r, H', h⟩ := ex
      rw [hD]
      exact ⟨r, H', .inl h⟩
    have fx : ∀ (id n N : Nat), (if i = 0 then some (AV.full id 0 n N) else some (AV.full id i (n - i) N)) = some (.full id i (n - i) N) := fun id n N => by
      split
      · subst i; rfl
      · rfl
    have nN : n ≤ N := by omega
    have iN : i ≤ N := by omega
    have a1 : (0 : Int) ≤ (n : Int) + 1 := by omega
    have a3 : (0 : Int) ≤ (i : Int) + 1 := by omega
    have a4 : (i : Int) + 1 ≤ (n : Int) + 1 := by omega
    refine mfun_intro Tryz.func24 rfl (by simp [Tryz.f24]) (by kernel_rfl) (exD) ?_
    intro E hP hr hs hN
    by_cases hroom : N < n + 1
    · have dN : decide ((N : Int) < (n : Int) + 1) = true := decide_eq_true (by omega)
      obtain ⟨zs, hz⟩ := Option.isSome_iff_exists.1 (show (zeros Tryz.prog 28).isSome = true by kernel_rfl)
      have hbt : bytesOf Tryz.prog 28 = 56 := by kernel_rfl
      have hm : (n : Int) + 1 - i = ((n + 1 - i : Nat) : Int) := by omega
      have sx : ∀ (id n : Nat), (if i = 0 then some (AV.sref id 0 n) else some (AV.sref id i (n - i))) = some (.sref id i (n - i)) := fun id n => by
        split
        · subst i; rfl
        · rfl
      simp -dsimp -implicitDefEqProofs [-getElem?_pos, go_sem, hP, dN, ho, ← hn, hin, hin', asliceOp, bound, aslice, w1, w2, w3, hroom, hi, nN, iN, a1, a3, a4, fx]
      refine buiB_makeE (e := 28) (m := n + 1 - i) (L := n + 1) (kn := .i64) (zs := zs) ho (by rw [hP]; kernel_rfl) (by rw [hP]; kernel_rfl) (by rw [hP]; kernel_rfl) (by omega) rfl (by rw [hP]; exact hz) (by omega) hm (by omega) (by omega) hroom (by omega) (by rw [hP, hbt]; omega) ?_
      have ho2 : (H ++ [some (⟨28, 7, es.take i ++ List.replicate (n + 1 - i) zs⟩ : AObj)])[id]? = some (some ⟨28, 7, es⟩) := by rw [List.getElem?_append_left lid]; exact ho
      have hl1 : (es.take i ++ List.replicate (n + 1 - i) zs).length = n + 1 := by simp; omega
      have a7 : (i : Int) ≤ (n : Int) + 1 := by omega
      have a8 : ¬ ((i : Int) = (n : Int) + 1) := by omega
      have a9 : i ≤ n + 1 := by omega
      have a10 : ¬ i = n + 1 := by omega
      have hA : (es.take i).length = i := by simp; omega
      have d1 : (es.take i ++ List.replicate (n + 1 - i) zs).drop (i + 1) = List.replicate (n - i) zs := by
        rw [List.drop_append, List.drop_of_length_le (by omega), hA, List.nil_append, List.drop_replicate]
        congr 1
        omega
      simp -dsimp -implicitDefEqProofs [-getElem?_pos, go_sem, hP, ho2, asliceOp, bound, aslice, a7, a8, a9, a10, sx]
      refine buiB_copyE (e := 28) (ty := 28) (k := 7) (lo := i) (dn := n + 1 - i) (m := 1) (es := es.take i ++ List.replicate (n + 1 - i) zs) (news := [e]) (es' := es.take i ++ e :: List.replicate (n - i) zs) (by simp) (.inl rfl) (by rw [hP]; kernel_rfl) (by rw [hP]; kernel_rfl) (by omega) (by rw [hP]; kernel_rfl) ?_ rfl (by omega) (by omega) (by simp; omega) ?_ ?_
      · simp only [srcEs]
        rw [if_pos (by rw [hP]; kernel_rfl)]
      · rw [d1, List.take_append_of_le_length (by omega), List.take_of_length_le (by omega)]
        simp
      have ho3 : (H ++ [some (⟨28, 7, es.take i ++ e :: List.replicate (n - i) zs⟩ : AObj)])[id]? = some (some ⟨28, 7, es⟩) := by rw [List.getElem?_append_left lid]; exact ho
      have a5 : ¬ ((i : Int) + 1 = 0) := by omega
      have a6 : ((n : Int) + 1 - ((i : Int) + 1)).toNat = n - i := by omega
      have a11 : ¬ ((i : Int) + 1 = (n : Int) + 1) := by omega
      simp -dsimp -implicitDefEqProofs [-getElem?_pos, go_sem, hP]
      refine adrawB (fun _ => true) [8] hP (by kernel_rfl) (by kernel_rfl) ?_
      simp -dsimp -implicitDefEqProofs [-getElem?_pos, go_sem, hP, ho3, ← hn, hin, hin', asliceOp, bound, aslice, w1, w2, hi, nN, iN, a1, a3, a4, a5, a6, a7, a8, a11, fx, sx]
      refine buiB_copyE (e := 28) (ty := 28) (k := 7) (lo := i + 1) (dn := n - i) (m := n - i) (es := es.take i ++ e :: List.replicate (n - i) zs) (news := es.drop i) (es' := es.take i ++ e :: es.drop i) (by simp) (.inl rfl) (by rw [hP]; kernel_rfl) (by rw [hP]; kernel_rfl) (by omega) (by rw [hP]; kernel_rfl) ?_ (by simp [← hn]) (by omega) (by omega) (by simp; omega) ?_ ?_
      · simp only [srcEs, ho3]
        rw [if_pos ⟨by rw [hP]; kernel_rfl, by omega⟩, List.take_of_length_le (by simp; omega)]
      · rw [show es.take i ++ e :: List.replicate (n - i) zs = (es.take i ++ [e]) ++ List.replicate (n - i) zs from by simp, List.take_append_of_le_length (by simp; omega), List.take_of_length_le (by simp; omega), List.drop_of_length_le (show ((es.take i ++ [e]) ++ List.replicate (n - i) zs).length ≤ i + 1 + (n - i) by simp; omega)]
        simp
      simp -dsimp -implicitDefEqProofs [-getElem?_pos, go_sem, hP]
      rw [hD, hC]
      exact .inl ⟨H.length, rfl, .inr (Nat.le_refl _), by simp, kept_app _ _ _⟩
    · have dN : decide ((N : Int) < (n : Int) + 1) = false := decide_eq_false (by omega)
      have a2 : (n : Int) + 1 ≤ N := by omega
      have a5 : ¬ ((i : Int) + 1 = 0) := by omega
      have a6 : ((n : Int) + 1 - ((i : Int) + 1)).toNat = n - i := by omega
      have a7 : (i : Int) ≤ (n : Int) + 1 := by omega
      have a8 : ¬ ((i : Int) = (n : Int) + 1) := by omega
      simp -dsimp -implicitDefEqProofs [-getElem?_pos, go_sem, hP, dN, ho, ← hn, hin, hin', asliceOp, bound, aslice, w1, w2, w3, hroom, hi, nN, iN, a1, a2, a3, a4, a5, a6, a7, a8, fx]
      refine callB_overlapsL (t := 29) (e := 28) (tR := 4) (fn := Tryz.f64) (id' := id) (lo' := i + 1) (dn' := n - i) (by rw [hP]; exact Tryz.func64) (by kernel_rfl) (by kernel_rfl) (by kernel_rfl) (by kernel_rfl) (by rw [hP]; kernel_rfl) (by rw [hP]; kernel_rfl) he0 (.inr ⟨N, rfl⟩) ho (by omega) ?_
      simp -dsimp -implicitDefEqProofs [-getElem?_pos, go_sem, hP]
      refine adrawB (fun _ => true) [8] hP (by kernel_rfl) (by kernel_rfl) ?_
      simp -dsimp -implicitDefEqProofs [-getElem?_pos, go_sem, hP, dN, ho, ← hn, hin, hin', asliceOp, bound, aslice, w1, w2, w3, hroom, hi, nN, iN, a1, a2, a3, a4, a5, a6, a7, a8, fx]
      refine buiB_copyS (e := 28) (lo := i + 1) (dn := n - i) (news := es.drop i) (es' := es.take (i + 1) ++ es.drop i) ho (.inr ⟨N, rfl⟩) (by rw [hP]; kernel_rfl) (by rw [hP]; kernel_rfl) (by omega) (by rw [hP]; kernel_rfl) ?_ (by simp [← hn]) (by omega) (by omega) (by omega) (by rw [List.drop_of_length_le (show es.length ≤ i + 1 + (n - i) by omega), List.append_nil]) ?_
      · simp only [srcEs, ho]
        rw [if_pos ⟨by rw [hP]; kernel_rfl, by omega⟩, List.take_of_length_le (by simp; omega)]
      simp -dsimp -implicitDefEqProofs [-getElem?_pos, go_sem, hP, lid, ho, asliceOp, bound, aslice, a2, a7, a8, fx]
      refine buiB_copyE (e := 28) (ty := 28) (k := 7) (lo := i) (dn := n + 1 - i) (m := 1) (es := es.take (i + 1) ++ es.drop i) (news := [e]) (es' := es.take i ++ e :: es.drop i) (by simp [lid]) (.inr ⟨N, rfl⟩) (by rw [hP]; kernel_rfl) (by rw [hP]; kernel_rfl) (by omega) (by rw [hP]; kernel_rfl) ?_ rfl (by omega) (by omega) (by simp [← hn]; omega) ?_ ?_
      · simp only [srcEs]
        rw [if_pos (by rw [hP]; kernel_rfl)]
      · rw [List.take_append_of_le_length (by simp; omega), List.take_take, Nat.min_eq_left (by omega), List.drop_append_of_le_length (by simp; omega), List.drop_of_length_le (by simp; omega)]
        simp
      simp -dsimp -implicitDefEqProofs [-getElem?_pos, go_sem, hP, lid]
      rw [hD, hC]
      simp only [List.set_set]
      exact .inr ⟨N, rfl, ⟨28, 7, es.take i ++ e :: es.drop i⟩, by simp [lid], by simp [← hn]; omega, id, rfl, .inl rfl, by simp [lid], kept_set _ (by simp) (kept_refl _ _)⟩

def reg0 : TRegister := ⟨[], [], []⟩
theorem reg0_ok : RegOk reg0 0 := ⟨rfl, by simp [reg0], Runs.nil, by simp [reg0]⟩
def reg1 (b : TSecurity) : TRegister := ⟨[b], [], []⟩
theorem gbs0_pf (v : Int) (g : FuncId) : PFun Tryz.prog none none 19 [secsL [], iv v, .fn g []] (· = .tup [iv 0, bv false]) := by
  refine pfun_intro Tryz.func19 rfl (by simp [Tryz.f19]) (by kernel_rfl) ?_
  intro E hP hr hs hW hN
  simp -dsimp -implicitDefEqProofs [-getElem?_pos, go_sem, hP, encL]
  obtain ⟨I, hI⟩ : ∃ I : Nat → St → Prop, I = fun m s => s.t 8 = iv 0 ∧ s.t 9 = iv 0 ∧ s.t 10 = iv 0 := ⟨_, rfl⟩
  refine aloop0 I (0) (by rw [hN]; rfl) ?_ ?_
  · rw [hI]
    exact ⟨by simp -dsimp -implicitDefEqProofs [-getElem?_pos, go_sem], by simp -dsimp -implicitDefEqProofs [-getElem?_pos, go_sem], by simp -dsimp -implicitDefEqProofs [-getElem?_pos, go_sem]⟩
  intro m s hs'
  rw [hI] at hs'
  obtain ⟨t8, t9, t10⟩ := hs'
  simp -dsimp -implicitDefEqProofs [-getElem?_pos, go_sem, hP, t8, t9, t10]
  exact done_imm (imm_pair .sc .sc) rfl
set_option maxHeartbeats 4000000 in
theorem gadd_pf (b : TSecurity) (hb : secB b = true) : PFun Tryz.prog none none 7 [.agg reg0.cells, .agg b.cells] (· = .tup [.agg (reg1 b).cells, iv 0]) := by
  have ck := gcheck_pf reg0 0 reg0_ok
  have sp := gsec_pf b hb
  have ir := imm_reg reg0
  have ib := imm_sec b
  have bs := gbs0_pf b.ID 20
  have c0 : reg0.cells = [.list 7 [], .list 3 [], .list 7 []] := rfl
  rw [c0] at ck ir
  rw [cSec] at sp ib
  have gc := fun (H : Heap) => gcopy_m (row := none) (src := none) reg0 H (by simp [reg0]) (by simp [reg0]) (by simp [reg0])
  rw [c0] at gc
  refine pfun_intro Tryz.func7 rfl (by simp [Tryz.f7]) (by kernel_rfl) ?_
  intro E hP hr hs hW hN
  simp -dsimp -implicitDefEqProofs [-getElem?_pos, go_sem, hP, cSec, c0]
  refine callB_is (ck.lift _ _) hP en_18 (by simpa using ir) .sc ?_
  simp -dsimp -implicitDefEqProofs [-getElem?_pos, go_sem, hP]
  refine callB_is (bs.lift _ _) hP en_19 (by simp -dsimp -implicitDefEqProofs [-getElem?_pos, go_sem, encL]) (imm_pair .sc .sc) ?_
  simp -dsimp -implicitDefEqProofs [-getElem?_pos, go_sem, hP]
  refine callB_pure sp hP en_22 (args_same (by simp -dsimp -implicitDefEqProofs [-getElem?_pos, go_sem])) .sc ?_
  simp -dsimp -implicitDefEqProofs [-getElem?_pos, go_sem, hP]
  refine callB_m (by rw [hr, hs]; exact gc _) hP en_23 ?_
  rintro x H4 ⟨i1, i2, i3, rfl, hrc, q1, q2, q3, kp4⟩
  simp only [List.length_cons, List.length_nil] at q1
  have d0 := kp4 0 _ (by simp) (by rfl)
  have d1 := kp4 1 _ (by simp) (by rfl)
  have d2 := kp4 2 _ (by simp) (by rfl)
  have l0 := (List.getElem?_eq_some_iff.1 d0).1
  have l1 := (List.getElem?_eq_some_iff.1 d1).1
  have l2 := (List.getElem?_eq_some_iff.1 d2).1
  have e1 := hrc.o1
  have e2 := hrc.o2
  have e3 := hrc.o3
  simp -dsimp -implicitDefEqProofs [-getElem?_pos, go_sem, hP, regR, reg0, d0, l0, d1, l1]
  obtain ⟨H5, hH5⟩ : ∃ H5, H5 = H4.set 0 (some ⟨33, 3, [[.sref i1 0 0, .sref i2 0 0, .sref i3 0 0]]⟩) := ⟨_, rfl⟩
  rw [← hH5]
  have nx : ∀ z : Nat, 0 < z → H5[z]? = H4[z]? := fun z hz => by rw [hH5, List.getElem?_set_ne (by omega)]
  have f0 : H5[0]? = some (some ⟨33, 3, [[.sref i1 0 0, .sref i2 0 0, .sref i3 0 0]]⟩) := by rw [hH5]; simp [l0]
  have f2 := (nx 2 (by omega)).trans d2
  have f1 : H5[i1]? = some (some ⟨28, 7, []⟩) := (nx i1 (by omega)).trans e1
  have g2 := (nx i2 (by omega)).trans e2
  have g3 := (nx i3 (by omega)).trans e3
  clear hH5 nx d0 d1 d2 hrc kp4
  have im := insert_m_sec (row := none) (src := none) [] [iv b.ID, iv b.Unit, iv b.Issued, iv b.Maturity, iv b.Rate, iv b.Every, bv b.Indexed] 0 i1 H5 (by simp) (by simp) f1 (by simp)
  refine callB_m (by rw [hr, hs]; exact im) hP en_24 ?_
  rintro x H6 ⟨jd, rfl, hj, h6, k6⟩
  have n0 : ¬ i1 = 0 := by omega
  have w0 := k6 0 _ (by simp; omega) f0
  have w2 := k6 2 _ (by simp; omega) f2
  have u2 := k6 i2 _ (by simp; omega) g2
  have u3 := k6 i3 _ (by simp; omega) g3
  have v0 := (List.getElem?_eq_some_iff.1 w0).1
  have v2 := (List.getElem?_eq_some_iff.1 w2).1
  have y0 := (List.getElem?_eq_some_iff.1 f0).1
  have y2 := (List.getElem?_eq_some_iff.1 f2).1
  have jn : jd ≠ 0 ∧ jd ≠ 2 := by rcases hj with rfl | hj <;> omega
  simp -dsimp -implicitDefEqProofs [-getElem?_pos, go_sem, hP, w0, v0, w2, v2]
  have hy : ∀ (z : Nat) (x y : Option AObj) (w : Option (Option AObj)), z ≠ 0 → z ≠ 2 → H6[z]? = w → ((H6.set 0 x).set 2 y)[z]? = w := fun z x y w h0 h2 h => by rw [List.getElem?_set_ne (fun e => h2 e.symm), List.getElem?_set_ne (fun e => h0 e.symm)]; exact h
  refine done_agg2 (cs' := (reg1 b).cells) ?_ rfl
  exact cw_sref (hy jd _ _ _ jn.1 jn.2 h6) rfl (imm_secs [b]) (cw_sref (hy i2 _ _ _ (by omega) (by omega) u2) (by rw [encL_len]; rfl) (imm_holds []) (cw_sref (hy i3 _ _ _ (by omega) (by omega) u3) (by rw [encL_len]; rfl) (imm_moves []) .nil))
end Go.Proofs.YtkcfmmpcpdlfeaaGreatDoor
