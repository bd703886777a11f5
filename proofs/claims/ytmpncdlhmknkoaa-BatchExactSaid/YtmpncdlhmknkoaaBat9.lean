/- Queues: Add, Again. -/
import Derived.Test.YtmpncdlhmknkoaaBat8
set_option linter.unusedSimpArgs false
set_option linter.unusedVariables false
namespace Go.Proofs.Ytmpncdlhmknkoaa
open Go.PA
open Go.RowKit

theorem cw_zeroQ {H : Heap} : CW H [.nil, .nil, .nil] zeroQ.cells := cw_nil (cw_nil (cw_nil .nil))
theorem done_zeroQ {H : Heap} {n : Int} {Q : AV → Prop} {b : Bx Q} (h : Q (.tup [.agg zeroQ.cells, iv n])) : Done H (.tup [.agg [.nil, .nil, .nil], iv n]) Q b := done_agg2 cw_zeroQ h
theorem intRows_ints (l : List Int) : intsL l = .list 1 (intRows l) := rfl
theorem intRows_take (l : List Int) (k : Nat) : (intRows l).take k = intRows (l.take k) := by simp [intRows, List.map_take]
theorem intRows_drop (l : List Int) (k : Nat) : (intRows l).drop k = intRows (l.drop k) := by simp [intRows, List.map_drop]

set_option maxHeartbeats 1000000 in
theorem badd_pf (q : TQueue) (p : TPayment) (hf : FitQ q) : PFun Try.prog none none 12 [.agg q.cells, .agg p.cells] (· = .tup [.agg (addQ q p).1.cells, iv (addQ q p).2]) := by
  refine pfun_intro Try.func12 rfl (by simp [Try.f12]) (by kernel_rfl) ?_
  intro E hP hr hs hW hN
  have ck := bcheck_pf q hf
  have iq := imm_que q
  have ipp := imm_pay p
  have ip := imm_pays q.Waiting
  have i2 := imm_ints q.Known
  have i3 := imm_bats q.Batches
  rw [cQu] at ck iq
  rw [cPy] at ipp
  simp only [intsL] at i2 ck iq
  simp -dsimp -implicitDefEqProofs [-getElem?_pos, go_sem, hP, cQu, cPy, intsL]
  refine callB_is (ck.lift _ _) hP en_10 (by simpa using iq) .sc ?_
  by_cases c1 : checkQ q = 0
  rotate_left
  · have : addQ q p = (zeroQ, checkQ q) := by rw [addQ, if_neg c1]
    simp -dsimp -implicitDefEqProofs [-getElem?_pos, go_sem, hP, c1]
    refine done_zeroQ ?_
    rw [this]
  have hq := checkQ_iff.1 c1
  obtain ⟨k, hk, hm, hi, hin⟩ := ins_placeK (p := p.Warrant) hq.ks
  have bs := bsearch_pf q.Known p.Warrant k (by have := hf.k; omega) hk hm
  simp only [intsL] at bs
  have py := bpay_pf p
  rw [cPy] at py
  simp -dsimp -implicitDefEqProofs [-getElem?_pos, go_sem, hP, c1]
  refine callB_is (bs.lift _ _) hP en_45 (by simpa [imm_sc] using i2) (imm_pair .sc .sc) ?_
  simp -dsimp -implicitDefEqProofs [-getElem?_pos, go_sem, hP]
  refine callB_is (py.lift _ _) hP en_33 (by simpa using ipp) .sc ?_
  cases c2 : payB p
  · have : addQ q p = (zeroQ, 64) := by rw [addQ, if_pos c1, if_neg (by simp [c2])]
    simp -dsimp -implicitDefEqProofs [-getElem?_pos, go_sem, hP, c2]
    refine done_zeroQ ?_
    rw [this]
  by_cases c3 : p.Warrant ∈ q.Known
  · have d3 : decide (q.Known[k]? = some p.Warrant) = true := decide_eq_true (hin.2 c3)
    have : addQ q p = (zeroQ, 65) := by rw [addQ, if_pos c1, if_pos c2, if_pos c3]
    simp -dsimp -implicitDefEqProofs [-getElem?_pos, go_sem, hP, c2, d3, hin.2 c3]
    refine done_zeroQ ?_
    rw [this]
  have d3 : decide (q.Known[k]? = some p.Warrant) = false := decide_eq_false (mt hin.1 c3)
  by_cases c4 : q.Waiting.length = 100
  · have d4 : decide ((q.Waiting.length : Int) = 100) = true := decide_eq_true (by omega)
    have : addQ q p = (zeroQ, 3) := by rw [addQ, if_pos c1, if_pos c2, if_neg c3, if_pos (.inl c4)]
    simp -dsimp -implicitDefEqProofs [-getElem?_pos, go_sem, hP, c2, d3, d4, mt hin.1 c3]
    refine done_zeroQ ?_
    rw [this]
  have d4 : decide ((q.Waiting.length : Int) = 100) = false := decide_eq_false (by omega)
  by_cases c5 : q.Known.length = 200
  · have d5 : decide ((q.Known.length : Int) = 200) = true := decide_eq_true (by omega)
    have : addQ q p = (zeroQ, 3) := by rw [addQ, if_pos c1, if_pos c2, if_neg c3, if_pos (.inr c5)]
    simp -dsimp -implicitDefEqProofs [-getElem?_pos, go_sem, hP, c2, d3, d4, d5, mt hin.1 c3]
    refine done_zeroQ ?_
    rw [this]
  have d5 : decide ((q.Known.length : Int) = 200) = false := decide_eq_false (by omega)
  have hadd : addQ q p = (⟨ins befB q.Waiting p, ins ltB q.Known p.Warrant, q.Batches⟩, 0) := by rw [addQ, if_pos c1, if_pos c2, if_neg c3, if_neg (by omega)]
  rw [hadd]
  simp -dsimp -implicitDefEqProofs [-getElem?_pos, go_sem, hP, c2, d3, d4, d5, mt hin.1 c3]
  obtain ⟨H2, hH2⟩ : ∃ H2 : Heap, H2 = [some ⟨28, 3, [[paysL q.Waiting, .list 1 (q.Known.map fun x => [iv x]), batsL q.Batches]]⟩, some ⟨34, 5, [[iv p.Warrant, iv p.Payee, iv p.Amount, iv p.Due, iv p.Sub]]⟩, some ⟨28, 3, [[.nil, .nil, .nil]]⟩] := ⟨_, rfl⟩
  have b0 : H2[0]? = some (some ⟨28, 3, [[paysL q.Waiting, .list 1 (q.Known.map fun x => [iv x]), batsL q.Batches]]⟩) := by rw [hH2]; rfl
  have b1 : H2[1]? = some (some ⟨34, 5, [[iv p.Warrant, iv p.Payee, iv p.Amount, iv p.Due, iv p.Sub]]⟩) := by rw [hH2]; rfl
  have b2 : H2[2]? = some (some ⟨28, 3, [[.nil, .nil, .nil]]⟩) := by rw [hH2]; rfl
  have l2 : H2.length = 3 := by rw [hH2]; rfl
  simp only [← hH2]
  have D : ∀ i, decide (i < 3) = true → i = 0 ∨ i = 1 ∨ i = 2 := fun i hi => by
    simp only [decide_eq_true_eq] at hi
    omega
  refine adrawB (fun i => decide (i < 3)) [4] hP (by kernel_rfl) (by kernel_rfl) ?_
  simp -dsimp -implicitDefEqProofs [-getElem?_pos, go_sem, hP, b0, l2]
  refine callB_m (by rw [hr, hs]; exact bcopy_m q H2 hf) hP en_47 ?_
  rintro r H3 ⟨j1, j2, x, rfl, hj1, hj2, n12, o1, o2, ⟨B, hB1, hB2, hg⟩, hk3⟩
  have e0 := hk3 _ _ (by simp) b0
  have e1 := hk3 _ _ (by simp) b1
  have e2 := hk3 _ _ (by simp) b2
  have g0 := (List.getElem?_eq_some_iff.1 e0).1
  have g1 := (List.getElem?_eq_some_iff.1 e1).1
  have g2 := (List.getElem?_eq_some_iff.1 e2).1
  have t1 := (List.getElem?_eq_some_iff.1 o1).1
  have t2 := (List.getElem?_eq_some_iff.1 o2).1
  have hc := hg.cellish
  simp -dsimp -implicitDefEqProofs [-getElem?_pos, go_sem, hP, e1, g1]
  refine ⟨agree_live hk3 fun i hi => ⟨by simp, ?_⟩, ?_⟩
  · rcases D i hi with rfl | rfl | rfl
    · exact ⟨_, b0⟩
    · exact ⟨_, b1⟩
    · exact ⟨_, b2⟩
  have wm := fun {row src : Option Nat} => bwait_m (row := row) (src := src) q.Waiting p j1 (.sref j2 0 q.Known.length) x H3 (by have := hq.lw; omega) hq.asc.ord o1 rfl hc
  rw [cPy] at wm
  refine callB_m (by rw [hr, hs]; exact wm) hP en_46 ?_
  rintro r H4 ⟨jd, rfl, hjd, oj, hk4⟩
  have f0 := hk4 _ _ (by simp; omega) e0
  have f1 := hk4 _ _ (by simp; omega) e1
  have f2 := hk4 _ _ (by simp; omega) e2
  have p2 := hk4 _ _ (by simp; omega) o2
  have s0 := (List.getElem?_eq_some_iff.1 f0).1
  have s1 := (List.getElem?_eq_some_iff.1 f1).1
  have s2 := (List.getElem?_eq_some_iff.1 f2).1
  have sj := (List.getElem?_eq_some_iff.1 oj).1
  have sj2 := (List.getElem?_eq_some_iff.1 p2).1
  have hg4 := hg.kept hk4 (by simp; omega)
  refine ⟨fun _ => agree_live hk4 fun i hi => ⟨by simp only [List.mem_singleton]; rcases D i hi with rfl | rfl | rfl <;> omega, ?_⟩, ?_⟩
  · rcases D i hi with rfl | rfl | rfl
    · exact ⟨_, e0⟩
    · exact ⟨_, e1⟩
    · exact ⟨_, e2⟩
  simp -dsimp -implicitDefEqProofs [-getElem?_pos, go_sem, hP, f0, s0, hc, f1, s1]
  generalize hH5 : List.set H4 0 _ = H5
  have l5 : H5.length = H4.length := by rw [← hH5]; simp
  have v0 : H5[0]? = some (some ⟨28, 3, [[.sref jd 0 (q.Waiting.length + 1), .sref j2 0 q.Known.length, x]]⟩) := by rw [← hH5, List.getElem?_set_self s0]
  have v1 : H5[1]? = H4[1]? := by rw [← hH5, List.getElem?_set_ne (by omega)]
  have v2 : H5[2]? = H4[2]? := by rw [← hH5, List.getElem?_set_ne (by omega)]
  have vj : H5[jd]? = H4[jd]? := by rw [← hH5, List.getElem?_set_ne (by omega)]
  have vj2 : H5[j2]? = H4[j2]? := by rw [← hH5, List.getElem?_set_ne (by omega)]
  rw [f1] at v1
  rw [f2] at v2
  rw [oj] at vj
  rw [p2] at vj2
  have k5 : Kept [0] H4 H5 := by rw [← hH5]; exact kept_set _ (by simp) (kept_refl _ _)
  have hg5 := hg4.kept k5 (by simp; omega)
  have insm := fun {row src : Option Nat} => insert_m_int (row := row) (src := src) (intRows q.Known) [iv p.Warrant] k j2 H5 (by rw [intRows_len]; exact hk) (by rw [intRows_len]; have := hf.k; omega) vj2 (by simp)
  rw [intRows_len, intRows_take, intRows_drop] at insm
  refine callB_m (by rw [hr, hs]; exact insm) hP en_48 ?_
  rintro r H6 ⟨jk, rfl, hjk, ok, hk6⟩
  have w0 := hk6 _ _ (by simp; omega) v0
  have w2 := hk6 _ _ (by simp; omega) v2
  have wj := hk6 _ _ (by simp; omega) vj
  have hg6 := hg5.kept hk6 (by simp; omega)
  have x0 := (List.getElem?_eq_some_iff.1 w0).1
  have x2 := (List.getElem?_eq_some_iff.1 w2).1
  simp -dsimp -implicitDefEqProofs [-getElem?_pos, go_sem, hP, w0, w2, x0, x2, hc]
  have ei : intRows (q.Known.take k) ++ [iv p.Warrant] :: intRows (q.Known.drop k) = intRows (ins ltB q.Known p.Warrant) := by rw [hi]; simp [intRows]
  rw [ei] at ok
  refine done_agg2 (cs' := (TQueue.mk (ins befB q.Waiting p) (ins ltB q.Known p.Warrant) q.Batches).cells) ?_ rfl
  refine cw_sref (ty := 34) ?_ (by rw [encL_len, ins_len]) (imm_pays _) (cw_sref (ty := 3) (es := intRows (ins ltB q.Known p.Warrant)) ?_ (by rw [intRows_len, ins_len]) (imm_ints _) (((hg6.kept (X := [0]) (kept_set _ (by simp) (kept_refl _ _)) (by simp; omega)).kept (X := [2]) (kept_set _ (by simp) (kept_refl _ _)) (by simp; omega)).cw (imm_bats _) .nil))
  · rw [List.getElem?_set_ne (by omega), List.getElem?_set_ne (by omega), wj]
  · rw [List.getElem?_set_ne (by omega), List.getElem?_set_ne (by omega), ok]

set_option maxHeartbeats 1000000 in
theorem bagain_pf (q : TQueue) (p : TPayment) (hf : FitQ q) : PFun Try.prog none none 31 [.agg q.cells, .agg p.cells] (· = .tup [.agg (againQ q p).1.cells, iv (againQ q p).2]) := by
  refine pfun_intro Try.func31 rfl (by simp [Try.f31]) (by kernel_rfl) ?_
  intro E hP hr hs hW hN
  have ck := bcheck_pf q hf
  have iq := imm_que q
  have ipp := imm_pay p
  have ip := imm_pays q.Waiting
  have i2 := imm_ints q.Known
  have i3 := imm_bats q.Batches
  have ct := containsInt_pf q.Known p.Warrant (by have := hf.k; omega)
  have wt := bwaits_pf q p.Warrant (by have := hf.w; omega)
  have py := bpay_pf p
  rw [cPy] at py
  rw [cQu] at ck iq wt
  rw [cPy] at ipp
  simp only [intsL] at i2 ck iq ct wt
  simp -dsimp -implicitDefEqProofs [-getElem?_pos, go_sem, hP, cQu, cPy, intsL]
  refine callB_is (ck.lift _ _) hP en_10 (by simpa using iq) .sc ?_
  by_cases c1 : checkQ q = 0
  rotate_left
  · have : againQ q p = (zeroQ, checkQ q) := by rw [againQ, if_neg c1]
    simp -dsimp -implicitDefEqProofs [-getElem?_pos, go_sem, hP, c1]
    refine done_zeroQ ?_
    rw [this]
  have hq := checkQ_iff.1 c1
  simp -dsimp -implicitDefEqProofs [-getElem?_pos, go_sem, hP, c1]
  refine callB_is (py.lift _ _) hP en_33 (by simpa using ipp) .sc ?_
  cases c2 : payB p
  · have : againQ q p = (zeroQ, 64) := by rw [againQ, if_pos c1, if_neg (by simp [c2])]
    simp -dsimp -implicitDefEqProofs [-getElem?_pos, go_sem, hP, c2]
    refine done_zeroQ ?_
    rw [this]
  simp -dsimp -implicitDefEqProofs [-getElem?_pos, go_sem, hP, c2]
  refine callB_is (ct.lift _ _) hP en_54 (by simpa [imm_sc] using i2) .sc ?_
  by_cases c3 : p.Warrant ∈ q.Known
  rotate_left
  · have : againQ q p = (zeroQ, 6) := by rw [againQ, if_pos c1, if_pos c2, if_neg c3]
    simp -dsimp -implicitDefEqProofs [-getElem?_pos, go_sem, hP, c2, c3]
    refine done_zeroQ ?_
    rw [this]
  simp -dsimp -implicitDefEqProofs [-getElem?_pos, go_sem, hP, c2, c3]
  refine callB_is (wt.lift _ _) hP en_56 (by simpa [imm_sc] using iq) .sc ?_
  by_cases c4 : 0 ≤ waitQ q p.Warrant
  · have d4 : decide (0 ≤ waitQ q p.Warrant) = true := decide_eq_true c4
    have : againQ q p = (zeroQ, 65) := by rw [againQ, if_pos c1, if_pos c2, if_pos c3, if_pos c4]
    simp -dsimp -implicitDefEqProofs [-getElem?_pos, go_sem, hP, d4]
    refine done_zeroQ ?_
    rw [this]
  have d4 : decide (0 ≤ waitQ q p.Warrant) = false := decide_eq_false c4
  by_cases c5 : q.Waiting.length = 100
  · have d5 : decide ((q.Waiting.length : Int) = 100) = true := decide_eq_true (by omega)
    have : againQ q p = (zeroQ, 3) := by rw [againQ, if_pos c1, if_pos c2, if_pos c3, if_neg c4, if_pos c5]
    simp -dsimp -implicitDefEqProofs [-getElem?_pos, go_sem, hP, d4, d5]
    refine done_zeroQ ?_
    rw [this]
  have d5 : decide ((q.Waiting.length : Int) = 100) = false := decide_eq_false (by omega)
  have hag : againQ q p = (⟨ins befB q.Waiting p, q.Known, q.Batches⟩, 0) := by rw [againQ, if_pos c1, if_pos c2, if_pos c3, if_neg c4, if_neg c5]
  rw [hag]
  simp -dsimp -implicitDefEqProofs [-getElem?_pos, go_sem, hP, d4, d5]
  obtain ⟨H2, hH2⟩ : ∃ H2 : Heap, H2 = [some ⟨28, 3, [[paysL q.Waiting, .list 1 (q.Known.map fun x => [iv x]), batsL q.Batches]]⟩, some ⟨34, 5, [[iv p.Warrant, iv p.Payee, iv p.Amount, iv p.Due, iv p.Sub]]⟩, some ⟨28, 3, [[.nil, .nil, .nil]]⟩] := ⟨_, rfl⟩
  have b0 : H2[0]? = some (some ⟨28, 3, [[paysL q.Waiting, .list 1 (q.Known.map fun x => [iv x]), batsL q.Batches]]⟩) := by rw [hH2]; rfl
  have b1 : H2[1]? = some (some ⟨34, 5, [[iv p.Warrant, iv p.Payee, iv p.Amount, iv p.Due, iv p.Sub]]⟩) := by rw [hH2]; rfl
  have b2 : H2[2]? = some (some ⟨28, 3, [[.nil, .nil, .nil]]⟩) := by rw [hH2]; rfl
  have l2 : H2.length = 3 := by rw [hH2]; rfl
  simp only [← hH2]
  have D : ∀ i, decide (i < 3) = true → i = 0 ∨ i = 1 ∨ i = 2 := fun i hi => by
    simp only [decide_eq_true_eq] at hi
    omega
  refine adrawB (fun i => decide (i < 3)) [4] hP (by kernel_rfl) (by kernel_rfl) ?_
  simp -dsimp -implicitDefEqProofs [-getElem?_pos, go_sem, hP, b0, l2]
  refine callB_m (by rw [hr, hs]; exact bcopy_m q H2 hf) hP en_47 ?_
  rintro r H3 ⟨j1, j2, x, rfl, hj1, hj2, n12, o1, o2, ⟨B, hB1, hB2, hg⟩, hk3⟩
  have e0 := hk3 _ _ (by simp) b0
  have e1 := hk3 _ _ (by simp) b1
  have e2 := hk3 _ _ (by simp) b2
  have g0 := (List.getElem?_eq_some_iff.1 e0).1
  have g1 := (List.getElem?_eq_some_iff.1 e1).1
  have g2 := (List.getElem?_eq_some_iff.1 e2).1
  have t1 := (List.getElem?_eq_some_iff.1 o1).1
  have t2 := (List.getElem?_eq_some_iff.1 o2).1
  have hc := hg.cellish
  simp -dsimp -implicitDefEqProofs [-getElem?_pos, go_sem, hP, e1, g1]
  refine ⟨agree_live hk3 fun i hi => ⟨by simp, ?_⟩, ?_⟩
  · rcases D i hi with rfl | rfl | rfl
    · exact ⟨_, b0⟩
    · exact ⟨_, b1⟩
    · exact ⟨_, b2⟩
  have wm := fun {row src : Option Nat} => bwait_m (row := row) (src := src) q.Waiting p j1 (.sref j2 0 q.Known.length) x H3 (by have := hq.lw; omega) hq.asc.ord o1 rfl hc
  rw [cPy] at wm
  refine callB_m (by rw [hr, hs]; exact wm) hP en_46 ?_
  rintro r H4 ⟨jd, rfl, hjd, oj, hk4⟩
  have f0 := hk4 _ _ (by simp; omega) e0
  have f1 := hk4 _ _ (by simp; omega) e1
  have f2 := hk4 _ _ (by simp; omega) e2
  have p2 := hk4 _ _ (by simp; omega) o2
  have s2 := (List.getElem?_eq_some_iff.1 f2).1
  have hg4 := hg.kept hk4 (by simp; omega)
  refine ⟨fun _ => agree_live hk4 fun i hi => ⟨by simp only [List.mem_singleton]; rcases D i hi with rfl | rfl | rfl <;> omega, ?_⟩, ?_⟩
  · rcases D i hi with rfl | rfl | rfl
    · exact ⟨_, e0⟩
    · exact ⟨_, e1⟩
    · exact ⟨_, e2⟩
  simp -dsimp -implicitDefEqProofs [-getElem?_pos, go_sem, hP, f2, s2, hc]
  refine done_agg2 (cs' := (TQueue.mk (ins befB q.Waiting p) q.Known q.Batches).cells) ?_ rfl
  refine cw_sref (ty := 34) ?_ (by rw [encL_len, ins_len]) (imm_pays _) (cw_sref (ty := 3) (es := intRows q.Known) ?_ (by rw [intRows_len]) (imm_ints _) ((hg4.kept (X := [2]) (kept_set _ (by simp) (kept_refl _ _)) (by simp; omega)).cw (imm_bats _) .nil))
  · rw [List.getElem?_set_ne (by omega), oj]
  · rw [List.getElem?_set_ne (by omega), p2]
end Go.Proofs.Ytmpncdlhmknkoaa
