/- Queues: Ready, Drop, Sum. -/
import Derived.Test.YtmpncdlhmknkoaaBat9
import Derived.Test.YtmpncdlhmknkoaaPaFrz
set_option linter.unusedSimpArgs false
set_option linter.unusedVariables false
namespace Go.Proofs.Ytmpncdlhmknkoaa
open Go.PA
open Go.RowKit

theorem cw_srefT {H : Heap} {id n : Nat} {ty : TypeId} {k : Nat} {es tl : List (List AV)} {xs xs' : List AV} (hH : H[id]? = some (some ⟨ty, k, es ++ tl⟩)) (hn : n = es.length) (hi : Imm (.list k es)) (t : CW H xs xs') : CW H (.sref id 0 n :: xs) (.list k es :: xs') := by
  have hv : view1 H (.sref id 0 n) = .list k es := by rw [view1_sref, hH, viewS_some]; simp [hn]
  exact .cons (by rw [hv]; exact .refl _) (by rw [hv]; exact hi) hi t
theorem done_srefT {H : Heap} {id n : Nat} {ty : TypeId} {k : Nat} {es tl : List (List AV)} {Q : AV → Prop} {b : Bx Q} (hH : H[id]? = some (some ⟨ty, k, es ++ tl⟩)) (hn : n = es.length) (hi : Imm (.list k es)) (hq : Q (.list k es)) : Done H (.sref id 0 n) Q b := by
  have hv : view H (.sref id 0 n) = .list k es := by rw [view_sref, hH, viewS_some]; simp [hn]
  exact done_weak (by rw [hv]; exact hi) hi (by rw [hv]; exact .refl _) hq

theorem ready1_pf (p : TPayment) (day : Int) : PFun Try.prog none none 51 [.agg p.cells, .iref [iv day]] (· = bv (decide (day < p.Due))) := by
  refine pfun_intro Try.func51 rfl (by simp [Try.f51]) (by kernel_rfl) ?_
  intro E hP hr hs hW hN
  simp -dsimp -implicitDefEqProofs [-getElem?_pos, go_sem, hP, cPy]

set_option maxHeartbeats 1000000 in
theorem bready_pf (q : TQueue) (day : Int) (hf : FitQ q) : PFun Try.prog none none 17 [.agg q.cells, iv day] (· = paysL (readyQ q day)) := by
  refine pfun_introA Try.func17 rfl (by simp [Try.f17]) ?_
  intro E hP hr hs hW hN
  have ck := bcheck_pf q hf
  have iq := imm_que q
  have ip := imm_pays q.Waiting
  have i2 := imm_ints q.Known
  have i3 := imm_bats q.Batches
  rw [cQu] at ck iq
  simp only [intsL] at i2 ck iq
  refine awp_cut (by rw [hN]; kernel_rfl) ?_
  simp -dsimp -implicitDefEqProofs [-getElem?_pos, go_sem, hP, cQu, intsL]
  refine AWp.weaken (weaker_iref 3 (id := 1) (cs := [iv day]) hW (by simp -dsimp -implicitDefEqProofs [-getElem?_pos, go_sem]) (by simp -dsimp -implicitDefEqProofs [-getElem?_pos, go_sem]) (by simp [imm_sc])) ?_
  refine awp_sound _ _ _ (by rw [hN]; kernel_rfl) ?_
  simp -dsimp -implicitDefEqProofs [-getElem?_pos, go_sem, hP]
  refine callB_is (ck.lift _ _) hP en_10 (by simpa using iq) .sc ?_
  by_cases c1 : checkQ q = 0
  rotate_left
  · have : readyQ q day = [] := by rw [readyQ, if_neg c1]
    simp -dsimp -implicitDefEqProofs [-getElem?_pos, go_sem, hP, c1]
    exact done_weak .nil (imm_list.2 (by simp)) (.nil 5) (by rw [this]; rfl)
  have hrd : readyQ q day = q.Waiting.filter (fun p => decide (p.Due ≤ day)) := by rw [readyQ, if_pos c1]
  rw [hrd]
  simp -dsimp -implicitDefEqProofs [-getElem?_pos, go_sem, hP, c1]
  obtain ⟨H2, hH2⟩ : ∃ H2 : Heap, H2 = [some ⟨28, 3, [[paysL q.Waiting, .list 1 (q.Known.map fun x => [iv x]), batsL q.Batches]]⟩, none] := ⟨_, rfl⟩
  simp only [← hH2]
  refine callB_m (by rw [hr, hs]; exact clone_m_pay q.Waiting H2 (by have := hf.w; omega)) hP en_50 ?_
  rintro r H3 ⟨id, rfl, hid, ho, hk⟩
  simp -dsimp -implicitDefEqProofs [-getElem?_pos, go_sem, hP, viewR_iref]
  refine callB_m (by rw [hr, hs]; exact deleteFunc_m_pay q.Waiting id H3 51 [.iref [iv day]] [.iref [iv day]] (fun p => decide (day < p.Due)) (by have := hf.w; omega) ho en_51 (by simp [imm_iref, imm_sc]) (fun H' _ => ⟨args_imm (by simp [imm_iref, imm_sc]) (args_nil.2 trivial), by simp [viewR_iref]⟩) (fun p _ => ready1_pf p day)) hP en_49 ?_
  rintro r H4 ⟨tl, rfl, ho4, hk4⟩
  have ef : (q.Waiting.filter fun a => !decide (day < a.Due)) = q.Waiting.filter fun p => decide (p.Due ≤ day) := by
    refine List.filter_congr fun p _ => ?_
    by_cases h : day < p.Due
    · simp [h, show ¬ p.Due ≤ day by omega]
    · simp [h, show p.Due ≤ day by omega]
  rw [ef] at ho4
  simp -dsimp -implicitDefEqProofs [-getElem?_pos, go_sem, hP]
  exact done_srefT ho4 (by rw [encL_len, ef]) (imm_pays _) rfl

set_option maxHeartbeats 1000000 in
theorem bdrop_pf (q : TQueue) (w : Int) (hf : FitQ q) : PFun Try.prog none none 23 [.agg q.cells, iv w] (· = .tup [.agg (dropQ q w).1.cells, iv (dropQ q w).2]) := by
  refine pfun_intro Try.func23 rfl (by simp [Try.f23]) (by kernel_rfl) ?_
  intro E hP hr hs hW hN
  have ck := bcheck_pf q hf
  have iq := imm_que q
  have ip := imm_pays q.Waiting
  have i2 := imm_ints q.Known
  have i3 := imm_bats q.Batches
  have wt := bwaits_pf q w (by have := hf.w; omega)
  rw [cQu] at ck iq wt
  simp only [intsL] at i2 ck iq wt
  simp -dsimp -implicitDefEqProofs [-getElem?_pos, go_sem, hP, cQu, intsL]
  refine callB_is (ck.lift _ _) hP en_10 (by simpa using iq) .sc ?_
  by_cases c1 : checkQ q = 0
  rotate_left
  · have : dropQ q w = (zeroQ, checkQ q) := by rw [dropQ, if_neg c1]
    simp -dsimp -implicitDefEqProofs [-getElem?_pos, go_sem, hP, c1]
    refine done_zeroQ ?_
    rw [this]
  have hq := checkQ_iff.1 c1
  simp -dsimp -implicitDefEqProofs [-getElem?_pos, go_sem, hP, c1]
  refine callB_is (wt.lift _ _) hP en_56 (by simpa [imm_sc] using iq) .sc ?_
  by_cases c2 : waitQ q w < 0
  · have d2 : decide (waitQ q w < 0) = true := decide_eq_true c2
    have : dropQ q w = (zeroQ, 6) := by rw [dropQ, if_pos c1, if_pos c2]
    simp -dsimp -implicitDefEqProofs [-getElem?_pos, go_sem, hP, d2]
    refine done_zeroQ ?_
    rw [this]
  have d2 : decide (waitQ q w < 0) = false := decide_eq_false c2
  obtain ⟨i, p, hi, hip, hpw, hil⟩ := waitQ_some c2
  have hdr : dropQ q w = (⟨q.Waiting.eraseIdx i, q.Known, q.Batches⟩, 0) := by rw [dropQ, if_pos c1, if_neg c2, hi]; rfl
  rw [hdr]
  rw [hi] at d2
  have lw := hq.lw
  have w1 := wrap_in ((i : Int) + 1) (by omega)
  obtain ⟨H2, hH2⟩ : ∃ H2 : Heap, H2 = [some ⟨28, 3, [[paysL q.Waiting, .list 1 (q.Known.map fun x => [iv x]), batsL q.Batches]]⟩, some ⟨28, 3, [[.nil, .nil, .nil]]⟩] := ⟨_, rfl⟩
  have b0 : H2[0]? = some (some ⟨28, 3, [[paysL q.Waiting, .list 1 (q.Known.map fun x => [iv x]), batsL q.Batches]]⟩) := by rw [hH2]; rfl
  have b1 : H2[1]? = some (some ⟨28, 3, [[.nil, .nil, .nil]]⟩) := by rw [hH2]; rfl
  have l2 : H2.length = 2 := by rw [hH2]; rfl
  simp -dsimp -implicitDefEqProofs [-getElem?_pos, go_sem, hP, hi, d2]
  simp only [← hH2]
  refine callB_m (by rw [hr, hs]; exact bcopy_m q H2 hf) hP en_47 ?_
  rintro r H3 ⟨j1, j2, x, rfl, hj1, hj2, n12, o1, o2, ⟨B, hB1, hB2, hg⟩, hk3⟩
  have e0 := hk3 _ _ (by simp) b0
  have e1 := hk3 _ _ (by simp) b1
  have g0 := (List.getElem?_eq_some_iff.1 e0).1
  have g1 := (List.getElem?_eq_some_iff.1 e1).1
  have hc := hg.cellish
  have n0 : ¬ j1 = 0 := by omega
  have n1 : ¬ j2 = 0 := by omega
  simp -dsimp -implicitDefEqProofs [-getElem?_pos, go_sem, hP, e0, g0, hc, w1]
  generalize hH4 : List.set H3 0 _ = H4
  have v0 : H4[0]? = some (some ⟨28, 3, [[.sref j1 0 q.Waiting.length, .sref j2 0 q.Known.length, x]]⟩) := by rw [← hH4, List.getElem?_set_self g0]
  have v1 : H4[1]? = H3[1]? := by rw [← hH4, List.getElem?_set_ne (by omega)]
  have vj : H4[j1]? = H3[j1]? := by rw [← hH4, List.getElem?_set_ne (by omega)]
  have vj2 : H4[j2]? = H3[j2]? := by rw [← hH4, List.getElem?_set_ne (by omega)]
  rw [e1] at v1
  rw [o1] at vj
  rw [o2] at vj2
  have k4 : Kept [0] H3 H4 := by rw [← hH4]; exact kept_set _ (by simp) (kept_refl _ _)
  have hg4 := hg.kept k4 (by simp; omega)
  have delm := fun {row src : Option Nat} => delete_m_pay (row := row) (src := src) (encL TPayment.cells q.Waiting) i j1 H4 (by rw [encL_len]; exact hil) (by rw [encL_len]; omega) vj
  rw [encL_len, encL_takeE, encL_dropE, encL_appE] at delm
  refine callB_m (by rw [hr, hs]; exact delm) hP en_57 ?_
  rintro r H5 ⟨tl, rfl, o5, hk5⟩
  have f0 := hk5 _ _ (by simp; omega) v0
  have f1 := hk5 _ _ (by simp; omega) v1
  have p2 := hk5 _ _ (by simp; omega) vj2
  have s0 := (List.getElem?_eq_some_iff.1 f0).1
  have s1 := (List.getElem?_eq_some_iff.1 f1).1
  have hg5 := hg4.kept hk5 (by simp; omega)
  simp -dsimp -implicitDefEqProofs [-getElem?_pos, go_sem, hP, f0, s0, f1, s1, hc]
  have ee : q.Waiting.take i ++ q.Waiting.drop (i + 1) = q.Waiting.eraseIdx i := (List.eraseIdx_eq_take_drop_succ _ _).symm
  rw [ee] at o5
  refine done_agg2 (cs' := (TQueue.mk (q.Waiting.eraseIdx i) q.Known q.Batches).cells) ?_ rfl
  refine cw_srefT (ty := 34) (tl := tl) ?_ (by rw [encL_len, List.length_eraseIdx, if_pos hil]) (imm_pays _) (cw_sref (ty := 3) (es := intRows q.Known) ?_ (by rw [intRows_len]) (imm_ints _) (((hg5.kept (X := [0]) (kept_set _ (by simp) (kept_refl _ _)) (by simp; omega)).kept (X := [1]) (kept_set _ (by simp) (kept_refl _ _)) (by simp; omega)).cw (imm_bats _) .nil))
  · rw [List.getElem?_set_ne (by omega), List.getElem?_set_ne (by omega), o5]
  · rw [List.getElem?_set_ne (by omega), List.getElem?_set_ne (by omega), p2]

theorem bsum_pf (l : List TPayment) (hl : l.length ≤ 1000000) : PFun Try.prog none none 20 [paysL l] (· = iv (sumW l)) := by
  refine pfun_intro Try.func20 rfl (by simp [Try.f20]) (by kernel_rfl) ?_
  intro E hP hr hs hW hN
  simp -dsimp -implicitDefEqProofs [-getElem?_pos, go_sem, hP]
  obtain ⟨I, hI⟩ : ∃ I : Nat → St → Prop, I = fun m s => ∃ k : Nat, k ≤ l.length ∧ m = l.length - k ∧ s.t 3 = iv (sumW (l.take k)) ∧ s.t 6 = paysL l ∧ s.t 7 = iv l.length ∧ s.t 8 = iv k := ⟨_, rfl⟩
  refine aloop0 I (l.length) (by rw [hN]; rfl) ?_ ?_
  · rw [hI]
    exact ⟨0, by omega, by omega, by simp -dsimp -implicitDefEqProofs [-getElem?_pos, go_sem, sumW], by simp -dsimp -implicitDefEqProofs [-getElem?_pos, go_sem], by simp -dsimp -implicitDefEqProofs [-getElem?_pos, go_sem], by simp -dsimp -implicitDefEqProofs [-getElem?_pos, go_sem]⟩
  intro m s hs'
  rw [hI] at hs'
  obtain ⟨k, hk, hm, t3, t6, t7, t8⟩ := hs'
  simp -dsimp -implicitDefEqProofs [-getElem?_pos, go_sem, hP, t7, t8]
  refine condP (fun h => ?_) (fun h => ?_)
  · have hk : k < l.length := by simpa using h
    obtain ⟨x, hx⟩ : ∃ x, l[k]? = some x := ⟨_, List.getElem?_eq_getElem hk⟩
    have wk := wrap_in ((k : Int) + 1) (by omega)
    simp -dsimp -implicitDefEqProofs [-getElem?_pos, go_sem, hP, t8, t6, hx, cPy, t3, wk]
    refine ⟨l.length - (k + 1), by omega, ?_⟩
    rw [hI]
    refine ⟨k + 1, by omega, rfl, ?_, by simp -dsimp -implicitDefEqProofs [-getElem?_pos, go_sem, t6], by simp -dsimp -implicitDefEqProofs [-getElem?_pos, go_sem, t7], by simp -dsimp -implicitDefEqProofs [-getElem?_pos, go_sem]⟩
    have es : sumW (l.take (k + 1)) = IntKind.i64.wrap (sumW (l.take k) + x.Amount) := by rw [take_at hx, sumW, List.foldl_append]; rfl
    rw [es]
    simp -dsimp -implicitDefEqProofs [-getElem?_pos, go_sem]
  · have hk : k = l.length := by simp at h; omega
    subst hk
    rw [List.take_length] at t3
    simp -dsimp -implicitDefEqProofs [-getElem?_pos, go_sem, hP, t3]
end Go.Proofs.Ytmpncdlhmknkoaa
