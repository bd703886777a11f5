/- Strips: what is due on a day. -/
import Derived.Test.YtkcfmmpcpdlfeaaGreatDoorStp9
set_option linter.unusedSimpArgs false
set_option linter.unusedVariables false
namespace Go.Proofs.YtkcfmmpcpdlfeaaGreatDoor
open Go.PA
open Go.RowKit

def PendQ (b : TSecurity) (v : TVault) (day : Int) (x : AV) : Prop := ∃ l : List TDue, x = .tup [duesL l, iv 0] ∧ sumD l = pendD b v.Register.Holdings v.Strips day ∧ (∀ y, y ∈ l → 0 ≤ y.Amount) ∧ l.length ≤ 19
structure PendOk (b : TSecurity) (v : TVault) (S d day : Int) : Prop where
  ok : VOk b v S d
  id : b.ID = 1
  hh : ∀ x, x ∈ v.Register.Holdings → x.Security = 1 ∧ 0 < x.Amount ∧ x.Amount ≤ 1000000000
  mv : ∀ m, m ∈ v.Register.Moves → m.Day ≤ day
  dr : 0 ≤ day ∧ day ≤ 35990
  cnt : 2 * cntQ notStr v.Register.Holdings + cntQ (fun x => decide (x.Day = day)) v.Strips ≤ 19
  tot : pendD b v.Register.Holdings v.Strips day ≤ 1000000000000
theorem pendQ_ex (b : TSecurity) (hb : BS b) (v : TVault) (S d day : Int) (h : PendOk b v S d day) : ∃ x, PendQ b v day x ∧ Imm x := by
  have so := secOk hb.ok
  have hv : ∀ x, x ∈ v.Strips → 0 ≤ valS b x := fun x hx => by
    have := (h.ok.am hx).1
    unfold valS
    split
    · omega
    · exact coup_nn so (by omega)
  refine ⟨_, ⟨duesR b (v.Register.Holdings.filter notStr) day ++ v.Strips.flatMap (strD b day), rfl, ?_, fun y hy => ?_, ?_⟩, imm_pair (imm_dues _) .sc⟩
  · rw [sumD_append, sum_strD b day _ hv]
    rfl
  · rcases List.mem_append.1 hy with hy | hy
    · exact pos_dueH so day (fun x hx => by have := (h.hh x (List.mem_filter.1 hx).1).2.1; omega) y hy
    · exact pos_strD b day _ y hy
  · have h1 := len_duesR b day (v.Register.Holdings.filter notStr)
    have h2 := len_strD b day v.Strips
    have h3 := h.cnt
    rw [List.length_append]
    unfold cntQ at *
    omega
set_option maxHeartbeats 8000000 in
theorem spending_pf (b : TSecurity) (hb : BS b) (v : TVault) (S d day : Int) (h : PendOk b v S d day) : PFun Tryz.prog none none 13 [.agg v.cells, iv day] (PendQ b v day) := by
  obtain ⟨QQ, hQQ⟩ : ∃ QQ, QQ = PendQ b v day := ⟨_, rfl⟩
  rw [← hQQ]
  have ok := h.ok
  have so := secOk hb.ok
  have ck := scheck_pf b hb v S d ok
  have iv0 := imm_vlt v
  have ib := imm_sec b
  have ir := imm_reg v.Register
  have hml := ok.reg.mlen
  have h4 := ok.reg.hl.len
  have slen := ok.len
  have cm := fun H : Heap => cpending_m (row := none) (src := none) b v.Register d day H hb.ok hb.ev h.id ok.reg ok.secs h.hh h.mv h.dr
  have fp := gfindX_pf v.Register b.ID (by rw [ok.secs]; simp)
  have ef : findR v.Register.Securities b.ID = (b, true) := by rw [findR, findS, ok.secs]; simp
  rw [ef] at fp
  have hv : ∀ x, x ∈ v.Strips → 0 ≤ valS b x := fun x hx => by
    have := (ok.am hx).1
    unfold valS
    split
    · omega
    · exact coup_nn so (by omega)
  have hl0 := len_duesR b day v.Register.Holdings
  have hfl := duesR_filter b day v.Register.Holdings
  obtain ⟨D0, hD0⟩ : ∃ D0, D0 = duesR b (v.Register.Holdings.filter notStr) day := ⟨_, rfl⟩
  rw [← hD0] at hfl
  have hD0l : D0.length ≤ 2 * cntQ notStr v.Register.Holdings := by rw [hD0]; exact len_duesR b day _
  have hstr := fun k : Nat => len_strD b day (v.Strips.take k)
  have hcnt : ∀ k : Nat, cntQ (fun x => decide (x.Day = day)) (v.Strips.take k) ≤ cntQ (fun x => decide (x.Day = day)) v.Strips := fun k => by
    unfold cntQ
    exact ((List.take_sublist k v.Strips).filter _).length_le
  have hc := h.cnt
  have hDk : ∀ k : Nat, (D0 ++ (v.Strips.take k).flatMap (strD b day)).length ≤ 19 := fun k => by
    have := hstr k
    have := hcnt k
    rw [List.length_append]
    omega
  have hDs : sumD (D0 ++ v.Strips.flatMap (strD b day)) = pendD b v.Register.Holdings v.Strips day := by
    rw [sumD_append, sum_strD b day _ hv, hD0]
    rfl
  have hDp : ∀ y, y ∈ D0 ++ v.Strips.flatMap (strD b day) → 0 ≤ y.Amount := fun y hy => by
    rcases List.mem_append.1 hy with hy | hy
    · rw [hD0] at hy
      exact pos_dueH so day (fun x hx => by have := (h.hh x (List.mem_filter.1 hx).1).2.1; omega) y hy
    · exact pos_strD b day _ y hy
  have tot := h.tot
  have bid := h.id
  rw [cVlt] at ck iv0
  rw [cReg] at fp ir cm
  refine pfun_intro Tryz.func13 rfl (by simp [Tryz.f13]) (by kernel_rfl) ?_
  intro E hP hr hs hW hN
  simp -dsimp -implicitDefEqProofs [-getElem?_pos, go_sem, hP, cVlt]
  refine callB_is (ck.lift _ _) hP en_16 (by simpa using iv0) .sc ?_
  simp -dsimp -implicitDefEqProofs [-getElem?_pos, go_sem, hP]
  refine callB_m (by rw [hr, hs]; exact cm _) hP en_33 ?_
  rintro r H1 ⟨id, rfl, hid, oid, kp⟩
  simp only [List.length_cons, List.length_nil] at hid
  have a0 := kp 0 _ (by simp) (by rfl)
  have ds := fun {row src : Option Nat} => delStr_m (row := row) (src := src) (duesR b v.Register.Holdings day) id H1 (by omega) oid
  rw [hfl] at ds
  simp -dsimp -implicitDefEqProofs [-getElem?_pos, go_sem, hP]
  refine callB_m (by rw [hr, hs]; exact ds) hP en_34 ?_
  rintro r H2 ⟨jd, rfl, oj, hj, kp2⟩
  have b0 := kp2 0 _ (by simp; omega) a0
  have l0 := (List.getElem?_eq_some_iff.1 b0).1
  have j0 := hj 0 _ (by omega) a0
  have lj := (List.getElem?_eq_some_iff.1 oj).1
  clear kp kp2 hj a0 oid
  simp -dsimp -implicitDefEqProofs [-getElem?_pos, go_sem, hP, b0, l0, encL_len]
  obtain ⟨I, hI⟩ : ∃ I : Nat → St → Prop, I = fun m s => ∃ (k id : Nat) (D : List TDue), k ≤ v.Strips.length ∧ m = v.Strips.length - k ∧ D = D0 ++ (v.Strips.take k).flatMap (strD b day) ∧ s.t 1 = iv day ∧ s.t 2 = .ref 0 0 0 ∧ s.t 7 = .sref id 0 D.length ∧ s.t 36 = stripsL v.Strips ∧ s.t 37 = iv v.Strips.length ∧ s.t 38 = iv k ∧ s.H[0]? = some (some ⟨40, 4, [[secsL v.Register.Securities, holdsL v.Register.Holdings, movesL v.Register.Moves, stripsL v.Strips]]⟩) ∧ 0 < id ∧ s.H[id]? = some (some ⟨50, 5, encL TDue.cells D⟩) := ⟨_, rfl⟩
  refine aloop0 I (v.Strips.length) (by rw [hN]; rfl) ?_ ?_
  · rw [hI]
    exact ⟨0, jd, D0, by omega, by omega, by simp, by simp -dsimp -implicitDefEqProofs [-getElem?_pos, go_sem], by simp -dsimp -implicitDefEqProofs [-getElem?_pos, go_sem], by simp -dsimp -implicitDefEqProofs [-getElem?_pos, go_sem], by simp -dsimp -implicitDefEqProofs [-getElem?_pos, go_sem], by simp -dsimp -implicitDefEqProofs [-getElem?_pos, go_sem], by simp -dsimp -implicitDefEqProofs [-getElem?_pos, go_sem], by simp -dsimp -implicitDefEqProofs [-getElem?_pos, go_sem, b0], j0, by simp -dsimp -implicitDefEqProofs [-getElem?_pos, go_sem, oj]⟩
  clear b0 l0 j0 lj oj jd
  intro m s hs'
  rw [hI] at hs'
  obtain ⟨k, id, D, hk, hm, hD, t1, t2, t7, t36, t37, t38, g0, hid0, gi⟩ := hs'
  have l0 := (List.getElem?_eq_some_iff.1 g0).1
  have li := (List.getElem?_eq_some_iff.1 gi).1
  have hDl : D.length ≤ 19 := by rw [hD]; exact hDk k
  simp -dsimp -implicitDefEqProofs [-getElem?_pos, go_sem, hP, t37, t38]
  refine condP (fun hq => ?_) (fun hq => ?_)
  · have hk : k < v.Strips.length := by simpa using hq
    obtain ⟨x, hx⟩ : ∃ x, v.Strips[k]? = some x := ⟨_, List.getElem?_eq_getElem hk⟩
    have wk := wrap_in ((k : Int) + 1) (by omega)
    have tk : (v.Strips.take (k + 1)).flatMap (strD b day) = (v.Strips.take k).flatMap (strD b day) ++ strD b day x := by
      rw [List.take_add_one, hx]
      simp
    have ax := ok.am (List.mem_of_getElem? hx)
    have xs := (ok.el x (List.mem_of_getElem? hx)).sec
    have sbb := ok.sb
    have cp := coupon_pf b x.Amount hb.ok (by omega)
    rw [cSec] at cp
    have fin : ∀ (D' : List TDue) (id' : Nat) (s' : St), D' = D ++ strD b day x → s'.t 1 = iv day → s'.t 2 = .ref 0 0 0 → s'.t 7 = .sref id' 0 D'.length → s'.t 36 = stripsL v.Strips → s'.t 37 = iv v.Strips.length → s'.t 38 = iv ((k : Int) + 1) → s'.H[0]? = some (some ⟨40, 4, [[secsL v.Register.Securities, holdsL v.Register.Holdings, movesL v.Register.Moves, stripsL v.Strips]]⟩) → 0 < id' → s'.H[id']? = some (some ⟨50, 5, encL TDue.cells D'⟩) → ∃ n', n' < m ∧ I n' s' := fun D' id' s' e h1 h2 h7 h36 h37 h38 h0 hid' hi' => by
      refine ⟨v.Strips.length - (k + 1), by omega, ?_⟩
      rw [hI]
      exact ⟨k + 1, id', D', by omega, rfl, by rw [tk, ← List.append_assoc, ← hD]; exact e, h1, h2, h7, h36, h37, by rw [h38]; rfl, h0, hid', hi'⟩
    have g0' : ∀ y : Heap, (s.H ++ y)[0]? = some (some ⟨40, 4, [[secsL v.Register.Securities, holdsL v.Register.Holdings, movesL v.Register.Moves, stripsL v.Strips]]⟩) := fun y => by rw [List.getElem?_append_left l0]; exact g0
    have gi' : ∀ y : Heap, (s.H ++ y)[id]? = some (some ⟨50, 5, encL TDue.cells D⟩) := fun y => by rw [List.getElem?_append_left li]; exact gi
    have fin2 : ∀ (T : Heap) (y : TDue) (t : Nat → AV), T[0]? = some (some ⟨40, 4, [[secsL v.Register.Securities, holdsL v.Register.Holdings, movesL v.Register.Moves, stripsL v.Strips]]⟩) → T[id]? = some (some ⟨50, 5, encL TDue.cells D⟩) → strD b day x = [y] → t 1 = iv day → t 2 = .ref 0 0 0 → t 7 = .sref T.length 0 (D.length + 1) → t 36 = stripsL v.Strips → t 37 = iv v.Strips.length → t 38 = iv ((k : Int) + 1) → ∃ n', n' < m ∧ I n' ⟨t, T.set id none ++ [some ⟨50, 5, encL TDue.cells D ++ [[iv y.Day, iv y.Security, iv y.Holder, iv y.Kind, iv y.Amount]]⟩]⟩ := fun T y t h0 hi es h1 h2 h7 h36 h37 h38 => by
      have lT := (List.getElem?_eq_some_iff.1 h0).1
      refine fin (D ++ [y]) T.length _ (by rw [es]) h1 h2 (by rw [List.length_append]; exact h7) h36 h37 h38 ?_ (by omega) ?_
      · dsimp only
        rw [List.getElem?_append_left (by simpa using lT), List.getElem?_set_ne (by omega)]; exact h0
      · dsimp only
        rw [List.getElem?_append_right (by simp)]
        simp [encL, cDue]
    simp -dsimp -implicitDefEqProofs [-getElem?_pos, go_sem, hP, t36, t38, hx, cStp]
    by_cases e1 : x.Day = day
    rotate_left
    · have es : D = D ++ strD b day x := by unfold strD; rw [if_neg e1, List.append_nil]
      simp -dsimp -implicitDefEqProofs [-getElem?_pos, go_sem, hP, t1, e1, t38, wk]
      exact fin D id _ es (by simp -dsimp -implicitDefEqProofs [-getElem?_pos, go_sem, t1]) (by simp -dsimp -implicitDefEqProofs [-getElem?_pos, go_sem, t2]) (by simp -dsimp -implicitDefEqProofs [-getElem?_pos, go_sem, t7]) (by simp -dsimp -implicitDefEqProofs [-getElem?_pos, go_sem, t36]) (by simp -dsimp -implicitDefEqProofs [-getElem?_pos, go_sem, t37]) (by simp -dsimp -implicitDefEqProofs [-getElem?_pos, go_sem]) (by simp -dsimp -implicitDefEqProofs [-getElem?_pos, go_sem, g0']) hid0 (by simp -dsimp -implicitDefEqProofs [-getElem?_pos, go_sem, gi'])
    cases hpr : x.Principal with
    | true =>
      have hvx : valS b x = x.Amount := by unfold valS; rw [if_pos hpr]
      have dp : decide (0 < x.Amount) = true := decide_eq_true ax.1
      have es : strD b day x = [⟨day, x.Security, x.Holder, 2, x.Amount⟩] := by unfold strD; rw [if_pos e1, hvx, if_pos ax.1, if_pos hpr]
      simp -dsimp -implicitDefEqProofs [-getElem?_pos, go_sem, hP, t1, e1, hpr, dp, t7, gi', encL_len, t38, wk]
      refine ⟨by omega, by omega, ?_⟩
      exact fin2 _ ⟨day, x.Security, x.Holder, 2, x.Amount⟩ _ (g0' _) (gi' _) es (by simp -dsimp -implicitDefEqProofs [-getElem?_pos, go_sem, t1]) (by simp -dsimp -implicitDefEqProofs [-getElem?_pos, go_sem, t2]) (by simp -dsimp -implicitDefEqProofs [-getElem?_pos, go_sem]) (by simp -dsimp -implicitDefEqProofs [-getElem?_pos, go_sem, t36]) (by simp -dsimp -implicitDefEqProofs [-getElem?_pos, go_sem, t37]) (by simp -dsimp -implicitDefEqProofs [-getElem?_pos, go_sem])
    | false =>
      have hvx : valS b x = coupD b x.Amount := by unfold valS; rw [if_neg (by simp [hpr])]
      obtain ⟨c, hcc⟩ : ∃ c, c = coupD b x.Amount := ⟨_, rfl⟩
      rw [← hcc] at hvx cp
      have l00 : 0 < s.H.length := l0
      simp -dsimp -implicitDefEqProofs [-getElem?_pos, go_sem, hP, t1, e1, hpr, t2, g0', xs]
      refine callB_is (fp.lift _ _) hP en_36 (by simpa [imm_sc] using ir) (imm_pair ib .sc) ?_
      simp -dsimp -implicitDefEqProofs [-getElem?_pos, go_sem, hP, cSec]
      refine callB_is (cp.lift _ _) hP en_37 (by rw [cSec] at ib; simpa [imm_sc] using ib) (imm_pair .sc .sc) ?_
      by_cases c0 : 0 < c
      · have dp : decide (0 < c) = true := decide_eq_true c0
        have es : strD b day x = [⟨day, b.ID, x.Holder, 1, c⟩] := by unfold strD; rw [if_pos e1, hvx, if_pos c0, if_neg (by simp [hpr]), xs]
        simp -dsimp -implicitDefEqProofs [-getElem?_pos, go_sem, hP, dp, t7, gi', encL_len, t38, wk]
        refine ⟨by omega, by omega, ?_⟩
        exact fin2 _ ⟨day, b.ID, x.Holder, 1, c⟩ _ (g0' _) (gi' _) es (by simp -dsimp -implicitDefEqProofs [-getElem?_pos, go_sem, t1]) (by simp -dsimp -implicitDefEqProofs [-getElem?_pos, go_sem, t2]) (by simp -dsimp -implicitDefEqProofs [-getElem?_pos, go_sem]) (by simp -dsimp -implicitDefEqProofs [-getElem?_pos, go_sem, t36]) (by simp -dsimp -implicitDefEqProofs [-getElem?_pos, go_sem, t37]) (by simp -dsimp -implicitDefEqProofs [-getElem?_pos, go_sem])
      · have dp : decide (0 < c) = false := decide_eq_false c0
        have es : D = D ++ strD b day x := by unfold strD; rw [if_pos e1, hvx, if_neg c0, List.append_nil]
        simp -dsimp -implicitDefEqProofs [-getElem?_pos, go_sem, hP, dp, t38, wk]
        exact fin D id _ es (by simp -dsimp -implicitDefEqProofs [-getElem?_pos, go_sem, t1]) (by simp -dsimp -implicitDefEqProofs [-getElem?_pos, go_sem, t2]) (by simp -dsimp -implicitDefEqProofs [-getElem?_pos, go_sem, t7]) (by simp -dsimp -implicitDefEqProofs [-getElem?_pos, go_sem, t36]) (by simp -dsimp -implicitDefEqProofs [-getElem?_pos, go_sem, t37]) (by simp -dsimp -implicitDefEqProofs [-getElem?_pos, go_sem]) (by simp -dsimp -implicitDefEqProofs [-getElem?_pos, go_sem, g0']) hid0 (by simp -dsimp -implicitDefEqProofs [-getElem?_pos, go_sem, gi'])
  · have hk : k = v.Strips.length := by simp at hq; omega
    subst hk
    rw [List.take_length] at hD
    rw [← hD] at hDs hDp
    have st := sortStable_m_due (row := none) (src := none) TDue.cells ltDu 39 cmpOkDu D s.H id D.length rfl (by omega) gi
    obtain ⟨A, hA⟩ : ∃ A, A = isort ltDu D := ⟨_, rfl⟩
    rw [← hA] at st
    have pA : A.Perm D := by rw [hA]; exact isort_permD _ _
    have lA : A.length = D.length := pA.length_eq
    have hAs : sumD A = pendD b v.Register.Holdings v.Strips day := by rw [sumD_perm pA]; exact hDs
    have hAp : ∀ y, y ∈ A → 0 ≤ y.Amount := fun y hy => hDp y (pA.subset hy)
    simp -dsimp -implicitDefEqProofs [-getElem?_pos, go_sem, hP, t7]
    refine callB_m (by rw [hr, hs]; exact st) hP en_38 ?_
    rintro r H3 rfl
    have ga : (s.H.set id (some ⟨50, 5, encL TDue.cells A⟩))[id]? = some (some ⟨50, 5, encL TDue.cells A⟩) := by simp [li]
    obtain ⟨H3, hH3⟩ : ∃ H3, H3 = s.H.set id (some ⟨50, 5, encL TDue.cells A⟩) := ⟨_, rfl⟩
    rw [← hH3] at ga ⊢
    have la := (List.getElem?_eq_some_iff.1 ga).1
    rw [← lA] at t7
    rw [← lA]
    have hDl : A.length ≤ 19 := by omega
    clear hH3 gi g0 li l0 hI
    simp -dsimp -implicitDefEqProofs [-getElem?_pos, go_sem, hP, t7, ga, la, encL_len]
    refine aloop_own 14 50 5 (by simp -dsimp -implicitDefEqProofs [-getElem?_pos, go_sem]) ?_
    obtain ⟨J, hJ⟩ : ∃ I : Nat → St → Prop, I = fun m s => ∃ (k o : Nat) (O : List TDue), k ≤ A.length ∧ m = A.length - k ∧ sumD O = sumD (A.take k) ∧ (∀ y, y ∈ O → 0 ≤ y.Amount) ∧ O.length ≤ k ∧ s.t 14 = .sref o 0 O.length ∧ s.t 84 = .sref id 0 A.length ∧ s.t 85 = iv A.length ∧ s.t 86 = iv k ∧ id ≠ o ∧ s.H[id]? = some (some ⟨50, 5, encL TDue.cells A⟩) ∧ s.H[o]? = some (some ⟨50, 5, encL TDue.cells O⟩) := ⟨_, rfl⟩
    refine aloop0 J (A.length) (by rw [hN]; rfl) ?_ ?_
    · rw [hJ]
      exact ⟨0, H3.length, [], by omega, by omega, rfl, by simp, by simp, by simp -dsimp -implicitDefEqProofs [-getElem?_pos, go_sem], by simp -dsimp -implicitDefEqProofs [-getElem?_pos, go_sem, t7], by simp -dsimp -implicitDefEqProofs [-getElem?_pos, go_sem], by simp -dsimp -implicitDefEqProofs [-getElem?_pos, go_sem], by omega, by simp -dsimp -implicitDefEqProofs [-getElem?_pos, go_sem, ga, la], by simp -dsimp -implicitDefEqProofs [-getElem?_pos, go_sem, encL]⟩
    clear ga la st t1 t2 t7 t36 t37 t38
    intro m s hs'
    rw [hJ] at hs'
    obtain ⟨k, o, O, hk, hm, hO, hOp, hOl, t14, t84, t85, t86, nio, ga, go⟩ := hs'
    have la := (List.getElem?_eq_some_iff.1 ga).1
    have lo := (List.getElem?_eq_some_iff.1 go).1
    simp -dsimp -implicitDefEqProofs [-getElem?_pos, go_sem, hP, t85, t86]
    refine condP (fun hq => ?_) (fun hq => ?_)
    · have hk : k < A.length := by simpa using hq
      obtain ⟨x, hx⟩ : ∃ x, A[k]? = some x := ⟨_, List.getElem?_eq_getElem hk⟩
      have wk := wrap_in ((k : Int) + 1) (by omega)
      have tk : sumD (A.take (k + 1)) = sumD (A.take k) + x.Amount := by rw [List.take_add_one, hx, sumD_append]; simp [sumD]
      have hx0 := hAp x (List.mem_of_getElem? hx)
      have hle : sumD (A.take (k + 1)) ≤ sumD A := by
        have e : sumD A = sumD (A.take (k + 1)) + sumD (A.drop (k + 1)) := by rw [← sumD_append, List.take_append_drop]
        have := (sumD_nn (l := A.drop (k + 1)) fun y hy => hAp y (List.mem_of_mem_drop hy)).1
        omega
      have hO2 := sumD_nn hOp
      simp -dsimp -implicitDefEqProofs [-getElem?_pos, go_sem, hP, t84, t86, ga, la, hx, hk, encL_len, cDue]
      obtain ⟨T, hT⟩ : ∃ T : Heap, T = s.H ++ [some ⟨50, 5, [[iv x.Day, iv x.Security, iv x.Holder, iv x.Kind, iv x.Amount]]⟩] := ⟨_, rfl⟩
      obtain ⟨B, hB⟩ : ∃ B, B = s.H.length := ⟨_, rfl⟩
      have ga' : T[id]? = some (some ⟨50, 5, encL TDue.cells A⟩) := by rw [hT, List.getElem?_append_left la]; exact ga
      have go' : T[o]? = some (some ⟨50, 5, encL TDue.cells O⟩) := by rw [hT, List.getElem?_append_left lo]; exact go
      have gx : T[B]? = some (some ⟨50, 5, [[iv x.Day, iv x.Security, iv x.Holder, iv x.Kind, iv x.Amount]]⟩) := by rw [hT, hB]; simp
      have lTo := (List.getElem?_eq_some_iff.1 go').1
      have lTx := (List.getElem?_eq_some_iff.1 gx).1
      have nBo : ¬ o = B := by omega
      rw [← hT, ← hB]
      have app : ∀ (t : Nat → AV), t 14 = .sref T.length 0 (O.length + 1) → t 84 = .sref id 0 A.length → t 85 = iv A.length → t 86 = iv ((k : Int) + 1) → ∃ n', n' < m ∧ J n' ⟨t, T.set o none ++ [some ⟨50, 5, encL TDue.cells O ++ [[iv x.Day, iv x.Security, iv x.Holder, iv x.Kind, iv x.Amount]]⟩]⟩ := fun t h14 h84 h85 h86 => by
        refine ⟨A.length - (k + 1), by omega, ?_⟩
        rw [hJ]
        refine ⟨k + 1, T.length, O ++ [x], by omega, rfl, ?_, ?_, by simp; omega, by show t 14 = _; rw [h14]; simp, h84, h85, by show t 86 = _; rw [h86]; rfl, by omega, ?_, ?_⟩
        · rw [tk, sumD_append, hO]; simp [sumD]
        · intro y hy
          rcases List.mem_append.1 hy with hy | hy
          · exact hOp y hy
          · rw [List.mem_singleton.1 hy]; exact hx0
        · dsimp only
          rw [List.getElem?_append_left (by simp; omega), List.getElem?_set_ne (fun e => nio e.symm)]; exact ga'
        · dsimp only
          rw [List.getElem?_append_right (by simp)]
          simp [encL, cDue]
      have dO : O.length ≤ 19 := by omega
      rcases List.eq_nil_or_concat O with hOn | ⟨O', w, hOc⟩
      · have z0 : O.length = 0 := by rw [hOn]; rfl
        simp -dsimp -implicitDefEqProofs [-getElem?_pos, go_sem, hP, t14, go', lTo, encL_len, z0]
        refine adrawB (fun _ => true) [] hP (by kernel_rfl) (by kernel_rfl) ?_
        simp -dsimp -implicitDefEqProofs [-getElem?_pos, go_sem, hP, t14, go', lTo, encL_len, z0, gx, lTx, t86, wk]
        exact app _ (by simp -dsimp -implicitDefEqProofs [-getElem?_pos, go_sem, z0]) (by simp -dsimp -implicitDefEqProofs [-getElem?_pos, go_sem, t84]) (by simp -dsimp -implicitDefEqProofs [-getElem?_pos, go_sem, t85]) (by simp -dsimp -implicitDefEqProofs [-getElem?_pos, go_sem])
      · obtain ⟨q, hq2⟩ : ∃ q, q = O'.length := ⟨_, rfl⟩
        have zq : O.length = q + 1 := by rw [hOc, hq2]; simp
        have ew : O[q]? = some w := by rw [hOc, hq2]; simp
        have hw0 := hOp w (List.mem_of_getElem? ew)
        have hwl := hO2.2 w (List.mem_of_getElem? ew)
        have dn : decide ((0 : Int) < (q : Int) + 1) = true := decide_eq_true (by omega)
        have wq : IntKind.i64.wrap ((q : Int) + 1 - 1) = (q : Int) := by rw [wrap_in _ (by omega)]; omega
        have ec : (q : Int) + 1 - 1 = (q : Int) := by omega
        have wq' := wrap_in (q : Int) (by omega)
        have lq1 : q < q + 1 := by omega
        have lq2 : (q : Int) < (q : Int) + 1 := by omega
        have wa := wrap_in (w.Amount + x.Amount) (by omega)
        have sd := sdue_pf w x
        have iw : Imm (.agg w.cells) := .agg fun c hc => w.imm c hc
        have ix : Imm (.agg x.cells) := .agg fun c hc => x.imm c hc
        rw [cDue, cDue] at sd
        rw [cDue] at iw ix
        obtain ⟨z, hz⟩ : ∃ z : TDue, z = ⟨w.Day, w.Security, w.Holder, w.Kind, w.Amount + x.Amount⟩ := ⟨_, rfl⟩
        have ey : (encL TDue.cells O).set q [iv w.Day, iv w.Security, iv w.Holder, iv w.Kind, iv (w.Amount + x.Amount)] = encL TDue.cells (O.set q z) := by rw [← encL_set, hz, cDue]
        have eset : O.set q z = O' ++ [z] := by rw [hOc, hq2]; simp
        simp -dsimp -implicitDefEqProofs [-getElem?_pos, go_sem, hP, t14, go', lTo, encL_len, zq, dn]
        refine adrawB (fun _ => true) [] hP (by kernel_rfl) (by kernel_rfl) ?_
        simp -dsimp -implicitDefEqProofs [-getElem?_pos, go_sem, hP, t14, go', lTo, encL_len, zq, dn, wq, wq', ec, ew, lq1, lq2, cDue, gx, lTx]
        refine callB_is (sd.lift _ _) hP en_39 (by simpa using ⟨iw, ix⟩) .sc ?_
        by_cases ce : cmpDu w x = 0
        · simp -dsimp -implicitDefEqProofs [-getElem?_pos, go_sem, hP, ce]
          refine adrawB (fun _ => true) [11] hP (by kernel_rfl) (by kernel_rfl) ?_
          simp -dsimp -implicitDefEqProofs [-getElem?_pos, go_sem, hP, t14, go', lTo, encL_len, zq, dn, wq, wq', ec, ew, lq1, lq2, cDue, gx, lTx, wa, ey, t86, wk]
          refine ⟨A.length - (k + 1), by omega, ?_⟩
          rw [hJ]
          have lz : (O.set q z).length = O.length := List.length_set
          refine ⟨k + 1, o, O.set q z, by omega, rfl, ?_, ?_, by omega, by simp -dsimp -implicitDefEqProofs [-getElem?_pos, go_sem, t14], by simp -dsimp -implicitDefEqProofs [-getElem?_pos, go_sem, t84], by simp -dsimp -implicitDefEqProofs [-getElem?_pos, go_sem, t85], by simp -dsimp -implicitDefEqProofs [-getElem?_pos, go_sem], nio, ?_, ?_⟩
          · rw [tk, eset, sumD_append, ← hO, hOc, List.concat_eq_append, sumD_append]
            simp [sumD, hz]
            omega
          · intro y hy
            rw [eset] at hy
            rcases List.mem_append.1 hy with hy | hy
            · exact hOp y (by rw [hOc]; simp [hy])
            · rw [List.mem_singleton.1 hy, hz]
              dsimp only
              omega
          · dsimp only
            rw [List.getElem?_set_ne (fun e => nio e.symm)]; exact ga'
          · dsimp only
            simp [lTo]
        · simp -dsimp -implicitDefEqProofs [-getElem?_pos, go_sem, hP, ce, t14, go', lTo, encL_len, zq, gx, lTx]
          refine ⟨by omega, by omega, ?_⟩
          simp -dsimp -implicitDefEqProofs [-getElem?_pos, go_sem, hP, t86, wk]
          exact app _ (by simp -dsimp -implicitDefEqProofs [-getElem?_pos, go_sem, zq]) (by simp -dsimp -implicitDefEqProofs [-getElem?_pos, go_sem, t84]) (by simp -dsimp -implicitDefEqProofs [-getElem?_pos, go_sem, t85]) (by simp -dsimp -implicitDefEqProofs [-getElem?_pos, go_sem])
    · have hk : k = A.length := by simp at hq; omega
      subst hk
      rw [List.take_length] at hO
      simp -dsimp -implicitDefEqProofs [-getElem?_pos, go_sem, hP, t14]
      rw [hQQ]
      exact done_sl2 go (by rw [encL_len]) (imm_dues O) ⟨O, rfl, by rw [hO, hAs], hOp, by omega⟩
end Go.Proofs.YtkcfmmpcpdlfeaaGreatDoor
