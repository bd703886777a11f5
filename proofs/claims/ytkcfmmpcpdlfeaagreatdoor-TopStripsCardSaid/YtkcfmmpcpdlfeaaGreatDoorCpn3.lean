/- Coupons: what is pending. -/
import Derived.Test.YtkcfmmpcpdlfeaaGreatDoorCpn2
import Derived.Test.YtkcfmmpcpdlfeaaGreatDoorStr2
set_option linter.unusedSimpArgs false
set_option linter.unusedVariables false
namespace Go.Proofs.YtkcfmmpcpdlfeaaGreatDoor
open Go.PA
open Go.RowKit

theorem cplain_pf (s : TSecurity) (h : THolding) (day : Int) (hs0 : secB s = true) (he : s.Every ≠ 0) (ha : 0 < h.Amount ∧ h.Amount ≤ 1000000000) : PFun Tryz.prog none none 76 [.agg s.cells, .agg h.cells, iv day] (· = duesL (dueH s day h)) := by
  have od := of_due_pf s h day hs0 he ha
  have is := imm_sec s
  have ih := imm_hol h
  have iD := imm_dues (dueH s day h)
  rw [cHol] at od ih
  refine pfun_intro Tryz.func76 rfl (by simp [Tryz.f76]) (by kernel_rfl) ?_
  intro E hP hr hs hW hN
  simp -dsimp -implicitDefEqProofs [-getElem?_pos, go_sem, hP, cSec, cHol]
  have ic : ∀ c, c ∈ s.cells → Imm c := s.imm
  refine callB_frz (od.lift _ _) hP hW en_109 (args_imm (by rw [← cSec]; exact is) (args_imm ih (args_imm .sc (args_fnc (cs := [.ref 0 0 0]) (by simp -dsimp -implicitDefEqProofs [-getElem?_pos, go_sem, viewR_ref, cSec]) (by simpa [imm_iref] using ic) (args_fnc (cs := []) (by simp) (by simp) (args_nil.2 trivial)))))) (imm_pair iD .sc) ?_
  simp -dsimp -implicitDefEqProofs [-getElem?_pos, go_sem, hP]
  exact done_imm iD rfl
theorem camong_pf (n lo hi : Int) : PFun Tryz.prog none none 74 [iv n, iv lo, iv hi] (· = bv (bet n lo hi)) := by
  refine pfun_intro Tryz.func74 rfl (by simp [Tryz.f74]) (by kernel_rfl) ?_
  intro E hP hr hs hW hN
  by_cases h1 : lo ≤ n <;> by_cases h2 : n ≤ hi <;> simp -dsimp -implicitDefEqProofs [-getElem?_pos, go_sem, hP, h1, h2, bet]
/-- What is due for all holdings. -/
def duesR (b : TSecurity) (l : List THolding) (day : Int) : List TDue := l.flatMap (dueH b day)
theorem duesR_succ (b : TSecurity) (l : List THolding) (day : Int) {k : Nat} {x : THolding} (hx : l[k]? = some x) : duesR b (l.take (k + 1)) day = duesR b (l.take k) day ++ dueH b day x := by
  unfold duesR
  rw [List.take_add_one, hx]
  simp
theorem len_dueH (b : TSecurity) (day : Int) (x : THolding) : (dueH b day x).length ≤ 2 := by
  unfold dueH
  rw [List.length_append]
  have h1 : (if day ∈ daysS b ∧ coupD b x.Amount ≠ 0 then [(⟨day, x.Security, x.Holder, 1, coupD b x.Amount⟩ : TDue)] else []).length ≤ 1 := by split <;> simp
  have h2 : (if day = b.Maturity then [(⟨day, x.Security, x.Holder, 2, x.Amount⟩ : TDue)] else []).length ≤ 1 := by split <;> simp
  omega
theorem len_duesR (b : TSecurity) (day : Int) : ∀ l : List THolding, (duesR b l day).length ≤ 2 * l.length
  | [] => by simp [duesR]
  | x :: l => by
    have := len_duesR b day l
    have h2 := len_dueH b day x
    unfold duesR at *
    rw [List.flatMap_cons, List.length_append, List.length_cons]
    omega
set_option maxHeartbeats 4000000 in
theorem cpending_pf (b : TSecurity) (r : TRegister) (d day : Int) (hb : secB b = true) (he : b.Every ≠ 0) (hid : b.ID = 1) (ok : RegOk r d) (hsec : r.Securities = [b]) (hh : ∀ x, x ∈ r.Holdings → x.Security = 1 ∧ 0 < x.Amount ∧ x.Amount ≤ 1000000000) (hd : ∀ m, m ∈ r.Moves → m.Day ≤ day) (hdr : 0 ≤ day ∧ day ≤ 35990) : PFun Tryz.prog none none 33 [.agg r.cells, iv day] (· = .tup [duesL (duesR b r.Holdings day), iv 0]) := by
  have ck := gcheck_pf r d ok
  have ir := imm_reg r
  have ap := gat_pf r d day ok hd
  have ih := imm_holds r.Holdings
  have h4 := ok.hl.len
  have hml := ok.mlen
  have hbd := bet_yes hdr
  have fp := gfindX_pf r 1 (by rw [hsec]; simp)
  have ef : findR r.Securities 1 = (b, true) := by rw [findR, findS, hsec]; simp [hid]
  rw [ef] at fp
  have ib := imm_sec b
  have ldr := len_duesR b day
  rw [cReg] at ck ir ap fp
  obtain ⟨L, hL⟩ : ∃ L, L = r.Holdings := ⟨_, rfl⟩
  have hLl : L.length ≤ 800 := by rw [hL]; omega
  refine pfun_intro Tryz.func33 rfl (by simp [Tryz.f33]) (by kernel_rfl) ?_
  intro E hP hr hs hW hN
  simp -dsimp -implicitDefEqProofs [-getElem?_pos, go_sem, hP, cReg]
  refine callB_is (ck.lift _ _) hP en_18 (by simpa using ir) .sc ?_
  simp -dsimp -implicitDefEqProofs [-getElem?_pos, go_sem, hP]
  refine callB_pure (camong_pf day 0 35990) hP en_74 (args_same (by simp -dsimp -implicitDefEqProofs [-getElem?_pos, go_sem])) .sc ?_
  simp -dsimp -implicitDefEqProofs [-getElem?_pos, go_sem, hP, hbd]
  refine callB_is (ap.lift _ _) hP en_75 (by simpa [imm_sc] using ir) ih ?_
  rw [← hL] at ir fp hh
  rw [← hL]
  simp -dsimp -implicitDefEqProofs [-getElem?_pos, go_sem, hP, encL_len]
  refine aloop_own 7 50 5 (by simp -dsimp -implicitDefEqProofs [-getElem?_pos, go_sem]) ?_
  obtain ⟨I, hI⟩ : ∃ I : Nat → St → Prop, I = fun m s => ∃ (k id : Nat) (D : List TDue), k ≤ L.length ∧ m = L.length - k ∧ D = duesR b (L.take k) day ∧ s.t 1 = iv day ∧ s.t 2 = .ref 0 0 0 ∧ s.t 7 = .sref id 0 D.length ∧ s.t 22 = holdsL L ∧ s.t 23 = iv L.length ∧ s.t 24 = iv k ∧ s.H[0]? = some (some ⟨33, 3, [[secsL r.Securities, holdsL L, movesL r.Moves]]⟩) ∧ id ≠ 0 ∧ s.H[id]? = some (some ⟨50, 5, encL TDue.cells D⟩) := ⟨_, rfl⟩
  refine aloop0 I (L.length) (by rw [hN]; rfl) ?_ ?_
  · rw [hI]
    exact ⟨0, 1, [], by omega, by omega, by simp [duesR], by simp -dsimp -implicitDefEqProofs [-getElem?_pos, go_sem], by simp -dsimp -implicitDefEqProofs [-getElem?_pos, go_sem], by simp -dsimp -implicitDefEqProofs [-getElem?_pos, go_sem], by simp -dsimp -implicitDefEqProofs [-getElem?_pos, go_sem], by simp -dsimp -implicitDefEqProofs [-getElem?_pos, go_sem], by simp -dsimp -implicitDefEqProofs [-getElem?_pos, go_sem], by simp -dsimp -implicitDefEqProofs [-getElem?_pos, go_sem], by omega, by simp -dsimp -implicitDefEqProofs [-getElem?_pos, go_sem, encL]⟩
  intro m s hs'
  rw [hI] at hs'
  obtain ⟨k, id, D, hk, hm, hD, t1, t2, t7, t22, t23, t24, g0, hid0, gi⟩ := hs'
  have l0 := (List.getElem?_eq_some_iff.1 g0).1
  have li := (List.getElem?_eq_some_iff.1 gi).1
  simp -dsimp -implicitDefEqProofs [-getElem?_pos, go_sem, hP, t23, t24]
  refine condP (fun hq => ?_) (fun hq => ?_)
  · have hk : k < L.length := by simpa using hq
    obtain ⟨a, ha⟩ : ∃ a, L[k]? = some a := ⟨_, List.getElem?_eq_getElem hk⟩
    have wk := wrap_in ((k : Int) + 1) (by omega)
    have hha := hh a (List.mem_of_getElem? ha)
    have pp := cplain_pf b a day hb he hha.2
    have ia := imm_hol a
    have iP := imm_dues (dueH b day a)
    have hld := ldr (L.take k)
    rw [← hD, List.length_take] at hld
    have lp := len_dueH b day a
    rw [cSec, cHol, hha.1] at pp
    rw [cHol, hha.1] at ia
    have g0' : ∀ x : Heap, (s.H ++ x)[0]? = some (some ⟨33, 3, [[secsL r.Securities, holdsL L, movesL r.Moves]]⟩) := fun x => by rw [List.getElem?_append_left l0]; exact g0
    have gi' : ∀ x : Heap, (s.H ++ x)[id]? = some (some ⟨50, 5, encL TDue.cells D⟩) := fun x => by rw [List.getElem?_append_left li]; exact gi
    simp -dsimp -implicitDefEqProofs [-getElem?_pos, go_sem, hP, t22, t24, ha, cHol]
    simp -dsimp -implicitDefEqProofs [-getElem?_pos, go_sem, hP, t2, g0', hha.1]
    refine callB_is (fp.lift _ _) hP en_36 (by simpa [imm_sc] using ir) (imm_pair ib .sc) ?_
    simp -dsimp -implicitDefEqProofs [-getElem?_pos, go_sem, hP, cSec, t7, t1]
    refine callB_is (pp.lift _ _) hP en_76 (by simpa [imm_sc] using ⟨(by rw [← cSec]; exact ib), ia⟩) iP ?_
    obtain ⟨P, hP2⟩ : ∃ P, P = dueH b day a := ⟨_, rfl⟩
    rw [← hP2] at lp ⊢
    obtain ⟨S, hS⟩ : ∃ S : Heap, S = s.H ++ [some ⟨70, 3, [[iv 1, iv a.Holder, iv a.Amount]]⟩, some ⟨28, 7, [[iv b.ID, iv b.Unit, iv b.Issued, iv b.Maturity, iv b.Rate, iv b.Every, bv b.Indexed]]⟩] := ⟨_, rfl⟩
    have gS := gi' [some ⟨70, 3, [[iv 1, iv a.Holder, iv a.Amount]]⟩, some ⟨28, 7, [[iv b.ID, iv b.Unit, iv b.Issued, iv b.Maturity, iv b.Rate, iv b.Every, bv b.Indexed]]⟩]
    have g0S := g0' [some ⟨70, 3, [[iv 1, iv a.Holder, iv a.Amount]]⟩, some ⟨28, 7, [[iv b.ID, iv b.Unit, iv b.Issued, iv b.Maturity, iv b.Rate, iv b.Every, bv b.Indexed]]⟩]
    rw [← hS] at gS g0S
    rw [← hS]
    have lS := (List.getElem?_eq_some_iff.1 gS).1
    simp -dsimp -implicitDefEqProofs [-getElem?_pos, go_sem, hP, t7, gS, lS, encL_len, t24, wk]
    refine ⟨by omega, by omega, L.length - (k + 1), by omega, ?_⟩
    rw [hI]
    have ls0 : 0 < S.length := by omega
    have s0 : (S.set id none)[0]? = some (some ⟨33, 3, [[secsL r.Securities, holdsL L, movesL r.Moves]]⟩) := by rw [List.getElem?_set_ne hid0]; exact g0S
    refine ⟨k + 1, S.length, D ++ P, by omega, rfl, by rw [duesR_succ b L day ha, ← hD, hP2], by simp -dsimp -implicitDefEqProofs [-getElem?_pos, go_sem, t1], by simp -dsimp -implicitDefEqProofs [-getElem?_pos, go_sem, t2], by simp -dsimp -implicitDefEqProofs [-getElem?_pos, go_sem], by simp -dsimp -implicitDefEqProofs [-getElem?_pos, go_sem, t22], by simp -dsimp -implicitDefEqProofs [-getElem?_pos, go_sem, t23], by simp -dsimp -implicitDefEqProofs [-getElem?_pos, go_sem], ?_, by omega, ?_⟩
    · simp -dsimp -implicitDefEqProofs [-getElem?_pos, go_sem, s0, ls0]
    · simp -dsimp -implicitDefEqProofs [-getElem?_pos, go_sem, encL_app]
  · have hk : k = L.length := by simp at hq; omega
    subst hk
    rw [List.take_length] at hD
    simp -dsimp -implicitDefEqProofs [-getElem?_pos, go_sem, hP, t7]
    exact done_sl2 gi (by rw [encL_len]) (imm_dues D) (by rw [hD])
end Go.Proofs.YtkcfmmpcpdlfeaaGreatDoor
