/- Coupons: what is pending, as a list of one's own. -/
import Derived.Test.YtkcfmmpcpdlfeaaGreatDoorCpn3
set_option linter.unusedSimpArgs false
set_option linter.unusedVariables false
namespace Go.Proofs.YtkcfmmpcpdlfeaaGreatDoor
open Go.PA
open Go.RowKit

set_option maxHeartbeats 4000000 in
theorem cpending_m {row src : Option Nat} (b : TSecurity) (r : TRegister) (d day : Int) (H : Heap) (hb : secB b = true) (he : b.Every ≠ 0) (hid : b.ID = 1) (ok : RegOk r d) (hsec : r.Securities = [b]) (hh : ∀ x, x ∈ r.Holdings → x.Security = 1 ∧ 0 < x.Amount ∧ x.Amount ≤ 1000000000) (hd : ∀ m, m ∈ r.Moves → m.Day ≤ day) (hdr : 0 ≤ day ∧ day ≤ 35990) : MFun Tryz.prog row src 33 [.agg r.cells, iv day] H (fun x H' => ∃ id, x = .tup [.sref id 0 (duesR b r.Holdings day).length, iv 0] ∧ H.length ≤ id ∧ H'[id]? = some (some ⟨50, 5, encL TDue.cells (duesR b r.Holdings day)⟩) ∧ Kept [] H H') := by
  have ck := gcheck_pf r d ok
  have ir := imm_reg r
  have ap := gat_pf r d day ok hd
  have ih := imm_holds r.Holdings
  have h4 := ok.hl.len
  have hml := ok.mlen
  have hbd := bet_yes hdr
  have fp := gfindX_pf r 1 (by rw [hsec]; simp)
  have ef : findR r.Securities 1 = (b, true) := by rw [findR, findS, hsec]; simp [hid]
  rw [ef] at fp
  have ib := imm_sec b
  have ldr := len_duesR b day
  rw [cReg] at ck ir ap fp
  obtain ⟨L, hL⟩ : ∃ L, L = r.Holdings := ⟨_, rfl⟩
  have hLl : L.length ≤ 800 := by rw [hL]; omega
  obtain ⟨C, hC⟩ : ∃ C : AV → Heap → Prop, C = fun x H' => ∃ id, x = .tup [.sref id 0 (duesR b r.Holdings day).length, iv 0] ∧ H.length ≤ id ∧ H'[id]? = some (some ⟨50, 5, encL TDue.cells (duesR b r.Holdings day)⟩) ∧ Kept [] H H' := ⟨_, rfl⟩
  rw [← hC]
  have ex : ∃ r H', C r H' := by
    rw [hC]
    exact ⟨_, H ++ [some ⟨50, 5, encL TDue.cells (duesR b r.Holdings day)⟩], H.length, rfl, Nat.le_refl _, by simp, kept_app _ _ _⟩
  refine mfun_intro Tryz.func33 rfl (by simp [Tryz.f33]) (by kernel_rfl) (ex) ?_
  intro E hP hr hs hN
  simp -dsimp -implicitDefEqProofs [-getElem?_pos, go_sem, hP, cReg]
  refine callB_is (ck.lift _ _) hP en_18 (by simpa using ir) .sc ?_
  simp -dsimp -implicitDefEqProofs [-getElem?_pos, go_sem, hP]
  refine callB_pure (camong_pf day 0 35990) hP en_74 (args_same (by simp -dsimp -implicitDefEqProofs [-getElem?_pos, go_sem])) .sc ?_
  simp -dsimp -implicitDefEqProofs [-getElem?_pos, go_sem, hP, hbd]
  refine callB_is (ap.lift _ _) hP en_75 (by simpa [imm_sc] using ir) ih ?_
  rw [← hL] at ir fp hh hC
  rw [← hL]
  obtain ⟨p, hp⟩ : ∃ p, p = H.length := ⟨_, rfl⟩
  simp -dsimp -implicitDefEqProofs [-getElem?_pos, go_sem, hP, encL_len]
  refine aloop_own 7 50 5 (by simp -dsimp -implicitDefEqProofs [-getElem?_pos, go_sem]) ?_
  obtain ⟨I, hI⟩ : ∃ I : Nat → St → Prop, I = fun m s => ∃ (k id : Nat) (D : List TDue), k ≤ L.length ∧ m = L.length - k ∧ D = duesR b (L.take k) day ∧ s.t 1 = iv day ∧ s.t 2 = .ref p 0 0 ∧ s.t 7 = .sref id 0 D.length ∧ s.t 22 = holdsL L ∧ s.t 23 = iv L.length ∧ s.t 24 = iv k ∧ s.H[p]? = some (some ⟨33, 3, [[secsL r.Securities, holdsL L, movesL r.Moves]]⟩) ∧ p < id ∧ s.H[id]? = some (some ⟨50, 5, encL TDue.cells D⟩) ∧ Kept [] H s.H := ⟨_, rfl⟩
  refine aloop0 I (L.length) (by rw [hN]; rfl) ?_ ?_
  · rw [hI]
    refine ⟨0, p + 1, [], by omega, by omega, by simp [duesR], by simp -dsimp -implicitDefEqProofs [-getElem?_pos, go_sem], by simp -dsimp -implicitDefEqProofs [-getElem?_pos, go_sem, hp], by simp -dsimp -implicitDefEqProofs [-getElem?_pos, go_sem, hp], by simp -dsimp -implicitDefEqProofs [-getElem?_pos, go_sem], by simp -dsimp -implicitDefEqProofs [-getElem?_pos, go_sem], by simp -dsimp -implicitDefEqProofs [-getElem?_pos, go_sem], by simp -dsimp -implicitDefEqProofs [-getElem?_pos, go_sem, hp], by omega, by simp -dsimp -implicitDefEqProofs [-getElem?_pos, go_sem, hp, encL], ?_⟩
    simp -dsimp -implicitDefEqProofs [-getElem?_pos, go_sem]
    exact kept_app _ _ _
  intro m s hs'
  rw [hI] at hs'
  obtain ⟨k, id, D, hk, hm, hD, t1, t2, t7, t22, t23, t24, g0, hid0, gi, kp⟩ := hs'
  have l0 := (List.getElem?_eq_some_iff.1 g0).1
  have li := (List.getElem?_eq_some_iff.1 gi).1
  simp -dsimp -implicitDefEqProofs [-getElem?_pos, go_sem, hP, t23, t24]
  refine condP (fun hq => ?_) (fun hq => ?_)
  · have hk : k < L.length := by simpa using hq
    obtain ⟨a, ha⟩ : ∃ a, L[k]? = some a := ⟨_, List.getElem?_eq_getElem hk⟩
    have wk := wrap_in ((k : Int) + 1) (by omega)
    have hha := hh a (List.mem_of_getElem? ha)
    have pp := cplain_pf b a day hb he hha.2
    have ia := imm_hol a
    have iP := imm_dues (dueH b day a)
    have hld := ldr (L.take k)
    rw [← hD, List.length_take] at hld
    have lp := len_dueH b day a
    rw [cSec, cHol, hha.1] at pp
    rw [cHol, hha.1] at ia
    have g0' : ∀ x : Heap, (s.H ++ x)[p]? = some (some ⟨33, 3, [[secsL r.Securities, holdsL L, movesL r.Moves]]⟩) := fun x => by rw [List.getElem?_append_left l0]; exact g0
    have gi' : ∀ x : Heap, (s.H ++ x)[id]? = some (some ⟨50, 5, encL TDue.cells D⟩) := fun x => by rw [List.getElem?_append_left li]; exact gi
    simp -dsimp -implicitDefEqProofs [-getElem?_pos, go_sem, hP, t22, t24, ha, cHol]
    simp -dsimp -implicitDefEqProofs [-getElem?_pos, go_sem, hP, t2, g0', hha.1]
    refine callB_is (fp.lift _ _) hP en_36 (by simpa [imm_sc] using ir) (imm_pair ib .sc) ?_
    simp -dsimp -implicitDefEqProofs [-getElem?_pos, go_sem, hP, cSec, t7, t1]
    refine callB_is (pp.lift _ _) hP en_76 (by simpa [imm_sc] using ⟨(by rw [← cSec]; exact ib), ia⟩) iP ?_
    obtain ⟨P, hP2⟩ : ∃ P, P = dueH b day a := ⟨_, rfl⟩
    rw [← hP2] at lp ⊢
    obtain ⟨S, hS⟩ : ∃ S : Heap, S = s.H ++ [some ⟨70, 3, [[iv 1, iv a.Holder, iv a.Amount]]⟩, some ⟨28, 7, [[iv b.ID, iv b.Unit, iv b.Issued, iv b.Maturity, iv b.Rate, iv b.Every, bv b.Indexed]]⟩] := ⟨_, rfl⟩
    have gS := gi' [some ⟨70, 3, [[iv 1, iv a.Holder, iv a.Amount]]⟩, some ⟨28, 7, [[iv b.ID, iv b.Unit, iv b.Issued, iv b.Maturity, iv b.Rate, iv b.Every, bv b.Indexed]]⟩]
    have g0S := g0' [some ⟨70, 3, [[iv 1, iv a.Holder, iv a.Amount]]⟩, some ⟨28, 7, [[iv b.ID, iv b.Unit, iv b.Issued, iv b.Maturity, iv b.Rate, iv b.Every, bv b.Indexed]]⟩]
    rw [← hS] at gS g0S
    rw [← hS]
    have lS := (List.getElem?_eq_some_iff.1 gS).1
    simp -dsimp -implicitDefEqProofs [-getElem?_pos, go_sem, hP, t7, gS, lS, encL_len, t24, wk]
    refine ⟨by omega, by omega, L.length - (k + 1), by omega, ?_⟩
    rw [hI]
    have ls0 : p < S.length := by omega
    have s0 : (S.set id none)[p]? = some (some ⟨33, 3, [[secsL r.Securities, holdsL L, movesL r.Moves]]⟩) := by rw [List.getElem?_set_ne (by omega)]; exact g0S
    refine ⟨k + 1, S.length, D ++ P, by omega, rfl, by rw [duesR_succ b L day ha, ← hD, hP2], by simp -dsimp -implicitDefEqProofs [-getElem?_pos, go_sem, t1], by simp -dsimp -implicitDefEqProofs [-getElem?_pos, go_sem, t2], by simp -dsimp -implicitDefEqProofs [-getElem?_pos, go_sem], by simp -dsimp -implicitDefEqProofs [-getElem?_pos, go_sem, t22], by simp -dsimp -implicitDefEqProofs [-getElem?_pos, go_sem, t23], by simp -dsimp -implicitDefEqProofs [-getElem?_pos, go_sem], ?_, by omega, ?_, ?_⟩
    · simp -dsimp -implicitDefEqProofs [-getElem?_pos, go_sem, s0, ls0]
    · simp -dsimp -implicitDefEqProofs [-getElem?_pos, go_sem, encL_app]
    · simp -dsimp -implicitDefEqProofs [-getElem?_pos, go_sem]
      exact kept_push _ (kept_new _ (by omega) (kp.trans (by rw [hS]; exact kept_app _ _ _)))
  · have hk : k = L.length := by simp at hq; omega
    subst hk
    rw [List.take_length] at hD
    simp -dsimp -implicitDefEqProofs [-getElem?_pos, go_sem, hP, t7]
    rw [hC]
    exact ⟨id, by rw [hD], by omega, by rw [← hD]; exact gi, kp⟩
end Go.Proofs.YtkcfmmpcpdlfeaaGreatDoor
