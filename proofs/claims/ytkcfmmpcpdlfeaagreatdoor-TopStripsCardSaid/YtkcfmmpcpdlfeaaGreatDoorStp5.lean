/- Strips: the parts of a security. -/
import Derived.Test.YtkcfmmpcpdlfeaaGreatDoorStp4
set_option linter.unusedSimpArgs false
set_option linter.unusedVariables false
namespace Go.Proofs.YtkcfmmpcpdlfeaaGreatDoor
open Go.PA
open Go.RowKit

def mkP (b : TSecurity) (h d : Int) : TStrip := ⟨b.ID, d, false, h, 0⟩
def mkM (b : TSecurity) (h : Int) : TStrip := ⟨b.ID, b.Maturity, true, h, 0⟩
/-- All parts of a security. -/
def allP (b : TSecurity) (h : Int) : List TStrip := (daysS b).map (mkP b h) ++ [mkM b h]
theorem days_gt {b : TSecurity} (hb : BS b) : ∀ d, d ∈ daysS b → b.Issued < d := by
  obtain ⟨q, n, _, hq, _, _, hd⟩ := days_arith (secOk hb.ok) hb.ev
  intro d h
  rw [hd] at h
  obtain ⟨i, _, rfl⟩ := List.mem_map.1 h
  have : 0 < q * ((i : Int) + 1) := Int.mul_pos (by omega) (by omega)
  omega
theorem parts_all {b : TSecurity} (hb : BS b) (h : Int) : partsD b b.Issued h = allP b h := by
  unfold partsD allP
  rw [List.filter_eq_self.2 fun d hd => decide_eq_true (days_gt hb d hd)]
  rfl
theorem len_allP (b : TSecurity) (h : Int) : (allP b h).length = (daysS b).length + 1 := by simp [allP]
theorem allP_get {b : TSecurity} (h : Int) {k : Nat} (hk : k < (allP b h).length) : (∃ d, (daysS b)[k]? = some d ∧ (allP b h)[k]? = some (mkP b h d)) ∨ (k = (daysS b).length ∧ (allP b h)[k]? = some (mkM b h)) := by
  rw [len_allP] at hk
  by_cases hkn : k < (daysS b).length
  · obtain ⟨d, hd⟩ : ∃ d, (daysS b)[k]? = some d := ⟨_, List.getElem?_eq_getElem hkn⟩
    refine .inl ⟨d, hd, ?_⟩
    unfold allP
    rw [List.getElem?_append_left (by simpa using hkn), List.getElem?_map, hd]
    rfl
  · have e : k = (daysS b).length := by omega
    refine .inr ⟨e, ?_⟩
    unfold allP
    rw [List.getElem?_append_right (by simp; omega), e]
    simp
set_option maxHeartbeats 4000000 in
theorem sParts_m {row src : Option Nat} (b : TSecurity) (hb : BS b) (H : Heap) : MFun Tryz.prog row src 68 [.agg b.cells, iv b.Issued] H (fun r H' => ∃ id, r = .sref id 0 (allP b 0).length ∧ H.length ≤ id ∧ H'[id]? = some (some ⟨79, 5, encL TStrip.cells (allP b 0)⟩) ∧ Kept [] H H') := by
  have so := secOk hb.ok
  have sp := gsec_pf b hb.ok
  have dp := cdays_pf b hb.ok hb.ev
  have hgt := days_gt hb
  have iL := imm_intsX (daysS b)
  have ib := imm_sec b
  obtain ⟨_, hdl⟩ := days_ne hb
  have ap : allP b 0 = (daysS b).map (mkP b 0) ++ [mkM b 0] := rfl
  obtain ⟨P, hP0⟩ : ∃ P, P = allP b 0 := ⟨_, rfl⟩
  obtain ⟨L, hL⟩ : ∃ L, L = daysS b := ⟨_, rfl⟩
  rw [← hL] at dp hgt iL hdl ap
  rw [← hP0] at ap ⊢
  rw [cSec] at sp dp ib
  have he := hb.ev
  have m1 := so.mat
  have d1 : decide (b.Issued < b.Issued) = false := decide_eq_false (by omega)
  have d2 : decide (b.Maturity ≤ b.Issued) = false := decide_eq_false (by omega)
  obtain ⟨C, hC⟩ : ∃ C : AV → Heap → Prop, C = fun r H' => ∃ id, r = .sref id 0 P.length ∧ H.length ≤ id ∧ H'[id]? = some (some ⟨79, 5, encL TStrip.cells P⟩) ∧ Kept [] H H' := ⟨_, rfl⟩
  rw [← hC]
  have ex : ∃ r H', C r H' := by
    rw [hC]
    exact ⟨_, H ++ [some ⟨79, 5, encL TStrip.cells P⟩], H.length, rfl, Nat.le_refl _, by simp, kept_app _ _ _⟩
  refine mfun_intro Tryz.func68 rfl (by simp [Tryz.f68]) (by kernel_rfl) (ex) ?_
  intro E hP hr hs hN
  simp -dsimp -implicitDefEqProofs [-getElem?_pos, go_sem, hP, cSec]
  refine callB_pure sp hP en_22 (args_same (by simp -dsimp -implicitDefEqProofs [-getElem?_pos, go_sem])) .sc ?_
  simp -dsimp -implicitDefEqProofs [-getElem?_pos, go_sem, hP, he, d1, d2]
  refine callB_is (dp.lift _ _) hP en_12 (by simpa using ib) iL ?_
  simp -dsimp -implicitDefEqProofs [-getElem?_pos, go_sem, hP, intsL]
  obtain ⟨p, hp⟩ : ∃ p, p = H.length := ⟨_, rfl⟩
  refine aloop_own 5 79 5 (by simp -dsimp -implicitDefEqProofs [-getElem?_pos, go_sem]) ?_
  obtain ⟨I, hI⟩ : ∃ I : Nat → St → Prop, I = fun m s => ∃ (k id : Nat) (D : List TStrip), k ≤ L.length ∧ m = L.length - k ∧ D = (L.take k).map (mkP b 0) ∧ s.t 1 = iv b.Issued ∧ s.t 2 = .ref p 0 0 ∧ s.t 5 = .sref id 0 D.length ∧ s.t 29 = intsL L ∧ s.t 30 = iv L.length ∧ s.t 31 = iv k ∧ s.H[p]? = some (some ⟨28, 7, [[iv b.ID, iv b.Unit, iv b.Issued, iv b.Maturity, iv b.Rate, iv b.Every, bv b.Indexed]]⟩) ∧ p < id ∧ s.H[id]? = some (some ⟨79, 5, encL TStrip.cells D⟩) ∧ Kept [] H s.H := ⟨_, rfl⟩
  refine aloop0 I (L.length) (by rw [hN]; rfl) ?_ ?_
  · rw [hI]
    refine ⟨0, p + 1, [], by omega, by omega, rfl, by simp -dsimp -implicitDefEqProofs [-getElem?_pos, go_sem], by simp -dsimp -implicitDefEqProofs [-getElem?_pos, go_sem, hp], by simp -dsimp -implicitDefEqProofs [-getElem?_pos, go_sem, hp], by simp -dsimp -implicitDefEqProofs [-getElem?_pos, go_sem, intsL], by simp -dsimp -implicitDefEqProofs [-getElem?_pos, go_sem], by simp -dsimp -implicitDefEqProofs [-getElem?_pos, go_sem], by simp -dsimp -implicitDefEqProofs [-getElem?_pos, go_sem, hp], by omega, by simp -dsimp -implicitDefEqProofs [-getElem?_pos, go_sem, hp, encL], ?_⟩
    simp -dsimp -implicitDefEqProofs [-getElem?_pos, go_sem]
    exact kept_app _ _ _
  intro m s hs'
  rw [hI] at hs'
  obtain ⟨k, id, D, hk, hm, hD, t1, t2, t5, t29, t30, t31, g0, hid, gi, kp⟩ := hs'
  have l0 := (List.getElem?_eq_some_iff.1 g0).1
  have li := (List.getElem?_eq_some_iff.1 gi).1
  have hDl : D.length = k := by rw [hD]; simp; omega
  have n1 : ¬ id = p := by omega
  simp -dsimp -implicitDefEqProofs [-getElem?_pos, go_sem, hP, t30, t31]
  refine condP (fun hq => ?_) (fun hq => ?_)
  · have hk : k < L.length := by simpa using hq
    obtain ⟨a, ha⟩ : ∃ a, L[k]? = some a := ⟨_, List.getElem?_eq_getElem hk⟩
    have wk := wrap_in ((k : Int) + 1) (by omega)
    have dg : decide (b.Issued < a) = true := decide_eq_true (hgt a (List.mem_of_getElem? ha))
    have s0 : (s.H.set id none)[p]? = some (some ⟨28, 7, [[iv b.ID, iv b.Unit, iv b.Issued, iv b.Maturity, iv b.Rate, iv b.Every, bv b.Indexed]]⟩) := by rw [List.getElem?_set_ne n1]; exact g0
    simp -dsimp -implicitDefEqProofs [-getElem?_pos, go_sem, hP, t29, t31, ha, intsL, t1, dg, t2, g0, l0]
    simp -dsimp -implicitDefEqProofs [-getElem?_pos, go_sem, hP, t5, gi, li, encL_len, t31, wk]
    refine ⟨by omega, by omega, L.length - (k + 1), by omega, ?_⟩
    rw [hI]
    refine ⟨k + 1, s.H.length, D ++ [mkP b 0 a], by omega, rfl, by rw [hD, List.take_add_one, ha]; simp, by simp -dsimp -implicitDefEqProofs [-getElem?_pos, go_sem, t1], by simp -dsimp -implicitDefEqProofs [-getElem?_pos, go_sem, t2], by simp -dsimp -implicitDefEqProofs [-getElem?_pos, go_sem], by simp -dsimp -implicitDefEqProofs [-getElem?_pos, go_sem, t29], by simp -dsimp -implicitDefEqProofs [-getElem?_pos, go_sem, t30], by simp -dsimp -implicitDefEqProofs [-getElem?_pos, go_sem], ?_, by omega, ?_, ?_⟩
    · simp -dsimp -implicitDefEqProofs [-getElem?_pos, go_sem, s0, l0]
    · simp -dsimp -implicitDefEqProofs [-getElem?_pos, go_sem, encL, cStp, mkP]
    · simp -dsimp -implicitDefEqProofs [-getElem?_pos, go_sem]
      exact kept_push _ (kept_new _ (by omega) kp)
  · have hk : k = L.length := by simp at hq; omega
    subst hk
    rw [List.take_length] at hD
    simp -dsimp -implicitDefEqProofs [-getElem?_pos, go_sem, hP, t5, gi, li, encL_len, t2, g0, l0]
    refine ⟨by omega, by omega, ?_⟩
    rw [hC]
    refine ⟨s.H.length, by rw [ap, hD]; simp, by omega, ?_, kept_push _ (kept_new _ (by omega) kp)⟩
    rw [List.getElem?_append_right (by simp), ap, hD]
    simp [encL, cStp, mkM]
end Go.Proofs.YtkcfmmpcpdlfeaaGreatDoor
