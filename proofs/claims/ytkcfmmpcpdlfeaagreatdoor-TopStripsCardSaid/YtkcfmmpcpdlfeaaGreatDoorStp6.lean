/- Strips: the parts of a security, for a holder. -/
import Derived.Test.YtkcfmmpcpdlfeaaGreatDoorStp5
set_option linter.unusedSimpArgs false
set_option linter.unusedVariables false
namespace Go.Proofs.YtkcfmmpcpdlfeaaGreatDoor
open Go.PA
open Go.RowKit

theorem allP_pair {b : TSecurity} (h : Int) {k : Nat} (hk : k < (allP b 0).length) : (∃ d, (daysS b)[k]? = some d ∧ (allP b 0)[k]? = some (mkP b 0 d) ∧ (allP b h)[k]? = some (mkP b h d)) ∨ (k = (daysS b).length ∧ (allP b 0)[k]? = some (mkM b 0) ∧ (allP b h)[k]? = some (mkM b h)) := by
  have hk' : k < (allP b h).length := by rw [len_allP] at *; exact hk
  rcases allP_get 0 hk with ⟨d, h1, h2⟩ | ⟨h1, h2⟩ <;> rcases allP_get h hk' with ⟨d', h3, h4⟩ | ⟨h3, h4⟩
  · rw [h1] at h3
    cases h3
    exact .inl ⟨d, h1, h2, h4⟩
  · have := (List.getElem?_eq_some_iff.1 h1).1
    omega
  · have := (List.getElem?_eq_some_iff.1 h3).1
    omega
  · exact .inr ⟨h1, h2, h4⟩
set_option maxHeartbeats 4000000 in
theorem sparts_pf (b : TSecurity) (hb : BS b) (v : TVault) (S d h : Int) (ok : VOk b v S d) : PFun Tryz.prog none none 30 [.agg v.cells, .agg b.cells, iv b.Issued, iv h] (· = .tup [stripsL (allP b h), iv 0]) := by
  have hp : ∀ x, x ∈ v.Strips → 0 < x.Amount := fun x hx => (ok.el x hx).am.1
  have sb := ok.sb
  have len := ok.len
  have Pm := fun (H : Heap) => sParts_m (row := none) (src := none) b hb H
  have sd := sdays_pf b hb v.Strips S (by omega) hp (by omega) ok.sums
  obtain ⟨hne, hdl⟩ := days_ne hb
  have eq := eqInt_pf (daysS b) (by omega)
  have iL := imm_intsX (daysS b)
  have iD := imm_intsX (leftD b S)
  have il := imm_strips v.Strips
  have ib := imm_sec b
  have lD : leftD b S = if S = 0 then [] else daysS b := rfl
  have pair := fun (k : Nat) (hk : k < (allP b 0).length) => allP_pair (b := b) h hk
  have lP := len_allP b 0
  have lQ := len_allP b h
  have iQ := imm_strips (allP b h)
  obtain ⟨L, hL⟩ : ∃ L, L = daysS b := ⟨_, rfl⟩
  obtain ⟨D, hD⟩ : ∃ D, D = leftD b S := ⟨_, rfl⟩
  obtain ⟨P, hP0⟩ : ∃ P, P = allP b 0 := ⟨_, rfl⟩
  obtain ⟨Q, hQ0⟩ : ∃ Q, Q = allP b h := ⟨_, rfl⟩
  rw [← hL] at eq iL hne lD hdl lP lQ
  rw [← hP0] at lP
  rw [← hQ0] at lQ iQ ⊢
  rw [← hD] at sd iD lD
  have pair : ∀ (k : Nat), k < P.length → (∃ d, L[k]? = some d ∧ P[k]? = some (mkP b 0 d) ∧ Q[k]? = some (mkP b h d)) ∨ (k = L.length ∧ P[k]? = some (mkM b 0) ∧ Q[k]? = some (mkM b h)) := fun k hk => by
    have := pair k (by rw [← hP0]; exact hk)
    rwa [← hP0, ← hQ0, ← hL] at this
  have Pm : ∀ H : Heap, MFun Tryz.prog none none 68 [.agg b.cells, iv b.Issued] H (fun r H' => ∃ id, r = .sref id 0 P.length ∧ H.length ≤ id ∧ H'[id]? = some (some ⟨79, 5, encL TStrip.cells P⟩) ∧ Kept [] H H') := fun H => by rw [hP0]; exact Pm H
  clear hP0 hQ0
  rw [cSec] at sd ib Pm
  refine pfun_intro Tryz.func30 rfl (by simp [Tryz.f30]) (by kernel_rfl) ?_
  intro E hP hr hs hW hN
  simp -dsimp -implicitDefEqProofs [-getElem?_pos, go_sem, hP, cSec, cVlt]
  refine callB_m (by rw [hr, hs]; exact Pm _) hP en_68 ?_
  rintro r H1 ⟨o, rfl, ho2, ho, kp⟩
  simp only [List.length_cons, List.length_nil] at ho2
  have a0 := kp 0 _ (by simp) (by rfl)
  have a1 := kp 1 _ (by simp) (by rfl)
  have lo := (List.getElem?_eq_some_iff.1 ho).1
  have l0 := (List.getElem?_eq_some_iff.1 a0).1
  have l1 := (List.getElem?_eq_some_iff.1 a1).1
  clear kp
  simp -dsimp -implicitDefEqProofs [-getElem?_pos, go_sem, hP, ho, encL_len]
  refine aloop_own 11 3 1 (by simp -dsimp -implicitDefEqProofs [-getElem?_pos, go_sem]) ?_
  obtain ⟨I, hI⟩ : ∃ I : Nat → St → Prop, I = fun m s => ∃ (k q : Nat), k ≤ P.length ∧ m = P.length - k ∧ s.t 3 = iv h ∧ s.t 4 = .ref 0 0 0 ∧ s.t 5 = .ref 1 0 0 ∧ s.t 10 = .sref o 0 P.length ∧ s.t 11 = .sref q 0 (L.take k).length ∧ s.t 18 = iv P.length ∧ s.t 19 = iv k ∧ s.H[0]? = some (some ⟨40, 4, [[secsL v.Register.Securities, holdsL v.Register.Holdings, movesL v.Register.Moves, stripsL v.Strips]]⟩) ∧ s.H[1]? = some (some ⟨28, 7, [[iv b.ID, iv b.Unit, iv b.Issued, iv b.Maturity, iv b.Rate, iv b.Every, bv b.Indexed]]⟩) ∧ s.H[o]? = some (some ⟨79, 5, encL TStrip.cells (Q.take k ++ P.drop k)⟩) ∧ q ≠ o ∧ 2 ≤ q ∧ s.H[q]? = some (some ⟨3, 1, (L.take k).map fun x => [iv x]⟩) := ⟨_, rfl⟩
  refine aloop0 I (P.length) (by rw [hN]; rfl) ?_ ?_
  · rw [hI]
    refine ⟨0, H1.length, by omega, by omega, by simp -dsimp -implicitDefEqProofs [-getElem?_pos, go_sem], by simp -dsimp -implicitDefEqProofs [-getElem?_pos, go_sem], by simp -dsimp -implicitDefEqProofs [-getElem?_pos, go_sem], by simp -dsimp -implicitDefEqProofs [-getElem?_pos, go_sem], by simp -dsimp -implicitDefEqProofs [-getElem?_pos, go_sem], by simp -dsimp -implicitDefEqProofs [-getElem?_pos, go_sem], by simp -dsimp -implicitDefEqProofs [-getElem?_pos, go_sem], by simp -dsimp -implicitDefEqProofs [-getElem?_pos, go_sem, a0, l0], by simp -dsimp -implicitDefEqProofs [-getElem?_pos, go_sem, a1, l1], by simp -dsimp -implicitDefEqProofs [-getElem?_pos, go_sem, ho, lo], by omega, by omega, by simp -dsimp -implicitDefEqProofs [-getElem?_pos, go_sem]⟩
  intro m s hs'
  rw [hI] at hs'
  obtain ⟨k, q, hk, hm, t3, t4, t5, t10, t11, t18, t19, g0, g1, go, nqo, hq2, gq⟩ := hs'
  have lo := (List.getElem?_eq_some_iff.1 go).1
  have lq := (List.getElem?_eq_some_iff.1 gq).1
  have l0 := (List.getElem?_eq_some_iff.1 g0).1
  have l1 := (List.getElem?_eq_some_iff.1 g1).1
  simp -dsimp -implicitDefEqProofs [-getElem?_pos, go_sem, hP, t18, t19]
  refine condP (fun hq => ?_) (fun hq => ?_)
  · have hk : k < P.length := by simpa using hq
    have wk := wrap_in ((k : Int) + 1) (by omega)
    have hlen : (Q.take k ++ P.drop k).length = P.length := by simp; omega
    have hkl : k < (Q.take k ++ P.drop k).length := by omega
    have hset : ∀ x y, P[k]? = some x → Q[k]? = some y → (Q.take k ++ P.drop k).set k y = Q.take (k + 1) ++ P.drop (k + 1) := fun x y hx hy => by
      have hd : P.drop k = x :: P.drop (k + 1) := drop_atZ hx
      rw [List.set_append_right _ _ (by simp; omega), hd, List.take_add_one, hy]
      simp [Nat.min_eq_left (show k ≤ Q.length by omega)]
    have hget : ∀ x, P[k]? = some x → (Q.take k ++ P.drop k)[k]? = some x := fun x hx => by
      rw [List.getElem?_append_right (by simp; omega), List.getElem?_drop]
      simp [Nat.min_eq_left (show k ≤ Q.length by omega)]
      exact hx
    obtain ⟨R, hR⟩ : ∃ R, R = Q.take k ++ P.drop k := ⟨_, rfl⟩
    rw [← hR] at go hlen hkl hset hget
    have nqo' : ¬ o = q := fun e => nqo e.symm
    have n0 : ¬ o = 0 := by omega
    have n1 : ¬ o = 1 := by omega
    rcases pair k hk with ⟨dd, hd, hx, hy⟩ | ⟨hkn, hx, hy⟩
    · have e1 := hget _ hx
      have hkL := (List.getElem?_eq_some_iff.1 hd).1
      have ey : (encL TStrip.cells R).set k [iv b.ID, iv dd, bv false, iv h, iv 0] = encL TStrip.cells (Q.take (k + 1) ++ P.drop (k + 1)) := by rw [← hset _ _ hx hy, ← encL_set]; rfl
      have eg : (Q.take (k + 1) ++ P.drop (k + 1))[k]? = some (mkP b h dd) := by rw [← hset _ _ hx hy]; simp [hkl]
      have c0 : (mkP b 0 dd).cells = [iv b.ID, iv dd, bv false, iv 0, iv 0] := rfl
      have c1 : (mkP b h dd).cells = [iv b.ID, iv dd, bv false, iv h, iv 0] := rfl
      simp -dsimp -implicitDefEqProofs [-getElem?_pos, go_sem, hP, t10, t3, t19, go, lo, e1, c0, encL_len, hlen, hk, ey, eg, c1, t11, gq, lq, nqo, nqo']
      refine ⟨by omega, by omega, ?_⟩
      simp -dsimp -implicitDefEqProofs [-getElem?_pos, go_sem, hP, t19, wk]
      refine ⟨P.length - (k + 1), by omega, ?_⟩
      rw [hI]
      have hh : ∀ z : Nat, z ≠ o → z ≠ q → z < s.H.length → ∀ (x y : Option AObj), ((s.H.set o x).set q none ++ [y])[z]? = s.H[z]? := fun z h1 h2 h3 x y => by
        rw [List.getElem?_append_left (by simpa using h3), List.getElem?_set_ne (fun e => h2 e.symm), List.getElem?_set_ne (fun e => h1 e.symm)]
      have tk : L.take (k + 1) = L.take k ++ [dd] := by rw [List.take_add_one, hd]; rfl
      refine ⟨k + 1, s.H.length, by omega, rfl, by simp -dsimp -implicitDefEqProofs [-getElem?_pos, go_sem, t3], by simp -dsimp -implicitDefEqProofs [-getElem?_pos, go_sem, t4], by simp -dsimp -implicitDefEqProofs [-getElem?_pos, go_sem, t5], by simp -dsimp -implicitDefEqProofs [-getElem?_pos, go_sem, t10], ?_, by simp -dsimp -implicitDefEqProofs [-getElem?_pos, go_sem, t18], by simp -dsimp -implicitDefEqProofs [-getElem?_pos, go_sem], ?_, ?_, ?_, by omega, by omega, ?_⟩
      · simp -dsimp -implicitDefEqProofs [-getElem?_pos, go_sem, tk]
      · dsimp only
        rw [hh 0 (by omega) (by omega) l0]; exact g0
      · dsimp only
        rw [hh 1 (by omega) (by omega) l1]; exact g1
      · dsimp only
        rw [List.getElem?_append_left (by simpa using lo), List.getElem?_set_ne nqo]
        simp [lo]
      · dsimp only
        rw [List.getElem?_append_right (by simp), tk]
        simp
    · have e1 := hget _ hx
      have ey : (encL TStrip.cells R).set k [iv b.ID, iv b.Maturity, bv true, iv h, iv 0] = encL TStrip.cells (Q.take (k + 1) ++ P.drop (k + 1)) := by rw [← hset _ _ hx hy, ← encL_set]; rfl
      have eg : (Q.take (k + 1) ++ P.drop (k + 1))[k]? = some (mkM b h) := by rw [← hset _ _ hx hy]; simp [hkl]
      have c0 : (mkM b 0).cells = [iv b.ID, iv b.Maturity, bv true, iv 0, iv 0] := rfl
      have c1 : (mkM b h).cells = [iv b.ID, iv b.Maturity, bv true, iv h, iv 0] := rfl
      have tk : L.take (k + 1) = L.take k := by rw [List.take_of_length_le (by omega), List.take_of_length_le (by omega)]
      simp -dsimp -implicitDefEqProofs [-getElem?_pos, go_sem, hP, t10, t3, t19, go, lo, e1, c0, encL_len, hlen, hk, ey, eg, c1, wk]
      refine ⟨P.length - (k + 1), by omega, ?_⟩
      rw [hI]
      have hh : ∀ z : Nat, z ≠ o → ∀ (x : Option AObj), (s.H.set o x)[z]? = s.H[z]? := fun z h1 x => by
        rw [List.getElem?_set_ne (fun e => h1 e.symm)]
      refine ⟨k + 1, q, by omega, rfl, by simp -dsimp -implicitDefEqProofs [-getElem?_pos, go_sem, t3], by simp -dsimp -implicitDefEqProofs [-getElem?_pos, go_sem, t4], by simp -dsimp -implicitDefEqProofs [-getElem?_pos, go_sem, t5], by simp -dsimp -implicitDefEqProofs [-getElem?_pos, go_sem, t10], ?_, by simp -dsimp -implicitDefEqProofs [-getElem?_pos, go_sem, t18], by simp -dsimp -implicitDefEqProofs [-getElem?_pos, go_sem], ?_, ?_, ?_, nqo, hq2, ?_⟩
      · rw [tk]
        simp -dsimp -implicitDefEqProofs [-getElem?_pos, go_sem, t11]
      · dsimp only
        rw [hh 0 (by omega)]; exact g0
      · dsimp only
        rw [hh 1 (by omega)]; exact g1
      · dsimp only
        simp [lo]
      · dsimp only
        rw [hh q nqo, tk]; exact gq
  · have hk : k = P.length := by simp at hq; omega
    subst hk
    rw [List.drop_length, List.append_nil, List.take_of_length_le (by omega)] at go
    rw [List.take_of_length_le (show L.length ≤ P.length by omega)] at gq t11
    have lPn : ¬ P.length = 0 := by omega
    have lPi : ¬ (P.length : Int) = 0 := by omega
    simp -dsimp -implicitDefEqProofs [-getElem?_pos, go_sem, hP, t4, t5, g0, g1, l0, l1]
    refine callB_is (sd.lift _ _) hP en_69 (by simpa [il] using ib) iD ?_
    by_cases hS : S = 0
    · rw [if_pos hS] at lD
      rw [lD]
      simp -dsimp -implicitDefEqProofs [-getElem?_pos, go_sem, hP, t10, go, lo, encL_len, lPn, lPi, intsL]
      exact done_sl2 go (by rw [encL_len]; omega) iQ (by rfl)
    · rw [if_neg hS] at lD
      rw [lD]
      have l0 : 0 < L.length := by
        cases L with
        | nil => exact absurd rfl hne
        | cons _ _ => simp
      have dl : decide ((0 : Int) < (L.length : Int)) = true := decide_eq_true (by omega)
      simp -dsimp -implicitDefEqProofs [-getElem?_pos, go_sem, hP, t10, go, lo, encL_len, lPn, lPi, intsL, dl, t11, l0]
      refine callB_flat (eq.lift _ _) hP en_70 (args_imm iL (args_sref gq (by simp) iL (args_nil.2 trivial))) ⟨_, rfl⟩ (by rintro r rfl; simp [flat_sc]) ?_
      rintro r rfl
      simp -dsimp -implicitDefEqProofs [-getElem?_pos, go_sem, hP, t10]
      exact done_sl2 go (by rw [encL_len]; omega) iQ (by rfl)
end Go.Proofs.YtkcfmmpcpdlfeaaGreatDoor
