/- Taxes: what is expected, years, claims. -/
import Derived.Test.YtabdihohphlheaaGreatDoorTax3
import Derived.Test.YtabdihohphlheaaGreatDoorPaIns
set_option linter.unusedSimpArgs false
set_option linter.unusedVariables false
namespace Go.Proofs.YtabdihohphlheaaGreatDoor
open Go.PA
open Go.RowKit

def expectedD (l : List TTax) (a b : Int) : List TFlow × Int := if checkT l = 0 then (if (flowsD (fun _ d => btw d a b) l).length ≤ 400 then (flowsD (fun _ d => btw d a b) l, 0) else ([], 3)) else ([], checkT l)
theorem checkT_len {l : List TTax} (h : checkT l = 0) : l.length ≤ 20 ∧ ∀ t, t ∈ l → taxB t = true := by
  unfold checkT at h
  split at h
  · cases h
  · rename_i hl
    split at h
    · cases h
    · rename_i ha
      refine ⟨by omega, fun t ht => ?_⟩
      cases ht' : taxB t
      · exact absurd (List.any_eq_true.2 ⟨t, ht, by simp [ht']⟩) ha
      · rfl
theorem checkT_ok {l : List TTax} (h1 : l.length ≤ 20) (h2 : ∀ t, t ∈ l → taxB t = true) : checkT l = 0 := by
  rw [checkT, if_neg (by omega), if_neg]
  intro h
  obtain ⟨t, ht, he⟩ := List.any_eq_true.1 h
  rw [h2 t ht] at he
  cases he
theorem flowsD_len (w : TTax → Int → Bool) (l : List TTax) : (flowsD w l).length ≤ 60 * l.length := by rw [flowsD, ssort_len]; exact rawF_len w l 0

theorem texp1_pf (t : TTax) (d a b : Int) : PFun Tryz.prog none none 46 [.agg t.cells, iv d, .iref [iv a], .iref [iv b]] (· = bv (btw d a b)) := by
  refine pfun_intro Tryz.func46 rfl (by simp [Tryz.f46]) (by kernel_rfl) ?_
  intro E hP hr hs hW hN
  simp -dsimp -implicitDefEqProofs [-getElem?_pos, go_sem, hP, cTx]
  refine callB_pure (tamong_pf d a b) hP en_36 (args_same (by simp -dsimp -implicitDefEqProofs [-getElem?_pos, go_sem])) .sc ?_
  simp -dsimp -implicitDefEqProofs [-getElem?_pos, go_sem, hP]
theorem texpected_pf (l : List TTax) (hf : FitT l) (hl : l.length ≤ 1000000) (a b : Int) : PFun Tryz.prog none none 22 [taxesL l, iv a, iv b] (· = .tup [flowsL (expectedD l a b).1, iv (expectedD l a b).2]) := by
  refine pfun_intro Tryz.func22 rfl (by simp [Tryz.f22]) (by kernel_rfl) ?_
  intro E hP hr hs hW hN
  have it := imm_taxes l
  obtain ⟨R, hR⟩ : ∃ R, R = expectedD l a b := ⟨_, rfl⟩
  rw [← hR]
  simp -dsimp -implicitDefEqProofs [-getElem?_pos, go_sem, hP]
  refine callB_is ((tcheck_pf l hf hl).lift _ _) hP en_13 (by simpa using it) .sc ?_
  by_cases c : checkT l = 0
  rotate_left
  · have e : R = ([], checkT l) := by rw [hR, expectedD, if_neg c]
    have d := decide_eq_false c
    simp -dsimp -implicitDefEqProofs [-getElem?_pos, go_sem, hP, d]
    exact done_nil2 4 (by rw [e]; rfl)
  obtain ⟨l20, _⟩ := checkT_len c
  have fl := flows_pf (fun _ d => btw d a b) 46 [.iref [iv a], .iref [iv b]] l hf (by omega) en_46 (by simp [imm_iref, imm_sc]) (fun t _ d => texp1_pf t d a b)
  obtain ⟨fs, hfs⟩ : ∃ fs, fs = flowsD (fun _ d => btw d a b) l := ⟨_, rfl⟩
  have lf := flowsD_len (fun _ d => btw d a b) l
  rw [expectedD, if_pos c] at hR
  rw [← hfs] at fl lf hR
  simp -dsimp -implicitDefEqProofs [-getElem?_pos, go_sem, hP, c]
  refine callB_frz (fl.lift _ _) hP hW en_45 (args_imm it (args_fnc (cs := [.ref 0 0 0, .ref 1 0 0]) (by simp -dsimp -implicitDefEqProofs [-getElem?_pos, go_sem, viewR_ref]) (by simp [imm_iref, imm_sc]) (args_nil.2 trivial))) (imm_flows _) ?_
  by_cases h4 : fs.length ≤ 400
  · have d : decide ((400 : Int) < (fs.length : Int)) = false := decide_eq_false (by omega)
    rw [if_pos h4] at hR
    simp -dsimp -implicitDefEqProofs [-getElem?_pos, go_sem, hP, d]
    exact done_imm (imm_pair (imm_flows _) .sc) (by rw [hR])
  · have d : decide ((400 : Int) < (fs.length : Int)) = true := decide_eq_true (by omega)
    rw [if_neg h4] at hR
    simp -dsimp -implicitDefEqProofs [-getElem?_pos, go_sem, hP, d]
    exact done_nil2 4 (by rw [hR]; rfl)

theorem amountD_bd (t : TTax) : 0 ≤ amountD t ∧ amountD t ≤ 1000000000000 := by
  unfold amountD
  split
  · rename_i h
    obtain ⟨_, _, h3, h4, h5, _⟩ := taxB_iff.1 h
    unfold shareD
    split
    · rename_i hs
      simp only [Bool.and_eq_true, decide_eq_true_eq] at hs
      refine ⟨Int.ediv_nonneg ?_ (by omega), hs.2⟩
      have : 0 ≤ 2 * t.Base * t.Num := Int.mul_nonneg (by omega) (by omega)
      omega
    · simp
  · simp

/-! ### Parts of codes -/
def underB (c top : ByteArray) : Bool := decide (0 < (partsD top).length) && decide ((partsD top).length ≤ (partsD c).length) && decide ((partsD c).take (partsD top).length = partsD top)
theorem eqInts_pf (a b : List Int) (ha : a.length ≤ 100000) (hb : b.length ≤ 100000) : PFun Tryz.prog none none 61 [intsL a, intsL b] (· = bv (decide (a = b))) := by
  refine pfun_intro Tryz.func61 rfl (by simp [Tryz.f61]) (by kernel_rfl) ?_
  intro E hP hr hs hW hN
  by_cases hlen : a.length = b.length
  rotate_left
  · have hne : ¬ a = b := fun h => hlen (by rw [h])
    have hl : decide ((a.length : Int) = (b.length : Int)) = false := by simp; omega
    simp -dsimp -implicitDefEqProofs [-getElem?_pos, go_sem, hP, hl, hne, intsL]
  have hl : decide ((a.length : Int) = (b.length : Int)) = true := by simp; omega
  simp -dsimp -implicitDefEqProofs [-getElem?_pos, go_sem, hP, hl, intsL]
  obtain ⟨I, hI⟩ : ∃ I : Nat → St → Prop, I = fun m s => ∃ k : Nat, k ≤ a.length ∧ m = a.length - k ∧ s.t 0 = intsL a ∧ s.t 1 = intsL b ∧ s.t 12 = iv a.length ∧ s.t 13 = iv k ∧ a.take k = b.take k := ⟨_, rfl⟩
  refine aloop0 I (a.length) (by rw [hN]; rfl) ?_ ?_
  · rw [hI]
    exact ⟨0, by omega, by omega, by simp -dsimp -implicitDefEqProofs [-getElem?_pos, go_sem, intsL], by simp -dsimp -implicitDefEqProofs [-getElem?_pos, go_sem, intsL], by simp -dsimp -implicitDefEqProofs [-getElem?_pos, go_sem, intsL], by simp -dsimp -implicitDefEqProofs [-getElem?_pos, go_sem], by simp⟩
  intro m s hs'
  rw [hI] at hs'
  obtain ⟨k, hk, hm, t0, t1, t12, t13, heq⟩ := hs'
  simp -dsimp -implicitDefEqProofs [-getElem?_pos, go_sem, hP, t12, t13]
  refine condP (fun h => ?_) (fun h => ?_)
  · have hk : k < a.length := by simpa using h
    obtain ⟨x, hx⟩ : ∃ x, a[k]? = some x := ⟨_, List.getElem?_eq_getElem hk⟩
    obtain ⟨y, hy⟩ : ∃ y, b[k]? = some y := ⟨_, List.getElem?_eq_getElem (by omega)⟩
    have wk := wrap_in ((k : Int) + 1) (by omega)
    have tx : a.take (k + 1) = a.take k ++ [x] := by rw [List.take_add_one, hx]; rfl
    have ty : b.take (k + 1) = b.take k ++ [y] := by rw [List.take_add_one, hy]; rfl
    simp -dsimp -implicitDefEqProofs [-getElem?_pos, go_sem, hP, t13]
    refine adrawB (fun _ => true) [] hP (by kernel_rfl) (by kernel_rfl) ?_
    by_cases hxy : x = y
    · subst hxy
      simp -dsimp -implicitDefEqProofs [-getElem?_pos, go_sem, hP, t0, t1, hx, hy, intsL, t13, wk]
      refine ⟨a.length - (k + 1), by omega, ?_⟩
      rw [hI]
      exact ⟨k + 1, by omega, rfl, by simp -dsimp -implicitDefEqProofs [-getElem?_pos, go_sem, t0], by simp -dsimp -implicitDefEqProofs [-getElem?_pos, go_sem, t1], by simp -dsimp -implicitDefEqProofs [-getElem?_pos, go_sem, t12], by simp -dsimp -implicitDefEqProofs [-getElem?_pos, go_sem], by rw [tx, ty, heq]⟩
    · have hne : ¬ a = b := fun h => by
        subst h
        rw [hx] at hy
        exact hxy (Option.some.inj hy)
      have dxy : decide (x = y) = false := decide_eq_false hxy
      simp -dsimp -implicitDefEqProofs [-getElem?_pos, go_sem, hP, t0, t1, hx, hy, intsL, t13, wk, dxy, hne]
  · have hk : k = a.length := by
      have : ¬ k < a.length := by simpa using h
      omega
    subst hk
    rw [List.take_length] at heq
    rw [hlen, List.take_length] at heq
    simp -dsimp -implicitDefEqProofs [-getElem?_pos, go_sem, hP, heq]

theorem imm_ints (l : List Int) : Imm (intsL l) := by simp [intsL, go_sem]
theorem partsD_len (s : ByteArray) : (partsD s).length ≤ 4 := by
  unfold partsD
  split
  · split
    · assumption
    · simp
  · simp
theorem tunder_pf (c top : ByteArray) (h1 : c.size ≤ 1000000) (h2 : top.size ≤ 1000000) : PFun Tryz.prog none none 48 [.sc (.string c), .sc (.string top)] (· = bv (underB c top)) := by
  refine pfun_intro Tryz.func48 rfl (by simp [Tryz.f48]) (by kernel_rfl) ?_
  intro E hP hr hs hW hN
  have p1 := parts_pf c h1
  have p2 := parts_pf top h2
  have l1 := partsD_len c
  have l2 := partsD_len top
  obtain ⟨U, hU⟩ : ∃ U, U = underB c top := ⟨_, rfl⟩
  rw [← hU]
  rw [underB] at hU
  obtain ⟨x, hx⟩ : ∃ x, x = partsD c := ⟨_, rfl⟩
  obtain ⟨y, hy⟩ : ∃ y, y = partsD top := ⟨_, rfl⟩
  rw [← hx, ← hy] at hU
  rw [← hx] at p1 l1
  rw [← hy] at p2 l2
  simp -dsimp -implicitDefEqProofs [-getElem?_pos, go_sem, hP]
  refine callB_is (p1.lift _ _) hP en_35 (by simp -dsimp -implicitDefEqProofs [-getElem?_pos, go_sem]) (imm_ints x) ?_
  simp -dsimp -implicitDefEqProofs [-getElem?_pos, go_sem, hP]
  refine callB_is (p2.lift _ _) hP en_35 (by simp -dsimp -implicitDefEqProofs [-getElem?_pos, go_sem]) (imm_ints y) ?_
  by_cases c1 : 0 < y.length
  rotate_left
  · have d1 := decide_eq_false c1
    simp -dsimp -implicitDefEqProofs [-getElem?_pos, go_sem, hP, intsL, d1]
    rw [hU, d1]; rfl
  have d1 := decide_eq_true c1
  by_cases c2 : y.length ≤ x.length
  rotate_left
  · have d2 := decide_eq_false c2
    simp -dsimp -implicitDefEqProofs [-getElem?_pos, go_sem, hP, intsL, d1, d2]
    rw [hU, d1, d2]; rfl
  have d2 := decide_eq_true c2
  rw [d1, d2, Bool.true_and, Bool.true_and] at hU
  have eq := eqInts_pf (x.take y.length) y (by rw [List.length_take]; omega) (by omega)
  simp -dsimp -implicitDefEqProofs [-getElem?_pos, go_sem, hP, intsL, d1, d2, asliceOp, bound, aslice, c2]
  rw [show (List.map (fun x => [iv x]) x).take y.length = (x.take y.length).map fun x => [iv x] from List.map_take.symm]
  refine callB_pure eq hP en_61 (args_same (by have i1 := imm_ints (x.take y.length); have i2 := imm_ints y; rw [intsL] at i1 i2; intro z hz; rcases List.mem_cons.1 hz with rfl | hz; exact i1; rw [List.mem_singleton.1 hz]; exact i2)) .sc ?_
  simp -dsimp -implicitDefEqProofs [-getElem?_pos, go_sem, hP]
  rw [hU]
end Go.Proofs.YtabdihohphlheaaGreatDoor
