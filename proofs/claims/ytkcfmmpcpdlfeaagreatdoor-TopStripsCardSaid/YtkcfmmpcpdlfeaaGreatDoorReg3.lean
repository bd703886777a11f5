/- Registers: searching; what a holder has; what is outstanding. -/
import Derived.Test.YtkcfmmpcpdlfeaaGreatDoorReg2
set_option linter.unusedSimpArgs false
set_option linter.unusedVariables false
namespace Go.Proofs.YtkcfmmpcpdlfeaaGreatDoor
open Go.PA
open Go.RowKit

theorem args_sl {H : Heap} {x : AV} {k : Nat} {es : List (List AV)} {xs ys : List AV} (h : SlIs H x k es) (hi : Imm (.list k es)) (ht : Args H xs ys) : Args H (x :: xs) (.list k es :: ys) := by
  rcases h with rfl | ⟨rfl, rfl⟩ | ⟨id, ty, rfl, hH⟩
  · exact args_imm hi ht
  · exact args_nilL ht
  · exact args_sref hH rfl hi ht
set_option maxHeartbeats 1000000 in
theorem bsf_pf_hol (l : List THolding) (k1 k2:Int) (g : FuncId) (cf : THolding → Int) (k : Nat) (hl : l.length ≤ 1000000) (hk : k ≤ l.length) (hen : enterable Tryz.prog g = true) (hm : ∀ h x, l[h]? = some x → (cf x < 0 ↔ h < k))
    (hg : ∀ a, a ∈ l → PFun Tryz.prog none none g [.agg (THolding.cells a), .agg ([iv k1,iv k2])] (· = iv (cf a))) :
    PFun Tryz.prog none none 115 [.list 3 (encL THolding.cells l), .agg ([iv k1,iv k2]), .fn g []] (· = .tup [iv k, bv ((l[k]?).any fun x => decide (cf x = 0))]) := by
  refine pfun_intro Tryz.func115 rfl (by simp [Tryz.f115]) (by kernel_rfl) ?_
  intro E hP hr hs hW hN
  have ik : Imm (.agg ([iv k1,iv k2])) := .agg (by simp -dsimp -implicitDefEqProofs [-getElem?_pos, go_sem])
  simp -dsimp -implicitDefEqProofs [-getElem?_pos, go_sem, hP, cHol]
  obtain ⟨I, hI⟩ : ∃ I : Nat → St → Prop, I = fun m s => ∃ i j : Nat, i ≤ k ∧ k ≤ j ∧ j ≤ l.length ∧ m = j - i ∧ s.t 0 = .list 3 (encL THolding.cells l) ∧ s.t 2 = .fn g [] ∧ s.t 4 = .ref 0 0 0 ∧ s.t 8 = iv l.length ∧ s.t 9 = iv i ∧ s.t 10 = iv j ∧ s.H[0]? = some (some ⟨160, 2, [[iv k1,iv k2]]⟩) := ⟨_, rfl⟩
  refine aloop0 I (l.length) (by rw [hN]; rfl) ?_ ?_
  · rw [hI]
    exact ⟨0, l.length, by omega, hk, by omega, rfl, by simp -dsimp -implicitDefEqProofs [-getElem?_pos, go_sem], by simp -dsimp -implicitDefEqProofs [-getElem?_pos, go_sem], by simp -dsimp -implicitDefEqProofs [-getElem?_pos, go_sem], by simp -dsimp -implicitDefEqProofs [-getElem?_pos, go_sem], by simp -dsimp -implicitDefEqProofs [-getElem?_pos, go_sem], by simp -dsimp -implicitDefEqProofs [-getElem?_pos, go_sem], by simp -dsimp -implicitDefEqProofs [-getElem?_pos, go_sem, cHol]⟩
  intro m s hs'
  rw [hI] at hs'
  obtain ⟨i, j, hi, hj, hjl, hm', t0, t2, t4, t8, t9, t10, hp⟩ := hs'
  have lt0 := (List.getElem?_eq_some_iff.1 hp).1
  simp -dsimp -implicitDefEqProofs [-getElem?_pos, go_sem, hP, t9, t10]
  refine condP (fun h => ?_) (fun h => ?_)
  · have hij : i < j := by simpa using h
    have w1 := wrap_in ((i : Int) + j) (by omega)
    have wu : IntKind.u64.wrap ((i : Int) + j) = (i : Int) + j := by rw [IntKind.wrap_u64]; omega
    obtain ⟨h, hh⟩ : ∃ h, h = (i + j) / 2 := ⟨_, rfl⟩
    have wh : IntKind.i64.wrap (((i : Int) + j) / 2) = (h : Int) := by rw [wrap_in _ (by omega)]; omega
    obtain ⟨a, ha⟩ : ∃ a, l[h]? = some a := ⟨_, List.getElem?_eq_getElem (by omega)⟩
    have hcmp := hm h a ha
    have w2 := wrap_in ((h : Int) + 1) (by omega)
    have ia : Imm (.agg (THolding.cells a)) := .agg fun c hc => THolding.imm a c hc
    have cm := hg a (List.mem_of_getElem? ha)
    rw [cHol] at cm ia
    simp -dsimp -implicitDefEqProofs [-getElem?_pos, go_sem, hP, t9, t10, w1, wu, aconv, aint_shr, wh]
    refine adrawB (fun _ => true) [] hP (by kernel_rfl) (by kernel_rfl) ?_
    simp -dsimp -implicitDefEqProofs [-getElem?_pos, go_sem, hP, t0, t2, t4, ha, hp, lt0, cHol]
    refine callB_is (cm.lift _ _) hP hen (by simpa using ⟨ia, ik⟩) .sc ?_
    by_cases c : cf a < 0
    · have c1 : decide (cf a < 0) = true := decide_eq_true c
      simp -dsimp -implicitDefEqProofs [-getElem?_pos, go_sem, hP, c1, w2]
      refine ⟨j - (h + 1), by omega, ?_⟩
      rw [hI]
      exact ⟨h + 1, j, by have := hcmp.1 c; omega, by omega, by omega, rfl, by simp -dsimp -implicitDefEqProofs [-getElem?_pos, go_sem, t0], by simp -dsimp -implicitDefEqProofs [-getElem?_pos, go_sem, t2], by simp -dsimp -implicitDefEqProofs [-getElem?_pos, go_sem, t4], by simp -dsimp -implicitDefEqProofs [-getElem?_pos, go_sem, t8], by simp -dsimp -implicitDefEqProofs [-getElem?_pos, go_sem], by simp -dsimp -implicitDefEqProofs [-getElem?_pos, go_sem, t10], by simp -dsimp -implicitDefEqProofs [-getElem?_pos, go_sem, hp]⟩
    · have c1 : decide (cf a < 0) = false := decide_eq_false c
      simp -dsimp -implicitDefEqProofs [-getElem?_pos, go_sem, hP, c1]
      refine ⟨h - i, by omega, ?_⟩
      rw [hI]
      exact ⟨i, h, by omega, by have := mt hcmp.2 c; omega, by omega, rfl, by simp -dsimp -implicitDefEqProofs [-getElem?_pos, go_sem, t0], by simp -dsimp -implicitDefEqProofs [-getElem?_pos, go_sem, t2], by simp -dsimp -implicitDefEqProofs [-getElem?_pos, go_sem, t4], by simp -dsimp -implicitDefEqProofs [-getElem?_pos, go_sem, t8], by simp -dsimp -implicitDefEqProofs [-getElem?_pos, go_sem, t9], by simp -dsimp -implicitDefEqProofs [-getElem?_pos, go_sem], by simp -dsimp -implicitDefEqProofs [-getElem?_pos, go_sem, hp]⟩
  · have hik : i = k := by
      have : ¬ i < j := by simpa using h
      omega
    subst hik
    simp -dsimp -implicitDefEqProofs [-getElem?_pos, go_sem, hP]
    refine adrawB (fun _ => true) [] hP (by kernel_rfl) (by kernel_rfl) ?_
    by_cases c : i < l.length
    · obtain ⟨a, ha⟩ : ∃ a, l[i]? = some a := ⟨_, List.getElem?_eq_getElem c⟩
      have d : decide ((i : Int) < (l.length : Int)) = true := decide_eq_true (by omega)
      have ia : Imm (.agg (THolding.cells a)) := .agg fun c hc => THolding.imm a c hc
      have cm := hg a (List.mem_of_getElem? ha)
      rw [cHol] at cm ia
      simp -dsimp -implicitDefEqProofs [-getElem?_pos, go_sem, hP, t9, t8, c, d, t0, t2, t4, ha, hp, lt0, cHol]
      refine callB_is (cm.lift _ _) hP hen (by simpa using ⟨ia, ik⟩) .sc ?_
      simp -dsimp -implicitDefEqProofs [-getElem?_pos, go_sem, hP, t9, t8, c, d, t0, t2, t4, ha, hp, lt0, cHol]
      exact done_imm (imm_pair .sc .sc) (by simp [ha])
    · have d : decide ((i : Int) < (l.length : Int)) = false := decide_eq_false (by omega)
      have n : l[i]? = none := List.getElem?_eq_none (by omega)
      simp -dsimp -implicitDefEqProofs [-getElem?_pos, go_sem, hP, t9, t8, c, d]
      exact done_imm (imm_pair .sc .sc) (by simp [n])

def cmpK (a1 a2 b1 b2 : Int) : Int := orI [cmpI a1 b1, cmpI a2 b2]
theorem cmpK_lt (a1 a2 b1 b2 : Int) : cmpK a1 a2 b1 b2 < 0 ↔ (a1 < b1 ∨ (a1 = b1 ∧ a2 < b2)) := by
  simp only [cmpK, orI, cmpI]
  repeat' split
  all_goals omega
theorem cmpK_eq (a1 a2 b1 b2 : Int) : cmpK a1 a2 b1 b2 = 0 ↔ (a1 = b1 ∧ a2 = b2) := by
  simp only [cmpK, orI, cmpI]
  repeat' split
  all_goals omega
theorem kcompare_pf (a1 a2 b1 b2 : Int) : PFun Tryz.prog none none 118 [.agg [iv a1, iv a2], .agg [iv b1, iv b2]] (· = iv (cmpK a1 a2 b1 b2)) := by
  refine pfun_intro Tryz.func118 rfl (by simp [Tryz.f118]) (by kernel_rfl) ?_
  intro E hP hr hs hW hN
  simp -dsimp -implicitDefEqProofs [-getElem?_pos, go_sem, hP]
  refine adrawB (fun _ => true) [] hP (by kernel_rfl) (by kernel_rfl) ?_
  simp -dsimp -implicitDefEqProofs [-getElem?_pos, go_sem, hP]
  refine callB_pure (compare_pf a1 b1) hP en_21 (args_same (by simp -dsimp -implicitDefEqProofs [-getElem?_pos, go_sem])) .sc ?_
  simp -dsimp -implicitDefEqProofs [-getElem?_pos, go_sem, hP]
  refine callB_pure (compare_pf a2 b2) hP en_21 (args_same (by simp -dsimp -implicitDefEqProofs [-getElem?_pos, go_sem])) .sc ?_
  simp -dsimp -implicitDefEqProofs [-getElem?_pos, go_sem, hP]
  refine callB_pure (or_pf [cmpI a1 b1, cmpI a2 b2] (by simp)) hP en_82 (args_same (by simp -dsimp -implicitDefEqProofs [-getElem?_pos, go_sem, intsL])) .sc ?_
  simp -dsimp -implicitDefEqProofs [-getElem?_pos, go_sem, hP, cmpK]
theorem of_pf (x : THolding) : PFun Tryz.prog none none 117 [.agg x.cells] (· = .agg [iv x.Security, iv x.Holder]) := by
  refine pfun_intro Tryz.func117 rfl (by simp [Tryz.f117]) (by kernel_rfl) ?_
  intro E hP hr hs hW hN
  simp -dsimp -implicitDefEqProofs [-getElem?_pos, go_sem, hP, cHol]
  exact done_imm (by simp -dsimp -implicitDefEqProofs [-getElem?_pos, go_sem]) rfl
theorem place1_pf (x : THolding) (k1 k2 : Int) : PFun Tryz.prog none none 116 [.agg x.cells, .agg [iv k1, iv k2]] (· = iv (cmpK x.Security x.Holder k1 k2)) := by
  refine pfun_intro Tryz.func116 rfl (by simp [Tryz.f116]) (by kernel_rfl) ?_
  intro E hP hr hs hW hN
  have ix := imm_hol x
  have op := of_pf x
  rw [cHol] at ix op
  simp -dsimp -implicitDefEqProofs [-getElem?_pos, go_sem, hP, cHol]
  refine adrawB (fun _ => true) [] hP (by kernel_rfl) (by kernel_rfl) ?_
  simp -dsimp -implicitDefEqProofs [-getElem?_pos, go_sem, hP]
  refine callB_is (op.lift _ _) hP en_117 (by simpa using ix) (by simp -dsimp -implicitDefEqProofs [-getElem?_pos, go_sem]) ?_
  simp -dsimp -implicitDefEqProofs [-getElem?_pos, go_sem, hP]
  refine callB_pure (kcompare_pf x.Security x.Holder k1 k2) hP en_118 (args_same (by simp -dsimp -implicitDefEqProofs [-getElem?_pos, go_sem])) .sc ?_
  simp -dsimp -implicitDefEqProofs [-getElem?_pos, go_sem, hP]
theorem place_m {row src : Option Nat} (c : Nat) (sx hx n d : AV) (l : List THolding) (id h : Int) (k : Nat) (H : Heap) (hc : H[c]? = some (some ⟨94, 4, [[sx, hx, n, d]]⟩)) (hsl : SlIs H hx 3 (encL THolding.cells l)) (hl : l.length ≤ 100000) (hk : k ≤ l.length) (hm : ∀ j x, l[j]? = some x → (hLt id h x = true ↔ j < k)) :
    MFun Tryz.prog row src 84 [.ref c 0 0, .agg [iv id, iv h]] H (fun r H' => r = .tup [iv k, bv ((l[k]?).any (hIs id h))] ∧ Kept [] H H') := by
  obtain ⟨C, hC⟩ : ∃ C : AV → Heap → Prop, C = fun r H' => r = .tup [iv k, bv ((l[k]?).any (hIs id h))] ∧ Kept [] H H' := ⟨_, rfl⟩
  rw [← hC]
  have ex : ∃ r H', C r H' := ⟨_, H, by rw [hC]; exact ⟨rfl, kept_refl _ _⟩⟩
  have pf := bsf_pf_hol l id h 116 (fun x => cmpK x.Security x.Holder id h) k (by omega) hk en_116 (fun j x hx => by
    rw [← hm j x hx, hLt_iff]
    exact cmpK_lt _ _ _ _) (fun a _ => place1_pf a id h)
  have e : (fun x : THolding => decide (cmpK x.Security x.Holder id h = 0)) = hIs id h := funext fun x => by
    rw [Bool.eq_iff_iff, hIs_iff, decide_eq_true_eq]
    exact cmpK_eq _ _ _ _
  rw [e] at pf
  have lc := (List.getElem?_eq_some_iff.1 hc).1
  obtain ⟨b, hb⟩ : ∃ b, b = (l[k]?).any (hIs id h) := ⟨_, rfl⟩
  rw [← hb] at pf hC
  refine mfun_intro Tryz.func84 rfl (by simp [Tryz.f84]) (by kernel_rfl) (ex) ?_
  intro E hP hr hs hN
  simp -dsimp -implicitDefEqProofs [-getElem?_pos, go_sem, hP]
  obtain ⟨H1, hH1⟩ : ∃ H1 : Heap, H1 = H ++ [some ⟨160, 2, [[iv id, iv h]]⟩] := ⟨_, rfl⟩
  have k1 : Kept [] H H1 := by rw [hH1]; exact kept_app _ _ _
  have c1 := k1 _ _ (by simp) hc
  have s1 := hsl.kept k1
  have a1 : H1[H.length]? = some (some ⟨160, 2, [[iv id, iv h]]⟩) := by rw [hH1]; simp
  have lt1 := (List.getElem?_eq_some_iff.1 a1).1
  have lc1 := (List.getElem?_eq_some_iff.1 c1).1
  simp only [← hH1]
  refine adrawB (fun _ => true) [] hP (by kernel_rfl) (by kernel_rfl) ?_
  simp -dsimp -implicitDefEqProofs [-getElem?_pos, go_sem, hP, c1, a1, lt1, lc1]
  refine callB_flat (pf.lift _ _) hP en_115 (args_sl s1 (imm_holds l) (args_same (by simp -dsimp -implicitDefEqProofs [-getElem?_pos, go_sem]))) ⟨_, rfl⟩ (by rintro r rfl; simp [flat_tup, flat_sc]) ?_
  rintro r rfl
  simp -dsimp -implicitDefEqProofs [-getElem?_pos, go_sem, hP]
  rw [hC]
  exact ⟨rfl, k1⟩
end Go.Proofs.YtkcfmmpcpdlfeaaGreatDoor
