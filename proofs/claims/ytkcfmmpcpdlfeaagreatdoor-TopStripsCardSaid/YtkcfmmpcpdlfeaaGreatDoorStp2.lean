/- Strips: the days; what is covered. -/
import Derived.Test.YtkcfmmpcpdlfeaaGreatDoorStp1
set_option linter.unusedSimpArgs false
set_option linter.unusedVariables false
namespace Go.Proofs.YtkcfmmpcpdlfeaaGreatDoor
open Go.PA
open Go.RowKit

theorem index_zp (l : List Int) (g : FuncId) (caps : List AV) (p : Int → Bool) (hl : l.length ≤ 1000000) (hen : enterable Tryz.prog g = true) (hcap : ∀ a, a ∈ caps → Imm a)
    (hg : ∀ a, a ∈ l → PFun Tryz.prog none none g (iv a :: caps) (· = bv (p a))) :
    PFun Tryz.prog none none 120 [intsL l, .fn g caps] (· = iv (idxI p l)) := by
  refine pfun_intro Tryz.func120 rfl (by simp [Tryz.f120]) (by kernel_rfl) ?_
  intro E hP hr hs hW hN
  simp -dsimp -implicitDefEqProofs [-getElem?_pos, go_sem, hP, intsL]
  obtain ⟨I, hI⟩ : ∃ I : Nat → St → Prop, I = fun m s => ∃ k : Nat, k ≤ l.length ∧ m = l.length - k ∧ idxI p l = idxFrom p k (l.drop k) ∧ s.t 0 = intsL l ∧ s.t 1 = .fn g caps ∧ s.t 7 = iv l.length ∧ s.t 8 = iv k := ⟨_, rfl⟩
  refine aloop0 I (l.length) (by rw [hN]; rfl) ?_ ?_
  · rw [hI]
    exact ⟨0, by omega, by omega, by simp [idxI], by simp -dsimp -implicitDefEqProofs [-getElem?_pos, go_sem, intsL], by simp -dsimp -implicitDefEqProofs [-getElem?_pos, go_sem], by simp -dsimp -implicitDefEqProofs [-getElem?_pos, go_sem], by simp -dsimp -implicitDefEqProofs [-getElem?_pos, go_sem]⟩
  intro m s hs'
  rw [hI] at hs'
  obtain ⟨k, hk, hm, hi, t0, t1, t7, t8⟩ := hs'
  simp -dsimp -implicitDefEqProofs [-getElem?_pos, go_sem, hP, t7, t8]
  refine condP (fun h => ?_) (fun h => ?_)
  · have hk : k < l.length := by simpa using h
    obtain ⟨a, ha⟩ : ∃ a, l[k]? = some a := ⟨_, List.getElem?_eq_getElem hk⟩
    have wk := wrap_in ((k : Int) + 1) (by omega)
    have hd : l.drop k = a :: l.drop (k + 1) := by
      rw [List.getElem?_eq_getElem hk] at ha
      rw [List.drop_eq_getElem_cons hk, Option.some.inj ha]
    simp -dsimp -implicitDefEqProofs [-getElem?_pos, go_sem, hP, t8, t1, t0, ha, intsL]
    refine callB_is ((hg a (List.mem_of_getElem? ha)).lift _ _) hP hen (fun x hx => ?_) .sc ?_
    · rcases List.mem_cons.1 hx with rfl | hx
      · exact .sc
      · exact hcap x hx
    rw [hd] at hi
    simp only [idxFrom] at hi
    simp -dsimp -implicitDefEqProofs [-getElem?_pos, go_sem, hP]
    refine condP (fun hp => ?_) (fun hp => ?_)
    · rw [if_pos hp] at hi
      simp -dsimp -implicitDefEqProofs [-getElem?_pos, go_sem, hP]
      exact hi.symm
    · rw [hp, if_neg (by simp)] at hi
      simp -dsimp -implicitDefEqProofs [-getElem?_pos, go_sem, hP, t8, wk]
      refine ⟨l.length - (k + 1), by omega, ?_⟩
      rw [hI]
      exact ⟨k + 1, by omega, rfl, hi, by simp -dsimp -implicitDefEqProofs [-getElem?_pos, go_sem, t0], by simp -dsimp -implicitDefEqProofs [-getElem?_pos, go_sem, t1], by simp -dsimp -implicitDefEqProofs [-getElem?_pos, go_sem, t7], by simp -dsimp -implicitDefEqProofs [-getElem?_pos, go_sem]⟩
  · have hk : k = l.length := by simp at h; omega
    subst hk
    rw [List.drop_length] at hi
    simp -dsimp -implicitDefEqProofs [-getElem?_pos, go_sem, hP]
    exact hi.symm
theorem contains_zp (l : List Int) (g : FuncId) (caps : List AV) (p : Int → Bool) (hl : l.length ≤ 1000000) (hen : enterable Tryz.prog g = true) (hcap : ∀ a, a ∈ caps → Imm a)
    (hg : ∀ a, a ∈ l → PFun Tryz.prog none none g (iv a :: caps) (· = bv (p a))) :
    PFun Tryz.prog none none 90 [intsL l, .fn g caps] (· = bv (l.any p)) := by
  refine pfun_intro Tryz.func90 rfl (by simp [Tryz.f90]) (by kernel_rfl) ?_
  intro E hP hr hs hW hN
  obtain ⟨w, hw⟩ : ∃ w, w = l.any p := ⟨_, rfl⟩
  rw [← hw]
  have hi : ∀ a, a ∈ [intsL l, .fn g caps] → Imm a := fun a ha => by
    simp only [List.mem_cons, List.not_mem_nil, or_false] at ha
    rcases ha with rfl | rfl
    · exact imm_intsX l
    · exact imm_fn.2 hcap
  simp -dsimp -implicitDefEqProofs [-getElem?_pos, go_sem, hP]
  refine callB_is ((index_zp l g caps p hl hen hcap hg).lift _ _) hP en_120 hi .sc ?_
  rcases idxI_spec p l with ⟨h1, h2⟩ | ⟨i, a, h1, h2, h3, _⟩
  · have : w = false := by rw [hw]; exact List.any_eq_false.2 fun a ha => by simp [h2 a ha]
    simp -dsimp -implicitDefEqProofs [-getElem?_pos, go_sem, hP, h1, this]
  · have d : decide ((0 : Int) ≤ (i : Int)) = true := decide_eq_true (by omega)
    have : w = true := by rw [hw]; exact List.any_eq_true.2 ⟨a, List.mem_of_getElem? h1, h2⟩
    simp -dsimp -implicitDefEqProofs [-getElem?_pos, go_sem, hP, h3, d, this]
theorem eqInt_pf (l : List Int) (hl : l.length ≤ 100000) : PFun Tryz.prog none none 70 [intsL l, intsL l] (· = bv true) := by
  refine pfun_intro Tryz.func70 rfl (by simp [Tryz.f70]) (by kernel_rfl) ?_
  intro E hP hr hs hW hN
  simp -dsimp -implicitDefEqProofs [-getElem?_pos, go_sem, hP, intsL]
  obtain ⟨I, hI⟩ : ∃ I : Nat → St → Prop, I = fun m s => ∃ k : Nat, k ≤ l.length ∧ m = l.length - k ∧ s.t 0 = intsL l ∧ s.t 1 = intsL l ∧ s.t 12 = iv l.length ∧ s.t 13 = iv k := ⟨_, rfl⟩
  refine aloop0 I (l.length) (by rw [hN]; rfl) ?_ ?_
  · rw [hI]
    exact ⟨0, by omega, by omega, by simp -dsimp -implicitDefEqProofs [-getElem?_pos, go_sem, intsL], by simp -dsimp -implicitDefEqProofs [-getElem?_pos, go_sem, intsL], by simp -dsimp -implicitDefEqProofs [-getElem?_pos, go_sem], by simp -dsimp -implicitDefEqProofs [-getElem?_pos, go_sem]⟩
  intro m s hs'
  rw [hI] at hs'
  obtain ⟨k, hk, hm, t0, t1, t12, t13⟩ := hs'
  simp -dsimp -implicitDefEqProofs [-getElem?_pos, go_sem, hP, t12, t13]
  refine condP (fun h => ?_) (fun h => ?_)
  · have hk : k < l.length := by simpa using h
    obtain ⟨a, ha⟩ : ∃ a, l[k]? = some a := ⟨_, List.getElem?_eq_getElem hk⟩
    have wk := wrap_in ((k : Int) + 1) (by omega)
    simp -dsimp -implicitDefEqProofs [-getElem?_pos, go_sem, hP, t13]
    refine adrawB (fun _ => true) [] hP (by kernel_rfl) (by kernel_rfl) ?_
    simp -dsimp -implicitDefEqProofs [-getElem?_pos, go_sem, hP, t13, t1, t0, ha, intsL, hk, wk]
    refine ⟨l.length - (k + 1), by omega, ?_⟩
    rw [hI]
    exact ⟨k + 1, by omega, rfl, by simp -dsimp -implicitDefEqProofs [-getElem?_pos, go_sem, t0], by simp -dsimp -implicitDefEqProofs [-getElem?_pos, go_sem, t1], by simp -dsimp -implicitDefEqProofs [-getElem?_pos, go_sem, t12], by simp -dsimp -implicitDefEqProofs [-getElem?_pos, go_sem]⟩
  · simp -dsimp -implicitDefEqProofs [-getElem?_pos, go_sem, hP]
set_option maxHeartbeats 2000000 in
theorem cdays_m {row src : Option Nat} (B : TSecurity) (H : Heap) (hs0 : secB B = true) (he : B.Every ≠ 0) : MFun Tryz.prog row src 12 [.agg B.cells] H (fun r H' => ∃ id, r = .sref id 0 (daysS B).length ∧ H.length < id ∧ H'[id]? = some (some ⟨3, 1, encL encI (daysS B)⟩) ∧ Kept [] H H') := by
  have so := secOk hs0
  obtain ⟨q, n, hq, hqb, hm, hn, hd⟩ := days_arith so he
  have sp := gsec_pf B hs0
  rw [cSec] at sp
  have h1 := so.iss
  have h2 := so.mat
  have hb : ∀ k : Nat, k ≤ n → 0 ≤ q * (k : Int) ∧ q * (k : Int) ≤ 360 * 600 := fun k hk => ⟨Int.mul_nonneg (by omega) (by omega), Int.mul_le_mul hqb.2 (by omega) (by omega) (by omega)⟩
  have wq : IntKind.i64.wrap (30 * B.Every) = q := by rw [hq]; exact wrap_in q (by omega)
  obtain ⟨L, hL⟩ : ∃ L, L = daysS B := ⟨_, rfl⟩
  rw [← hL]
  have hLn : L.length = n := by rw [hL, hd]; simp
  have hLk : ∀ k : Nat, k < n → L.take (k + 1) = L.take k ++ [B.Issued + q * ((k : Int) + 1)] := fun k hk => by
    rw [hL, hd, ← List.map_take, ← List.map_take, List.take_range, List.take_range, Nat.min_eq_left (by omega), Nat.min_eq_left (by omega), List.range_succ]
    simp
  obtain ⟨C, hC⟩ : ∃ C : AV → Heap → Prop, C = fun r H' => ∃ id, r = .sref id 0 L.length ∧ H.length < id ∧ H'[id]? = some (some ⟨3, 1, encL encI L⟩) ∧ Kept [] H H' := ⟨_, rfl⟩
  rw [← hC]
  have ex : ∃ r H', C r H' := by
    rw [hC]
    refine ⟨_, H ++ [none, some ⟨3, 1, encL encI L⟩], H.length + 1, rfl, by omega, ?_, kept_app _ _ _⟩
    rw [List.getElem?_append_right (by omega)]
    simp
  refine mfun_intro Tryz.func12 rfl (by simp [Tryz.f12]) (by kernel_rfl) (ex) ?_
  intro E hP hr hs hN
  simp -dsimp -implicitDefEqProofs [-getElem?_pos, go_sem, hP, cSec]
  refine callB_pure sp hP en_22 (args_same (by simp -dsimp -implicitDefEqProofs [-getElem?_pos, go_sem])) .sc ?_
  have w0 := wrap_in (B.Issued + q) (by omega)
  simp -dsimp -implicitDefEqProofs [-getElem?_pos, go_sem, hP, he, wq, w0]
  obtain ⟨p, hp⟩ : ∃ p, p = H.length := ⟨_, rfl⟩
  refine aloop_own 3 3 1 (by simp -dsimp -implicitDefEqProofs [-getElem?_pos, go_sem]) ?_
  obtain ⟨I, hI⟩ : ∃ I : Nat → St → Prop, I = fun m s => ∃ (k id : Nat), k ≤ n ∧ m = n - k ∧ s.t 1 = .ref p 0 0 ∧ s.t 3 = .sref id 0 k ∧ s.t 4 = iv (B.Issued + q * ((k : Int) + 1)) ∧ s.H[p]? = some (some ⟨28, 7, [[iv B.ID, iv B.Unit, iv B.Issued, iv B.Maturity, iv B.Rate, iv B.Every, bv B.Indexed]]⟩) ∧ p < id ∧ s.H[id]? = some (some ⟨3, 1, (L.take k).map fun x => [iv x]⟩) ∧ Kept [] H s.H := ⟨_, rfl⟩
  refine aloop0 I (n) (by rw [hN]; rfl) ?_ ?_
  · rw [hI]
    refine ⟨0, p + 1, by omega, by omega, by simp -dsimp -implicitDefEqProofs [-getElem?_pos, go_sem, hp], by simp -dsimp -implicitDefEqProofs [-getElem?_pos, go_sem, hp], by simp -dsimp -implicitDefEqProofs [-getElem?_pos, go_sem], by simp -dsimp -implicitDefEqProofs [-getElem?_pos, go_sem, hp], by omega, by simp -dsimp -implicitDefEqProofs [-getElem?_pos, go_sem, hp], ?_⟩
    simp -dsimp -implicitDefEqProofs [-getElem?_pos, go_sem]
    exact kept_app _ _ _
  intro m s hs'
  rw [hI] at hs'
  obtain ⟨k, id, hk, hm', t1, t3, t4, g0, hid, gi, kp⟩ := hs'
  have l0 := (List.getElem?_eq_some_iff.1 g0).1
  have li := (List.getElem?_eq_some_iff.1 gi).1
  have hlk : (L.take k).length = k := by rw [List.length_take]; omega
  have hb1 := hb k hk
  have ek : q * ((k : Int) + 1) = q * (k : Int) + q := by rw [Int.mul_add, Int.mul_one]
  by_cases hkn : k < n
  · have hb2 := hb (k + 1) (by omega)
    have ek2 : q * ((k : Int) + 1 + 1) = q * ((k : Int) + 1) + q := by rw [Int.mul_add, Int.mul_one]
    have le := Int.mul_le_mul_of_nonneg_left (show ((k : Int) + 1) ≤ (n : Int) by omega) (show 0 ≤ q by omega)
    have dk : decide (B.Issued + q * ((k : Int) + 1) ≤ B.Maturity) = true := decide_eq_true (by omega)
    have w2 : IntKind.i64.wrap (B.Issued + q * ((k : Int) + 1) + q) = B.Issued + q * ((k : Int) + 1 + 1) := by rw [ek2, wrap_in _ (by omega)]; omega
    simp -dsimp -implicitDefEqProofs [-getElem?_pos, go_sem, hP, t4, t1, g0, dk]
    have hmin : min k L.length = k := by omega
    have hm2 : min k n = k := by omega
    have n0 : ¬ p = id := by omega
    have n1 : ¬ id = p := by omega
    have s0 : (s.H.set id none)[p]? = some (some ⟨28, 7, [[iv B.ID, iv B.Unit, iv B.Issued, iv B.Maturity, iv B.Rate, iv B.Every, bv B.Indexed]]⟩) := by rw [List.getElem?_set_ne n1]; exact g0
    simp -dsimp -implicitDefEqProofs [-getElem?_pos, go_sem, hP, t3, t4, gi, li, hlk, t1, g0, wq, w2, hmin, hm2, hLn, s0, l0]
    refine ⟨by omega, by omega, n - (k + 1), by omega, ?_⟩
    rw [hI]
    refine ⟨k + 1, s.H.length, by omega, rfl, by simp -dsimp -implicitDefEqProofs [-getElem?_pos, go_sem, t1], by simp -dsimp -implicitDefEqProofs [-getElem?_pos, go_sem], by simp -dsimp -implicitDefEqProofs [-getElem?_pos, go_sem], ?_, by omega, ?_, ?_⟩
    · simp -dsimp -implicitDefEqProofs [-getElem?_pos, go_sem, s0, l0]
    · simp -dsimp -implicitDefEqProofs [-getElem?_pos, go_sem, hLk k hkn]
    · simp -dsimp -implicitDefEqProofs [-getElem?_pos, go_sem]
      exact kept_push _ (kept_new _ (by omega) kp)
  · have hkn : k = n := by omega
    subst hkn
    have dk : decide (B.Issued + q * ((k : Int) + 1) ≤ B.Maturity) = false := decide_eq_false (by omega)
    simp -dsimp -implicitDefEqProofs [-getElem?_pos, go_sem, hP, t4, t1, g0, dk, t3]
    have hLL : L.take k = L := List.take_of_length_le (by omega)
    rw [hLL] at gi
    rw [hC]
    exact ⟨id, by rw [hLn], by omega, gi, kp⟩
end Go.Proofs.YtkcfmmpcpdlfeaaGreatDoor
