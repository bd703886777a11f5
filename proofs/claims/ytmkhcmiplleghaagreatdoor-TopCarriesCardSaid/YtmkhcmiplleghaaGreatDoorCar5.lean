/- Carrying over: sorting, and checking. -/
import Derived.Test.YtmkhcmiplleghaaGreatDoorCar4
set_option linter.unusedSimpArgs false
set_option linter.unusedVariables false
namespace Go.Proofs.YtmkhcmiplleghaaGreatDoor
open Go.PA
open Go.RowKit

theorem bitsLen_pf (n : Nat) (h : n < 10) : PFun Tryz.prog none none 35 [.sc (.int .u64 n)] (fun r => ∃ m : Int, r = iv m) := by
  have h1 := List.all_eq_true.1 len_run n (List.mem_range.2 h)
  rw [Option.any_eq_true] at h1
  obtain ⟨v, h2, h3⟩ := h1
  refine (pfun_run runN_ok (hintOf []) (modeOf []) 1000 20 (by kernel_rfl) h2 none none).mono ?_
  rintro r rfl
  split at h3
  · exact ⟨_, rfl⟩
  · cases h3
abbrev ltO1 : OkOp → OkOp → Bool := fun a b => decide (cmpO a.1 b.1 < 0)
abbrev ltO2 : OkOp → OkOp → Bool := fun a b => decide (cmpC a.1.Code b.1.Code < 0)
theorem pdq_m {row src : Option Nat} (l : List OkOp) (H : Heap) (id n : Nat) (z : Int) (hn : n = l.length) (hb9 : n < 10)
    (hH : H[id]? = some (some ⟨42, 5, encL encO l⟩)) :
    MFun Tryz.prog row src 34 [.sref id 0 n, iv 0, iv n, iv z, .fn 17 []] H (fun _ H' => H' = H.set id (some ⟨42, 5, encL encO (isort ltO1 l)⟩)) := by
  refine mfun_intro Tryz.func34 rfl (by simp [Tryz.f34]) (by kernel_rfl) ⟨.tup [], _, rfl⟩ ?_
  intro E hP hr hs hN
  have w := wrap_in ((n : Int) - 0) (by omega)
  have d : decide ((n : Int) ≤ 12) = true := decide_eq_true (by omega)
  have w0 := wrap_in (n : Int) (by omega)
  simp only [Int.sub_zero] at w
  simp -dsimp -implicitDefEqProofs [-getElem?_pos, go_sem, hP]
  refine aloop0 (fun m s => s.t 0 = .sref id 0 n ∧ s.t 1 = iv 0 ∧ s.t 2 = iv n ∧ s.t 4 = .fn 17 [] ∧ s.H = H) 0 (by rw [hN]; rfl) ?_ ?_
  · exact ⟨by simp -dsimp -implicitDefEqProofs [-getElem?_pos, go_sem], by simp -dsimp -implicitDefEqProofs [-getElem?_pos, go_sem], by simp -dsimp -implicitDefEqProofs [-getElem?_pos, go_sem], by simp -dsimp -implicitDefEqProofs [-getElem?_pos, go_sem], by simp -dsimp -implicitDefEqProofs [-getElem?_pos, go_sem]⟩
  rintro m s ⟨t0, t1, t2, t4, sH⟩
  simp -dsimp -implicitDefEqProofs [-getElem?_pos, go_sem, hP, t0, t1, t2, t4, Int.sub_zero, w, w0, d]
  have hm := insertion_m_open (row := E.row) (src := E.src) encO ltO1 17 cmpOk1 [] l [] s.H id 0 n n rfl (by simp [hn]) (by simp [hn]) (by omega) (by rw [sH]; simpa using hH)
  simp only [List.nil_append, List.append_nil] at hm
  refine callB_m hm hP (by kernel_rfl) ?_
  rintro r H' rfl
  simp -dsimp -implicitDefEqProofs [-getElem?_pos, go_sem, hP, sH]
theorem sortF_m {row src : Option Nat} (l : List OkOp) (H : Heap) (id n : Nat) (hn : n = l.length) (hb9 : n < 10)
    (hH : H[id]? = some (some ⟨42, 5, encL encO l⟩)) :
    MFun Tryz.prog row src 16 [.sref id 0 n, .fn 17 []] H (fun _ H' => H' = H.set id (some ⟨42, 5, encL encO (isort ltO1 l)⟩)) := by
  refine mfun_intro Tryz.func16 rfl (by simp [Tryz.f16]) (by kernel_rfl) ⟨.tup [], _, rfl⟩ ?_
  intro E hP hr hs hN
  have wu : IntKind.u64.wrap (n : Int) = n := by rw [IntKind.wrap_u64]; omega
  simp -dsimp -implicitDefEqProofs [-getElem?_pos, go_sem, hP, hH, wu, aconv]
  have bl : PFun Tryz.prog E.row E.src 35 [.sc (.int .u64 n)] (fun r => ∃ m : Int, r = iv m) := (bitsLen_pf n hb9).lift _ _
  refine callB_flat (Q := fun r => ∃ m : Int, r = iv m) bl hP en_35 (args_same (by simp [go_sem])) ⟨iv 0, 0, rfl⟩ (by rintro r ⟨m, rfl⟩; exact .sc) ?_
  rintro r ⟨z, rfl⟩
  simp -dsimp -implicitDefEqProofs [-getElem?_pos, go_sem, hP, hH]
  refine callB_m (pdq_m l H id n z hn hb9 hH) hP (by kernel_rfl) ?_
  rintro r H' rfl
  simp -dsimp -implicitDefEqProofs [-getElem?_pos, go_sem, hP]

theorem index_pf_open (l : List TOpen) (g : FuncId) (caps : List AV) (p : TOpen → Bool) (hl : l.length ≤ 1000000) (hen : enterable Tryz.prog g = true) (hcap : ∀ a, a ∈ caps → Imm a)
    (hg : ∀ a, a ∈ l → PFun Tryz.prog none none g (.agg (TOpen.cells a) :: caps) (· = bv (p a))) :
    PFun Tryz.prog none none 38 [.list 5 (encL TOpen.cells l), .fn g caps] (· = iv (idxI p l)) := by
  refine pfun_intro Tryz.func38 rfl (by simp [Tryz.f38]) (by kernel_rfl) ?_
  intro E hP hr hs hW hN
  simp -dsimp -implicitDefEqProofs [-getElem?_pos, go_sem, hP]
  obtain ⟨I, hI⟩ : ∃ I : Nat → St → Prop, I = fun m s => ∃ k : Nat, k ≤ l.length ∧ m = l.length - k ∧ idxI p l = idxFrom p k (l.drop k) ∧ s.t 0 = .list 5 (encL TOpen.cells l) ∧ s.t 1 = .fn g caps ∧ s.t 7 = iv l.length ∧ s.t 8 = iv k := ⟨_, rfl⟩
  refine aloop0 I (l.length) (by rw [hN]; rfl) ?_ ?_
  · rw [hI]
    exact ⟨0, by omega, by omega, by simp [idxI], by simp -dsimp -implicitDefEqProofs [-getElem?_pos, go_sem], by simp -dsimp -implicitDefEqProofs [-getElem?_pos, go_sem], by simp -dsimp -implicitDefEqProofs [-getElem?_pos, go_sem], by simp -dsimp -implicitDefEqProofs [-getElem?_pos, go_sem]⟩
  intro m s hs'
  rw [hI] at hs'
  obtain ⟨k, hk, hm, hi, t0, t1, t7, t8⟩ := hs'
  simp -dsimp -implicitDefEqProofs [-getElem?_pos, go_sem, hP, t7, t8]
  refine condP (fun h => ?_) (fun h => ?_)
  · have hk : k < l.length := by simpa using h
    obtain ⟨a, ha⟩ : ∃ a, l[k]? = some a := ⟨_, List.getElem?_eq_getElem hk⟩
    have wk := wrap_in ((k : Int) + 1) (by omega)
    have hz : (TOpen.cells a).take 5 = TOpen.cells a := List.take_of_length_le (by rw [TOpen.len]; omega)
    have hd : l.drop k = a :: l.drop (k + 1) := by
      rw [List.getElem?_eq_getElem hk] at ha
      rw [List.drop_eq_getElem_cons hk, Option.some.inj ha]
    simp -dsimp -implicitDefEqProofs [-getElem?_pos, go_sem, hP, t8, t1, t0, ha, TOpen.len, hz]
    refine callB_is ((hg a (List.mem_of_getElem? ha)).lift _ _) hP hen (fun x hx => ?_) .sc ?_
    · rcases List.mem_cons.1 hx with rfl | hx
      · exact imm_agg.2 (TOpen.imm a)
      · exact hcap x hx
    rw [hd] at hi
    simp only [idxFrom] at hi
    simp -dsimp -implicitDefEqProofs [-getElem?_pos, go_sem, hP]
    refine condP (fun hp => ?_) (fun hp => ?_)
    · rw [if_pos hp] at hi
      simp -dsimp -implicitDefEqProofs [-getElem?_pos, go_sem, hP]
      exact hi.symm
    · rw [hp, if_neg (by simp)] at hi
      simp -dsimp -implicitDefEqProofs [-getElem?_pos, go_sem, hP, t8, wk]
      refine ⟨l.length - (k + 1), by omega, ?_⟩
      rw [hI]
      exact ⟨k + 1, by omega, rfl, hi, by simp -dsimp -implicitDefEqProofs [-getElem?_pos, go_sem, t0], by simp -dsimp -implicitDefEqProofs [-getElem?_pos, go_sem, t1], by simp -dsimp -implicitDefEqProofs [-getElem?_pos, go_sem, t7], by simp -dsimp -implicitDefEqProofs [-getElem?_pos, go_sem]⟩
  · have hk : k = l.length := by simp at h; omega
    subst hk
    rw [List.drop_length] at hi
    simp -dsimp -implicitDefEqProofs [-getElem?_pos, go_sem, hP]
    exact hi.symm

theorem index_pf_carry (l : List TCarry) (g : FuncId) (caps : List AV) (p : TCarry → Bool) (hl : l.length ≤ 1000000) (hen : enterable Tryz.prog g = true) (hcap : ∀ a, a ∈ caps → Imm a)
    (hg : ∀ a, a ∈ l → PFun Tryz.prog none none g (.agg (TCarry.cells a) :: caps) (· = bv (p a))) :
    PFun Tryz.prog none none 43 [.list 5 (encL TCarry.cells l), .fn g caps] (· = iv (idxI p l)) := by
  refine pfun_intro Tryz.func43 rfl (by simp [Tryz.f43]) (by kernel_rfl) ?_
  intro E hP hr hs hW hN
  simp -dsimp -implicitDefEqProofs [-getElem?_pos, go_sem, hP]
  obtain ⟨I, hI⟩ : ∃ I : Nat → St → Prop, I = fun m s => ∃ k : Nat, k ≤ l.length ∧ m = l.length - k ∧ idxI p l = idxFrom p k (l.drop k) ∧ s.t 0 = .list 5 (encL TCarry.cells l) ∧ s.t 1 = .fn g caps ∧ s.t 7 = iv l.length ∧ s.t 8 = iv k := ⟨_, rfl⟩
  refine aloop0 I (l.length) (by rw [hN]; rfl) ?_ ?_
  · rw [hI]
    exact ⟨0, by omega, by omega, by simp [idxI], by simp -dsimp -implicitDefEqProofs [-getElem?_pos, go_sem], by simp -dsimp -implicitDefEqProofs [-getElem?_pos, go_sem], by simp -dsimp -implicitDefEqProofs [-getElem?_pos, go_sem], by simp -dsimp -implicitDefEqProofs [-getElem?_pos, go_sem]⟩
  intro m s hs'
  rw [hI] at hs'
  obtain ⟨k, hk, hm, hi, t0, t1, t7, t8⟩ := hs'
  simp -dsimp -implicitDefEqProofs [-getElem?_pos, go_sem, hP, t7, t8]
  refine condP (fun h => ?_) (fun h => ?_)
  · have hk : k < l.length := by simpa using h
    obtain ⟨a, ha⟩ : ∃ a, l[k]? = some a := ⟨_, List.getElem?_eq_getElem hk⟩
    have wk := wrap_in ((k : Int) + 1) (by omega)
    have hz : (TCarry.cells a).take 5 = TCarry.cells a := List.take_of_length_le (by rw [TCarry.len]; omega)
    have hd : l.drop k = a :: l.drop (k + 1) := by
      rw [List.getElem?_eq_getElem hk] at ha
      rw [List.drop_eq_getElem_cons hk, Option.some.inj ha]
    simp -dsimp -implicitDefEqProofs [-getElem?_pos, go_sem, hP, t8, t1, t0, ha, TCarry.len, hz]
    refine callB_is ((hg a (List.mem_of_getElem? ha)).lift _ _) hP hen (fun x hx => ?_) .sc ?_
    · rcases List.mem_cons.1 hx with rfl | hx
      · exact imm_agg.2 (TCarry.imm a)
      · exact hcap x hx
    rw [hd] at hi
    simp only [idxFrom] at hi
    simp -dsimp -implicitDefEqProofs [-getElem?_pos, go_sem, hP]
    refine condP (fun hp => ?_) (fun hp => ?_)
    · rw [if_pos hp] at hi
      simp -dsimp -implicitDefEqProofs [-getElem?_pos, go_sem, hP]
      exact hi.symm
    · rw [hp, if_neg (by simp)] at hi
      simp -dsimp -implicitDefEqProofs [-getElem?_pos, go_sem, hP, t8, wk]
      refine ⟨l.length - (k + 1), by omega, ?_⟩
      rw [hI]
      exact ⟨k + 1, by omega, rfl, hi, by simp -dsimp -implicitDefEqProofs [-getElem?_pos, go_sem, t0], by simp -dsimp -implicitDefEqProofs [-getElem?_pos, go_sem, t1], by simp -dsimp -implicitDefEqProofs [-getElem?_pos, go_sem, t7], by simp -dsimp -implicitDefEqProofs [-getElem?_pos, go_sem]⟩
  · have hk : k = l.length := by simp at h; omega
    subst hk
    rw [List.drop_length] at hi
    simp -dsimp -implicitDefEqProofs [-getElem?_pos, go_sem, hP]
    exact hi.symm

end Go.Proofs.YtmkhcmiplleghaaGreatDoor
