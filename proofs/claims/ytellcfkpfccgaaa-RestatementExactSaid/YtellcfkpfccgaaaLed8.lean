/- Ledgers: the reference's classes and statements. -/
import Derived.Test.YtellcfkpfccgaaaLed7
set_option linter.unusedSimpArgs false
set_option linter.unusedVariables false
namespace Go.Proofs.Ytellcfkpfccgaaa
open Go.PA
open Go.RowKit

/-- The sum of a class, over the first accounts. -/
def parX (g : Int → Int) (c : Nat) : Nat → Int
  | 0 => 0
  | k + 1 => parX g c k + (if k / 100 + 1 = c then g (100 + (k : Int)) else 0)
theorem parX_add (g h : Int → Int) (c : Nat) : ∀ n, parX (fun a => g a + h a) c n = parX g c n + parX h c n
  | 0 => rfl
  | n + 1 => by
    simp only [parX, parX_add g h c n]
    split <;> omega
theorem parX_sub (g h : Int → Int) (c : Nat) : ∀ n, parX (fun a => g a - h a) c n = parX g c n - parX h c n
  | 0 => rfl
  | n + 1 => by
    simp only [parX, parX_sub g h c n]
    split <;> omega
theorem parX_zero (c : Nat) : ∀ n, parX (fun _ => 0) c n = 0
  | 0 => rfl
  | n + 1 => by simp [parX, parX_zero c n]
theorem parX_one (c d : Nat) (x : Int) : ∀ n, parX (fun a => if 100 + (d : Int) = a then x else 0) c n = if d < n ∧ d / 100 + 1 = c then x else 0
  | 0 => by simp [parX]
  | n + 1 => by
    simp only [parX, parX_one c d x n]
    repeat' split
    all_goals omega
theorem parX_acc (a : Int) (ha : 100 ≤ a ∧ a ≤ 599) (c : Nat) (x : Int) : parX (fun b => if decide (a = b) = true then x else 0) c 500 = if decide (classI a = (c : Int)) = true then x else 0 := by
  obtain ⟨d, rfl⟩ : ∃ d : Nat, a = 100 + (d : Int) := ⟨(a - 100).toNat, by omega⟩
  have h := parX_one c d x 500
  have e : (fun b => if decide (100 + (d : Int) = b) = true then x else 0) = fun b => if 100 + (d : Int) = b then x else 0 := by funext b; simp
  rw [e, h]
  have hc : classI (100 + (d : Int)) = ((d / 100 + 1 : Nat) : Int) := by
    rw [classI, if_pos ha]
    omega
  rw [hc]
  by_cases h2 : d / 100 + 1 = c
  · rw [if_pos ⟨by omega, h2⟩, if_pos (by rw [h2]; simp)]
  · rw [if_neg (fun e => h2 e.2), if_neg (by simp only [decide_eq_true_eq]; omega)]
theorem parX_bal (f : TPosting → Bool) (c : Nat) : ∀ l : List TPosting, (∀ p, p ∈ l → Fine p) → parX (bal f l) c 500 = cls f l (c : Int)
  | [], _ => parX_zero c 500
  | p :: l, h => by
    have ih := parX_bal f c l fun p hp => h p (by simp [hp])
    have hp := h p (by simp)
    have e1 : bal f (p :: l) = fun a => (if f p = true then addP (fun b => decide (b = a)) p else 0) + bal f l a := rfl
    have e2 : cls f (p :: l) (c : Int) = (if f p = true then addP (fun b => decide (classI b = (c : Int))) p else 0) + cls f l (c : Int) := rfl
    rw [e1, e2, parX_add, ih]
    refine congrArg (· + cls f l (c : Int)) ?_
    cases f p
    · simp only [Bool.false_eq_true, if_false]; exact parX_zero c 500
    · simp only [if_true, addP]
      rw [parX_sub, parX_acc _ hp.deb, parX_acc _ hp.cre]
theorem parX_bound (g : Int → Int) (c : Nat) (B : Int) (hB : 0 ≤ B) (h : ∀ a, -B ≤ g a ∧ g a ≤ B) : ∀ n : Nat, -(B * n) ≤ parX g c n ∧ parX g c n ≤ B * n
  | 0 => by simp [parX]
  | n + 1 => by
    have ih := parX_bound g c B hB h n
    have hg := h (100 + (n : Int))
    have e : B * ((n + 1 : Nat) : Int) = B * (n : Int) + B := by rw [Int.natCast_add, Int.mul_add]; simp
    rw [e]
    simp only [parX]
    split <;> omega

abbrev clsV (f : TPosting → Bool) (l : List TPosting) : List Int := [cls f l 0, cls f l 1, cls f l 2, cls f l 3, cls f l 4, cls f l 5]

set_option maxHeartbeats 2000000 in
theorem rclasses_pf (l : List TPosting) (e from_ to : Int) (hl : FineL l) : PFun Try.prog none none 110 [postsL l, iv e, iv from_, iv to] (· = .agg (arI (clsV (ofB e from_ to) l))) := by
  refine pfun_intro Try.func110 rfl (by simp [Try.f110]) (by kernel_rfl) ?_
  intro E hP hr hs hW hN
  have ip := imm_posts l
  have z6 : [AV.sc (.int .i64 0), .sc (.int .i64 0), .sc (.int .i64 0), .sc (.int .i64 0), .sc (.int .i64 0), .sc (.int .i64 0)] = arI [0, 0, 0, 0, 0, 0] := rfl
  obtain ⟨f, hf⟩ : ∃ f, f = ofB e from_ to := ⟨_, rfl⟩
  have hb : ∀ a, -9000000000000000 ≤ bal f l a ∧ bal f l a ≤ 9000000000000000 := fun a => by
    have := netP_bound (fun b => decide (b = a)) f l hl.1
    have := hl.2
    show _ ≤ netP _ f l ∧ netP _ f l ≤ _
    omega
  have hcb := fun c => parX_bound (bal f l) c 9000000000000000 (by omega) hb
  have hcc := fun c => parX_bal f c l hl.1
  obtain ⟨g, hg⟩ : ∃ g, g = bal f l := ⟨_, rfl⟩
  have h5 : (sumsX f l).length = 500 := sumsX_len _ _
  have hx : ∀ i : Nat, i < 500 → (sumsX f l)[i]? = some (g (100 + (i : Int))) := fun i hi => hg ▸ sumsX_get f l i hi
  rw [← hg] at hcb hcc hb
  obtain ⟨V, hV⟩ : ∃ V, V = clsV f l := ⟨_, rfl⟩
  have hVg : ∀ c : Nat, c < 6 → V[c]? = some (parX g c 500) := fun c hc => by
    rw [hV]
    match c, hc with
    | 0, _ => exact congrArg some (hcc 0).symm
    | 1, _ => exact congrArg some (hcc 1).symm
    | 2, _ => exact congrArg some (hcc 2).symm
    | 3, _ => exact congrArg some (hcc 3).symm
    | 4, _ => exact congrArg some (hcc 4).symm
    | 5, _ => exact congrArg some (hcc 5).symm
  have hV6 : V.length = 6 := by rw [hV]; rfl
  have rs := rsums_pf l e from_ to hl
  rw [← hf] at rs ⊢
  rw [← hV]
  generalize sumsX f l = xs at h5 hx rs
  clear hV hcc hb hg
  simp -dsimp -implicitDefEqProofs [-getElem?_pos, go_sem, hP, z6]
  refine callB_is (rs.lift _ _) hP en_103 (by simp [ip, imm_sc]) (imm_agg.2 (arI_imm _)) ?_
  simp -dsimp -implicitDefEqProofs [-getElem?_pos, go_sem, hP]
  obtain ⟨I, hI⟩ : ∃ I : Nat → St → Prop, I = fun m s => ∃ (k : Nat) (ys : List Int), k ≤ 500 ∧ m = 500 - k ∧ ys.length = 6 ∧ (∀ c : Nat, c < 6 → ys[c]? = some (parX g c k)) ∧ s.t 8 = .ref 0 0 0 ∧ s.t 9 = .ref 1 0 0 ∧ s.t 16 = .agg (arI xs) ∧ s.t 17 = iv k ∧ s.H = [some ⟨149, 6, [arI [0, 0, 0, 0, 0, 0]]⟩, some ⟨149, 6, [arI ys]⟩] := ⟨_, rfl⟩
  refine aloop0 I (500) (by rw [hN]; rfl) ?_ ?_
  · rw [hI]
    refine ⟨0, [0, 0, 0, 0, 0, 0], by omega, by omega, rfl, fun c hc => ?_, by simp -dsimp -implicitDefEqProofs [-getElem?_pos, go_sem], by simp -dsimp -implicitDefEqProofs [-getElem?_pos, go_sem], by simp -dsimp -implicitDefEqProofs [-getElem?_pos, go_sem], by simp -dsimp -implicitDefEqProofs [-getElem?_pos, go_sem], by simp -dsimp -implicitDefEqProofs [-getElem?_pos, go_sem]⟩
    match c, hc with
    | 0, _ => rfl
    | 1, _ => rfl
    | 2, _ => rfl
    | 3, _ => rfl
    | 4, _ => rfl
    | 5, _ => rfl
  intro m s hs'
  rw [hI] at hs'
  obtain ⟨k, ys, hk, hm, h6, hy, t8, t9, t16, t17, hH⟩ := hs'
  simp -dsimp -implicitDefEqProofs [-getElem?_pos, go_sem, hP, t17]
  refine condP (fun h => ?_) (fun h => ?_)
  · have hk : k < 500 := by simp at h; omega
    have klt : (k : Int) < 500 := by omega
    have wk := wrap_in ((k : Int) + 1) (by omega)
    obtain ⟨c, hc⟩ : ∃ c, c = k / 100 + 1 := ⟨_, rfl⟩
    have wq : IntKind.i64.wrap ((k : Int) / 100) = ((k / 100 : Nat) : Int) := by
      rw [wrap_in _ (by omega)]
      omega
    have wc : IntKind.i64.wrap (((k / 100 : Nat) : Int) + 1) = (c : Int) := by rw [wrap_in _ (by omega)]; omega
    have hyc := hy c (by omega)
    have c6 : (c : Int) < 6 := by omega
    have c6' : c < 6 := by omega
    have c5 : c + 1 ≤ 6 := by omega
    have c4 : c ≤ 5 := by omega
    have bc := hcb c k
    have bc1 := hcb c (k + 1)
    have np : parX g c (k + 1) = parX g c k + g (100 + (k : Int)) := by rw [parX, if_pos hc.symm]
    have wv := wrap_in (parX g c k + g (100 + (k : Int))) (by rw [← np]; omega)
    generalize hq : k / 100 = q at wq wc
    have hxk := hx k hk
    simp -dsimp -implicitDefEqProofs [-getElem?_pos, go_sem, hP, t9, t16, t17, hH, klt, hxk, wq, wc, c6, c6', c5, c4, h6, hyc, wv, arI_put, arI_put', wk]
    refine ⟨500 - (k + 1), by omega, ?_⟩
    rw [hI]
    refine ⟨k + 1, ys.set c (parX g c k + g (100 + (k : Int))), by omega, rfl, by rw [List.length_set]; exact h6, fun c' hc' => ?_, by simp -dsimp -implicitDefEqProofs [-getElem?_pos, go_sem, t8], by simp -dsimp -implicitDefEqProofs [-getElem?_pos, go_sem, t9], by simp -dsimp -implicitDefEqProofs [-getElem?_pos, go_sem, t16], by simp -dsimp -implicitDefEqProofs [-getElem?_pos, go_sem], by simp -dsimp -implicitDefEqProofs [-getElem?_pos, go_sem]⟩
    by_cases he : c = c'
    · subst he
      rw [List.getElem?_set_self (by omega), np]
    · rw [List.getElem?_set_ne he, hy c' hc', parX, if_neg (by omega), Int.add_zero]
  · have hk : k = 500 := by simp at h; omega
    subst hk
    have z0 : (arI [0, 0, 0, 0, 0, 0]).drop 6 = [] := rfl
    have e : ys = V := by
      apply List.ext_getElem?
      intro i
      by_cases hi : i < 6
      · rw [hy i hi, hVg i hi]
      · rw [List.getElem?_eq_none (by omega), List.getElem?_eq_none (by omega)]
    simp -dsimp -implicitDefEqProofs [-getElem?_pos, go_sem, hP, t8, t9, hH, h6, arI_take h6.symm, z0]
    refine done_imm (imm_agg.2 (arI_imm _)) ?_
    rw [e]

end Go.Proofs.Ytellcfkpfccgaaa
