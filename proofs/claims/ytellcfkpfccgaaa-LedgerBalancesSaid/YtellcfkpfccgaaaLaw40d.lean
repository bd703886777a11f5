/- LedgerBalances: the walk. -/
import Derived.Test.YtellcfkpfccgaaaLaw40c
set_option linter.unusedSimpArgs false
set_option linter.unusedVariables false
namespace Go.Proofs.Ytellcfkpfccgaaa
open Go.PA
open Go.RowKit

/-! ### Lists of balances -/
def parS (g : Int → Int) : Nat → Int
  | 0 => 0
  | n + 1 => parS g n + g (n : Int)
theorem parS_add (g h : Int → Int) : ∀ n, parS (fun a => g a + h a) n = parS g n + parS h n
  | 0 => rfl
  | n + 1 => by simp only [parS, parS_add g h n]; omega
theorem parS_sub (g h : Int → Int) : ∀ n, parS (fun a => g a - h a) n = parS g n - parS h n
  | 0 => rfl
  | n + 1 => by simp only [parS, parS_sub g h n]; omega
theorem parS_zero : ∀ n, parS (fun _ => 0) n = 0
  | 0 => rfl
  | n + 1 => by simp [parS, parS_zero n]
theorem parS_one (d : Nat) (x : Int) : ∀ n, parS (fun a => if decide ((d : Int) = a) = true then x else 0) n = if d < n then x else 0
  | 0 => by simp [parS]
  | n + 1 => by
    have ih := parS_one d x n
    simp only [decide_eq_true_eq] at ih ⊢
    simp only [parS, ih]
    repeat' split
    all_goals omega
theorem parS_bal (f : TPosting → Bool) : ∀ l : List TPosting, (∀ p, p ∈ l → Fine p) → parS (bal f l) 600 = 0
  | [], _ => parS_zero 600
  | p :: l, h => by
    have ih := parS_bal f l fun p hp => h p (by simp [hp])
    have hp := h p (by simp)
    have e1 : bal f (p :: l) = fun a => (if f p = true then addP (fun b => decide (b = a)) p else 0) + bal f l a := rfl
    rw [e1, parS_add, ih]
    cases f p
    · simp only [Bool.false_eq_true, if_false, Int.add_zero]; exact parS_zero 600
    · obtain ⟨d, hd⟩ : ∃ d : Nat, p.Debit = (d : Int) := ⟨p.Debit.toNat, by have := hp.deb; omega⟩
      obtain ⟨c, hc⟩ : ∃ c : Nat, p.Credit = (c : Int) := ⟨p.Credit.toNat, by have := hp.cre; omega⟩
      simp only [if_true, addP, Int.add_zero]
      rw [parS_sub, hd, hc, parS_one, parS_one, if_pos (by have := hp.deb; omega), if_pos (by have := hp.cre; omega)]
      omega
def sumAmt (L : List TBalance) : Int := (L.map (·.Amount)).sum
theorem sumAmt_snoc (L : List TBalance) (b : TBalance) : sumAmt (L ++ [b]) = sumAmt L + b.Amount := by simp [sumAmt]
theorem sumAmt_listG (g : Int → Int) : ∀ n, sumAmt (listG g 0 n) = parS g n
  | 0 => rfl
  | n + 1 => by
    have ih := sumAmt_listG g n
    simp only [listG, parS, Nat.zero_add]
    split
    · rename_i h; rw [List.append_nil, ih, h]; omega
    · rw [sumAmt_snoc, ih]
theorem listG_mem {g : Int → Int} {b : TBalance} : ∀ {n : Nat}, b ∈ listG g 0 n → b.Amount = g b.Account ∧ b.Amount ≠ 0
  | 0, h => by simp [listG] at h
  | n + 1, h => by
    rw [listG] at h
    rcases List.mem_append.1 h with h | h
    · exact listG_mem h
    · split at h
      · cases h
      · rename_i hz
        simp only [List.mem_singleton] at h
        subst h
        exact ⟨rfl, hz⟩
theorem sumAmt_bound {B : Int} : ∀ L : List TBalance, (∀ b, b ∈ L → -B ≤ b.Amount ∧ b.Amount ≤ B) → -(B * (L.length : Int)) ≤ sumAmt L ∧ sumAmt L ≤ B * (L.length : Int)
  | [], _ => by simp [sumAmt]
  | b :: L, h => by
    have ih := sumAmt_bound L fun b hb => h b (by simp [hb])
    have hb := h b (by simp)
    have e : sumAmt (b :: L) = b.Amount + sumAmt L := by simp [sumAmt]
    have e2 : B * ((b :: L).length : Int) = B * (L.length : Int) + B := by rw [List.length_cons, Int.natCast_add, Int.mul_add]; simp
    rw [e, e2]
    omega
theorem bal_bound {l : List TPosting} (h : checkL l = 0) (f : TPosting → Bool) (a : Int) : -400000000000000 ≤ bal f l a ∧ bal f l a ≤ 400000000000000 := by
  obtain ⟨h1, h2, _⟩ := checkL_ok h
  have := netP_bound (fun b => decide (b = a)) f l fun p hp => (h2 p hp).fine
  show _ ≤ netP _ f l ∧ netP _ f l ≤ _
  omega
theorem balances_facts {l : List TPosting} (h : checkL l = 0) (e k : Int) :
    sumAmt (balancesL l e k) = 0 ∧ (∀ b, b ∈ balancesL l e k → b.Amount ≠ 0 ∧ ofL l e b.Account k = b.Amount ∧ -400000000000000 ≤ b.Amount ∧ b.Amount ≤ 400000000000000) ∧ (balancesL l e k).length ≤ 600 := by
  rw [balancesL, if_pos h]
  refine ⟨(sumAmt_listG _ 600).trans (parS_bal _ _ (checkL_fine h).1), fun b hb => ?_, listG_len _ _ _⟩
  obtain ⟨h1, h2⟩ := listG_mem hb
  refine ⟨h2, ?_, ?_⟩
  · rw [ofL, if_pos h, h1]
  · rw [h1]; exact bal_bound h _ _
theorem ofL_bound {l : List TPosting} (h : checkL l = 0) (e a k : Int) : -400000000000000 ≤ ofL l e a k ∧ ofL l e a k ≤ 400000000000000 := by
  rw [ofL, if_pos h]; exact bal_bound h _ _

/-- The entities make all. -/
theorem ofL_all {l : List TPosting} (h : checkL l = 0) (hm : ∀ p, p ∈ l → p.Entity ≤ 3) (a k : Int) : ofL l 0 a k = ofL l 1 a k + ofL l 2 a k + ofL l 3 a k := by
  obtain ⟨h1, h2, _⟩ := checkL_ok h
  have key : ∀ l : List TPosting, (∀ p, p ∈ l → PostOk p ∧ p.Entity ≤ 3) → bal (ofB 0 0 k) l a = bal (ofB 1 0 k) l a + bal (ofB 2 0 k) l a + bal (ofB 3 0 k) l a := by
    intro l
    induction l with
    | nil => intro _; rfl
    | cons p l ih =>
      intro hl
      have ih := ih fun p hp => hl p (by simp [hp])
      obtain ⟨hp, he⟩ := hl p (by simp)
      have := hp.ent
      simp only [bal, netP] at ih ⊢
      rw [ih]
      have e0 : ofB 0 0 k p = (decide (0 ≤ p.Day) && decide (p.Day ≤ k)) := by simp [ofB]
      have en : ∀ n : Int, n ≠ 0 → ofB n 0 k p = (decide (p.Entity = n) && (decide (0 ≤ p.Day) && decide (p.Day ≤ k))) := fun n hn => by simp [ofB, hn]
      rw [e0, en 1 (by omega), en 2 (by omega), en 3 (by omega)]
      generalize (decide (0 ≤ p.Day) && decide (p.Day ≤ k)) = w
      have : p.Entity = 1 ∨ p.Entity = 2 ∨ p.Entity = 3 := by omega
      rcases this with h | h | h <;> rw [h] <;> cases w <;> simp <;> omega
  rw [ofL, if_pos h, ofL, if_pos h, ofL, if_pos h, ofL, if_pos h]
  exact key l fun p hp => ⟨h2 p hp, hm p hp⟩
theorem ofL_snoc {l : List TPosting} {q : TPosting} (h : checkL l = 0) (h' : checkL (l ++ [q]) = 0) (e a k : Int) : ofL (l ++ [q]) e a k = ofL l e a k + (if ofB e 0 k q = true then addP (fun b => decide (b = a)) q else 0) := by
  rw [ofL, if_pos h', ofL, if_pos h]
  exact netP_snoc _ _ _ _

set_option maxHeartbeats 4000000 in
theorem balances_law_pf (xs : List Int) (m : Nat) (hx : Small xs) (hl : xs.length ≤ 9223372036854775807) (hm : m ≤ 65535) :
    PFun Try.prog none none 3 [intsL xs, .sc (.int .u16 m)] (· = bv true) := by
  refine pfun_introA Try.func3 rfl (by simp [Try.f3]) ?_
  intro E hP hr hs hW hN
  refine awp_cut (by rw [hN]; kernel_rfl) ?_
  simp [go_sem, hP]
  refine awp_cut (by rw [hN]; kernel_rfl) ?_
  simp [go_sem, hP]
  have hnew : POwn Try.prog E.row E.src 15 [intsL xs] 112 2 (· = [[intsL (xs.take 900), iv 0]]) := by rw [hr, hs]; exact new_pf xs hl
  refine callB_own hnew hP en_15 (args_same (by simp [go_sem, intsL])) (by simp [srefs_imm, go_sem, intsL]) ⟨_, rfl⟩ ?_
  rintro es rfl
  simp [go_sem, hP]
  refine awp_adopt 5 (ty := 112) (xs := xs.take 900) (at_ := 0) hr hs hW (by simp [go_sem]) (by simp [go_sem, intsL]) (by omega) (by simp; omega) (fun x hx' => hx x (List.mem_of_mem_take hx')) (by rw [hN]; kernel_rfl) ?_
  intro E' p hP' hr' hN' hW'
  rw [hP] at hP'
  rw [hN] at hN'
  clear hnew hP hr hs hW hN E
  rename Env => E
  rename E.P = _ => hP
  rename E.row = _ => hr
  rename E.N = _ => hN
  rename (∀ b, ¬ E.W b) => hW
  obtain ⟨src, hs⟩ : ∃ src, E.src = src := ⟨_, rfl⟩
  have up : ∀ {f : FuncId} {args : List AV} {Q : AV → Prop}, PFun Try.prog (some p) src f args Q → PFun Try.prog E.row E.src f args Q := fun h => hr ▸ hs ▸ h

  simp -dsimp -implicitDefEqProofs [-getElem?_pos, go_sem, hP]
  refine callB_isQ (up (gledger_pf p src 12 3 800 (by omega) (by omega) (by omega))) hP en_16 (by simp [go_sem]) (genl_ex 12 3 800) ?_
  rintro r ⟨l, rfl, hg⟩ _
  have il : Imm (postsL l) := imm_posts l
  have hok := hg.ok
  have hls := hg.len
  have wm := wrap_in (m : Int) (by omega)
  have hk : ((m : Int).tmod 900) = ((m % 900 : Nat) : Int) := (Int.ofNat_tmod m 900).symm
  have hk1 : m % 900 < 900 := Nat.mod_lt _ (by omega)
  obtain ⟨k, hkk⟩ : ∃ k, k = m % 900 := ⟨_, rfl⟩
  rw [← hkk] at hk hk1
  clear hkk
  have of_ := fun e a => of2_pf ⟨l⟩ e a k (by dsimp only; omega)
  have ob := fun e a => ofL_bound hok e a k
  simp only [cL] at of_
  simp -dsimp -implicitDefEqProofs [-getElem?_pos, go_sem, hP, cL, aconv, wm, hk]
  obtain ⟨I, hI⟩ : ∃ I : Nat → St → Prop, I = fun m s => ∃ e : Nat, e ≤ 4 ∧ m = 4 - e ∧ s.t 5 = sp p ∧ s.t 6 = .ref 1 0 0 ∧ s.t 7 = iv k ∧ s.t 8 = iv e ∧ s.H[1]? = some (some ⟨28, 1, [[postsL l]]⟩) := ⟨_, rfl⟩
  refine aloop0 I (4) (by rw [hN]; rfl) ?_ ?_
  · rw [hI]
    exact ⟨0, by omega, by omega, by simp -dsimp -implicitDefEqProofs [-getElem?_pos, go_sem], by simp -dsimp -implicitDefEqProofs [-getElem?_pos, go_sem], by simp -dsimp -implicitDefEqProofs [-getElem?_pos, go_sem], by simp -dsimp -implicitDefEqProofs [-getElem?_pos, go_sem], by simp -dsimp -implicitDefEqProofs [-getElem?_pos, go_sem]⟩
  intro m s hs'
  rw [hI] at hs'
  obtain ⟨e, he, hme, t5, t6, t7, t8, h1⟩ := hs'
  have lt1 := (List.getElem?_eq_some_iff.1 h1).1
  simp -dsimp -implicitDefEqProofs [-getElem?_pos, go_sem, hP, t8]
  refine condP (fun h => ?_) (fun h => ?_)
  · have he3 : e ≤ 3 := by simp at h; omega
    have we := wrap_in ((e : Int) + 1) (by omega)
    have ba := balances_pf ⟨l⟩ e k (by dsimp only; omega)
    rw [cL] at ba
    obtain ⟨f1, f2, f3⟩ := balances_facts hok e k
    simp only at ba
    generalize balancesL l e k = B at ba f1 f2 f3
    have ib : Imm (balsL B) := imm_bals B
    simp -dsimp -implicitDefEqProofs [-getElem?_pos, go_sem, hP, t6, t7, t8, h1, lt1]
    refine callB_is (ba.lift _ _) hP en_17 (by simp [il, imm_sc, imm_agg]) ib ?_
    simp -dsimp -implicitDefEqProofs [-getElem?_pos, go_sem, hP]
    obtain ⟨J, hJ⟩ : ∃ I : Nat → St → Prop, I = fun m s => ∃ j : Nat, j ≤ B.length ∧ m = B.length - j ∧ s.t 5 = sp p ∧ s.t 6 = .ref 1 0 0 ∧ s.t 7 = iv k ∧ s.t 8 = iv e ∧ s.t 9 = iv (sumAmt (B.take j)) ∧ s.t 33 = balsL B ∧ s.t 34 = iv B.length ∧ s.t 35 = iv j ∧ s.H[1]? = some (some ⟨28, 1, [[postsL l]]⟩) := ⟨_, rfl⟩
    refine aloop0 J (B.length) (by rw [hN]; rfl) ?_ ?_
    · rw [hJ]
      exact ⟨0, by omega, by omega, by simp -dsimp -implicitDefEqProofs [-getElem?_pos, go_sem, t5], by simp -dsimp -implicitDefEqProofs [-getElem?_pos, go_sem, t6], by simp -dsimp -implicitDefEqProofs [-getElem?_pos, go_sem, t7], by simp -dsimp -implicitDefEqProofs [-getElem?_pos, go_sem, t8], by simp -dsimp -implicitDefEqProofs [-getElem?_pos, go_sem]; rfl, by simp -dsimp -implicitDefEqProofs [-getElem?_pos, go_sem], by simp -dsimp -implicitDefEqProofs [-getElem?_pos, go_sem], by simp -dsimp -implicitDefEqProofs [-getElem?_pos, go_sem], by simp -dsimp -implicitDefEqProofs [-getElem?_pos, go_sem, h1]⟩
    clear t5 t6 t7 t8 h1 lt1
    intro m s hs'
    rw [hJ] at hs'
    obtain ⟨j, hj, hmj, t5, t6, t7, t8, t9, t33, t34, t35, h1⟩ := hs'
    have lt1 := (List.getElem?_eq_some_iff.1 h1).1
    simp -dsimp -implicitDefEqProofs [-getElem?_pos, go_sem, hP, t34, t35]
    refine condP (fun h => ?_) (fun h => ?_)
    · have hj : j < B.length := by simpa using h
      obtain ⟨b, hb⟩ : ∃ b, B[j]? = some b := ⟨_, List.getElem?_eq_getElem hj⟩
      obtain ⟨g1, g2, g3⟩ := f2 b (List.mem_of_getElem? hb)
      have wj := wrap_in ((j : Int) + 1) (by omega)
      have st : sumAmt (B.take (j + 1)) = sumAmt (B.take j) + b.Amount := by rw [List.take_add_one, hb]; exact sumAmt_snoc _ _
      have bt := sumAmt_bound (B := 400000000000000) (B.take j) fun b hb => (f2 b (List.mem_of_mem_take hb)).2.2
      rw [List.length_take, Nat.min_eq_left (by omega)] at bt
      have ws := wrap_in (sumAmt (B.take j) + b.Amount) (by omega)
      have o1 := of_ e b.Account
      rw [g2] at o1
      simp -dsimp -implicitDefEqProofs [-getElem?_pos, go_sem, hP, t33, t35, hb, cB, t9, ws]
      refine adrawB (fun _ => true) [] hP (by kernel_rfl) (by kernel_rfl) ?_
      simp -dsimp -implicitDefEqProofs [-getElem?_pos, go_sem, hP, g1, t6, t7, t8, h1, lt1]
      refine callB_is (o1.lift _ _) hP en_18 (by simp [il, imm_sc, imm_agg]) .sc ?_
      simp -dsimp -implicitDefEqProofs [-getElem?_pos, go_sem, hP, t35, wj]
      refine ⟨B.length - (j + 1), by omega, ?_⟩
      rw [hJ]
      exact ⟨j + 1, by omega, rfl, by simp -dsimp -implicitDefEqProofs [-getElem?_pos, go_sem, t5], by simp -dsimp -implicitDefEqProofs [-getElem?_pos, go_sem, t6], by simp -dsimp -implicitDefEqProofs [-getElem?_pos, go_sem, t7], by simp -dsimp -implicitDefEqProofs [-getElem?_pos, go_sem, t8], by rw [st]; simp -dsimp -implicitDefEqProofs [-getElem?_pos, go_sem], by simp -dsimp -implicitDefEqProofs [-getElem?_pos, go_sem, t33], by simp -dsimp -implicitDefEqProofs [-getElem?_pos, go_sem, t34], by simp -dsimp -implicitDefEqProofs [-getElem?_pos, go_sem], by simp -dsimp -implicitDefEqProofs [-getElem?_pos, go_sem, lt1, h1]⟩
    · have hj : j = B.length := by simp at h; omega
      subst hj
      rw [List.take_length, f1] at t9
      simp -dsimp -implicitDefEqProofs [-getElem?_pos, go_sem, hP, t9, t8, we]
      refine ⟨4 - (e + 1), by omega, ?_⟩
      rw [hI]
      exact ⟨e + 1, by omega, rfl, by simp -dsimp -implicitDefEqProofs [-getElem?_pos, go_sem, t5], by simp -dsimp -implicitDefEqProofs [-getElem?_pos, go_sem, t6], by simp -dsimp -implicitDefEqProofs [-getElem?_pos, go_sem, t7], by simp -dsimp -implicitDefEqProofs [-getElem?_pos, go_sem], by simp -dsimp -implicitDefEqProofs [-getElem?_pos, go_sem, h1]⟩
  clear h he hme t8
  have z4 : [AV.sc (.int .i64 110), .sc (.int .i64 140), .sc (.int .i64 240), .sc (.int .i64 410)] = arI [110, 140, 240, 410] := rfl
  obtain ⟨A4, hA4⟩ : ∃ A4 : List Int, A4 = [110, 140, 240, 410] := ⟨_, rfl⟩
  have hA4l : A4.length = 4 := by rw [hA4]; rfl
  rw [← hA4] at z4
  clear hA4
  have all := ofL_all hok fun p hp => (hg.all p hp).1
  simp -dsimp -implicitDefEqProofs [-getElem?_pos, go_sem, hP, z4]
  obtain ⟨I2, hI2⟩ : ∃ I : Nat → St → Prop, I = fun m s => ∃ i : Nat, i ≤ 4 ∧ m = 4 - i ∧ s.t 5 = sp p ∧ s.t 6 = .ref 1 0 0 ∧ s.t 7 = iv k ∧ s.t 60 = .agg (arI A4) ∧ s.t 61 = iv i ∧ s.H[1]? = some (some ⟨28, 1, [[postsL l]]⟩) := ⟨_, rfl⟩
  refine aloop0 I2 (4) (by rw [hN]; rfl) ?_ ?_
  · rw [hI2]
    exact ⟨0, by omega, by omega, by simp -dsimp -implicitDefEqProofs [-getElem?_pos, go_sem, t5], by simp -dsimp -implicitDefEqProofs [-getElem?_pos, go_sem, t6], by simp -dsimp -implicitDefEqProofs [-getElem?_pos, go_sem, t7], by simp -dsimp -implicitDefEqProofs [-getElem?_pos, go_sem], by simp -dsimp -implicitDefEqProofs [-getElem?_pos, go_sem], by simp -dsimp -implicitDefEqProofs [-getElem?_pos, go_sem, h1]⟩
  clear t5 t6 t7 h1 lt1
  intro m s hs'
  rw [hI2] at hs'
  obtain ⟨i, hi, hmi, t5, t6, t7, t60, t61, h1⟩ := hs'
  have lt1 := (List.getElem?_eq_some_iff.1 h1).1
  simp -dsimp -implicitDefEqProofs [-getElem?_pos, go_sem, hP, t61]
  refine condP (fun h => ?_) (fun h => ?_)
  · have hi : i < 4 := by simp at h; omega
    have i4 : (i : Int) < 4 := by omega
    obtain ⟨x, hx⟩ : ∃ x, A4[i]? = some x := ⟨_, List.getElem?_eq_getElem (by omega)⟩
    have wi := wrap_in ((i : Int) + 1) (by omega)
    obtain ⟨g, hg2⟩ : ∃ g : Int → Int, g = fun b => ofL l (b + 1) x k := ⟨_, rfl⟩
    have gb : ∀ b, -400000000000000 ≤ g b ∧ g b ≤ 400000000000000 := fun b => by rw [hg2]; exact ob _ _
    have g3 : parS g 3 = ofL l 0 x k := by
      rw [all, hg2]
      show 0 + ofL l (0 + 1) x k + ofL l (1 + 1) x k + ofL l (2 + 1) x k = _
      simp
    have oz := of_ 0 x
    have bz := ob 0 x
    simp -dsimp -implicitDefEqProofs [-getElem?_pos, go_sem, hP, t60, t61, i4, hx]
    obtain ⟨J2, hJ2⟩ : ∃ I : Nat → St → Prop, I = fun m s => ∃ j : Nat, j ≤ 3 ∧ m = 3 - j ∧ s.t 5 = sp p ∧ s.t 6 = .ref 1 0 0 ∧ s.t 7 = iv k ∧ s.t 13 = iv x ∧ s.t 14 = iv (parS g j) ∧ s.t 15 = iv ((j : Int) + 1) ∧ s.t 60 = .agg (arI A4) ∧ s.t 61 = iv i ∧ s.H[1]? = some (some ⟨28, 1, [[postsL l]]⟩) := ⟨_, rfl⟩
    refine aloop0 J2 (3) (by rw [hN]; rfl) ?_ ?_
    · rw [hJ2]
      exact ⟨0, by omega, by omega, by simp -dsimp -implicitDefEqProofs [-getElem?_pos, go_sem, t5], by simp -dsimp -implicitDefEqProofs [-getElem?_pos, go_sem, t6], by simp -dsimp -implicitDefEqProofs [-getElem?_pos, go_sem, t7], by simp -dsimp -implicitDefEqProofs [-getElem?_pos, go_sem], by simp -dsimp -implicitDefEqProofs [-getElem?_pos, go_sem]; rfl, by simp -dsimp -implicitDefEqProofs [-getElem?_pos, go_sem], by simp -dsimp -implicitDefEqProofs [-getElem?_pos, go_sem, t60], by simp -dsimp -implicitDefEqProofs [-getElem?_pos, go_sem, t61], by simp -dsimp -implicitDefEqProofs [-getElem?_pos, go_sem, h1]⟩
    clear t5 t6 t7 t60 t61 h1 lt1
    intro m s hs'
    rw [hJ2] at hs'
    obtain ⟨j, hj, hmj, t5, t6, t7, t13, t14, t15, t60, t61, h1⟩ := hs'
    have lt1 := (List.getElem?_eq_some_iff.1 h1).1
    have pb : -1200000000000000 ≤ parS g j ∧ parS g j ≤ 1200000000000000 := by
      have b0 := gb ((0 : Nat) : Int)
      have b1 := gb ((1 : Nat) : Int)
      have b2 := gb ((2 : Nat) : Int)
      have : j = 0 ∨ j = 1 ∨ j = 2 ∨ j = 3 := by omega
      rcases this with h | h | h | h <;> subst h <;> simp only [parS] <;> omega
    by_cases hj3 : j < 3
    · have d3 : decide ((j : Int) + 1 ≤ 3) = true := decide_eq_true (by omega)
      have d3' : (j : Int) + 1 ≤ 3 := by omega
      have d3n : j ≤ 2 := by omega
      have wj := wrap_in ((j : Int) + 1 + 1) (by omega)
      have oj := of_ ((j : Int) + 1) x
      have gj : ofL l ((j : Int) + 1) x k = g j := by rw [hg2]
      have bj := gb j
      rw [gj] at oj
      have ws := wrap_in (parS g j + g j) (by omega)
      have pn : parS g (j + 1) = parS g j + g j := rfl
      simp -dsimp -implicitDefEqProofs [-getElem?_pos, go_sem, hP, t15, d3, d3', d3n, t6, t7, t13, t14, h1, lt1]
      refine callB_is (oj.lift _ _) hP en_18 (by simp [il, imm_sc, imm_agg]) .sc ?_
      simp -dsimp -implicitDefEqProofs [-getElem?_pos, go_sem, hP, t14, ws, t15, wj]
      refine ⟨3 - (j + 1), by omega, ?_⟩
      rw [hJ2]
      refine ⟨j + 1, by omega, rfl, by simp -dsimp -implicitDefEqProofs [-getElem?_pos, go_sem, t5], by simp -dsimp -implicitDefEqProofs [-getElem?_pos, go_sem, t6], by simp -dsimp -implicitDefEqProofs [-getElem?_pos, go_sem, t7], by simp -dsimp -implicitDefEqProofs [-getElem?_pos, go_sem, t13], by rw [pn]; simp -dsimp -implicitDefEqProofs [-getElem?_pos, go_sem], by simp -dsimp -implicitDefEqProofs [-getElem?_pos, go_sem], by simp -dsimp -implicitDefEqProofs [-getElem?_pos, go_sem, t60], by simp -dsimp -implicitDefEqProofs [-getElem?_pos, go_sem, t61], by simp -dsimp -implicitDefEqProofs [-getElem?_pos, go_sem, h1]⟩
    · have hj : j = 3 := by omega
      subst hj
      rw [g3] at t14
      simp -dsimp -implicitDefEqProofs [-getElem?_pos, go_sem, hP, t15, t14, t6, t7, t13, h1, lt1]
      refine callB_is (oz.lift _ _) hP en_18 (by simp [il, imm_sc, imm_agg]) .sc ?_
      simp -dsimp -implicitDefEqProofs [-getElem?_pos, go_sem, hP, t61, wi]
      refine ⟨4 - (i + 1), by omega, ?_⟩
      rw [hI2]
      exact ⟨i + 1, by omega, rfl, by simp -dsimp -implicitDefEqProofs [-getElem?_pos, go_sem, t5], by simp -dsimp -implicitDefEqProofs [-getElem?_pos, go_sem, t6], by simp -dsimp -implicitDefEqProofs [-getElem?_pos, go_sem, t7], by simp -dsimp -implicitDefEqProofs [-getElem?_pos, go_sem, t60], by simp -dsimp -implicitDefEqProofs [-getElem?_pos, go_sem], by simp -dsimp -implicitDefEqProofs [-getElem?_pos, go_sem, h1]⟩
  clear h hi hmi t60 t61
  have wl := wrap_in ((l.length : Int) + 1) (by omega)
  simp -dsimp -implicitDefEqProofs [-getElem?_pos, go_sem, hP, t5, t6, h1, lt1, wl]
  refine callB_isQ (up (gposting_pf p src ((l.length : Int) + 1) 900 3 (by omega))) hP en_19 (by simp [go_sem]) (genp_ex _ _ _ (by omega)) ?_
  rintro r ⟨q, rfl, hq⟩ _
  have qok := hq.ok (by omega) (by omega) (by omega)
  have ld : lastD l ≤ 800 := lastD_le (fun p hp => (hg.all p hp).2.1) (by omega)
  have pg := postL_good hok qok hq.num (by rw [hq.day]; omega) (by omega)
  have p1 := lpost_pf ⟨l⟩ q (by dsimp only; omega)
  simp only [pg] at p1
  have ok2 : checkL (l ++ [q]) = 0 := (postL_ok (show (postL l q).2 = 0 by rw [pg])).2.2.2.2.2.2
  have sn := fun e a => ofL_snoc hok ok2 e a 900
  have len2 : (l ++ [q]).length = l.length + 1 := by simp
  obtain ⟨l2, hl2⟩ : ∃ l2, l2 = l ++ [q] := ⟨_, rfl⟩
  rw [← hl2] at p1 ok2 sn len2
  clear hl2 pg
  have i2 : Imm (postsL l2) := imm_posts l2
  have of2 := fun e a => of2_pf ⟨l2⟩ e a 900 (by dsimp only; omega)
  have of1 := fun e a => of2_pf ⟨l⟩ e a 900 (by dsimp only; omega)
  have ob := fun e a => ofL_bound hok e a 900
  have q0 := qok.ent
  have q1 := qok.amt
  have qne := qok.ne
  have tm : q.Entity.tmod 3 + 1 ≠ q.Entity := by
    have := hq.ent
    rw [Int.tmod_eq_emod_of_nonneg (by omega)]
    omega
  have tb : 0 ≤ q.Entity.tmod 3 ∧ q.Entity.tmod 3 < 3 := by
    rw [Int.tmod_eq_emod_of_nonneg (by omega)]
    omega
  have s1 : ofL l2 q.Entity q.Debit 900 = ofL l q.Entity q.Debit 900 + q.Amount := by
    rw [sn]
    have : ofB q.Entity 0 900 q = true := by simp [ofB, hq.day]
    rw [if_pos this]
    simp [addP, Ne.symm qne]
  have s2 : ofL l2 q.Entity q.Credit 900 = ofL l q.Entity q.Credit 900 - q.Amount := by
    rw [sn]
    have : ofB q.Entity 0 900 q = true := by simp [ofB, hq.day]
    rw [if_pos this]
    simp [addP, qne]
    omega
  have s3 : ofL l2 (q.Entity.tmod 3 + 1) q.Debit 900 = ofL l (q.Entity.tmod 3 + 1) q.Debit 900 := by
    rw [sn]
    have : ofB (q.Entity.tmod 3 + 1) 0 900 q = false := by
      simp [ofB]
      intro h
      omega
    rw [this]
    simp
  have a1 := of2 q.Entity q.Debit
  have b1 := of1 q.Entity q.Debit
  have a2 := of2 q.Entity q.Credit
  have b2 := of1 q.Entity q.Credit
  have a3 := of2 (q.Entity.tmod 3 + 1) q.Debit
  have b3 := of1 (q.Entity.tmod 3 + 1) q.Debit
  have w1 := wrap_in (ofL l q.Entity q.Debit 900 + q.Amount) (by have := ob q.Entity q.Debit; omega)
  have w2 := wrap_in (ofL l q.Entity q.Credit 900 - q.Amount) (by have := ob q.Entity q.Credit; omega)
  have w3 := wrap_in (q.Entity.tmod 3 + 1) (by omega)
  rw [s1] at a1
  rw [s2] at a2
  rw [s3] at a3
  generalize ofL l q.Entity q.Debit 900 = x1 at a1 b1 w1
  generalize ofL l q.Entity q.Credit 900 = x2 at a2 b2 w2
  generalize ofL l (q.Entity.tmod 3 + 1) q.Debit 900 = x3 at a3 b3
  clear s1 s2 s3 sn of1 of2 ob of_
  simp only [cL] at a1 b1 a2 b2 a3 b3
  rw [cL, cL, cP] at p1
  have iq : Imm (.agg [iv q.Number, iv q.Day, iv q.Entity, iv q.Debit, iv q.Credit, iv q.Amount, iv q.Partner, iv q.Ref]) := imm_post q
  simp -dsimp -implicitDefEqProofs [-getElem?_pos, go_sem, hP, cP, t6, h1, lt1]
  refine callB_is (p1.lift _ _) hP en_20 (by simp [il, iq, imm_agg]) (imm_pair (by simpa [imm_agg] using i2) .sc) ?_
  simp -dsimp -implicitDefEqProofs [-getElem?_pos, go_sem, hP]
  refine adrawB (fun _ => true) [] hP (by kernel_rfl) (by kernel_rfl) ?_
  simp -dsimp -implicitDefEqProofs [-getElem?_pos, go_sem, hP]
  refine callB_is (a1.lift _ _) hP en_18 (by simp [i2, imm_sc, imm_agg]) .sc ?_
  simp -dsimp -implicitDefEqProofs [-getElem?_pos, go_sem, hP, t6, h1, lt1]
  refine callB_is (b1.lift _ _) hP en_18 (by simp [il, imm_sc, imm_agg]) .sc ?_
  simp -dsimp -implicitDefEqProofs [-getElem?_pos, go_sem, hP, w1]
  refine callB_is (a2.lift _ _) hP en_18 (by simp [i2, imm_sc, imm_agg]) .sc ?_
  simp -dsimp -implicitDefEqProofs [-getElem?_pos, go_sem, hP, t6, h1, lt1]
  refine callB_is (b2.lift _ _) hP en_18 (by simp [il, imm_sc, imm_agg]) .sc ?_
  simp -dsimp -implicitDefEqProofs [-getElem?_pos, go_sem, hP, w2, w3]
  refine callB_is (a3.lift _ _) hP en_18 (by simp [i2, imm_sc, imm_agg]) .sc ?_
  simp -dsimp -implicitDefEqProofs [-getElem?_pos, go_sem, hP, t6, h1, lt1, w3]
  refine callB_is (b3.lift _ _) hP en_18 (by simp [il, imm_sc, imm_agg]) .sc ?_
  simp -dsimp -implicitDefEqProofs [-getElem?_pos, go_sem, hP]
  refine callB_pure sane40_pf hP en_21 (args_same (by simp -dsimp -implicitDefEqProofs [-getElem?_pos, go_sem])) .sc ?_
  simp -dsimp -implicitDefEqProofs [-getElem?_pos, go_sem, hP]
end Go.Proofs.Ytellcfkpfccgaaa
