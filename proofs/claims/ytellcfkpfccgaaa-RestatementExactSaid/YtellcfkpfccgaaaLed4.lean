/- Ledgers: the program's books. -/
import Derived.Test.YtellcfkpfccgaaaLed3
set_option linter.unusedSimpArgs false
set_option linter.unusedVariables false
namespace Go.Proofs.Ytellcfkpfccgaaa
open Go.PA
open Go.RowKit

abbrev ofF (e from_ to : Int) : AV := .fn 105 [.iref [iv e], .iref [iv from_], .iref [iv to]]
theorem imm_of (e from_ to : Int) : Imm (ofF e from_ to) := by simp [imm_fn, imm_iref, imm_sc]
theorem of_pf (e from_ to : Int) : PFun Try.prog none none 73 [iv e, iv from_, iv to] (· = ofF e from_ to) := by
  refine pfun_intro Try.func73 rfl (by simp [Try.f73]) (by kernel_rfl) ?_
  intro E hP hr hs hW hN
  simp -dsimp -implicitDefEqProofs [-getElem?_pos, go_sem, hP]
  exact done (by simp -dsimp -implicitDefEqProofs [-getElem?_pos, go_sem]) rfl (by simp -dsimp -implicitDefEqProofs [-getElem?_pos, go_sem])
theorem counts_pf (p : TPosting) (e from_ to : Int) : PFun Try.prog none none 105 [.agg p.cells, .iref [iv e], .iref [iv from_], .iref [iv to]] (· = bv (ofB e from_ to p)) := by
  refine pfun_intro Try.func105 rfl (by simp [Try.f105]) (by kernel_rfl) ?_
  intro E hP hr hs hW hN
  have hb : ofB e from_ to p = ((decide (e = 0) || decide (p.Entity = e)) && betw p.Day from_ to) := rfl
  rw [hb]
  by_cases h1 : e = 0
  · subst h1
    simp -dsimp -implicitDefEqProofs [-getElem?_pos, go_sem, hP, cP]
    refine callB_pure (ramong_pf p.Day from_ to) hP en_76 (args_same (by simp -dsimp -implicitDefEqProofs [-getElem?_pos, go_sem])) .sc ?_
    simp -dsimp -implicitDefEqProofs [-getElem?_pos, go_sem, hP]
  by_cases h2 : p.Entity = e
  · have d1 : decide (e = 0) = false := decide_eq_false h1
    have d2 : decide (p.Entity = e) = true := decide_eq_true h2
    rw [d1, d2]
    simp -dsimp -implicitDefEqProofs [-getElem?_pos, go_sem, hP, cP, d1, d2]
    refine callB_pure (ramong_pf p.Day from_ to) hP en_76 (args_same (by simp -dsimp -implicitDefEqProofs [-getElem?_pos, go_sem])) .sc ?_
    simp -dsimp -implicitDefEqProofs [-getElem?_pos, go_sem, hP]
  · have d1 : decide (e = 0) = false := decide_eq_false h1
    have d2 : decide (p.Entity = e) = false := decide_eq_false h2
    rw [d1, d2]
    simp -dsimp -implicitDefEqProofs [-getElem?_pos, go_sem, hP, cP, d1, d2]

set_option maxHeartbeats 1000000 in
theorem books_pf (l : List TPosting) (e from_ to : Int) (hl : FineL l) : PFun Try.prog none none 72 [postsL l, ofF e from_ to] (· = .imap (imK valI (books (ofB e from_ to) l))) := by
  refine pfun_intro Try.func72 rfl (by simp [Try.f72]) (by kernel_rfl) ?_
  intro E hP hr hs hW hN
  have ip := imm_posts l
  obtain ⟨f, hf⟩ : ∃ f, f = ofB e from_ to := ⟨_, rfl⟩
  obtain ⟨h1, h2⟩ := hl
  rw [← hf]
  simp -dsimp -implicitDefEqProofs [-getElem?_pos, go_sem, hP]
  obtain ⟨I, hI⟩ : ∃ I : Nat → St → Prop, I = fun m s => ∃ k : Nat, k ≤ l.length ∧ m = l.length - k ∧ s.t 1 = ofF e from_ to ∧ s.t 5 = .mref 0 ∧ s.t 9 = postsL l ∧ s.t 10 = iv l.length ∧ s.t 11 = iv k ∧ s.H[0]? = some (some ⟨0, 2, encK valI (books f (l.take k))⟩) := ⟨_, rfl⟩
  refine aloop0 I (l.length) (by rw [hN]; rfl) ?_ ?_
  · rw [hI]
    exact ⟨0, by omega, by omega, by simp -dsimp -implicitDefEqProofs [-getElem?_pos, go_sem], by simp -dsimp -implicitDefEqProofs [-getElem?_pos, go_sem], by simp -dsimp -implicitDefEqProofs [-getElem?_pos, go_sem], by simp -dsimp -implicitDefEqProofs [-getElem?_pos, go_sem], by simp -dsimp -implicitDefEqProofs [-getElem?_pos, go_sem], by simp -dsimp -implicitDefEqProofs [-getElem?_pos, go_sem, List.take_zero]; rfl⟩
  intro m s hs'
  rw [hI] at hs'
  obtain ⟨k, hk, hm, t1, t5, t9, t10, t11, hH⟩ := hs'
  have hlt := (List.getElem?_eq_some_iff.1 hH).1
  simp -dsimp -implicitDefEqProofs [-getElem?_pos, go_sem, hP, t10, t11]
  refine condP (fun h => ?_) (fun h => ?_)
  · have hk : k < l.length := by simpa using h
    obtain ⟨p, hp⟩ : ∃ p, l[k]? = some p := ⟨_, List.getElem?_eq_getElem hk⟩
    have hfp := h1 p (List.mem_of_getElem? hp)
    have wk := wrap_in ((k : Int) + 1) (by omega)
    have nx : books f (l.take (k + 1)) = if f p = true then bookP (books f (l.take k)) p else books f (l.take k) := by rw [List.take_add_one, hp]; exact books_snoc _ _ _
    have hab := books_abs f (l.take k) fun q hq => h1 q (List.mem_of_mem_take hq)
    have hlen : (l.take k).length = k := by simp; omega
    rw [hlen] at hab
    generalize books f (l.take k) = M at nx hab hH
    have hamt := hfp.amt
    have b1 := getZ_abs M p.Debit
    have b2 := absM_put p.Debit p.Amount M
    rw [if_neg (by omega)] at b2
    have w1 := wrap_in (getZ M p.Debit + p.Amount) (by omega)
    obtain ⟨M1, hM1⟩ : ∃ M1, M1 = putM M p.Debit (getZ M p.Debit + p.Amount) := ⟨_, rfl⟩
    have b3 := getZ_abs M1 p.Credit
    rw [← hM1] at b2
    have w2 : IntKind.i64.wrap (getZ M1 p.Credit - p.Amount) = getZ M1 p.Credit + -p.Amount := by rw [wrap_in _ (by omega)]; omega
    have nx1 : bookP M p = putM M1 p.Credit (getZ M1 p.Credit + -p.Amount) := by rw [bookP, ← hM1]
    have g0 : ∀ x : Option AObj, (s.H ++ [x])[0]? = some (some ⟨0, 2, encK valI M⟩) := fun x => by rw [List.getElem?_append_left hlt]; exact hH
    simp -dsimp -implicitDefEqProofs [-getElem?_pos, go_sem, hP, t9, t11, t1, hp, cP]
    refine callB_is ((counts_pf p e from_ to).lift _ _) hP en_105 (by simp [imm_iref, imm_sc, imm_agg]) .sc ?_
    rw [← hf]
    cases hc : f p
    · rw [hc, if_neg (by simp)] at nx
      simp -dsimp -implicitDefEqProofs [-getElem?_pos, go_sem, hP, t11, wk]
      refine ⟨l.length - (k + 1), by omega, ?_⟩
      rw [hI]
      exact ⟨k + 1, by omega, rfl, by simp -dsimp -implicitDefEqProofs [-getElem?_pos, go_sem, t1], by simp -dsimp -implicitDefEqProofs [-getElem?_pos, go_sem, t5], by simp -dsimp -implicitDefEqProofs [-getElem?_pos, go_sem, t9], by simp -dsimp -implicitDefEqProofs [-getElem?_pos, go_sem, t10], by simp -dsimp -implicitDefEqProofs [-getElem?_pos, go_sem], by rw [nx]; simp -dsimp -implicitDefEqProofs [-getElem?_pos, go_sem, g0]⟩
    · rw [hc, if_pos rfl, nx1] at nx
      have r1 := fun x => @heap_set_at s.H x 0 hlt
      have r0 := fun x => @heap_set_self s.H x 0 hlt
      simp -dsimp -implicitDefEqProofs [-getElem?_pos, go_sem, hP, t11, t5, wk, g0, w1, ← hM1, r1, r0, w2]
      refine ⟨l.length - (k + 1), by omega, ?_⟩
      rw [hI]
      exact ⟨k + 1, by omega, rfl, by simp -dsimp -implicitDefEqProofs [-getElem?_pos, go_sem, t1], by simp -dsimp -implicitDefEqProofs [-getElem?_pos, go_sem, t5], by simp -dsimp -implicitDefEqProofs [-getElem?_pos, go_sem, t9], by simp -dsimp -implicitDefEqProofs [-getElem?_pos, go_sem, t10], by simp -dsimp -implicitDefEqProofs [-getElem?_pos, go_sem], by rw [nx]; simp -dsimp -implicitDefEqProofs [-getElem?_pos, go_sem, r0]⟩
  · have hk : k = l.length := by simp at h; omega
    subst hk
    rw [List.take_length] at hH
    simp -dsimp -implicitDefEqProofs [-getElem?_pos, go_sem, hP, t5]
    refine done (by simp -dsimp -implicitDefEqProofs [-getElem?_pos, go_sem, hH]) rfl (by simp -dsimp -implicitDefEqProofs [-getElem?_pos, go_sem, hH])

/-- The balances that a map has, from 0 to n - 1. -/
abbrev listM (m : List (Int × Int)) (n : Nat) : List TBalance := listG (getZ m) 0 n
theorem listG_len (g : Int → Int) (k : Nat) : ∀ n : Nat, (listG g k n).length ≤ n
  | 0 => by simp [listG]
  | n + 1 => by
    have := listG_len g k n
    simp only [listG, List.length_append]
    split <;> simp <;> omega
theorem cB (b : TBalance) : b.cells = [iv b.Account, iv b.Amount] := rfl
abbrev balsL (l : List TBalance) : AV := .list 2 (encL TBalance.cells l)
theorem imm_bals (l : List TBalance) : Imm (balsL l) := imm_encL _ TBalance.imm _
theorem list_pf (M : List (Int × Int)) : PFun Try.prog none none 71 [.imap (imK valI M)] (· = balsL (listM M 600)) := by
  refine pfun_intro Try.func71 rfl (by simp [Try.f71]) (by kernel_rfl) ?_
  intro E hP hr hs hW hN
  simp -dsimp -implicitDefEqProofs [-getElem?_pos, go_sem, hP]
  refine aloop_own 3 33 2 (by simp -dsimp -implicitDefEqProofs [-getElem?_pos, go_sem]) ?_
  obtain ⟨I, hI⟩ : ∃ I : Nat → St → Prop, I = fun m s => ∃ k id : Nat, k ≤ 600 ∧ m = 600 - k ∧ s.t 0 = .imap (imK valI M) ∧ s.t 5 = iv k ∧ s.t 3 = .sref id 0 (listM M k).length ∧ s.H[id]? = some (some ⟨33, 2, encL TBalance.cells (listM M k)⟩) := ⟨_, rfl⟩
  refine aloopF 3 hW I (600) (by rw [hN]; rfl) ?_ ?_
  · rw [hI]
    exact ⟨0, 0, by omega, by omega, by simp -dsimp -implicitDefEqProofs [-getElem?_pos, go_sem], by simp -dsimp -implicitDefEqProofs [-getElem?_pos, go_sem], by simp -dsimp -implicitDefEqProofs [-getElem?_pos, go_sem, listM, listG], by simp -dsimp -implicitDefEqProofs [-getElem?_pos, go_sem, listM, listG]⟩
  intro m s hs'
  rw [hI] at hs'
  obtain ⟨k, id, hk, hm, t0, t5, t3, hH⟩ := hs'
  have hlt := (List.getElem?_eq_some_iff.1 hH).1
  have hll : (listM M k).length ≤ k := listG_len (getZ M) 0 k
  simp -dsimp -implicitDefEqProofs [-getElem?_pos, go_sem, hP, t5]
  refine condP (fun h => ?_) (fun h => ?_)
  · have hk : k < 600 := by simp at h; omega
    have wk := wrap_in ((k : Int) + 1) (by omega)
    have nx : listM M (k + 1) = listM M k ++ (if getZ M k = 0 then [] else [⟨(k : Int), getZ M k⟩]) := by simp [listM, listG]
    by_cases hz : getZ M k = 0
    · rw [if_pos hz, List.append_nil] at nx
      have d : decide (getZ M k = 0) = true := decide_eq_true hz
      simp -dsimp -implicitDefEqProofs [-getElem?_pos, go_sem, hP, t5, t0, d, hz, wk]
      refine ⟨600 - (k + 1), by omega, ?_⟩
      rw [hI]
      exact ⟨k + 1, id, by omega, rfl, by simp -dsimp -implicitDefEqProofs [-getElem?_pos, go_sem, t0], by simp -dsimp -implicitDefEqProofs [-getElem?_pos, go_sem], by rw [nx]; simp -dsimp -implicitDefEqProofs [-getElem?_pos, go_sem, t3], by rw [nx]; simp -dsimp -implicitDefEqProofs [-getElem?_pos, go_sem, hH]⟩
    · rw [if_neg hz] at nx
      have d : decide (getZ M k = 0) = false := decide_eq_false hz
      simp -dsimp -implicitDefEqProofs [-getElem?_pos, go_sem, hP, t5, t0, d, wk, t3, hH]
      refine ⟨by omega, by omega, ?_⟩
      refine ⟨600 - (k + 1), by omega, ?_⟩
      rw [hI]
      exact ⟨k + 1, s.H.length, by omega, rfl, by simp -dsimp -implicitDefEqProofs [-getElem?_pos, go_sem, t0], by simp -dsimp -implicitDefEqProofs [-getElem?_pos, go_sem], by rw [nx]; simp -dsimp -implicitDefEqProofs [-getElem?_pos, go_sem], by rw [nx, ← encL_snoc]; simp -dsimp -implicitDefEqProofs [-getElem?_pos, go_sem, cB]⟩
  · have hk : k = 600 := by simp at h; omega
    subst hk
    refine frz id _ 33 2 (encL TBalance.cells (listM M 600)) t3 hH (by rw [encL_len]) (imm_bals _) ?_
    simp -dsimp -implicitDefEqProofs [-getElem?_pos, go_sem, hP]
    exact done_imm (imm_bals _) rfl

/-- The sums of the classes 0 to 5. -/
def clsM (M : List (Int × Int)) (c : Nat) : Int := sumM (fun b => decide (classI b = (c : Int))) M
def clsL (M : List (Int × Int)) : List Int := (List.range 6).map (clsM M)
theorem clsL_len (M : List (Int × Int)) : (clsL M).length = 6 := by simp [clsL]
theorem clsL_get (M : List (Int × Int)) (c : Nat) (h : c < 6) : (clsL M)[c]? = some (clsM M c) := by simp [clsL, h]
theorem clsL_eq {M : List (Int × Int)} {xs : List Int} (h6 : xs.length = 6) (h : ∀ c : Nat, c < 6 → xs[c]? = some (clsM M c)) : xs = clsL M := by
  apply List.ext_getElem?
  intro i
  by_cases hi : i < 6
  · rw [h i hi, clsL_get M i hi]
  · rw [List.getElem?_eq_none (by omega), List.getElem?_eq_none (by rw [clsL_len]; omega)]
theorem classI_nat (n : Int) : ∃ c : Nat, classI n = (c : Int) ∧ c < 6 := by
  unfold classI
  split
  · exact ⟨(n / 100).toNat, by omega, by omega⟩
  · exact ⟨0, rfl, by omega⟩

set_option maxHeartbeats 1000000 in
theorem classes_pf (M : List (Int × Int)) (hM : absM M ≤ 1000000000000000000) : PFun Try.prog none none 106 [.imap (imK valI M)] (· = .agg (arI (clsL M))) := by
  refine pfun_intro Try.func106 rfl (by simp [Try.f106]) (by kernel_rfl) ?_
  intro E hP hr hs hW hN
  have z6 : [AV.sc (.int .i64 0), .sc (.int .i64 0), .sc (.int .i64 0), .sc (.int .i64 0), .sc (.int .i64 0), .sc (.int .i64 0)] = arI [0, 0, 0, 0, 0, 0] := rfl
  simp -dsimp -implicitDefEqProofs [-getElem?_pos, go_sem, hP, z6]
  obtain ⟨I, hI⟩ : ∃ I : Nat → St → Prop, I = fun m s => ∃ (left : List (Int × Int)) (xs : List Int) (a b : AV), m = left.length ∧ xs.length = 6 ∧ (∀ c : Nat, c < 6 → xs[c]? = some (clsM M c - clsM left c)) ∧ absM left ≤ absM M ∧ s.t 2 = .ref 0 0 0 ∧ s.t 3 = .ref 1 0 0 ∧ s.t 7 = .miter 2 ∧ s.H = [some ⟨149, 6, [arI [0, 0, 0, 0, 0, 0]]⟩, some ⟨149, 6, [arI xs]⟩, some ⟨0, 3, [[a, b, .imap (imK valI left)]]⟩] := ⟨_, rfl⟩
  refine aloop0 I (M.length) (by rw [hN]; rfl) ?_ ?_
  · rw [hI]
    refine ⟨M, [0, 0, 0, 0, 0, 0], .junk, .junk, rfl, rfl, fun c hc => ?_, Int.le_refl _, by simp -dsimp -implicitDefEqProofs [-getElem?_pos, go_sem], by simp -dsimp -implicitDefEqProofs [-getElem?_pos, go_sem], by simp -dsimp -implicitDefEqProofs [-getElem?_pos, go_sem], by simp -dsimp -implicitDefEqProofs [-getElem?_pos, go_sem]⟩
    rw [Int.sub_self]
    match c, hc with
    | 0, _ => rfl
    | 1, _ => rfl
    | 2, _ => rfl
    | 3, _ => rfl
    | 4, _ => rfl
    | 5, _ => rfl
  intro m s hs'
  rw [hI] at hs'
  obtain ⟨left, xs, a, b, hm, h6, hx, hab, t2, t3, t7, hH⟩ := hs'
  simp -dsimp -implicitDefEqProofs [-getElem?_pos, go_sem, hP, t7, hH]
  refine anext (fun h => ?_) (fun i n v hi => ?_)
  · subst h
    have e := clsL_eq (M := M) h6 fun c hc => by rw [hx c hc]; simp [clsM, sumM]
    have z0 : (arI [0, 0, 0, 0, 0, 0]).drop 6 = [] := rfl
    simp -dsimp -implicitDefEqProofs [-getElem?_pos, go_sem, hP, t2, t3, h6, arI_take h6.symm, z0]
    refine done_imm (imm_agg.2 (arI_imm _)) ?_
    rw [e]
  · obtain ⟨c, hc, hc6⟩ := classI_nat n
    have cp := class_pf n
    rw [hc] at cp
    simp -dsimp -implicitDefEqProofs [-getElem?_pos, go_sem, hP, t7]
    refine callB_pure cp hP en_68 (args_same (by simp -dsimp -implicitDefEqProofs [-getElem?_pos, go_sem])) .sc ?_
    have hxc := hx c hc6
    have e1 := sumM_erase (fun b => decide (classI b = (c : Int))) left i (n, v) hi
    simp only [hc, decide_true, if_true] at e1
    have bM := sumM_abs (fun b => decide (classI b = (c : Int))) M
    have bl := sumM_abs (fun b => decide (classI b = (c : Int))) left
    have bl' := sumM_abs (fun b => decide (classI b = (c : Int))) (left.eraseIdx i)
    have ba := absM_erase left i
    have wv := wrap_in (clsM M c - clsM left c + v) (by simp only [clsM]; omega)
    have c6 : (c : Int) < 6 := by omega
    have c5 : c + 1 ≤ 6 := by omega
    have c4 : c ≤ 5 := by omega
    simp -dsimp -implicitDefEqProofs [-getElem?_pos, go_sem, hP, t3, c6, c5, c4, hc6, h6, hxc, wv, arI_put, arI_put']
    have hil := (List.getElem?_eq_some_iff.1 hi).1
    refine ⟨(left.eraseIdx i).length, by rw [hm, List.length_eraseIdx_of_lt hil]; omega, ?_⟩
    rw [hI]
    refine ⟨left.eraseIdx i, xs.set c (clsM M c - clsM left c + v), .sc (.int .i64 n), .sc (.int .i64 v), rfl, by rw [List.length_set]; exact h6, fun c' hc' => ?_, by omega, by simp -dsimp -implicitDefEqProofs [-getElem?_pos, go_sem, t2], by simp -dsimp -implicitDefEqProofs [-getElem?_pos, go_sem, t3], by simp -dsimp -implicitDefEqProofs [-getElem?_pos, go_sem, t7], by simp -dsimp -implicitDefEqProofs [-getElem?_pos, go_sem]⟩
    by_cases he : c = c'
    · subst he
      rw [List.getElem?_set_self (by omega)]
      congr 1
      simp only [clsM]
      omega
    · have e2 := sumM_erase (fun b => decide (classI b = (c' : Int))) left i (n, v) hi
      have hne : ¬ (c : Int) = (c' : Int) := by omega
      simp only [hc, decide_eq_false hne, Bool.false_eq_true, if_false] at e2
      rw [List.getElem?_set_ne he, hx c' hc']
      congr 1
      simp only [clsM]
      omega

/-! ### Balances, statements -/

theorem books_list (f : TPosting → Bool) (l : List TPosting) : listM (books f l) 600 = listG (bal f l) 0 600 := by
  have : getZ (books f l) = bal f l := funext fun a => books_get f l a
  rw [listM, this]
/-- The balances of an entity on a day. -/
def balancesL (l : List TPosting) (e day : Int) : List TBalance := if checkL l = 0 then listG (bal (ofB e 0 day) l) 0 600 else []
def ofL (l : List TPosting) (e a day : Int) : Int := if checkL l = 0 then bal (ofB e 0 day) l a else 0
theorem clsL_books (f : TPosting → Bool) (l : List TPosting) : clsL (books f l) = (List.range 6).map fun (c : Nat) => cls f l (c : Int) := by
  unfold clsL
  apply List.map_congr_left
  intro c _
  exact books_sum _ _ _
def sumsL (l : List TPosting) (e from_ to : Int) : TStatement :=
  { Assets := cls (ofB e 0 to) l 1, Liabilities := -cls (ofB e 0 to) l 2, Worth := -cls (ofB e 0 (from_ - 1)) l 3 - cls (ofB e 0 (from_ - 1)) l 4 - cls (ofB e 0 (from_ - 1)) l 5, Revenue := -cls (ofB e from_ to) l 4, Expense := cls (ofB e from_ to) l 5 }
def zeroSt : TStatement := ⟨0, 0, 0, 0, 0⟩
def statementL (l : List TPosting) (e from_ to : Int) : TStatement × Int :=
  if checkL l = 0 then (if betw e 0 10 = false then (zeroSt, 89) else if betw from_ 0 to = false ∨ 36000 < to then (zeroSt, 2) else (sumsL l e from_ to, 0)) else (zeroSt, checkL l)

theorem balances_pf (l : TLedger) (e day : Int) (hl : l.Postings.length ≤ 100000) : PFun Try.prog none none 17 [.agg l.cells, iv e, iv day] (· = balsL (balancesL l.Postings e day)) := by
  refine pfun_intro Try.func17 rfl (by simp [Try.f17]) (by kernel_rfl) ?_
  intro E hP hr hs hW hN
  have ck := lcheck_pf l hl
  obtain ⟨l⟩ := l
  simp only at hl ck
  rw [cL] at ck
  have ip := imm_posts l
  simp -dsimp -implicitDefEqProofs [-getElem?_pos, go_sem, hP, cL]
  refine callB_is (ck.lift _ _) hP en_56 (by simp [ip, imm_agg]) .sc ?_
  by_cases c1 : checkL l = 0
  rotate_left
  · have : balancesL l e day = [] := if_neg c1
    simp -dsimp -implicitDefEqProofs [-getElem?_pos, go_sem, hP, c1, this]
    exact done_weak (x := balsL []) (by simp -dsimp -implicitDefEqProofs [-getElem?_pos, go_sem]) (imm_bals _) (show Weak .nil (.list 2 []) from .nil 2) (by simp only [this])
  have fl := checkL_fine c1
  have : balancesL l e day = listG (bal (ofB e 0 day) l) 0 600 := if_pos c1
  simp -dsimp -implicitDefEqProofs [-getElem?_pos, go_sem, hP, c1, this]
  refine adrawB (fun _ => true) [] hP (by kernel_rfl) (by kernel_rfl) ?_
  simp -dsimp -implicitDefEqProofs [-getElem?_pos, go_sem, hP]
  refine callB_is ((of_pf e 0 day).lift _ _) hP en_73 (by simp [imm_sc]) (imm_of _ _ _) ?_
  simp -dsimp -implicitDefEqProofs [-getElem?_pos, go_sem, hP]
  refine callB_is ((books_pf l e 0 day fl).lift _ _) hP en_72 (by simp [ip, imm_fn, imm_iref, imm_sc]) .imap ?_
  simp -dsimp -implicitDefEqProofs [-getElem?_pos, go_sem, hP]
  refine callB_is ((list_pf (books (ofB e 0 day) l)).lift _ _) hP en_71 (by simp [imm_imap]) (imm_bals _) ?_
  rw [books_list]
  obtain ⟨L, hL⟩ : ∃ L, L = listG (bal (ofB e 0 day) l) 0 600 := ⟨_, rfl⟩
  rw [← hL] at this ⊢
  simp -dsimp -implicitDefEqProofs [-getElem?_pos, go_sem, hP]
  exact done_imm (imm_bals _) (by simp only [this])
theorem of2_pf (l : TLedger) (e a day : Int) (hl : l.Postings.length ≤ 100000) : PFun Try.prog none none 18 [.agg l.cells, iv e, iv a, iv day] (· = iv (ofL l.Postings e a day)) := by
  refine pfun_intro Try.func18 rfl (by simp [Try.f18]) (by kernel_rfl) ?_
  intro E hP hr hs hW hN
  have ck := lcheck_pf l hl
  obtain ⟨l⟩ := l
  simp only at hl ck
  rw [cL] at ck
  have ip := imm_posts l
  simp -dsimp -implicitDefEqProofs [-getElem?_pos, go_sem, hP, cL]
  refine callB_is (ck.lift _ _) hP en_56 (by simp [ip, imm_agg]) .sc ?_
  by_cases c1 : checkL l = 0
  rotate_left
  · have : ofL l e a day = 0 := if_neg c1
    simp -dsimp -implicitDefEqProofs [-getElem?_pos, go_sem, hP, c1, this]
  have fl := checkL_fine c1
  have hof : (getM (books (ofB e 0 day) l) a).getD 0 = ofL l e a day := by rw [ofL, if_pos c1]; exact books_get _ _ _
  simp -dsimp -implicitDefEqProofs [-getElem?_pos, go_sem, hP, c1]
  refine adrawB (fun _ => true) [] hP (by kernel_rfl) (by kernel_rfl) ?_
  simp -dsimp -implicitDefEqProofs [-getElem?_pos, go_sem, hP]
  refine callB_is ((of_pf e 0 day).lift _ _) hP en_73 (by simp [imm_sc]) (imm_of _ _ _) ?_
  simp -dsimp -implicitDefEqProofs [-getElem?_pos, go_sem, hP]
  refine callB_is ((books_pf l e 0 day fl).lift _ _) hP en_72 (by simp [ip, imm_fn, imm_iref, imm_sc]) .imap ?_
  simp -dsimp -implicitDefEqProofs [-getElem?_pos, go_sem, hP, hof]

set_option maxHeartbeats 1000000 in
theorem sums_pf (l : List TPosting) (e from_ to : Int) (hl : FineL l) (hf : -9223372036854775807 ≤ from_ ∧ from_ ≤ 9223372036854775807) : PFun Try.prog none none 77 [postsL l, iv e, iv from_, iv to] (· = .agg (sumsL l e from_ to).cells) := by
  refine pfun_intro Try.func77 rfl (by simp [Try.f77]) (by kernel_rfl) ?_
  intro E hP hr hs hW hN
  have ip := imm_posts l
  have wf := wrap_in (from_ - 1) (by omega)
  have bk := fun f => books_abs f l hl.1
  have hl2 := hl.2
  have b9 : ∀ f, absM (books f l) ≤ 1000000000000000000 := fun f => by have := bk f; omega
  have cb : ∀ (f : TPosting → Bool) (c : Int), -100000000000000000 ≤ cls f l c ∧ cls f l c ≤ 100000000000000000 := fun f c => by
    have := netP_bound (fun b => decide (classI b = c)) f l hl.1
    show _ ≤ netP _ f l ∧ netP _ f l ≤ _
    omega
  have z6 : [AV.sc (.int .i64 0), .sc (.int .i64 0), .sc (.int .i64 0), .sc (.int .i64 0), .sc (.int .i64 0), .sc (.int .i64 0)] = arI [0, 0, 0, 0, 0, 0] := rfl
  have i1 := imm_of e 0 to
  have i2 := imm_of e from_ to
  have i3 := imm_of e 0 (from_ - 1)
  have ar : ∀ f, arI (clsL (books f l)) = [iv (cls f l 0), iv (cls f l 1), iv (cls f l 2), iv (cls f l 3), iv (cls f l 4), iv (cls f l 5)] := fun f => by rw [clsL_books]; rfl
  obtain ⟨A, hA⟩ : ∃ A : Int → Int, A = cls (ofB e 0 to) l := ⟨_, rfl⟩
  obtain ⟨B, hB⟩ : ∃ B : Int → Int, B = cls (ofB e from_ to) l := ⟨_, rfl⟩
  obtain ⟨C, hC⟩ : ∃ C : Int → Int, C = cls (ofB e 0 (from_ - 1)) l := ⟨_, rfl⟩
  have bA : ∀ c, -100000000000000000 ≤ A c ∧ A c ≤ 100000000000000000 := fun c => hA ▸ cb (ofB e 0 to) c
  have bB : ∀ c, -100000000000000000 ≤ B c ∧ B c ≤ 100000000000000000 := fun c => hB ▸ cb (ofB e from_ to) c
  have bC : ∀ c, -100000000000000000 ≤ C c ∧ C c ≤ 100000000000000000 := fun c => hC ▸ cb (ofB e 0 (from_ - 1)) c
  have rs : sumsL l e from_ to = { Assets := A 1, Liabilities := -A 2, Worth := -C 3 - C 4 - C 5, Revenue := -B 4, Expense := B 5 } := by rw [hA, hB, hC]; rfl
  have arA : arI (clsL (books (ofB e 0 to) l)) = [iv (A 0), iv (A 1), iv (A 2), iv (A 3), iv (A 4), iv (A 5)] := hA ▸ ar _
  have arB : arI (clsL (books (ofB e from_ to) l)) = [iv (B 0), iv (B 1), iv (B 2), iv (B 3), iv (B 4), iv (B 5)] := hB ▸ ar _
  have arC : arI (clsL (books (ofB e 0 (from_ - 1)) l)) = [iv (C 0), iv (C 1), iv (C 2), iv (C 3), iv (C 4), iv (C 5)] := hC ▸ ar _
  have w1 := wrap_in (-A 2) (by have := bA 2; omega)
  have w2 := wrap_in (-C 3) (by have := bC 3; omega)
  have w3 := wrap_in (-C 3 - C 4) (by have := bC 3; have := bC 4; omega)
  have w4 := wrap_in (-C 3 - C 4 - C 5) (by have := bC 3; have := bC 4; have := bC 5; omega)
  have w5 := wrap_in (-B 4) (by have := bB 4; omega)
  rw [rs]
  clear hA hB hC rs ar cb
  simp -dsimp -implicitDefEqProofs [-getElem?_pos, go_sem, hP]
  refine callB_is ((of_pf e 0 to).lift _ _) hP en_73 (by simp [imm_sc]) i1 ?_
  simp -dsimp -implicitDefEqProofs [-getElem?_pos, go_sem, hP]
  refine callB_is ((books_pf l e 0 to hl).lift _ _) hP en_72 (by simp [ip, imm_fn, imm_iref, imm_sc]) .imap ?_
  simp -dsimp -implicitDefEqProofs [-getElem?_pos, go_sem, hP]
  refine callB_is ((classes_pf _ (b9 _)).lift _ _) hP en_106 (by simp [imm_imap]) (imm_agg.2 (arI_imm _)) ?_
  rw [arA]
  simp -dsimp -implicitDefEqProofs [-getElem?_pos, go_sem, hP]
  refine callB_is ((of_pf e from_ to).lift _ _) hP en_73 (by simp [imm_sc]) i2 ?_
  simp -dsimp -implicitDefEqProofs [-getElem?_pos, go_sem, hP]
  refine callB_is ((books_pf l e from_ to hl).lift _ _) hP en_72 (by simp [ip, imm_fn, imm_iref, imm_sc]) .imap ?_
  simp -dsimp -implicitDefEqProofs [-getElem?_pos, go_sem, hP]
  refine callB_is ((classes_pf _ (b9 _)).lift _ _) hP en_106 (by simp [imm_imap]) (imm_agg.2 (arI_imm _)) ?_
  rw [arB]
  simp -dsimp -implicitDefEqProofs [-getElem?_pos, go_sem, hP, wf]
  refine callB_is ((of_pf e 0 (from_ - 1)).lift _ _) hP en_73 (by simp [imm_sc]) i3 ?_
  simp -dsimp -implicitDefEqProofs [-getElem?_pos, go_sem, hP]
  refine callB_is ((books_pf l e 0 (from_ - 1) hl).lift _ _) hP en_72 (by simp [ip, imm_fn, imm_iref, imm_sc]) .imap ?_
  simp -dsimp -implicitDefEqProofs [-getElem?_pos, go_sem, hP]
  refine callB_is ((classes_pf _ (b9 _)).lift _ _) hP en_106 (by simp [imm_imap]) (imm_agg.2 (arI_imm _)) ?_
  rw [arC]
  simp -dsimp -implicitDefEqProofs [-getElem?_pos, go_sem, hP, w1, w2, w3, w4, w5]
  exact done_imm (imm_agg.2 (TStatement.mk (A 1) (-A 2) (-C 3 - C 4 - C 5) (-B 4) (B 5)).imm) rfl
theorem statement_pf (l : TLedger) (e from_ to : Int) (hl : l.Postings.length ≤ 100000) : PFun Try.prog none none 24 [.agg l.cells, iv e, iv from_, iv to] (· = .tup [.agg (statementL l.Postings e from_ to).1.cells, iv (statementL l.Postings e from_ to).2]) := by
  refine pfun_intro Try.func24 rfl (by simp [Try.f24]) (by kernel_rfl) ?_
  intro E hP hr hs hW hN
  have ck := lcheck_pf l hl
  obtain ⟨l⟩ := l
  simp only at hl ck
  rw [cL] at ck
  have ip := imm_posts l
  have z0 : zeroSt.cells = [iv 0, iv 0, iv 0, iv 0, iv 0] := rfl
  have iz : Imm (.agg zeroSt.cells) := imm_agg.2 zeroSt.imm
  simp -dsimp -implicitDefEqProofs [-getElem?_pos, go_sem, hP, cL]
  refine callB_is (ck.lift _ _) hP en_56 (by simp [ip, imm_agg]) .sc ?_
  by_cases c1 : checkL l = 0
  rotate_left
  · have : statementL l e from_ to = (zeroSt, checkL l) := by rw [statementL, if_neg c1]
    simp -dsimp -implicitDefEqProofs [-getElem?_pos, go_sem, hP, c1]
    refine done_imm (imm_pair iz .sc) ?_
    rw [this]
    rfl
  have fl := checkL_fine c1
  simp -dsimp -implicitDefEqProofs [-getElem?_pos, go_sem, hP, c1]
  refine callB_pure (ramong_pf e 0 10) hP en_76 (args_same (by simp -dsimp -implicitDefEqProofs [-getElem?_pos, go_sem])) .sc ?_
  cases c2 : betw e 0 10
  · have : statementL l e from_ to = (zeroSt, 89) := by rw [statementL, if_pos c1, if_pos c2]
    simp -dsimp -implicitDefEqProofs [-getElem?_pos, go_sem, hP]
    refine done_imm (imm_pair iz .sc) ?_
    rw [this]
    rfl
  have c2' : ¬ betw e 0 10 = false := by simp [c2]
  simp -dsimp -implicitDefEqProofs [-getElem?_pos, go_sem, hP]
  refine callB_pure (ramong_pf from_ 0 to) hP en_76 (args_same (by simp -dsimp -implicitDefEqProofs [-getElem?_pos, go_sem])) .sc ?_
  cases c3 : betw from_ 0 to
  · have : statementL l e from_ to = (zeroSt, 2) := by rw [statementL, if_pos c1, if_neg c2', if_pos (.inl c3)]
    simp -dsimp -implicitDefEqProofs [-getElem?_pos, go_sem, hP]
    refine done_imm (imm_pair iz .sc) ?_
    rw [this]
    rfl
  by_cases c4 : 36000 < to
  · have : statementL l e from_ to = (zeroSt, 2) := by rw [statementL, if_pos c1, if_neg c2', if_pos (.inr c4)]
    have d4 : decide (36000 < to) = true := decide_eq_true c4
    simp -dsimp -implicitDefEqProofs [-getElem?_pos, go_sem, hP, d4]
    refine done_imm (imm_pair iz .sc) ?_
    rw [this]
    rfl
  have c3' := betw_iff.1 c3
  have d4 : decide (36000 < to) = false := decide_eq_false c4
  have : statementL l e from_ to = (sumsL l e from_ to, 0) := by rw [statementL, if_pos c1, if_neg c2', if_neg (by simp [c3, c4])]
  simp -dsimp -implicitDefEqProofs [-getElem?_pos, go_sem, hP, d4]
  refine callB_is ((sums_pf l e from_ to fl (by omega)).lift _ _) hP en_77 (by simp [ip, imm_sc]) (imm_agg.2 (sumsL l e from_ to).imm) ?_
  generalize hS : sumsL l e from_ to = S at this
  have cS : S.cells = [iv S.Assets, iv S.Liabilities, iv S.Worth, iv S.Revenue, iv S.Expense] := rfl
  simp -dsimp -implicitDefEqProofs [-getElem?_pos, go_sem, hP, cS]
  refine done_imm (imm_pair (imm_agg.2 S.imm) .sc) ?_
  rw [this]
  rfl

end Go.Proofs.Ytellcfkpfccgaaa
