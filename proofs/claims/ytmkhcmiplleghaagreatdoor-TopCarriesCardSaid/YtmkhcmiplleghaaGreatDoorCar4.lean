/- Carrying over: the small functions, and sorting. -/
import Derived.Test.YtmkhcmiplleghaaGreatDoorCar3
set_option linter.unusedSimpArgs false
set_option linter.unusedVariables false
namespace Go.Proofs.YtmkhcmiplleghaaGreatDoor
open Go.PA
open Go.RowKit

theorem camong_pf (n lo hi : Int) : PFun Tryz.prog none none 18 [iv n, iv lo, iv hi] (· = bv (decide (lo ≤ n) && decide (n ≤ hi))) := by
  refine pfun_intro Tryz.func18 rfl (by simp [Tryz.f18]) (by kernel_rfl) ?_
  intro E hP hr hs hW hN
  simp -dsimp -implicitDefEqProofs [-getElem?_pos, go_sem, hP]
  by_cases h : lo ≤ n
  · simp -dsimp -implicitDefEqProofs [-getElem?_pos, go_sem, hP, h]
  · simp -dsimp -implicitDefEqProofs [-getElem?_pos, go_sem, hP, h]
theorem ccode4_pf {c : ByteArray} (hc : c ∈ codes4) : PFun Tryz.prog none none 33 [.sc (.string c)] (· = bv true) := by
  refine pfun_intro Tryz.func33 rfl (by simp [Tryz.f33]) (by kernel_rfl) ?_
  intro E hP hr hs hW hN
  have hs := List.all_eq_true.1 codes4_size c hc
  simp only [Bool.and_eq_true, decide_eq_true_eq] at hs
  simp -dsimp -implicitDefEqProofs [-getElem?_pos, go_sem, hP]
  refine callB_is ((parts_pf c hs.1).lift _ _) hP en_40 (by simp -dsimp -implicitDefEqProofs [-getElem?_pos, go_sem]) (by simp [intsL, go_sem]) ?_
  have d : decide ((0 : Int) < ((partsD c).length : Int)) = true := decide_eq_true (by omega)
  simp -dsimp -implicitDefEqProofs [-getElem?_pos, go_sem, hP, intsL, d]
  exact hs.2
theorem mvalid4_pf (n : Int) (h : 0 ≤ n ∧ n ≤ 1000000) : PFun Tryz.prog none none 27 [iv n] (· = bv true) := by
  refine pfun_intro Tryz.func27 rfl (by simp [Tryz.f27]) (by kernel_rfl) ?_
  intro E hP hr hs hW hN
  have d1 : decide (0 ≤ n) = true := decide_eq_true (by omega)
  have d2 : decide (n ≤ 1000000000000) = true := decide_eq_true (by omega)
  simp -dsimp -implicitDefEqProofs [-getElem?_pos, go_sem, hP, d1, d2]
theorem copen_pf {x : TOpen} (hx : OpOk x) : PFun Tryz.prog none none 21 [.agg x.cells] (· = bv true) := by
  refine pfun_intro Tryz.func21 rfl (by simp [Tryz.f21]) (by kernel_rfl) ?_
  intro E hP hr hs hW hN
  have h1 := hx.of
  have h2 := hx.cm
  have h3 := hx.yr
  have h4 := hx.am
  have d1 : decide (1 ≤ x.Office) = true := decide_eq_true (by omega)
  have d2 : decide (x.Office ≤ 6) = true := decide_eq_true (by omega)
  have d3 : decide (1 ≤ x.Commitment) = true := decide_eq_true (by omega)
  have d4 : decide (x.Commitment ≤ 1000000) = true := decide_eq_true (by omega)
  have d5 : decide (0 ≤ x.Year) = true := decide_eq_true (by omega)
  have d6 : decide (x.Year ≤ 100) = true := decide_eq_true (by omega)
  have d7 : decide (0 < x.Amount) = true := decide_eq_true (by omega)
  simp -dsimp -implicitDefEqProofs [-getElem?_pos, go_sem, hP, cOpn]
  refine callB_pure (camong_pf x.Office 1 6) hP en_18 (args_same (by simp -dsimp -implicitDefEqProofs [-getElem?_pos, go_sem])) .sc ?_
  simp -dsimp -implicitDefEqProofs [-getElem?_pos, go_sem, hP, d1, d2]
  refine callB_pure (camong_pf x.Commitment 1 1000000) hP en_18 (args_same (by simp -dsimp -implicitDefEqProofs [-getElem?_pos, go_sem])) .sc ?_
  simp -dsimp -implicitDefEqProofs [-getElem?_pos, go_sem, hP, d3, d4]
  refine callB_pure (ccode4_pf hx.cd) hP en_33 (args_same (by simp -dsimp -implicitDefEqProofs [-getElem?_pos, go_sem])) .sc ?_
  simp -dsimp -implicitDefEqProofs [-getElem?_pos, go_sem, hP]
  refine callB_pure (camong_pf x.Year 0 100) hP en_18 (args_same (by simp -dsimp -implicitDefEqProofs [-getElem?_pos, go_sem])) .sc ?_
  simp -dsimp -implicitDefEqProofs [-getElem?_pos, go_sem, hP, d5, d6, d7]
  refine callB_pure (mvalid4_pf x.Amount (by omega)) hP en_27 (args_same (by simp -dsimp -implicitDefEqProofs [-getElem?_pos, go_sem])) .sc ?_
  simp -dsimp -implicitDefEqProofs [-getElem?_pos, go_sem, hP]
def cmpO (a b : TOpen) : Int := orI [cmpC a.Code b.Code, cmpI a.Office b.Office, cmpI a.Commitment b.Commitment]
theorem ccmp_pf {a b : TOpen} (ha : a.Code ∈ codes4) (hb : b.Code ∈ codes4) : PFun Tryz.prog none none 17 [.agg a.cells, .agg b.cells] (· = iv (cmpO a b)) := by
  refine pfun_intro Tryz.func17 rfl (by simp [Tryz.f17]) (by kernel_rfl) ?_
  intro E hP hr hs hW hN
  simp -dsimp -implicitDefEqProofs [-getElem?_pos, go_sem, hP, cOpn]
  refine adrawB (fun _ => true) [] hP (by kernel_rfl) (by kernel_rfl) ?_
  simp -dsimp -implicitDefEqProofs [-getElem?_pos, go_sem, hP]
  refine callB_pure (cmp4_pf ha hb) hP en_24 (args_same (by simp -dsimp -implicitDefEqProofs [-getElem?_pos, go_sem])) .sc ?_
  simp -dsimp -implicitDefEqProofs [-getElem?_pos, go_sem, hP]
  refine callB_pure (compare_pf a.Office b.Office) hP en_37 (args_same (by simp -dsimp -implicitDefEqProofs [-getElem?_pos, go_sem])) .sc ?_
  simp -dsimp -implicitDefEqProofs [-getElem?_pos, go_sem, hP]
  refine callB_pure (compare_pf a.Commitment b.Commitment) hP en_37 (args_same (by simp -dsimp -implicitDefEqProofs [-getElem?_pos, go_sem])) .sc ?_
  simp -dsimp -implicitDefEqProofs [-getElem?_pos, go_sem, hP]
  refine callB_pure (or_pf [cmpC a.Code b.Code, cmpI a.Office b.Office, cmpI a.Commitment b.Commitment] (by simp)) hP en_36 (args_same (by simp [go_sem, intsL])) .sc ?_
  simp -dsimp -implicitDefEqProofs [-getElem?_pos, go_sem, hP]
  rfl
theorem clin2_pf {a b : TOpen} (ha : a.Code ∈ codes4) (hb : b.Code ∈ codes4) : PFun Tryz.prog none none 23 [.agg a.cells, .agg b.cells] (· = iv (cmpC a.Code b.Code)) := by
  refine pfun_intro Tryz.func23 rfl (by simp [Tryz.f23]) (by kernel_rfl) ?_
  intro E hP hr hs hW hN
  simp -dsimp -implicitDefEqProofs [-getElem?_pos, go_sem, hP, cOpn]
  refine callB_pure (cmp4_pf ha hb) hP en_24 (args_same (by simp -dsimp -implicitDefEqProofs [-getElem?_pos, go_sem])) .sc ?_
  simp -dsimp -implicitDefEqProofs [-getElem?_pos, go_sem, hP]
theorem clin1_pf {x : TOpen} (hx : OpOk x) : PFun Tryz.prog none none 20 [.agg x.cells] (· = bv false) := by
  refine pfun_intro Tryz.func20 rfl (by simp [Tryz.f20]) (by kernel_rfl) ?_
  intro E hP hr hs hW hN
  have h := copen_pf hx
  rw [cOpn] at h
  simp -dsimp -implicitDefEqProofs [-getElem?_pos, go_sem, hP, cOpn]
  refine callB_pure h hP en_21 (args_same (by simp -dsimp -implicitDefEqProofs [-getElem?_pos, go_sem])) .sc ?_
  simp -dsimp -implicitDefEqProofs [-getElem?_pos, go_sem, hP]
theorem clin3_pf {x : TCarry} (hx : 0 ≤ x.Amount ∧ x.Amount ≤ 1000000) : PFun Tryz.prog none none 26 [.agg x.cells] (· = bv false) := by
  refine pfun_intro Tryz.func26 rfl (by simp [Tryz.f26]) (by kernel_rfl) ?_
  intro E hP hr hs hW hN
  simp -dsimp -implicitDefEqProofs [-getElem?_pos, go_sem, hP, cCry]
  refine callB_pure (mvalid4_pf x.Amount hx) hP en_27 (args_same (by simp -dsimp -implicitDefEqProofs [-getElem?_pos, go_sem])) .sc ?_
  simp -dsimp -implicitDefEqProofs [-getElem?_pos, go_sem, hP]

section
variable {α : Type} (enc : α → List AV) (lt : α → α → Bool) (g : FuncId)
/-- What the comparison does. -/
def CmpOk_open : Prop := (∀ a, (enc a).length = 5) ∧ (∀ a c, c ∈ enc a → Imm c ∧ c.cellish = true) ∧ enterable Tryz.prog g = true ∧ ∀ a b, PFun Tryz.prog none none g [.agg (enc a), .agg (enc b)] (fun r => ∃ i : Int, r = iv i ∧ decide (i < 0) = lt a b)

set_option maxRecDepth 4000 in
theorem insertion_m_open {row src : Option Nat} (hc : CmpOk_open enc lt g) (pre l post : List α) (H : Heap) (id a b n : Nat) (ha : a = pre.length) (hb : b = pre.length + l.length) (hn : n = pre.length + l.length + post.length) (hb9 : n ≤ 1000000000)
    (hH : H[id]? = some (some ⟨42, 5, encL enc (pre ++ l ++ post)⟩)) :
    MFun Tryz.prog row src 53 [.sref id 0 n, iv a, iv b, .fn g []] H (fun _ H' => H' = H.set id (some ⟨42, 5, encL enc (pre ++ isort lt l ++ post)⟩)) := by
  obtain ⟨hk, him, hen, hcmp⟩ := hc
  refine mfun_intro Tryz.func53 rfl (by simp [Tryz.f53]) (by kernel_rfl) ⟨.tup [], _, rfl⟩ ?_
  intro E hP hr hs hN
  have w1 := wrap_in ((a : Int) + 1) (by omega)
  have hlt : id < H.length := (List.getElem?_eq_some_iff.1 hH).1
  have hself : H.set id (some ⟨42, 5, encL enc (pre ++ l ++ post)⟩) = H := by
    apply List.ext_getElem?
    intro j
    rw [List.getElem?_set]
    split
    · rename_i h; subst h; rw [hH]
    · rfl
  simp [go_sem, hP, w1]
  obtain ⟨I, hI⟩ : ∃ I : Nat → St → Prop, I = fun m s => ∃ i : Nat, a + 1 ≤ i ∧ (i ≤ b ∨ l = [] ∧ i = a + 1) ∧ m = b - i ∧ s.t 0 = .sref id 0 n ∧ s.t 1 = iv a ∧ s.t 2 = iv b ∧ s.t 3 = .fn g [] ∧ s.t 8 = iv i ∧
    s.H = H.set id (some ⟨42, 5, encL enc (pre ++ ((rsort lt (l.take (i - a))).reverse ++ l.drop (i - a)) ++ post)⟩) := ⟨_, rfl⟩
  refine aloop0 I (b - (a + 1)) (by rw [hN]; rfl) ?_ ?_
  · rw [hI]
    refine ⟨a + 1, by omega, ?_, rfl, ?_⟩
    · cases l with
      | nil => exact .inr ⟨rfl, rfl⟩
      | cons x l => exact .inl (by simp at hb; omega)
    · refine ⟨by simp [go_sem], by simp [go_sem], by simp [go_sem], by simp [go_sem], by simp [go_sem], ?_⟩
      have e : (rsort lt (l.take 1)).reverse ++ l.drop 1 = l := by
        cases l with
        | nil => rfl
        | cons x l => simp [rsort, rins]
      rw [show a + 1 - a = 1 from by omega, e]
      exact hself.symm
  intro m s hs'
  rw [hI] at hs'
  obtain ⟨i, h1, h2, hm, t0, t1, t2, t3, t8, sH⟩ := hs'
  simp [go_sem, hP, t8, t2]
  refine condP (fun h => ?_) (fun h => ?_)
  · have hib : i < b := by simpa using h
    have hil : i - a < l.length := by omega
    simp [go_sem, hP, t8, t2]
    obtain ⟨x, hx⟩ : ∃ x, x = l[i - a] := ⟨_, rfl⟩
    obtain ⟨P, hPd⟩ : ∃ P, P = rsort lt (l.take (i - a)) := ⟨_, rfl⟩
    obtain ⟨R, hR⟩ : ∃ R, R = l.drop (i - a + 1) := ⟨_, rfl⟩
    have hPl : P.length = i - a := by rw [hPd, rsort_len]; simp; omega
    have hRl : R.length + (i - a) + 1 = l.length := by rw [hR]; simp; omega
    have w9 := wrap_in ((i : Int) + 1) (by omega)
    obtain ⟨J, hJ⟩ : ∃ J : Nat → St → Prop, J = fun m s => ∃ (A B : List α), m = A.length ∧ A.length + B.length = i - a ∧ rins lt x P = B.reverse ++ rins lt x A.reverse ∧ s.t 0 = .sref id 0 n ∧ s.t 1 = iv a ∧ s.t 2 = iv b ∧ s.t 3 = .fn g [] ∧ s.t 8 = iv i ∧ s.t 9 = iv (a + A.length : Nat) ∧
      s.H = H.set id (some ⟨42, 5, encL enc (pre ++ (A ++ x :: B ++ R) ++ post)⟩) := ⟨_, rfl⟩
    refine aloop0 J (i - a) (by rw [hN]; rfl) ?_ ?_
    · rw [hJ]
      refine ⟨P.reverse, [], by simp [hPl], by simp [hPl], by simp, by simp [go_sem, t0], by simp [go_sem, t1], by simp [go_sem, t2], by simp [go_sem, t3], by simp [go_sem, t8], ?_, ?_⟩
      · simp [go_sem, hPl]; omega
      simp only [sH, ← hPd]
      rw [List.drop_eq_getElem_cons hil, ← hx, ← hR]
      simp
    intro m s hs'
    rw [hJ] at hs'
    obtain ⟨A, B, hm', hAB, hins, t0, t1, t2, t3, t8, t9, sH⟩ := hs'
    simp [go_sem, hP]
    refine adrawB (fun _ => true) [] hP (by kernel_rfl) (by kernel_rfl) ?_
    have stop : rins lt x P = B.reverse ++ x :: A.reverse → s.H = H.set id (some ⟨42, 5, encL enc (pre ++ ((rsort lt (l.take (i + 1 - a))).reverse ++ l.drop (i + 1 - a)) ++ post)⟩) := fun h => by
      have e1 : l.take (i + 1 - a) = l.take (i - a) ++ [x] := by rw [show i + 1 - a = i - a + 1 from by omega, List.take_succ_eq_append_getElem hil, ← hx]
      have e2 : l.drop (i + 1 - a) = R := by rw [hR]; congr 1; omega
      rw [e1, e2, rsort_snoc, ← hPd, h, sH]
      simp
    rcases List.eq_nil_or_concat A with rfl | ⟨A', y, rfl⟩
    · have st := stop (by simpa [rins] using hins)
      simp only [List.length_nil, Nat.add_zero] at t9
      simp [go_sem, hP, t9, t1, t8, w9]
      rw [hI]
      exact ⟨b - (i + 1), by omega, i + 1, by omega, .inl (by omega), rfl, by simp [go_sem, t0], by simp [go_sem, t1], by simp [go_sem, t2], by simp [go_sem, t3], by simp [go_sem], st⟩
    · rw [List.concat_eq_append] at *
      obtain ⟨M, hM⟩ : ∃ M, M = encL enc (B ++ R ++ post) := ⟨_, rfl⟩
      obtain ⟨L, hL⟩ : ∃ L, L = encL enc (pre ++ A') := ⟨_, rfl⟩
      have ecs : encL enc (pre ++ ((A' ++ [y]) ++ x :: B ++ R) ++ post) = L ++ enc y :: enc x :: M := by rw [hM, hL]; simp [encL]
      have ecs2 : encL enc (pre ++ (A' ++ x :: y :: B ++ R) ++ post) = L ++ enc x :: enc y :: M := by rw [hM, hL]; simp [encL]
      rw [ecs] at sH
      obtain ⟨j, hj⟩ : ∃ j, j = L.length := ⟨_, rfl⟩
      have hj2 : j = pre.length + A'.length := by rw [hj, hL]; simp [encL]
      have t9 : s.t 9 = iv ((j : Int) + 1) := by rw [t9, hj2, ha]; simp; omega
      simp at hAB
      have hjN : j + 1 < n := by omega
      obtain ⟨cs, hcs⟩ : ∃ cs, cs = L ++ enc y :: enc x :: M := ⟨_, rfl⟩
      have hcl : cs.length = n := by rw [hcs, ← ecs]; simp [encL]; omega
      have hcy : ∀ h : j < cs.length, cs[j]'h = enc y := fun h => by subst hcs; subst hj; simp
      have hcx : ∀ h : j + 1 < cs.length, cs[j + 1]'h = enc x := fun h => by subst hcs; subst hj; simp
      have hk4 : ∀ z, (enc z).take 5 = enc z := fun z => List.take_of_length_le (by rw [hk]; omega)
      have ht : ((j : Int) + 1).toNat = j + 1 := by omega
      have hd : decide ((a : Int) < (j : Int) + 1) = true := by simp; omega
      have hjN' : (j : Int) + 1 < n := by omega
      have hj0 : (0 : Int) ≤ (j : Int) + 1 := by omega
      have hjn : j < n := by omega
      have w2 := wrap_in ((j : Int) + 1 - 1) (by omega)
      rw [Int.add_sub_cancel] at w2
      rw [← hcs] at sH
      have hHid : s.H[id]? = some (some ⟨42, 5, cs⟩) := by rw [sH]; simp [hlt]
      simp [go_sem, hP, t9, t1, t0, t3, hd, hHid, hcy, hcx, ht, w2, hk, hk4, hjN', hj0, hcl, hjn, hjN, Int.add_sub_cancel]
      refine callB_flat ((hcmp x y).lift _ _) hP hen (args_same (by simp [go_sem]; exact ⟨fun c h => (him x c h).1, fun c h => (him y c h).1⟩)) ⟨iv (if lt x y then -1 else 0), _, rfl, by cases lt x y <;> simp⟩ (by rintro r ⟨c, rfl, _⟩; exact .sc) ?_
      rintro r ⟨c, rfl, hlt⟩
      simp [go_sem, hP, hlt]
      refine condP (fun h => ?_) (fun h => ?_)
      · refine adrawB (fun _ => true) [15, 17] hP (by kernel_rfl) (by kernel_rfl) ?_
        have hcel : ∀ z c, c ∈ enc z → c.cellish = true := fun z c h => (him z c h).2
        have hltS : id < s.H.length := (List.getElem?_eq_some_iff.1 hHid).1
        have hset : ∀ o : Option AObj, (s.H.set id o)[id]? = some o := fun o => by simp [hltS]
        have hd4 : ∀ z, (enc z).drop 5 = [] := fun z => List.drop_eq_nil_of_le (by rw [hk]; omega)
        have hcely : (enc y).all AV.cellish = true := List.all_eq_true.2 (hcel y)
        have hcelx : (enc x).all AV.cellish = true := List.all_eq_true.2 (hcel x)
        simp [go_sem, hP, t9, t1, t0, t3, hd, hHid, hcy, hcx, ht, w2, hk, hk4, hjN', hj0, hcl, hjn, hjN, Int.add_sub_cancel, hcelx, hcely, hset, hd4]
        have w3 := wrap_in ((j : Int) + 1 - 1) (by omega)
        rw [Int.add_sub_cancel] at w3
        rw [hJ]
        refine ⟨A'.length, by simp at hm'; omega, A', y :: B, rfl, by simp; omega, ?_, by simp [go_sem, t0], by simp [go_sem, t1], by simp [go_sem, t2], by simp [go_sem, t3], by simp [go_sem, t8], ?_, ?_⟩
        · rw [hins]; simp [rins, h]
        · simp [go_sem]; omega
        · rw [ecs2, sH, List.set_set, hcs]
          have := set_swap L M (enc x) (enc y) (j + 1) (by omega)
          simp only [Nat.add_sub_cancel] at this
          simp [this]
      · have st := stop (by rw [hins]; simp [rins, h])
        simp [go_sem, hP, t9, t1, t8, w9]
        rw [hI]
        exact ⟨b - (i + 1), by omega, i + 1, by omega, .inl (by omega), rfl, by simp [go_sem, t0], by simp [go_sem, t1], by simp [go_sem, t2], by simp [go_sem, t3], by simp [go_sem], st⟩
  · have e : isort lt l = (rsort lt (l.take (i - a))).reverse ++ l.drop (i - a) := by
      have hge : l.length ≤ i - a := by simp at h; omega
      rw [List.take_of_length_le hge, List.drop_eq_nil_of_le hge]
      simp [isort]
    simp [go_sem, hP]
    rw [sH, e]
    simp

theorem stable_m_open {row src : Option Nat} (hc : CmpOk_open enc lt g) (l : List α) (H : Heap) (id n : Nat) (hn : n = l.length) (hb9 : n < 20)
    (hH : H[id]? = some (some ⟨42, 5, encL enc l⟩)) :
    MFun Tryz.prog row src 39 [.sref id 0 n, iv n, .fn g []] H (fun _ H' => H' = H.set id (some ⟨42, 5, encL enc (isort lt l)⟩)) := by
  refine mfun_intro Tryz.func39 rfl (by simp [Tryz.f39]) (by kernel_rfl) ⟨.tup [], _, rfl⟩ ?_
  intro E hP hr hs hN
  have hd : decide (20 ≤ (n : Int)) = false := by simp; omega
  have hd2 : decide (20 < (n : Int)) = false := by simp; omega
  simp [go_sem, hP]
  refine aloop0 (fun m s => s.t 0 = .sref id 0 n ∧ s.t 1 = iv n ∧ s.t 2 = .fn g [] ∧ s.t 6 = iv 20 ∧ s.t 7 = iv 0 ∧ s.t 8 = iv 20 ∧ s.H = H) 0 (by rw [hN]; rfl) ?_ ?_
  · simp [go_sem]
  rintro m s ⟨t0, t1, t2, t6, t7, t8, sH⟩
  simp [go_sem, hP, t8, t1, hd, t7, t0, t2]
  have hm := insertion_m_open (row := E.row) (src := E.src) enc lt g hc [] l [] s.H id 0 n n rfl (by simp [hn]) (by simp [hn]) (by omega) (by rw [sH]; simpa using hH)
  simp only [List.nil_append, List.append_nil] at hm
  refine callB_m hm hP (by kernel_rfl) ?_
  rintro r H' rfl
  refine aloop0 (fun m s' => s'.t 1 = iv n ∧ s'.t 6 = iv 20 ∧ s'.H = H.set id (some ⟨42, 5, encL enc (isort lt l)⟩)) 0 (by rw [hN]; rfl) ?_ ?_
  · simp [go_sem, t1, t6, sH]
  rintro m s' ⟨t1, t6, sH⟩
  simp [go_sem, hP, t6, t1, hd2, sH]

theorem sortStable_m_open {row src : Option Nat} (hc : CmpOk_open enc lt g) (l : List α) (H : Heap) (id n : Nat) (hn : n = l.length) (hb9 : n < 20)
    (hH : H[id]? = some (some ⟨42, 5, encL enc l⟩)) :
    MFun Tryz.prog row src 22 [.sref id 0 n, .fn g []] H (fun _ H' => H' = H.set id (some ⟨42, 5, encL enc (isort lt l)⟩)) := by
  refine mfun_intro Tryz.func22 rfl (by simp [Tryz.f22]) (by kernel_rfl) ⟨.tup [], _, rfl⟩ ?_
  intro E hP hr hs hN
  simp [go_sem, hP, hH]
  refine callB_m (stable_m_open enc lt g hc l H id n hn hb9 hH) hP (by kernel_rfl) ?_
  rintro r H' rfl
  simp [go_sem, hP]
end

abbrev OkOp := { x : TOpen // x.Code ∈ codes4 }
def encO (x : OkOp) : List AV := x.1.cells
theorem encO_map (l : List OkOp) : encL encO l = encL TOpen.cells (l.map Subtype.val) := by simp [encL, encO]
theorem encO_lift (l : List TOpen) (h : ∀ x, x ∈ l → x.Code ∈ codes4) : ∃ l' : List OkOp, l'.map Subtype.val = l := by
  induction l with
  | nil => exact ⟨[], rfl⟩
  | cons x l ih =>
    obtain ⟨l', hl⟩ := ih fun y hy => h y (by simp [hy])
    exact ⟨⟨x, h x (by simp)⟩ :: l', by simp [hl]⟩
theorem cmpOk1 : CmpOk_open encO (fun a b => decide (cmpO a.1 b.1 < 0)) 17 :=
  ⟨fun a => a.1.len, fun a c hc => ⟨a.1.imm c hc, List.all_eq_true.1 a.1.cel c hc⟩, by kernel_rfl, fun a b => (ccmp_pf a.2 b.2).mono fun r hr => ⟨_, hr, rfl⟩⟩
theorem cmpOk2 : CmpOk_open encO (fun a b => decide (cmpC a.1.Code b.1.Code < 0)) 23 :=
  ⟨fun a => a.1.len, fun a c hc => ⟨a.1.imm c hc, List.all_eq_true.1 a.1.cel c hc⟩, by kernel_rfl, fun a b => (clin2_pf a.2 b.2).mono fun r hr => ⟨_, hr, rfl⟩⟩
end Go.Proofs.YtmkhcmiplleghaaGreatDoor
