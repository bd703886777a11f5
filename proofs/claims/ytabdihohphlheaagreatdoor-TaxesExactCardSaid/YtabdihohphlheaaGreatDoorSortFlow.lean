/- Sorting flows: the library's insertion sort, for lists of fewer than 20. -/
import Derived.Test.YtabdihohphlheaaGreatDoorCmp
import Derived.Test.YtabdihohphlheaaGreatDoorPaC
set_option linter.unusedSimpArgs false
namespace Go.Proofs.YtabdihohphlheaaGreatDoor
open Go.PA
open Go.RowKit

/-- Insertion into a list that lies back to front. -/
def rins {α : Type} (lt : α → α → Bool) (x : α) : List α → List α
  | [] => [x]
  | y :: ys => if lt x y then y :: rins lt x ys else x :: y :: ys
def rsort {α : Type} (lt : α → α → Bool) (l : List α) : List α := l.foldl (fun acc x => rins lt x acc) []
/-- Stable sorting. -/
def isort {α : Type} (lt : α → α → Bool) (l : List α) : List α := (rsort lt l).reverse

theorem rins_len {α : Type} (lt : α → α → Bool) (x : α) : ∀ l : List α, (rins lt x l).length = l.length + 1
  | [] => rfl
  | y :: ys => by
    simp only [rins]
    split
    · simp [rins_len lt x ys]
    · simp
theorem rsort_snoc {α : Type} (lt : α → α → Bool) (l : List α) (x : α) : rsort lt (l ++ [x]) = rins lt x (rsort lt l) := by simp [rsort]
theorem foldl_rins_len {α : Type} (lt : α → α → Bool) : ∀ (l acc : List α), (l.foldl (fun acc x => rins lt x acc) acc).length = acc.length + l.length
  | [], acc => by simp
  | x :: l, acc => by rw [List.foldl_cons, foldl_rins_len lt l, rins_len]; simp; omega
theorem rsort_len {α : Type} (lt : α → α → Bool) (l : List α) : (rsort lt l).length = l.length := by simp [rsort, foldl_rins_len]
theorem isort_len {α : Type} (lt : α → α → Bool) (l : List α) : (isort lt l).length = l.length := by simp [isort, rsort_len]

theorem set_swap {β : Type} (L M : List β) (x y : β) (j : Nat) (hj : j = L.length + 1) : ((L ++ y :: x :: M).set j y).set (j - 1) x = L ++ x :: y :: M := by
  subst hj
  rw [List.set_append_right _ _ (by omega), List.set_append_right _ _ (by omega)]
  simp

section
variable {α : Type} (enc : α → List AV) (lt : α → α → Bool) (g : FuncId)
/-- What the comparison does. -/
def CmpOk : Prop := (∀ a, (enc a).length = 4) ∧ (∀ a c, c ∈ enc a → Imm c ∧ c.cellish = true) ∧ enterable Tryz.prog g = true ∧ ∀ a b, PFun Tryz.prog none none g [.agg (enc a), .agg (enc b)] (fun r => ∃ i : Int, r = iv i ∧ decide (i < 0) = lt a b)

set_option maxRecDepth 4000 in
theorem insertion_m {row src : Option Nat} (hc : CmpOk enc lt g) (pre l post : List α) (H : Heap) (id a b n : Nat) (ha : a = pre.length) (hb : b = pre.length + l.length) (hn : n = pre.length + l.length + post.length) (hb9 : n ≤ 1000000000)
    (hH : H[id]? = some (some ⟨59, 4, encL enc (pre ++ l ++ post)⟩)) :
    MFun Tryz.prog row src 77 [.sref id 0 n, iv a, iv b, .fn g []] H (fun _ H' => H' = H.set id (some ⟨59, 4, encL enc (pre ++ isort lt l ++ post)⟩)) := by
  obtain ⟨hk, him, hen, hcmp⟩ := hc
  refine mfun_intro Tryz.func77 rfl (by simp [Tryz.f77]) (by kernel_rfl) ⟨.tup [], _, rfl⟩ ?_
  intro E hP hr hs hN
  have w1 := wrap_in ((a : Int) + 1) (by omega)
  have hlt : id < H.length := (List.getElem?_eq_some_iff.1 hH).1
  have hself : H.set id (some ⟨59, 4, encL enc (pre ++ l ++ post)⟩) = H := by
    apply List.ext_getElem?
    intro j
    rw [List.getElem?_set]
    split
    · rename_i h; subst h; rw [hH]
    · rfl
  simp [go_sem, hP, w1]
  obtain ⟨I, hI⟩ : ∃ I : Nat → St → Prop, I = fun m s => ∃ i : Nat, a + 1 ≤ i ∧ (i ≤ b ∨ l = [] ∧ i = a + 1) ∧ m = b - i ∧ s.t 0 = .sref id 0 n ∧ s.t 1 = iv a ∧ s.t 2 = iv b ∧ s.t 3 = .fn g [] ∧ s.t 8 = iv i ∧
    s.H = H.set id (some ⟨59, 4, encL enc (pre ++ ((rsort lt (l.take (i - a))).reverse ++ l.drop (i - a)) ++ post)⟩) := ⟨_, rfl⟩
  refine aloop0 I (b - (a + 1)) (by rw [hN]; rfl) ?_ ?_
  · rw [hI]
    refine ⟨a + 1, by omega, ?_, rfl, ?_⟩
    · cases l with
      | nil => exact .inr ⟨rfl, rfl⟩
      | cons x l => exact .inl (by simp at hb; omega)
    · refine ⟨by simp [go_sem], by simp [go_sem], by simp [go_sem], by simp [go_sem], by simp [go_sem], ?_⟩
      have e : (rsort lt (l.take 1)).reverse ++ l.drop 1 = l := by
        cases l with
        | nil => rfl
        | cons x l => simp [rsort, rins]
      rw [show a + 1 - a = 1 from by omega, e]
      exact hself.symm
  intro m s hs'
  rw [hI] at hs'
  obtain ⟨i, h1, h2, hm, t0, t1, t2, t3, t8, sH⟩ := hs'
  simp [go_sem, hP, t8, t2]
  refine condP (fun h => ?_) (fun h => ?_)
  · have hib : i < b := by simpa using h
    have hil : i - a < l.length := by omega
    simp [go_sem, hP, t8, t2]
    obtain ⟨x, hx⟩ : ∃ x, x = l[i - a] := ⟨_, rfl⟩
    obtain ⟨P, hPd⟩ : ∃ P, P = rsort lt (l.take (i - a)) := ⟨_, rfl⟩
    obtain ⟨R, hR⟩ : ∃ R, R = l.drop (i - a + 1) := ⟨_, rfl⟩
    have hPl : P.length = i - a := by rw [hPd, rsort_len]; simp; omega
    have hRl : R.length + (i - a) + 1 = l.length := by rw [hR]; simp; omega
    have w9 := wrap_in ((i : Int) + 1) (by omega)
    obtain ⟨J, hJ⟩ : ∃ J : Nat → St → Prop, J = fun m s => ∃ (A B : List α), m = A.length ∧ A.length + B.length = i - a ∧ rins lt x P = B.reverse ++ rins lt x A.reverse ∧ s.t 0 = .sref id 0 n ∧ s.t 1 = iv a ∧ s.t 2 = iv b ∧ s.t 3 = .fn g [] ∧ s.t 8 = iv i ∧ s.t 9 = iv (a + A.length : Nat) ∧
      s.H = H.set id (some ⟨59, 4, encL enc (pre ++ (A ++ x :: B ++ R) ++ post)⟩) := ⟨_, rfl⟩
    refine aloop0 J (i - a) (by rw [hN]; rfl) ?_ ?_
    · rw [hJ]
      refine ⟨P.reverse, [], by simp [hPl], by simp [hPl], by simp, by simp [go_sem, t0], by simp [go_sem, t1], by simp [go_sem, t2], by simp [go_sem, t3], by simp [go_sem, t8], ?_, ?_⟩
      · simp [go_sem, hPl]; omega
      simp only [sH, ← hPd]
      rw [List.drop_eq_getElem_cons hil, ← hx, ← hR]
      simp
    intro m s hs'
    rw [hJ] at hs'
    obtain ⟨A, B, hm', hAB, hins, t0, t1, t2, t3, t8, t9, sH⟩ := hs'
    simp [go_sem, hP]
    refine adrawB (fun _ => true) [] hP (by kernel_rfl) (by kernel_rfl) ?_
    have stop : rins lt x P = B.reverse ++ x :: A.reverse → s.H = H.set id (some ⟨59, 4, encL enc (pre ++ ((rsort lt (l.take (i + 1 - a))).reverse ++ l.drop (i + 1 - a)) ++ post)⟩) := fun h => by
      have e1 : l.take (i + 1 - a) = l.take (i - a) ++ [x] := by rw [show i + 1 - a = i - a + 1 from by omega, List.take_succ_eq_append_getElem hil, ← hx]
      have e2 : l.drop (i + 1 - a) = R := by rw [hR]; congr 1; omega
      rw [e1, e2, rsort_snoc, ← hPd, h, sH]
      simp
    rcases List.eq_nil_or_concat A with rfl | ⟨A', y, rfl⟩
    · have st := stop (by simpa [rins] using hins)
      simp only [List.length_nil, Nat.add_zero] at t9
      simp [go_sem, hP, t9, t1, t8, w9]
      rw [hI]
      exact ⟨b - (i + 1), by omega, i + 1, by omega, .inl (by omega), rfl, by simp [go_sem, t0], by simp [go_sem, t1], by simp [go_sem, t2], by simp [go_sem, t3], by simp [go_sem], st⟩
    · rw [List.concat_eq_append] at *
      obtain ⟨M, hM⟩ : ∃ M, M = encL enc (B ++ R ++ post) := ⟨_, rfl⟩
      obtain ⟨L, hL⟩ : ∃ L, L = encL enc (pre ++ A') := ⟨_, rfl⟩
      have ecs : encL enc (pre ++ ((A' ++ [y]) ++ x :: B ++ R) ++ post) = L ++ enc y :: enc x :: M := by rw [hM, hL]; simp [encL]
      have ecs2 : encL enc (pre ++ (A' ++ x :: y :: B ++ R) ++ post) = L ++ enc x :: enc y :: M := by rw [hM, hL]; simp [encL]
      rw [ecs] at sH
      obtain ⟨j, hj⟩ : ∃ j, j = L.length := ⟨_, rfl⟩
      have hj2 : j = pre.length + A'.length := by rw [hj, hL]; simp [encL]
      have t9 : s.t 9 = iv ((j : Int) + 1) := by rw [t9, hj2, ha]; simp; omega
      simp at hAB
      have hjN : j + 1 < n := by omega
      obtain ⟨cs, hcs⟩ : ∃ cs, cs = L ++ enc y :: enc x :: M := ⟨_, rfl⟩
      have hcl : cs.length = n := by rw [hcs, ← ecs]; simp [encL]; omega
      have hcy : ∀ h : j < cs.length, cs[j]'h = enc y := fun h => by subst hcs; subst hj; simp
      have hcx : ∀ h : j + 1 < cs.length, cs[j + 1]'h = enc x := fun h => by subst hcs; subst hj; simp
      have hk4 : ∀ z, (enc z).take 4 = enc z := fun z => List.take_of_length_le (by rw [hk]; omega)
      have ht : ((j : Int) + 1).toNat = j + 1 := by omega
      have hd : decide ((a : Int) < (j : Int) + 1) = true := by simp; omega
      have hjN' : (j : Int) + 1 < n := by omega
      have hj0 : (0 : Int) ≤ (j : Int) + 1 := by omega
      have hjn : j < n := by omega
      have w2 := wrap_in ((j : Int) + 1 - 1) (by omega)
      rw [Int.add_sub_cancel] at w2
      rw [← hcs] at sH
      have hHid : s.H[id]? = some (some ⟨59, 4, cs⟩) := by rw [sH]; simp [hlt]
      simp [go_sem, hP, t9, t1, t0, t3, hd, hHid, hcy, hcx, ht, w2, hk, hk4, hjN', hj0, hcl, hjn, hjN, Int.add_sub_cancel]
      refine callB_flat ((hcmp x y).lift _ _) hP hen (args_same (by simp [go_sem]; exact ⟨fun c h => (him x c h).1, fun c h => (him y c h).1⟩)) ⟨iv (if lt x y then -1 else 0), _, rfl, by cases lt x y <;> simp⟩ (by rintro r ⟨c, rfl, _⟩; exact .sc) ?_
      rintro r ⟨c, rfl, hlt⟩
      simp [go_sem, hP, hlt]
      refine condP (fun h => ?_) (fun h => ?_)
      · refine adrawB (fun _ => true) [15, 17] hP (by kernel_rfl) (by kernel_rfl) ?_
        have hcel : ∀ z c, c ∈ enc z → c.cellish = true := fun z c h => (him z c h).2
        have hltS : id < s.H.length := (List.getElem?_eq_some_iff.1 hHid).1
        have hset : ∀ o : Option AObj, (s.H.set id o)[id]? = some o := fun o => by simp [hltS]
        have hd4 : ∀ z, (enc z).drop 4 = [] := fun z => List.drop_eq_nil_of_le (by rw [hk]; omega)
        have hcely : (enc y).all AV.cellish = true := List.all_eq_true.2 (hcel y)
        have hcelx : (enc x).all AV.cellish = true := List.all_eq_true.2 (hcel x)
        simp [go_sem, hP, t9, t1, t0, t3, hd, hHid, hcy, hcx, ht, w2, hk, hk4, hjN', hj0, hcl, hjn, hjN, Int.add_sub_cancel, hcelx, hcely, hset, hd4]
        have w3 := wrap_in ((j : Int) + 1 - 1) (by omega)
        rw [Int.add_sub_cancel] at w3
        rw [hJ]
        refine ⟨A'.length, by simp at hm'; omega, A', y :: B, rfl, by simp; omega, ?_, by simp [go_sem, t0], by simp [go_sem, t1], by simp [go_sem, t2], by simp [go_sem, t3], by simp [go_sem, t8], ?_, ?_⟩
        · rw [hins]; simp [rins, h]
        · simp [go_sem]; omega
        · rw [ecs2, sH, List.set_set, hcs]
          have := set_swap L M (enc x) (enc y) (j + 1) (by omega)
          simp only [Nat.add_sub_cancel] at this
          simp [this]
      · have st := stop (by rw [hins]; simp [rins, h])
        simp [go_sem, hP, t9, t1, t8, w9]
        rw [hI]
        exact ⟨b - (i + 1), by omega, i + 1, by omega, .inl (by omega), rfl, by simp [go_sem, t0], by simp [go_sem, t1], by simp [go_sem, t2], by simp [go_sem, t3], by simp [go_sem], st⟩
  · have e : isort lt l = (rsort lt (l.take (i - a))).reverse ++ l.drop (i - a) := by
      have hge : l.length ≤ i - a := by simp at h; omega
      rw [List.take_of_length_le hge, List.drop_eq_nil_of_le hge]
      simp [isort]
    simp [go_sem, hP]
    rw [sH, e]
    simp

theorem stable_m {row src : Option Nat} (hc : CmpOk enc lt g) (l : List α) (H : Heap) (id n : Nat) (hn : n = l.length) (hb9 : n < 20)
    (hH : H[id]? = some (some ⟨59, 4, encL enc l⟩)) :
    MFun Tryz.prog row src 66 [.sref id 0 n, iv n, .fn g []] H (fun _ H' => H' = H.set id (some ⟨59, 4, encL enc (isort lt l)⟩)) := by
  refine mfun_intro Tryz.func66 rfl (by simp [Tryz.f66]) (by kernel_rfl) ⟨.tup [], _, rfl⟩ ?_
  intro E hP hr hs hN
  have hd : decide (20 ≤ (n : Int)) = false := by simp; omega
  have hd2 : decide (20 < (n : Int)) = false := by simp; omega
  simp [go_sem, hP]
  refine aloop0 (fun m s => s.t 0 = .sref id 0 n ∧ s.t 1 = iv n ∧ s.t 2 = .fn g [] ∧ s.t 6 = iv 20 ∧ s.t 7 = iv 0 ∧ s.t 8 = iv 20 ∧ s.H = H) 0 (by rw [hN]; rfl) ?_ ?_
  · simp [go_sem]
  rintro m s ⟨t0, t1, t2, t6, t7, t8, sH⟩
  simp [go_sem, hP, t8, t1, hd, t7, t0, t2]
  have hm := insertion_m (row := E.row) (src := E.src) enc lt g hc [] l [] s.H id 0 n n rfl (by simp [hn]) (by simp [hn]) (by omega) (by rw [sH]; simpa using hH)
  simp only [List.nil_append, List.append_nil] at hm
  refine callB_m hm hP (by kernel_rfl) ?_
  rintro r H' rfl
  refine aloop0 (fun m s' => s'.t 1 = iv n ∧ s'.t 6 = iv 20 ∧ s'.H = H.set id (some ⟨59, 4, encL enc (isort lt l)⟩)) 0 (by rw [hN]; rfl) ?_ ?_
  · simp [go_sem, t1, t6, sH]
  rintro m s' ⟨t1, t6, sH⟩
  simp [go_sem, hP, t6, t1, hd2, sH]

theorem sortStable_m {row src : Option Nat} (hc : CmpOk enc lt g) (l : List α) (H : Heap) (id n : Nat) (hn : n = l.length) (hb9 : n < 20)
    (hH : H[id]? = some (some ⟨59, 4, encL enc l⟩)) :
    MFun Tryz.prog row src 58 [.sref id 0 n, .fn g []] H (fun _ H' => H' = H.set id (some ⟨59, 4, encL enc (isort lt l)⟩)) := by
  refine mfun_intro Tryz.func58 rfl (by simp [Tryz.f58]) (by kernel_rfl) ⟨.tup [], _, rfl⟩ ?_
  intro E hP hr hs hN
  simp [go_sem, hP, hH]
  refine callB_m (stable_m enc lt g hc l H id n hn hb9 hH) hP (by kernel_rfl) ?_
  rintro r H' rfl
  simp [go_sem, hP]
end

end Go.Proofs.YtabdihohphlheaaGreatDoor
