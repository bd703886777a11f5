/- Sorting places: the library's insertion sort, for lists of fewer than 20, by a comparison that looks at the walk's own objects. -/
import Derived.Test.YtgapbmaehfdkoaaGreatDoorSortFlow
set_option linter.unusedSimpArgs false
namespace Go.Proofs.YtgapbmaehfdkoaaGreatDoor
open Go.PA
open Go.RowKit

section
variable {α : Type} (val : α → Int) (lt : α → α → Bool) (g : FuncId) (cap : AV)
def encV (a : α) : List AV := [iv (val a)]
/-- What the comparison does, whatever lies in the sorted object. -/
def CmpH (row src : Option Nat) (H : Heap) (id : Nat) : Prop := enterable Tryz.prog g = true ∧ ∀ a b, ∀ o, MFun Tryz.prog row src g [iv (val a), iv (val b), cap] (H.set id o) (fun r H'' => (∃ i : Int, r = iv i ∧ decide (i < 0) = lt a b) ∧ H'' = H.set id o)

set_option maxRecDepth 4000 in
theorem insertion_i {row src : Option Nat} {H : Heap} {id : Nat} (hc : CmpH val lt g cap row src H id) (pre l post : List α) (a b n : Nat) (ha : a = pre.length) (hb : b = pre.length + l.length) (hn : n = pre.length + l.length + post.length) (hb9 : n ≤ 1000000000)
    (hH : H[id]? = some (some ⟨3, 1, encL (encV val) (pre ++ l ++ post)⟩)) :
    MFun Tryz.prog row src 93 [.sref id 0 n, iv a, iv b, .fn g [cap]] H (fun _ H' => H' = H.set id (some ⟨3, 1, encL (encV val) (pre ++ isort lt l ++ post)⟩)) := by
  obtain ⟨hen, hcmp⟩ := hc
  have hk : ∀ a : α, (encV val a).length = 1 := fun _ => rfl
  have hhd : ∀ a : α, (encV val a).head? = some (iv (val a)) := fun _ => rfl
  have hcv : ∀ a : α, encV val a = [iv (val a)] := fun _ => rfl
  have him : ∀ (a : α) (c : AV), c ∈ encV val a → Imm c ∧ c.cellish = true := fun a c h => by
    simp only [encV, List.mem_singleton] at h
    subst h
    exact ⟨.sc, rfl⟩
  refine mfun_intro Tryz.func93 rfl (by simp [Tryz.f93]) (by kernel_rfl) ⟨.tup [], _, rfl⟩ ?_
  intro E hP hr hs hN
  have w1 := wrap_in ((a : Int) + 1) (by omega)
  have hlt : id < H.length := (List.getElem?_eq_some_iff.1 hH).1
  have hself : H.set id (some ⟨3, 1, encL (encV val) (pre ++ l ++ post)⟩) = H := by
    apply List.ext_getElem?
    intro j
    rw [List.getElem?_set]
    split
    · rename_i h; subst h; rw [hH]
    · rfl
  simp [go_sem, hP, w1]
  obtain ⟨I, hI⟩ : ∃ I : Nat → St → Prop, I = fun m s => ∃ i : Nat, a + 1 ≤ i ∧ (i ≤ b ∨ l = [] ∧ i = a + 1) ∧ m = b - i ∧ s.t 0 = .sref id 0 n ∧ s.t 1 = iv a ∧ s.t 2 = iv b ∧ s.t 3 = .fn g [cap] ∧ s.t 8 = iv i ∧
    s.H = H.set id (some ⟨3, 1, encL (encV val) (pre ++ ((rsort lt (l.take (i - a))).reverse ++ l.drop (i - a)) ++ post)⟩) := ⟨_, rfl⟩
  refine aloop0 I (b - (a + 1)) (by rw [hN]; rfl) ?_ ?_
  · rw [hI]
    refine ⟨a + 1, by omega, ?_, rfl, ?_⟩
    · cases l with
      | nil => exact .inr ⟨rfl, rfl⟩
      | cons x l => exact .inl (by simp at hb; omega)
    · refine ⟨by simp [go_sem], by simp [go_sem], by simp [go_sem], by simp [go_sem], by simp [go_sem], ?_⟩
      have e : (rsort lt (l.take 1)).reverse ++ l.drop 1 = l := by
        cases l with
        | nil => rfl
        | cons x l => simp [rsort, rins]
      rw [show a + 1 - a = 1 from by omega, e]
      exact hself.symm
  intro m s hs'
  rw [hI] at hs'
  obtain ⟨i, h1, h2, hm, t0, t1, t2, t3, t8, sH⟩ := hs'
  simp [go_sem, hP, t8, t2]
  refine condP (fun h => ?_) (fun h => ?_)
  · have hib : i < b := by simpa using h
    have hil : i - a < l.length := by omega
    simp [go_sem, hP, t8, t2]
    obtain ⟨x, hx⟩ : ∃ x, x = l[i - a] := ⟨_, rfl⟩
    obtain ⟨P, hPd⟩ : ∃ P, P = rsort lt (l.take (i - a)) := ⟨_, rfl⟩
    obtain ⟨R, hR⟩ : ∃ R, R = l.drop (i - a + 1) := ⟨_, rfl⟩
    have hPl : P.length = i - a := by rw [hPd, rsort_len]; simp; omega
    have hRl : R.length + (i - a) + 1 = l.length := by rw [hR]; simp; omega
    have w9 := wrap_in ((i : Int) + 1) (by omega)
    obtain ⟨J, hJ⟩ : ∃ J : Nat → St → Prop, J = fun m s => ∃ (A B : List α), m = A.length ∧ A.length + B.length = i - a ∧ rins lt x P = B.reverse ++ rins lt x A.reverse ∧ s.t 0 = .sref id 0 n ∧ s.t 1 = iv a ∧ s.t 2 = iv b ∧ s.t 3 = .fn g [cap] ∧ s.t 8 = iv i ∧ s.t 9 = iv (a + A.length : Nat) ∧
      s.H = H.set id (some ⟨3, 1, encL (encV val) (pre ++ (A ++ x :: B ++ R) ++ post)⟩) := ⟨_, rfl⟩
    refine aloop0 J (i - a) (by rw [hN]; rfl) ?_ ?_
    · rw [hJ]
      refine ⟨P.reverse, [], by simp [hPl], by simp [hPl], by simp, by simp [go_sem, t0], by simp [go_sem, t1], by simp [go_sem, t2], by simp [go_sem, t3], by simp [go_sem, t8], ?_, ?_⟩
      · simp [go_sem, hPl]; omega
      simp only [sH, ← hPd]
      rw [List.drop_eq_getElem_cons hil, ← hx, ← hR]
      simp
    intro m s hs'
    rw [hJ] at hs'
    obtain ⟨A, B, hm', hAB, hins, t0, t1, t2, t3, t8, t9, sH⟩ := hs'
    simp [go_sem, hP]
    refine adrawB (fun _ => true) [] hP (by kernel_rfl) (by kernel_rfl) ?_
    have stop : rins lt x P = B.reverse ++ x :: A.reverse → s.H = H.set id (some ⟨3, 1, encL (encV val) (pre ++ ((rsort lt (l.take (i + 1 - a))).reverse ++ l.drop (i + 1 - a)) ++ post)⟩) := fun h => by
      have e1 : l.take (i + 1 - a) = l.take (i - a) ++ [x] := by rw [show i + 1 - a = i - a + 1 from by omega, List.take_succ_eq_append_getElem hil, ← hx]
      have e2 : l.drop (i + 1 - a) = R := by rw [hR]; congr 1; omega
      rw [e1, e2, rsort_snoc, ← hPd, h, sH]
      simp
    rcases List.eq_nil_or_concat A with rfl | ⟨A', y, rfl⟩
    · have st := stop (by simpa [rins] using hins)
      simp only [List.length_nil, Nat.add_zero] at t9
      simp [go_sem, hP, t9, t1, t8, w9]
      rw [hI]
      exact ⟨b - (i + 1), by omega, i + 1, by omega, .inl (by omega), rfl, by simp [go_sem, t0], by simp [go_sem, t1], by simp [go_sem, t2], by simp [go_sem, t3], by simp [go_sem], st⟩
    · rw [List.concat_eq_append] at *
      obtain ⟨M, hM⟩ : ∃ M, M = encL (encV val) (B ++ R ++ post) := ⟨_, rfl⟩
      obtain ⟨L, hL⟩ : ∃ L, L = encL (encV val) (pre ++ A') := ⟨_, rfl⟩
      have ecs : encL (encV val) (pre ++ ((A' ++ [y]) ++ x :: B ++ R) ++ post) = L ++ encV val y :: encV val x :: M := by rw [hM, hL]; simp [encL]
      have ecs2 : encL (encV val) (pre ++ (A' ++ x :: y :: B ++ R) ++ post) = L ++ encV val x :: encV val y :: M := by rw [hM, hL]; simp [encL]
      rw [ecs] at sH
      obtain ⟨j, hj⟩ : ∃ j, j = L.length := ⟨_, rfl⟩
      have hj2 : j = pre.length + A'.length := by rw [hj, hL]; simp [encL]
      have t9 : s.t 9 = iv ((j : Int) + 1) := by rw [t9, hj2, ha]; simp; omega
      simp at hAB
      have hjN : j + 1 < n := by omega
      obtain ⟨cs, hcs⟩ : ∃ cs, cs = L ++ encV val y :: encV val x :: M := ⟨_, rfl⟩
      have hcl : cs.length = n := by rw [hcs, ← ecs]; simp [encL]; omega
      have hcy : ∀ h : j < cs.length, cs[j]'h = encV val y := fun h => by subst hcs; subst hj; simp
      have hcx : ∀ h : j + 1 < cs.length, cs[j + 1]'h = encV val x := fun h => by subst hcs; subst hj; simp
      have hk1 : ∀ z, (encV val z).take 1 = encV val z := fun z => List.take_of_length_le (by rw [hk]; omega)
      have ht : ((j : Int) + 1).toNat = j + 1 := by omega
      have hd : decide ((a : Int) < (j : Int) + 1) = true := by simp; omega
      have hjN' : (j : Int) + 1 < n := by omega
      have hj0 : (0 : Int) ≤ (j : Int) + 1 := by omega
      have hjn : j < n := by omega
      have w2 := wrap_in ((j : Int) + 1 - 1) (by omega)
      rw [Int.add_sub_cancel] at w2
      rw [← hcs] at sH
      have hHid : s.H[id]? = some (some ⟨3, 1, cs⟩) := by rw [sH]; simp [hlt]
      simp [go_sem, hP, t9, t1, t0, t3, hd, hHid, hcy, hcx, ht, w2, hk, hk1, hhd, hjN', hj0, hcl, hjn, hjN, Int.add_sub_cancel]
      have hcm : MFun Tryz.prog E.row E.src g [iv (val x), iv (val y), cap] s.H (fun r H'' => (∃ i : Int, r = iv i ∧ decide (i < 0) = lt x y) ∧ H'' = s.H) := by
        rw [hr, hs, sH]
        exact hcmp x y _
      refine callB_m hcm hP hen ?_
      rintro r H'' ⟨⟨c, rfl, hlt⟩, rfl⟩
      simp [go_sem, hP, hlt]
      refine condP (fun h => ?_) (fun h => ?_)
      · refine adrawB (fun _ => true) [15, 17] hP (by kernel_rfl) (by kernel_rfl) ?_
        have hcel : ∀ z c, c ∈ encV val z → c.cellish = true := fun z c h => (him z c h).2
        have hltS : id < s.H.length := (List.getElem?_eq_some_iff.1 hHid).1
        have hset : ∀ o : Option AObj, (s.H.set id o)[id]? = some o := fun o => by simp [hltS]
        have hd4 : ∀ z, (encV val z).drop 1 = [] := fun z => List.drop_eq_nil_of_le (by rw [hk]; omega)
        have hcely : (encV val y).all AV.cellish = true := List.all_eq_true.2 (hcel y)
        have hcelx : (encV val x).all AV.cellish = true := List.all_eq_true.2 (hcel x)
        simp [go_sem, hP, t9, t1, t0, t3, hd, hHid, hcy, hcx, ht, w2, hk, hk1, hhd, hjN', hj0, hcl, hjn, hjN, Int.add_sub_cancel, hcelx, hcely, hset, hd4]
        have w3 := wrap_in ((j : Int) + 1 - 1) (by omega)
        rw [Int.add_sub_cancel] at w3
        rw [hJ]
        refine ⟨A'.length, by simp at hm'; omega, A', y :: B, rfl, by simp; omega, ?_, by simp [go_sem, t0], by simp [go_sem, t1], by simp [go_sem, t2], by simp [go_sem, t3], by simp [go_sem, t8], ?_, ?_⟩
        · rw [hins]; simp [rins, h]
        · simp [go_sem]; omega
        · rw [ecs2, sH, List.set_set, hcs]
          have := set_swap L M (encV val x) (encV val y) (j + 1) (by omega)
          simp only [Nat.add_sub_cancel, hcv] at this
          simp [hcv, this]
      · have st := stop (by rw [hins]; simp [rins, h])
        simp [go_sem, hP, t9, t1, t8, w9]
        rw [hI]
        exact ⟨b - (i + 1), by omega, i + 1, by omega, .inl (by omega), rfl, by simp [go_sem, t0], by simp [go_sem, t1], by simp [go_sem, t2], by simp [go_sem, t3], by simp [go_sem], st⟩
  · have e : isort lt l = (rsort lt (l.take (i - a))).reverse ++ l.drop (i - a) := by
      have hge : l.length ≤ i - a := by simp at h; omega
      rw [List.take_of_length_le hge, List.drop_eq_nil_of_le hge]
      simp [isort]
    simp [go_sem, hP]
    rw [sH, e]
    simp

theorem stable_i {row src : Option Nat} {H : Heap} {id : Nat} (hc : CmpH val lt g cap row src H id) (l : List α) (n : Nat) (hn : n = l.length) (hb9 : n < 20)
    (hH : H[id]? = some (some ⟨3, 1, encL (encV val) l⟩)) :
    MFun Tryz.prog row src 87 [.sref id 0 n, iv n, .fn g [cap]] H (fun _ H' => H' = H.set id (some ⟨3, 1, encL (encV val) (isort lt l)⟩)) := by
  refine mfun_intro Tryz.func87 rfl (by simp [Tryz.f87]) (by kernel_rfl) ⟨.tup [], _, rfl⟩ ?_
  intro E hP hr hs hN
  have hd : decide (20 ≤ (n : Int)) = false := by simp; omega
  have hd2 : decide (20 < (n : Int)) = false := by simp; omega
  simp [go_sem, hP]
  refine aloop0 (fun m s => s.t 0 = .sref id 0 n ∧ s.t 1 = iv n ∧ s.t 2 = .fn g [cap] ∧ s.t 6 = iv 20 ∧ s.t 7 = iv 0 ∧ s.t 8 = iv 20 ∧ s.H = H) 0 (by rw [hN]; rfl) ?_ ?_
  · simp [go_sem]
  rintro m s ⟨t0, t1, t2, t6, t7, t8, sH⟩
  simp [go_sem, hP, t8, t1, hd, t7, t0, t2]
  have hcS : CmpH val lt g cap E.row E.src s.H id := by rw [hr, hs, sH]; exact hc
  have hm := insertion_i val lt g cap hcS [] l [] 0 n n rfl (by simp [hn]) (by simp [hn]) (by omega) (by rw [sH]; simpa using hH)
  simp only [List.nil_append, List.append_nil] at hm
  refine callB_m hm hP (by kernel_rfl) ?_
  rintro r H' rfl
  refine aloop0 (fun m s' => s'.t 1 = iv n ∧ s'.t 6 = iv 20 ∧ s'.H = H.set id (some ⟨3, 1, encL (encV val) (isort lt l)⟩)) 0 (by rw [hN]; rfl) ?_ ?_
  · simp [go_sem, t1, t6, sH]
  rintro m s' ⟨t1, t6, sH⟩
  simp [go_sem, hP, t6, t1, hd2, sH]

theorem sortStable_i {row src : Option Nat} {H : Heap} {id : Nat} (hc : CmpH val lt g cap row src H id) (l : List α) (n : Nat) (hn : n = l.length) (hb9 : n < 20)
    (hH : H[id]? = some (some ⟨3, 1, encL (encV val) l⟩)) :
    MFun Tryz.prog row src 75 [.sref id 0 n, .fn g [cap]] H (fun _ H' => H' = H.set id (some ⟨3, 1, encL (encV val) (isort lt l)⟩)) := by
  refine mfun_intro Tryz.func75 rfl (by simp [Tryz.f75]) (by kernel_rfl) ⟨.tup [], _, rfl⟩ ?_
  intro E hP hr hs hN
  simp [go_sem, hP, hH]
  refine callB_m (stable_i val lt g cap (by rw [hr, hs]; exact hc) l n hn hb9 hH) hP (by kernel_rfl) ?_
  rintro r H' rfl
  simp [go_sem, hP]
end

end Go.Proofs.YtgapbmaehfdkoaaGreatDoor
