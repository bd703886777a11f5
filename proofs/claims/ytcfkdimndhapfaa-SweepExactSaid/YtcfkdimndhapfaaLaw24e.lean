/- SweepExact: the walk. -/
import Derived.Test.YtcfkdimndhapfaaSwGen
set_option linter.unusedSimpArgs false
set_option linter.unusedVariables false
namespace Go.Proofs.Ytcfkdimndhapfaa
open Go.PA
open Go.RowKit

theorem three' {k : Nat} (h : k < 3) : k = 0 ∨ k = 1 ∨ k = 2 := by omega
theorem planA_len (a : TAccount) (l : List TKeep) (d : Int) : (planA a l d).1.length ≤ 400 := by
  rw [planA]
  repeat' split
  all_goals simp
  omega
theorem postAll_lens : ∀ (es : List TEntry) (a : TAccount), a.Subs.length ≤ 1000 → a.Entries.length ≤ 1000 → (postAll a es).1.Subs.length ≤ 1000 ∧ (postAll a es).1.Entries.length ≤ 1000
  | [], a, h1, h2 => ⟨h1, h2⟩
  | e :: es, a, h1, h2 => by
    rw [postAll]
    split
    · rename_i hp
      have := post_lens hp
      exact postAll_lens es _ (by omega) (by omega)
    · simp
theorem sweepA_lens (a : TAccount) (l : List TKeep) (d : Int) (h1 : a.Subs.length ≤ 1000) (h2 : a.Entries.length ≤ 1000) : (sweepA a l d).1.Subs.length ≤ 1000 ∧ (sweepA a l d).1.Entries.length ≤ 1000 := by
  rw [sweepA]
  split
  · exact postAll_lens _ _ h1 h2
  · simp

set_option maxHeartbeats 4000000 in
theorem exact24_pf (xs : List Int) (raw : TAccount) (l0 : List TKeep) (day : Int) (hx : Small xs) (hl : xs.length ≤ 9223372036854775807) :
    PFun Try.prog none none 11 [intsL xs, .agg raw.cells, keepsL l0, iv day] (· = bv true) := by
  refine pfun_introA Try.func11 rfl (by simp [Try.f11]) ?_
  intro E hP hr hs hW hN
  have ir : Imm (.agg [iv raw.Credit, subsL raw.Subs, entsL raw.Entries]) := imm_acc raw
  have fw := few_pf raw
  rw [cA] at fw
  have saneB : ∀ {H : Heap} {C : AV → Heap → Prop} {b : Bx C}, C (bv true) H → CallB E 44 [] H C b := fun h => callB_pure sane24_pf hP en_44 (args_nil.2 trivial) .sc h
  refine awp_cut (by rw [hN]; kernel_rfl) ?_
  simp -dsimp -implicitDefEqProofs [-getElem?_pos, go_sem, hP, cA]
  refine awp_cut (by rw [hN]; kernel_rfl) ?_
  simp -dsimp -implicitDefEqProofs [-getElem?_pos, go_sem, hP]
  refine callB_is (fw.lift _ _) hP en_25 (by simp [ir]) .sc ?_
  by_cases c1 : (decide (raw.Subs.length ≤ 25) && decide (raw.Entries.length ≤ 25)) = true
  rotate_left
  · have c1 : (decide (raw.Subs.length ≤ 25) && decide (raw.Entries.length ≤ 25)) = false := by simpa using c1
    rw [c1]
    simp -dsimp -implicitDefEqProofs [-getElem?_pos, go_sem, hP]
    refine saneB ?_
    simp -dsimp -implicitDefEqProofs [-getElem?_pos, go_sem, hP]
  have hraw : raw.Subs.length ≤ 25 ∧ raw.Entries.length ≤ 25 := by simpa using c1
  rw [c1]
  by_cases c2 : 10 < l0.length
  · have d2 : decide ((10 : Int) < l0.length) = true := decide_eq_true (by omega)
    simp -dsimp -implicitDefEqProofs [-getElem?_pos, go_sem, hP, d2]
    refine saneB ?_
    simp -dsimp -implicitDefEqProofs [-getElem?_pos, go_sem, hP]
  have d2 : decide ((10 : Int) < l0.length) = false := decide_eq_false (by omega)
  simp -dsimp -implicitDefEqProofs [-getElem?_pos, go_sem, hP, d2]
  refine awp_cut (by rw [hN]; kernel_rfl) ?_
  simp -dsimp -implicitDefEqProofs [-getElem?_pos, go_sem, hP]
  have hnew : POwn Try.prog E.row E.src 13 [intsL xs] 76 2 (· = [[intsL (xs.take 900), iv 0]]) := by rw [hr, hs]; exact new_pf xs hl
  refine callB_own hnew hP en_13 (args_same (by simp [go_sem, intsL])) (by simp [srefs_imm, go_sem, intsL]) ⟨_, rfl⟩ ?_
  rintro es rfl
  simp -dsimp -implicitDefEqProofs [-getElem?_pos, go_sem, hP]
  refine awp_adoptG 9 1 (ty := 76) (xs := xs.take 900) (at_ := 0) hr hs (by simp -dsimp -implicitDefEqProofs [-getElem?_pos, go_sem]) (by simp -dsimp -implicitDefEqProofs [-getElem?_pos, go_sem, intsL]) (by omega) (by simp; omega) (fun x hx' => hx x (List.mem_of_mem_take hx')) (by rw [hN]; kernel_rfl) ?_
  intro E' p hP' hr' hN'
  rw [hP] at hP'
  rw [hN] at hN'
  clear hnew hP hr hs hW hN saneB E
  rename Env => E
  rename E.P = _ => hP
  rename E.row = _ => hr
  rename E.N = _ => hN
  obtain ⟨src, hs⟩ : ∃ src, E.src = src := ⟨_, rfl⟩
  have up : ∀ {f : FuncId} {args : List AV} {Q : AV → Prop}, PFun Try.prog (some p) src f args Q → PFun Try.prog E.row E.src f args Q := fun h => hr ▸ hs ▸ h
  have saneB : ∀ {H : Heap} {C : AV → Heap → Prop} {b : Bx C}, C (bv true) H → CallB E 44 [] H C b := fun h => callB_pure sane24_pf hP en_44 (args_nil.2 trivial) .sc h
  simp -dsimp -implicitDefEqProofs [-getElem?_pos, go_sem, hP]
  refine callB_isQ (up (account_pf p src 10 (by omega))) hP en_14 (by simp [go_sem]) (gen_ex 10) ?_
  rintro r ⟨a, rfl, hg⟩ _
  have asl := hg.slen
  have ael := hg.len
  have ia : Imm (.agg [iv a.Credit, subsL a.Subs, entsL a.Entries]) := imm_acc a
  have bt := bentacc_pf p src a (by omega) (by omega)
  rw [cA] at bt
  simp -dsimp -implicitDefEqProofs [-getElem?_pos, go_sem, hP, cA]
  refine adrawB (fun _ => true) [] hP (by kernel_rfl) (by kernel_rfl) ?_
  simp -dsimp -implicitDefEqProofs [-getElem?_pos, go_sem, hP]
  refine callB_isQ (up bt) hP en_29 (by simp [go_sem, imm_subs, imm_ents]) ⟨_, ⟨a, rfl, by omega, by omega⟩, imm_acc a⟩ ?_
  rintro r ⟨b, rfl, hb1, hb2⟩ _
  have ib : Imm (.agg [iv b.Credit, subsL b.Subs, entsL b.Entries]) := imm_acc b
  simp -dsimp -implicitDefEqProofs [-getElem?_pos, go_sem, hP, cA]
  obtain ⟨A9, hA9⟩ : ∃ A9 : AV, A9 = .agg [iv a.Credit, subsL a.Subs, entsL a.Entries, iv b.Credit, subsL b.Subs, entsL b.Entries, iv raw.Credit, subsL raw.Subs, entsL raw.Entries] := ⟨_, rfl⟩
  obtain ⟨J, hJ⟩ : ∃ I : Nat → St → Prop, I = fun m s => ∃ k : Nat, k ≤ 3 ∧ m = 3 - k ∧ s.t 2 = keepsL l0 ∧ s.t 3 = iv day ∧ s.t 9 = sp p ∧ s.t 43 = A9 ∧ s.t 44 = iv k := ⟨_, rfl⟩
  refine aloop0 J (3) (by rw [hN]; rfl) ?_ ?_
  · rw [hJ]
    exact ⟨0, by omega, by omega, by simp -dsimp -implicitDefEqProofs [-getElem?_pos, go_sem], by simp -dsimp -implicitDefEqProofs [-getElem?_pos, go_sem], by simp -dsimp -implicitDefEqProofs [-getElem?_pos, go_sem], by simp -dsimp -implicitDefEqProofs [-getElem?_pos, go_sem, hA9], by simp -dsimp -implicitDefEqProofs [-getElem?_pos, go_sem]⟩
  intro m s hs'
  rw [hJ] at hs'
  obtain ⟨k, hk, hm, t2, t3, t9, t43, t44⟩ := hs'
  simp -dsimp -implicitDefEqProofs [-getElem?_pos, go_sem, hP, t44]
  refine condP (fun h => ?_) (fun h => ?_)
  rotate_left
  · simp -dsimp -implicitDefEqProofs [-getElem?_pos, go_sem, hP]
    refine saneB ?_
    simp -dsimp -implicitDefEqProofs [-getElem?_pos, go_sem, hP]
  have hk : k < 3 := by simp at h; omega
  have wk := wrap_in ((k : Int) + 1) (by omega)
  obtain ⟨y, hy1, hy2, hix⟩ : ∃ y : TAccount, y.Subs.length ≤ 25 ∧ y.Entries.length ≤ 25 ∧ aixV Try.prog 53 A9 (iv k) = some (.agg [iv y.Credit, subsL y.Subs, entsL y.Entries]) := by
    rw [hA9]
    rcases three' hk with rfl | rfl | rfl
    · exact ⟨a, by omega, by omega, by kernel_rfl⟩
    · exact ⟨b, by omega, by omega, by kernel_rfl⟩
    · exact ⟨raw, by omega, by omega, by kernel_rfl⟩
  have iy : Imm (.agg [iv y.Credit, subsL y.Subs, entsL y.Entries]) := imm_acc y
  obtain ⟨n, hn⟩ : ∃ n, n = s.H.length := ⟨_, rfl⟩
  simp -dsimp -implicitDefEqProofs [-getElem?_pos, go_sem, hP, t43, t44, hix, t9]
  refine callB_isQ (up (keeps_pf p src)) hP en_41 (by simp [go_sem]) genk_ex ?_
  rintro r ⟨l1, rfl, hk1⟩ _
  have hl1 := hk1.len
  simp -dsimp -implicitDefEqProofs [-getElem?_pos, go_sem, hP, t9, t2]
  refine callB_flat (up (pick_pf p src [1, 2, 9] (by simp))) hP en_16 (by simp [go_sem, intsL]) ⟨iv 1, 1, rfl, by simp⟩ (by rintro r ⟨m, rfl, _⟩; exact .sc) ?_
  rintro r ⟨m1, rfl, _⟩
  simp -dsimp -implicitDefEqProofs [-getElem?_pos, go_sem, hP, t9]
  refine callB_flat (up (odd_pf p src)) hP en_33 (args_same (by simp -dsimp -implicitDefEqProofs [-getElem?_pos, go_sem])) ⟨iv 0, 0, rfl⟩ (by rintro r ⟨m, rfl⟩; exact .sc) ?_
  rintro r ⟨m2, rfl⟩
  simp -dsimp -implicitDefEqProofs [-getElem?_pos, go_sem, hP, t9]
  refine callB_flat (up (odd_pf p src)) hP en_33 (args_same (by simp -dsimp -implicitDefEqProofs [-getElem?_pos, go_sem])) ⟨iv 0, 0, rfl⟩ (by rintro r ⟨m, rfl⟩; exact .sc) ?_
  rintro r ⟨m3, rfl⟩
  simp -dsimp -implicitDefEqProofs [-getElem?_pos, go_sem, hP, t2]
  obtain ⟨Z, hZ⟩ : ∃ Z : AV, Z = .agg [keepsL l1, keepsL l0, .list 3 [[iv m1, iv m2, iv m3]]] := ⟨_, rfl⟩
  have z0 : aixV Try.prog 71 (.agg [keepsL l1, keepsL l0, .list 3 [[iv m1, iv m2, iv m3]]]) (iv ((0 : Nat) : Int)) = some (keepsL l1) := by kernel_rfl
  have z1 : aixV Try.prog 71 (.agg [keepsL l1, keepsL l0, .list 3 [[iv m1, iv m2, iv m3]]]) (iv ((1 : Nat) : Int)) = some (keepsL l0) := by kernel_rfl
  have z2 : aixV Try.prog 71 (.agg [keepsL l1, keepsL l0, .list 3 [[iv m1, iv m2, iv m3]]]) (iv ((2 : Nat) : Int)) = some (keepsL [⟨m1, m2, m3⟩]) := by kernel_rfl
  rw [← hZ] at z0 z1 z2
  have zix : ∀ j : Nat, j < 3 → ∃ z : List TKeep, z.length ≤ 1000 ∧ aixV Try.prog 71 Z (iv j) = some (keepsL z) := fun j hj => by
    rcases three' hj with rfl | rfl | rfl
    · exact ⟨l1, by omega, z0⟩
    · exact ⟨l0, by omega, z1⟩
    · exact ⟨[⟨m1, m2, m3⟩], by simp, z2⟩
  have next : ∀ (t : Nat → AV) (H : Heap), t 2 = keepsL l0 → t 3 = iv day → t 9 = sp p → t 43 = A9 → t 44 = iv ((k : Int) + 1) → ∃ n', n' < m ∧ J n' ⟨t, H⟩ := fun t H q2 q3 q9 q43 q44 => by
    refine ⟨3 - (k + 1), by omega, ?_⟩
    rw [hJ]
    exact ⟨k + 1, by omega, rfl, q2, q3, q9, q43, by simp [q44]⟩
  obtain ⟨U, hU⟩ : ∃ I : Nat → St → Prop, I = fun m s => ∃ j : Nat, j ≤ 3 ∧ m = 3 - j ∧ s.t 2 = keepsL l0 ∧ s.t 3 = iv day ∧ s.t 9 = sp p ∧ s.t 12 = .ref n 0 0 ∧ s.t 43 = A9 ∧ s.t 44 = iv k ∧ s.t 59 = Z ∧ s.t 60 = iv j ∧ s.H[n]? = some (some ⟨28, 3, [y.cells]⟩) := ⟨_, rfl⟩
  refine aloop0 U (3) (by rw [hN]; rfl) ?_ ?_
  · rw [hU]
    exact ⟨0, by omega, by omega, by simp -dsimp -implicitDefEqProofs [-getElem?_pos, go_sem, t2], by simp -dsimp -implicitDefEqProofs [-getElem?_pos, go_sem, t3], by simp -dsimp -implicitDefEqProofs [-getElem?_pos, go_sem, t9], by simp -dsimp -implicitDefEqProofs [-getElem?_pos, go_sem, hn], by simp -dsimp -implicitDefEqProofs [-getElem?_pos, go_sem, t43], by simp -dsimp -implicitDefEqProofs [-getElem?_pos, go_sem, t44], by simp -dsimp -implicitDefEqProofs [-getElem?_pos, go_sem, hZ], by simp -dsimp -implicitDefEqProofs [-getElem?_pos, go_sem], by simp -dsimp -implicitDefEqProofs [-getElem?_pos, go_sem, hn, cA]⟩
  clear t2 t3 t9 t43 t44 hZ z0 z1 z2
  intro m s hs'
  rw [hU] at hs'
  obtain ⟨j, hj, hm, t2, t3, t9, t12, t43, t44, t59, t60, hY⟩ := hs'
  have ltn := (List.getElem?_eq_some_iff.1 hY).1
  simp -dsimp -implicitDefEqProofs [-getElem?_pos, go_sem, hP, t60]
  refine condP (fun h => ?_) (fun h => ?_)
  rotate_left
  · simp -dsimp -implicitDefEqProofs [-getElem?_pos, go_sem, hP, t44, wk]
    exact next _ _ (by simp -dsimp -implicitDefEqProofs [-getElem?_pos, go_sem, t2]) (by simp -dsimp -implicitDefEqProofs [-getElem?_pos, go_sem, t3]) (by simp -dsimp -implicitDefEqProofs [-getElem?_pos, go_sem, t9]) (by simp -dsimp -implicitDefEqProofs [-getElem?_pos, go_sem, t43]) (by simp -dsimp -implicitDefEqProofs [-getElem?_pos, go_sem])
  have hj : j < 3 := by simp at h; omega
  have wj := wrap_in ((j : Int) + 1) (by omega)
  obtain ⟨z, hzl, hz⟩ := zix j hj
  have q1 := scheck_pf y z (by omega) (by omega) hzl
  have q2 := check24_pf y z (by omega) (by omega) hzl
  have q3 := skept_pf y z (by omega) (by omega) hzl
  have q4 := kept24_pf y z (by omega) (by omega) hzl
  have q5 := sshort_pf y z (by omega) (by omega) hzl
  have q6 := short24_pf y z (by omega) (by omega) hzl
  obtain ⟨v1, hv1⟩ : ∃ v, v = checkK y z := ⟨_, rfl⟩
  obtain ⟨v2, hv2⟩ : ∃ v, v = keptA y z := ⟨_, rfl⟩
  obtain ⟨v3, hv3⟩ : ∃ v, v = shortA y z := ⟨_, rfl⟩
  rw [← hv1] at q1 q2
  rw [← hv2] at q3 q4
  rw [← hv3] at q5 q6
  rw [cA] at q1 q2 q3 q4 q5 q6
  simp -dsimp -implicitDefEqProofs [-getElem?_pos, go_sem, hP, t59, t60, hz, t12, hY, ltn, cA]
  refine adrawB (fun _ => true) [] hP (by kernel_rfl) (by kernel_rfl) ?_
  simp -dsimp -implicitDefEqProofs [-getElem?_pos, go_sem, hP, t12, hY, ltn, cA]
  refine callB_is (q1.lift _ _) hP en_47 (by simp [iy, imm_keeps]) .sc ?_
  simp -dsimp -implicitDefEqProofs [-getElem?_pos, go_sem, hP, t12, hY, ltn, cA]
  refine callB_is (q2.lift _ _) hP en_48 (by simp [iy, imm_keeps]) .sc ?_
  simp -dsimp -implicitDefEqProofs [-getElem?_pos, go_sem, hP, t12, hY, ltn, cA]
  refine callB_is (q3.lift _ _) hP en_49 (by simp [iy, imm_keeps]) .sc ?_
  simp -dsimp -implicitDefEqProofs [-getElem?_pos, go_sem, hP, t12, hY, ltn, cA]
  refine callB_is (q4.lift _ _) hP en_50 (by simp [iy, imm_keeps]) .sc ?_
  simp -dsimp -implicitDefEqProofs [-getElem?_pos, go_sem, hP, t12, hY, ltn, cA]
  refine callB_is (q5.lift _ _) hP en_46 (by simp [iy, imm_keeps]) .sc ?_
  simp -dsimp -implicitDefEqProofs [-getElem?_pos, go_sem, hP, t12, hY, ltn, cA]
  refine callB_is (q6.lift _ _) hP en_51 (by simp [iy, imm_keeps]) .sc ?_
  simp -dsimp -implicitDefEqProofs [-getElem?_pos, go_sem, hP, t9, t3]
  refine callB_flat (up (N_pf p src 40 (by omega))) hP en_15 (args_same (by simp -dsimp -implicitDefEqProofs [-getElem?_pos, go_sem])) (NQ_ex _) (NQ_flat _) ?_
  rintro r ⟨d1, rfl, _⟩
  simp -dsimp -implicitDefEqProofs [-getElem?_pos, go_sem, hP, t3]
  obtain ⟨Y, hY3⟩ : ∃ Y : AV, Y = .agg [iv day, iv d1, iv 36000] := ⟨_, rfl⟩
  have y0 : aixV Try.prog 56 (.agg [iv day, iv d1, iv 36000]) (iv ((0 : Nat) : Int)) = some (iv day) := by kernel_rfl
  have y1 : aixV Try.prog 56 (.agg [iv day, iv d1, iv 36000]) (iv ((1 : Nat) : Int)) = some (iv d1) := by kernel_rfl
  have y2 : aixV Try.prog 56 (.agg [iv day, iv d1, iv 36000]) (iv ((2 : Nat) : Int)) = some (iv 36000) := by kernel_rfl
  rw [← hY3] at y0 y1 y2
  have yix : ∀ i : Nat, i < 3 → ∃ d : Int, aixV Try.prog 56 Y (iv i) = some (iv d) := fun i hi => by
    rcases three' hi with rfl | rfl | rfl
    · exact ⟨day, y0⟩
    · exact ⟨d1, y1⟩
    · exact ⟨36000, y2⟩
  have next2 : ∀ (t : Nat → AV) (H : Heap), t 2 = keepsL l0 → t 3 = iv day → t 9 = sp p → t 12 = .ref n 0 0 → t 43 = A9 → t 44 = iv k → t 59 = Z → t 60 = iv ((j : Int) + 1) → H[n]? = some (some ⟨28, 3, [y.cells]⟩) → ∃ n', n' < m ∧ U n' ⟨t, H⟩ := fun t H q2 q3 q9 q12 q43 q44 q59 q60 qH => by
    refine ⟨3 - (j + 1), by omega, ?_⟩
    rw [hU]
    exact ⟨j + 1, by omega, rfl, q2, q3, q9, q12, q43, q44, q59, by simp [q60], qH⟩
  obtain ⟨V, hV⟩ : ∃ I : Nat → St → Prop, I = fun m s => ∃ i : Nat, i ≤ 3 ∧ m = 3 - i ∧ s.t 2 = keepsL l0 ∧ s.t 3 = iv day ∧ s.t 9 = sp p ∧ s.t 12 = .ref n 0 0 ∧ s.t 14 = keepsL z ∧ s.t 43 = A9 ∧ s.t 44 = iv k ∧ s.t 59 = Z ∧ s.t 60 = iv j ∧ s.t 91 = Y ∧ s.t 92 = iv i ∧ s.H[n]? = some (some ⟨28, 3, [y.cells]⟩) := ⟨_, rfl⟩
  refine aloop0 V (3) (by rw [hN]; rfl) ?_ ?_
  · rw [hV]
    exact ⟨0, by omega, by omega, by simp -dsimp -implicitDefEqProofs [-getElem?_pos, go_sem, t2], by simp -dsimp -implicitDefEqProofs [-getElem?_pos, go_sem, t3], by simp -dsimp -implicitDefEqProofs [-getElem?_pos, go_sem, t9], by simp -dsimp -implicitDefEqProofs [-getElem?_pos, go_sem, t12], by simp -dsimp -implicitDefEqProofs [-getElem?_pos, go_sem], by simp -dsimp -implicitDefEqProofs [-getElem?_pos, go_sem, t43], by simp -dsimp -implicitDefEqProofs [-getElem?_pos, go_sem, t44], by simp -dsimp -implicitDefEqProofs [-getElem?_pos, go_sem, t59], by simp -dsimp -implicitDefEqProofs [-getElem?_pos, go_sem, t60], by simp -dsimp -implicitDefEqProofs [-getElem?_pos, go_sem, hY3], by simp -dsimp -implicitDefEqProofs [-getElem?_pos, go_sem], by simp -dsimp -implicitDefEqProofs [-getElem?_pos, go_sem, ltn, hY]⟩
  clear t2 t3 t9 t12 t43 t44 t59 t60 hY ltn hY3 y0 y1 y2 hz q1 q2 q3 q4 q5 q6 hv1 hv2 hv3
  intro m s hs'
  rw [hV] at hs'
  obtain ⟨i, hi, hm, t2, t3, t9, t12, t14, t43, t44, t59, t60, t91, t92, hY⟩ := hs'
  have ltn := (List.getElem?_eq_some_iff.1 hY).1
  simp -dsimp -implicitDefEqProofs [-getElem?_pos, go_sem, hP, t92]
  refine condP (fun h => ?_) (fun h => ?_)
  rotate_left
  · simp -dsimp -implicitDefEqProofs [-getElem?_pos, go_sem, hP, t60, wj]
    exact next2 _ _ (by simp -dsimp -implicitDefEqProofs [-getElem?_pos, go_sem, t2]) (by simp -dsimp -implicitDefEqProofs [-getElem?_pos, go_sem, t3]) (by simp -dsimp -implicitDefEqProofs [-getElem?_pos, go_sem, t9]) (by simp -dsimp -implicitDefEqProofs [-getElem?_pos, go_sem, t12]) (by simp -dsimp -implicitDefEqProofs [-getElem?_pos, go_sem, t43]) (by simp -dsimp -implicitDefEqProofs [-getElem?_pos, go_sem, t44]) (by simp -dsimp -implicitDefEqProofs [-getElem?_pos, go_sem, t59]) (by simp -dsimp -implicitDefEqProofs [-getElem?_pos, go_sem]) (by simp -dsimp -implicitDefEqProofs [-getElem?_pos, go_sem, ltn, hY])
  have hi : i < 3 := by simp at h; omega
  have wi := wrap_in ((i : Int) + 1) (by omega)
  obtain ⟨d, hd⟩ := yix i hi
  have p1 := splan_pf y z d (by omega) (by omega) hzl
  have p2 := plan24_pf y z d (by omega) (by omega) hzl
  have p3 := ssweep_pf y z d (by omega) (by omega) hzl
  have p4 := sweep24_pf y z d (by omega) (by omega) hzl
  have pl := planA_len y z d
  have sl := sweepA_lens y z d (by omega) (by omega)
  obtain ⟨v1, hv1⟩ : ∃ v, v = (planA y z d).1 := ⟨_, rfl⟩
  obtain ⟨v2, hv2⟩ : ∃ v, v = (planA y z d).2 := ⟨_, rfl⟩
  obtain ⟨v3, hv3⟩ : ∃ v, v = (sweepA y z d).1 := ⟨_, rfl⟩
  obtain ⟨v4, hv4⟩ : ∃ v, v = (sweepA y z d).2 := ⟨_, rfl⟩
  rw [← hv1] at p1 p2 pl
  rw [← hv2] at p1 p2
  rw [← hv3] at p3 p4 sl
  rw [← hv4] at p3 p4
  have le := listEq_pf_ents23 v1 v1 (by omega) (by omega)
  have sm := same_pf v3 v3 (by omega) (by omega) (by omega) (by omega)
  rw [cA] at p1 p2 p3 p4 sm
  rw [cA] at p3 p4
  have i3 : Imm (.agg [iv v3.Credit, subsL v3.Subs, entsL v3.Entries]) := imm_acc v3
  simp -dsimp -implicitDefEqProofs [-getElem?_pos, go_sem, hP, t91, t92, hd, t12, hY, ltn, cA, t14]
  refine callB_is (p1.lift _ _) hP en_42 (by simp [iy, imm_keeps, imm_sc]) (imm_pair (imm_ents _) .sc) ?_
  simp -dsimp -implicitDefEqProofs [-getElem?_pos, go_sem, hP, t12, hY, ltn, cA, t14]
  refine callB_is (p2.lift _ _) hP en_52 (by simp [iy, imm_keeps, imm_sc]) (imm_pair (imm_ents _) .sc) ?_
  simp -dsimp -implicitDefEqProofs [-getElem?_pos, go_sem, hP, t12, hY, ltn, cA, t14]
  refine callB_is (p3.lift _ _) hP en_45 (by simp [iy, imm_keeps, imm_sc]) (imm_pair i3 .sc) ?_
  simp -dsimp -implicitDefEqProofs [-getElem?_pos, go_sem, hP, t12, hY, ltn, cA, t14]
  refine callB_is (p4.lift _ _) hP en_43 (by simp [iy, imm_keeps, imm_sc]) (imm_pair i3 .sc) ?_
  simp -dsimp -implicitDefEqProofs [-getElem?_pos, go_sem, hP]
  refine callB_pure le hP en_22 (args_imm (imm_ents _) (args_imm (imm_ents _) (args_nil.2 trivial))) .sc ?_
  simp -dsimp -implicitDefEqProofs [-getElem?_pos, go_sem, hP]
  refine callB_is (sm.lift _ _) hP en_28 (by simp [i3]) .sc ?_
  simp -dsimp -implicitDefEqProofs [-getElem?_pos, go_sem, hP, t92, wi]
  refine ⟨3 - (i + 1), by omega, ?_⟩
  rw [hV]
  exact ⟨i + 1, by omega, rfl, by simp -dsimp -implicitDefEqProofs [-getElem?_pos, go_sem, t2], by simp -dsimp -implicitDefEqProofs [-getElem?_pos, go_sem, t3], by simp -dsimp -implicitDefEqProofs [-getElem?_pos, go_sem, t9], by simp -dsimp -implicitDefEqProofs [-getElem?_pos, go_sem, t12], by simp -dsimp -implicitDefEqProofs [-getElem?_pos, go_sem, t14], by simp -dsimp -implicitDefEqProofs [-getElem?_pos, go_sem, t43], by simp -dsimp -implicitDefEqProofs [-getElem?_pos, go_sem, t44], by simp -dsimp -implicitDefEqProofs [-getElem?_pos, go_sem, t59], by simp -dsimp -implicitDefEqProofs [-getElem?_pos, go_sem, t60], by simp -dsimp -implicitDefEqProofs [-getElem?_pos, go_sem, t91], by simp -dsimp -implicitDefEqProofs [-getElem?_pos, go_sem], by simp -dsimp -implicitDefEqProofs [-getElem?_pos, go_sem, ltn, hY]⟩
end Go.Proofs.Ytcfkdimndhapfaa
