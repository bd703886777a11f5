/- AccountExact: the walk. -/
import Derived.Test.YtcfkdimndhapfaaAccBent
set_option linter.unusedSimpArgs false
set_option linter.unusedVariables false
namespace Go.Proofs.Ytcfkdimndhapfaa
open Go.PA
open Go.RowKit

theorem three {k : Nat} (h : k < 3) : k = 0 ∨ k = 1 ∨ k = 2 := by omega

set_option maxHeartbeats 4000000 in
theorem exact23_pf (xs : List Int) (raw : TAccount) (x : TEntry) (ids : List Int) (credit day : Int) (hx : Small xs) (hl : xs.length ≤ 9223372036854775807) :
    PFun Try.prog none none 6 [intsL xs, .agg raw.cells, .agg x.cells, numsL ids, iv credit, iv day] (· = bv true) := by
  refine pfun_introA Try.func6 rfl (by simp [Try.f6]) ?_
  intro E hP hr hs hW hN
  have ir : Imm (.agg [iv raw.Credit, subsL raw.Subs, entsL raw.Entries]) := imm_acc raw
  have ix : Imm (.agg [iv x.Number, iv x.Day, iv x.From, iv x.To, iv x.Amount, iv x.Ref]) := imm_ent x
  have fw := few_pf raw
  rw [cA] at fw
  have saneB : ∀ {H : Heap} {C : AV → Heap → Prop} {b : Bx C}, C (bv true) H → CallB E 18 [] H C b := fun h => callB_pure sane23_pf hP en_18 (args_nil.2 trivial) .sc h
  refine awp_cut (by rw [hN]; kernel_rfl) ?_
  simp -dsimp -implicitDefEqProofs [-getElem?_pos, go_sem, hP, cA, cE]
  refine awp_cut (by rw [hN]; kernel_rfl) ?_
  simp -dsimp -implicitDefEqProofs [-getElem?_pos, go_sem, hP]
  refine callB_is (fw.lift _ _) hP en_25 (by simp [ir]) .sc ?_
  by_cases c1 : (decide (raw.Subs.length ≤ 25) && decide (raw.Entries.length ≤ 25)) = true
  rotate_left
  · have c1 : (decide (raw.Subs.length ≤ 25) && decide (raw.Entries.length ≤ 25)) = false := by simpa using c1
    rw [c1]
    simp -dsimp -implicitDefEqProofs [-getElem?_pos, go_sem, hP]
    refine saneB ?_
    simp -dsimp -implicitDefEqProofs [-getElem?_pos, go_sem, hP]
  have hraw : raw.Subs.length ≤ 25 ∧ raw.Entries.length ≤ 25 := by simpa using c1
  rw [c1]
  by_cases c2 : 25 < ids.length
  · have d2 : decide ((25 : Int) < ids.length) = true := decide_eq_true (by omega)
    simp -dsimp -implicitDefEqProofs [-getElem?_pos, go_sem, hP, d2]
    refine saneB ?_
    simp -dsimp -implicitDefEqProofs [-getElem?_pos, go_sem, hP]
  have d2 : decide ((25 : Int) < ids.length) = false := decide_eq_false (by omega)
  simp -dsimp -implicitDefEqProofs [-getElem?_pos, go_sem, hP, d2]
  refine awp_cut (by rw [hN]; kernel_rfl) ?_
  simp -dsimp -implicitDefEqProofs [-getElem?_pos, go_sem, hP]
  have hnew : POwn Try.prog E.row E.src 13 [intsL xs] 76 2 (· = [[intsL (xs.take 900), iv 0]]) := by rw [hr, hs]; exact new_pf xs hl
  refine callB_own hnew hP en_13 (args_same (by simp [go_sem, intsL])) (by simp [srefs_imm, go_sem, intsL]) ⟨_, rfl⟩ ?_
  rintro es rfl
  simp -dsimp -implicitDefEqProofs [-getElem?_pos, go_sem, hP]
  refine awp_adoptG 13 2 (ty := 76) (xs := xs.take 900) (at_ := 0) hr hs (by simp -dsimp -implicitDefEqProofs [-getElem?_pos, go_sem]) (by simp -dsimp -implicitDefEqProofs [-getElem?_pos, go_sem, intsL]) (by omega) (by simp; omega) (fun x hx' => hx x (List.mem_of_mem_take hx')) (by rw [hN]; kernel_rfl) ?_
  intro E' p hP' hr' hN'
  rw [hP] at hP'
  rw [hN] at hN'
  clear hnew hP hr hs hW hN saneB E
  rename Env => E
  rename E.P = _ => hP
  rename E.row = _ => hr
  rename E.N = _ => hN
  obtain ⟨src, hs⟩ : ∃ src, E.src = src := ⟨_, rfl⟩
  have up : ∀ {f : FuncId} {args : List AV} {Q : AV → Prop}, PFun Try.prog (some p) src f args Q → PFun Try.prog E.row E.src f args Q := fun h => hr ▸ hs ▸ h
  have saneB : ∀ {H : Heap} {C : AV → Heap → Prop} {b : Bx C}, C (bv true) H → CallB E 18 [] H C b := fun h => callB_pure sane23_pf hP en_18 (args_nil.2 trivial) .sc h
  simp -dsimp -implicitDefEqProofs [-getElem?_pos, go_sem, hP]
  refine callB_flat (up (range_pf p src 1 9 (by omega) (by omega))) hP en_26 (args_same (by simp -dsimp -implicitDefEqProofs [-getElem?_pos, go_sem])) ⟨iv 1, 1, rfl, by omega, by omega⟩ (by rintro r ⟨m, rfl, _⟩; exact .sc) ?_
  rintro r ⟨q, rfl, _⟩
  simp -dsimp -implicitDefEqProofs [-getElem?_pos, go_sem, hP]
  obtain ⟨I, hI⟩ : ∃ I : Nat → St → Prop, I = fun m s => ∃ k : Nat, k ≤ 2 ∧ m = 2 - k ∧ s.t 4 = iv credit ∧ s.t 5 = iv day ∧ s.t 7 = .ref 0 0 0 ∧ s.t 8 = .ref 1 0 0 ∧ s.t 13 = sp p ∧ s.t 54 = .agg [numsL ids, numsL [1, 2, q]] ∧ s.t 55 = iv k ∧ s.H[0]? = some (some ⟨28, 3, [raw.cells]⟩) ∧ s.H[1]? = some (some ⟨38, 6, [x.cells]⟩) := ⟨_, rfl⟩
  refine aloop0 I (2) (by rw [hN]; rfl) ?_ ?_
  · rw [hI]
    exact ⟨0, by omega, by omega, by simp -dsimp -implicitDefEqProofs [-getElem?_pos, go_sem], by simp -dsimp -implicitDefEqProofs [-getElem?_pos, go_sem], by simp -dsimp -implicitDefEqProofs [-getElem?_pos, go_sem], by simp -dsimp -implicitDefEqProofs [-getElem?_pos, go_sem], by simp -dsimp -implicitDefEqProofs [-getElem?_pos, go_sem], by simp -dsimp -implicitDefEqProofs [-getElem?_pos, go_sem, numsL, encL, encI], by simp -dsimp -implicitDefEqProofs [-getElem?_pos, go_sem], by simp -dsimp -implicitDefEqProofs [-getElem?_pos, go_sem, cA], by simp -dsimp -implicitDefEqProofs [-getElem?_pos, go_sem, cE]⟩
  intro m s hs'
  rw [hI] at hs'
  obtain ⟨k, hk, hm, t4, t5, t7, t8, t13, t54, t55, h0, h1⟩ := hs'
  have lt0 := (List.getElem?_eq_some_iff.1 h0).1
  have lt1 := (List.getElem?_eq_some_iff.1 h1).1
  simp -dsimp -implicitDefEqProofs [-getElem?_pos, go_sem, hP, t55]
  refine condP (fun h => ?_) (fun h => ?_)
  · have hk : k < 2 := by simp at h; omega
    have wk := wrap_in ((k : Int) + 1) (by omega)
    obtain ⟨L, hL, hix⟩ : ∃ L : List Int, L.length ≤ 25 ∧ aixV Try.prog 50 (.agg [numsL ids, numsL [1, 2, q]]) (iv k) = some (numsL L) := by
      have : k = 0 ∨ k = 1 := by omega
      rcases this with rfl | rfl
      · exact ⟨ids, by omega, by kernel_rfl⟩
      · exact ⟨[1, 2, q], by simp, by kernel_rfl⟩
    have o1 := open_pf L credit (by omega)
    have o2 := open23_pf L credit (by omega)
    obtain ⟨a, ha⟩ : ∃ a, a = (openA L credit).1 := ⟨_, rfl⟩
    obtain ⟨e, he⟩ : ∃ e, e = (openA L credit).2 := ⟨_, rfl⟩
    have al : a.Subs.length ≤ 25 ∧ a.Entries.length ≤ 25 := by
      rw [ha, openA]
      repeat' split
      all_goals simp [newA, newS_len]
      all_goals omega
    rw [← ha, ← he] at o1 o2
    have sm := same_pf a a (by omega) (by omega) (by omega) (by omega)
    rw [cA] at o1 o2 sm
    have ia : Imm (.agg [iv a.Credit, subsL a.Subs, entsL a.Entries]) := imm_acc a
    simp -dsimp -implicitDefEqProofs [-getElem?_pos, go_sem, hP, t54, t55, hix, t4]
    refine callB_is (o1.lift _ _) hP en_27 (by simp [imm_nums, imm_sc]) (imm_pair ia .sc) ?_
    simp -dsimp -implicitDefEqProofs [-getElem?_pos, go_sem, hP, t4]
    refine callB_is (o2.lift _ _) hP en_23 (by simp [imm_nums, imm_sc]) (imm_pair ia .sc) ?_
    simp -dsimp -implicitDefEqProofs [-getElem?_pos, go_sem, hP]
    refine callB_is (sm.lift _ _) hP en_28 (by simp [ia]) .sc ?_
    simp -dsimp -implicitDefEqProofs [-getElem?_pos, go_sem, hP, t55, wk]
    refine ⟨2 - (k + 1), by omega, ?_⟩
    rw [hI]
    exact ⟨k + 1, by omega, rfl, by simp -dsimp -implicitDefEqProofs [-getElem?_pos, go_sem, t4], by simp -dsimp -implicitDefEqProofs [-getElem?_pos, go_sem, t5], by simp -dsimp -implicitDefEqProofs [-getElem?_pos, go_sem, t7], by simp -dsimp -implicitDefEqProofs [-getElem?_pos, go_sem, t8], by simp -dsimp -implicitDefEqProofs [-getElem?_pos, go_sem, t13], by simp -dsimp -implicitDefEqProofs [-getElem?_pos, go_sem, t54], by simp -dsimp -implicitDefEqProofs [-getElem?_pos, go_sem], by simp -dsimp -implicitDefEqProofs [-getElem?_pos, go_sem, lt0, h0], by simp -dsimp -implicitDefEqProofs [-getElem?_pos, go_sem, lt1, h1]⟩
  simp -dsimp -implicitDefEqProofs [-getElem?_pos, go_sem, hP, t13]
  refine callB_isQ (up (account_pf p src 10 (by omega))) hP en_14 (by simp [go_sem]) (gen_ex 10) ?_
  rintro r ⟨a, rfl, hg⟩ _
  have asl := hg.slen
  have ael := hg.len
  have ia : Imm (.agg [iv a.Credit, subsL a.Subs, entsL a.Entries]) := imm_acc a
  have bt := bentacc_pf p src a (by omega) (by omega)
  rw [cA] at bt
  simp -dsimp -implicitDefEqProofs [-getElem?_pos, go_sem, hP, cA]
  refine adrawB (fun _ => true) [] hP (by kernel_rfl) (by kernel_rfl) ?_
  simp -dsimp -implicitDefEqProofs [-getElem?_pos, go_sem, hP, t13, t7, h0, lt0, cA]
  refine callB_isQ (up bt) hP en_29 (by simp [go_sem, imm_subs, imm_ents]) ⟨_, ⟨a, rfl, by omega, by omega⟩, imm_acc a⟩ ?_
  rintro r ⟨b, rfl, hb1, hb2⟩ _
  have ib : Imm (.agg [iv b.Credit, subsL b.Subs, entsL b.Entries]) := imm_acc b
  simp -dsimp -implicitDefEqProofs [-getElem?_pos, go_sem, hP, t7, h0, lt0, cA]
  obtain ⟨A9, hA9⟩ : ∃ A9 : AV, A9 = .agg [iv a.Credit, subsL a.Subs, entsL a.Entries, iv b.Credit, subsL b.Subs, entsL b.Entries, iv raw.Credit, subsL raw.Subs, entsL raw.Entries] := ⟨_, rfl⟩
  obtain ⟨J, hJ⟩ : ∃ I : Nat → St → Prop, I = fun m s => ∃ k : Nat, k ≤ 3 ∧ m = 3 - k ∧ s.t 5 = iv day ∧ s.t 8 = .ref 1 0 0 ∧ s.t 13 = sp p ∧ s.t 87 = A9 ∧ s.t 88 = iv k ∧ s.H[1]? = some (some ⟨38, 6, [x.cells]⟩) := ⟨_, rfl⟩
  refine aloop0 J (3) (by rw [hN]; rfl) ?_ ?_
  · rw [hJ]
    exact ⟨0, by omega, by omega, by simp -dsimp -implicitDefEqProofs [-getElem?_pos, go_sem, t5], by simp -dsimp -implicitDefEqProofs [-getElem?_pos, go_sem, t8], by simp -dsimp -implicitDefEqProofs [-getElem?_pos, go_sem, t13], by simp -dsimp -implicitDefEqProofs [-getElem?_pos, go_sem, hA9], by simp -dsimp -implicitDefEqProofs [-getElem?_pos, go_sem], by simp -dsimp -implicitDefEqProofs [-getElem?_pos, go_sem, lt1, h1]⟩
  clear t4 t5 t7 t8 t13 t54 t55 h0 h1 lt0 lt1
  intro m s hs'
  rw [hJ] at hs'
  obtain ⟨k, hk, hm, t5, t8, t13, t87, t88, h1⟩ := hs'
  have lt1 := (List.getElem?_eq_some_iff.1 h1).1
  simp -dsimp -implicitDefEqProofs [-getElem?_pos, go_sem, hP, t88]
  refine condP (fun h => ?_) (fun h => ?_)
  rotate_left
  · simp -dsimp -implicitDefEqProofs [-getElem?_pos, go_sem, hP]
    refine saneB ?_
    simp -dsimp -implicitDefEqProofs [-getElem?_pos, go_sem, hP]
  have hk : k < 3 := by simp at h; omega
  have wk := wrap_in ((k : Int) + 1) (by omega)
  obtain ⟨y, hy1, hy2, hix⟩ : ∃ y : TAccount, y.Subs.length ≤ 25 ∧ y.Entries.length ≤ 25 ∧ aixV Try.prog 53 A9 (iv k) = some (.agg [iv y.Credit, subsL y.Subs, entsL y.Entries]) := by
    rw [hA9]
    rcases three hk with rfl | rfl | rfl
    · exact ⟨a, by omega, by omega, by kernel_rfl⟩
    · exact ⟨b, by omega, by omega, by kernel_rfl⟩
    · exact ⟨raw, by omega, by omega, by kernel_rfl⟩
  have iy : Imm (.agg [iv y.Credit, subsL y.Subs, entsL y.Entries]) := imm_acc y
  have ck1 := check_pf y (by omega) (by omega)
  have ck2 := check23_pf y (by omega) (by omega)
  have tt1 := total_pf y (by omega) (by omega)
  have tt2 := total23_pf y (by omega) (by omega)
  rw [cA] at ck1 ck2 tt1 tt2
  obtain ⟨n, hn⟩ : ∃ n, n = s.H.length := ⟨_, rfl⟩
  have lt1n : 1 < n := hn ▸ lt1
  have hB0 : ∀ H : Heap, (s.H ++ [some ⟨28, 3, [[iv y.Credit, subsL y.Subs, entsL y.Entries]]⟩])[n]? = some (some ⟨28, 3, [[iv y.Credit, subsL y.Subs, entsL y.Entries]]⟩) := fun H => by
    rw [List.getElem?_append_right (by omega), hn]
    simp
  simp -dsimp -implicitDefEqProofs [-getElem?_pos, go_sem, hP, t87, t88, hix]
  refine adrawB (fun _ => true) [] hP (by kernel_rfl) (by kernel_rfl) ?_
  simp -dsimp -implicitDefEqProofs [-getElem?_pos, go_sem, hP]
  refine callB_is (ck1.lift _ _) hP en_17 (by simp [iy]) .sc ?_
  simp -dsimp -implicitDefEqProofs [-getElem?_pos, go_sem, hP]
  refine callB_is (ck2.lift _ _) hP en_30 (by simp [iy]) .sc ?_
  simp -dsimp -implicitDefEqProofs [-getElem?_pos, go_sem, hP]
  refine callB_is (tt1.lift _ _) hP en_19 (by simp [iy]) .sc ?_
  simp -dsimp -implicitDefEqProofs [-getElem?_pos, go_sem, hP]
  refine callB_is (tt2.lift _ _) hP en_31 (by simp [iy]) .sc ?_
  simp -dsimp -implicitDefEqProofs [-getElem?_pos, go_sem, hP]
  refine adrawB (fun _ => true) [] hP (by kernel_rfl) (by kernel_rfl) ?_
  simp -dsimp -implicitDefEqProofs [-getElem?_pos, go_sem, hP, t8, h1, lt1, cE, t13]
  refine callB_flat (up (N_pf p src 40 (by omega))) hP en_15 (args_same (by simp -dsimp -implicitDefEqProofs [-getElem?_pos, go_sem])) (NQ_ex _) (NQ_flat _) ?_
  rintro r ⟨m1, rfl, _⟩
  simp -dsimp -implicitDefEqProofs [-getElem?_pos, go_sem, hP, t13]
  refine callB_flat (up (N_pf p src 4 (by omega))) hP en_15 (args_same (by simp -dsimp -implicitDefEqProofs [-getElem?_pos, go_sem])) (NQ_ex _) (NQ_flat _) ?_
  rintro r ⟨m2, rfl, _⟩
  simp -dsimp -implicitDefEqProofs [-getElem?_pos, go_sem, hP, t13]
  refine callB_flat (up (N_pf p src 4 (by omega))) hP en_15 (args_same (by simp -dsimp -implicitDefEqProofs [-getElem?_pos, go_sem])) (NQ_ex _) (NQ_flat _) ?_
  rintro r ⟨m3, rfl, _⟩
  simp -dsimp -implicitDefEqProofs [-getElem?_pos, go_sem, hP, t13]
  refine callB_flat (up (odd_pf p src)) hP en_33 (args_same (by simp -dsimp -implicitDefEqProofs [-getElem?_pos, go_sem])) ⟨iv 0, 0, rfl⟩ (by rintro r ⟨m, rfl⟩; exact .sc) ?_
  rintro r ⟨m4, rfl⟩
  simp -dsimp -implicitDefEqProofs [-getElem?_pos, go_sem, hP, t13]
  refine callB_flat (up (N_pf p src 9 (by omega))) hP en_15 (args_same (by simp -dsimp -implicitDefEqProofs [-getElem?_pos, go_sem])) (NQ_ex _) (NQ_flat _) ?_
  rintro r ⟨m5, rfl, _⟩
  obtain ⟨e1, he1⟩ : ∃ e, e = nextE y m1 m2 m3 m4 m5 := ⟨_, rfl⟩
  have nx := next23_pf y m1 m2 m3 m4 m5 (by omega)
  rw [← he1, cA, cE] at nx
  have ie1 : Imm (.agg [iv e1.Number, iv e1.Day, iv e1.From, iv e1.To, iv e1.Amount, iv e1.Ref]) := imm_ent e1
  have wl := wrap_in ((y.Entries.length : Int) + 1) (by omega)
  simp -dsimp -implicitDefEqProofs [-getElem?_pos, go_sem, hP]
  refine callB_is (nx.lift _ _) hP en_32 (by simp [iy, imm_sc]) ie1 ?_
  simp -dsimp -implicitDefEqProofs [-getElem?_pos, go_sem, hP, wl, t13]
  refine callB_flat (up (pick_pf p src [1, 1000000000000, 1000000000001] (by simp))) hP en_16 (args_same (by simp -dsimp -implicitDefEqProofs [-getElem?_pos, go_sem, intsL])) ⟨iv 1, 1, rfl, by simp⟩ (by rintro r ⟨m, rfl, _⟩; exact .sc) ?_
  rintro r ⟨m6, rfl, _⟩
  simp -dsimp -implicitDefEqProofs [-getElem?_pos, go_sem, hP, wl, t8, h1, lt1, cE]
  obtain ⟨e3, he3⟩ : ∃ e : TEntry, e = ⟨(y.Entries.length : Int) + 1, 60, 0, 2, m6, 0⟩ := ⟨_, rfl⟩
  obtain ⟨Z, hZ⟩ : ∃ Z : AV, Z = .agg [iv x.Number, iv x.Day, iv x.From, iv x.To, iv x.Amount, iv x.Ref, iv e1.Number, iv e1.Day, iv e1.From, iv e1.To, iv e1.Amount, iv e1.Ref, iv ((y.Entries.length : Int) + 1), iv 60, iv 0, iv 2, iv m6, iv 0] := ⟨_, rfl⟩
  have zix : ∀ j : Nat, j < 3 → ∃ z : TEntry, aixV Try.prog 55 Z (iv j) = some (.agg [iv z.Number, iv z.Day, iv z.From, iv z.To, iv z.Amount, iv z.Ref]) := fun j hj => by
    rw [hZ]
    rcases three hj with rfl | rfl | rfl
    · exact ⟨x, by kernel_rfl⟩
    · exact ⟨e1, by kernel_rfl⟩
    · exact ⟨⟨(y.Entries.length : Int) + 1, 60, 0, 2, m6, 0⟩, by kernel_rfl⟩
  obtain ⟨U, hU⟩ : ∃ I : Nat → St → Prop, I = fun m s => ∃ j : Nat, j ≤ 3 ∧ m = 3 - j ∧ s.t 5 = iv day ∧ s.t 8 = .ref 1 0 0 ∧ s.t 13 = sp p ∧ s.t 22 = .ref n 0 0 ∧ s.t 87 = A9 ∧ s.t 88 = iv k ∧ s.t 124 = Z ∧ s.t 125 = iv j ∧ s.H[1]? = some (some ⟨38, 6, [x.cells]⟩) ∧ s.H[n]? = some (some ⟨28, 3, [y.cells]⟩) := ⟨_, rfl⟩
  refine aloop0 U (3) (by rw [hN]; rfl) ?_ ?_
  · rw [hU]
    exact ⟨0, by omega, by omega, by simp -dsimp -implicitDefEqProofs [-getElem?_pos, go_sem, t5], by simp -dsimp -implicitDefEqProofs [-getElem?_pos, go_sem, t8], by simp -dsimp -implicitDefEqProofs [-getElem?_pos, go_sem, t13], by simp -dsimp -implicitDefEqProofs [-getElem?_pos, go_sem, hn], by simp -dsimp -implicitDefEqProofs [-getElem?_pos, go_sem, t87], by simp -dsimp -implicitDefEqProofs [-getElem?_pos, go_sem, t88], by simp -dsimp -implicitDefEqProofs [-getElem?_pos, go_sem, hZ], by simp -dsimp -implicitDefEqProofs [-getElem?_pos, go_sem], by simp -dsimp -implicitDefEqProofs [-getElem?_pos, go_sem, lt1, h1], by simp -dsimp -implicitDefEqProofs [-getElem?_pos, go_sem, hn, cA]⟩
  have next : ∀ (t : Nat → AV) (H : Heap), t 5 = iv day → t 8 = .ref 1 0 0 → t 13 = sp p → t 87 = A9 → t 88 = iv ((k : Int) + 1) → H[1]? = some (some ⟨38, 6, [x.cells]⟩) → ∃ n', n' < m ∧ J n' ⟨t, H⟩ := fun t H q5 q8 q13 q87 q88 q1 => by
    refine ⟨3 - (k + 1), by omega, ?_⟩
    rw [hJ]
    exact ⟨k + 1, by omega, rfl, q5, q8, q13, q87, by simp [q88], q1⟩
  clear t5 t8 t13 t87 t88 h1 lt1 hB0 nx he1 hZ e3 he3
  intro m s hs'
  rw [hU] at hs'
  obtain ⟨j, hj, hm, t5, t8, t13, t22, t87, t88, t124, t125, h1, hY⟩ := hs'
  have lt1 := (List.getElem?_eq_some_iff.1 h1).1
  have ltn := (List.getElem?_eq_some_iff.1 hY).1
  simp -dsimp -implicitDefEqProofs [-getElem?_pos, go_sem, hP, t125]
  refine condP (fun h => ?_) (fun h => ?_)
  · have hj : j < 3 := by simp at h; omega
    have wj := wrap_in ((j : Int) + 1) (by omega)
    obtain ⟨z, hz⟩ := zix j hj
    have iz : Imm (.agg [iv z.Number, iv z.Day, iv z.From, iv z.To, iv z.Amount, iv z.Ref]) := imm_ent z
    have p1 := post_pf y z (by omega) (by omega)
    have p2 := post23_pf y z (by omega) (by omega)
    obtain ⟨u, hu⟩ : ∃ u, u = (postA y z).1 := ⟨_, rfl⟩
    obtain ⟨er, her⟩ : ∃ er, er = (postA y z).2 := ⟨_, rfl⟩
    have ul : u.Subs.length ≤ 100000 ∧ u.Entries.length ≤ 100000 := by
      by_cases hp : (postA y z).2 = 0
      · rw [hu]
        have h1 := congrArg List.length (post_ids hp)
        rw [ids_len, ids_len] at h1
        have h2 := congrArg List.length (post_ents hp)
        simp at h2
        omega
      · have : u = zeroA := by
          rw [hu]
          unfold postA at hp ⊢
          split
          · rename_i q1
            rw [if_pos q1] at hp
            split
            · rfl
            · rename_i q2
              rw [if_neg q2] at hp
              split
              · rename_i q3
                rw [if_pos q3] at hp
                exact absurd rfl hp
              · rfl
          · rfl
        rw [this]
        simp
    rw [← hu, ← her] at p1 p2
    have sm := same_pf u u ul.1 ul.2 ul.1 ul.2
    rw [cA] at p1 p2 sm
    rw [cA, cE] at p1 p2
    have iu : Imm (.agg [iv u.Credit, subsL u.Subs, entsL u.Entries]) := imm_acc u
    simp -dsimp -implicitDefEqProofs [-getElem?_pos, go_sem, hP, t124, t125, hz, t22, hY, ltn, cA]
    refine callB_is (p1.lift _ _) hP en_21 (by simp [iy, iz]) (imm_pair iu .sc) ?_
    simp -dsimp -implicitDefEqProofs [-getElem?_pos, go_sem, hP, t22, hY, ltn, cA]
    refine callB_is (p2.lift _ _) hP en_34 (by simp [iy, iz]) (imm_pair iu .sc) ?_
    simp -dsimp -implicitDefEqProofs [-getElem?_pos, go_sem, hP]
    refine callB_is (sm.lift _ _) hP en_28 (by simp [iu]) .sc ?_
    simp -dsimp -implicitDefEqProofs [-getElem?_pos, go_sem, hP, t125, wj]
    refine ⟨3 - (j + 1), by omega, ?_⟩
    rw [hU]
    exact ⟨j + 1, by omega, rfl, by simp -dsimp -implicitDefEqProofs [-getElem?_pos, go_sem, t5], by simp -dsimp -implicitDefEqProofs [-getElem?_pos, go_sem, t8], by simp -dsimp -implicitDefEqProofs [-getElem?_pos, go_sem, t13], by simp -dsimp -implicitDefEqProofs [-getElem?_pos, go_sem, t22], by simp -dsimp -implicitDefEqProofs [-getElem?_pos, go_sem, t87], by simp -dsimp -implicitDefEqProofs [-getElem?_pos, go_sem, t88], by simp -dsimp -implicitDefEqProofs [-getElem?_pos, go_sem, t124], by simp -dsimp -implicitDefEqProofs [-getElem?_pos, go_sem], by simp -dsimp -implicitDefEqProofs [-getElem?_pos, go_sem, lt1, h1], by simp -dsimp -implicitDefEqProofs [-getElem?_pos, go_sem, ltn, hY]⟩
  simp -dsimp -implicitDefEqProofs [-getElem?_pos, go_sem, hP, t13, t5]
  refine callB_flat (up (N_pf p src 30 (by omega))) hP en_15 (args_same (by simp -dsimp -implicitDefEqProofs [-getElem?_pos, go_sem])) (NQ_ex _) (NQ_flat _) ?_
  rintro r ⟨d1, rfl, _⟩
  simp -dsimp -implicitDefEqProofs [-getElem?_pos, go_sem, hP, t13]
  refine callB_flat (up (odd_pf p src)) hP en_33 (args_same (by simp -dsimp -implicitDefEqProofs [-getElem?_pos, go_sem])) ⟨iv 0, 0, rfl⟩ (by rintro r ⟨m, rfl⟩; exact .sc) ?_
  rintro r ⟨d2, rfl⟩
  simp -dsimp -implicitDefEqProofs [-getElem?_pos, go_sem, hP]
  obtain ⟨Y, hY3⟩ : ∃ Y : AV, Y = .agg [iv day, iv d1, iv d2] := ⟨_, rfl⟩
  have yix : ∀ j : Nat, j < 3 → ∃ z : Int, aixV Try.prog 56 Y (iv j) = some (iv z) := fun j hj => by
    rw [hY3]
    rcases three hj with rfl | rfl | rfl
    · exact ⟨day, by kernel_rfl⟩
    · exact ⟨d1, by kernel_rfl⟩
    · exact ⟨d2, by kernel_rfl⟩
  obtain ⟨V, hV⟩ : ∃ I : Nat → St → Prop, I = fun m s => ∃ j : Nat, j ≤ 3 ∧ m = 3 - j ∧ s.t 5 = iv day ∧ s.t 8 = .ref 1 0 0 ∧ s.t 13 = sp p ∧ s.t 22 = .ref n 0 0 ∧ s.t 87 = A9 ∧ s.t 88 = iv k ∧ s.t 155 = Y ∧ s.t 156 = iv j ∧ s.H[1]? = some (some ⟨38, 6, [x.cells]⟩) ∧ s.H[n]? = some (some ⟨28, 3, [y.cells]⟩) := ⟨_, rfl⟩
  refine aloop0 V (3) (by rw [hN]; rfl) ?_ ?_
  · rw [hV]
    exact ⟨0, by omega, by omega, by simp -dsimp -implicitDefEqProofs [-getElem?_pos, go_sem, t5], by simp -dsimp -implicitDefEqProofs [-getElem?_pos, go_sem, t8], by simp -dsimp -implicitDefEqProofs [-getElem?_pos, go_sem, t13], by simp -dsimp -implicitDefEqProofs [-getElem?_pos, go_sem, t22], by simp -dsimp -implicitDefEqProofs [-getElem?_pos, go_sem, t87], by simp -dsimp -implicitDefEqProofs [-getElem?_pos, go_sem, t88], by simp -dsimp -implicitDefEqProofs [-getElem?_pos, go_sem, hY3], by simp -dsimp -implicitDefEqProofs [-getElem?_pos, go_sem], by simp -dsimp -implicitDefEqProofs [-getElem?_pos, go_sem, lt1, h1], by simp -dsimp -implicitDefEqProofs [-getElem?_pos, go_sem, ltn, hY]⟩
  clear t5 t8 t13 t87 t88 h1 lt1 hY ltn t22 t124 t125 hY3
  intro m s hs'
  rw [hV] at hs'
  obtain ⟨j, hj, hm, t5, t8, t13, t22, t87, t88, t155, t156, h1, hY⟩ := hs'
  have lt1 := (List.getElem?_eq_some_iff.1 h1).1
  have ltn := (List.getElem?_eq_some_iff.1 hY).1
  simp -dsimp -implicitDefEqProofs [-getElem?_pos, go_sem, hP, t156]
  refine condP (fun h => ?_) (fun h => ?_)
  · have hj : j < 3 := by simp at h; omega
    have wj := wrap_in ((j : Int) + 1) (by omega)
    obtain ⟨z, hz⟩ := yix j hj
    have b1 := balance_pf y z (by omega) (by omega)
    have b2 := balance23_pf y z (by omega) (by omega)
    have f1 := flow_pf y 0 z (by omega) (by omega)
    have f2 := flow23_pf y 0 z (by omega) (by omega)
    have a1 := atp_pf y z (by omega) (by omega)
    have a2 := at23_pf y z (by omega) (by omega)
    have x1 := next_pf y z 1 2 3 4 (by omega)
    have x2 := next23_pf y z 1 2 3 4 (by omega)
    obtain ⟨w1, hw1⟩ : ∃ w, w = (balanceA y z).1 := ⟨_, rfl⟩
    obtain ⟨w2, hw2⟩ : ∃ w, w = (balanceA y z).2 := ⟨_, rfl⟩
    obtain ⟨w3, hw3⟩ : ∃ w, w = (flowA y 0 z).1 := ⟨_, rfl⟩
    obtain ⟨w4, hw4⟩ : ∃ w, w = (flowA y 0 z).2 := ⟨_, rfl⟩
    obtain ⟨w5, hw5⟩ : ∃ w, w = atA y z := ⟨_, rfl⟩
    obtain ⟨w6, hw6⟩ : ∃ w, w = nextE y z 1 2 3 4 := ⟨_, rfl⟩
    have wl5 : w5.length ≤ 100000 := by
      rw [hw5]
      by_cases hc : checkA y = 0
      · have := congrArg List.length (at_facts hc z).2.2
        rw [ids_len, ids_len] at this
        omega
      · rw [atA, if_neg hc]
        simp
    rw [← hw1, ← hw2] at b1 b2
    rw [← hw3, ← hw4] at f1 f2
    rw [← hw5] at a1 a2
    rw [← hw6, cE] at x1 x2
    rw [cA] at b1 b2 f1 f2 a1 a2 x1 x2
    have sb := listEq_pf_subs23 w5 w5 wl5 wl5
    have i6 : Imm (.agg [iv w6.Number, iv w6.Day, iv w6.From, iv w6.To, iv w6.Amount, iv w6.Ref]) := imm_ent w6
    simp -dsimp -implicitDefEqProofs [-getElem?_pos, go_sem, hP, t155, t156, hz, t22, hY, ltn, cA]
    refine callB_is (b1.lift _ _) hP en_35 (by simp [iy, imm_sc]) (imm_pair .sc .sc) ?_
    simp -dsimp -implicitDefEqProofs [-getElem?_pos, go_sem, hP, t22, hY, ltn, cA]
    refine callB_is (b2.lift _ _) hP en_36 (by simp [iy, imm_sc]) (imm_pair .sc .sc) ?_
    simp -dsimp -implicitDefEqProofs [-getElem?_pos, go_sem, hP, t22, hY, ltn, cA]
    refine callB_is (f1.lift _ _) hP en_24 (by simp [iy, imm_sc]) (imm_pair .sc .sc) ?_
    simp -dsimp -implicitDefEqProofs [-getElem?_pos, go_sem, hP, t22, hY, ltn, cA]
    refine callB_is (f2.lift _ _) hP en_37 (by simp [iy, imm_sc]) (imm_pair .sc .sc) ?_
    simp -dsimp -implicitDefEqProofs [-getElem?_pos, go_sem, hP]
    refine adrawB (fun _ => true) [] hP (by kernel_rfl) (by kernel_rfl) ?_
    simp -dsimp -implicitDefEqProofs [-getElem?_pos, go_sem, hP, t22, hY, ltn, cA]
    refine callB_is (a1.lift _ _) hP en_39 (by simp [iy, imm_sc]) (imm_subs _) ?_
    simp -dsimp -implicitDefEqProofs [-getElem?_pos, go_sem, hP, t22, hY, ltn, cA]
    refine callB_is (a2.lift _ _) hP en_40 (by simp [iy, imm_sc]) (imm_subs _) ?_
    simp -dsimp -implicitDefEqProofs [-getElem?_pos, go_sem, hP]
    refine callB_pure sb hP en_38 (args_imm (imm_subs _) (args_imm (imm_subs _) (args_nil.2 trivial))) .sc ?_
    simp -dsimp -implicitDefEqProofs [-getElem?_pos, go_sem, hP, t22, hY, ltn, cA]
    refine callB_is (x1.lift _ _) hP en_20 (by simp [iy, imm_sc]) i6 ?_
    simp -dsimp -implicitDefEqProofs [-getElem?_pos, go_sem, hP, t22, hY, ltn, cA]
    refine callB_is (x2.lift _ _) hP en_32 (by simp [iy, imm_sc]) i6 ?_
    simp -dsimp -implicitDefEqProofs [-getElem?_pos, go_sem, hP, t156, wj]
    refine ⟨3 - (j + 1), by omega, ?_⟩
    rw [hV]
    exact ⟨j + 1, by omega, rfl, by simp -dsimp -implicitDefEqProofs [-getElem?_pos, go_sem, t5], by simp -dsimp -implicitDefEqProofs [-getElem?_pos, go_sem, t8], by simp -dsimp -implicitDefEqProofs [-getElem?_pos, go_sem, t13], by simp -dsimp -implicitDefEqProofs [-getElem?_pos, go_sem, t22], by simp -dsimp -implicitDefEqProofs [-getElem?_pos, go_sem, t87], by simp -dsimp -implicitDefEqProofs [-getElem?_pos, go_sem, t88], by simp -dsimp -implicitDefEqProofs [-getElem?_pos, go_sem, t155], by simp -dsimp -implicitDefEqProofs [-getElem?_pos, go_sem], by simp -dsimp -implicitDefEqProofs [-getElem?_pos, go_sem, lt1, h1], by simp -dsimp -implicitDefEqProofs [-getElem?_pos, go_sem, ltn, hY]⟩
  simp -dsimp -implicitDefEqProofs [-getElem?_pos, go_sem, hP, t88, wk]
  exact next _ _ (by simp -dsimp -implicitDefEqProofs [-getElem?_pos, go_sem, t5]) (by simp -dsimp -implicitDefEqProofs [-getElem?_pos, go_sem, t8]) (by simp -dsimp -implicitDefEqProofs [-getElem?_pos, go_sem, t13]) (by simp -dsimp -implicitDefEqProofs [-getElem?_pos, go_sem, t87]) (by simp -dsimp -implicitDefEqProofs [-getElem?_pos, go_sem]) (by simp -dsimp -implicitDefEqProofs [-getElem?_pos, go_sem, lt1, h1])
end Go.Proofs.Ytcfkdimndhapfaa
