/- LedgerEntries: the walk. -/
import Derived.Test.YtellcfkpfccgaaaLedEnt2
import Derived.Test.YtellcfkpfccgaaaAccGen
set_option linter.unusedSimpArgs false
set_option linter.unusedVariables false
namespace Go.Proofs.Ytellcfkpfccgaaa
open Go.PA
open Go.RowKit

theorem ofL_bound' {l : List TPosting} (h : checkL l = 0) (e a k : Int) : -400000000000000 ≤ ofL l e a k ∧ ofL l e a k ≤ 400000000000000 := by
  rw [ofL, if_pos h]
  obtain ⟨h1, h2, _⟩ := checkL_ok h
  have := netP_bound (fun b => decide (b = a)) (ofB e 0 k) l fun p hp => (h2 p hp).fine
  show _ ≤ netP _ _ l ∧ netP _ _ l ≤ _
  omega

set_option maxRecDepth 8000 in
set_option maxHeartbeats 4000000 in
theorem ledentries_law_pf (xs : List Int) (m : Nat) (hx : Small xs) (hl : xs.length ≤ 9223372036854775807) (hm : m ≤ 255) :
    PFun Try.prog none none 13 [intsL xs, .sc (.int .u8 m)] (· = bv true) := by
  refine pfun_introA Try.func13 rfl (by simp [Try.f13]) ?_
  intro E hP hr hs hW hN
  refine awp_cut (by rw [hN]; kernel_rfl) ?_
  simp [go_sem, hP]
  refine awp_cut (by rw [hN]; kernel_rfl) ?_
  simp [go_sem, hP]
  have hnew : POwn Try.prog E.row E.src 15 [intsL xs] 112 2 (· = [[intsL (xs.take 900), iv 0]]) := by rw [hr, hs]; exact new_pf xs hl
  refine callB_own hnew hP en_15 (args_same (by simp [go_sem, intsL])) (by simp [srefs_imm, go_sem, intsL]) ⟨_, rfl⟩ ?_
  rintro es rfl
  simp [go_sem, hP]
  refine awp_adopt 5 (ty := 112) (xs := xs.take 900) (at_ := 0) hr hs hW (by simp [go_sem]) (by simp [go_sem, intsL]) (by omega) (by simp; omega) (fun x hx' => hx x (List.mem_of_mem_take hx')) (by rw [hN]; kernel_rfl) ?_
  intro E' p hP' hr' hN' hW'
  rw [hP] at hP'
  rw [hN] at hN'
  clear hnew hP hr hs hW hN E
  rename Env => E
  rename E.P = _ => hP
  rename E.row = _ => hr
  rename E.N = _ => hN
  rename (∀ b, ¬ E.W b) => hW
  obtain ⟨src, hs⟩ : ∃ src, E.src = src := ⟨_, rfl⟩
  have up : ∀ {f : FuncId} {args : List AV} {Q : AV → Prop}, PFun Try.prog (some p) src f args Q → PFun Try.prog E.row E.src f args Q := fun h => hr ▸ hs ▸ h

  simp -dsimp -implicitDefEqProofs [-getElem?_pos, go_sem, hP]
  refine callB_isQ (up (account_pf p src 12 (by omega))) hP en_54 (by simp [go_sem]) (gen_ex 12) ?_
  rintro r ⟨a, rfl, hg⟩ _
  have ok := hg.ok
  obtain ⟨hs', he'⟩ := gen_nums hg (by omega)
  have wm := wrap_in (m : Int) (by omega)
  have hk : ((m : Int).tmod 40) = ((m % 40 : Nat) : Int) := (Int.ofNat_tmod m 40).symm
  have hk1 : m % 40 < 40 := Nat.mod_lt _ (by omega)
  obtain ⟨k, hkk⟩ : ∃ k, k = m % 40 := ⟨_, rfl⟩
  rw [← hkk] at hk hk1
  clear hkk
  have ent := entries_pf a 1 1 hs' he'
  have ec := entriesL_check ok
  have el := entriesL_len a 1 1
  obtain ⟨n1, n2, n3⟩ := entriesL_net ok k
  have at_ := at23_pf a k hs' he'
  have fl := flow23_pf a 0 k hs' he'
  obtain ⟨a1, a2, a3⟩ := at_facts ok k
  have cr := (check_ok ok).2.2.1
  have alen : (atA a k).length = 4 := by
    have := congrArg List.length a3
    rw [ids_len, ids_len, hg.slen] at this
    exact this
  obtain ⟨L, hL⟩ : ∃ L, L = entriesL a 1 1 := ⟨_, rfl⟩
  rw [← hL] at ent ec el n1 n2 n3
  have ck := lcheck_pf ⟨L⟩ (by dsimp only; omega)
  rw [cL] at ck
  simp only [ec] at ck
  have o1 := of2_pf ⟨L⟩ 1 110 k (by dsimp only; omega)
  have o2 := of2_pf ⟨L⟩ 1 410 k (by dsimp only; omega)
  have o3 := of2_pf ⟨L⟩ 1 510 k (by dsimp only; omega)
  have b1 := ofL_bound' ec 1 410 k
  have b2 := ofL_bound' ec 1 510 k
  rw [cL] at o1 o2 o3
  rw [n1, ← a1] at o1
  rw [n2] at o2 b1
  rw [n3] at o3 b2
  generalize flowA a 0 k = F at fl o2 o3 b1 b2 a1
  generalize atA a k = B at at_ o1 a1 a2 alen
  have iL := imm_posts L
  have iB := imm_subs B
  have ia := imm_acc a
  rw [cA] at ia ent at_ fl
  have wi : IntKind.i64.wrap F.1 = F.1 := wrap_in _ (by omega)
  simp -dsimp -implicitDefEqProofs [-getElem?_pos, go_sem, hP, cA]
  refine callB_is (ent.lift _ _) hP en_55 (by simp [imm_sc]; exact ia) iL ?_
  simp -dsimp -implicitDefEqProofs [-getElem?_pos, go_sem, hP]
  refine callB_is (ck.lift _ _) hP en_56 (by simp [imm_agg, iL]) .sc ?_
  simp -dsimp -implicitDefEqProofs [-getElem?_pos, go_sem, hP, aconv, wm, hk]
  refine callB_is (at_.lift _ _) hP en_57 (by simp [imm_sc]; exact ia) iB ?_
  simp -dsimp -implicitDefEqProofs [-getElem?_pos, go_sem, hP]
  obtain ⟨I, hI⟩ : ∃ I : Nat → St → Prop, I = fun m s => ∃ j : Nat, j ≤ B.length ∧ m = B.length - j ∧ s.t 6 = .ref 1 0 0 ∧ s.t 7 = .ref 2 0 0 ∧ s.t 8 = iv k ∧ s.t 9 = iv (sumB (B.take j)) ∧ s.t 29 = subsL B ∧ s.t 30 = iv B.length ∧ s.t 31 = iv j ∧ s.H[1]? = some (some ⟨90, 3, [[iv a.Credit, subsL a.Subs, entsL a.Entries]]⟩) ∧ s.H[2]? = some (some ⟨28, 1, [[postsL L]]⟩) := ⟨_, rfl⟩
  refine aloop0 I (B.length) (by rw [hN]; rfl) ?_ ?_
  · rw [hI]
    exact ⟨0, by omega, by omega, by simp -dsimp -implicitDefEqProofs [-getElem?_pos, go_sem], by simp -dsimp -implicitDefEqProofs [-getElem?_pos, go_sem], by simp -dsimp -implicitDefEqProofs [-getElem?_pos, go_sem], by simp -dsimp -implicitDefEqProofs [-getElem?_pos, go_sem]; rfl, by simp -dsimp -implicitDefEqProofs [-getElem?_pos, go_sem], by simp -dsimp -implicitDefEqProofs [-getElem?_pos, go_sem], by simp -dsimp -implicitDefEqProofs [-getElem?_pos, go_sem], by simp -dsimp -implicitDefEqProofs [-getElem?_pos, go_sem], by simp -dsimp -implicitDefEqProofs [-getElem?_pos, go_sem]⟩
  intro m s hs'
  rw [hI] at hs'
  obtain ⟨j, hj, hmj, t6, t7, t8, t9, t29, t30, t31, h1, h2⟩ := hs'
  have lt1 := (List.getElem?_eq_some_iff.1 h1).1
  have lt2 := (List.getElem?_eq_some_iff.1 h2).1
  simp -dsimp -implicitDefEqProofs [-getElem?_pos, go_sem, hP, t30, t31]
  refine condP (fun hh => ?_) (fun hh => ?_)
  · have hj : j < B.length := by simpa using hh
    obtain ⟨x, hx⟩ : ∃ x, B[j]? = some x := ⟨_, List.getElem?_eq_getElem hj⟩
    have wj := wrap_in ((j : Int) + 1) (by omega)
    have st : sumB (B.take (j + 1)) = sumB (B.take j) + x.Balance := by rw [List.take_add_one, hx]; exact sumB_snoc _ _
    have bd := sumB_bound cr (B.take (j + 1)) (okAll_take a2 (j + 1))
    rw [st, List.length_take] at bd
    have ws := wrap_in (sumB (B.take j) + x.Balance) (by omega)
    simp -dsimp -implicitDefEqProofs [-getElem?_pos, go_sem, hP, t29, t31, hx, TSub.cells, t9, ws, wj]
    refine ⟨B.length - (j + 1), by omega, ?_⟩
    rw [hI]
    exact ⟨j + 1, by omega, rfl, by simp -dsimp -implicitDefEqProofs [-getElem?_pos, go_sem, t6], by simp -dsimp -implicitDefEqProofs [-getElem?_pos, go_sem, t7], by simp -dsimp -implicitDefEqProofs [-getElem?_pos, go_sem, t8], by rw [st]; simp -dsimp -implicitDefEqProofs [-getElem?_pos, go_sem], by simp -dsimp -implicitDefEqProofs [-getElem?_pos, go_sem, t29], by simp -dsimp -implicitDefEqProofs [-getElem?_pos, go_sem, t30], by simp -dsimp -implicitDefEqProofs [-getElem?_pos, go_sem], by simp -dsimp -implicitDefEqProofs [-getElem?_pos, go_sem, lt1, h1], by simp -dsimp -implicitDefEqProofs [-getElem?_pos, go_sem, lt2, h2]⟩
  have hj : j = B.length := by simp at hh; omega
  subst hj
  rw [List.take_length] at t9
  simp -dsimp -implicitDefEqProofs [-getElem?_pos, go_sem, hP, t6, h1, lt1, t8]
  refine callB_is (fl.lift _ _) hP en_58 (by simp [imm_sc]; exact ia) (imm_pair .sc .sc) ?_
  simp -dsimp -implicitDefEqProofs [-getElem?_pos, go_sem, hP, t7, h2, lt2, t8]
  refine callB_is (o1.lift _ _) hP en_18 (by simp [imm_sc, imm_agg, iL]) .sc ?_
  simp -dsimp -implicitDefEqProofs [-getElem?_pos, go_sem, hP, t7, h2, lt2, t8, t9]
  refine callB_is (o2.lift _ _) hP en_18 (by simp [imm_sc, imm_agg, iL]) .sc ?_
  simp -dsimp -implicitDefEqProofs [-getElem?_pos, go_sem, hP, t7, h2, lt2, t8, t9, wi]
  refine callB_is (o3.lift _ _) hP en_18 (by simp [imm_sc, imm_agg, iL]) .sc ?_
  simp -dsimp -implicitDefEqProofs [-getElem?_pos, go_sem, hP]
  refine callB_pure sane40_pf hP en_21 (args_same (by simp -dsimp -implicitDefEqProofs [-getElem?_pos, go_sem])) .sc ?_
  simp -dsimp -implicitDefEqProofs [-getElem?_pos, go_sem, hP]
end Go.Proofs.Ytellcfkpfccgaaa
