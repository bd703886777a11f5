/- LedgerExact: the walk. -/
import Derived.Test.YtellcfkpfccgaaaLedEnt3
import Derived.Test.YtellcfkpfccgaaaLedBent
import Derived.Test.YtellcfkpfccgaaaAccBent
import Derived.Test.YtellcfkpfccgaaaLed9
set_option linter.unusedSimpArgs false
set_option linter.unusedVariables false
namespace Go.Proofs.Ytellcfkpfccgaaa
open Go.PA
open Go.RowKit

theorem three {k : Nat} (h : k < 3) : k = 0 ∨ k = 1 ∨ k = 2 := by omega

set_option maxRecDepth 8000 in
set_option maxHeartbeats 8000000 in
theorem exact40_pf (xs : List Int) (raw : TLedger) (x : TPosting) (acc : TAccount) (entity account from_ to first : Int) (hx : Small xs) (hl : xs.length ≤ 9223372036854775807) :
    PFun Try.prog none none 14 [intsL xs, .agg raw.cells, .agg x.cells, .agg acc.cells, iv entity, iv account, iv from_, iv to, iv first] (· = bv true) := by
  refine pfun_introA Try.func14 rfl (by simp [Try.f14]) ?_
  intro E hP hr hs hW hN
  obtain ⟨raw⟩ := raw
  have ir := imm_posts raw
  have ix := imm_prp x
  have ia : Imm (.agg [iv acc.Credit, subsL acc.Subs, entsL acc.Entries]) := imm_acc acc
  have fw := few_pf acc
  rw [cA] at fw
  have saneB : ∀ {H : Heap} {C : AV → Heap → Prop} {b : Bx C}, C (bv true) H → CallB E 21 [] H C b := fun h => callB_pure sane40_pf hP en_21 (args_nil.2 trivial) .sc h
  refine awp_cut (by rw [hN]; kernel_rfl) ?_
  simp -dsimp -implicitDefEqProofs [-getElem?_pos, go_sem, hP, cL, cP, cA]
  refine awp_cut (by rw [hN]; kernel_rfl) ?_
  by_cases c1 : 20 < raw.length
  · have d1 : decide ((20 : Int) < raw.length) = true := decide_eq_true (by omega)
    simp -dsimp -implicitDefEqProofs [-getElem?_pos, go_sem, hP, d1]
    refine saneB ?_
    simp -dsimp -implicitDefEqProofs [-getElem?_pos, go_sem, hP]
  have d1 : decide ((20 : Int) < raw.length) = false := decide_eq_false (by omega)
  simp -dsimp -implicitDefEqProofs [-getElem?_pos, go_sem, hP, d1]
  refine callB_is (fw.lift _ _) hP en_59 (by simp [ia]) .sc ?_
  by_cases c2 : (decide (acc.Subs.length ≤ 25) && decide (acc.Entries.length ≤ 25)) = true
  rotate_left
  · have c2 : (decide (acc.Subs.length ≤ 25) && decide (acc.Entries.length ≤ 25)) = false := by simpa using c2
    rw [c2]
    simp -dsimp -implicitDefEqProofs [-getElem?_pos, go_sem, hP]
    refine saneB ?_
    simp -dsimp -implicitDefEqProofs [-getElem?_pos, go_sem, hP]
  have hacc : acc.Subs.length ≤ 25 ∧ acc.Entries.length ≤ 25 := by simpa using c2
  rw [c2]
  simp -dsimp -implicitDefEqProofs [-getElem?_pos, go_sem, hP]
  refine awp_cut (by rw [hN]; kernel_rfl) ?_
  simp -dsimp -implicitDefEqProofs [-getElem?_pos, go_sem, hP]
  have hnew : POwn Try.prog E.row E.src 15 [intsL xs] 112 2 (· = [[intsL (xs.take 900), iv 0]]) := by rw [hr, hs]; exact new_pf xs hl
  refine callB_own hnew hP en_15 (args_same (by simp [go_sem, intsL])) (by simp [srefs_imm, go_sem, intsL]) ⟨_, rfl⟩ ?_
  rintro es rfl
  simp -dsimp -implicitDefEqProofs [-getElem?_pos, go_sem, hP]
  refine awp_adoptG 19 3 (ty := 112) (xs := xs.take 900) (at_ := 0) hr hs (by simp -dsimp -implicitDefEqProofs [-getElem?_pos, go_sem]) (by simp -dsimp -implicitDefEqProofs [-getElem?_pos, go_sem, intsL]) (by omega) (by simp; omega) (fun x hx' => hx x (List.mem_of_mem_take hx')) (by rw [hN]; kernel_rfl) ?_
  intro E' p hP' hr' hN'
  rw [hP] at hP'
  rw [hN] at hN'
  clear hnew hP hr hs hW hN saneB E
  rename Env => E
  rename E.P = _ => hP
  rename E.row = _ => hr
  rename E.N = _ => hN
  obtain ⟨src, hs⟩ : ∃ src, E.src = src := ⟨_, rfl⟩
  have up : ∀ {f : FuncId} {args : List AV} {Q : AV → Prop}, PFun Try.prog (some p) src f args Q → PFun Try.prog E.row E.src f args Q := fun h => hr ▸ hs ▸ h
  have saneB : ∀ {H : Heap} {C : AV → Heap → Prop} {b : Bx C}, C (bv true) H → CallB E 21 [] H C b := fun h => callB_pure sane40_pf hP en_21 (args_nil.2 trivial) .sc h
  simp -dsimp -implicitDefEqProofs [-getElem?_pos, go_sem, hP]
  refine callB_isQ (up (gledger_pf p src 10 3 800 (by omega) (by omega) (by omega))) hP en_16 (by simp [go_sem]) (genl_ex 10 3 800) ?_
  rintro r ⟨l, rfl, hg⟩ _
  have hll := hg.len
  have il := imm_posts l
  simp -dsimp -implicitDefEqProofs [-getElem?_pos, go_sem, hP, cL]
  refine callB_isQ (up (account_pf p src 8 (by omega))) hP en_54 (by simp [go_sem]) (gen_ex 8) ?_
  rintro r ⟨own, rfl, hga⟩ _
  have asl := hga.slen
  have ael := hga.len
  have io : Imm (.agg [iv own.Credit, subsL own.Subs, entsL own.Entries]) := imm_acc own
  have bl := bentled_pf p src l (by omega)
  rw [cL] at bl
  simp -dsimp -implicitDefEqProofs [-getElem?_pos, go_sem, hP, cA]
  refine adrawB (fun _ => true) [] hP (by kernel_rfl) (by kernel_rfl) ?_
  simp -dsimp -implicitDefEqProofs [-getElem?_pos, go_sem, hP]
  refine callB_isQ (up bl) hP en_41 (by simp [imm_sc, imm_agg, il]) (bentled_ex l) ?_
  rintro r ⟨⟨b⟩, rfl, hbl⟩ _
  have hbl : b.length ≤ l.length + 1 := hbl
  have ib := imm_posts b
  simp -dsimp -implicitDefEqProofs [-getElem?_pos, go_sem, hP, cL]
  obtain ⟨A3, hA3⟩ : ∃ A3 : AV, A3 = .agg [postsL l, postsL b, postsL raw] := ⟨_, rfl⟩
  obtain ⟨J, hJ⟩ : ∃ I : Nat → St → Prop, I = fun m s => ∃ k : Nat, k ≤ 3 ∧ m = 3 - k ∧ s.t 4 = iv entity ∧ s.t 5 = iv account ∧ s.t 6 = iv from_ ∧ s.t 7 = iv to ∧ s.t 8 = iv first ∧ s.t 11 = .ref 1 0 0 ∧ s.t 12 = .ref 2 0 0 ∧ s.t 19 = sp p ∧ s.t 21 = .ref 5 0 0 ∧ s.t 61 = A3 ∧ s.t 62 = iv k ∧ s.H[1]? = some (some ⟨37, 8, [x.cells]⟩) ∧ s.H[2]? = some (some ⟨90, 3, [acc.cells]⟩) ∧ s.H[5]? = some (some ⟨90, 3, [own.cells]⟩) := ⟨_, rfl⟩
  refine aloop0 J (3) (by rw [hN]; rfl) ?_ ?_
  · rw [hJ]
    exact ⟨0, by omega, by omega, by simp -dsimp -implicitDefEqProofs [-getElem?_pos, go_sem], by simp -dsimp -implicitDefEqProofs [-getElem?_pos, go_sem], by simp -dsimp -implicitDefEqProofs [-getElem?_pos, go_sem], by simp -dsimp -implicitDefEqProofs [-getElem?_pos, go_sem], by simp -dsimp -implicitDefEqProofs [-getElem?_pos, go_sem], by simp -dsimp -implicitDefEqProofs [-getElem?_pos, go_sem], by simp -dsimp -implicitDefEqProofs [-getElem?_pos, go_sem], by simp -dsimp -implicitDefEqProofs [-getElem?_pos, go_sem], by simp -dsimp -implicitDefEqProofs [-getElem?_pos, go_sem], by simp -dsimp -implicitDefEqProofs [-getElem?_pos, go_sem, hA3], by simp -dsimp -implicitDefEqProofs [-getElem?_pos, go_sem], by simp -dsimp -implicitDefEqProofs [-getElem?_pos, go_sem, cP], by simp -dsimp -implicitDefEqProofs [-getElem?_pos, go_sem, cA], by simp -dsimp -implicitDefEqProofs [-getElem?_pos, go_sem, cA]⟩
  intro m s hs'
  rw [hJ] at hs'
  obtain ⟨k, hk, hm, t4, t5, t6, t7, t8, t11, t12, t19, t21, t61, t62, h1, h2, h5⟩ := hs'
  have lt1 := (List.getElem?_eq_some_iff.1 h1).1
  have lt2 := (List.getElem?_eq_some_iff.1 h2).1
  have lt5 := (List.getElem?_eq_some_iff.1 h5).1
  simp -dsimp -implicitDefEqProofs [-getElem?_pos, go_sem, hP, t62]
  refine condP (fun h => ?_) (fun h => ?_)
  · have hk : k < 3 := by simp at h; omega
    have wk := wrap_in ((k : Int) + 1) (by omega)
    obtain ⟨y, hy, hix⟩ : ∃ y : List TPosting, y.length ≤ 20 ∧ aixV Try.prog 101 A3 (iv k) = some (.agg [postsL y]) := by
      rw [hA3]
      rcases three hk with rfl | rfl | rfl
      · exact ⟨l, by omega, by kernel_rfl⟩
      · exact ⟨b, by omega, by kernel_rfl⟩
      · exact ⟨raw, by omega, by kernel_rfl⟩
    have iy := imm_posts y
    have ck1 := lcheck_pf ⟨y⟩ (by dsimp only; omega)
    have ck2 := rcheck_pf ⟨y⟩ (by dsimp only; omega)
    rw [cL] at ck1 ck2
    obtain ⟨n, hn⟩ : ∃ n, n = s.H.length := ⟨_, rfl⟩
    have lt1n : 5 < n := hn ▸ lt5
    have wl := wrap_in ((y.length : Int) + 1) (by omega)
    simp -dsimp -implicitDefEqProofs [-getElem?_pos, go_sem, hP, t61, t62, hix]
    refine adrawB (fun _ => true) [] hP (by kernel_rfl) (by kernel_rfl) ?_
    simp -dsimp -implicitDefEqProofs [-getElem?_pos, go_sem, hP]
    refine callB_is (ck1.lift _ _) hP en_56 (by simp [iy, imm_agg]) .sc ?_
    simp -dsimp -implicitDefEqProofs [-getElem?_pos, go_sem, hP]
    refine callB_is (ck2.lift _ _) hP en_60 (by simp [iy, imm_agg]) .sc ?_
    simp -dsimp -implicitDefEqProofs [-getElem?_pos, go_sem, hP]
    refine adrawB (fun _ => true) [] hP (by kernel_rfl) (by kernel_rfl) ?_
    simp -dsimp -implicitDefEqProofs [-getElem?_pos, go_sem, hP, t11, h1, lt1, cP, t19, wl]
    refine callB_isQ (up (gposting_pf p src ((y.length : Int) + 1) 900 3 (by omega))) hP en_19 (by simp [go_sem]) (genp_ex _ _ _ (by omega)) ?_
    rintro r ⟨q1, rfl, _⟩ _
    simp -dsimp -implicitDefEqProofs [-getElem?_pos, go_sem, hP, t19]
    refine callB_flat (up (range_pf p src 1 9 (by omega) (by omega))) hP en_61 (args_same (by simp -dsimp -implicitDefEqProofs [-getElem?_pos, go_sem])) ⟨iv 1, 1, rfl, by omega, by omega⟩ (by rintro r ⟨m, rfl, _⟩; exact .sc) ?_
    rintro r ⟨m1, rfl, _⟩
    simp -dsimp -implicitDefEqProofs [-getElem?_pos, go_sem, hP, t19]
    refine callB_flat (up (odd_pf p src)) hP en_43 (args_same (by simp -dsimp -implicitDefEqProofs [-getElem?_pos, go_sem])) ⟨iv 0, 0, rfl⟩ (by rintro r ⟨m, rfl⟩; exact .sc) ?_
    rintro r ⟨m2, rfl⟩
    simp -dsimp -implicitDefEqProofs [-getElem?_pos, go_sem, hP, t19]
    refine callB_isQ (up (gposting_pf p src m1 m2 2 (by omega))) hP en_19 (by simp [go_sem]) (genp_ex _ _ _ (by omega)) ?_
    rintro r ⟨q2, rfl, _⟩ _
    obtain ⟨Z, hZ⟩ : ∃ Z : AV, Z = .agg [iv x.Number, iv x.Day, iv x.Entity, iv x.Debit, iv x.Credit, iv x.Amount, iv x.Partner, iv x.Ref, iv q1.Number, iv q1.Day, iv q1.Entity, iv q1.Debit, iv q1.Credit, iv q1.Amount, iv q1.Partner, iv q1.Ref, iv q2.Number, iv q2.Day, iv q2.Entity, iv q2.Debit, iv q2.Credit, iv q2.Amount, iv q2.Partner, iv q2.Ref] := ⟨_, rfl⟩
    have zix : ∀ j : Nat, j < 3 → ∃ z : TPosting, aixV Try.prog 103 Z (iv j) = some (.agg [iv z.Number, iv z.Day, iv z.Entity, iv z.Debit, iv z.Credit, iv z.Amount, iv z.Partner, iv z.Ref]) := fun j hj => by
      rw [hZ]
      rcases three hj with rfl | rfl | rfl
      · exact ⟨x, by kernel_rfl⟩
      · exact ⟨q1, by kernel_rfl⟩
      · exact ⟨q2, by kernel_rfl⟩
    simp -dsimp -implicitDefEqProofs [-getElem?_pos, go_sem, hP, cP]
    obtain ⟨U, hU⟩ : ∃ I : Nat → St → Prop, I = fun m s => ∃ j : Nat, j ≤ 3 ∧ m = 3 - j ∧ s.t 4 = iv entity ∧ s.t 5 = iv account ∧ s.t 6 = iv from_ ∧ s.t 7 = iv to ∧ s.t 8 = iv first ∧ s.t 11 = .ref 1 0 0 ∧ s.t 12 = .ref 2 0 0 ∧ s.t 19 = sp p ∧ s.t 21 = .ref 5 0 0 ∧ s.t 23 = .ref n 0 0 ∧ s.t 61 = A3 ∧ s.t 62 = iv k ∧ s.t 83 = Z ∧ s.t 84 = iv j ∧ s.H[1]? = some (some ⟨37, 8, [x.cells]⟩) ∧ s.H[2]? = some (some ⟨90, 3, [acc.cells]⟩) ∧ s.H[5]? = some (some ⟨90, 3, [own.cells]⟩) ∧ s.H[n]? = some (some ⟨28, 1, [[postsL y]]⟩) := ⟨_, rfl⟩
    refine aloop0 U (3) (by rw [hN]; rfl) ?_ ?_
    · rw [hU]
      exact ⟨0, by omega, by omega, by simp -dsimp -implicitDefEqProofs [-getElem?_pos, go_sem, t4], by simp -dsimp -implicitDefEqProofs [-getElem?_pos, go_sem, t5], by simp -dsimp -implicitDefEqProofs [-getElem?_pos, go_sem, t6], by simp -dsimp -implicitDefEqProofs [-getElem?_pos, go_sem, t7], by simp -dsimp -implicitDefEqProofs [-getElem?_pos, go_sem, t8], by simp -dsimp -implicitDefEqProofs [-getElem?_pos, go_sem, t11], by simp -dsimp -implicitDefEqProofs [-getElem?_pos, go_sem, t12], by simp -dsimp -implicitDefEqProofs [-getElem?_pos, go_sem, t19], by simp -dsimp -implicitDefEqProofs [-getElem?_pos, go_sem, t21], by simp -dsimp -implicitDefEqProofs [-getElem?_pos, go_sem, hn], by simp -dsimp -implicitDefEqProofs [-getElem?_pos, go_sem, t61], by simp -dsimp -implicitDefEqProofs [-getElem?_pos, go_sem, t62], by simp -dsimp -implicitDefEqProofs [-getElem?_pos, go_sem, hZ], by simp -dsimp -implicitDefEqProofs [-getElem?_pos, go_sem], by simp -dsimp -implicitDefEqProofs [-getElem?_pos, go_sem, lt1, h1], by simp -dsimp -implicitDefEqProofs [-getElem?_pos, go_sem, lt2, h2], by simp -dsimp -implicitDefEqProofs [-getElem?_pos, go_sem, lt5, h5], by simp -dsimp -implicitDefEqProofs [-getElem?_pos, go_sem, hn]⟩
    clear t4 t5 t6 t7 t8 t11 t12 t19 t21 t61 t62 h1 h2 h5 lt1 lt2 lt5 hn hZ
    intro m s hs'
    rw [hU] at hs'
    obtain ⟨j, hj, hmu, t4, t5, t6, t7, t8, t11, t12, t19, t21, t23, t61, t62, t83, t84, h1, h2, h5, hY⟩ := hs'
    have lt1 := (List.getElem?_eq_some_iff.1 h1).1
    have lt2 := (List.getElem?_eq_some_iff.1 h2).1
    have lt5 := (List.getElem?_eq_some_iff.1 h5).1
    have ltn := (List.getElem?_eq_some_iff.1 hY).1
    simp -dsimp -implicitDefEqProofs [-getElem?_pos, go_sem, hP, t84]
    refine condP (fun h => ?_) (fun h => ?_)
    · have hj : j < 3 := by simp at h; omega
      have wj := wrap_in ((j : Int) + 1) (by omega)
      obtain ⟨z, zx⟩ := zix j hj
      have iz := imm_prp z
      have p1 := lpost_pf ⟨y⟩ z (by dsimp only; omega)
      have p2 := rpost_pf ⟨y⟩ z (by dsimp only; omega)
      have plen : (postL y z).1.length ≤ 100 := by
        unfold postL
        repeat' split
        all_goals simp
        all_goals omega
      have v1 := posting_pf z
      have v2 := rposting_pf z
      have u1 := turn_pf z first to
      have u2 := rturn_pf z first to
      simp only at p1 p2
      generalize (postL y z).1 = L1 at p1 p2 plen
      generalize (postL y z).2 = e1 at p1 p2
      generalize turnP z first to = w at u1 u2
      have iL1 := imm_posts L1
      have iw := imm_prp w
      have eq := listEq_pf_posts40 L1 L1 (by omega) (by omega)
      rw [decide_eq_true rfl] at eq
      rw [cL, cL, cP] at p1 p2
      rw [cP] at v1 v2 u1 u2
      rw [cP] at u1 u2
      simp -dsimp -implicitDefEqProofs [-getElem?_pos, go_sem, hP, t83, t84, zx, t23, hY, ltn]
      refine callB_is (p1.lift _ _) hP en_20 (by simp [iy, iz, imm_agg]) (imm_pair (by simpa [imm_agg] using iL1) .sc) ?_
      simp -dsimp -implicitDefEqProofs [-getElem?_pos, go_sem, hP, t23, hY, ltn]
      refine callB_is (p2.lift _ _) hP en_62 (by simp [iy, iz, imm_agg]) (imm_pair (by simpa [imm_agg] using iL1) .sc) ?_
      simp -dsimp -implicitDefEqProofs [-getElem?_pos, go_sem, hP]
      refine adrawB (fun _ => true) [] hP (by kernel_rfl) (by kernel_rfl) ?_
      simp -dsimp -implicitDefEqProofs [-getElem?_pos, go_sem, hP]
      refine callB_is (v1.lift _ _) hP en_63 (by simpa using iz) .sc ?_
      simp -dsimp -implicitDefEqProofs [-getElem?_pos, go_sem, hP]
      refine callB_is (v2.lift _ _) hP en_64 (by simpa using iz) .sc ?_
      simp -dsimp -implicitDefEqProofs [-getElem?_pos, go_sem, hP]
      refine callB_is (eq.lift _ _) hP en_65 (by simp [iL1]) .sc ?_
      simp -dsimp -implicitDefEqProofs [-getElem?_pos, go_sem, hP, t7, t8]
      refine callB_is (u1.lift _ _) hP en_22 (by simp [imm_sc]; exact iz) iw ?_
      simp -dsimp -implicitDefEqProofs [-getElem?_pos, go_sem, hP, t7, t8]
      refine callB_is (u2.lift _ _) hP en_38 (by simp [imm_sc]; exact iz) iw ?_
      simp -dsimp -implicitDefEqProofs [-getElem?_pos, go_sem, hP, t84, wj]
      refine ⟨3 - (j + 1), by omega, ?_⟩
      rw [hU]
      exact ⟨j + 1, by omega, rfl, by simp -dsimp -implicitDefEqProofs [-getElem?_pos, go_sem, t4], by simp -dsimp -implicitDefEqProofs [-getElem?_pos, go_sem, t5], by simp -dsimp -implicitDefEqProofs [-getElem?_pos, go_sem, t6], by simp -dsimp -implicitDefEqProofs [-getElem?_pos, go_sem, t7], by simp -dsimp -implicitDefEqProofs [-getElem?_pos, go_sem, t8], by simp -dsimp -implicitDefEqProofs [-getElem?_pos, go_sem, t11], by simp -dsimp -implicitDefEqProofs [-getElem?_pos, go_sem, t12], by simp -dsimp -implicitDefEqProofs [-getElem?_pos, go_sem, t19], by simp -dsimp -implicitDefEqProofs [-getElem?_pos, go_sem, t21], by simp -dsimp -implicitDefEqProofs [-getElem?_pos, go_sem, t23], by simp -dsimp -implicitDefEqProofs [-getElem?_pos, go_sem, t61], by simp -dsimp -implicitDefEqProofs [-getElem?_pos, go_sem, t62], by simp -dsimp -implicitDefEqProofs [-getElem?_pos, go_sem, t83], by simp -dsimp -implicitDefEqProofs [-getElem?_pos, go_sem], by simp -dsimp -implicitDefEqProofs [-getElem?_pos, go_sem, lt1, h1], by simp -dsimp -implicitDefEqProofs [-getElem?_pos, go_sem, lt2, h2], by simp -dsimp -implicitDefEqProofs [-getElem?_pos, go_sem, lt5, h5], by simp -dsimp -implicitDefEqProofs [-getElem?_pos, go_sem, ltn, hY]⟩
    clear hU zix
    simp -dsimp -implicitDefEqProofs [-getElem?_pos, go_sem, hP, t4, t5, t6, t7, t19]
    refine callB_flat (up (N_pf p src 4 (by omega))) hP en_35 (args_same (by simp -dsimp -implicitDefEqProofs [-getElem?_pos, go_sem])) (NQ_ex _) (NQ_flat _) ?_
    rintro r ⟨a1, rfl, _⟩
    simp -dsimp -implicitDefEqProofs [-getElem?_pos, go_sem, hP, t19]
    refine callB_flat (up (pick_pf p src [110, 140, 240, 410, 99, 600] (by simp))) hP en_42 (args_same (by simp -dsimp -implicitDefEqProofs [-getElem?_pos, go_sem, intsL])) ⟨iv 110, 110, rfl, by simp⟩ (by rintro r ⟨m, rfl, _⟩; exact .sc) ?_
    rintro r ⟨a2, rfl, _⟩
    simp -dsimp -implicitDefEqProofs [-getElem?_pos, go_sem, hP, t19]
    refine callB_flat (up (N_pf p src 400 (by omega))) hP en_35 (args_same (by simp -dsimp -implicitDefEqProofs [-getElem?_pos, go_sem])) (NQ_ex _) (NQ_flat _) ?_
    rintro r ⟨a3, rfl, _⟩
    simp -dsimp -implicitDefEqProofs [-getElem?_pos, go_sem, hP, t19]
    refine callB_flat (up (N_pf p src 900 (by omega))) hP en_35 (args_same (by simp -dsimp -implicitDefEqProofs [-getElem?_pos, go_sem])) (NQ_ex _) (NQ_flat _) ?_
    rintro r ⟨a4, rfl, _⟩
    simp -dsimp -implicitDefEqProofs [-getElem?_pos, go_sem, hP, t19]
    refine callB_flat (up (pick_pf p src [0, 10, 11, -1] (by simp))) hP en_42 (args_same (by simp -dsimp -implicitDefEqProofs [-getElem?_pos, go_sem, intsL])) ⟨iv 0, 0, rfl, by simp⟩ (by rintro r ⟨m, rfl, _⟩; exact .sc) ?_
    rintro r ⟨b1, rfl, _⟩
    simp -dsimp -implicitDefEqProofs [-getElem?_pos, go_sem, hP, t19]
    refine callB_flat (up (odd_pf p src)) hP en_43 (args_same (by simp -dsimp -implicitDefEqProofs [-getElem?_pos, go_sem])) ⟨iv 0, 0, rfl⟩ (by rintro r ⟨m, rfl⟩; exact .sc) ?_
    rintro r ⟨b2, rfl⟩
    obtain ⟨V, hV⟩ : ∃ V : AV, V = .agg [iv entity, iv account, iv from_, iv to, iv a1, iv a2, iv a3, iv a4, iv b1, iv b2, iv 0, iv 36000] := ⟨_, rfl⟩
    have vix : ∀ j : Nat, j < 3 → ∃ c0 c1 c2 c3 : Int, aixV Try.prog 106 V (iv j) = some (.agg [iv c0, iv c1, iv c2, iv c3]) := fun j hj => by
      rw [hV]
      rcases three hj with rfl | rfl | rfl
      · exact ⟨entity, account, from_, to, by kernel_rfl⟩
      · exact ⟨a1, a2, a3, a4, by kernel_rfl⟩
      · exact ⟨b1, b2, 0, 36000, by kernel_rfl⟩
    simp -dsimp -implicitDefEqProofs [-getElem?_pos, go_sem, hP]
    obtain ⟨R, hR⟩ : ∃ I : Nat → St → Prop, I = fun m s => ∃ j : Nat, j ≤ 3 ∧ m = 3 - j ∧ s.t 4 = iv entity ∧ s.t 5 = iv account ∧ s.t 6 = iv from_ ∧ s.t 7 = iv to ∧ s.t 8 = iv first ∧ s.t 11 = .ref 1 0 0 ∧ s.t 12 = .ref 2 0 0 ∧ s.t 19 = sp p ∧ s.t 21 = .ref 5 0 0 ∧ s.t 23 = .ref n 0 0 ∧ s.t 61 = A3 ∧ s.t 62 = iv k ∧ s.t 150 = V ∧ s.t 151 = iv j ∧ s.H[1]? = some (some ⟨37, 8, [x.cells]⟩) ∧ s.H[2]? = some (some ⟨90, 3, [acc.cells]⟩) ∧ s.H[5]? = some (some ⟨90, 3, [own.cells]⟩) ∧ s.H[n]? = some (some ⟨28, 1, [[postsL y]]⟩) := ⟨_, rfl⟩
    refine aloop0 R (3) (by rw [hN]; rfl) ?_ ?_
    · rw [hR]
      exact ⟨0, by omega, by omega, by simp -dsimp -implicitDefEqProofs [-getElem?_pos, go_sem, t4], by simp -dsimp -implicitDefEqProofs [-getElem?_pos, go_sem, t5], by simp -dsimp -implicitDefEqProofs [-getElem?_pos, go_sem, t6], by simp -dsimp -implicitDefEqProofs [-getElem?_pos, go_sem, t7], by simp -dsimp -implicitDefEqProofs [-getElem?_pos, go_sem, t8], by simp -dsimp -implicitDefEqProofs [-getElem?_pos, go_sem, t11], by simp -dsimp -implicitDefEqProofs [-getElem?_pos, go_sem, t12], by simp -dsimp -implicitDefEqProofs [-getElem?_pos, go_sem, t19], by simp -dsimp -implicitDefEqProofs [-getElem?_pos, go_sem, t21], by simp -dsimp -implicitDefEqProofs [-getElem?_pos, go_sem, t23], by simp -dsimp -implicitDefEqProofs [-getElem?_pos, go_sem, t61], by simp -dsimp -implicitDefEqProofs [-getElem?_pos, go_sem, t62], by simp -dsimp -implicitDefEqProofs [-getElem?_pos, go_sem, hV], by simp -dsimp -implicitDefEqProofs [-getElem?_pos, go_sem], by simp -dsimp -implicitDefEqProofs [-getElem?_pos, go_sem, lt1, h1], by simp -dsimp -implicitDefEqProofs [-getElem?_pos, go_sem, lt2, h2], by simp -dsimp -implicitDefEqProofs [-getElem?_pos, go_sem, lt5, h5], by simp -dsimp -implicitDefEqProofs [-getElem?_pos, go_sem, ltn, hY]⟩
    clear t4 t5 t6 t7 t8 t11 t12 t19 t21 t23 t61 t62 t83 t84 h1 h2 h5 lt1 lt2 lt5 hV
    clear ltn hY
    intro m s hs'
    rw [hR] at hs'
    obtain ⟨j, hj, hmr, t4, t5, t6, t7, t8, t11, t12, t19, t21, t23, t61, t62, t150, t151, h1, h2, h5, hY⟩ := hs'
    have lt1 := (List.getElem?_eq_some_iff.1 h1).1
    have lt2 := (List.getElem?_eq_some_iff.1 h2).1
    have lt5 := (List.getElem?_eq_some_iff.1 h5).1
    have ltn := (List.getElem?_eq_some_iff.1 hY).1
    simp -dsimp -implicitDefEqProofs [-getElem?_pos, go_sem, hP, t151]
    refine condP (fun h => ?_) (fun h => ?_)
    · have hj : j < 3 := by simp at h; omega
      have wj := wrap_in ((j : Int) + 1) (by omega)
      obtain ⟨c0, c1, c2, c3, cx⟩ := vix j hj
      have s1 := statement_pf ⟨y⟩ c0 c2 c3 (by dsimp only; omega)
      have s2 := rstatement_pf ⟨y⟩ c0 c2 c3 (by dsimp only; omega)
      have o1 := of2_pf ⟨y⟩ c0 c1 c3 (by dsimp only; omega)
      have o2 := rof_pf ⟨y⟩ c0 c1 c3 (by dsimp only; omega)
      have g1 := balances_pf ⟨y⟩ c0 c3 (by dsimp only; omega)
      have g2 := rbalances_pf ⟨y⟩ c0 c3 (by dsimp only; omega)
      have cl1 := class_pf c1
      have cl2 := rclass_pf c1
      have hbl : (balancesL y c0 c3).length ≤ 600 := by
        unfold balancesL
        split
        · exact listG_len _ _ _
        · simp
      simp only at s1 s2 o1 o2 g1 g2
      rw [cL] at s1 s2 o1 o2 g1 g2
      generalize (statementL y c0 c2 c3).1 = S at s1 s2
      generalize (statementL y c0 c2 c3).2 = e at s1 s2
      generalize ofL y c0 c1 c3 = o at o1 o2
      generalize balancesL y c0 c3 = B at g1 g2 hbl
      generalize classI c1 = c at cl1 cl2
      have iB := imm_bals B
      have eqb := listEq_pf_bals40 B B (by omega) (by omega)
      rw [decide_eq_true rfl] at eqb
      simp -dsimp -implicitDefEqProofs [-getElem?_pos, go_sem, hP, t150, t151, cx, t23, hY, ltn]
      refine callB_is (s1.lift _ _) hP en_24 (by simp [imm_sc, imm_agg, iy]) (imm_pair (imm_st S) .sc) ?_
      simp -dsimp -implicitDefEqProofs [-getElem?_pos, go_sem, hP, cSt, t23, hY, ltn]
      refine callB_is (s2.lift _ _) hP en_34 (by simp [imm_sc, imm_agg, iy]) (imm_pair (imm_st S) .sc) ?_
      simp -dsimp -implicitDefEqProofs [-getElem?_pos, go_sem, hP, cSt]
      refine adrawB (fun _ => true) [] hP (by kernel_rfl) (by kernel_rfl) ?_
      simp -dsimp -implicitDefEqProofs [-getElem?_pos, go_sem, hP, t23, hY, ltn]
      refine callB_is (o1.lift _ _) hP en_18 (by simp [imm_sc, imm_agg, iy]) .sc ?_
      simp -dsimp -implicitDefEqProofs [-getElem?_pos, go_sem, hP, t23, hY, ltn]
      refine callB_is (o2.lift _ _) hP en_66 (by simp [imm_sc, imm_agg, iy]) .sc ?_
      simp -dsimp -implicitDefEqProofs [-getElem?_pos, go_sem, hP, t23, hY, ltn]
      refine callB_is (g1.lift _ _) hP en_17 (by simp [imm_sc, imm_agg, iy]) iB ?_
      simp -dsimp -implicitDefEqProofs [-getElem?_pos, go_sem, hP, t23, hY, ltn]
      refine callB_is (g2.lift _ _) hP en_67 (by simp [imm_sc, imm_agg, iy]) iB ?_
      simp -dsimp -implicitDefEqProofs [-getElem?_pos, go_sem, hP]
      refine callB_is (eqb.lift _ _) hP en_23 (by simp [iB]) .sc ?_
      simp -dsimp -implicitDefEqProofs [-getElem?_pos, go_sem, hP]
      refine callB_pure cl1 hP en_68 (args_same (by simp -dsimp -implicitDefEqProofs [-getElem?_pos, go_sem])) .sc ?_
      simp -dsimp -implicitDefEqProofs [-getElem?_pos, go_sem, hP]
      refine callB_pure cl2 hP en_25 (args_same (by simp -dsimp -implicitDefEqProofs [-getElem?_pos, go_sem])) .sc ?_
      simp -dsimp -implicitDefEqProofs [-getElem?_pos, go_sem, hP, t151, wj]
      refine ⟨3 - (j + 1), by omega, ?_⟩
      rw [hR]
      exact ⟨j + 1, by omega, rfl, by simp -dsimp -implicitDefEqProofs [-getElem?_pos, go_sem, t4], by simp -dsimp -implicitDefEqProofs [-getElem?_pos, go_sem, t5], by simp -dsimp -implicitDefEqProofs [-getElem?_pos, go_sem, t6], by simp -dsimp -implicitDefEqProofs [-getElem?_pos, go_sem, t7], by simp -dsimp -implicitDefEqProofs [-getElem?_pos, go_sem, t8], by simp -dsimp -implicitDefEqProofs [-getElem?_pos, go_sem, t11], by simp -dsimp -implicitDefEqProofs [-getElem?_pos, go_sem, t12], by simp -dsimp -implicitDefEqProofs [-getElem?_pos, go_sem, t19], by simp -dsimp -implicitDefEqProofs [-getElem?_pos, go_sem, t21], by simp -dsimp -implicitDefEqProofs [-getElem?_pos, go_sem, t23], by simp -dsimp -implicitDefEqProofs [-getElem?_pos, go_sem, t61], by simp -dsimp -implicitDefEqProofs [-getElem?_pos, go_sem, t62], by simp -dsimp -implicitDefEqProofs [-getElem?_pos, go_sem, t150], by simp -dsimp -implicitDefEqProofs [-getElem?_pos, go_sem], by simp -dsimp -implicitDefEqProofs [-getElem?_pos, go_sem, lt1, h1], by simp -dsimp -implicitDefEqProofs [-getElem?_pos, go_sem, lt2, h2], by simp -dsimp -implicitDefEqProofs [-getElem?_pos, go_sem, lt5, h5], by simp -dsimp -implicitDefEqProofs [-getElem?_pos, go_sem, ltn, hY]⟩
    simp -dsimp -implicitDefEqProofs [-getElem?_pos, go_sem, hP, t62, wk]
    refine ⟨3 - (k + 1), by omega, ?_⟩
    rw [hJ]
    exact ⟨k + 1, by omega, rfl, by simp -dsimp -implicitDefEqProofs [-getElem?_pos, go_sem, t4], by simp -dsimp -implicitDefEqProofs [-getElem?_pos, go_sem, t5], by simp -dsimp -implicitDefEqProofs [-getElem?_pos, go_sem, t6], by simp -dsimp -implicitDefEqProofs [-getElem?_pos, go_sem, t7], by simp -dsimp -implicitDefEqProofs [-getElem?_pos, go_sem, t8], by simp -dsimp -implicitDefEqProofs [-getElem?_pos, go_sem, t11], by simp -dsimp -implicitDefEqProofs [-getElem?_pos, go_sem, t12], by simp -dsimp -implicitDefEqProofs [-getElem?_pos, go_sem, t19], by simp -dsimp -implicitDefEqProofs [-getElem?_pos, go_sem, t21], by simp -dsimp -implicitDefEqProofs [-getElem?_pos, go_sem, t61], by simp -dsimp -implicitDefEqProofs [-getElem?_pos, go_sem], by simp -dsimp -implicitDefEqProofs [-getElem?_pos, go_sem, lt1, h1], by simp -dsimp -implicitDefEqProofs [-getElem?_pos, go_sem, lt2, h2], by simp -dsimp -implicitDefEqProofs [-getElem?_pos, go_sem, lt5, h5]⟩
  have bt := bentacc_pf p src own (by omega) (by omega)
  rw [cA] at bt
  rw [cA] at h2 h5
  clear hJ
  simp -dsimp -implicitDefEqProofs [-getElem?_pos, go_sem, hP]
  refine adrawB (fun _ => true) [] hP (by kernel_rfl) (by kernel_rfl) ?_
  simp -dsimp -implicitDefEqProofs [-getElem?_pos, go_sem, hP, t19, t21, h5, lt5]
  refine callB_isQ (up bt) hP en_69 (by simp [go_sem, imm_subs, imm_ents]) ⟨_, ⟨own, rfl, by omega, by omega⟩, imm_acc own⟩ ?_
  rintro r ⟨bb, rfl, hb1, hb2⟩ _
  simp -dsimp -implicitDefEqProofs [-getElem?_pos, go_sem, hP, t12, h2, lt2, cA, t21, h5, lt5]
  obtain ⟨A9, hA9⟩ : ∃ A9 : AV, A9 = .agg [iv own.Credit, subsL own.Subs, entsL own.Entries, iv bb.Credit, subsL bb.Subs, entsL bb.Entries, iv acc.Credit, subsL acc.Subs, entsL acc.Entries] := ⟨_, rfl⟩
  obtain ⟨Q, hQ⟩ : ∃ I : Nat → St → Prop, I = fun m s => ∃ k : Nat, k ≤ 3 ∧ m = 3 - k ∧ s.t 4 = iv entity ∧ s.t 8 = iv first ∧ s.t 19 = sp p ∧ s.t 235 = A9 ∧ s.t 236 = iv k := ⟨_, rfl⟩
  refine aloop0 Q (3) (by rw [hN]; rfl) ?_ ?_
  · rw [hQ]
    exact ⟨0, by omega, by omega, by simp -dsimp -implicitDefEqProofs [-getElem?_pos, go_sem, t4], by simp -dsimp -implicitDefEqProofs [-getElem?_pos, go_sem, t8], by simp -dsimp -implicitDefEqProofs [-getElem?_pos, go_sem, t19], by simp -dsimp -implicitDefEqProofs [-getElem?_pos, go_sem, hA9], by simp -dsimp -implicitDefEqProofs [-getElem?_pos, go_sem]⟩
  clear t4 t5 t6 t7 t8 t11 t12 t19 t21 t61 t62 h1 h2 h5 lt1 lt2 lt5 hk hm
  intro m s hs'
  rw [hQ] at hs'
  obtain ⟨k, hk, hm, t4, t8, t19, t235, t236⟩ := hs'
  simp -dsimp -implicitDefEqProofs [-getElem?_pos, go_sem, hP, t236]
  refine condP (fun h => ?_) (fun h => ?_)
  rotate_left
  · simp -dsimp -implicitDefEqProofs [-getElem?_pos, go_sem, hP]
    refine saneB ?_
    simp -dsimp -implicitDefEqProofs [-getElem?_pos, go_sem, hP]
  have hk : k < 3 := by simp at h; omega
  have wk := wrap_in ((k : Int) + 1) (by omega)
  obtain ⟨a, ha1, ha2, hix⟩ : ∃ a : TAccount, a.Subs.length ≤ 25 ∧ a.Entries.length ≤ 25 ∧ aixV Try.prog 108 A9 (iv k) = some (.agg [iv a.Credit, subsL a.Subs, entsL a.Entries]) := by
    rw [hA9]
    rcases three hk with rfl | rfl | rfl
    · exact ⟨own, by omega, by omega, by kernel_rfl⟩
    · exact ⟨bb, by omega, by omega, by kernel_rfl⟩
    · exact ⟨acc, by omega, by omega, by kernel_rfl⟩
  have iac : Imm (.agg [iv a.Credit, subsL a.Subs, entsL a.Entries]) := imm_acc a
  obtain ⟨n, hn⟩ : ∃ n, n = s.H.length := ⟨_, rfl⟩
  simp -dsimp -implicitDefEqProofs [-getElem?_pos, go_sem, hP, t235, t236, hix, t4, t8, t19]
  refine callB_flat (up (range_pf p src 0 4 (by omega) (by omega))) hP en_61 (args_same (by simp -dsimp -implicitDefEqProofs [-getElem?_pos, go_sem])) ⟨iv 1, 1, rfl, by omega, by omega⟩ (by rintro r ⟨m, rfl, _⟩; exact .sc) ?_
  rintro r ⟨m1, rfl, _⟩
  simp -dsimp -implicitDefEqProofs [-getElem?_pos, go_sem, hP, t19]
  refine callB_flat (up (pick_pf p src [0, 1, 5, 999600, 1000000] (by simp))) hP en_42 (args_same (by simp -dsimp -implicitDefEqProofs [-getElem?_pos, go_sem, intsL])) ⟨iv 0, 0, rfl, by simp⟩ (by rintro r ⟨m, rfl, _⟩; exact .sc) ?_
  rintro r ⟨m2, rfl, _⟩
  obtain ⟨V, hV⟩ : ∃ V : AV, V = .agg [iv entity, iv first, iv m1, iv m2] := ⟨_, rfl⟩
  have vix : ∀ j : Nat, j < 2 → ∃ c0 c1 : Int, aixV Try.prog 109 V (iv j) = some (.agg [iv c0, iv c1]) := fun j hj => by
    rw [hV]
    have : j = 0 ∨ j = 1 := by omega
    rcases this with rfl | rfl
    · exact ⟨entity, first, by kernel_rfl⟩
    · exact ⟨m1, m2, by kernel_rfl⟩
  simp -dsimp -implicitDefEqProofs [-getElem?_pos, go_sem, hP]
  obtain ⟨T, hT⟩ : ∃ I : Nat → St → Prop, I = fun m s => ∃ j : Nat, j ≤ 2 ∧ m = 2 - j ∧ s.t 4 = iv entity ∧ s.t 8 = iv first ∧ s.t 19 = sp p ∧ s.t 37 = .ref n 0 0 ∧ s.t 235 = A9 ∧ s.t 236 = iv k ∧ s.t 248 = V ∧ s.t 249 = iv j ∧ s.H[n]? = some (some ⟨90, 3, [[iv a.Credit, subsL a.Subs, entsL a.Entries]]⟩) := ⟨_, rfl⟩
  refine aloop0 T (2) (by rw [hN]; rfl) ?_ ?_
  · rw [hT]
    exact ⟨0, by omega, by omega, by simp -dsimp -implicitDefEqProofs [-getElem?_pos, go_sem, t4], by simp -dsimp -implicitDefEqProofs [-getElem?_pos, go_sem, t8], by simp -dsimp -implicitDefEqProofs [-getElem?_pos, go_sem, t19], by simp -dsimp -implicitDefEqProofs [-getElem?_pos, go_sem, hn], by simp -dsimp -implicitDefEqProofs [-getElem?_pos, go_sem, t235], by simp -dsimp -implicitDefEqProofs [-getElem?_pos, go_sem, t236], by simp -dsimp -implicitDefEqProofs [-getElem?_pos, go_sem, hV], by simp -dsimp -implicitDefEqProofs [-getElem?_pos, go_sem], by simp -dsimp -implicitDefEqProofs [-getElem?_pos, go_sem, hn]⟩
  clear t4 t8 t19 t235 t236 hn hV h
  intro m s hs'
  rw [hT] at hs'
  obtain ⟨j, hj, hmt, t4, t8, t19, t37, t235, t236, t248, t249, hY⟩ := hs'
  have ltn := (List.getElem?_eq_some_iff.1 hY).1
  simp -dsimp -implicitDefEqProofs [-getElem?_pos, go_sem, hP, t249]
  refine condP (fun h => ?_) (fun h => ?_)
  · have hj : j < 2 := by simp at h; omega
    have wj := wrap_in ((j : Int) + 1) (by omega)
    obtain ⟨c0, c1, cx⟩ := vix j hj
    have q1 := entries_pf a c0 c1 (by omega) (by omega)
    have q2 := rentries_pf a c0 c1 (by omega) (by omega)
    have ql := entriesL_len a c0 c1
    generalize entriesL a c0 c1 = L at q1 q2 ql
    have iL := imm_posts L
    have eq := listEq_pf_posts40 L L (by omega) (by omega)
    rw [decide_eq_true rfl] at eq
    rw [cA] at q1 q2
    simp -dsimp -implicitDefEqProofs [-getElem?_pos, go_sem, hP, t248, t249, cx]
    refine adrawB (fun _ => true) [] hP (by kernel_rfl) (by kernel_rfl) ?_
    simp -dsimp -implicitDefEqProofs [-getElem?_pos, go_sem, hP, t37, hY, ltn]
    refine callB_is (q1.lift _ _) hP en_55 (by simp [imm_sc]; exact iac) iL ?_
    simp -dsimp -implicitDefEqProofs [-getElem?_pos, go_sem, hP, t37, hY, ltn]
    refine callB_is (q2.lift _ _) hP en_70 (by simp [imm_sc]; exact iac) iL ?_
    simp -dsimp -implicitDefEqProofs [-getElem?_pos, go_sem, hP]
    refine callB_is (eq.lift _ _) hP en_65 (by simp [iL]) .sc ?_
    simp -dsimp -implicitDefEqProofs [-getElem?_pos, go_sem, hP, t249, wj]
    refine ⟨2 - (j + 1), by omega, ?_⟩
    rw [hT]
    exact ⟨j + 1, by omega, rfl, by simp -dsimp -implicitDefEqProofs [-getElem?_pos, go_sem, t4], by simp -dsimp -implicitDefEqProofs [-getElem?_pos, go_sem, t8], by simp -dsimp -implicitDefEqProofs [-getElem?_pos, go_sem, t19], by simp -dsimp -implicitDefEqProofs [-getElem?_pos, go_sem, t37], by simp -dsimp -implicitDefEqProofs [-getElem?_pos, go_sem, t235], by simp -dsimp -implicitDefEqProofs [-getElem?_pos, go_sem, t236], by simp -dsimp -implicitDefEqProofs [-getElem?_pos, go_sem, t248], by simp -dsimp -implicitDefEqProofs [-getElem?_pos, go_sem], by simp -dsimp -implicitDefEqProofs [-getElem?_pos, go_sem, ltn, hY]⟩
  · simp -dsimp -implicitDefEqProofs [-getElem?_pos, go_sem, hP, t236, wk]
    refine ⟨3 - (k + 1), by omega, ?_⟩
    rw [hQ]
    exact ⟨k + 1, by omega, rfl, by simp -dsimp -implicitDefEqProofs [-getElem?_pos, go_sem, t4], by simp -dsimp -implicitDefEqProofs [-getElem?_pos, go_sem, t8], by simp -dsimp -implicitDefEqProofs [-getElem?_pos, go_sem, t19], by simp -dsimp -implicitDefEqProofs [-getElem?_pos, go_sem, t235], by simp -dsimp -implicitDefEqProofs [-getElem?_pos, go_sem]⟩
end Go.Proofs.Ytellcfkpfccgaaa
