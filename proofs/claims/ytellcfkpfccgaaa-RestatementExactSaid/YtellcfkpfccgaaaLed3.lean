/- Ledgers: the program's Check, Post, Turn. -/
import Derived.Test.YtellcfkpfccgaaaLed2
import Derived.Test.YtellcfkpfccgaaaPaC
set_option linter.unusedSimpArgs false
set_option linter.unusedVariables false
namespace Go.Proofs.Ytellcfkpfccgaaa
open Go.PA
open Go.RowKit

/-- Numbers that count on, days that do not fall. -/
def seqFrom : Nat → Int → List TPosting → Bool
  | _, _, [] => true
  | k, d, p :: l => decide (p.Number = (k : Int) + 1) && (decide (d ≤ p.Day) && seqFrom (k + 1) p.Day l)
def checkL (l : List TPosting) : Int := if 400 < l.length then 3 else if l.any (fun p => !postB p) = true then 85 else if seqFrom 0 0 l = true then 0 else 86
def lastD (l : List TPosting) : Int := (l.getLast?.map (·.Day)).getD 0

theorem checkL_ok {l : List TPosting} (h : checkL l = 0) : l.length ≤ 400 ∧ (∀ p, p ∈ l → PostOk p) ∧ seqFrom 0 0 l = true := by
  unfold checkL at h
  split at h
  · cases h
  split at h
  · cases h
  split at h
  · rename_i h1 h2 h3
    refine ⟨by omega, fun p hp => (postB_iff p).1 ?_, h3⟩
    cases hb : postB p with
    | true => rfl
    | false => exact absurd (List.any_eq_true.2 ⟨p, hp, by simp [hb]⟩) h2
  · cases h
theorem checkL_fine {l : List TPosting} (h : checkL l = 0) : FineL l := ⟨fun p hp => ((checkL_ok h).2.1 p hp).fine, by have := (checkL_ok h).1; omega⟩

theorem prev_day {l : List TPosting} {k : Nat} {p : TPosting} (hp : l[k]? = some p) : ∀ (j : Nat) (x : TPosting), k + 1 = j + 1 → l[j]? = some x → p.Day = x.Day := fun j x h hx => by
  have : j = k := by omega
  subst this
  rw [hp] at hx
  rw [Option.some.inj hx]
abbrev cL (l : TLedger) : l.cells = [postsL l.Postings] := rfl
theorem imm_led (l : TLedger) : Imm (.agg l.cells) := imm_agg.2 l.imm

set_option maxHeartbeats 1000000 in
theorem lcheck_pf (l : TLedger) (hl : l.Postings.length ≤ 100000) : PFun Try.prog none none 56 [.agg l.cells] (· = iv (checkL l.Postings)) := by
  refine pfun_intro Try.func56 rfl (by simp [Try.f56]) (by kernel_rfl) ?_
  intro E hP hr hs hW hN
  obtain ⟨l⟩ := l
  simp only at hl
  have ip := imm_posts l
  simp -dsimp -implicitDefEqProofs [-getElem?_pos, go_sem, hP, cL]
  refine condP (fun h => ?_) (fun h => ?_)
  · have h' : 400 < l.length := by simp at h; omega
    have : checkL l = 3 := if_pos h'
    simp -dsimp -implicitDefEqProofs [-getElem?_pos, go_sem, hP, this]
  have h0 : ¬ 400 < l.length := by simp at h; omega
  simp -dsimp -implicitDefEqProofs [-getElem?_pos, go_sem, hP]
  refine callB_is ((contains_pf_posting l 100 [] (fun p => !postB p) (by omega) en_100 (by simp) fun p _ => badp_pf p).lift _ _) hP en_99 (by simp [ip, imm_fn]) .sc ?_
  by_cases h1 : l.any (fun p => !postB p) = true
  · have : checkL l = 85 := by rw [checkL, if_neg h0, if_pos h1]
    simp -dsimp -implicitDefEqProofs [-getElem?_pos, go_sem, hP, h1, this]
  have h1' : (l.any fun p => !postB p) = false := by simpa using h1
  have hv : ∀ p, p ∈ l → PostOk p := fun p hp => (postB_iff p).1 (by have := List.any_eq_false.1 h1' p hp; simpa using this)
  have tc : checkL l = if seqFrom 0 0 l = true then 0 else 86 := by rw [checkL, if_neg h0, if_neg h1]
  simp -dsimp -implicitDefEqProofs [-getElem?_pos, go_sem, hP, h1']
  obtain ⟨I, hI⟩ : ∃ I : Nat → St → Prop, I = fun m s => ∃ (k : Nat) (d : Int), k ≤ l.length ∧ m = l.length - k ∧ seqFrom 0 0 l = seqFrom k d (l.drop k) ∧ (k = 0 → d = 0) ∧ (∀ j x, k = j + 1 → l[j]? = some x → d = x.Day) ∧ s.t 1 = .ref 0 0 0 ∧ s.t 15 = postsL l ∧ s.t 16 = iv l.length ∧ s.t 17 = iv k ∧ s.H[0]? = some (some ⟨28, 1, [[postsL l]]⟩) := ⟨_, rfl⟩
  refine aloop0 I (l.length) (by rw [hN]; rfl) ?_ ?_
  · rw [hI]
    exact ⟨0, 0, by omega, by omega, by simp, by simp, by omega, by simp -dsimp -implicitDefEqProofs [-getElem?_pos, go_sem], by simp -dsimp -implicitDefEqProofs [-getElem?_pos, go_sem], by simp -dsimp -implicitDefEqProofs [-getElem?_pos, go_sem], by simp -dsimp -implicitDefEqProofs [-getElem?_pos, go_sem], by simp -dsimp -implicitDefEqProofs [-getElem?_pos, go_sem]⟩
  intro m s hs'
  rw [hI] at hs'
  obtain ⟨k, d, hk, hm, hq, hd0, hd1, t1, t15, t16, t17, hH⟩ := hs'
  have hlt := (List.getElem?_eq_some_iff.1 hH).1
  simp -dsimp -implicitDefEqProofs [-getElem?_pos, go_sem, hP, t16, t17]
  refine condP (fun h => ?_) (fun h => ?_)
  · have hk : k < l.length := by simpa using h
    obtain ⟨p, hp⟩ : ∃ p, l[k]? = some p := ⟨_, List.getElem?_eq_getElem hk⟩
    have hpo := hv p (List.mem_of_getElem? hp)
    have wk := wrap_in ((k : Int) + 1) (by omega)
    have hdr : l.drop k = p :: l.drop (k + 1) := by
      rw [List.getElem?_eq_getElem hk] at hp
      rw [List.drop_eq_getElem_cons hk, Option.some.inj hp]
    rw [hdr, seqFrom] at hq
    have nx : IntKind.i64.wrap ((k : Int) + 1) = ((k + 1 : Nat) : Int) := by rw [wk]; omega
    have g0 : ∀ x : Option AObj, (s.H ++ [x])[0]? = some (some ⟨28, 1, [[postsL l]]⟩) := fun x => by rw [List.getElem?_append_left hlt]; exact hH
    simp -dsimp -implicitDefEqProofs [-getElem?_pos, go_sem, hP, t17, t15, hp, cP]
    refine adrawB (fun _ => true) [] hP (by kernel_rfl) (by kernel_rfl) ?_
    by_cases c1 : p.Number = (k : Int) + 1
    · have d1 : decide (p.Number = (k : Int) + 1) = true := decide_eq_true c1
      rcases Nat.eq_zero_or_pos k with k0 | k0
      · have hdd : d ≤ p.Day := by rw [hd0 k0]; exact hpo.day.1
        rw [d1, decide_eq_true hdd, Bool.true_and, Bool.true_and] at hq
        have k0' : ¬ 0 < k := by omega
        have hjk : decide ((0 : Int) < (k : Int)) = false := decide_eq_false (by omega)
        simp -dsimp -implicitDefEqProofs [-getElem?_pos, go_sem, hP, wk, d1, t1, t17, k0', hjk]
        refine ⟨l.length - (k + 1), by omega, ?_⟩
        rw [hI]
        exact ⟨k + 1, p.Day, by omega, rfl, hq, by omega, prev_day hp, by simp -dsimp -implicitDefEqProofs [-getElem?_pos, go_sem, t1], by simp -dsimp -implicitDefEqProofs [-getElem?_pos, go_sem, t15], by simp -dsimp -implicitDefEqProofs [-getElem?_pos, go_sem, t16], by simp -dsimp -implicitDefEqProofs [-getElem?_pos, go_sem], by simp -dsimp -implicitDefEqProofs [-getElem?_pos, go_sem, g0]⟩
      · obtain ⟨j, hj⟩ : ∃ j, k = j + 1 := ⟨k - 1, by omega⟩
        obtain ⟨x, hx⟩ : ∃ x, l[j]? = some x := ⟨_, List.getElem?_eq_getElem (by omega)⟩
        have hdx := hd1 j x hj hx
        have hjk : decide ((0 : Int) < (k : Int)) = true := decide_eq_true (by omega)
        have wj : IntKind.i64.wrap ((k : Int) - 1) = (j : Int) := by rw [wrap_in _ (by omega)]; omega
        have s1 := g0 (some ⟨37, 8, [[iv p.Number, iv p.Day, iv p.Entity, iv p.Debit, iv p.Credit, iv p.Amount, iv p.Partner, iv p.Ref]]⟩)
        rw [hdx, d1, Bool.true_and] at hq
        by_cases c2 : x.Day ≤ p.Day
        · have d2 : decide (p.Day < x.Day) = false := decide_eq_false (by omega)
          rw [decide_eq_true c2, Bool.true_and] at hq
          simp -dsimp -implicitDefEqProofs [-getElem?_pos, go_sem, hP, wk, d1, t1, t17, k0, hjk, wj, s1, hx, cP, d2]
          refine ⟨l.length - (k + 1), by omega, ?_⟩
          rw [hI]
          exact ⟨k + 1, p.Day, by omega, rfl, hq, by omega, prev_day hp, by simp -dsimp -implicitDefEqProofs [-getElem?_pos, go_sem, t1], by simp -dsimp -implicitDefEqProofs [-getElem?_pos, go_sem, t15], by simp -dsimp -implicitDefEqProofs [-getElem?_pos, go_sem, t16], by simp -dsimp -implicitDefEqProofs [-getElem?_pos, go_sem], by simp -dsimp -implicitDefEqProofs [-getElem?_pos, go_sem, g0]⟩
        · have d2 : decide (p.Day < x.Day) = true := decide_eq_true (by omega)
          rw [decide_eq_false c2, Bool.false_and] at hq
          have : checkL l = 86 := by rw [tc, hq]; rfl
          simp -dsimp -implicitDefEqProofs [-getElem?_pos, go_sem, hP, wk, d1, t1, k0, hjk, wj, s1, hx, cP, d2, this]
    · have d1 : decide (p.Number = (k : Int) + 1) = false := decide_eq_false c1
      rw [d1, Bool.false_and] at hq
      have : checkL l = 86 := by rw [tc, hq]; rfl
      simp -dsimp -implicitDefEqProofs [-getElem?_pos, go_sem, hP, wk, d1, this]
  · have hk : k = l.length := by simp at h; omega
    subst hk
    rw [List.drop_length, seqFrom] at hq
    have : checkL l = 0 := by rw [tc, hq]; rfl
    simp -dsimp -implicitDefEqProofs [-getElem?_pos, go_sem, hP, this]

theorem lastD_nil : lastD [] = 0 := rfl
theorem lastD_get {l : List TPosting} {k : Nat} {p : TPosting} (h : l.length = k + 1) (hp : l[k]? = some p) : lastD l = p.Day := by
  rw [lastD, List.getLast?_eq_getElem?, h]
  simp [hp]
theorem llast_pf (l : TLedger) (hl : l.Postings.length ≤ 100000) : PFun Try.prog none none 74 [.agg l.cells] (· = iv (lastD l.Postings)) := by
  refine pfun_intro Try.func74 rfl (by simp [Try.f74]) (by kernel_rfl) ?_
  intro E hP hr hs hW hN
  obtain ⟨l⟩ := l
  simp only at hl
  by_cases h0 : l.length = 0
  · have : l = [] := List.eq_nil_of_length_eq_zero h0
    subst this
    simp -dsimp -implicitDefEqProofs [-getElem?_pos, go_sem, hP, cL, lastD_nil]
  · obtain ⟨k, hk⟩ : ∃ k, l.length = k + 1 := ⟨l.length - 1, by omega⟩
    obtain ⟨p, hp⟩ : ∃ p, l[k]? = some p := ⟨_, List.getElem?_eq_getElem (by omega)⟩
    have d0 : decide ((0 : Int) < (k : Int) + 1) = true := by simp
    have d1 : (0 : Int) < (k : Int) + 1 := by omega
    have wk := wrap_in ((k : Int) + 1 - 1) (by omega)
    rw [Int.add_sub_cancel] at wk
    have := lastD_get hk hp
    simp -dsimp -implicitDefEqProofs [-getElem?_pos, go_sem, hP, cL, hk, d0, d1, Int.add_sub_cancel, wk, hp, cP, this]

abbrev zeroL : TLedger := ⟨[]⟩
/-- A posting behind a ledger. -/
def postL (l : List TPosting) (p : TPosting) : List TPosting × Int :=
  if checkL l = 0 then
    if postB p = false then ([], 85) else if l.length = 400 then ([], 3) else if ¬ p.Number = (l.length : Int) + 1 then ([], 65) else if p.Day < lastD l then ([], 8) else (l ++ [p], 0)
  else ([], checkL l)

theorem done_zeroL {H : Heap} {n : Int} {Q : AV → Prop} {b : Bx Q} (h : Q (.tup [.agg zeroL.cells, iv n])) : Done H (.tup [.agg [.nil], iv n]) Q b :=
  done_agg2 (cw_nil .nil) h

set_option maxHeartbeats 1000000 in
theorem lpost_pf (l : TLedger) (p : TPosting) (hl : l.Postings.length ≤ 100000) : PFun Try.prog none none 20 [.agg l.cells, .agg p.cells] (· = .tup [.agg (TLedger.mk (postL l.Postings p).1).cells, iv (postL l.Postings p).2]) := by
  refine pfun_intro Try.func20 rfl (by simp [Try.f20]) (by kernel_rfl) ?_
  intro E hP hr hs hW hN
  have ck := lcheck_pf l hl
  have la := llast_pf l hl
  have po := posting_pf p
  obtain ⟨l⟩ := l
  simp only at hl ck la
  rw [cL] at ck la
  rw [cP] at po
  have ip := imm_posts l
  have ipp : Imm (.agg [iv p.Number, iv p.Day, iv p.Entity, iv p.Debit, iv p.Credit, iv p.Amount, iv p.Partner, iv p.Ref]) := imm_agg.2 p.imm
  simp -dsimp -implicitDefEqProofs [-getElem?_pos, go_sem, hP, cL, cP]
  refine callB_is (ck.lift _ _) hP en_56 (by simp [ip, imm_agg]) .sc ?_
  by_cases c1 : checkL l = 0
  rotate_left
  · have : postL l p = ([], checkL l) := by rw [postL, if_neg c1]
    simp -dsimp -implicitDefEqProofs [-getElem?_pos, go_sem, hP, c1]
    refine done_zeroL ?_
    rw [this]
  obtain ⟨k1, k2, k3⟩ := checkL_ok c1
  simp -dsimp -implicitDefEqProofs [-getElem?_pos, go_sem, hP, c1]
  refine callB_is (po.lift _ _) hP en_63 (by simp [ipp]) .sc ?_
  cases c2 : postB p
  · have : postL l p = ([], 85) := by rw [postL, if_pos c1, if_pos c2]
    simp -dsimp -implicitDefEqProofs [-getElem?_pos, go_sem, hP, c2]
    refine done_zeroL ?_
    rw [this]
  have c2' : ¬ postB p = false := by simp [c2]
  by_cases c3 : l.length = 400
  · have : postL l p = ([], 3) := by rw [postL, if_pos c1, if_neg c2', if_pos c3]
    simp -dsimp -implicitDefEqProofs [-getElem?_pos, go_sem, hP, c2, c3]
    refine done_zeroL ?_
    rw [this]
  have d3 : decide ((l.length : Int) = 400) = false := by simp; omega
  have wk := wrap_in ((l.length : Int) + 1) (by omega)
  by_cases c4 : p.Number = (l.length : Int) + 1
  rotate_left
  · have : postL l p = ([], 65) := by rw [postL, if_pos c1, if_neg c2', if_neg c3, if_pos c4]
    have d4 : decide (p.Number = (l.length : Int) + 1) = false := decide_eq_false c4
    simp -dsimp -implicitDefEqProofs [-getElem?_pos, go_sem, hP, c2, d3, wk, d4]
    refine done_zeroL ?_
    rw [this]
  have d4 : decide (p.Number = (l.length : Int) + 1) = true := decide_eq_true c4
  simp -dsimp -implicitDefEqProofs [-getElem?_pos, go_sem, hP, c2, d3, wk, d4]
  refine adrawB (fun _ => true) [] hP (by kernel_rfl) (by kernel_rfl) ?_
  simp -dsimp -implicitDefEqProofs [-getElem?_pos, go_sem, hP]
  refine callB_is (la.lift _ _) hP en_74 (by simp [ip, imm_agg]) .sc ?_
  by_cases c5 : p.Day < lastD l
  · have : postL l p = ([], 8) := by rw [postL, if_pos c1, if_neg c2', if_neg c3, if_neg (by simp [c4]), if_pos c5]
    have d5 : decide (p.Day < lastD l) = true := decide_eq_true c5
    simp -dsimp -implicitDefEqProofs [-getElem?_pos, go_sem, hP, d5]
    refine done_zeroL ?_
    rw [this]
  have pA : postL l p = (l ++ [p], 0) := by rw [postL, if_pos c1, if_neg c2', if_neg c3, if_neg (by simp [c4]), if_neg c5]
  have d5 : decide (p.Day < lastD l) = false := decide_eq_false c5
  simp -dsimp -implicitDefEqProofs [-getElem?_pos, go_sem, hP, d5]
  refine adrawB (fun i => decide (i < 2)) [7] hP (by kernel_rfl) (by kernel_rfl) ?_
  simp -dsimp -implicitDefEqProofs [-getElem?_pos, go_sem, hP]
  obtain ⟨H2, hH2⟩ : ∃ H2 : Heap, H2 = [some ⟨28, 1, [[postsL l]]⟩, some ⟨37, 8, [[iv p.Number, iv p.Day, iv p.Entity, iv p.Debit, iv p.Credit, iv p.Amount, iv p.Partner, iv p.Ref]]⟩, some ⟨28, 1, [[.nil]]⟩] := ⟨_, rfl⟩
  have b0 : H2[0]? = some (some ⟨28, 1, [[postsL l]]⟩) := by rw [hH2]; rfl
  have b1 : H2[1]? = some (some ⟨37, 8, [[iv p.Number, iv p.Day, iv p.Entity, iv p.Debit, iv p.Credit, iv p.Amount, iv p.Partner, iv p.Ref]]⟩) := by rw [hH2]; rfl
  have b2 : H2[2]? = some (some ⟨28, 1, [[.nil]]⟩) := by rw [hH2]; rfl
  simp only [← hH2]
  refine callB_m (by rw [hr, hs]; exact clone_m_posting l H2 (by omega)) hP en_75 ?_
  rintro r H3 ⟨id, rfl, hid, ho3, hk3⟩
  have l2 : H2.length = 3 := by rw [hH2]; rfl
  have e0 := hk3 _ _ (by simp) b0
  have e1 := hk3 _ _ (by simp) b1
  have e2 := hk3 _ _ (by simp) b2
  have n1 := (List.getElem?_eq_some_iff.1 e1).1
  have n2 := (List.getElem?_eq_some_iff.1 e2).1
  have n3 := (List.getElem?_eq_some_iff.1 ho3).1
  have ne2 : ¬ id = 2 := by omega
  simp -dsimp -implicitDefEqProofs [-getElem?_pos, go_sem, hP, e1, n1, ho3, n3, e2, n2, ne2]
  have en : encL TPosting.cells l ++ [[iv p.Number, iv p.Day, iv p.Entity, iv p.Debit, iv p.Credit, iv p.Amount, iv p.Partner, iv p.Ref]] = encL TPosting.cells (l ++ [p]) := encL_snoc TPosting.cells l p
  have D : ∀ i, decide (i < 2) = true → i < H2.length ∧ i ≠ id := fun i hi => by
    simp only [decide_eq_true_eq] at hi
    omega
  refine ⟨hH2 ▸ agree_live hk3 fun i hi => ⟨by simp, ?_⟩, by omega, by omega, fun i hi => ?_, ?_⟩
  · simp only [decide_eq_true_eq] at hi
    rcases i with _ | _ | i
    · exact ⟨_, b0⟩
    · exact ⟨_, b1⟩
    · omega
  · obtain ⟨h1, h2⟩ := D i hi
    rw [List.getElem?_append_left (by simp; omega), List.getElem?_set_ne (Ne.symm h2)]
  refine done_agg2 (cs' := [postsL (l ++ [p])]) (cw_sref (ty := 37) ?_ (by simp [encL]) (imm_posts _) .nil) ?_
  · rw [List.getElem?_append_right (by simp)]
    simp [en]
  · rw [pA]
    rfl

def turnP (p : TPosting) (number day : Int) : TPosting := { p with Number := number, Day := day, Debit := p.Credit, Credit := p.Debit }
theorem turn_pf (p : TPosting) (number day : Int) : PFun Try.prog none none 22 [.agg p.cells, iv number, iv day] (· = .agg (turnP p number day).cells) := by
  refine pfun_intro Try.func22 rfl (by simp [Try.f22]) (by kernel_rfl) ?_
  intro E hP hr hs hW hN
  simp -dsimp -implicitDefEqProofs [-getElem?_pos, go_sem, hP, cP]
  exact done_imm (imm_agg.2 (turnP p number day).imm) rfl

end Go.Proofs.Ytellcfkpfccgaaa
