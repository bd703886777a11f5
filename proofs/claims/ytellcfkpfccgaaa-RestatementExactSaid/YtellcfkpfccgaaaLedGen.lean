/- Ledgers that the source makes; the chapter's example. -/
import Derived.Test.YtellcfkpfccgaaaPlayAll
import Derived.Test.YtellcfkpfccgaaaLed9
set_option linter.unusedSimpArgs false
set_option linter.unusedVariables false
namespace Go.Proofs.Ytellcfkpfccgaaa
open Go.PA
open Go.RowKit

/-- A posting that the source makes. -/
structure GenPost (number day ents : Int) (q : TPosting) : Prop where
  num : q.Number = number
  day : q.Day = day
  ent : 1 ≤ q.Entity ∧ q.Entity ≤ ents
  deb : 100 ≤ q.Debit ∧ q.Debit ≤ 599
  cre : 100 ≤ q.Credit ∧ q.Credit ≤ 599
  ne : q.Debit ≠ q.Credit
  amt : 1 ≤ q.Amount ∧ q.Amount ≤ 1000
  par : 0 ≤ q.Partner ∧ q.Partner ≤ ents
  pne : q.Partner ≠ q.Entity
  ref : 0 ≤ q.Ref ∧ q.Ref ≤ 3
theorem GenPost.ok {number day ents : Int} {q : TPosting} (h : GenPost number day ents q) (h1 : 1 ≤ number ∧ number ≤ 1000000) (h2 : 0 ≤ day ∧ day ≤ 36000) (h3 : ents ≤ 10) : PostOk q :=
  ⟨h.num ▸ h1, h.day ▸ h2, by have := h.ent; omega, h.deb, h.cre, h.ne, by have := h.amt; omega, by have := h.par; omega, h.pne, by have := h.ref; omega⟩

theorem imm_post (q : TPosting) : Imm (.agg q.cells) := imm_agg.2 q.imm
theorem imm_prp (p : TPosting) : Imm (.agg [iv p.Number, iv p.Day, iv p.Entity, iv p.Debit, iv p.Credit, iv p.Amount, iv p.Partner, iv p.Ref]) := imm_post p
theorem genp_ex (number day ents : Int) (h : 1 ≤ ents) : ∃ r, (∃ q : TPosting, r = AV.agg q.cells ∧ GenPost number day ents q) ∧ Imm r :=
  ⟨_, ⟨⟨number, day, 1, 110, 111, 1, 0, 0⟩, rfl, ⟨rfl, rfl, ⟨by dsimp only; omega, h⟩, by simp, by simp, by simp, by simp, ⟨by dsimp only; omega, by dsimp only; omega⟩, by simp, by simp⟩⟩, imm_post _⟩

set_option maxHeartbeats 2000000 in
theorem gposting_pf (p : Nat) (src : Option Nat) (number day : Int) (ents : Nat) (he : 1 ≤ ents ∧ ents ≤ 1000) : PFun Try.prog (some p) src 19 [sp p, iv number, iv day, iv ents] (fun x => ∃ q : TPosting, x = .agg q.cells ∧ GenPost number day ents q) := by
  refine pfun_intro Try.func19 rfl (by simp [Try.f19]) (by kernel_rfl) ?_
  intro E hP hr hs hW hN
  have up : ∀ {f : FuncId} {args : List AV} {Q : AV → Prop}, PFun Try.prog (some p) src f args Q → PFun Try.prog E.row E.src f args Q := fun h => hr ▸ hs ▸ h
  simp -dsimp -implicitDefEqProofs [-getElem?_pos, go_sem, hP]
  refine callB_flat (up (range_pf p src 1 ents (by omega) (by omega))) hP en_61 (args_same (by simp -dsimp -implicitDefEqProofs [-getElem?_pos, go_sem])) ⟨iv 1, 1, rfl, fun _ => ⟨by omega, by omega⟩, fun _ => by omega⟩ (by rintro r ⟨m, rfl, _⟩; exact .sc) ?_
  rintro r ⟨e, rfl, hE, _⟩
  have hE := hE (by omega)
  simp -dsimp -implicitDefEqProofs [-getElem?_pos, go_sem, hP]
  refine callB_flat (up (pick_pf p src [110, 120, 210, 300, 410, 510, 520] (by simp))) hP en_42 (by simp [go_sem, intsL]) ⟨iv 110, 110, rfl, by simp⟩ (by rintro r ⟨m, rfl, _⟩; exact .sc) ?_
  rintro r ⟨d, rfl, hd⟩
  simp -dsimp -implicitDefEqProofs [-getElem?_pos, go_sem, hP]
  refine callB_flat (up (pick_pf p src [111, 119, 220, 310, 420, 530] (by simp))) hP en_42 (by simp [go_sem, intsL]) ⟨iv 111, 111, rfl, by simp⟩ (by rintro r ⟨m, rfl, _⟩; exact .sc) ?_
  rintro r ⟨c, rfl, hc⟩
  simp -dsimp -implicitDefEqProofs [-getElem?_pos, go_sem, hP]
  refine callB_flat (up (pick_pf p src [1, 20, 100, 1000] (by simp))) hP en_42 (by simp [go_sem, intsL]) ⟨iv 1, 1, rfl, by simp⟩ (by rintro r ⟨m, rfl, _⟩; exact .sc) ?_
  rintro r ⟨a, rfl, ha⟩
  simp -dsimp -implicitDefEqProofs [-getElem?_pos, go_sem, hP]
  refine callB_flat (up (N_pf p src 4 (by omega))) hP en_35 (args_same (by simp -dsimp -implicitDefEqProofs [-getElem?_pos, go_sem])) (NQ_ex _) (NQ_flat _) ?_
  rintro r ⟨rf, rfl, _, hrf⟩
  have hrf := hrf (by omega)
  have hd1 : (100 ≤ d ∧ d ≤ 599) := by simp at hd; omega
  have hc1 : (100 ≤ c ∧ c ≤ 599) := by simp at hc; omega
  have hdc : d ≠ c := by simp at hd hc; omega
  have ha1 : 1 ≤ a ∧ a ≤ 1000 := by simp at ha; omega
  clear hd hc ha
  by_cases c1 : 1 < ents
  rotate_left
  · have d1 : decide ((1 : Int) < (ents : Int)) = false := decide_eq_false (by omega)
    simp -dsimp -implicitDefEqProofs [-getElem?_pos, go_sem, hP, c1, d1]
    exact done_imm (imm_post ⟨number, day, e, d, c, a, 0, rf⟩) ⟨⟨number, day, e, d, c, a, 0, rf⟩, rfl, rfl, rfl, hE, hd1, hc1, hdc, ha1, ⟨by simp, by simp⟩, by simp; omega, ⟨by simp; omega, by simp; omega⟩⟩
  have d1 : decide ((1 : Int) < (ents : Int)) = true := decide_eq_true (by omega)
  simp -dsimp -implicitDefEqProofs [-getElem?_pos, go_sem, hP, c1, d1]
  refine callB_flat (up (N_pf p src 2 (by omega))) hP en_35 (args_same (by simp -dsimp -implicitDefEqProofs [-getElem?_pos, go_sem])) (NQ_ex _) (NQ_flat _) ?_
  rintro r ⟨z, rfl, _, hz⟩
  by_cases c2 : z = 1
  rotate_left
  · simp -dsimp -implicitDefEqProofs [-getElem?_pos, go_sem, hP, c2]
    exact done_imm (imm_post ⟨number, day, e, d, c, a, 0, rf⟩) ⟨⟨number, day, e, d, c, a, 0, rf⟩, rfl, rfl, rfl, hE, hd1, hc1, hdc, ha1, ⟨by simp, by simp⟩, by simp; omega, ⟨by simp; omega, by simp; omega⟩⟩
  have ne0 : ¬ (ents : Int) = 0 := by omega
  have ne0' : ¬ ents = 0 := by omega
  obtain ⟨pr, hpr⟩ : ∃ pr, pr = e.tmod (ents : Int) + 1 := ⟨_, rfl⟩
  have hp1 : 0 ≤ pr ∧ pr ≤ ents ∧ pr ≠ e := by
    rw [Int.tmod_eq_emod_of_nonneg (by omega)] at hpr
    have h1 := Int.emod_nonneg e ne0
    have h2 := Int.emod_lt_of_pos e (show (0 : Int) < ents by omega)
    refine ⟨by omega, by omega, ?_⟩
    by_cases h : e = ents
    · subst h
      rw [Int.emod_self] at hpr
      omega
    · rw [Int.emod_eq_of_lt (by omega) (by omega)] at hpr
      omega
  have wp : IntKind.i64.wrap (e.tmod (ents : Int) + 1) = pr := by rw [hpr]; exact wrap_in _ (by omega)
  simp -dsimp -implicitDefEqProofs [-getElem?_pos, go_sem, hP, c2, ne0, ne0', wp]
  refine callB_flat (up (N_pf p src 4 (by omega))) hP en_35 (args_same (by simp -dsimp -implicitDefEqProofs [-getElem?_pos, go_sem])) (NQ_ex _) (NQ_flat _) ?_
  rintro r ⟨v, rfl, _, hv⟩
  have fin : ∀ d c : Int, (100 ≤ d ∧ d ≤ 599) → (100 ≤ c ∧ c ≤ 599) → d ≠ c → (∃ q : TPosting, AV.agg [iv number, iv day, iv e, iv d, iv c, iv a, iv pr, iv rf] = AV.agg q.cells ∧ GenPost number day ents q) := fun d c h1 h2 h3 =>
    ⟨⟨number, day, e, d, c, a, pr, rf⟩, rfl, rfl, rfl, hE, h1, h2, h3, ha1, ⟨hp1.1, hp1.2.1⟩, hp1.2.2, ⟨by dsimp only; omega, by dsimp only; omega⟩⟩
  by_cases v0 : v = 0
  · simp -dsimp -implicitDefEqProofs [-getElem?_pos, go_sem, hP, v0]
    exact done_imm (imm_post ⟨number, day, e, 140, 440, a, pr, rf⟩) (fin 140 440 (by omega) (by omega) (by omega))
  by_cases v1 : v = 1
  · simp -dsimp -implicitDefEqProofs [-getElem?_pos, go_sem, hP, v1]
    exact done_imm (imm_post ⟨number, day, e, 540, 240, a, pr, rf⟩) (fin 540 240 (by omega) (by omega) (by omega))
  by_cases v2 : v = 2
  · simp -dsimp -implicitDefEqProofs [-getElem?_pos, go_sem, hP, v2]
    exact done_imm (imm_post ⟨number, day, e, 240, 110, a, pr, rf⟩) (fin 240 110 (by omega) (by omega) (by omega))
  · simp -dsimp -implicitDefEqProofs [-getElem?_pos, go_sem, hP, v0, v1, v2]
    exact done_imm (imm_post ⟨number, day, e, 110, 140, a, pr, rf⟩) (fin 110 140 (by omega) (by omega) (by omega))

/-! ### Ledgers -/

theorem seqFrom_snoc (q : TPosting) : ∀ (l : List TPosting) (k : Nat) (d : Int), seqFrom k d (l ++ [q]) = (seqFrom k d l && (decide (q.Number = ((k + l.length : Nat) : Int) + 1) && decide ((l.getLast?.map (·.Day)).getD d ≤ q.Day)))
  | [], k, d => by simp [seqFrom]; rfl
  | p :: l, k, d => by
    have ih := seqFrom_snoc q l (k + 1) p.Day
    have e1 : (((p :: l).getLast?.map (·.Day)).getD d) = (l.getLast?.map (·.Day)).getD p.Day := by
      cases l with
      | nil => rfl
      | cons b l =>
        rw [List.getLast?_cons_cons]
        rw [List.getLast?_eq_some_getLast (by simp)]
        rfl
    rw [List.cons_append, seqFrom, ih, seqFrom, e1, List.length_cons, show k + 1 + l.length = k + (l.length + 1) from by omega]
    simp only [Bool.and_assoc]
theorem postL_ok {l : List TPosting} {q : TPosting} (h : (postL l q).2 = 0) : checkL l = 0 ∧ PostOk q ∧ q.Number = (l.length : Int) + 1 ∧ lastD l ≤ q.Day ∧ l.length < 400 ∧ (postL l q).1 = l ++ [q] ∧ checkL (l ++ [q]) = 0 := by
  unfold postL at h ⊢
  by_cases c1 : checkL l = 0
  rotate_left
  · rw [if_neg c1] at h; exact absurd h c1
  rw [if_pos c1] at h ⊢
  split at h
  · cases h
  rename_i c2
  split at h
  · cases h
  rename_i c3
  split at h
  · cases h
  rename_i c4
  split at h
  · cases h
  rename_i c5
  rw [if_neg c2, if_neg c3, if_neg c4, if_neg c5]
  obtain ⟨k1, k2, k3⟩ := checkL_ok c1
  have hq : PostOk q := (postB_iff q).1 (by simpa using c2)
  have c4' : q.Number = (l.length : Int) + 1 := by omega
  refine ⟨c1, hq, c4', by omega, by omega, rfl, ?_⟩
  have hl : (l ++ [q]).length = l.length + 1 := by simp
  rw [checkL, if_neg (by omega), if_neg, if_pos]
  · rw [seqFrom_snoc, k3, Bool.true_and, decide_eq_true (by rw [c4']; simp), Bool.true_and]
    exact decide_eq_true (by have : lastD l ≤ q.Day := by omega
                             exact this)
  · intro h
    obtain ⟨p, hp, hb⟩ := List.any_eq_true.1 h
    rcases List.mem_append.1 hp with hp | hp
    · rw [(postB_iff p).2 (k2 p hp)] at hb; cases hb
    · simp at hp; subst hp
      rw [(postB_iff p).2 hq] at hb; cases hb
theorem postL_good {l : List TPosting} {q : TPosting} (h : checkL l = 0) (hq : PostOk q) (hn : q.Number = (l.length : Int) + 1) (hd : lastD l ≤ q.Day) (hl : l.length < 400) : postL l q = (l ++ [q], 0) := by
  rw [postL, if_pos h, if_neg (by rw [(postB_iff q).2 hq]; simp), if_neg (by omega), if_neg (by omega), if_neg (by omega)]

/-- A ledger that the source makes. -/
structure GenL (most ents : Nat) (days : Int) (l : List TPosting) : Prop where
  ok : checkL l = 0
  len : l.length ≤ most
  all : ∀ p, p ∈ l → p.Entity ≤ ents ∧ p.Day ≤ days ∧ p.Amount ≤ 1000 ∧ p.Partner ≤ ents
theorem GenL.mono {n m ents : Nat} {days : Int} {l : List TPosting} (h : GenL n ents days l) (hm : n ≤ m) : GenL m ents days l := ⟨h.ok, Nat.le_trans h.len hm, h.all⟩
theorem GenL.nil (ents : Nat) (days : Int) : GenL 0 ents days [] := ⟨rfl, Nat.le_refl _, by simp⟩
theorem GenL.post {n ents : Nat} {days number day : Int} {l : List TPosting} {q : TPosting} (h : GenL n ents days l) (hq : GenPost number day ents q) (hd : day ≤ days) (hp : (postL l q).2 = 0) : GenL (n + 1) ents days (postL l q).1 := by
  obtain ⟨_, _, _, _, _, h1, h2⟩ := postL_ok hp
  rw [h1]
  refine ⟨h2, by rw [List.length_append, List.length_singleton]; have := h.len; omega, fun p hp => ?_⟩
  rcases List.mem_append.1 hp with hp | hp
  · exact h.all p hp
  · simp at hp; subst hp
    exact ⟨hq.ent.2, by rw [hq.day]; exact hd, hq.amt.2, hq.par.2⟩
theorem GenL.small {n ents : Nat} {days : Int} {l : List TPosting} (h : GenL n ents days l) : l.length ≤ 400 := (checkL_ok h.ok).1
theorem genl_ex (n ents : Nat) (days : Int) : ∃ r, (∃ l : List TPosting, r = AV.agg (TLedger.mk l).cells ∧ GenL n ents days l) ∧ Imm r := ⟨_, ⟨[], rfl, (GenL.nil ents days).mono (by omega)⟩, imm_led _⟩

set_option maxHeartbeats 2000000 in
theorem gledger_pf (p : Nat) (src : Option Nat) (most ents days : Nat) (hm : most ≤ 100) (he : 1 ≤ ents ∧ ents ≤ 10) (hd : days ≤ 36000) : PFun Try.prog (some p) src 16 [sp p, iv most, iv ents, iv days] (fun x => ∃ l : List TPosting, x = .agg (TLedger.mk l).cells ∧ GenL most ents days l) := by
  refine pfun_intro Try.func16 rfl (by simp [Try.f16]) (by kernel_rfl) ?_
  intro E hP hr hs hW hN
  have up : ∀ {f : FuncId} {args : List AV} {Q : AV → Prop}, PFun Try.prog (some p) src f args Q → PFun Try.prog E.row E.src f args Q := fun h => hr ▸ hs ▸ h
  have w1 := wrap_in ((most : Int) + 1) (by omega)
  have w2 : IntKind.i64.wrap ((days : Int) / 4) = ((days / 4 : Nat) : Int) := by rw [wrap_in _ (by omega)]; omega
  obtain ⟨q4, hq4⟩ : ∃ q4, q4 = days / 4 := ⟨_, rfl⟩
  rw [← hq4] at w2
  have w3 := wrap_in ((q4 : Int) + 2) (by omega)
  simp -dsimp -implicitDefEqProofs [-getElem?_pos, go_sem, hP, w1]
  refine callB_flat (up (N_pf p src (most + 1) (by omega))) hP en_35 (args_same (by simp -dsimp -implicitDefEqProofs [-getElem?_pos, go_sem, w1])) (NQ_ex _) (NQ_flat _) ?_
  rintro r ⟨m, rfl, _, hm1⟩
  have hm1 := hm1 (by omega)
  obtain ⟨m, rfl⟩ := Int.eq_ofNat_of_zero_le hm1.1
  simp -dsimp -implicitDefEqProofs [-getElem?_pos, go_sem, hP]
  refine aloop_nilcell 1 28 8 (by simp -dsimp -implicitDefEqProofs [-getElem?_pos, go_sem]) ?_
  simp -dsimp -implicitDefEqProofs [-getElem?_pos, go_sem, hP]
  obtain ⟨I, hI⟩ : ∃ I : Nat → St → Prop, I = fun m s => ∃ (k d : Nat) (l : List TPosting), k + m ≤ most ∧ d ≤ days ∧ GenL k ents days l ∧ s.t 0 = sp p ∧ s.t 2 = iv ents ∧ s.t 3 = iv days ∧ s.t 8 = .ref 0 0 0 ∧ s.t 9 = .ref 1 0 0 ∧ s.t 10 = iv d ∧ s.t 11 = iv m ∧ s.H[0]? = some (some ⟨28, 1, [[.nil]]⟩) ∧ s.H[1]? = some (some ⟨28, 1, [[postsL l]]⟩) := ⟨_, rfl⟩
  refine aloop0 I (m) (by rw [hN]; rfl) ?_ ?_
  · rw [hI]
    exact ⟨0, 0, [], by omega, by omega, GenL.nil _ _, by simp -dsimp -implicitDefEqProofs [-getElem?_pos, go_sem], by simp -dsimp -implicitDefEqProofs [-getElem?_pos, go_sem], by simp -dsimp -implicitDefEqProofs [-getElem?_pos, go_sem], by simp -dsimp -implicitDefEqProofs [-getElem?_pos, go_sem], by simp -dsimp -implicitDefEqProofs [-getElem?_pos, go_sem], by simp -dsimp -implicitDefEqProofs [-getElem?_pos, go_sem], by simp -dsimp -implicitDefEqProofs [-getElem?_pos, go_sem], by simp -dsimp -implicitDefEqProofs [-getElem?_pos, go_sem], by simp -dsimp -implicitDefEqProofs [-getElem?_pos, go_sem]⟩
  clear hm1
  intro m s hs'
  rw [hI] at hs'
  obtain ⟨k, d, l, hk, hdd, hg, t0, t2, t3, t8, t9, t10, t11, h0, h1⟩ := hs'
  have lt0 := (List.getElem?_eq_some_iff.1 h0).1
  have lt1 := (List.getElem?_eq_some_iff.1 h1).1
  simp -dsimp -implicitDefEqProofs [-getElem?_pos, go_sem, hP, t11]
  refine condP (fun h => ?_) (fun h => ?_)
  · have hm0 : 0 < m := by simpa using h
    simp -dsimp -implicitDefEqProofs [-getElem?_pos, go_sem, hP, t0, t3, t10, w2, w3]
    refine callB_flat (up (N_pf p src (q4 + 2) (by omega))) hP en_35 (args_same (by simp -dsimp -implicitDefEqProofs [-getElem?_pos, go_sem])) (NQ_ex _) (NQ_flat _) ?_
    rintro r ⟨x, rfl, _, hx⟩
    have hx := hx (by omega)
    have wd := wrap_in ((d : Int) + x) (by omega)
    obtain ⟨d', hd'⟩ : ∃ d' : Nat, min ((d : Int) + x) (days : Int) = (d' : Int) := ⟨(min ((d : Int) + x) (days : Int)).toNat, by omega⟩
    have hd2 : d' ≤ days := by omega
    have hsm := hg.small
    have wl := wrap_in ((l.length : Int) + 1) (by omega)
    have wm := wrap_in ((m : Int) - 1) (by omega)
    simp -dsimp -implicitDefEqProofs [-getElem?_pos, go_sem, hP, wd, t3, hd', amin, aminFrom]
    refine adrawQ (fun i => decide (i < 2)) [14] [8, 9] hP (by kernel_rfl) (by kernel_rfl) ?_
    simp -dsimp -implicitDefEqProofs [-getElem?_pos, go_sem, hP, t0, t2, t9, h1, lt1, wl, restr_get]
    refine callQ_isQ (up (gposting_pf p src ((l.length : Int) + 1) d' ents (by omega))) hP en_19 (by simp [imm_sc]) (genp_ex _ _ _ (by omega)) ?_
    rintro r ⟨q, rfl, hq⟩ _
    have po := rpost_pf ⟨l⟩ q (by dsimp only; omega)
    obtain ⟨b, hb⟩ : ∃ b, b = (postL l q).1 := ⟨_, rfl⟩
    obtain ⟨err, herr⟩ : ∃ err, err = (postL l q).2 := ⟨_, rfl⟩
    simp only [← hb, ← herr] at po
    rw [cL, cL, cP] at po
    have il : Imm (postsL l) := imm_posts l
    have ib : Imm (.agg [postsL b]) := imm_led ⟨b⟩
    have iq : Imm (.agg [iv q.Number, iv q.Day, iv q.Entity, iv q.Debit, iv q.Credit, iv q.Amount, iv q.Partner, iv q.Ref]) := imm_post q
    simp -dsimp -implicitDefEqProofs [-getElem?_pos, go_sem, hP, cP]
    refine callQ_is (po.lift _ _) hP en_62 (by simp [il, iq, imm_agg]) (imm_pair ib .sc) ?_
    simp -dsimp -implicitDefEqProofs [-getElem?_pos, go_sem, hP]
    by_cases c1 : err = 0
    · have gb : GenL (k + 1) ents days b := hb ▸ hg.post hq (by omega) (herr ▸ c1)
      simp -dsimp -implicitDefEqProofs [-getElem?_pos, go_sem, hP, c1, t9, lt1, h1, t11, wm]
      refine ⟨agree_push (by omega), m - 1, by omega, ?_⟩
      rw [hI]
      refine ⟨k + 1, d', b, by omega, by omega, gb, by simp -dsimp -implicitDefEqProofs [-getElem?_pos, go_sem, t0], by simp -dsimp -implicitDefEqProofs [-getElem?_pos, go_sem, t2], by simp -dsimp -implicitDefEqProofs [-getElem?_pos, go_sem, t3], by simp -dsimp -implicitDefEqProofs [-getElem?_pos, go_sem, t8], by simp -dsimp -implicitDefEqProofs [-getElem?_pos, go_sem, t9], by simp -dsimp -implicitDefEqProofs [-getElem?_pos, go_sem], ?_, by simp -dsimp -implicitDefEqProofs [-getElem?_pos, go_sem, lt0, h0], by simp -dsimp -implicitDefEqProofs [-getElem?_pos, go_sem, lt1]⟩
      simp -dsimp -implicitDefEqProofs [-getElem?_pos, go_sem]
      omega
    · simp -dsimp -implicitDefEqProofs [-getElem?_pos, go_sem, hP, c1, t11, wm]
      refine ⟨agree_push (by omega), m - 1, by omega, ?_⟩
      rw [hI]
      refine ⟨k + 1, d', l, by omega, by omega, hg.mono (by omega), by simp -dsimp -implicitDefEqProofs [-getElem?_pos, go_sem, t0], by simp -dsimp -implicitDefEqProofs [-getElem?_pos, go_sem, t2], by simp -dsimp -implicitDefEqProofs [-getElem?_pos, go_sem, t3], by simp -dsimp -implicitDefEqProofs [-getElem?_pos, go_sem, t8], by simp -dsimp -implicitDefEqProofs [-getElem?_pos, go_sem, t9], by simp -dsimp -implicitDefEqProofs [-getElem?_pos, go_sem], ?_, by simp -dsimp -implicitDefEqProofs [-getElem?_pos, go_sem, lt0, h0], by simp -dsimp -implicitDefEqProofs [-getElem?_pos, go_sem, lt1, h1]⟩
      simp -dsimp -implicitDefEqProofs [-getElem?_pos, go_sem]
      omega
  · have hm0 : m = 0 := by simpa using h
    simp -dsimp -implicitDefEqProofs [-getElem?_pos, go_sem, hP, t9, h1, t8, h0, lt0, lt1]
    exact done_imm (imm_led ⟨l⟩) ⟨l, rfl, hg.mono (by omega)⟩

end Go.Proofs.Ytellcfkpfccgaaa
