/- RestatementExact: the walk. -/
import Derived.Test.YtellcfkpfccgaaaResSane
import Derived.Test.YtellcfkpfccgaaaRes11
import Derived.Test.YtellcfkpfccgaaaResGenM
import Derived.Test.YtellcfkpfccgaaaResSmall
import Derived.Test.YtellcfkpfccgaaaLedBent
import Derived.Test.YtellcfkpfccgaaaPaFrz
set_option linter.unusedSimpArgs false
set_option linter.unusedVariables false
namespace Go.Proofs.Ytellcfkpfccgaaa
open Go.PA
open Go.RowKit

theorem odd44_pf (p : Nat) (src : Option Nat) : PFun Try.prog (some p) src 43 [sp p] (fun x => ∃ m : Int, x = iv m) := by
  refine pfun_intro Try.func43 rfl (by simp [Try.f43]) (by kernel_rfl) ?_
  intro E hP hr hs hW hN
  simp -dsimp -implicitDefEqProofs [-getElem?_pos, go_sem, hP]
  refine callB_flat (hr ▸ hs ▸ pick_pf p src [-1, 0, 1, 2, 9223372036854775807, -9223372036854775808, 1000000000000, 1000000000001, 1000000000000000, 1000000000000001, 36000, 36001, 35991, 1000000, 1000001, 1000, 1001, 360] (by simp)) hP en_42 (by simp [go_sem, intsL]) ⟨iv 0, 0, rfl, by simp⟩ (by rintro r ⟨m, rfl, _⟩; exact .sc) ?_
  rintro r ⟨m, rfl, _⟩
  simp -dsimp -implicitDefEqProofs [-getElem?_pos, go_sem, hP]

theorem three {k : Nat} (h : k < 3) : k = 0 ∨ k = 1 ∨ k = 2 := by omega
/-- Histories of few things. -/
structure FitN (n : Nat) (h : THistory) : Prop where
  post : h.Ledger.Postings.length ≤ n
  pres : h.Presented.length ≤ n
  corr : h.Corrections.length ≤ n
  each : ∀ c, c ∈ h.Corrections → c.Postings.length ≤ n
theorem FitN.fit {n : Nat} {h : THistory} (k : FitN n h) (hn : n ≤ 100000) : Fit h := ⟨by have := k.post; omega, by have := k.pres; omega, by have := k.corr; omega, fun c hc => by have := k.each c hc; omega⟩
theorem fitN_zero (n : Nat) : FitN n zeroH := ⟨by simp, by simp, by simp, by simp⟩
theorem fitN_new {n : Nat} {l : TLedger} (h : l.Postings.length ≤ n) : FitN n (newH l).1 := by
  unfold newH
  split
  · exact ⟨h, by simp, by simp, by simp⟩
  · exact fitN_zero n
theorem fitN_correct {n : Nat} {h : THistory} {c : TCorrection} (k : FitN n h) (hc : c.Postings.length ≤ n + 1) : FitN (n + 1) (correctH h c).1 := by
  unfold correctH
  repeat' split
  all_goals first | exact fitN_zero _ | skip
  refine ⟨by have := k.post; dsimp only; omega, by have := k.pres; dsimp only; omega, by have := k.corr; simp; omega, fun x hx => ?_⟩
  rcases List.mem_append.1 hx with hx | hx
  · have := k.each x hx; omega
  · simp at hx; subst hx; exact hc
theorem fitN_present {n : Nat} {h : THistory} {y : Int} (k : FitN n h) : FitN (n + 1) (presentH h y).1 := by
  unfold presentH
  repeat' split
  all_goals first | exact fitN_zero _ | skip
  exact ⟨by have := k.post; dsimp only; omega, by have := k.pres; simp; omega, by have := k.corr; dsimp only; omega, fun x hx => by have := k.each x hx; omega⟩
theorem fitN_gen {n : Nat} {f : Int} {h : THistory} (g : GenH n f h) : FitN 20 h := by
  refine ⟨by have := g.led.len; omega, by have := (checkH_ok g.ok).2.2.1; omega, by have := (checkH_ok g.ok).2.1; omega, fun c hc => by have := (checkH_corr g.ok c hc).len; omega⟩

set_option maxRecDepth 8000 in
set_option maxHeartbeats 8000000 in
theorem exact44_pf (xs : List Int) (raw : THistory) (c : TCorrection) (year version : Int) (hx : Small xs) (hl : xs.length ≤ 9223372036854775807) (hraw : raw.Corrections.length ≤ 9223372036854775807) :
    PFun Try.prog none none 12 [intsL xs, .agg raw.cells, .agg c.cells, iv year, iv version] (· = bv true) := by
  refine pfun_introA Try.func12 rfl (by simp [Try.f12]) ?_
  intro E hP hr hs hW hN
  have irp := imm_posts raw.Ledger.Postings
  have irq := imm_pres raw.Presented
  have irc := imm_corrs raw.Corrections
  have icp := imm_posts c.Postings
  have ir := imm_his raw
  have sm := small44_pf raw hraw
  rw [cH] at ir sm
  have saneB : ∀ {H : Heap} {C : AV → Heap → Prop} {b : Bx C}, C (bv true) H → CallB E 30 [] H C b := fun h => callB_pure sane44_pf hP en_30 (args_nil.2 trivial) .sc h
  refine awp_cut (by rw [hN]; kernel_rfl) ?_
  simp -dsimp -implicitDefEqProofs [-getElem?_pos, go_sem, hP, cH, cC]
  refine AWp.weaken (weaker_iref 6 (id := 0) (cs := [postsL raw.Ledger.Postings, presL raw.Presented, corrsL raw.Corrections]) hW (by simp -dsimp -implicitDefEqProofs [-getElem?_pos, go_sem]) (by simp -dsimp -implicitDefEqProofs [-getElem?_pos, go_sem]) (by simp [irp, irq, irc])) ?_
  refine AWp.weaken (weaker_iref 7 (id := 1) (cs := [iv c.Year, iv c.Found, postsL c.Postings]) hW (by simp -dsimp -implicitDefEqProofs [-getElem?_pos, go_sem]) (by simp -dsimp -implicitDefEqProofs [-getElem?_pos, go_sem]) (by simp [icp, imm_sc])) ?_
  refine awp_cut (by rw [hN]; kernel_rfl) ?_
  simp -dsimp -implicitDefEqProofs [-getElem?_pos, go_sem, hP]
  refine callB_is (sm.lift _ _) hP en_40 (by simpa using ir) .sc ?_
  by_cases c1 : smallH raw = true
  rotate_left
  · have c1 : smallH raw = false := by simpa using c1
    simp -dsimp -implicitDefEqProofs [-getElem?_pos, go_sem, hP, c1]
    refine saneB ?_
    simp -dsimp -implicitDefEqProofs [-getElem?_pos, go_sem, hP]
  rw [c1]
  by_cases c2 : 25 < c.Postings.length
  · have d2 : decide ((25 : Int) < c.Postings.length) = true := decide_eq_true (by omega)
    simp -dsimp -implicitDefEqProofs [-getElem?_pos, go_sem, hP, d2]
    refine saneB ?_
    simp -dsimp -implicitDefEqProofs [-getElem?_pos, go_sem, hP]
  have d2 : decide ((25 : Int) < c.Postings.length) = false := decide_eq_false (by omega)
  simp -dsimp -implicitDefEqProofs [-getElem?_pos, go_sem, hP, d2]
  refine awp_cut (by rw [hN]; kernel_rfl) ?_
  simp -dsimp -implicitDefEqProofs [-getElem?_pos, go_sem, hP]
  have hnew : POwn Try.prog E.row E.src 15 [intsL xs] 112 2 (· = [[intsL (xs.take 900), iv 0]]) := by rw [hr, hs]; exact new_pf xs hl
  refine callB_own hnew hP en_15 (args_same (by simp [go_sem, intsL])) (by simp [srefs_imm, go_sem, intsL]) ⟨_, rfl⟩ ?_
  rintro es rfl
  simp -dsimp -implicitDefEqProofs [-getElem?_pos, go_sem, hP]
  refine awp_adoptW 11 2 (ty := 112) (xs := xs.take 900) (at_ := 0) hr hs (by simp -dsimp -implicitDefEqProofs [-getElem?_pos, go_sem]) (by simp -dsimp -implicitDefEqProofs [-getElem?_pos, go_sem, intsL]) (by omega) (by simp; omega) (fun x hx' => hx x (List.mem_of_mem_take hx')) ?_
  intro E' p hP' hr' hN' hWx
  have hW' : ∀ b, ¬ E'.W b := fun b hb => by
    obtain ⟨id, o, ho⟩ := hWx b hb
    rcases id with _ | _ | _ | id <;> simp at ho
  rw [hP] at hP'
  rw [hN] at hN'
  clear hnew hP hr hs hW hN saneB hWx E
  rename Env => E
  rename E.P = _ => hP
  rename E.row = _ => hr
  rename E.N = _ => hN
  rename (∀ b, ¬ E.W b) => hW
  obtain ⟨src, hs⟩ : ∃ src, E.src = src := ⟨_, rfl⟩
  have up : ∀ {f : FuncId} {args : List AV} {Q : AV → Prop}, PFun Try.prog (some p) src f args Q → PFun Try.prog E.row E.src f args Q := fun h => hr ▸ hs ▸ h
  have saneB : ∀ {H : Heap} {C : AV → Heap → Prop} {b : Bx C}, C (bv true) H → CallB E 30 [] H C b := fun h => callB_pure sane44_pf hP en_30 (args_nil.2 trivial) .sc h
  refine awp_cut (by rw [hN]; kernel_rfl) ?_
  simp -dsimp -implicitDefEqProofs [-getElem?_pos, go_sem, hP]
  refine callB_isQ (up (made_pf p src 6 (by omega))) hP en_26 (by simp [go_sem]) (made_ex 6) ?_
  rintro r ⟨h, f0, rfl, hf0, hg⟩ _
  have fh := fitN_gen hg
  have ih := imm_his h
  have ip := imm_posts h.Ledger.Postings
  have iq := imm_pres h.Presented
  have ic := imm_corrs h.Corrections
  rw [cH] at ih
  simp -dsimp -implicitDefEqProofs [-getElem?_pos, go_sem, hP, cH]
  refine awp_cut (by rw [hN]; kernel_rfl) ?_
  simp -dsimp -implicitDefEqProofs [-getElem?_pos, go_sem, hP]
  obtain ⟨Inv1, hInv1⟩ : ∃ Inv1 : St → Prop, Inv1 = fun s => ∃ (o : THistory), FitN 30 o ∧ s.t 3 = iv year ∧ s.t 4 = iv version ∧ s.t 6 = .iref [postsL raw.Ledger.Postings, presL raw.Presented, corrsL raw.Corrections] ∧ s.t 7 = .iref [iv c.Year, iv c.Found, postsL c.Postings] ∧ s.t 11 = sp p ∧ s.t 12 = .ref 3 0 0 ∧ s.t 13 = .ref 4 0 0 ∧ s.H[3]? = some (some ⟨56, 3, [[postsL h.Ledger.Postings, presL h.Presented, corrsL h.Corrections]]⟩) ∧ s.H[4]? = some (some ⟨56, 3, [[postsL o.Ledger.Postings, presL o.Presented, corrsL o.Corrections]]⟩) := ⟨_, rfl⟩
  refine awp_join Inv1 (by rw [hN]; kernel_rfl) ?_ ?_
  · simp -dsimp -implicitDefEqProofs [-getElem?_pos, go_sem, hP]
    refine callB_flat (up (N_pf p src 4 (by omega))) hP en_35 (args_same (by simp -dsimp -implicitDefEqProofs [-getElem?_pos, go_sem])) (NQ_ex _) (NQ_flat _) ?_
    rintro r ⟨z, rfl, _, hz⟩
    have hz := hz (by omega)
    have four : z = 0 ∨ z = 1 ∨ z = 2 ∨ (¬ z = 0 ∧ ¬ z = 1 ∧ ¬ z = 2) := by omega
    rcases four with rfl | rfl | rfl | ⟨z0, z1, z2⟩
    · have bl := bentled_pf p src h.Ledger.Postings (by have := fh.post; omega)
      rw [cL] at bl
      simp -dsimp -implicitDefEqProofs [-getElem?_pos, go_sem, hP]
      refine callB_isQ (up bl) hP en_41 (by simp [imm_sc, imm_agg, ip]) (bentled_ex _) ?_
      rintro r ⟨⟨b⟩, rfl, hbl⟩ _
      have hbl : b.length ≤ h.Ledger.Postings.length + 1 := hbl
      simp -dsimp -implicitDefEqProofs [-getElem?_pos, go_sem, hP, cL]
      refine ⟨_, Weaker.refl _, ?_⟩
      rw [hInv1]
      exact ⟨⟨⟨b⟩, h.Presented, h.Corrections⟩, ⟨by have := fh.post; dsimp only; omega, by have := fh.pres; dsimp only; omega, by have := fh.corr; dsimp only; omega, fun c hc => by have := fh.each c hc; omega⟩, by simp -dsimp -implicitDefEqProofs [-getElem?_pos, go_sem], by simp -dsimp -implicitDefEqProofs [-getElem?_pos, go_sem], by simp -dsimp -implicitDefEqProofs [-getElem?_pos, go_sem], by simp -dsimp -implicitDefEqProofs [-getElem?_pos, go_sem], by simp -dsimp -implicitDefEqProofs [-getElem?_pos, go_sem], by simp -dsimp -implicitDefEqProofs [-getElem?_pos, go_sem], by simp -dsimp -implicitDefEqProofs [-getElem?_pos, go_sem], by simp -dsimp -implicitDefEqProofs [-getElem?_pos, go_sem], by simp -dsimp -implicitDefEqProofs [-getElem?_pos, go_sem]⟩
    · simp -dsimp -implicitDefEqProofs [-getElem?_pos, go_sem, hP]
      refine ⟨by have := fh.pres; omega, by have := fh.pres; omega, ?_⟩
      refine callB_flat (up (N_pf p src 4 (by omega))) hP en_35 (args_same (by simp -dsimp -implicitDefEqProofs [-getElem?_pos, go_sem])) (NQ_ex _) (NQ_flat _) ?_
      rintro r ⟨a1, rfl, _⟩
      simp -dsimp -implicitDefEqProofs [-getElem?_pos, go_sem, hP]
      refine callB_flat (up (N_pf p src 4 (by omega))) hP en_35 (args_same (by simp -dsimp -implicitDefEqProofs [-getElem?_pos, go_sem])) (NQ_ex _) (NQ_flat _) ?_
      rintro r ⟨a2, rfl, _⟩
      obtain ⟨P, hPP⟩ : ∃ P : TPresented, P = ⟨a1, a2, ⟨0, 0, 0, 0, 0⟩⟩ := ⟨_, rfl⟩
      have en : encL TPresented.cells h.Presented ++ [[iv a1, iv a2, iv 0, iv 0, iv 0, iv 0, iv 0]] = encL TPresented.cells (h.Presented ++ [P]) := by rw [hPP]; exact encL_snoc TPresented.cells h.Presented ⟨a1, a2, ⟨0, 0, 0, 0, 0⟩⟩
      simp -dsimp -implicitDefEqProofs [-getElem?_pos, go_sem, hP, en]
      refine ⟨by have := fh.pres; omega, by have := fh.pres; omega, ?_⟩
      refine ⟨_, weaker_frzcell (o := 4) (id := 6) (r := 0) (c := 1) (ty := 56) (k := 3) (es := [[postsL h.Ledger.Postings, .sref 6 0 (h.Presented.length + 1), corrsL h.Corrections]]) (e := [postsL h.Ledger.Postings, .sref 6 0 (h.Presented.length + 1), corrsL h.Corrections]) (ty' := 62) (kk := 7) (fs := encL TPresented.cells (h.Presented ++ [P])) (n := h.Presented.length + 1) hW (by simp -dsimp -implicitDefEqProofs [-getElem?_pos, go_sem]) (by omega) rfl rfl (by simp -dsimp -implicitDefEqProofs [-getElem?_pos, go_sem]) (by rw [encL_len]; simp) (imm_pres _) (by omega), ?_⟩
      rw [hInv1]
      refine ⟨⟨h.Ledger, h.Presented ++ [P], h.Corrections⟩, ⟨by have := fh.post; dsimp only; omega, by have := fh.pres; simp; omega, by have := fh.corr; dsimp only; omega, fun c hc => by have := fh.each c hc; omega⟩, by simp -dsimp -implicitDefEqProofs [-getElem?_pos, go_sem], by simp -dsimp -implicitDefEqProofs [-getElem?_pos, go_sem], by simp -dsimp -implicitDefEqProofs [-getElem?_pos, go_sem], by simp -dsimp -implicitDefEqProofs [-getElem?_pos, go_sem], by simp -dsimp -implicitDefEqProofs [-getElem?_pos, go_sem], by simp -dsimp -implicitDefEqProofs [-getElem?_pos, go_sem], by simp -dsimp -implicitDefEqProofs [-getElem?_pos, go_sem], by simp -dsimp -implicitDefEqProofs [-getElem?_pos, go_sem], by simp -dsimp -implicitDefEqProofs [-getElem?_pos, go_sem]⟩
    · simp -dsimp -implicitDefEqProofs [-getElem?_pos, go_sem, hP]
      refine ⟨by have := fh.corr; omega, by have := fh.corr; omega, ?_⟩
      refine callB_flat (up (pick_pf p src [0, 700, 1080, 2000] (by simp))) hP en_42 (args_same (by simp -dsimp -implicitDefEqProofs [-getElem?_pos, go_sem, intsL])) ⟨iv 0, 0, rfl, by simp⟩ (by rintro r ⟨m, rfl, _⟩; exact .sc) ?_
      rintro r ⟨a1, rfl, _⟩
      simp -dsimp -implicitDefEqProofs [-getElem?_pos, go_sem, hP]
      refine callB_isQ (up (gcorr_pf p src a1)) hP en_31 (by simp [go_sem]) (genc_ex _) ?_
      rintro r ⟨d, rfl, hd⟩ _
      have hdl := hd.len
      have en : encL TCorrection.cells h.Corrections ++ [[iv d.Year, iv d.Found, postsL d.Postings]] = encL TCorrection.cells (h.Corrections ++ [d]) := encL_snoc TCorrection.cells h.Corrections _
      simp -dsimp -implicitDefEqProofs [-getElem?_pos, go_sem, hP, cC, en]
      refine ⟨by have := fh.corr; omega, by have := fh.corr; omega, ?_⟩
      refine ⟨_, weaker_frzcell (o := 4) (id := 6) (r := 0) (c := 2) (ty := 56) (k := 3) (es := [[postsL h.Ledger.Postings, presL h.Presented, .sref 6 0 (h.Corrections.length + 1)]]) (e := [postsL h.Ledger.Postings, presL h.Presented, .sref 6 0 (h.Corrections.length + 1)]) (ty' := 66) (kk := 3) (fs := encL TCorrection.cells (h.Corrections ++ [d])) (n := h.Corrections.length + 1) hW (by simp -dsimp -implicitDefEqProofs [-getElem?_pos, go_sem]) (by omega) rfl rfl (by simp -dsimp -implicitDefEqProofs [-getElem?_pos, go_sem]) (by rw [encL_len]; simp) (imm_corrs _) (by omega), ?_⟩
      rw [hInv1]
      refine ⟨⟨h.Ledger, h.Presented, h.Corrections ++ [d]⟩, ⟨by have := fh.post; dsimp only; omega, by have := fh.pres; dsimp only; omega, by have := fh.corr; simp; omega, fun x hx => ?_⟩, by simp -dsimp -implicitDefEqProofs [-getElem?_pos, go_sem], by simp -dsimp -implicitDefEqProofs [-getElem?_pos, go_sem], by simp -dsimp -implicitDefEqProofs [-getElem?_pos, go_sem], by simp -dsimp -implicitDefEqProofs [-getElem?_pos, go_sem], by simp -dsimp -implicitDefEqProofs [-getElem?_pos, go_sem], by simp -dsimp -implicitDefEqProofs [-getElem?_pos, go_sem], by simp -dsimp -implicitDefEqProofs [-getElem?_pos, go_sem], by simp -dsimp -implicitDefEqProofs [-getElem?_pos, go_sem], by simp -dsimp -implicitDefEqProofs [-getElem?_pos, go_sem]⟩
      rcases List.mem_append.1 hx with hx | hx
      · have := fh.each x hx; omega
      · simp at hx; subst hx; omega
    · simp -dsimp -implicitDefEqProofs [-getElem?_pos, go_sem, hP, z0, z1, z2]
      obtain ⟨H0, hH0⟩ : ∃ H0 : Heap, H0 = [none, none, none, some ⟨56, 3, [[postsL h.Ledger.Postings, presL h.Presented, corrsL h.Corrections]]⟩, some ⟨56, 3, [[postsL h.Ledger.Postings, presL h.Presented, corrsL h.Corrections]]⟩] := ⟨_, rfl⟩
      have b3 : H0[3]? = some (some ⟨56, 3, [[postsL h.Ledger.Postings, presL h.Presented, corrsL h.Corrections]]⟩) := by rw [hH0]; rfl
      have b4 : H0[4]? = some (some ⟨56, 3, [[postsL h.Ledger.Postings, presL h.Presented, corrsL h.Corrections]]⟩) := by rw [hH0]; rfl
      have lH : H0.length = 5 := by rw [hH0]; rfl
      simp only [← hH0]
      refine callB_m (by rw [hr, hs]; exact gcorr_m p src 1200 H0) hP en_31 ?_
      rintro r H1 ⟨y, q, id, rfl, hq1, hq3, hid, ho, hk⟩
      have e3 := hk _ _ (by simp) b3
      have e4 := hk _ _ (by simp) b4
      have n3 := (List.getElem?_eq_some_iff.1 e3).1
      have n4 := (List.getElem?_eq_some_iff.1 e4).1
      have ni := (List.getElem?_eq_some_iff.1 ho).1
      obtain ⟨q0, hq0⟩ : ∃ q0, q[0]? = some q0 := ⟨_, List.getElem?_eq_getElem (by omega)⟩
      have ql : 0 < q.length := by omega
      simp -dsimp -implicitDefEqProofs [-getElem?_pos, go_sem, hP]
      refine adrawB (fun _ => true) [6] hP (by kernel_rfl) (by kernel_rfl) ?_
      simp -dsimp -implicitDefEqProofs [-getElem?_pos, go_sem, hP, ni, ho, hq0, ql]
      refine callB_flat (up (odd44_pf p src)) hP en_43 (args_same (by simp -dsimp -implicitDefEqProofs [-getElem?_pos, go_sem])) ⟨iv 0, 0, rfl⟩ (by rintro r ⟨m, rfl⟩; exact .sc) ?_
      rintro r ⟨dd, rfl⟩
      obtain ⟨Q0, hQ0⟩ : ∃ Q0 : TPosting, Q0 = { q0 with Day := dd } := ⟨_, rfl⟩
      have en0 : (encL TPosting.cells q).set 0 [iv q0.Number, iv dd, iv q0.Entity, iv q0.Debit, iv q0.Credit, iv q0.Amount, iv q0.Partner, iv q0.Ref] = encL TPosting.cells (q.set 0 Q0) := by
        rw [hQ0]; exact encL_set TPosting.cells q 0 { q0 with Day := dd }
      obtain ⟨C, hC⟩ : ∃ C : TCorrection, C = ⟨y, 1200, q.set 0 Q0⟩ := ⟨_, rfl⟩
      simp -dsimp -implicitDefEqProofs [-getElem?_pos, go_sem, hP, ni, ho, hq0, ql, cP, en0]
      have i3 : ¬ id = 3 := by omega
      have i4 : ¬ id = 4 := by omega
      obtain ⟨n, hn⟩ : ∃ n, n = H1.length := ⟨_, rfl⟩
      have nn3 : 3 < n + 1 := by omega
      have nn4 : 4 < n + 1 := by omega
      refine adrawB (fun i => decide (i < n + 1)) [5, 7] hP (by kernel_rfl) (by kernel_rfl) ?_
      have m3 : 3 < n := by omega
      have m4 : 4 < n := by omega
      simp -dsimp -implicitDefEqProofs [-getElem?_pos, go_sem, hP, restr_get, e3, e4, m3, m4, i3, i4, ← hn, nn3, nn4, Nat.lt_succ_self]
      refine ⟨by have := fh.corr; omega, by have := fh.corr; omega, fun i hi => ?_, by have := fh.corr; omega, by have := fh.corr; omega, ?_⟩
      · simp only [decide_eq_true_eq] at hi
        rw [show ∀ (A : Heap) (x y : Option AObj), A ++ [x, y] = (A ++ [x]) ++ [y] from by simp, List.getElem?_append_left (by simp [← hn]; omega)]
      have en : encL TCorrection.cells h.Corrections ++ [[iv y, iv 1200, postsL (q.set 0 Q0)]] = encL TCorrection.cells (h.Corrections ++ [C]) := by rw [hC]; exact encL_snoc TCorrection.cells h.Corrections ⟨y, 1200, q.set 0 Q0⟩
      have idn : id < n := by omega
      have es : (encL TCorrection.cells h.Corrections ++ [[iv y, iv 1200, .sref id 0 q.length]]).set h.Corrections.length ([iv y, iv 1200, .sref id 0 q.length].set 2 (.list 8 (encL TPosting.cells (q.set 0 Q0)))) = encL TCorrection.cells (h.Corrections ++ [C]) := by
        rw [← en, List.set_append_right _ _ (by rw [encL_len]; omega), encL_len, Nat.sub_self]
        rfl
      refine ⟨_, (weaker_frzcell (o := n + 2) (id := id) (r := h.Corrections.length) (c := 2) (ty := 66) (k := 3) (es := encL TCorrection.cells h.Corrections ++ [[iv y, iv 1200, .sref id 0 q.length]]) (e := [iv y, iv 1200, .sref id 0 q.length]) (ty' := 37) (kk := 8) (fs := encL TPosting.cells (q.set 0 Q0)) (n := q.length) hW ?_ (by omega) ?_ rfl ?_ (by rw [encL_len]; simp) (imm_posts _) (by omega)).trans (weaker_frzcell (o := 4) (id := n + 2) (r := 0) (c := 2) (ty := 56) (k := 3) (es := [[postsL h.Ledger.Postings, presL h.Presented, .sref (n + 2) 0 (h.Corrections.length + 1)]]) (e := [postsL h.Ledger.Postings, presL h.Presented, .sref (n + 2) 0 (h.Corrections.length + 1)]) (ty' := 66) (kk := 3) (fs := encL TCorrection.cells (h.Corrections ++ [C])) (n := h.Corrections.length + 1) hW ?_ (by omega) rfl rfl ?_ (by rw [encL_len]; simp) (imm_corrs _) (by omega)), ?_⟩
      · simp -dsimp -implicitDefEqProofs [-getElem?_pos, go_sem, ← hn]
      · rw [List.getElem?_append_right (by rw [encL_len]; omega), encL_len, Nat.sub_self]
        rfl
      · simp -dsimp -implicitDefEqProofs [-getElem?_pos, go_sem, ← hn, idn, Ne.symm i4, ni]
      · rw [es]
        simp -dsimp -implicitDefEqProofs [-getElem?_pos, go_sem, ← hn, idn, i4, ni, m4]
      · rw [es]
        simp -dsimp -implicitDefEqProofs [-getElem?_pos, go_sem, ← hn]
      rw [es, hInv1]
      refine ⟨⟨h.Ledger, h.Presented, h.Corrections ++ [C]⟩, ⟨by have := fh.post; dsimp only; omega, by have := fh.pres; dsimp only; omega, by have := fh.corr; simp; omega, fun x hx => ?_⟩, by simp -dsimp -implicitDefEqProofs [-getElem?_pos, go_sem], by simp -dsimp -implicitDefEqProofs [-getElem?_pos, go_sem], by simp -dsimp -implicitDefEqProofs [-getElem?_pos, go_sem], by simp -dsimp -implicitDefEqProofs [-getElem?_pos, go_sem], by simp -dsimp -implicitDefEqProofs [-getElem?_pos, go_sem], by simp -dsimp -implicitDefEqProofs [-getElem?_pos, go_sem], by simp -dsimp -implicitDefEqProofs [-getElem?_pos, go_sem], ?_, ?_⟩
      · rcases List.mem_append.1 hx with hx | hx
        · have := fh.each x hx; omega
        · simp at hx; subst hx; rw [hC]; simp; omega
      · simp -dsimp -implicitDefEqProofs [-getElem?_pos, go_sem, ← hn, e3, m3, m4, i3, ni, idn]
      · simp -dsimp -implicitDefEqProofs [-getElem?_pos, go_sem, ← hn, m4, ni, idn]
  · rw [hInv1]
    rintro s ⟨o, fo, t3, t4, t6, t7, t11, t12, t13, h3, h4⟩
    clear hInv1 Inv1
    have lt3 := (List.getElem?_eq_some_iff.1 h3).1
    have lt4 := (List.getElem?_eq_some_iff.1 h4).1
    refine awp_cut (by rw [hN]; kernel_rfl) ?_
    simp -dsimp -implicitDefEqProofs [-getElem?_pos, go_sem, hP, t11]
    refine callB_flat (up (pick_pf p src [0, 1079, 1080, 3000] (by simp))) hP en_42 (args_same (by simp -dsimp -implicitDefEqProofs [-getElem?_pos, go_sem, intsL])) ⟨iv 0, 0, rfl, by simp⟩ (by rintro r ⟨m, rfl, _⟩; exact .sc) ?_
    rintro r ⟨a1, rfl, _⟩
    simp -dsimp -implicitDefEqProofs [-getElem?_pos, go_sem, hP, t11]
    refine callB_isQ (up (gcorr_pf p src a1)) hP en_31 (by simp [go_sem]) (genc_ex _) ?_
    rintro r ⟨d, rfl, hd⟩ _
    have hdl := hd.len
    have id0 := imm_posts d.Postings
    obtain ⟨n15, hn15⟩ : ∃ n, n = s.H.length := ⟨_, rfl⟩
    simp -dsimp -implicitDefEqProofs [-getElem?_pos, go_sem, hP, cC]
    obtain ⟨Inv2, hInv2⟩ : ∃ Inv2 : St → Prop, Inv2 = fun s => ∃ b : TCorrection, b.Postings.length ≤ 3 ∧ s.t 3 = iv year ∧ s.t 4 = iv version ∧ s.t 6 = .iref [postsL raw.Ledger.Postings, presL raw.Presented, corrsL raw.Corrections] ∧ s.t 7 = .iref [iv c.Year, iv c.Found, postsL c.Postings] ∧ s.t 11 = sp p ∧ s.t 12 = .ref 3 0 0 ∧ s.t 13 = .ref 4 0 0 ∧ s.t 15 = .ref n15 0 0 ∧ s.H[3]? = some (some ⟨56, 3, [[postsL h.Ledger.Postings, presL h.Presented, corrsL h.Corrections]]⟩) ∧ s.H[4]? = some (some ⟨56, 3, [[postsL o.Ledger.Postings, presL o.Presented, corrsL o.Corrections]]⟩) ∧ s.H[n15]? = some (some ⟨66, 3, [[iv b.Year, iv b.Found, postsL b.Postings]]⟩) := ⟨_, rfl⟩
    refine awp_join Inv2 (by rw [hN]; kernel_rfl) ?_ ?_
    · simp -dsimp -implicitDefEqProofs [-getElem?_pos, go_sem, hP, t11]
      refine callB_flat (up (N_pf p src 3 (by omega))) hP en_35 (args_same (by simp -dsimp -implicitDefEqProofs [-getElem?_pos, go_sem])) (NQ_ex _) (NQ_flat _) ?_
      rintro r ⟨z, rfl, _⟩
      by_cases z0 : z = 0
      · simp -dsimp -implicitDefEqProofs [-getElem?_pos, go_sem, hP, z0]
        refine ⟨_, weaker_cells (id := n15) (ty := 66) (k := 3) (cs := [iv d.Year, iv d.Found, .nil]) (cs' := [iv d.Year, iv d.Found, postsL []]) (by simp -dsimp -implicitDefEqProofs [-getElem?_pos, go_sem, hn15]) (by omega) (by simp) rfl (fun j a b ha hb => ?_), ?_⟩
        · rcases j with _ | _ | _ | j <;> simp at ha hb
          · subst ha hb; exact .refl _
          · subst ha hb; exact .refl _
          · subst ha hb; exact .nil _
        rw [hInv2]
        exact ⟨⟨d.Year, d.Found, []⟩, by simp, by simp -dsimp -implicitDefEqProofs [-getElem?_pos, go_sem, t3], by simp -dsimp -implicitDefEqProofs [-getElem?_pos, go_sem, t4], by simp -dsimp -implicitDefEqProofs [-getElem?_pos, go_sem, t6], by simp -dsimp -implicitDefEqProofs [-getElem?_pos, go_sem, t7], by simp -dsimp -implicitDefEqProofs [-getElem?_pos, go_sem, t11], by simp -dsimp -implicitDefEqProofs [-getElem?_pos, go_sem, t12], by simp -dsimp -implicitDefEqProofs [-getElem?_pos, go_sem, t13], by simp -dsimp -implicitDefEqProofs [-getElem?_pos, go_sem, hn15], by simp -dsimp -implicitDefEqProofs [-getElem?_pos, go_sem, hn15, h3, lt3], by simp -dsimp -implicitDefEqProofs [-getElem?_pos, go_sem, hn15, h4, lt4], by simp -dsimp -implicitDefEqProofs [-getElem?_pos, go_sem, hn15]⟩
      · simp -dsimp -implicitDefEqProofs [-getElem?_pos, go_sem, hP, z0]
        refine ⟨_, Weaker.refl _, ?_⟩
        rw [hInv2]
        exact ⟨d, by omega, by simp -dsimp -implicitDefEqProofs [-getElem?_pos, go_sem, t3], by simp -dsimp -implicitDefEqProofs [-getElem?_pos, go_sem, t4], by simp -dsimp -implicitDefEqProofs [-getElem?_pos, go_sem, t6], by simp -dsimp -implicitDefEqProofs [-getElem?_pos, go_sem, t7], by simp -dsimp -implicitDefEqProofs [-getElem?_pos, go_sem, t11], by simp -dsimp -implicitDefEqProofs [-getElem?_pos, go_sem, t12], by simp -dsimp -implicitDefEqProofs [-getElem?_pos, go_sem, t13], by simp -dsimp -implicitDefEqProofs [-getElem?_pos, go_sem, hn15], by simp -dsimp -implicitDefEqProofs [-getElem?_pos, go_sem, hn15, h3, lt3], by simp -dsimp -implicitDefEqProofs [-getElem?_pos, go_sem, hn15, h4, lt4], by simp -dsimp -implicitDefEqProofs [-getElem?_pos, go_sem, hn15]⟩
    · rw [hInv2]
      clear hn15 t3 t4 t6 t7 t11 t12 t13 h3 h4 lt3 lt4 id0 hdl hd
      clear hInv2 Inv2
      rintro s ⟨b, hb3, t3, t4, t6, t7, t11, t12, t13, t15, h3, h4, h15⟩
      have lt3 := (List.getElem?_eq_some_iff.1 h3).1
      have lt4 := (List.getElem?_eq_some_iff.1 h4).1
      refine awp_sound _ _ _ (by rw [hN]; kernel_rfl) ?_
      simp -dsimp -implicitDefEqProofs [-getElem?_pos, go_sem, hP, t12, t13, t6, h3, h4, lt3, lt4]
      have f30 : FitN 30 h := ⟨by have := fh.post; omega, by have := fh.pres; omega, by have := fh.corr; omega, fun x hx => by have := fh.each x hx; omega⟩
      have fr : FitN 30 raw := by
        obtain ⟨k1, k2, k3, k4⟩ := (smallH_iff raw).1 c1
        exact ⟨by omega, by omega, by omega, fun x hx => by have := k1 x hx; omega⟩
      obtain ⟨A3, hA3⟩ : ∃ A3 : AV, A3 = .agg [postsL h.Ledger.Postings, presL h.Presented, corrsL h.Corrections, postsL o.Ledger.Postings, presL o.Presented, corrsL o.Corrections, postsL raw.Ledger.Postings, presL raw.Presented, corrsL raw.Corrections] := ⟨_, rfl⟩
      obtain ⟨J, hJ⟩ : ∃ I : Nat → St → Prop, I = fun m s => ∃ k : Nat, k ≤ 3 ∧ m = 3 - k ∧ s.t 3 = iv year ∧ s.t 4 = iv version ∧ s.t 7 = .iref [iv c.Year, iv c.Found, postsL c.Postings] ∧ s.t 11 = sp p ∧ s.t 15 = .ref n15 0 0 ∧ s.t 119 = A3 ∧ s.t 120 = iv k ∧ s.H[n15]? = some (some ⟨66, 3, [[iv b.Year, iv b.Found, postsL b.Postings]]⟩) := ⟨_, rfl⟩
      refine aloop0 J (3) (by rw [hN]; rfl) ?_ ?_
      · rw [hJ]
        exact ⟨0, by omega, by omega, by simp -dsimp -implicitDefEqProofs [-getElem?_pos, go_sem, t3], by simp -dsimp -implicitDefEqProofs [-getElem?_pos, go_sem, t4], by simp -dsimp -implicitDefEqProofs [-getElem?_pos, go_sem, t7], by simp -dsimp -implicitDefEqProofs [-getElem?_pos, go_sem, t11], by simp -dsimp -implicitDefEqProofs [-getElem?_pos, go_sem, t15], by simp -dsimp -implicitDefEqProofs [-getElem?_pos, go_sem, hA3], by simp -dsimp -implicitDefEqProofs [-getElem?_pos, go_sem], by simp -dsimp -implicitDefEqProofs [-getElem?_pos, go_sem, h15]⟩
      clear t3 t4 t6 t7 t11 t12 t13 t15 h3 h4 lt3 lt4 h15
      intro m s hs'
      rw [hJ] at hs'
      obtain ⟨k, hk, hm, t3, t4, t7, t11, t15, t119, t120, h15⟩ := hs'
      have lt15 := (List.getElem?_eq_some_iff.1 h15).1
      simp -dsimp -implicitDefEqProofs [-getElem?_pos, go_sem, hP, t120]
      refine condP (fun hh => ?_) (fun hh => ?_)
      rotate_left
      · simp -dsimp -implicitDefEqProofs [-getElem?_pos, go_sem, hP]
        refine saneB ?_
        simp -dsimp -implicitDefEqProofs [-getElem?_pos, go_sem, hP]
      have hk : k < 3 := by simp at hh; omega
      clear hh
      have wk := wrap_in ((k : Int) + 1) (by omega)
      obtain ⟨y, fy, hix⟩ : ∃ y : THistory, FitN 30 y ∧ aixV Try.prog 80 A3 (iv k) = some (.agg [postsL y.Ledger.Postings, presL y.Presented, corrsL y.Corrections]) := by
        rw [hA3]
        rcases three hk with rfl | rfl | rfl
        · exact ⟨h, f30, by kernel_rfl⟩
        · exact ⟨o, fo, by kernel_rfl⟩
        · exact ⟨raw, fr, by kernel_rfl⟩
      clear hA3
      have iy := imm_his y
      have iyp := imm_posts y.Ledger.Postings
      have n1 := New_pf y.Ledger (by have := fy.post; omega)
      have n2 := rNew_pf y.Ledger (by have := fy.post; omega)
      have k1 := hcheck_pf y (fy.fit (by omega))
      have k2 := hrcheck_pf y (fy.fit (by omega))
      have fN := fitN_new fy.post
      generalize (newH y.Ledger).1 = NH at n1 n2 fN
      generalize (newH y.Ledger).2 = ne at n1 n2
      have sN := same44_pf NH NH (fN.fit (by omega)) (fN.fit (by omega))
      rw [decide_eq_true rfl] at sN
      have iN := imm_his NH
      simp only [cH, cL] at n1 n2 k1 k2 sN iy
      rw [cH] at iN
      obtain ⟨n17, hn17⟩ : ∃ n, n = s.H.length := ⟨_, rfl⟩
      simp -dsimp -implicitDefEqProofs [-getElem?_pos, go_sem, hP, t119, t120, hix]
      refine callB_is (n1.lift _ _) hP en_44 (by simp [imm_agg, iyp]) (imm_pair iN .sc) ?_
      simp -dsimp -implicitDefEqProofs [-getElem?_pos, go_sem, hP]
      refine callB_is (n2.lift _ _) hP en_45 (by simp [imm_agg, iyp]) (imm_pair iN .sc) ?_
      simp -dsimp -implicitDefEqProofs [-getElem?_pos, go_sem, hP]
      refine adrawB (fun _ => true) [] hP (by kernel_rfl) (by kernel_rfl) ?_
      simp -dsimp -implicitDefEqProofs [-getElem?_pos, go_sem, hP]
      refine callB_is (k1.lift _ _) hP en_28 (by simpa using iy) .sc ?_
      simp -dsimp -implicitDefEqProofs [-getElem?_pos, go_sem, hP]
      refine callB_is (k2.lift _ _) hP en_46 (by simpa using iy) .sc ?_
      simp -dsimp -implicitDefEqProofs [-getElem?_pos, go_sem, hP]
      refine callB_is (sN.lift _ _) hP en_47 (by simpa using iN) .sc ?_
      simp -dsimp -implicitDefEqProofs [-getElem?_pos, go_sem, hP]
      refine adrawB (fun _ => true) [] hP (by kernel_rfl) (by kernel_rfl) ?_
      simp -dsimp -implicitDefEqProofs [-getElem?_pos, go_sem, hP, t7, t15, h15, lt15, t11]
      refine callB_isQ (up (gcorr_pf p src 2000)) hP en_31 (by simp [go_sem]) (genc_ex _) ?_
      rintro r ⟨d, rfl, hd⟩ _
      have hdl := hd.len
      have hcl : c.Postings.length ≤ 25 := by simp at d2; omega
      obtain ⟨C3, hC3⟩ : ∃ C3 : AV, C3 = .agg [iv c.Year, iv c.Found, postsL c.Postings, iv b.Year, iv b.Found, postsL b.Postings, iv d.Year, iv d.Found, postsL d.Postings] := ⟨_, rfl⟩
      have cix : ∀ j : Nat, j < 3 → ∃ x : TCorrection, x.Postings.length ≤ 25 ∧ aixV Try.prog 83 C3 (iv j) = some (.agg [iv x.Year, iv x.Found, postsL x.Postings]) := fun j hj => by
        rw [hC3]
        rcases three hj with rfl | rfl | rfl
        · exact ⟨c, hcl, by kernel_rfl⟩
        · exact ⟨b, by omega, by kernel_rfl⟩
        · exact ⟨d, by omega, by kernel_rfl⟩
      obtain ⟨n18, hn18⟩ : ∃ n, n = n17 + 1 := ⟨_, rfl⟩
      obtain ⟨n20, hn20⟩ : ∃ n, n = n17 + 2 := ⟨_, rfl⟩
      simp -dsimp -implicitDefEqProofs [-getElem?_pos, go_sem, hP, cC]
      obtain ⟨U, hU⟩ : ∃ I : Nat → St → Prop, I = fun m s => ∃ (j : Nat) (x18 x20 : THistory), j ≤ 3 ∧ m = 3 - j ∧ s.t 3 = iv year ∧ s.t 4 = iv version ∧ s.t 7 = .iref [iv c.Year, iv c.Found, postsL c.Postings] ∧ s.t 11 = sp p ∧ s.t 15 = .ref n15 0 0 ∧ s.t 119 = A3 ∧ s.t 120 = iv k ∧ s.H[n15]? = some (some ⟨66, 3, [[iv b.Year, iv b.Found, postsL b.Postings]]⟩) ∧ s.t 17 = .ref n17 0 0 ∧ s.t 18 = .ref n18 0 0 ∧ s.t 20 = .ref n20 0 0 ∧ s.t 155 = C3 ∧ s.t 156 = iv j ∧ s.H[n17]? = some (some ⟨56, 3, [[postsL y.Ledger.Postings, presL y.Presented, corrsL y.Corrections]]⟩) ∧ s.H[n18]? = some (some ⟨56, 3, [[postsL x18.Ledger.Postings, presL x18.Presented, corrsL x18.Corrections]]⟩) ∧ s.H[n20]? = some (some ⟨56, 3, [[postsL x20.Ledger.Postings, presL x20.Presented, corrsL x20.Corrections]]⟩) := ⟨_, rfl⟩
      refine aloop0 U (3) (by rw [hN]; rfl) ?_ ?_
      · rw [hU]
        refine ⟨0, NH, NH, by omega, by omega, by simp -dsimp -implicitDefEqProofs [-getElem?_pos, go_sem, t3], by simp -dsimp -implicitDefEqProofs [-getElem?_pos, go_sem, t4], by simp -dsimp -implicitDefEqProofs [-getElem?_pos, go_sem, t7], by simp -dsimp -implicitDefEqProofs [-getElem?_pos, go_sem, t11], by simp -dsimp -implicitDefEqProofs [-getElem?_pos, go_sem, t15], by simp -dsimp -implicitDefEqProofs [-getElem?_pos, go_sem, t119], by simp -dsimp -implicitDefEqProofs [-getElem?_pos, go_sem, t120], by simp -dsimp -implicitDefEqProofs [-getElem?_pos, go_sem, h15, lt15], by simp -dsimp -implicitDefEqProofs [-getElem?_pos, go_sem, hn17], by simp -dsimp -implicitDefEqProofs [-getElem?_pos, go_sem, hn17, hn18], by simp -dsimp -implicitDefEqProofs [-getElem?_pos, go_sem, hn17, hn20], by simp -dsimp -implicitDefEqProofs [-getElem?_pos, go_sem, hC3], by simp -dsimp -implicitDefEqProofs [-getElem?_pos, go_sem], by simp -dsimp -implicitDefEqProofs [-getElem?_pos, go_sem, hn17], by simp -dsimp -implicitDefEqProofs [-getElem?_pos, go_sem, hn17, hn18], by simp -dsimp -implicitDefEqProofs [-getElem?_pos, go_sem, hn17, hn20]⟩
      have nl15 : n15 < n17 := by omega
      clear t3 t4 t7 t11 t15 t119 t120 h15 lt15 hn17 hC3 hd hdl hcl n1 n2 fN sN iN k1 k2
      intro m s hs'
      rw [hU] at hs'
      obtain ⟨j, x18, x20, hj, hmu, t3, t4, t7, t11, t15, t119, t120, h15, t17, t18, t20, t155, t156, h17, h18, h20⟩ := hs'
      have lt15 := (List.getElem?_eq_some_iff.1 h15).1
      have lt17 := (List.getElem?_eq_some_iff.1 h17).1
      have lt18 := (List.getElem?_eq_some_iff.1 h18).1
      have lt20 := (List.getElem?_eq_some_iff.1 h20).1
      simp -dsimp -implicitDefEqProofs [-getElem?_pos, go_sem, hP, t156]
      refine condP (fun hh => ?_) (fun hh => ?_)
      · have hj : j < 3 := by simp at hh; omega
        clear hh
        have wj := wrap_in ((j : Int) + 1) (by omega)
        obtain ⟨x, xl, xx⟩ := cix j hj
        have ix := imm_corr x
        have q1 := Correct_pf y x (fy.fit (by omega)) (by omega)
        have q2 := rCorrect_pf y x (fy.fit (by omega)) (by omega)
        have fC := fitN_correct fy (c := x) (by omega)
        generalize (correctH y x).1 = CH at q1 q2 fC
        generalize (correctH y x).2 = ce at q1 q2
        have sN := same44_pf CH CH (fC.fit (by omega)) (fC.fit (by omega))
        rw [decide_eq_true rfl] at sN
        have iN := imm_his CH
        simp only [cH, cC] at q1 q2 sN ix
        rw [cH] at iN
        simp -dsimp -implicitDefEqProofs [-getElem?_pos, go_sem, hP, t155, t156, xx, t17, h17, lt17, t18, t20]
        refine callB_is (q1.lift _ _) hP en_32 (by simp [imm_agg] at iy ix ⊢; exact ⟨iy, ix⟩) (imm_pair iN .sc) ?_
        have m18 : n18 < s.H.length + 1 := by omega
        have m20 : n20 < s.H.length + 1 := by omega
        have m17 : n17 < s.H.length + 1 := by omega
        have m15 : n15 < s.H.length + 1 := by omega
        have e1 : ¬ n18 = n17 := by omega
        have e2 : ¬ n18 = n20 := by omega
        have e3 : ¬ n20 = n17 := by omega
        have e4 : ¬ n20 = n18 := by omega
        have e5 : ¬ n18 = n15 := by omega
        have e6 : ¬ n20 = n15 := by omega
        have e7 : ¬ n18 = s.H.length := by omega
        have e8 : ¬ n20 = s.H.length := by omega
        simp -dsimp -implicitDefEqProofs [-getElem?_pos, go_sem, hP, t17, h17, lt17, t18, t20, h18, lt18, h20, lt20, e1, e2, e3, e4, e7, e8]
        refine callB_is (q2.lift _ _) hP en_48 (by simp [imm_agg] at iy ix ⊢; exact ⟨iy, ix⟩) (imm_pair iN .sc) ?_
        simp -dsimp -implicitDefEqProofs [-getElem?_pos, go_sem, hP, t17, h17, lt17, t18, t20, h18, lt18, h20, lt20, e1, e2, e3, e4, e7, e8]
        refine callB_is (sN.lift _ _) hP en_47 (by simpa using iN) .sc ?_
        simp -dsimp -implicitDefEqProofs [-getElem?_pos, go_sem, hP, t156, wj]
        refine ⟨3 - (j + 1), by omega, ?_⟩
        rw [hU]
        refine ⟨j + 1, CH, CH, by omega, rfl, by simp -dsimp -implicitDefEqProofs [-getElem?_pos, go_sem, t3], by simp -dsimp -implicitDefEqProofs [-getElem?_pos, go_sem, t4], by simp -dsimp -implicitDefEqProofs [-getElem?_pos, go_sem, t7], by simp -dsimp -implicitDefEqProofs [-getElem?_pos, go_sem, t11], by simp -dsimp -implicitDefEqProofs [-getElem?_pos, go_sem, t15], by simp -dsimp -implicitDefEqProofs [-getElem?_pos, go_sem, t119], by simp -dsimp -implicitDefEqProofs [-getElem?_pos, go_sem, t120], by simp -dsimp -implicitDefEqProofs [-getElem?_pos, go_sem, h15, lt15, e5, e6], by simp -dsimp -implicitDefEqProofs [-getElem?_pos, go_sem, t17], by simp -dsimp -implicitDefEqProofs [-getElem?_pos, go_sem, t18], by simp -dsimp -implicitDefEqProofs [-getElem?_pos, go_sem, t20], by simp -dsimp -implicitDefEqProofs [-getElem?_pos, go_sem, t155], by simp -dsimp -implicitDefEqProofs [-getElem?_pos, go_sem], by simp -dsimp -implicitDefEqProofs [-getElem?_pos, go_sem, h17, lt17, e1, e3], by simp -dsimp -implicitDefEqProofs [-getElem?_pos, go_sem, lt18, e4], by simp -dsimp -implicitDefEqProofs [-getElem?_pos, go_sem, lt20, e2]⟩
      clear hU cix
      simp -dsimp -implicitDefEqProofs [-getElem?_pos, go_sem, hP, t3, t4, t11]
      refine callB_flat (up (N_pf p src 4 (by omega))) hP en_35 (args_same (by simp -dsimp -implicitDefEqProofs [-getElem?_pos, go_sem])) (NQ_ex _) (NQ_flat _) ?_
      rintro r ⟨z1, rfl, _⟩
      simp -dsimp -implicitDefEqProofs [-getElem?_pos, go_sem, hP, t11]
      refine callB_flat (up (N_pf p src 4 (by omega))) hP en_35 (args_same (by simp -dsimp -implicitDefEqProofs [-getElem?_pos, go_sem])) (NQ_ex _) (NQ_flat _) ?_
      rintro r ⟨z2, rfl, _⟩
      simp -dsimp -implicitDefEqProofs [-getElem?_pos, go_sem, hP, t11]
      refine callB_flat (up (pick_pf p src [-1, 99, 100] (by simp))) hP en_42 (args_same (by simp -dsimp -implicitDefEqProofs [-getElem?_pos, go_sem, intsL])) ⟨iv (-1), -1, rfl, by simp⟩ (by rintro r ⟨m, rfl, _⟩; exact .sc) ?_
      rintro r ⟨z3, rfl, _⟩
      obtain ⟨V, hV⟩ : ∃ V : AV, V = .agg [iv year, iv version, iv z1, iv z2, iv z3, iv 1] := ⟨_, rfl⟩
      have vix : ∀ j : Nat, j < 3 → ∃ c0 c1 : Int, aixV Try.prog 85 V (iv j) = some (.agg [iv c0, iv c1]) := fun j hj => by
        rw [hV]
        rcases three hj with rfl | rfl | rfl
        · exact ⟨year, version, by kernel_rfl⟩
        · exact ⟨z1, z2, by kernel_rfl⟩
        · exact ⟨z3, 1, by kernel_rfl⟩
      simp -dsimp -implicitDefEqProofs [-getElem?_pos, go_sem, hP]
      obtain ⟨T, hT⟩ : ∃ I : Nat → St → Prop, I = fun m s => ∃ (j : Nat), j ≤ 3 ∧ m = 3 - j ∧ s.t 3 = iv year ∧ s.t 4 = iv version ∧ s.t 7 = .iref [iv c.Year, iv c.Found, postsL c.Postings] ∧ s.t 11 = sp p ∧ s.t 15 = .ref n15 0 0 ∧ s.t 119 = A3 ∧ s.t 120 = iv k ∧ s.H[n15]? = some (some ⟨66, 3, [[iv b.Year, iv b.Found, postsL b.Postings]]⟩) ∧ s.t 17 = .ref n17 0 0 ∧ s.t 193 = V ∧ s.t 194 = iv j ∧ s.H[n17]? = some (some ⟨56, 3, [[postsL y.Ledger.Postings, presL y.Presented, corrsL y.Corrections]]⟩) := ⟨_, rfl⟩
      refine aloop0 T (3) (by rw [hN]; rfl) ?_ ?_
      · rw [hT]
        exact ⟨0, by omega, by omega, by simp -dsimp -implicitDefEqProofs [-getElem?_pos, go_sem, t3], by simp -dsimp -implicitDefEqProofs [-getElem?_pos, go_sem, t4], by simp -dsimp -implicitDefEqProofs [-getElem?_pos, go_sem, t7], by simp -dsimp -implicitDefEqProofs [-getElem?_pos, go_sem, t11], by simp -dsimp -implicitDefEqProofs [-getElem?_pos, go_sem, t15], by simp -dsimp -implicitDefEqProofs [-getElem?_pos, go_sem, t119], by simp -dsimp -implicitDefEqProofs [-getElem?_pos, go_sem, t120], by simp -dsimp -implicitDefEqProofs [-getElem?_pos, go_sem, h15, lt15], by simp -dsimp -implicitDefEqProofs [-getElem?_pos, go_sem, t17], by simp -dsimp -implicitDefEqProofs [-getElem?_pos, go_sem, hV], by simp -dsimp -implicitDefEqProofs [-getElem?_pos, go_sem], by simp -dsimp -implicitDefEqProofs [-getElem?_pos, go_sem, h17, lt17]⟩
      clear t3 t4 t7 t11 t15 t119 t120 h15 t17 t18 t20 t155 t156 h17 h18 h20 lt15 lt17 lt18 lt20 hV
      intro m s hs'
      rw [hT] at hs'
      obtain ⟨j, hj, hmt, t3, t4, t7, t11, t15, t119, t120, h15, t17, t193, t194, h17⟩ := hs'
      have lt15 := (List.getElem?_eq_some_iff.1 h15).1
      have lt17 := (List.getElem?_eq_some_iff.1 h17).1
      simp -dsimp -implicitDefEqProofs [-getElem?_pos, go_sem, hP, t194]
      refine condP (fun hh => ?_) (fun hh => ?_)
      rotate_left
      · simp -dsimp -implicitDefEqProofs [-getElem?_pos, go_sem, hP, t120, wk]
        refine ⟨3 - (k + 1), by omega, ?_⟩
        rw [hJ]
        exact ⟨k + 1, by omega, rfl, by simp -dsimp -implicitDefEqProofs [-getElem?_pos, go_sem, t3], by simp -dsimp -implicitDefEqProofs [-getElem?_pos, go_sem, t4], by simp -dsimp -implicitDefEqProofs [-getElem?_pos, go_sem, t7], by simp -dsimp -implicitDefEqProofs [-getElem?_pos, go_sem, t11], by simp -dsimp -implicitDefEqProofs [-getElem?_pos, go_sem, t15], by simp -dsimp -implicitDefEqProofs [-getElem?_pos, go_sem, t119], by simp -dsimp -implicitDefEqProofs [-getElem?_pos, go_sem], by simp -dsimp -implicitDefEqProofs [-getElem?_pos, go_sem, h15]⟩
      have hj : j < 3 := by simp at hh; omega
      clear hh
      have wj := wrap_in ((j : Int) + 1) (by omega)
      obtain ⟨c0, c1, vx⟩ := vix j hj
      have p1 := Present_pf y c0 (fy.fit (by omega))
      have p2 := rPresent_pf y c0 (fy.fit (by omega))
      have fP := fitN_present (y := c0) fy
      generalize presentH y c0 = pr at p1 p2 fP
      obtain ⟨PH, PP, pe⟩ := pr
      have r1 := Restated_pf y c0 (fy.fit (by omega))
      have r2 := rRestated_pf y c0 (fy.fit (by omega))
      generalize restatedH y c0 = rr at r1 r2
      obtain ⟨RS, re⟩ := rr
      have s1 := Shown_pf y c0 c1 (fy.fit (by omega))
      have s2 := rShown_pf y c0 c1 (fy.fit (by omega))
      generalize shownH y c0 c1 = ss at s1 s2
      obtain ⟨SS, se⟩ := ss
      have g1 := Effect_pf y c0 (fy.fit (by omega))
      have g2 := rEffect_pf y c0 (fy.fit (by omega))
      generalize effectH y c0 = gg at g1 g2
      obtain ⟨ge, gr⟩ := gg
      have x1 := Explained_pf y c0 (fy.fit (by omega))
      have x2 := rExplained_pf y c0 (fy.fit (by omega))
      generalize explainedH y c0 = ex at x1 x2
      have fP : FitN 31 PH := fP
      have sN := same44_pf PH PH (fP.fit (by omega)) (fP.fit (by omega))
      rw [decide_eq_true rfl] at sN
      have iN := imm_his PH
      simp only [cH, cPr, cSt] at p1 p2 r1 r2 s1 s2 g1 g2 x1 x2 sN
      rw [cH] at iN
      obtain ⟨n, hn⟩ : ∃ n, n = s.H.length := ⟨_, rfl⟩
      simp -dsimp -implicitDefEqProofs [-getElem?_pos, go_sem, hP, t17, t193, t194, vx, h17, lt17]
      refine callB_is (p1.lift _ _) hP en_36 (by simp [imm_sc, imm_agg] at iy ⊢; exact iy) (imm_trip iN (imm_prs PP) .sc) ?_
      simp -dsimp -implicitDefEqProofs [-getElem?_pos, go_sem, hP, t17, t193, t194, h17, lt17]
      refine callB_is (p2.lift _ _) hP en_49 (by simp [imm_sc, imm_agg] at iy ⊢; exact iy) (imm_trip iN (imm_prs PP) .sc) ?_
      simp -dsimp -implicitDefEqProofs [-getElem?_pos, go_sem, hP, t17, t193, t194, h17, lt17]
      refine callB_is (r1.lift _ _) hP en_33 (by simp [imm_sc, imm_agg] at iy ⊢; exact iy) (imm_pair (imm_st RS) .sc) ?_
      simp -dsimp -implicitDefEqProofs [-getElem?_pos, go_sem, hP, t17, t193, t194, h17, lt17]
      refine callB_is (r2.lift _ _) hP en_50 (by simp [imm_sc, imm_agg] at iy ⊢; exact iy) (imm_pair (imm_st RS) .sc) ?_
      simp -dsimp -implicitDefEqProofs [-getElem?_pos, go_sem, hP, t17, t193, t194, h17, lt17]
      refine callB_is (sN.lift _ _) hP en_47 (by simpa using iN) .sc ?_
      simp -dsimp -implicitDefEqProofs [-getElem?_pos, go_sem, hP, t17, t193, t194, h17, lt17]
      refine callB_is (s1.lift _ _) hP en_29 (by simp [imm_sc, imm_agg] at iy ⊢; exact iy) (imm_pair (imm_st SS) .sc) ?_
      simp -dsimp -implicitDefEqProofs [-getElem?_pos, go_sem, hP, t17, t193, t194, h17, lt17]
      refine callB_is (s2.lift _ _) hP en_51 (by simp [imm_sc, imm_agg] at iy ⊢; exact iy) (imm_pair (imm_st SS) .sc) ?_
      simp -dsimp -implicitDefEqProofs [-getElem?_pos, go_sem, hP, t17, t193, t194, h17, lt17]
      refine callB_is (g1.lift _ _) hP en_39 (by simp [imm_sc, imm_agg] at iy ⊢; exact iy) (imm_pair .sc .sc) ?_
      simp -dsimp -implicitDefEqProofs [-getElem?_pos, go_sem, hP, t17, t193, t194, h17, lt17]
      refine callB_is (g2.lift _ _) hP en_52 (by simp [imm_sc, imm_agg] at iy ⊢; exact iy) (imm_pair .sc .sc) ?_
      simp -dsimp -implicitDefEqProofs [-getElem?_pos, go_sem, hP, t17, t193, t194, h17, lt17]
      refine adrawB (fun _ => true) [] hP (by kernel_rfl) (by kernel_rfl) ?_
      simp -dsimp -implicitDefEqProofs [-getElem?_pos, go_sem, hP, t17, t193, t194, h17, lt17]
      refine callB_is (x1.lift _ _) hP en_37 (by simp [imm_sc, imm_agg] at iy ⊢; exact iy) .sc ?_
      simp -dsimp -implicitDefEqProofs [-getElem?_pos, go_sem, hP, t17, t193, t194, h17, lt17]
      refine callB_is (x2.lift _ _) hP en_53 (by simp [imm_sc, imm_agg] at iy ⊢; exact iy) .sc ?_
      simp -dsimp -implicitDefEqProofs [-getElem?_pos, go_sem, hP, t17, t193, t194, h17, lt17, wj]
      refine ⟨3 - (j + 1), by omega, ?_⟩
      rw [hT]
      exact ⟨j + 1, by omega, rfl, by simp -dsimp -implicitDefEqProofs [-getElem?_pos, go_sem, t3], by simp -dsimp -implicitDefEqProofs [-getElem?_pos, go_sem, t4], by simp -dsimp -implicitDefEqProofs [-getElem?_pos, go_sem, t7], by simp -dsimp -implicitDefEqProofs [-getElem?_pos, go_sem, t11], by simp -dsimp -implicitDefEqProofs [-getElem?_pos, go_sem, t15], by simp -dsimp -implicitDefEqProofs [-getElem?_pos, go_sem, t119], by simp -dsimp -implicitDefEqProofs [-getElem?_pos, go_sem, t120], by simp -dsimp -implicitDefEqProofs [-getElem?_pos, go_sem, h15, lt15], by simp -dsimp -implicitDefEqProofs [-getElem?_pos, go_sem, t17], by simp -dsimp -implicitDefEqProofs [-getElem?_pos, go_sem, t193], by simp -dsimp -implicitDefEqProofs [-getElem?_pos, go_sem], by simp -dsimp -implicitDefEqProofs [-getElem?_pos, go_sem, h17, lt17]⟩
end Go.Proofs.Ytellcfkpfccgaaa
