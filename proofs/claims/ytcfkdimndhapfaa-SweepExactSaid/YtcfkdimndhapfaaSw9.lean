/- Sweeps: the program's sweep. -/
import Derived.Test.YtcfkdimndhapfaaSw8
set_option linter.unusedSimpArgs false
set_option linter.unusedVariables false
namespace Go.Proofs.Ytcfkdimndhapfaa
open Go.PA
open Go.RowKit

set_option maxHeartbeats 1000000 in
theorem ssweep_pf (a : TAccount) (l : List TKeep) (day : Int) (hl : a.Subs.length ≤ 100000) (he : a.Entries.length ≤ 100000) (hk : l.length ≤ 1000) : PFun Try.prog none none 45 [.agg a.cells, keepsL l, iv day] (· = .tup [.agg (sweepA a l day).1.cells, iv (sweepA a l day).2]) := by
  refine pfun_intro Try.func45 rfl (by simp [Try.f45]) (by kernel_rfl) ?_
  intro E hP hr hs hW hN
  have pl := splan_pf a l day hl he hk
  rw [cA] at pl
  have ia : Imm (.agg [iv a.Credit, subsL a.Subs, entsL a.Entries]) := imm_acc a
  obtain ⟨pn, hpn⟩ : ∃ p, p = (planA a l day).1 := ⟨_, rfl⟩
  obtain ⟨pe, hpe⟩ : ∃ p, p = (planA a l day).2 := ⟨_, rfl⟩
  have tS : sweepA a l day = if pe = 0 then postAll a pn else (zeroA, pe) := by rw [sweepA, ← hpn, ← hpe]
  have hlen : pn.length ≤ 400 := by
    rw [hpn, planA]
    repeat' split
    all_goals simp
    omega
  rw [← hpn, ← hpe] at pl
  clear hpn hpe
  simp -dsimp -implicitDefEqProofs [-getElem?_pos, go_sem, hP, cA]
  refine callB_is (pl.lift _ _) hP en_42 (by simp [ia, imm_keeps, imm_sc]) (imm_pair (imm_ents _) .sc) ?_
  by_cases c1 : pe = 0
  rotate_left
  · rw [if_neg c1] at tS
    simp -dsimp -implicitDefEqProofs [-getElem?_pos, go_sem, hP, c1]
    refine done_zeroA ?_
    rw [tS]
  rw [if_pos c1] at tS
  have cs := clone_pf_sub a.Subs (by omega)
  have ce := clone_pf_entry a.Entries (by omega)
  simp -dsimp -implicitDefEqProofs [-getElem?_pos, go_sem, hP, c1]
  refine adrawQ (fun i => decide (i = 0)) [10] [4, 7] hP (by kernel_rfl) (by kernel_rfl) ?_
  simp -dsimp -implicitDefEqProofs [-getElem?_pos, go_sem, hP]
  refine callQ_is (cs.lift _ _) hP en_72 (by simp [imm_subs]) (imm_subs _) ?_
  simp -dsimp -implicitDefEqProofs [-getElem?_pos, go_sem, hP]
  refine callQ_is (ce.lift _ _) hP en_60 (by simp [imm_ents]) (imm_ents _) ?_
  simp -dsimp -implicitDefEqProofs [-getElem?_pos, go_sem, hP]
  refine ⟨agree_1, ?_⟩
  obtain ⟨I, hI⟩ : ∃ I : Nat → St → Prop, I = fun m s => ∃ (k : Nat) (b : TAccount), k ≤ pn.length ∧ m = pn.length - k ∧ sweepA a l day = postAll b (pn.drop k) ∧ b.Subs.length ≤ 100000 ∧ b.Entries.length ≤ 100000 ∧ s.t 10 = .ref 2 0 0 ∧ s.t 6 = .ref 1 0 0 ∧ s.t 33 = entsL pn ∧ s.t 34 = iv pn.length ∧ s.t 35 = iv k ∧ s.H[2]? = some (some ⟨28, 3, [b.cells]⟩) ∧ s.H[1]? = some (some ⟨28, 3, [[iv 0, .nil, .nil]]⟩) := ⟨_, rfl⟩
  refine aloop0 I (pn.length) (by rw [hN]; rfl) ?_ ?_
  · rw [hI]
    exact ⟨0, a, by omega, by omega, by simpa using tS, hl, he, by simp -dsimp -implicitDefEqProofs [-getElem?_pos, go_sem], by simp -dsimp -implicitDefEqProofs [-getElem?_pos, go_sem], by simp -dsimp -implicitDefEqProofs [-getElem?_pos, go_sem], by simp -dsimp -implicitDefEqProofs [-getElem?_pos, go_sem], by simp -dsimp -implicitDefEqProofs [-getElem?_pos, go_sem], by simp -dsimp -implicitDefEqProofs [-getElem?_pos, go_sem, cA], by simp -dsimp -implicitDefEqProofs [-getElem?_pos, go_sem]⟩
  intro m s hs'
  rw [hI] at hs'
  obtain ⟨k, b, hk, hm, hps, bl, be, t10, t6, t33, t34, t35, hA, hR⟩ := hs'
  have lt0 := (List.getElem?_eq_some_iff.1 hA).1
  have lt1 := (List.getElem?_eq_some_iff.1 hR).1
  have ib : Imm (.agg [iv b.Credit, subsL b.Subs, entsL b.Entries]) := imm_acc b
  simp -dsimp -implicitDefEqProofs [-getElem?_pos, go_sem, hP, t34, t35]
  refine condP (fun h => ?_) (fun h => ?_)
  · have hk : k < pn.length := by simpa using h
    obtain ⟨x, hx⟩ : ∃ x, pn[k]? = some x := ⟨_, List.getElem?_eq_getElem hk⟩
    have wk := wrap_in ((k : Int) + 1) (by omega)
    have hd : pn.drop k = x :: pn.drop (k + 1) := by
      rw [List.getElem?_eq_getElem hk] at hx
      rw [List.drop_eq_getElem_cons hk, Option.some.inj hx]
    rw [hd, postAll] at hps
    have ix : Imm (.agg [iv x.Number, iv x.Day, iv x.From, iv x.To, iv x.Amount, iv x.Ref]) := imm_ent x
    have po := post_pf b x bl be
    obtain ⟨c, hc⟩ : ∃ c, c = (postA b x).1 := ⟨_, rfl⟩
    obtain ⟨er, her⟩ : ∃ c, c = (postA b x).2 := ⟨_, rfl⟩
    have ic : Imm (.agg [iv c.Credit, subsL c.Subs, entsL c.Entries]) := imm_acc c
    have lens : er = 0 → c.Subs.length ≤ 100000 ∧ c.Entries.length ≤ 100000 := fun h => by
      have := post_lens (her ▸ h)
      rw [hc]
      omega
    rw [← hc, ← her] at po hps
    rw [cA, cA, cE] at po
    simp -dsimp -implicitDefEqProofs [-getElem?_pos, go_sem, hP, t33, t35, hx, cE, t10, hA, lt0, cA]
    refine callB_is (po.lift _ _) hP en_21 (by simp [ib, ix]) (imm_pair ic .sc) ?_
    by_cases c2 : er = 0
    · rw [if_pos c2] at hps
      obtain ⟨l1, l2⟩ := lens c2
      simp -dsimp -implicitDefEqProofs [-getElem?_pos, go_sem, hP, c2, t10, hA, lt0, cA, t35, wk]
      refine ⟨pn.length - (k + 1), by omega, ?_⟩
      rw [hI]
      exact ⟨k + 1, c, by omega, rfl, hps, l1, l2, by simp -dsimp -implicitDefEqProofs [-getElem?_pos, go_sem, t10], by simp -dsimp -implicitDefEqProofs [-getElem?_pos, go_sem, t6], by simp -dsimp -implicitDefEqProofs [-getElem?_pos, go_sem, t33], by simp -dsimp -implicitDefEqProofs [-getElem?_pos, go_sem, t34], by simp -dsimp -implicitDefEqProofs [-getElem?_pos, go_sem], by simp -dsimp -implicitDefEqProofs [-getElem?_pos, go_sem, lt0, cA], by simp -dsimp -implicitDefEqProofs [-getElem?_pos, go_sem, lt1, hR]⟩
    · rw [if_neg c2] at hps
      simp -dsimp -implicitDefEqProofs [-getElem?_pos, go_sem, hP, c2, t10, hA, lt0, cA, t6, hR, lt1]
      refine done_zeroA ?_
      rw [hps]
  · have hk : k = pn.length := by simp at h; omega
    subst hk
    rw [List.drop_length] at hps
    have hps : sweepA a l day = (b, 0) := hps
    simp -dsimp -implicitDefEqProofs [-getElem?_pos, go_sem, hP, t10, hA, lt0, cA, t6, hR, lt1]
    refine done_imm (imm_pair ib .sc) ?_
    rw [hps]
    rfl
end Go.Proofs.Ytcfkdimndhapfaa
