/- Accounts that the source makes; the chapter's example. -/
import Derived.Test.YtellcfkpfccgaaaAccNet
set_option linter.unusedSimpArgs false
set_option linter.unusedVariables false
namespace Go.Proofs.Ytellcfkpfccgaaa
open Go.PA
open Go.RowKit

theorem odd_pf (p : Nat) (src : Option Nat) : PFun Try.prog (some p) src 43 [sp p] (fun x => ∃ m : Int, x = iv m) := by
  refine pfun_intro Try.func43 rfl (by simp [Try.f43]) (by kernel_rfl) ?_
  intro E hP hr hs hW hN
  simp -dsimp -implicitDefEqProofs [-getElem?_pos, go_sem, hP]
  refine callB_flat (hr ▸ hs ▸ pick_pf p src [-1, 0, 1, 2, 9223372036854775807, -9223372036854775808, 1000000000000, 1000000000001, 1000000000000000, 1000000000000001, 36000, 36001, 35991, 1000000, 1000001, 1000, 1001, 360] (by simp)) hP en_42 (by simp [go_sem, intsL]) ⟨iv 0, 0, rfl, by simp⟩ (by rintro r ⟨m, rfl, _⟩; exact .sc) ?_
  rintro r ⟨m, rfl, _⟩
  simp -dsimp -implicitDefEqProofs [-getElem?_pos, go_sem, hP]

theorem nums_eq (l : List Int) : numsL l = intsL l := rfl
theorem gen_nums {n : Nat} {a : TAccount} (h : GenAcc n a) (hn : n ≤ 300) : a.Subs.length ≤ 100000 ∧ a.Entries.length ≤ 100000 := ⟨by have := h.slen; omega, by have := h.len; omega⟩

theorem gen_ex (n : Nat) : ∃ r, (∃ a : TAccount, r = AV.agg a.cells ∧ GenAcc n a) ∧ Imm r := ⟨_, ⟨newA [1, 2, 3, 7] 0, rfl, (GenAcc.open (by omega)).1.mono (by omega)⟩, imm_acc _⟩

set_option maxHeartbeats 1000000 in
theorem account_pf (p : Nat) (src : Option Nat) (most : Nat) (hm : most ≤ 100) : PFun Try.prog (some p) src 54 [sp p, iv most] (fun x => ∃ a : TAccount, x = .agg a.cells ∧ GenAcc most a) := by
  refine pfun_intro Try.func54 rfl (by simp [Try.f54]) (by kernel_rfl) ?_
  intro E hP hr hs hW hN
  have up : ∀ {f : FuncId} {args : List AV} {Q : AV → Prop}, PFun Try.prog (some p) src f args Q → PFun Try.prog E.row E.src f args Q := fun h => hr ▸ hs ▸ h
  simp -dsimp -implicitDefEqProofs [-getElem?_pos, go_sem, hP]
  refine callB_flat (up (pick_pf p src [0, 0, 50] (by simp))) hP en_42 (by simp [go_sem, intsL]) ⟨iv 0, 0, rfl, by simp⟩ (by rintro r ⟨m, rfl, _⟩; exact .sc) ?_
  rintro r ⟨c, rfl, hc⟩
  have hc : 0 ≤ c ∧ c ≤ 100 := by simp at hc; omega
  obtain ⟨g0, o0⟩ := GenAcc.open hc
  have op := open23_pf [1, 2, 3, 7] c (by simp)
  rw [o0] at op
  have io : Imm (.tup [.agg (newA [1, 2, 3, 7] c).cells, iv 0]) := imm_pair (imm_acc _) .sc
  obtain ⟨a0, ha0⟩ : ∃ a0, a0 = newA [1, 2, 3, 7] c := ⟨_, rfl⟩
  rw [← ha0] at g0 op io
  have op : PFun Try.prog none none 94 [numsL [1, 2, 3, 7], iv c] fun x => x = .tup [.agg a0.cells, iv 0] := op
  rw [cA] at op io
  have w1 := wrap_in ((most : Int) + 1) (by omega)
  simp -dsimp -implicitDefEqProofs [-getElem?_pos, go_sem, hP]
  refine callB_is (op.lift _ _) hP en_94 (by simp [go_sem, encI, encL]) io ?_
  simp -dsimp -implicitDefEqProofs [-getElem?_pos, go_sem, hP, w1]
  refine callB_flat (up (N_pf p src (most + 1) (by omega))) hP en_35 (args_same (by simp -dsimp -implicitDefEqProofs [-getElem?_pos, go_sem, w1])) (NQ_ex _) (NQ_flat _) ?_
  rintro r ⟨m, rfl, _, hm1⟩
  have hm1 := hm1 (by omega)
  obtain ⟨m, rfl⟩ := Int.eq_ofNat_of_zero_le hm1.1
  simp -dsimp -implicitDefEqProofs [-getElem?_pos, go_sem, hP]
  obtain ⟨I, hI⟩ : ∃ I : Nat → St → Prop, I = fun m s => ∃ (k d : Nat) (a : TAccount), k + m ≤ most ∧ d ≤ 2 * k ∧ GenAcc k a ∧ s.t 0 = sp p ∧ s.t 4 = .ref 0 0 0 ∧ s.t 5 = .ref 1 0 0 ∧ s.t 7 = iv d ∧ s.t 8 = iv m ∧ s.H[0]? = some (some ⟨90, 3, [[iv 0, .nil, .nil]]⟩) ∧ s.H[1]? = some (some ⟨90, 3, [a.cells]⟩) := ⟨_, rfl⟩
  refine aloop0 I (m) (by rw [hN]; rfl) ?_ ?_
  · rw [hI]
    exact ⟨0, 0, a0, by omega, by omega, g0, by simp -dsimp -implicitDefEqProofs [-getElem?_pos, go_sem], by simp -dsimp -implicitDefEqProofs [-getElem?_pos, go_sem], by simp -dsimp -implicitDefEqProofs [-getElem?_pos, go_sem], by simp -dsimp -implicitDefEqProofs [-getElem?_pos, go_sem], by simp -dsimp -implicitDefEqProofs [-getElem?_pos, go_sem], by simp -dsimp -implicitDefEqProofs [-getElem?_pos, go_sem], by simp -dsimp -implicitDefEqProofs [-getElem?_pos, go_sem, cA]⟩
  clear hm1 g0 op io ha0 o0
  intro m s hs'
  rw [hI] at hs'
  obtain ⟨k, d, a, hk, hd, hg, t0, t4, t5, t7, t8, h0, h1⟩ := hs'
  have lt0 := (List.getElem?_eq_some_iff.1 h0).1
  have lt1 := (List.getElem?_eq_some_iff.1 h1).1
  simp -dsimp -implicitDefEqProofs [-getElem?_pos, go_sem, hP, t8]
  refine condP (fun h => ?_) (fun h => ?_)
  · have hm0 : 0 < m := by simpa using h
    simp -dsimp -implicitDefEqProofs [-getElem?_pos, go_sem, hP, t0, t7]
    refine callB_flat (up (N_pf p src 3 (by omega))) hP en_35 (args_same (by simp -dsimp -implicitDefEqProofs [-getElem?_pos, go_sem])) (NQ_ex _) (NQ_flat _) ?_
    rintro r ⟨x, rfl, _, hx⟩
    have hx := hx (by omega)
    have wd := wrap_in ((d : Int) + x) (by omega)
    simp -dsimp -implicitDefEqProofs [-getElem?_pos, go_sem, hP, t0, wd]
    refine callB_flat (up (pick_pf p src [0, 0, 1, 2, 3, 7] (by simp))) hP en_42 (by simp [go_sem, intsL]) ⟨iv 0, 0, rfl, by simp⟩ (by rintro r ⟨m, rfl, _⟩; exact .sc) ?_
    rintro r ⟨f, rfl, hf⟩
    simp -dsimp -implicitDefEqProofs [-getElem?_pos, go_sem, hP, t0]
    refine callB_flat (up (pick_pf p src [0, 1, 2, 3, 7] (by simp))) hP en_42 (by simp [go_sem, intsL]) ⟨iv 0, 0, rfl, by simp⟩ (by rintro r ⟨m, rfl, _⟩; exact .sc) ?_
    rintro r ⟨g, rfl, hgg⟩
    simp -dsimp -implicitDefEqProofs [-getElem?_pos, go_sem, hP]
    refine adrawQ (fun i => decide (i < 2)) [14] [7, 8, 9] hP (by kernel_rfl) (by kernel_rfl) ?_
    simp -dsimp -implicitDefEqProofs [-getElem?_pos, go_sem, hP, t0, t5, t7, h1, lt1, cA]
    refine callQ_isQ (up (pick_pf p src [1, 10, 60, 100, 500] (by simp))) hP en_42 (by simp [go_sem, intsL]) ⟨iv 1, ⟨1, rfl, by simp⟩, .sc⟩ ?_
    rintro r ⟨y, rfl, hy⟩ _
    have hy : 1 ≤ y ∧ y ≤ 500 := by simp at hy; omega
    obtain ⟨n1, n2⟩ := gen_nums hg (by omega)
    have nx := next23_pf a ((d : Int) + x) f g y 0 n2
    obtain ⟨e, he⟩ : ∃ e, e = nextE a ((d : Int) + x) f g y 0 := ⟨_, rfl⟩
    have hed : e.Day = (d : Int) + x := by rw [he]; rfl
    have hea : e.Amount = y := by rw [he]; rfl
    have po := post23_pf a e n1 n2
    obtain ⟨b, hb⟩ : ∃ b, b = (postA a e).1 := ⟨_, rfl⟩
    obtain ⟨err, herr⟩ : ∃ err, err = (postA a e).2 := ⟨_, rfl⟩
    rw [← he, cA, cE] at nx
    rw [← hb, ← herr, cA, cA, cE] at po
    have ia : Imm (.agg [iv a.Credit, subsL a.Subs, entsL a.Entries]) := imm_acc a
    have ib : Imm (.agg [iv b.Credit, subsL b.Subs, entsL b.Entries]) := imm_acc b
    have ie : Imm (.agg [iv e.Number, iv e.Day, iv e.From, iv e.To, iv e.Amount, iv e.Ref]) := imm_ent e
    have wm := wrap_in ((m : Int) - 1) (by omega)
    have hd' : ((d : Int) + x) = ((d + x.toNat : Nat) : Int) := by omega
    simp -dsimp -implicitDefEqProofs [-getElem?_pos, go_sem, hP]
    refine callQ_is (nx.lift _ _) hP en_96 (by simp [ia, imm_sc]) ie ?_
    simp -dsimp -implicitDefEqProofs [-getElem?_pos, go_sem, hP]
    refine callQ_is (po.lift _ _) hP en_95 (by simp [ia, ie]) (imm_pair ib .sc) ?_
    simp -dsimp -implicitDefEqProofs [-getElem?_pos, go_sem, hP]
    by_cases c1 : err = 0
    · have gb : GenAcc (k + 1) b := hb ▸ hg.post (herr ▸ c1) (by rw [hed]; omega) (by rw [hea]; omega)
      simp -dsimp -implicitDefEqProofs [-getElem?_pos, go_sem, hP, c1, t5, lt1, h1, t8, wm, cA]
      refine ⟨agree_push (by omega), m - 1, by omega, ?_⟩
      rw [hI]
      refine ⟨k + 1, d + x.toNat, b, by omega, by omega, gb, by simp -dsimp -implicitDefEqProofs [-getElem?_pos, go_sem, t0], by simp -dsimp -implicitDefEqProofs [-getElem?_pos, go_sem, t4], by simp -dsimp -implicitDefEqProofs [-getElem?_pos, go_sem, t5], by simp -dsimp -implicitDefEqProofs [-getElem?_pos, go_sem, hd'], ?_, by simp -dsimp -implicitDefEqProofs [-getElem?_pos, go_sem, lt0, h0], by simp -dsimp -implicitDefEqProofs [-getElem?_pos, go_sem, lt1, cA]⟩
      simp -dsimp -implicitDefEqProofs [-getElem?_pos, go_sem]
      omega
    · simp -dsimp -implicitDefEqProofs [-getElem?_pos, go_sem, hP, c1, t8, wm]
      refine ⟨agree_push (by omega), m - 1, by omega, ?_⟩
      rw [hI]
      refine ⟨k + 1, d + x.toNat, a, by omega, by omega, hg.mono (by omega), by simp -dsimp -implicitDefEqProofs [-getElem?_pos, go_sem, t0], by simp -dsimp -implicitDefEqProofs [-getElem?_pos, go_sem, t4], by simp -dsimp -implicitDefEqProofs [-getElem?_pos, go_sem, t5], by simp -dsimp -implicitDefEqProofs [-getElem?_pos, go_sem, hd'], ?_, by simp -dsimp -implicitDefEqProofs [-getElem?_pos, go_sem, lt0, h0], by simp -dsimp -implicitDefEqProofs [-getElem?_pos, go_sem, lt1, h1]⟩
      simp -dsimp -implicitDefEqProofs [-getElem?_pos, go_sem]
      omega
  · have hm0 : m = 0 := by simpa using h
    simp -dsimp -implicitDefEqProofs [-getElem?_pos, go_sem, hP, t5, h1, t4, h0, lt0, lt1, cA]
    refine done_imm (imm_acc a) ⟨a, rfl, hg.mono (by omega)⟩
end Go.Proofs.Ytellcfkpfccgaaa
