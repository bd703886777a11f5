/- AccountSums: the walk. -/
import Derived.Test.YtcfkdimndhapfaaAccLaw
set_option linter.unusedSimpArgs false
set_option linter.unusedVariables false
namespace Go.Proofs.Ytcfkdimndhapfaa
open Go.PA
open Go.RowKit

theorem agree_one {H l : Heap} {n : Nat} (h : n < H.length) : Agree (fun id => decide (id = n)) H (H ++ l) := fun id hid => by
  have : id = n := by simpa using hid
  subst this
  exact List.getElem?_append_left h

set_option maxHeartbeats 1000000 in
theorem sums_law_pf (xs : List Int) (hx : Small xs) (hl : xs.length ≤ 9223372036854775807) :
    PFun Try.prog none none 5 [intsL xs] (· = bv true) := by
  refine pfun_introA Try.func5 rfl (by simp [Try.f5]) ?_
  intro E hP hr hs hW hN
  refine awp_cut (by rw [hN]; kernel_rfl) ?_
  simp [go_sem, hP]
  refine awp_cut (by rw [hN]; kernel_rfl) ?_
  simp [go_sem, hP]
  have hnew : POwn Try.prog E.row E.src 13 [intsL xs] 76 2 (· = [[intsL (xs.take 900), iv 0]]) := by rw [hr, hs]; exact new_pf xs hl
  refine callB_own hnew hP en_13 (args_same (by simp [go_sem, intsL])) (by simp [srefs_imm, go_sem, intsL]) ⟨_, rfl⟩ ?_
  rintro es rfl
  simp [go_sem, hP]
  refine awp_adopt 3 (ty := 76) (xs := xs.take 900) (at_ := 0) hr hs hW (by simp [go_sem]) (by simp [go_sem, intsL]) (by omega) (by simp; omega) (fun x hx' => hx x (List.mem_of_mem_take hx')) (by rw [hN]; kernel_rfl) ?_
  intro E' p hP' hr' hN' hW'
  rw [hP] at hP'
  rw [hN] at hN'
  clear hnew hP hr hs hW hN E
  rename Env => E
  rename E.P = _ => hP
  rename E.row = _ => hr
  rename E.N = _ => hN
  rename (∀ b, ¬ E.W b) => hW
  obtain ⟨src, hs⟩ : ∃ src, E.src = src := ⟨_, rfl⟩
  have up : ∀ {f : FuncId} {args : List AV} {Q : AV → Prop}, PFun Try.prog (some p) src f args Q → PFun Try.prog E.row E.src f args Q := fun h => hr ▸ hs ▸ h

  simp -dsimp -implicitDefEqProofs [-getElem?_pos, go_sem, hP]
  refine callB_flat (up (pick_pf p src [0, 100] (by simp))) hP en_16 (by simp [go_sem, intsL]) ⟨iv 0, 0, rfl, by simp⟩ (by rintro r ⟨m, rfl, _⟩; exact .sc) ?_
  rintro r ⟨c, rfl, hc⟩
  have hc : 0 ≤ c ∧ c ≤ 100 := by simp at hc; omega
  obtain ⟨g0, o0⟩ := GenAcc.open hc
  have op := open23_pf [1, 2, 3, 7] c (by simp)
  rw [o0] at op
  have io : Imm (.tup [.agg (newA [1, 2, 3, 7] c).cells, iv 0]) := imm_pair (imm_acc _) .sc
  obtain ⟨a0, ha0⟩ : ∃ a0, a0 = newA [1, 2, 3, 7] c := ⟨_, rfl⟩
  rw [← ha0] at g0 op io
  have op : PFun Try.prog none none 23 [numsL [1, 2, 3, 7], iv c] fun x => x = .tup [.agg a0.cells, iv 0] := op
  rw [cA] at op io
  simp -dsimp -implicitDefEqProofs [-getElem?_pos, go_sem, hP]
  refine callB_is (op.lift _ _) hP en_23 (by simp [go_sem, encI, encL]) io ?_
  simp -dsimp -implicitDefEqProofs [-getElem?_pos, go_sem, hP]
  obtain ⟨I, hI⟩ : ∃ I : Nat → St → Prop, I = fun m s => ∃ (k d : Nat) (a : TAccount), k + m = 12 ∧ d ≤ 2 * k ∧ GenAcc k a ∧ s.t 3 = sp p ∧ s.t 4 = .ref 1 0 0 ∧ s.t 6 = iv d ∧ s.t 7 = iv k ∧ s.H[1]? = some (some ⟨28, 3, [a.cells]⟩) := ⟨_, rfl⟩
  refine aloop0 I (12) (by rw [hN]; rfl) ?_ ?_
  · rw [hI]
    exact ⟨0, 0, a0, by omega, by omega, g0, by simp -dsimp -implicitDefEqProofs [-getElem?_pos, go_sem], by simp -dsimp -implicitDefEqProofs [-getElem?_pos, go_sem], by simp -dsimp -implicitDefEqProofs [-getElem?_pos, go_sem], by simp -dsimp -implicitDefEqProofs [-getElem?_pos, go_sem], by simp -dsimp -implicitDefEqProofs [-getElem?_pos, go_sem, cA]⟩
  clear g0 op io ha0 o0 hc
  intro m s hs'
  rw [hI] at hs'
  obtain ⟨k, d, a, hk, hd, hg, t3, t4, t6, t7, h1⟩ := hs'
  have lt1 := (List.getElem?_eq_some_iff.1 h1).1
  simp -dsimp -implicitDefEqProofs [-getElem?_pos, go_sem, hP, t7]
  refine condP (fun h => ?_) (fun h => ?_)
  · have hk0 : k < 12 := by simp at h; omega
    have wk := wrap_in ((k : Int) + 1) (by omega)
    simp -dsimp -implicitDefEqProofs [-getElem?_pos, go_sem, hP, t6, t3]
    refine callB_flat (up (N_pf p src 3 (by omega))) hP en_15 (args_same (by simp -dsimp -implicitDefEqProofs [-getElem?_pos, go_sem])) (NQ_ex _) (NQ_flat _) ?_
    rintro r ⟨x, rfl, _, hx⟩
    have hx := hx (by omega)
    have wd := wrap_in ((d : Int) + x) (by omega)
    simp -dsimp -implicitDefEqProofs [-getElem?_pos, go_sem, hP, wd]
    refine adrawQ (fun i => decide (i = 1)) [13] [4, 7, 10, 11] hP (by kernel_rfl) (by kernel_rfl) ?_
    simp -dsimp -implicitDefEqProofs [-getElem?_pos, go_sem, hP, t3, t4, h1, lt1, cA]
    refine callQ_isQ (up (pick_pf p src [0, 1, 2, 3] (by simp))) hP en_16 (by simp [go_sem, intsL]) ⟨iv 0, ⟨0, rfl, by simp⟩, .sc⟩ ?_
    rintro r ⟨f, rfl, hf⟩ _
    simp -dsimp -implicitDefEqProofs [-getElem?_pos, go_sem, hP, t3]
    refine callQ_isQ (up (pick_pf p src [0, 1, 2, 7] (by simp))) hP en_16 (by simp [go_sem, intsL]) ⟨iv 0, ⟨0, rfl, by simp⟩, .sc⟩ ?_
    rintro r ⟨g, rfl, hgg⟩ _
    simp -dsimp -implicitDefEqProofs [-getElem?_pos, go_sem, hP, t3]
    refine callQ_isQ (up (pick_pf p src [1, 30, 90, 500] (by simp))) hP en_16 (by simp [go_sem, intsL]) ⟨iv 1, ⟨1, rfl, by simp⟩, .sc⟩ ?_
    rintro r ⟨y, rfl, hy⟩ _
    have hy : 1 ≤ y ∧ y ≤ 500 := by simp at hy; omega
    obtain ⟨n1, n2⟩ := gen_nums hg (by omega)
    have nx := next_pf a ((d : Int) + x) f g y 0 n2
    obtain ⟨e, he⟩ : ∃ e, e = nextE a ((d : Int) + x) f g y 0 := ⟨_, rfl⟩
    have hed : e.Day = (d : Int) + x := by rw [he]; rfl
    have hea : e.Amount = y := by rw [he]; rfl
    have po := post_pf a e n1 n2
    obtain ⟨b, hb⟩ : ∃ b, b = (postA a e).1 := ⟨_, rfl⟩
    obtain ⟨err, herr⟩ : ∃ err, err = (postA a e).2 := ⟨_, rfl⟩
    have ta := total_pf a n1 n2
    rw [← he, cA, cE] at nx
    rw [← hb, ← herr, cA, cA, cE] at po
    rw [cA] at ta
    have ia : Imm (.agg [iv a.Credit, subsL a.Subs, entsL a.Entries]) := imm_acc a
    have ib : Imm (.agg [iv b.Credit, subsL b.Subs, entsL b.Entries]) := imm_acc b
    have ie : Imm (.agg [iv e.Number, iv e.Day, iv e.From, iv e.To, iv e.Amount, iv e.Ref]) := imm_ent e
    have hd' : ((d : Int) + x) = ((d + x.toNat : Nat) : Int) := by omega
    simp -dsimp -implicitDefEqProofs [-getElem?_pos, go_sem, hP]
    refine callQ_is (nx.lift _ _) hP en_20 (by simp [ia, imm_sc]) ie ?_
    simp -dsimp -implicitDefEqProofs [-getElem?_pos, go_sem, hP, t4, h1, lt1, cA]
    refine ⟨agree_one (by omega), ?_⟩
    refine callB_is (po.lift _ _) hP en_21 (by simp [ia, ie]) (imm_pair ib .sc) ?_
    simp -dsimp -implicitDefEqProofs [-getElem?_pos, go_sem, hP]
    by_cases c1 : err = 0
    rotate_left
    · simp -dsimp -implicitDefEqProofs [-getElem?_pos, go_sem, hP, c1, t7, wk]
      refine ⟨m - 1, by omega, ?_⟩
      rw [hI]
      exact ⟨k + 1, d + x.toNat, a, by omega, by omega, hg.mono (by omega), by simp -dsimp -implicitDefEqProofs [-getElem?_pos, go_sem, t3], by simp -dsimp -implicitDefEqProofs [-getElem?_pos, go_sem, t4], by simp -dsimp -implicitDefEqProofs [-getElem?_pos, go_sem, hd'], by simp -dsimp -implicitDefEqProofs [-getElem?_pos, go_sem], by simp -dsimp -implicitDefEqProofs [-getElem?_pos, go_sem, lt1, h1]⟩
    have hp : (postA a e).2 = 0 := herr ▸ c1
    have gb : GenAcc (k + 1) b := hb ▸ hg.post hp (by rw [hed]; omega) (by rw [hea]; omega)
    obtain ⟨m1, m2⟩ := gen_nums gb (by omega)
    have fl := flow_pf b 0 36000 m1 m2
    have tb := total_pf b m1 m2
    have sB := check_sum gb.ok
    have sT := total_sum gb.ok
    have sF := flow_all gb.ok
    have sA := total_sum hg.ok
    have sE : sumE ioE b.Entries = sumE ioE a.Entries + ioE e := by rw [hb, post_ents hp, sumE_snoc]
    obtain ⟨_, _, bc, _, _⟩ := check_ok gb.ok
    obtain ⟨bo, _⟩ := check_keeps gb.ok
    rw [cA] at fl tb
    obtain ⟨fi, hfi⟩ : ∃ fi, fi = (flowA b 0 36000).1 := ⟨_, rfl⟩
    obtain ⟨fo, hfo⟩ : ∃ fo, fo = (flowA b 0 36000).2 := ⟨_, rfl⟩
    obtain ⟨sum, hsum⟩ : ∃ z, z = sumE ioE b.Entries := ⟨_, rfl⟩
    rw [← hfi, ← hfo] at fl
    rw [sT, ← hsum] at tb
    have hsB := sumB_bound bc b.Subs bo
    rw [sB, ← hsum, gb.slen] at hsB
    rw [← hsum, ← hfi, ← hfo] at sF
    have wf := wrap_in (fi - fo) (by omega)
    clear hfi hfo
    simp -dsimp -implicitDefEqProofs [-getElem?_pos, go_sem, hP, c1]
    refine callB_is (fl.lift _ _) hP en_24 (by simp [ib, imm_sc]) (imm_pair .sc .sc) ?_
    simp -dsimp -implicitDefEqProofs [-getElem?_pos, go_sem, hP]
    obtain ⟨n, hn⟩ : ∃ n, n = s.H.length := ⟨_, rfl⟩
    rw [← hn] at lt1
    obtain ⟨J, hJ⟩ : ∃ I : Nat → St → Prop, I = fun m s => ∃ j : Nat, j ≤ b.Subs.length ∧ m = b.Subs.length - j ∧ s.t 13 = iv (sumB (b.Subs.take j)) ∧ s.t 60 = subsL b.Subs ∧ s.t 61 = iv b.Subs.length ∧ s.t 62 = iv j ∧ s.t 3 = sp p ∧ s.t 4 = .ref 1 0 0 ∧ s.t 6 = iv (d + x.toNat : Nat) ∧ s.t 7 = iv k ∧ s.t 8 = .ref n 0 0 ∧ s.t 9 = .ref (n + 1) 0 0 ∧ s.t 11 = iv fi ∧ s.t 12 = iv fo ∧ s.H[1]? = some (some ⟨28, 3, [a.cells]⟩) ∧ s.H[n]? = some (some ⟨38, 6, [e.cells]⟩) ∧ s.H[n + 1]? = some (some ⟨28, 3, [b.cells]⟩) := ⟨_, rfl⟩
    refine aloop0 J (b.Subs.length) (by rw [hN]; rfl) ?_ ?_
    · rw [hJ]
      refine ⟨0, by omega, by omega, by simp -dsimp -implicitDefEqProofs [-getElem?_pos, go_sem, sumB], by simp -dsimp -implicitDefEqProofs [-getElem?_pos, go_sem], by simp -dsimp -implicitDefEqProofs [-getElem?_pos, go_sem], by simp -dsimp -implicitDefEqProofs [-getElem?_pos, go_sem], by simp -dsimp -implicitDefEqProofs [-getElem?_pos, go_sem, t3], by simp -dsimp -implicitDefEqProofs [-getElem?_pos, go_sem, t4], by simp -dsimp -implicitDefEqProofs [-getElem?_pos, go_sem, hd'], by simp -dsimp -implicitDefEqProofs [-getElem?_pos, go_sem, t7], by simp -dsimp -implicitDefEqProofs [-getElem?_pos, go_sem, hn], by simp -dsimp -implicitDefEqProofs [-getElem?_pos, go_sem, hn], by simp -dsimp -implicitDefEqProofs [-getElem?_pos, go_sem], by simp -dsimp -implicitDefEqProofs [-getElem?_pos, go_sem], ?_, ?_, ?_⟩
      · simp -dsimp -implicitDefEqProofs [-getElem?_pos, go_sem]
        rw [List.getElem?_append_left (by omega)]
        exact h1
      · simp -dsimp -implicitDefEqProofs [-getElem?_pos, go_sem, hn, cE]
      · simp -dsimp -implicitDefEqProofs [-getElem?_pos, go_sem, hn, cA]
    clear t3 t4 t6 t7 h1
    have fin : ∀ (t : Nat → AV) (H : Heap), t 3 = sp p → t 4 = .ref 1 0 0 → t 6 = iv (d + x.toNat : Nat) → t 7 = iv ((k : Int) + 1) → H[1]? = some (some ⟨28, 3, [b.cells]⟩) → ∃ n', n' < m ∧ I n' ⟨t, H⟩ := fun t H q3 q4 q6 q7 q1 => by
      refine ⟨12 - (k + 1), by omega, ?_⟩
      rw [hI]
      exact ⟨k + 1, d + x.toNat, b, by omega, by omega, gb, q3, q4, q6, by simp [q7], q1⟩
    intro m s hs'
    rw [hJ] at hs'
    obtain ⟨j, hj, hm, t13, t60, t61, t62, t3, t4, t6, t7, t8, t9, t11, t12, h1, hE, hB⟩ := hs'
    have ltE := (List.getElem?_eq_some_iff.1 hE).1
    have ltB := (List.getElem?_eq_some_iff.1 hB).1
    have lt1' : 1 < s.H.length := by omega
    simp -dsimp -implicitDefEqProofs [-getElem?_pos, go_sem, hP, t61, t62]
    refine condP (fun h => ?_) (fun h => ?_)
    · have hj : j < b.Subs.length := by simpa using h
      obtain ⟨z, hz⟩ : ∃ z, b.Subs[j]? = some z := ⟨_, List.getElem?_eq_getElem hj⟩
      have wj := wrap_in ((j : Int) + 1) (by have := gb.slen; omega)
      have e1 : b.Subs.take (j + 1) = b.Subs.take j ++ [z] := by rw [List.take_add_one, hz]; rfl
      have bs := sumB_bound bc (b.Subs.take (j + 1)) (okAll_take bo _)
      have bl : (b.Subs.take (j + 1)).length ≤ 4 := by rw [List.length_take, gb.slen]; omega
      rw [e1, sumB_snoc, ← e1] at bs
      have ws := wrap_in (sumB (b.Subs.take j) + z.Balance) (by omega)
      simp -dsimp -implicitDefEqProofs [-getElem?_pos, go_sem, hP, t60, t62, hz, TSub.cells, t13, ws, wj]
      refine ⟨b.Subs.length - (j + 1), by omega, ?_⟩
      rw [hJ]
      refine ⟨j + 1, by omega, rfl, by simp -dsimp -implicitDefEqProofs [-getElem?_pos, go_sem]; rw [e1, sumB_snoc], by simp -dsimp -implicitDefEqProofs [-getElem?_pos, go_sem, t60], by simp -dsimp -implicitDefEqProofs [-getElem?_pos, go_sem, t61], by simp -dsimp -implicitDefEqProofs [-getElem?_pos, go_sem], by simp -dsimp -implicitDefEqProofs [-getElem?_pos, go_sem, t3], by simp -dsimp -implicitDefEqProofs [-getElem?_pos, go_sem, t4], by simp -dsimp -implicitDefEqProofs [-getElem?_pos, go_sem, t6], by simp -dsimp -implicitDefEqProofs [-getElem?_pos, go_sem, t7], by simp -dsimp -implicitDefEqProofs [-getElem?_pos, go_sem, t8], by simp -dsimp -implicitDefEqProofs [-getElem?_pos, go_sem, t9], by simp -dsimp -implicitDefEqProofs [-getElem?_pos, go_sem, t11], by simp -dsimp -implicitDefEqProofs [-getElem?_pos, go_sem, t12], ?_, ?_, ?_⟩
      · simp -dsimp -implicitDefEqProofs [-getElem?_pos, go_sem, lt1', h1]
      · simp -dsimp -implicitDefEqProofs [-getElem?_pos, go_sem, ltE, hE]
      · simp -dsimp -implicitDefEqProofs [-getElem?_pos, go_sem, ltB, hB]
    · have hj : j = b.Subs.length := by simp at h; omega
      subst hj
      rw [List.take_length, sB, ← hsum] at t13
      have hT : ¬ e.From = 0 → ¬ e.To = 0 → sum = totalA a := fun h1 h2 => by
        rw [hsum, sE, sA, ioE, if_neg h1, if_neg h2]
        omega
      rw [← sF] at wf
      simp -dsimp -implicitDefEqProofs [-getElem?_pos, go_sem, hP]
      refine adrawB (fun _ => true) [] hP (by kernel_rfl) (by kernel_rfl) ?_
      simp -dsimp -implicitDefEqProofs [-getElem?_pos, go_sem, hP, t9, hB, ltB, cA]
      refine callB_is (tb.lift _ _) hP en_19 (by simp [ib]) .sc ?_
      simp -dsimp -implicitDefEqProofs [-getElem?_pos, go_sem, hP, t11, t12, ← sF, wf, t13, t8, hE, ltE, cE]
      by_cases f0 : e.From = 0
      · have f1 : decide (e.From = 0) = true := decide_eq_true f0
        simp -dsimp -implicitDefEqProofs [-getElem?_pos, go_sem, hP, f1, t4, h1, lt1', t9, hB, ltB, cA, t7, wk]
        exact fin _ _ (by simp -dsimp -implicitDefEqProofs [-getElem?_pos, go_sem, t3]) (by simp -dsimp -implicitDefEqProofs [-getElem?_pos, go_sem, t4]) (by simp -dsimp -implicitDefEqProofs [-getElem?_pos, go_sem, t6]) (by simp -dsimp -implicitDefEqProofs [-getElem?_pos, go_sem]) (by simp -dsimp -implicitDefEqProofs [-getElem?_pos, go_sem, lt1', cA])
      · by_cases z0 : e.To = 0
        · have z1 : decide (e.To = 0) = true := decide_eq_true z0
          simp -dsimp -implicitDefEqProofs [-getElem?_pos, go_sem, hP, f0, z1, t4, h1, lt1', t9, hB, ltB, cA, t7, wk, hE, ltE, cE, t8]
          exact fin _ _ (by simp -dsimp -implicitDefEqProofs [-getElem?_pos, go_sem, t3]) (by simp -dsimp -implicitDefEqProofs [-getElem?_pos, go_sem, t4]) (by simp -dsimp -implicitDefEqProofs [-getElem?_pos, go_sem, t6]) (by simp -dsimp -implicitDefEqProofs [-getElem?_pos, go_sem]) (by simp -dsimp -implicitDefEqProofs [-getElem?_pos, go_sem, lt1', cA])
        · have hT := hT f0 z0
          simp -dsimp -implicitDefEqProofs [-getElem?_pos, go_sem, hP, f0, z0, t4, h1, lt1', t9, hB, ltB, cA, t7, wk, hE, ltE, cE, t8]
          refine callB_is (tb.lift _ _) hP en_19 (by simp [ib]) .sc ?_
          simp -dsimp -implicitDefEqProofs [-getElem?_pos, go_sem, hP, t4, h1, lt1', cA]
          refine callB_is (ta.lift _ _) hP en_19 (by simp [ia]) .sc ?_
          simp -dsimp -implicitDefEqProofs [-getElem?_pos, go_sem, hP, hT, t4, h1, lt1', t9, hB, ltB, cA, t7, wk]
          exact fin _ _ (by simp -dsimp -implicitDefEqProofs [-getElem?_pos, go_sem, t3]) (by simp -dsimp -implicitDefEqProofs [-getElem?_pos, go_sem, t4]) (by simp -dsimp -implicitDefEqProofs [-getElem?_pos, go_sem, t6]) (by simp -dsimp -implicitDefEqProofs [-getElem?_pos, go_sem]) (by simp -dsimp -implicitDefEqProofs [-getElem?_pos, go_sem, lt1', cA])
  · obtain ⟨n1, n2⟩ := gen_nums hg (by omega)
    have ck := check_pf a n1 n2
    rw [hg.ok, cA] at ck
    have ia : Imm (.agg [iv a.Credit, subsL a.Subs, entsL a.Entries]) := imm_acc a
    simp -dsimp -implicitDefEqProofs [-getElem?_pos, go_sem, hP, t4, h1, lt1, cA]
    refine callB_is (ck.lift _ _) hP en_17 (by simp [ia]) .sc ?_
    simp -dsimp -implicitDefEqProofs [-getElem?_pos, go_sem, hP]
    refine callB_pure sane23_pf hP en_18 (by simp [go_sem]) .sc ?_
    simp -dsimp -implicitDefEqProofs [-getElem?_pos, go_sem, hP]
end Go.Proofs.Ytcfkdimndhapfaa
