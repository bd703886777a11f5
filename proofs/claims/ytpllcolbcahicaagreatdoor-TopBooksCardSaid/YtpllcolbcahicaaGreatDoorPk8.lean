/- Several texts of this claim, joined: PlayOdd AccGen LedEnt2 ClmGen PaRun Awake LawTb. -/
import Derived.Test.YtpllcolbcahicaaGreatDoorPk7
import Derived.Scope
set_option linter.unusedSimpArgs false
set_option linter.unusedVariables false
namespace Go.Proofs.YtpllcolbcahicaaGreatDoor
open Go.PA
open Go.RowKit
open Go.PA
open Go.RowKit
theorem gen_nums {n : Nat} {a : TAccount} (h : GenAcc n a) (hn : n ≤ 300) : a.Subs.length ≤ 100000 ∧ a.Entries.length ≤ 100000 := ⟨by have := h.slen; omega, by have := h.len; omega⟩
theorem gen_ex (n : Nat) : ∃ r, (∃ a : TAccount, r = AV.agg a.cells ∧ GenAcc n a) ∧ Imm r := ⟨_, ⟨newA [1, 2, 3, 7] 0, rfl, (GenAcc.open (by omega)).1.mono (by omega)⟩, imm_acc _⟩
set_option maxHeartbeats 1000000 in
theorem account0_pf (p : Nat) (src : Option Nat) (most : Nat) (hm : most ≤ 100) : PFun Tryz.prog (some p) src 5 [sp p, iv most] (fun x => ∃ a : TAccount, x = .agg a.cells ∧ GenAcc most a ∧ ∀ e, e ∈ a.Entries → e.Ref = 0) := by
  refine pfun_intro Tryz.func5 rfl (by simp [Tryz.f5]) (by kernel_rfl) ?_
  intro E hP hr hs hW hN
  have up : ∀ {f : FuncId} {args : List AV} {Q : AV → Prop}, PFun Tryz.prog (some p) src f args Q → PFun Tryz.prog E.row E.src f args Q := fun h => hr ▸ hs ▸ h
  simp -dsimp -implicitDefEqProofs [-getElem?_pos, go_sem, hP]
  refine callB_flat (up (pick_pf p src [0, 0, 50] (by simp))) hP en_7 (by simp [go_sem, intsL]) ⟨iv 0, 0, rfl, by simp⟩ (by rintro r ⟨m, rfl, _⟩; exact .sc) ?_
  rintro r ⟨c, rfl, hc⟩
  have hc : 0 ≤ c ∧ c ≤ 100 := by simp at hc; omega
  obtain ⟨g0, o0⟩ := GenAcc.open hc
  have op := open23_pf [1, 2, 3, 7] c (by simp)
  rw [o0] at op
  have io : Imm (.tup [.agg (newA [1, 2, 3, 7] c).cells, iv 0]) := imm_pair (imm_acc _) .sc
  obtain ⟨a0, ha0⟩ : ∃ a0, a0 = newA [1, 2, 3, 7] c := ⟨_, rfl⟩
  rw [← ha0] at g0 op io
  have z0 : ∀ e, e ∈ a0.Entries → e.Ref = 0 := by rw [ha0]; simp [newA]
  have op : PFun Tryz.prog none none 15 [numsL [1, 2, 3, 7], iv c] fun x => x = .tup [.agg a0.cells, iv 0] := op
  rw [cA] at op io
  have w1 := wrap_in ((most : Int) + 1) (by omega)
  simp -dsimp -implicitDefEqProofs [-getElem?_pos, go_sem, hP]
  refine callB_is (op.lift _ _) hP en_15 (by simp [go_sem, encI, encL]) io ?_
  simp -dsimp -implicitDefEqProofs [-getElem?_pos, go_sem, hP, w1]
  refine callB_flat (up (N_pf p src (most + 1) (by omega))) hP en_16 (args_same (by simp -dsimp -implicitDefEqProofs [-getElem?_pos, go_sem, w1])) (NQ_ex _) (NQ_flat _) ?_
  rintro r ⟨m, rfl, _, hm1⟩
  have hm1 := hm1 (by omega)
  obtain ⟨m, rfl⟩ := Int.eq_ofNat_of_zero_le hm1.1
  simp -dsimp -implicitDefEqProofs [-getElem?_pos, go_sem, hP]
  obtain ⟨I, hI⟩ : ∃ I : Nat → St → Prop, I = fun m s => ∃ (k d : Nat) (a : TAccount), k + m ≤ most ∧ d ≤ 2 * k ∧ (GenAcc k a ∧ ∀ e, e ∈ a.Entries → e.Ref = 0) ∧ s.t 0 = sp p ∧ s.t 4 = .ref 0 0 0 ∧ s.t 5 = .ref 1 0 0 ∧ s.t 7 = iv d ∧ s.t 8 = iv m ∧ s.H[0]? = some (some ⟨28, 3, [[iv 0, .nil, .nil]]⟩) ∧ s.H[1]? = some (some ⟨28, 3, [a.cells]⟩) := ⟨_, rfl⟩
  refine aloop0 I (m) (by rw [hN]; rfl) ?_ ?_
  · rw [hI]
    exact ⟨0, 0, a0, by omega, by omega, ⟨g0, z0⟩, by simp -dsimp -implicitDefEqProofs [-getElem?_pos, go_sem], by simp -dsimp -implicitDefEqProofs [-getElem?_pos, go_sem], by simp -dsimp -implicitDefEqProofs [-getElem?_pos, go_sem], by simp -dsimp -implicitDefEqProofs [-getElem?_pos, go_sem], by simp -dsimp -implicitDefEqProofs [-getElem?_pos, go_sem], by simp -dsimp -implicitDefEqProofs [-getElem?_pos, go_sem], by simp -dsimp -implicitDefEqProofs [-getElem?_pos, go_sem, cA]⟩
  clear hm1 g0 op io ha0 o0 z0
  intro m s hs'
  rw [hI] at hs'
  obtain ⟨k, d, a, hk, hd, ⟨hg, hz⟩, t0, t4, t5, t7, t8, h0, h1⟩ := hs'
  have lt0 := (List.getElem?_eq_some_iff.1 h0).1
  have lt1 := (List.getElem?_eq_some_iff.1 h1).1
  simp -dsimp -implicitDefEqProofs [-getElem?_pos, go_sem, hP, t8]
  refine condP (fun h => ?_) (fun h => ?_)
  · have hm0 : 0 < m := by simpa using h
    simp -dsimp -implicitDefEqProofs [-getElem?_pos, go_sem, hP, t0, t7]
    refine callB_flat (up (N_pf p src 3 (by omega))) hP en_16 (args_same (by simp -dsimp -implicitDefEqProofs [-getElem?_pos, go_sem])) (NQ_ex _) (NQ_flat _) ?_
    rintro r ⟨x, rfl, _, hx⟩
    have hx := hx (by omega)
    have wd := wrap_in ((d : Int) + x) (by omega)
    simp -dsimp -implicitDefEqProofs [-getElem?_pos, go_sem, hP, t0, wd]
    refine callB_flat (up (pick_pf p src [0, 0, 1, 2, 3, 7] (by simp))) hP en_7 (by simp [go_sem, intsL]) ⟨iv 0, 0, rfl, by simp⟩ (by rintro r ⟨m, rfl, _⟩; exact .sc) ?_
    rintro r ⟨f, rfl, hf⟩
    simp -dsimp -implicitDefEqProofs [-getElem?_pos, go_sem, hP, t0]
    refine callB_flat (up (pick_pf p src [0, 1, 2, 3, 7] (by simp))) hP en_7 (by simp [go_sem, intsL]) ⟨iv 0, 0, rfl, by simp⟩ (by rintro r ⟨m, rfl, _⟩; exact .sc) ?_
    rintro r ⟨g, rfl, hgg⟩
    simp -dsimp -implicitDefEqProofs [-getElem?_pos, go_sem, hP]
    refine adrawQ (fun i => decide (i < 2)) [14] [7, 8, 9] hP (by kernel_rfl) (by kernel_rfl) ?_
    simp -dsimp -implicitDefEqProofs [-getElem?_pos, go_sem, hP, t0, t5, t7, h1, lt1, cA]
    refine callQ_isQ (up (pick_pf p src [1, 10, 60, 100, 500] (by simp))) hP en_7 (by simp [go_sem, intsL]) ⟨iv 1, ⟨1, rfl, by simp⟩, .sc⟩ ?_
    rintro r ⟨y, rfl, hy⟩ _
    have hy : 1 ≤ y ∧ y ≤ 500 := by simp at hy; omega
    obtain ⟨n1, n2⟩ := gen_nums hg (by omega)
    have nx := next23_pf a ((d : Int) + x) f g y 0 n2
    obtain ⟨e, he⟩ : ∃ e, e = nextE a ((d : Int) + x) f g y 0 := ⟨_, rfl⟩
    have hed : e.Day = (d : Int) + x := by rw [he]; rfl
    have hea : e.Amount = y := by rw [he]; rfl
    have po := post23_pf a e n1 n2
    obtain ⟨b, hb⟩ : ∃ b, b = (postA a e).1 := ⟨_, rfl⟩
    obtain ⟨err, herr⟩ : ∃ err, err = (postA a e).2 := ⟨_, rfl⟩
    rw [← he, cA, cE] at nx
    rw [← hb, ← herr, cA, cA, cE] at po
    have ia : Imm (.agg [iv a.Credit, subsL a.Subs, entsL a.Entries]) := imm_acc a
    have ib : Imm (.agg [iv b.Credit, subsL b.Subs, entsL b.Entries]) := imm_acc b
    have ie : Imm (.agg [iv e.Number, iv e.Day, iv e.From, iv e.To, iv e.Amount, iv e.Ref]) := imm_ent e
    have wm := wrap_in ((m : Int) - 1) (by omega)
    have hd' : ((d : Int) + x) = ((d + x.toNat : Nat) : Int) := by omega
    simp -dsimp -implicitDefEqProofs [-getElem?_pos, go_sem, hP]
    refine callQ_is (nx.lift _ _) hP en_18 (by simp [ia, imm_sc]) ie ?_
    simp -dsimp -implicitDefEqProofs [-getElem?_pos, go_sem, hP]
    refine callQ_is (po.lift _ _) hP en_17 (by simp [ia, ie]) (imm_pair ib .sc) ?_
    simp -dsimp -implicitDefEqProofs [-getElem?_pos, go_sem, hP]
    by_cases c1 : err = 0
    · have gb : GenAcc (k + 1) b := hb ▸ hg.post (herr ▸ c1) (by rw [hed]; omega) (by rw [hea]; omega)
      have zb : ∀ y, y ∈ b.Entries → y.Ref = 0 := fun y hy => by
        rw [hb, post_ents (herr ▸ c1)] at hy
        rcases List.mem_append.1 hy with hy | hy
        · exact hz y hy
        · rw [List.mem_singleton] at hy
          rw [hy, he]
          rfl
      simp -dsimp -implicitDefEqProofs [-getElem?_pos, go_sem, hP, c1, t5, lt1, h1, t8, wm, cA]
      refine ⟨agree_push (by omega), m - 1, by omega, ?_⟩
      rw [hI]
      refine ⟨k + 1, d + x.toNat, b, by omega, by omega, ⟨gb, zb⟩, by simp -dsimp -implicitDefEqProofs [-getElem?_pos, go_sem, t0], by simp -dsimp -implicitDefEqProofs [-getElem?_pos, go_sem, t4], by simp -dsimp -implicitDefEqProofs [-getElem?_pos, go_sem, t5], by simp -dsimp -implicitDefEqProofs [-getElem?_pos, go_sem, hd'], ?_, by simp -dsimp -implicitDefEqProofs [-getElem?_pos, go_sem, lt0, h0], by simp -dsimp -implicitDefEqProofs [-getElem?_pos, go_sem, lt1, cA]⟩
      simp -dsimp -implicitDefEqProofs [-getElem?_pos, go_sem]
      omega
    · simp -dsimp -implicitDefEqProofs [-getElem?_pos, go_sem, hP, c1, t8, wm]
      refine ⟨agree_push (by omega), m - 1, by omega, ?_⟩
      rw [hI]
      refine ⟨k + 1, d + x.toNat, a, by omega, by omega, ⟨hg.mono (by omega), hz⟩, by simp -dsimp -implicitDefEqProofs [-getElem?_pos, go_sem, t0], by simp -dsimp -implicitDefEqProofs [-getElem?_pos, go_sem, t4], by simp -dsimp -implicitDefEqProofs [-getElem?_pos, go_sem, t5], by simp -dsimp -implicitDefEqProofs [-getElem?_pos, go_sem, hd'], ?_, by simp -dsimp -implicitDefEqProofs [-getElem?_pos, go_sem, lt0, h0], by simp -dsimp -implicitDefEqProofs [-getElem?_pos, go_sem, lt1, h1]⟩
      simp -dsimp -implicitDefEqProofs [-getElem?_pos, go_sem]
      omega
  · have hm0 : m = 0 := by simpa using h
    simp -dsimp -implicitDefEqProofs [-getElem?_pos, go_sem, hP, t5, h1, t4, h0, lt0, lt1, cA]
    refine done_imm (imm_acc a) ⟨a, rfl, hg.mono (by omega), hz⟩
theorem account_pf (p : Nat) (src : Option Nat) (most : Nat) (hm : most ≤ 100) : PFun Tryz.prog (some p) src 5 [sp p, iv most] (fun x => ∃ a : TAccount, x = .agg a.cells ∧ GenAcc most a) := (account0_pf p src most hm).mono fun _ ⟨a, h1, h2, _⟩ => ⟨a, h1, h2⟩
open Go.PA
open Go.RowKit
set_option maxHeartbeats 2000000 in
theorem entries_pf (a : TAccount) (number first : Int) (hl : a.Subs.length ≤ 100000) (he : a.Entries.length ≤ 100000) : PFun Tryz.prog none none 6 [.agg a.cells, iv number, iv first] (· = postsL (entriesL a number first)) := by
  refine pfun_intro Tryz.func6 rfl (by simp [Tryz.f6]) (by kernel_rfl) ?_
  intro E hP hr hs hW hN
  obtain ⟨R, hR⟩ : ∃ R, R = entriesL a number first := ⟨_, rfl⟩
  rw [← hR]
  have ck := check_pf a hl he
  rw [cA] at ck
  have ia : Imm (.agg [iv a.Credit, subsL a.Subs, entsL a.Entries]) := by rw [← cA]; exact imm_acc a
  have bad : R = [] → ∀ {H : Heap} {b}, Done H .nil (· = postsL R) b := fun h => done_weak (x := postsL []) (by simp -dsimp -implicitDefEqProofs [-getElem?_pos, go_sem]) (imm_posts _) (show Weak .nil (.list 8 []) from .nil 8) (by rw [h])
  simp -dsimp -implicitDefEqProofs [-getElem?_pos, go_sem, hP, cA]
  refine callB_is (ck.lift _ _) hP en_19 (by simpa using ia) .sc ?_
  by_cases c1 : checkA a = 0
  rotate_left
  · have : R = [] := by rw [hR, entriesL, if_neg (fun h => c1 h.1)]
    simp -dsimp -implicitDefEqProofs [-getElem?_pos, go_sem, hP, c1]
    exact bad this
  simp -dsimp -implicitDefEqProofs [-getElem?_pos, go_sem, hP, c1]
  refine callB_pure (entity_pf number) hP en_20 (args_same (by simp -dsimp -implicitDefEqProofs [-getElem?_pos, go_sem])) .sc ?_
  by_cases c2 : betw number 1 10 = true
  rotate_left
  · have : R = [] := by rw [hR, entriesL, if_neg (fun h => c2 (betw_iff.2 h.2.1))]
    simp -dsimp -implicitDefEqProofs [-getElem?_pos, go_sem, hP, c2]
    exact bad this
  simp -dsimp -implicitDefEqProofs [-getElem?_pos, go_sem, hP, c2]
  refine callB_pure (ramong_pf first 1 999600) hP en_21 (args_same (by simp -dsimp -implicitDefEqProofs [-getElem?_pos, go_sem])) .sc ?_
  by_cases c3 : betw first 1 999600 = true
  rotate_left
  · have : R = [] := by rw [hR, entriesL, if_neg (fun h => c3 (betw_iff.2 h.2.2))]
    simp -dsimp -implicitDefEqProofs [-getElem?_pos, go_sem, hP, c3]
    exact bad this
  have hR' : entGo number first [] a.Entries = R := by rw [hR, entriesL, if_pos ⟨c1, betw_iff.1 c2, betw_iff.1 c3⟩]
  rw [betw_iff] at c3
  have hn4 := (check_ok c1).2.1
  have hne := fun e he => (check_mem c1 e he).2.2.2.2.1
  simp -dsimp -implicitDefEqProofs [-getElem?_pos, go_sem, hP, betw_iff.2 c3]
  refine aloop_own 7 36 8 (by simp -dsimp -implicitDefEqProofs [-getElem?_pos, go_sem]) ?_
  obtain ⟨I, hI⟩ : ∃ I : Nat → St → Prop, I = fun m s => ∃ (k id : Nat) (out : List TPosting), k ≤ a.Entries.length ∧ m = a.Entries.length - k ∧ out.length ≤ k ∧ entGo number first out (a.Entries.drop k) = R ∧ s.t 1 = iv number ∧ s.t 2 = iv first ∧ s.t 25 = entsL a.Entries ∧ s.t 26 = iv a.Entries.length ∧ s.t 27 = iv k ∧ s.t 7 = .sref id 0 out.length ∧ s.H[id]? = some (some ⟨36, 8, encL TPosting.cells out⟩) := ⟨_, rfl⟩
  refine aloopF 7 hW I (a.Entries.length) (by rw [hN]; rfl) ?_ ?_
  · rw [hI]
    exact ⟨0, 1, [], by omega, by omega, by simp, by simpa using hR', by simp -dsimp -implicitDefEqProofs [-getElem?_pos, go_sem], by simp -dsimp -implicitDefEqProofs [-getElem?_pos, go_sem], by simp -dsimp -implicitDefEqProofs [-getElem?_pos, go_sem], by simp -dsimp -implicitDefEqProofs [-getElem?_pos, go_sem], by simp -dsimp -implicitDefEqProofs [-getElem?_pos, go_sem], by simp -dsimp -implicitDefEqProofs [-getElem?_pos, go_sem], by simp -dsimp -implicitDefEqProofs [-getElem?_pos, go_sem, encL_nil]⟩
  intro m s hs'
  rw [hI] at hs'
  obtain ⟨k, id, out, hk, hm, hol, hgo, t1, t2, t25, t26, t27, t7, hH⟩ := hs'
  have hlt := (List.getElem?_eq_some_iff.1 hH).1
  simp -dsimp -implicitDefEqProofs [-getElem?_pos, go_sem, hP, t26, t27]
  refine condP (fun h => ?_) (fun h => ?_)
  · have hk : k < a.Entries.length := by simpa using h
    obtain ⟨e, hee⟩ : ∃ e, a.Entries[k]? = some e := ⟨_, List.getElem?_eq_getElem hk⟩
    have hft := hne e (List.mem_of_getElem? hee)
    have wk := wrap_in ((k : Int) + 1) (by omega)
    have wf := wrap_in (first + (out.length : Int)) (by omega)
    rw [drop_get hee, entGo] at hgo
    have e0 : encL TPosting.cells out ++ [(entP number first out.length e).cells] = encL TPosting.cells (out ++ [entP number first out.length e]) := encL_snoc TPosting.cells out _
    rw [cP] at e0
    by_cases z1 : e.To = 0
    · have z2 : ioB e = true := by simp [ioB, z1]
      rw [if_pos z2] at hgo
      simp only [entP, z1, if_true] at e0
      simp -dsimp -implicitDefEqProofs [-getElem?_pos, go_sem, hP, t25, t27, hee, cE, t1, t2, t7, wf, hlt, hH, z1, wk]
      refine ⟨by omega, by omega, ?_⟩
      refine ⟨a.Entries.length - (k + 1), by omega, ?_⟩
      rw [hI]
      exact ⟨k + 1, s.H.length + 2, _, by omega, rfl, by simp; omega, hgo, by simp -dsimp -implicitDefEqProofs [-getElem?_pos, go_sem, t1], by simp -dsimp -implicitDefEqProofs [-getElem?_pos, go_sem, t2], by simp -dsimp -implicitDefEqProofs [-getElem?_pos, go_sem, t25], by simp -dsimp -implicitDefEqProofs [-getElem?_pos, go_sem, t26], by simp -dsimp -implicitDefEqProofs [-getElem?_pos, go_sem], by simp -dsimp -implicitDefEqProofs [-getElem?_pos, go_sem], by simp -dsimp -implicitDefEqProofs [-getElem?_pos, go_sem, z1, entP, ← e0]⟩
    have d1 : decide (e.To = 0) = false := decide_eq_false z1
    by_cases z2 : e.From = 0
    · have z3 : ioB e = true := by simp [ioB, z2]
      rw [if_pos z3] at hgo
      simp only [entP, if_neg z1] at e0
      simp -dsimp -implicitDefEqProofs [-getElem?_pos, go_sem, hP, t25, t27, hee, cE, t1, t2, t7, wf, hlt, hH, d1, z2, wk]
      refine ⟨by omega, by omega, ?_⟩
      refine ⟨a.Entries.length - (k + 1), by omega, ?_⟩
      rw [hI]
      exact ⟨k + 1, s.H.length + 2, _, by omega, rfl, by simp; omega, hgo, by simp -dsimp -implicitDefEqProofs [-getElem?_pos, go_sem, t1], by simp -dsimp -implicitDefEqProofs [-getElem?_pos, go_sem, t2], by simp -dsimp -implicitDefEqProofs [-getElem?_pos, go_sem, t25], by simp -dsimp -implicitDefEqProofs [-getElem?_pos, go_sem, t26], by simp -dsimp -implicitDefEqProofs [-getElem?_pos, go_sem], by simp -dsimp -implicitDefEqProofs [-getElem?_pos, go_sem], by simp -dsimp -implicitDefEqProofs [-getElem?_pos, go_sem, z1, entP, ← e0]⟩
    · have z3 : ¬ ioB e = true := by simp [ioB, z1, z2]
      have d2 : decide (e.From = 0) = false := decide_eq_false z2
      rw [if_neg z3] at hgo
      simp -dsimp -implicitDefEqProofs [-getElem?_pos, go_sem, hP, t25, t27, hee, cE, t1, t2, t7, wf, hlt, hH, d1, d2, z2, wk]
      refine ⟨a.Entries.length - (k + 1), by omega, ?_⟩
      rw [hI]
      exact ⟨k + 1, id, out, by omega, rfl, by omega, hgo, by simp -dsimp -implicitDefEqProofs [-getElem?_pos, go_sem, t1], by simp -dsimp -implicitDefEqProofs [-getElem?_pos, go_sem, t2], by simp -dsimp -implicitDefEqProofs [-getElem?_pos, go_sem, t25], by simp -dsimp -implicitDefEqProofs [-getElem?_pos, go_sem, t26], by simp -dsimp -implicitDefEqProofs [-getElem?_pos, go_sem], by simp -dsimp -implicitDefEqProofs [-getElem?_pos, go_sem, t7], by simp -dsimp -implicitDefEqProofs [-getElem?_pos, go_sem, hlt, hH]⟩
  · have hk : k = a.Entries.length := by simp at h; omega
    subst hk
    rw [List.drop_length, entGo] at hgo
    rw [hgo] at t7 hH
    refine frz id _ 36 8 (encL TPosting.cells R) t7 hH (by rw [encL_len]) (imm_posts _) ?_
    simp -dsimp -implicitDefEqProofs [-getElem?_pos, go_sem, hP]
    exact done_imm (imm_posts _) rfl
open Go.PA
open Go.RowKit
abbrev strsC (l : List ByteArray) : AV := .list 1 (l.map fun b => [.sc (.string b)])
def codesC : List ByteArray := [⟨#[49]⟩, ⟨#[49, 46, 49]⟩, ⟨#[49, 46, 50]⟩, ⟨#[49, 46, 50, 46, 51]⟩, ⟨#[50]⟩, ⟨#[50, 46, 49, 48]⟩, ⟨#[50, 46, 57]⟩]
def StrC (l : List ByteArray) (x : AV) : Prop := ∃ b, x = .sc (.string b) ∧ b ∈ l
theorem ctext_pf (p : Nat) (src : Option Nat) (l : List ByteArray) (h : 1 ≤ l.length ∧ l.length ≤ 1000) :
    PFun Tryz.prog (some p) src 64 [sp p, strsC l] (StrC l) := by
  refine pfun_intro Tryz.func64 rfl (by simp [Tryz.f64]) (by kernel_rfl) ?_
  intro E hP hr hs hW hN
  simp -dsimp -implicitDefEqProofs [-getElem?_pos, go_sem, hP]
  refine callB_flat (hr ▸ hs ▸ N_pf p src l.length (by omega)) hP en_16 (by simp -dsimp -implicitDefEqProofs [-getElem?_pos, go_sem]) (NQ_ex _) (NQ_flat _) ?_
  rintro r ⟨m, rfl, _, a⟩
  obtain ⟨b1, b2⟩ := a (by omega)
  obtain ⟨k, rfl⟩ : ∃ k : Nat, m = k := ⟨m.toNat, by omega⟩
  obtain ⟨b, hb⟩ : ∃ b, l[k]? = some b := ⟨_, List.getElem?_eq_getElem (by omega)⟩
  simp -dsimp -implicitDefEqProofs [-getElem?_pos, go_sem, hP, hb]
  exact ⟨b, rfl, List.mem_of_getElem? hb⟩
theorem strC_ex {l : List ByteArray} (h : l ≠ []) : ∃ r, StrC l r ∧ Imm r := by
  cases l with
  | nil => exact absurd rfl h
  | cons b l => exact ⟨_, ⟨b, rfl, by simp⟩, .sc⟩
theorem ccode_pf (p : Nat) (src : Option Nat) : PFun Tryz.prog (some p) src 29 [sp p] (StrC codesC) := by
  refine pfun_intro Tryz.func29 rfl (by simp [Tryz.f29]) (by kernel_rfl) ?_
  intro E hP hr hs hW hN
  simp -dsimp -implicitDefEqProofs [-getElem?_pos, go_sem, hP]
  refine callB_isQ (Q := StrC codesC) (hr ▸ hs ▸ ctext_pf p src codesC (by simp [codesC])) hP en_64 (by simp -dsimp -implicitDefEqProofs [-getElem?_pos, go_sem]) (strC_ex (by simp [codesC])) ?_
  rintro r ⟨b, rfl, hb⟩ _
  simp -dsimp -implicitDefEqProofs [-getElem?_pos, go_sem, hP]
  exact ⟨b, rfl, hb⟩
theorem codesC_ok {b : ByteArray} (h : b ∈ codesC) : codeB b = true ∧ b.size ≤ 30 := by
  have key : (codesC.all fun c => codeB c && decide (c.size ≤ 30)) = true := by kernel_rfl
  have := List.all_eq_true.1 key b h
  simpa using this
def GenCl (i : Nat) (y : TClaim) : Prop := y.ID = 3 * i + 1 ∧ (1 ≤ y.Payer ∧ y.Payer ≤ 3) ∧ y.Amount ∈ [5, 10, 10, 100, 250] ∧ y.Open = y.Amount ∧ (0 ≤ y.Day ∧ y.Day < 60) ∧ y.Code ∈ codesC
def GenCs (l : List TClaim) : Prop := ∀ i y, l[i]? = some y → GenCl i y
def ClaimsQ (n : Nat) (x : AV) : Prop := ∃ l : List TClaim, x = claimsL l ∧ l.length ≤ n ∧ GenCs l
theorem claimsQ_ex (n : Nat) : ∃ r, ClaimsQ n r ∧ Imm r := ⟨_, ⟨[], rfl, by simp, fun i y h => by simp at h⟩, imm_claims []⟩
theorem picks_ex {l : List Int} (h : l ≠ []) : ∃ r, (∃ m : Int, r = iv m ∧ m ∈ l) ∧ Imm r := by
  cases l with
  | nil => exact absurd rfl h
  | cons b l => exact ⟨_, ⟨b, rfl, by simp⟩, .sc⟩
theorem ranges_ex (lo hi : Int) (h : lo ≤ hi) : ∃ r, (∃ m : Int, r = iv m ∧ (lo ≤ hi → lo ≤ m ∧ m ≤ hi) ∧ (hi < lo → m = lo)) ∧ Imm r := ⟨_, ⟨lo, rfl, fun h => ⟨Int.le_refl _, h⟩, fun _ => rfl⟩, .sc⟩
set_option maxHeartbeats 2000000 in
theorem sclaims_pf (p : Nat) (src : Option Nat) (n : Nat) (hn : n ≤ 100) : PFun Tryz.prog (some p) src 10 [sp p, iv n] (ClaimsQ n) := by
  refine pfun_intro Tryz.func10 rfl (by simp [Tryz.f10]) (by kernel_rfl) ?_
  intro E hP hr hs hW hN
  have up : ∀ {f : FuncId} {args : List AV} {Q : AV → Prop}, PFun Tryz.prog (some p) src f args Q → PFun Tryz.prog E.row E.src f args Q := fun h => hr ▸ hs ▸ h
  have w1 := wrap_in ((n : Int) + 1) (by omega)
  simp -dsimp -implicitDefEqProofs [-getElem?_pos, go_sem, hP, w1]
  refine callB_flat (up (N_pf p src ((n : Int) + 1) (by omega))) hP en_16 (args_same (by simp -dsimp -implicitDefEqProofs [-getElem?_pos, go_sem])) (NQ_ex _) (NQ_flat _) ?_
  rintro r ⟨z, rfl, _, hz⟩
  have hz := hz (by omega)
  obtain ⟨c, rfl⟩ : ∃ c : Nat, z = c := ⟨z.toNat, by omega⟩
  simp -dsimp -implicitDefEqProofs [-getElem?_pos, go_sem, hP]
  refine aloop_own 5 81 6 (by simp -dsimp -implicitDefEqProofs [-getElem?_pos, go_sem]) ?_
  obtain ⟨I, hI⟩ : ∃ I : Nat → St → Prop, I = fun m s => ∃ (id : Nat) (l : List TClaim), m ≤ c ∧ l.length + m = c ∧ GenCs l ∧ s.t 0 = sp p ∧ s.t 5 = .sref id 0 l.length ∧ s.t 6 = iv m ∧ s.H[id]? = some (some ⟨81, 6, encL TClaim.cells l⟩) := ⟨_, rfl⟩
  refine aloop0 I (c) (by rw [hN]; rfl) ?_ ?_
  · rw [hI]
    exact ⟨0, [], by omega, by simp, fun i y h => by simp at h, by simp -dsimp -implicitDefEqProofs [-getElem?_pos, go_sem], by simp -dsimp -implicitDefEqProofs [-getElem?_pos, go_sem], by simp -dsimp -implicitDefEqProofs [-getElem?_pos, go_sem], by simp -dsimp -implicitDefEqProofs [-getElem?_pos, go_sem, encL]⟩
  intro m s hs'
  rw [hI] at hs'
  obtain ⟨id, l, hk, hl, hg, t0, t5, t6, hH⟩ := hs'
  have ltH := (List.getElem?_eq_some_iff.1 hH).1
  simp -dsimp -implicitDefEqProofs [-getElem?_pos, go_sem, hP, t6]
  refine condP (fun h => ?_) (fun h => ?_)
  · have hm : 0 < m := by simpa using h
    have wm := wrap_in ((m : Int) - 1) (by omega)
    have w3 := wrap_in ((l.length : Int) * 3) (by omega)
    have w4 := wrap_in ((l.length : Int) * 3 + 1) (by omega)
    simp -dsimp -implicitDefEqProofs [-getElem?_pos, go_sem, hP, t5, t0, hH]
    refine callB_isQ (up (pick_pf p src [5, 10, 10, 100, 250] (by simp))) hP en_7 (by simp -dsimp -implicitDefEqProofs [-getElem?_pos, go_sem]) (picks_ex (by simp)) ?_
    rintro r ⟨m1, rfl, a1⟩ _
    simp -dsimp -implicitDefEqProofs [-getElem?_pos, go_sem, hP, t5, t0, hH, w3, w4, encL_len]
    refine callB_isQ (up (range_pf p src 1 3 (by omega) (by omega))) hP en_28 (by simp -dsimp -implicitDefEqProofs [-getElem?_pos, go_sem]) (ranges_ex _ _ (by omega)) ?_
    rintro r ⟨m2, rfl, a2, _⟩ _
    have a2 := a2 (by omega)
    simp -dsimp -implicitDefEqProofs [-getElem?_pos, go_sem, hP, t5, t0, hH]
    refine callB_isQ (up (N_pf p src 60 (by omega))) hP en_16 (by simp -dsimp -implicitDefEqProofs [-getElem?_pos, go_sem]) ⟨_, ⟨0, rfl, by omega, by omega⟩, .sc⟩ ?_
    rintro r ⟨m3, rfl, _, a3⟩ _
    have a3 := a3 (by omega)
    simp -dsimp -implicitDefEqProofs [-getElem?_pos, go_sem, hP, t5, t0, hH]
    refine callB_isQ (up (ccode_pf p src)) hP en_29 (by simp -dsimp -implicitDefEqProofs [-getElem?_pos, go_sem]) (strC_ex (by simp [codesC])) ?_
    rintro r ⟨b, rfl, hb⟩ _
    simp -dsimp -implicitDefEqProofs [-getElem?_pos, go_sem, hP, t5, t0, hH, ltH, encL_len, t6, wm]
    refine ⟨by omega, by omega, m - 1, by omega, ?_⟩
    rw [hI]
    refine ⟨s.H.length, l ++ [⟨(l.length : Int) * 3 + 1, m2, m1, m1, m3, b⟩], by omega, by simp; omega, ?_, by simp -dsimp -implicitDefEqProofs [-getElem?_pos, go_sem, t0], by simp -dsimp -implicitDefEqProofs [-getElem?_pos, go_sem], ?_, by simp -dsimp -implicitDefEqProofs [-getElem?_pos, go_sem, encL, cClm]⟩
    · intro i y hy
      by_cases e : i < l.length
      · rw [List.getElem?_append_left e] at hy
        exact hg i y hy
      · have lt := (List.getElem?_eq_some_iff.1 hy).1
        rw [List.length_append, List.length_singleton] at lt
        have ei : i = l.length := by omega
        subst ei
        rw [List.getElem?_append_right (Nat.le_refl _), Nat.sub_self] at hy
        cases hy
        exact ⟨by simp only; omega, a2, a1, rfl, a3, hb⟩
    · simp -dsimp -implicitDefEqProofs [-getElem?_pos, go_sem, hP]
      omega
  · have hm : m = 0 := by
      have : ¬ 0 < m := by simpa using h
      omega
    simp -dsimp -implicitDefEqProofs [-getElem?_pos, go_sem, hP, t5]
    refine done (x := claimsL l) ?_ ⟨l, rfl, by omega, hg⟩ ?_ <;> rw [view_sref, hH, viewS_some]
    · rw [List.drop_zero, List.take_of_length_le (by simp [encL])]
      exact imm_claims l
    · rw [List.drop_zero, List.take_of_length_le (by simp [encL])]
theorem GenCl.pay {i : Nat} {y : TClaim} (h : GenCl i y) (hi : i ≤ 100) : payB y = true := by
  obtain ⟨h1, h2, h3, h4, h5, h6⟩ := h
  have h3' : 5 ≤ y.Amount ∧ y.Amount ≤ 250 := by simp at h3; omega
  have hc := (codesC_ok h6).1
  exact payB_iff.2 ⟨by omega, by omega, by omega, by omega, by omega, hc⟩
end Go.Proofs.YtpllcolbcahicaaGreatDoor
namespace Go.PA
open Go.RowKit
abbrev CS := List AV × Heap
def setP : List AV → Nat → AV → List AV
  | [], 0, v => [v]
  | [], n + 1, v => .sc undef :: setP [] n v
  | _ :: l, 0, v => v :: l
  | a :: l, n + 1, v => a :: setP l n v
theorem initT_setP : ∀ (l : List AV) (i : Nat) (v : AV), initT (setP l i v) = upd (initT l) i v := by
  have key : ∀ (l : List AV) (i : Nat) (v : AV) (j : Nat), (setP l i v).getD j (.sc undef) = if j = i then v else l.getD j (.sc undef) := by
    intro l
    induction l with
    | nil =>
      intro i
      induction i with
      | zero => intro v j; cases j <;> simp [setP]
      | succ i ih => intro v j; cases j with
        | zero => simp [setP]
        | succ j => simpa [setP] using ih v j
    | cons a l ih =>
      intro i v j
      cases i with
      | zero => cases j <;> simp [setP]
      | succ i => cases j with
        | zero => simp [setP]
        | succ j => simpa [setP] using ih i v j
  intro l i v
  funext j
  exact key l i v j
def CS.st (s : CS) : St := ⟨initT s.1, s.2⟩
def putL (l : List AV) (d : Option Tmp) (x : AV) : List AV := match d with
  | some d => setP l d x
  | none => l
theorem putL_t (l : List AV) (d : Option Tmp) (x : AV) : initT (putL l d x) = putT (initT l) d x := by
  cases d
  · rfl
  · exact initT_setP _ _ _
def immB : Nat → AV → Bool
  | 0, _ => false
  | _, .sc _ => true
  | _, .nil => true
  | _, .imap _ => true
  | n + 1, .agg cs => cs.all (immB n)
  | n + 1, .tup cs => cs.all (immB n)
  | n + 1, .iref cs => cs.all (immB n)
  | n + 1, .fn _ cs => cs.all (immB n)
  | n + 1, .list _ es => es.all fun e => e.all (immB n)
  | _, _ => false
theorem immB_imm : ∀ (n : Nat) (a : AV), immB n a = true → Imm a
  | 0, _, h => by simp [immB] at h
  | n + 1, a, h => by
    cases a <;> simp only [immB, List.all_eq_true, reduceCtorEq] at h
    case sc => exact .sc
    case nil => exact .nil
    case imap => exact .imap
    case agg cs => exact .agg fun a ha => immB_imm n a (h a ha)
    case tup cs => exact .tup fun a ha => immB_imm n a (h a ha)
    case iref cs => exact .iref fun a ha => immB_imm n a (h a ha)
    case fn f cs => exact .fn fun a ha => immB_imm n a (h a ha)
    case list k es => exact .list fun e he a ha => immB_imm n a (h e he a ha)
def flatB : Nat → AV → Bool
  | 0, _ => false
  | _, .sc _ => true
  | _, .nil => true
  | n + 1, .agg cs => cs.all (flatB n)
  | n + 1, .tup cs => cs.all (flatB n)
  | _, _ => false
theorem flatB_flat : ∀ (n : Nat) (a : AV), flatB n a = true → Flat a
  | 0, _, h => by simp [flatB] at h
  | n + 1, a, h => by
    cases a <;> simp only [flatB, List.all_eq_true, reduceCtorEq] at h
    case sc => exact .sc
    case nil => exact .nil
    case agg cs => exact .agg fun a ha => flatB_flat n a (h a ha)
    case tup cs => exact .tup fun a ha => flatB_flat n a (h a ha)
def valEq : Value → Value → Bool
  | .int k a, .int k' b => decide (k = k') && decide (a = b)
  | .bool a, .bool b => decide (a = b)
  | .string a, .string b => decide (a = b)
  | _, _ => false
theorem valEq_eq {v u : Value} (h : valEq v u = true) : v = u := by
  cases v <;> cases u <;> simp_all [valEq]
def listEq {α : Type} (f : α → α → Bool) : List α → List α → Bool
  | [], [] => true
  | a :: l, b :: r => f a b && listEq f l r
  | _, _ => false
theorem listEq_eq {α : Type} {f : α → α → Bool} (hf : ∀ a b, f a b = true → a = b) : ∀ {l r : List α}, listEq f l r = true → l = r
  | [], [], _ => rfl
  | a :: l, b :: r, h => by
    simp only [listEq, Bool.and_eq_true] at h
    rw [hf _ _ h.1, listEq_eq hf h.2]
  | [], _ :: _, h => by simp [listEq] at h
  | _ :: _, [], h => by simp [listEq] at h
def avEq : Nat → AV → AV → Bool
  | 0, _, _ => false
  | _ + 1, .sc v, .sc u => valEq v u
  | _ + 1, .nil, .nil => true
  | n + 1, .agg xs, .agg ys => listEq (avEq n) xs ys
  | n + 1, .tup xs, .tup ys => listEq (avEq n) xs ys
  | n + 1, .list k xs, .list k' ys => decide (k = k') && listEq (listEq (avEq n)) xs ys
  | n + 1, .iref xs, .iref ys => listEq (avEq n) xs ys
  | n + 1, .fn f xs, .fn g ys => decide (f = g) && listEq (avEq n) xs ys
  | _ + 1, .ref i j k, .ref i' j' k' => decide (i = i') && decide (j = j') && decide (k = k')
  | _ + 1, .sref i j k, .sref i' j' k' => decide (i = i') && decide (j = j') && decide (k = k')
  | _ + 1, _, _ => false
theorem avEq_eq : ∀ (n : Nat) {a b : AV}, avEq n a b = true → a = b
  | 0, _, _, h => by simp [avEq] at h
  | n + 1, a, b, h => by
    have ih : ∀ x y, avEq n x y = true → x = y := fun x y => avEq_eq n
    cases a <;> cases b <;> simp only [avEq, reduceCtorEq, Bool.and_eq_true, decide_eq_true_eq] at h
    case sc v u => rw [valEq_eq h]
    case nil => rfl
    case agg xs ys => rw [listEq_eq ih h]
    case tup xs ys => rw [listEq_eq ih h]
    case list k xs k' ys =>
      obtain ⟨rfl, h⟩ := h
      rw [listEq_eq (fun _ _ => listEq_eq ih) h]
    case iref xs ys => rw [listEq_eq ih h]
    case fn f xs g ys =>
      obtain ⟨rfl, h⟩ := h
      rw [listEq_eq ih h]
    case ref i j k i' j' k' =>
      obtain ⟨⟨rfl, rfl⟩, rfl⟩ := h
      rfl
    case sref i j k i' j' k' =>
      obtain ⟨⟨rfl, rfl⟩, rfl⟩ := h
      rfl
def objEq : Option AObj → Option AObj → Bool
  | none, none => true
  | some o, some o' => decide (o.ty = o'.ty) && decide (o.k = o'.k) && listEq (listEq (avEq 6)) o.es o'.es
  | _, _ => false
theorem objEq_eq {a b : Option AObj} (h : objEq a b = true) : a = b := by
  cases a with
  | none => cases b with
    | none => rfl
    | some o => simp [objEq] at h
  | some o => cases b with
    | none => simp [objEq] at h
    | some o' =>
      obtain ⟨ty, k, es⟩ := o
      obtain ⟨ty', k', es'⟩ := o'
      simp only [objEq, Bool.and_eq_true, decide_eq_true_eq] at h
      obtain ⟨⟨rfl, rfl⟩, h⟩ := h
      rw [listEq_eq (fun _ _ => listEq_eq fun _ _ => avEq_eq 6) h]
def agreeB (D : Nat → Bool) : Nat → Heap → Heap → Bool
  | _, [], _ => true
  | i, x :: l, r => match r with
    | y :: r => (!D i || objEq x y) && agreeB D (i + 1) l r
    | [] => false
theorem agreeB_get {D : Nat → Bool} : ∀ {H H' : Heap} {i : Nat}, agreeB D i H H' = true → ∀ j, j < H.length → D (i + j) = true → H'[j]? = H[j]?
  | [], _, _, _, j, hj, _ => by simp at hj
  | x :: l, [], i, h, _, _, _ => by simp [agreeB] at h
  | x :: l, y :: r, i, h, j, hj, hd => by
    simp only [agreeB, Bool.and_eq_true, Bool.or_eq_true, Bool.not_eq_true'] at h
    match j, hj, hd with
    | 0, _, hd =>
      have := h.1.resolve_left (by rw [Nat.add_zero] at hd; rw [hd]; simp)
      simp [objEq_eq this]
    | j + 1, hj, hd =>
      rw [List.getElem?_cons_succ, List.getElem?_cons_succ]
      exact agreeB_get h.2 j (by simpa using hj) (by rw [show i + 1 + j = i + (j + 1) by omega]; exact hd)
def bindL {α β : Type} (f : α → Option (List β)) : List α → Option (List β)
  | [] => some []
  | a :: l => match f a with
    | some xs => match bindL f l with
      | some ys => some (xs ++ ys)
      | none => none
    | none => none
theorem bindL_mem {α β : Type} {f : α → Option (List β)} : ∀ {l : List α} {ys : List β}, bindL f l = some ys → ∀ a, a ∈ l → ∃ xs, f a = some xs ∧ ∀ x, x ∈ xs → x ∈ ys
  | [], ys, h, a, ha => by cases ha
  | b :: l, ys, h, a, ha => by
    simp only [bindL] at h
    split at h
    · rename_i xs hx
      split at h
      · rename_i zs hz
        simp only [Option.some.injEq] at h
        subst h
        rcases List.mem_cons.1 ha with rfl | ha
        · exact ⟨xs, hx, fun x hx => by simp [hx]⟩
        · obtain ⟨us, h1, h2⟩ := bindL_mem hz a ha
          exact ⟨us, h1, fun x hx => by simp [h2 x hx]⟩
      · cases h
    · cases h
def xclear (P : Program) (t : TypeId) (H : Heap) (x : AV) : Option Heap := match x, elemOf P t with
  | .sref id lo dn, some e => match H[id]?, zeros P e with
    | some (some o), some zs => if o.k = szOf P e ∧ 0 < o.k ∧ 0 < dn ∧ lo ≤ o.es.length then some (H.set id (some { o with es := o.es.take lo ++ List.replicate dn zs ++ o.es.drop (lo + dn) })) else none
    | _, _ => none
  | .list _ [], some _ => some H
  | _, _ => none
abbrev Run := FuncId → List AV → Heap → Option (List (AV × Heap))
def xeff (P : Program) (call : Run) (op : Op) (ev : Operand → AV) (H : Heap) : Option (List (AV × Heap)) :=
  match op with
  | .store t a x => (astore P t H (ev a) (ev x)).map fun H' => [(.sc undef, H')]
  | .alloc t => (zeros P t).map fun zs => [(.ref H.length 0 0, H ++ [some ⟨t, szOf P t, [zs]⟩])]
  | .box t x => ((ev x).cells?).map fun xs => [(.ref H.length 0 0, H ++ [some ⟨t, xs.length, [xs]⟩])]
  | .makeSlice t l c => match amake P t H (ev l) (ev c) with
    | some (r, H', m, B) => if (B : Int) * m ≤ 281474976710656 ∧ m ≤ 9223372036854775807 then some [(r, H')] else none
    | none => none
  | .buildSlice t 0 parts => match elemOf P t with
    | some e => if knownT P e = true ∧ parts.size = 0 then some [(.sref H.length 0 0, H ++ [some ⟨e, szOf P e, []⟩])] else none
    | none => none
  | .makeMap _ none => some [(.mref H.length, H ++ [some ⟨0, 2, []⟩])]
  | .mapUpdate t x k v => (aupdate P t H (ev x) (ev k) (ev v)).map fun H' => [(.sc undef, H')]
  | .mapEntry .. => none
  | .entryStore .. => none
  | .range _ _ => none
  | .next _ _ => none
  | .call c => match c.callee with
    | .builtin .append => if fullBase (c.args.toList.map ev) = true then none else match c.args.toList, c.argTypes.toList with
      | [s, x], [t, t'] => if t = t' then match aappend P t H (ev s) (ev x) with
        | some (r, H', N, B) => if N ≤ 9223372036854775807 ∧ N * B ≤ 140737488355328 then some [(r, H')] else none
        | none => none else none
      | _, _ => none
    | .builtin .copy => none
    | .builtin .clear => match c.args.toList, c.argTypes.toList with
      | [x], [t] => (xclear P t H (ev x)).map fun H' => [(.tup [], H')]
      | _, _ => none
    | .value f => match ev f with
      | .fn g caps => if enterable P g = true then call g (c.args.toList.map ev ++ caps) H else none
      | _ => none
    | _ => (aread P (.call c) ev H).map fun v => [(v, H)]
  | op => (aread P op ev H).map fun v => [(v, H)]
section
variable {E : Env}
abbrev IsL (L : List (AV × Heap)) : AV → Heap → Prop := fun x K => (x, K) ∈ L
abbrev CallOk (E : Env) (call : Run) : Prop := ∀ g args H L, call g args H = some L → ACall E g args H (IsL L)
abbrev RunOk (P : Program) (run : Run) : Prop := ∀ g args H L, run g args H = some L → ∀ row src, MFun P row src g args H (IsL L)
theorem xeff_sound {call : Run} (hc : CallOk E call) {op : Op} {ev : Operand → AV} {H : Heap} {L : List (AV × Heap)}
    (h : xeff E.P call op ev H = some L) : AEff E op ev H (IsL L) := by
  have rd : ∀ {o : Option AV}, o.map (fun v => [(v, H)]) = some L → (match o with | some v => IsL L v H | none => False) := fun {o} h => by
    cases o with
    | none => simp at h
    | some v => simp only [Option.map_some, Option.some.injEq] at h; subst h; exact List.mem_singleton.2 rfl
  have one : ∀ {x : AV} {K : Heap}, some [(x, K)] = some L → IsL L x K := fun h => by
    simp only [Option.some.injEq] at h
    subst h
    exact List.mem_singleton.2 rfl
  unfold xeff at h
  unfold AEff
  split at h
  · simp only [Option.map_eq_some_iff] at h
    obtain ⟨K, hK, rfl⟩ := h
    simp only [hK]
    exact List.mem_singleton.2 rfl
  · simp only [Option.map_eq_some_iff] at h
    obtain ⟨K, hK, rfl⟩ := h
    simp only [hK]
    exact List.mem_singleton.2 rfl
  · simp only [Option.map_eq_some_iff] at h
    obtain ⟨K, hK, rfl⟩ := h
    simp only [hK]
    exact List.mem_singleton.2 rfl
  · split at h
    · rename_i hm
      split at h
      · rename_i hb
        simp only [hm]
        exact ⟨hb.1, hb.2, one h⟩
      · cases h
    · cases h
  · split at h
    · rename_i e he
      split at h
      · rename_i hb
        simp only [he, if_pos hb]
        exact one h
      · cases h
    · cases h
  · exact one h
  · simp only [Option.map_eq_some_iff] at h
    obtain ⟨K, hK, rfl⟩ := h
    simp only [hK]
    exact List.mem_singleton.2 rfl
  · cases h
  · cases h
  · cases h
  · cases h
  · rename_i c
    split at h
    · rename_i hcal
      simp only [hcal]
      split at h
      · cases h
      · rename_i hf
        rw [if_neg hf]
        split at h
        · rename_i s x t t' h1 h2
          split at h
          · rename_i htt
            split at h
            · rename_i ha
              split at h
              · rename_i hb
                simp only [h1, h2, ha]
                exact ⟨htt, hb.1, hb.2, one h⟩
              · cases h
            · cases h
          · cases h
        · cases h
    · cases h
    · rename_i hcal
      simp only [hcal]
      split at h
      · rename_i x t h1 h2
        simp only [Option.map_eq_some_iff] at h
        obtain ⟨K, hK, rfl⟩ := h
        have e2 : c.argTypes = #[t] := Array.toList_inj.1 h2
        rw [h1, e2]
        unfold xclear at hK
        split at hK
        · rename_i id lo dn e hx he
          split at hK
          · rename_i o zs ho hz
            split at hK
            · rename_i hc'
              simp only [Option.some.injEq] at hK
              subst hK
              rw [List.map_cons, List.map_nil, hx]
              exact buiB_clear (b := .mk) (.inl rfl) ho he hc'.1 hc'.2.1 hz hc'.2.2.1 hc'.2.2.2 (List.mem_singleton.2 rfl)
            · cases hK
          · cases hK
        · rename_i k e hx he
          simp only [Option.some.injEq] at hK
          subst hK
          rw [List.map_cons, List.map_nil, hx]
          exact buiB_clear_nil (b := .mk) he (List.mem_singleton.2 rfl)
        · cases hK
      · cases h
    · rename_i f hcal
      simp only [hcal]
      split at h
      · rename_i g caps hg
        split at h
        · rename_i hen
          simp only [hg]
          exact .inl ⟨hen, hc _ _ _ _ h⟩
        · cases h
      · cases h
    · rename_i h1 h2 h3 h4
      dsimp only
      split
      · rename_i hcal; exact (h1 hcal).elim
      · rename_i hcal; exact (h2 hcal).elim
      · rename_i hcal; exact (h3 hcal).elim
      · rename_i f hcal; exact (h4 f hcal).elim
      · exact rd h
  · rename_i h1 h2 h3 h4 h5 h6 h7 ha hb h8 h9 h10
    split
    · exact (h1 _ _ _ rfl).elim
    · exact (h2 _ rfl).elim
    · exact (h3 _ _ rfl).elim
    · exact (h4 _ _ _ rfl).elim
    · exact (h5 _ _ rfl).elim
    · exact (h6 _ rfl).elim
    · exact (h7 _ _ _ _ rfl).elim
    · exact (ha _ _ _ rfl).elim
    · exact (hb _ _ _ _ rfl).elim
    · exact (h8 _ _ rfl).elim
    · exact (h9 _ _ rfl).elim
    · exact (h10 _ rfl).elim
    · exact rd h
def xstep (P : Program) (call : Run) (ops : Array Oper) (o : Oper) (s : CS) : Option (List CS) :=
  match aguard ops o (initT s.1) with
  | some true => (xeff P call o.op (St.eval ⟨initT s.1, s.2⟩) s.2).map fun L => L.map fun y => (putL s.1 o.dst y.1, y.2)
  | some false => some [(putL s.1 o.dst (.sc undef), s.2)]
  | none => none
def xops (P : Program) (call : Run) (ops : Array Oper) : List Oper → CS → Option (List CS)
  | [], s => some [s]
  | o :: l, s => match xstep P call ops o s with
    | some ss => bindL (xops P call ops l) ss
    | none => none
def xr (D : Nat → Bool) : Nat → Heap → Heap
  | _, [] => []
  | i, x :: l => (if D i then x else none) :: xr D (i + 1) l
theorem xr_get (D : Nat → Bool) : ∀ (H : Heap) (i j : Nat), (xr D i H)[j]? = H[j]?.map fun x => if D (i + j) then x else none
  | [], i, j => by simp [xr]
  | x :: l, i, 0 => by simp [xr]
  | x :: l, i, j + 1 => by rw [xr, List.getElem?_cons_succ, xr_get D l, List.getElem?_cons_succ, show i + 1 + j = i + (j + 1) by omega]
theorem xr_eq (D : Nat → Bool) (H : Heap) : xr D 0 H = restr D H := by
  apply List.ext_getElem?
  intro j
  rw [xr_get, restr, List.getElem?_mapIdx, Nat.zero_add]
def xtouch (op : Op) (ev : Operand → AV) : Option (List Nat) := match op with
  | .store _ a _ => match ev a with
    | .ref id _ _ => some [id]
    | _ => none
  | .alloc _ => some []
  | .box _ _ => some []
  | .makeSlice _ _ _ => some []
  | .call c => match c.callee with
    | .builtin .append => match c.args.toList.map ev with
      | .sref id _ _ :: _ => some [id]
      | .nil :: _ => some []
      | _ => none
    | _ => none
  | _ => none
theorem get_app {H : Heap} {x : Option AObj} {id : Nat} (h : id < H.length) : (H ++ [x])[id]? = H[id]? := List.getElem?_append_left h
theorem xtouch_sound {P : Program} {call : Run} {op : Op} {ev : Operand → AV} {H : Heap} {L : List (AV × Heap)} {X : List Nat}
    (h : xeff P call op ev H = some L) (ht : xtouch op ev = some X) (id : Nat) (hid : id < H.length) (hX : id ∉ X) {r : AV} {H' : Heap} (hL : (r, H') ∈ L) : H'[id]? = H[id]? := by
  unfold xtouch at ht
  split at ht
  · rename_i t a x
    simp only [xeff, Option.map_eq_some_iff] at h
    obtain ⟨K, hK, rfl⟩ := h
    simp only [List.mem_singleton, Prod.mk.injEq] at hL
    obtain ⟨_, rfl⟩ := hL
    split at ht
    · rename_i i j k ha
      simp only [Option.some.injEq] at ht
      subst ht
      rw [ha] at hK
      unfold astore at hK
      split at hK
      · rename_i i' _ _ _ _ heq _
        cases heq
        split at hK
        · split at hK
          · split at hK
            · simp only [Option.some.injEq] at hK
              subst hK
              rw [List.getElem?_set_ne (by simpa using Ne.symm (by simpa using hX))]
            · cases hK
          · cases hK
        · cases hK
      · cases hK
    · cases ht
  · simp only [xeff, Option.map_eq_some_iff] at h
    obtain ⟨K, hK, rfl⟩ := h
    simp only [List.mem_singleton, Prod.mk.injEq] at hL
    obtain ⟨_, rfl⟩ := hL
    exact get_app hid
  · simp only [xeff, Option.map_eq_some_iff] at h
    obtain ⟨K, hK, rfl⟩ := h
    simp only [List.mem_singleton, Prod.mk.injEq] at hL
    obtain ⟨_, rfl⟩ := hL
    exact get_app hid
  · simp only [xeff] at h
    split at h
    · rename_i hm
      split at h
      · simp only [Option.some.injEq] at h
        subst h
        simp only [List.mem_singleton, Prod.mk.injEq] at hL
        obtain ⟨_, rfl⟩ := hL
        unfold amake at hm
        split at hm
        · split at hm
          · split at hm
            · simp only [Option.some.injEq, Prod.mk.injEq] at hm
              obtain ⟨_, rfl, _⟩ := hm
              exact get_app hid
            · cases hm
          · cases hm
        · cases hm
      · cases h
    · cases h
  · rename_i c
    split at ht
    · rename_i hcal
      simp only [xeff, hcal] at h
      split at h
      · cases h
      · split at h
        · rename_i s x t t' h1 h2
          split at h
          · split at h
            · rename_i ha
              split at h
              · simp only [Option.some.injEq] at h
                subst h
                simp only [List.mem_singleton, Prod.mk.injEq] at hL
                obtain ⟨_, rfl⟩ := hL
                rw [h1] at ht
                unfold aappend at ha
                split at ha
                · cases ha
                · split at ha
                  · split at ha
                    · cases ha
                    · split at ha
                      · simp only [Option.some.injEq, Prod.mk.injEq] at ha
                        obtain ⟨_, rfl, _⟩ := ha
                        exact get_app hid
                      · rename_i hs
                        simp only [List.map_cons, hs, Option.some.injEq] at ht
                        subst ht
                        split at ha
                        · split at ha
                          · simp only [Option.some.injEq, Prod.mk.injEq] at ha
                            obtain ⟨_, rfl, _⟩ := ha
                            rw [get_app (by simpa using hid), List.getElem?_set_ne (by simpa using Ne.symm (by simpa using hX))]
                          · cases ha
                        · cases ha
                      · cases ha
                  · cases ha
              · cases h
            · cases h
          · cases h
        · cases h
    · cases ht
  · cases ht
def xsame : List (AV × Heap) → Option AV
  | [] => none
  | (r, H) :: L => if immB 6 (view H r) && L.all (fun y => avEq 6 (view H r) (view y.2 y.1)) then some (view H r) else none
theorem xsame_sound {L : List (AV × Heap)} {v : AV} (h : xsame L = some v) : Imm v ∧ ∀ y, y ∈ L → view y.2 y.1 = v := by
  unfold xsame at h
  split at h
  · cases h
  · rename_i r H L
    split at h
    · rename_i hc
      simp only [Bool.and_eq_true, List.all_eq_true] at hc
      simp only [Option.some.injEq] at h
      subst h
      refine ⟨immB_imm 6 _ hc.1, fun y hy => ?_⟩
      rcases List.mem_cons.1 hy with rfl | hy
      · rfl
      · exact (avEq_eq 6 (hc.2 y hy)).symm
    · cases h
def xpure (run : Run) (g : FuncId) (args : List AV) : Option AV :=
  if args.all (immB 6) then match run g args [] with
    | some L => xsame L
    | none => none
  else none
def xdstep (P : Program) (run call : Run) (D : Nat → Bool) (n : Nat) (S T : List Nat) (ops : Array Oper) (k : Nat) (o : Oper) (s : CS) : Option (List CS) :=
  match aguard ops o (initT s.1) with
  | some true =>
    if T.contains k then (match o.op with
      | .call c => match c.callee with
        | .value f => match St.eval ⟨initT s.1, s.2⟩ f with
          | .fn g caps => if enterable P g = true then (xpure run g (c.args.toList.map (St.eval ⟨initT s.1, s.2⟩) ++ caps)).map fun x => [(putL s.1 o.dst x, s.2)] else none
          | _ => none
        | _ => none
      | _ => none)
    else if isRead o.op then (aread P o.op (St.eval ⟨initT s.1, s.2⟩) (if S.contains k then s.2 else xr D 0 s.2)).map fun x => [(putL s.1 o.dst x, s.2)]
    else if S.contains k then (xeff P call o.op (St.eval ⟨initT s.1, s.2⟩) s.2).map fun L => L.map fun y => (putL s.1 o.dst y.1, y.2)
    else match xtouch o.op (St.eval ⟨initT s.1, s.2⟩) with
      | some X => if n ≤ s.2.length && X.all (fun i => !D i) then (xeff P call o.op (St.eval ⟨initT s.1, s.2⟩) s.2).map fun L => L.map fun y => (putL s.1 o.dst y.1, y.2) else none
      | none => match xeff P call o.op (St.eval ⟨initT s.1, s.2⟩) s.2 with
        | some L => if n ≤ s.2.length && L.all (fun y => agreeB D 0 s.2 y.2) then some (L.map fun y => (putL s.1 o.dst y.1, y.2)) else none
        | none => none
  | some false => some [(putL s.1 o.dst (.sc undef), s.2)]
  | none => none
def xdops (P : Program) (run call : Run) (D : Nat → Bool) (n : Nat) (S T : List Nat) (ops : Array Oper) : List Oper → Nat → CS → Option (List CS)
  | [], _, s => some [s]
  | o :: l, k, s => match xdstep P run call D n S T ops k o s with
    | some ss => bindL (xdops P run call D n S T ops l (k + 1)) ss
    | none => none
def xorders (P : Program) (run call : Run) (D : Nat → Bool) (n : Nat) (S T : List Nat) (ops : Array Oper) : Nat → Array Bool → CS → Option (List CS)
  | 0, listed, s => if Region.ready .any ops listed = [] then some [s] else none
  | k + 1, listed, s => match Region.ready .any ops listed with
    | [] => none
    | R => let one := fun i => match ops[i]? with
        | some o => match xdstep P run call D n S T ops i o s with
          | some ss => bindL (xorders P run call D n S T ops k (listed.setIfInBounds i true)) ss
          | none => none
        | none => none
      match R.find? fun i => pickOk ops S T listed i with
      | some i => one i
      | none => bindL one R
structure DH where
  S : List Nat
  T : List Nat
  X : List Nat
def idOf : AV → Option Nat
  | .ref id _ _ => some id
  | .sref id _ _ => some id
  | .mref id => some id
  | _ => none
def DH.D (d : DH) (s : CS) : Nat → Bool := fun i => decide (i < s.2.length) && d.X.all fun j => !(idOf (initT s.1 j) == some i)
def xregion (P : Program) (run call : Run) (d : DH) (ops : Array Oper) (s : CS) : Option (List CS) :=
  if regionX ops d.S d.T then xdops P run call (d.D s) s.2.length d.S d.T ops ops.toList 0 s
  else xorders P run call (d.D s) s.2.length d.S d.T ops ops.size (Array.replicate ops.size false) s
abbrev Outs := Option (List (Exit × CS))
def xcode (P : Program) (N : Nat) (hint : Nat → DH) (run : Run) (call : Nat → Run) : Nat → Code → CS → Outs
  | 0, _, _ => none
  | n + 1, c, s => match c with
    | .skip => some [(.normal, s)]
    | .region id ops d => if dstsOk N ops then (match (if d then xregion P run (call id) (hint id) ops s else xops P (call id) ops ops.toList s) with
      | some ss => some (ss.map fun s' => (.normal, s'))
      | none => none) else none
    | .seq a b => match xcode P N hint run call n a s with
      | some rs => bindL (fun r => match r.1 with
        | .normal => xcode P N hint run call n b r.2
        | e => some [(e, r.2)]) rs
      | none => none
    | .cond x a b => match St.eval ⟨initT s.1, s.2⟩ x with
      | .sc (.bool true) => xcode P N hint run call n a s
      | .sc (.bool false) => xcode P N hint run call n b s
      | _ => none
    | .block id c => match xcode P N hint run call n c s with
      | some rs => some (rs.map fun r => match r.1 with
        | .exit i => if i = id then (.normal, r.2) else (.exit i, r.2)
        | e => (e, r.2))
      | none => none
    | .exit id => some [(.exit id, s)]
    | .label _ => some [(.normal, s)]
    | .ret => some [(.ret, s)]
    | .loop c => match xcode P N hint run call n c s with
      | some rs => bindL (fun r => match r.1 with
        | .normal => xcode P N hint run call n (.loop c) r.2
        | e => some [(e, r.2)]) rs
      | none => none
    | _ => none
abbrev SL (L : List CS) : St → Prop := fun st => ∃ s, s ∈ L ∧ st = ⟨initT s.1, s.2⟩
theorem AStep.mono {ops : Array Oper} {o : Oper} {s : St} {K K' : St → Prop} (h : AStep E ops o s K) (hk : ∀ s', K s' → K' s') : AStep E ops o s K' := by
  unfold AStep at h ⊢
  split
  · rename_i hg; rw [hg] at h; exact AEff.mono h fun x H' hx => hk _ hx
  · rename_i hg; rw [hg] at h; exact hk _ h
  · rename_i hg; rw [hg] at h; exact h
variable {run call : Run}
theorem sl_of {L : List (AV × Heap)} {s : CS} {d : Option Tmp} {x : AV} {K : Heap} (h : (x, K) ∈ L) : SL (L.map fun y => (putL s.1 d y.1, y.2)) ⟨putT (initT s.1) d x, K⟩ :=
  ⟨_, List.mem_map_of_mem h, by rw [← putL_t]⟩
theorem sl_one {l : List AV} {d : Option Tmp} {x : AV} {H : Heap} : SL [(putL l d x, H)] ⟨putT (initT l) d x, H⟩ := ⟨_, List.mem_singleton.2 rfl, by rw [← putL_t]⟩
theorem xstep_sound (hc : CallOk E call) {ops : Array Oper} {o : Oper} {s : CS} {L : List CS} (h : xstep E.P call ops o s = some L) : AStep E ops o ⟨initT s.1, s.2⟩ (SL L) := by
  unfold xstep at h
  unfold AStep
  split at h
  · rename_i hg
    simp only [hg]
    simp only [Option.map_eq_some_iff] at h
    obtain ⟨M, hM, rfl⟩ := h
    exact (xeff_sound hc hM).mono fun x K hx => sl_of hx
  · rename_i hg
    simp only [hg]
    simp only [Option.some.injEq] at h
    subst h
    exact sl_one
  · cases h
theorem AOps.mono {ops : Array Oper} : ∀ (l : List Oper) {s : St} {K K' : St → Prop}, (∀ s, K s → K' s) → AOps E ops l s K → AOps E ops l s K'
  | [], _, _, _, hk, h => hk _ h
  | _ :: l, _, _, _, hk, h => AStep.mono h fun _ h1 => AOps.mono l hk h1
theorem AXOps.mono {D : Nat → Bool} {S T : List Nat} {ops : Array Oper} : ∀ (l : List Oper) (k : Nat) {s : St} {K K' : St → Prop}, (∀ s, K s → K' s) → AXOps D E ops S T l k s K → AXOps D E ops S T l k s K'
  | [], _, _, _, _, hk, h => hk _ h
  | _ :: l, k, _, _, _, hk, h => XStep.mono h fun _ h1 => AXOps.mono l (k + 1) hk h1
theorem xops_sound (hc : CallOk E call) {ops : Array Oper} : ∀ (l : List Oper) {s : CS} {L : List CS}, xops E.P call ops l s = some L → AOps E ops l ⟨initT s.1, s.2⟩ (SL L)
  | [], s, L, h => by simp only [xops, Option.some.injEq] at h; subst h; exact ⟨s, List.mem_singleton.2 rfl, rfl⟩
  | o :: l, s, L, h => by
    simp only [xops] at h
    split at h
    · rename_i ss h1
      refine (xstep_sound hc h1).mono ?_
      rintro _ ⟨s1, hm, rfl⟩
      obtain ⟨M, h2, h3⟩ := bindL_mem h s1 hm
      exact AOps.mono l (fun _ ⟨s2, h4, h5⟩ => ⟨s2, h3 s2 h4, h5⟩) (xops_sound hc l h2)
    · cases h
theorem xpure_sound {P : Program} (hr : RunOk P run) {g : FuncId} {args : List AV} {v : AV} (h : xpure run g args = some v) (row src : Option Nat) :
    PFun P row src g args (· = v) ∧ (∀ a, a ∈ args → Imm a) ∧ Imm v := by
  unfold xpure at h
  split at h
  · rename_i ha
    split at h
    · rename_i L h1
      obtain ⟨hi, hv⟩ := xsame_sound h
      refine ⟨pfun_of_mfun (hr _ _ _ _ h1 row src) ?_, fun a hx => immB_imm 6 a (List.all_eq_true.1 ha a hx), hi⟩
      intro r' K hm
      have := hv _ hm
      dsimp only at this
      exact ⟨v, by rw [this]; exact .refl _, by rw [this]; exact hi, hi, rfl⟩
    · cases h
  · cases h
theorem xdstep_sound (hr : RunOk E.P run) (hc : CallOk E call)
    {D : Nat → Bool} {n : Nat} (hD : ∀ i, D i = true → i < n) {S T : List Nat} {ops : Array Oper} {k : Nat} {o : Oper} {s : CS} {L : List CS} (h : xdstep E.P run call D n S T ops k o s = some L) : XStep D E ops S T k o ⟨initT s.1, s.2⟩ (SL L) := by
  unfold xdstep at h
  unfold XStep
  split at h
  · rename_i hg
    split at h
    · rename_i hT
      rw [if_pos hT]
      unfold QStep QOut
      simp only [hg]
      unfold QEff
      split at h
      · rename_i c hop
        split at h
        · rename_i f hcal
          split at h
          · rename_i g caps hf
            split at h
            · rename_i hen
              simp only [Option.map_eq_some_iff] at h
              obtain ⟨v, hv, rfl⟩ := h
              obtain ⟨h1, h2, h3⟩ := xpure_sound hr hv E.row E.src
              rw [eval_heap _ _ []] at hf
              simp only [hop, hcal, hf]
              have := callQ_is (E := E) (b := .mk) (k := fun x => SL [(putL s.1 o.dst v, s.2)] ⟨putT (initT s.1) o.dst x, s.2⟩) h1 rfl hen h2 h3 sl_one
              rw [eval_heap _ _ []] at this
              exact this
            · cases h
          · cases h
        · cases h
      · cases h
    · rename_i hT
      rw [if_neg hT]
      unfold DStep
      simp only [hg]
      unfold DEff
      split at h
      · rename_i hrd
        rw [if_pos hrd]
        simp only [Option.map_eq_some_iff] at h
        obtain ⟨v, hv, rfl⟩ := h
        have e : rdH (!S.contains k) D s.2 = (if S.contains k = true then s.2 else xr D 0 s.2) := by
          rw [xr_eq]
          cases S.contains k <;> rfl
        dsimp only
        rw [e]
        simp only [hv]
        exact sl_one
      · rename_i hrd
        rw [if_neg hrd]
        split at h
        · rename_i hS
          simp only [Option.map_eq_some_iff] at h
          obtain ⟨M, hv, rfl⟩ := h
          refine (xeff_sound hc hv).mono fun x K hx => ⟨fun hs => ?_, sl_of hx⟩
          rw [hS] at hs
          cases hs
        · split at h
          · rename_i X hX
            split at h
            · rename_i hb
              simp only [Bool.and_eq_true, decide_eq_true_eq, List.all_eq_true, Bool.not_eq_true'] at hb
              simp only [Option.map_eq_some_iff] at h
              obtain ⟨M, hv, rfl⟩ := h
              refine (xeff_sound hc hv).mono fun x K hx => ⟨fun _ id hid => xtouch_sound hv hX id (Nat.lt_of_lt_of_le (hD id hid) hb.1) (fun hm => ?_) hx, sl_of hx⟩
              rw [hb.2 id hm] at hid
              cases hid
            · cases h
          · split at h
            · rename_i M hv
              split at h
              · rename_i hb
                simp only [Bool.and_eq_true, decide_eq_true_eq, List.all_eq_true] at hb
                simp only [Option.some.injEq] at h
                subst h
                exact (xeff_sound hc hv).mono fun x K hx => ⟨fun _ id hid => agreeB_get (hb.2 _ hx) id (Nat.lt_of_lt_of_le (hD id hid) hb.1) (by rw [Nat.zero_add]; exact hid), sl_of hx⟩
              · cases h
            · cases h
  · rename_i hg
    simp only [Option.some.injEq] at h
    subst h
    split
    · unfold QStep QOut
      simp only [hg]
      exact sl_one
    · unfold DStep
      simp only [hg]
      exact sl_one
  · cases h
theorem xdops_sound (hr : RunOk E.P run) (hc : CallOk E call)
    {D : Nat → Bool} {n : Nat} (hD : ∀ i, D i = true → i < n) {S T : List Nat} {ops : Array Oper} : ∀ (l : List Oper) (k : Nat) {s : CS} {L : List CS}, xdops E.P run call D n S T ops l k s = some L → AXOps D E ops S T l k ⟨initT s.1, s.2⟩ (SL L)
  | [], k, s, L, h => by simp only [xdops, Option.some.injEq] at h; subst h; exact ⟨s, List.mem_singleton.2 rfl, rfl⟩
  | o :: l, k, s, L, h => by
    simp only [xdops] at h
    split at h
    · rename_i ss h1
      refine (xdstep_sound hr hc hD h1).mono ?_
      rintro _ ⟨s1, hm, rfl⟩
      obtain ⟨M, h2, h3⟩ := bindL_mem h s1 hm
      exact AXOps.mono l (k + 1) (fun _ ⟨s2, h4, h5⟩ => ⟨s2, h3 s2 h4, h5⟩) (xdops_sound hr hc hD l (k + 1) h2)
    · cases h
theorem xorders_sound (hr : RunOk E.P run) (hc : CallOk E call)
    {D : Nat → Bool} {n : Nat} (hD : ∀ i, D i = true → i < n) {S T : List Nat} {ops : Array Oper} : ∀ (k : Nat) (listed : Array Bool) {s : CS} {L : List CS}, xorders E.P run call D n S T ops k listed s = some L → XAny D E ops S T (SL L) k listed ⟨initT s.1, s.2⟩
  | 0, listed, s, L, h => by
    simp only [xorders] at h
    split at h
    · rename_i h0
      simp only [Option.some.injEq] at h
      subst h
      exact ⟨h0, s, List.mem_singleton.2 rfl, rfl⟩
    · cases h
  | k + 1, listed, s, L, h => by
    simp only [xorders] at h
    split at h
    · cases h
    · rename_i R hne
      have one : ∀ (i : Nat) (M : List CS), (match ops[i]? with
          | some o => match xdstep E.P run call D n S T ops i o s with
            | some ss => bindL (xorders E.P run call D n S T ops k (listed.setIfInBounds i true)) ss
            | none => none
          | none => none) = some M → (∀ x, x ∈ M → x ∈ L) → ∃ o, ops[i]? = some o ∧ XStep D E ops S T i o ⟨initT s.1, s.2⟩ (XAny D E ops S T (SL L) k (listed.setIfInBounds i true)) := fun i M hM hsub => by
        split at hM
        · rename_i o ho
          split at hM
          · rename_i ss h1
            refine ⟨o, ho, (xdstep_sound hr hc hD h1).mono ?_⟩
            rintro _ ⟨s1, hm, rfl⟩
            obtain ⟨M', h2, h3⟩ := bindL_mem hM s1 hm
            exact XAny.mono (fun _ ⟨s2, h4, h5⟩ => ⟨s2, hsub _ (h3 s2 h4), h5⟩) _ _ _ (xorders_sound hr hc hD k _ h2)
          · cases hM
        · cases hM
      split at h
      · rename_i i hi
        obtain ⟨o, ho, hx⟩ := one i L h fun _ h => h
        have hp := List.find?_some hi
        exact xany_pick i ho hp hx
      · refine ⟨fun h0 => (hne h0).elim, fun i hi o ho => ?_⟩
        obtain ⟨M, h1, h2⟩ := bindL_mem h i hi
        obtain ⟨o', ho', hx⟩ := one i M h1 h2
        rw [ho] at ho'
        cases ho'
        exact hx
theorem DH.D_lt (d : DH) (s : CS) : ∀ i, d.D s i = true → i < s.2.length := fun i h => by
  simp only [DH.D, Bool.and_eq_true, decide_eq_true_eq] at h
  exact h.1
theorem xregion_sound (hm : E.P.follows .mixedOrders = true) (hr : RunOk E.P run) (hc : CallOk E call) {d : DH} {ops : Array Oper} {s : CS} {L : List CS} {id : Nat} (hb : dstsOk E.N ops = true) (h : xregion E.P run call d ops s = some L) :
    AWp E (.region id ops true) ⟨initT s.1, s.2⟩ (fun x st => x = .normal ∧ SL L st) := by
  unfold xregion at h
  split at h
  · rename_i hx
    exact awp_drawA (d.D s) d.S d.T hm hb (XAny.mono (K := SL L) (fun st hs => ⟨rfl, hs⟩) _ _ _ (xany_all hx (xdops_sound hr hc (DH.D_lt d s) ops.toList 0 h)))
  · exact awp_drawA (d.D s) d.S d.T hm hb (XAny.mono (K := SL L) (fun st hs => ⟨rfl, hs⟩) _ _ _ (xorders_sound hr hc (DH.D_lt d s) ops.size _ h))
abbrev OL (L : List (Exit × CS)) : Exit → St → Prop := fun x st => ∃ s, (x, s) ∈ L ∧ st = ⟨initT s.1, s.2⟩
theorem xcode_sound (hm : E.P.follows .mixedOrders = true) (hint : Nat → DH) (hr : RunOk E.P run) {call : Nat → Run} (hc : ∀ id, CallOk E (call id)) :
    ∀ (n : Nat) (c : Code) (s : CS) (L : List (Exit × CS)), xcode E.P E.N hint run call n c s = some L → AWp E c ⟨initT s.1, s.2⟩ (OL L) := by
  intro n
  induction n using Nat.strongRecOn with
  | _ n ih =>
    intro c s L h
    cases n with
    | zero => simp [xcode] at h
    | succ n =>
      have ih1 := ih n (Nat.lt_succ_self n)
      have one : ∀ {e : Exit} {s : CS}, some [(e, s)] = some L → OL L e ⟨initT s.1, s.2⟩ := fun h => by
        simp only [Option.some.injEq] at h
        subst h
        exact ⟨_, List.mem_singleton.2 rfl, rfl⟩
      cases c
      case skip => simp only [xcode] at h; exact fun a w r => wp_skip ⟨_, one h, r⟩
      case region id ops d =>
        simp only [xcode] at h
        split at h
        · rename_i hb
          split at h
          · rename_i ss h1
            simp only [Option.some.injEq] at h
            subst h
            cases d
            · simp only [Bool.false_eq_true, if_false] at h1
              refine AWp.mono (awp_region (Q := fun x st => x = .normal ∧ SL ss st) hb (AOps.mono _ (fun s hs => ⟨rfl, hs⟩) (xops_sound (hc id) ops.toList h1))) ?_
              rintro x st ⟨rfl, s1, h2, rfl⟩
              exact ⟨s1, List.mem_map.2 ⟨s1, h2, rfl⟩, rfl⟩
            · simp only [if_true] at h1
              refine AWp.mono (xregion_sound (id := id) hm hr (hc id) hb h1) ?_
              rintro x st ⟨rfl, s1, h2, rfl⟩
              exact ⟨s1, List.mem_map.2 ⟨s1, h2, rfl⟩, rfl⟩
          · cases h
        · cases h
      case seq x y =>
        simp only [xcode] at h
        split at h
        · rename_i rs h1
          intro a w r
          refine wp_seq (wp_mono (ih1 x s _ h1 a w r) ?_)
          rintro e' a' w' ⟨st, ⟨s1, hs, rfl⟩, r'⟩
          obtain ⟨M, h2, h3⟩ := bindL_mem h _ hs
          dsimp only at h2
          cases e' with
          | normal => exact wp_mono (ih1 y s1 _ h2 a' w' r') fun e a w ⟨st, ⟨s2, h4, h5⟩, r2⟩ => ⟨st, ⟨s2, h3 _ h4, h5⟩, r2⟩
          | _ =>
            simp only [Option.some.injEq] at h2
            subst h2
            exact ⟨_, ⟨s1, h3 _ (List.mem_singleton.2 rfl), rfl⟩, r'⟩
        · cases h
      case cond x y z =>
        simp only [xcode] at h
        have he : ∀ {a : Act} {w : World} {v : Value}, Rel E ⟨initT s.1, s.2⟩ a w → St.eval ⟨initT s.1, s.2⟩ x = .sc v → a.eval x = v := fun {a w v} r hx => by
          obtain ⟨ρ, ok, g, _, _, _, hrr⟩ := r
          have := rep_eval hrr x
          rw [hx] at this
          exact rep_sc this
        intro a w r
        split at h
        · rename_i hx
          exact wp_cond_split (he r hx) (fun _ => ih1 y s _ h a w r) (fun e => by cases e)
        · rename_i hx
          exact wp_cond_split (he r hx) (fun e => by cases e) (fun _ => ih1 z s _ h a w r)
        · cases h
      case block id c =>
        simp only [xcode] at h
        split at h
        · rename_i rs h1
          simp only [Option.some.injEq] at h
          subst h
          intro a w r
          refine wp_block (wp_mono (ih1 c s _ h1 a w r) ?_)
          rintro e' a' w' ⟨st, ⟨s1, hs, rfl⟩, r'⟩
          cases e' with
          | exit i =>
            simp only [Exit.inBlock]
            split
            · rename_i hi
              exact ⟨_, ⟨s1, List.mem_map.2 ⟨_, hs, by dsimp only; rw [if_pos hi]⟩, rfl⟩, r'⟩
            · rename_i hi
              exact ⟨_, ⟨s1, List.mem_map.2 ⟨_, hs, by dsimp only; rw [if_neg hi]⟩, rfl⟩, r'⟩
          | _ => exact ⟨_, ⟨s1, List.mem_map.2 ⟨_, hs, rfl⟩, rfl⟩, r'⟩
        · cases h
      case exit id => simp only [xcode] at h; exact fun a w r => wp_exit ⟨_, one h, r⟩
      case label l => simp only [xcode] at h; exact fun a w r => wp_label ⟨_, one h, r⟩
      case ret => simp only [xcode] at h; exact fun a w r => wp_ret ⟨_, one h, r⟩
      case loop c =>
        intro a w r
        refine wp_loop_ghost (fun k a w => k ≤ n + 1 ∧ ∃ s1 M, xcode E.P E.N hint run call k (.loop c) s1 = some M ∧ (∀ x, x ∈ M → x ∈ L) ∧ Rel E ⟨initT s1.1, s1.2⟩ a w) (n + 1) ⟨Nat.le_refl _, s, L, h, fun _ h => h, r⟩ ?_
        rintro k a w ⟨hk, s1, M, h1, hsub, r1⟩
        match k, hk, h1 with
        | 0, _, h1 => simp [xcode] at h1
        | k + 1, hk, h1 =>
          simp only [xcode] at h1
          split at h1
          · rename_i rs h2
            refine wp_mono (ih k (by omega) c s1 _ h2 a w r1) ?_
            rintro e' a' w' ⟨st, ⟨s2, hs, rfl⟩, r'⟩
            obtain ⟨M', h3, h4⟩ := bindL_mem h1 _ hs
            dsimp only at h3
            cases e' with
            | normal => exact ⟨k, Nat.lt_succ_self k, by omega, s2, M', h3, fun x hx => hsub x (h4 x hx), r'⟩
            | _ =>
              simp only [Option.some.injEq] at h3
              subst h3
              exact ⟨_, ⟨s2, hsub _ (h4 _ (List.mem_singleton.2 rfl)), rfl⟩, r'⟩
          · cases h1
      all_goals simp [xcode] at h
end
def xcall (mode : FuncId → Bool) (run : Run) (g : FuncId) (args : List AV) (H : Heap) : Option (List (AV × Heap)) :=
  if mode g then run g args H
  else if (args.map (view H)).all (immB 6) then match run g (args.map (view H)) [] with
    | some L => match xsame L with
      | some v => if flatB 6 v || args.all fun a => (srefs a).isEmpty then some [(v, H)] else run g args H
      | none => none
    | none => none
  else run g args H
def xres (P : Program) (rs : List ResultVar) : List (Exit × CS) → Option (List (AV × Heap)) := bindL fun r => match r.1 with
  | .normal => (ares P ⟨initT r.2.1, r.2.2⟩ rs).map fun v => [(v, r.2.2)]
  | .ret => (ares P ⟨initT r.2.1, r.2.2⟩ rs).map fun v => [(v, r.2.2)]
  | _ => none
def xrun (P : Program) (prim : Run) (hints : FuncId → Nat → DH) (mode : FuncId → Nat → FuncId → Bool) (F : Nat) : Nat → Run
  | 0, _, _, _ => none
  | n + 1, f, args, H => match prim f args H with
    | some L => some L
    | none => match P.funcs[f]? with
      | some fn => match fn.body with
        | some body => if args.length ≤ fn.ntmps then match xcode P fn.ntmps (hints f) (xrun P prim hints mode F n) (fun id => xcall (mode f id) (xrun P prim hints mode F n)) F body (args, H) with
          | some rs => match xres P fn.results.toList rs with
            | some (y :: L) => some (y :: L)
            | _ => none
          | none => none
          else none
        | none => none
      | none => none
theorem args_view {H : Heap} : ∀ (args : List AV), (∀ a, a ∈ args → Imm (view H a)) → Args H args (args.map (view H))
  | [], _ => .nil
  | a :: l, h => .cons (.refl _) (h a (by simp)) (args_view l fun x hx => h x (by simp [hx]))
theorem xcall_sound {E : Env} {mode : FuncId → Bool} {run : Run} (hr : RunOk E.P run) : CallOk E (xcall mode run) := by
  intro g args H L h
  unfold xcall at h
  split at h
  · exact hr _ _ _ _ h E.row E.src E rfl rfl rfl
  · split at h
    · rename_i ha
      split at h
      · rename_i L1 h1
        split at h
        · rename_i v hv
          obtain ⟨hi, hall⟩ := xsame_sound hv
          have hav : ∀ a, a ∈ args → Imm (view H a) := fun a hx => immB_imm 6 _ (List.all_eq_true.1 ha _ (List.mem_map_of_mem hx))
          have pf : PFun E.P E.row E.src g (args.map (view H)) (· = v) := pfun_of_mfun (hr _ _ _ _ h1 E.row E.src) (by
            intro r' K hm
            have := hall _ hm
            dsimp only at this
            exact ⟨v, by rw [this]; exact .refl _, by rw [this]; exact hi, hi, rfl⟩)
          split at h
          · rename_i hf
            simp only [Option.some.injEq] at h
            subst h
            simp only [Bool.or_eq_true] at hf
            rcases hf with hf | hf
            · exact acall_flat _ rfl pf (args_view args hav) ⟨_, rfl⟩ (by rintro x rfl; exact flatB_flat 6 _ hf) (by rintro x rfl; exact List.mem_singleton.2 rfl)
            · exact acall_imm _ rfl pf (args_view args hav) (fun a hx => by simpa using List.all_eq_true.1 hf a hx) (by rintro x rfl _; exact List.mem_singleton.2 rfl) ⟨_, rfl, hi⟩
          · exact hr _ _ _ _ h E.row E.src E rfl rfl rfl
        · cases h
      · cases h
    · exact hr _ _ _ _ h E.row E.src E rfl rfl rfl
theorem xrun_sound {P : Program} (hm : P.follows .mixedOrders = true) {prim : Run} (hp : RunOk P prim) (hints : FuncId → Nat → DH) (mode : FuncId → Nat → FuncId → Bool) (F : Nat) : ∀ (n : Nat), RunOk P (xrun P prim hints mode F n)
  | 0 => fun _ _ _ _ h => by simp [xrun] at h
  | n + 1 => by
    intro f args H L h row src
    have ih := xrun_sound hm hp hints mode F n
    simp only [xrun] at h
    split at h
    · rename_i L1 h1
      simp only [Option.some.injEq] at h
      subst h
      exact hp _ _ _ _ h1 row src
    split at h
    · rename_i fn hfn
      split at h
      · rename_i body hb
        split at h
        · rename_i hn
          split at h
          · rename_i rs hrs
            split at h
            · rename_i y L' hres
              simp only [Option.some.injEq] at h
              rw [h] at hres
              refine mfun_of_AWp hfn hb hn ⟨y.1, y.2, by rw [← h]; simp⟩ fun E hP _ _ hN => ?_
              subst hP
              rw [← hN] at hrs
              refine (xcode_sound (E := E) hm (hints f) ih (fun id => xcall_sound (mode := mode f id) ih) F body (args, H) _ hrs).mono ?_
              rintro x st ⟨s1, hs, rfl⟩
              obtain ⟨M, h2, h3⟩ := bindL_mem hres _ hs
              dsimp only at h2
              cases x <;> simp only [reduceCtorEq, Option.map_eq_some_iff] at h2 ⊢
              · obtain ⟨v, hv, rfl⟩ := h2
                simp only [AM, hv]
                exact h3 _ (List.mem_singleton.2 rfl)
              · obtain ⟨v, hv, rfl⟩ := h2
                simp only [AM, hv]
                exact h3 _ (List.mem_singleton.2 rfl)
            · cases h
          · cases h
        · cases h
      · cases h
    · cases h
theorem pfun_run {P : Program} {prim : Run} (hp : RunOk P prim) (hints : FuncId → Nat → DH) (mode : FuncId → Nat → FuncId → Bool) (F n : Nat) {f : FuncId} {args : List AV} {v : AV} (hm : P.follows .mixedOrders = true)
    (h : xpure (xrun P prim hints mode F n) f args = some v) (row src : Option Nat) : PFun P row src f args (· = v) := (xpure_sound (xrun_sound hm hp hints mode F n) h row src).1
def twoE (ty : TypeId) (k : Nat) (H : Heap) : List (AV × Heap) := [(.sref H.length 0 0, H ++ [some ⟨ty, k, []⟩]), (.sref (H.length + 1) 0 0, H ++ [none] ++ [some ⟨ty, k, []⟩])]
def primE (l : List (FuncId × TypeId × Nat)) : Run := fun f args H => match l.find? (fun x => x.1 == f), args with
  | some (_, ty, k), [.list k' []] => if k' = k then some (twoE ty k H) else none
  | _, _ => none
theorem primE_ok {P : Program} {l : List (FuncId × TypeId × Nat)} (h : ∀ x, x ∈ l → ∀ (H : Heap) row src, MFun P row src x.1 [.list x.2.2 []] H (IsL (twoE x.2.1 x.2.2 H))) : RunOk P (primE l) := by
  intro g args H L hL row src
  unfold primE at hL
  split at hL
  · rename_i f ty k k' hf
    split at hL
    · rename_i hk
      subst hk
      simp only [Option.some.injEq] at hL
      subst hL
      have hm := List.mem_of_find?_eq_some hf
      have hg := List.find?_some hf
      simp only [beq_iff_eq] at hg
      subst hg
      exact h _ hm H row src
    · cases hL
  · cases hL
def modeOf (l : List (FuncId × Nat × FuncId)) (f : FuncId) (r : Nat) (g : FuncId) : Bool := l.any fun x => x.1 == f && x.2.1 == r && x.2.2 == g
def hintOf : List (Nat × Nat × DH) → FuncId → Nat → DH
  | [], _, _ => ⟨[], [], []⟩
  | (f, r, d) :: l, g, q => if f = g then (if r = q then d else hintOf l g q) else hintOf l g q
abbrev KL := List (FuncId × List AV × AV)
def primK (l : KL) : Run := fun f args H => match l.find? (fun x => x.1 == f && listEq (avEq 6) x.2.1 args) with
  | some x => if args.all (immB 6) && immB 6 x.2.2 then some [(x.2.2, H)] else none
  | none => none
def primOr (p q : Run) : Run := fun f args H => match p f args H with
  | some L => some L
  | none => q f args H
theorem primOr_ok {P : Program} {p q : Run} (hp : RunOk P p) (hq : RunOk P q) : RunOk P (primOr p q) := by
  intro g args H L h row src
  unfold primOr at h
  split at h
  · rename_i L1 h1
    simp only [Option.some.injEq] at h
    subst h
    exact hp _ _ _ _ h1 row src
  · exact hq _ _ _ _ h row src
abbrev KOk (P : Program) (l : KL) : Prop := ∀ x, x ∈ l → PFun P none none x.1 x.2.1 (· = x.2.2)
theorem primK_ok {P : Program} {l : KL} (h : KOk P l) : RunOk P (primK l) := by
  intro g args H L hL row src
  unfold primK at hL
  split at hL
  · rename_i x hx
    split at hL
    · rename_i hi
      simp only [Option.some.injEq] at hL
      subst hL
      simp only [Bool.and_eq_true] at hi
      have hf := List.find?_some hx
      simp only [Bool.and_eq_true, beq_iff_eq] at hf
      have ha := listEq_eq (fun _ _ => avEq_eq 6) hf.2
      have hg := hf.1
      have him : ∀ a, a ∈ args → Imm a := fun a ha => immB_imm 6 a (List.all_eq_true.1 hi.1 a ha)
      intro E hP hrow hsrc
      subst hrow; subst hsrc
      have pf := (h x (List.mem_of_find?_eq_some hx)).lift E.row E.src
      rw [ha, hg] at pf
      exact acall_imm args hP pf (args_same him) (fun a ha => srefs_imm (him a ha)) (fun r hr _ => by rw [hr]; exact List.mem_singleton.2 rfl) ⟨_, rfl, immB_imm 6 _ hi.2⟩
    · cases hL
  · cases hL
theorem kstep {P : Program} {pE : Run} (hE : RunOk P pE) {l : KL} (h : KOk P l) (hints : FuncId → Nat → DH) (mode : FuncId → Nat → FuncId → Bool) (hm : P.follows .mixedOrders = true) {f : FuncId} {args : List AV} {v : AV}
    (hr : xpure (xrun P (primOr pE (primK l)) hints mode 10000 60) f args = some v) : KOk P ((f, args, v) :: l) := by
  intro x hx
  rcases List.mem_cons.1 hx with rfl | hx
  · exact pfun_run (primOr_ok hE (primK_ok h)) hints mode 10000 60 hm hr none none
  · exact h x hx
theorem kOk_nil {P : Program} : KOk P [] := fun _ h => by cases h
end Go.PA
set_option maxRecDepth 100000
namespace Go.Proofs.YtpllcolbcahicaaGreatDoor
open Go.PA
open Go.RowKit
theorem cloneE_0 {row src : Option Nat} (H : Heap) : MFun Tryz.prog row src 102 [.list 5 []] H (IsL (twoE 192 5 H)) := by
  have own : MFun Tryz.prog row src 102 [.list 5 []] H (fun r H' => (r = .nil ∧ H' = H) ∨ (r = .sref (H.length + 1) 0 0 ∧ H' = H ++ [none] ++ [some ⟨192, 5, []⟩])) := by
    refine mfun_list_nil fun A c => ?_
    refine mfun_intro Tryz.func102 rfl (by simp [Tryz.f102]) (by kernel_rfl) ⟨.nil, H, .inl ⟨rfl, rfl⟩⟩ ?_
    intro E hP hr hs hN
    cases A with
    | none => simp -dsimp -implicitDefEqProofs [-getElem?_pos, go_sem, hP]
    | some a => simp -dsimp -implicitDefEqProofs [-getElem?_pos, go_sem, hP, hset_new]
  refine (own.ownNil 192 5).mono ?_
  rintro r H' (⟨H0, h0, rfl, rfl⟩ | ⟨hne, h⟩)
  · rcases h0 with ⟨_, rfl⟩ | ⟨h, _⟩
    · exact .head _
    · cases h
  · rcases h with ⟨h, _⟩ | ⟨rfl, rfl⟩
    · exact absurd h hne
    · exact .tail _ (.head _)
def awkE : List (FuncId × TypeId × Nat) := [(102, 192, 5)]
theorem awkE_ok : RunOk Tryz.prog (primE awkE) := primE_ok fun x hx H row src => by
  simp only [awkE, List.mem_cons, List.not_mem_nil, or_false] at hx
  subst hx
  exact cloneE_0 H
def runM := modeOf [(93, 9, 135), (191, 6, 51), (19, 5, 51), (51, 1, 81), (180, 16, 224), (224, 1, 105), (224, 1, 106), (224, 1, 107), (224, 1, 103), (191, 10, 101), (147, 12, 185), (185, 1, 104), (193, 20, 232), (232, 1, 102), (232, 1, 103), (193, 17, 241), (193, 21, 241), (8, 12, 25), (194, 9, 185), (113, 1, 101), (113, 1, 157)]
def runH : FuncId → Nat → DH := hintOf [(108, 7, ⟨[], [7], []⟩), (109, 4, ⟨[], [6], []⟩), (144, 7, ⟨[], [15], []⟩), (147, 19, ⟨[], [11, 12], []⟩), (154, 1, ⟨[], [19, 20], []⟩), (108, 12, ⟨[13], [], []⟩), (196, 2, ⟨[28], [], []⟩), (73, 10, ⟨[10], [], []⟩), (147, 34, ⟨[3], [], [4]⟩), (193, 23, ⟨[8, 9], [], []⟩), (147, 24, ⟨[7], [], []⟩), (108, 5, ⟨[20], [], []⟩), (146, 14, ⟨[9, 11], [], []⟩), (185, 1, ⟨[10], [], []⟩), (235, 1, ⟨[9], [], []⟩), (181, 11, ⟨[4], [], []⟩), (8, 12, ⟨[7], [], []⟩), (191, 10, ⟨[13], [], []⟩), (82, 11, ⟨[6, 7, 9, 10], [], [0]⟩), (81, 5, ⟨[12, 9], [], []⟩), (180, 35, ⟨[12], [], []⟩), (180, 18, ⟨[19, 22], [], []⟩), (73, 15, ⟨[8, 11], [], []⟩), (98, 1, ⟨[10], [], []⟩), (73, 14, ⟨[26, 29, 32, 35], [], []⟩), (73, 3, ⟨[14, 17], [], []⟩), (73, 2, ⟨[14, 17], [], []⟩)]
theorem k0 : KOk Tryz.prog [] := kOk_nil
def l1 : KL := (49, [.list 1 [[iv 1], [iv 2]]], bv true) :: []
theorem k1 : KOk Tryz.prog l1 := kstep awkE_ok k0 runH runM (by kernel_rfl) (by kernel_rfl)
def l2 : KL := (23, [.agg [iv 1, iv 0, iv 1, iv 110, iv 410, iv 100, iv 0, iv 0]], bv true) :: l1
theorem k2 : KOk Tryz.prog l2 := kstep awkE_ok k1 runH runM (by kernel_rfl) (by kernel_rfl)
def l3 : KL := (74, [.agg [iv 0, .list 2 [[iv 1, iv 0], [iv 2, iv 0]], .nil, .nil, .nil, .nil, .nil, .nil, .nil, .nil, .nil, .nil, .nil, .nil, .nil], .agg [iv 1, iv 0, iv 2, iv 1, iv 0, iv 100, iv 0]], .tup [.agg [iv 0, .list 2 [[iv 1, iv 0], [iv 2, iv 100]], .list 6 [[iv 1, iv 0, iv 0, iv 2, iv 100, iv 0]], .nil, .nil, .nil, .nil, .nil, .list 5 [[iv 1, iv 0, iv 1, iv 100, iv 0]], .nil, .list 1 [[iv 100]], .nil, .nil, .nil, .list 8 [[iv 1, iv 0, iv 1, iv 110, iv 410, iv 100, iv 0, iv 0]]], iv 0]) :: l2
theorem k3 : KOk Tryz.prog l3 := kstep awkE_ok k2 runH runM (by kernel_rfl) (by kernel_rfl)
def l4 : KL := (19, [.agg [iv 0, .list 2 [[iv 1, iv 0], [iv 2, iv 100]], .list 6 [[iv 1, iv 0, iv 0, iv 2, iv 100, iv 0]]]], iv 0) :: l3
theorem k4 : KOk Tryz.prog l4 := kstep awkE_ok k3 runH runM (by kernel_rfl) (by kernel_rfl)
def l5 : KL := (230, [.agg [iv 5, iv 1, iv 60, iv 0, iv 2]], bv true) :: l4
theorem k5 : KOk Tryz.prog l5 := kstep awkE_ok k4 runH runM (by kernel_rfl) (by kernel_rfl)
def l6 : KL := (200, [.agg [.list 5 [[iv 5, iv 1, iv 60, iv 0, iv 2]], .list 1 [[iv 5]], .nil]], iv 0) :: l5
theorem k6 : KOk Tryz.prog l6 := kstep awkE_ok k5 runH runM (by kernel_rfl) (by kernel_rfl)
def l7 : KL := (147, [.agg [iv 0, .list 2 [[iv 1, iv 0], [iv 2, iv 100]], .list 6 [[iv 1, iv 0, iv 0, iv 2, iv 100, iv 0]], .list 5 [[iv 5, iv 1, iv 60, iv 0, iv 2]], .list 1 [[iv 5]], .nil, .list 7 [[iv 5, iv 1, iv 60, iv 0, iv 2, iv 1, iv 0]]], iv 0], .tup [.agg [iv 0, .list 2 [[iv 1, iv 0], [iv 2, iv 40]], .list 6 [[iv 1, iv 0, iv 0, iv 2, iv 100, iv 0], [iv 2, iv 0, iv 2, iv 0, iv 60, iv 5]], .list 5 [], .list 1 [[iv 5]], .list 3 [[iv 1, iv 0, .list 5 [[iv 5, iv 1, iv 60, iv 0, iv 2]]]], .list 7 [[iv 5, iv 1, iv 60, iv 0, iv 2, iv 2, iv 1]]], .agg [iv 1, iv 0, .list 5 [[iv 5, iv 1, iv 60, iv 0, iv 2]]], iv 0]) :: l6
theorem k7 : KOk Tryz.prog l7 := kstep awkE_ok k6 runH runM (by kernel_rfl) (by kernel_rfl)
def l8 : KL := (23, [.agg [iv 2, iv 0, iv 1, iv 510, iv 110, iv 60, iv 0, iv 5]], bv true) :: l7
theorem k8 : KOk Tryz.prog l8 := kstep awkE_ok k7 runH runM (by kernel_rfl) (by kernel_rfl)
def l9 : KL := (19, [.agg [iv 0, .list 2 [[iv 1, iv 0], [iv 2, iv 40]], .list 6 [[iv 1, iv 0, iv 0, iv 2, iv 100, iv 0], [iv 2, iv 0, iv 2, iv 0, iv 60, iv 5]]]], iv 0) :: l8
theorem k9 : KOk Tryz.prog l9 := kstep awkE_ok k8 runH runM (by kernel_rfl) (by kernel_rfl)
def l10 : KL := (251, [.agg [.list 5 [], .list 1 [[iv 5]], .list 3 [[iv 1, iv 0, .list 5 [[iv 5, iv 1, iv 60, iv 0, iv 2]]]]]], bv true) :: l9
theorem k10 : KOk Tryz.prog l10 := kstep awkE_ok k9 runH runM (by kernel_rfl) (by kernel_rfl)
def l11 : KL := (201, [.agg [iv 0, .list 2 [[iv 1, iv 0], [iv 2, iv 40]], .list 6 [[iv 1, iv 0, iv 0, iv 2, iv 100, iv 0], [iv 2, iv 0, iv 2, iv 0, iv 60, iv 5]], .list 5 [], .list 1 [[iv 5]], .list 3 [[iv 1, iv 0, .list 5 [[iv 5, iv 1, iv 60, iv 0, iv 2]]]], .list 7 [[iv 5, iv 1, iv 60, iv 0, iv 2, iv 2, iv 1]]], .agg [iv 5, iv 1, iv 60, iv 0, iv 2, iv 2, iv 1]], bv true) :: l10
theorem k11 : KOk Tryz.prog l11 := kstep awkE_ok k10 runH runM (by kernel_rfl) (by kernel_rfl)
def l12 : KL := (191, [.agg [iv 0, .list 2 [[iv 1, iv 0], [iv 2, iv 40]], .list 6 [[iv 1, iv 0, iv 0, iv 2, iv 100, iv 0], [iv 2, iv 0, iv 2, iv 0, iv 60, iv 5]]], .agg [iv 3, iv 1, iv 0, iv 2, iv 60, iv 5]], .tup [.agg [iv 0, .list 2 [[iv 1, iv 0], [iv 2, iv 100]], .list 6 [[iv 1, iv 0, iv 0, iv 2, iv 100, iv 0], [iv 2, iv 0, iv 2, iv 0, iv 60, iv 5], [iv 3, iv 1, iv 0, iv 2, iv 60, iv 5]]], iv 0]) :: l11
theorem k12 : KOk Tryz.prog l12 := kstep awkE_ok k11 runH runM (by kernel_rfl) (by kernel_rfl)
def l13 : KL := (23, [.agg [iv 3, iv 1, iv 1, iv 110, iv 410, iv 60, iv 0, iv 5]], bv true) :: l12
theorem k13 : KOk Tryz.prog l13 := kstep awkE_ok k12 runH runM (by kernel_rfl) (by kernel_rfl)
def l14 : KL := (74, [.agg [iv 0, .list 2 [[iv 1, iv 0], [iv 2, iv 40]], .list 6 [[iv 1, iv 0, iv 0, iv 2, iv 100, iv 0], [iv 2, iv 0, iv 2, iv 0, iv 60, iv 5]], .list 5 [], .list 1 [[iv 5]], .list 3 [[iv 1, iv 0, .list 5 [[iv 5, iv 1, iv 60, iv 0, iv 2]]]], .list 7 [[iv 5, iv 1, iv 60, iv 0, iv 2, iv 2, iv 1]], .nil, .list 5 [[iv 1, iv 0, iv 1, iv 100, iv 0]], .nil, .list 1 [[iv 100]], .nil, .nil, .nil, .list 8 [[iv 1, iv 0, iv 1, iv 110, iv 410, iv 100, iv 0, iv 0], [iv 2, iv 0, iv 1, iv 510, iv 110, iv 60, iv 0, iv 5]]], .agg [iv 5, iv 1, iv 0, iv 0, iv 5, iv 0, iv 0]], .tup [.agg [iv 0, .list 2 [[iv 1, iv 0], [iv 2, iv 100]], .list 6 [[iv 1, iv 0, iv 0, iv 2, iv 100, iv 0], [iv 2, iv 0, iv 2, iv 0, iv 60, iv 5], [iv 3, iv 1, iv 0, iv 2, iv 60, iv 5]], .list 5 [], .list 1 [[iv 5]], .list 3 [[iv 1, iv 0, .list 5 [[iv 5, iv 1, iv 60, iv 0, iv 2]]]], .list 7 [[iv 5, iv 1, iv 60, iv 0, iv 2, iv 4, iv 1]], .nil, .list 5 [[iv 1, iv 0, iv 1, iv 100, iv 0]], .nil, .list 1 [[iv 100]], .nil, .nil, .nil, .list 8 [[iv 1, iv 0, iv 1, iv 110, iv 410, iv 100, iv 0, iv 0], [iv 2, iv 0, iv 1, iv 510, iv 110, iv 60, iv 0, iv 5], [iv 3, iv 1, iv 1, iv 110, iv 410, iv 60, iv 0, iv 5]]], iv 0]) :: l13
theorem k14 : KOk Tryz.prog l14 := kstep awkE_ok k13 runH runM (by kernel_rfl) (by kernel_rfl)
def l15 : KL := (40, [.agg [iv 0, .list 2 [[iv 1, iv 0], [iv 2, iv 0]], .nil, .nil, .nil, .nil, .nil, .nil, .nil, .nil, .nil, .nil, .nil, .nil, .nil], .list 7 [[iv 1, iv 0, iv 2, iv 1, iv 0, iv 100, iv 0], [iv 2, iv 0, iv 2, iv 1, iv 5, iv 60, iv 0], [iv 3, iv 0, iv 0, iv 0, iv 0, iv 0, iv 0], [iv 5, iv 1, iv 0, iv 0, iv 5, iv 0, iv 0]]], .tup [.agg [iv 0, .list 2 [[iv 1, iv 0], [iv 2, iv 100]], .list 6 [[iv 1, iv 0, iv 0, iv 2, iv 100, iv 0], [iv 2, iv 0, iv 2, iv 0, iv 60, iv 5], [iv 3, iv 1, iv 0, iv 2, iv 60, iv 5]], .list 5 [], .list 1 [[iv 5]], .list 3 [[iv 1, iv 0, .list 5 [[iv 5, iv 1, iv 60, iv 0, iv 2]]]], .list 7 [[iv 5, iv 1, iv 60, iv 0, iv 2, iv 4, iv 1]], .nil, .list 5 [[iv 1, iv 0, iv 1, iv 100, iv 0]], .nil, .list 1 [[iv 100]], .nil, .nil, .nil, .list 8 [[iv 1, iv 0, iv 1, iv 110, iv 410, iv 100, iv 0, iv 0], [iv 2, iv 0, iv 1, iv 510, iv 110, iv 60, iv 0, iv 5], [iv 3, iv 1, iv 1, iv 110, iv 410, iv 60, iv 0, iv 5]]], iv 4, iv 0]) :: l14
theorem k15 : KOk Tryz.prog l15 := kstep awkE_ok k14 runH runM (by kernel_rfl) (by kernel_rfl)
def l16 : KL := (19, [.agg [iv 0, .list 2 [[iv 1, iv 0], [iv 2, iv 100]], .list 6 [[iv 1, iv 0, iv 0, iv 2, iv 100, iv 0], [iv 2, iv 0, iv 2, iv 0, iv 60, iv 5], [iv 3, iv 1, iv 0, iv 2, iv 60, iv 5]]]], iv 0) :: l15
theorem k16 : KOk Tryz.prog l16 := kstep awkE_ok k15 runH runM (by kernel_rfl) (by kernel_rfl)
def l17 : KL := (76, [.agg [iv 0, .list 2 [[iv 1, iv 0], [iv 2, iv 100]], .list 6 [[iv 1, iv 0, iv 0, iv 2, iv 100, iv 0], [iv 2, iv 0, iv 2, iv 0, iv 60, iv 5], [iv 3, iv 1, iv 0, iv 2, iv 60, iv 5]], .list 5 [], .list 1 [[iv 5]], .list 3 [[iv 1, iv 0, .list 5 [[iv 5, iv 1, iv 60, iv 0, iv 2]]]], .list 7 [[iv 5, iv 1, iv 60, iv 0, iv 2, iv 4, iv 1]], .nil, .list 5 [[iv 1, iv 0, iv 1, iv 100, iv 0]], .nil, .list 1 [[iv 100]], .nil, .nil, .nil, .list 8 [[iv 1, iv 0, iv 1, iv 110, iv 410, iv 100, iv 0, iv 0], [iv 2, iv 0, iv 1, iv 510, iv 110, iv 60, iv 0, iv 5], [iv 3, iv 1, iv 1, iv 110, iv 410, iv 60, iv 0, iv 5]]]], .nil) :: l16
theorem k17 : KOk Tryz.prog l17 := kstep awkE_ok k16 runH runM (by kernel_rfl) (by kernel_rfl)
theorem awake45_pf (row src : Option Nat) : PFun Tryz.prog row src 14 [] (· = bv true) := pfun_run (primOr_ok awkE_ok (primK_ok k17)) runH runM 10000 60 (by kernel_rfl) (by kernel_rfl) row src
open Go.PA
open Go.RowKit
theorem replayS_le (credit : Int) : ∀ (es : List TEntry) (n d : Int) (l : List TSub) (r : Int × Int × List TSub), 0 ≤ d → replayS credit n d l es = some r → d ≤ r.2.1 ∧ ∀ e, e ∈ es → e.Day ≤ r.2.1
  | [], n, d, l, r, hd, h => by
    simp only [replayS, Option.some.injEq] at h
    subst h
    exact ⟨Int.le_refl _, by simp⟩
  | x :: es, n, d, l, r, hd, h => by
    rw [replayS] at h
    split at h
    · rename_i hp
      obtain ⟨_, h2, h3, _⟩ := postS_ok hp
      obtain ⟨i1, i2⟩ := replayS_le credit es _ _ _ r (by omega) h
      refine ⟨by omega, fun e he => ?_⟩
      rcases List.mem_cons.1 he with rfl | he
      · exact i1
      · exact i2 e he
    · cases h
theorem gen_days {n : Nat} {a : TAccount} (h : GenAcc n a) : ∀ e, e ∈ a.Entries → e.Day ≤ 2 * (n : Int) := fun e he => by
  obtain ⟨_, _, _, _, h5⟩ := check_ok h.ok
  have := (replayS_le _ _ _ _ _ _ (Int.le_refl _) h5).2 e he
  have := h.day
  dsimp only at *
  omega
section
variable {a : TAccount} {x i u q o v : Int} {L X Y : List TPosting}
theorem Made.of0 (h : Made a x i u q o v L X Y) {c : Int} (hc : c = 119 ∨ c = 120) (day : Int) : ofL L 1 c day = 0 := by
  have e0 : ∀ p, p ∈ entriesL a 1 1 → p.Debit ≠ c ∧ p.Credit ≠ c := by
    rw [entriesL, if_pos ⟨h.ca, by omega, by omega⟩]
    refine entGo_mem 1 1 a.Entries [] (by simp) fun k e he => ?_
    unfold entP
    constructor <;> dsimp only <;> split <;> omega
  rw [ofL, if_pos h.post2.2.1]
  refine bal_off fun p hp _ => ?_
  rw [h.hL] at hp
  rcases List.mem_append.1 hp with hp | hp
  · exact e0 p hp
  · simp at hp
    rcases hp with rfl | rfl <;> simp [pA, pB] <;> omega
theorem Made.agreed (h : Made a x i u q o v L X Y) {day : Int} (hk : 300 ≤ day) : Agreed Y day x := fun c d r hcd => books_claim h.turn h.ca h.hd hk hcd
theorem Made.ref3 (h : Made a x i u q o v L X Y) : (3 : Int) ∈ Y.map (·.Ref) := by
  obtain ⟨C, hC, _⟩ := h.turn.is
  rw [hC]
  refine List.mem_map.2 ⟨pA (entriesL a 1 1).length x, by simp, rfl⟩
theorem listG_mem (g : Int → Int) {b : TBalance} : ∀ {n : Nat}, b ∈ listG g 0 n → b.Amount = g b.Account
  | 0, h => by simp [listG] at h
  | n + 1, h => by
    rw [listG] at h
    rcases List.mem_append.1 h with h | h
    · exact listG_mem g h
    · split at h
      · simp at h
      · simp at h
        subst h
        simp
theorem sumA_take (B : List TBalance) (hb : ∀ b, b ∈ B → -1000000000000000 ≤ b.Amount ∧ b.Amount ≤ 1000000000000000) : -(1000000000000000 * (B.length : Int)) ≤ (B.map (·.Amount)).sum ∧ (B.map (·.Amount)).sum ≤ 1000000000000000 * (B.length : Int) := by
  induction B with
  | nil => simp
  | cons b B ih =>
    have i := ih fun x hx => hb x (by simp [hx])
    have := hb b (by simp)
    simp only [List.map_cons, List.sum_cons, List.length_cons]
    omega
theorem Made.whole (h : Made a x i u q o v L X Y) {day : Int} (hk : 300 ≤ day) {M : List (Int × Int)} (hM : ∀ c, getZ M c = bal (grpB day) Y c + elimG x x c) :
    ((listM M 600).map (·.Amount)).sum = 0 ∧ cashL (listM M 600) = totalA a ∧ ∀ b, b ∈ listM M 600 → -1000000000000000 ≤ b.Amount ∧ b.Amount ≤ 1000000000000000 := by
  have t := h.turn
  have pf := (checkL_ok t.ok).2.1
  have hg : getZ M = fun c => bal (grpB day) Y c + elimG x x c := funext hM
  have hb := h.hb.1
  refine ⟨?_, ?_, fun b hb' => ?_⟩
  · rw [sumG_list, hg, sumG_add, sumG_elim, sumG_bal _ _ fun p hp => (pf p hp).fine]
    rfl
  · rw [cash_list, if_pos (by omega), hM, books_cash t h.ca h.hd hk]
    unfold elimG
    simp
  · rw [listG_mem _ hb', hM]
    have h1 := netP_bound (fun c => decide (c = b.Account)) (grpB day) Y fun p hp => (pf p hp).fine
    have h2 := elimG_b (u := x) (v := x) (by omega) (by omega) b.Account
    have h3 : bal (grpB day) Y b.Account = netP (fun c => decide (c = b.Account)) (grpB day) Y := rfl
    have := t.len
    omega
end
def sumA (l : List TBalance) : Int := (l.map (·.Amount)).sum
theorem cashL_snoc (l : List TBalance) (b : TBalance) : cashL (l ++ [b]) = if b.Account = 110 then b.Amount else cashL l := by simp [cashL]
theorem post2_ix (n : Int) : ∀ k : Nat, k < 2 → ∃ q : TPosting, aixV Tryz.prog 37 (.agg [iv 0, iv 300, iv 1, iv 140, iv 440, iv n, iv 2, iv 3, iv 0, iv 300, iv 2, iv 540, iv 240, iv n, iv 1, iv 3]) (iv (k : Int)) = some (.agg [iv q.Number, iv q.Day, iv q.Entity, iv q.Debit, iv q.Credit, iv q.Amount, iv q.Partner, iv q.Ref]) ∧ ((k = 0 ∧ q = ⟨0, 300, 1, 140, 440, n, 2, 3⟩) ∨ (k = 1 ∧ q = ⟨0, 300, 2, 540, 240, n, 1, 3⟩)) := fun k hk => by
  have x0 : aixV Tryz.prog 37 (.agg [iv 0, iv 300, iv 1, iv 140, iv 440, iv n, iv 2, iv 3, iv 0, iv 300, iv 2, iv 540, iv 240, iv n, iv 1, iv 3]) (iv ((0 : Nat) : Int)) = some (.agg [iv 0, iv 300, iv 1, iv 140, iv 440, iv n, iv 2, iv 3]) := by kernel_rfl
  have x1 : aixV Tryz.prog 37 (.agg [iv 0, iv 300, iv 1, iv 140, iv 440, iv n, iv 2, iv 3, iv 0, iv 300, iv 2, iv 540, iv 240, iv n, iv 1, iv 3]) (iv ((1 : Nat) : Int)) = some (.agg [iv 0, iv 300, iv 2, iv 540, iv 240, iv n, iv 1, iv 3]) := by kernel_rfl
  match k, hk with
  | 0, _ => exact ⟨⟨0, 300, 1, 140, 440, n, 2, 3⟩, x0, .inl ⟨rfl, rfl⟩⟩
  | 1, _ => exact ⟨⟨0, 300, 2, 540, 240, n, 1, 3⟩, x1, .inr ⟨rfl, rfl⟩⟩
theorem days3_ix : ∀ k : Nat, k < 3 → ∃ d : Int, aixV Tryz.prog 47 (.agg [iv 300, iv 359, iv 360]) (iv (k : Int)) = some (iv d) ∧ (300 ≤ d ∧ d ≤ 360) := fun k hk => by
  have x0 : aixV Tryz.prog 47 (.agg [iv 300, iv 359, iv 360]) (iv ((0 : Nat) : Int)) = some (iv 300) := by kernel_rfl
  have x1 : aixV Tryz.prog 47 (.agg [iv 300, iv 359, iv 360]) (iv ((1 : Nat) : Int)) = some (iv 359) := by kernel_rfl
  have x2 : aixV Tryz.prog 47 (.agg [iv 300, iv 359, iv 360]) (iv ((2 : Nat) : Int)) = some (iv 360) := by kernel_rfl
  match k, hk with
  | 0, _ => exact ⟨300, x0, by omega⟩
  | 1, _ => exact ⟨359, x1, by omega⟩
  | 2, _ => exact ⟨360, x2, by omega⟩
set_option maxHeartbeats 8000000 in
set_option maxRecDepth 8000 in
theorem books45_pf (xs : List Int) (hx : Small xs) (hl : xs.length ≤ 9223372036854775807) : PFun Tryz.prog none none 3 [intsL xs] (· = bv true) := by
  refine pfun_introA Tryz.func3 rfl (by simp [Tryz.f3]) ?_
  intro E hP hr hs hW hN
  refine awp_cut (by rw [hN]; kernel_rfl) ?_
  simp [go_sem, hP]
  refine awp_cut (by rw [hN]; kernel_rfl) ?_
  simp [go_sem, hP]
  have hnew : POwn Tryz.prog E.row E.src 4 [intsL xs] 60 2 (· = [[intsL (xs.take 900), iv 0]]) := by rw [hr, hs]; exact new_pf xs hl
  refine callB_own hnew hP en_4 (args_same (by simp [go_sem, intsL])) (by simp [srefs_imm, go_sem, intsL]) ⟨_, rfl⟩ ?_
  rintro es rfl
  simp [go_sem, hP]
  refine awp_adopt 3 (ty := 60) (xs := xs.take 900) (at_ := 0) hr hs hW (by simp [go_sem]) (by simp [go_sem, intsL]) (by omega) (by simp; omega) (fun x hx' => hx x (List.mem_of_mem_take hx')) (by rw [hN]; kernel_rfl) ?_
  intro E' p hP' hr' hN' hW'
  rw [hP] at hP'
  rw [hN] at hN'
  clear hnew hP hr hs hW hN E
  rename Env => E
  rename E.P = _ => hP
  rename E.row = _ => hr
  rename E.N = _ => hN
  rename (∀ b, ¬ E.W b) => hW
  obtain ⟨src, hs⟩ : ∃ src, E.src = src := ⟨_, rfl⟩
  have up : ∀ {f : FuncId} {args : List AV} {Q : AV → Prop}, PFun Tryz.prog (some p) src f args Q → PFun Tryz.prog E.row E.src f args Q := fun h => hr ▸ hs ▸ h
  simp -dsimp -implicitDefEqProofs [-getElem?_pos, go_sem, hP]
  refine callB_isQ (up (account_pf p src 10 (by omega))) hP en_5 (by simp -dsimp -implicitDefEqProofs [-getElem?_pos, go_sem]) (gen_ex 10) ?_
  rintro r ⟨a, rfl, ga⟩ _
  have gn := gen_nums ga (by omega)
  have ia := imm_acc a
  have ent := entries_pf a 1 1 gn.1 gn.2
  have cA : a.cells = [iv a.Credit, subsL a.Subs, entsL a.Entries] := rfl
  obtain ⟨L0, hL0⟩ : ∃ L0, L0 = entriesL a 1 1 := ⟨_, rfl⟩
  rw [← hL0] at ent
  have iL0 := imm_posts L0
  rw [cA] at ent ia
  simp -dsimp -implicitDefEqProofs [-getElem?_pos, go_sem, hP, cA]
  refine callB_is (ent.lift _ _) hP en_6 (by simp [ia, imm_sc]) iL0 ?_
  simp -dsimp -implicitDefEqProofs [-getElem?_pos, go_sem, hP]
  refine callB_isQ (up (pick_pf p src [5, 70, 900] (by simp))) hP en_7 (by simp -dsimp -implicitDefEqProofs [-getElem?_pos, go_sem]) (picks_ex (by simp)) ?_
  rintro r ⟨n, rfl, an⟩ _
  have an : 1 ≤ n ∧ n ≤ 1000 := by simp at an; omega
  obtain ⟨L, hL⟩ : ∃ L, L = L0 ++ [pA L0.length n, pB L0.length n] := ⟨_, rfl⟩
  have hdy : ∀ e, e ∈ a.Entries → e.Day ≤ 300 := fun e he => by have := gen_days ga e he; omega
  have mk : ∀ (i u q o v : Int) (X : List TPosting), X = L ++ adjL L.length 359 i u q o v → (-1000000000000 ≤ i ∧ i ≤ 1000000000000) → (-1000000000000 ≤ u ∧ u ≤ 1000000000000) → (-1000000000000 ≤ q ∧ q ≤ 1000000000000) → (-1000000000000 ≤ o ∧ o ≤ 1000000000000) → (-1000000000000 ≤ v ∧ v ≤ 1000000000000) → Made a n i u q o v L X (reopGo 1 359 X X) := fun i u q o v X hX h1 h2 h3 h4 h5 =>
    ⟨by rw [hL, hL0], hX, rfl, ga.ok, hdy, by have := ga.len; omega, ⟨an, h1, h2, h3, h4, h5⟩⟩
  have m0 := mk 0 0 0 0 0 _ rfl (by omega) (by omega) (by omega) (by omega) (by omega)
  have lL0 := m0.elen
  have p1 := m0.post1
  have p2 := m0.post2
  rw [← hL0] at lL0 p1 p2
  have ax := post2_ix n
  obtain ⟨A2, hA2⟩ : ∃ A2, A2 = AV.agg [iv 0, iv 300, iv 1, iv 140, iv 440, iv n, iv 2, iv 3, iv 0, iv 300, iv 2, iv 540, iv 240, iv n, iv 1, iv 3] := ⟨_, rfl⟩
  rw [← hA2] at ax
  simp -dsimp -implicitDefEqProofs [-getElem?_pos, go_sem, hP]
  rw [← hA2]
  obtain ⟨IA, hIA⟩ : ∃ I : Nat → St → Prop, I = fun m s => ∃ (k : Nat) (Lc : List TPosting), k ≤ 2 ∧ m = 2 - k ∧ ((k = 0 ∧ Lc = L0) ∨ (k = 1 ∧ Lc = L0 ++ [pA L0.length n]) ∨ (k = 2 ∧ Lc = L)) ∧ s.t 3 = sp p ∧ s.t 4 = .ref 1 0 0 ∧ s.t 5 = .ref 2 0 0 ∧ s.t 6 = iv n ∧ s.t 37 = A2 ∧ s.t 38 = iv k ∧ s.H[1]? = some (some ⟨28, 3, [[iv a.Credit, subsL a.Subs, entsL a.Entries]]⟩) ∧ s.H[2]? = some (some ⟨33, 1, [[postsL Lc]]⟩) := ⟨_, rfl⟩
  refine aloop0 IA (2) (by rw [hN]; rfl) ?_ ?_
  · rw [hIA]
    exact ⟨0, L0, by omega, by omega, .inl ⟨rfl, rfl⟩, by simp -dsimp -implicitDefEqProofs [-getElem?_pos, go_sem], by simp -dsimp -implicitDefEqProofs [-getElem?_pos, go_sem], by simp -dsimp -implicitDefEqProofs [-getElem?_pos, go_sem], by simp -dsimp -implicitDefEqProofs [-getElem?_pos, go_sem], by simp -dsimp -implicitDefEqProofs [-getElem?_pos, go_sem], by simp -dsimp -implicitDefEqProofs [-getElem?_pos, go_sem], by simp -dsimp -implicitDefEqProofs [-getElem?_pos, go_sem], by simp -dsimp -implicitDefEqProofs [-getElem?_pos, go_sem]⟩
  intro m s hs'
  rw [hIA] at hs'
  obtain ⟨k, Lc, hk, hm, hLc, t3, t4, t5, t6, t37, t38, g1, g2⟩ := hs'
  have l1 := (List.getElem?_eq_some_iff.1 g1).1
  have l2 := (List.getElem?_eq_some_iff.1 g2).1
  simp -dsimp -implicitDefEqProofs [-getElem?_pos, go_sem, hP, t38]
  refine condP (fun hq => ?_) (fun hq => ?_)
  · have hk2 : k < 2 := by simp at hq; omega
    obtain ⟨q, hqx, hqc⟩ := ax k hk2
    have wk := wrap_in ((k : Int) + 1) (by omega)
    have ll : Lc.length ≤ 30 := by rcases hLc with ⟨_, rfl⟩ | ⟨_, rfl⟩ | ⟨h, _⟩ <;> first | omega | (simp; omega)
    have wl := wrap_in ((Lc.length : Int) + 1) (by omega)
    obtain ⟨Ln, hLn, hpo⟩ : ∃ Ln, ((k + 1 = 0 ∧ Ln = L0) ∨ (k + 1 = 1 ∧ Ln = L0 ++ [pA L0.length n]) ∨ (k + 1 = 2 ∧ Ln = L)) ∧ postL Lc ⟨(Lc.length : Int) + 1, q.Day, q.Entity, q.Debit, q.Credit, q.Amount, q.Partner, q.Ref⟩ = (Ln, 0) := by
      rcases hqc with ⟨rfl, rfl⟩ | ⟨rfl, rfl⟩
      · have e : Lc = L0 := by rcases hLc with ⟨_, h⟩ | ⟨h, _⟩ | ⟨h, _⟩ <;> first | exact h | omega
        subst e
        exact ⟨_, .inr (.inl ⟨rfl, rfl⟩), p1⟩
      · have e : Lc = L0 ++ [pA L0.length n] := by rcases hLc with ⟨h, _⟩ | ⟨_, h⟩ | ⟨h, _⟩ <;> first | exact h | omega
        subst e
        refine ⟨_, .inr (.inr ⟨rfl, rfl⟩), ?_⟩
        have : ((L0 ++ [pA L0.length n]).length : Int) + 1 = (L0.length : Int) + 1 + 1 := by simp
        rw [this]
        exact p2.1
    have po := lpost_pf ⟨Lc⟩ ⟨(Lc.length : Int) + 1, q.Day, q.Entity, q.Debit, q.Credit, q.Amount, q.Partner, q.Ref⟩ (by show Lc.length ≤ _; omega)
    rw [cL] at po
    have po : PFun Tryz.prog none none 8 [.agg [postsL Lc], .agg [iv ((Lc.length : Int) + 1), iv q.Day, iv q.Entity, iv q.Debit, iv q.Credit, iv q.Amount, iv q.Partner, iv q.Ref]] (· = .tup [.agg [postsL Ln], iv 0]) := by
      have e := hpo
      simp only [e] at po
      exact po
    have iLc := imm_posts Lc
    have iLn := imm_posts Ln
    simp -dsimp -implicitDefEqProofs [-getElem?_pos, go_sem, hP, t37, t38, hqx, t5, g2, l2, List.getElem?_append_left l2, wl]
    refine callB_is (po.lift _ _) hP en_8 (by simp [iLc, imm_agg, imm_sc]) (imm_pair (imm_agg.2 (by simpa using iLn)) .sc) ?_
    simp -dsimp -implicitDefEqProofs [-getElem?_pos, go_sem, hP, t5, g2, l2, List.getElem?_append_left l2, t38, wk]
    refine ⟨2 - (k + 1), by omega, ?_⟩
    rw [hIA]
    refine ⟨k + 1, Ln, by omega, rfl, hLn, by simp -dsimp -implicitDefEqProofs [-getElem?_pos, go_sem, t3], by simp -dsimp -implicitDefEqProofs [-getElem?_pos, go_sem, t4], by simp -dsimp -implicitDefEqProofs [-getElem?_pos, go_sem, t5], by simp -dsimp -implicitDefEqProofs [-getElem?_pos, go_sem, t6], by simp -dsimp -implicitDefEqProofs [-getElem?_pos, go_sem, t37], by simp -dsimp -implicitDefEqProofs [-getElem?_pos, go_sem], ?_, ?_⟩
    · dsimp only
      rw [List.getElem?_append_left (by simpa using l1), List.getElem?_set_ne (by omega)]
      exact g1
    · dsimp only
      rw [List.getElem?_append_left (by simpa using l2), List.getElem?_set_self l2]
  have hk2 : k = 2 := by simp at hq; omega
  have e : Lc = L := by rcases hLc with ⟨h, _⟩ | ⟨h, _⟩ | ⟨_, h⟩ <;> first | exact h | omega
  subst e
  clear hLc
  have iLc := imm_posts Lc
  obtain ⟨N, hN0⟩ : ∃ N, N = s.H.length := ⟨_, rfl⟩
  simp -dsimp -implicitDefEqProofs [-getElem?_pos, go_sem, hP]
  refine adrawQ (fun i => decide (i < s.H.length)) [18] [3, 6, 9, 11, 13] hP (by kernel_rfl) (by kernel_rfl) ?_
  simp -dsimp -implicitDefEqProofs [-getElem?_pos, go_sem, hP, restr_get, t5, g2, l2, t3]
  refine callQ_isQ (up (pick_pf p src [0, 7] (by simp))) hP en_7 (by simp -dsimp -implicitDefEqProofs [-getElem?_pos, go_sem]) (picks_ex (by simp)) ?_
  rintro r ⟨ii, rfl, ai⟩ _
  simp -dsimp -implicitDefEqProofs [-getElem?_pos, go_sem, hP, t3]
  refine callQ_isQ (up (pick_pf p src [0, 30] (by simp))) hP en_7 (by simp -dsimp -implicitDefEqProofs [-getElem?_pos, go_sem]) (picks_ex (by simp)) ?_
  rintro r ⟨uu, rfl, au⟩ _
  simp -dsimp -implicitDefEqProofs [-getElem?_pos, go_sem, hP, t3]
  refine callQ_isQ (up (pick_pf p src [0, 9] (by simp))) hP en_7 (by simp -dsimp -implicitDefEqProofs [-getElem?_pos, go_sem]) (picks_ex (by simp)) ?_
  rintro r ⟨qq, rfl, aq⟩ _
  simp -dsimp -implicitDefEqProofs [-getElem?_pos, go_sem, hP, t3]
  refine callQ_isQ (up (sclaims_pf p src 4 (by omega))) hP en_10 (by simp -dsimp -implicitDefEqProofs [-getElem?_pos, go_sem]) (claimsQ_ex 4) ?_
  rintro r ⟨cl, rfl, cll, gcl⟩ _
  have hmem : ∀ y, y ∈ cl → (0 ≤ y.Open ∧ y.Open ≤ 250) ∧ (0 ≤ y.Day ∧ y.Day < 60) ∧ y.Code.size ≤ 1000000 ∧ payB y = true := fun y hy => by
    obtain ⟨i, hi⟩ := List.getElem?_of_mem hy
    have g := gcl i y hi
    have lt := (List.getElem?_eq_some_iff.1 hi).1
    have pay := g.pay (by omega)
    obtain ⟨_, _, h3, h4, h5, h6⟩ := g
    have h3' : 5 ≤ y.Amount ∧ y.Amount ≤ 250 := by simp at h3; omega
    have := (codesC_ok h6).2
    exact ⟨by omega, h5, by omega, pay⟩
  have ai : 0 ≤ ii ∧ ii ≤ 1000000 := by simp at ai; omega
  have au : 0 ≤ uu ∧ uu ≤ 1000000 := by simp at au; omega
  have aq : 0 ≤ qq ∧ qq ≤ 1000000 := by simp at aq; omega
  have adj : AdjIn Lc 359 ii uu qq cl := ⟨p2.2.1, by rw [p2.2.2.2]; omega, by omega, by rw [p2.2.2.1]; omega, by omega, fun y hy => (hmem y hy).2.2, fun y hy => by have := (hmem y hy).1; omega, fun y hy => by have := (hmem y hy).2.1; omega, ⟨ai, au, aq⟩, m0.of0 (.inr rfl) 359, m0.of0 (.inl rfl) 359⟩
  have pb := provD_b 359 cl fun y hy => (adj.oo y hy)
  have ob := openS_b cl fun y hy => (adj.oo y hy)
  obtain ⟨X, hX⟩ : ∃ X, X = Lc ++ adjL Lc.length 359 ii uu qq (openS cl) (-(provD 359 cl)) := ⟨_, rfl⟩
  have m1 := mk ii uu qq (openS cl) (-(provD 359 cl)) X hX (by omega) (by omega) (by omega) (by omega) (by omega)
  obtain ⟨_, _, cX, lX, nX⟩ := m1.close
  have clo := aclose_pf adj hX (by omega)
  have reo := areopen_pf (l := X) (day := 359) cX (by omega) (by omega) (by omega)
  obtain ⟨Y, hY⟩ : ∃ Y, Y = reopGo 1 359 X X := ⟨_, rfl⟩
  rw [← hY] at m1 reo
  have iX := imm_posts X
  have iY := imm_posts Y
  have icl := imm_claims cl
  simp -dsimp -implicitDefEqProofs [-getElem?_pos, go_sem, hP]
  refine callQ_isQ (Q := (· = .tup [.agg [postsL X], iv 0])) (clo.lift _ _) hP en_9 (by simp [iLc, icl, imm_agg, imm_sc]) ⟨_, rfl, imm_pair (by simpa [imm_agg] using iX) .sc⟩ ?_
  rintro r rfl _
  simp -dsimp -implicitDefEqProofs [-getElem?_pos, go_sem, hP, restr_get]
  refine ⟨agree_push (Nat.le_refl _), ?_⟩
  refine callB_is (reo.lift _ _) hP en_11 (by simp [iX, imm_agg, imm_sc]) (imm_pair (by simpa [imm_agg] using iY) .sc) ?_
  have dx := days3_ix
  obtain ⟨A3, hA3⟩ : ∃ A3, A3 = AV.agg [iv 300, iv 359, iv 360] := ⟨_, rfl⟩
  rw [← hA3] at dx
  simp -dsimp -implicitDefEqProofs [-getElem?_pos, go_sem, hP]
  rw [← hA3]
  have ck := m1.turn.ok
  have ly := m1.turn.len
  have r3 := m1.ref3
  have tot := total_pf a gn.1 gn.2
  rw [cA] at tot
  obtain ⟨N1, hN1⟩ : ∃ N1, N1 = s.H.length + 1 := ⟨_, rfl⟩
  obtain ⟨IB, hIB⟩ : ∃ I : Nat → St → Prop, I = fun m s => ∃ k : Nat, k ≤ 3 ∧ m = 3 - k ∧ s.t 4 = .ref 1 0 0 ∧ s.t 6 = iv n ∧ s.t 13 = .ref N1 0 0 ∧ s.t 84 = A3 ∧ s.t 85 = iv k ∧ s.H[1]? = some (some ⟨28, 3, [[iv a.Credit, subsL a.Subs, entsL a.Entries]]⟩) ∧ s.H[N1]? = some (some ⟨33, 1, [[postsL Y]]⟩) := ⟨_, rfl⟩
  refine aloop0 IB (3) (by rw [hN]; rfl) ?_ ?_
  · rw [hIB]
    refine ⟨0, by omega, by omega, by simp -dsimp -implicitDefEqProofs [-getElem?_pos, go_sem, t4], by simp -dsimp -implicitDefEqProofs [-getElem?_pos, go_sem, t6], by simp -dsimp -implicitDefEqProofs [-getElem?_pos, go_sem, hN1], by simp -dsimp -implicitDefEqProofs [-getElem?_pos, go_sem], by simp -dsimp -implicitDefEqProofs [-getElem?_pos, go_sem], ?_, ?_⟩
    · simp -dsimp -implicitDefEqProofs [-getElem?_pos, go_sem, List.getElem?_append_left l1, g1]
    · simp -dsimp -implicitDefEqProofs [-getElem?_pos, go_sem, hN1]
  clear g1 g2 l1 l2 t3 t4 t5 t6 t37 t38 hq hIA
  intro m s hs'
  rw [hIB] at hs'
  obtain ⟨k, hk, hm3, t4, t6, t13, t84, t85, g1, gY⟩ := hs'
  have l1 := (List.getElem?_eq_some_iff.1 g1).1
  have lY := (List.getElem?_eq_some_iff.1 gY).1
  simp -dsimp -implicitDefEqProofs [-getElem?_pos, go_sem, hP, t85]
  refine condP (fun hq => ?_) (fun hq => ?_)
  rotate_left
  · simp -dsimp -implicitDefEqProofs [-getElem?_pos, go_sem, hP]
    refine callB_pure (awake45_pf none none) hP en_14 (args_same (by simp -dsimp -implicitDefEqProofs [-getElem?_pos, go_sem])) .sc ?_
    simp -dsimp -implicitDefEqProofs [-getElem?_pos, go_sem, hP]
  have hk3 : k < 3 := by simp at hq; omega
  obtain ⟨day, hdx, hdb⟩ := dx k hk3
  have wk := wrap_in ((k : Int) + 1) (by omega)
  have who := whole_pf (l := Y) (day := day) (x := n) ck ly (by omega) (m1.agreed (by omega)) r3 (by omega)
  have who : PFun Tryz.prog none none 12 [.agg [postsL Y], .list 1 [[iv 1], [iv 2]], iv day] (WholeQ Y day n) := who
  simp -dsimp -implicitDefEqProofs [-getElem?_pos, go_sem, hP, t84, t85, hdx, t13, gY, lY]
  refine callB_isQ (who.lift _ _) hP en_12 (by simp [iY, imm_agg, imm_sc, imm_list]) (wholeQ_ex Y day n) ?_
  rintro r ⟨M, hM, rfl⟩ _
  obtain ⟨w1, w2, w3⟩ := m1.whole (by omega) hM
  obtain ⟨B, hB⟩ : ∃ B, B = listM M 600 := ⟨_, rfl⟩
  have bl : B.length ≤ 600 := by rw [hB]; exact listG_len _ _ _
  rw [← hB] at w1 w2 w3
  have iB := imm_bals B
  have wn := wrap_in (2 * n) (by omega)
  have dn : decide (n + n = 2 * n) = true := decide_eq_true (by omega)
  simp -dsimp -implicitDefEqProofs [-getElem?_pos, go_sem, hP, t6, wn, dn, ← hB]
  obtain ⟨IC, hIC⟩ : ∃ I : Nat → St → Prop, I = fun m s => ∃ j : Nat, j ≤ B.length ∧ m = B.length - j ∧ s.t 4 = .ref 1 0 0 ∧ s.t 6 = iv n ∧ s.t 13 = .ref N1 0 0 ∧ s.t 84 = A3 ∧ s.t 85 = iv k ∧ s.t 111 = balsL B ∧ s.t 112 = iv B.length ∧ s.t 113 = iv j ∧ s.t 19 = iv (sumA (B.take j)) ∧ s.t 20 = iv (cashL (B.take j)) ∧ s.H[1]? = some (some ⟨28, 3, [[iv a.Credit, subsL a.Subs, entsL a.Entries]]⟩) ∧ s.H[N1]? = some (some ⟨33, 1, [[postsL Y]]⟩) := ⟨_, rfl⟩
  refine aloop0 IC (B.length) (by rw [hN]; rfl) ?_ ?_
  · rw [hIC]
    exact ⟨0, by omega, by omega, by simp -dsimp -implicitDefEqProofs [-getElem?_pos, go_sem, t4], by simp -dsimp -implicitDefEqProofs [-getElem?_pos, go_sem, t6], by simp -dsimp -implicitDefEqProofs [-getElem?_pos, go_sem, t13], by simp -dsimp -implicitDefEqProofs [-getElem?_pos, go_sem, t84], by simp -dsimp -implicitDefEqProofs [-getElem?_pos, go_sem, t85], by simp -dsimp -implicitDefEqProofs [-getElem?_pos, go_sem], by simp -dsimp -implicitDefEqProofs [-getElem?_pos, go_sem], by simp -dsimp -implicitDefEqProofs [-getElem?_pos, go_sem], by simp -dsimp -implicitDefEqProofs [-getElem?_pos, go_sem, sumA], by simp -dsimp -implicitDefEqProofs [-getElem?_pos, go_sem, cashL], by simp -dsimp -implicitDefEqProofs [-getElem?_pos, go_sem, List.getElem?_append_left l1, g1], by simp -dsimp -implicitDefEqProofs [-getElem?_pos, go_sem, List.getElem?_append_left lY, gY]⟩
  clear g1 gY l1 lY t4 t6 t13 t84 t85 hq
  intro m s hs'
  rw [hIC] at hs'
  obtain ⟨j, hj, hmj, t4, t6, t13, t84, t85, t111, t112, t113, t19, t20, g1, gY⟩ := hs'
  have l1 := (List.getElem?_eq_some_iff.1 g1).1
  have lY := (List.getElem?_eq_some_iff.1 gY).1
  simp -dsimp -implicitDefEqProofs [-getElem?_pos, go_sem, hP, t112, t113]
  refine condP (fun hq => ?_) (fun hq => ?_)
  · have hj2 : j < B.length := by simpa using hq
    obtain ⟨b, hb⟩ : ∃ b, B[j]? = some b := ⟨_, List.getElem?_eq_getElem hj2⟩
    have wj := wrap_in ((j : Int) + 1) (by omega)
    have e1 : sumA (B.take (j + 1)) = sumA (B.take j) + b.Amount := by rw [List.take_add_one, hb]; simp [sumA]
    have e2 : cashL (B.take (j + 1)) = if b.Account = 110 then b.Amount else cashL (B.take j) := by rw [List.take_add_one, hb]; exact cashL_snoc _ _
    have sb := sumA_take (B.take (j + 1)) fun y hy => w3 y (List.mem_of_mem_take hy)
    have sl : (B.take (j + 1)).length ≤ 600 := by simp; omega
    have sb : -(1000000000000000 * ((B.take (j + 1)).length : Int)) ≤ sumA (B.take (j + 1)) ∧ sumA (B.take (j + 1)) ≤ 1000000000000000 * ((B.take (j + 1)).length : Int) := sb
    rw [e1] at sb
    have wsum := wrap_in (sumA (B.take j) + b.Amount) (by omega)
    have h1b : ∀ y : Option AObj, (s.H ++ [y])[1]? = some (some ⟨28, 3, [[iv a.Credit, subsL a.Subs, entsL a.Entries]]⟩) := fun y => by rw [List.getElem?_append_left l1]; exact g1
    have hYb : ∀ y : Option AObj, (s.H ++ [y])[N1]? = some (some ⟨33, 1, [[postsL Y]]⟩) := fun y => by rw [List.getElem?_append_left lY]; exact gY
    by_cases hc : b.Account = 110
    · have d1 : decide (b.Account = 110) = true := decide_eq_true hc
      rw [if_pos hc] at e2
      simp -dsimp -implicitDefEqProofs [-getElem?_pos, go_sem, hP, t111, t113, hb, cB, t19, wsum, d1, wj]
      refine ⟨B.length - (j + 1), by omega, ?_⟩
      rw [hIC]
      exact ⟨j + 1, by omega, rfl, by simp -dsimp -implicitDefEqProofs [-getElem?_pos, go_sem, t4], by simp -dsimp -implicitDefEqProofs [-getElem?_pos, go_sem, t6], by simp -dsimp -implicitDefEqProofs [-getElem?_pos, go_sem, t13], by simp -dsimp -implicitDefEqProofs [-getElem?_pos, go_sem, t84], by simp -dsimp -implicitDefEqProofs [-getElem?_pos, go_sem, t85], by simp -dsimp -implicitDefEqProofs [-getElem?_pos, go_sem, t111], by simp -dsimp -implicitDefEqProofs [-getElem?_pos, go_sem, t112], by simp -dsimp -implicitDefEqProofs [-getElem?_pos, go_sem], by rw [e1]; simp -dsimp -implicitDefEqProofs [-getElem?_pos, go_sem], by rw [e2]; simp -dsimp -implicitDefEqProofs [-getElem?_pos, go_sem], by simp -dsimp -implicitDefEqProofs [-getElem?_pos, go_sem, h1b], by simp -dsimp -implicitDefEqProofs [-getElem?_pos, go_sem, hYb]⟩
    · have d1 : decide (b.Account = 110) = false := decide_eq_false hc
      rw [if_neg hc] at e2
      simp -dsimp -implicitDefEqProofs [-getElem?_pos, go_sem, hP, t111, t113, hb, cB, t19, wsum, d1, wj]
      refine ⟨B.length - (j + 1), by omega, ?_⟩
      rw [hIC]
      exact ⟨j + 1, by omega, rfl, by simp -dsimp -implicitDefEqProofs [-getElem?_pos, go_sem, t4], by simp -dsimp -implicitDefEqProofs [-getElem?_pos, go_sem, t6], by simp -dsimp -implicitDefEqProofs [-getElem?_pos, go_sem, t13], by simp -dsimp -implicitDefEqProofs [-getElem?_pos, go_sem, t84], by simp -dsimp -implicitDefEqProofs [-getElem?_pos, go_sem, t85], by simp -dsimp -implicitDefEqProofs [-getElem?_pos, go_sem, t111], by simp -dsimp -implicitDefEqProofs [-getElem?_pos, go_sem, t112], by simp -dsimp -implicitDefEqProofs [-getElem?_pos, go_sem], by rw [e1]; simp -dsimp -implicitDefEqProofs [-getElem?_pos, go_sem], by rw [e2]; simp -dsimp -implicitDefEqProofs [-getElem?_pos, go_sem, t20], by simp -dsimp -implicitDefEqProofs [-getElem?_pos, go_sem, h1b], by simp -dsimp -implicitDefEqProofs [-getElem?_pos, go_sem, hYb]⟩
  · have hj2 : j = B.length := by simp at hq; omega
    subst hj2
    have w1 : sumA B = 0 := w1
    rw [List.take_length, w1] at t19
    rw [List.take_length, w2] at t20
    simp -dsimp -implicitDefEqProofs [-getElem?_pos, go_sem, hP, t19, t20, t4, g1, l1]
    refine callB_is (tot.lift _ _) hP en_13 (by simpa using ia) .sc ?_
    simp -dsimp -implicitDefEqProofs [-getElem?_pos, go_sem, hP, t20, t85, wk]
    refine ⟨3 - (k + 1), by omega, ?_⟩
    rw [hIB]
    exact ⟨k + 1, by omega, rfl, by simp -dsimp -implicitDefEqProofs [-getElem?_pos, go_sem, t4], by simp -dsimp -implicitDefEqProofs [-getElem?_pos, go_sem, t6], by simp -dsimp -implicitDefEqProofs [-getElem?_pos, go_sem, t13], by simp -dsimp -implicitDefEqProofs [-getElem?_pos, go_sem, t84], by simp -dsimp -implicitDefEqProofs [-getElem?_pos, go_sem], by simp -dsimp -implicitDefEqProofs [-getElem?_pos, go_sem, g1], by simp -dsimp -implicitDefEqProofs [-getElem?_pos, go_sem, gY]⟩
end Go.Proofs.YtpllcolbcahicaaGreatDoor
