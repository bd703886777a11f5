/- Several texts of this claim, joined: Rec12 Rec13 Rec14 Rec15 AccNet Rec9 Rec10 Rec16 Rec17 Rec18 PlayOdd BatGen AccGen Rec19. -/
import Derived.Test.YtpjecipdklcjbaaGreatDoorPk6
set_option linter.unusedSimpArgs false
set_option linter.unusedVariables false
namespace Go.Proofs.YtpjecipdklcjbaaGreatDoor
open Go.PA
open Go.RowKit
theorem pay_ext {a b : TPayment} (h1 : a.Warrant = b.Warrant) (h2 : a.Payee = b.Payee) (h3 : a.Amount = b.Amount) (h4 : a.Due = b.Due) (h5 : a.Sub = b.Sub) : a = b := by
  cases a; cases b
  simp only at h1 h2 h3 h4 h5
  simp [h1, h2, h3, h4, h5]
set_option maxHeartbeats 4000000 in
theorem rcheck26_pf (d : TDesk) (hf : FitD d) : PFun Tryz.prog none none 45 [.agg d.cells] (· = iv (checkD d)) := by
  refine pfun_intro Tryz.func45 rfl (by simp [Tryz.f45]) (by kernel_rfl) ?_
  intro E hP hr hs hW hN
  have ia := imm_acc d.Account
  have iq := imm_que d.Queue
  have cka := check23_pf d.Account hf.s hf.e
  have ckq := rcheck25_pf d.Queue hf.q
  rw [cA] at ia cka
  rw [cQn] at iq ckq
  have li := hf.i
  have lk := hf.q.k
  obtain ⟨R, hR⟩ : ∃ R, R = checkD d := ⟨_, rfl⟩
  rw [← hR]
  simp -dsimp -implicitDefEqProofs [-getElem?_pos, go_sem, hP, cDn]
  refine callB_is (cka.lift _ _) hP en_82 (by simpa using ia) .sc ?_
  by_cases c1 : checkA d.Account = 0
  rotate_left
  · have : R = checkA d.Account := by rw [hR, checkD, if_neg c1]
    simp -dsimp -implicitDefEqProofs [-getElem?_pos, go_sem, hP, c1, this]
  simp -dsimp -implicitDefEqProofs [-getElem?_pos, go_sem, hP, c1]
  refine callB_is (ckq.lift _ _) hP en_97 (by simpa using iq) .sc ?_
  by_cases c2 : checkQ d.Queue = 0
  rotate_left
  · have : R = checkQ d.Queue := by rw [hR, checkD, if_pos c1, if_neg c2]
    simp -dsimp -implicitDefEqProofs [-getElem?_pos, go_sem, hP, c2, this]
  rw [checkD, if_pos c1, if_pos c2, deskB] at hR
  obtain ⟨l, hl⟩ : ∃ l, l = d.Items := ⟨_, rfl⟩
  obtain ⟨K, hK⟩ : ∃ K, K = d.Queue.Known := ⟨_, rfl⟩
  obtain ⟨itB, hit⟩ : ∃ f, f = itemB d := ⟨_, rfl⟩
  rw [← hl, ← hK, ← hit] at hR
  rw [← hl] at li
  rw [← hK] at lk
  rw [← hK] at iq
  by_cases c3 : l.length = K.length
  rotate_left
  · have d3 : decide ((l.length : Int) = (K.length : Int)) = false := decide_eq_false (by omega)
    have hne : ¬ l.map wrt = K := fun e => c3 (by rw [← e, List.length_map])
    rw [decide_eq_false hne, Bool.false_and, if_neg (by simp)] at hR
    simp -dsimp -implicitDefEqProofs [-getElem?_pos, go_sem, hP, c2, ← hl, ← hK, d3, hR]
  have d3 : decide ((l.length : Int) = (K.length : Int)) = true := decide_eq_true (by omega)
  simp -dsimp -implicitDefEqProofs [-getElem?_pos, go_sem, hP, c2, ← hl, ← hK, d3]
  obtain ⟨I, hI⟩ : ∃ I : Nat → St → Prop, I = fun m s => ∃ (k : Nat), k ≤ l.length ∧ m = l.length - k ∧ (l.take k).map wrt = K.take k ∧ (l.take k).all itB = true ∧ s.t 1 = .ref 0 0 0 ∧ s.t 37 = itemsL l ∧ s.t 38 = iv l.length ∧ s.t 39 = iv k ∧ s.H[0]? = some (some ⟨35, 7, [[iv d.Account.Credit, subsL d.Account.Subs, entsL d.Account.Entries, paysL d.Queue.Waiting, numsL K, batsL d.Queue.Batches, itemsL l]]⟩) := ⟨_, rfl⟩
  refine aloop0 I (l.length) (by rw [hN]; rfl) ?_ ?_
  · rw [hI]
    exact ⟨0, by omega, by omega, by simp, by simp, by simp -dsimp -implicitDefEqProofs [-getElem?_pos, go_sem], by simp -dsimp -implicitDefEqProofs [-getElem?_pos, go_sem], by simp -dsimp -implicitDefEqProofs [-getElem?_pos, go_sem], by simp -dsimp -implicitDefEqProofs [-getElem?_pos, go_sem], by simp -dsimp -implicitDefEqProofs [-getElem?_pos, go_sem]⟩
  intro m s hs'
  rw [hI] at hs'
  obtain ⟨k, hk, hm, hmap, hall, t1, t37, t38, t39, h0⟩ := hs'
  have lt0 := (List.getElem?_eq_some_iff.1 h0).1
  simp -dsimp -implicitDefEqProofs [-getElem?_pos, go_sem, hP, t38, t39]
  refine condP (fun hh => ?_) (fun hh => ?_)
  rotate_left
  · have hk : k = l.length := by simp at hh; omega
    subst hk
    rw [List.take_length] at hmap hall
    rw [c3, List.take_length] at hmap
    rw [decide_eq_true hmap, hall] at hR
    simp -dsimp -implicitDefEqProofs [-getElem?_pos, go_sem, hP, hR]
  have hk : k < l.length := by simpa using hh
  obtain ⟨x, hx⟩ : ∃ x, l[k]? = some x := ⟨_, List.getElem?_eq_getElem hk⟩
  obtain ⟨w, hw⟩ : ∃ w, K[k]? = some w := ⟨_, List.getElem?_eq_getElem (by omega)⟩
  have wk := wrap_in ((k : Int) + 1) (by omega)
  have badI : itB x = false → R = 68 := fun e => by
    rw [hR, if_neg]
    rw [Bool.and_eq_true]
    rintro ⟨_, h1⟩
    have := List.all_eq_true.1 h1 x (List.mem_of_getElem? hx)
    rw [e] at this
    cases this
  have badW : ¬ x.Payment.Warrant = w → R = 68 := fun e => by
    rw [hR, if_neg]
    rw [Bool.and_eq_true]
    rintro ⟨h1, _⟩
    have h1 : l.map wrt = K := of_decide_eq_true h1
    have : (l.map wrt)[k]? = some x.Payment.Warrant := by rw [List.getElem?_map, hx]; rfl
    rw [h1, hw] at this
    exact e (Option.some.inj this).symm
  have hitx : itB x = (payB x.Payment && ((balanceA d.Account x.Payment.Sub).2 && (amg x.State 1 5 && (attB x && (waitB d.Queue x && (decide ((batN d.Queue x.Payment.Warrant : Int) = x.Attempts) && movedB d.Account x)))))) := by rw [hit, itemB]
  have ix := imm_item x
  have ip := imm_pay x.Payment
  have bl := balance23_pf d.Account x.Payment.Sub hf.s hf.e
  have py := rpay_pf x.Payment
  have wt := rwaiting_pf d.Queue x.Payment.Warrant (by have := hf.q.w; omega)
  have bt := rbatched_pf d.Queue x.Payment.Warrant hf.q
  have ct := fun h => rcounted_pf d.Account x.Payment hf.e h
  rw [cIt] at ix
  simp only [cA] at bl ct
  simp only [cPy] at ip py wt ct
  simp only [cQn, ← hK] at wt bt
  obtain ⟨n, hn⟩ : ∃ n, n = s.H.length := ⟨_, rfl⟩
  obtain ⟨H1, hH1⟩ : ∃ H1, H1 = s.H ++ [some (itemO x), some (⟨99, 5, [[iv x.Payment.Warrant, iv x.Payment.Payee, iv x.Payment.Amount, iv x.Payment.Due, iv x.Payment.Sub]]⟩ : AObj)] := ⟨_, rfl⟩
  have l1 : H1.length = n + 2 := by rw [hH1, hn]; simp
  have k0 : H1[0]? = some (some ⟨35, 7, [[iv d.Account.Credit, subsL d.Account.Subs, entsL d.Account.Entries, paysL d.Queue.Waiting, numsL K, batsL d.Queue.Batches, itemsL l]]⟩) := by rw [hH1, List.getElem?_append_left lt0]; exact h0
  have kn : H1[n]? = some (some (itemO x)) := by rw [hH1, hn, List.getElem?_append_right (Nat.le_refl _), Nat.sub_self]; rfl
  have kp : H1[n + 1]? = some (some ⟨99, 5, [[iv x.Payment.Warrant, iv x.Payment.Payee, iv x.Payment.Amount, iv x.Payment.Due, iv x.Payment.Sub]]⟩) := by rw [hH1, hn, List.getElem?_append_right (by omega), Nat.add_sub_cancel_left]; rfl
  have q0 : 0 < H1.length := by omega
  have qn : n < H1.length := by omega
  have qp : n + 1 < H1.length := by omega
  simp -dsimp -implicitDefEqProofs [-getElem?_pos, go_sem, hP, t37, t39, hx, cIt, t1, h0, lt0]
  rw [← hH1, ← hn]
  refine callB_is (bl.lift _ _) hP en_98 (by simpa [imm_sc] using ia) (imm_pair .sc .sc) ?_
  simp -dsimp -implicitDefEqProofs [-getElem?_pos, go_sem, hP]
  refine adrawB (fun _ => true) [] hP (by kernel_rfl) (by kernel_rfl) ?_
  by_cases e1 : x.Payment.Warrant = w
  rotate_left
  · have f1 := decide_eq_false e1
    simp -dsimp -implicitDefEqProofs [-getElem?_pos, go_sem, hP, kp, qp, t1, k0, q0, hw, encI, f1, badW e1]
  subst e1
  simp -dsimp -implicitDefEqProofs [-getElem?_pos, go_sem, hP, kp, qp, t1, k0, q0, hw, encI]
  refine callB_is (py.lift _ _) hP en_99 (by simpa using ip) .sc ?_
  cases e2 : payB x.Payment
  · rw [e2, Bool.false_and] at hitx
    simp -dsimp -implicitDefEqProofs [-getElem?_pos, go_sem, hP, kn, qn, badI hitx]
  rw [e2, Bool.true_and] at hitx
  have hsub := ((payB_iff x.Payment).1 e2).sub.1
  cases e3 : (balanceA d.Account x.Payment.Sub).2
  · rw [e3, Bool.false_and] at hitx
    simp -dsimp -implicitDefEqProofs [-getElem?_pos, go_sem, hP, kn, qn, e3, badI hitx]
  rw [e3, Bool.true_and] at hitx
  by_cases e4 : x.State < 1
  · rw [amg_no (by omega), Bool.false_and] at hitx
    simp -dsimp -implicitDefEqProofs [-getElem?_pos, go_sem, hP, kn, qn, e3, e4, badI hitx]
  have f4 := decide_eq_false e4
  by_cases e5 : 5 < x.State
  · rw [amg_no (by omega), Bool.false_and] at hitx
    simp -dsimp -implicitDefEqProofs [-getElem?_pos, go_sem, hP, kn, qn, e3, f4, e5, badI hitx]
  have f5 := decide_eq_false e5
  rw [amg_iff.2 (by omega), Bool.true_and, attB] at hitx
  by_cases e6 : x.Attempts < 0
  · rw [amg_no (by omega), Bool.false_and, Bool.false_and] at hitx
    simp -dsimp -implicitDefEqProofs [-getElem?_pos, go_sem, hP, kn, qn, e3, f4, f5, e6, badI hitx]
  have f6 := decide_eq_false e6
  by_cases e7 : 5 < x.Attempts
  · rw [amg_no (by omega), Bool.false_and, Bool.false_and] at hitx
    simp -dsimp -implicitDefEqProofs [-getElem?_pos, go_sem, hP, kn, qn, e3, f4, f5, f6, e7, badI hitx]
  have f7 := decide_eq_false e7
  rw [amg_iff.2 (by omega), Bool.true_and] at hitx
  simp -dsimp -implicitDefEqProofs [-getElem?_pos, go_sem, hP, kn, qn, kp, qp, t1, k0, q0, e3, f4, f5, f6, f7]
  obtain ⟨y, hy⟩ : ∃ y, y = (waitO d.Queue x.Payment.Warrant).getD zeroP := ⟨_, rfl⟩
  obtain ⟨is, his⟩ : ∃ b, b = (waitO d.Queue x.Payment.Warrant).isSome := ⟨_, rfl⟩
  rw [← hy, ← his] at wt
  refine callB_is (wt.lift _ _) hP en_100 (by simpa [imm_sc] using iq) (imm_pair (imm_pay _) .sc) ?_
  simp -dsimp -implicitDefEqProofs [-getElem?_pos, go_sem, hP, kn, qn, cPy]
  obtain ⟨H2, hH2⟩ : ∃ H2, H2 = H1 ++ [some (⟨99, 5, [[iv y.Warrant, iv y.Payee, iv y.Amount, iv y.Due, iv y.Sub]]⟩ : AObj)] := ⟨_, rfl⟩
  have l2 : H2.length = n + 3 := by rw [hH2]; simp; omega
  have j0 := (show H2[0]? = H1[0]? by rw [hH2, List.getElem?_append_left q0]).trans k0
  have jn := (show H2[n]? = H1[n]? by rw [hH2, List.getElem?_append_left qn]).trans kn
  have jp := (show H2[n + 1]? = H1[n + 1]? by rw [hH2, List.getElem?_append_left qp]).trans kp
  have jy : H2[n + 2]? = some (some ⟨99, 5, [[iv y.Warrant, iv y.Payee, iv y.Amount, iv y.Due, iv y.Sub]]⟩) := by rw [hH2, ← l1, List.getElem?_append_right (Nat.le_refl _), Nat.sub_self]; rfl
  have z0 : 0 < H2.length := by omega
  have zn : n < H2.length := by omega
  have zp : n + 1 < H2.length := by omega
  have zy : n + 2 < H2.length := by omega
  rw [← hH2, l1]
  obtain ⟨Inv, hInv⟩ : ∃ Inv : St → Prop, Inv = fun s' => (s'.t 122 = bv true ∧ R = 68 ∨ s'.t 122 = bv false ∧ itB x = (!(decide (x.Attempts = 5) && decide (x.State = 1)) && !(decide (x.Attempts = 0) && !(decide (x.State = 1) || decide (x.State = 5))) && movedB d.Account x)) ∧ s'.t 1 = .ref 0 0 0 ∧ s'.t 6 = .ref n 0 0 ∧ s'.t 7 = .ref (n + 1) 0 0 ∧ s'.t 37 = itemsL l ∧ s'.t 38 = iv l.length ∧ s'.t 39 = iv k ∧ s'.H = H2 := ⟨_, rfl⟩
  refine adraw_cut Inv ?_ ?_
  · have bad' : ∀ s' : St, itB x = false → s'.t 122 = bv true → s'.t 1 = .ref 0 0 0 → s'.t 6 = .ref n 0 0 → s'.t 7 = .ref (n + 1) 0 0 → s'.t 37 = itemsL l → s'.t 38 = iv l.length → s'.t 39 = iv k → s'.H = H2 → Inv s' := fun s' a b1 b2 b3 b4 b5 b6 b7 b8 => by
      rw [hInv]
      exact ⟨.inl ⟨b1, badI a⟩, b2, b3, b4, b5, b6, b7, b8⟩
    rw [waitB] at hitx
    cases hwo : waitO d.Queue x.Payment.Warrant with
    | none =>
      rw [hwo] at hitx his hy
      simp only [Option.isSome_none] at hitx his
      subst his
      by_cases e8 : x.State = 1
      · rw [decide_eq_true e8, Bool.not_true, Bool.false_and, Bool.and_false] at hitx
        refine adrawB (fun _ => true) [] hP (by kernel_rfl) (by kernel_rfl) ?_
        simp -dsimp -implicitDefEqProofs [-getElem?_pos, go_sem, hP, jn, zn, e8]
        exact bad' _ hitx (by simp -dsimp -implicitDefEqProofs [-getElem?_pos, go_sem]) (by simp -dsimp -implicitDefEqProofs [-getElem?_pos, go_sem, t1]) (by simp -dsimp -implicitDefEqProofs [-getElem?_pos, go_sem, hn]) (by simp -dsimp -implicitDefEqProofs [-getElem?_pos, go_sem, hn]) (by simp -dsimp -implicitDefEqProofs [-getElem?_pos, go_sem, t37]) (by simp -dsimp -implicitDefEqProofs [-getElem?_pos, go_sem, t38]) (by simp -dsimp -implicitDefEqProofs [-getElem?_pos, go_sem, t39]) rfl
      have f8 := decide_eq_false e8
      rw [f8, Bool.not_false, Bool.true_and] at hitx
      refine adrawB (fun _ => true) [] hP (by kernel_rfl) (by kernel_rfl) ?_
      simp -dsimp -implicitDefEqProofs [-getElem?_pos, go_sem, hP, jn, zn, e8, f8, t1, j0, z0, jp, zp]
      refine callB_is (bt.lift _ _) hP en_101 (by simpa [imm_sc] using iq) .sc ?_
      by_cases e10 : (batN d.Queue x.Payment.Warrant : Int) = x.Attempts
      · have f10 := decide_eq_true e10
        rw [f10, Bool.true_and] at hitx
        simp -dsimp -implicitDefEqProofs [-getElem?_pos, go_sem, hP, e8, f8, f10, jn, zn]
        rw [hInv]
        exact ⟨.inr ⟨by simp -dsimp -implicitDefEqProofs [-getElem?_pos, go_sem], by rw [hitx, f8]⟩, by simp -dsimp -implicitDefEqProofs [-getElem?_pos, go_sem, t1], by simp -dsimp -implicitDefEqProofs [-getElem?_pos, go_sem, hn], by simp -dsimp -implicitDefEqProofs [-getElem?_pos, go_sem, hn], by simp -dsimp -implicitDefEqProofs [-getElem?_pos, go_sem, t37], by simp -dsimp -implicitDefEqProofs [-getElem?_pos, go_sem, t38], by simp -dsimp -implicitDefEqProofs [-getElem?_pos, go_sem, t39], rfl⟩
      · have f10 := decide_eq_false e10
        rw [f10, Bool.false_and, Bool.and_false] at hitx
        simp -dsimp -implicitDefEqProofs [-getElem?_pos, go_sem, hP, e8, f8, f10, jn, zn]
        exact bad' _ hitx (by simp -dsimp -implicitDefEqProofs [-getElem?_pos, go_sem]) (by simp -dsimp -implicitDefEqProofs [-getElem?_pos, go_sem, t1]) (by simp -dsimp -implicitDefEqProofs [-getElem?_pos, go_sem, hn]) (by simp -dsimp -implicitDefEqProofs [-getElem?_pos, go_sem, hn]) (by simp -dsimp -implicitDefEqProofs [-getElem?_pos, go_sem, t37]) (by simp -dsimp -implicitDefEqProofs [-getElem?_pos, go_sem, t38]) (by simp -dsimp -implicitDefEqProofs [-getElem?_pos, go_sem, t39]) rfl
    | some w =>
      rw [hwo] at hitx his hy
      simp only [Option.isSome_some, Option.getD_some] at hitx his hy
      subst his
      subst hy
      by_cases e8 : x.State = 1
      rotate_left
      · have f8 := decide_eq_false e8
        rw [f8, Bool.false_and, Bool.false_and, Bool.and_false] at hitx
        refine adrawB (fun _ => true) [] hP (by kernel_rfl) (by kernel_rfl) ?_
        simp -dsimp -implicitDefEqProofs [-getElem?_pos, go_sem, hP, jn, zn, e8, f8]
        exact bad' _ hitx (by simp -dsimp -implicitDefEqProofs [-getElem?_pos, go_sem]) (by simp -dsimp -implicitDefEqProofs [-getElem?_pos, go_sem, t1]) (by simp -dsimp -implicitDefEqProofs [-getElem?_pos, go_sem, hn]) (by simp -dsimp -implicitDefEqProofs [-getElem?_pos, go_sem, hn]) (by simp -dsimp -implicitDefEqProofs [-getElem?_pos, go_sem, t37]) (by simp -dsimp -implicitDefEqProofs [-getElem?_pos, go_sem, t38]) (by simp -dsimp -implicitDefEqProofs [-getElem?_pos, go_sem, t39]) rfl
      have f8 := decide_eq_true e8
      rw [f8, Bool.true_and] at hitx
      refine adrawB (fun _ => true) [] hP (by kernel_rfl) (by kernel_rfl) ?_
      simp -dsimp -implicitDefEqProofs [-getElem?_pos, go_sem, hP, jn, zn, e8, f8, t1, j0, z0, jp, zp, jy, zy]
      by_cases e9 : y = x.Payment
      rotate_left
      · have g9 : (decide (y.Warrant = x.Payment.Warrant) && (decide (y.Payee = x.Payment.Payee) && (decide (y.Amount = x.Payment.Amount) && (decide (y.Due = x.Payment.Due) && decide (y.Sub = x.Payment.Sub))))) = false := Bool.eq_false_iff.2 fun h => e9 (by
          obtain ⟨y1, y2, y3, y4, y5⟩ := y
          simp only [Bool.and_eq_true, decide_eq_true_eq] at h
          rw [h.1, h.2.1, h.2.2.1, h.2.2.2.1, h.2.2.2.2])
        rw [decide_eq_false e9, Bool.false_and, Bool.and_false] at hitx
        simp -dsimp -implicitDefEqProofs [-getElem?_pos, go_sem, hP, g9, e8]
        exact bad' _ hitx (by
          simp -dsimp -implicitDefEqProofs [-getElem?_pos, go_sem, g9]
          exact fun h1 h2 h3 h4 h5 => absurd (pay_ext h1 h2 h3 h4 h5) e9) (by simp -dsimp -implicitDefEqProofs [-getElem?_pos, go_sem, t1]) (by simp -dsimp -implicitDefEqProofs [-getElem?_pos, go_sem, hn]) (by simp -dsimp -implicitDefEqProofs [-getElem?_pos, go_sem, hn]) (by simp -dsimp -implicitDefEqProofs [-getElem?_pos, go_sem, t37]) (by simp -dsimp -implicitDefEqProofs [-getElem?_pos, go_sem, t38]) (by simp -dsimp -implicitDefEqProofs [-getElem?_pos, go_sem, t39]) rfl
      have g9 : (decide (y.Warrant = x.Payment.Warrant) && (decide (y.Payee = x.Payment.Payee) && (decide (y.Amount = x.Payment.Amount) && (decide (y.Due = x.Payment.Due) && decide (y.Sub = x.Payment.Sub))))) = true := by simp [e9]
      rw [decide_eq_true e9, Bool.true_and] at hitx
      simp -dsimp -implicitDefEqProofs [-getElem?_pos, go_sem, hP, g9, e8, t1, j0, z0, jp, zp]
      refine callB_is (bt.lift _ _) hP en_101 (by simpa [imm_sc] using iq) .sc ?_
      by_cases e10 : (batN d.Queue x.Payment.Warrant : Int) = x.Attempts
      · have f10 := decide_eq_true e10
        rw [f10, Bool.true_and] at hitx
        simp -dsimp -implicitDefEqProofs [-getElem?_pos, go_sem, hP, g9, e8, f10, jn, zn]
        rw [hInv]
        exact ⟨.inr ⟨(by simp -dsimp -implicitDefEqProofs [-getElem?_pos, go_sem, g9]; simp [e9]), by rw [hitx, f8]⟩, by simp -dsimp -implicitDefEqProofs [-getElem?_pos, go_sem, t1], by simp -dsimp -implicitDefEqProofs [-getElem?_pos, go_sem, hn], by simp -dsimp -implicitDefEqProofs [-getElem?_pos, go_sem, hn], by simp -dsimp -implicitDefEqProofs [-getElem?_pos, go_sem, t37], by simp -dsimp -implicitDefEqProofs [-getElem?_pos, go_sem, t38], by simp -dsimp -implicitDefEqProofs [-getElem?_pos, go_sem, t39], rfl⟩
      · have f10 := decide_eq_false e10
        rw [f10, Bool.false_and, Bool.and_false] at hitx
        simp -dsimp -implicitDefEqProofs [-getElem?_pos, go_sem, hP, g9, e8, f10, jn, zn]
        exact bad' _ hitx (by simp -dsimp -implicitDefEqProofs [-getElem?_pos, go_sem, g9]) (by simp -dsimp -implicitDefEqProofs [-getElem?_pos, go_sem, t1]) (by simp -dsimp -implicitDefEqProofs [-getElem?_pos, go_sem, hn]) (by simp -dsimp -implicitDefEqProofs [-getElem?_pos, go_sem, hn]) (by simp -dsimp -implicitDefEqProofs [-getElem?_pos, go_sem, t37]) (by simp -dsimp -implicitDefEqProofs [-getElem?_pos, go_sem, t38]) (by simp -dsimp -implicitDefEqProofs [-getElem?_pos, go_sem, t39]) rfl
  clear t1 t37 t38 t39
  rw [hInv]
  rintro s ⟨hA, t1, t6, t7, t37, t38, t39, hH⟩
  rcases hA with ⟨t122, hA⟩ | ⟨t122, hA⟩
  · simp -dsimp -implicitDefEqProofs [-getElem?_pos, go_sem, hP, t122, hA]
  clear hitx
  have fin : itB x = true → ∀ s' : St, s'.t 1 = .ref 0 0 0 → s'.t 37 = itemsL l → s'.t 38 = iv l.length → s'.t 39 = iv (k + 1) → s'.H[0]? = some (some ⟨35, 7, [[iv d.Account.Credit, subsL d.Account.Subs, entsL d.Account.Entries, paysL d.Queue.Waiting, numsL K, batsL d.Queue.Batches, itemsL l]]⟩) → ∃ m', m' < m ∧ I m' s' := fun e s' b1 b2 b3 b4 b5 => by
    refine ⟨l.length - (k + 1), by omega, ?_⟩
    rw [hI]
    refine ⟨k + 1, by omega, rfl, ?_, ?_, b1, b2, b3, b4, b5⟩
    · rw [map_snoc_take hx, hmap, take_at hw]; rfl
    · rw [take_at hx, List.all_append, hall]; simp [e]
  rw [movedB] at hA
  have ct' := ct hsub
  obtain ⟨co, hco⟩ : ∃ c, c = d.Account.Entries.countP (outE x.Payment) := ⟨_, rfl⟩
  obtain ⟨ci, hci⟩ : ∃ c, c = d.Account.Entries.countP (inE x.Payment) := ⟨_, rfl⟩
  obtain ⟨allE, hal⟩ : ∃ c, c = d.Account.Entries.all (okE x.Payment) := ⟨_, rfl⟩
  rw [← hco, ← hci, ← hal] at hA ct'
  by_cases e11 : x.Attempts = 5
  · have f11 := decide_eq_true e11
    have f13 : decide (x.Attempts = 0) = false := decide_eq_false (by omega)
    by_cases e12 : x.State = 1
    · have f12 := decide_eq_true e12
      rw [f11, f12, Bool.and_self, Bool.not_true, Bool.false_and, Bool.false_and] at hA
      simp -dsimp -implicitDefEqProofs [-getElem?_pos, go_sem, hP, t122, t6, hH, jn, zn, e11, e12, badI hA]
    have f12 := decide_eq_false e12
    rw [f11, f12, f13, Bool.and_false, Bool.not_false, Bool.true_and, Bool.false_and, Bool.not_false, Bool.true_and] at hA
    simp -dsimp -implicitDefEqProofs [-getElem?_pos, go_sem, hP, t122, t6, hH, jn, zn, f11, f12, f13, t1, j0, z0, t7, jp, zp]
    refine callB_is (ct'.lift _ _) hP en_102 (by simpa using ⟨ia, ip⟩) (imm_trip .sc .sc .sc) ?_
    cases ea : allE
    · rw [ea, Bool.false_and] at hA
      rcases (show x.State = 2 ∨ x.State = 3 ∨ (¬ x.State = 2 ∧ ¬ x.State = 3) by omega) with s2 | s3 | ⟨s2, s3⟩
      · simp -dsimp -implicitDefEqProofs [-getElem?_pos, go_sem, hP, t6, jn, zn, s2, badI hA]
      · simp -dsimp -implicitDefEqProofs [-getElem?_pos, go_sem, hP, t6, jn, zn, s3, badI hA]
      · have s2d := decide_eq_false s2
        have s3d := decide_eq_false s3
        simp -dsimp -implicitDefEqProofs [-getElem?_pos, go_sem, hP, t6, jn, zn, s2, s3, s2d, s3d, badI hA]
    rw [ea, Bool.true_and] at hA
    rcases (show x.State = 2 ∨ x.State = 3 ∨ (¬ x.State = 2 ∧ ¬ x.State = 3) by omega) with s2 | s3 | ⟨s2, s3⟩
    · have hg : goneN x = 1 := by simp [goneN, goneB, s2]
      have wg := wrap_in (x.Attempts - 1) (by omega)
      have wg : IntKind.i64.wrap (x.Attempts - 1) = x.Attempts - 1 := wg
      rw [hg] at hA
      by_cases g1 : (co : Int) = x.Attempts
      rotate_left
      · have g2 := decide_eq_false g1
        rw [g2, Bool.false_and] at hA
        simp -dsimp -implicitDefEqProofs [-getElem?_pos, go_sem, hP, t6, s2, g2, g1, jn, zn, badI hA]
      have g2 := decide_eq_true g1
      rw [g2, Bool.true_and] at hA
      by_cases g3 : (ci : Int) = x.Attempts - 1
      · have g4 : decide ((ci : Int) = x.Attempts - 1) = true := decide_eq_true g3
        rw [decide_eq_true (by omega)] at hA
        simp -dsimp -implicitDefEqProofs [-getElem?_pos, go_sem, hP, t6, s2, g2, g4, wg, jn, zn, t39, wk]
        exact fin hA _ (by simp -dsimp -implicitDefEqProofs [-getElem?_pos, go_sem, t1]) (by simp -dsimp -implicitDefEqProofs [-getElem?_pos, go_sem, t37]) (by simp -dsimp -implicitDefEqProofs [-getElem?_pos, go_sem, t38]) (by simp -dsimp -implicitDefEqProofs [-getElem?_pos, go_sem]) (by simp -dsimp -implicitDefEqProofs [-getElem?_pos, go_sem, j0])
      · have g4 : decide ((ci : Int) = x.Attempts - 1) = false := decide_eq_false g3
        rw [decide_eq_false (by omega)] at hA
        simp -dsimp -implicitDefEqProofs [-getElem?_pos, go_sem, hP, t6, s2, g2, g4, wg, jn, zn, badI hA]
    · have hg : goneN x = 1 := by simp [goneN, goneB, s3]
      have wg := wrap_in (x.Attempts - 1) (by omega)
      have wg : IntKind.i64.wrap (x.Attempts - 1) = x.Attempts - 1 := wg
      rw [hg] at hA
      by_cases g1 : (co : Int) = x.Attempts
      rotate_left
      · have g2 := decide_eq_false g1
        rw [g2, Bool.false_and] at hA
        simp -dsimp -implicitDefEqProofs [-getElem?_pos, go_sem, hP, t6, s3, g2, g1, jn, zn, badI hA]
      have g2 := decide_eq_true g1
      rw [g2, Bool.true_and] at hA
      by_cases g3 : (ci : Int) = x.Attempts - 1
      · have g4 : decide ((ci : Int) = x.Attempts - 1) = true := decide_eq_true g3
        rw [decide_eq_true (by omega)] at hA
        simp -dsimp -implicitDefEqProofs [-getElem?_pos, go_sem, hP, t6, s3, g2, g4, wg, jn, zn, t39, wk]
        exact fin hA _ (by simp -dsimp -implicitDefEqProofs [-getElem?_pos, go_sem, t1]) (by simp -dsimp -implicitDefEqProofs [-getElem?_pos, go_sem, t37]) (by simp -dsimp -implicitDefEqProofs [-getElem?_pos, go_sem, t38]) (by simp -dsimp -implicitDefEqProofs [-getElem?_pos, go_sem]) (by simp -dsimp -implicitDefEqProofs [-getElem?_pos, go_sem, j0])
      · have g4 : decide ((ci : Int) = x.Attempts - 1) = false := decide_eq_false g3
        rw [decide_eq_false (by omega)] at hA
        simp -dsimp -implicitDefEqProofs [-getElem?_pos, go_sem, hP, t6, s3, g2, g4, wg, jn, zn, badI hA]
    · have s2d := decide_eq_false s2
      have s3d := decide_eq_false s3
      have hg : goneN x = 0 := by simp [goneN, goneB, s2, s3]
      have wg := wrap_in x.Attempts (by omega)
      rw [hg] at hA
      by_cases g1 : (co : Int) = x.Attempts
      rotate_left
      · have g2 := decide_eq_false g1
        rw [g2, Bool.false_and] at hA
        simp -dsimp -implicitDefEqProofs [-getElem?_pos, go_sem, hP, t6, s2, s3, s2d, s3d, g2, g1, jn, zn, badI hA]
      have g2 := decide_eq_true g1
      rw [g2, Bool.true_and] at hA
      by_cases g3 : (ci : Int) = x.Attempts
      · have g4 : decide ((ci : Int) = x.Attempts) = true := decide_eq_true g3
        rw [decide_eq_true (by omega)] at hA
        simp -dsimp -implicitDefEqProofs [-getElem?_pos, go_sem, hP, t6, s2, s3, s2d, s3d, g2, g4, wg, jn, zn, t39, wk]
        exact fin hA _ (by simp -dsimp -implicitDefEqProofs [-getElem?_pos, go_sem, t1]) (by simp -dsimp -implicitDefEqProofs [-getElem?_pos, go_sem, t37]) (by simp -dsimp -implicitDefEqProofs [-getElem?_pos, go_sem, t38]) (by simp -dsimp -implicitDefEqProofs [-getElem?_pos, go_sem]) (by simp -dsimp -implicitDefEqProofs [-getElem?_pos, go_sem, j0])
      · have g4 : decide ((ci : Int) = x.Attempts) = false := decide_eq_false g3
        rw [decide_eq_false (by omega)] at hA
        simp -dsimp -implicitDefEqProofs [-getElem?_pos, go_sem, hP, t6, s2, s3, s2d, s3d, g2, g4, wg, jn, zn, badI hA]
  have f11 := decide_eq_false e11
  by_cases e13 : x.Attempts = 0
  · have f13 := decide_eq_true e13
    by_cases e12 : x.State = 1
    · have f12 := decide_eq_true e12
      rw [f11, f12, f13, Bool.false_and, Bool.not_false, Bool.true_and, Bool.true_or, Bool.not_true, Bool.and_false, Bool.not_false, Bool.true_and] at hA
      simp -dsimp -implicitDefEqProofs [-getElem?_pos, go_sem, hP, t122, t6, hH, jn, zn, f11, f13, e12, t1, j0, z0, t7, jp, zp]
      refine callB_is (ct'.lift _ _) hP en_102 (by simpa using ⟨ia, ip⟩) (imm_trip .sc .sc .sc) ?_
      cases ea : allE
      · rw [ea, Bool.false_and] at hA
        simp -dsimp -implicitDefEqProofs [-getElem?_pos, go_sem, hP, t6, jn, zn, e12, badI hA]
      rw [ea, Bool.true_and] at hA
      have hg : goneN x = 0 := by simp [goneN, goneB, e12]
      have wg := wrap_in x.Attempts (by omega)
      rw [hg] at hA
      by_cases g1 : (co : Int) = x.Attempts
      rotate_left
      · have g2 := decide_eq_false g1
        rw [g2, Bool.false_and] at hA
        simp -dsimp -implicitDefEqProofs [-getElem?_pos, go_sem, hP, t6, e12, g2, g1, jn, zn, badI hA]
      have g2 := decide_eq_true g1
      rw [g2, Bool.true_and] at hA
      by_cases g3 : (ci : Int) = x.Attempts
      · have g4 : decide ((ci : Int) = x.Attempts) = true := decide_eq_true g3
        rw [decide_eq_true (by omega)] at hA
        simp -dsimp -implicitDefEqProofs [-getElem?_pos, go_sem, hP, t6, e12, g2, g4, wg, jn, zn, t39, wk]
        exact fin hA _ (by simp -dsimp -implicitDefEqProofs [-getElem?_pos, go_sem, t1]) (by simp -dsimp -implicitDefEqProofs [-getElem?_pos, go_sem, t37]) (by simp -dsimp -implicitDefEqProofs [-getElem?_pos, go_sem, t38]) (by simp -dsimp -implicitDefEqProofs [-getElem?_pos, go_sem]) (by simp -dsimp -implicitDefEqProofs [-getElem?_pos, go_sem, j0])
      · have g4 : decide ((ci : Int) = x.Attempts) = false := decide_eq_false g3
        rw [decide_eq_false (by omega)] at hA
        simp -dsimp -implicitDefEqProofs [-getElem?_pos, go_sem, hP, t6, e12, g2, g4, wg, jn, zn, badI hA]
    have f12' := decide_eq_false e12
    have n12 := e12
    clear e12
    by_cases e12 : x.State = 5
    · have f12 := decide_eq_true e12
      rw [f11, f12', f12, f13, Bool.false_and, Bool.not_false, Bool.true_and, Bool.or_true, Bool.not_true, Bool.and_false, Bool.not_false, Bool.true_and] at hA
      simp -dsimp -implicitDefEqProofs [-getElem?_pos, go_sem, hP, t122, t6, hH, jn, zn, f11, f13, e12, t1, j0, z0, t7, jp, zp]
      refine callB_is (ct'.lift _ _) hP en_102 (by simpa using ⟨ia, ip⟩) (imm_trip .sc .sc .sc) ?_
      cases ea : allE
      · rw [ea, Bool.false_and] at hA
        simp -dsimp -implicitDefEqProofs [-getElem?_pos, go_sem, hP, t6, jn, zn, e12, badI hA]
      rw [ea, Bool.true_and] at hA
      have hg : goneN x = 0 := by simp [goneN, goneB, e12]
      have wg := wrap_in x.Attempts (by omega)
      rw [hg] at hA
      by_cases g1 : (co : Int) = x.Attempts
      rotate_left
      · have g2 := decide_eq_false g1
        rw [g2, Bool.false_and] at hA
        simp -dsimp -implicitDefEqProofs [-getElem?_pos, go_sem, hP, t6, e12, g2, g1, jn, zn, badI hA]
      have g2 := decide_eq_true g1
      rw [g2, Bool.true_and] at hA
      by_cases g3 : (ci : Int) = x.Attempts
      · have g4 : decide ((ci : Int) = x.Attempts) = true := decide_eq_true g3
        rw [decide_eq_true (by omega)] at hA
        simp -dsimp -implicitDefEqProofs [-getElem?_pos, go_sem, hP, t6, e12, g2, g4, wg, jn, zn, t39, wk]
        exact fin hA _ (by simp -dsimp -implicitDefEqProofs [-getElem?_pos, go_sem, t1]) (by simp -dsimp -implicitDefEqProofs [-getElem?_pos, go_sem, t37]) (by simp -dsimp -implicitDefEqProofs [-getElem?_pos, go_sem, t38]) (by simp -dsimp -implicitDefEqProofs [-getElem?_pos, go_sem]) (by simp -dsimp -implicitDefEqProofs [-getElem?_pos, go_sem, j0])
      · have g4 : decide ((ci : Int) = x.Attempts) = false := decide_eq_false g3
        rw [decide_eq_false (by omega)] at hA
        simp -dsimp -implicitDefEqProofs [-getElem?_pos, go_sem, hP, t6, e12, g2, g4, wg, jn, zn, badI hA]
    have f12 := decide_eq_false e12
    rw [f11, f12', f12, f13, Bool.false_and, Bool.not_false, Bool.or_self, Bool.not_false, Bool.and_self, Bool.not_true, Bool.and_false, Bool.false_and] at hA
    simp -dsimp -implicitDefEqProofs [-getElem?_pos, go_sem, hP, t122, t6, hH, jn, zn, f11, f13, f12', f12, badI hA]
  have f13 := decide_eq_false e13
  rw [f11, f13, Bool.false_and, Bool.false_and, Bool.not_false, Bool.true_and, Bool.true_and] at hA
  simp -dsimp -implicitDefEqProofs [-getElem?_pos, go_sem, hP, t122, t6, hH, jn, zn, f11, f13, t1, j0, z0, t7, jp, zp]
  refine callB_is (ct'.lift _ _) hP en_102 (by simpa using ⟨ia, ip⟩) (imm_trip .sc .sc .sc) ?_
  cases ea : allE
  · rw [ea, Bool.false_and] at hA
    rcases (show x.State = 2 ∨ x.State = 3 ∨ (¬ x.State = 2 ∧ ¬ x.State = 3) by omega) with s2 | s3 | ⟨s2, s3⟩
    · simp -dsimp -implicitDefEqProofs [-getElem?_pos, go_sem, hP, t6, jn, zn, s2, badI hA]
    · simp -dsimp -implicitDefEqProofs [-getElem?_pos, go_sem, hP, t6, jn, zn, s3, badI hA]
    · have s2d := decide_eq_false s2
      have s3d := decide_eq_false s3
      simp -dsimp -implicitDefEqProofs [-getElem?_pos, go_sem, hP, t6, jn, zn, s2, s3, s2d, s3d, badI hA]
  rw [ea, Bool.true_and] at hA
  rcases (show x.State = 2 ∨ x.State = 3 ∨ (¬ x.State = 2 ∧ ¬ x.State = 3) by omega) with s2 | s3 | ⟨s2, s3⟩
  · have hg : goneN x = 1 := by simp [goneN, goneB, s2]
    have wg := wrap_in (x.Attempts - 1) (by omega)
    have wg : IntKind.i64.wrap (x.Attempts - 1) = x.Attempts - 1 := wg
    rw [hg] at hA
    by_cases g1 : (co : Int) = x.Attempts
    rotate_left
    · have g2 := decide_eq_false g1
      rw [g2, Bool.false_and] at hA
      simp -dsimp -implicitDefEqProofs [-getElem?_pos, go_sem, hP, t6, s2, g2, g1, jn, zn, badI hA]
    have g2 := decide_eq_true g1
    rw [g2, Bool.true_and] at hA
    by_cases g3 : (ci : Int) = x.Attempts - 1
    · have g4 : decide ((ci : Int) = x.Attempts - 1) = true := decide_eq_true g3
      rw [decide_eq_true (by omega)] at hA
      simp -dsimp -implicitDefEqProofs [-getElem?_pos, go_sem, hP, t6, s2, g2, g4, wg, jn, zn, t39, wk]
      exact fin hA _ (by simp -dsimp -implicitDefEqProofs [-getElem?_pos, go_sem, t1]) (by simp -dsimp -implicitDefEqProofs [-getElem?_pos, go_sem, t37]) (by simp -dsimp -implicitDefEqProofs [-getElem?_pos, go_sem, t38]) (by simp -dsimp -implicitDefEqProofs [-getElem?_pos, go_sem]) (by simp -dsimp -implicitDefEqProofs [-getElem?_pos, go_sem, j0])
    · have g4 : decide ((ci : Int) = x.Attempts - 1) = false := decide_eq_false g3
      rw [decide_eq_false (by omega)] at hA
      simp -dsimp -implicitDefEqProofs [-getElem?_pos, go_sem, hP, t6, s2, g2, g4, wg, jn, zn, badI hA]
  · have hg : goneN x = 1 := by simp [goneN, goneB, s3]
    have wg := wrap_in (x.Attempts - 1) (by omega)
    have wg : IntKind.i64.wrap (x.Attempts - 1) = x.Attempts - 1 := wg
    rw [hg] at hA
    by_cases g1 : (co : Int) = x.Attempts
    rotate_left
    · have g2 := decide_eq_false g1
      rw [g2, Bool.false_and] at hA
      simp -dsimp -implicitDefEqProofs [-getElem?_pos, go_sem, hP, t6, s3, g2, g1, jn, zn, badI hA]
    have g2 := decide_eq_true g1
    rw [g2, Bool.true_and] at hA
    by_cases g3 : (ci : Int) = x.Attempts - 1
    · have g4 : decide ((ci : Int) = x.Attempts - 1) = true := decide_eq_true g3
      rw [decide_eq_true (by omega)] at hA
      simp -dsimp -implicitDefEqProofs [-getElem?_pos, go_sem, hP, t6, s3, g2, g4, wg, jn, zn, t39, wk]
      exact fin hA _ (by simp -dsimp -implicitDefEqProofs [-getElem?_pos, go_sem, t1]) (by simp -dsimp -implicitDefEqProofs [-getElem?_pos, go_sem, t37]) (by simp -dsimp -implicitDefEqProofs [-getElem?_pos, go_sem, t38]) (by simp -dsimp -implicitDefEqProofs [-getElem?_pos, go_sem]) (by simp -dsimp -implicitDefEqProofs [-getElem?_pos, go_sem, j0])
    · have g4 : decide ((ci : Int) = x.Attempts - 1) = false := decide_eq_false g3
      rw [decide_eq_false (by omega)] at hA
      simp -dsimp -implicitDefEqProofs [-getElem?_pos, go_sem, hP, t6, s3, g2, g4, wg, jn, zn, badI hA]
  · have s2d := decide_eq_false s2
    have s3d := decide_eq_false s3
    have hg : goneN x = 0 := by simp [goneN, goneB, s2, s3]
    have wg := wrap_in x.Attempts (by omega)
    rw [hg] at hA
    by_cases g1 : (co : Int) = x.Attempts
    rotate_left
    · have g2 := decide_eq_false g1
      rw [g2, Bool.false_and] at hA
      simp -dsimp -implicitDefEqProofs [-getElem?_pos, go_sem, hP, t6, s2, s3, s2d, s3d, g2, g1, jn, zn, badI hA]
    have g2 := decide_eq_true g1
    rw [g2, Bool.true_and] at hA
    by_cases g3 : (ci : Int) = x.Attempts
    · have g4 : decide ((ci : Int) = x.Attempts) = true := decide_eq_true g3
      rw [decide_eq_true (by omega)] at hA
      simp -dsimp -implicitDefEqProofs [-getElem?_pos, go_sem, hP, t6, s2, s3, s2d, s3d, g2, g4, wg, jn, zn, t39, wk]
      exact fin hA _ (by simp -dsimp -implicitDefEqProofs [-getElem?_pos, go_sem, t1]) (by simp -dsimp -implicitDefEqProofs [-getElem?_pos, go_sem, t37]) (by simp -dsimp -implicitDefEqProofs [-getElem?_pos, go_sem, t38]) (by simp -dsimp -implicitDefEqProofs [-getElem?_pos, go_sem]) (by simp -dsimp -implicitDefEqProofs [-getElem?_pos, go_sem, j0])
    · have g4 : decide ((ci : Int) = x.Attempts) = false := decide_eq_false g3
      rw [decide_eq_false (by omega)] at hA
      simp -dsimp -implicitDefEqProofs [-getElem?_pos, go_sem, hP, t6, s2, s3, s2d, s3d, g2, g4, wg, jn, zn, badI hA]
open Go.PA
open Go.RowKit
abbrev zeroI : TItem := ⟨zeroP, 0, 0⟩
def findD (d : TDesk) (w st : Int) : Int × TItem × Int :=
  if checkD d = 0 then (match d.Items[(posI d.Items w).toNat]? with
    | none => (0, zeroI, 6)
    | some x => if posI d.Items w < 0 then (0, zeroI, 6) else if x.State = st then (posI d.Items w, x, 0) else (0, zeroI, 67)) else (0, zeroI, checkD d)
theorem findD_none {d : TDesk} {w st : Int} (h : checkD d = 0) (hw : w ∉ d.Items.map wrt) : findD d w st = (0, zeroI, 6) := by
  rw [findD, if_pos h]
  split
  · rfl
  · rw [if_pos (by rw [posI_none hw]; omega)]
theorem findD_at {d : TDesk} {st : Int} (h : checkD d = 0) {k : Nat} {x : TItem} (hx : d.Items[k]? = some x) : findD d x.Payment.Warrant st = if x.State = st then ((k : Int), x, 0) else (0, zeroI, 67) := by
  have hp := posI_at (checkD_iff.1 h).nd hx
  rw [findD, if_pos h, hp, Int.toNat_natCast, hx]
  simp only
  rw [if_neg (by omega)]
theorem find_cases (d : TDesk) (w st : Int) : ((findD d w st).2.2 ≠ 0 ∧ ∀ f, changeD d w st f = (zeroD, (findD d w st).2.2)) ∨ ∃ (k : Nat) (x : TItem), findD d w st = ((k : Int), x, 0) ∧ checkD d = 0 ∧ d.Items[k]? = some x ∧ x.Payment.Warrant = w ∧ x.State = st ∧ ∀ f : TDesk → TItem → Done1, changeD d w st f = if (f d x).e = 0 then (⟨(f d x).a, (f d x).q, d.Items.set k (f d x).x⟩, 0) else (zeroD, (f d x).e) := by
  by_cases c1 : checkD d = 0
  rotate_left
  · have : findD d w st = (0, zeroI, checkD d) := by rw [findD, if_neg c1]
    rw [this]
    exact .inl ⟨c1, fun f => changeD_bad c1⟩
  by_cases c2 : w ∈ d.Items.map wrt
  rotate_left
  · rw [findD_none c1 c2]
    exact .inl ⟨by decide, fun f => changeD_none c1 c2⟩
  obtain ⟨x, hx, e⟩ := List.mem_map.1 c2
  obtain ⟨k, hk⟩ := List.getElem?_of_mem hx
  have e : x.Payment.Warrant = w := e
  subst e
  by_cases c3 : x.State = st
  · refine .inr ⟨k, x, by rw [findD_at c1 hk, if_pos c3], c1, hk, rfl, c3, fun f => by rw [changeD_at c1 hk, if_pos c3]⟩
  · refine .inl ⟨by rw [findD_at c1 hk, if_neg c3]; decide, fun f => by rw [changeD_at c1 hk, if_neg c3, findD_at c1 hk, if_neg c3]⟩
theorem with_pf (d : TDesk) (i : Nat) (x : TItem) (hl : d.Items.length ≤ 100000) (hi : i < d.Items.length) : PFun Tryz.prog none none 52 [.agg d.cells, iv i, .agg x.cells] (· = .agg (TDesk.mk d.Account d.Queue (d.Items.set i x)).cells) := by
  refine pfun_intro Tryz.func52 rfl (by simp [Tryz.f52]) (by kernel_rfl) ?_
  intro E hP hr hs hW hN
  have i1 := imm_subs d.Account.Subs
  have i2 := imm_ents d.Account.Entries
  have i3 := imm_pays d.Queue.Waiting
  have i4 := imm_nums d.Queue.Known
  have i5 := imm_bats d.Queue.Batches
  have hle : (encL TItem.cells d.Items).length = d.Items.length := encL_len _ _
  have es := encL_set TItem.cells d.Items i x
  rw [cIt] at es
  have hne : ¬ d.Items.length = 0 := by omega
  obtain ⟨z, hz⟩ : ∃ z, d.Items[i]? = some z := ⟨_, List.getElem?_eq_getElem hi⟩
  simp -dsimp -implicitDefEqProofs [-getElem?_pos, go_sem, hP, cDn, cIt, hle, hne, hi, hz, es]
  refine ⟨by omega, by omega, ?_⟩
  refine done_agg (cs' := TDesk.cells ⟨d.Account, d.Queue, d.Items.set i x⟩) ?_ rfl
  exact cw_sc (cw_imm i1 (cw_imm i2 (cw_imm i3 (cw_imm i4 (cw_imm i5 (cw_sref (ty := 112) rfl (by rw [encL_len, List.length_set]) (imm_items _) .nil))))))
set_option maxHeartbeats 1000000 in
theorem rfind_pf (d : TDesk) (w st : Int) (hf : FitD d) : PFun Tryz.prog none none 136 [.agg d.cells, iv w, iv st] (· = .tup [iv (findD d w st).1, .agg (findD d w st).2.1.cells, iv (findD d w st).2.2]) := by
  refine pfun_intro Tryz.func136 rfl (by simp [Tryz.f136]) (by kernel_rfl) ?_
  intro E hP hr hs hW hN
  have li := hf.i
  have id' := imm_desk d
  have ck := rcheck26_pf d hf
  have rt := rat_pf d w (by omega)
  rw [cDn] at id' ck rt
  obtain ⟨R, hR⟩ : ∃ R, R = AV.tup [iv (findD d w st).1, .agg (findD d w st).2.1.cells, iv (findD d w st).2.2] := ⟨_, rfl⟩
  rw [← hR]
  have zer : ∀ n, findD d w st = (0, zeroI, n) → AV.tup [iv 0, .agg zeroI.cells, iv n] = R := fun n h => by rw [hR, h]
  have iz : ∀ n, Imm (.tup [iv 0, .agg zeroI.cells, iv n]) := fun n => imm_trip .sc (imm_item zeroI) .sc
  simp -dsimp -implicitDefEqProofs [-getElem?_pos, go_sem, hP, cDn]
  refine callB_is (ck.lift _ _) hP en_45 (by simpa using id') .sc ?_
  by_cases c1 : checkD d = 0
  rotate_left
  · have : findD d w st = (0, zeroI, checkD d) := by rw [findD, if_neg c1]
    simp -dsimp -implicitDefEqProofs [-getElem?_pos, go_sem, hP, c1]
    exact done_imm (iz _) (zer _ this)
  simp -dsimp -implicitDefEqProofs [-getElem?_pos, go_sem, hP, c1]
  refine callB_is (rt.lift _ _) hP en_51 (by simpa [imm_sc] using id') .sc ?_
  by_cases c2 : w ∈ d.Items.map wrt
  rotate_left
  · have h := findD_none (st := st) c1 c2
    have hp := posI_none c2
    simp -dsimp -implicitDefEqProofs [-getElem?_pos, go_sem, hP, hp]
    exact done_imm (iz _) (zer _ h)
  obtain ⟨x, hx, e⟩ := List.mem_map.1 c2
  obtain ⟨k, hk⟩ := List.getElem?_of_mem hx
  have e : x.Payment.Warrant = w := e
  have hp := posI_at (checkD_iff.1 c1).nd hk
  have hfi := findD_at (st := st) c1 hk
  rw [e] at hp hfi
  have d0 : decide ((k : Int) < 0) = false := decide_eq_false (by omega)
  by_cases c3 : x.State = st
  rotate_left
  · have d3 := decide_eq_false c3
    rw [if_neg c3] at hfi
    simp -dsimp -implicitDefEqProofs [-getElem?_pos, go_sem, hP, hp, d0, hk, cIt, d3]
    exact done_imm (iz _) (zer _ hfi)
  rw [if_pos c3] at hfi
  simp -dsimp -implicitDefEqProofs [-getElem?_pos, go_sem, hP, hp, d0, hk, cIt, c3]
  refine adrawB (fun i => decide (i = 0)) [7] hP (by kernel_rfl) (by kernel_rfl) ?_
  simp -dsimp -implicitDefEqProofs [-getElem?_pos, go_sem, hP, hp, d0, hk, cIt, c3]
  refine done_imm (imm_trip .sc (by have := imm_item x; rw [cIt, c3] at this; exact this) .sc) ?_
  rw [hR, hfi, ← c3]
  rfl
open Go.PA
open Go.RowKit
theorem settle26_pf (d : TDesk) (w : Int) (hf : FitD d) : PFun Tryz.prog none none 85 [.agg d.cells, iv w] (· = .tup [.agg (settleD d w).1.cells, iv (settleD d w).2]) := by
  refine pfun_intro Tryz.func85 rfl (by simp [Tryz.f85]) (by kernel_rfl) ?_
  intro E hP hr hs hW hN
  have li := hf.i
  have id' := imm_desk d
  have fi := rfind_pf d w 2 hf
  have ifi := imm_item (findD d w 2).2.1
  rw [cDn] at id' fi
  rw [cIt] at ifi fi
  obtain ⟨R, hR⟩ : ∃ R, R = AV.tup [.agg (settleD d w).1.cells, iv (settleD d w).2] := ⟨_, rfl⟩
  rw [← hR]
  simp -dsimp -implicitDefEqProofs [-getElem?_pos, go_sem, hP, cDn]
  refine callB_is (fi.lift _ _) hP en_136 (by simpa [imm_sc] using id') (imm_trip .sc ifi .sc) ?_
  rcases find_cases d w 2 with ⟨h1, h2⟩ | ⟨k, x, h1, h2, h3, h4, h5, h6⟩
  · have d1 := decide_eq_false h1
    simp -dsimp -implicitDefEqProofs [-getElem?_pos, go_sem, hP, d1]
    refine done_zeroD ?_
    rw [hR, settleD, h2]
  have hil := (List.getElem?_eq_some_iff.1 h3).1
  have wt := with_pf d k ⟨x.Payment, 3, x.Attempts⟩ li hil
  have io := imm_desk (TDesk.mk d.Account d.Queue (d.Items.set k ⟨x.Payment, 3, x.Attempts⟩))
  have ia := imm_item ⟨x.Payment, 3, x.Attempts⟩
  simp only [cDn, cIt] at wt io ia
  rw [h1]
  simp -dsimp -implicitDefEqProofs [-getElem?_pos, go_sem, hP]
  refine callB_is (wt.lift _ _) hP en_52 (by simpa [imm_sc] using ⟨id', ia⟩) io ?_
  simp -dsimp -implicitDefEqProofs [-getElem?_pos, go_sem, hP]
  refine done_imm (imm_pair io .sc) ?_
  rw [hR, settleD, h6]
  rfl
theorem recall26_pf (d : TDesk) (w : Int) (hf : FitD d) : PFun Tryz.prog none none 88 [.agg d.cells, iv w] (· = .tup [.agg (recallD d w).1.cells, iv (recallD d w).2]) := by
  refine pfun_intro Tryz.func88 rfl (by simp [Tryz.f88]) (by kernel_rfl) ?_
  intro E hP hr hs hW hN
  have li := hf.i
  have id' := imm_desk d
  have fi := rfind_pf d w 1 hf
  have ifi := imm_item (findD d w 1).2.1
  have iq := imm_que d.Queue
  have dp := drop25_pf d.Queue w hf.q
  have idp := imm_que (dropQ d.Queue w).1
  rw [cDn] at id' fi
  rw [cIt] at ifi fi
  simp only [cQn] at iq dp idp
  obtain ⟨R, hR⟩ : ∃ R, R = AV.tup [.agg (recallD d w).1.cells, iv (recallD d w).2] := ⟨_, rfl⟩
  rw [← hR]
  simp -dsimp -implicitDefEqProofs [-getElem?_pos, go_sem, hP, cDn]
  refine callB_is (fi.lift _ _) hP en_136 (by simpa [imm_sc] using id') (imm_trip .sc ifi .sc) ?_
  rcases find_cases d w 1 with ⟨h1, h2⟩ | ⟨k, x, h1, h2, h3, h4, h5, h6⟩
  · have d1 := decide_eq_false h1
    simp -dsimp -implicitDefEqProofs [-getElem?_pos, go_sem, hP, d1]
    refine done_zeroD ?_
    rw [hR, recallD, h2]
  have hil := (List.getElem?_eq_some_iff.1 h3).1
  have hr6 := h6 (recallF w)
  rw [← recallD] at hr6
  have hef : recallF w d x = ⟨d.Account, (dropQ d.Queue w).1, ⟨x.Payment, 5, x.Attempts⟩, (dropQ d.Queue w).2⟩ := rfl
  rw [hef] at hr6
  simp only at hr6
  rw [h1]
  simp -dsimp -implicitDefEqProofs [-getElem?_pos, go_sem, hP]
  refine callB_is (dp.lift _ _) hP en_138 (by simpa [imm_sc] using iq) (imm_pair idp .sc) ?_
  by_cases c1 : (dropQ d.Queue w).2 = 0
  rotate_left
  · have d1 := decide_eq_false c1
    rw [if_neg c1] at hr6
    simp -dsimp -implicitDefEqProofs [-getElem?_pos, go_sem, hP, d1]
    refine done_zeroD ?_
    rw [hR, hr6]
  rw [if_pos c1] at hr6
  have wt := with_pf ⟨d.Account, (dropQ d.Queue w).1, d.Items⟩ k ⟨x.Payment, 5, x.Attempts⟩ li hil
  have iw := imm_desk ⟨d.Account, (dropQ d.Queue w).1, d.Items⟩
  have io := imm_desk (TDesk.mk d.Account (dropQ d.Queue w).1 (d.Items.set k ⟨x.Payment, 5, x.Attempts⟩))
  have ia := imm_item ⟨x.Payment, 5, x.Attempts⟩
  simp only [cDn, cIt] at wt io ia iw
  simp -dsimp -implicitDefEqProofs [-getElem?_pos, go_sem, hP, c1]
  refine callB_is (wt.lift _ _) hP en_52 (by simpa [imm_sc] using ⟨iw, ia⟩) io ?_
  simp -dsimp -implicitDefEqProofs [-getElem?_pos, go_sem, hP]
  refine done_imm (imm_pair io .sc) ?_
  rw [hR, hr6]
  rfl
theorem return26_pf (d : TDesk) (w day : Int) (hf : FitD d) : PFun Tryz.prog none none 86 [.agg d.cells, iv w, iv day] (· = .tup [.agg (returnD d w day).1.cells, iv (returnD d w day).2]) := by
  refine pfun_intro Tryz.func86 rfl (by simp [Tryz.f86]) (by kernel_rfl) ?_
  intro E hP hr hs hW hN
  have li := hf.i
  have id' := imm_desk d
  have fi := rfind_pf d w 2 hf
  have ifi := imm_item (findD d w 2).2.1
  have iac := imm_acc d.Account
  rw [cDn] at id' fi
  rw [cIt] at ifi fi
  simp only [cA] at iac
  obtain ⟨R, hR⟩ : ∃ R, R = AV.tup [.agg (returnD d w day).1.cells, iv (returnD d w day).2] := ⟨_, rfl⟩
  rw [← hR]
  simp -dsimp -implicitDefEqProofs [-getElem?_pos, go_sem, hP, cDn]
  refine callB_is (fi.lift _ _) hP en_136 (by simpa [imm_sc] using id') (imm_trip .sc ifi .sc) ?_
  rcases find_cases d w 2 with ⟨h1, h2⟩ | ⟨k, x, h1, h2, h3, h4, h5, h6⟩
  · have d1 := decide_eq_false h1
    simp -dsimp -implicitDefEqProofs [-getElem?_pos, go_sem, hP, d1]
    refine done_zeroD ?_
    rw [hR, returnD, h2]
  have hil := (List.getElem?_eq_some_iff.1 h3).1
  have hr6 := h6 (returnF w day)
  rw [← returnD] at hr6
  have nx := next23_pf d.Account day 0 x.Payment.Sub x.Payment.Amount w hf.e
  obtain ⟨e, hee⟩ : ∃ e, e = nextE d.Account day 0 x.Payment.Sub x.Payment.Amount w := ⟨_, rfl⟩
  have hef : returnF w day d x = ⟨(postA d.Account e).1, d.Queue, ⟨x.Payment, 4, x.Attempts⟩, (postA d.Account e).2⟩ := by rw [returnF, hee]
  rw [hef] at hr6
  simp only at hr6
  rw [← hee] at nx
  have ie := imm_ent e
  have po := post23_pf d.Account e hf.s hf.e
  have ipo := imm_acc (postA d.Account e).1
  simp only [cA] at nx po ipo
  rw [h1]
  simp -dsimp -implicitDefEqProofs [-getElem?_pos, go_sem, hP]
  refine adrawQ (fun i => decide (i < 3)) [18] [12, 13] hP (by kernel_rfl) (by kernel_rfl) ?_
  simp -dsimp -implicitDefEqProofs [-getElem?_pos, go_sem, hP]
  refine callQ_is (nx.lift _ _) hP en_49 (by simpa [imm_sc] using iac) ie ?_
  simp -dsimp -implicitDefEqProofs [-getElem?_pos, go_sem, hP]
  refine callQ_is (po.lift _ _) hP en_48 (by simpa using ⟨iac, ie⟩) (imm_pair ipo .sc) ?_
  simp -dsimp -implicitDefEqProofs [-getElem?_pos, go_sem, hP]
  refine ⟨agree_3, ?_⟩
  by_cases c1 : (postA d.Account e).2 = 0
  rotate_left
  · have d1 := decide_eq_false c1
    rw [if_neg c1] at hr6
    simp -dsimp -implicitDefEqProofs [-getElem?_pos, go_sem, hP, d1]
    refine done_zeroD ?_
    rw [hR, hr6]
  rw [if_pos c1] at hr6
  have wt := with_pf ⟨(postA d.Account e).1, d.Queue, d.Items⟩ k ⟨x.Payment, 4, x.Attempts⟩ li hil
  have iw := imm_desk ⟨(postA d.Account e).1, d.Queue, d.Items⟩
  have io := imm_desk (TDesk.mk (postA d.Account e).1 d.Queue (d.Items.set k ⟨x.Payment, 4, x.Attempts⟩))
  have ia := imm_item ⟨x.Payment, 4, x.Attempts⟩
  simp only [cDn, cIt] at wt io ia iw
  simp -dsimp -implicitDefEqProofs [-getElem?_pos, go_sem, hP, c1]
  refine callB_is (wt.lift _ _) hP en_52 (by simpa [imm_sc] using ⟨iw, ia⟩) io ?_
  simp -dsimp -implicitDefEqProofs [-getElem?_pos, go_sem, hP]
  refine done_imm (imm_pair io .sc) ?_
  rw [hR, hr6]
  rfl
theorem again26_pf (d : TDesk) (w due : Int) (hf : FitD d) : PFun Tryz.prog none none 87 [.agg d.cells, iv w, iv due] (· = .tup [.agg (againD d w due).1.cells, iv (againD d w due).2]) := by
  refine pfun_intro Tryz.func87 rfl (by simp [Tryz.f87]) (by kernel_rfl) ?_
  intro E hP hr hs hW hN
  have li := hf.i
  have id' := imm_desk d
  have fi := rfind_pf d w 4 hf
  have ifi := imm_item (findD d w 4).2.1
  have iq := imm_que d.Queue
  rw [cDn] at id' fi
  rw [cIt] at ifi fi
  simp only [cQn] at iq
  obtain ⟨R, hR⟩ : ∃ R, R = AV.tup [.agg (againD d w due).1.cells, iv (againD d w due).2] := ⟨_, rfl⟩
  rw [← hR]
  simp -dsimp -implicitDefEqProofs [-getElem?_pos, go_sem, hP, cDn]
  refine callB_is (fi.lift _ _) hP en_136 (by simpa [imm_sc] using id') (imm_trip .sc ifi .sc) ?_
  rcases find_cases d w 4 with ⟨h1, h2⟩ | ⟨k, x, h1, h2, h3, h4, h5, h6⟩
  · have d1 := decide_eq_false h1
    simp -dsimp -implicitDefEqProofs [-getElem?_pos, go_sem, hP, d1]
    refine done_zeroD ?_
    rw [hR, againD, h2]
  have hil := (List.getElem?_eq_some_iff.1 h3).1
  have hd := checkD_iff.1 h2
  have hatt : 0 ≤ x.Attempts ∧ x.Attempts ≤ 5 := by
    have := hd.i x (List.mem_of_getElem? h3)
    simp only [itemB, attB, Bool.and_eq_true, amg_iff] at this
    exact this.2.2.2.1.1
  have hr6 := h6 (againF due)
  rw [← againD] at hr6
  rw [h1]
  by_cases c0 : x.Attempts = 5
  · rw [againF, if_pos c0] at hr6
    simp only at hr6
    rw [if_neg (by decide)] at hr6
    simp -dsimp -implicitDefEqProofs [-getElem?_pos, go_sem, hP, c0]
    refine done_zeroD ?_
    rw [hR, hr6]
  have d0 : decide (5 ≤ x.Attempts) = false := decide_eq_false (by omega)
  rw [againF, if_neg c0] at hr6
  simp only at hr6
  obtain ⟨y, hy⟩ : ∃ y, y = duePay x.Payment due := ⟨_, rfl⟩
  have ap := again25_pf d.Queue y hf.q
  have iap := imm_que (againQ d.Queue y).1
  have ip := imm_pay y
  rw [← hy] at hr6
  have cy : TPayment.cells y = [iv x.Payment.Warrant, iv x.Payment.Payee, iv x.Payment.Amount, iv due, iv x.Payment.Sub] := by rw [hy]; rfl
  simp only [cQn, cy] at ap iap ip
  simp -dsimp -implicitDefEqProofs [-getElem?_pos, go_sem, hP, d0]
  refine callB_is (ap.lift _ _) hP en_137 (by simpa using ⟨iq, ip⟩) (imm_pair iap .sc) ?_
  by_cases c1 : (againQ d.Queue y).2 = 0
  rotate_left
  · have d1 := decide_eq_false c1
    rw [if_neg c1] at hr6
    simp -dsimp -implicitDefEqProofs [-getElem?_pos, go_sem, hP, d1]
    refine done_zeroD ?_
    rw [hR, hr6]
  rw [if_pos c1] at hr6
  have wt := with_pf ⟨d.Account, (againQ d.Queue y).1, d.Items⟩ k ⟨y, 1, x.Attempts⟩ li hil
  have iw := imm_desk ⟨d.Account, (againQ d.Queue y).1, d.Items⟩
  have io := imm_desk (TDesk.mk d.Account (againQ d.Queue y).1 (d.Items.set k ⟨y, 1, x.Attempts⟩))
  have ia := imm_item ⟨y, 1, x.Attempts⟩
  have ciy : TItem.cells ⟨y, 1, x.Attempts⟩ = [iv x.Payment.Warrant, iv x.Payment.Payee, iv x.Payment.Amount, iv due, iv x.Payment.Sub, iv 1, iv x.Attempts] := by rw [hy]; rfl
  simp only [cDn, ciy] at wt io ia iw
  simp -dsimp -implicitDefEqProofs [-getElem?_pos, go_sem, hP, c1]
  refine callB_is (wt.lift _ _) hP en_52 (by simpa [imm_sc] using ⟨iw, ia⟩) io ?_
  simp -dsimp -implicitDefEqProofs [-getElem?_pos, go_sem, hP]
  refine done_imm (imm_pair io .sc) ?_
  rw [hR, hr6]
  rfl
theorem open26_pf (a : TAccount) (hl : a.Subs.length ≤ 100000) (he : a.Entries.length ≤ 100000) : PFun Tryz.prog none none 39 [.agg a.cells] (· = .tup [.agg (openD a).1.cells, iv (openD a).2]) := by
  refine pfun_intro Tryz.func39 rfl (by simp [Tryz.f39]) (by kernel_rfl) ?_
  intro E hP hr hs hW hN
  have ia := imm_acc a
  have ck := check23_pf a hl he
  rw [cA] at ia ck
  have i1 := imm_subs a.Subs
  have i2 := imm_ents a.Entries
  obtain ⟨R, hR⟩ : ∃ R, R = AV.tup [.agg (openD a).1.cells, iv (openD a).2] := ⟨_, rfl⟩
  rw [← hR]
  simp -dsimp -implicitDefEqProofs [-getElem?_pos, go_sem, hP, cA]
  refine callB_is (ck.lift _ _) hP en_82 (by simpa using ia) .sc ?_
  by_cases c1 : checkA a = 0
  rotate_left
  · have : openD a = (zeroD, checkA a) := by rw [openD, if_neg c1]
    simp -dsimp -implicitDefEqProofs [-getElem?_pos, go_sem, hP, c1]
    refine done_zeroD ?_
    rw [hR, this]
  simp -dsimp -implicitDefEqProofs [-getElem?_pos, go_sem, hP, c1]
  obtain ⟨l, hl'⟩ : ∃ l, l = a.Entries := ⟨_, rfl⟩
  rw [← hl'] at he i2
  obtain ⟨I, hI⟩ : ∃ I : Nat → St → Prop, I = fun m s => ∃ k : Nat, k ≤ l.length ∧ m = l.length - k ∧ l.any (fun e => !refB 0 e) = (l.drop k).any (fun e => !refB 0 e) ∧ s.t 1 = .ref 0 0 0 ∧ s.t 2 = .ref 1 0 0 ∧ s.t 14 = entsL l ∧ s.t 15 = iv l.length ∧ s.t 16 = iv k ∧ s.H[0]? = some (some ⟨28, 3, [[iv a.Credit, subsL a.Subs, entsL l]]⟩) ∧ s.H[1]? = some (some ⟨35, 7, [[iv 0, .nil, .nil, .nil, .nil, .nil, .nil]]⟩) := ⟨_, rfl⟩
  refine aloop0 I (l.length) (by rw [hN]; rfl) ?_ ?_
  · rw [hI]
    exact ⟨0, by omega, by omega, by rfl, by simp -dsimp -implicitDefEqProofs [-getElem?_pos, go_sem], by simp -dsimp -implicitDefEqProofs [-getElem?_pos, go_sem], by simp -dsimp -implicitDefEqProofs [-getElem?_pos, go_sem, hl'], by simp -dsimp -implicitDefEqProofs [-getElem?_pos, go_sem, hl'], by simp -dsimp -implicitDefEqProofs [-getElem?_pos, go_sem], by simp -dsimp -implicitDefEqProofs [-getElem?_pos, go_sem, hl'], by simp -dsimp -implicitDefEqProofs [-getElem?_pos, go_sem]⟩
  intro m s hs'
  rw [hI] at hs'
  obtain ⟨k, hk, hm, hq, t1, t2, t14, t15, t16, h0, h1⟩ := hs'
  have lt0 := (List.getElem?_eq_some_iff.1 h0).1
  have lt1 := (List.getElem?_eq_some_iff.1 h1).1
  simp -dsimp -implicitDefEqProofs [-getElem?_pos, go_sem, hP, t15, t16]
  refine condP (fun h => ?_) (fun h => ?_)
  · have hk : k < l.length := by simpa using h
    obtain ⟨e, hee⟩ : ∃ e, l[k]? = some e := ⟨_, List.getElem?_eq_getElem hk⟩
    have wk := wrap_in ((k : Int) + 1) (by omega)
    have g1 : ∀ x : Option AObj, (s.H ++ [x])[1]? = some (some ⟨35, 7, [[iv 0, .nil, .nil, .nil, .nil, .nil, .nil]]⟩) := fun x => by rw [List.getElem?_append_left lt1]; exact h1
    rw [drop_at hee, List.any_cons] at hq
    by_cases c : e.Ref = 0
    · rw [show refB 0 e = true by simp [refB, c], Bool.not_true, Bool.false_or] at hq
      simp -dsimp -implicitDefEqProofs [-getElem?_pos, go_sem, hP, t14, t16, hee, cE, c, wk]
      refine ⟨l.length - (k + 1), by omega, ?_⟩
      rw [hI]
      exact ⟨k + 1, by omega, rfl, hq, by simp -dsimp -implicitDefEqProofs [-getElem?_pos, go_sem, t1], by simp -dsimp -implicitDefEqProofs [-getElem?_pos, go_sem, t2], by simp -dsimp -implicitDefEqProofs [-getElem?_pos, go_sem, t14], by simp -dsimp -implicitDefEqProofs [-getElem?_pos, go_sem, t15], by simp -dsimp -implicitDefEqProofs [-getElem?_pos, go_sem], by simp -dsimp -implicitDefEqProofs [-getElem?_pos, go_sem, lt0, h0], by simp -dsimp -implicitDefEqProofs [-getElem?_pos, go_sem, lt1, h1]⟩
    · rw [show refB 0 e = false by simp [refB, c], Bool.not_false, Bool.true_or, hl'] at hq
      have d := decide_eq_false c
      have : openD a = (zeroD, 68) := by rw [openD, if_pos c1, if_pos hq]
      simp -dsimp -implicitDefEqProofs [-getElem?_pos, go_sem, hP, t14, t16, hee, cE, c, d, t2, g1, lt1, h1]
      refine done_zeroD ?_
      rw [hR, this]
  · have hk : k = l.length := by simp at h; omega
    subst hk
    rw [List.drop_length, List.any_nil, hl'] at hq
    have : openD a = (⟨a, zeroQ, []⟩, 0) := by rw [openD, if_pos c1, if_neg (by simp [hq])]
    simp -dsimp -implicitDefEqProofs [-getElem?_pos, go_sem, hP, t1, h0, lt0, t2, h1, lt1]
    refine done_agg2 (cs' := [iv a.Credit, subsL a.Subs, entsL l, paysL [], numsL [], batsL [], itemsL []]) (cw_sc (cw_imm (imm_subs _) (cw_imm (imm_ents _) (cw_nil (cw_nil (cw_nil (cw_nil .nil))))))) ?_
    rw [hR, this, hl']
    rfl
open Go.PA
open Go.RowKit
set_option maxHeartbeats 4000000 in
theorem order26_pf (d : TDesk) (p : TPayment) (hf : FitD d) : PFun Tryz.prog none none 83 [.agg d.cells, .agg p.cells] (· = .tup [.agg (orderD d p).1.cells, iv (orderD d p).2]) := by
  refine pfun_intro Tryz.func83 rfl (by simp [Tryz.f83]) (by kernel_rfl) ?_
  intro E hP hr hs hW hN
  have li := hf.i
  have le := hf.e
  have id' := imm_desk d
  have ia := imm_acc d.Account
  have iq := imm_que d.Queue
  have ip := imm_pay p
  have ck := rcheck26_pf d hf
  have ad := add25_pf d.Queue p hf.q
  have io := imm_que (addQ d.Queue p).1
  have bl := balance23_pf d.Account p.Sub hf.s hf.e
  simp only [cDn] at id' ck
  simp only [cA] at ia bl
  simp only [cQn, cPy] at iq ip ad io
  obtain ⟨R, hR⟩ : ∃ R, R = AV.tup [.agg (orderD d p).1.cells, iv (orderD d p).2] := ⟨_, rfl⟩
  rw [← hR]
  have zer : ∀ n, orderD d p = (zeroD, n) → AV.tup [.agg zeroD.cells, iv n] = R := fun n h => by rw [hR, h]
  simp -dsimp -implicitDefEqProofs [-getElem?_pos, go_sem, hP, cDn, cPy]
  refine callB_is (ck.lift _ _) hP en_45 (by simpa using id') .sc ?_
  by_cases c1 : checkD d = 0
  rotate_left
  · have : orderD d p = (zeroD, checkD d) := by rw [orderD, if_neg c1]
    simp -dsimp -implicitDefEqProofs [-getElem?_pos, go_sem, hP, c1]
    exact done_zeroD (zer _ this)
  have hd := checkD_iff.1 c1
  simp -dsimp -implicitDefEqProofs [-getElem?_pos, go_sem, hP, c1]
  refine callB_is (ad.lift _ _) hP en_135 (by simpa using ⟨iq, ip⟩) (imm_pair io .sc) ?_
  by_cases c2 : (addQ d.Queue p).2 = 0
  rotate_left
  · have : orderD d p = (zeroD, (addQ d.Queue p).2) := by rw [orderD, if_pos c1, if_neg c2]
    have d2 := decide_eq_false c2
    simp -dsimp -implicitDefEqProofs [-getElem?_pos, go_sem, hP, d2]
    exact done_zeroD (zer _ this)
  simp -dsimp -implicitDefEqProofs [-getElem?_pos, go_sem, hP, c2]
  refine callB_is (bl.lift _ _) hP en_98 (by simpa [imm_sc] using ia) (imm_pair .sc .sc) ?_
  cases c3 : (balanceA d.Account p.Sub).2
  · have : orderD d p = (zeroD, 60) := by rw [orderD, if_pos c1, if_pos c2, if_neg (by simp [c3])]
    simp -dsimp -implicitDefEqProofs [-getElem?_pos, go_sem, hP, c3]
    exact done_zeroD (zer _ this)
  simp -dsimp -implicitDefEqProofs [-getElem?_pos, go_sem, hP, c3]
  obtain ⟨es, hes⟩ : ∃ es, es = d.Account.Entries := ⟨_, rfl⟩
  obtain ⟨l, hl⟩ : ∃ l, l = d.Items := ⟨_, rfl⟩
  obtain ⟨q', hq'⟩ : ∃ q', q' = (addQ d.Queue p).1 := ⟨_, rfl⟩
  rw [← hes] at le
  rw [← hl] at li
  have hor : es.any (refB p.Warrant) = false → orderD d p = (⟨d.Account, q', ins ltI l ⟨p, 1, 0⟩⟩, 0) := fun h => by rw [orderD, if_pos c1, if_pos c2, if_pos c3, if_neg (by rw [← hes, h]; simp), hq', hl]
  have hknown : es.any (refB p.Warrant) = true → orderD d p = (zeroD, 65) := fun h => by rw [orderD, if_pos c1, if_pos c2, if_pos c3, if_pos (by rw [← hes, h])]
  obtain ⟨I, hI⟩ : ∃ I : Nat → St → Prop, I = fun m s => ∃ k : Nat, k ≤ es.length ∧ m = es.length - k ∧ es.any (refB p.Warrant) = (es.drop k).any (refB p.Warrant) ∧ s.t 2 = .ref 0 0 0 ∧ s.t 3 = .ref 1 0 0 ∧ s.t 4 = .ref 2 0 0 ∧ s.t 7 = .ref 3 0 0 ∧ s.t 44 = entsL es ∧ s.t 45 = iv es.length ∧ s.t 46 = iv k ∧ s.H[0]? = some (some ⟨35, 7, [[iv d.Account.Credit, subsL d.Account.Subs, entsL es, paysL d.Queue.Waiting, numsL d.Queue.Known, batsL d.Queue.Batches, itemsL l]]⟩) ∧ s.H[1]? = some (some ⟨99, 5, [[iv p.Warrant, iv p.Payee, iv p.Amount, iv p.Due, iv p.Sub]]⟩) ∧ s.H[2]? = some (some ⟨35, 7, [[iv 0, .nil, .nil, .nil, .nil, .nil, .nil]]⟩) ∧ s.H[3]? = some (some ⟨32, 3, [[paysL q'.Waiting, numsL q'.Known, batsL q'.Batches]]⟩) := ⟨_, rfl⟩
  refine aloop0 I (es.length) (by rw [hN]; rfl) ?_ ?_
  · rw [hI]
    exact ⟨0, by omega, by omega, by rfl, by simp -dsimp -implicitDefEqProofs [-getElem?_pos, go_sem], by simp -dsimp -implicitDefEqProofs [-getElem?_pos, go_sem], by simp -dsimp -implicitDefEqProofs [-getElem?_pos, go_sem], by simp -dsimp -implicitDefEqProofs [-getElem?_pos, go_sem], by simp -dsimp -implicitDefEqProofs [-getElem?_pos, go_sem, hes], by simp -dsimp -implicitDefEqProofs [-getElem?_pos, go_sem, hes], by simp -dsimp -implicitDefEqProofs [-getElem?_pos, go_sem], by simp -dsimp -implicitDefEqProofs [-getElem?_pos, go_sem, hes, hl], by simp -dsimp -implicitDefEqProofs [-getElem?_pos, go_sem], by simp -dsimp -implicitDefEqProofs [-getElem?_pos, go_sem], by simp -dsimp -implicitDefEqProofs [-getElem?_pos, go_sem, hq']⟩
  intro m s hs'
  rw [hI] at hs'
  obtain ⟨k, hk, hm, hq, t2, t3, t4, t7, t44, t45, t46, h0, h1, h2, h3⟩ := hs'
  have lt0 := (List.getElem?_eq_some_iff.1 h0).1
  have lt1 := (List.getElem?_eq_some_iff.1 h1).1
  have lt2 := (List.getElem?_eq_some_iff.1 h2).1
  have lt3 := (List.getElem?_eq_some_iff.1 h3).1
  simp -dsimp -implicitDefEqProofs [-getElem?_pos, go_sem, hP, t45, t46]
  refine condP (fun h => ?_) (fun h => ?_)
  · have hk : k < es.length := by simpa using h
    obtain ⟨e, hee⟩ : ∃ e, es[k]? = some e := ⟨_, List.getElem?_eq_getElem hk⟩
    have wk := wrap_in ((k : Int) + 1) (by omega)
    have g1 : ∀ x : Option AObj, (s.H ++ [x])[1]? = s.H[1]? := fun x => List.getElem?_append_left lt1
    have g2 : ∀ x : Option AObj, (s.H ++ [x])[2]? = s.H[2]? := fun x => List.getElem?_append_left lt2
    rw [drop_at hee, List.any_cons] at hq
    by_cases c : e.Ref = p.Warrant
    · rw [show refB p.Warrant e = true by simp [refB, c], Bool.true_or] at hq
      simp -dsimp -implicitDefEqProofs [-getElem?_pos, go_sem, hP, t44, t46, hee, cE, t3, g1, lt1, h1, c, t4, g2, lt2, h2]
      exact done_zeroD (zer _ (hknown hq))
    · rw [show refB p.Warrant e = false by simp [refB, c], Bool.false_or] at hq
      have dd := decide_eq_false c
      simp -dsimp -implicitDefEqProofs [-getElem?_pos, go_sem, hP, t44, t46, hee, cE, t3, g1, lt1, h1, c, dd, wk]
      refine ⟨es.length - (k + 1), by omega, ?_⟩
      rw [hI]
      exact ⟨k + 1, by omega, rfl, hq, by simp -dsimp -implicitDefEqProofs [-getElem?_pos, go_sem, t2], by simp -dsimp -implicitDefEqProofs [-getElem?_pos, go_sem, t3], by simp -dsimp -implicitDefEqProofs [-getElem?_pos, go_sem, t4], by simp -dsimp -implicitDefEqProofs [-getElem?_pos, go_sem, t7], by simp -dsimp -implicitDefEqProofs [-getElem?_pos, go_sem, t44], by simp -dsimp -implicitDefEqProofs [-getElem?_pos, go_sem, t45], by simp -dsimp -implicitDefEqProofs [-getElem?_pos, go_sem], by simp -dsimp -implicitDefEqProofs [-getElem?_pos, go_sem, lt0, h0], by simp -dsimp -implicitDefEqProofs [-getElem?_pos, go_sem, lt1, h1], by simp -dsimp -implicitDefEqProofs [-getElem?_pos, go_sem, lt2, h2], by simp -dsimp -implicitDefEqProofs [-getElem?_pos, go_sem, lt3, h3]⟩
  have hk : k = es.length := by simp at h; omega
  subst hk
  rw [List.drop_length, List.any_nil] at hq
  have hor := hor hq
  simp -dsimp -implicitDefEqProofs [-getElem?_pos, go_sem, hP]
  clear hI I t44 t45 t46 hm hknown h
  obtain ⟨J, hJ⟩ : ∃ I : Nat → St → Prop, I = fun m s => ∃ k : Nat, k ≤ l.length ∧ m = l.length - k ∧ ins ltI l ⟨p, 1, 0⟩ = l.take k ++ ins ltI (l.drop k) ⟨p, 1, 0⟩ ∧ s.t 2 = .ref 0 0 0 ∧ s.t 3 = .ref 1 0 0 ∧ s.t 4 = .ref 2 0 0 ∧ s.t 7 = .ref 3 0 0 ∧ s.t 13 = iv k ∧ s.H[0]? = some (some ⟨35, 7, [[iv d.Account.Credit, subsL d.Account.Subs, entsL es, paysL d.Queue.Waiting, numsL d.Queue.Known, batsL d.Queue.Batches, itemsL l]]⟩) ∧ s.H[1]? = some (some ⟨99, 5, [[iv p.Warrant, iv p.Payee, iv p.Amount, iv p.Due, iv p.Sub]]⟩) ∧ s.H[2]? = some (some ⟨35, 7, [[iv 0, .nil, .nil, .nil, .nil, .nil, .nil]]⟩) ∧ s.H[3]? = some (some ⟨32, 3, [[paysL q'.Waiting, numsL q'.Known, batsL q'.Batches]]⟩) := ⟨_, rfl⟩
  refine aloop0 J (l.length) (by rw [hN]; rfl) ?_ ?_
  · rw [hJ]
    exact ⟨0, by omega, by omega, by simp, by simp -dsimp -implicitDefEqProofs [-getElem?_pos, go_sem, t2], by simp -dsimp -implicitDefEqProofs [-getElem?_pos, go_sem, t3], by simp -dsimp -implicitDefEqProofs [-getElem?_pos, go_sem, t4], by simp -dsimp -implicitDefEqProofs [-getElem?_pos, go_sem, t7], by simp -dsimp -implicitDefEqProofs [-getElem?_pos, go_sem], by simp -dsimp -implicitDefEqProofs [-getElem?_pos, go_sem, h0], by simp -dsimp -implicitDefEqProofs [-getElem?_pos, go_sem, h1], by simp -dsimp -implicitDefEqProofs [-getElem?_pos, go_sem, h2], by simp -dsimp -implicitDefEqProofs [-getElem?_pos, go_sem, h3]⟩
  clear t2 t3 t4 t7 h0 h1 h2 h3 lt0 lt1 lt2 lt3 hk
  intro m s hs'
  rw [hJ] at hs'
  obtain ⟨k, hk, hm, hi, t2, t3, t4, t7, t13, h0, h1, h2, h3⟩ := hs'
  have lt0 := (List.getElem?_eq_some_iff.1 h0).1
  have lt1 := (List.getElem?_eq_some_iff.1 h1).1
  have lt2 := (List.getElem?_eq_some_iff.1 h2).1
  have lt3 := (List.getElem?_eq_some_iff.1 h3).1
  simp -dsimp -implicitDefEqProofs [-getElem?_pos, go_sem, hP]
  obtain ⟨Inv, hInv⟩ : ∃ Inv : St → Prop, Inv = fun s' => ∃ b : Bool, s'.t 73 = bv b ∧ (b = true → ∃ x, l[k]? = some x ∧ ltI x ⟨p, 1, 0⟩ = true) ∧ (b = false → ins ltI (l.drop k) ⟨p, 1, 0⟩ = ⟨p, 1, 0⟩ :: l.drop k) ∧ s'.t 2 = .ref 0 0 0 ∧ s'.t 3 = .ref 1 0 0 ∧ s'.t 4 = .ref 2 0 0 ∧ s'.t 7 = .ref 3 0 0 ∧ s'.t 13 = iv k ∧ s'.H = s.H := ⟨_, rfl⟩
  refine adraw_cut Inv ?_ ?_
  · refine adrawB (fun _ => true) [] hP (by kernel_rfl) (by kernel_rfl) ?_
    by_cases c : k < l.length
    · obtain ⟨x, hx⟩ : ∃ x, l[k]? = some x := ⟨_, List.getElem?_eq_getElem c⟩
      have dk : decide ((k : Int) < (l.length : Int)) = true := decide_eq_true (by omega)
      by_cases cb : x.Payment.Warrant < p.Warrant
      · have db := decide_eq_true cb
        simp -dsimp -implicitDefEqProofs [-getElem?_pos, go_sem, hP, t2, t13, t3, h0, lt0, h1, lt1, dk, c, hx, cIt, db]
        rw [hInv]
        exact ⟨true, by simp -dsimp -implicitDefEqProofs [-getElem?_pos, go_sem], fun _ => ⟨x, hx, by simp [ltI, cb]⟩, fun h => (by cases h), by simp -dsimp -implicitDefEqProofs [-getElem?_pos, go_sem, t2], by simp -dsimp -implicitDefEqProofs [-getElem?_pos, go_sem, t3], by simp -dsimp -implicitDefEqProofs [-getElem?_pos, go_sem, t4], by simp -dsimp -implicitDefEqProofs [-getElem?_pos, go_sem, t7], by simp -dsimp -implicitDefEqProofs [-getElem?_pos, go_sem, t13], rfl⟩
      · have db := decide_eq_false cb
        simp -dsimp -implicitDefEqProofs [-getElem?_pos, go_sem, hP, t2, t13, t3, h0, lt0, h1, lt1, dk, c, hx, cIt, db]
        rw [hInv]
        exact ⟨false, by simp -dsimp -implicitDefEqProofs [-getElem?_pos, go_sem], fun h => (by cases h), fun _ => by rw [drop_at hx, ins_stop (by simp [ltI, cb])], by simp -dsimp -implicitDefEqProofs [-getElem?_pos, go_sem, t2], by simp -dsimp -implicitDefEqProofs [-getElem?_pos, go_sem, t3], by simp -dsimp -implicitDefEqProofs [-getElem?_pos, go_sem, t4], by simp -dsimp -implicitDefEqProofs [-getElem?_pos, go_sem, t7], by simp -dsimp -implicitDefEqProofs [-getElem?_pos, go_sem, t13], rfl⟩
    · have dk : decide ((k : Int) < (l.length : Int)) = false := decide_eq_false (by omega)
      simp -dsimp -implicitDefEqProofs [-getElem?_pos, go_sem, hP, t2, t13, t3, h0, lt0, dk, c]
      rw [hInv]
      exact ⟨false, by simp -dsimp -implicitDefEqProofs [-getElem?_pos, go_sem], fun h => (by cases h), fun _ => by rw [List.drop_of_length_le (by omega), ins_nil], by simp -dsimp -implicitDefEqProofs [-getElem?_pos, go_sem, t2], by simp -dsimp -implicitDefEqProofs [-getElem?_pos, go_sem, t3], by simp -dsimp -implicitDefEqProofs [-getElem?_pos, go_sem, t4], by simp -dsimp -implicitDefEqProofs [-getElem?_pos, go_sem, t7], by simp -dsimp -implicitDefEqProofs [-getElem?_pos, go_sem, t13], rfl⟩
  clear t2 t3 t4 t7 t13
  rw [hInv]
  rintro s' ⟨b, t73, hb1, hb0, t2, t3, t4, t7, t13, hH⟩
  cases b
  rotate_left
  · obtain ⟨x, hx, hlt⟩ := hb1 rfl
    have hk : k < l.length := (List.getElem?_eq_some_iff.1 hx).1
    have wk := wrap_in ((k : Int) + 1) (by omega)
    rw [drop_at hx, ins_step hlt] at hi
    simp -dsimp -implicitDefEqProofs [-getElem?_pos, go_sem, hP, t73, t13, wk]
    refine ⟨l.length - (k + 1), by omega, ?_⟩
    rw [hJ]
    refine ⟨k + 1, by omega, rfl, by rw [hi, take_at hx]; simp, by simp -dsimp -implicitDefEqProofs [-getElem?_pos, go_sem, t2], by simp -dsimp -implicitDefEqProofs [-getElem?_pos, go_sem, t3], by simp -dsimp -implicitDefEqProofs [-getElem?_pos, go_sem, t4], by simp -dsimp -implicitDefEqProofs [-getElem?_pos, go_sem, t7], by simp -dsimp -implicitDefEqProofs [-getElem?_pos, go_sem], ?_, ?_, ?_, ?_⟩
    · dsimp only; rw [hH]; exact h0
    · dsimp only; rw [hH]; exact h1
    · dsimp only; rw [hH]; exact h2
    · dsimp only; rw [hH]; exact h3
  rw [hb0 rfl] at hi
  simp -dsimp -implicitDefEqProofs [-getElem?_pos, go_sem, hP, t73, t7, hH, h3, lt3, t2, h0, lt0]
  obtain ⟨H1, hH1⟩ : ∃ H1, H1 = s.H.set 0 (some (⟨35, 7, [[iv d.Account.Credit, subsL d.Account.Subs, entsL es, paysL q'.Waiting, numsL q'.Known, batsL q'.Batches, itemsL l]]⟩ : AObj)) := ⟨_, rfl⟩
  have k0 : H1[0]? = some (some ⟨35, 7, [[iv d.Account.Credit, subsL d.Account.Subs, entsL es, paysL q'.Waiting, numsL q'.Known, batsL q'.Batches, itemsL l]]⟩) := by rw [hH1, List.getElem?_set_self lt0]
  have k1 : H1[1]? = _ := (show H1[1]? = s.H[1]? by rw [hH1, List.getElem?_set_ne (by omega)]).trans h1
  have k2 : H1[2]? = _ := (show H1[2]? = s.H[2]? by rw [hH1, List.getElem?_set_ne (by omega)]).trans h2
  have l1 : H1.length = s.H.length := by rw [hH1, List.length_set]
  rw [← hH1]
  rw [← l1] at lt0 lt1 lt2
  obtain ⟨A, hA⟩ : ∃ A, A = l.take k := ⟨_, rfl⟩
  obtain ⟨B, hB⟩ : ∃ B, B = l.drop k := ⟨_, rfl⟩
  have lA : A.length = k := by rw [hA, List.length_take]; omega
  have lB : B.length = l.length - k := by rw [hB, List.length_drop]
  rw [← hA, ← hB] at hi
  refine adrawB (fun i => decide (i = 0) || decide (i = 1)) [15] hP (by kernel_rfl) (by kernel_rfl) ?_
  simp -dsimp -implicitDefEqProofs [-getElem?_pos, go_sem, hP, t2, t3, t13, k0, lt0, k1, lt1, asliceOp, bound, aslice, hk, encL_takeE, encL_dropE, ← hA, ← hB, lA, lB]
  have ag : ∀ (x y : Heap), Agree (fun i => decide (i = 0) || decide (i = 1)) (H1 ++ x) (H1 ++ y) := fun x y j hj => by
    simp only [Bool.or_eq_true, decide_eq_true_eq] at hj
    rw [List.getElem?_append_left (by omega), List.getElem?_append_left (by omega)]
  have ag0 : ∀ (y : Heap), Agree (fun i => decide (i = 0) || decide (i = 1)) H1 (H1 ++ y) := fun y => by
    have := ag [] y
    rwa [List.append_nil] at this
  refine ⟨by omega, by omega, ag0 _, by omega, by omega, ag _ _, by omega, by omega, ag _ _, ?_⟩
  have eIt : encL TItem.cells A ++ [iv p.Warrant, iv p.Payee, iv p.Amount, iv p.Due, iv p.Sub, AV.sc (.int .i64 1), AV.sc (.int .i64 0)] :: encL TItem.cells B = encL TItem.cells (ins ltI l ⟨p, 1, 0⟩) := by
    rw [hi]
    simp [encL, cIt]
  have n20 : ¬ 2 = 0 := by omega
  have n02 : ¬ 0 = 2 := by omega
  have lt0' : 2 < (H1.set 0 (some (⟨35, 7, [[iv d.Account.Credit, subsL d.Account.Subs, entsL es, paysL q'.Waiting, numsL q'.Known, batsL q'.Batches, .sref (H1.length + 2) 0 (k + 1 + (l.length - k))]]⟩ : AObj))).length := by rw [List.length_set]; exact lt2
  rw [eIt]
  simp -dsimp -implicitDefEqProofs [-getElem?_pos, go_sem, hP, t4, k2, lt2, n20, n02, lt0']
  refine done_agg2 (cs' := TDesk.cells ⟨d.Account, q', ins ltI l ⟨p, 1, 0⟩⟩) ?_ ?_
  · rw [cDn, ← hes]
    refine cw_sc (cw_imm (imm_subs _) (cw_imm (imm_ents _) (cw_imm (imm_pays _) (cw_imm (imm_nums _) (cw_imm (imm_bats _) (cw_sref (ty := 112) ?_ ?_ (imm_items _) .nil))))))
    · rw [List.getElem?_append_right (by simp)]
      simp
    · rw [encL_len, ins_len]; omega
  · rw [hR, hor]
open Go.PA
def dE (id : Int) (e : TEntry) : Int := (if e.To = id then e.Amount else 0) - (if e.From = id then e.Amount else 0)
def netE (id : Int) (es : List TEntry) : Int := sumE (dE id) es
theorem sumE_cons (f : TEntry → Int) (e : TEntry) (l : List TEntry) : sumE f (e :: l) = f e + sumE f l := by simp [sumE]
theorem sumE_app (f : TEntry → Int) (l l' : List TEntry) : sumE f (l ++ l') = sumE f l + sumE f l' := by simp [sumE]
theorem postS_net {credit n d : Int} {l : List TSub} {e : TEntry} (h : (postS credit n d l e).1 = 0) : (postS credit n d l e).2 = l.map fun s => ⟨s.ID, s.Balance + dE s.ID e⟩ := by
  obtain ⟨_, _, _, _, _, _, _, hne, _, _, _, _, h2⟩ := postS_ok h
  rw [h2, adj, adj, List.map_map]
  apply List.map_congr_left
  intro s _
  simp only [Function.comp, dE]
  by_cases h1 : s.ID = e.From
  · have h3 : ¬ s.ID = e.To := fun h => hne (h1.symm.trans h)
    have h3' : ¬ e.To = s.ID := fun h => h3 h.symm
    simp [h1, h3, h3', hne, Ne.symm hne]; try omega
  · have h1' : ¬ e.From = s.ID := fun h => h1 h.symm
    by_cases h3 : s.ID = e.To
    · simp [h1, h3, h1', Ne.symm hne, hne]
    · have h3' : ¬ e.To = s.ID := fun h => h3 h.symm
      simp [h1, h3, h1', h3']
theorem replayS_net (credit : Int) : ∀ (es : List TEntry) (n d : Int) (l : List TSub) (r : Int × Int × List TSub), replayS credit n d l es = some r → r.2.2 = l.map fun s => ⟨s.ID, s.Balance + netE s.ID es⟩
  | [], n, d, l, r, h => by
    simp only [replayS, Option.some.injEq] at h
    subst h
    simp [netE, sumE]
  | e :: es, n, d, l, r, h => by
    rw [replayS] at h
    split at h
    · rename_i hp
      rw [replayS_net credit es _ _ _ r h, postS_net hp, List.map_map]
      apply List.map_congr_left
      intro s _
      simp only [Function.comp, netE, sumE_cons]
      congr 1
      omega
    · cases h
theorem zero_net (l : List TSub) (es : List TEntry) : ((zeroS l).map fun s => (⟨s.ID, s.Balance + netE s.ID es⟩ : TSub)) = (ids l).map fun i => ⟨i, netE i es⟩ := by
  simp [zeroS, ids, Function.comp_def]
theorem check_net {a : TAccount} (h : checkA a = 0) : a.Subs = (ids a.Subs).map fun i => ⟨i, netE i a.Entries⟩ := by
  obtain ⟨_, _, _, _, h5⟩ := check_ok h
  have := replayS_net _ _ _ _ _ _ h5
  rw [zero_net] at this
  exact this
theorem agree_1 {a : Option AObj} {l l' : Heap} : Agree (fun id => decide (id = 0)) (a :: l) (a :: l') := fun id hid => by
  have : id = 0 := by simpa using hid
  rcases id with _ | id
  · rfl
  · omega
def sumI (f : Int → Int) (l : List Int) : Int := (l.map f).sum
theorem sumI_cons (f : Int → Int) (i : Int) (l : List Int) : sumI f (i :: l) = f i + sumI f l := by simp [sumI]
theorem sumI_add (f g : Int → Int) : ∀ l : List Int, sumI (fun i => f i + g i) l = sumI f l + sumI g l
  | [] => by simp [sumI]
  | i :: l => by rw [sumI_cons, sumI_cons, sumI_cons, sumI_add f g l]; omega
theorem sumI_sub (f g : Int → Int) : ∀ l : List Int, sumI (fun i => f i - g i) l = sumI f l - sumI g l
  | [] => by simp [sumI]
  | i :: l => by rw [sumI_cons, sumI_cons, sumI_cons, sumI_sub f g l]; omega
theorem sumI_zero : ∀ l : List Int, sumI (fun _ => 0) l = 0
  | [] => by simp [sumI]
  | i :: l => by rw [sumI_cons, sumI_zero l]; omega
theorem sumI_one (x A : Int) : ∀ l : List Int, l.Nodup → sumI (fun i => if x = i then A else 0) l = if x ∈ l then A else 0
  | [], _ => by simp [sumI]
  | i :: l, h => by
    rw [List.nodup_cons] at h
    rw [sumI_cons, sumI_one x A l h.2]
    by_cases h1 : x = i
    · subst h1
      simp [h.1]
    · simp [h1]
def ioE (e : TEntry) : Int := (if e.From = 0 then e.Amount else 0) - (if e.To = 0 then e.Amount else 0)
theorem sumI_dE {l : List Int} (hn : l.Nodup) (h0 : 0 ∉ l) {e : TEntry} (hf : e.From = 0 ∨ e.From ∈ l) (ht : e.To = 0 ∨ e.To ∈ l) : sumI (fun i => dE i e) l = ioE e := by
  unfold dE
  rw [sumI_sub, sumI_one _ _ _ hn, sumI_one _ _ _ hn, ioE]
  have k : ∀ x : Int, (x = 0 ∨ x ∈ l) → (if x ∈ l then e.Amount else 0) = e.Amount - (if x = 0 then e.Amount else 0) := fun x hx => by
    by_cases h : x = 0
    · subst h; simp [h0]
    · simp [h, hx.resolve_left h]
  rw [k _ hf, k _ ht]
  omega
theorem sumI_netE {l : List Int} (hn : l.Nodup) (h0 : 0 ∉ l) : ∀ es : List TEntry, (∀ e, e ∈ es → (e.From = 0 ∨ e.From ∈ l) ∧ (e.To = 0 ∨ e.To ∈ l)) → sumI (fun i => netE i es) l = sumE ioE es
  | [], _ => by simp [netE, sumE]; exact sumI_zero l
  | e :: es, h => by
    simp only [netE, sumE_cons]
    rw [sumI_add]
    have := sumI_netE hn h0 es fun x hx => h x (List.mem_cons_of_mem _ hx)
    simp only [netE] at this
    rw [this, sumI_dE hn h0 (h e (by simp)).1 (h e (by simp)).2]
theorem sumB_map (g : Int → Int) (l : List Int) : sumB (l.map fun i => ⟨i, g i⟩) = sumI g l := by simp [sumB, sumI, Function.comp_def]
theorem check_sum {a : TAccount} (h : checkA a = 0) : sumB a.Subs = sumE ioE a.Entries := by
  obtain ⟨_, _, _, h4, _⟩ := check_ok h
  obtain ⟨hn, h0, _⟩ := numB_facts h4
  rw [check_net h, sumB_map]
  exact sumI_netE hn h0 _ fun e he => (check_mem h e he).2.2.2.2.2
theorem total_sum {a : TAccount} (h : checkA a = 0) : totalA a = sumE ioE a.Entries := by rw [totalA, if_pos h, check_sum h]
theorem post_ok {a : TAccount} {e : TEntry} (h : (postA a e).2 = 0) : checkA a = 0 ∧ a.Entries.length < 400 ∧ (postS a.Credit (lastE a).Number (lastE a).Day a.Subs e).1 = 0 ∧ (postA a e).1 = ⟨a.Credit, (postS a.Credit (lastE a).Number (lastE a).Day a.Subs e).2, a.Entries ++ [e]⟩ := by
  unfold postA at h ⊢
  by_cases c1 : checkA a = 0
  · rw [if_pos c1] at h ⊢
    by_cases c2 : a.Entries.length = 400
    · rw [if_pos c2] at h; simp at h
    · rw [if_neg c2] at h ⊢
      by_cases c3 : (postS a.Credit (lastE a).Number (lastE a).Day a.Subs e).1 = 0
      · rw [if_pos c3]
        have := (check_ok c1).2.1
        exact ⟨c1, by omega, c3, rfl⟩
      · rw [if_neg c3] at h
        exact absurd h c3
  · rw [if_neg c1] at h
    exact absurd h c1
theorem post_check {a : TAccount} {e : TEntry} (h : (postA a e).2 = 0) : checkA (postA a e).1 = 0 := by
  obtain ⟨c1, c2, c3, c4⟩ := post_ok h
  obtain ⟨k1, k2, k3, k4, k5⟩ := check_ok c1
  rw [c4]
  have hi := postS_ids a.Credit (lastE a).Number (lastE a).Day a.Subs e
  have hl : (postS a.Credit (lastE a).Number (lastE a).Day a.Subs e).2.length = a.Subs.length := by rw [← ids_len, hi, ids_len]
  have hz : zeroS (postS a.Credit (lastE a).Number (lastE a).Day a.Subs e).2 = zeroS a.Subs := by
    have : ∀ l : List TSub, zeroS l = (ids l).map fun i => ⟨i, 0⟩ := fun l => by simp [zeroS, ids, Function.comp_def]
    rw [this, this, hi]
  refine check_mk (n := e.Number) (d := e.Day) (by dsimp only; omega) (by simp; omega) k3 (by dsimp only; rw [hi]; exact k4) ?_
  dsimp only
  rw [hz, replayS_app, k5]
  simp only [Option.bind_some, replayS, c3, if_true]
theorem lastE_post {a : TAccount} {e : TEntry} (h : (postA a e).2 = 0) : lastE (postA a e).1 = e := by
  rw [(post_ok h).2.2.2, lastE]
  simp
theorem post_ids {a : TAccount} {e : TEntry} (h : (postA a e).2 = 0) : ids (postA a e).1.Subs = ids a.Subs := by
  rw [(post_ok h).2.2.2]
  exact postS_ids _ _ _ _ _
theorem post_ents {a : TAccount} {e : TEntry} (h : (postA a e).2 = 0) : (postA a e).1.Entries = a.Entries ++ [e] := by rw [(post_ok h).2.2.2]
theorem post_credit {a : TAccount} {e : TEntry} (h : (postA a e).2 = 0) : (postA a e).1.Credit = a.Credit := by rw [(post_ok h).2.2.2]
structure GenAcc (n : Nat) (a : TAccount) : Prop where
  ok : checkA a = 0
  ids : ids a.Subs = [1, 2, 3, 7]
  len : a.Entries.length ≤ n
  day : (lastE a).Day ≤ 2 * (n : Int)
  small : ∀ e, e ∈ a.Entries → e.Amount ≤ 500
  cred : a.Credit ≤ 100
theorem GenAcc.post {n : Nat} {a : TAccount} {e : TEntry} (h : GenAcc n a) (hp : (postA a e).2 = 0) (hd : e.Day ≤ 2 * ((n : Int) + 1)) (ha : e.Amount ≤ 500) : GenAcc (n + 1) (postA a e).1 := by
  refine ⟨post_check hp, (post_ids hp).trans h.ids, ?_, ?_, ?_, by rw [post_credit hp]; exact h.cred⟩
  · rw [post_ents hp]; have := h.len; simp; omega
  · rw [lastE_post hp]; omega
  · rw [post_ents hp]
    intro x hx
    rcases List.mem_append.1 hx with hx | hx
    · exact h.small x hx
    · simp at hx; subst hx; exact ha
theorem GenAcc.mono {n m : Nat} {a : TAccount} (h : GenAcc n a) (hm : n ≤ m) : GenAcc m a := ⟨h.ok, h.ids, by have := h.len; omega, by have := h.day; omega, h.small, h.cred⟩
theorem GenAcc.slen {n : Nat} {a : TAccount} (h : GenAcc n a) : a.Subs.length = 4 := by rw [← ids_len, h.ids]; rfl
theorem GenAcc.open {c : Int} (hc : 0 ≤ c ∧ c ≤ 100) : GenAcc 0 (newA [1, 2, 3, 7] c) ∧ openA [1, 2, 3, 7] c = (newA [1, 2, 3, 7] c, 0) := by
  have hv : vB c = true := by simp [vB, amongB]; omega
  have hb : numB [1, 2, 3, 7] = true := by decide
  refine ⟨⟨check_mk (n := 0) (d := 0) (by simp [newA, newS]) (by simp [newA]) (by simp [newA]; omega) (by simp only [newA, newS_ids]; exact hb) (by simp [newA, newS, zeroS, replayS]), by simp [newA, newS_ids], by simp [newA], by simp [newA, lastE], by simp [newA], by simp [newA]; omega⟩, ?_⟩
  unfold openA
  rw [if_pos hv, if_neg (by simp), if_pos hb]
open Go.PA
open Go.RowKit
theorem sentI_pay (ws : List Int) (x : TItem) : (sentI ws x).Payment = x.Payment := by unfold sentI; split <;> rfl
theorem sentI_wrt (ws : List Int) (l : List TItem) : (l.map (sentI ws)).map wrt = l.map wrt := by
  rw [List.map_map]
  exact List.map_congr_left fun x _ => by simp [wrt, sentI_pay]
theorem sentI_nil (l : List TItem) : l.map (sentI []) = l := by
  have : sentI [] = id := funext fun x => by simp [sentI]
  rw [this, List.map_id]
theorem sentI_set {l : List TItem} (hn : (l.map wrt).Nodup) {ws : List Int} {i : Nat} {x : TItem} (hx : l[i]? = some x) (hw : x.Payment.Warrant ∉ ws) :
    (l.map (sentI ws))[i]? = some x ∧ (l.map (sentI ws)).set i ⟨x.Payment, 2, x.Attempts + 1⟩ = l.map (sentI (ws ++ [x.Payment.Warrant])) := by
  refine ⟨by rw [List.getElem?_map, hx, Option.map_some, sentI, if_neg hw], ?_⟩
  apply List.ext_getElem?
  intro j
  rw [List.getElem?_set, List.getElem?_map, List.getElem?_map, List.length_map]
  by_cases hij : i = j
  · subst hij
    rw [if_pos rfl, if_pos (List.getElem?_eq_some_iff.1 hx).1, hx, Option.map_some, sentI, if_pos (by simp)]
  · rw [if_neg hij]
    cases hj : l[j]? with
    | none => rfl
    | some y =>
      have hne : y.Payment.Warrant ≠ x.Payment.Warrant := fun e => by
        have e1 : (l.map wrt)[i]? = some x.Payment.Warrant := by rw [List.getElem?_map, hx]; rfl
        have e2 : (l.map wrt)[j]? = some x.Payment.Warrant := by rw [List.getElem?_map, hj, ← e]; rfl
        exact hij ((List.getElem?_inj (List.getElem?_eq_some_iff.1 e1).1 hn).1 (e1.trans e2.symm))
      simp [sentI, hne]
theorem readyQ_sub (q : TQueue) (day : Int) : (readyQ q day).Sublist q.Waiting := by
  unfold readyQ
  split
  · exact List.filter_sublist
  · exact List.nil_sublist _
theorem readyQ_nd {q : TQueue} (hq : QOk q) (day : Int) : ((readyQ q day).map (·.Warrant)).Nodup := hq.asc.nd.sublist ((readyQ_sub q day).map _)
theorem wait_item {d : TDesk} (hd : DOk d) {p : TPayment} (hp : p ∈ d.Queue.Waiting) : ∃ (i : Nat) (x : TItem), d.Items[i]? = some x ∧ x.Payment = p ∧ x.State = 1 := by
  have hw : ∀ x, x ∈ d.Items → waitB d.Queue x = true := fun x hx => by
    have := hd.i x hx
    simp only [itemB, Bool.and_eq_true] at this
    exact this.2.2.2.2.1
  obtain ⟨h1, h2⟩ := (waitB_iff hd.q hd.k).1 hw
  obtain ⟨x, hx, hs, e⟩ := wait_all hd.q hd.k h1 h2 p hp
  obtain ⟨i, hi⟩ := List.getElem?_of_mem hx
  exact ⟨i, x, hi, e, hs⟩
theorem item_facts {d : TDesk} (hd : DOk d) {x : TItem} (hx : x ∈ d.Items) : PayOk x.Payment ∧ (balanceA d.Account x.Payment.Sub).2 = true ∧ (1 ≤ x.State ∧ x.State ≤ 5) ∧ (0 ≤ x.Attempts ∧ x.Attempts ≤ 5) ∧ attB x = true ∧ waitB d.Queue x = true ∧ (batN d.Queue x.Payment.Warrant : Int) = x.Attempts ∧ movedB d.Account x = true := by
  have := hd.i x hx
  simp only [itemB, Bool.and_eq_true, payB_iff, amg_iff, decide_eq_true_eq] at this
  obtain ⟨h1, h2, h3, h4, h5, h6, h7⟩ := this
  refine ⟨h1, h2, h3, ?_, h4, h5, h6, h7⟩
  simp only [attB, Bool.and_eq_true, amg_iff] at h4
  exact h4.1
theorem lastQ_nil {q : TQueue} (h : q.Batches.length = 0) : lastQ q = 0 := by
  rw [lastQ, List.eq_nil_of_length_eq_zero h]
  rfl
theorem lastQ_get {q : TQueue} {k : Nat} {b : TBatch} (h : q.Batches.length = k + 1) (hb : q.Batches[k]? = some b) : lastQ q = b.Day := by
  rw [lastQ, List.getLast?_eq_getElem?, h]
  simp [hb]
theorem check_fit {a : TAccount} (h : checkA a = 0) : a.Subs.length ≤ 100000 ∧ a.Entries.length ≤ 100000 := by
  have := check_ok h
  omega
theorem sendGo_len (day : Int) : ∀ (l : List TPayment) (a : TAccount) (ws : List Int) (full : Bool), ws.length ≤ 10 → (sendGo day l a ws full).2.1.length ≤ 10
  | [], a, ws, full, h => h
  | p :: l, a, ws, full, h => by
    rw [sendGo]
    split
    · exact h
    · split
      · exact sendGo_len day l _ _ _ (by rw [List.length_append, List.length_singleton]; omega)
      · exact sendGo_len day l _ _ _ h
theorem lastDay_pos {a : TAccount} (h : checkA a = 0) : 0 ≤ lastDay a := (check_keeps h).2.2.1
open Go.PA
open Go.RowKit
abbrev zDeskO : AObj := ⟨35, 7, [[iv 0, .nil, .nil, .nil, .nil, .nil, .nil]]⟩
abbrev zBatO : AObj := ⟨45, 3, [[iv 0, iv 0, .nil]]⟩
theorem done_zeroD3 {H : Heap} {n : Int} {Q : AV → Prop} {b : Bx Q} (h : Q (.tup [.agg zeroD.cells, .agg zeroB.cells, iv n])) : Done H (.tup [.agg [iv 0, .nil, .nil, .nil, .nil, .nil, .nil], .agg [iv 0, iv 0, .nil], iv n]) Q b := done_trip cw_zeroD cw_zeroB h
open Go.PA
open Go.RowKit
theorem sendGo_ws (day : Int) : ∀ (l : List TPayment) (a : TAccount) (ws : List Int) (full : Bool), ∃ us, us.Sublist (l.map (·.Warrant)) ∧ (sendGo day l a ws full).2.1 = ws ++ us
  | [], a, ws, full => ⟨[], by simp, by simp [sendGo]⟩
  | p :: l, a, ws, full => by
    rw [sendGo]
    split
    · exact ⟨[], by simp, by simp⟩
    · split
      · obtain ⟨us, h1, h2⟩ := sendGo_ws day l (postA a (nextE a day p.Sub 0 p.Amount p.Warrant)).1 (ws ++ [p.Warrant]) full
        exact ⟨p.Warrant :: us, by rw [List.map_cons]; exact h1.cons_cons _, by rw [h2]; simp⟩
      · obtain ⟨us, h1, h2⟩ := sendGo_ws day l a ws (full || decide ((postA a (nextE a day p.Sub 0 p.Amount p.Warrant)).2 = 3))
        exact ⟨us, by rw [List.map_cons]; exact h1.cons _, h2⟩
theorem goD_ws {d : TDesk} (hq : QOk d.Queue) (day : Int) : (goD d day).2.1.Nodup ∧ ∀ w, w ∈ (goD d day).2.1 → ∃ p, p ∈ readyQ d.Queue day ∧ p.Warrant = w := by
  obtain ⟨us, h1, h2⟩ := sendGo_ws day (readyQ d.Queue day) d.Account [] false
  rw [goD, h2, List.nil_append]
  refine ⟨(readyQ_nd hq day).sublist h1, fun w hw => ?_⟩
  obtain ⟨p, hp, e⟩ := List.mem_map.1 (h1.subset hw)
  exact ⟨p, hp, e⟩
theorem sendGo_chk (day : Int) : ∀ (l : List TPayment) (a : TAccount) (ws : List Int) (full : Bool), checkA a = 0 → checkA (sendGo day l a ws full).1 = 0
  | [], a, ws, full, h => h
  | p :: l, a, ws, full, h => by
    rw [sendGo]
    split
    · exact h
    · split
      · rename_i hp
        exact sendGo_chk day l _ _ _ (post_check hp)
      · exact sendGo_chk day l _ _ _ h
abbrev accO (a : TAccount) : AObj := ⟨28, 3, [[iv a.Credit, subsL a.Subs, entsL a.Entries]]⟩
set_option maxHeartbeats 8000000 in
theorem send26_pf (d : TDesk) (day : Int) (hf : FitD d) : PFun Tryz.prog none none 10 [.agg d.cells, iv day] (· = .tup [.agg (sendD d day).1.cells, .agg (sendD d day).2.1.cells, iv (sendD d day).2.2]) := by
  refine pfun_introA Tryz.func10 rfl (by simp [Tryz.f10]) ?_
  intro E hP hr hs hW hN
  have li := hf.i
  have lb := hf.q.b
  have le := hf.e
  have id' := imm_desk d
  have ia := imm_acc d.Account
  have ck := rcheck26_pf d hf
  simp only [cDn] at id' ck
  simp only [cA] at ia
  obtain ⟨R, hR⟩ : ∃ R, R = AV.tup [.agg (sendD d day).1.cells, .agg (sendD d day).2.1.cells, iv (sendD d day).2.2] := ⟨_, rfl⟩
  rw [← hR]
  have zer : ∀ n, sendD d day = (zeroD, zeroB, n) → AV.tup [.agg zeroD.cells, .agg zeroB.cells, iv n] = R := fun n h => by rw [hR, h]
  refine awp_cut (by rw [hN]; kernel_rfl) ?_
  simp -dsimp -implicitDefEqProofs [-getElem?_pos, go_sem, hP, cDn]
  refine awp_cut (by rw [hN]; kernel_rfl) ?_
  simp -dsimp -implicitDefEqProofs [-getElem?_pos, go_sem, hP]
  refine callB_is (ck.lift _ _) hP en_45 (by simpa using id') .sc ?_
  by_cases c1 : checkD d = 0
  rotate_left
  · have : sendD d day = (zeroD, zeroB, checkD d) := by rw [sendD, if_neg c1]
    simp -dsimp -implicitDefEqProofs [-getElem?_pos, go_sem, hP, c1]
    exact done_zeroD3 (zer _ this)
  have hd := checkD_iff.1 c1
  simp -dsimp -implicitDefEqProofs [-getElem?_pos, go_sem, hP, c1]
  refine awp_cut (by rw [hN]; kernel_rfl) ?_
  by_cases b1 : day < 0
  · have : sendD d day = (zeroD, zeroB, 66) := by rw [sendD, if_pos c1, if_neg (by rw [busB, amg_no (by omega)]; simp)]
    simp -dsimp -implicitDefEqProofs [-getElem?_pos, go_sem, hP, b1]
    exact done_zeroD3 (zer _ this)
  have f1 := decide_eq_false b1
  by_cases b2 : 36000 < day
  · have : sendD d day = (zeroD, zeroB, 66) := by rw [sendD, if_pos c1, if_neg (by rw [busB, amg_no (by omega)]; simp)]
    simp -dsimp -implicitDefEqProofs [-getElem?_pos, go_sem, hP, b1, f1, b2]
    exact done_zeroD3 (zer _ this)
  have f2 := decide_eq_false b2
  simp -dsimp -implicitDefEqProofs [-getElem?_pos, go_sem, hP, f1, f2]
  refine callB_pure (r02business_pf day) hP en_46 (args_same (by simp -dsimp -implicitDefEqProofs [-getElem?_pos, go_sem])) .sc ?_
  cases c2 : busB day
  · have : sendD d day = (zeroD, zeroB, 66) := by rw [sendD, if_pos c1, if_neg (by simp [c2])]
    simp -dsimp -implicitDefEqProofs [-getElem?_pos, go_sem, hP, c2]
    exact done_zeroD3 (zer _ this)
  simp -dsimp -implicitDefEqProofs [-getElem?_pos, go_sem, hP, c2]
  refine awp_cut (by rw [hN]; kernel_rfl) ?_
  simp -dsimp -implicitDefEqProofs [-getElem?_pos, go_sem, hP]
  refine adrawB (fun _ => true) [] hP (by kernel_rfl) (by kernel_rfl) ?_
  simp -dsimp -implicitDefEqProofs [-getElem?_pos, go_sem, hP]
  obtain ⟨bs, hbs⟩ : ∃ bs, bs = d.Queue.Batches := ⟨_, rfl⟩
  obtain ⟨es, hes⟩ : ∃ es, es = d.Account.Entries := ⟨_, rfl⟩
  obtain ⟨Inv, hInv⟩ : ∃ Inv : St → Prop, Inv = fun s => ¬ (day < lastQ d.Queue ∨ day < lastDay d.Account) ∧ s.t 1 = iv day ∧ s.t 2 = .ref 0 0 0 ∧ s.t 4 = .ref 1 0 0 ∧ s.t 5 = .ref 2 0 0 ∧ s.H = [some (deskO d), some zDeskO, some zBatO] := ⟨_, rfl⟩
  refine awp_join Inv (by rw [hN]; kernel_rfl) ?_ ?_
  · have late : (day < lastQ d.Queue ∨ day < lastDay d.Account) → sendD d day = (zeroD, zeroB, 8) := fun h => by rw [sendD, if_pos c1, if_pos c2, if_pos h]
    have hdp := lastDay_pos hd.a
    have hd0 : 0 ≤ day := by omega
    rw [← hbs] at lb
    rw [← hes] at le
    have lE : es.length = 0 → lastDay d.Account = 0 := fun h => by rw [lastDay, lastE_nil (by rw [← hes]; exact h)]
    have lE1 : ∀ (j : Nat) (e : TEntry), es.length = j + 1 → es[j]? = some e → lastDay d.Account = e.Day := fun j e h h' => by rw [lastDay, lastE_get (k := j) (e := e) (by rw [← hes]; exact h) (by rw [← hes]; exact h')]
    have lQ : bs.length = 0 → lastQ d.Queue = 0 := fun h => lastQ_nil (by rw [← hbs]; exact h)
    have lQ1 : ∀ (j : Nat) (e : TBatch), bs.length = j + 1 → bs[j]? = some e → lastQ d.Queue = e.Day := fun j e h h' => lastQ_get (k := j) (by rw [← hbs]; exact h) (by rw [← hbs]; exact h')
    rcases Nat.eq_zero_or_pos bs.length with n0 | n0
    · have e0 : decide (0 < bs.length) = false := decide_eq_false (by omega)
      have lq := lQ n0
      rcases Nat.eq_zero_or_pos es.length with m0 | m0
      · have e1 : decide (0 < es.length) = false := decide_eq_false (by omega)
        have := lE m0
        simp -dsimp -implicitDefEqProofs [-getElem?_pos, go_sem, hP, ← hbs, ← hes, e0, e1]
        refine ⟨_, Weaker.refl _, ?_⟩
        rw [hInv]
        exact ⟨by omega, by simp -dsimp -implicitDefEqProofs [-getElem?_pos, go_sem], by simp -dsimp -implicitDefEqProofs [-getElem?_pos, go_sem], by simp -dsimp -implicitDefEqProofs [-getElem?_pos, go_sem], by simp -dsimp -implicitDefEqProofs [-getElem?_pos, go_sem], by simp [deskO, hbs, hes]⟩
      · obtain ⟨j, hj⟩ : ∃ j, es.length = j + 1 := ⟨_, (Nat.succ_pred_eq_of_pos m0).symm⟩
        obtain ⟨e, hee⟩ : ∃ e, es[j]? = some e := ⟨_, List.getElem?_eq_getElem (by omega)⟩
        have wj : IntKind.i64.wrap (j : Int) = (j : Int) := wrap_in _ (by omega)
        have hle := lE1 j e hj hee
        by_cases c3 : day < e.Day
        · have d3 := decide_eq_true c3
          simp -dsimp -implicitDefEqProofs [-getElem?_pos, go_sem, hP, ← hbs, ← hes, e0, m0, hj, wj, Int.add_sub_cancel, hee, cE, d3]
          exact done_zeroD3 (zer _ (late (.inr (by omega))))
        · have d3 := decide_eq_false c3
          simp -dsimp -implicitDefEqProofs [-getElem?_pos, go_sem, hP, ← hbs, ← hes, e0, m0, hj, wj, Int.add_sub_cancel, hee, cE, d3]
          refine ⟨_, Weaker.refl _, ?_⟩
          rw [hInv]
          exact ⟨by omega, by simp -dsimp -implicitDefEqProofs [-getElem?_pos, go_sem], by simp -dsimp -implicitDefEqProofs [-getElem?_pos, go_sem], by simp -dsimp -implicitDefEqProofs [-getElem?_pos, go_sem], by simp -dsimp -implicitDefEqProofs [-getElem?_pos, go_sem], by simp [deskO, hbs, hes]⟩
    · obtain ⟨i, hi⟩ : ∃ i, bs.length = i + 1 := ⟨_, (Nat.succ_pred_eq_of_pos n0).symm⟩
      obtain ⟨b, hb⟩ : ∃ b, bs[i]? = some b := ⟨_, List.getElem?_eq_getElem (by omega)⟩
      have wi : IntKind.i64.wrap (i : Int) = (i : Int) := wrap_in _ (by omega)
      have hlb := lQ1 i b hi hb
      by_cases c4 : day < b.Day
      · have d4 := decide_eq_true c4
        simp -dsimp -implicitDefEqProofs [-getElem?_pos, go_sem, hP, ← hbs, ← hes, n0, hi, wi, Int.add_sub_cancel, hb, cBt, d4]
        exact done_zeroD3 (zer _ (late (.inl (by omega))))
      have d4 := decide_eq_false c4
      rcases Nat.eq_zero_or_pos es.length with m0 | m0
      · have e1 : decide (0 < es.length) = false := decide_eq_false (by omega)
        have := lE m0
        simp -dsimp -implicitDefEqProofs [-getElem?_pos, go_sem, hP, ← hbs, ← hes, n0, hi, wi, hb, cBt, d4, e1]
        refine ⟨_, Weaker.refl _, ?_⟩
        rw [hInv]
        exact ⟨by omega, by simp -dsimp -implicitDefEqProofs [-getElem?_pos, go_sem], by simp -dsimp -implicitDefEqProofs [-getElem?_pos, go_sem], by simp -dsimp -implicitDefEqProofs [-getElem?_pos, go_sem], by simp -dsimp -implicitDefEqProofs [-getElem?_pos, go_sem], by simp [deskO, hbs, hes]⟩
      · obtain ⟨j, hj⟩ : ∃ j, es.length = j + 1 := ⟨_, (Nat.succ_pred_eq_of_pos m0).symm⟩
        obtain ⟨e, hee⟩ : ∃ e, es[j]? = some e := ⟨_, List.getElem?_eq_getElem (by omega)⟩
        have wj : IntKind.i64.wrap (j : Int) = (j : Int) := wrap_in _ (by omega)
        have hle := lE1 j e hj hee
        by_cases c3 : day < e.Day
        · have d3 := decide_eq_true c3
          simp -dsimp -implicitDefEqProofs [-getElem?_pos, go_sem, hP, ← hbs, ← hes, n0, hi, wi, hb, cBt, d4, m0, hj, wj, Int.add_sub_cancel, hee, cE, d3]
          exact done_zeroD3 (zer _ (late (.inr (by omega))))
        · have d3 := decide_eq_false c3
          simp -dsimp -implicitDefEqProofs [-getElem?_pos, go_sem, hP, ← hbs, ← hes, n0, hi, wi, hb, cBt, d4, m0, hj, wj, Int.add_sub_cancel, hee, cE, d3]
          refine ⟨_, Weaker.refl _, ?_⟩
          rw [hInv]
          exact ⟨by omega, by simp -dsimp -implicitDefEqProofs [-getElem?_pos, go_sem], by simp -dsimp -implicitDefEqProofs [-getElem?_pos, go_sem], by simp -dsimp -implicitDefEqProofs [-getElem?_pos, go_sem], by simp -dsimp -implicitDefEqProofs [-getElem?_pos, go_sem], by simp [deskO, hbs, hes]⟩
  intro s hs'
  rw [hInv] at hs'
  obtain ⟨c3, t1, t2, t4, t5, hH⟩ := hs'
  clear hInv Inv
  refine awp_cut (by rw [hN]; kernel_rfl) ?_
  simp -dsimp -implicitDefEqProofs [-getElem?_pos, go_sem, hP, t2, hH]
  refine awp_cut (by rw [hN]; kernel_rfl) ?_
  simp -dsimp -implicitDefEqProofs [-getElem?_pos, go_sem, hP]
  refine awp_cut (by rw [hN]; kernel_rfl) ?_
  simp -dsimp -implicitDefEqProofs [-getElem?_pos, go_sem, hP]
  obtain ⟨rl, hrl⟩ : ∃ rl, rl = readyQ d.Queue day := ⟨_, rfl⟩
  have hg : goD d day = sendGo day rl d.Account [] false := by rw [hrl]; rfl
  have hll : rl.length ≤ 100000 := by
    have := (readyQ_sub d.Queue day).length_le
    have := hf.q.w
    rw [hrl]
    omega
  have hca := sendGo_chk day rl d.Account [] false hd.a
  have hcl := sendGo_len day rl d.Account [] false (by simp)
  rw [← hg] at hca hcl
  obtain ⟨Inv, hInv⟩ : ∃ Inv : St → Prop, Inv = fun s => s.t 1 = iv day ∧ s.t 2 = .ref 0 0 0 ∧ s.t 4 = .ref 1 0 0 ∧ s.t 5 = .ref 2 0 0 ∧ s.t 10 = .ref 3 0 0 ∧ s.t 11 = numsL (goD d day).2.1 ∧ s.t 12 = bv (goD d day).2.2 ∧ s.H[0]? = some (some (deskO d)) ∧ s.H[1]? = some (some zDeskO) ∧ s.H[2]? = some (some zBatO) ∧ s.H[3]? = some (some (accO (goD d day).1)) := ⟨_, rfl⟩
  refine awp_join Inv (by rw [hN]; kernel_rfl) ?_ ?_
  · have rp := ready25_pf d.Queue day hf.q
    have iq := imm_que d.Queue
    have irl := imm_pays rl
    rw [← hrl] at rp
    simp only [cQn] at rp iq
    simp -dsimp -implicitDefEqProofs [-getElem?_pos, go_sem, hP, t2, t1]
    refine callB_is (rp.lift _ _) hP en_47 (by simpa [imm_sc] using iq) irl ?_
    simp -dsimp -implicitDefEqProofs [-getElem?_pos, go_sem, hP]
    refine aloop_own 11 3 1 (by simp -dsimp -implicitDefEqProofs [-getElem?_pos, go_sem]) ?_
    obtain ⟨I, hI⟩ : ∃ I : Nat → St → Prop, I = fun m s => ∃ (k wid : Nat) (a : TAccount) (ws : List Int) (full : Bool), k ≤ rl.length ∧ m = rl.length - k ∧ goD d day = sendGo day (rl.drop k) a ws full ∧ checkA a = 0 ∧ ws.length ≤ 10 ∧ 4 ≤ wid ∧ s.t 1 = iv day ∧ s.t 2 = .ref 0 0 0 ∧ s.t 4 = .ref 1 0 0 ∧ s.t 5 = .ref 2 0 0 ∧ s.t 10 = .ref 3 0 0 ∧ s.t 11 = .sref wid 0 ws.length ∧ s.t 12 = bv full ∧ s.t 89 = paysL rl ∧ s.t 90 = iv rl.length ∧ s.t 91 = iv k ∧ s.H[0]? = some (some (deskO d)) ∧ s.H[1]? = some (some zDeskO) ∧ s.H[2]? = some (some zBatO) ∧ s.H[3]? = some (some (accO a)) ∧ s.H[wid]? = some (some ⟨3, 1, encL encI ws⟩) := ⟨_, rfl⟩
    refine aloop0 I (rl.length) (by rw [hN]; rfl) ?_ ?_
    · rw [hI]
      refine ⟨0, 4, d.Account, [], false, by omega, by omega, by rw [hg]; rfl, hd.a, by simp, by omega, by simp -dsimp -implicitDefEqProofs [-getElem?_pos, go_sem, t1], by simp -dsimp -implicitDefEqProofs [-getElem?_pos, go_sem, t2], by simp -dsimp -implicitDefEqProofs [-getElem?_pos, go_sem, t4], by simp -dsimp -implicitDefEqProofs [-getElem?_pos, go_sem, t5], by simp -dsimp -implicitDefEqProofs [-getElem?_pos, go_sem], by simp -dsimp -implicitDefEqProofs [-getElem?_pos, go_sem], by simp -dsimp -implicitDefEqProofs [-getElem?_pos, go_sem], by simp -dsimp -implicitDefEqProofs [-getElem?_pos, go_sem], by simp -dsimp -implicitDefEqProofs [-getElem?_pos, go_sem], by simp -dsimp -implicitDefEqProofs [-getElem?_pos, go_sem], by simp -dsimp -implicitDefEqProofs [-getElem?_pos, go_sem], by simp -dsimp -implicitDefEqProofs [-getElem?_pos, go_sem], by simp -dsimp -implicitDefEqProofs [-getElem?_pos, go_sem], by simp -dsimp -implicitDefEqProofs [-getElem?_pos, go_sem], by simp -dsimp -implicitDefEqProofs [-getElem?_pos, go_sem, encL]⟩
    clear t1 t2 t4 t5 hg
    intro m s hs'
    rw [hI] at hs'
    obtain ⟨k, wid, a, ws, full, hk, hm, hgo, hca, hw10, hwid, t1, t2, t4, t5, t10, t11, t12, t89, t90, t91, h0, h1, h2, h3, hH⟩ := hs'
    have g0 := (List.getElem?_eq_some_iff.1 h0).1
    have g1 := (List.getElem?_eq_some_iff.1 h1).1
    have g2 := (List.getElem?_eq_some_iff.1 h2).1
    have g3 := (List.getElem?_eq_some_iff.1 h3).1
    have gw := (List.getElem?_eq_some_iff.1 hH).1
    have fin : goD d day = (a, ws, full) → ∀ s' : St, s'.t 1 = iv day → s'.t 2 = .ref 0 0 0 → s'.t 4 = .ref 1 0 0 → s'.t 5 = .ref 2 0 0 → s'.t 10 = .ref 3 0 0 → s'.t 11 = .sref wid 0 ws.length → s'.t 12 = bv full → s'.H[0]? = some (some (deskO d)) → s'.H[1]? = some (some zDeskO) → s'.H[2]? = some (some zBatO) → s'.H[3]? = some (some (accO a)) → s'.H[wid]? = some (some ⟨3, 1, encL encI ws⟩) → AInv E Inv s' := fun e s' a1 a2 a3 a4 a0 a5 a6 a7 a8 a9 a10 a11 => by
      have lw : ((encL encI ws).drop 0).take ws.length = encL encI ws := by rw [List.drop_zero, List.take_of_length_le (by rw [encL_len]; exact Nat.le_refl _)]
      refine ⟨_, weaker_frz hW 11 a5 a11 (by dsimp only; rw [lw]; exact imm_nums ws), ?_⟩
      rw [hInv, e]
      dsimp only
      rw [lw]
      refine ⟨by simp -dsimp -implicitDefEqProofs [-getElem?_pos, go_sem, a1], by simp -dsimp -implicitDefEqProofs [-getElem?_pos, go_sem, a2], by simp -dsimp -implicitDefEqProofs [-getElem?_pos, go_sem, a3], by simp -dsimp -implicitDefEqProofs [-getElem?_pos, go_sem, a4], by simp -dsimp -implicitDefEqProofs [-getElem?_pos, go_sem, a0], by simp -dsimp -implicitDefEqProofs [-getElem?_pos, go_sem], by simp -dsimp -implicitDefEqProofs [-getElem?_pos, go_sem, a6], ?_, ?_, ?_, ?_⟩
      · rw [List.getElem?_set_ne (by omega), a7]
      · rw [List.getElem?_set_ne (by omega), a8]
      · rw [List.getElem?_set_ne (by omega), a9]
      · rw [List.getElem?_set_ne (by omega), a10]
    simp -dsimp -implicitDefEqProofs [-getElem?_pos, go_sem, hP, t90, t91]
    refine condP (fun hh => ?_) (fun hh => ?_)
    rotate_left
    · have hk : k = rl.length := by simp at hh; omega
      subst hk
      rw [List.drop_length, sendGo] at hgo
      simp -dsimp -implicitDefEqProofs [-getElem?_pos, go_sem, hP]
      exact fin hgo _ (by simp -dsimp -implicitDefEqProofs [-getElem?_pos, go_sem, t1]) (by simp -dsimp -implicitDefEqProofs [-getElem?_pos, go_sem, t2]) (by simp -dsimp -implicitDefEqProofs [-getElem?_pos, go_sem, t4]) (by simp -dsimp -implicitDefEqProofs [-getElem?_pos, go_sem, t5]) (by simp -dsimp -implicitDefEqProofs [-getElem?_pos, go_sem, t10]) (by simp -dsimp -implicitDefEqProofs [-getElem?_pos, go_sem, t11]) (by simp -dsimp -implicitDefEqProofs [-getElem?_pos, go_sem, t12]) (by simp -dsimp -implicitDefEqProofs [-getElem?_pos, go_sem, h0]) (by simp -dsimp -implicitDefEqProofs [-getElem?_pos, go_sem, h1]) (by simp -dsimp -implicitDefEqProofs [-getElem?_pos, go_sem, h2]) (by simp -dsimp -implicitDefEqProofs [-getElem?_pos, go_sem, h3]) (by simp -dsimp -implicitDefEqProofs [-getElem?_pos, go_sem, hH])
    have hk : k < rl.length := by simpa using hh
    obtain ⟨p, hp⟩ : ∃ p, rl[k]? = some p := ⟨_, List.getElem?_eq_getElem hk⟩
    have wk := wrap_in ((k : Int) + 1) (by omega)
    rw [drop_at hp, sendGo] at hgo
    by_cases c5 : ws.length = 10
    · have d5 : decide ((ws.length : Int) = 10) = true := decide_eq_true (by omega)
      rw [if_pos c5] at hgo
      simp -dsimp -implicitDefEqProofs [-getElem?_pos, go_sem, hP, t89, t91, hp, cPy, t11, hH, gw, d5, c5]
      exact fin hgo _ (by simp -dsimp -implicitDefEqProofs [-getElem?_pos, go_sem, t1]) (by simp -dsimp -implicitDefEqProofs [-getElem?_pos, go_sem, t2]) (by simp -dsimp -implicitDefEqProofs [-getElem?_pos, go_sem, t4]) (by simp -dsimp -implicitDefEqProofs [-getElem?_pos, go_sem, t5]) (by simp -dsimp -implicitDefEqProofs [-getElem?_pos, go_sem, t10]) (by simp -dsimp -implicitDefEqProofs [-getElem?_pos, go_sem, t11]) (by simp -dsimp -implicitDefEqProofs [-getElem?_pos, go_sem, t12]) (by simp -dsimp -implicitDefEqProofs [-getElem?_pos, go_sem, h0, g0]) (by simp -dsimp -implicitDefEqProofs [-getElem?_pos, go_sem, h1, g1]) (by simp -dsimp -implicitDefEqProofs [-getElem?_pos, go_sem, h2, g2]) (by simp -dsimp -implicitDefEqProofs [-getElem?_pos, go_sem, h3, g3]) (by simp -dsimp -implicitDefEqProofs [-getElem?_pos, go_sem, hH, gw])
    have d5 : decide ((ws.length : Int) = 10) = false := decide_eq_false (by omega)
    rw [if_neg c5] at hgo
    simp -dsimp -implicitDefEqProofs [-getElem?_pos, go_sem, hP, t89, t91, hp, cPy, t11, hH, gw, d5, c5]
    obtain ⟨pb, hpb⟩ : ∃ pb, pb = s.H.length := ⟨_, rfl⟩
    obtain ⟨H1, hH1⟩ : ∃ H1, H1 = s.H ++ [some (⟨99, 5, [[iv p.Warrant, iv p.Payee, iv p.Amount, iv p.Due, iv p.Sub]]⟩ : AObj)] := ⟨_, rfl⟩
    have l1 : H1.length = pb + 1 := by rw [hH1, hpb]; simp
    have k0 : H1[0]? = some (some (deskO d)) := by rw [hH1, List.getElem?_append_left g0]; exact h0
    have k1 : H1[1]? = some (some zDeskO) := by rw [hH1, List.getElem?_append_left g1]; exact h1
    have k2 : H1[2]? = some (some zBatO) := by rw [hH1, List.getElem?_append_left g2]; exact h2
    have k3 : H1[3]? = some (some (accO a)) := by rw [hH1, List.getElem?_append_left g3]; exact h3
    have kw : H1[wid]? = some (some ⟨3, 1, encL encI ws⟩) := by rw [hH1, List.getElem?_append_left gw]; exact hH
    have kp : H1[pb]? = some (some ⟨99, 5, [[iv p.Warrant, iv p.Payee, iv p.Amount, iv p.Due, iv p.Sub]]⟩) := by rw [hH1, hpb, List.getElem?_append_right (Nat.le_refl _), Nat.sub_self]; rfl
    simp only [← hH1, ← hpb]
    have q0 : 0 < H1.length := by omega
    have q1 : 1 < H1.length := by omega
    have q2 : 2 < H1.length := by omega
    have q3 : 3 < H1.length := by omega
    have qw : wid < H1.length := by omega
    have qp : pb < H1.length := by omega
    have sl := check_fit hca
    have iac := imm_acc a
    have nx := next23_pf a day p.Sub 0 p.Amount p.Warrant sl.2
    obtain ⟨e, hee⟩ : ∃ e, e = nextE a day p.Sub 0 p.Amount p.Warrant := ⟨_, rfl⟩
    rw [← hee] at nx hgo
    have ie := imm_ent e
    have po := post23_pf a e sl.1 sl.2
    have io := imm_acc (postA a e).1
    simp only [cA] at iac nx po io
    refine adrawQ (fun i => decide (i = 3) || decide (i = pb)) [15] [9, 10] hP (by kernel_rfl) (by kernel_rfl) ?_
    simp -dsimp -implicitDefEqProofs [-getElem?_pos, go_sem, hP, t10, t1, k3, q3, kp, qp]
    refine callQ_is (nx.lift _ _) hP en_49 (by simpa [imm_sc] using iac) ie ?_
    simp -dsimp -implicitDefEqProofs [-getElem?_pos, go_sem, hP, t10, t1, k3, q3, kp, qp]
    refine callQ_is (po.lift _ _) hP en_48 (by simpa using ⟨iac, ie⟩) (imm_pair io .sc) ?_
    obtain ⟨b, hb⟩ : ∃ b, b = (postA a e).1 := ⟨_, rfl⟩
    obtain ⟨H2', hH2⟩ : ∃ H2', H2' = H1 ++ [some (accO b)] := ⟨_, rfl⟩
    have l2 : H2'.length = pb + 2 := by rw [hH2]; simp; omega
    have j0 : H2'[0]? = some (some (deskO d)) := by rw [hH2, List.getElem?_append_left q0]; exact k0
    have j1 : H2'[1]? = some (some zDeskO) := by rw [hH2, List.getElem?_append_left q1]; exact k1
    have j2 : H2'[2]? = some (some zBatO) := by rw [hH2, List.getElem?_append_left q2]; exact k2
    have j3 : H2'[3]? = some (some (accO a)) := by rw [hH2, List.getElem?_append_left q3]; exact k3
    have jw : H2'[wid]? = some (some ⟨3, 1, encL encI ws⟩) := by rw [hH2, List.getElem?_append_left qw]; exact kw
    have jp : H2'[pb]? = some (some ⟨99, 5, [[iv p.Warrant, iv p.Payee, iv p.Amount, iv p.Due, iv p.Sub]]⟩) := by rw [hH2, List.getElem?_append_left qp]; exact kp
    have ja : H2'[pb + 1]? = some (some (accO b)) := by rw [hH2, ← l1, List.getElem?_append_right (Nat.le_refl _), Nat.sub_self]; rfl
    have z0 : 0 < H2'.length := by omega
    have z1 : 1 < H2'.length := by omega
    have z2 : 2 < H2'.length := by omega
    have z3 : 3 < H2'.length := by omega
    have zw : wid < H2'.length := by omega
    have zp : pb < H2'.length := by omega
    have za : pb + 1 < H2'.length := by omega
    rw [← hb] at hgo
    simp -dsimp -implicitDefEqProofs [-getElem?_pos, go_sem, hP, t10, t1, k3, q3, kp, qp]
    refine ⟨fun i hi => ?_, ?_⟩
    · simp only [Bool.or_eq_true, decide_eq_true_eq] at hi
      rw [List.getElem?_append_left (by omega)]
    rw [← hb, ← hH2, l1]
    have lws : (encL encI ws).length = ws.length := encL_len _ _
    have wpb : wid < pb := by rw [hpb]; exact gw
    have nw3 : ¬ wid = 3 := by omega
    have next : ∀ (s' : St) (wid' : Nat) (a' : TAccount) (ws' : List Int) (full' : Bool), goD d day = sendGo day (rl.drop (k + 1)) a' ws' full' → checkA a' = 0 → ws'.length ≤ 10 → 4 ≤ wid' → s'.t 1 = iv day → s'.t 2 = .ref 0 0 0 → s'.t 4 = .ref 1 0 0 → s'.t 5 = .ref 2 0 0 → s'.t 10 = .ref 3 0 0 → s'.t 11 = .sref wid' 0 ws'.length → s'.t 12 = bv full' → s'.t 89 = paysL rl → s'.t 90 = iv rl.length → s'.t 91 = iv (k + 1) → s'.H[0]? = some (some (deskO d)) → s'.H[1]? = some (some zDeskO) → s'.H[2]? = some (some zBatO) → s'.H[3]? = some (some (accO a')) → s'.H[wid']? = some (some ⟨3, 1, encL encI ws'⟩) → ∃ m', m' < m ∧ I m' s' := fun s' wid' a' ws' full' x1 x2 x3 x4 x5 x6 x7 x8 x9 x10 x11 x12 x13 x14 x15 x16 x17 x18 x19 => by
      refine ⟨rl.length - (k + 1), by omega, ?_⟩
      rw [hI]
      exact ⟨k + 1, wid', a', ws', full', by omega, rfl, x1, x2, x3, x4, x5, x6, x7, x8, x9, x10, x11, x12, x13, x14, x15, x16, x17, x18, x19⟩
    by_cases c6 : (postA a e).2 = 0
    rotate_left
    · rw [if_neg c6] at hgo
      have d6 := decide_eq_false c6
      cases full
      · rw [Bool.false_or] at hgo
        simp -dsimp -implicitDefEqProofs [-getElem?_pos, go_sem, hP, t12, c6, d6, t91, wk]
        exact next _ wid a ws _ hgo hca hw10 hwid (by simp -dsimp -implicitDefEqProofs [-getElem?_pos, go_sem, t1]) (by simp -dsimp -implicitDefEqProofs [-getElem?_pos, go_sem, t2]) (by simp -dsimp -implicitDefEqProofs [-getElem?_pos, go_sem, t4]) (by simp -dsimp -implicitDefEqProofs [-getElem?_pos, go_sem, t5]) (by simp -dsimp -implicitDefEqProofs [-getElem?_pos, go_sem, t10]) (by simp -dsimp -implicitDefEqProofs [-getElem?_pos, go_sem, t11]) (by simp -dsimp -implicitDefEqProofs [-getElem?_pos, go_sem]) (by simp -dsimp -implicitDefEqProofs [-getElem?_pos, go_sem, t89]) (by simp -dsimp -implicitDefEqProofs [-getElem?_pos, go_sem, t90]) (by simp -dsimp -implicitDefEqProofs [-getElem?_pos, go_sem]) (by simp -dsimp -implicitDefEqProofs [-getElem?_pos, go_sem, j0]) (by simp -dsimp -implicitDefEqProofs [-getElem?_pos, go_sem, j1]) (by simp -dsimp -implicitDefEqProofs [-getElem?_pos, go_sem, j2]) (by simp -dsimp -implicitDefEqProofs [-getElem?_pos, go_sem, j3]) (by simp -dsimp -implicitDefEqProofs [-getElem?_pos, go_sem, jw])
      · rw [Bool.true_or] at hgo
        simp -dsimp -implicitDefEqProofs [-getElem?_pos, go_sem, hP, t12, c6, d6, t91, wk]
        exact next _ wid a ws _ hgo hca hw10 hwid (by simp -dsimp -implicitDefEqProofs [-getElem?_pos, go_sem, t1]) (by simp -dsimp -implicitDefEqProofs [-getElem?_pos, go_sem, t2]) (by simp -dsimp -implicitDefEqProofs [-getElem?_pos, go_sem, t4]) (by simp -dsimp -implicitDefEqProofs [-getElem?_pos, go_sem, t5]) (by simp -dsimp -implicitDefEqProofs [-getElem?_pos, go_sem, t10]) (by simp -dsimp -implicitDefEqProofs [-getElem?_pos, go_sem, t11]) (by simp -dsimp -implicitDefEqProofs [-getElem?_pos, go_sem]) (by simp -dsimp -implicitDefEqProofs [-getElem?_pos, go_sem, t89]) (by simp -dsimp -implicitDefEqProofs [-getElem?_pos, go_sem, t90]) (by simp -dsimp -implicitDefEqProofs [-getElem?_pos, go_sem]) (by simp -dsimp -implicitDefEqProofs [-getElem?_pos, go_sem, j0]) (by simp -dsimp -implicitDefEqProofs [-getElem?_pos, go_sem, j1]) (by simp -dsimp -implicitDefEqProofs [-getElem?_pos, go_sem, j2]) (by simp -dsimp -implicitDefEqProofs [-getElem?_pos, go_sem, j3]) (by simp -dsimp -implicitDefEqProofs [-getElem?_pos, go_sem, jw])
    have en : encL encI ws ++ [[AV.sc (.int .i64 p.Warrant)]] = encL encI (ws ++ [p.Warrant]) := encL_snoc encI ws p.Warrant
    have old : ∀ j, j ≠ wid → j ≠ 3 → j < H2'.length → ((List.set H2' wid none).set 3 (some (accO b)) ++ [some (⟨3, 1, encL encI ws ++ [[AV.sc (.int .i64 p.Warrant)]]⟩ : AObj)])[j]? = H2'[j]? := fun j h1 h3 h2 => by
      rw [List.getElem?_append_left (by rw [List.length_set, List.length_set]; exact h2), List.getElem?_set_ne (Ne.symm h3), List.getElem?_set_ne (Ne.symm h1)]
    have u3 : ((List.set H2' wid none).set 3 (some (accO b)) ++ [some (⟨3, 1, encL encI ws ++ [[AV.sc (.int .i64 p.Warrant)]]⟩ : AObj)])[3]? = some (some (accO b)) := by rw [List.getElem?_append_left (by rw [List.length_set, List.length_set]; exact z3), List.getElem?_set_self (by rw [List.length_set]; exact z3)]
    have uw : ((List.set H2' wid none).set 3 (some (accO b)) ++ [some (⟨3, 1, encL encI ws ++ [[AV.sc (.int .i64 p.Warrant)]]⟩ : AObj)])[pb + 2]? = some (some ⟨3, 1, encL encI (ws ++ [p.Warrant])⟩) := by
      rw [← l2, List.getElem?_append_right (by simp), List.length_set, List.length_set, Nat.sub_self, en]; rfl
    cases full
    · rw [if_pos c6] at hgo
      simp -dsimp -implicitDefEqProofs [-getElem?_pos, go_sem, hP, t12, c6]
      refine adrawB (fun i => decide (i = pb) || decide (i = pb + 1)) [6] hP (by kernel_rfl) (by kernel_rfl) ?_
      simp -dsimp -implicitDefEqProofs [-getElem?_pos, go_sem, hP, t10, t11, j3, z3, jp, zp, ja, za, jw, zw, lws, nw3, t91, wk]
      refine ⟨by omega, by omega, fun j hj => ?_, ?_⟩
      · simp only [Bool.or_eq_true, decide_eq_true_eq] at hj
        rw [List.getElem?_append_left (by rw [List.length_set]; omega), List.getElem?_set_ne (by omega)]
      exact next _ (pb + 2) b (ws ++ [p.Warrant]) _ hgo (hb ▸ post_check c6) (by rw [List.length_append, List.length_singleton]; omega) (by omega) (by simp -dsimp -implicitDefEqProofs [-getElem?_pos, go_sem, t1]) (by simp -dsimp -implicitDefEqProofs [-getElem?_pos, go_sem, t2]) (by simp -dsimp -implicitDefEqProofs [-getElem?_pos, go_sem, t4]) (by simp -dsimp -implicitDefEqProofs [-getElem?_pos, go_sem, t5]) (by simp -dsimp -implicitDefEqProofs [-getElem?_pos, go_sem, t10]) (by simp -dsimp -implicitDefEqProofs [-getElem?_pos, go_sem, l2]) (by simp -dsimp -implicitDefEqProofs [-getElem?_pos, go_sem]) (by simp -dsimp -implicitDefEqProofs [-getElem?_pos, go_sem, t89]) (by simp -dsimp -implicitDefEqProofs [-getElem?_pos, go_sem, t90]) (by simp -dsimp -implicitDefEqProofs [-getElem?_pos, go_sem]) ((old 0 (by omega) (by omega) z0).trans j0) ((old 1 (by omega) (by omega) z1).trans j1) ((old 2 (by omega) (by omega) z2).trans j2) u3 uw
    · rw [if_pos c6] at hgo
      simp -dsimp -implicitDefEqProofs [-getElem?_pos, go_sem, hP, t12, c6]
      refine adrawB (fun i => decide (i = pb) || decide (i = pb + 1)) [6] hP (by kernel_rfl) (by kernel_rfl) ?_
      simp -dsimp -implicitDefEqProofs [-getElem?_pos, go_sem, hP, t10, t11, j3, z3, jp, zp, ja, za, jw, zw, lws, nw3, t91, wk]
      refine ⟨by omega, by omega, fun j hj => ?_, ?_⟩
      · simp only [Bool.or_eq_true, decide_eq_true_eq] at hj
        rw [List.getElem?_append_left (by rw [List.length_set]; omega), List.getElem?_set_ne (by omega)]
      exact next _ (pb + 2) b (ws ++ [p.Warrant]) _ hgo (hb ▸ post_check c6) (by rw [List.length_append, List.length_singleton]; omega) (by omega) (by simp -dsimp -implicitDefEqProofs [-getElem?_pos, go_sem, t1]) (by simp -dsimp -implicitDefEqProofs [-getElem?_pos, go_sem, t2]) (by simp -dsimp -implicitDefEqProofs [-getElem?_pos, go_sem, t4]) (by simp -dsimp -implicitDefEqProofs [-getElem?_pos, go_sem, t5]) (by simp -dsimp -implicitDefEqProofs [-getElem?_pos, go_sem, t10]) (by simp -dsimp -implicitDefEqProofs [-getElem?_pos, go_sem, l2]) (by simp -dsimp -implicitDefEqProofs [-getElem?_pos, go_sem]) (by simp -dsimp -implicitDefEqProofs [-getElem?_pos, go_sem, t89]) (by simp -dsimp -implicitDefEqProofs [-getElem?_pos, go_sem, t90]) (by simp -dsimp -implicitDefEqProofs [-getElem?_pos, go_sem]) ((old 0 (by omega) (by omega) z0).trans j0) ((old 1 (by omega) (by omega) z1).trans j1) ((old 2 (by omega) (by omega) z2).trans j2) u3 uw
  intro s hs'
  rw [hInv] at hs'
  obtain ⟨t1, t2, t4, t5, t10, t11, t12, h0, h1, h2, h3⟩ := hs'
  clear hInv Inv
  obtain ⟨G, hG⟩ : ∃ G, G = goD d day := ⟨_, rfl⟩
  have hws := goD_ws hd.q day
  rw [← hG] at t11 t12 h3 hws hca hcl
  have g0 := (List.getElem?_eq_some_iff.1 h0).1
  have g1 := (List.getElem?_eq_some_iff.1 h1).1
  have g2 := (List.getElem?_eq_some_iff.1 h2).1
  have g3 := (List.getElem?_eq_some_iff.1 h3).1
  have hsd : sendD d day = if G.2.1.length = 0 then (zeroD, zeroB, if G.2.2 = true then 3 else 10) else if (takeQ d.Queue day G.2.1).2.2 = 0 then (⟨G.1, (takeQ d.Queue day G.2.1).1, d.Items.map (sentI G.2.1)⟩, (takeQ d.Queue day G.2.1).2.1, 0) else (zeroD, zeroB, (takeQ d.Queue day G.2.1).2.2) := by
    rw [sendD, if_pos c1, if_pos c2, if_neg c3, ← hG]
  refine awp_sound _ _ _ (by rw [hN]; kernel_rfl) ?_
  by_cases c4 : G.2.1.length = 0
  · rw [if_pos c4] at hsd
    have d4 : decide ((G.2.1.length : Int) = 0) = true := decide_eq_true (by omega)
    cases hfull : G.2.2
    · rw [hfull] at t12 hsd
      simp -dsimp -implicitDefEqProofs [-getElem?_pos, go_sem, hP, t11, d4, c4, t4, t5, h1, g1, h2, g2, t12]
      exact done_zeroD3 (zer _ hsd)
    · rw [hfull] at t12 hsd
      simp -dsimp -implicitDefEqProofs [-getElem?_pos, go_sem, hP, t11, d4, c4, t4, t5, h1, g1, h2, g2, t12]
      exact done_zeroD3 (zer _ hsd)
  rw [if_neg c4] at hsd
  have d4 : decide ((G.2.1.length : Int) = 0) = false := decide_eq_false (by omega)
  have lG : G.2.1.length ≤ 100000 := by omega
  have tk := take25_pf d.Queue day G.2.1 hf.q lG
  have iq := imm_que d.Queue
  have iqq := imm_que (takeQ d.Queue day G.2.1).1
  have ibb := imm_bat (takeQ d.Queue day G.2.1).2.1
  have iws := imm_nums G.2.1
  have e1 : intsL G.2.1 = numsL G.2.1 := rfl
  simp only [cQn, cBt, e1] at tk iq iqq ibb
  simp -dsimp -implicitDefEqProofs [-getElem?_pos, go_sem, hP, t11, d4, c4, t1, t2, h0, g0]
  refine callB_is (tk.lift _ _) hP en_50 (by simp [imm_sc]; exact ⟨by simpa using iq, iws⟩) (imm_trip iqq ibb .sc) ?_
  by_cases c5 : (takeQ d.Queue day G.2.1).2.2 = 0
  rotate_left
  · rw [if_neg c5] at hsd
    have d5 := decide_eq_false c5
    simp -dsimp -implicitDefEqProofs [-getElem?_pos, go_sem, hP, d5, t4, t5, h1, g1, h2, g2]
    exact done_zeroD3 (zer _ hsd)
  rw [if_pos c5] at hsd
  obtain ⟨q', hq'⟩ : ∃ q', q' = (takeQ d.Queue day G.2.1).1 := ⟨_, rfl⟩
  obtain ⟨bt, hbt⟩ : ∃ bt, bt = (takeQ d.Queue day G.2.1).2.1 := ⟨_, rfl⟩
  simp only [← hq', ← hbt] at hsd iqq ibb
  simp -dsimp -implicitDefEqProofs [-getElem?_pos, go_sem, hP, c5, ← hq', ← hbt]
  obtain ⟨n, hn⟩ : ∃ n, n = s.H.length := ⟨_, rfl⟩
  obtain ⟨H5, hH5⟩ : ∃ H5, H5 = s.H ++ [some ⟨32, 3, [[paysL q'.Waiting, numsL q'.Known, batsL q'.Batches]]⟩, some (⟨45, 3, [[iv bt.Number, iv bt.Day, paysL bt.Payments]]⟩ : AObj)] := ⟨_, rfl⟩
  have l5 : H5.length = n + 2 := by rw [hH5, hn]; simp
  have old : ∀ j, j < s.H.length → H5[j]? = s.H[j]? := fun j h2 => by rw [hH5, List.getElem?_append_left h2]
  have u0 := (old 0 g0).trans h0
  have u1 := (old 1 g1).trans h1
  have u2 := (old 2 g2).trans h2
  have u3 := (old 3 g3).trans h3
  have uq : H5[n]? = some (some ⟨32, 3, [[paysL q'.Waiting, numsL q'.Known, batsL q'.Batches]]⟩) := by rw [hH5, hn, List.getElem?_append_right (Nat.le_refl _), Nat.sub_self]; rfl
  have ub : H5[n + 1]? = some (some ⟨45, 3, [[iv bt.Number, iv bt.Day, paysL bt.Payments]]⟩) := by rw [hH5, hn, List.getElem?_append_right (by omega), Nat.add_sub_cancel_left]; rfl
  rw [← hn] at g0 g1 g2 g3
  rw [← hH5, ← hn]
  have v0 : 0 < H5.length := by omega
  have v3 : 3 < H5.length := by omega
  have vq : n < H5.length := by omega
  have vb : n + 1 < H5.length := by omega
  refine adrawB (fun i => decide (i = 3) || decide (i = n)) [2, 4, 5] hP (by kernel_rfl) (by kernel_rfl) ?_
  simp -dsimp -implicitDefEqProofs [-getElem?_pos, go_sem, hP, t10, t2, u3, v3, uq, vq, u0, v0]
  refine ⟨fun j hj => ?_, ?_⟩
  · simp only [Bool.or_eq_true, decide_eq_true_eq] at hj
    rw [List.getElem?_set_ne (by omega)]
  simp -dsimp -implicitDefEqProofs [-getElem?_pos, go_sem, hP, t11]
  obtain ⟨ws, hwsd⟩ : ∃ ws, ws = G.2.1 := ⟨_, rfl⟩
  rw [← hwsd] at hws hsd
  have lws10 : ws.length ≤ 10 := by rw [hwsd]; exact hcl
  obtain ⟨K, hK⟩ : ∃ I : Nat → St → Prop, I = fun m s => ∃ k : Nat, k ≤ ws.length ∧ m = ws.length - k ∧ s.t 2 = .ref 0 0 0 ∧ s.t 4 = .ref 1 0 0 ∧ s.t 5 = .ref 2 0 0 ∧ s.t 18 = .ref (n + 1) 0 0 ∧ s.t 152 = numsL ws ∧ s.t 153 = iv ws.length ∧ s.t 154 = iv k ∧ s.H[0]? = some (some (deskO ⟨G.1, q', d.Items.map (sentI (ws.take k))⟩)) ∧ s.H[1]? = some (some zDeskO) ∧ s.H[2]? = some (some zBatO) ∧ s.H[n + 1]? = some (some ⟨45, 3, [[iv bt.Number, iv bt.Day, paysL bt.Payments]]⟩) := ⟨_, rfl⟩
  refine aloop0 K (ws.length) (by rw [hN]; rfl) ?_ ?_
  · rw [hK]
    refine ⟨0, by omega, by omega, by simp -dsimp -implicitDefEqProofs [-getElem?_pos, go_sem, t2], by simp -dsimp -implicitDefEqProofs [-getElem?_pos, go_sem, t4], by simp -dsimp -implicitDefEqProofs [-getElem?_pos, go_sem, t5], by simp -dsimp -implicitDefEqProofs [-getElem?_pos, go_sem, hn], by simp -dsimp -implicitDefEqProofs [-getElem?_pos, go_sem, hwsd], by simp -dsimp -implicitDefEqProofs [-getElem?_pos, go_sem, hwsd], by simp -dsimp -implicitDefEqProofs [-getElem?_pos, go_sem], ?_, ?_, ?_, ?_⟩
    · rw [List.take_zero, sentI_nil]
      simp -dsimp -implicitDefEqProofs [-getElem?_pos, go_sem, v0]
    · dsimp only; rw [List.getElem?_set_ne (by omega)]; exact u1
    · dsimp only; rw [List.getElem?_set_ne (by omega)]; exact u2
    · dsimp only; rw [List.getElem?_set_ne (by omega)]; exact ub
  clear t1 t2 t4 t5 t10 t11 t12 h0 h1 h2 h3 u0 u1 u2 u3 uq ub
  intro m s hs'
  rw [hK] at hs'
  obtain ⟨k, hk, hm, t2, t4, t5, t18, t152, t153, t154, h0, h1, h2, hb⟩ := hs'
  have g0 := (List.getElem?_eq_some_iff.1 h0).1
  have g1 := (List.getElem?_eq_some_iff.1 h1).1
  have g2 := (List.getElem?_eq_some_iff.1 h2).1
  have gb := (List.getElem?_eq_some_iff.1 hb).1
  simp -dsimp -implicitDefEqProofs [-getElem?_pos, go_sem, hP, t153, t154]
  refine condP (fun hh => ?_) (fun hh => ?_)
  · have hk : k < ws.length := by simpa using hh
    obtain ⟨w, hw⟩ : ∃ w, ws[k]? = some w := ⟨_, List.getElem?_eq_getElem hk⟩
    have wk := wrap_in ((k : Int) + 1) (by omega)
    obtain ⟨p, hp, hpw⟩ := hws.2 w (List.mem_of_getElem? hw)
    obtain ⟨i, x, hx, hxp, hxs⟩ := wait_item hd ((readyQ_sub d.Queue day).subset hp)
    have hxw : x.Payment.Warrant = w := by rw [hxp, hpw]
    have hnw : w ∉ ws.take k := fun h => by
      have h2 : ws = ws.take k ++ ws.drop k := (List.take_append_drop k ws).symm
      have h1 := hws.1
      rw [h2] at h1
      refine (List.nodup_append.1 h1).2.2 _ h w ?_ rfl
      rw [drop_at hw]
      simp
    obtain ⟨hxL, hset⟩ := sentI_set hd.nd hx (ws := ws.take k) (by rw [hxw]; exact hnw)
    have hxa : 0 ≤ x.Attempts ∧ x.Attempts ≤ 5 := (item_facts hd (List.mem_of_getElem? hx)).2.2.2.1
    have wa := wrap_in (x.Attempts + 1) (by omega)
    obtain ⟨L, hL⟩ : ∃ L, L = d.Items.map (sentI (ws.take k)) := ⟨_, rfl⟩
    have lL : L.length = d.Items.length := by rw [hL, List.length_map]
    have hLw : L.map wrt = d.Items.map wrt := by rw [hL, sentI_wrt]
    rw [← hL] at h0 hxL hset
    rw [hxw, ← take_at hw] at hset
    have hpos : posI L w = i := by rw [← hxw]; exact posI_at (by rw [hLw]; exact hd.nd) hxL
    have rt := rat_pf ⟨G.1, q', L⟩ w (by simp only; omega)
    have wt := with_pf ⟨G.1, q', L⟩ i ⟨x.Payment, 2, x.Attempts + 1⟩ (by simp only; omega) (by simp only; exact (List.getElem?_eq_some_iff.1 hxL).1)
    have iL := imm_desk ⟨G.1, q', L⟩
    have iL2 := imm_desk ⟨G.1, q', L.set i ⟨x.Payment, 2, x.Attempts + 1⟩⟩
    have ix2 := imm_item ⟨x.Payment, 2, x.Attempts + 1⟩
    rw [hset] at wt iL2
    simp only [hpos] at rt
    simp only [cDn, cIt] at rt wt iL iL2 ix2
    simp -dsimp -implicitDefEqProofs [-getElem?_pos, go_sem, hP, t152, t154, hw, encI, t2, h0, g0]
    refine callB_is (rt.lift _ _) hP en_51 (by simpa [imm_sc] using iL) .sc ?_
    simp -dsimp -implicitDefEqProofs [-getElem?_pos, go_sem, hP, t2, h0, g0, hxL, cIt, wa]
    refine callB_is (wt.lift _ _) hP en_52 (by simpa [imm_sc] using ⟨iL, ix2⟩) iL2 ?_
    have g0' : ∀ y : Option AObj, (s.H ++ [y])[0]? = s.H[0]? := fun y => List.getElem?_append_left g0
    simp -dsimp -implicitDefEqProofs [-getElem?_pos, go_sem, hP, t2, g0', h0, g0, t154, wk]
    refine ⟨ws.length - (k + 1), by omega, ?_⟩
    rw [hK]
    refine ⟨k + 1, by omega, rfl, by simp -dsimp -implicitDefEqProofs [-getElem?_pos, go_sem, t2], by simp -dsimp -implicitDefEqProofs [-getElem?_pos, go_sem, t4], by simp -dsimp -implicitDefEqProofs [-getElem?_pos, go_sem, t5], by simp -dsimp -implicitDefEqProofs [-getElem?_pos, go_sem, t18], by simp -dsimp -implicitDefEqProofs [-getElem?_pos, go_sem, t152], by simp -dsimp -implicitDefEqProofs [-getElem?_pos, go_sem, t153], by simp -dsimp -implicitDefEqProofs [-getElem?_pos, go_sem], ?_, ?_, ?_, ?_⟩
    · simp -dsimp -implicitDefEqProofs [-getElem?_pos, go_sem, g0]
    · simp -dsimp -implicitDefEqProofs [-getElem?_pos, go_sem, g1, h1]
    · simp -dsimp -implicitDefEqProofs [-getElem?_pos, go_sem, g2, h2]
    · have nb : ¬ 0 = n + 1 := by omega
      simp -dsimp -implicitDefEqProofs [-getElem?_pos, go_sem, gb, hb, nb]
  · have hk : k = ws.length := by simp at hh; omega
    subst hk
    rw [List.take_length] at h0
    simp -dsimp -implicitDefEqProofs [-getElem?_pos, go_sem, hP]
    have n12 : ¬ 1 = 2 := by omega
    refine adrawB (fun i => decide (i = 0) || decide (i = n + 1)) [] hP (by kernel_rfl) (by kernel_rfl) ?_
    simp -dsimp -implicitDefEqProofs [-getElem?_pos, go_sem, hP, t2, t4, t5, t18, h0, g0, h1, g1, h2, g2, hb, gb, n12]
    refine ⟨fun j hj => ?_, fun j hj => ?_, ?_⟩
    · simp only [Bool.or_eq_true, decide_eq_true_eq] at hj
      rw [List.getElem?_set_ne (by omega)]
    · simp only [Bool.or_eq_true, decide_eq_true_eq] at hj
      rw [List.getElem?_set_ne (by omega)]
    have iD := imm_desk ⟨G.1, q', d.Items.map (sentI ws)⟩
    refine done_trip (cs' := TDesk.cells ⟨G.1, q', d.Items.map (sentI ws)⟩) (ds' := TBatch.cells bt) (cw_immL (imm_agg.1 iD)) (cw_immL (imm_agg.1 ibb)) ?_
    rw [hR, hsd]
open Go.PA
open Go.RowKit
theorem waitB_char {q : TQueue} (hq : QOk q) {x : TItem} : waitB q x = true ↔ (x.State = 1 ∧ x.Payment ∈ q.Waiting) ∨ (x.State ≠ 1 ∧ ∀ p, p ∈ q.Waiting → p.Warrant ≠ x.Payment.Warrant) := by
  unfold waitB
  cases hw : waitO q x.Payment.Warrant with
  | none =>
    have h := waitO_none.1 hw
    simp only [Bool.not_eq_true', decide_eq_false_iff_not]
    constructor
    · intro e
      exact .inr ⟨e, h⟩
    · rintro (⟨_, hm⟩ | ⟨e, _⟩)
      · exact absurd rfl (h _ hm)
      · exact e
  | some w =>
    obtain ⟨h1, h2⟩ := waitO_some hw
    simp only [Bool.and_eq_true, decide_eq_true_eq]
    constructor
    · rintro ⟨e, he⟩
      exact .inl ⟨e, he ▸ h1⟩
    · rintro (⟨e, hm⟩ | ⟨_, hn⟩)
      · exact ⟨e, uniqW hq.asc.nd h1 hm h2⟩
      · exact absurd h2 (hn _ h1)
theorem bal_iff {a : TAccount} {id : Int} : (balanceA a id).2 = true ↔ checkA a = 0 ∧ id ∈ ids a.Subs := by
  unfold balanceA
  split
  · rename_i h
    constructor
    · intro e
      refine ⟨h, ?_⟩
      cases hf : a.Subs.find? (fun s => decide (s.ID = id)) with
      | none => rw [hf] at e; cases e
      | some s => exact List.mem_map.2 ⟨s, List.mem_of_find?_eq_some hf, by simpa using List.find?_some hf⟩
    · rintro ⟨_, hm⟩
      obtain ⟨s, hs, e⟩ := List.mem_map.1 hm
      cases hf : a.Subs.find? (fun s => decide (s.ID = id)) with
      | none =>
        have := List.find?_eq_none.1 hf s hs
        simp [e] at this
      | some s => rfl
  · rename_i h
    exact ⟨fun e => (by cases e), fun e => absurd e.1 h⟩
structure IOk (d : TDesk) (x : TItem) : Prop where
  pay : PayOk x.Payment
  sub : checkA d.Account = 0 ∧ x.Payment.Sub ∈ ids d.Account.Subs
  st : 1 ≤ x.State ∧ x.State ≤ 5
  att : 0 ≤ x.Attempts ∧ x.Attempts ≤ 5
  a5 : ¬ (x.Attempts = 5 ∧ x.State = 1)
  a0 : ¬ (x.Attempts = 0 ∧ x.State ≠ 1 ∧ x.State ≠ 5)
  w : (x.State = 1 ∧ x.Payment ∈ d.Queue.Waiting) ∨ (x.State ≠ 1 ∧ ∀ p, p ∈ d.Queue.Waiting → p.Warrant ≠ x.Payment.Warrant)
  bat : (batN d.Queue x.Payment.Warrant : Int) = x.Attempts
  all : ∀ e, e ∈ d.Account.Entries → e.Ref = x.Payment.Warrant → e.Amount = x.Payment.Amount ∧ (e.From = x.Payment.Sub ∧ e.To = 0 ∨ e.From = 0 ∧ e.To = x.Payment.Sub)
  outs : (d.Account.Entries.countP (outE x.Payment) : Int) = x.Attempts
  ins : (d.Account.Entries.countP (inE x.Payment) : Int) + goneN x = x.Attempts
theorem okE_iff {p : TPayment} {e : TEntry} : okE p e = true ↔ (e.Ref = p.Warrant → e.Amount = p.Amount ∧ (e.From = p.Sub ∧ e.To = 0 ∨ e.From = 0 ∧ e.To = p.Sub)) := by
  unfold okE
  by_cases h : e.Ref = p.Warrant
  · simp [h]
  · simp [h]
theorem attB_iff {x : TItem} : attB x = true ↔ (0 ≤ x.Attempts ∧ x.Attempts ≤ 5) ∧ ¬ (x.Attempts = 5 ∧ x.State = 1) ∧ ¬ (x.Attempts = 0 ∧ x.State ≠ 1 ∧ x.State ≠ 5) := by
  unfold attB
  rw [Bool.and_eq_true, Bool.and_eq_true, amg_iff, Bool.not_eq_true', Bool.not_eq_true', Bool.and_eq_false_iff, Bool.and_eq_false_iff, Bool.not_eq_false', Bool.or_eq_true, decide_eq_false_iff_not, decide_eq_false_iff_not, decide_eq_false_iff_not, decide_eq_true_eq, decide_eq_true_eq]
  omega
theorem itemB_iff {d : TDesk} (hq : QOk d.Queue) {x : TItem} : itemB d x = true ↔ IOk d x := by
  simp only [itemB, movedB, Bool.and_eq_true, payB_iff, bal_iff, amg_iff, attB_iff, waitB_char hq, decide_eq_true_eq, List.all_eq_true, okE_iff]
  constructor
  · rintro ⟨h1, h2, h3, ⟨h4, h5, h6⟩, h7, h8, h9, h10, h11⟩
    exact ⟨h1, h2, h3, h4, h5, h6, h7, h8, h9, h10, h11⟩
  · rintro ⟨h1, h2, h3, h4, h5, h6, h7, h8, h9, h10, h11⟩
    exact ⟨h1, h2, h3, ⟨h4, h5, h6⟩, h7, h8, h9, h10, h11⟩
theorem DOk.io {d : TDesk} (h : DOk d) {x : TItem} (hx : x ∈ d.Items) : IOk d x := (itemB_iff h.q).1 (h.i x hx)
theorem DOk.mk' {d : TDesk} (a : checkA d.Account = 0) (q : QOk d.Queue) (k : d.Items.map wrt = d.Queue.Known) (i : ∀ x, x ∈ d.Items → IOk d x) : DOk d := ⟨a, q, k, fun x hx => (itemB_iff q).2 (i x hx)⟩
theorem openD_ok {a : TAccount} (h : (openD a).2 = 0) : openD a = (⟨a, zeroQ, []⟩, 0) ∧ checkA a = 0 ∧ (∀ e, e ∈ a.Entries → e.Ref = 0) ∧ DOk ⟨a, zeroQ, []⟩ := by
  unfold openD at h ⊢
  by_cases c1 : checkA a = 0
  rotate_left
  · rw [if_neg c1] at h
    exact absurd h c1
  rw [if_pos c1] at h ⊢
  by_cases c2 : (a.Entries.any fun e => !refB 0 e) = true
  · rw [if_pos c2] at h
    simp at h
  rw [if_neg c2]
  refine ⟨rfl, c1, fun e he => ?_, DOk.mk' c1 zeroQ_ok rfl (by simp)⟩
  have := List.any_eq_false.1 (Bool.eq_false_iff.2 c2) e he
  simpa [refB] using this
theorem takeWhile_map {α β : Type} (f : α → β) (p : β → Bool) : ∀ l : List α, (l.map f).takeWhile p = (l.takeWhile fun x => p (f x)).map f
  | [] => rfl
  | a :: l => by
    rw [List.map_cons, List.takeWhile_cons, List.takeWhile_cons, takeWhile_map f p l]
    cases p (f a) <;> rfl
theorem dropWhile_map {α β : Type} (f : α → β) (p : β → Bool) : ∀ l : List α, (l.map f).dropWhile p = (l.dropWhile fun x => p (f x)).map f
  | [] => rfl
  | a :: l => by
    rw [List.map_cons, List.dropWhile_cons, List.dropWhile_cons, dropWhile_map f p l]
    cases p (f a) <;> rfl
theorem ins_wrt (l : List TItem) (y : TItem) : (ins ltI l y).map wrt = ins ltB (l.map wrt) (wrt y) := by
  unfold ins
  rw [List.map_append, List.map_cons, takeWhile_map, dropWhile_map]
  rfl
theorem batN_zero {q : TQueue} (h : QOk q) {w : Int} (hw : w ∉ q.Known) : batN q w = 0 := by
  unfold batN
  have : ∀ b, b ∈ q.Batches → b.Payments.countP (hasW w) = 0 := fun b hb => by
    rw [List.countP_eq_zero]
    intro p hp e
    have e : p.Warrant = w := by simpa [hasW] using e
    exact hw (e ▸ (batsFrom_len h.bats b hb).2.2.1.kn p hp)
  rw [List.map_congr_left (g := fun _ => 0) this]
  induction q.Batches with
  | nil => rfl
  | cons a l ih => rw [List.map_cons, List.sum_cons, ih]
theorem orderD_ok {d x : TDesk} {p : TPayment} (h : orderD d p = (x, 0)) : DOk d ∧ PayOk p ∧ p.Warrant ∉ d.Queue.Known ∧ x = ⟨d.Account, ⟨ins befB d.Queue.Waiting p, ins ltB d.Queue.Known p.Warrant, d.Queue.Batches⟩, ins ltI d.Items ⟨p, 1, 0⟩⟩ ∧ DOk x := by
  unfold orderD at h
  by_cases c1 : checkD d = 0
  rotate_left
  · rw [if_neg c1] at h
    exact absurd (congrArg Prod.snd h) c1
  rw [if_pos c1] at h
  by_cases c2 : (addQ d.Queue p).2 = 0
  rotate_left
  · rw [if_neg c2] at h
    exact absurd (congrArg Prod.snd h) c2
  rw [if_pos c2] at h
  by_cases c3 : (balanceA d.Account p.Sub).2 = true
  rotate_left
  · rw [if_neg c3] at h
    simp at h
  rw [if_pos c3] at h
  by_cases c4 : d.Account.Entries.any (refB p.Warrant) = true
  · rw [if_pos c4] at h
    simp at h
  rw [if_neg c4] at h
  have hd := checkD_iff.1 c1
  obtain ⟨a1, a2, a3, a4, a5, a6, a7⟩ := addQ_ok (x := (addQ d.Queue p).1) (q := d.Queue) (p := p) (by rw [← c2])
  have hx := (congrArg Prod.fst h).symm
  simp only at hx
  rw [a6] at hx a7
  have hne : ∀ e, e ∈ d.Account.Entries → e.Ref ≠ p.Warrant := fun e he => by
    have := List.any_eq_false.1 (Bool.eq_false_iff.2 c4) e he
    simpa [refB] using this
  refine ⟨hd, a2, a3, hx, ?_⟩
  rw [hx]
  refine DOk.mk' hd.a a7 ?_ fun y hy => ?_
  · rw [ins_wrt, hd.k]
    rfl
  rcases mem_ins.1 hy with rfl | hy
  · refine ⟨a2, bal_iff.1 c3, by simp, by simp, by simp, by simp, .inl ⟨rfl, mem_ins.2 (.inl rfl)⟩, ?_, fun e he er => absurd er (hne e he), ?_, ?_⟩
    · exact (show ((batN d.Queue p.Warrant : Nat) : Int) = 0 by rw [batN_zero hd.q a3]; rfl)
    · rw [List.countP_eq_zero.2 fun e he => by simp [outE, hne e he]]; rfl
    · rw [List.countP_eq_zero.2 fun e he => by simp [inE, hne e he]]; rfl
  · have io := hd.io hy
    have hyk : y.Payment.Warrant ∈ d.Queue.Known := by rw [← hd.k]; exact List.mem_map.2 ⟨y, hy, rfl⟩
    have hyp : p.Warrant ≠ y.Payment.Warrant := fun e => a3 (e ▸ hyk)
    refine ⟨io.pay, io.sub, io.st, io.att, io.a5, io.a0, ?_, io.bat, io.all, io.outs, io.ins⟩
    rcases io.w with ⟨h1, h2⟩ | ⟨h1, h2⟩
    · exact .inl ⟨h1, mem_ins.2 (.inr h2)⟩
    · refine .inr ⟨h1, fun z hz => ?_⟩
      rcases mem_ins.1 hz with rfl | hz
      · exact hyp
      · exact h2 z hz
theorem set_wrt {l : List TItem} {k : Nat} {x y : TItem} (hx : l[k]? = some x) (e : y.Payment.Warrant = x.Payment.Warrant) : (l.set k y).map wrt = l.map wrt := by
  rw [List.map_set]
  apply List.ext_getElem?
  intro j
  rw [List.getElem?_set, List.length_map]
  by_cases hj : k = j
  · subst hj
    rw [if_pos rfl, if_pos (List.getElem?_eq_some_iff.1 hx).1, List.getElem?_map, hx]
    exact congrArg some e
  · rw [if_neg hj]
theorem mem_set_cases {l : List TItem} (hn : (l.map wrt).Nodup) {k : Nat} {x y z : TItem} (hx : l[k]? = some x) (hz : z ∈ l.set k y) : z = y ∨ (z ∈ l ∧ z.Payment.Warrant ≠ x.Payment.Warrant) := by
  obtain ⟨j, hj⟩ := List.getElem?_of_mem hz
  rw [List.getElem?_set] at hj
  by_cases hk : k = j
  · subst hk
    rw [if_pos rfl, if_pos (List.getElem?_eq_some_iff.1 hx).1] at hj
    exact .inl (Option.some.inj hj).symm
  · rw [if_neg hk] at hj
    refine .inr ⟨List.mem_of_getElem? hj, fun e => hk ?_⟩
    have e1 : (l.map wrt)[k]? = some x.Payment.Warrant := by rw [List.getElem?_map, hx]; rfl
    have e2 : (l.map wrt)[j]? = some x.Payment.Warrant := by rw [List.getElem?_map, hj, ← e]; rfl
    exact (List.getElem?_inj (List.getElem?_eq_some_iff.1 e1).1 hn).1 (e1.trans e2.symm)
theorem changeD_ok {d x : TDesk} {w st : Int} {f : TDesk → TItem → Done1} (h : changeD d w st f = (x, 0)) : DOk d ∧ ∃ (k : Nat) (y : TItem), d.Items[k]? = some y ∧ y.Payment.Warrant = w ∧ y.State = st ∧ (f d y).e = 0 ∧ x = ⟨(f d y).a, (f d y).q, d.Items.set k (f d y).x⟩ := by
  by_cases c1 : checkD d = 0
  rotate_left
  · rw [changeD_bad c1] at h
    exact absurd (congrArg Prod.snd h) c1
  by_cases c2 : w ∈ d.Items.map wrt
  rotate_left
  · rw [changeD_none c1 c2] at h
    simp at h
  obtain ⟨y, hy, e⟩ := List.mem_map.1 c2
  obtain ⟨k, hk⟩ := List.getElem?_of_mem hy
  have e : y.Payment.Warrant = w := e
  subst e
  rw [changeD_at c1 hk] at h
  by_cases c3 : y.State = st
  · rw [if_pos c3] at h
    by_cases c4 : (f d y).e = 0
    · rw [if_pos c4] at h
      exact ⟨checkD_iff.1 c1, k, y, hk, rfl, c3, c4, (congrArg Prod.fst h).symm⟩
    · rw [if_neg c4] at h
      exact absurd (congrArg Prod.snd h) c4
  · rw [if_neg c3] at h
    simp at h
theorem settleD_ok {d x : TDesk} {w : Int} (h : settleD d w = (x, 0)) : DOk d ∧ (∃ (k : Nat) (y : TItem), d.Items[k]? = some y ∧ y.Payment.Warrant = w ∧ y.State = 2 ∧ x = ⟨d.Account, d.Queue, d.Items.set k ⟨y.Payment, 3, y.Attempts⟩⟩) ∧ DOk x := by
  obtain ⟨hd, k, y, h1, h2, h3, _, h5⟩ := changeD_ok h
  have hx : x = ⟨d.Account, d.Queue, d.Items.set k ⟨y.Payment, 3, y.Attempts⟩⟩ := h5
  refine ⟨hd, ⟨k, y, h1, h2, h3, hx⟩, ?_⟩
  rw [hx]
  refine DOk.mk' hd.a hd.q ((set_wrt (y := ⟨y.Payment, 3, y.Attempts⟩) h1 rfl).trans hd.k) fun z hz => ?_
  rcases mem_set_cases hd.nd h1 hz with rfl | ⟨hz, hne⟩
  · have io := hd.io (List.mem_of_getElem? h1)
    refine ⟨io.pay, io.sub, by simp, io.att, by simp, fun e => io.a0 ⟨e.1, by omega, by omega⟩, .inr ⟨by simp, ?_⟩, io.bat, io.all, io.outs, ?_⟩
    · rcases io.w with ⟨e, _⟩ | ⟨_, e⟩
      · omega
      · exact e
    · have := io.ins
      simpa [goneN, goneB, h3] using this
  · have io := hd.io hz
    exact ⟨io.pay, io.sub, io.st, io.att, io.a5, io.a0, io.w, io.bat, io.all, io.outs, io.ins⟩
theorem mem_erase {q : TQueue} (hq : QOk q) {w : Int} {p : TPayment} (hp : p ∈ q.Waiting) (hw : p.Warrant = w) {z : TPayment} : z ∈ q.Waiting.eraseIdx (waitQ q w).toNat ↔ z ∈ q.Waiting ∧ z.Warrant ≠ w := by
  have hn : ¬ waitQ q w < 0 := fun h => waitQ_none.1 h p hp hw
  obtain ⟨i, y, h1, h2, h3, h4⟩ := waitQ_some hn
  rw [h1, Int.toNat_natCast, List.mem_eraseIdx_iff_getElem?]
  constructor
  · rintro ⟨j, hj, hz⟩
    refine ⟨List.mem_of_getElem? hz, fun e => hj ?_⟩
    have e1 : (q.Waiting.map (·.Warrant))[i]? = some w := by rw [List.getElem?_map, h2, ← h3]; rfl
    have e2 : (q.Waiting.map (·.Warrant))[j]? = some w := by rw [List.getElem?_map, hz, ← e]; rfl
    exact ((List.getElem?_inj (List.getElem?_eq_some_iff.1 e1).1 hq.asc.nd).1 (e1.trans e2.symm)).symm
  · rintro ⟨hz, hne⟩
    obtain ⟨j, hj⟩ := List.getElem?_of_mem hz
    refine ⟨j, fun e => hne ?_, hj⟩
    subst e
    rw [h2] at hj
    cases hj
    exact h3
theorem recallD_ok {d x : TDesk} {w : Int} (h : recallD d w = (x, 0)) : DOk d ∧ (∃ (k : Nat) (y : TItem), d.Items[k]? = some y ∧ y.Payment.Warrant = w ∧ y.State = 1 ∧ x = ⟨d.Account, ⟨d.Queue.Waiting.eraseIdx (waitQ d.Queue w).toNat, d.Queue.Known, d.Queue.Batches⟩, d.Items.set k ⟨y.Payment, 5, y.Attempts⟩⟩) ∧ DOk x := by
  obtain ⟨hd, k, y, h1, h2, h3, h4, h5⟩ := changeD_ok h
  have h4 : (dropQ d.Queue w).2 = 0 := h4
  obtain ⟨q1, ⟨p0, q2, q2'⟩, q3, q4⟩ := dropQ_ok (q := d.Queue) (w := w) (x := (dropQ d.Queue w).1) (by rw [← h4])
  have hx : x = ⟨d.Account, (dropQ d.Queue w).1, d.Items.set k ⟨y.Payment, 5, y.Attempts⟩⟩ := h5
  rw [q3] at hx q4
  refine ⟨hd, ⟨k, y, h1, h2, h3, hx⟩, ?_⟩
  rw [hx]
  refine DOk.mk' hd.a q4 ((set_wrt (y := ⟨y.Payment, 5, y.Attempts⟩) h1 rfl).trans hd.k) fun z hz => ?_
  rcases mem_set_cases hd.nd h1 hz with rfl | ⟨hz, hne⟩
  · have io := hd.io (List.mem_of_getElem? h1)
    refine ⟨io.pay, io.sub, by simp, io.att, by simp, by simp, .inr ⟨by simp, fun p hp => ?_⟩, io.bat, io.all, io.outs, ?_⟩
    · simp only at hp ⊢
      rw [h2]
      exact ((mem_erase hd.q q2 q2').1 hp).2
    · have := io.ins
      simpa [goneN, goneB, h3] using this
  · have io := hd.io hz
    refine ⟨io.pay, io.sub, io.st, io.att, io.a5, io.a0, ?_, io.bat, io.all, io.outs, io.ins⟩
    rcases io.w with ⟨e1, e2⟩ | ⟨e1, e2⟩
    · exact .inl ⟨e1, (mem_erase hd.q q2 q2').2 ⟨e2, by rw [← h2]; exact hne⟩⟩
    · exact .inr ⟨e1, fun p hp => e2 p ((mem_erase hd.q q2 q2').1 hp).1⟩
theorem againD_ok {d x : TDesk} {w due : Int} (h : againD d w due = (x, 0)) : DOk d ∧ (∃ (k : Nat) (y : TItem), d.Items[k]? = some y ∧ y.Payment.Warrant = w ∧ y.State = 4 ∧ y.Attempts ≠ 5 ∧ x = ⟨d.Account, ⟨ins befB d.Queue.Waiting (duePay y.Payment due), d.Queue.Known, d.Queue.Batches⟩, d.Items.set k ⟨duePay y.Payment due, 1, y.Attempts⟩⟩) ∧ DOk x := by
  obtain ⟨hd, k, y, h1, h2, h3, h4, h5⟩ := changeD_ok h
  have c5 : y.Attempts ≠ 5 := fun e => by rw [againF, if_pos e] at h4; simp at h4
  rw [againF, if_neg c5] at h4 h5
  simp only at h4 h5
  obtain ⟨q1, q2, q3, q4, q5, q6, q7⟩ := againQ_ok (q := d.Queue) (p := duePay y.Payment due) (x := (againQ d.Queue (duePay y.Payment due)).1) (by rw [← h4])
  rw [q6] at h5 q7
  refine ⟨hd, ⟨k, y, h1, h2, h3, c5, h5⟩, ?_⟩
  rw [h5]
  refine DOk.mk' hd.a q7 ((set_wrt (y := ⟨duePay y.Payment due, 1, y.Attempts⟩) h1 rfl).trans hd.k) fun z hz => ?_
  rcases mem_set_cases hd.nd h1 hz with rfl | ⟨hz, hne⟩
  · have io := hd.io (List.mem_of_getElem? h1)
    refine ⟨q2, io.sub, by simp, io.att, fun e => c5 e.1, by simp, .inl ⟨rfl, mem_ins.2 (.inl rfl)⟩, io.bat, io.all, io.outs, ?_⟩
    show ((d.Account.Entries.countP (inE y.Payment) : Nat) : Int) + goneN ⟨duePay y.Payment due, 1, y.Attempts⟩ = y.Attempts
    have := io.ins
    simpa [goneN, goneB, h3] using this
  · have io := hd.io hz
    refine ⟨io.pay, io.sub, io.st, io.att, io.a5, io.a0, ?_, io.bat, io.all, io.outs, io.ins⟩
    rcases io.w with ⟨e1, e2⟩ | ⟨e1, e2⟩
    · exact .inl ⟨e1, mem_ins.2 (.inr e2)⟩
    · refine .inr ⟨e1, fun p hp => ?_⟩
      rcases mem_ins.1 hp with rfl | hp
      · exact fun e => hne e.symm
      · exact e2 p hp
theorem returnD_ok {d x : TDesk} {w day : Int} (h : returnD d w day = (x, 0)) : DOk d ∧ (∃ (k : Nat) (y : TItem), d.Items[k]? = some y ∧ y.Payment.Warrant = w ∧ y.State = 2 ∧ (postA d.Account (nextE d.Account day 0 y.Payment.Sub y.Payment.Amount w)).2 = 0 ∧ x = ⟨(postA d.Account (nextE d.Account day 0 y.Payment.Sub y.Payment.Amount w)).1, d.Queue, d.Items.set k ⟨y.Payment, 4, y.Attempts⟩⟩) ∧ DOk x := by
  obtain ⟨hd, k, y, h1, h2, h3, h4, h5⟩ := changeD_ok h
  have h4 : (postA d.Account (nextE d.Account day 0 y.Payment.Sub y.Payment.Amount w)).2 = 0 := h4
  have h5 : x = ⟨(postA d.Account (nextE d.Account day 0 y.Payment.Sub y.Payment.Amount w)).1, d.Queue, d.Items.set k ⟨y.Payment, 4, y.Attempts⟩⟩ := h5
  refine ⟨hd, ⟨k, y, h1, h2, h3, h4, h5⟩, ?_⟩
  rw [h5]
  have p1 := post_check h4
  have p2 := post_ids h4
  have p3 := post_ents h4
  have io0 := hd.io (List.mem_of_getElem? h1)
  refine DOk.mk' p1 hd.q ((set_wrt (y := ⟨y.Payment, 4, y.Attempts⟩) h1 rfl).trans hd.k) fun z hz => ?_
  rcases mem_set_cases hd.nd h1 hz with rfl | ⟨hz, hne⟩
  · refine ⟨io0.pay, ⟨p1, by rw [p2]; exact io0.sub.2⟩, by simp, io0.att, by simp, fun e => io0.a0 ⟨e.1, by omega, by omega⟩, .inr ⟨by simp, ?_⟩, io0.bat, fun e he er => ?_, ?_, ?_⟩
    · rcases io0.w with ⟨e, _⟩ | ⟨_, e⟩
      · omega
      · exact e
    · rw [p3] at he
      rcases List.mem_append.1 he with he | he
      · exact io0.all e he er
      · rw [List.mem_singleton] at he
        rw [he]
        exact ⟨rfl, .inr ⟨rfl, rfl⟩⟩
    · rw [p3, List.countP_append]
      have hs := io0.pay.sub.1
      have : outE y.Payment (nextE d.Account day 0 y.Payment.Sub y.Payment.Amount w) = false := by
        show (decide (w = y.Payment.Warrant) && (decide ((0 : Int) = y.Payment.Sub) && decide (y.Payment.Sub = 0))) = false
        rw [decide_eq_false (p := (0 : Int) = y.Payment.Sub) (by omega), Bool.false_and, Bool.and_false]
      simp only [List.countP_cons, List.countP_nil, this]
      simpa using io0.outs
    · rw [p3, List.countP_append]
      have : inE y.Payment (nextE d.Account day 0 y.Payment.Sub y.Payment.Amount w) = true := by simp [inE, nextE, h2]
      simp only [List.countP_cons, List.countP_nil, this]
      have hi := io0.ins
      simp [goneN, goneB, h3] at hi
      simp [goneN, goneB]
      omega
  · have io := hd.io hz
    refine ⟨io.pay, ⟨p1, by rw [p2]; exact io.sub.2⟩, io.st, io.att, io.a5, io.a0, io.w, io.bat, fun e he er => ?_, ?_, ?_⟩
    · rw [p3] at he
      rcases List.mem_append.1 he with he | he
      · exact io.all e he er
      · rw [List.mem_singleton] at he
        rw [he] at er
        exact absurd (er.symm.trans h2.symm) hne
    · rw [p3, List.countP_append]
      have : outE z.Payment (nextE d.Account day 0 y.Payment.Sub y.Payment.Amount w) = false := by
        show (decide (w = z.Payment.Warrant) && _) = false
        rw [decide_eq_false (p := w = z.Payment.Warrant) (fun e => hne (e.symm.trans h2.symm)), Bool.false_and]
      simp only [List.countP_cons, List.countP_nil, this]
      simpa using io.outs
    · rw [p3, List.countP_append]
      have : inE z.Payment (nextE d.Account day 0 y.Payment.Sub y.Payment.Amount w) = false := by
        show (decide (w = z.Payment.Warrant) && _) = false
        rw [decide_eq_false (p := w = z.Payment.Warrant) (fun e => hne (e.symm.trans h2.symm)), Bool.false_and]
      simp only [List.countP_cons, List.countP_nil, this]
      simpa using io.ins
open Go.PA
open Go.RowKit
def keyE (e : TEntry) : Int × Int × Int × Int := (e.Ref, e.From, e.To, e.Amount)
def keyP (p : TPayment) : Int × Int × Int × Int := (p.Warrant, p.Sub, 0, p.Amount)
structure Sent (day : Int) (a : TAccount) (ps : List TPayment) (b : TAccount) : Prop where
  ok : checkA b = 0
  ents : ∃ es, b.Entries = a.Entries ++ es ∧ es.map keyE = ps.map keyP ∧ ∀ e, e ∈ es → e.Day = day
  ids : ids b.Subs = ids a.Subs
  cred : b.Credit = a.Credit
theorem Sent.refl {day : Int} {a : TAccount} (h : checkA a = 0) : Sent day a [] a := ⟨h, ⟨[], by simp, rfl, by simp⟩, rfl, rfl⟩
theorem Sent.snoc {day : Int} {a b : TAccount} {ps : List TPayment} {p : TPayment} (h : Sent day a ps b) (hp : (postA b (nextE b day p.Sub 0 p.Amount p.Warrant)).2 = 0) : Sent day a (ps ++ [p]) (postA b (nextE b day p.Sub 0 p.Amount p.Warrant)).1 := by
  obtain ⟨h1, ⟨es, h2, h3, h4⟩, h5, h6⟩ := h
  refine ⟨post_check hp, ⟨es ++ [nextE b day p.Sub 0 p.Amount p.Warrant], ?_, ?_, ?_⟩, (post_ids hp).trans h5, (post_credit hp).trans h6⟩
  · rw [post_ents hp, h2, List.append_assoc]
  · rw [List.map_append, List.map_append, h3]; rfl
  · intro e he
    rcases List.mem_append.1 he with he | he
    · exact h4 e he
    · rw [List.mem_singleton] at he
      rw [he]
      rfl
theorem sendGo_run (day : Int) (a0 : TAccount) : ∀ (l : List TPayment) (a : TAccount) (ps : List TPayment) (full : Bool), Sent day a0 ps a → ∃ qs, qs.Sublist l ∧ (sendGo day l a (ps.map (·.Warrant)) full).2.1 = (ps ++ qs).map (·.Warrant) ∧ Sent day a0 (ps ++ qs) (sendGo day l a (ps.map (·.Warrant)) full).1
  | [], a, ps, full, h => ⟨[], by simp, by simp [sendGo], by simpa [sendGo] using h⟩
  | p :: l, a, ps, full, h => by
    rw [sendGo]
    split
    · exact ⟨[], by simp, by simp, by simpa using h⟩
    · split
      · rename_i hp
        have e : ps.map (·.Warrant) ++ [p.Warrant] = (ps ++ [p]).map (·.Warrant) := by simp
        rw [e]
        obtain ⟨qs, h1, h2, h3⟩ := sendGo_run day a0 l _ (ps ++ [p]) full (h.snoc hp)
        exact ⟨p :: qs, h1.cons_cons p, by rw [h2]; simp, by rw [show ps ++ p :: qs = ps ++ [p] ++ qs by simp]; exact h3⟩
      · obtain ⟨qs, h1, h2, h3⟩ := sendGo_run day a0 l a ps _ h
        exact ⟨qs, h1.cons p, h2, h3⟩
theorem goD_run {d : TDesk} (hd : DOk d) (day : Int) : ∃ ps, ps.Sublist (readyQ d.Queue day) ∧ (goD d day).2.1 = ps.map (·.Warrant) ∧ Sent day d.Account ps (goD d day).1 := by
  obtain ⟨qs, h1, h2, h3⟩ := sendGo_run day d.Account (readyQ d.Queue day) d.Account [] false (Sent.refl hd.a)
  exact ⟨qs, h1, h2, h3⟩
theorem countW {l : List TPayment} (hn : (l.map (·.Warrant)).Nodup) (w : Int) : l.countP (hasW w) = if w ∈ l.map (·.Warrant) then 1 else 0 := by
  induction l with
  | nil => rfl
  | cons p l ih =>
    rw [List.map_cons, List.nodup_cons] at hn
    rw [List.countP_cons, ih hn.2]
    by_cases h : p.Warrant = w
    · subst h
      rw [if_neg hn.1, if_pos (by simp [hasW]), if_pos (by simp)]
    · have e : hasW w p = false := by simp [hasW, h]
      have e2 : w ∈ (p :: l).map (·.Warrant) ↔ w ∈ l.map (·.Warrant) := by
        rw [List.map_cons, List.mem_cons]
        exact ⟨fun o => o.resolve_left fun e => h e.symm, .inr⟩
      by_cases hm : w ∈ l.map (·.Warrant)
      · rw [if_pos hm, if_pos (e2.2 hm), e]; rfl
      · rw [if_neg hm, if_neg (mt e2.1 hm), e]; rfl
theorem countW_one {l : List TPayment} (hn : (l.map (·.Warrant)).Nodup) {w : Int} (h : w ∈ l.map (·.Warrant)) : l.countP (hasW w) = 1 := by rw [countW hn, if_pos h]
def outK (p : TPayment) (k : Int × Int × Int × Int) : Bool := decide (k.1 = p.Warrant) && (decide (k.2.1 = p.Sub) && decide (k.2.2.1 = 0))
def inK' (p : TPayment) (k : Int × Int × Int × Int) : Bool := decide (k.1 = p.Warrant) && (decide (k.2.1 = 0) && decide (k.2.2.1 = p.Sub))
theorem outK_iff {p y : TPayment} : outK p (keyP y) = true ↔ y.Warrant = p.Warrant ∧ y.Sub = p.Sub := by
  unfold outK keyP
  rw [Bool.and_eq_true, Bool.and_eq_true]
  exact ⟨fun ⟨a, b, _⟩ => ⟨of_decide_eq_true a, of_decide_eq_true b⟩, fun ⟨a, b⟩ => ⟨decide_eq_true a, decide_eq_true b, rfl⟩⟩
theorem inK_iff {p y : TPayment} : inK' p (keyP y) = true ↔ y.Warrant = p.Warrant ∧ y.Sub = 0 ∧ 0 = p.Sub := by
  unfold inK' keyP
  rw [Bool.and_eq_true, Bool.and_eq_true]
  exact ⟨fun ⟨a, b, c⟩ => ⟨of_decide_eq_true a, of_decide_eq_true b, of_decide_eq_true c⟩, fun ⟨a, b, c⟩ => ⟨decide_eq_true a, decide_eq_true b, decide_eq_true c⟩⟩
theorem count_key {es : List TEntry} {ps : List TPayment} (h : es.map keyE = ps.map keyP) (p : TPayment) : es.countP (outE p) = ps.countP (fun y => outK p (keyP y)) ∧ es.countP (inE p) = ps.countP (fun y => inK' p (keyP y)) := by
  have e1 : es.countP (outE p) = (es.map keyE).countP (outK p) := by rw [List.countP_map]; rfl
  have e2 : es.countP (inE p) = (es.map keyE).countP (inK' p) := by rw [List.countP_map]; rfl
  rw [e1, e2, h, List.countP_map, List.countP_map]
  exact ⟨rfl, rfl⟩
theorem mem_key {es : List TEntry} {ps : List TPayment} (h : es.map keyE = ps.map keyP) {e : TEntry} (he : e ∈ es) : ∃ p, p ∈ ps ∧ e.Ref = p.Warrant ∧ e.From = p.Sub ∧ e.To = 0 ∧ e.Amount = p.Amount := by
  have : keyE e ∈ ps.map keyP := h ▸ List.mem_map.2 ⟨e, he, rfl⟩
  obtain ⟨p, hp, k⟩ := List.mem_map.1 this
  simp only [keyE, keyP, Prod.mk.injEq] at k
  exact ⟨p, hp, k.1.symm, k.2.1.symm, k.2.2.1.symm, k.2.2.2.symm⟩
theorem sent_desk {d : TDesk} (hd : DOk d) {day : Int} {ps : List TPayment} {a : TAccount} (hsub : ps.Sublist d.Queue.Waiting) (hs : Sent day d.Account ps a) {b : TBatch} (hb : b.Payments = d.Queue.Waiting.filter (takenB (ps.map (·.Warrant))))
    (hq : QOk ⟨d.Queue.Waiting.filter (fun p => !takenB (ps.map (·.Warrant)) p), d.Queue.Known, d.Queue.Batches ++ [b]⟩) : DOk ⟨a, ⟨d.Queue.Waiting.filter (fun p => !takenB (ps.map (·.Warrant)) p), d.Queue.Known, d.Queue.Batches ++ [b]⟩, d.Items.map (sentI (ps.map (·.Warrant)))⟩ := by
  obtain ⟨es, e1, e2, e3⟩ := hs.ents
  have hnW := hd.q.asc.nd
  have hn : (ps.map (·.Warrant)).Nodup := hnW.sublist (hsub.map _)
  refine DOk.mk' hs.ok hq ((sentI_wrt _ _).trans hd.k) fun z hz => ?_
  obtain ⟨x, hx, rfl⟩ := List.mem_map.1 hz
  have io := hd.io hx
  have hbat : batN ⟨d.Queue.Waiting.filter (fun p => !takenB (ps.map (·.Warrant)) p), d.Queue.Known, d.Queue.Batches ++ [b]⟩ x.Payment.Warrant = batN d.Queue x.Payment.Warrant + if x.Payment.Warrant ∈ b.Payments.map (·.Warrant) then 1 else 0 := by
    have : (b.Payments.map (·.Warrant)).Nodup := by rw [hb]; exact hnW.sublist (List.filter_sublist.map _)
    rw [batN, List.map_append, List.sum_append]
    simp only [List.map_cons, List.map_nil, List.sum_cons, List.sum_nil, Nat.add_zero]
    rw [countW this, batN]
  have hmem : x.Payment.Warrant ∈ b.Payments.map (·.Warrant) ↔ x.Payment.Warrant ∈ ps.map (·.Warrant) := by
    rw [hb]
    constructor
    · intro h
      obtain ⟨p, hp, e⟩ := List.mem_map.1 h
      have := (List.mem_filter.1 hp).2
      rw [← e]
      simpa [takenB] using this
    · intro h
      obtain ⟨p, hp, e⟩ := List.mem_map.1 h
      exact List.mem_map.2 ⟨p, List.mem_filter.2 ⟨hsub.subset hp, by simp only [takenB, decide_eq_true_eq]; exact List.mem_map.2 ⟨p, hp, rfl⟩⟩, e⟩
  obtain ⟨co, ci⟩ := count_key e2 x.Payment
  have ci0 : es.countP (inE x.Payment) = 0 := by
    rw [ci, List.countP_eq_zero]
    intro p hp e
    have h1 := (hd.q.asc.pay p (hsub.subset hp)).sub.1
    have := (inK_iff.1 e).2.1
    omega
  have hsubs : checkA a = 0 ∧ (sentI (ps.map (·.Warrant)) x).Payment.Sub ∈ ids a.Subs := by rw [sentI_pay, hs.ids]; exact ⟨hs.ok, io.sub.2⟩
  by_cases hw : x.Payment.Warrant ∈ ps.map (·.Warrant)
  · obtain ⟨p, hp, e⟩ := List.mem_map.1 hw
    have hpW := hsub.subset hp
    have hst : x.State = 1 ∧ x.Payment ∈ d.Queue.Waiting := by
      rcases io.w with h | ⟨_, h⟩
      · exact h
      · exact absurd e (h p hpW)
    have hpx : p = x.Payment := uniqW hnW hpW hst.2 e
    have co1 : es.countP (outE x.Payment) = 1 := by
      rw [co, ← countW_one hn hw]
      refine List.countP_congr fun y hy => ?_
      rw [outK_iff, hasW, decide_eq_true_eq]
      refine ⟨fun h => h.1, fun h => ⟨h, ?_⟩⟩
      rw [uniqW hnW (hsub.subset hy) hst.2 h]
    have hsx : sentI (ps.map (·.Warrant)) x = ⟨x.Payment, 2, x.Attempts + 1⟩ := by rw [sentI, if_pos hw]
    have h5 := io.a5
    have h0 := io.att
    rw [hsx] at hsubs ⊢
    refine ⟨io.pay, hsubs, by simp, by dsimp only; omega, by simp, by dsimp only; omega, .inr ⟨by simp, fun p' hp' e' => ?_⟩, ?_, fun e' he' er => ?_, ?_, ?_⟩
    · have := (List.mem_filter.1 hp').2
      rw [takenB, e', decide_eq_true hw] at this
      cases this
    · dsimp only
      rw [hbat, if_pos (hmem.2 hw)]
      have := io.bat
      omega
    · dsimp only at he' er ⊢
      rw [e1] at he'
      rcases List.mem_append.1 he' with he' | he'
      · exact io.all e' he' er
      · obtain ⟨p', hp', k1, k2, k3, k4⟩ := mem_key e2 he'
        have : p' = x.Payment := uniqW hnW (hsub.subset hp') hst.2 (k1.symm.trans er)
        rw [this] at k2 k4
        exact ⟨k4, .inl ⟨k2, k3⟩⟩
    · dsimp only
      rw [e1, List.countP_append, co1]
      have := io.outs
      omega
    · dsimp only
      rw [e1, List.countP_append, ci0]
      have h1 := io.ins
      have g0 : goneN x = 0 := by simp [goneN, goneB, hst.1]
      have g1 : goneN ⟨x.Payment, 2, x.Attempts + 1⟩ = 1 := by simp [goneN, goneB]
      rw [g0] at h1
      rw [g1]
      omega
  · have co0 : es.countP (outE x.Payment) = 0 := by
      rw [co, List.countP_eq_zero]
      intro p hp e
      exact hw (List.mem_map.2 ⟨p, hp, (outK_iff.1 e).1⟩)
    have hsx : sentI (ps.map (·.Warrant)) x = x := by rw [sentI, if_neg hw]
    rw [hsx] at hsubs ⊢
    refine ⟨io.pay, hsubs, io.st, io.att, io.a5, io.a0, ?_, ?_, fun e' he' er => ?_, ?_, ?_⟩
    · rcases io.w with ⟨h1, h2⟩ | ⟨h1, h2⟩
      · refine .inl ⟨h1, List.mem_filter.2 ⟨h2, ?_⟩⟩
        rw [takenB, decide_eq_false hw]
        rfl
      · exact .inr ⟨h1, fun p hp => h2 p (List.mem_filter.1 hp).1⟩
    · dsimp only
      rw [hbat, if_neg (mt hmem.1 hw)]
      exact io.bat
    · dsimp only at he'
      rw [e1] at he'
      rcases List.mem_append.1 he' with he' | he'
      · exact io.all e' he' er
      · obtain ⟨p', hp', k1, k2, k3, k4⟩ := mem_key e2 he'
        exact absurd (List.mem_map.2 ⟨p', hp', k1.symm.trans er⟩) hw
    · dsimp only
      rw [e1, List.countP_append, co0]
      exact io.outs
    · dsimp only
      rw [e1, List.countP_append, ci0]
      exact io.ins
theorem sendD_ok {d x : TDesk} {b : TBatch} {day : Int} (h : sendD d day = (x, b, 0)) : DOk d ∧ busB day = true ∧ lastQ d.Queue ≤ day ∧ lastDay d.Account ≤ day ∧ ∃ ps a, ps.Sublist (readyQ d.Queue day) ∧ 1 ≤ ps.length ∧ ps.length ≤ 10 ∧ (goD d day).2.1 = ps.map (·.Warrant) ∧ (goD d day).1 = a ∧ Sent day d.Account ps a ∧ b = takeB d.Queue day (ps.map (·.Warrant)) ∧
    x = ⟨a, ⟨d.Queue.Waiting.filter (fun p => !takenB (ps.map (·.Warrant)) p), d.Queue.Known, d.Queue.Batches ++ [b]⟩, d.Items.map (sentI (ps.map (·.Warrant)))⟩ ∧ DOk x := by
  unfold sendD at h
  by_cases c1 : checkD d = 0
  rotate_left
  · rw [if_neg c1] at h
    exact absurd (congrArg (fun r => r.2.2) h) c1
  rw [if_pos c1] at h
  by_cases c2 : busB day = true
  rotate_left
  · rw [if_neg c2] at h
    simp at h
  rw [if_pos c2] at h
  by_cases c3 : day < lastQ d.Queue ∨ day < lastDay d.Account
  · rw [if_pos c3] at h
    simp at h
  rw [if_neg c3] at h
  by_cases c4 : (goD d day).2.1.length = 0
  · rw [if_pos c4] at h
    have := congrArg (fun r => r.2.2) h
    simp only at this
    split at this <;> cases this
  rw [if_neg c4] at h
  by_cases c5 : (takeQ d.Queue day (goD d day).2.1).2.2 = 0
  rotate_left
  · rw [if_neg c5] at h
    exact absurd (congrArg (fun r => r.2.2) h) c5
  rw [if_pos c5] at h
  have hd := checkD_iff.1 c1
  obtain ⟨ps, h1, h2, h3⟩ := goD_run hd day
  obtain ⟨_, _, _, t4, t5, _, t7, t8, t9⟩ := takeQ_ok (q := d.Queue) (day := day) (ws := (goD d day).2.1) (x := (takeQ d.Queue day (goD d day).2.1).1) (b := (takeQ d.Queue day (goD d day).2.1).2.1) (by rw [← c5])
  have hx := (congrArg Prod.fst h).symm
  have hb := (congrArg (fun r => r.2.1) h).symm
  simp only at hx hb
  rw [t8] at hb
  rw [t7] at hx t9
  rw [h2] at hx hb t4 t5 t9
  rw [List.length_map] at t4 t5
  rw [← hb] at hx t9
  refine ⟨hd, c2, by omega, by omega, ps, _, h1, t4, t5, h2, rfl, h3, hb, hx, ?_⟩
  rw [hx]
  exact sent_desk hd (h1.trans (readyQ_sub _ _)) h3 (by rw [hb]; rfl) t9
open Go.PA
open Go.RowKit
def RQ (lo hi : Int) (x : AV) : Prop := ∃ m : Int, x = iv m ∧ lo ≤ m ∧ m ≤ hi
theorem RQ_ex {lo hi : Int} (h : lo ≤ hi) : ∃ r, RQ lo hi r ∧ Imm r := ⟨_, ⟨lo, rfl, by omega, h⟩, .sc⟩
theorem rangeQ_pf (p : Nat) (src : Option Nat) (lo hi : Int) (h1 : -1000000000000000000 ≤ lo ∧ lo ≤ hi) (h2 : hi ≤ 1000000000000000000) : PFun Tryz.prog (some p) src 18 [sp p, iv lo, iv hi] (RQ lo hi) :=
  (range_pf p src lo hi (by omega) (by omega)).mono fun x h => by
    obtain ⟨m, rfl, h3, _⟩ := h
    exact ⟨m, rfl, h3 h1.2⟩
theorem N_exI (n : Int) : ∃ r, NQ n r ∧ Imm r := ⟨_, ⟨0, rfl, fun _ => rfl, fun h => by omega⟩, .sc⟩
def PQ (xs : List Int) (x : AV) : Prop := ∃ m : Int, x = iv m ∧ m ∈ xs
theorem PQ_ex {xs : List Int} (h : xs ≠ []) : ∃ r, PQ xs r ∧ Imm r := by
  cases xs with
  | nil => exact absurd rfl h
  | cons a l => exact ⟨_, ⟨a, rfl, by simp⟩, .sc⟩
theorem pickQ_pf (p : Nat) (src : Option Nat) (xs : List Int) (h : 1 ≤ xs.length ∧ xs.length ≤ 1000) : PFun Tryz.prog (some p) src 24 [sp p, intsL xs] (PQ xs) := pick_pf p src xs h
open Go.PA
open Go.RowKit
structure GenP (p : TPayment) : Prop where
  warrant : 1 ≤ p.Warrant ∧ p.Warrant ≤ 12
  payee : 1 ≤ p.Payee ∧ p.Payee ≤ 5
  amount : 1 ≤ p.Amount ∧ p.Amount ≤ 100
  due : 0 ≤ p.Due ∧ p.Due < 20
  sub : 1 ≤ p.Sub ∧ p.Sub ≤ 7
theorem GenP.ok {p : TPayment} (h : GenP p) : PayOk p := ⟨by have := h.warrant; omega, by have := h.payee; omega, by have := h.amount; omega, by have := h.due; omega, by have := h.sub; omega⟩
def PayQ (x : AV) : Prop := ∃ p : TPayment, x = .agg p.cells ∧ GenP p
theorem PayQ_ex : ∃ r, PayQ r ∧ Imm r := ⟨_, ⟨⟨1, 1, 1, 0, 1⟩, rfl, by constructor <;> simp⟩, imm_pay _⟩
theorem gpay_pf (p : Nat) (src : Option Nat) : PFun Tryz.prog (some p) src 84 [sp p] PayQ := by
  refine pfun_intro Tryz.func84 rfl (by simp [Tryz.f84]) (by kernel_rfl) ?_
  intro E hP hr hs hW hN
  have up : ∀ {f : FuncId} {args : List AV} {Q : AV → Prop}, PFun Tryz.prog (some p) src f args Q → PFun Tryz.prog E.row E.src f args Q := fun h => hr ▸ hs ▸ h
  simp -dsimp -implicitDefEqProofs [-getElem?_pos, go_sem, hP]
  refine callB_isQ (up (rangeQ_pf p src 1 12 (by omega) (by omega))) hP en_18 (by simp [go_sem]) (RQ_ex (by omega)) ?_
  rintro r ⟨w, rfl, hw⟩ _
  simp -dsimp -implicitDefEqProofs [-getElem?_pos, go_sem, hP]
  refine callB_isQ (up (rangeQ_pf p src 1 5 (by omega) (by omega))) hP en_18 (by simp [go_sem]) (RQ_ex (by omega)) ?_
  rintro r ⟨y, rfl, hy⟩ _
  simp -dsimp -implicitDefEqProofs [-getElem?_pos, go_sem, hP]
  refine callB_isQ (up (pickQ_pf p src [1, 10, 40, 100] (by simp))) hP en_24 (by simp [go_sem, intsL]) (PQ_ex (by simp)) ?_
  rintro r ⟨a, rfl, ha⟩ _
  simp -dsimp -implicitDefEqProofs [-getElem?_pos, go_sem, hP]
  refine callB_isQ (up (N_pf p src 20 (by omega))) hP en_16 (by simp [go_sem]) (N_exI _) ?_
  rintro r ⟨d, rfl, _, hd⟩ _
  have hd := hd (by omega)
  simp -dsimp -implicitDefEqProofs [-getElem?_pos, go_sem, hP]
  refine callB_isQ (up (pickQ_pf p src [1, 2, 3, 7] (by simp))) hP en_24 (by simp [go_sem, intsL]) (PQ_ex (by simp)) ?_
  rintro r ⟨b, rfl, hb⟩ _
  simp -dsimp -implicitDefEqProofs [-getElem?_pos, go_sem, hP]
  have ha : 1 ≤ a ∧ a ≤ 100 := by simp at ha; omega
  have hb : 1 ≤ b ∧ b ≤ 7 := by simp at hb; omega
  exact done_imm (imm_pay ⟨w, y, a, d, b⟩) ⟨⟨w, y, a, d, b⟩, rfl, hw, hy, ha, hd, hb⟩
def busI (d : Int) : Int := if d % 7 = 5 then d + 2 else if d % 7 = 6 then d + 1 else d
theorem busI_ge (d : Int) : d ≤ busI d ∧ busI d ≤ d + 2 := by
  unfold busI
  repeat' split
  all_goals omega
theorem busI_ok {d : Int} (h : 0 ≤ d ∧ d ≤ 30000) : busB (busI d) = true := by
  have := busI_ge d
  unfold busB
  rw [Bool.and_eq_true, amg_iff, decide_eq_true_eq]
  refine ⟨by omega, ?_⟩
  unfold busI
  repeat' split
  all_goals omega
theorem business_pf (d : Int) (h : 0 ≤ d ∧ d ≤ 30000) : PFun Tryz.prog none none 9 [iv d] (· = iv (busI d)) := by
  refine pfun_intro Tryz.func9 rfl (by simp [Tryz.f9]) (by kernel_rfl) ?_
  intro E hP hr hs hW hN
  simp -dsimp -implicitDefEqProofs [-getElem?_pos, go_sem, hP]
  obtain ⟨I, hI⟩ : ∃ I : Nat → St → Prop, I = fun m s => ∃ x : Int, d ≤ x ∧ busI d = busI x ∧ ((m : Nat) : Int) + x = d + 3 ∧ s.t 0 = iv x := ⟨_, rfl⟩
  refine aloop0 I (3) (by rw [hN]; rfl) ?_ ?_
  · rw [hI]
    exact ⟨d, by omega, rfl, by omega, by simp -dsimp -implicitDefEqProofs [-getElem?_pos, go_sem]⟩
  intro m s hs'
  rw [hI] at hs'
  obtain ⟨x, hx, hb, hm, t0⟩ := hs'
  have e : x.tmod 7 = x % 7 := Int.tmod_eq_emod_of_nonneg (by omega)
  have w := wrap_in (x % 7) (by omega)
  have w1 := wrap_in (x + 1) (by omega)
  by_cases c : 4 < x % 7
  · have d1 : decide (4 < x % 7) = true := decide_eq_true c
    have := busI_ge x
    have := busI_ge d
    have hne : busI x ≠ x := by
      unfold busI
      repeat' split
      all_goals omega
    have hb' : busI x = busI (x + 1) := by
      unfold busI
      repeat' split
      all_goals omega
    simp -dsimp -implicitDefEqProofs [-getElem?_pos, go_sem, hP, t0, e, w, d1, w1]
    refine ⟨m - 1, by omega, ?_⟩
    rw [hI]
    exact ⟨x + 1, by omega, hb.trans hb', by omega, by simp -dsimp -implicitDefEqProofs [-getElem?_pos, go_sem]⟩
  · have d1 : decide (4 < x % 7) = false := decide_eq_false c
    have hb' : busI x = x := by
      unfold busI
      repeat' split
      all_goals omega
    simp -dsimp -implicitDefEqProofs [-getElem?_pos, go_sem, hP, t0, e, w, d1]
    rw [hb, hb']
structure StepB (q : TQueue) (day : Int) (x : TQueue) (d : Int) : Prop where
  ok : QOk x
  kn : ∀ w, w ∈ q.Known → w ∈ x.Known
  len : x.Batches.length ≤ q.Batches.length + 1
  day : day ≤ d ∧ d ≤ day + 6
theorem StepB.same {q : TQueue} (h : QOk q) (day : Int) : StepB q day q day := ⟨h, fun _ h => h, by omega, by omega⟩
theorem StepB.add {q x : TQueue} {p : TPayment} (day : Int) (h : addQ q p = (x, 0)) : StepB q day x day := by
  obtain ⟨_, _, _, _, _, rfl, h7⟩ := addQ_ok h
  exact ⟨h7, fun w hw => mem_ins.2 (.inr hw), by simp, by omega⟩
theorem StepB.again {q x : TQueue} {p : TPayment} (day : Int) (h : againQ q p = (x, 0)) : StepB q day x day := by
  obtain ⟨_, _, _, _, _, rfl, h7⟩ := againQ_ok h
  exact ⟨h7, fun w hw => hw, by simp, by omega⟩
theorem StepB.drop {q x : TQueue} {w : Int} (day : Int) (h : dropQ q w = (x, 0)) : StepB q day x day := by
  obtain ⟨_, _, rfl, h7⟩ := dropQ_ok h
  exact ⟨h7, fun w hw => hw, by simp, by omega⟩
theorem StepB.take {q x : TQueue} {b : TBatch} {day d : Int} {ws : List Int} (hd : day ≤ d ∧ d ≤ day + 6) (h : takeQ q d ws = (x, b, 0)) : StepB q day x d := by
  obtain ⟨_, _, _, _, _, _, rfl, _, h7⟩ := takeQ_ok h
  exact ⟨h7, fun w hw => hw, by simp, hd⟩
open Go.PA
open Go.RowKit
theorem gen_nums {n : Nat} {a : TAccount} (h : GenAcc n a) (hn : n ≤ 300) : a.Subs.length ≤ 100000 ∧ a.Entries.length ≤ 100000 := ⟨by have := h.slen; omega, by have := h.len; omega⟩
set_option maxHeartbeats 1000000 in
theorem account0_pf (p : Nat) (src : Option Nat) (most : Nat) (hm : most ≤ 100) : PFun Tryz.prog (some p) src 38 [sp p, iv most] (fun x => ∃ a : TAccount, x = .agg a.cells ∧ GenAcc most a ∧ ∀ e, e ∈ a.Entries → e.Ref = 0) := by
  refine pfun_intro Tryz.func38 rfl (by simp [Tryz.f38]) (by kernel_rfl) ?_
  intro E hP hr hs hW hN
  have up : ∀ {f : FuncId} {args : List AV} {Q : AV → Prop}, PFun Tryz.prog (some p) src f args Q → PFun Tryz.prog E.row E.src f args Q := fun h => hr ▸ hs ▸ h
  simp -dsimp -implicitDefEqProofs [-getElem?_pos, go_sem, hP]
  refine callB_flat (up (pick_pf p src [0, 0, 50] (by simp))) hP en_24 (by simp [go_sem, intsL]) ⟨iv 0, 0, rfl, by simp⟩ (by rintro r ⟨m, rfl, _⟩; exact .sc) ?_
  rintro r ⟨c, rfl, hc⟩
  have hc : 0 ≤ c ∧ c ≤ 100 := by simp at hc; omega
  obtain ⟨g0, o0⟩ := GenAcc.open hc
  have op := open23_pf [1, 2, 3, 7] c (by simp)
  rw [o0] at op
  have io : Imm (.tup [.agg (newA [1, 2, 3, 7] c).cells, iv 0]) := imm_pair (imm_acc _) .sc
  obtain ⟨a0, ha0⟩ : ∃ a0, a0 = newA [1, 2, 3, 7] c := ⟨_, rfl⟩
  rw [← ha0] at g0 op io
  have z0 : ∀ e, e ∈ a0.Entries → e.Ref = 0 := by rw [ha0]; simp [newA]
  have op : PFun Tryz.prog none none 81 [numsL [1, 2, 3, 7], iv c] fun x => x = .tup [.agg a0.cells, iv 0] := op
  rw [cA] at op io
  have w1 := wrap_in ((most : Int) + 1) (by omega)
  simp -dsimp -implicitDefEqProofs [-getElem?_pos, go_sem, hP]
  refine callB_is (op.lift _ _) hP en_81 (by simp [go_sem, encI, encL]) io ?_
  simp -dsimp -implicitDefEqProofs [-getElem?_pos, go_sem, hP, w1]
  refine callB_flat (up (N_pf p src (most + 1) (by omega))) hP en_16 (args_same (by simp -dsimp -implicitDefEqProofs [-getElem?_pos, go_sem, w1])) (NQ_ex _) (NQ_flat _) ?_
  rintro r ⟨m, rfl, _, hm1⟩
  have hm1 := hm1 (by omega)
  obtain ⟨m, rfl⟩ := Int.eq_ofNat_of_zero_le hm1.1
  simp -dsimp -implicitDefEqProofs [-getElem?_pos, go_sem, hP]
  obtain ⟨I, hI⟩ : ∃ I : Nat → St → Prop, I = fun m s => ∃ (k d : Nat) (a : TAccount), k + m ≤ most ∧ d ≤ 2 * k ∧ (GenAcc k a ∧ ∀ e, e ∈ a.Entries → e.Ref = 0) ∧ s.t 0 = sp p ∧ s.t 4 = .ref 0 0 0 ∧ s.t 5 = .ref 1 0 0 ∧ s.t 7 = iv d ∧ s.t 8 = iv m ∧ s.H[0]? = some (some ⟨28, 3, [[iv 0, .nil, .nil]]⟩) ∧ s.H[1]? = some (some ⟨28, 3, [a.cells]⟩) := ⟨_, rfl⟩
  refine aloop0 I (m) (by rw [hN]; rfl) ?_ ?_
  · rw [hI]
    exact ⟨0, 0, a0, by omega, by omega, ⟨g0, z0⟩, by simp -dsimp -implicitDefEqProofs [-getElem?_pos, go_sem], by simp -dsimp -implicitDefEqProofs [-getElem?_pos, go_sem], by simp -dsimp -implicitDefEqProofs [-getElem?_pos, go_sem], by simp -dsimp -implicitDefEqProofs [-getElem?_pos, go_sem], by simp -dsimp -implicitDefEqProofs [-getElem?_pos, go_sem], by simp -dsimp -implicitDefEqProofs [-getElem?_pos, go_sem], by simp -dsimp -implicitDefEqProofs [-getElem?_pos, go_sem, cA]⟩
  clear hm1 g0 op io ha0 o0 z0
  intro m s hs'
  rw [hI] at hs'
  obtain ⟨k, d, a, hk, hd, ⟨hg, hz⟩, t0, t4, t5, t7, t8, h0, h1⟩ := hs'
  have lt0 := (List.getElem?_eq_some_iff.1 h0).1
  have lt1 := (List.getElem?_eq_some_iff.1 h1).1
  simp -dsimp -implicitDefEqProofs [-getElem?_pos, go_sem, hP, t8]
  refine condP (fun h => ?_) (fun h => ?_)
  · have hm0 : 0 < m := by simpa using h
    simp -dsimp -implicitDefEqProofs [-getElem?_pos, go_sem, hP, t0, t7]
    refine callB_flat (up (N_pf p src 3 (by omega))) hP en_16 (args_same (by simp -dsimp -implicitDefEqProofs [-getElem?_pos, go_sem])) (NQ_ex _) (NQ_flat _) ?_
    rintro r ⟨x, rfl, _, hx⟩
    have hx := hx (by omega)
    have wd := wrap_in ((d : Int) + x) (by omega)
    simp -dsimp -implicitDefEqProofs [-getElem?_pos, go_sem, hP, t0, wd]
    refine callB_flat (up (pick_pf p src [0, 0, 1, 2, 3, 7] (by simp))) hP en_24 (by simp [go_sem, intsL]) ⟨iv 0, 0, rfl, by simp⟩ (by rintro r ⟨m, rfl, _⟩; exact .sc) ?_
    rintro r ⟨f, rfl, hf⟩
    simp -dsimp -implicitDefEqProofs [-getElem?_pos, go_sem, hP, t0]
    refine callB_flat (up (pick_pf p src [0, 1, 2, 3, 7] (by simp))) hP en_24 (by simp [go_sem, intsL]) ⟨iv 0, 0, rfl, by simp⟩ (by rintro r ⟨m, rfl, _⟩; exact .sc) ?_
    rintro r ⟨g, rfl, hgg⟩
    simp -dsimp -implicitDefEqProofs [-getElem?_pos, go_sem, hP]
    refine adrawQ (fun i => decide (i < 2)) [14] [7, 8, 9] hP (by kernel_rfl) (by kernel_rfl) ?_
    simp -dsimp -implicitDefEqProofs [-getElem?_pos, go_sem, hP, t0, t5, t7, h1, lt1, cA]
    refine callQ_isQ (up (pick_pf p src [1, 10, 60, 100, 500] (by simp))) hP en_24 (by simp [go_sem, intsL]) ⟨iv 1, ⟨1, rfl, by simp⟩, .sc⟩ ?_
    rintro r ⟨y, rfl, hy⟩ _
    have hy : 1 ≤ y ∧ y ≤ 500 := by simp at hy; omega
    obtain ⟨n1, n2⟩ := gen_nums hg (by omega)
    have nx := next23_pf a ((d : Int) + x) f g y 0 n2
    obtain ⟨e, he⟩ : ∃ e, e = nextE a ((d : Int) + x) f g y 0 := ⟨_, rfl⟩
    have hed : e.Day = (d : Int) + x := by rw [he]; rfl
    have hea : e.Amount = y := by rw [he]; rfl
    have po := post23_pf a e n1 n2
    obtain ⟨b, hb⟩ : ∃ b, b = (postA a e).1 := ⟨_, rfl⟩
    obtain ⟨err, herr⟩ : ∃ err, err = (postA a e).2 := ⟨_, rfl⟩
    rw [← he, cA, cE] at nx
    rw [← hb, ← herr, cA, cA, cE] at po
    have ia : Imm (.agg [iv a.Credit, subsL a.Subs, entsL a.Entries]) := imm_acc a
    have ib : Imm (.agg [iv b.Credit, subsL b.Subs, entsL b.Entries]) := imm_acc b
    have ie : Imm (.agg [iv e.Number, iv e.Day, iv e.From, iv e.To, iv e.Amount, iv e.Ref]) := imm_ent e
    have wm := wrap_in ((m : Int) - 1) (by omega)
    have hd' : ((d : Int) + x) = ((d + x.toNat : Nat) : Int) := by omega
    simp -dsimp -implicitDefEqProofs [-getElem?_pos, go_sem, hP]
    refine callQ_is (nx.lift _ _) hP en_49 (by simp [ia, imm_sc]) ie ?_
    simp -dsimp -implicitDefEqProofs [-getElem?_pos, go_sem, hP]
    refine callQ_is (po.lift _ _) hP en_48 (by simp [ia, ie]) (imm_pair ib .sc) ?_
    simp -dsimp -implicitDefEqProofs [-getElem?_pos, go_sem, hP]
    by_cases c1 : err = 0
    · have gb : GenAcc (k + 1) b := hb ▸ hg.post (herr ▸ c1) (by rw [hed]; omega) (by rw [hea]; omega)
      have zb : ∀ y, y ∈ b.Entries → y.Ref = 0 := fun y hy => by
        rw [hb, post_ents (herr ▸ c1)] at hy
        rcases List.mem_append.1 hy with hy | hy
        · exact hz y hy
        · rw [List.mem_singleton] at hy
          rw [hy, he]
          rfl
      simp -dsimp -implicitDefEqProofs [-getElem?_pos, go_sem, hP, c1, t5, lt1, h1, t8, wm, cA]
      refine ⟨agree_push (by omega), m - 1, by omega, ?_⟩
      rw [hI]
      refine ⟨k + 1, d + x.toNat, b, by omega, by omega, ⟨gb, zb⟩, by simp -dsimp -implicitDefEqProofs [-getElem?_pos, go_sem, t0], by simp -dsimp -implicitDefEqProofs [-getElem?_pos, go_sem, t4], by simp -dsimp -implicitDefEqProofs [-getElem?_pos, go_sem, t5], by simp -dsimp -implicitDefEqProofs [-getElem?_pos, go_sem, hd'], ?_, by simp -dsimp -implicitDefEqProofs [-getElem?_pos, go_sem, lt0, h0], by simp -dsimp -implicitDefEqProofs [-getElem?_pos, go_sem, lt1, cA]⟩
      simp -dsimp -implicitDefEqProofs [-getElem?_pos, go_sem]
      omega
    · simp -dsimp -implicitDefEqProofs [-getElem?_pos, go_sem, hP, c1, t8, wm]
      refine ⟨agree_push (by omega), m - 1, by omega, ?_⟩
      rw [hI]
      refine ⟨k + 1, d + x.toNat, a, by omega, by omega, ⟨hg.mono (by omega), hz⟩, by simp -dsimp -implicitDefEqProofs [-getElem?_pos, go_sem, t0], by simp -dsimp -implicitDefEqProofs [-getElem?_pos, go_sem, t4], by simp -dsimp -implicitDefEqProofs [-getElem?_pos, go_sem, t5], by simp -dsimp -implicitDefEqProofs [-getElem?_pos, go_sem, hd'], ?_, by simp -dsimp -implicitDefEqProofs [-getElem?_pos, go_sem, lt0, h0], by simp -dsimp -implicitDefEqProofs [-getElem?_pos, go_sem, lt1, h1]⟩
      simp -dsimp -implicitDefEqProofs [-getElem?_pos, go_sem]
      omega
  · have hm0 : m = 0 := by simpa using h
    simp -dsimp -implicitDefEqProofs [-getElem?_pos, go_sem, hP, t5, h1, t4, h0, lt0, lt1, cA]
    refine done_imm (imm_acc a) ⟨a, rfl, hg.mono (by omega), hz⟩
open Go.PA
open Go.RowKit
structure GenD (n : Nat) (d : TDesk) (day : Int) : Prop where
  ok : DOk d
  ids : ids d.Account.Subs = [1, 2, 3, 7]
  small : ∀ e, e ∈ d.Account.Entries → e.Amount ≤ 500
  cred : d.Account.Credit ≤ 100
  pays : ∀ x, x ∈ d.Items → x.Payment.Warrant ≤ 12 ∧ x.Payment.Amount ≤ 100
  refs : ∀ e, e ∈ d.Account.Entries → e.Ref = 0 ∨ e.Ref ∈ d.Queue.Known
  len : d.Account.Entries.length ≤ 8 + 10 * n
  bl : d.Queue.Batches.length ≤ n
  lastA : lastDay d.Account ≤ day
  lastB : lastQ d.Queue ≤ day
  day : 0 ≤ day ∧ day ≤ 40 + 6 * (n : Int)
def Stay (d x : TDesk) : Prop := ∀ y z, y ∈ d.Items → z ∈ x.Items → y.Payment.Warrant = z.Payment.Warrant → y.State = 3 → z.State = 3
theorem GenD.mono {n : Nat} {d : TDesk} {day : Int} (h : GenD n d day) : GenD (n + 1) d day := ⟨h.ok, h.ids, h.small, h.cred, h.pays, h.refs, by have := h.len; omega, by have := h.bl; omega, h.lastA, h.lastB, by have := h.day; omega⟩
theorem Stay.same {d : TDesk} (h : DOk d) : Stay d d := fun y z hy hz e hs => by rw [← uniqI h.nd hy hz e]; exact hs
structure StepD (n : Nat) (d : TDesk) (x : TDesk) (day : Int) : Prop where
  gen : GenD (n + 1) x day
  stay : Stay d x
theorem StepD.same {n : Nat} {d : TDesk} {day : Int} (h : GenD n d day) : StepD n d d day := ⟨h.mono, .same h.ok⟩
theorem StepD.order {n : Nat} {d x : TDesk} {day : Int} {p : TPayment} (h : GenD n d day) (hp : GenP p) (hx : orderD d p = (x, 0)) : StepD n d x day := by
  obtain ⟨a1, a2, a3, rfl, a5⟩ := orderD_ok hx
  refine ⟨⟨a5, h.ids, h.small, h.cred, fun y hy => ?_, fun e he => ?_, by have := h.len; dsimp only; omega, by have := h.bl; dsimp only; omega, h.lastA, h.lastB, by have := h.day; omega⟩, fun y z hy hz e hs => ?_⟩
  · rcases mem_ins.1 hy with rfl | hy
    · exact ⟨hp.warrant.2, hp.amount.2⟩
    · exact h.pays y hy
  · rcases h.refs e he with e0 | e0
    · exact .inl e0
    · exact .inr (mem_ins.2 (.inr e0))
  · rcases mem_ins.1 hz with rfl | hz
    · refine absurd ?_ a3
      rw [← a1.k]
      exact List.mem_map.2 ⟨y, hy, e⟩
    · rw [← uniqI a1.nd hy hz e]; exact hs
theorem stay_set {d : TDesk} (hd : DOk d) {a : TAccount} {q : TQueue} {k : Nat} {y w : TItem} (hk : d.Items[k]? = some y) (hs : y.State ≠ 3) (hw : w.Payment.Warrant = y.Payment.Warrant) : Stay d ⟨a, q, d.Items.set k w⟩ := fun u z hu hz e h3 => by
  rcases mem_set_cases hd.nd hk hz with rfl | ⟨hz, hne⟩
  · have := uniqI hd.nd hu (List.mem_of_getElem? hk) (e.trans hw)
    rw [this] at h3
    exact absurd h3 hs
  · rw [← uniqI hd.nd hu hz e]; exact h3
theorem pays_set {d : TDesk} (hd : DOk d) (hp : ∀ x, x ∈ d.Items → x.Payment.Warrant ≤ 12 ∧ x.Payment.Amount ≤ 100) {k : Nat} {y w : TItem} (hk : d.Items[k]? = some y) (hw : w.Payment.Warrant = y.Payment.Warrant ∧ w.Payment.Amount = y.Payment.Amount) : ∀ x, x ∈ d.Items.set k w → x.Payment.Warrant ≤ 12 ∧ x.Payment.Amount ≤ 100 := fun x hx => by
  rcases mem_set_cases hd.nd hk hx with rfl | ⟨hx, _⟩
  · rw [hw.1, hw.2]
    exact hp y (List.mem_of_getElem? hk)
  · exact hp x hx
theorem StepD.settle {n : Nat} {d x : TDesk} {day w : Int} (h : GenD n d day) (hx : settleD d w = (x, 0)) : StepD n d x day := by
  obtain ⟨a1, ⟨k, y, b1, b2, b3, rfl⟩, a5⟩ := settleD_ok hx
  exact ⟨⟨a5, h.ids, h.small, h.cred, pays_set a1 h.pays b1 ⟨rfl, rfl⟩, h.refs, by have := h.len; dsimp only; omega, by have := h.bl; dsimp only; omega, h.lastA, h.lastB, by have := h.day; omega⟩, stay_set a1 b1 (by omega) rfl⟩
theorem StepD.recall {n : Nat} {d x : TDesk} {day w : Int} (h : GenD n d day) (hx : recallD d w = (x, 0)) : StepD n d x day := by
  obtain ⟨a1, ⟨k, y, b1, b2, b3, rfl⟩, a5⟩ := recallD_ok hx
  exact ⟨⟨a5, h.ids, h.small, h.cred, pays_set a1 h.pays b1 ⟨rfl, rfl⟩, h.refs, by have := h.len; dsimp only; omega, by have := h.bl; dsimp only; omega, h.lastA, h.lastB, by have := h.day; omega⟩, stay_set a1 b1 (by omega) rfl⟩
theorem StepD.again {n : Nat} {d x : TDesk} {day w due : Int} (h : GenD n d day) (hx : againD d w due = (x, 0)) : StepD n d x day := by
  obtain ⟨a1, ⟨k, y, b1, b2, b3, b4, rfl⟩, a5⟩ := againD_ok hx
  exact ⟨⟨a5, h.ids, h.small, h.cred, pays_set a1 h.pays b1 ⟨rfl, rfl⟩, h.refs, by have := h.len; dsimp only; omega, by have := h.bl; dsimp only; omega, h.lastA, h.lastB, by have := h.day; omega⟩, stay_set a1 b1 (by omega) rfl⟩
theorem item_known {d : TDesk} (hd : DOk d) {x : TItem} (hx : x ∈ d.Items) : x.Payment.Warrant ∈ d.Queue.Known := by rw [← hd.k]; exact List.mem_map.2 ⟨x, hx, rfl⟩
theorem StepD.ret {n : Nat} {d x : TDesk} {day w : Int} (h : GenD n d day) (hx : returnD d w (day + 1) = (x, 0)) : StepD n d x (day + 1) := by
  obtain ⟨a1, ⟨k, y, b1, b2, b3, b4, rfl⟩, a5⟩ := returnD_ok hx
  have hy := List.mem_of_getElem? b1
  have hl := lastE_post b4
  refine ⟨⟨a5, (post_ids b4).trans h.ids, fun e he => ?_, by dsimp only; rw [post_credit b4]; exact h.cred, pays_set a1 h.pays b1 ⟨rfl, rfl⟩, fun e he => ?_, ?_, by have := h.bl; dsimp only; omega, ?_, by have := h.lastB; dsimp only; omega, by have := h.day; omega⟩, stay_set a1 b1 (by omega) rfl⟩
  · dsimp only at he
    rw [post_ents b4] at he
    rcases List.mem_append.1 he with he | he
    · exact h.small e he
    · rw [List.mem_singleton] at he
      have := (h.pays y hy).2
      rw [he]
      show y.Payment.Amount ≤ 500
      omega
  · dsimp only at he
    rw [post_ents b4] at he
    rcases List.mem_append.1 he with he | he
    · exact h.refs e he
    · rw [List.mem_singleton] at he
      rw [he]
      exact .inr (b2 ▸ item_known a1 hy)
  · have := h.len
    dsimp only
    rw [post_ents b4, List.length_append, List.length_singleton]
    omega
  · dsimp only
    rw [lastDay, hl]
    exact Int.le_refl _
theorem sent_last {day : Int} {a b : TAccount} {ps : List TPayment} (h : Sent day a ps b) (hd : lastDay a ≤ day) : lastDay b ≤ day := by
  obtain ⟨es, h1, _, h3⟩ := h.ents
  rw [lastDay, lastE, h1]
  rcases List.eq_nil_or_concat es with rfl | ⟨es', e, rfl⟩
  · rw [List.append_nil]; exact hd
  · rw [List.concat_eq_append, ← List.append_assoc, List.getLast?_append]
    have := h3 e (by simp)
    simp [this]
theorem StepD.send {n : Nat} {d x : TDesk} {b : TBatch} {day k : Int} (h : GenD n d day) (hk : day ≤ k ∧ k ≤ day + 6) (hx : sendD d k = (x, b, 0)) : StepD n d x k := by
  obtain ⟨a1, a2, a3, a4, ps, a, c1, c2, c3, c4, c5, c6, c7, rfl, c9⟩ := sendD_ok hx
  obtain ⟨es, e1, e2, e3⟩ := c6.ents
  have hes : es.length = ps.length := by have := congrArg List.length e2; rwa [List.length_map, List.length_map] at this
  have hsub := c1.trans (readyQ_sub d.Queue k)
  refine ⟨⟨c9, c6.ids.trans h.ids, fun e he => ?_, by dsimp only; rw [c6.cred]; exact h.cred, fun z hz => ?_, fun e he => ?_, ?_, ?_, sent_last c6 (by have := h.lastA; omega), ?_, by have := h.day; omega⟩, fun y z hy hz e hs => ?_⟩
  · dsimp only at he
    rw [e1] at he
    rcases List.mem_append.1 he with he | he
    · exact h.small e he
    · obtain ⟨p, hp, k1, k2, k3, k4⟩ := mem_key e2 he
      obtain ⟨i, y, hy, hyp, _⟩ := wait_item a1 (hsub.subset hp)
      have := (h.pays y (List.mem_of_getElem? hy)).2
      rw [hyp] at this
      omega
  · dsimp only at hz
    obtain ⟨y, hy, rfl⟩ := List.mem_map.1 hz
    rw [sentI_pay]
    exact h.pays y hy
  · dsimp only at he
    rw [e1] at he
    rcases List.mem_append.1 he with he | he
    · exact h.refs e he
    · obtain ⟨p, hp, k1, _⟩ := mem_key e2 he
      exact .inr (k1 ▸ a1.q.asc.kn p (hsub.subset hp))
  · have := h.len
    dsimp only
    rw [e1, List.length_append, hes]
    omega
  · have := h.bl
    dsimp only
    rw [List.length_append, List.length_singleton]
    omega
  · dsimp only
    rw [lastQ]
    simp [c7, takeB]
  · dsimp only at hz
    obtain ⟨u, hu, rfl⟩ := List.mem_map.1 hz
    rw [sentI_pay] at e
    have := uniqI a1.nd hy hu e
    subst this
    rw [sentI]
    split
    · rename_i hw
      obtain ⟨p, hp, ep⟩ := List.mem_map.1 hw
      have io := a1.io hy
      rcases io.w with ⟨h1, _⟩ | ⟨_, h2⟩
      · omega
      · exact absurd ep (h2 p (hsub.subset hp))
    · exact hs
theorem GenD.start {a : TAccount} (h : GenAcc 8 a) (hr : ∀ e, e ∈ a.Entries → e.Ref = 0) {day : Int} (hd : lastDay a ≤ day) (hday : 0 ≤ day ∧ day ≤ 40) : GenD 0 ⟨a, zeroQ, []⟩ day := by
  have ho : (openD a).2 = 0 := by
    rw [openD, if_pos h.ok, if_neg]
    intro e
    obtain ⟨x, hx, e⟩ := List.any_eq_true.1 e
    rw [refB, decide_eq_true (hr x hx)] at e
    cases e
  obtain ⟨_, h1, h2, h3⟩ := openD_ok ho
  exact ⟨h3, h.ids, h.small, h.cred, by simp, fun e he => .inl (hr e he), by have := h.len; dsimp only; omega, by simp, hd, hday.1, by omega⟩
theorem nodup_len {l : List Int} (hn : l.Nodup) (hl : ∀ x, x ∈ l → 1 ≤ x ∧ x ≤ 12) : l.length ≤ 12 := by
  have := hn.length_le_of_subset (l₂ := [1, 2, 3, 4, 5, 6, 7, 8, 9, 10, 11, 12]) fun x hx => by
    have := hl x hx
    simp
    omega
  simpa using this
theorem GenD.waiting {n : Nat} {d : TDesk} {day : Int} (h : GenD n d day) : d.Queue.Waiting.length ≤ 12 := by
  have h1 := nodup_len h.ok.q.asc.nd fun w hw => by
    obtain ⟨p, hp, rfl⟩ := List.mem_map.1 hw
    have hk := h.ok.q.asc.kn p hp
    have h1 := h.ok.q.kn _ hk
    rw [← h.ok.k] at hk
    obtain ⟨x, hx, e⟩ := List.mem_map.1 hk
    have := (h.pays x hx).1
    have e : x.Payment.Warrant = p.Warrant := e
    omega
  rwa [List.length_map] at h1
theorem DOk.fit {d : TDesk} (h : DOk d) : FitD d := ⟨(check_fit h.a).1, (check_fit h.a).2, h.q.fit, by
  have := h.q.lk
  rw [← h.k, List.length_map] at this
  omega⟩
end Go.Proofs.YtpjecipdklcjbaaGreatDoor
