/- Queues that the source makes: the steps. -/
import Derived.Test.YtmpncdlhmknkoaaBatGen
set_option linter.unusedSimpArgs false
set_option linter.unusedVariables false
namespace Go.Proofs.Ytmpncdlhmknkoaa
open Go.PA
open Go.RowKit

def StepQ (q : TQueue) (day : Int) (r : AV) : Prop := ∃ (x : TQueue) (d : Int), r = .tup [.agg x.cells, iv d] ∧ StepB q day x d
theorem StepQ_ex {q : TQueue} (h : QOk q) (day : Int) : ∃ r, StepQ q day r ∧ Imm r := ⟨_, ⟨q, day, rfl, .same h day⟩, imm_pair (imm_que q) .sc⟩

set_option maxHeartbeats 4000000 in
theorem bstep_pf (p : Nat) (src : Option Nat) (q : TQueue) (day : Int) (hq : QOk q) (hday : 0 ≤ day ∧ day ≤ 1000) : PFun Try.prog (some p) src 9 [sp p, .agg q.cells, iv day] (StepQ q day) := by
  refine pfun_introA Try.func9 rfl (by simp [Try.f9]) ?_
  intro E hP hr hs hW hN
  have up : ∀ {f : FuncId} {args : List AV} {Q : AV → Prop}, PFun Try.prog (some p) src f args Q → PFun Try.prog E.row E.src f args Q := fun h => hr ▸ hs ▸ h
  have hf := hq.fit
  have iq := imm_que q
  have ip := imm_pays q.Waiting
  have i2 := imm_ints q.Known
  have i3 := imm_bats q.Batches
  have iq' := iq
  rw [cQu] at iq
  simp only [intsL] at i2 iq
  refine awp_cut (by rw [hN]; kernel_rfl) ?_
  simp -dsimp -implicitDefEqProofs [-getElem?_pos, go_sem, hP, cQu, intsL]
  refine awp_cut (by rw [hN]; kernel_rfl) ?_
  simp -dsimp -implicitDefEqProofs [-getElem?_pos, go_sem, hP]
  refine awp_cut (by rw [hN]; kernel_rfl) ?_
  simp -dsimp -implicitDefEqProofs [-getElem?_pos, go_sem, hP]
  obtain ⟨Inv, hInv⟩ : ∃ Inv : St → Prop, Inv = fun s => ∃ (x : TQueue) (e d : Int), (e = 0 → StepB q day x d) ∧ (e ≠ 0 → d = day) ∧ s.t 2 = iv d ∧ s.t 4 = .ref 0 0 0 ∧ s.t 6 = .ref 1 0 0 ∧ s.t 8 = .ref 2 0 0 ∧ s.t 9 = iv e ∧ s.H[0]? = some (some ⟨28, 3, [[paysL q.Waiting, .list 1 (q.Known.map fun x => [iv x]), batsL q.Batches]]⟩) ∧ s.H[1]? = some (some ⟨28, 3, [[.nil, .nil, .nil]]⟩) ∧ s.H[2]? = some (some ⟨28, 3, [[paysL x.Waiting, .list 1 (x.Known.map fun x => [iv x]), batsL x.Batches]]⟩) := ⟨_, rfl⟩
  refine awp_join Inv (by rw [hN]; kernel_rfl) ?_ ?_
  rotate_left
  · intro s hs'
    rw [hInv] at hs'
    obtain ⟨x, e, d, he, hd, t2, t4, t6, t8, t9, h0, h1, h2⟩ := hs'
    have lt0 := (List.getElem?_eq_some_iff.1 h0).1
    have lt1 := (List.getElem?_eq_some_iff.1 h1).1
    have lt2 := (List.getElem?_eq_some_iff.1 h2).1
    have ix := imm_que x
    rw [cQu] at ix
    simp only [intsL] at ix
    refine awp_sound _ _ _ (by rw [hN]; kernel_rfl) ?_
    by_cases c : e = 0
    · have dc : decide (e = 0) = true := decide_eq_true c
      simp -dsimp -implicitDefEqProofs [-getElem?_pos, go_sem, hP, t9, c, t8, h2, lt2, t2, t6, h1, lt1]
      exact done_imm (imm_pair ix .sc) ⟨x, d, rfl, he c⟩
    · have dc : decide (e = 0) = false := decide_eq_false c
      have := hd c
      subst this
      simp -dsimp -implicitDefEqProofs [-getElem?_pos, go_sem, hP, t9, c, dc, t4, h0, lt0, t2, t6, h1, lt1]
      exact done_imm (imm_pair iq .sc) ⟨q, d, rfl, .same hq d⟩
  simp -dsimp -implicitDefEqProofs [-getElem?_pos, go_sem, hP]
  refine callB_isQ (up (N_pf p src 6 (by omega))) hP en_26 (by simp [go_sem]) (N_exI _) ?_
  rintro r ⟨z, rfl, _, hz⟩ _
  by_cases z0 : z = 0 ∨ z = 1 ∨ z = 2
  · rcases z0 with rfl | rfl | rfl
    all_goals
      simp -dsimp -implicitDefEqProofs [-getElem?_pos, go_sem, hP]
      refine adrawQ (fun i => decide (i = 0)) [7] [2, 3] hP (by kernel_rfl) (by kernel_rfl) ?_
      simp -dsimp -implicitDefEqProofs [-getElem?_pos, go_sem, hP, restr_get]
      refine callQ_isQ (up (gpay_pf p src)) hP en_11 (by simp [go_sem]) PayQ_ex ?_
      rintro r ⟨g, rfl, hg⟩ _
      have ad := add25_pf q g hf
      have ig := imm_pay g
      obtain ⟨X, hX⟩ : ∃ X, X = (addQ q g).1 := ⟨_, rfl⟩
      obtain ⟨e, he⟩ : ∃ e, e = (addQ q g).2 := ⟨_, rfl⟩
      have hb : e = 0 → StepB q day X day := fun h => .add day (p := g) (by rw [← h, hX, he])
      rw [← hX, ← he, cQu, cPy, cQu] at ad
      simp only [intsL] at ad
      have iX := imm_que X
      rw [cQu] at iX
      simp only [intsL] at iX
      rw [cPy] at ig
      simp -dsimp -implicitDefEqProofs [-getElem?_pos, go_sem, hP, cPy, restr_get]
      refine callQ_is (ad.lift _ _) hP en_30 (by simp; exact ⟨iq, ig⟩) (imm_pair iX .sc) ?_
      simp -dsimp -implicitDefEqProofs [-getElem?_pos, go_sem, hP]
      refine ⟨_, Weaker.refl _, ?_⟩
      rw [hInv]
      exact ⟨X, e, day, hb, fun _ => rfl, by simp -dsimp -implicitDefEqProofs [-getElem?_pos, go_sem], by simp -dsimp -implicitDefEqProofs [-getElem?_pos, go_sem], by simp -dsimp -implicitDefEqProofs [-getElem?_pos, go_sem], by simp -dsimp -implicitDefEqProofs [-getElem?_pos, go_sem], by simp -dsimp -implicitDefEqProofs [-getElem?_pos, go_sem], by simp -dsimp -implicitDefEqProofs [-getElem?_pos, go_sem], by simp -dsimp -implicitDefEqProofs [-getElem?_pos, go_sem], by simp -dsimp -implicitDefEqProofs [-getElem?_pos, go_sem]⟩
  have z0' : ¬ z = 0 := fun h => z0 (.inl h)
  have z1' : ¬ z = 1 := fun h => z0 (.inr (.inl h))
  have z2' : ¬ z = 2 := fun h => z0 (.inr (.inr h))
  have d0 : decide (z = 0) = false := decide_eq_false z0'
  have d1 : decide (z = 1) = false := decide_eq_false z1'
  have d2 : decide (z = 2) = false := decide_eq_false z2'
  by_cases z3 : z = 3
  · have d3 : decide (z = 3) = true := decide_eq_true z3
    simp -dsimp -implicitDefEqProofs [-getElem?_pos, go_sem, hP, d0, d1, d2, d3, z0', z1', z2']
    refine callB_isQ (up (gpay_pf p src)) hP en_11 (by simp [go_sem]) PayQ_ex ?_
    rintro r ⟨g, rfl, hg⟩ _
    have ad := again25_pf q g hf
    have ig := imm_pay g
    obtain ⟨X, hX⟩ : ∃ X, X = (againQ q g).1 := ⟨_, rfl⟩
    obtain ⟨e, he⟩ : ∃ e, e = (againQ q g).2 := ⟨_, rfl⟩
    have hb : e = 0 → StepB q day X day := fun h => .again day (p := g) (by rw [← h, hX, he])
    rw [← hX, ← he, cQu, cPy, cQu] at ad
    simp only [intsL] at ad
    have iX := imm_que X
    rw [cQu] at iX
    simp only [intsL] at iX
    rw [cPy] at ig
    simp -dsimp -implicitDefEqProofs [-getElem?_pos, go_sem, hP, cPy]
    refine callB_is (ad.lift _ _) hP en_32 (by simp; exact ⟨iq, ig⟩) (imm_pair iX .sc) ?_
    simp -dsimp -implicitDefEqProofs [-getElem?_pos, go_sem, hP]
    refine ⟨_, Weaker.refl _, ?_⟩
    rw [hInv]
    exact ⟨X, e, day, hb, fun _ => rfl, by simp -dsimp -implicitDefEqProofs [-getElem?_pos, go_sem], by simp -dsimp -implicitDefEqProofs [-getElem?_pos, go_sem], by simp -dsimp -implicitDefEqProofs [-getElem?_pos, go_sem], by simp -dsimp -implicitDefEqProofs [-getElem?_pos, go_sem], by simp -dsimp -implicitDefEqProofs [-getElem?_pos, go_sem], by simp -dsimp -implicitDefEqProofs [-getElem?_pos, go_sem], by simp -dsimp -implicitDefEqProofs [-getElem?_pos, go_sem], by simp -dsimp -implicitDefEqProofs [-getElem?_pos, go_sem]⟩
  have d3 : decide (z = 3) = false := decide_eq_false z3
  by_cases z4 : z = 4
  · have d4 : decide (z = 4) = true := decide_eq_true z4
    simp -dsimp -implicitDefEqProofs [-getElem?_pos, go_sem, hP, d0, d1, d2, d3, d4, z0', z1', z2', z3]
    refine adrawQ (fun i => decide (i = 0)) [7] [2, 3] hP (by kernel_rfl) (by kernel_rfl) ?_
    simp -dsimp -implicitDefEqProofs [-getElem?_pos, go_sem, hP, restr_get]
    refine callQ_isQ (up (rangeQ_pf p src 1 12 (by omega) (by omega))) hP en_27 (by simp [go_sem]) (RQ_ex (by omega)) ?_
    rintro r ⟨w, rfl, hw⟩ _
    have ad := drop25_pf q w hf
    obtain ⟨X, hX⟩ : ∃ X, X = (dropQ q w).1 := ⟨_, rfl⟩
    obtain ⟨e, he⟩ : ∃ e, e = (dropQ q w).2 := ⟨_, rfl⟩
    have hb : e = 0 → StepB q day X day := fun h => .drop day (w := w) (by rw [← h, hX, he])
    rw [← hX, ← he, cQu, cQu] at ad
    simp only [intsL] at ad
    have iX := imm_que X
    rw [cQu] at iX
    simp only [intsL] at iX
    simp -dsimp -implicitDefEqProofs [-getElem?_pos, go_sem, hP, restr_get]
    refine callQ_is (ad.lift _ _) hP en_35 (by simp [imm_sc]; exact iq) (imm_pair iX .sc) ?_
    simp -dsimp -implicitDefEqProofs [-getElem?_pos, go_sem, hP]
    refine ⟨_, Weaker.refl _, ?_⟩
    rw [hInv]
    exact ⟨X, e, day, hb, fun _ => rfl, by simp -dsimp -implicitDefEqProofs [-getElem?_pos, go_sem], by simp -dsimp -implicitDefEqProofs [-getElem?_pos, go_sem], by simp -dsimp -implicitDefEqProofs [-getElem?_pos, go_sem], by simp -dsimp -implicitDefEqProofs [-getElem?_pos, go_sem], by simp -dsimp -implicitDefEqProofs [-getElem?_pos, go_sem], by simp -dsimp -implicitDefEqProofs [-getElem?_pos, go_sem], by simp -dsimp -implicitDefEqProofs [-getElem?_pos, go_sem], by simp -dsimp -implicitDefEqProofs [-getElem?_pos, go_sem]⟩
  have d4 : decide (z = 4) = false := decide_eq_false z4
  simp -dsimp -implicitDefEqProofs [-getElem?_pos, go_sem, hP, d0, d1, d2, d3, d4, z0', z1', z2', z3, z4]
  refine callB_isQ (up (N_pf p src 5 (by omega))) hP en_26 (by simp [go_sem]) (N_exI _) ?_
  rintro r ⟨v, rfl, _, hv⟩ _
  have hv := hv (by omega)
  have wv := wrap_in (day + v) (by omega)
  simp -dsimp -implicitDefEqProofs [-getElem?_pos, go_sem, hP, wv]
  refine callB_is ((business_pf (day + v) (by omega)).lift _ _) hP en_16 (by simp [imm_sc]) .sc ?_
  obtain ⟨nx, hnx⟩ : ∃ nx, nx = busI (day + v) := ⟨_, rfl⟩
  have hnb := busI_ge (day + v)
  rw [← hnx] at hnb ⊢
  have rd := ready25_pf q nx hf
  rw [cQu] at rd
  simp only [intsL] at rd
  have irq := imm_pays (readyQ q nx)
  simp -dsimp -implicitDefEqProofs [-getElem?_pos, go_sem, hP]
  refine callB_is (rd.lift _ _) hP en_36 (by simp [imm_sc]; exact iq) irq ?_
  obtain ⟨L, hL⟩ : ∃ L, L = readyQ q nx := ⟨_, rfl⟩
  have hLl : L.length ≤ 1000 := by
    have := hq.lw
    have := List.length_filter_le (fun p : TPayment => decide (p.Due ≤ nx)) q.Waiting
    rw [hL, readyQ, if_pos (checkQ_iff.2 hq)]
    omega
  rw [← hL] at irq ⊢
  simp -dsimp -implicitDefEqProofs [-getElem?_pos, go_sem, hP]
  refine aloop_own 12 3 1 (by simp -dsimp -implicitDefEqProofs [-getElem?_pos, go_sem]) ?_
  obtain ⟨I, hI⟩ : ∃ I : Nat → St → Prop, I = fun m s => ∃ (k id : Nat) (ws : List Int), k ≤ L.length ∧ m = L.length - k ∧ ws.length ≤ 3 ∧ 3 ≤ id ∧ s.t 0 = sp p ∧ s.t 2 = iv day ∧ s.t 4 = .ref 0 0 0 ∧ s.t 6 = .ref 1 0 0 ∧ s.t 8 = .ref 2 0 0 ∧ s.t 11 = iv nx ∧ s.t 24 = paysL L ∧ s.t 25 = iv L.length ∧ s.t 26 = iv k ∧ s.t 12 = .sref id 0 ws.length ∧ s.H[0]? = some (some ⟨28, 3, [[paysL q.Waiting, .list 1 (q.Known.map fun x => [iv x]), batsL q.Batches]]⟩) ∧ s.H[1]? = some (some ⟨28, 3, [[.nil, .nil, .nil]]⟩) ∧ s.H[2]? = some (some ⟨28, 3, [[.nil, .nil, .nil]]⟩) ∧ s.H[id]? = some (some ⟨3, 1, ws.map fun x => [iv x]⟩) := ⟨_, rfl⟩
  refine aloopF 12 hW I (L.length) (by rw [hN]; rfl) ?_ ?_
  · rw [hI]
    exact ⟨0, 3, [], by omega, by omega, by simp, by omega, by simp -dsimp -implicitDefEqProofs [-getElem?_pos, go_sem], by simp -dsimp -implicitDefEqProofs [-getElem?_pos, go_sem], by simp -dsimp -implicitDefEqProofs [-getElem?_pos, go_sem], by simp -dsimp -implicitDefEqProofs [-getElem?_pos, go_sem], by simp -dsimp -implicitDefEqProofs [-getElem?_pos, go_sem], by simp -dsimp -implicitDefEqProofs [-getElem?_pos, go_sem], by simp -dsimp -implicitDefEqProofs [-getElem?_pos, go_sem], by simp -dsimp -implicitDefEqProofs [-getElem?_pos, go_sem], by simp -dsimp -implicitDefEqProofs [-getElem?_pos, go_sem], by simp -dsimp -implicitDefEqProofs [-getElem?_pos, go_sem], by simp -dsimp -implicitDefEqProofs [-getElem?_pos, go_sem], by simp -dsimp -implicitDefEqProofs [-getElem?_pos, go_sem], by simp -dsimp -implicitDefEqProofs [-getElem?_pos, go_sem], by simp -dsimp -implicitDefEqProofs [-getElem?_pos, go_sem]⟩
  intro m s hs'
  rw [hI] at hs'
  obtain ⟨k, id, ws, hk, hm, hwl, hid, t0, t2, t4, t6, t8, t11, t24, t25, t26, t12, h0, h1, h2, hH⟩ := hs'
  have lt0 := (List.getElem?_eq_some_iff.1 h0).1
  have lt1 := (List.getElem?_eq_some_iff.1 h1).1
  have lt2 := (List.getElem?_eq_some_iff.1 h2).1
  have lti := (List.getElem?_eq_some_iff.1 hH).1
  simp -dsimp -implicitDefEqProofs [-getElem?_pos, go_sem, hP, t25, t26]
  refine condP (fun hh => ?_) (fun hh => ?_)
  · have hk : k < L.length := by simpa using hh
    obtain ⟨x, hx⟩ : ∃ x, L[k]? = some x := ⟨_, List.getElem?_eq_getElem hk⟩
    have wk := wrap_in ((k : Int) + 1) (by omega)
    have fin : ∀ s' : St, ∀ ws' : List Int, ∀ id' : Nat, ws'.length ≤ 3 → 3 ≤ id' → s'.t 0 = s.t 0 → s'.t 2 = s.t 2 → s'.t 4 = s.t 4 → s'.t 6 = s.t 6 → s'.t 8 = s.t 8 → s'.t 11 = s.t 11 → s'.t 24 = s.t 24 → s'.t 25 = s.t 25 → s'.t 26 = iv ((k : Int) + 1) → s'.t 12 = .sref id' 0 ws'.length → s'.H[0]? = s.H[0]? → s'.H[1]? = s.H[1]? → s'.H[2]? = s.H[2]? → s'.H[id']? = some (some ⟨3, 1, ws'.map fun x => [iv x]⟩) → ∃ n', n' < m ∧ I n' s' := fun s' ws' id' a0 a1 a2 a3 a4 a5 a6 a7 a8 a9 a10 a11 a12 a13 a14 a15 => by
      refine ⟨L.length - (k + 1), by omega, ?_⟩
      rw [hI]
      exact ⟨k + 1, id', ws', by omega, rfl, a0, a1, by rw [a2, t0], by rw [a3, t2], by rw [a4, t4], by rw [a5, t6], by rw [a6, t8], by rw [a7, t11], by rw [a8, t24], by rw [a9, t25], by rw [a10]; simp, a11, by rw [a12, h0], by rw [a13, h1], by rw [a14, h2], a15⟩
    by_cases c : ws.length < 3
    rotate_left
    · have dc : decide ((ws.length : Int) < 3) = false := decide_eq_false (by omega)
      simp -dsimp -implicitDefEqProofs [-getElem?_pos, go_sem, hP, t26, t24, hx, cPy, t12, hH, lti, dc, wk]
      exact fin _ ws id hwl hid (by simp -dsimp -implicitDefEqProofs [-getElem?_pos, go_sem]) (by simp -dsimp -implicitDefEqProofs [-getElem?_pos, go_sem]) (by simp -dsimp -implicitDefEqProofs [-getElem?_pos, go_sem]) (by simp -dsimp -implicitDefEqProofs [-getElem?_pos, go_sem]) (by simp -dsimp -implicitDefEqProofs [-getElem?_pos, go_sem]) (by simp -dsimp -implicitDefEqProofs [-getElem?_pos, go_sem]) (by simp -dsimp -implicitDefEqProofs [-getElem?_pos, go_sem]) (by simp -dsimp -implicitDefEqProofs [-getElem?_pos, go_sem]) (by simp -dsimp -implicitDefEqProofs [-getElem?_pos, go_sem]) (by simp -dsimp -implicitDefEqProofs [-getElem?_pos, go_sem, t12]) (by simp -dsimp -implicitDefEqProofs [-getElem?_pos, go_sem, lt0]) (by simp -dsimp -implicitDefEqProofs [-getElem?_pos, go_sem, lt1]) (by simp -dsimp -implicitDefEqProofs [-getElem?_pos, go_sem, lt2]) (by simp -dsimp -implicitDefEqProofs [-getElem?_pos, go_sem, hH, lti])
    have dc : decide ((ws.length : Int) < 3) = true := decide_eq_true (by omega)
    simp -dsimp -implicitDefEqProofs [-getElem?_pos, go_sem, hP, t26, t24, hx, cPy, t12, hH, lti, dc, wk, t0]
    refine callB_flat (up (N_pf p src 3 (by omega))) hP en_26 (args_same (by simp -dsimp -implicitDefEqProofs [-getElem?_pos, go_sem])) (NQ_ex _) (NQ_flat _) ?_
    rintro r ⟨y, rfl, _, hy⟩
    by_cases cy : 0 < y
    · have dy : decide (0 < y) = true := decide_eq_true cy
      have nid : ¬ id = s.H.length := by omega
      simp -dsimp -implicitDefEqProofs [-getElem?_pos, go_sem, hP, dy, t12, hH, lti, t26, wk]
      obtain ⟨ws', hws'⟩ : ∃ ws', ws' = ws ++ [x.Warrant] := ⟨_, rfl⟩
      have lws : ws'.length = ws.length + 1 := by rw [hws']; simp
      obtain ⟨jd, hjd⟩ : ∃ jd, jd = s.H.length + 1 := ⟨_, rfl⟩
      refine ⟨by omega, by omega, ?_⟩
      exact fin _ ws' jd (by omega) (by omega) (by simp -dsimp -implicitDefEqProofs [-getElem?_pos, go_sem]) (by simp -dsimp -implicitDefEqProofs [-getElem?_pos, go_sem]) (by simp -dsimp -implicitDefEqProofs [-getElem?_pos, go_sem]) (by simp -dsimp -implicitDefEqProofs [-getElem?_pos, go_sem]) (by simp -dsimp -implicitDefEqProofs [-getElem?_pos, go_sem]) (by simp -dsimp -implicitDefEqProofs [-getElem?_pos, go_sem]) (by simp -dsimp -implicitDefEqProofs [-getElem?_pos, go_sem]) (by simp -dsimp -implicitDefEqProofs [-getElem?_pos, go_sem]) (by simp -dsimp -implicitDefEqProofs [-getElem?_pos, go_sem]) (by simp -dsimp -implicitDefEqProofs [-getElem?_pos, go_sem, lws, hjd]) (by dsimp only; rw [List.getElem?_append_left (by simp; omega), List.getElem?_set_ne (by omega)]) (by dsimp only; rw [List.getElem?_append_left (by simp; omega), List.getElem?_set_ne (by omega)]) (by dsimp only; rw [List.getElem?_append_left (by simp; omega), List.getElem?_set_ne (by omega)]) (by rw [hjd, hws']; dsimp only; rw [List.getElem?_append_right (by simp)]; simp)
    · have dy : decide (0 < y) = false := decide_eq_false cy
      simp -dsimp -implicitDefEqProofs [-getElem?_pos, go_sem, hP, dy, t26, wk]
      exact fin _ ws id hwl hid (by simp -dsimp -implicitDefEqProofs [-getElem?_pos, go_sem]) (by simp -dsimp -implicitDefEqProofs [-getElem?_pos, go_sem]) (by simp -dsimp -implicitDefEqProofs [-getElem?_pos, go_sem]) (by simp -dsimp -implicitDefEqProofs [-getElem?_pos, go_sem]) (by simp -dsimp -implicitDefEqProofs [-getElem?_pos, go_sem]) (by simp -dsimp -implicitDefEqProofs [-getElem?_pos, go_sem]) (by simp -dsimp -implicitDefEqProofs [-getElem?_pos, go_sem]) (by simp -dsimp -implicitDefEqProofs [-getElem?_pos, go_sem]) (by simp -dsimp -implicitDefEqProofs [-getElem?_pos, go_sem]) (by simp -dsimp -implicitDefEqProofs [-getElem?_pos, go_sem, t12]) (by simp -dsimp -implicitDefEqProofs [-getElem?_pos, go_sem, lt0]) (by simp -dsimp -implicitDefEqProofs [-getElem?_pos, go_sem, lt1]) (by simp -dsimp -implicitDefEqProofs [-getElem?_pos, go_sem, lt2]) (by simp -dsimp -implicitDefEqProofs [-getElem?_pos, go_sem, hH, lti])
  · have hk : k = L.length := by simp at hh; omega
    subst hk
    refine frz id _ 3 1 (ws.map fun x => [iv x]) t12 hH (by rw [List.length_map]) (imm_ints ws) ?_
    have tk := take25_pf q nx ws hf (by omega)
    obtain ⟨X, hX⟩ : ∃ X, X = (takeQ q nx ws).1 := ⟨_, rfl⟩
    obtain ⟨Y, hY⟩ : ∃ Y, Y = (takeQ q nx ws).2.1 := ⟨_, rfl⟩
    obtain ⟨e, he⟩ : ∃ e, e = (takeQ q nx ws).2.2 := ⟨_, rfl⟩
    have hb : e = 0 → StepB q day X nx := fun h => .take (b := Y) (ws := ws) (by omega) (by rw [← h, hX, hY, he])
    rw [← hX, ← hY, ← he, cQu, cQu] at tk
    simp only [intsL] at tk
    have iX := imm_que X
    rw [cQu] at iX
    simp only [intsL] at iX
    have iY := imm_bat Y
    have iws := imm_ints ws
    simp only [intsL] at iws
    have i0 : ¬ id = 0 := by omega
    have i1 : ¬ id = 1 := by omega
    have i2' : ¬ id = 2 := by omega
    simp -dsimp -implicitDefEqProofs [-getElem?_pos, go_sem, hP, t4, h0, lt0, t11, i0]
    refine callB_is (tk.lift _ _) hP en_37 (by simp [imm_sc]; exact ⟨iq, iws⟩) (imm_trip iX iY .sc) ?_
    simp -dsimp -implicitDefEqProofs [-getElem?_pos, go_sem, hP, t8, h2, lt2, i2', cBt]
    by_cases ce : e = 0
    · have de : decide (e = 0) = true := decide_eq_true ce
      simp -dsimp -implicitDefEqProofs [-getElem?_pos, go_sem, hP, ce, t11]
      refine ⟨_, Weaker.refl _, ?_⟩
      rw [hInv]
      exact ⟨X, 0, nx, fun _ => hb ce, fun h => absurd rfl h, by simp -dsimp -implicitDefEqProofs [-getElem?_pos, go_sem], by simp -dsimp -implicitDefEqProofs [-getElem?_pos, go_sem, t4], by simp -dsimp -implicitDefEqProofs [-getElem?_pos, go_sem, t6], by simp -dsimp -implicitDefEqProofs [-getElem?_pos, go_sem, t8], by simp -dsimp -implicitDefEqProofs [-getElem?_pos, go_sem], by simp -dsimp -implicitDefEqProofs [-getElem?_pos, go_sem, h0, i0], by simp -dsimp -implicitDefEqProofs [-getElem?_pos, go_sem, h1, i1], by simp -dsimp -implicitDefEqProofs [-getElem?_pos, go_sem, lt2]⟩
    · have de : decide (e = 0) = false := decide_eq_false ce
      simp -dsimp -implicitDefEqProofs [-getElem?_pos, go_sem, hP, ce, de, t11]
      refine ⟨_, Weaker.refl _, ?_⟩
      rw [hInv]
      exact ⟨X, e, day, fun h => absurd h ce, fun _ => rfl, by simp -dsimp -implicitDefEqProofs [-getElem?_pos, go_sem, t2], by simp -dsimp -implicitDefEqProofs [-getElem?_pos, go_sem, t4], by simp -dsimp -implicitDefEqProofs [-getElem?_pos, go_sem, t6], by simp -dsimp -implicitDefEqProofs [-getElem?_pos, go_sem, t8], by simp -dsimp -implicitDefEqProofs [-getElem?_pos, go_sem], by simp -dsimp -implicitDefEqProofs [-getElem?_pos, go_sem, h0, i0], by simp -dsimp -implicitDefEqProofs [-getElem?_pos, go_sem, h1, i1], by simp -dsimp -implicitDefEqProofs [-getElem?_pos, go_sem, lt2]⟩
end Go.Proofs.Ytmpncdlhmknkoaa
