/- BatchLater. -/
import Derived.Test.YtmpncdlhmknkoaaBatSane
set_option linter.unusedSimpArgs false
set_option linter.unusedVariables false
namespace Go.Proofs.Ytmpncdlhmknkoaa
open Go.PA
open Go.RowKit

theorem due_prefix : ∀ {l : List TPayment} {d d' : Int}, l.Pairwise Bef → d ≤ d' → ∃ r, l.filter (fun p => decide (p.Due ≤ d')) = l.filter (fun p => decide (p.Due ≤ d)) ++ r
  | [], _, _, _, _ => ⟨[], rfl⟩
  | p :: l, d, d', h, hd => by
    rw [List.pairwise_cons] at h
    by_cases c : p.Due ≤ d
    · obtain ⟨r, hr⟩ := due_prefix h.2 hd
      have c' : p.Due ≤ d' := by omega
      exact ⟨r, by simp [c, c', hr]⟩
    · have : (p :: l).filter (fun p => decide (p.Due ≤ d)) = [] := by
        rw [List.filter_eq_nil_iff]
        intro x hx
        rcases List.mem_cons.1 hx with rfl | hx
        · simpa using c
        · have := h.1 x hx
          unfold Bef at this
          simp
          omega
      exact ⟨_, by rw [this]; rfl⟩
theorem ready_max {q : TQueue} (h : QOk q) : readyQ q 36000 = q.Waiting := by
  rw [readyQ, if_pos (checkQ_iff.2 h)]
  exact List.filter_eq_self.2 fun p hp => by
    have := (h.asc.pay p hp).due
    simp
    omega

set_option maxHeartbeats 4000000 in
theorem later25_pf (xs : List Int) (a b : Nat) (hx : Small xs) (hl : xs.length ≤ 9223372036854775807) (ha : a ≤ 255) (hb : b ≤ 255) : PFun Try.prog none none 5 [intsL xs, .sc (.int .u8 a), .sc (.int .u8 b)] (· = bv true) := by
  refine pfun_introA Try.func5 rfl (by simp [Try.f5]) ?_
  intro E hP hr hs hW hN
  refine awp_cut (by rw [hN]; kernel_rfl) ?_
  simp [go_sem, hP]
  refine awp_cut (by rw [hN]; kernel_rfl) ?_
  simp [go_sem, hP]
  have hnew : POwn Try.prog E.row E.src 8 [intsL xs] 66 2 (· = [[intsL (xs.take 900), iv 0]]) := by rw [hr, hs]; exact new_pf xs hl
  refine callB_own hnew hP en_8 (args_same (by simp [go_sem, intsL])) (by simp [srefs_imm, go_sem, intsL]) ⟨_, rfl⟩ ?_
  rintro es rfl
  simp [go_sem, hP]
  refine awp_adopt 7 (ty := 66) (xs := xs.take 900) (at_ := 0) hr hs hW (by simp [go_sem]) (by simp [go_sem, intsL]) (by omega) (by simp; omega) (fun x hx' => hx x (List.mem_of_mem_take hx')) (by rw [hN]; kernel_rfl) ?_
  intro E' p hP' hr' hN' hW'
  rw [hP] at hP'
  rw [hN] at hN'
  clear hnew hP hr hs hW hN E
  rename Env => E
  rename E.P = _ => hP
  rename E.row = _ => hr
  rename E.N = _ => hN
  rename (∀ b, ¬ E.W b) => hW
  obtain ⟨src, hs⟩ : ∃ src, E.src = src := ⟨_, rfl⟩
  have up : ∀ {f : FuncId} {args : List AV} {Q : AV → Prop}, PFun Try.prog (some p) src f args Q → PFun Try.prog E.row E.src f args Q := fun h => hr ▸ hs ▸ h

  have saneB : ∀ {H : Heap} {C : AV → Heap → Prop} {b : Bx C}, C (bv true) H → CallB E 14 [] H C b := fun h => callB_pure sane25_pf hP en_14 (args_nil.2 trivial) .sc h
  simp -dsimp -implicitDefEqProofs [-getElem?_pos, go_sem, hP]
  refine callB_isQ (up (queue_pf p src)) hP en_15 (by simp [imm_sc]) QueQ_ex ?_
  rintro r ⟨q, rfl, hgq⟩ _
  have hq := hgq.ok
  have hf := hq.fit
  have iq := imm_que q
  simp only [cQu, intsL] at iq
  have wa := wrap_in (a : Int) (by omega)
  have wb := wrap_in (b : Int) (by omega)
  have ka : ((a : Int).tmod 40) = ((a % 40 : Nat) : Int) := (Int.ofNat_tmod a 40).symm
  have kb : ((b : Int).tmod 40) = ((b % 40 : Nat) : Int) := (Int.ofNat_tmod b 40).symm
  have la : a % 40 < 40 := Nat.mod_lt _ (by omega)
  have lb : b % 40 < 40 := Nat.mod_lt _ (by omega)
  obtain ⟨day, hday⟩ : ∃ k, k = a % 40 := ⟨_, rfl⟩
  obtain ⟨off, hoff⟩ : ∃ k, k = b % 40 := ⟨_, rfl⟩
  rw [← hday] at ka la
  rw [← hoff] at kb lb
  clear hday hoff
  have ws := wrap_in ((day : Int) + off) (by omega)
  have wday := wrap_in (day : Int) (by omega)
  have woff := wrap_in (off : Int) (by omega)
  have r1 := bready_pf q day hf
  have r2 := bready_pf q ((day : Int) + off) hf
  have r3 := bready_pf q 36000 hf
  rw [ready_max hq] at r3
  obtain ⟨now, hnow⟩ : ∃ x, x = readyQ q day := ⟨_, rfl⟩
  obtain ⟨later, hlater⟩ : ∃ x, x = readyQ q ((day : Int) + off) := ⟨_, rfl⟩
  obtain ⟨rest, hrest⟩ : ∃ r, later = now ++ r := by
    obtain ⟨r, hr⟩ := due_prefix (d := (day : Int)) (d' := (day : Int) + off) hq.asc.ord (by omega)
    rw [hnow, hlater, readyQ, readyQ, if_pos (checkQ_iff.2 hq), if_pos (checkQ_iff.2 hq)]
    exact ⟨r, hr⟩
  have hdue : ∀ p, p ∈ now → p.Due ≤ day := fun p hp => by
    rw [hnow, readyQ, if_pos (checkQ_iff.2 hq)] at hp
    simpa using (List.mem_filter.1 hp).2
  rw [← hnow] at r1
  rw [← hlater] at r2
  have il1 := imm_pays now
  have il2 := imm_pays later
  have ipw := imm_pays q.Waiting
  have ln : now.length ≤ 100 := by
    have := List.length_filter_le (fun p : TPayment => decide (p.Due ≤ (day : Int))) q.Waiting
    have := hq.lw
    rw [hnow, readyQ, if_pos (checkQ_iff.2 hq)]
    omega
  have ll : later.length = now.length + rest.length := by rw [hrest, List.length_append]
  have lw := hq.lw
  simp only [cQu, intsL] at r1 r2 r3
  simp -dsimp -implicitDefEqProofs [-getElem?_pos, go_sem, hP, cQu, intsL, aconv, wa, ka, wday]
  refine adrawB (fun i => decide (i = 1)) [] hP (by kernel_rfl) (by kernel_rfl) ?_
  simp -dsimp -implicitDefEqProofs [-getElem?_pos, go_sem, hP]
  refine callB_is (r1.lift _ _) hP en_17 (by simp [imm_sc]; exact iq) il1 ?_
  simp -dsimp -implicitDefEqProofs [-getElem?_pos, go_sem, hP, aconv, wb, kb, woff, ws]
  refine callB_is (r2.lift _ _) hP en_17 (by simp [imm_sc]; exact iq) il2 ?_
  have d1 : decide (later.length < now.length) = false := decide_eq_false (by omega)
  simp -dsimp -implicitDefEqProofs [-getElem?_pos, go_sem, hP, d1]
  obtain ⟨I, hI⟩ : ∃ I : Nat → St → Prop, I = fun m s => ∃ k : Nat, k ≤ now.length ∧ m = now.length - k ∧ s.t 8 = .ref 1 0 0 ∧ s.t 9 = iv day ∧ s.t 10 = paysL now ∧ s.t 11 = paysL later ∧ s.t 38 = paysL now ∧ s.t 39 = iv now.length ∧ s.t 40 = iv k ∧ s.H[1]? = some (some ⟨28, 3, [[paysL q.Waiting, .list 1 (q.Known.map fun x => [iv x]), batsL q.Batches]]⟩) := ⟨_, rfl⟩
  refine aloop0 I (now.length) (by rw [hN]; rfl) ?_ ?_
  · rw [hI]
    exact ⟨0, by omega, by omega, by simp -dsimp -implicitDefEqProofs [-getElem?_pos, go_sem], by simp -dsimp -implicitDefEqProofs [-getElem?_pos, go_sem], by simp -dsimp -implicitDefEqProofs [-getElem?_pos, go_sem], by simp -dsimp -implicitDefEqProofs [-getElem?_pos, go_sem], by simp -dsimp -implicitDefEqProofs [-getElem?_pos, go_sem], by simp -dsimp -implicitDefEqProofs [-getElem?_pos, go_sem], by simp -dsimp -implicitDefEqProofs [-getElem?_pos, go_sem], by simp -dsimp -implicitDefEqProofs [-getElem?_pos, go_sem]⟩
  intro m s hs'
  rw [hI] at hs'
  obtain ⟨k, hk, hm, t8, t9, t10, t11, t38, t39, t40, h1⟩ := hs'
  have lt1 := (List.getElem?_eq_some_iff.1 h1).1
  simp -dsimp -implicitDefEqProofs [-getElem?_pos, go_sem, hP, t39, t40]
  refine condP (fun hh => ?_) (fun hh => ?_)
  · have hk : k < now.length := by simpa using hh
    obtain ⟨x, hx⟩ : ∃ x, now[k]? = some x := ⟨_, List.getElem?_eq_getElem hk⟩
    have hx2 : later[k]? = some x := by rw [hrest, List.getElem?_append_left hk, hx]
    have wk := wrap_in ((k : Int) + 1) (by omega)
    have hxd := hdue x (List.mem_of_getElem? hx)
    have d2 : decide ((day : Int) < x.Due) = false := decide_eq_false (by omega)
    simp -dsimp -implicitDefEqProofs [-getElem?_pos, go_sem, hP, t40, t38, hx, cPy]
    obtain ⟨n, hn⟩ : ∃ n, n = s.H.length := ⟨_, rfl⟩
    generalize hH1 : s.H ++ _ = H1
    have e1 : H1[1]? = some (some ⟨28, 3, [[paysL q.Waiting, .list 1 (q.Known.map fun x => [iv x]), batsL q.Batches]]⟩) := by rw [← hH1, List.getElem?_append_left lt1, h1]
    have en : H1[n]? = some (some ⟨34, 5, [[iv x.Warrant, iv x.Payee, iv x.Amount, iv x.Due, iv x.Sub]]⟩) := by rw [← hH1, hn]; simp
    have ltn := (List.getElem?_eq_some_iff.1 en).1
    have lt1' := (List.getElem?_eq_some_iff.1 e1).1
    refine adrawB (fun _ => true) [] hP (by kernel_rfl) (by kernel_rfl) ?_
    simp -dsimp -implicitDefEqProofs [-getElem?_pos, go_sem, hP, ← hn, en, ltn, t9, d2, t11, hx2, cPy]
    simp -dsimp -implicitDefEqProofs [-getElem?_pos, go_sem, hP, t40, wk]
    refine ⟨now.length - (k + 1), by omega, ?_⟩
    rw [hI]
    exact ⟨k + 1, by omega, rfl, by simp -dsimp -implicitDefEqProofs [-getElem?_pos, go_sem, t8], by simp -dsimp -implicitDefEqProofs [-getElem?_pos, go_sem, t9], by simp -dsimp -implicitDefEqProofs [-getElem?_pos, go_sem, t10], by simp -dsimp -implicitDefEqProofs [-getElem?_pos, go_sem, t11], by simp -dsimp -implicitDefEqProofs [-getElem?_pos, go_sem, t38], by simp -dsimp -implicitDefEqProofs [-getElem?_pos, go_sem, t39], by simp -dsimp -implicitDefEqProofs [-getElem?_pos, go_sem], by simp -dsimp -implicitDefEqProofs [-getElem?_pos, go_sem, e1]⟩
  have hk : k = now.length := by simp at hh; omega
  subst hk
  clear hI
  simp -dsimp -implicitDefEqProofs [-getElem?_pos, go_sem, hP, t8, h1, lt1]
  obtain ⟨J, hJ⟩ : ∃ I : Nat → St → Prop, I = fun m s => ∃ k : Nat, k ≤ q.Waiting.length ∧ m = q.Waiting.length - k ∧ s.t 8 = .ref 1 0 0 ∧ s.t 9 = iv day ∧ s.t 10 = paysL now ∧ s.t 59 = paysL q.Waiting ∧ s.t 60 = iv q.Waiting.length ∧ s.t 61 = iv k ∧ s.H[1]? = some (some ⟨28, 3, [[paysL q.Waiting, .list 1 (q.Known.map fun x => [iv x]), batsL q.Batches]]⟩) := ⟨_, rfl⟩
  refine aloop0 J (q.Waiting.length) (by rw [hN]; rfl) ?_ ?_
  · rw [hJ]
    exact ⟨0, by omega, by omega, by simp -dsimp -implicitDefEqProofs [-getElem?_pos, go_sem, t8], by simp -dsimp -implicitDefEqProofs [-getElem?_pos, go_sem, t9], by simp -dsimp -implicitDefEqProofs [-getElem?_pos, go_sem, t10], by simp -dsimp -implicitDefEqProofs [-getElem?_pos, go_sem], by simp -dsimp -implicitDefEqProofs [-getElem?_pos, go_sem], by simp -dsimp -implicitDefEqProofs [-getElem?_pos, go_sem], by simp -dsimp -implicitDefEqProofs [-getElem?_pos, go_sem, h1]⟩
  clear t8 t9 t10 t11 t38 t39 t40 h1 lt1 hh hm
  intro m s hs'
  rw [hJ] at hs'
  obtain ⟨k, hk, hm, t8, t9, t10, t59, t60, t61, h1⟩ := hs'
  have lt1 := (List.getElem?_eq_some_iff.1 h1).1
  simp -dsimp -implicitDefEqProofs [-getElem?_pos, go_sem, hP, t60, t61]
  refine condP (fun hh => ?_) (fun hh => ?_)
  · have hk : k < q.Waiting.length := by simpa using hh
    obtain ⟨x, hx⟩ : ∃ x, q.Waiting[k]? = some x := ⟨_, List.getElem?_eq_getElem hk⟩
    have wk := wrap_in ((k : Int) + 1) (by omega)
    simp -dsimp -implicitDefEqProofs [-getElem?_pos, go_sem, hP, t61, t59, hx, cPy]
    obtain ⟨n, hn⟩ : ∃ n, n = s.H.length := ⟨_, rfl⟩
    generalize hH1 : s.H ++ _ = H1
    have e1 : H1[1]? = some (some ⟨28, 3, [[paysL q.Waiting, .list 1 (q.Known.map fun x => [iv x]), batsL q.Batches]]⟩) := by rw [← hH1, List.getElem?_append_left lt1, h1]
    have en : H1[n]? = some (some ⟨34, 5, [[iv x.Warrant, iv x.Payee, iv x.Amount, iv x.Due, iv x.Sub]]⟩) := by rw [← hH1, hn]; simp
    have ltn := (List.getElem?_eq_some_iff.1 en).1
    refine adrawB (fun _ => true) [] hP (by kernel_rfl) (by kernel_rfl) ?_
    have fin : ∀ s' : St, s'.t 8 = s.t 8 → s'.t 9 = s.t 9 → s'.t 10 = s.t 10 → s'.t 59 = s.t 59 → s'.t 60 = s.t 60 → s'.t 61 = iv ((k : Int) + 1) → s'.H = H1 → ∃ n', n' < m ∧ J n' s' := fun s' a1 a2 a3 a4 a5 a6 a7 => by
      refine ⟨q.Waiting.length - (k + 1), by omega, ?_⟩
      rw [hJ]
      exact ⟨k + 1, by omega, rfl, by rw [a1, t8], by rw [a2, t9], by rw [a3, t10], by rw [a4, t59], by rw [a5, t60], by rw [a6]; simp, by rw [a7, e1]⟩
    by_cases c : (day : Int) < x.Due
    rotate_left
    · have d2 : decide ((day : Int) < x.Due) = false := decide_eq_false c
      simp -dsimp -implicitDefEqProofs [-getElem?_pos, go_sem, hP, ← hn, en, ltn, t9, d2]
      simp -dsimp -implicitDefEqProofs [-getElem?_pos, go_sem, hP, t61, wk]
      exact fin _ (by simp -dsimp -implicitDefEqProofs [-getElem?_pos, go_sem]) (by simp -dsimp -implicitDefEqProofs [-getElem?_pos, go_sem]) (by simp -dsimp -implicitDefEqProofs [-getElem?_pos, go_sem]) (by simp -dsimp -implicitDefEqProofs [-getElem?_pos, go_sem]) (by simp -dsimp -implicitDefEqProofs [-getElem?_pos, go_sem]) (by simp -dsimp -implicitDefEqProofs [-getElem?_pos, go_sem]) (by simp -dsimp -implicitDefEqProofs [-getElem?_pos, go_sem])
    have d2 : decide ((day : Int) < x.Due) = true := decide_eq_true c
    by_cases c2 : 0 < now.length
    rotate_left
    · have d3 : decide ((0 : Int) < (now.length : Int)) = false := decide_eq_false (by omega)
      have d3' : decide (0 < now.length) = false := decide_eq_false (by omega)
      simp -dsimp -implicitDefEqProofs [-getElem?_pos, go_sem, hP, ← hn, en, ltn, t9, d2, t10, d3, d3']
      simp -dsimp -implicitDefEqProofs [-getElem?_pos, go_sem, hP, t61, wk]
      exact fin _ (by simp -dsimp -implicitDefEqProofs [-getElem?_pos, go_sem]) (by simp -dsimp -implicitDefEqProofs [-getElem?_pos, go_sem]) (by simp -dsimp -implicitDefEqProofs [-getElem?_pos, go_sem]) (by simp -dsimp -implicitDefEqProofs [-getElem?_pos, go_sem]) (by simp -dsimp -implicitDefEqProofs [-getElem?_pos, go_sem]) (by simp -dsimp -implicitDefEqProofs [-getElem?_pos, go_sem]) (by simp -dsimp -implicitDefEqProofs [-getElem?_pos, go_sem])
    have d3 : decide ((0 : Int) < (now.length : Int)) = true := decide_eq_true (by omega)
    obtain ⟨y, hy⟩ : ∃ y, now[now.length - 1]? = some y := ⟨_, List.getElem?_eq_getElem (by omega)⟩
    have hyd := hdue y (List.mem_of_getElem? hy)
    have w1 : IntKind.i64.wrap ((now.length : Int) - 1) = ((now.length - 1 : Nat) : Int) := by rw [wrap_in _ (by omega)]; omega
    have bf := rbefore_pf x y
    have hb : befB x y = false := Bool.eq_false_iff.2 fun h => by
      have := befB_iff.1 h
      unfold Bef at this
      omega
    rw [hb] at bf
    have ix := imm_pay x
    have iy := imm_pay y
    rw [cPy] at ix iy
    rw [cPy, cPy] at bf
    simp -dsimp -implicitDefEqProofs [-getElem?_pos, go_sem, hP, ← hn, en, ltn, t9, d2, t10, d3, c2, w1, hy, cPy]
    refine callB_is (bf.lift _ _) hP en_21 (by simpa using ⟨ix, iy⟩) .sc ?_
    simp -dsimp -implicitDefEqProofs [-getElem?_pos, go_sem, hP]
    simp -dsimp -implicitDefEqProofs [-getElem?_pos, go_sem, hP, t61, wk]
    exact fin _ (by simp -dsimp -implicitDefEqProofs [-getElem?_pos, go_sem]) (by simp -dsimp -implicitDefEqProofs [-getElem?_pos, go_sem]) (by simp -dsimp -implicitDefEqProofs [-getElem?_pos, go_sem]) (by simp -dsimp -implicitDefEqProofs [-getElem?_pos, go_sem]) (by simp -dsimp -implicitDefEqProofs [-getElem?_pos, go_sem]) (by simp -dsimp -implicitDefEqProofs [-getElem?_pos, go_sem]) (by simp -dsimp -implicitDefEqProofs [-getElem?_pos, go_sem])
  · have eqp := listEq_pf_pays25 q.Waiting q.Waiting (by omega) (by omega)
    simp only [decide_true] at eqp
    simp -dsimp -implicitDefEqProofs [-getElem?_pos, go_sem, hP]
    refine adrawB (fun _ => true) [] hP (by kernel_rfl) (by kernel_rfl) ?_
    simp -dsimp -implicitDefEqProofs [-getElem?_pos, go_sem, hP, t8, h1, lt1]
    refine callB_is (r3.lift _ _) hP en_17 (by simp [imm_sc]; exact iq) ipw ?_
    simp -dsimp -implicitDefEqProofs [-getElem?_pos, go_sem, hP, t8, h1, lt1]
    refine callB_is (eqp.lift _ _) hP en_22 (by simp [ipw]) .sc ?_
    simp -dsimp -implicitDefEqProofs [-getElem?_pos, go_sem, hP]
    refine saneB ?_
    simp -dsimp -implicitDefEqProofs [-getElem?_pos, go_sem, hP]
end Go.Proofs.Ytmpncdlhmknkoaa
