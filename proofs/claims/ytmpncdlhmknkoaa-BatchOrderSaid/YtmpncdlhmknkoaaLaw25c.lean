/- BatchOrder. -/
import Derived.Test.YtmpncdlhmknkoaaBatSane
set_option linter.unusedSimpArgs false
set_option linter.unusedVariables false
namespace Go.Proofs.Ytmpncdlhmknkoaa
open Go.PA
open Go.RowKit

theorem sumW_from : ∀ (l : List TPayment) (a : Int), l.foldl (fun s p => IntKind.i64.wrap (s + p.Amount)) (IntKind.i64.wrap a) = IntKind.i64.wrap (a + (l.map (·.Amount)).sum)
  | [], a => by simp
  | p :: l, a => by
    rw [List.foldl_cons, wrap_addL, sumW_from l, List.map_cons, List.sum_cons, Int.add_assoc]
theorem sumW_eq (l : List TPayment) : sumW l = IntKind.i64.wrap (l.map (·.Amount)).sum := by
  have := sumW_from l 0
  rw [wrap_in 0 (by omega), Int.zero_add] at this
  exact this
theorem wrap_addR (a b : Int) : IntKind.i64.wrap (a + IntKind.i64.wrap b) = IntKind.i64.wrap (a + b) := by
  rw [Int.add_comm, wrap_addL, Int.add_comm]
theorem sum_split (f : TPayment → Bool) : ∀ l : List TPayment, ((l.filter fun p => !f p).map (·.Amount)).sum + ((l.filter f).map (·.Amount)).sum = (l.map (·.Amount)).sum
  | [] => rfl
  | p :: l => by
    have := sum_split f l
    cases h : f p <;> simp [h] <;> omega
theorem sumW_split (f : TPayment → Bool) (l : List TPayment) : IntKind.i64.wrap (sumW (l.filter fun p => !f p) + sumW (l.filter f)) = sumW l := by
  rw [sumW_eq, sumW_eq, sumW_eq, wrap_addL, wrap_addR, sum_split]
theorem len_split (f : TPayment → Bool) : ∀ l : List TPayment, (l.filter fun p => !f p).length + (l.filter f).length = l.length
  | [] => rfl
  | p :: l => by
    have := len_split f l
    cases h : f p <;> simp [h] <;> omega

theorem order_due {q : TQueue} (hq : QOk q) (k : Int) (n : Nat) : dueB q k (((readyQ q k).map (·.Warrant)).take n) = true := by
  rw [dueB_iff]
  have e : readyQ q k = q.Waiting.filter (fun p => decide (p.Due ≤ k)) := by rw [readyQ, if_pos (checkQ_iff.2 hq)]
  rw [e]
  refine ⟨(hq.asc.nd.sublist (List.filter_sublist.map _)).sublist (List.take_sublist _ _), fun w hw => ?_⟩
  obtain ⟨p, hp, rfl⟩ := List.mem_map.1 (List.mem_of_mem_take hw)
  obtain ⟨h1, h2⟩ := List.mem_filter.1 hp
  exact ⟨p, h1, rfl, by simpa using h2⟩

set_option maxHeartbeats 4000000 in
theorem order25_pf (xs : List Int) (a : Nat) (hx : Small xs) (hl : xs.length ≤ 9223372036854775807) (ha : a ≤ 255) : PFun Try.prog none none 4 [intsL xs, .sc (.int .u8 a)] (· = bv true) := by
  refine pfun_introA Try.func4 rfl (by simp [Try.f4]) ?_
  intro E hP hr hs hW hN
  refine awp_cut (by rw [hN]; kernel_rfl) ?_
  simp [go_sem, hP]
  refine awp_cut (by rw [hN]; kernel_rfl) ?_
  simp [go_sem, hP]
  have hnew : POwn Try.prog E.row E.src 8 [intsL xs] 66 2 (· = [[intsL (xs.take 900), iv 0]]) := by rw [hr, hs]; exact new_pf xs hl
  refine callB_own hnew hP en_8 (args_same (by simp [go_sem, intsL])) (by simp [srefs_imm, go_sem, intsL]) ⟨_, rfl⟩ ?_
  rintro es rfl
  simp [go_sem, hP]
  refine awp_adopt 5 (ty := 66) (xs := xs.take 900) (at_ := 0) hr hs hW (by simp [go_sem]) (by simp [go_sem, intsL]) (by omega) (by simp; omega) (fun x hx' => hx x (List.mem_of_mem_take hx')) (by rw [hN]; kernel_rfl) ?_
  intro E' p hP' hr' hN' hW'
  rw [hP] at hP'
  rw [hN] at hN'
  clear hnew hP hr hs hW hN E
  rename Env => E
  rename E.P = _ => hP
  rename E.row = _ => hr
  rename E.N = _ => hN
  rename (∀ b, ¬ E.W b) => hW
  obtain ⟨src, hs⟩ : ∃ src, E.src = src := ⟨_, rfl⟩
  have up : ∀ {f : FuncId} {args : List AV} {Q : AV → Prop}, PFun Try.prog (some p) src f args Q → PFun Try.prog E.row E.src f args Q := fun h => hr ▸ hs ▸ h

  have saneB : ∀ {H : Heap} {C : AV → Heap → Prop} {b : Bx C}, C (bv true) H → CallB E 14 [] H C b := fun h => callB_pure sane25_pf hP en_14 (args_nil.2 trivial) .sc h
  simp -dsimp -implicitDefEqProofs [-getElem?_pos, go_sem, hP]
  refine callB_isQ (up (queue_pf p src)) hP en_15 (by simp [imm_sc]) QueQ_ex ?_
  rintro r ⟨q, rfl, hgq⟩ _
  have hq := hgq.ok
  have hf := hq.fit
  have iq := imm_que q
  simp only [cQu, intsL] at iq
  have wa := wrap_in (a : Int) (by omega)
  have ka : ((a : Int).tmod 50) = ((a % 50 : Nat) : Int) := (Int.ofNat_tmod a 50).symm
  have la : a % 50 < 50 := Nat.mod_lt _ (by omega)
  obtain ⟨day, hday⟩ : ∃ k, k = a % 50 := ⟨_, rfl⟩
  rw [← hday] at ka la
  clear hday
  have wday := wrap_in (day : Int) (by omega)
  have bk := busI_ge day
  have hbus := busI_ok (d := (day : Int)) (by omega)
  obtain ⟨k, hk⟩ : ∃ k, k = busI day := ⟨_, rfl⟩
  have bp := business_pf (day : Int) (by omega)
  rw [← hk] at bk hbus bp
  have r1 := bready_pf q k hf
  obtain ⟨R, hR⟩ : ∃ x, x = readyQ q k := ⟨_, rfl⟩
  have hdue : ∀ p, p ∈ R → p.Due ≤ k := fun p hp => by
    rw [hR, readyQ, if_pos (checkQ_iff.2 hq)] at hp
    simpa using (List.mem_filter.1 hp).2
  have ln : R.length ≤ 100 := by
    have := List.length_filter_le (fun p : TPayment => decide (p.Due ≤ k)) q.Waiting
    have := hq.lw
    rw [hR, readyQ, if_pos (checkQ_iff.2 hq)]
    omega
  have od : ∀ n, dueB q k ((R.map (·.Warrant)).take n) = true := fun n => hR ▸ order_due hq k n
  rw [← hR] at r1
  have iR := imm_pays R
  simp only [cQu, intsL] at r1
  simp -dsimp -implicitDefEqProofs [-getElem?_pos, go_sem, hP, cQu, intsL, aconv, wa, ka, wday]
  refine callB_is (bp.lift _ _) hP en_16 (by simp [imm_sc]) .sc ?_
  simp -dsimp -implicitDefEqProofs [-getElem?_pos, go_sem, hP]
  refine callB_is (r1.lift _ _) hP en_17 (by simp [imm_sc]; exact iq) iR ?_
  obtain ⟨L, hL⟩ : ∃ L, L = R.map (·.Warrant) := ⟨_, rfl⟩
  have lL : L.length = R.length := by rw [hL, List.length_map]
  rw [← hL] at od
  simp -dsimp -implicitDefEqProofs [-getElem?_pos, go_sem, hP]
  refine aloop_own 9 3 1 (by simp -dsimp -implicitDefEqProofs [-getElem?_pos, go_sem]) ?_
  obtain ⟨I, hI⟩ : ∃ I : Nat → St → Prop, I = fun m s => ∃ (j id : Nat), j ≤ R.length ∧ m = R.length - j ∧ s.t 6 = .ref 1 0 0 ∧ s.t 7 = iv k ∧ s.t 28 = paysL R ∧ s.t 29 = iv R.length ∧ s.t 30 = iv j ∧ s.t 9 = .sref id 0 (L.take (min j 10)).length ∧ 2 ≤ id ∧ s.H[1]? = some (some ⟨28, 3, [[paysL q.Waiting, .list 1 (q.Known.map fun x => [iv x]), batsL q.Batches]]⟩) ∧ s.H[id]? = some (some ⟨3, 1, (L.take (min j 10)).map fun x => [iv x]⟩) := ⟨_, rfl⟩
  refine aloopF 9 hW I (R.length) (by rw [hN]; rfl) ?_ ?_
  · rw [hI]
    exact ⟨0, 2, by omega, by omega, by simp -dsimp -implicitDefEqProofs [-getElem?_pos, go_sem], by simp -dsimp -implicitDefEqProofs [-getElem?_pos, go_sem], by simp -dsimp -implicitDefEqProofs [-getElem?_pos, go_sem], by simp -dsimp -implicitDefEqProofs [-getElem?_pos, go_sem], by simp -dsimp -implicitDefEqProofs [-getElem?_pos, go_sem], by simp -dsimp -implicitDefEqProofs [-getElem?_pos, go_sem], by omega, by simp -dsimp -implicitDefEqProofs [-getElem?_pos, go_sem], by simp -dsimp -implicitDefEqProofs [-getElem?_pos, go_sem]⟩
  intro m s hs'
  rw [hI] at hs'
  obtain ⟨j, id, hj, hm, t6, t7, t28, t29, t30, t9, hid, h1, hH⟩ := hs'
  have lt1 := (List.getElem?_eq_some_iff.1 h1).1
  have lti := (List.getElem?_eq_some_iff.1 hH).1
  obtain ⟨ws, hws⟩ : ∃ ws, ws = L.take (min j 10) := ⟨_, rfl⟩
  have lws : ws.length = min j 10 := by rw [hws, List.length_take]; omega
  rw [← hws] at t9 hH
  simp -dsimp -implicitDefEqProofs [-getElem?_pos, go_sem, hP, t29, t30]
  refine condP (fun hh => ?_) (fun hh => ?_)
  · have hj : j < R.length := by simpa using hh
    obtain ⟨x, hx⟩ : ∃ x, R[j]? = some x := ⟨_, List.getElem?_eq_getElem hj⟩
    have hLj : L[j]? = some x.Warrant := by rw [hL, List.getElem?_map, hx]; rfl
    have wj := wrap_in ((j : Int) + 1) (by omega)
    have d1 : decide (k < x.Due) = false := decide_eq_false (by have := hdue x (List.mem_of_getElem? hx); omega)
    have nid : ¬ id = s.H.length := by omega
    by_cases c : j < 10
    · have d2 : decide ((ws.length : Int) < 10) = true := decide_eq_true (by omega)
      have nx : L.take (min (j + 1) 10) = ws ++ [x.Warrant] := by
        rw [hws, show min (j + 1) 10 = j + 1 by omega, show min j 10 = j by omega]
        exact take_at hLj
      simp -dsimp -implicitDefEqProofs [-getElem?_pos, go_sem, hP, t30, t28, hx, cPy, t7, d1, t9, hH, lti, d2, wj]
      refine ⟨by omega, by omega, ?_⟩
      refine ⟨R.length - (j + 1), by omega, ?_⟩
      rw [hI]
      refine ⟨j + 1, s.H.length + 1, by omega, rfl, by simp -dsimp -implicitDefEqProofs [-getElem?_pos, go_sem, t6], by simp -dsimp -implicitDefEqProofs [-getElem?_pos, go_sem, t7], by simp -dsimp -implicitDefEqProofs [-getElem?_pos, go_sem, t28], by simp -dsimp -implicitDefEqProofs [-getElem?_pos, go_sem, t29], by simp -dsimp -implicitDefEqProofs [-getElem?_pos, go_sem], ?_, by omega, ?_, ?_⟩
      · rw [nx]
        simp -dsimp -implicitDefEqProofs [-getElem?_pos, go_sem]
      · dsimp only
        rw [List.getElem?_append_left (by simp; omega), List.getElem?_set_ne (by omega), h1]
      · rw [nx]
        dsimp only
        rw [List.getElem?_append_right (by simp)]
        simp
    · have d2 : decide ((ws.length : Int) < 10) = false := decide_eq_false (by omega)
      have nx : L.take (min (j + 1) 10) = ws := by
        rw [hws, show min (j + 1) 10 = min j 10 by omega]
      simp -dsimp -implicitDefEqProofs [-getElem?_pos, go_sem, hP, t30, t28, hx, cPy, t7, d1, t9, hH, lti, d2, wj]
      refine ⟨R.length - (j + 1), by omega, ?_⟩
      rw [hI]
      exact ⟨j + 1, id, by omega, rfl, by simp -dsimp -implicitDefEqProofs [-getElem?_pos, go_sem, t6], by simp -dsimp -implicitDefEqProofs [-getElem?_pos, go_sem, t7], by simp -dsimp -implicitDefEqProofs [-getElem?_pos, go_sem, t28], by simp -dsimp -implicitDefEqProofs [-getElem?_pos, go_sem, t29], by simp -dsimp -implicitDefEqProofs [-getElem?_pos, go_sem], by rw [nx]; simp -dsimp -implicitDefEqProofs [-getElem?_pos, go_sem, t9], by omega, by simp -dsimp -implicitDefEqProofs [-getElem?_pos, go_sem, h1, lt1], by rw [nx]; simp -dsimp -implicitDefEqProofs [-getElem?_pos, go_sem, hH, lti]⟩
  have hj : j = R.length := by simp at hh; omega
  subst hj
  have iws := imm_ints ws
  refine frz id _ 3 1 (ws.map fun x => [iv x]) t9 hH (by rw [List.length_map]) iws ?_
  have hd := od (min R.length 10)
  rw [← hws] at hd
  have i1 : ¬ id = 1 := by omega
  have i1' : ¬ 1 = id := by omega
  by_cases c0 : ws.length = 0
  · have d0 : decide ((ws.length : Int) = 0) = true := decide_eq_true (by omega)
    simp -dsimp -implicitDefEqProofs [-getElem?_pos, go_sem, hP, c0, d0]
    refine saneB ?_
    simp -dsimp -implicitDefEqProofs [-getElem?_pos, go_sem, hP]
  have d0 : decide ((ws.length : Int) = 0) = false := decide_eq_false (by omega)
  have tk := btake_pf q k ws hf (by omega)
  have iqq := imm_que (takeQ q k ws).1
  have ibb := imm_bat (takeQ q k ws).2.1
  by_cases c1 : k < lastQ q
  · have htk : takeQ q k ws = (zeroQ, zeroB, 8) := by rw [takeQ, if_pos (checkQ_iff.2 hq), if_pos hbus, if_pos c1]
    rw [htk] at tk iqq ibb
    simp only [cQu, cBt, intsL] at tk iqq ibb iws
    simp -dsimp -implicitDefEqProofs [-getElem?_pos, go_sem, hP, c0, d0, t6, h1, lt1, i1, i1', t7]
    refine callB_is (tk.lift _ _) hP en_18 (by simp [imm_sc]; exact ⟨iq, iws⟩) (imm_trip iqq ibb .sc) ?_
    simp -dsimp -implicitDefEqProofs [-getElem?_pos, go_sem, hP]
    refine saneB ?_
    simp -dsimp -implicitDefEqProofs [-getElem?_pos, go_sem, hP]
  have htk : takeQ q k ws = (⟨q.Waiting.filter (fun p => !takenB ws p), q.Known, q.Batches ++ [takeB q k ws]⟩, takeB q k ws, 0) := by
    rw [takeQ, if_pos (checkQ_iff.2 hq), if_pos hbus, if_neg c1, if_neg c0, if_neg (by have := hgq.len; omega), if_pos hd]
  have tl := taken_len hq.asc.nd hd
  have sl := len_split (takenB ws) q.Waiting
  have ss := sumW_split (takenB ws) q.Waiting
  have hord : (q.Waiting.filter (takenB ws)).Pairwise Bef := hq.asc.ord.sublist List.filter_sublist
  rw [htk, takeB] at tk iqq ibb
  obtain ⟨P, hPd⟩ : ∃ P, P = q.Waiting.filter (takenB ws) := ⟨_, rfl⟩
  obtain ⟨Wt, hWt⟩ : ∃ W, W = q.Waiting.filter (fun p => !takenB ws p) := ⟨_, rfl⟩
  rw [← hPd, ← hWt] at tk iqq ibb ss sl
  rw [← hPd] at tl hord
  simp only [cQu, cBt, intsL] at tk iqq ibb iws
  have ipP := imm_pays P
  have ipW := imm_pays Wt
  have ipq := imm_pays q.Waiting
  have lw := hq.lw
  have lb := hq.lb
  have sm1 := sum25_pf q.Waiting (by omega)
  have sm2 := sum25_pf Wt (by omega)
  have sm3 := bsum_pf P (by omega)
  obtain ⟨S1, hS1⟩ : ∃ S, S = sumW q.Waiting := ⟨_, rfl⟩
  obtain ⟨S2, hS2⟩ : ∃ S, S = sumW Wt := ⟨_, rfl⟩
  obtain ⟨S3, hS3⟩ : ∃ S, S = sumW P := ⟨_, rfl⟩
  rw [← hS1] at sm1 ss
  rw [← hS2] at sm2 ss
  rw [← hS3] at sm3 ss
  obtain ⟨n, hn⟩ : ∃ n, n = s.H.length := ⟨_, rfl⟩
  simp -dsimp -implicitDefEqProofs [-getElem?_pos, go_sem, hP, c0, d0, t6, h1, lt1, i1, i1', t7]
  refine callB_is (tk.lift _ _) hP en_18 (by simp [imm_sc]; exact ⟨iq, iws⟩) (imm_trip iqq ibb .sc) ?_
  simp -dsimp -implicitDefEqProofs [-getElem?_pos, go_sem, hP, ← hn]
  generalize hH2 : (_ ++ _ : Heap) = H2
  have f1 : H2[1]? = some (some ⟨28, 3, [[paysL q.Waiting, .list 1 (q.Known.map fun x => [iv x]), batsL q.Batches]]⟩) := by rw [← hH2, List.getElem?_append_left (by simp; omega), List.getElem?_set_ne (by omega), h1]
  have f2 : H2[n]? = some (some ⟨28, 3, [[paysL Wt, .list 1 (q.Known.map fun x => [iv x]), batsL (q.Batches ++ [⟨q.Batches.length + 1, k, P⟩])]]⟩) := by rw [← hH2, List.getElem?_append_right (by simp; omega)]; simp [hn]
  have f3 : H2[n + 1]? = some (some ⟨45, 3, [[iv ((q.Batches.length : Int) + 1), iv k, paysL P]]⟩) := by rw [← hH2, List.getElem?_append_right (by simp; omega)]; simp [hn]
  have gt1 := (List.getElem?_eq_some_iff.1 f1).1
  have gt2 := (List.getElem?_eq_some_iff.1 f2).1
  have gt3 := (List.getElem?_eq_some_iff.1 f3).1
  refine adrawB (fun _ => true) [] hP (by kernel_rfl) (by kernel_rfl) ?_
  have wl := wrap_in ((q.Batches.length : Int) + 1) (by omega)
  have wd : IntKind.i64.wrap ((q.Waiting.length : Int) - (ws.length : Int)) = (Wt.length : Int) := by rw [wrap_in _ (by omega)]; omega
  have tl' : (P.length : Int) = ws.length := by omega
  simp -dsimp -implicitDefEqProofs [-getElem?_pos, go_sem, hP, f3, gt3, tl, tl', f1, gt1, t6, wl, f2, gt2, wd]
  refine callB_is (sm1.lift _ _) hP en_19 (by simpa using ipq) .sc ?_
  simp -dsimp -implicitDefEqProofs [-getElem?_pos, go_sem, hP, f2, gt2]
  refine callB_is (sm2.lift _ _) hP en_19 (by simpa using ipW) .sc ?_
  simp -dsimp -implicitDefEqProofs [-getElem?_pos, go_sem, hP, f3, gt3]
  refine callB_is (sm3.lift _ _) hP en_20 (by simpa using ipP) .sc ?_
  simp -dsimp -implicitDefEqProofs [-getElem?_pos, go_sem, hP, ss, f3, gt3]
  obtain ⟨J, hJ⟩ : ∃ I : Nat → St → Prop, I = fun m s => ∃ j : Nat, j ≤ P.length ∧ m = P.length - j ∧ s.t 13 = .ref (n + 1) 0 0 ∧ s.t 107 = paysL P ∧ s.t 108 = iv P.length ∧ s.t 109 = iv j ∧ s.H[n + 1]? = some (some ⟨45, 3, [[iv ((q.Batches.length : Int) + 1), iv k, paysL P]]⟩) := ⟨_, rfl⟩
  refine aloop0 J (P.length) (by rw [hN]; rfl) ?_ ?_
  · rw [hJ]
    exact ⟨0, by omega, by omega, by simp -dsimp -implicitDefEqProofs [-getElem?_pos, go_sem], by simp -dsimp -implicitDefEqProofs [-getElem?_pos, go_sem], by simp -dsimp -implicitDefEqProofs [-getElem?_pos, go_sem, tl], by simp -dsimp -implicitDefEqProofs [-getElem?_pos, go_sem], by simp -dsimp -implicitDefEqProofs [-getElem?_pos, go_sem, f3]⟩
  clear t6 t7 t28 t29 t30 t9 h1 hH lt1 lti
  intro m s hs'
  rw [hJ] at hs'
  obtain ⟨j, hj, hm', t13, t107, t108, t109, h3⟩ := hs'
  have lt3 := (List.getElem?_eq_some_iff.1 h3).1
  simp -dsimp -implicitDefEqProofs [-getElem?_pos, go_sem, hP, t108, t109]
  refine condP (fun hh => ?_) (fun hh => ?_)
  rotate_left
  · simp -dsimp -implicitDefEqProofs [-getElem?_pos, go_sem, hP]
    refine saneB ?_
    simp -dsimp -implicitDefEqProofs [-getElem?_pos, go_sem, hP]
  have hj : j < P.length := by simpa using hh
  obtain ⟨x, hx⟩ : ∃ x, P[j]? = some x := ⟨_, List.getElem?_eq_getElem hj⟩
  have wj := wrap_in ((j : Int) + 1) (by omega)
  obtain ⟨n', hn'⟩ : ∃ n, n = s.H.length := ⟨_, rfl⟩
  simp -dsimp -implicitDefEqProofs [-getElem?_pos, go_sem, hP, t109, t107, hx, cPy]
  generalize hH3 : (_ ++ _ : Heap) = H3
  have e3 : H3[n + 1]? = some (some ⟨45, 3, [[iv ((q.Batches.length : Int) + 1), iv k, paysL P]]⟩) := by rw [← hH3, List.getElem?_append_left lt3, h3]
  have en : H3[n']? = some (some ⟨34, 5, [[iv x.Warrant, iv x.Payee, iv x.Amount, iv x.Due, iv x.Sub]]⟩) := by rw [← hH3, hn']; simp
  have gt3' := (List.getElem?_eq_some_iff.1 e3).1
  have gtn := (List.getElem?_eq_some_iff.1 en).1
  have fin : ∀ s' : St, s'.t 13 = s.t 13 → s'.t 107 = s.t 107 → s'.t 108 = s.t 108 → s'.t 109 = iv ((j : Int) + 1) → s'.H = H3 → ∃ n', n' < m ∧ J n' s' := fun s' a1 a2 a3 a4 a5 => by
    refine ⟨P.length - (j + 1), by omega, ?_⟩
    rw [hJ]
    exact ⟨j + 1, by omega, rfl, by rw [a1, t13], by rw [a2, t107], by rw [a3, t108], by rw [a4]; simp, by rw [a5, e3]⟩
  refine adrawB (fun _ => true) [] hP (by kernel_rfl) (by kernel_rfl) ?_
  by_cases c : 0 < j
  rotate_left
  · have hj0 : j = 0 := by omega
    have d : decide ((0 : Int) < (j : Int)) = false := decide_eq_false (by omega)
    have d' : decide (0 < j) = false := decide_eq_false (by omega)
    simp -dsimp -implicitDefEqProofs [-getElem?_pos, go_sem, hP, d, d']
    simp -dsimp -implicitDefEqProofs [-getElem?_pos, go_sem, hP, t109, wj]
    exact fin _ (by simp -dsimp -implicitDefEqProofs [-getElem?_pos, go_sem]) (by simp -dsimp -implicitDefEqProofs [-getElem?_pos, go_sem]) (by simp -dsimp -implicitDefEqProofs [-getElem?_pos, go_sem]) (by simp -dsimp -implicitDefEqProofs [-getElem?_pos, go_sem]) (by simp -dsimp -implicitDefEqProofs [-getElem?_pos, go_sem])
  have d : decide ((0 : Int) < (j : Int)) = true := decide_eq_true (by omega)
  obtain ⟨y, hy⟩ : ∃ y, P[j - 1]? = some y := ⟨_, List.getElem?_eq_getElem (by omega)⟩
  have w1 : IntKind.i64.wrap ((j : Int) - 1) = ((j - 1 : Nat) : Int) := by rw [wrap_in _ (by omega)]; omega
  have hb : befB y x = true := by
    obtain ⟨q1, rfl⟩ := List.getElem?_eq_some_iff.1 hy
    obtain ⟨q2, rfl⟩ := List.getElem?_eq_some_iff.1 hx
    exact befB_iff.2 (List.pairwise_iff_getElem.1 hord (j - 1) j q1 q2 (by omega))
  have bf := rbefore_pf y x
  rw [hb, cPy, cPy] at bf
  have ix := imm_pay x
  have iy := imm_pay y
  rw [cPy] at ix iy
  simp -dsimp -implicitDefEqProofs [-getElem?_pos, go_sem, hP, d, c, t13, e3, gt3', w1, hy, cPy, ← hn', en, gtn]
  refine callB_is (bf.lift _ _) hP en_21 (by simpa using ⟨iy, ix⟩) .sc ?_
  simp -dsimp -implicitDefEqProofs [-getElem?_pos, go_sem, hP]
  simp -dsimp -implicitDefEqProofs [-getElem?_pos, go_sem, hP, t109, wj]
  exact fin _ (by simp -dsimp -implicitDefEqProofs [-getElem?_pos, go_sem]) (by simp -dsimp -implicitDefEqProofs [-getElem?_pos, go_sem]) (by simp -dsimp -implicitDefEqProofs [-getElem?_pos, go_sem]) (by simp -dsimp -implicitDefEqProofs [-getElem?_pos, go_sem]) (by simp -dsimp -implicitDefEqProofs [-getElem?_pos, go_sem])
end Go.Proofs.Ytmpncdlhmknkoaa
