/- Several texts of this claim, joined: Rec8 RecSane AccBent RecBent Law26f. -/
import Derived.Test.YtmpncdlhmknkoaaGreatPk8
set_option linter.unusedSimpArgs false
set_option linter.unusedVariables false
namespace Go.Proofs.YtmpncdlhmknkoaaGreat
open Go.PA
open Go.RowKit
set_option maxRecDepth 8000 in
set_option maxHeartbeats 2000000 in
theorem insert_m_item {row src : Option Nat} (es : List (List AV)) (e : List AV) (i id : Nat) (H : Heap) (hi : i ≤ es.length) (hl : es.length ≤ 100000) (ho : H[id]? = some (some ⟨46, 7, es⟩)) (he0 : e ≠ []) :
  MFun Tryz.prog row src 72 [.sref id 0 es.length, iv i, .list 7 [e]] H (fun r H' => ∃ jd, r = .sref jd 0 (es.length + 1) ∧ (jd = id ∨ H.length ≤ jd) ∧ H'[jd]? = some (some ⟨46, 7, es.take i ++ e :: es.drop i⟩) ∧ Kept [id] H H') := by
 obtain ⟨C, hC⟩ : ∃ C : AV → Heap → Prop, C = fun r H' => ∃ jd, r = .sref jd 0 (es.length + 1) ∧ (jd = id ∨ H.length ≤ jd) ∧ H'[jd]? = some (some ⟨46, 7, es.take i ++ e :: es.drop i⟩) ∧ Kept [id] H H' := ⟨_, rfl⟩
 rw [← hC]
 have ex : ∃ r H', C r H' := by
  rw [hC]
  exact ⟨.sref H.length 0 (es.length + 1), H ++ [some ⟨46, 7, es.take i ++ e :: es.drop i⟩], H.length, rfl, .inr (Nat.le_refl _), by simp, kept_app _ _ _⟩
 have lid := (gsI ho)
 obtain ⟨n, hn⟩ : ∃ n, n = es.length := ⟨_, rfl⟩
 rw [← hn] at hi hl hC ⊢
 by_cases hin : i = n
 ·subst hin
  refine mfun_intro Tryz.func72 rfl (by simp [Tryz.f72]) (by kernel_rfl) (ex) ?_
  intro E hP hr hs hN
  by_cases h0 : i = 0
  ·subst h0
   simp -dsimp -implicitDefEqProofs [-getElem?_pos, go_sem, hP, ho, ← hn, asliceOp, bound, aslice]
   rw [hC]
   exact ⟨H.length, rfl, .inr (Nat.le_refl _), by simp -dsimp [-getElem?_pos, go_sem, List.eq_nil_of_length_eq_zero hn.symm], (kept_set none (by simp) (kept_refl _ _)).trans (kept_app _ _ _)⟩
  ·simp -dsimp -implicitDefEqProofs [-getElem?_pos, go_sem, hP, ho, ← hn, h0, asliceOp, bound, aslice]
   refine ⟨by omega, by omega, ?_⟩
   rw [hC]
   exact ⟨H.length, rfl, .inr (Nat.le_refl _), by simp -dsimp [-getElem?_pos, go_sem, hn], (kept_set none (by simp) (kept_refl _ _)).trans (kept_app _ _ _)⟩
 ·have hlt : i < n := by omega
  have hin' : ¬ (i : Int) = n := by omega
  have w1 := wrap_in ((n : Int) + 1) (by omega)
  have w2 := wrap_in ((i : Int) + 1) (by omega)
  have w3 := wrap_in ((n : Int) + 1 - i) (by omega)
  have hesne : es ≠ [] := by intro e0; simp [e0] at hn; omega
  refine mfun_unfull (C := fun r H' => C r H' ∨ ∃ N, r = .full id 0 (n + 1) N ∧ ∃ o, H'[id]? = some (some o) ∧ n + 1 ≤ o.es.length ∧ C (.sref id 0 (n + 1)) H') ?_ (fun r H' h => ?_)
  rotate_left
  ·rcases h with h | ⟨N, h1, o, h2, h3, h4⟩
   ·exact .inl h
   ·exact .inr ⟨id, n + 1, N, o, h1, h2, h3, h4⟩
  refine mfun_full ho hesne (by dsimp only; omega) fun N hN0 => ?_
  dsimp only at hN0
  obtain ⟨D, hD⟩ : ∃ D : AV → Heap → Prop, D = fun r H' => C r H' ∨ ∃ N, r = .full id 0 (n + 1) N ∧ ∃ o, H'[id]? = some (some o) ∧ n + 1 ≤ o.es.length ∧ C (.sref id 0 (n + 1)) H' := ⟨_, rfl⟩
  rw [← hD]
  have exD : ∃ r H', D r H' := by
   obtain ⟨r, H', h⟩ := ex
   rw [hD]
   exact ⟨r, H', .inl h⟩
  have fx : ∀ (id n N : Nat), (if i = 0 then some (AV.full id 0 n N) else some (AV.full id i (n - i) N)) = some (.full id i (n - i) N) := fun id n N => by
   split
   ·subst i; rfl
   ·rfl
  have nN : n ≤ N := by omega
  have iN : i ≤ N := by omega
  have a1 : (0 : Int) ≤ (n : Int) + 1 := by omega
  have a3 : (0 : Int) ≤ (i : Int) + 1 := by omega
  have a4 : (i : Int) + 1 ≤ (n : Int) + 1 := by omega
  refine mfun_intro Tryz.func72 rfl (by simp [Tryz.f72]) (by kernel_rfl) (exD) ?_
  intro E hP hr hs hN
  by_cases hroom : N < n + 1
  ·have dN : decide ((N : Int) < (n : Int) + 1) = true := decide_eq_true (by omega)
   obtain ⟨zs, hz⟩ := Option.isSome_iff_exists.1 (show (zeros Tryz.prog 46).isSome = true by kernel_rfl)
   have hbt : bytesOf Tryz.prog 46 = 56 := by kernel_rfl
   have hm : (n : Int) + 1 - i = ((n + 1 - i : Nat) : Int) := by omega
   have sx : ∀ (id n : Nat), (if i = 0 then some (AV.sref id 0 n) else some (AV.sref id i (n - i))) = some (.sref id i (n - i)) := fun id n => by
    split
    ·subst i; rfl
    ·rfl
   simp -dsimp -implicitDefEqProofs [-getElem?_pos, go_sem, hP, dN, ho, ← hn, hin, hin', asliceOp, bound, aslice, w1, w2, w3, hroom, hi, nN, iN, a1, a3, a4, fx]
   refine buiB_makeE (e := 46) (m := n + 1 - i) (L := n + 1) (kn := .i64) (zs := zs) ho (by rw [hP]; kernel_rfl) (by rw [hP]; kernel_rfl) (by rw [hP]; kernel_rfl) (by omega) rfl (by rw [hP]; exact hz) (by omega) hm (by omega) (by omega) hroom (by omega) (by rw [hP, hbt]; omega) ?_
   have ho2 : (H ++ [some (⟨46, 7, es.take i ++ List.replicate (n + 1 - i) zs⟩ : AObj)])[id]? = some (some ⟨46, 7, es⟩) := by rw [List.getElem?_append_left lid]; exact ho
   have hl1 : (es.take i ++ List.replicate (n + 1 - i) zs).length = n + 1 := by simp; omega
   have a7 : (i : Int) ≤ (n : Int) + 1 := by omega
   have a8 : ¬ ((i : Int) = (n : Int) + 1) := by omega
   have a9 : i ≤ n + 1 := by omega
   have a10 : ¬ i = n + 1 := by omega
   have hA : (es.take i).length = i := by simp; omega
   have d1 : (es.take i ++ List.replicate (n + 1 - i) zs).drop (i + 1) = List.replicate (n - i) zs := by
    rw [List.drop_append, List.drop_of_length_le (by omega), hA, List.nil_append, List.drop_replicate]
    congr 1
    omega
   simp -dsimp -implicitDefEqProofs [-getElem?_pos, go_sem, hP, ho2, asliceOp, bound, aslice, a7, a8, a9, a10, sx]
   refine buiB_copyE (e := 46) (ty := 46) (k := 7) (lo := i) (dn := n + 1 - i) (m := 1) (es := es.take i ++ List.replicate (n + 1 - i) zs) (news := [e]) (es' := es.take i ++ e :: List.replicate (n - i) zs) (by simp) (.inl rfl) (by rw [hP]; kernel_rfl) (by rw [hP]; kernel_rfl) (by omega) (by rw [hP]; kernel_rfl) ?_ rfl (by omega) (by omega) (by simp; omega) ?_ ?_
   ·simp only [srcEs]
    rw [if_pos (by rw [hP]; kernel_rfl)]
   ·rw [d1, List.take_append_of_le_length (by omega), List.take_of_length_le (by omega)]
    simp
   have ho3 : (H ++ [some (⟨46, 7, es.take i ++ e :: List.replicate (n - i) zs⟩ : AObj)])[id]? = some (some ⟨46, 7, es⟩) := by rw [List.getElem?_append_left lid]; exact ho
   have a5 : ¬ ((i : Int) + 1 = 0) := by omega
   have a6 : ((n : Int) + 1 - ((i : Int) + 1)).toNat = n - i := by omega
   have a11 : ¬ ((i : Int) + 1 = (n : Int) + 1) := by omega
   simp -dsimp -implicitDefEqProofs [-getElem?_pos, go_sem, hP]
   refine adrawB (fun _ => true) [8] hP (by kernel_rfl) (by kernel_rfl) ?_
   simp -dsimp -implicitDefEqProofs [-getElem?_pos, go_sem, hP, ho3, ← hn, hin, hin', asliceOp, bound, aslice, w1, w2, hi, nN, iN, a1, a3, a4, a5, a6, a7, a8, a11, fx, sx]
   refine buiB_copyE (e := 46) (ty := 46) (k := 7) (lo := i + 1) (dn := n - i) (m := n - i) (es := es.take i ++ e :: List.replicate (n - i) zs) (news := es.drop i) (es' := es.take i ++ e :: es.drop i) (by simp) (.inl rfl) (by rw [hP]; kernel_rfl) (by rw [hP]; kernel_rfl) (by omega) (by rw [hP]; kernel_rfl) ?_ (by simp [← hn]) (by omega) (by omega) (by simp; omega) ?_ ?_
   ·simp only [srcEs, ho3]
    rw [if_pos ⟨by rw [hP]; kernel_rfl, by omega⟩, List.take_of_length_le (by simp; omega)]
   ·rw [show es.take i ++ e :: List.replicate (n - i) zs = (es.take i ++ [e]) ++ List.replicate (n - i) zs from by simp, List.take_append_of_le_length (by simp; omega), List.take_of_length_le (by simp; omega), List.drop_of_length_le (show ((es.take i ++ [e]) ++ List.replicate (n - i) zs).length ≤ i + 1 + (n - i) by simp; omega)]
    simp
   simp -dsimp -implicitDefEqProofs [-getElem?_pos, go_sem, hP]
   rw [hD, hC]
   exact .inl ⟨H.length, rfl, .inr (Nat.le_refl _), by simp, kept_app _ _ _⟩
  ·have dN : decide ((N : Int) < (n : Int) + 1) = false := decide_eq_false (by omega)
   have a2 : (n : Int) + 1 ≤ N := by omega
   have a5 : ¬ ((i : Int) + 1 = 0) := by omega
   have a6 : ((n : Int) + 1 - ((i : Int) + 1)).toNat = n - i := by omega
   have a7 : (i : Int) ≤ (n : Int) + 1 := by omega
   have a8 : ¬ ((i : Int) = (n : Int) + 1) := by omega
   simp -dsimp -implicitDefEqProofs [-getElem?_pos, go_sem, hP, dN, ho, ← hn, hin, hin', asliceOp, bound, aslice, w1, w2, w3, hroom, hi, nN, iN, a1, a2, a3, a4, a5, a6, a7, a8, fx]
   refine callB_overlapsL (t := 33) (e := 46) (tR := 4) (fn := Tryz.f141) (id' := id) (lo' := i + 1) (dn' := n - i) (by rw [hP]; exact Tryz.func141) (by kernel_rfl) (by kernel_rfl) (by kernel_rfl) (by kernel_rfl) (by rw [hP]; kernel_rfl) (by rw [hP]; kernel_rfl) he0 (.inr ⟨N, rfl⟩) ho (by omega) ?_
   simp -dsimp -implicitDefEqProofs [-getElem?_pos, go_sem, hP]
   refine adrawB (fun _ => true) [8] hP (by kernel_rfl) (by kernel_rfl) ?_
   simp -dsimp -implicitDefEqProofs [-getElem?_pos, go_sem, hP, dN, ho, ← hn, hin, hin', asliceOp, bound, aslice, w1, w2, w3, hroom, hi, nN, iN, a1, a2, a3, a4, a5, a6, a7, a8, fx]
   refine buiB_copyS (e := 46) (lo := i + 1) (dn := n - i) (news := es.drop i) (es' := es.take (i + 1) ++ es.drop i) ho (.inr ⟨N, rfl⟩) (by rw [hP]; kernel_rfl) (by rw [hP]; kernel_rfl) (by omega) (by rw [hP]; kernel_rfl) ?_ (by simp [← hn]) (by omega) (by omega) (by omega) (by rw [List.drop_of_length_le (show es.length ≤ i + 1 + (n - i) by omega), List.append_nil]) ?_
   ·simp only [srcEs, ho]
    rw [if_pos ⟨by rw [hP]; kernel_rfl, by omega⟩, List.take_of_length_le (by simp; omega)]
   simp -dsimp -implicitDefEqProofs [-getElem?_pos, go_sem, hP, lid, ho, asliceOp, bound, aslice, a2, a7, a8, fx]
   refine buiB_copyE (e := 46) (ty := 46) (k := 7) (lo := i) (dn := n + 1 - i) (m := 1) (es := es.take (i + 1) ++ es.drop i) (news := [e]) (es' := es.take i ++ e :: es.drop i) (by simp [lid]) (.inr ⟨N, rfl⟩) (by rw [hP]; kernel_rfl) (by rw [hP]; kernel_rfl) (by omega) (by rw [hP]; kernel_rfl) ?_ rfl (by omega) (by omega) (by simp [← hn]; omega) ?_ ?_
   ·simp only [srcEs]
    rw [if_pos (by rw [hP]; kernel_rfl)]
   ·rw [List.take_append_of_le_length (by simp; omega), List.take_take, Nat.min_eq_left (by omega), List.drop_append_of_le_length (by simp; omega), List.drop_of_length_le (by simp; omega)]
    simp
   simp -dsimp -implicitDefEqProofs [-getElem?_pos, go_sem, hP, lid]
   rw [hD, hC]
   simp only [List.set_set]
   exact .inr ⟨N, rfl, ⟨46, 7, es.take i ++ e :: es.drop i⟩, by simp [lid], by simp [← hn]; omega, id, rfl, .inl rfl, by simp [lid], kept_set _ (by simp) (kept_refl _ _)⟩
theorem order1_pf (e : TEntry) (p : TPayment) : PFun Tryz.prog none none 71 [.agg e.cells, .iref p.cells] (· = bv (refB p.Warrant e)) := by
 refine pfun_intro Tryz.func71 rfl (by simp [Tryz.f71]) (by kernel_rfl) ?_
 intro E hP hr hs hW hN
 simp -dsimp -implicitDefEqProofs [-getElem?_pos, go_sem, hP, cE, cPy, refB]
theorem ltI_cut {l : List TItem} {y : TItem} {k : Nat} (hk : CutI l y.Payment.Warrant k) : ins ltI l y = l.take k ++ y :: l.drop k := by
 obtain ⟨A, B, h1, h2, h3, h4⟩ := ins_split ltI l y
 have : A.length = k := by
  refine CutI.uniq (l := l) (w := y.Payment.Warrant) ⟨by rw [h1]; simp, fun h x hx => ?_⟩ hk
  by_cases c : h < A.length
  ·rw [h1, List.getElem?_append_left c] at hx
   exact ⟨fun _ => c, fun _ => by simpa [ltI] using h3 x (List.mem_of_getElem? hx)⟩
  ·refine ⟨fun hb => ?_, fun hc => absurd hc c⟩
   have hAk := (hk.2 h x hx).1 hb
   have hlt : A.length < l.length := by have := hk.1; omega
   obtain ⟨z, hz⟩ : ∃ z, l[A.length]? = some z := ⟨_, List.getElem?_eq_getElem hlt⟩
   have hz1 := (hk.2 A.length z hz).2 (by omega)
   have hzB : B.head? = some z := by
    rw [h1, List.getElem?_append_right (Nat.le_refl _), Nat.sub_self] at hz
    rw [List.head?_eq_getElem?]
    exact hz
   have := h4 z hzB
   rw [ltI, decide_eq_true hz1] at this
   cases this
 subst this
 rw [h2, h1]
 simp
set_option maxHeartbeats 2000000 in
theorem rorder_pf (d : TDesk) (p : TPayment) (hf : FitD d) : PFun Tryz.prog none none 27 [.agg d.cells, .agg p.cells] (· = .tup [.agg (orderD d p).1.cells, iv (orderD d p).2]) := by
 refine pfun_introA Tryz.func27 rfl (by simp [Tryz.f27]) ?_
 intro E hP hr hs hW hN
 have li := hf.i
 have id' := imm_desk d
 have ia := imm_acc d.Account
 have ie := imm_ents d.Account.Entries
 have iq := imm_que d.Queue
 have ip := imm_pay p
 have ck := dcheck_pf d hf
 have ad := badd_pf d.Queue p hf.q
 have io := imm_que (addQ d.Queue p).1
 have bl := balance_pf d.Account p.Sub hf.s hf.e
 have ct := contains_pf_entry d.Account.Entries 71 [.iref p.cells] (refB p.Warrant) (by have := hf.e; omega) en_71 (by simp [imm_iref]; exact p.imm) fun e _ => order1_pf e p
 simp only [cDn] at id' ck
 simp only [cA] at ia bl
 simp only [cQn, cPy] at iq ip ad io ct
 refine awp_sound _ _ _ (by rw [hN]; kernel_rfl) ?_
 simp -dsimp -implicitDefEqProofs [-getElem?_pos, go_sem, hP, cDn, cPy]
 refine callB_is (ck.lift _ _) hP en_13 (by simpa using id') .sc ?_
 by_cases c1 : checkD d = 0
 rotate_left
 ·have : orderD d p = (zeroD, checkD d) := by rw [orderD, if_neg c1]
  simp -dsimp -implicitDefEqProofs [-getElem?_pos, go_sem, hP, c1]
  refine done_zeroD ?_
  rw [this]
 have hd := checkD_iff.1 c1
 simp -dsimp -implicitDefEqProofs [-getElem?_pos, go_sem, hP, c1]
 refine callB_is (ad.lift _ _) hP en_69 (by simpa using ⟨iq, ip⟩) (imm_pair io .sc) ?_
 by_cases c2 : (addQ d.Queue p).2 = 0
 rotate_left
 ·have : orderD d p = (zeroD, (addQ d.Queue p).2) := by rw [orderD, if_pos c1, if_neg c2]
  have d2 := decide_eq_false c2
  simp -dsimp -implicitDefEqProofs [-getElem?_pos, go_sem, hP, d2]
  refine done_zeroD ?_
  rw [this]
 simp -dsimp -implicitDefEqProofs [-getElem?_pos, go_sem, hP, c2]
 refine callB_is (bl.lift _ _) hP en_70 (by simpa [imm_sc] using ia) (imm_pair .sc .sc) ?_
 cases c3 : (balanceA d.Account p.Sub).2
 ·have : orderD d p = (zeroD, 60) := by rw [orderD, if_pos c1, if_pos c2, if_neg (by simp [c3])]
  simp -dsimp -implicitDefEqProofs [-getElem?_pos, go_sem, hP, c3]
  refine done_zeroD ?_
  rw [this]
 simp -dsimp -implicitDefEqProofs [-getElem?_pos, go_sem, hP, c3]
 refine callB_pure ct hP en_66 (args_imm ie (args_fnc (cs := [.ref 1 0 0]) (by simp -dsimp [-getElem?_pos, go_sem, viewR_ref]) (by simp [imm_iref, imm_sc]) (args_nil.2 trivial))) .sc ?_
 cases c4 : d.Account.Entries.any (refB p.Warrant)
 rotate_left
 ·have : orderD d p = (zeroD, 65) := by rw [orderD, if_pos c1, if_pos c2, if_pos c3, if_pos c4]
  simp -dsimp -implicitDefEqProofs [-getElem?_pos, go_sem, hP, c4]
  refine done_zeroD ?_
  rw [this]
 have hor : orderD d p = (⟨d.Account, (addQ d.Queue p).1, ins ltI d.Items ⟨p, 1, 0⟩⟩, 0) := by rw [orderD, if_pos c1, if_pos c2, if_pos c3, if_neg (by simp [c4])]
 rw [hor]
 simp -dsimp -implicitDefEqProofs [-getElem?_pos, go_sem, hP, c4]
 have cm := fun {row src : Option Nat} (H : Heap) => copied26_m (row := row) (src := src) d H hf
 simp only [cDn] at cm
 refine callB_m (by rw [hr, hs]; exact cm _) hP en_59 ?_
 rintro r H2 ⟨id, rfl, hid, ho, hk'⟩
 have b0 := hk' 0 _ (by simp) rfl
 have b1 := hk' 1 _ (by simp) rfl
 have b2 := hk' 2 _ (by simp) rfl
 have b3 := hk' 3 _ (by simp) rfl
 have lt0 := (gsI b0)
 have hid2 : 4 ≤ id := by simpa using hid
 have n0 : ¬ 0 = id := by omega
 have lt1 := (gsI b1)
 simp -dsimp -implicitDefEqProofs [-getElem?_pos, go_sem, hP, b0, lt0, n0, b1, lt1]
 generalize hH3 : List.set H2 0 _ = H3
 have e0 : H3[0]? = some (some (ownO d.Account d.Queue id d.Items.length)) := by rw [← hH3, List.getElem?_set_self lt0]
 have e1 : H3[1]? = H2[1]? := by rw [← hH3, List.getElem?_set_ne (by omega)]
 have e2 : H3[2]? = H2[2]? := by rw [← hH3, List.getElem?_set_ne (by omega)]
 have e3 : H3[3]? = H2[3]? := by rw [← hH3, List.getElem?_set_ne (by omega)]
 have ei : H3[id]? = H2[id]? := by rw [← hH3, List.getElem?_set_ne (by omega)]
 rw [b1] at e1
 rw [b2] at e2
 rw [b3] at e3
 rw [ho] at ei
 clear hH3 b0 b1 b2 b3 lt0 lt1 hk'
 have g0 := (gsI e0)
 have g1 := (gsI e1)
 have g2 := (gsI e2)
 have g3 := (gsI e3)
 have pl := place_pf d p.Warrant (by omega)
 simp only [cDn] at pl
 have i1 := imm_subs d.Account.Subs
 have i2 := imm_pays d.Queue.Waiting
 have i3 := imm_nums d.Queue.Known
 have i4 := imm_bats d.Queue.Batches
 have i5 := imm_items d.Items
 have cw : CW H3 [iv d.Account.Credit, subsL d.Account.Subs, entsL d.Account.Entries, paysL d.Queue.Waiting, numsL d.Queue.Known, batsL d.Queue.Batches, .sref id 0 d.Items.length] [iv d.Account.Credit, subsL d.Account.Subs, entsL d.Account.Entries, paysL d.Queue.Waiting, numsL d.Queue.Known, batsL d.Queue.Batches, itemsL d.Items] := cw_sc (cw_imm i1 (cw_imm ie (cw_imm i2 (cw_imm i3 (cw_imm i4 (cw_sref ei (by rw [encL_len]) i5 .nil))))))
 refine callB_flat (pl.lift _ _) hP en_56 (args_agg cw (args_imm .sc (args_nil.2 trivial))) (by obtain ⟨r, h, _⟩ := placeQ_ex d.Items p.Warrant; exact ⟨r, h⟩) (fun r h => h.flat) ?_
 rintro r ⟨k, hk, rfl, hcut⟩
 obtain ⟨k', hk1, hk2⟩ := place_cut hd.ks p.Warrant
 have := hcut k' hk1
 subst this
 have hins := ltI_cut (y := ⟨p, 1, 0⟩) hk1
 generalize decide ((d.Items[k]?).map wrt = some p.Warrant) = bb
 simp -dsimp -implicitDefEqProofs [-getElem?_pos, go_sem, hP]
 refine adrawB (fun i => decide (i = 0) || decide (i = 1) || decide (i = 3)) [9, 11] hP (by kernel_rfl) (by kernel_rfl) ?_
 simp -dsimp -implicitDefEqProofs [-getElem?_pos, go_sem, hP, e0, g0, e1, g1, e3, g3]
 have insm := fun {row src : Option Nat} => insert_m_item (row := row) (src := src) (encL TItem.cells d.Items) [iv p.Warrant, iv p.Payee, iv p.Amount, iv p.Due, iv p.Sub, iv 1, iv 0] k id H3 (by rw [encL_len]; exact hk) (by rw [encL_len]; omega) ei (by simp)
 rw [encL_len] at insm
 refine callB_m (by rw [hr, hs]; exact insm) hP en_72 ?_
 rintro r H4 ⟨jd, rfl, hjd, hoj, hk4⟩
 have f0 := hk4 0 _ (by simp; omega) e0
 have f1 := hk4 1 _ (by simp; omega) e1
 have f2 := hk4 2 _ (by simp; omega) e2
 have f3 := hk4 3 _ (by simp; omega) e3
 have m0 := (gsI f0)
 have m2 := (gsI f2)
 have eIt : (encL TItem.cells d.Items).take k ++ [iv p.Warrant, iv p.Payee, iv p.Amount, iv p.Due, iv p.Sub, iv 1, iv 0] :: (encL TItem.cells d.Items).drop k = encL TItem.cells (ins ltI d.Items ⟨p, 1, 0⟩) := by
  rw [hins, encL_takeE, encL_dropE]
  simp [encL, cIt]
 rw [eIt] at hoj
 have hjd4 : 4 ≤ jd := by omega
 have nj0 : ¬ 0 = jd := by omega
 have nj2 : ¬ 2 = jd := by omega
 have n20 : ¬ 2 = 0 := by omega
 have aD : Agree (fun i => decide (i = 0) || decide (i = 1) || decide (i = 3)) H3 H4 := agree_live hk4 fun i hi => by
  simp only [Bool.or_eq_true, decide_eq_true_eq] at hi
  refine ⟨by simp; omega, ?_⟩
  rcases hi with (rfl | rfl) | rfl
  ·exact ⟨_, e0⟩
  ·exact ⟨_, e1⟩
  ·exact ⟨_, e3⟩
 simp -dsimp -implicitDefEqProofs [-getElem?_pos, go_sem, hP, f0, m0]
 refine ⟨aD, ?_⟩
 simp -dsimp -implicitDefEqProofs [-getElem?_pos, go_sem, hP, f0, m0, f2, m2]
 refine done_agg2 (cs' := TDesk.cells ⟨d.Account, (addQ d.Queue p).1, ins ltI d.Items ⟨p, 1, 0⟩⟩) ?_ rfl
 refine cw_sc (cw_imm i1 (cw_imm ie (cw_imm (imm_pays _) (cw_imm (imm_nums _) (cw_imm (imm_bats _) (cw_sref (ty := 46) ?_ ?_ (imm_items _) .nil))))))
 ·rw [List.getElem?_set_ne nj2, List.getElem?_set_ne nj0]
  exact hoj
 ·rw [encL_len, ins_len]
open Go.PA
open Go.RowKit
def fA0 : TAccount := newA [1] 0
def fE : TEntry := ⟨1, 0, 0, 1, 100, 0⟩
def fA : TAccount := ⟨0, [⟨1, 100⟩], [fE]⟩
theorem f_open : openA [1] 0 = (fA0, 0) := by kernel_rfl
theorem f_next : nextE fA0 0 0 1 100 0 = fE := by kernel_rfl
theorem f_post : postA fA0 fE = (fA, 0) := by kernel_rfl
theorem funds_pf : PFun Tryz.prog none none 25 [] (· = .agg fA.cells) := by
 refine pfun_intro Tryz.func25 rfl (by simp [Tryz.f25]) (by kernel_rfl) ?_
 intro E hP hr hs hW hN
 have op := open23_pf [1] 0 (by simp)
 rw [f_open] at op
 have nx := next23_pf fA0 0 0 1 100 0 (by simp [fA0, newA])
 rw [f_next] at nx
 have po := post23_pf fA0 fE (by simp [fA0, newA, newS]) (by simp [fA0, newA])
 rw [f_post] at po
 have i0 := imm_acc fA0
 have i1 := imm_acc fA
 have ie := imm_ent fE
 simp only [cA] at op nx po i0 i1
 have op : PFun Tryz.prog none none 48 [.list 1 [[iv 1]], iv 0] (· = .tup [.agg [iv fA0.Credit, subsL fA0.Subs, entsL fA0.Entries], iv 0]) := op
 simp -dsimp -implicitDefEqProofs [-getElem?_pos, go_sem, hP]
 refine callB_is (op.lift _ _) hP en_48 (by simp [imm_sc, imm_list]) (imm_pair i0 .sc) ?_
 simp -dsimp -implicitDefEqProofs [-getElem?_pos, go_sem, hP]
 refine adrawQ (fun i => decide (i < 2)) [7] [2, 3] hP (by kernel_rfl) (by kernel_rfl) ?_
 simp -dsimp -implicitDefEqProofs [-getElem?_pos, go_sem, hP]
 refine callQ_is (nx.lift _ _) hP en_51 (by simpa [imm_sc] using i0) ie ?_
 simp -dsimp -implicitDefEqProofs [-getElem?_pos, go_sem, hP]
 refine callQ_is (po.lift _ _) hP en_50 (by simpa using ⟨i0, ie⟩) (imm_pair i1 .sc) ?_
 simp -dsimp -implicitDefEqProofs [-getElem?_pos, go_sem, hP]
 exact done_imm i1 rfl
def sPay : TPayment := ⟨5, 1, 60, 0, 1⟩
def sD0 : TDesk := (openD fA).1
def sD1 : TDesk := (orderD sD0 sPay).1
def sD2 : TDesk := (sendD sD1 0).1
def sD3 : TDesk := (returnD sD2 5 1).1
def sD4 : TDesk := (againD sD3 5 1).1
def sD5 : TDesk := (sendD sD4 2).1
theorem s_0 : (openD fA).2 = 0 := by kernel_rfl
theorem s_1 : (orderD sD0 sPay).2 = 0 := by kernel_rfl
theorem s_2 : (sendD sD1 0).2.2 = 0 := by kernel_rfl
theorem s_3 : (returnD sD2 5 1).2 = 0 := by kernel_rfl
theorem s_4 : (againD sD3 5 1).2 = 0 := by kernel_rfl
theorem s_5 : (sendD sD4 2).2.2 = 0 := by kernel_rfl
theorem s_len : sD5.Items.length = 1 := by kernel_rfl
theorem s_att : (sD5.Items[0]?).map (·.Attempts) = some 2 := by kernel_rfl
theorem s_ents : sD5.Account.Entries.length = 4 := by kernel_rfl
theorem s_state : stateD sD5 5 = 2 := by kernel_rfl
theorem s_ok0 : DOk sD0 := by
 have h := openD_ok s_0
 rw [sD0, h.1]
 exact h.2.2.2
theorem s_ok1 : DOk sD1 := (orderD_ok (x := sD1) (p := sPay) (d := sD0) (Prod.ext rfl s_1)).2.2.2.2
theorem send_DOk {d : TDesk} {day : Int} (h : (sendD d day).2.2 = 0) : DOk (sendD d day).1 := by
 obtain ⟨_, _, _, _, ps, a, _, _, _, _, _, _, _, _, h⟩ := sendD_ok (x := (sendD d day).1) (b := (sendD d day).2.1) (d := d) (day := day) (Prod.ext rfl (Prod.ext rfl h))
 exact h
theorem s_ok2 : DOk sD2 := send_DOk s_2
theorem s_ok3 : DOk sD3 := (returnD_ok (x := sD3) (d := sD2) (w := 5) (day := 1) (Prod.ext rfl s_3)).2.2
theorem s_ok4 : DOk sD4 := (againD_ok (x := sD4) (d := sD3) (w := 5) (due := 1) (Prod.ext rfl s_4)).2.2
theorem s_ok5 : DOk sD5 := send_DOk s_5
set_option maxHeartbeats 1000000 in
theorem sane26_pf : PFun Tryz.prog none none 15 [] (· = bv true) := by
 refine pfun_intro Tryz.func15 rfl (by simp [Tryz.f15]) (by kernel_rfl) ?_
 intro E hP hr hs hW hN
 have fu := funds_pf
 have op := ropen_pf fA (by simp [fA]) (by simp [fA])
 have o1 := rorder_pf sD0 sPay s_ok0.fit
 have o2 := rsend_pf sD1 0 s_ok1.fit
 have o3 := rreturn_pf sD2 5 1 s_ok2.fit
 have o4 := ragain_pf sD3 5 1 s_ok3.fit
 have o5 := rsend_pf sD4 2 s_ok4.fit
 have o6 := rstate_pf sD5 5 s_ok5.fit
 rw [s_0, ← sD0] at op
 rw [s_1, ← sD1] at o1
 rw [s_2, ← sD2] at o2
 rw [s_3, ← sD3] at o3
 rw [s_4, ← sD4] at o4
 rw [s_5, ← sD5] at o5
 rw [s_state] at o6
 have ifa := imm_acc fA
 have i0 := imm_desk sD0
 have i1 := imm_desk sD1
 have i2 := imm_desk sD2
 have i3 := imm_desk sD3
 have i4 := imm_desk sD4
 have i5 := imm_desk sD5
 have ip := imm_pay sPay
 have eP : sPay.cells = [iv 5, iv 1, iv 60, iv 0, iv 1] := rfl
 have ib2 := imm_bat (sendD sD1 0).2.1
 have ib5 := imm_bat (sendD sD4 2).2.1
 obtain ⟨b2, hb2⟩ : ∃ b, b = (sendD sD1 0).2.1 := ⟨_, rfl⟩
 obtain ⟨b5, hb5⟩ : ∃ b, b = (sendD sD4 2).2.1 := ⟨_, rfl⟩
 rw [← hb2] at o2 ib2
 rw [← hb5] at o5 ib5
 have sl := s_len
 have se := s_ents
 obtain ⟨x, hx, hxa⟩ : ∃ x, sD5.Items[0]? = some x ∧ x.Attempts = 2 := by
  have := s_att
  cases h : sD5.Items[0]? with
  | none => rw [h] at this; cases this
  | some x => rw [h] at this; exact ⟨x, rfl, Option.some.inj this⟩
 generalize sD0 = D0 at *
 generalize sD1 = D1 at *
 generalize sD2 = D2 at *
 generalize sD3 = D3 at *
 generalize sD4 = D4 at *
 generalize sD5 = D5 at *
 simp only [cA, cDn, cBt, eP] at fu op o1 o2 o3 o4 o5 o6 ifa i0 i1 i2 i3 i4 i5 ip ib2 ib5
 simp -dsimp -implicitDefEqProofs [-getElem?_pos, go_sem, hP]
 refine callB_is (fu.lift _ _) hP en_25 (by simp) ifa ?_
 simp -dsimp -implicitDefEqProofs [-getElem?_pos, go_sem, hP]
 refine callB_is (op.lift _ _) hP en_24 (by simpa using ifa) (imm_pair i0 .sc) ?_
 simp -dsimp -implicitDefEqProofs [-getElem?_pos, go_sem, hP]
 refine callB_is (o1.lift _ _) hP en_27 (by simpa using ⟨i0, ip⟩) (imm_pair i1 .sc) ?_
 simp -dsimp -implicitDefEqProofs [-getElem?_pos, go_sem, hP]
 refine callB_is (o2.lift _ _) hP en_19 (by simpa [imm_sc] using i1) (imm_trip i2 ib2 .sc) ?_
 simp -dsimp -implicitDefEqProofs [-getElem?_pos, go_sem, hP]
 refine callB_is (o3.lift _ _) hP en_28 (by simpa [imm_sc] using i2) (imm_pair i3 .sc) ?_
 simp -dsimp -implicitDefEqProofs [-getElem?_pos, go_sem, hP]
 refine callB_is (o4.lift _ _) hP en_29 (by simpa [imm_sc] using i3) (imm_pair i4 .sc) ?_
 simp -dsimp -implicitDefEqProofs [-getElem?_pos, go_sem, hP]
 refine callB_is (o5.lift _ _) hP en_19 (by simpa [imm_sc] using i4) (imm_trip i5 ib5 .sc) ?_
 simp -dsimp -implicitDefEqProofs [-getElem?_pos, go_sem, hP, sl, se, hx, cIt, hxa]
 refine callB_is (o6.lift _ _) hP en_14 (by simpa [imm_sc] using i5) .sc ?_
 simp -dsimp -implicitDefEqProofs [-getElem?_pos, go_sem, hP]
open Go.PA
open Go.RowKit
theorem few_pf (a : TAccount) : PFun Tryz.prog none none 80 [.agg a.cells] (· = bv (decide (a.Subs.length ≤ 25) && decide (a.Entries.length ≤ 25))) := by
 refine pfun_intro Tryz.func80 rfl (by simp [Tryz.f80]) (by kernel_rfl) ?_
 intro E hP hr hs hW hN
 by_cases h1 : a.Subs.length ≤ 25
 ·have d1 : decide ((a.Subs.length : Int) ≤ 25) = true := decide_eq_true (by omega)
  have e1 : decide (a.Subs.length ≤ 25) = true := decide_eq_true h1
  by_cases h2 : a.Entries.length ≤ 25
  ·have d2 : decide ((a.Entries.length : Int) ≤ 25) = true := decide_eq_true (by omega)
   have e2 : decide (a.Entries.length ≤ 25) = true := decide_eq_true h2
   simp -dsimp -implicitDefEqProofs [-getElem?_pos, go_sem, hP, cA, d1, d2, e1, e2]
  ·have d2 : decide ((a.Entries.length : Int) ≤ 25) = false := decide_eq_false (by omega)
   have e2 : decide (a.Entries.length ≤ 25) = false := decide_eq_false h2
   simp -dsimp -implicitDefEqProofs [-getElem?_pos, go_sem, hP, cA, d1, d2, e1, e2]
 ·have d1 : decide ((a.Subs.length : Int) ≤ 25) = false := decide_eq_false (by omega)
  have e1 : decide (a.Subs.length ≤ 25) = false := decide_eq_false h1
  simp -dsimp -implicitDefEqProofs [-getElem?_pos, go_sem, hP, cA, d1, e1]
def BentOf (a : TAccount) (x : AV) : Prop := ∃ b : TAccount, x = .agg b.cells ∧ b.Subs.length ≤ a.Subs.length ∧ b.Entries.length ≤ a.Entries.length
set_option maxHeartbeats 2000000 in
theorem bentacc_pf (p : Nat) (src : Option Nat) (a : TAccount) (h1 : 1 ≤ a.Subs.length ∧ a.Subs.length ≤ 1000) (h2 : a.Entries.length ≤ 1000) : PFun Tryz.prog (some p) src 84 [sp p, .agg a.cells] (BentOf a) := by
 refine pfun_intro Tryz.func84 rfl (by simp [Tryz.f84]) (by kernel_rfl) ?_
 intro E hP hr hs hW hN
 have up : ∀ {f : FuncId} {args : List AV} {Q : AV → Prop}, PFun Tryz.prog (some p) src f args Q → PFun Tryz.prog E.row E.src f args Q := fun h => hr ▸ hs ▸ h
 have one : ∀ k, (∃ m : Int, iv k = iv m) := fun k => ⟨k, rfl⟩
 simp -dsimp -implicitDefEqProofs [-getElem?_pos, go_sem, hP, cA]
 refine ⟨by omega, by omega, by omega, by omega, ?_⟩
 refine callB_flat (up (N_pf p src 7 (by omega))) hP en_18 (args_same (by simp -dsimp [-getElem?_pos, go_sem])) (NQ_ex _) (NQ_flat _) ?_
 rintro r ⟨m, rfl, _, hm⟩
 have hm := hm (by omega)
 obtain ⟨es, hes⟩ : ∃ es, es = a.Entries := ⟨_, rfl⟩
 obtain ⟨l, hl⟩ : ∃ l, l = a.Subs := ⟨_, rfl⟩
 rw [← hl] at h1
 rw [← hes] at h2
 have BO : ∀ b : TAccount, b.Subs.length ≤ l.length → b.Entries.length ≤ es.length → BentOf a (.agg b.cells) := fun b q1 q2 => ⟨b, rfl, by rw [← hl]; exact q1, by rw [← hes]; exact q2⟩
 rw [← hl, ← hes]
 clear hl hes
 have seven : m = 0 ∨ m = 1 ∨ m = 2 ∨ (¬ m = 0 ∧ ¬ m = 1 ∧ ¬ m = 2) := by omega
 rcases seven with rfl | rfl | rfl | ⟨z0, z1, z2⟩
 ·simp -dsimp -implicitDefEqProofs [-getElem?_pos, go_sem, hP]
  refine callB_flat (up (odd_pf p src)) hP en_148 (args_same (by simp -dsimp [-getElem?_pos, go_sem])) ⟨iv 0, 0, rfl⟩ (by rintro r ⟨m, rfl⟩; exact .sc) ?_
  rintro r ⟨v, rfl⟩
  simp -dsimp -implicitDefEqProofs [-getElem?_pos, go_sem, hP]
  exact done_agg (cs' := (⟨v, l, es⟩ : TAccount).cells) (cw_sc (cw_sref rfl (by simp [encL]) (imm_subs _) (cw_sref rfl (by simp [encL]) (imm_ents _) .nil))) (BO _ (Nat.le_refl _) (Nat.le_refl _))
 ·simp -dsimp -implicitDefEqProofs [-getElem?_pos, go_sem, hP]
  refine adrawB (fun _ => true) [13] hP (by kernel_rfl) (by kernel_rfl) ?_
  simp -dsimp -implicitDefEqProofs [-getElem?_pos, go_sem, hP]
  refine callB_flat (up (N_pf p src l.length (by omega))) hP en_18 (args_same (by simp -dsimp [-getElem?_pos, go_sem])) (NQ_ex _) (NQ_flat _) ?_
  rintro r ⟨i, rfl, _, hi⟩
  have hi := hi (by omega)
  obtain ⟨i, rfl⟩ := Int.eq_ofNat_of_zero_le hi.1
  have hil : i < l.length := by omega
  obtain ⟨s, hs'⟩ : ∃ s, l[i]? = some s := ⟨_, List.getElem?_eq_getElem hil⟩
  have hlt : (i : Int) < l.length := by omega
  have set1 : (encL TSub.cells l).set i [iv s.ID, iv (IntKind.i64.wrap (s.Balance + 1))] = encL TSub.cells (l.set i ⟨s.ID, IntKind.i64.wrap (s.Balance + 1)⟩) := by rw [← encL_set]; rfl
  simp -dsimp -implicitDefEqProofs [-getElem?_pos, go_sem, hP, hlt, hs', TSub.cells, set1]
  exact done_agg (cs' := (⟨a.Credit, l.set i ⟨s.ID, IntKind.i64.wrap (s.Balance + 1)⟩, es⟩ : TAccount).cells) (cw_sc (cw_sref rfl (by simp [encL]) (imm_subs _) (cw_sref rfl (by simp [encL]) (imm_ents _) .nil))) (BO _ (by simp) (Nat.le_refl _))
 ·simp -dsimp -implicitDefEqProofs [-getElem?_pos, go_sem, hP]
  refine adrawB (fun _ => true) [12] hP (by kernel_rfl) (by kernel_rfl) ?_
  simp -dsimp -implicitDefEqProofs [-getElem?_pos, go_sem, hP]
  refine callB_flat (up (N_pf p src l.length (by omega))) hP en_18 (args_same (by simp -dsimp [-getElem?_pos, go_sem])) (NQ_ex _) (NQ_flat _) ?_
  rintro r ⟨i, rfl, _, hi⟩
  have hi := hi (by omega)
  obtain ⟨i, rfl⟩ := Int.eq_ofNat_of_zero_le hi.1
  have hil : i < l.length := by omega
  obtain ⟨s, hs'⟩ : ∃ s, l[i]? = some s := ⟨_, List.getElem?_eq_getElem hil⟩
  have hlt : (i : Int) < l.length := by omega
  simp -dsimp -implicitDefEqProofs [-getElem?_pos, go_sem, hP]
  refine callB_flat (up (pick_pf p src [0, 1, 5, 1001] (by simp))) hP en_49 (by simp [go_sem, intsL]) ⟨iv 0, 0, rfl, by simp⟩ (by rintro r ⟨m, rfl, _⟩; exact .sc) ?_
  rintro r ⟨v, rfl, _⟩
  have set1 : (encL TSub.cells l).set i [iv v, iv s.Balance] = encL TSub.cells (l.set i ⟨v, s.Balance⟩) := by rw [← encL_set]; rfl
  simp -dsimp -implicitDefEqProofs [-getElem?_pos, go_sem, hP, hlt, hs', TSub.cells, set1]
  exact done_agg (cs' := (⟨a.Credit, l.set i ⟨v, s.Balance⟩, es⟩ : TAccount).cells) (cw_sc (cw_sref rfl (by simp [encL]) (imm_subs _) (cw_sref rfl (by simp [encL]) (imm_ents _) .nil))) (BO _ (by simp) (Nat.le_refl _))
 ·by_cases hz : es.length = 0
  ·simp -dsimp -implicitDefEqProofs [-getElem?_pos, go_sem, hP, z0, z1, z2, hz]
   exact done_agg (cs' := (⟨a.Credit, [], es⟩ : TAccount).cells) (cw_sc (cw_nil (cw_sref rfl (by simp [encL, hz]) (imm_ents _) .nil))) (BO _ (by simp) (Nat.le_refl _))
  have dz : ¬ es = [] := fun h => hz (by rw [h]; rfl)
  simp -dsimp -implicitDefEqProofs [-getElem?_pos, go_sem, hP, z0, z1, z2, dz]
  refine adrawB (fun _ => true) [] hP (by kernel_rfl) (by kernel_rfl) ?_
  simp -dsimp -implicitDefEqProofs [-getElem?_pos, go_sem, hP]
  refine callB_flat (up (N_pf p src es.length (by omega))) hP en_18 (args_same (by simp -dsimp [-getElem?_pos, go_sem])) (NQ_ex _) (NQ_flat _) ?_
  rintro r ⟨j, rfl, _, hj⟩
  have hj := hj (by omega)
  obtain ⟨j, rfl⟩ := Int.eq_ofNat_of_zero_le hj.1
  have hjl : j < es.length := by omega
  obtain ⟨e, he⟩ : ∃ e, es[j]? = some e := ⟨_, List.getElem?_eq_getElem hjl⟩
  have hjt : (j : Int) < es.length := by omega
  have fin : ∀ e' : TEntry, BentOf a (.agg (⟨a.Credit, l, es.set j e'⟩ : TAccount).cells) := fun e' => BO _ (Nat.le_refl _) (by simp)
  simp -dsimp -implicitDefEqProofs [-getElem?_pos, go_sem, hP, hjt, he]
  refine callB_flat (up (N_pf p src 5 (by omega))) hP en_18 (args_same (by simp -dsimp [-getElem?_pos, go_sem])) (NQ_ex _) (NQ_flat _) ?_
  rintro r ⟨k, rfl, _, hk⟩
  have hk := hk (by omega)
  have five : k = 0 ∨ k = 1 ∨ k = 2 ∨ k = 3 ∨ k = 4 := by omega
  rcases five with rfl | rfl | rfl | rfl | rfl
  ·simp -dsimp -implicitDefEqProofs [-getElem?_pos, go_sem, hP]
   refine callB_flat (up (pick_pf p src [0, 2, 9] (by simp))) hP en_49 (by simp [go_sem, intsL]) ⟨iv 0, 0, rfl, by simp⟩ (by rintro r ⟨m, rfl, _⟩; exact .sc) ?_
   rintro r ⟨v, rfl, _⟩
   have set2 : (encL TEntry.cells es).set j [iv v, iv e.Day, iv e.From, iv e.To, iv e.Amount, iv e.Ref] = encL TEntry.cells (es.set j ⟨v, e.Day, e.From, e.To, e.Amount, e.Ref⟩) := by rw [← encL_set]; rfl
   simp -dsimp -implicitDefEqProofs [-getElem?_pos, go_sem, hP, hjt, he, TEntry.cells, set2]
   exact done_agg (cw_sc (cw_sref rfl (by simp [encL]) (imm_subs _) (cw_sref rfl (by simp [encL]) (imm_ents _) .nil))) (fin _)
  ·simp -dsimp -implicitDefEqProofs [-getElem?_pos, go_sem, hP]
   refine callB_flat (up (odd_pf p src)) hP en_148 (args_same (by simp -dsimp [-getElem?_pos, go_sem])) ⟨iv 0, 0, rfl⟩ (by rintro r ⟨m, rfl⟩; exact .sc) ?_
   rintro r ⟨v, rfl⟩
   have set2 : (encL TEntry.cells es).set j [iv e.Number, iv v, iv e.From, iv e.To, iv e.Amount, iv e.Ref] = encL TEntry.cells (es.set j ⟨e.Number, v, e.From, e.To, e.Amount, e.Ref⟩) := by rw [← encL_set]; rfl
   simp -dsimp -implicitDefEqProofs [-getElem?_pos, go_sem, hP, hjt, he, TEntry.cells, set2]
   exact done_agg (cw_sc (cw_sref rfl (by simp [encL]) (imm_subs _) (cw_sref rfl (by simp [encL]) (imm_ents _) .nil))) (fin _)
  ·simp -dsimp -implicitDefEqProofs [-getElem?_pos, go_sem, hP]
   refine callB_flat (up (odd_pf p src)) hP en_148 (args_same (by simp -dsimp [-getElem?_pos, go_sem])) ⟨iv 0, 0, rfl⟩ (by rintro r ⟨m, rfl⟩; exact .sc) ?_
   rintro r ⟨v, rfl⟩
   have set2 : (encL TEntry.cells es).set j [iv e.Number, iv e.Day, iv e.From, iv e.To, iv v, iv e.Ref] = encL TEntry.cells (es.set j ⟨e.Number, e.Day, e.From, e.To, v, e.Ref⟩) := by rw [← encL_set]; rfl
   simp -dsimp -implicitDefEqProofs [-getElem?_pos, go_sem, hP, hjt, he, TEntry.cells, set2]
   exact done_agg (cw_sc (cw_sref rfl (by simp [encL]) (imm_subs _) (cw_sref rfl (by simp [encL]) (imm_ents _) .nil))) (fin _)
  ·simp -dsimp -implicitDefEqProofs [-getElem?_pos, go_sem, hP]
   refine callB_flat (up (pick_pf p src [0, 1, 4] (by simp))) hP en_49 (by simp [go_sem, intsL]) ⟨iv 0, 0, rfl, by simp⟩ (by rintro r ⟨m, rfl, _⟩; exact .sc) ?_
   rintro r ⟨v, rfl, _⟩
   have set2 : (encL TEntry.cells es).set j [iv e.Number, iv e.Day, iv v, iv e.To, iv e.Amount, iv e.Ref] = encL TEntry.cells (es.set j ⟨e.Number, e.Day, v, e.To, e.Amount, e.Ref⟩) := by rw [← encL_set]; rfl
   simp -dsimp -implicitDefEqProofs [-getElem?_pos, go_sem, hP, hjt, he, TEntry.cells, set2]
   exact done_agg (cw_sc (cw_sref rfl (by simp [encL]) (imm_subs _) (cw_sref rfl (by simp [encL]) (imm_ents _) .nil))) (fin _)
  ·simp -dsimp -implicitDefEqProofs [-getElem?_pos, go_sem, hP]
   refine callB_flat (up (odd_pf p src)) hP en_148 (args_same (by simp -dsimp [-getElem?_pos, go_sem])) ⟨iv 0, 0, rfl⟩ (by rintro r ⟨m, rfl⟩; exact .sc) ?_
   rintro r ⟨v, rfl⟩
   have set2 : (encL TEntry.cells es).set j [iv e.Number, iv e.Day, iv e.From, iv e.To, iv e.Amount, iv v] = encL TEntry.cells (es.set j ⟨e.Number, e.Day, e.From, e.To, e.Amount, v⟩) := by rw [← encL_set]; rfl
   simp -dsimp -implicitDefEqProofs [-getElem?_pos, go_sem, hP, hjt, he, TEntry.cells, set2]
   exact done_agg (cw_sc (cw_sref rfl (by simp [encL]) (imm_subs _) (cw_sref rfl (by simp [encL]) (imm_ents _) .nil))) (fin _)
open Go.PA
open Go.RowKit
structure SmD (d : TDesk) : Prop where
 s : d.Account.Subs.length ≤ 25
 e : d.Account.Entries.length ≤ 25
 w : d.Queue.Waiting.length ≤ 15
 k : d.Queue.Known.length ≤ 15
 b : d.Queue.Batches.length ≤ 8
 p : ∀ b, b ∈ d.Queue.Batches → b.Payments.length ≤ 12
 i : d.Items.length ≤ 15
def SmQ (d : TDesk) (r : AV) : Prop := ∃ b : Bool, r = bv b ∧ (b = true → SmD d)
theorem smF {d : TDesk} : SmQ d (bv false) := ⟨false, rfl, fun h => by cases h⟩
theorem smT {d : TDesk} (h : SmD d) : SmQ d (bv true) := ⟨true, rfl, fun _ => h⟩
theorem SmQ_ex (d : TDesk) : ∃ r, SmQ d r ∧ Imm r := ⟨_, ⟨false, rfl, fun h => by cases h⟩, .sc⟩
theorem SmD.fit {d : TDesk} (h : SmD d) : FitD d := ⟨by have := h.s; omega, by have := h.e; omega, ⟨by have := h.w; omega, by have := h.k; omega, by have := h.b; omega, fun b hb => by have := h.p b hb; omega⟩, by have := h.i; omega⟩
set_option maxHeartbeats 2000000 in
theorem small26_pf (d : TDesk) (hb : d.Queue.Batches.length ≤ 9223372036854775807) : PFun Tryz.prog none none 33 [.agg d.cells] (SmQ d) := by
 refine pfun_intro Tryz.func33 rfl (by simp [Tryz.f33]) (by kernel_rfl) ?_
 intro E hP hr hs hW hN
 obtain ⟨l, hl⟩ : ∃ l, l = d.Queue.Batches := ⟨_, rfl⟩
 rw [← hl] at hb
 simp -dsimp -implicitDefEqProofs [-getElem?_pos, go_sem, hP, cDn, ← hl]
 obtain ⟨I, hI⟩ : ∃ I : Nat → St → Prop, I = fun m s => ∃ k : Nat, k ≤ l.length ∧ m = l.length - k ∧ (∀ b, b ∈ l.take k → b.Payments.length ≤ 12) ∧ s.t 1 = .ref 0 0 0 ∧ s.t 7 = batsL l ∧ s.t 8 = iv l.length ∧ s.t 9 = iv k ∧ s.H[0]? = some (some (deskO d)) := ⟨_, rfl⟩
 refine aloop0 I (l.length) (by rw [hN]; rfl) ?_ ?_
 ·rw [hI]
  exact ⟨0, by omega, by omega, by simp, by simp -dsimp [-getElem?_pos, go_sem], by simp -dsimp [-getElem?_pos, go_sem], by simp -dsimp [-getElem?_pos, go_sem], by simp -dsimp [-getElem?_pos, go_sem], (by simp -dsimp [-getElem?_pos, go_sem]; rw [hl])⟩
 intro m s hs'
 rw [hI] at hs'
 obtain ⟨k, hk, hm, hp, t1, t7, t8, t9, h0⟩ := hs'
 subst hm
 have lt0 := (gsI h0)
 simp -dsimp -implicitDefEqProofs [-getElem?_pos, go_sem, hP, t8, t9]
 refine condP (fun hh => ?_) (fun hh => ?_)
 ·have hk : k < l.length := by simpa using hh
  obtain ⟨y, hy⟩ : ∃ y, l[k]? = some y := ⟨_, List.getElem?_eq_getElem hk⟩
  have wk := wrap_in ((k : Int) + 1) (by omega)
  by_cases c : 12 < y.Payments.length
  ·have c1 : decide (12 < (y.Payments.length : Int)) = true := decide_eq_true (by omega)
   have c2 : 12 < (y.Payments.length : Int) := by omega
   simp -dsimp -implicitDefEqProofs [-getElem?_pos, go_sem, hP, t7, t9, hy, cBt, c, c1, c2]
   exact smF
  ·have c1 : decide (12 < (y.Payments.length : Int)) = false := decide_eq_false (by omega)
   have c2 : ¬ 12 < (y.Payments.length : Int) := by omega
   simp -dsimp -implicitDefEqProofs [-getElem?_pos, go_sem, hP, t7, t9, hy, cBt, c, c1, c2, wk]
   refine ⟨l.length - (k + 1), by omega, ?_⟩
   rw [hI]
   refine ⟨k + 1, by omega, rfl, fun b hb => ?_, by simp -dsimp [-getElem?_pos, go_sem, t1], by simp -dsimp [-getElem?_pos, go_sem, t7], by simp -dsimp [-getElem?_pos, go_sem, t8], by simp -dsimp [-getElem?_pos, go_sem], by simp -dsimp [-getElem?_pos, go_sem, h0, lt0]⟩
   rw [take_at hy] at hb
   rcases List.mem_append.1 hb with hb | hb
   ·exact hp b hb
   ·rw [List.mem_singleton] at hb; subst hb; omega
 have hk : k = l.length := by simp at hh; omega
 subst hk
 rw [List.take_length] at hp
 have fw := few_pf d.Account
 have ia := imm_acc d.Account
 rw [cA] at fw ia
 simp -dsimp -implicitDefEqProofs [-getElem?_pos, go_sem, hP, t1, h0, lt0]
 refine callB_is (fw.lift _ _) hP en_80 (by simpa using ia) .sc ?_
 by_cases cf : d.Account.Subs.length ≤ 25 ∧ d.Account.Entries.length ≤ 25
 rotate_left
 ·have e1 : (decide (d.Account.Subs.length ≤ 25) && decide (d.Account.Entries.length ≤ 25)) = false := by
   rw [← Bool.decide_and]
   exact decide_eq_false cf
  obtain ⟨F, hF⟩ : ∃ F, F = (decide (d.Account.Subs.length ≤ 25) && decide (d.Account.Entries.length ≤ 25)) := ⟨_, rfl⟩
  rw [← hF] at e1 ⊢
  simp -dsimp -implicitDefEqProofs [-getElem?_pos, go_sem, hP, e1]
  exact smF
 have e1 : (decide (d.Account.Subs.length ≤ 25) && decide (d.Account.Entries.length ≤ 25)) = true := by
  rw [← Bool.decide_and]
  exact decide_eq_true cf
 obtain ⟨F, hF⟩ : ∃ F, F = (decide (d.Account.Subs.length ≤ 25) && decide (d.Account.Entries.length ≤ 25)) := ⟨_, rfl⟩
 rw [← hF] at e1 ⊢
 simp -dsimp -implicitDefEqProofs [-getElem?_pos, go_sem, hP, e1, t1, h0, lt0]
 by_cases c1 : d.Queue.Waiting.length ≤ 15
 rotate_left
 ·have d1 : decide ((d.Queue.Waiting.length : Int) ≤ 15) = false := decide_eq_false (by omega)
  simp -dsimp -implicitDefEqProofs [-getElem?_pos, go_sem, hP, d1]
  exact smF
 have d1 : decide ((d.Queue.Waiting.length : Int) ≤ 15) = true := decide_eq_true (by omega)
 simp -dsimp -implicitDefEqProofs [-getElem?_pos, go_sem, hP, d1, t1, h0, lt0]
 by_cases c2 : d.Queue.Known.length ≤ 15
 rotate_left
 ·have d2 : decide ((d.Queue.Known.length : Int) ≤ 15) = false := decide_eq_false (by omega)
  simp -dsimp -implicitDefEqProofs [-getElem?_pos, go_sem, hP, d2]
  exact smF
 have d2 : decide ((d.Queue.Known.length : Int) ≤ 15) = true := decide_eq_true (by omega)
 simp -dsimp -implicitDefEqProofs [-getElem?_pos, go_sem, hP, d2, t1, h0, lt0]
 by_cases c3 : d.Queue.Batches.length ≤ 8
 rotate_left
 ·have d3 : decide ((d.Queue.Batches.length : Int) ≤ 8) = false := decide_eq_false (by omega)
  simp -dsimp -implicitDefEqProofs [-getElem?_pos, go_sem, hP, d3]
  exact smF
 have d3 : decide ((d.Queue.Batches.length : Int) ≤ 8) = true := decide_eq_true (by omega)
 simp -dsimp -implicitDefEqProofs [-getElem?_pos, go_sem, hP, d3, t1, h0, lt0]
 by_cases c4 : d.Items.length ≤ 15
 rotate_left
 ·have d4 : decide ((d.Items.length : Int) ≤ 15) = false := decide_eq_false (by omega)
  simp -dsimp -implicitDefEqProofs [-getElem?_pos, go_sem, hP, d4]
  exact smF
 have d4 : decide ((d.Items.length : Int) ≤ 15) = true := decide_eq_true (by omega)
 simp -dsimp -implicitDefEqProofs [-getElem?_pos, go_sem, hP, d4, t1, h0, lt0]
 exact smT ⟨cf.1, cf.2, c1, c2, c3, hl ▸ hp, c4⟩
def BentD (x : AV) : Prop := ∃ b : TDesk, x = .agg b.cells ∧ FitD b
theorem BentD_ex : ∃ r, BentD r ∧ Imm r := ⟨_, ⟨zeroD, rfl, ⟨by simp [zeroD, zeroA], by simp [zeroD, zeroA], zeroQ_ok.fit, by simp [zeroD]⟩⟩, imm_desk _⟩
set_option maxHeartbeats 4000000 in
theorem bent26_pf (p : Nat) (src : Option Nat) (d : TDesk) (hf : FitD d) (h1 : 1 ≤ d.Account.Subs.length ∧ d.Account.Subs.length ≤ 1000) (h2 : d.Account.Entries.length ≤ 1000) (h3 : d.Items.length ≤ 1000) : PFun Tryz.prog (some p) src 35 [sp p, .agg d.cells] BentD := by
 refine pfun_intro Tryz.func35 rfl (by simp [Tryz.f35]) (by kernel_rfl) ?_
 intro E hP hr hs hW hN
 have up : ∀ {f : FuncId} {args : List AV} {Q : AV → Prop}, PFun Tryz.prog (some p) src f args Q → PFun Tryz.prog E.row E.src f args Q := fun h => hr ▸ hs ▸ h
 obtain ⟨l, hl⟩ : ∃ l, l = d.Items := ⟨_, rfl⟩
 rw [← hl] at h3
 have FD : ∀ (a : TAccount) (q : TQueue) (i : List TItem), a.Subs.length ≤ 1000 → a.Entries.length ≤ 1000 → FitQ q → i.length ≤ 1000 → BentD (.agg (TDesk.mk a q i).cells) := fun a q i a1 a2 a3 a4 => ⟨_, rfl, ⟨by dsimp only; omega, by dsimp only; omega, a3, by dsimp only; omega⟩⟩
 by_cases hz : l.length = 0
 ·have dz : l = [] := List.eq_nil_of_length_eq_zero hz
  have dd : d.Items = [] := by rw [← hl]; exact dz
  simp -dsimp -implicitDefEqProofs [-getElem?_pos, go_sem, hP, cDn, dd]
  refine callB_isQ (up (gpay_pf p src)) hP en_38 (by simp [go_sem]) PayQ_ex ?_
  rintro r ⟨g, rfl, hg⟩ _
  simp -dsimp -implicitDefEqProofs [-getElem?_pos, go_sem, hP, cPy]
  exact done_imm (imm_desk ⟨d.Account, d.Queue, [⟨g, 1, 0⟩]⟩) (FD d.Account d.Queue [⟨g, 1, 0⟩] h1.2 h2 hf.q (by simp))
 have dz : ¬ l = [] := fun h => hz (by rw [h]; rfl)
 have dd : ¬ d.Items = [] := by rw [← hl]; exact dz
 simp -dsimp -implicitDefEqProofs [-getElem?_pos, go_sem, hP, cDn, ← hl, dz]
 refine ⟨by omega, by omega, ?_⟩
 refine adrawB (fun _ => true) [] hP (by kernel_rfl) (by kernel_rfl) ?_
 simp -dsimp -implicitDefEqProofs [-getElem?_pos, go_sem, hP]
 refine callB_flat (up (N_pf p src l.length (by omega))) hP en_18 (args_same (by simp -dsimp [-getElem?_pos, go_sem])) (NQ_ex _) (NQ_flat _) ?_
 rintro r ⟨j, rfl, _, hj⟩
 have hj := hj (by omega)
 obtain ⟨j, rfl⟩ := Int.eq_ofNat_of_zero_le hj.1
 have hjl : j < l.length := by omega
 obtain ⟨y, hy⟩ : ∃ y, l[j]? = some y := ⟨_, List.getElem?_eq_getElem hjl⟩
 have hjt : (j : Int) < l.length := by omega
 have fin : ∀ y' : TItem, BentD (.agg (TDesk.mk d.Account d.Queue (l.set j y')).cells) := fun y' => FD _ _ _ h1.2 h2 hf.q (by rw [List.length_set]; exact h3)
 simp -dsimp -implicitDefEqProofs [-getElem?_pos, go_sem, hP, hjt, hy]
 refine callB_flat (up (N_pf p src 6 (by omega))) hP en_18 (args_same (by simp -dsimp [-getElem?_pos, go_sem])) (NQ_ex _) (NQ_flat _) ?_
 rintro r ⟨k, rfl, _, hk⟩
 have hk := hk (by omega)
 have six : k = 0 ∨ k = 1 ∨ k = 2 ∨ k = 3 ∨ k = 4 ∨ (¬ k = 0 ∧ ¬ k = 1 ∧ ¬ k = 2 ∧ ¬ k = 3 ∧ ¬ k = 4) := by omega
 rcases six with rfl | rfl | rfl | rfl | rfl | ⟨z0, z1, z2, z3, z4⟩
 ·simp -dsimp -implicitDefEqProofs [-getElem?_pos, go_sem, hP]
  refine callB_isQ (up (rangeQ_pf p src 0 6 (by omega) (by omega))) hP en_26 (by simp [go_sem]) (RQ_ex (by omega)) ?_
  rintro r ⟨v, rfl, _⟩ _
  have set2 : (encL TItem.cells l).set j [iv y.Payment.Warrant, iv y.Payment.Payee, iv y.Payment.Amount, iv y.Payment.Due, iv y.Payment.Sub, iv v, iv y.Attempts] = encL TItem.cells (l.set j ⟨y.Payment, v, y.Attempts⟩) := by rw [← encL_set]; rfl
  simp -dsimp -implicitDefEqProofs [-getElem?_pos, go_sem, hP, hjt, hy, cIt, set2]
  exact done_agg (cw_sc (cw_imm (imm_subs _) (cw_imm (imm_ents _) (cw_imm (imm_pays _) (cw_imm (imm_nums _) (cw_imm (imm_bats _) (cw_sref rfl (by simp [encL]) (imm_items _) .nil))))))) (fin _)
 ·simp -dsimp -implicitDefEqProofs [-getElem?_pos, go_sem, hP]
  refine callB_isQ (up (rangeQ_pf p src (-1) 6 (by omega) (by omega))) hP en_26 (by simp [go_sem]) (RQ_ex (by omega)) ?_
  rintro r ⟨v, rfl, _⟩ _
  have set2 : (encL TItem.cells l).set j [iv y.Payment.Warrant, iv y.Payment.Payee, iv y.Payment.Amount, iv y.Payment.Due, iv y.Payment.Sub, iv y.State, iv v] = encL TItem.cells (l.set j ⟨y.Payment, y.State, v⟩) := by rw [← encL_set]; rfl
  simp -dsimp -implicitDefEqProofs [-getElem?_pos, go_sem, hP, hjt, hy, cIt, set2]
  exact done_agg (cw_sc (cw_imm (imm_subs _) (cw_imm (imm_ents _) (cw_imm (imm_pays _) (cw_imm (imm_nums _) (cw_imm (imm_bats _) (cw_sref rfl (by simp [encL]) (imm_items _) .nil))))))) (fin _)
 ·have set2 : (encL TItem.cells l).set j [iv y.Payment.Warrant, iv y.Payment.Payee, iv (IntKind.i64.wrap (y.Payment.Amount + 1)), iv y.Payment.Due, iv y.Payment.Sub, iv y.State, iv y.Attempts] = encL TItem.cells (l.set j ⟨⟨y.Payment.Warrant, y.Payment.Payee, IntKind.i64.wrap (y.Payment.Amount + 1), y.Payment.Due, y.Payment.Sub⟩, y.State, y.Attempts⟩) := by rw [← encL_set]; rfl
  simp -dsimp -implicitDefEqProofs [-getElem?_pos, go_sem, hP, hjt, hy, cIt, set2]
  exact done_agg (cw_sc (cw_imm (imm_subs _) (cw_imm (imm_ents _) (cw_imm (imm_pays _) (cw_imm (imm_nums _) (cw_imm (imm_bats _) (cw_sref rfl (by simp [encL]) (imm_items _) .nil))))))) (fin _)
 ·simp -dsimp -implicitDefEqProofs [-getElem?_pos, go_sem, hP]
  refine callB_isQ (up (pickQ_pf p src [1, 2, 9] (by simp))) hP en_49 (by simp [go_sem, intsL, imm_sc, imm_list]) (PQ_ex (by simp)) ?_
  rintro r ⟨v, rfl, _⟩ _
  have set2 : (encL TItem.cells l).set j [iv y.Payment.Warrant, iv y.Payment.Payee, iv y.Payment.Amount, iv y.Payment.Due, iv v, iv y.State, iv y.Attempts] = encL TItem.cells (l.set j ⟨⟨y.Payment.Warrant, y.Payment.Payee, y.Payment.Amount, y.Payment.Due, v⟩, y.State, y.Attempts⟩) := by rw [← encL_set]; rfl
  simp -dsimp -implicitDefEqProofs [-getElem?_pos, go_sem, hP, hjt, hy, cIt, set2]
  exact done_agg (cw_sc (cw_imm (imm_subs _) (cw_imm (imm_ents _) (cw_imm (imm_pays _) (cw_imm (imm_nums _) (cw_imm (imm_bats _) (cw_sref rfl (by simp [encL]) (imm_items _) .nil))))))) (fin _)
 ·have ia := imm_acc d.Account
  have ba := bentacc_pf p src d.Account h1 h2
  rw [cA] at ia ba
  simp -dsimp -implicitDefEqProofs [-getElem?_pos, go_sem, hP]
  refine callB_isQ (up ba) hP en_84 (by simp [imm_sc]; exact ia) ⟨_, ⟨d.Account, rfl, Nat.le_refl _, Nat.le_refl _⟩, imm_acc _⟩ ?_
  rintro r ⟨b, rfl, b1, b2⟩ _
  simp -dsimp -implicitDefEqProofs [-getElem?_pos, go_sem, hP, cA]
  exact done_agg (cw_sc (cw_imm (imm_subs _) (cw_imm (imm_ents _) (cw_imm (imm_pays _) (cw_imm (imm_nums _) (cw_imm (imm_bats _) (cw_sref rfl (by simp [encL]) (imm_items _) .nil))))))) (FD b d.Queue l (by omega) (by omega) hf.q h3)
 ·have e0 := decide_eq_false z0
  have e1 := decide_eq_false z1
  have e2 := decide_eq_false z2
  have e3 := decide_eq_false z3
  have e4 := decide_eq_false z4
  simp -dsimp -implicitDefEqProofs [-getElem?_pos, go_sem, hP, z0, z1, z2, z3, z4, e0, e1, e2, e3, e4]
  exact done_agg (cw_sc (cw_imm (imm_subs _) (cw_imm (imm_ents _) (cw_imm (imm_pays _) (cw_nil (cw_imm (imm_bats _) (cw_sref rfl (by simp [encL]) (imm_items _) .nil))))))) (FD d.Account ⟨d.Queue.Waiting, [], d.Queue.Batches⟩ l h1.2 h2 ⟨hf.q.w, by simp, hf.q.b, hf.q.each⟩ h3)
open Go.PA
open Go.RowKit
theorem fitZ : FitD zeroD := ⟨by simp [zeroD, zeroA], by simp [zeroD, zeroA], zeroQ_ok.fit, by simp [zeroD]⟩
theorem change_zero {d : TDesk} {w st : Int} {f : TDesk → TItem → Done1} (h : (changeD d w st f).2 ≠ 0) : (changeD d w st f).1 = zeroD := by
 unfold changeD at h ⊢
 repeat' split
 all_goals first | rfl | (simp_all; done)
theorem openD_fit (a : TAccount) : FitD (openD a).1 := by
 by_cases h : (openD a).2 = 0
 ·obtain ⟨h1, _, _, h2⟩ := openD_ok h
  rw [h1]; exact h2.fit
 ·have : (openD a).1 = zeroD := by
   unfold openD at h ⊢
   repeat' split
   all_goals first | rfl | (simp_all; done)
  rw [this]; exact fitZ
theorem orderD_fit (d : TDesk) (p : TPayment) : FitD (orderD d p).1 := by
 by_cases h : (orderD d p).2 = 0
 ·exact (orderD_ok (x := (orderD d p).1) (Prod.ext rfl h)).2.2.2.2.fit
 ·have : (orderD d p).1 = zeroD := by
   unfold orderD at h ⊢
   repeat' split
   all_goals first | rfl | (simp_all; done)
  rw [this]; exact fitZ
theorem settleD_fit (d : TDesk) (w : Int) : FitD (settleD d w).1 := by
 by_cases h : (settleD d w).2 = 0
 ·exact (settleD_ok (x := (settleD d w).1) (Prod.ext rfl h)).2.2.fit
 ·have : (settleD d w).1 = zeroD := change_zero h
  rw [this]; exact fitZ
theorem recallD_fit (d : TDesk) (w : Int) : FitD (recallD d w).1 := by
 by_cases h : (recallD d w).2 = 0
 ·exact (recallD_ok (x := (recallD d w).1) (Prod.ext rfl h)).2.2.fit
 ·have : (recallD d w).1 = zeroD := change_zero h
  rw [this]; exact fitZ
theorem returnD_fit (d : TDesk) (w day : Int) : FitD (returnD d w day).1 := by
 by_cases h : (returnD d w day).2 = 0
 ·exact (returnD_ok (x := (returnD d w day).1) (Prod.ext rfl h)).2.2.fit
 ·have : (returnD d w day).1 = zeroD := change_zero h
  rw [this]; exact fitZ
theorem againD_fit (d : TDesk) (w day : Int) : FitD (againD d w day).1 := by
 by_cases h : (againD d w day).2 = 0
 ·exact (againD_ok (x := (againD d w day).1) (Prod.ext rfl h)).2.2.fit
 ·have : (againD d w day).1 = zeroD := change_zero h
  rw [this]; exact fitZ
theorem sendD_fit (d : TDesk) (day : Int) : FitD (sendD d day).1 ∧ (sendD d day).2.1.Payments.length ≤ 100000 := by
 by_cases h : (sendD d day).2.2 = 0
 ·obtain ⟨a1, _, _, _, ps, a, _, _, _, _, _, _, c7, _, h⟩ := sendD_ok (x := (sendD d day).1) (b := (sendD d day).2.1) (d := d) (day := day) (Prod.ext rfl (Prod.ext rfl h))
  refine ⟨h.fit, ?_⟩
  rw [c7, takeB]
  have := List.length_filter_le (takenB (ps.map (·.Warrant))) d.Queue.Waiting
  have := a1.q.lw
  dsimp only
  omega
 ·have : (sendD d day).1 = zeroD ∧ (sendD d day).2.1 = zeroB := by
   unfold sendD at h ⊢
   repeat' split
   all_goals first | exact ⟨rfl, rfl⟩ | (simp_all; done)
  rw [this.1, this.2]
  exact ⟨fitZ, by simp [zeroB]⟩
theorem three26 {k : Nat} (h : k < 3) : k = 0 ∨ k = 1 ∨ k = 2 := by omega
set_option maxRecDepth 8000 in
set_option maxHeartbeats 8000000 in
theorem exact26_pf (xs : List Int) (raw : TDesk) (pr : TPayment) (w day : Int) (hx : Small xs) (hl : xs.length ≤ 9223372036854775807) (hraw : raw.Queue.Batches.length ≤ 9223372036854775807) :
  PFun Tryz.prog none none 8 [intsL xs, .agg raw.cells, .agg pr.cells, iv w, iv day] (· = bv true) := by
 refine pfun_introA Tryz.func8 rfl (by simp [Tryz.f8]) ?_
 intro E hP hr hs hW hN
 have ir := imm_desk raw
 have ipr := imm_pay pr
 have sm := small26_pf raw hraw
 rw [cDn] at ir sm
 rw [cPy] at ipr
 have irc := imm_agg.1 ir
 have ipc := imm_agg.1 ipr
 have saneB : ∀ {H : Heap} {C : AV → Heap → Prop} {b : Bx C}, C (bv true) H → CallB E 15 [] H C b := fun h => callB_pure sane26_pf hP en_15 (args_nil.2 trivial) .sc h
 obtain ⟨RC, hRC⟩ : ∃ RC, RC = [iv raw.Account.Credit, subsL raw.Account.Subs, entsL raw.Account.Entries, paysL raw.Queue.Waiting, numsL raw.Queue.Known, batsL raw.Queue.Batches, itemsL raw.Items] := ⟨_, rfl⟩
 refine awp_cut (by rw [hN]; kernel_rfl) ?_
 simp -dsimp -implicitDefEqProofs [-getElem?_pos, go_sem, hP, cDn, cPy]
 refine AWp.weaken (weaker_iref 6 (id := 0) (cs := [iv raw.Account.Credit, subsL raw.Account.Subs, entsL raw.Account.Entries, paysL raw.Queue.Waiting, numsL raw.Queue.Known, batsL raw.Queue.Batches, itemsL raw.Items]) hW (by simp -dsimp [-getElem?_pos, go_sem]) (by simp -dsimp [-getElem?_pos, go_sem]) irc) ?_
 refine AWp.weaken (weaker_iref 7 (id := 1) (cs := [iv pr.Warrant, iv pr.Payee, iv pr.Amount, iv pr.Due, iv pr.Sub]) hW (by simp -dsimp [-getElem?_pos, go_sem]) (by simp -dsimp [-getElem?_pos, go_sem]) ipc) ?_
 refine awp_cut (by rw [hN]; kernel_rfl) ?_
 simp -dsimp -implicitDefEqProofs [-getElem?_pos, go_sem, hP]
 refine callB_isQ (sm.lift _ _) hP en_33 (by simpa using ir) (SmQ_ex raw) ?_
 rintro r ⟨c1, rfl, hsm⟩ _
 cases c1
 ·simp -dsimp -implicitDefEqProofs [-getElem?_pos, go_sem, hP]
  refine saneB ?_
  simp -dsimp -implicitDefEqProofs [-getElem?_pos, go_sem, hP]
 have hsm := hsm rfl
 have hfr := hsm.fit
 simp -dsimp -implicitDefEqProofs [-getElem?_pos, go_sem, hP]
 refine awp_cut (by rw [hN]; kernel_rfl) ?_
 simp -dsimp -implicitDefEqProofs [-getElem?_pos, go_sem, hP]
 have hnew : POwn Tryz.prog E.row E.src 9 [intsL xs] 81 2 (· = [[intsL (xs.take 900), iv 0]]) := by rw [hr, hs]; exact new_pf xs hl
 refine callB_own hnew hP en_9 (args_same (by simp [go_sem, intsL])) (by simp [srefs_imm, go_sem, intsL]) ⟨_, rfl⟩ ?_
 rintro es rfl
 simp -dsimp -implicitDefEqProofs [-getElem?_pos, go_sem, hP]
 refine awp_adoptW 11 2 (ty := 81) (xs := xs.take 900) (at_ := 0) hr hs (by simp -dsimp [-getElem?_pos, go_sem]) (by simp -dsimp [-getElem?_pos, go_sem, intsL]) (by omega) (by simp; omega) (fun x hx' => hx x (List.mem_of_mem_take hx')) ?_
 intro E' p hP' hr' hN' hWx
 have hW' : ∀ b, ¬ E'.W b := fun b hb => by
  obtain ⟨id, o, ho⟩ := hWx b hb
  rcases id with _ | _ | _ | id <;> simp at ho
 rw [hP] at hP'
 rw [hN] at hN'
 clear hnew hP hr hs hW hN saneB hWx E
 rename Env => E
 rename E.P = _ => hP
 rename E.row = _ => hr
 rename E.N = _ => hN
 rename (∀ b, ¬ E.W b) => hW
 obtain ⟨src, hs⟩ : ∃ src, E.src = src := ⟨_, rfl⟩
 have up : ∀ {f : FuncId} {args : List AV} {Q : AV → Prop}, PFun Tryz.prog (some p) src f args Q → PFun Tryz.prog E.row E.src f args Q := fun h => hr ▸ hs ▸ h
 have saneB : ∀ {H : Heap} {C : AV → Heap → Prop} {b : Bx C}, C (bv true) H → CallB E 15 [] H C b := fun h => callB_pure sane26_pf hP en_15 (args_nil.2 trivial) .sc h
 refine awp_cut (by rw [hN]; kernel_rfl) ?_
 simp -dsimp -implicitDefEqProofs [-getElem?_pos, go_sem, hP]
 refine callB_isQ (up (desk_pf p src 14 (by omega))) hP en_16 (by simp [imm_sc]) (DeskQ_ex 14) ?_
 rintro r ⟨d, day0, rfl, hg⟩ _
 have hf := hg.ok.fit
 have id' := imm_desk d
 rw [cDn] at id'
 simp -dsimp -implicitDefEqProofs [-getElem?_pos, go_sem, hP, cDn]
 refine awp_cut (by rw [hN]; kernel_rfl) ?_
 simp -dsimp -implicitDefEqProofs [-getElem?_pos, go_sem, hP]
 refine adrawB (fun _ => true) [] hP (by kernel_rfl) (by kernel_rfl) ?_
 simp -dsimp -implicitDefEqProofs [-getElem?_pos, go_sem, hP]
 refine callB_isQ (up (account0_pf p src 6 (by omega))) hP en_11 (by simp [imm_sc]) ⟨_, ⟨newA [1, 2, 3, 7] 0, rfl, (GenAcc.open (by omega)).1.mono (by omega), by simp [newA]⟩, imm_acc _⟩ ?_
 rintro r ⟨ga, rfl, hga, _⟩ _
 have fga := check_fit hga.ok
 obtain ⟨A3, hA3⟩ : ∃ A3 : AV, A3 = .agg [iv ga.Credit, subsL ga.Subs, entsL ga.Entries, iv raw.Account.Credit, subsL raw.Account.Subs, entsL raw.Account.Entries, iv d.Account.Credit, subsL d.Account.Subs, entsL d.Account.Entries] := ⟨_, rfl⟩
 simp -dsimp -implicitDefEqProofs [-getElem?_pos, go_sem, hP, cA]
 obtain ⟨I, hI⟩ : ∃ I : Nat → St → Prop, I = fun m s => ∃ k : Nat, k ≤ 3 ∧ m = 3 - k ∧ s.t 3 = iv w ∧ s.t 4 = iv day ∧ s.t 6 = .iref RC ∧ s.t 7 = .iref [iv pr.Warrant, iv pr.Payee, iv pr.Amount, iv pr.Due, iv pr.Sub] ∧ s.t 11 = sp p ∧ s.t 12 = .ref 3 0 0 ∧ s.t 53 = A3 ∧ s.t 54 = iv k ∧ s.H[3]? = some (some (deskO d)) := ⟨_, rfl⟩
 refine aloop0 I (3) (by rw [hN]; rfl) ?_ ?_
 ·rw [hI]
  exact ⟨0, by omega, by omega, by simp -dsimp [-getElem?_pos, go_sem], by simp -dsimp [-getElem?_pos, go_sem], by simp -dsimp [-getElem?_pos, go_sem, hRC], by simp -dsimp [-getElem?_pos, go_sem], by simp -dsimp [-getElem?_pos, go_sem], by simp -dsimp [-getElem?_pos, go_sem], by simp -dsimp [-getElem?_pos, go_sem, hA3], by simp -dsimp [-getElem?_pos, go_sem], by simp -dsimp [-getElem?_pos, go_sem]⟩
 intro m s hs'
 rw [hI] at hs'
 obtain ⟨k, hk, hm, t3, t4, t6, t7, t11, t12, t53, t54, h3⟩ := hs'
 subst hm
 have lt3 := (gsI h3)
 simp -dsimp -implicitDefEqProofs [-getElem?_pos, go_sem, hP, t54]
 refine condP (fun hh => ?_) (fun hh => ?_)
 ·have hk : k < 3 := by simp at hh; omega
  have wk := wrap_in ((k : Int) + 1) (by omega)
  obtain ⟨y, fy, hix⟩ : ∃ y : TAccount, (y.Subs.length ≤ 100000 ∧ y.Entries.length ≤ 100000) ∧ aixV Tryz.prog 70 A3 (iv k) = some (.agg [iv y.Credit, subsL y.Subs, entsL y.Entries]) := by
   rw [hA3]
   rcases three26 hk with rfl | rfl | rfl
   ·exact ⟨ga, fga, by kernel_rfl⟩
   ·exact ⟨raw.Account, ⟨hfr.s, hfr.e⟩, by kernel_rfl⟩
   ·exact ⟨d.Account, ⟨hf.s, hf.e⟩, by kernel_rfl⟩
  have k1 := ropen_pf y fy.1 fy.2
  have k2 := open26_pf y fy.1 fy.2
  obtain ⟨X, hX⟩ : ∃ X, X = (openD y).1 := ⟨_, rfl⟩
  have fX : FitD X := hX ▸ openD_fit y
  have sX := same26_pf X X fX fX
  rw [← hX, cA, cDn] at k1 k2
  rw [cDn] at sX
  rw [decide_eq_true (rfl : X = X)] at sX
  have iX := imm_desk X
  have iy := imm_acc y
  rw [cDn] at iX
  rw [cA] at iy
  have nx3 : ∀ z : Heap, (s.H ++ z)[3]? = some (some (deskO d)) := fun z => by rw [List.getElem?_append_left lt3]; exact h3
  simp -dsimp -implicitDefEqProofs [-getElem?_pos, go_sem, hP, t53, t54, hix]
  refine callB_is (k1.lift _ _) hP en_24 (by simpa using iy) (imm_pair iX .sc) ?_
  simp -dsimp -implicitDefEqProofs [-getElem?_pos, go_sem, hP]
  refine callB_is (k2.lift _ _) hP en_10 (by simpa using iy) (imm_pair iX .sc) ?_
  simp -dsimp -implicitDefEqProofs [-getElem?_pos, go_sem, hP]
  refine callB_is (sX.lift _ _) hP en_34 (by simpa using iX) .sc ?_
  simp -dsimp -implicitDefEqProofs [-getElem?_pos, go_sem, hP, t54, wk]
  refine ⟨3 - (k + 1), by omega, ?_⟩
  rw [hI]
  exact ⟨k + 1, by omega, rfl, by simp -dsimp [-getElem?_pos, go_sem, t3], by simp -dsimp [-getElem?_pos, go_sem, t4], by simp -dsimp [-getElem?_pos, go_sem, t6], by simp -dsimp [-getElem?_pos, go_sem, t7], by simp -dsimp [-getElem?_pos, go_sem, t11], by simp -dsimp [-getElem?_pos, go_sem, t12], by simp -dsimp [-getElem?_pos, go_sem, t53], by simp -dsimp [-getElem?_pos, go_sem], by simp -dsimp [-getElem?_pos, go_sem, nx3]⟩
 clear hA3
 simp -dsimp -implicitDefEqProofs [-getElem?_pos, go_sem, hP]
 have be := bent26_pf p src d hf (by have := hg.ids; have h4 : d.Account.Subs.length = 4 := (by rw [← ids_len, this]; rfl); omega) (by have := hg.len; omega) (by
  have h1 := congrArg List.length hg.ok.k
  have := hg.known
  rw [List.length_map] at h1
  omega)
 rw [cDn] at be
 refine awp_sound _ _ _ (by rw [hN]; kernel_rfl) ?_
 simp -dsimp -implicitDefEqProofs [-getElem?_pos, go_sem, hP]
 refine adrawB (fun _ => true) [] hP (by kernel_rfl) (by kernel_rfl) ?_
 simp -dsimp -implicitDefEqProofs [-getElem?_pos, go_sem, hP, t11, t12, h3, lt3, t6, hRC]
 refine callB_isQ (up be) hP en_35 (by simp [imm_sc]; exact id') BentD_ex ?_
 rintro r ⟨o, rfl, fo⟩ _
 obtain ⟨A7, hA7⟩ : ∃ A7 : AV, A7 = .agg [iv d.Account.Credit, subsL d.Account.Subs, entsL d.Account.Entries, paysL d.Queue.Waiting, numsL d.Queue.Known, batsL d.Queue.Batches, itemsL d.Items, iv o.Account.Credit, subsL o.Account.Subs, entsL o.Account.Entries, paysL o.Queue.Waiting, numsL o.Queue.Known, batsL o.Queue.Batches, itemsL o.Items, iv raw.Account.Credit, subsL raw.Account.Subs, entsL raw.Account.Entries, paysL raw.Queue.Waiting, numsL raw.Queue.Known, batsL raw.Queue.Batches, itemsL raw.Items] := ⟨_, rfl⟩
 simp -dsimp -implicitDefEqProofs [-getElem?_pos, go_sem, hP, cDn, t6, hRC]
 obtain ⟨J, hJ⟩ : ∃ I : Nat → St → Prop, I = fun m s => ∃ k : Nat, k ≤ 3 ∧ m = 3 - k ∧ s.t 3 = iv w ∧ s.t 4 = iv day ∧ s.t 7 = .iref [iv pr.Warrant, iv pr.Payee, iv pr.Amount, iv pr.Due, iv pr.Sub] ∧ s.t 11 = sp p ∧ s.t 82 = A7 ∧ s.t 83 = iv k := ⟨_, rfl⟩
 refine aloop0 J (3) (by rw [hN]; rfl) ?_ ?_
 ·rw [hJ]
  exact ⟨0, by omega, by omega, by simp -dsimp [-getElem?_pos, go_sem, t3], by simp -dsimp [-getElem?_pos, go_sem, t4], by simp -dsimp [-getElem?_pos, go_sem, t7], by simp -dsimp [-getElem?_pos, go_sem, t11], by simp -dsimp [-getElem?_pos, go_sem, hA7], by simp -dsimp [-getElem?_pos, go_sem]⟩
 clear t3 t4 t6 t7 t11 t12 t53 t54 h3 lt3 hh
 intro m s hs'
 rw [hJ] at hs'
 obtain ⟨k, hk, hm, t3, t4, t7, t11, t82, t83⟩ := hs'
 subst hm
 simp -dsimp -implicitDefEqProofs [-getElem?_pos, go_sem, hP, t83]
 refine condP (fun hh => ?_) (fun hh => ?_)
 rotate_left
 ·simp -dsimp -implicitDefEqProofs [-getElem?_pos, go_sem, hP]
  refine saneB ?_
  simp -dsimp -implicitDefEqProofs [-getElem?_pos, go_sem, hP]
 have hk : k < 3 := by simp at hh; omega
 clear hh
 have wk := wrap_in ((k : Int) + 1) (by omega)
 obtain ⟨y, fy, hix⟩ : ∃ y : TDesk, FitD y ∧ aixV Tryz.prog 73 A7 (iv k) = some (.agg [iv y.Account.Credit, subsL y.Account.Subs, entsL y.Account.Entries, paysL y.Queue.Waiting, numsL y.Queue.Known, batsL y.Queue.Batches, itemsL y.Items]) := by
  rw [hA7]
  rcases three26 hk with rfl | rfl | rfl
  ·exact ⟨d, hf, by kernel_rfl⟩
  ·exact ⟨o, fo, by kernel_rfl⟩
  ·exact ⟨raw, hfr, by kernel_rfl⟩
 clear hA7
 have k1 := dcheck_pf y fy
 have k2 := rcheck26_pf y fy
 have k3 := rpaid_pf y fy
 have k4 := rpaid26_pf y fy
 have iy := imm_desk y
 rw [cDn] at k1 k2 k3 k4 iy
 obtain ⟨n, hn⟩ : ∃ n, n = s.H.length := ⟨_, rfl⟩
 simp -dsimp -implicitDefEqProofs [-getElem?_pos, go_sem, hP, t82, t83, hix]
 refine adrawB (fun _ => true) [] hP (by kernel_rfl) (by kernel_rfl) ?_
 simp -dsimp -implicitDefEqProofs [-getElem?_pos, go_sem, hP]
 refine callB_is (k1.lift _ _) hP en_13 (by simpa using iy) .sc ?_
 simp -dsimp -implicitDefEqProofs [-getElem?_pos, go_sem, hP]
 refine callB_is (k2.lift _ _) hP en_36 (by simpa using iy) .sc ?_
 simp -dsimp -implicitDefEqProofs [-getElem?_pos, go_sem, hP]
 refine callB_is (k3.lift _ _) hP en_30 (by simpa using iy) .sc ?_
 simp -dsimp -implicitDefEqProofs [-getElem?_pos, go_sem, hP]
 refine callB_is (k4.lift _ _) hP en_37 (by simpa using iy) .sc ?_
 simp -dsimp -implicitDefEqProofs [-getElem?_pos, go_sem, hP]
 refine adrawB (fun _ => true) [] hP (by kernel_rfl) (by kernel_rfl) ?_
 simp -dsimp -implicitDefEqProofs [-getElem?_pos, go_sem, hP, t7, t11]
 refine callB_isQ (up (gpay_pf p src)) hP en_38 (by simp [imm_sc]) PayQ_ex ?_
 rintro r ⟨g, rfl, hg⟩ _
 obtain ⟨A2, hA2⟩ : ∃ A2 : AV, A2 = .agg [iv pr.Warrant, iv pr.Payee, iv pr.Amount, iv pr.Due, iv pr.Sub, iv g.Warrant, iv g.Payee, iv g.Amount, iv g.Due, iv g.Sub] := ⟨_, rfl⟩
 simp -dsimp -implicitDefEqProofs [-getElem?_pos, go_sem, hP, cPy, t7]
 obtain ⟨L, hL⟩ : ∃ I : Nat → St → Prop, I = fun m s => ∃ q : Nat, q ≤ 2 ∧ m = 2 - q ∧ s.t 3 = iv w ∧ s.t 4 = iv day ∧ s.t 7 = .iref [iv pr.Warrant, iv pr.Payee, iv pr.Amount, iv pr.Due, iv pr.Sub] ∧ s.t 11 = sp p ∧ s.t 82 = A7 ∧ s.t 83 = iv k ∧ s.t 21 = .ref n 0 0 ∧ s.t 101 = A2 ∧ s.t 102 = iv q ∧ s.H[n]? = some (some (deskO y)) := ⟨_, rfl⟩
 refine aloop0 L (2) (by rw [hN]; rfl) ?_ ?_
 ·rw [hL]
  exact ⟨0, by omega, by omega, by simp -dsimp [-getElem?_pos, go_sem, t3], by simp -dsimp [-getElem?_pos, go_sem, t4], by simp -dsimp [-getElem?_pos, go_sem, t7], by simp -dsimp [-getElem?_pos, go_sem, t11], by simp -dsimp [-getElem?_pos, go_sem, t82], by simp -dsimp [-getElem?_pos, go_sem, t83], by simp -dsimp [-getElem?_pos, go_sem, hn], by simp -dsimp [-getElem?_pos, go_sem, hA2], by simp -dsimp [-getElem?_pos, go_sem], by simp -dsimp [-getElem?_pos, go_sem, hn]⟩
 clear t3 t4 t7 t11 t82 t83 hn
 intro m s hs'
 rw [hL] at hs'
 obtain ⟨q, hq, hmq, t3, t4, t7, t11, t82, t83, t21, t101, t102, hy⟩ := hs'
 subst hmq
 have ltn := (gsI hy)
 have nxn : ∀ z : Heap, (s.H ++ z)[n]? = some (some (deskO y)) := fun z => by rw [List.getElem?_append_left ltn]; exact hy
 simp -dsimp -implicitDefEqProofs [-getElem?_pos, go_sem, hP, t102]
 refine condP (fun hh => ?_) (fun hh => ?_)
 ·have hq : q < 2 := by simp at hh; omega
  have wq := wrap_in ((q : Int) + 1) (by omega)
  obtain ⟨v, hiv⟩ : ∃ v : TPayment, aixV Tryz.prog 75 A2 (iv q) = some (.agg [iv v.Warrant, iv v.Payee, iv v.Amount, iv v.Due, iv v.Sub]) := by
   rw [hA2]
   rcases (show q = 0 ∨ q = 1 by omega) with rfl | rfl
   ·exact ⟨pr, by kernel_rfl⟩
   ·exact ⟨g, by kernel_rfl⟩
  have k1 := rorder_pf y v fy
  have k2 := order26_pf y v fy
  obtain ⟨X, hX⟩ : ∃ X, X = (orderD y v).1 := ⟨_, rfl⟩
  have fX : FitD X := hX ▸ orderD_fit y v
  have sX := same26_pf X X fX fX
  rw [← hX, cPy, cDn, cDn] at k1 k2
  rw [cDn] at sX
  rw [decide_eq_true (rfl : X = X)] at sX
  have iX := imm_desk X
  have iv' := imm_pay v
  rw [cDn] at iX
  rw [cPy] at iv'
  simp -dsimp -implicitDefEqProofs [-getElem?_pos, go_sem, hP, t101, t102, hiv, t21, nxn]
  refine callB_is (k1.lift _ _) hP en_27 (by simpa using ⟨iy, iv'⟩) (imm_pair iX .sc) ?_
  simp -dsimp -implicitDefEqProofs [-getElem?_pos, go_sem, hP, t21, nxn]
  refine callB_is (k2.lift _ _) hP en_39 (by simpa using ⟨iy, iv'⟩) (imm_pair iX .sc) ?_
  simp -dsimp -implicitDefEqProofs [-getElem?_pos, go_sem, hP]
  refine callB_is (sX.lift _ _) hP en_34 (by simpa using iX) .sc ?_
  simp -dsimp -implicitDefEqProofs [-getElem?_pos, go_sem, hP, t102, wq]
  refine ⟨2 - (q + 1), by omega, ?_⟩
  rw [hL]
  exact ⟨q + 1, by omega, rfl, by simp -dsimp [-getElem?_pos, go_sem, t3], by simp -dsimp [-getElem?_pos, go_sem, t4], by simp -dsimp [-getElem?_pos, go_sem, t7], by simp -dsimp [-getElem?_pos, go_sem, t11], by simp -dsimp [-getElem?_pos, go_sem, t82], by simp -dsimp [-getElem?_pos, go_sem, t83], by simp -dsimp [-getElem?_pos, go_sem, t21], by simp -dsimp [-getElem?_pos, go_sem, t101], by simp -dsimp [-getElem?_pos, go_sem], by simp -dsimp [-getElem?_pos, go_sem, nxn]⟩
 clear hA2
 simp -dsimp -implicitDefEqProofs [-getElem?_pos, go_sem, hP, t3, t4, t11]
 refine callB_isQ (up (rangeQ_pf p src 1 12 (by omega) (by omega))) hP en_26 (by simp [imm_sc]) (RQ_ex (by omega)) ?_
 rintro r ⟨a1, rfl, _⟩ _
 simp -dsimp -implicitDefEqProofs [-getElem?_pos, go_sem, hP, t3, t4, t11]
 refine callB_isQ (up (N_pf p src 40 (by omega))) hP en_18 (by simp [imm_sc]) (N_exI _) ?_
 rintro r ⟨a2, rfl, _⟩ _
 simp -dsimp -implicitDefEqProofs [-getElem?_pos, go_sem, hP, t3, t4, t11]
 refine callB_isQ (up (rangeQ_pf p src 1 12 (by omega) (by omega))) hP en_26 (by simp [imm_sc]) (RQ_ex (by omega)) ?_
 rintro r ⟨a3, rfl, _⟩ _
 simp -dsimp -implicitDefEqProofs [-getElem?_pos, go_sem, hP, t3, t4, t11]
 refine callB_is ((business_pf 40 (by omega)).lift _ _) hP en_17 (by simp [imm_sc]) .sc ?_
 obtain ⟨b40, hb40⟩ : ∃ b, b = busI 40 := ⟨_, rfl⟩
 rw [← hb40]
 obtain ⟨A6, hA6⟩ : ∃ A6 : AV, A6 = .agg [iv w, iv day, iv a1, iv a2, iv a3, iv b40] := ⟨_, rfl⟩
 simp -dsimp -implicitDefEqProofs [-getElem?_pos, go_sem, hP, t3, t4, t11]
 obtain ⟨M, hM⟩ : ∃ I : Nat → St → Prop, I = fun m s => ∃ q : Nat, q ≤ 3 ∧ m = 3 - q ∧ s.t 3 = iv w ∧ s.t 4 = iv day ∧ s.t 7 = .iref [iv pr.Warrant, iv pr.Payee, iv pr.Amount, iv pr.Due, iv pr.Sub] ∧ s.t 11 = sp p ∧ s.t 82 = A7 ∧ s.t 83 = iv k ∧ s.t 21 = .ref n 0 0 ∧ s.t 139 = A6 ∧ s.t 140 = iv q ∧ s.H[n]? = some (some (deskO y)) := ⟨_, rfl⟩
 refine aloop0 M (3) (by rw [hN]; rfl) ?_ ?_
 ·rw [hM]
  exact ⟨0, by omega, by omega, by simp -dsimp [-getElem?_pos, go_sem, t3], by simp -dsimp [-getElem?_pos, go_sem, t4], by simp -dsimp [-getElem?_pos, go_sem, t7], by simp -dsimp [-getElem?_pos, go_sem, t11], by simp -dsimp [-getElem?_pos, go_sem, t82], by simp -dsimp [-getElem?_pos, go_sem, t83], by simp -dsimp [-getElem?_pos, go_sem, t21], by simp -dsimp [-getElem?_pos, go_sem, hA6], by simp -dsimp [-getElem?_pos, go_sem], by simp -dsimp [-getElem?_pos, go_sem, hy]⟩
 clear t3 t4 t7 t11 t82 t83 t21 t101 t102 hy ltn nxn hh
 intro m s hs'
 rw [hM] at hs'
 obtain ⟨q, hq, hmq, t3, t4, t7, t11, t82, t83, t21, t139, t140, hy⟩ := hs'
 subst hmq
 have ltn := (gsI hy)
 have nxn : ∀ z : Heap, (s.H ++ z)[n]? = some (some (deskO y)) := fun z => by rw [List.getElem?_append_left ltn]; exact hy
 simp -dsimp -implicitDefEqProofs [-getElem?_pos, go_sem, hP, t140]
 refine condP (fun hh => ?_) (fun hh => ?_)
 rotate_left
 ·simp -dsimp -implicitDefEqProofs [-getElem?_pos, go_sem, hP, t83, wk]
  refine ⟨3 - (k + 1), by omega, ?_⟩
  rw [hJ]
  exact ⟨k + 1, by omega, rfl, by simp -dsimp [-getElem?_pos, go_sem, t3], by simp -dsimp [-getElem?_pos, go_sem, t4], by simp -dsimp [-getElem?_pos, go_sem, t7], by simp -dsimp [-getElem?_pos, go_sem, t11], by simp -dsimp [-getElem?_pos, go_sem, t82], by simp -dsimp [-getElem?_pos, go_sem]⟩
 have hq : q < 3 := by simp at hh; omega
 have wq := wrap_in ((q : Int) + 1) (by omega)
 obtain ⟨u, v, hiv⟩ : ∃ u v : Int, aixV Tryz.prog 77 A6 (iv q) = some (.agg [iv u, iv v]) := by
  rw [hA6]
  rcases three26 hq with rfl | rfl | rfl
  ·exact ⟨w, day, by kernel_rfl⟩
  ·exact ⟨a1, a2, by kernel_rfl⟩
  ·exact ⟨a3, b40, by kernel_rfl⟩
 clear hA6
 have k1 := rsend_pf y v fy
 have k2 := send26_pf y v fy
 obtain ⟨X, hX⟩ : ∃ X, X = (sendD y v).1 := ⟨_, rfl⟩
 obtain ⟨B, hB⟩ : ∃ B, B = (sendD y v).2.1 := ⟨_, rfl⟩
 have fX : FitD X := hX ▸ (sendD_fit y v).1
 have fB : B.Payments.length ≤ 100000 := hB ▸ (sendD_fit y v).2
 have sX := same26_pf X X fX fX
 have sB := batch25_pf B B fB fB
 rw [← hX, ← hB, cDn, cDn, cBt] at k1 k2
 rw [cDn] at sX
 rw [cBt] at sB
 rw [decide_eq_true (rfl : X = X)] at sX
 rw [decide_eq_true (rfl : B = B)] at sB
 have iX := imm_desk X
 have iB := imm_bat B
 rw [cDn] at iX
 rw [cBt] at iB
 have k3 := rstate_pf y u fy
 have k4 := rstate26_pf y u fy
 rw [cDn] at k3 k4
 simp -dsimp -implicitDefEqProofs [-getElem?_pos, go_sem, hP, t139, t140, hiv, t21, nxn]
 refine callB_is (k1.lift _ _) hP en_19 (by simp [imm_sc]; exact iy) (imm_trip iX iB .sc) ?_
 simp -dsimp -implicitDefEqProofs [-getElem?_pos, go_sem, hP, t21, nxn]
 refine callB_is (k2.lift _ _) hP en_40 (by simp [imm_sc]; exact iy) (imm_trip iX iB .sc) ?_
 simp -dsimp -implicitDefEqProofs [-getElem?_pos, go_sem, hP]
 refine adrawB (fun _ => true) [] hP (by kernel_rfl) (by kernel_rfl) ?_
 simp -dsimp -implicitDefEqProofs [-getElem?_pos, go_sem, hP, t21, nxn]
 refine callB_is (sX.lift _ _) hP en_34 (by simpa using iX) .sc ?_
 simp -dsimp -implicitDefEqProofs [-getElem?_pos, go_sem, hP, t21, nxn]
 refine callB_is (sB.lift _ _) hP en_41 (by simpa using iB) .sc ?_
 simp -dsimp -implicitDefEqProofs [-getElem?_pos, go_sem, hP, t21, nxn]
 refine callB_is (k3.lift _ _) hP en_14 (by simp [imm_sc]; exact iy) .sc ?_
 simp -dsimp -implicitDefEqProofs [-getElem?_pos, go_sem, hP, t21, nxn]
 refine callB_is (k4.lift _ _) hP en_42 (by simp [imm_sc]; exact iy) .sc ?_
 have k1Set := rsettle_pf y u fy
 have k2Set := settle26_pf y u fy
 obtain ⟨XSet, hXSet⟩ : ∃ X, X = (settleD y u).1 := ⟨_, rfl⟩
 have fXSet : FitD XSet := hXSet ▸ settleD_fit y u
 have sXSet := same26_pf XSet XSet fXSet fXSet
 rw [← hXSet, cDn, cDn] at k1Set k2Set
 rw [cDn] at sXSet
 rw [decide_eq_true (rfl : XSet = XSet)] at sXSet
 have iXSet := imm_desk XSet
 rw [cDn] at iXSet
 simp -dsimp -implicitDefEqProofs [-getElem?_pos, go_sem, hP, t21, nxn]
 refine callB_is (k1Set.lift _ _) hP en_32 (by simp [imm_sc]; exact iy) (imm_pair iXSet .sc) ?_
 simp -dsimp -implicitDefEqProofs [-getElem?_pos, go_sem, hP, t21, nxn]
 refine callB_is (k2Set.lift _ _) hP en_43 (by simp [imm_sc]; exact iy) (imm_pair iXSet .sc) ?_
 simp -dsimp -implicitDefEqProofs [-getElem?_pos, go_sem, hP, t21, nxn]
 refine callB_is (sXSet.lift _ _) hP en_34 (by simpa using iXSet) .sc ?_
 have k1Rec := rrecall_pf y u fy
 have k2Rec := recall26_pf y u fy
 obtain ⟨XRec, hXRec⟩ : ∃ X, X = (recallD y u).1 := ⟨_, rfl⟩
 have fXRec : FitD XRec := hXRec ▸ recallD_fit y u
 have sXRec := same26_pf XRec XRec fXRec fXRec
 rw [← hXRec, cDn, cDn] at k1Rec k2Rec
 rw [cDn] at sXRec
 rw [decide_eq_true (rfl : XRec = XRec)] at sXRec
 have iXRec := imm_desk XRec
 rw [cDn] at iXRec
 simp -dsimp -implicitDefEqProofs [-getElem?_pos, go_sem, hP, t21, nxn]
 refine callB_is (k1Rec.lift _ _) hP en_31 (by simp [imm_sc]; exact iy) (imm_pair iXRec .sc) ?_
 simp -dsimp -implicitDefEqProofs [-getElem?_pos, go_sem, hP, t21, nxn]
 refine callB_is (k2Rec.lift _ _) hP en_44 (by simp [imm_sc]; exact iy) (imm_pair iXRec .sc) ?_
 simp -dsimp -implicitDefEqProofs [-getElem?_pos, go_sem, hP, t21, nxn]
 refine callB_is (sXRec.lift _ _) hP en_34 (by simpa using iXRec) .sc ?_
 have k1Ret := rreturn_pf y u v fy
 have k2Ret := return26_pf y u v fy
 obtain ⟨XRet, hXRet⟩ : ∃ X, X = (returnD y u v).1 := ⟨_, rfl⟩
 have fXRet : FitD XRet := hXRet ▸ returnD_fit y u v
 have sXRet := same26_pf XRet XRet fXRet fXRet
 rw [← hXRet, cDn, cDn] at k1Ret k2Ret
 rw [cDn] at sXRet
 rw [decide_eq_true (rfl : XRet = XRet)] at sXRet
 have iXRet := imm_desk XRet
 rw [cDn] at iXRet
 simp -dsimp -implicitDefEqProofs [-getElem?_pos, go_sem, hP, t21, nxn]
 refine callB_is (k1Ret.lift _ _) hP en_28 (by simp [imm_sc]; exact iy) (imm_pair iXRet .sc) ?_
 simp -dsimp -implicitDefEqProofs [-getElem?_pos, go_sem, hP, t21, nxn]
 refine callB_is (k2Ret.lift _ _) hP en_45 (by simp [imm_sc]; exact iy) (imm_pair iXRet .sc) ?_
 simp -dsimp -implicitDefEqProofs [-getElem?_pos, go_sem, hP, t21, nxn]
 refine callB_is (sXRet.lift _ _) hP en_34 (by simpa using iXRet) .sc ?_
 have k1Aga := ragain_pf y u v fy
 have k2Aga := again26_pf y u v fy
 obtain ⟨XAga, hXAga⟩ : ∃ X, X = (againD y u v).1 := ⟨_, rfl⟩
 have fXAga : FitD XAga := hXAga ▸ againD_fit y u v
 have sXAga := same26_pf XAga XAga fXAga fXAga
 rw [← hXAga, cDn, cDn] at k1Aga k2Aga
 rw [cDn] at sXAga
 rw [decide_eq_true (rfl : XAga = XAga)] at sXAga
 have iXAga := imm_desk XAga
 rw [cDn] at iXAga
 simp -dsimp -implicitDefEqProofs [-getElem?_pos, go_sem, hP, t21, nxn]
 refine callB_is (k1Aga.lift _ _) hP en_29 (by simp [imm_sc]; exact iy) (imm_pair iXAga .sc) ?_
 simp -dsimp -implicitDefEqProofs [-getElem?_pos, go_sem, hP, t21, nxn]
 refine callB_is (k2Aga.lift _ _) hP en_46 (by simp [imm_sc]; exact iy) (imm_pair iXAga .sc) ?_
 simp -dsimp -implicitDefEqProofs [-getElem?_pos, go_sem, hP, t21, nxn]
 refine callB_is (sXAga.lift _ _) hP en_34 (by simpa using iXAga) .sc ?_
 simp -dsimp -implicitDefEqProofs [-getElem?_pos, go_sem, hP, t140, wq]
 refine ⟨3 - (q + 1), by omega, ?_⟩
 rw [hM]
 exact ⟨q + 1, by omega, rfl, by simp -dsimp [-getElem?_pos, go_sem, t3], by simp -dsimp [-getElem?_pos, go_sem, t4], by simp -dsimp [-getElem?_pos, go_sem, t7], by simp -dsimp [-getElem?_pos, go_sem, t11], by simp -dsimp [-getElem?_pos, go_sem, t82], by simp -dsimp [-getElem?_pos, go_sem, t83], by simp -dsimp [-getElem?_pos, go_sem, t21], by simp -dsimp [-getElem?_pos, go_sem, t139], by simp -dsimp [-getElem?_pos, go_sem], by simp -dsimp [-getElem?_pos, go_sem, nxn]⟩
end Go.Proofs.YtmpncdlhmknkoaaGreat
