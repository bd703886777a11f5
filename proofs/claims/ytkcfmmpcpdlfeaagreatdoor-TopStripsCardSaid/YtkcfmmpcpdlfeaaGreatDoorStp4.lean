/- Strips: a new vault; the security; adding to a strip. -/
import Derived.Test.YtkcfmmpcpdlfeaaGreatDoorStp3
set_option linter.unusedSimpArgs false
set_option linter.unusedVariables false
namespace Go.Proofs.YtkcfmmpcpdlfeaaGreatDoor
open Go.PA
open Go.RowKit

theorem index_pf_hol (l : List THolding) (g : FuncId) (caps : List AV) (p : THolding → Bool) (hl : l.length ≤ 1000000) (hen : enterable Tryz.prog g = true) (hcap : ∀ a, a ∈ caps → Imm a)
    (hg : ∀ a, a ∈ l → PFun Tryz.prog none none g (.agg (THolding.cells a) :: caps) (· = bv (p a))) :
    PFun Tryz.prog none none 67 [.list 3 (encL THolding.cells l), .fn g caps] (· = iv (idxI p l)) := by
  refine pfun_intro Tryz.func67 rfl (by simp [Tryz.f67]) (by kernel_rfl) ?_
  intro E hP hr hs hW hN
  simp -dsimp -implicitDefEqProofs [-getElem?_pos, go_sem, hP]
  obtain ⟨I, hI⟩ : ∃ I : Nat → St → Prop, I = fun m s => ∃ k : Nat, k ≤ l.length ∧ m = l.length - k ∧ idxI p l = idxFrom p k (l.drop k) ∧ s.t 0 = .list 3 (encL THolding.cells l) ∧ s.t 1 = .fn g caps ∧ s.t 7 = iv l.length ∧ s.t 8 = iv k := ⟨_, rfl⟩
  refine aloop0 I (l.length) (by rw [hN]; rfl) ?_ ?_
  · rw [hI]
    exact ⟨0, by omega, by omega, by simp [idxI], by simp -dsimp -implicitDefEqProofs [-getElem?_pos, go_sem], by simp -dsimp -implicitDefEqProofs [-getElem?_pos, go_sem], by simp -dsimp -implicitDefEqProofs [-getElem?_pos, go_sem], by simp -dsimp -implicitDefEqProofs [-getElem?_pos, go_sem]⟩
  intro m s hs'
  rw [hI] at hs'
  obtain ⟨k, hk, hm, hi, t0, t1, t7, t8⟩ := hs'
  simp -dsimp -implicitDefEqProofs [-getElem?_pos, go_sem, hP, t7, t8]
  refine condP (fun h => ?_) (fun h => ?_)
  · have hk : k < l.length := by simpa using h
    obtain ⟨a, ha⟩ : ∃ a, l[k]? = some a := ⟨_, List.getElem?_eq_getElem hk⟩
    have wk := wrap_in ((k : Int) + 1) (by omega)
    have hz : (THolding.cells a).take 3 = THolding.cells a := List.take_of_length_le (by rw [THolding.len]; omega)
    have hd : l.drop k = a :: l.drop (k + 1) := by
      rw [List.getElem?_eq_getElem hk] at ha
      rw [List.drop_eq_getElem_cons hk, Option.some.inj ha]
    simp -dsimp -implicitDefEqProofs [-getElem?_pos, go_sem, hP, t8, t1, t0, ha, THolding.len, hz]
    refine callB_is ((hg a (List.mem_of_getElem? ha)).lift _ _) hP hen (fun x hx => ?_) .sc ?_
    · rcases List.mem_cons.1 hx with rfl | hx
      · exact imm_agg.2 (THolding.imm a)
      · exact hcap x hx
    rw [hd] at hi
    simp only [idxFrom] at hi
    simp -dsimp -implicitDefEqProofs [-getElem?_pos, go_sem, hP]
    refine condP (fun hp => ?_) (fun hp => ?_)
    · rw [if_pos hp] at hi
      simp -dsimp -implicitDefEqProofs [-getElem?_pos, go_sem, hP]
      exact hi.symm
    · rw [hp, if_neg (by simp)] at hi
      simp -dsimp -implicitDefEqProofs [-getElem?_pos, go_sem, hP, t8, wk]
      refine ⟨l.length - (k + 1), by omega, ?_⟩
      rw [hI]
      exact ⟨k + 1, by omega, rfl, hi, by simp -dsimp -implicitDefEqProofs [-getElem?_pos, go_sem, t0], by simp -dsimp -implicitDefEqProofs [-getElem?_pos, go_sem, t1], by simp -dsimp -implicitDefEqProofs [-getElem?_pos, go_sem, t7], by simp -dsimp -implicitDefEqProofs [-getElem?_pos, go_sem]⟩
  · have hk : k = l.length := by simp at h; omega
    subst hk
    rw [List.drop_length] at hi
    simp -dsimp -implicitDefEqProofs [-getElem?_pos, go_sem, hP]
    exact hi.symm

theorem contains_pf_hol (l : List THolding) (g : FuncId) (caps : List AV) (p : THolding → Bool) (hl : l.length ≤ 1000000) (hen : enterable Tryz.prog g = true) (hcap : ∀ a, a ∈ caps → Imm a)
    (hg : ∀ a, a ∈ l → PFun Tryz.prog none none g (.agg (THolding.cells a) :: caps) (· = bv (p a))) :
    PFun Tryz.prog none none 26 [.list 3 (encL THolding.cells l), .fn g caps] (· = bv (l.any p)) := by
  refine pfun_intro Tryz.func26 rfl (by simp [Tryz.f26]) (by kernel_rfl) ?_
  intro E hP hr hs hW hN
  obtain ⟨w, hw⟩ : ∃ w, w = l.any p := ⟨_, rfl⟩
  rw [← hw]
  have hi : ∀ a, a ∈ [AV.list 3 (encL THolding.cells l), .fn g caps] → Imm a := fun a ha => by
    simp only [List.mem_cons, List.not_mem_nil, or_false] at ha
    rcases ha with rfl | rfl
    · exact imm_encL _ THolding.imm _
    · exact imm_fn.2 hcap
  simp -dsimp -implicitDefEqProofs [-getElem?_pos, go_sem, hP]
  refine callB_is ((index_pf_hol l g caps p hl hen hcap hg).lift _ _) hP en_67 hi .sc ?_
  rcases idxI_spec p l with ⟨h1, h2⟩ | ⟨i, a, h1, h2, h3, _⟩
  · have : w = false := by rw [hw]; exact List.any_eq_false.2 fun a ha => by simp [h2 a ha]
    simp -dsimp -implicitDefEqProofs [-getElem?_pos, go_sem, hP, h1, this]
  · have d : decide ((0 : Int) ≤ (i : Int)) = true := decide_eq_true (by omega)
    have : w = true := by rw [hw]; exact List.any_eq_true.2 ⟨a, List.mem_of_getElem? h1, h2⟩
    simp -dsimp -implicitDefEqProofs [-getElem?_pos, go_sem, hP, h3, d, this]

theorem new1_pf (x : THolding) (h : x.Holder ≠ 1000) : PFun Tryz.prog none none 27 [.agg x.cells] (· = bv false) := by
  refine pfun_intro Tryz.func27 rfl (by simp [Tryz.f27]) (by kernel_rfl) ?_
  intro E hP hr hs hW hN
  simp -dsimp -implicitDefEqProofs [-getElem?_pos, go_sem, hP, cHol, h]
theorem snew_pf (r : TRegister) (d : Int) (ok : RegOk r d) (h : ∀ x, x ∈ r.Holdings → x.Holder ≠ 1000) : PFun Tryz.prog none none 9 [.agg r.cells] (· = .tup [.agg (⟨r, []⟩ : TVault).cells, iv 0]) := by
  have ck := gcheck_pf r d ok
  have ir := imm_reg r
  have h4 := ok.hl.len
  have h5 := ok.mlen
  have h6 := ok.slen
  have cc := contains_pf_hol r.Holdings 27 [] (fun _ => false) (by omega) en_27 (by simp) fun a ha => new1_pf a (h a ha)
  have ea : (r.Holdings.any fun _ => false) = false := by simp
  rw [ea] at cc
  have ih := imm_holds r.Holdings
  have gc := fun (H : Heap) => gcopy_m (row := none) (src := none) r H (by omega) (by omega) (by omega)
  rw [cReg] at ck ir gc
  refine pfun_intro Tryz.func9 rfl (by simp [Tryz.f9]) (by kernel_rfl) ?_
  intro E hP hr hs hW hN
  simp -dsimp -implicitDefEqProofs [-getElem?_pos, go_sem, hP, cReg]
  refine callB_is (ck.lift _ _) hP en_18 (by simpa using ir) .sc ?_
  simp -dsimp -implicitDefEqProofs [-getElem?_pos, go_sem, hP]
  refine callB_pure cc hP en_26 (args_imm ih (args_fnc (cs := []) (by simp) (by simp) (args_nil.2 trivial))) .sc ?_
  simp -dsimp -implicitDefEqProofs [-getElem?_pos, go_sem, hP]
  refine callB_m (by rw [hr, hs]; exact gc _) hP en_23 ?_
  rintro x H4 ⟨i1, i2, i3, rfl, hrc, q1, q2, q3, kp4⟩
  simp only [List.length_cons, List.length_nil] at q1
  have d1 := kp4 1 _ (by simp) (by rfl)
  have l1 := (List.getElem?_eq_some_iff.1 d1).1
  simp -dsimp -implicitDefEqProofs [-getElem?_pos, go_sem, hP, regR, d1, l1]
  have hy : ∀ (z : Nat) (x : Option AObj) (w : Option (Option AObj)), z ≠ 1 → H4[z]? = w → (H4.set 1 x)[z]? = w := fun z x w h0 h => by rw [List.getElem?_set_ne (fun e => h0 e.symm)]; exact h
  refine done_agg2 (cs' := (⟨r, []⟩ : TVault).cells) ?_ rfl
  exact cw_sref (hy i1 _ _ (by omega) hrc.o1) (by rw [encL_len]) (imm_secs _) (cw_sref (hy i2 _ _ (by omega) hrc.o2) (by rw [encL_len]) (imm_holds _) (cw_sref (hy i3 _ _ (by omega) hrc.o3) (by rw [encL_len]) (imm_moves _) (cw_nil .nil)))
theorem ssecurity_pf (b : TSecurity) (hb : BS b) (v : TVault) (S d : Int) (h : VOk b v S d) : PFun Tryz.prog none none 28 [.agg v.cells, iv b.ID] (· = .tup [.agg b.cells, iv 0]) := by
  have ck := scheck_pf b hb v S d h
  have iv0 := imm_vlt v
  have ir := imm_reg v.Register
  have ib := imm_sec b
  have he := hb.ev
  have fp := gfindX_pf v.Register b.ID (by rw [h.secs]; simp)
  have ef : findR v.Register.Securities b.ID = (b, true) := by rw [findR, findS, h.secs]; simp
  rw [ef] at fp
  rw [cVlt] at ck iv0
  rw [cReg] at fp ir
  refine pfun_intro Tryz.func28 rfl (by simp [Tryz.f28]) (by kernel_rfl) ?_
  intro E hP hr hs hW hN
  simp -dsimp -implicitDefEqProofs [-getElem?_pos, go_sem, hP, cVlt]
  refine callB_is (ck.lift _ _) hP en_16 (by simpa using iv0) .sc ?_
  simp -dsimp -implicitDefEqProofs [-getElem?_pos, go_sem, hP]
  refine callB_is (fp.lift _ _) hP en_36 (by simpa [imm_sc] using ir) (imm_pair ib .sc) ?_
  simp -dsimp -implicitDefEqProofs [-getElem?_pos, go_sem, hP, cSec, he]
  exact done_imm (imm_pair (by rw [← cSec]; exact ib) .sc) rfl
set_option maxHeartbeats 1000000 in
theorem bsf_pf_stp (l : List TStrip) (y : TStrip) (g : FuncId) (cf : TStrip → Int) (k : Nat) (hl : l.length ≤ 1000000) (hk : k ≤ l.length) (hen : enterable Tryz.prog g = true) (hm : ∀ h x, l[h]? = some x → (cf x < 0 ↔ h < k))
    (hg : ∀ a, a ∈ l → PFun Tryz.prog none none g [.agg (TStrip.cells a), .agg ([iv y.Security, iv y.Day, bv y.Principal, iv y.Holder, iv y.Amount])] (· = iv (cf a))) :
    PFun Tryz.prog none none 71 [.list 5 (encL TStrip.cells l), .agg ([iv y.Security, iv y.Day, bv y.Principal, iv y.Holder, iv y.Amount]), .fn g []] (· = .tup [iv k, bv ((l[k]?).any fun x => decide (cf x = 0))]) := by
  refine pfun_intro Tryz.func71 rfl (by simp [Tryz.f71]) (by kernel_rfl) ?_
  intro E hP hr hs hW hN
  have ik : Imm (.agg ([iv y.Security, iv y.Day, bv y.Principal, iv y.Holder, iv y.Amount])) := (by rw [← cStp]; exact imm_stp y)
  simp -dsimp -implicitDefEqProofs [-getElem?_pos, go_sem, hP, cStp]
  obtain ⟨I, hI⟩ : ∃ I : Nat → St → Prop, I = fun m s => ∃ i j : Nat, i ≤ k ∧ k ≤ j ∧ j ≤ l.length ∧ m = j - i ∧ s.t 0 = .list 5 (encL TStrip.cells l) ∧ s.t 2 = .fn g [] ∧ s.t 4 = .ref 0 0 0 ∧ s.t 8 = iv l.length ∧ s.t 9 = iv i ∧ s.t 10 = iv j ∧ s.H[0]? = some (some ⟨79, 5, [[iv y.Security, iv y.Day, bv y.Principal, iv y.Holder, iv y.Amount]]⟩) := ⟨_, rfl⟩
  refine aloop0 I (l.length) (by rw [hN]; rfl) ?_ ?_
  · rw [hI]
    exact ⟨0, l.length, by omega, hk, by omega, rfl, by simp -dsimp -implicitDefEqProofs [-getElem?_pos, go_sem], by simp -dsimp -implicitDefEqProofs [-getElem?_pos, go_sem], by simp -dsimp -implicitDefEqProofs [-getElem?_pos, go_sem], by simp -dsimp -implicitDefEqProofs [-getElem?_pos, go_sem], by simp -dsimp -implicitDefEqProofs [-getElem?_pos, go_sem], by simp -dsimp -implicitDefEqProofs [-getElem?_pos, go_sem], by simp -dsimp -implicitDefEqProofs [-getElem?_pos, go_sem, cStp]⟩
  intro m s hs'
  rw [hI] at hs'
  obtain ⟨i, j, hi, hj, hjl, hm', t0, t2, t4, t8, t9, t10, hp⟩ := hs'
  have lt0 := (List.getElem?_eq_some_iff.1 hp).1
  simp -dsimp -implicitDefEqProofs [-getElem?_pos, go_sem, hP, t9, t10]
  refine condP (fun h => ?_) (fun h => ?_)
  · have hij : i < j := by simpa using h
    have w1 := wrap_in ((i : Int) + j) (by omega)
    have wu : IntKind.u64.wrap ((i : Int) + j) = (i : Int) + j := by rw [IntKind.wrap_u64]; omega
    obtain ⟨h, hh⟩ : ∃ h, h = (i + j) / 2 := ⟨_, rfl⟩
    have wh : IntKind.i64.wrap (((i : Int) + j) / 2) = (h : Int) := by rw [wrap_in _ (by omega)]; omega
    obtain ⟨a, ha⟩ : ∃ a, l[h]? = some a := ⟨_, List.getElem?_eq_getElem (by omega)⟩
    have hcmp := hm h a ha
    have w2 := wrap_in ((h : Int) + 1) (by omega)
    have ia : Imm (.agg (TStrip.cells a)) := .agg fun c hc => TStrip.imm a c hc
    have cm := hg a (List.mem_of_getElem? ha)
    rw [cStp] at cm ia
    simp -dsimp -implicitDefEqProofs [-getElem?_pos, go_sem, hP, t9, t10, w1, wu, aconv, aint_shr, wh]
    refine adrawB (fun _ => true) [] hP (by kernel_rfl) (by kernel_rfl) ?_
    simp -dsimp -implicitDefEqProofs [-getElem?_pos, go_sem, hP, t0, t2, t4, ha, hp, lt0, cStp]
    refine callB_is (cm.lift _ _) hP hen (by simpa using ⟨ia, ik⟩) .sc ?_
    by_cases c : cf a < 0
    · have c1 : decide (cf a < 0) = true := decide_eq_true c
      simp -dsimp -implicitDefEqProofs [-getElem?_pos, go_sem, hP, c1, w2]
      refine ⟨j - (h + 1), by omega, ?_⟩
      rw [hI]
      exact ⟨h + 1, j, by have := hcmp.1 c; omega, by omega, by omega, rfl, by simp -dsimp -implicitDefEqProofs [-getElem?_pos, go_sem, t0], by simp -dsimp -implicitDefEqProofs [-getElem?_pos, go_sem, t2], by simp -dsimp -implicitDefEqProofs [-getElem?_pos, go_sem, t4], by simp -dsimp -implicitDefEqProofs [-getElem?_pos, go_sem, t8], by simp -dsimp -implicitDefEqProofs [-getElem?_pos, go_sem], by simp -dsimp -implicitDefEqProofs [-getElem?_pos, go_sem, t10], by simp -dsimp -implicitDefEqProofs [-getElem?_pos, go_sem, hp]⟩
    · have c1 : decide (cf a < 0) = false := decide_eq_false c
      simp -dsimp -implicitDefEqProofs [-getElem?_pos, go_sem, hP, c1]
      refine ⟨h - i, by omega, ?_⟩
      rw [hI]
      exact ⟨i, h, by omega, by have := mt hcmp.2 c; omega, by omega, rfl, by simp -dsimp -implicitDefEqProofs [-getElem?_pos, go_sem, t0], by simp -dsimp -implicitDefEqProofs [-getElem?_pos, go_sem, t2], by simp -dsimp -implicitDefEqProofs [-getElem?_pos, go_sem, t4], by simp -dsimp -implicitDefEqProofs [-getElem?_pos, go_sem, t8], by simp -dsimp -implicitDefEqProofs [-getElem?_pos, go_sem, t9], by simp -dsimp -implicitDefEqProofs [-getElem?_pos, go_sem], by simp -dsimp -implicitDefEqProofs [-getElem?_pos, go_sem, hp]⟩
  · have hik : i = k := by
      have : ¬ i < j := by simpa using h
      omega
    subst hik
    simp -dsimp -implicitDefEqProofs [-getElem?_pos, go_sem, hP]
    refine adrawB (fun _ => true) [] hP (by kernel_rfl) (by kernel_rfl) ?_
    by_cases c : i < l.length
    · obtain ⟨a, ha⟩ : ∃ a, l[i]? = some a := ⟨_, List.getElem?_eq_getElem c⟩
      have d : decide ((i : Int) < (l.length : Int)) = true := decide_eq_true (by omega)
      have ia : Imm (.agg (TStrip.cells a)) := .agg fun c hc => TStrip.imm a c hc
      have cm := hg a (List.mem_of_getElem? ha)
      rw [cStp] at cm ia
      simp -dsimp -implicitDefEqProofs [-getElem?_pos, go_sem, hP, t9, t8, c, d, t0, t2, t4, ha, hp, lt0, cStp]
      refine callB_is (cm.lift _ _) hP hen (by simpa using ⟨ia, ik⟩) .sc ?_
      simp -dsimp -implicitDefEqProofs [-getElem?_pos, go_sem, hP, t9, t8, c, d, t0, t2, t4, ha, hp, lt0, cStp]
      exact done_imm (imm_pair .sc .sc) (by simp [ha])
    · have d : decide ((i : Int) < (l.length : Int)) = false := decide_eq_false (by omega)
      have n : l[i]? = none := List.getElem?_eq_none (by omega)
      simp -dsimp -implicitDefEqProofs [-getElem?_pos, go_sem, hP, t9, t8, c, d]
      exact done_imm (imm_pair .sc .sc) (by simp [n])

set_option maxRecDepth 8000 in
set_option maxHeartbeats 2000000 in
theorem insert_m_stp {row src : Option Nat} (es : List (List AV)) (e : List AV) (i id : Nat) (H : Heap) (hi : i ≤ es.length) (hl : es.length ≤ 100000) (ho : H[id]? = some (some ⟨79, 5, es⟩)) (he0 : e ≠ []) :
    MFun Tryz.prog row src 72 [.sref id 0 es.length, iv i, .list 5 [e]] H (fun r H' => ∃ jd, r = .sref jd 0 (es.length + 1) ∧ (jd = id ∨ H.length ≤ jd) ∧ H'[jd]? = some (some ⟨79, 5, es.take i ++ e :: es.drop i⟩) ∧ Kept [id] H H') := by
  obtain ⟨C, hC⟩ : ∃ C : AV → Heap → Prop, C = fun r H' => ∃ jd, r = .sref jd 0 (es.length + 1) ∧ (jd = id ∨ H.length ≤ jd) ∧ H'[jd]? = some (some ⟨79, 5, es.take i ++ e :: es.drop i⟩) ∧ Kept [id] H H' := ⟨_, rfl⟩
  rw [← hC]
  have ex : ∃ r H', C r H' := by
    rw [hC]
    exact ⟨.sref H.length 0 (es.length + 1), H ++ [some ⟨79, 5, es.take i ++ e :: es.drop i⟩], H.length, rfl, .inr (Nat.le_refl _), by simp, kept_app _ _ _⟩
  have lid := (List.getElem?_eq_some_iff.1 ho).1
  obtain ⟨n, hn⟩ : ∃ n, n = es.length := ⟨_, rfl⟩
  rw [← hn] at hi hl hC ⊢
  by_cases hin : i = n
  · subst hin
    refine mfun_intro Tryz.func72 rfl (by simp [Tryz.f72]) (by kernel_rfl) (ex) ?_
    intro E hP hr hs hN
    by_cases h0 : i = 0
    · subst h0
      simp -dsimp -implicitDefEqProofs [-getElem?_pos, go_sem, hP, ho, ← hn, asliceOp, bound, aslice]
      rw [hC]
      exact ⟨H.length, rfl, .inr (Nat.le_refl _), by simp -dsimp -implicitDefEqProofs [-getElem?_pos, go_sem, List.eq_nil_of_length_eq_zero hn.symm], (kept_set none (by simp) (kept_refl _ _)).trans (kept_app _ _ _)⟩
    · simp -dsimp -implicitDefEqProofs [-getElem?_pos, go_sem, hP, ho, ← hn, h0, asliceOp, bound, aslice]
      refine ⟨by omega, by omega, ?_⟩
      rw [hC]
      exact ⟨H.length, rfl, .inr (Nat.le_refl _), by simp -dsimp -implicitDefEqProofs [-getElem?_pos, go_sem, hn], (kept_set none (by simp) (kept_refl _ _)).trans (kept_app _ _ _)⟩
  · have hlt : i < n := by omega
    have hin' : ¬ (i : Int) = n := by omega
    have w1 := wrap_in ((n : Int) + 1) (by omega)
    have w2 := wrap_in ((i : Int) + 1) (by omega)
    have w3 := wrap_in ((n : Int) + 1 - i) (by omega)
    have hesne : es ≠ [] := by intro e0; simp [e0] at hn; omega
    refine mfun_unfull (C := fun r H' => C r H' ∨ ∃ N, r = .full id 0 (n + 1) N ∧ ∃ o, H'[id]? = some (some o) ∧ n + 1 ≤ o.es.length ∧ C (.sref id 0 (n + 1)) H') ?_ (fun r H' h => ?_)
    rotate_left
    · rcases h with h | ⟨N, h1, o, h2, h3, h4⟩
      · exact .inl h
      · exact .inr ⟨id, n + 1, N, o, h1, h2, h3, h4⟩
    refine mfun_full ho hesne (by dsimp only; omega) fun N hN0 => ?_
    dsimp only at hN0
    obtain ⟨D, hD⟩ : ∃ D : AV → Heap → Prop, D = fun r H' => C r H' ∨ ∃ N, r = .full id 0 (n + 1) N ∧ ∃ o, H'[id]? = some (some o) ∧ n + 1 ≤ o.es.length ∧ C (.sref id 0 (n + 1)) H' := ⟨_, rfl⟩
    rw [← hD]
    have exD : ∃ r H', D r H' := by
      obtain ⟨r, H', h⟩ := ex
      rw [hD]
      exact ⟨r, H', .inl h⟩
    have fx : ∀ (id n N : Nat), (if i = 0 then some (AV.full id 0 n N) else some (AV.full id i (n - i) N)) = some (.full id i (n - i) N) := fun id n N => by
      split
      · subst i; rfl
      · rfl
    have nN : n ≤ N := by omega
    have iN : i ≤ N := by omega
    have a1 : (0 : Int) ≤ (n : Int) + 1 := by omega
    have a3 : (0 : Int) ≤ (i : Int) + 1 := by omega
    have a4 : (i : Int) + 1 ≤ (n : Int) + 1 := by omega
    refine mfun_intro Tryz.func72 rfl (by simp [Tryz.f72]) (by kernel_rfl) (exD) ?_
    intro E hP hr hs hN
    by_cases hroom : N < n + 1
    · have dN : decide ((N : Int) < (n : Int) + 1) = true := decide_eq_true (by omega)
      obtain ⟨zs, hz⟩ := Option.isSome_iff_exists.1 (show (zeros Tryz.prog 79).isSome = true by kernel_rfl)
      have hbt : bytesOf Tryz.prog 79 = 40 := by kernel_rfl
      have hm : (n : Int) + 1 - i = ((n + 1 - i : Nat) : Int) := by omega
      have sx : ∀ (id n : Nat), (if i = 0 then some (AV.sref id 0 n) else some (AV.sref id i (n - i))) = some (.sref id i (n - i)) := fun id n => by
        split
        · subst i; rfl
        · rfl
      simp -dsimp -implicitDefEqProofs [-getElem?_pos, go_sem, hP, dN, ho, ← hn, hin, hin', asliceOp, bound, aslice, w1, w2, w3, hroom, hi, nN, iN, a1, a3, a4, fx]
      refine buiB_makeE (e := 79) (m := n + 1 - i) (L := n + 1) (kn := .i64) (zs := zs) ho (by rw [hP]; kernel_rfl) (by rw [hP]; kernel_rfl) (by rw [hP]; kernel_rfl) (by omega) rfl (by rw [hP]; exact hz) (by omega) hm (by omega) (by omega) hroom (by omega) (by rw [hP, hbt]; omega) ?_
      have ho2 : (H ++ [some (⟨79, 5, es.take i ++ List.replicate (n + 1 - i) zs⟩ : AObj)])[id]? = some (some ⟨79, 5, es⟩) := by rw [List.getElem?_append_left lid]; exact ho
      have hl1 : (es.take i ++ List.replicate (n + 1 - i) zs).length = n + 1 := by simp; omega
      have a7 : (i : Int) ≤ (n : Int) + 1 := by omega
      have a8 : ¬ ((i : Int) = (n : Int) + 1) := by omega
      have a9 : i ≤ n + 1 := by omega
      have a10 : ¬ i = n + 1 := by omega
      have hA : (es.take i).length = i := by simp; omega
      have d1 : (es.take i ++ List.replicate (n + 1 - i) zs).drop (i + 1) = List.replicate (n - i) zs := by
        rw [List.drop_append, List.drop_of_length_le (by omega), hA, List.nil_append, List.drop_replicate]
        congr 1
        omega
      simp -dsimp -implicitDefEqProofs [-getElem?_pos, go_sem, hP, ho2, asliceOp, bound, aslice, a7, a8, a9, a10, sx]
      refine buiB_copyE (e := 79) (ty := 79) (k := 5) (lo := i) (dn := n + 1 - i) (m := 1) (es := es.take i ++ List.replicate (n + 1 - i) zs) (news := [e]) (es' := es.take i ++ e :: List.replicate (n - i) zs) (by simp) (.inl rfl) (by rw [hP]; kernel_rfl) (by rw [hP]; kernel_rfl) (by omega) (by rw [hP]; kernel_rfl) ?_ rfl (by omega) (by omega) (by simp; omega) ?_ ?_
      · simp only [srcEs]
        rw [if_pos (by rw [hP]; kernel_rfl)]
      · rw [d1, List.take_append_of_le_length (by omega), List.take_of_length_le (by omega)]
        simp
      have ho3 : (H ++ [some (⟨79, 5, es.take i ++ e :: List.replicate (n - i) zs⟩ : AObj)])[id]? = some (some ⟨79, 5, es⟩) := by rw [List.getElem?_append_left lid]; exact ho
      have a5 : ¬ ((i : Int) + 1 = 0) := by omega
      have a6 : ((n : Int) + 1 - ((i : Int) + 1)).toNat = n - i := by omega
      have a11 : ¬ ((i : Int) + 1 = (n : Int) + 1) := by omega
      simp -dsimp -implicitDefEqProofs [-getElem?_pos, go_sem, hP]
      refine adrawB (fun _ => true) [8] hP (by kernel_rfl) (by kernel_rfl) ?_
      simp -dsimp -implicitDefEqProofs [-getElem?_pos, go_sem, hP, ho3, ← hn, hin, hin', asliceOp, bound, aslice, w1, w2, hi, nN, iN, a1, a3, a4, a5, a6, a7, a8, a11, fx, sx]
      refine buiB_copyE (e := 79) (ty := 79) (k := 5) (lo := i + 1) (dn := n - i) (m := n - i) (es := es.take i ++ e :: List.replicate (n - i) zs) (news := es.drop i) (es' := es.take i ++ e :: es.drop i) (by simp) (.inl rfl) (by rw [hP]; kernel_rfl) (by rw [hP]; kernel_rfl) (by omega) (by rw [hP]; kernel_rfl) ?_ (by simp [← hn]) (by omega) (by omega) (by simp; omega) ?_ ?_
      · simp only [srcEs, ho3]
        rw [if_pos ⟨by rw [hP]; kernel_rfl, by omega⟩, List.take_of_length_le (by simp; omega)]
      · rw [show es.take i ++ e :: List.replicate (n - i) zs = (es.take i ++ [e]) ++ List.replicate (n - i) zs from by simp, List.take_append_of_le_length (by simp; omega), List.take_of_length_le (by simp; omega), List.drop_of_length_le (show ((es.take i ++ [e]) ++ List.replicate (n - i) zs).length ≤ i + 1 + (n - i) by simp; omega)]
        simp
      simp -dsimp -implicitDefEqProofs [-getElem?_pos, go_sem, hP]
      rw [hD, hC]
      exact .inl ⟨H.length, rfl, .inr (Nat.le_refl _), by simp, kept_app _ _ _⟩
    · have dN : decide ((N : Int) < (n : Int) + 1) = false := decide_eq_false (by omega)
      have a2 : (n : Int) + 1 ≤ N := by omega
      have a5 : ¬ ((i : Int) + 1 = 0) := by omega
      have a6 : ((n : Int) + 1 - ((i : Int) + 1)).toNat = n - i := by omega
      have a7 : (i : Int) ≤ (n : Int) + 1 := by omega
      have a8 : ¬ ((i : Int) = (n : Int) + 1) := by omega
      simp -dsimp -implicitDefEqProofs [-getElem?_pos, go_sem, hP, dN, ho, ← hn, hin, hin', asliceOp, bound, aslice, w1, w2, w3, hroom, hi, nN, iN, a1, a2, a3, a4, a5, a6, a7, a8, fx]
      refine callB_overlapsL (t := 38) (e := 79) (tR := 4) (fn := Tryz.f106) (id' := id) (lo' := i + 1) (dn' := n - i) (by rw [hP]; exact Tryz.func106) (by kernel_rfl) (by kernel_rfl) (by kernel_rfl) (by kernel_rfl) (by rw [hP]; kernel_rfl) (by rw [hP]; kernel_rfl) he0 (.inr ⟨N, rfl⟩) ho (by omega) ?_
      simp -dsimp -implicitDefEqProofs [-getElem?_pos, go_sem, hP]
      refine adrawB (fun _ => true) [8] hP (by kernel_rfl) (by kernel_rfl) ?_
      simp -dsimp -implicitDefEqProofs [-getElem?_pos, go_sem, hP, dN, ho, ← hn, hin, hin', asliceOp, bound, aslice, w1, w2, w3, hroom, hi, nN, iN, a1, a2, a3, a4, a5, a6, a7, a8, fx]
      refine buiB_copyS (e := 79) (lo := i + 1) (dn := n - i) (news := es.drop i) (es' := es.take (i + 1) ++ es.drop i) ho (.inr ⟨N, rfl⟩) (by rw [hP]; kernel_rfl) (by rw [hP]; kernel_rfl) (by omega) (by rw [hP]; kernel_rfl) ?_ (by simp [← hn]) (by omega) (by omega) (by omega) (by rw [List.drop_of_length_le (show es.length ≤ i + 1 + (n - i) by omega), List.append_nil]) ?_
      · simp only [srcEs, ho]
        rw [if_pos ⟨by rw [hP]; kernel_rfl, by omega⟩, List.take_of_length_le (by simp; omega)]
      simp -dsimp -implicitDefEqProofs [-getElem?_pos, go_sem, hP, lid, ho, asliceOp, bound, aslice, a2, a7, a8, fx]
      refine buiB_copyE (e := 79) (ty := 79) (k := 5) (lo := i) (dn := n + 1 - i) (m := 1) (es := es.take (i + 1) ++ es.drop i) (news := [e]) (es' := es.take i ++ e :: es.drop i) (by simp [lid]) (.inr ⟨N, rfl⟩) (by rw [hP]; kernel_rfl) (by rw [hP]; kernel_rfl) (by omega) (by rw [hP]; kernel_rfl) ?_ rfl (by omega) (by omega) (by simp [← hn]; omega) ?_ ?_
      · simp only [srcEs]
        rw [if_pos (by rw [hP]; kernel_rfl)]
      · rw [List.take_append_of_le_length (by simp; omega), List.take_take, Nat.min_eq_left (by omega), List.drop_append_of_le_length (by simp; omega), List.drop_of_length_le (by simp; omega)]
        simp
      simp -dsimp -implicitDefEqProofs [-getElem?_pos, go_sem, hP, lid]
      rw [hD, hC]
      simp only [List.set_set]
      exact .inr ⟨N, rfl, ⟨79, 5, es.take i ++ e :: es.drop i⟩, by simp [lid], by simp [← hn]; omega, id, rfl, .inl rfl, by simp [lid], kept_set _ (by simp) (kept_refl _ _)⟩

/-- What has become of the strips. -/
def AddS (H : Heap) (hid : Nat) (l : List TStrip) (r : AV) (H' : Heap) : Prop := ∃ jd, r = .sref jd 0 l.length ∧ H'[jd]? = some (some ⟨79, 5, encL TStrip.cells l⟩) ∧ (∀ (z : Nat) (o : AObj), z ≠ hid → H[z]? = some (some o) → z ≠ jd) ∧ Kept [hid] H H'
set_option maxHeartbeats 4000000 in
theorem sadd_m {row src : Option Nat} (hid : Nat) (l : List TStrip) (x : TStrip) (n : Int) (H : Heap) (ho : H[hid]? = some (some ⟨79, 5, encL TStrip.cells l⟩)) (hl : l.length ≤ 10000) (hs0 : l.Pairwise sR) (hb : ∀ y, y ∈ l → 0 < y.Amount ∧ y.Amount ≤ 1000000000000) (hn : 0 < n ∧ n ≤ 1000000000000) :
    MFun Tryz.prog row src 32 [.sref hid 0 l.length, .agg x.cells, iv n] H (AddS H hid (setS l x n)) := by
  obtain ⟨l', hl'⟩ : ∃ l', l' = setS l x n := ⟨_, rfl⟩
  rw [← hl']
  obtain ⟨C, hC⟩ : ∃ C : AV → Heap → Prop, C = AddS H hid l' := ⟨_, rfl⟩
  rw [← hC]
  have lh := (List.getElem?_eq_some_iff.1 ho).1
  have ex : ∃ r H', C r H' := by
    rw [hC]
    exact ⟨_, H.set hid (some ⟨79, 5, encL TStrip.cells l'⟩), hid, rfl, by simp [lh], fun z o hz _ => hz, kept_set _ (by simp) (kept_refl _ _)⟩
  obtain ⟨k, hkl, hm, hcase⟩ := place_setK (sOk x.Security x.Day x.Principal x.Holder) hs0
  have bs := bsf_pf_stp l x 47 (fun y => cmpS y x) k (by omega) hkl en_47 (fun j y hy => by rw [cmpS_lt]; exact hm j y hy) fun a _ => by have := scompare_pf a x; rw [cStp x] at this; exact this
  have il := imm_strips l
  have ix := imm_stp x
  rw [cStp] at ix
  rcases hcase with ⟨y, e1, e2, e3, e4⟩ | ⟨e1, e3, e4⟩
  · have lk := (List.getElem?_eq_some_iff.1 e1).1
    have by0 := hb y (List.mem_of_getElem? e1)
    have wa := wrap_in (y.Amount + n) (by omega)
    have e4 : l' = l.take k ++ sMk x.Security x.Day x.Principal x.Holder (y.Amount + n) :: l.drop (k + 1) := by
      rw [hl', setS, e4 n]
      exact if_neg (by unfold sAm; omega)
    have ebt : ((l[k]?).any fun y => decide (cmpS y x = 0)) = true := by
      rw [e1]
      exact decide_eq_true ((cmpS_eq y x).2 e2)
    rw [ebt] at bs
    unfold sIs at e2
    rw [decide_eq_true_eq, knd_inj] at e2
    obtain ⟨z, hz⟩ : ∃ z : TStrip, z = ⟨y.Security, y.Day, y.Principal, y.Holder, y.Amount + n⟩ := ⟨_, rfl⟩
    have ez : l' = l.set k z := by
      rw [e4, List.set_eq_take_append_cons_drop.trans (if_pos lk), hz, e2.1, e2.2.1, e2.2.2.1, e2.2.2.2]
      rfl
    have ey : (encL TStrip.cells l).set k [iv y.Security, iv y.Day, bv y.Principal, iv y.Holder, iv (y.Amount + n)] = encL TStrip.cells (l.set k z) := by rw [← encL_set, hz, cStp]
    have lk2 : (l.set k z)[k]? = some z := by simp [lk]
    have cz : z.cells = [iv y.Security, iv y.Day, bv y.Principal, iv y.Holder, iv (y.Amount + n)] := by rw [hz]; rfl
    have nz : ¬ y.Amount + n = 0 := by omega
    refine mfun_intro Tryz.func32 rfl (by simp [Tryz.f32]) (by kernel_rfl) (ex) ?_
    intro E hP hr hs hN
    simp -dsimp -implicitDefEqProofs [-getElem?_pos, go_sem, hP, cStp]
    obtain ⟨H1, hH1⟩ : ∃ H1 : Heap, H1 = H ++ [some ⟨79, 5, [[iv x.Security, iv x.Day, bv x.Principal, iv x.Holder, iv x.Amount]]⟩] := ⟨_, rfl⟩
    have k1 : Kept [] H H1 := by rw [hH1]; exact kept_app _ _ _
    have o1 := k1 _ _ (by simp) ho
    have lo1 := (List.getElem?_eq_some_iff.1 o1).1
    rw [← hH1]
    refine callB_flat (bs.lift _ _) hP en_71 (args_sref o1 (by rw [encL_len]) il (args_imm ix (args_fnc (cs := []) (by simp) (by simp) (args_nil.2 trivial)))) ⟨_, rfl⟩ (by rintro r rfl; simp [flat_tup, flat_sc]) ?_
    rintro r rfl
    simp -dsimp -implicitDefEqProofs [-getElem?_pos, go_sem, hP, o1, lo1, e1, cStp, encL_len, lk, wa, ey, lk2, cz, nz]
    obtain ⟨H2, hH2⟩ : ∃ H2, H2 = H1.set hid (some ⟨79, 5, encL TStrip.cells (l.set k z)⟩) := ⟨_, rfl⟩
    rw [← hH2]
    refine condP (fun hq => absurd (show z.Amount = 0 by simpa using hq) (by rw [hz]; exact nz)) (fun _ => ?_)
    simp -dsimp -implicitDefEqProofs [-getElem?_pos, go_sem, hP]
    rw [hC, ez, hH2]
    exact ⟨hid, by rw [List.length_set], by simp [lo1], fun z o hz _ => hz, (k1.mono (by simp)).trans (kept_set _ (by simp) (kept_refl _ _))⟩
  · have e4 : l' = l.take k ++ sMk x.Security x.Day x.Principal x.Holder n :: l.drop k := by
      rw [hl', setS, e4 n]
      exact if_neg (by omega)
    have ebf : ((l[k]?).any fun y => decide (cmpS y x = 0)) = false := by
      cases e : l[k]? with
      | none => rfl
      | some y =>
        have := e1 y e
        refine decide_eq_false fun h0 => ?_
        rw [(cmpS_eq y x).1 h0] at this
        cases this
    rw [ebf] at bs
    have wa := wrap_in (0 + n) (by omega)
    have wa' := wrap_in n (by omega)
    have nz : ¬ n = 0 := by omega
    refine mfun_intro Tryz.func32 rfl (by simp [Tryz.f32]) (by kernel_rfl) (ex) ?_
    intro E hP hr hs hN
    simp -dsimp -implicitDefEqProofs [-getElem?_pos, go_sem, hP, cStp]
    obtain ⟨H1, hH1⟩ : ∃ H1 : Heap, H1 = H ++ [some ⟨79, 5, [[iv x.Security, iv x.Day, bv x.Principal, iv x.Holder, iv x.Amount]]⟩] := ⟨_, rfl⟩
    have k1 : Kept [] H H1 := by rw [hH1]; exact kept_app _ _ _
    have o1 := k1 _ _ (by simp) ho
    have lo1 := (List.getElem?_eq_some_iff.1 o1).1
    obtain ⟨p, hp⟩ : ∃ p, p = H.length := ⟨_, rfl⟩
    have b1 : H1[p]? = some (some ⟨79, 5, [[iv x.Security, iv x.Day, bv x.Principal, iv x.Holder, iv x.Amount]]⟩) := by rw [hH1, hp]; simp
    have lp1 := (List.getElem?_eq_some_iff.1 b1).1
    rw [← hH1, ← hp]
    refine callB_flat (bs.lift _ _) hP en_71 (args_sref o1 (by rw [encL_len]) il (args_imm ix (args_fnc (cs := []) (by simp) (by simp) (args_nil.2 trivial)))) ⟨_, rfl⟩ (by rintro r rfl; simp [flat_tup, flat_sc]) ?_
    rintro r rfl
    have np : ¬ p = hid := by omega
    simp -dsimp -implicitDefEqProofs [-getElem?_pos, go_sem, hP, b1, lp1]
    obtain ⟨H2, hH2⟩ : ∃ H2, H2 = H1.set p (some ⟨79, 5, [[iv x.Security, iv x.Day, bv x.Principal, iv x.Holder, iv 0]]⟩) := ⟨_, rfl⟩
    rw [← hH2]
    have o2 : H2[hid]? = some (some ⟨79, 5, encL TStrip.cells l⟩) := by rw [hH2, List.getElem?_set_ne np]; exact o1
    have im := fun {row src : Option Nat} => insert_m_stp (row := row) (src := src) (encL TStrip.cells l) [iv x.Security, iv x.Day, bv x.Principal, iv x.Holder, iv 0] k hid H2 (by rw [encL_len]; exact hkl) (by rw [encL_len]; omega) o2 (by simp)
    rw [encL_len] at im
    refine callB_m (by rw [hr, hs]; exact im) hP en_72 ?_
    rintro r H3 ⟨jd, rfl, hj, h3, kp3⟩
    have lh3 := (List.getElem?_eq_some_iff.1 h3).1
    obtain ⟨y0, hy0⟩ : ∃ y0 : TStrip, y0 = ⟨x.Security, x.Day, x.Principal, x.Holder, 0⟩ := ⟨_, rfl⟩
    obtain ⟨y, hy⟩ : ∃ y : TStrip, y = ⟨x.Security, x.Day, x.Principal, x.Holder, n⟩ := ⟨_, rfl⟩
    obtain ⟨l1, hl1⟩ : ∃ l1, l1 = l.take k ++ y0 :: l.drop k := ⟨_, rfl⟩
    have h2' : (encL TStrip.cells l).take k ++ [iv x.Security, iv x.Day, bv x.Principal, iv x.Holder, iv 0] :: (encL TStrip.cells l).drop k = encL TStrip.cells l1 := by
      rw [encL_takeE, encL_dropE, hl1, ← encL_appE, hy0]
      rfl
    rw [h2'] at h3
    have ll1 : l1.length = l.length + 1 := by rw [hl1]; simp; omega
    have e1k : l1[k]? = some y0 := by rw [hl1, List.getElem?_append_right (by simp; omega)]; simp [Nat.min_eq_left hkl]
    have lk : k < l1.length := by omega
    have lkl : k < l.length + 1 := by omega
    have lki : (k : Int) < (l.length : Int) + 1 := by omega
    have lk2 : (l1.set k y)[k]? = some y := by simp [lk]
    have es1 : l1.set k y = l' := by
      rw [e4, hl1, List.set_append_right _ _ (by simp; omega)]
      simp [Nat.min_eq_left hkl, hy]
      rfl
    have ey : (encL TStrip.cells l1).set k [iv x.Security, iv x.Day, bv x.Principal, iv x.Holder, iv n] = encL TStrip.cells (l1.set k y) := by rw [← encL_set, hy, cStp]
    have c0 : y0.cells = [iv x.Security, iv x.Day, bv x.Principal, iv x.Holder, iv 0] := by rw [hy0]; rfl
    have cy : y.cells = [iv x.Security, iv x.Day, bv x.Principal, iv x.Holder, iv n] := by rw [hy]; rfl
    simp -dsimp -implicitDefEqProofs [-getElem?_pos, go_sem, hP, h3, lh3, e1k, c0, encL_len, lk, lkl, lki, ll1, wa, wa', ey, lk2, cy, nz]
    rw [hC, ← es1]
    have lset : (l1.set k y).length = l.length + 1 := by simp [ll1]
    refine ⟨jd, by rw [lset], by simp [lh3], fun z o hz he => ?_, fun z o hz he => ?_⟩
    · rcases hj with rfl | hj
      · exact hz
      · have := (List.getElem?_eq_some_iff.1 (k1 z o (by simp) he)).1
        rw [hH2] at hj
        simp at hj
        omega
    · have hz' : ¬ z = hid := by simpa using hz
      have h1z := k1 z o (by simp) he
      have hzp : z ≠ p := fun e => by
        have := (List.getElem?_eq_some_iff.1 he).1
        omega
      have h2z : H2[z]? = some (some o) := by rw [hH2, List.getElem?_set_ne (fun e => hzp e.symm)]; exact h1z
      have h3z := kp3 z o (by simp [hz']) h2z
      have njz : ¬ jd = z := fun e => by
        rcases hj with rfl | hj
        · exact hz' e.symm
        · have := (List.getElem?_eq_some_iff.1 h2z).1
          omega
      rw [List.getElem?_set_ne njz]
      exact h3z
end Go.Proofs.YtkcfmmpcpdlfeaaGreatDoor
