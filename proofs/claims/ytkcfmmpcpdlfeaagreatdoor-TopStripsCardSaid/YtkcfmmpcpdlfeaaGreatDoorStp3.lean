/- Strips: checking a vault. -/
import Derived.Test.YtkcfmmpcpdlfeaaGreatDoorStp2
set_option linter.unusedSimpArgs false
set_option linter.unusedVariables false
namespace Go.Proofs.YtkcfmmpcpdlfeaaGreatDoor
open Go.PA
open Go.RowKit

/-- A security with coupons. -/
structure BS (b : TSecurity) : Prop where
  ok : secB b = true
  ev : b.Every ≠ 0
/-- A vault that is right, of one security, of which S is stripped. -/
structure VOk (b : TSecurity) (v : TVault) (S d : Int) : Prop where
  reg : RegOk v.Register d
  secs : v.Register.Securities = [b]
  held : heldH v.Register.Holdings b.ID 1000 = S
  srt : v.Strips.Pairwise sR
  el : ∀ x, x ∈ v.Strips → StripEl b x
  sums : ∀ dd, dd ∈ daysS b → sumS v.Strips b.ID dd false = S
  prin : sumS v.Strips b.ID b.Maturity true = S
  len : v.Strips.length ≤ 400
  sb : 0 ≤ S ∧ S ≤ 1000000000
theorem VOk.am {b : TSecurity} {v : TVault} {S d : Int} (h : VOk b v S d) {x : TStrip} (hx : x ∈ v.Strips) : 0 < x.Amount ∧ x.Amount ≤ S := by
  have e := h.el x hx
  have hp : ∀ y, y ∈ v.Strips → 0 < sAm y := fun y hy => (h.el y hy).am.1
  have h1 := (sumQ_le (partQ b.ID x.Day x.Principal) sAm v.Strips hp).2 x hx (by simp [partQ, e.sec])
  refine ⟨e.am.1, Int.le_trans h1 ?_⟩
  have := e.day
  cases hpr : x.Principal with
  | true =>
    rw [hpr, if_pos rfl] at this
    have h2 := h.prin
    rw [← this] at h2
    unfold sumS at h2
    omega
  | false =>
    rw [hpr, if_neg (by decide)] at this
    have h2 := h.sums _ this
    unfold sumS at h2
    omega
theorem days_ne {b : TSecurity} (hb : BS b) : daysS b ≠ [] ∧ (daysS b).length ≤ 600 := by
  have so := secOk hb.ok
  obtain ⟨q, n, _, hq, hm, hn, hd⟩ := days_arith so hb.ev
  have h2 := so.mat
  rw [hd]
  refine ⟨?_, by simp; omega⟩
  cases n with
  | zero => simp at hm; omega
  | succ n => simp [List.range_succ]
theorem sdays1_m {row src : Option Nat} (l : List TStrip) (b : TSecurity) (a : Int) (p q : Nat) (H : Heap) (h1 : H[p]? = some (some ⟨38, 1, [[stripsL l]]⟩)) (h2 : H[q]? = some (some ⟨28, 7, [[iv b.ID, iv b.Unit, iv b.Issued, iv b.Maturity, iv b.Rate, iv b.Every, bv b.Indexed]]⟩)) (hl : l.length ≤ 100000) (hp : ∀ x, x ∈ l → 0 < x.Amount) (hs0 : sumS l b.ID a false ≤ 1000000000000) :
    MFun Tryz.prog row src 105 [iv a, .ref p 0 0, .ref q 0 0] H (fun r H' => r = bv (decide (sumS l b.ID a false = 0)) ∧ H' = H) := by
  have sm := ssum_pf l b.ID a false hl hp hs0
  have il := imm_strips l
  have lp := (List.getElem?_eq_some_iff.1 h1).1
  have lq := (List.getElem?_eq_some_iff.1 h2).1
  obtain ⟨w, hw⟩ : ∃ w, w = sumS l b.ID a false := ⟨_, rfl⟩
  rw [← hw] at sm ⊢
  refine mfun_intro Tryz.func105 rfl (by simp [Tryz.f105]) (by kernel_rfl) (⟨_, H, rfl, rfl⟩) ?_
  intro E hP hr hs hN
  simp -dsimp -implicitDefEqProofs [-getElem?_pos, go_sem, hP, h1, h2, lp, lq]
  refine callB_is (sm.lift _ _) hP en_88 (by simp [il, imm_sc]) .sc ?_
  simp -dsimp -implicitDefEqProofs [-getElem?_pos, go_sem, hP]
def leftD (b : TSecurity) (S : Int) : List Int := if S = 0 then [] else daysS b
set_option maxHeartbeats 2000000 in
theorem sdays_pf (b : TSecurity) (hb : BS b) (l : List TStrip) (S : Int) (hl : l.length ≤ 100000) (hp : ∀ x, x ∈ l → 0 < x.Amount) (hs0 : S ≤ 1000000000000) (hsum : ∀ d, d ∈ daysS b → sumS l b.ID d false = S) : PFun Tryz.prog none none 69 [stripsL l, .agg b.cells] (· = intsL (leftD b S)) := by
  have dm := fun (H : Heap) => cdays_m (row := none) (src := none) b H hb.ok hb.ev
  have il := imm_strips l
  obtain ⟨_, hdl⟩ := days_ne hb
  rw [cSec] at dm
  obtain ⟨L, hL⟩ : ∃ L, L = daysS b := ⟨_, rfl⟩
  rw [← hL] at dm hdl hsum
  refine pfun_intro Tryz.func69 rfl (by simp [Tryz.f69]) (by kernel_rfl) ?_
  intro E hP hr hs hW hN
  simp -dsimp -implicitDefEqProofs [-getElem?_pos, go_sem, hP, cSec]
  refine callB_m (by rw [hr, hs]; exact dm _) hP en_12 ?_
  rintro r H1 ⟨id, rfl, hid, ho, kp⟩
  simp only [List.length_cons, List.length_nil] at hid
  have a0 := kp 0 _ (by simp) (by rfl)
  have a1 := kp 1 _ (by simp) (by rfl)
  have df := deleteFunc_z (row := none) (src := none) L id H1 105 [.ref 0 0 0, .ref 1 0 0] (fun a => decide (sumS l b.ID a false = 0)) (by omega) ho en_105 fun a ha o => sdays1_m l b a 0 1 _ (by rw [List.getElem?_set_ne (by omega)]; exact a0) (by rw [List.getElem?_set_ne (by omega)]; exact a1) hl hp (by rw [hsum a ha]; exact hs0)
  have li := (List.getElem?_eq_some_iff.1 ho).1
  simp -dsimp -implicitDefEqProofs [-getElem?_pos, go_sem, hP]
  refine callB_m (by rw [hr, hs]; exact df) hP en_104 ?_
  rintro r H2 ⟨tl, rfl, rfl⟩
  have ef : (L.filter fun a => !decide (sumS l b.ID a false = 0)) = leftD b S := by
    unfold leftD
    rw [← hL]
    split
    · rename_i h0
      exact List.filter_eq_nil_iff.2 fun a ha => by simp [hsum a ha, h0]
    · rename_i h0
      exact List.filter_eq_self.2 fun a ha => by simp [hsum a ha, h0]
  rw [ef]
  obtain ⟨D, hD⟩ : ∃ D, D = leftD b S := ⟨_, rfl⟩
  rw [← hD]
  simp -dsimp -implicitDefEqProofs [-getElem?_pos, go_sem, hP]
  refine done (x := intsL D) ?_ rfl ?_ <;> rw [view_sref, List.getElem?_set_self li, viewS_some]
  · rw [List.drop_zero, List.take_append_of_le_length (by rw [encL_len]; exact Nat.le_refl _), List.take_of_length_le (by rw [encL_len]; exact Nat.le_refl _)]
    exact imm_intsX D
  · rw [List.drop_zero, List.take_append_of_le_length (by rw [encL_len]; exact Nat.le_refl _), List.take_of_length_le (by rw [encL_len]; exact Nat.le_refl _)]
    rfl
theorem cov1_pf (v : TVault) (b : TSecurity) (S a : Int) (hl : v.Strips.length ≤ 100000) (hp : ∀ x, x ∈ v.Strips → 0 < x.Amount) (hs0 : S ≤ 1000000000000) (he : sumS v.Strips b.ID a false = S) : PFun Tryz.prog none none 89 [iv a, .iref v.cells, .iref b.cells, .iref [iv S]] (· = bv false) := by
  have sm := ssum_pf v.Strips b.ID a false hl hp (by rw [he]; exact hs0)
  have il := imm_strips v.Strips
  rw [he] at sm
  refine pfun_intro Tryz.func89 rfl (by simp [Tryz.f89]) (by kernel_rfl) ?_
  intro E hP hr hs hW hN
  simp -dsimp -implicitDefEqProofs [-getElem?_pos, go_sem, hP, cSec, cVlt]
  refine adrawB (fun _ => true) [] hP (by kernel_rfl) (by kernel_rfl) ?_
  simp -dsimp -implicitDefEqProofs [-getElem?_pos, go_sem, hP]
  refine callB_is (sm.lift _ _) hP en_88 (by simp [il, imm_sc]) .sc ?_
  simp -dsimp -implicitDefEqProofs [-getElem?_pos, go_sem, hP]
set_option maxHeartbeats 4000000 in
theorem covered_pf (b : TSecurity) (hb : BS b) (v : TVault) (S d : Int) (h : VOk b v S d) : PFun Tryz.prog none none 50 [.agg v.cells, .agg b.cells] (· = bv true) := by
  have hp : ∀ x, x ∈ v.Strips → 0 < x.Amount := fun x hx => (h.el x hx).am.1
  have hld := gheld_pf v.Register d b.ID 1000 h.reg
  have sb := h.sb
  have len := h.len
  have sm := ssum_pf v.Strips b.ID b.Maturity true (by omega) hp (by rw [h.prin]; omega)
  have sd := sdays_pf b hb v.Strips S (by omega) hp (by omega) h.sums
  have ir := imm_reg v.Register
  have il := imm_strips v.Strips
  have ib := imm_sec b
  have dp := cdays_pf b hb.ok hb.ev
  obtain ⟨hne, hdl⟩ := days_ne hb
  have eq := eqInt_pf (daysS b) (by omega)
  have cz := contains_zp (daysS b) 89 [.iref v.cells, .iref b.cells, .iref [iv S]] (fun _ => false) (by omega) en_89 (by simp [imm_iref, imm_sc]; exact ⟨v.imm, b.imm⟩) fun a ha => cov1_pf v b S a (by omega) hp (by omega) (h.sums a ha)
  have iL := imm_intsX (daysS b)
  have iD := imm_intsX (leftD b S)
  rw [h.held] at hld
  rw [h.prin] at sm
  rw [cReg] at hld ir
  rw [cSec] at sd ib dp
  have lD : leftD b S = if S = 0 then [] else daysS b := rfl
  obtain ⟨L, hL⟩ : ∃ L, L = daysS b := ⟨_, rfl⟩
  obtain ⟨D, hD⟩ : ∃ D, D = leftD b S := ⟨_, rfl⟩
  rw [← hL] at dp eq cz iL hne lD hdl
  rw [← hD] at sd iD lD
  refine pfun_intro Tryz.func50 rfl (by simp [Tryz.f50]) (by kernel_rfl) ?_
  intro E hP hr hs hW hN
  simp -dsimp -implicitDefEqProofs [-getElem?_pos, go_sem, hP, cSec, cVlt]
  refine callB_is (hld.lift _ _) hP en_15 (by simpa [imm_sc] using ir) .sc ?_
  simp -dsimp -implicitDefEqProofs [-getElem?_pos, go_sem, hP]
  refine adrawB (fun _ => true) [] hP (by kernel_rfl) (by kernel_rfl) ?_
  simp -dsimp -implicitDefEqProofs [-getElem?_pos, go_sem, hP]
  refine callB_is (sm.lift _ _) hP en_88 (by simp [il, imm_sc]) .sc ?_
  simp -dsimp -implicitDefEqProofs [-getElem?_pos, go_sem, hP]
  refine callB_is (sd.lift _ _) hP en_69 (by simpa [il] using ib) iD ?_
  by_cases hS : S = 0
  · rw [if_pos hS] at lD
    rw [lD]
    simp -dsimp -implicitDefEqProofs [-getElem?_pos, go_sem, hP, hS, intsL]
  · rw [if_neg hS] at lD
    rw [lD]
    have l0 : ¬ L.length = 0 := fun e => hne (List.eq_nil_of_length_eq_zero e)
    have l0' : ¬ (L.length : Int) = 0 := by omega
    have w0 : IntKind.i64.wrap ((L.length : Int) - L.length) = 0 := by rw [Int.sub_self]; decide
    have w1 : IntKind.i64.wrap 0 = 0 := by decide
    simp -dsimp -implicitDefEqProofs [-getElem?_pos, go_sem, hP, hS, l0, l0', intsL, hne]
    refine callB_is (dp.lift _ _) hP en_12 (by simpa using ib) iL ?_
    simp -dsimp -implicitDefEqProofs [-getElem?_pos, go_sem, hP, hS, l0, l0', intsL, w0, w1, asliceOp, bound, aslice]
    have ea : (L.any fun _ => false) = false := by simp
    rw [ea] at cz
    refine callB_is (eq.lift _ _) hP en_70 (by simp only [List.mem_cons, List.not_mem_nil, or_false]; rintro a (rfl | rfl) <;> exact iL) .sc ?_
    simp -dsimp -implicitDefEqProofs [-getElem?_pos, go_sem, hP]
    refine callB_pure cz hP en_90 (args_imm iL (args_fnc (cs := [.ref 0 0 0, .ref 1 0 0, .ref 2 0 0]) (by simp -dsimp -implicitDefEqProofs [-getElem?_pos, go_sem, viewR_ref, cSec, cVlt]) (by simp [imm_iref, imm_sc]; exact ⟨v.imm, b.imm⟩) (args_nil.2 trivial))) .sc ?_
    simp -dsimp -implicitDefEqProofs [-getElem?_pos, go_sem, hP]
theorem chk1_pf (b : TSecurity) (hb : BS b) (v : TVault) (S d : Int) (h : VOk b v S d) : PFun Tryz.prog none none 49 [.agg b.cells, .iref v.cells] (· = bv false) := by
  have cp := covered_pf b hb v S d h
  have iv0 := imm_vlt v
  have ib := imm_sec b
  rw [cSec, cVlt] at cp
  rw [cVlt] at iv0
  rw [cSec] at ib
  refine pfun_intro Tryz.func49 rfl (by simp [Tryz.f49]) (by kernel_rfl) ?_
  intro E hP hr hs hW hN
  simp -dsimp -implicitDefEqProofs [-getElem?_pos, go_sem, hP, cSec, cVlt]
  refine callB_is (cp.lift _ _) hP en_50 (by simpa using ⟨iv0, ib⟩) .sc ?_
  simp -dsimp -implicitDefEqProofs [-getElem?_pos, go_sem, hP]
theorem contains_pf_sec (l : List TSecurity) (g : FuncId) (caps : List AV) (p : TSecurity → Bool) (hl : l.length ≤ 1000000) (hen : enterable Tryz.prog g = true) (hcap : ∀ a, a ∈ caps → Imm a)
    (hg : ∀ a, a ∈ l → PFun Tryz.prog none none g (.agg (TSecurity.cells a) :: caps) (· = bv (p a))) :
    PFun Tryz.prog none none 48 [.list 7 (encL TSecurity.cells l), .fn g caps] (· = bv (l.any p)) := by
  refine pfun_intro Tryz.func48 rfl (by simp [Tryz.f48]) (by kernel_rfl) ?_
  intro E hP hr hs hW hN
  obtain ⟨w, hw⟩ : ∃ w, w = l.any p := ⟨_, rfl⟩
  rw [← hw]
  have hi : ∀ a, a ∈ [AV.list 7 (encL TSecurity.cells l), .fn g caps] → Imm a := fun a ha => by
    simp only [List.mem_cons, List.not_mem_nil, or_false] at ha
    rcases ha with rfl | rfl
    · exact imm_encL _ TSecurity.imm _
    · exact imm_fn.2 hcap
  simp -dsimp -implicitDefEqProofs [-getElem?_pos, go_sem, hP]
  refine callB_is ((index_pf_sec l g caps p hl hen hcap hg).lift _ _) hP en_87 hi .sc ?_
  rcases idxI_spec p l with ⟨h1, h2⟩ | ⟨i, a, h1, h2, h3, _⟩
  · have : w = false := by rw [hw]; exact List.any_eq_false.2 fun a ha => by simp [h2 a ha]
    simp -dsimp -implicitDefEqProofs [-getElem?_pos, go_sem, hP, h1, this]
  · have d : decide ((0 : Int) ≤ (i : Int)) = true := decide_eq_true (by omega)
    have : w = true := by rw [hw]; exact List.any_eq_true.2 ⟨a, List.mem_of_getElem? h1, h2⟩
    simp -dsimp -implicitDefEqProofs [-getElem?_pos, go_sem, hP, h3, d, this]

theorem VOk.sorted {b : TSecurity} {v : TVault} {S d : Int} (h : VOk b v S d) {j : Nat} {x y : TStrip} (hx : v.Strips[j]? = some x) (hy : v.Strips[j + 1]? = some y) : cmpS x y < 0 := by
  have lx := (List.getElem?_eq_some_iff.1 hx)
  have ly := (List.getElem?_eq_some_iff.1 hy)
  have := List.pairwise_iff_getElem.1 h.srt j (j + 1) lx.1 ly.1 (by omega)
  rw [lx.2, ly.2] at this
  rw [cmpS_lt]
  unfold sLt
  rw [decide_eq_true_eq]
  unfold sR at this
  exact this
set_option maxHeartbeats 4000000 in
theorem scheck_pf (b : TSecurity) (hb : BS b) (v : TVault) (S d : Int) (h : VOk b v S d) : PFun Tryz.prog none none 16 [.agg v.cells] (· = iv 0) := by
  have ck := gcheck_pf v.Register d h.reg
  have ir := imm_reg v.Register
  have il := imm_strips v.Strips
  have iv0 := imm_vlt v
  have len := h.len
  have sb := h.sb
  have so := secOk hb.ok
  have cc := contains_pf_sec [b] 49 [.iref v.cells] (fun _ => false) (by simp) en_49 (by simp [imm_iref]; exact v.imm) fun a ha => by
    rw [List.mem_singleton.1 ha]
    exact chk1_pf b hb v S d h
  have fp := gfindX_pf v.Register b.ID (by rw [h.secs]; simp)
  have ef : findR v.Register.Securities b.ID = (b, true) := by rw [findR, findS, h.secs]; simp
  rw [ef] at fp
  have ib := imm_sec b
  rw [cReg] at ck ir fp
  have dl : decide (400 < (v.Strips.length : Int)) = false := decide_eq_false (by omega)
  refine pfun_intro Tryz.func16 rfl (by simp [Tryz.f16]) (by kernel_rfl) ?_
  intro E hP hr hs hW hN
  simp -dsimp -implicitDefEqProofs [-getElem?_pos, go_sem, hP, cVlt]
  refine callB_is (ck.lift _ _) hP en_18 (by simpa using ir) .sc ?_
  simp -dsimp -implicitDefEqProofs [-getElem?_pos, go_sem, hP, encL_len, dl]
  obtain ⟨I, hI⟩ : ∃ I : Nat → St → Prop, I = fun m s => ∃ k : Nat, k ≤ v.Strips.length ∧ m = v.Strips.length - k ∧ s.t 1 = .ref 0 0 0 ∧ s.t 19 = stripsL v.Strips ∧ s.t 20 = iv v.Strips.length ∧ s.t 21 = iv k ∧ s.H[0]? = some (some ⟨40, 4, [[secsL v.Register.Securities, holdsL v.Register.Holdings, movesL v.Register.Moves, stripsL v.Strips]]⟩) := ⟨_, rfl⟩
  refine aloop0 I (v.Strips.length) (by rw [hN]; rfl) ?_ ?_
  · rw [hI]
    exact ⟨0, by omega, by omega, by simp -dsimp -implicitDefEqProofs [-getElem?_pos, go_sem], by simp -dsimp -implicitDefEqProofs [-getElem?_pos, go_sem], by simp -dsimp -implicitDefEqProofs [-getElem?_pos, go_sem, encL_len], by simp -dsimp -implicitDefEqProofs [-getElem?_pos, go_sem], by simp -dsimp -implicitDefEqProofs [-getElem?_pos, go_sem]⟩
  intro m s hs'
  rw [hI] at hs'
  obtain ⟨k, hk, hm, t1, t19, t20, t21, g0⟩ := hs'
  have l0 := (List.getElem?_eq_some_iff.1 g0).1
  simp -dsimp -implicitDefEqProofs [-getElem?_pos, go_sem, hP, t20, t21]
  refine condP (fun hq => ?_) (fun hq => ?_)
  · have hk : k < v.Strips.length := by simpa using hq
    obtain ⟨a, ha⟩ : ∃ a, v.Strips[k]? = some a := ⟨_, List.getElem?_eq_getElem hk⟩
    have wk := wrap_in ((k : Int) + 1) (by omega)
    have ela := h.el a (List.mem_of_getElem? ha)
    have ama := h.am (List.mem_of_getElem? ha)
    have sp := spossible_pf b a.Day a.Principal hb.ok hb.ev ela.day
    have sh := sholder_pf a.Holder ela.hol
    have su := sunit_pf b a.Amount ⟨ela.am.1, by omega, ela.am.2⟩ (by have := so.unit; omega)
    have ia := imm_stp a
    rw [cSec] at sp su
    rw [cStp] at ia
    have g0' : ∀ x : Heap, (s.H ++ x)[0]? = some (some ⟨40, 4, [[secsL v.Register.Securities, holdsL v.Register.Holdings, movesL v.Register.Moves, stripsL v.Strips]]⟩) := fun x => by rw [List.getElem?_append_left l0]; exact g0
    simp -dsimp -implicitDefEqProofs [-getElem?_pos, go_sem, hP, t19, t21, ha, cStp]
    simp -dsimp -implicitDefEqProofs [-getElem?_pos, go_sem, hP, t1, g0', ela.sec]
    refine callB_is (fp.lift _ _) hP en_36 (by simpa [imm_sc] using ir) (imm_pair ib .sc) ?_
    simp -dsimp -implicitDefEqProofs [-getElem?_pos, go_sem, hP, cSec]
    refine adrawB (fun _ => true) [] hP (by kernel_rfl) (by kernel_rfl) ?_
    simp -dsimp -implicitDefEqProofs [-getElem?_pos, go_sem, hP]
    refine callB_is (sp.lift _ _) hP en_44 (by simpa [imm_sc] using (by rw [← cSec]; exact imm_sec b : Imm (.agg [iv b.ID, iv b.Unit, iv b.Issued, iv b.Maturity, iv b.Rate, iv b.Every, bv b.Indexed]))) .sc ?_
    simp -dsimp -implicitDefEqProofs [-getElem?_pos, go_sem, hP]
    refine callB_pure sh hP en_45 (args_same (by simp -dsimp -implicitDefEqProofs [-getElem?_pos, go_sem])) .sc ?_
    simp -dsimp -implicitDefEqProofs [-getElem?_pos, go_sem, hP]
    refine callB_is (su.lift _ _) hP en_46 (by simpa [imm_sc] using (by rw [← cSec]; exact imm_sec b : Imm (.agg [iv b.ID, iv b.Unit, iv b.Issued, iv b.Maturity, iv b.Rate, iv b.Every, bv b.Indexed]))) .sc ?_
    by_cases k0 : k = 0
    · subst k0
      have w1 := wrap_in 1 (by omega)
      simp -dsimp -implicitDefEqProofs [-getElem?_pos, go_sem, hP, t1, g0', t21, wk, w1]
      refine ⟨v.Strips.length - 1, by omega, ?_⟩
      rw [hI]
      exact ⟨1, by omega, rfl, by simp -dsimp -implicitDefEqProofs [-getElem?_pos, go_sem, t1], by simp -dsimp -implicitDefEqProofs [-getElem?_pos, go_sem, t19], by simp -dsimp -implicitDefEqProofs [-getElem?_pos, go_sem, t20], by simp -dsimp -implicitDefEqProofs [-getElem?_pos, go_sem, w1], by simp -dsimp -implicitDefEqProofs [-getElem?_pos, go_sem, g0']⟩
    · obtain ⟨j, rfl⟩ : ∃ j, k = j + 1 := ⟨k - 1, by omega⟩
      obtain ⟨z, hz⟩ : ∃ z, v.Strips[j]? = some z := ⟨_, List.getElem?_eq_getElem (by omega)⟩
      have lt := h.sorted hz ha
      have sc := scompare_pf z a
      have iz := imm_stp z
      rw [cStp, cStp] at sc
      rw [cStp] at iz
      rw [ela.sec] at sc ia
      have dj : decide ((0 : Int) < ((j + 1 : Nat) : Int)) = true := decide_eq_true (by omega)
      have wj := wrap_in (((j + 1 : Nat) : Int) - 1) (by omega)
      have ej : ((j + 1 : Nat) : Int) - 1 = (j : Int) := by omega
      have dl2 : decide (0 ≤ cmpS z a) = false := decide_eq_false (by omega)
      have lj : j < v.Strips.length := by omega
      have wk2 := wrap_in ((j : Int) + 1 + 1) (by omega)
      rw [ej] at wj
      simp -dsimp -implicitDefEqProofs [-getElem?_pos, go_sem, hP, t1, g0', t21, wk, wk2, dj, wj, ej, hz, cStp, lj]
      refine callB_is (sc.lift _ _) hP en_47 (by simpa using ⟨iz, ia⟩) .sc ?_
      simp -dsimp -implicitDefEqProofs [-getElem?_pos, go_sem, hP, dl2, t21, wk, wk2]
      refine ⟨v.Strips.length - (j + 1 + 1), by omega, ?_⟩
      rw [hI]
      exact ⟨j + 1 + 1, by omega, rfl, by simp -dsimp -implicitDefEqProofs [-getElem?_pos, go_sem, t1], by simp -dsimp -implicitDefEqProofs [-getElem?_pos, go_sem, t19], by simp -dsimp -implicitDefEqProofs [-getElem?_pos, go_sem, t20], by simp -dsimp -implicitDefEqProofs [-getElem?_pos, go_sem, wk2], by simp -dsimp -implicitDefEqProofs [-getElem?_pos, go_sem, g0']⟩
  · have hk : k = v.Strips.length := by simp at hq; omega
    subst hk
    have ea : ([b].any fun _ => false) = false := by simp
    rw [ea] at cc
    have is1 := imm_secs [b]
    simp -dsimp -implicitDefEqProofs [-getElem?_pos, go_sem, hP, t1, g0, h.secs]
    refine callB_pure cc hP en_48 (args_imm is1 (args_fnc (cs := [.ref 0 0 0]) (by simp -dsimp -implicitDefEqProofs [-getElem?_pos, go_sem, viewR_ref, cVlt, g0, h.secs]) (by simp [imm_iref]; exact v.imm) (args_nil.2 trivial))) .sc ?_
    simp -dsimp -implicitDefEqProofs [-getElem?_pos, go_sem, hP]
end Go.Proofs.YtkcfmmpcpdlfeaaGreatDoor
