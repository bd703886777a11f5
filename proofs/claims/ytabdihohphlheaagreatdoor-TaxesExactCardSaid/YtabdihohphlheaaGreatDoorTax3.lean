/- Taxes: flows. -/
import Derived.Test.YtabdihohphlheaaGreatDoorTax2
import Derived.Test.YtabdihohphlheaaGreatDoorStab4
set_option linter.unusedSimpArgs false
set_option linter.unusedVariables false
namespace Go.Proofs.YtabdihohphlheaaGreatDoor
open Go.PA
open Go.RowKit

theorem index_pf_tax (l : List TTax) (g : FuncId) (caps : List AV) (p : TTax → Bool) (hl : l.length ≤ 1000000) (hen : enterable Tryz.prog g = true) (hcap : ∀ a, a ∈ caps → Imm a)
    (hg : ∀ a, a ∈ l → PFun Tryz.prog none none g (.agg (TTax.cells a) :: caps) (· = bv (p a))) :
    PFun Tryz.prog none none 51 [.list 8 (encL TTax.cells l), .fn g caps] (· = iv (idxI p l)) := by
  refine pfun_intro Tryz.func51 rfl (by simp [Tryz.f51]) (by kernel_rfl) ?_
  intro E hP hr hs hW hN
  simp -dsimp -implicitDefEqProofs [-getElem?_pos, go_sem, hP]
  obtain ⟨I, hI⟩ : ∃ I : Nat → St → Prop, I = fun m s => ∃ k : Nat, k ≤ l.length ∧ m = l.length - k ∧ idxI p l = idxFrom p k (l.drop k) ∧ s.t 0 = .list 8 (encL TTax.cells l) ∧ s.t 1 = .fn g caps ∧ s.t 7 = iv l.length ∧ s.t 8 = iv k := ⟨_, rfl⟩
  refine aloop0 I (l.length) (by rw [hN]; rfl) ?_ ?_
  · rw [hI]
    exact ⟨0, by omega, by omega, by simp [idxI], by simp -dsimp -implicitDefEqProofs [-getElem?_pos, go_sem], by simp -dsimp -implicitDefEqProofs [-getElem?_pos, go_sem], by simp -dsimp -implicitDefEqProofs [-getElem?_pos, go_sem], by simp -dsimp -implicitDefEqProofs [-getElem?_pos, go_sem]⟩
  intro m s hs'
  rw [hI] at hs'
  obtain ⟨k, hk, hm, hi, t0, t1, t7, t8⟩ := hs'
  simp -dsimp -implicitDefEqProofs [-getElem?_pos, go_sem, hP, t7, t8]
  refine condP (fun h => ?_) (fun h => ?_)
  · have hk : k < l.length := by simpa using h
    obtain ⟨a, ha⟩ : ∃ a, l[k]? = some a := ⟨_, List.getElem?_eq_getElem hk⟩
    have wk := wrap_in ((k : Int) + 1) (by omega)
    have hz : (TTax.cells a).take 8 = TTax.cells a := List.take_of_length_le (by rw [TTax.len]; omega)
    have hd : l.drop k = a :: l.drop (k + 1) := by
      rw [List.getElem?_eq_getElem hk] at ha
      rw [List.drop_eq_getElem_cons hk, Option.some.inj ha]
    simp -dsimp -implicitDefEqProofs [-getElem?_pos, go_sem, hP, t8, t1, t0, ha, TTax.len, hz]
    refine callB_is ((hg a (List.mem_of_getElem? ha)).lift _ _) hP hen (fun x hx => ?_) .sc ?_
    · rcases List.mem_cons.1 hx with rfl | hx
      · exact imm_agg.2 (TTax.imm a)
      · exact hcap x hx
    rw [hd] at hi
    simp only [idxFrom] at hi
    simp -dsimp -implicitDefEqProofs [-getElem?_pos, go_sem, hP]
    refine condP (fun hp => ?_) (fun hp => ?_)
    · rw [if_pos hp] at hi
      simp -dsimp -implicitDefEqProofs [-getElem?_pos, go_sem, hP]
      exact hi.symm
    · rw [hp, if_neg (by simp)] at hi
      simp -dsimp -implicitDefEqProofs [-getElem?_pos, go_sem, hP, t8, wk]
      refine ⟨l.length - (k + 1), by omega, ?_⟩
      rw [hI]
      exact ⟨k + 1, by omega, rfl, hi, by simp -dsimp -implicitDefEqProofs [-getElem?_pos, go_sem, t0], by simp -dsimp -implicitDefEqProofs [-getElem?_pos, go_sem, t1], by simp -dsimp -implicitDefEqProofs [-getElem?_pos, go_sem, t7], by simp -dsimp -implicitDefEqProofs [-getElem?_pos, go_sem]⟩
  · have hk : k = l.length := by simp at h; omega
    subst hk
    rw [List.drop_length] at hi
    simp -dsimp -implicitDefEqProofs [-getElem?_pos, go_sem, hP]
    exact hi.symm

theorem contains_pf_tax (l : List TTax) (g : FuncId) (caps : List AV) (p : TTax → Bool) (hl : l.length ≤ 1000000) (hen : enterable Tryz.prog g = true) (hcap : ∀ a, a ∈ caps → Imm a)
    (hg : ∀ a, a ∈ l → PFun Tryz.prog none none g (.agg (TTax.cells a) :: caps) (· = bv (p a))) :
    PFun Tryz.prog none none 33 [.list 8 (encL TTax.cells l), .fn g caps] (· = bv (l.any p)) := by
  refine pfun_intro Tryz.func33 rfl (by simp [Tryz.f33]) (by kernel_rfl) ?_
  intro E hP hr hs hW hN
  obtain ⟨w, hw⟩ : ∃ w, w = l.any p := ⟨_, rfl⟩
  rw [← hw]
  have hi : ∀ a, a ∈ [AV.list 8 (encL TTax.cells l), .fn g caps] → Imm a := fun a ha => by
    simp only [List.mem_cons, List.not_mem_nil, or_false] at ha
    rcases ha with rfl | rfl
    · exact imm_encL _ TTax.imm _
    · exact imm_fn.2 hcap
  simp -dsimp -implicitDefEqProofs [-getElem?_pos, go_sem, hP]
  refine callB_is ((index_pf_tax l g caps p hl hen hcap hg).lift _ _) hP en_51 hi .sc ?_
  rcases idxI_spec p l with ⟨h1, h2⟩ | ⟨i, a, h1, h2, h3, _⟩
  · have : w = false := by rw [hw]; exact List.any_eq_false.2 fun a ha => by simp [h2 a ha]
    simp -dsimp -implicitDefEqProofs [-getElem?_pos, go_sem, hP, h1, this]
  · have d : decide ((0 : Int) ≤ (i : Int)) = true := decide_eq_true (by omega)
    have : w = true := by rw [hw]; exact List.any_eq_true.2 ⟨a, List.mem_of_getElem? h1, h2⟩
    simp -dsimp -implicitDefEqProofs [-getElem?_pos, go_sem, hP, h3, d, this]


def FitT (l : List TTax) : Prop := ∀ t, t ∈ l → t.Code.size ≤ 1000000
def checkT (l : List TTax) : Int := if 20 < l.length then 3 else if l.any fun t => !taxB t then 71 else 0
theorem tcheck1_pf (t : TTax) (hl : t.Code.size ≤ 1000000) : PFun Tryz.prog none none 34 [.agg t.cells] (· = bv (!taxB t)) := by
  refine pfun_intro Tryz.func34 rfl (by simp [Tryz.f34]) (by kernel_rfl) ?_
  intro E hP hr hs hW hN
  have tx := tax_pf t hl
  have it := imm_tax t
  rw [cTx] at tx it
  simp -dsimp -implicitDefEqProofs [-getElem?_pos, go_sem, hP, cTx]
  refine callB_is (tx.lift _ _) hP en_15 (by simpa using it) .sc ?_
  simp -dsimp -implicitDefEqProofs [-getElem?_pos, go_sem, hP]
theorem tcheck_pf (l : List TTax) (hf : FitT l) (hl : l.length ≤ 1000000) : PFun Tryz.prog none none 13 [taxesL l] (· = iv (checkT l)) := by
  refine pfun_intro Tryz.func13 rfl (by simp [Tryz.f13]) (by kernel_rfl) ?_
  intro E hP hr hs hW hN
  by_cases h1 : 20 < l.length
  · have d1 : decide (20 < (l.length : Int)) = true := decide_eq_true (by omega)
    have e : checkT l = 3 := by rw [checkT, if_pos h1]
    simp -dsimp -implicitDefEqProofs [-getElem?_pos, go_sem, hP, d1, e]
  have d1 : decide (20 < (l.length : Int)) = false := decide_eq_false (by omega)
  have e : checkT l = if l.any fun t => !taxB t then 71 else 0 := by rw [checkT, if_neg h1]
  have ct := contains_pf_tax l 34 [] (fun t => !taxB t) hl en_34 (by simp) (fun t ht => tcheck1_pf t (hf t ht))
  simp -dsimp -implicitDefEqProofs [-getElem?_pos, go_sem, hP, d1]
  refine callB_is (ct.lift _ _) hP en_33 (by simp [imm_fn]; exact imm_taxes l) .sc ?_
  cases c : l.any fun t => !taxB t
  · rw [c] at e
    simp -dsimp -implicitDefEqProofs [-getElem?_pos, go_sem, hP]
    rw [e]; rfl
  · rw [c] at e
    simp -dsimp -implicitDefEqProofs [-getElem?_pos, go_sem, hP]
    rw [e]; rfl

abbrev flowsL (l : List TFlow) : AV := .list 4 (encL TFlow.cells l)
theorem imm_flows (l : List TFlow) : Imm (flowsL l) := imm_encL _ TFlow.imm l
theorem cFl (x : TFlow) : x.cells = [iv x.Day, iv x.Amount, iv x.Kind, iv x.Ref] := rfl
def dayLt (a b : TFlow) : Bool := decide (a.Day < b.Day)
theorem dayLt_ord : SOrd dayLt := ⟨fun a b h => by simp [dayLt] at h ⊢; omega, fun a b c h1 h2 => by simp [dayLt] at h1 h2 ⊢; omega⟩
theorem flows1_pf (a b : TFlow) : PFun Tryz.prog none none 59 [.agg a.cells, .agg b.cells] (fun r => ∃ i : Int, r = iv i ∧ decide (i < 0) = dayLt a b) := by
  refine pfun_intro Tryz.func59 rfl (by simp [Tryz.f59]) (by kernel_rfl) ?_
  intro E hP hr hs hW hN
  simp -dsimp -implicitDefEqProofs [-getElem?_pos, go_sem, hP, cFl]
  refine callB_pure (compare_pf a.Day b.Day) hP en_60 (args_same (by simp -dsimp -implicitDefEqProofs [-getElem?_pos, go_sem])) .sc ?_
  simp -dsimp -implicitDefEqProofs [-getElem?_pos, go_sem, hP]
  unfold dayLt
  rw [decide_eq_decide]
  simp only [cmpI]
  repeat' split
  all_goals omega
theorem flCmp : CmpOk TFlow.cells dayLt 59 := ⟨TFlow.len, fun a c hc => ⟨a.imm c hc, List.all_eq_true.1 a.cel c hc⟩, en_59, flows1_pf⟩

def rowF (w : TTax → Int → Bool) (t : TTax) (i : Nat) (ds : List Int) : List TFlow := (ds.filter fun d => decide (0 < amountD t) && w t d).map fun d => ⟨d, amountD t, 3, i⟩
def rawF (w : TTax → Int → Bool) : Nat → List TTax → List TFlow
  | _, [] => []
  | i, t :: l => rowF w t i (daysD t) ++ rawF w (i + 1) l
def flowsD (w : TTax → Int → Bool) (l : List TTax) : List TFlow := ssort dayLt (rawF w 0 l)
theorem rawF_snoc (w : TTax → Int → Bool) : ∀ (l : List TTax) (i : Nat) (t : TTax), rawF w i (l ++ [t]) = rawF w i l ++ rowF w t (i + l.length) (daysD t)
  | [], i, t => by simp [rawF]
  | a :: l, i, t => by
    rw [List.cons_append, rawF, rawF, rawF_snoc w l (i + 1) t]
    simp only [List.append_assoc, List.length_cons]
    rw [show i + 1 + l.length = i + (l.length + 1) by omega]
theorem rowF_snoc (w : TTax → Int → Bool) (t : TTax) (i : Nat) (ds : List Int) (d : Int) : rowF w t i (ds ++ [d]) = rowF w t i ds ++ if decide (0 < amountD t) && w t d then [⟨d, amountD t, 3, i⟩] else [] := by
  unfold rowF
  rw [List.filter_append, List.map_append]
  congr 1
  cases h : decide (0 < amountD t) && w t d <;> simp [h]
theorem rowF_len (w : TTax → Int → Bool) (t : TTax) (i : Nat) (ds : List Int) : (rowF w t i ds).length ≤ ds.length := by
  rw [rowF, List.length_map]; exact List.length_filter_le _ _
theorem daysD_len (t : TTax) : (daysD t).length ≤ 60 := by
  unfold daysD
  split
  · rename_i h
    obtain ⟨_, _, _, _, _, _, _, _, h8⟩ := taxB_iff.1 h
    have := daysGo_len t t.Times.toNat
    omega
  · simp
theorem rawF_len (w : TTax → Int → Bool) : ∀ (l : List TTax) (i : Nat), (rawF w i l).length ≤ 60 * l.length
  | [], _ => by simp [rawF]
  | t :: l, i => by
    rw [rawF, List.length_append, List.length_cons]
    have h1 := rowF_len w t i (daysD t)
    have h2 := daysD_len t
    have h3 := rawF_len w l (i + 1)
    omega

set_option maxHeartbeats 2000000 in
theorem flows_pf (w : TTax → Int → Bool) (gw : FuncId) (caps : List AV) (l : List TTax) (hf : FitT l) (hl : l.length ≤ 1000) (hen : enterable Tryz.prog gw = true) (hcap : ∀ a, a ∈ caps → Imm a)
    (hw : ∀ t, t ∈ l → ∀ d, PFun Tryz.prog none none gw (.agg t.cells :: iv d :: caps) (· = bv (w t d))) :
    PFun Tryz.prog none none 45 [taxesL l, .fn gw caps] (· = flowsL (flowsD w l)) := by
  refine pfun_intro Tryz.func45 rfl (by simp [Tryz.f45]) (by kernel_rfl) ?_
  intro E hP hr hs hW hN
  simp -dsimp -implicitDefEqProofs [-getElem?_pos, go_sem, hP]
  refine aloop_own 5 59 4 (by simp -dsimp -implicitDefEqProofs [-getElem?_pos, go_sem]) ?_
  obtain ⟨I, hI⟩ : ∃ I : Nat → St → Prop, I = fun m s => ∃ k id : Nat, k ≤ l.length ∧ m = l.length - k ∧ s.t 1 = .fn gw caps ∧ s.t 5 = .sref id 0 (rawF w 0 (l.take k)).length ∧ s.t 11 = taxesL l ∧ s.t 12 = iv l.length ∧ s.t 13 = iv k ∧ s.H[id]? = some (flO TFlow.cells (rawF w 0 (l.take k))) := ⟨_, rfl⟩
  refine aloop0 I (l.length) (by rw [hN]; rfl) ?_ ?_
  · rw [hI]
    exact ⟨0, 0, by omega, by omega, by simp -dsimp -implicitDefEqProofs [-getElem?_pos, go_sem], by simp -dsimp -implicitDefEqProofs [-getElem?_pos, go_sem, rawF], by simp -dsimp -implicitDefEqProofs [-getElem?_pos, go_sem], by simp -dsimp -implicitDefEqProofs [-getElem?_pos, go_sem], by simp -dsimp -implicitDefEqProofs [-getElem?_pos, go_sem], by simp -dsimp -implicitDefEqProofs [-getElem?_pos, go_sem, rawF]⟩
  intro m s hs'
  rw [hI] at hs'
  obtain ⟨k, id, hk, hm, t1, t5, t11, t12, t13, hH⟩ := hs'
  have ltH := (List.getElem?_eq_some_iff.1 hH).1
  subst hm
  simp -dsimp -implicitDefEqProofs [-getElem?_pos, go_sem, hP, t12, t13]
  refine condP (fun h => ?_) (fun h => ?_)
  · have hk : k < l.length := by simpa using h
    obtain ⟨t, ht⟩ : ∃ t, l[k]? = some t := ⟨_, List.getElem?_eq_getElem hk⟩
    have htl := List.mem_of_getElem? ht
    have wk := wrap_in ((k : Int) + 1) (by omega)
    have ta := tamount_pf t (hf t htl)
    have td := tdays_pf t (hf t htl)
    have it := imm_tax t
    have hwt := hw t htl
    obtain ⟨A, hA⟩ : ∃ A, A = amountD t := ⟨_, rfl⟩
    obtain ⟨ds, hds⟩ : ∃ ds, ds = daysD t := ⟨_, rfl⟩
    have lds := daysD_len t
    rw [← hA] at ta
    rw [← hds] at td lds
    rw [cTx] at ta td it
    obtain ⟨raw, hraw⟩ : ∃ raw, raw = rawF w 0 (l.take k) := ⟨_, rfl⟩
    rw [← hraw] at t5 hH
    have lraw := rawF_len w (l.take k) 0
    rw [← hraw, List.length_take] at lraw
    have esn : rawF w 0 (l.take (k + 1)) = raw ++ rowF w t k ds := by
      rw [takeAt ht, rawF_snoc, ← hraw, ← hds, List.length_take, Nat.zero_add, Nat.min_eq_left (by omega)]
    have iD : Imm (intsL ds) := by simp [intsL, go_sem]
    obtain ⟨nb, hnb⟩ : ∃ nb, nb = s.H.length := ⟨_, rfl⟩
    have gnb : ∀ x : Option AObj, (s.H ++ [x])[nb]? = some x := fun x => by rw [hnb]; simp
    have gid : ∀ x : Option AObj, (s.H ++ [x])[id]? = s.H[id]? := fun x => List.getElem?_append_left ltH
    simp -dsimp -implicitDefEqProofs [-getElem?_pos, go_sem, hP, t13, t11, ht, cTx]
    rw [← hnb]
    refine callB_is (ta.lift _ _) hP en_17 (by simpa using it) .sc ?_
    simp -dsimp -implicitDefEqProofs [-getElem?_pos, go_sem, hP, gnb]
    refine callB_is (td.lift _ _) hP en_20 (by simpa using it) iD ?_
    simp -dsimp -implicitDefEqProofs [-getElem?_pos, go_sem, hP, intsL]
    obtain ⟨J, hJ⟩ : ∃ I : Nat → St → Prop, I = fun m s => ∃ j id : Nat, j ≤ ds.length ∧ m = ds.length - j ∧ ¬ id = nb ∧ s.t 1 = .fn gw caps ∧ s.t 5 = .sref id 0 (raw ++ rowF w t k (ds.take j)).length ∧ s.t 6 = iv k ∧ s.t 7 = .ref nb 0 0 ∧ s.t 8 = iv A ∧ s.t 11 = taxesL l ∧ s.t 12 = iv l.length ∧ s.t 13 = iv k ∧ s.t 21 = .list 1 (ds.map fun x => [iv x]) ∧ s.t 22 = iv ds.length ∧ s.t 23 = iv j ∧ s.H[nb]? = some (some ⟨30, 8, [[.sc (.string t.Code), iv t.Payer, iv t.Base, iv t.Num, iv t.Den, iv t.First, iv t.Every, iv t.Times]]⟩) ∧ s.H[id]? = some (flO TFlow.cells (raw ++ rowF w t k (ds.take j))) := ⟨_, rfl⟩
    refine aloop0 J (ds.length) (by rw [hN]; rfl) ?_ ?_
    · rw [hJ]
      exact ⟨0, id, by omega, by omega, by omega, by simp -dsimp -implicitDefEqProofs [-getElem?_pos, go_sem, t1], by simp -dsimp -implicitDefEqProofs [-getElem?_pos, go_sem, t5, rowF], by simp -dsimp -implicitDefEqProofs [-getElem?_pos, go_sem], by simp -dsimp -implicitDefEqProofs [-getElem?_pos, go_sem], by simp -dsimp -implicitDefEqProofs [-getElem?_pos, go_sem], by simp -dsimp -implicitDefEqProofs [-getElem?_pos, go_sem, t11], by simp -dsimp -implicitDefEqProofs [-getElem?_pos, go_sem, t12], by simp -dsimp -implicitDefEqProofs [-getElem?_pos, go_sem, t13], by simp -dsimp -implicitDefEqProofs [-getElem?_pos, go_sem], by simp -dsimp -implicitDefEqProofs [-getElem?_pos, go_sem], by simp -dsimp -implicitDefEqProofs [-getElem?_pos, go_sem], by simp -dsimp -implicitDefEqProofs [-getElem?_pos, go_sem, gnb], by simp -dsimp -implicitDefEqProofs [-getElem?_pos, go_sem, gid, hH, rowF]⟩
    clear t1 t5 t11 t12 t13 hH ltH gnb gid hnb h s
    intro m s hs'
    rw [hJ] at hs'
    obtain ⟨j, id, hj, hm, hne, t1, t5, t6, t7, t8, t11, t12, t13, t21, t22, t23, hB, hH⟩ := hs'
    have ltH := (List.getElem?_eq_some_iff.1 hH).1
    have ltB := (List.getElem?_eq_some_iff.1 hB).1
    subst hm
    obtain ⟨cur, hcur⟩ : ∃ cur, cur = raw ++ rowF w t k (ds.take j) := ⟨_, rfl⟩
    rw [← hcur] at t5 hH
    have lcur : cur.length ≤ 60060 := by
      have := rowF_len w t k (ds.take j)
      rw [List.length_take] at this
      rw [hcur, List.length_append]
      omega
    simp -dsimp -implicitDefEqProofs [-getElem?_pos, go_sem, hP, t22, t23]
    refine condP (fun h => ?_) (fun h => ?_)
    · have hj : j < ds.length := by simpa using h
      obtain ⟨d, hd⟩ : ∃ d, ds[j]? = some d := ⟨_, List.getElem?_eq_getElem hj⟩
      have wj := wrap_in ((j : Int) + 1) (by omega)
      have sn := rowF_snoc w t k (ds.take j) d
      rw [← takeAt hd, ← hA] at sn
      have sn2 : raw ++ rowF w t k (ds.take (j + 1)) = cur ++ if decide (0 < A) && w t d then [⟨d, A, 3, k⟩] else [] := by rw [sn, hcur, List.append_assoc]
      have nxt : ∀ (s' : St) (id' : Nat) (c' : List TFlow), c' = raw ++ rowF w t k (ds.take (j + 1)) → ¬ id' = nb → s'.t 1 = .fn gw caps → s'.t 5 = .sref id' 0 c'.length → s'.t 6 = iv k → s'.t 7 = .ref nb 0 0 → s'.t 8 = iv A → s'.t 11 = taxesL l → s'.t 12 = iv l.length → s'.t 13 = iv k → s'.t 21 = .list 1 (ds.map fun x => [iv x]) → s'.t 22 = iv ds.length → s'.t 23 = iv ((j : Int) + 1) → s'.H[nb]? = s.H[nb]? → s'.H[id']? = some (flO TFlow.cells c') → ∃ n', n' < ds.length - j ∧ J n' s' := fun s' id' c' hc' b1 b2 b3 b4 b5 b6 b7 b8 b9 b10 b11 b12 b13 b14 => by
        refine ⟨ds.length - (j + 1), by omega, ?_⟩
        rw [hJ]
        exact ⟨j + 1, id', by omega, rfl, b1, b2, by rw [← hc']; exact b3, b4, b5, b6, b7, b8, b9, b10, b11, b12.trans rfl, b13.trans hB, by rw [← hc']; exact b14⟩
      simp -dsimp -implicitDefEqProofs [-getElem?_pos, go_sem, hP, t21, t23, hd, t8]
      by_cases ha : 0 < A
      · have da := decide_eq_true ha
        have hwd := hwt d
        rw [cTx] at hwd
        simp -dsimp -implicitDefEqProofs [-getElem?_pos, go_sem, hP, da, t1, t7, hB, ltB]
        refine callB_is (hwd.lift _ _) hP hen (fun x hx => ?_) .sc ?_
        · rcases List.mem_cons.1 hx with rfl | hx
          · exact it
          · rcases List.mem_cons.1 hx with rfl | hx
            · exact .sc
            · exact hcap x hx
        cases hwv : w t d
        · rw [hwv, Bool.and_false, if_neg (by simp), List.append_nil] at sn2
          simp -dsimp -implicitDefEqProofs [-getElem?_pos, go_sem, hP, da, t23, wj]
          exact nxt _ id cur sn2.symm hne (by simp -dsimp -implicitDefEqProofs [-getElem?_pos, go_sem, t1]) (by simp -dsimp -implicitDefEqProofs [-getElem?_pos, go_sem, t5]) (by simp -dsimp -implicitDefEqProofs [-getElem?_pos, go_sem, t6]) (by simp -dsimp -implicitDefEqProofs [-getElem?_pos, go_sem, t7]) (by simp -dsimp -implicitDefEqProofs [-getElem?_pos, go_sem, t8]) (by simp -dsimp -implicitDefEqProofs [-getElem?_pos, go_sem, t11]) (by simp -dsimp -implicitDefEqProofs [-getElem?_pos, go_sem, t12]) (by simp -dsimp -implicitDefEqProofs [-getElem?_pos, go_sem, t13]) (by simp -dsimp -implicitDefEqProofs [-getElem?_pos, go_sem, t21]) (by simp -dsimp -implicitDefEqProofs [-getElem?_pos, go_sem, t22]) (by simp -dsimp -implicitDefEqProofs [-getElem?_pos, go_sem]) rfl hH
        · rw [hwv, da, if_pos (by simp)] at sn2
          simp -dsimp -implicitDefEqProofs [-getElem?_pos, go_sem, hP, da, t5, t8, t6, hH, ltH, t23, wj, cFl]
          refine ⟨by omega, by omega, nxt _ s.H.length (cur ++ [⟨d, A, 3, k⟩]) sn2.symm (by omega) (by simp -dsimp -implicitDefEqProofs [-getElem?_pos, go_sem, t1]) (by simp -dsimp -implicitDefEqProofs [-getElem?_pos, go_sem]) (by simp -dsimp -implicitDefEqProofs [-getElem?_pos, go_sem, t6]) (by simp -dsimp -implicitDefEqProofs [-getElem?_pos, go_sem, t7]) (by simp -dsimp -implicitDefEqProofs [-getElem?_pos, go_sem, t8]) (by simp -dsimp -implicitDefEqProofs [-getElem?_pos, go_sem, t11]) (by simp -dsimp -implicitDefEqProofs [-getElem?_pos, go_sem, t12]) (by simp -dsimp -implicitDefEqProofs [-getElem?_pos, go_sem, t13]) (by simp -dsimp -implicitDefEqProofs [-getElem?_pos, go_sem, t21]) (by simp -dsimp -implicitDefEqProofs [-getElem?_pos, go_sem, t22]) (by simp -dsimp -implicitDefEqProofs [-getElem?_pos, go_sem]) ?_ ?_⟩
          · rw [List.getElem?_append_left (by rw [List.length_set]; exact ltB), List.getElem?_set_ne hne]
          · rw [List.getElem?_append_right (by rw [List.length_set]; omega), List.length_set, Nat.sub_self]
            simp [encL, cFl]
      · have da := decide_eq_false ha
        rw [da, Bool.false_and, if_neg (by simp), List.append_nil] at sn2
        simp -dsimp -implicitDefEqProofs [-getElem?_pos, go_sem, hP, da, t23, wj]
        exact nxt _ id cur sn2.symm hne (by simp -dsimp -implicitDefEqProofs [-getElem?_pos, go_sem, t1]) (by simp -dsimp -implicitDefEqProofs [-getElem?_pos, go_sem, t5]) (by simp -dsimp -implicitDefEqProofs [-getElem?_pos, go_sem, t6]) (by simp -dsimp -implicitDefEqProofs [-getElem?_pos, go_sem, t7]) (by simp -dsimp -implicitDefEqProofs [-getElem?_pos, go_sem, t8]) (by simp -dsimp -implicitDefEqProofs [-getElem?_pos, go_sem, t11]) (by simp -dsimp -implicitDefEqProofs [-getElem?_pos, go_sem, t12]) (by simp -dsimp -implicitDefEqProofs [-getElem?_pos, go_sem, t13]) (by simp -dsimp -implicitDefEqProofs [-getElem?_pos, go_sem, t21]) (by simp -dsimp -implicitDefEqProofs [-getElem?_pos, go_sem, t22]) (by simp -dsimp -implicitDefEqProofs [-getElem?_pos, go_sem]) rfl hH
    · have hje : j = ds.length := by
        have : ¬ j < ds.length := by simpa using h
        omega
      subst hje
      rw [List.take_length] at hcur
      simp -dsimp -implicitDefEqProofs [-getElem?_pos, go_sem, hP, t13, wk]
      refine ⟨l.length - (k + 1), by omega, ?_⟩
      rw [hI]
      refine ⟨k + 1, id, by omega, rfl, by simp -dsimp -implicitDefEqProofs [-getElem?_pos, go_sem, t1], by rw [esn, ← hcur]; simp -dsimp -implicitDefEqProofs [-getElem?_pos, go_sem, t5], by simp -dsimp -implicitDefEqProofs [-getElem?_pos, go_sem, t11], by simp -dsimp -implicitDefEqProofs [-getElem?_pos, go_sem, t12], by simp -dsimp -implicitDefEqProofs [-getElem?_pos, go_sem], ?_⟩
      rw [esn, ← hcur]
      exact hH
  · have hke : k = l.length := by
      have : ¬ k < l.length := by simpa using h
      omega
    subst hke
    rw [List.take_length] at t5 hH
    obtain ⟨raw, hraw⟩ : ∃ raw, raw = rawF w 0 l := ⟨_, rfl⟩
    have lraw := rawF_len w l 0
    rw [← hraw] at t5 hH lraw
    have so := sortStableL_m (row := E.row) (src := E.src) TFlow.cells dayLt 59 flCmp dayLt_ord raw s.H id raw.length rfl (by omega) hH
    simp -dsimp -implicitDefEqProofs [-getElem?_pos, go_sem, hP, t5]
    refine callB_m so hP en_58 ?_
    rintro r H' rfl
    simp -dsimp -implicitDefEqProofs [-getElem?_pos, go_sem, hP, t5]
    have tk : ((encL TFlow.cells (ssort dayLt raw)).drop 0).take raw.length = encL TFlow.cells (ssort dayLt raw) := by rw [List.drop_zero, List.take_of_length_le (by simp [encL, ssort_len])]
    refine done (x := flowsL (flowsD w l)) ?_ rfl ?_ <;> rw [view_sref, List.getElem?_set_self (List.getElem?_eq_some_iff.1 hH).1, viewS_some, tk]
    · exact imm_flows _
    · rw [flowsD, ← hraw]
end Go.Proofs.YtabdihohphlheaaGreatDoor
