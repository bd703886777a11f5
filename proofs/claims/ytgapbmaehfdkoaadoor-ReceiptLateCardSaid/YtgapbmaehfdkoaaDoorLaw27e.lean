/- ReceiptLate. -/
import Derived.Test.YtgapbmaehfdkoaaDoorCashA
import Derived.Test.YtgapbmaehfdkoaaDoorCashS
import Derived.Test.YtgapbmaehfdkoaaDoorCashSane
import Derived.Test.YtgapbmaehfdkoaaDoorCash15
set_option linter.unusedSimpArgs false
set_option linter.unusedVariables false
namespace Go.Proofs.YtgapbmaehfdkoaaDoor

def lateI (vs : List Int) : List TIncome := vs.mapIdx fun i a => ⟨(i : Int) + 1, (i : Int) + 1, 1, a, 0⟩
def lateC (vs : List Int) : TCash := ⟨[], lateI vs, [], vs⟩
def lateX (k : Nat) (a : Int) : TIncome := ⟨(k : Int) + 1, (k : Int) + 1, 1, a, 0⟩
def lateY (n : Int) : TClaim := ⟨7, 1, n, n, 9, ⟨#[49]⟩⟩
theorem lateI_len (vs : List Int) : (lateI vs).length = vs.length := by simp [lateI]
theorem lateI_at {vs : List Int} {i : Nat} {y : TIncome} (h : (lateI vs)[i]? = some y) : ∃ a, vs[i]? = some a ∧ y = lateX i a := by
  unfold lateI at h
  rw [List.getElem?_mapIdx] at h
  cases ha : vs[i]? with
  | none => rw [ha] at h; cases h
  | some a => rw [ha] at h; exact ⟨a, rfl, (Option.some.inj h).symm⟩
theorem lateX_inc {k : Nat} {a : Int} (hk : k ≤ 100) (ha : 1 ≤ a ∧ a ≤ 100) : incB (lateX k a) = true := by
  simp only [incB, lateX, Bool.and_eq_true, btw_iff]
  omega
theorem lateC_ok {vs : List Int} (hl : vs.length ≤ 100) (ha : ∀ a, a ∈ vs → 1 ≤ a ∧ a ≤ 100) : CashOk (lateC vs) := by
  refine ⟨⟨fun x hx => (by cases hx), List.Pairwise.nil⟩, ⟨fun y hy => ?_, ?_⟩, (lateI_len vs).symm, fun m hm => (by cases hm), fun x hx => (by cases hx), fun i y lo hy hl => ?_⟩
  · obtain ⟨i, hi⟩ := List.getElem?_of_mem hy
    obtain ⟨a, h1, rfl⟩ := lateI_at hi
    exact lateX_inc (by have := (List.getElem?_eq_some_iff.1 h1).1; omega) (ha a (List.mem_of_getElem? h1))
  · show (lateI vs).Pairwise _
    rw [List.pairwise_iff_getElem]
    intro i j hi hj hij
    obtain ⟨a, _, e1⟩ := lateI_at (List.getElem?_eq_getElem hi)
    obtain ⟨b, _, e2⟩ := lateI_at (List.getElem?_eq_getElem hj)
    rw [e1, e2]
    simp only [lateX]
    omega
  · obtain ⟨a, h1, rfl⟩ := lateI_at hy
    have h2 : vs[i]? = some lo := hl
    rw [h1] at h2
    have e := Option.some.inj h2
    have := ha a (List.mem_of_getElem? h1)
    refine ⟨by omega, ?_⟩
    show (0 : Int) ≤ a - lo
    omega
theorem lateC_cash {vs : List Int} (hl : vs.length ≤ 3) (ha : ∀ a, a ∈ vs → 1 ≤ a ∧ a ≤ 100) : cashE (lateC vs) = 0 :=
  cashE_ok.2 ⟨⟨by simp [lateC], by simp [lateC, lateI_len]; omega, by simp [lateC]⟩, lateC_ok (by omega) ha⟩
theorem lateC_fit {vs : List Int} (hl : vs.length ≤ 3) : FitC (lateC vs) :=
  ⟨by simp [lateC], by simp [lateC, lateI_len]; omega, by simp [lateC], by simp [lateC]; omega, fun x hx => by cases hx⟩
theorem lateC_snoc (vs : List Int) (a : Int) : lateC (vs ++ [a]) = ⟨[], (lateC vs).Incomes ++ [lateX vs.length a], [], (lateC vs).Loose ++ [a]⟩ := by
  simp [lateC, lateI, lateX, List.mapIdx_append]
theorem lateC_last (vs : List Int) (hl : vs.length ≤ 2) : lastN (lateC vs) = vs.length ∧ lastD (lateC vs) = vs.length := by
  match vs, hl with
  | [], _ => exact ⟨rfl, rfl⟩
  | [a], _ => exact ⟨rfl, rfl⟩
  | [a, b], _ => exact ⟨rfl, rfl⟩
theorem lateC_take {vs : List Int} {a : Int} (hl : vs.length ≤ 2) (ha : ∀ z, z ∈ vs → 1 ≤ z ∧ z ≤ 100) (h1 : 1 ≤ a ∧ a ≤ 100) : takeD (lateC vs) (lateX vs.length a) = (lateC (vs ++ [a]), [], 0) := by
  obtain ⟨l1, l2⟩ := lateC_last vs hl
  have e : taken (lateC vs) (lateX vs.length a) = lateC (vs ++ [a]) := by
    rw [lateC_snoc]
    exact taken_ind (fun d => d = start (lateC vs) (lateX vs.length a)) (lateC vs) _ (start_pos (lateC_ok (by omega) ha).pos (by simp only [lateX]; omega)) rfl fun d k _ e hk => by
      rw [e] at hk
      cases hk
  have := takeD_yes (c := lateC vs) (x := lateX vs.length a) (lateC_cash (by omega) ha) (lateX_inc (by omega) h1) (by rw [l1]; simp only [lateX]; omega) (by rw [l2]; simp only [lateX]; omega) (by simp [lateC, lateI_len]; omega) (by rw [e]; simp [lateC])
  rw [this, e]
  rfl
theorem meet_num {c : TCash} {i k : Nat} {lo : Int} {x : TClaim} {y : TIncome} (h1 : c.Loose[i]? = some lo) (h2 : c.Claims[k]? = some x) (h3 : c.Incomes[i]? = some y) :
    (meet c i k).Loose = c.Loose.set i (lo - min lo x.Open) ∧ (meet c i k).Claims = c.Claims.set k { x with Open := x.Open - min lo x.Open } ∧ (meet c i k).Incomes = c.Incomes := by
  by_cases hn : min lo x.Open = 0
  · have e : meet c i k = c := by
      unfold meet
      rw [h1, h2, h3]
      simp only
      rw [if_pos hn]
    rw [e, hn, Int.sub_zero, Int.sub_zero]
    obtain ⟨g1, g2⟩ := List.getElem?_eq_some_iff.1 h1
    obtain ⟨g3, g4⟩ := List.getElem?_eq_some_iff.1 h2
    refine ⟨?_, ?_, rfl⟩
    · rw [← g2, List.set_getElem_self]
    · have : ({ x with Open := x.Open } : TClaim) = x := rfl
      rw [this, ← g4, List.set_getElem_self]
  · rw [meet_at h1 h2 h3 hn]
    exact ⟨rfl, rfl, rfl⟩
/-- What a claim leaves. -/
theorem late_add {a b d n : Int} (ha : ∀ z, z ∈ [a, b, d] → 1 ≤ z ∧ z ≤ 100) (hn : 1 ≤ n ∧ n ≤ 1000) :
    addD (lateC [a, b, d]) (lateY n) = (added (lateC [a, b, d]) (lateY n), 0) ∧ cashE (added (lateC [a, b, d]) (lateY n)) = 0 ∧ FitC (added (lateC [a, b, d]) (lateY n)) ∧
    (added (lateC [a, b, d]) (lateY n)).Incomes = (lateC [a, b, d]).Incomes ∧ (added (lateC [a, b, d]) (lateY n)).Claims.length = 1 ∧
    ∃ u v w, (added (lateC [a, b, d]) (lateY n)).Loose = [u, v, w] ∧ (v = b ∨ u = 0) ∧ (w = d ∨ v = 0) ∧ owedS (added (lateC [a, b, d]) (lateY n)).Claims 1 = max (n - (a + b + d)) 0 ∧ looseS (added (lateC [a, b, d]) (lateY n)).Incomes (added (lateC [a, b, d]) (lateY n)).Loose 1 = max (a + b + d - n) 0 := by
  have c0 := lateC_cash (vs := [a, b, d]) (by simp) ha
  have ok := lateC_ok (vs := [a, b, d]) (by simp) ha
  have code : codeB ⟨#[49]⟩ = true := by kernel_rfl
  have py : payB (lateY n) = true := payB_iff.2 ⟨by simp [lateY], by simp [lateY], by simp only [lateY]; omega, by simp only [lateY]; omega, by simp [lateY], code⟩
  have no : payAt (lateC [a, b, d]).Claims (lateY n).ID = none := rfl
  have aok := added_ok ok py rfl no
  have po := added_pot ok.pos (x := lateY n) (by simp only [lateY]; omega)
  have fl := added_fall ok.pos (x := lateY n) (by simp only [lateY]; omega)
  have pp : pot (lateC [a, b, d]) ≤ 3 := by
    have : [a, b, d].countP (fun l => decide (0 < l)) ≤ 3 := List.countP_le_length
    exact (by simpa [pot, lateC] using this)
  obtain ⟨D, hD⟩ : ∃ D, D = added (lateC [a, b, d]) (lateY n) := ⟨_, rfl⟩
  have l1 : D.Claims.length = 1 := by rw [hD]; exact fl.cn
  have l2 : D.Incomes.length = 3 := by rw [hD, fl.inc]; rfl
  have l3 : D.Matches.length ≤ 4 := by rw [← hD] at po; unfold pot at po pp; omega
  rw [← hD] at aok
  have l4 : D.Loose.length = 3 := by rw [aok.len, l2]
  have e0 : addD (lateC [a, b, d]) (lateY n) = (D, 0) := by
    have e1 : (payB (lateY n) && decide ((lateY n).Open = (lateY n).Amount) && (payAt (lateC [a, b, d]).Claims (lateY n).ID).isNone) = true := by rw [py, no]; simp [lateY]
    unfold addD
    rw [if_pos c0, if_pos e1, if_pos (by simp [lateC]), ← hD, if_pos (by omega)]
  have hA := ha a (by simp)
  have hB := ha b (by simp)
  have hC := ha d (by simp)
  have steps : D = meet (meet (meet (withC (lateC [a, b, d]) (lateY n)) 0 0) 1 0) 2 0 := hD
  obtain ⟨p1, p2, p3⟩ := meet_num (c := withC (lateC [a, b, d]) (lateY n)) (i := 0) (k := 0) (lo := a) (x := lateY n) (y := lateX 0 a) rfl rfl rfl
  obtain ⟨D1, hD1⟩ : ∃ D, D = meet (withC (lateC [a, b, d]) (lateY n)) 0 0 := ⟨_, rfl⟩
  rw [← hD1] at p1 p2 p3 steps
  obtain ⟨m1, hm1⟩ : ∃ m, m = min a n := ⟨_, rfl⟩
  have q1 : D1.Loose = [a - m1, b, d] := by rw [p1, hm1]; rfl
  have q2 : D1.Claims = [{ lateY n with Open := n - m1 }] := by rw [p2, hm1]; rfl
  have q3 : D1.Incomes = [lateX 0 a, lateX 1 b, lateX 2 d] := p3
  obtain ⟨p4, p5, p6⟩ := meet_num (c := D1) (i := 1) (k := 0) (lo := b) (x := { lateY n with Open := n - m1 }) (y := lateX 1 b) (by rw [q1]; rfl) (by rw [q2]; rfl) (by rw [q3]; rfl)
  obtain ⟨D2, hD2⟩ : ∃ D, D = meet D1 1 0 := ⟨_, rfl⟩
  rw [← hD2] at p4 p5 p6 steps
  obtain ⟨m2, hm2⟩ : ∃ m, m = min b (n - m1) := ⟨_, rfl⟩
  have q4 : D2.Loose = [a - m1, b - m2, d] := by rw [p4, q1, hm2]; rfl
  have q5 : D2.Claims = [{ lateY n with Open := n - m1 - m2 }] := by rw [p5, q2, hm2]; rfl
  have q6 : D2.Incomes = [lateX 0 a, lateX 1 b, lateX 2 d] := p6.trans q3
  obtain ⟨p7, p8, p9⟩ := meet_num (c := D2) (i := 2) (k := 0) (lo := d) (x := { lateY n with Open := n - m1 - m2 }) (y := lateX 2 d) (by rw [q4]; rfl) (by rw [q5]; rfl) (by rw [q6]; rfl)
  rw [← steps] at p7 p8 p9
  obtain ⟨m3, hm3⟩ : ∃ m, m = min d (n - m1 - m2) := ⟨_, rfl⟩
  have q7 : D.Loose = [a - m1, b - m2, d - m3] := by rw [p7, q4, hm3]; rfl
  have q8 : D.Claims = [{ lateY n with Open := n - m1 - m2 - m3 }] := by rw [p8, q5, hm3]; rfl
  have q9 : D.Incomes = [lateX 0 a, lateX 1 b, lateX 2 d] := p9.trans q6
  rw [← hD]
  refine ⟨e0, cashE_ok.2 ⟨⟨by omega, by omega, by omega⟩, aok⟩, ⟨by omega, by omega, by omega, by omega, fun x hx => ?_⟩, by rw [q9]; rfl, l1, a - m1, b - m2, d - m3, q7, by omega, by omega, ?_, ?_⟩
  · rw [q8, List.mem_singleton] at hx
    subst hx
    show (1 : Nat) ≤ 1000000
    omega
  · have : owedS D.Claims 1 = n - m1 - m2 - m3 := by rw [q8]; simp [owedS, lateY]
    omega
  · have : looseS D.Incomes D.Loose 1 = a - m1 + (b - m2) + (d - m3) := by rw [q9, q7]; simp [looseS, lateX]; omega
    omega
theorem late_loose {a b d : Int} : looseS (lateC [a, b, d]).Incomes (lateC [a, b, d]).Loose 1 = a + b + d := by
  show looseS [lateX 0 a, lateX 1 b, lateX 2 d] [a, b, d] 1 = _
  simp [looseS, lateX]
  omega
open Go.PA
open Go.RowKit

theorem cash_imm (c : TCash) : Imm (.agg [claimsL c.Claims, incomesL c.Incomes, matchesL c.Matches, .list 1 (encL encI c.Loose)]) := by
  have := imm_agg.2 c.imm
  rwa [cCsh] at this
set_option maxHeartbeats 4000000 in
set_option maxRecDepth 8000 in
theorem late27_pf (xs : List Int) (hx : Small xs) (hl : xs.length ≤ 9223372036854775807) : PFun Tryd.prog none none 3 [intsL xs] (· = bv true) := by
  refine pfun_introA Tryd.func3 rfl (by simp [Tryd.f3]) ?_
  intro E hP hr hs hW hN
  refine awp_cut (by rw [hN]; kernel_rfl) ?_
  simp [go_sem, hP]
  refine awp_cut (by rw [hN]; kernel_rfl) ?_
  simp [go_sem, hP]
  have hnew : POwn Tryd.prog E.row E.src 4 [intsL xs] 45 2 (· = [[intsL (xs.take 900), iv 0]]) := by rw [hr, hs]; exact new_pf xs hl
  refine callB_own hnew hP en_4 (args_same (by simp [go_sem, intsL])) (by simp [srefs_imm, go_sem, intsL]) ⟨_, rfl⟩ ?_
  rintro es rfl
  simp [go_sem, hP]
  refine awp_adopt 3 (ty := 45) (xs := xs.take 900) (at_ := 0) hr hs hW (by simp [go_sem]) (by simp [go_sem, intsL]) (by omega) (by simp; omega) (fun x hx' => hx x (List.mem_of_mem_take hx')) (by rw [hN]; kernel_rfl) ?_
  intro E' p hP' hr' hN' hW'
  rw [hP] at hP'
  rw [hN] at hN'
  clear hnew hP hr hs hW hN E
  rename Env => E
  rename E.P = _ => hP
  rename E.row = _ => hr
  rename E.N = _ => hN
  rename (∀ b, ¬ E.W b) => hW
  obtain ⟨src, hs⟩ : ∃ src, E.src = src := ⟨_, rfl⟩
  have up : ∀ {f : FuncId} {args : List AV} {Q : AV → Prop}, PFun Tryd.prog (some p) src f args Q → PFun Tryd.prog E.row E.src f args Q := fun h => hr ▸ hs ▸ h

  have saneB : ∀ {H : Heap} {C : AV → Heap → Prop} {b : Bx C}, C (bv true) H → CallB E 11 [] H C b := fun h => callB_pure sane27_pf hP en_11 (args_nil.2 trivial) .sc h
  have nil1 : claimsL [] = .list 6 [] := rfl
  have nil2 : incomesL [] = .list 5 [] := rfl
  have nil3 : matchesL [] = .list 3 [] := rfl
  simp -dsimp -implicitDefEqProofs [-getElem?_pos, go_sem, hP]
  refine aloop_cells (ty := 29) (k := 4) 1 [.nil, .nil, .nil, .nil] [claimsL (lateC []).Claims, incomesL (lateC []).Incomes, matchesL (lateC []).Matches, .list 1 (encL encI (lateC []).Loose)] (by simp -dsimp -implicitDefEqProofs [-getElem?_pos, go_sem]) (by omega) (by simp) rfl (fun j a b ha hb => ?_) ?_
  · match j, ha, hb with
    | 0, ha, hb => simp at ha hb; subst ha; subst hb; exact .nil 6
    | 1, ha, hb => simp at ha hb; subst ha; subst hb; exact .nil 5
    | 2, ha, hb => simp at ha hb; subst ha; subst hb; exact .nil 3
    | 3, ha, hb => simp at ha hb; subst ha; subst hb; exact .nil 1
    | j + 4, ha, hb => simp at ha
  obtain ⟨I, hI⟩ : ∃ I : Nat → St → Prop, I = fun m s => ∃ (vs : List Int), vs.length ≤ 3 ∧ m = 3 - vs.length ∧ (∀ a, a ∈ vs → 1 ≤ a ∧ a ≤ 100) ∧ s.t 3 = sp p ∧ s.t 4 = .ref 1 0 0 ∧ s.t 5 = iv vs.sum ∧ s.t 6 = iv ((vs.length : Int) + 1) ∧ s.H[1]? = some (some ⟨29, 4, [[claimsL (lateC vs).Claims, incomesL (lateC vs).Incomes, matchesL (lateC vs).Matches, .list 1 (encL encI (lateC vs).Loose)]]⟩) := ⟨_, rfl⟩
  refine aloop0 I (3) (by rw [hN]; rfl) ?_ ?_
  · rw [hI]
    exact ⟨[], by simp, by simp, by simp, by simp -dsimp -implicitDefEqProofs [-getElem?_pos, go_sem], by simp -dsimp -implicitDefEqProofs [-getElem?_pos, go_sem], by simp -dsimp -implicitDefEqProofs [-getElem?_pos, go_sem], by simp -dsimp -implicitDefEqProofs [-getElem?_pos, go_sem], by simp -dsimp -implicitDefEqProofs [-getElem?_pos, go_sem]⟩
  intro m s hs'
  rw [hI] at hs'
  obtain ⟨vs, hv, hm, hb, t3, t4, t5, t6, h1⟩ := hs'
  have lt1 := (List.getElem?_eq_some_iff.1 h1).1
  have ic := cash_imm (lateC vs)
  simp -dsimp -implicitDefEqProofs [-getElem?_pos, go_sem, hP, t6]
  refine condP (fun h => ?_) (fun h => ?_)
  · have hk : vs.length ≤ 2 := by
      have : (vs.length : Int) + 1 ≤ 3 := by simpa using h
      omega
    have i3 : Imm (intsL [5, 20, 60]) := imm_ints _
    simp -dsimp -implicitDefEqProofs [-getElem?_pos, go_sem, hP]
    refine adrawQ (fun i => decide (i = 1)) [13] [5, 7] hP (by kernel_rfl) (by kernel_rfl) ?_
    simp -dsimp -implicitDefEqProofs [-getElem?_pos, go_sem, hP, t3, t4, t6, h1, lt1]
    refine callQ_isQ (up (pick_pf p src [5, 20, 60] (by simp))) hP en_6 (by simp -dsimp -implicitDefEqProofs [-getElem?_pos, go_sem, i3]) ⟨iv 5, ⟨5, rfl, by simp⟩, .sc⟩ ?_
    rintro r ⟨a, rfl, ha⟩ _
    have ha : 1 ≤ a ∧ a ≤ 100 := by simp at ha; omega
    have tk := ctake_pf (lateC vs) (lateX vs.length a) (lateC_fit hv) (by simp [lateC])
    rw [lateC_take hk hb ha, cCsh, cCsh, cIncm] at tk
    have ib := cash_imm (lateC (vs ++ [a]))
    have ix := imm_agg.2 (lateX vs.length a).imm
    rw [cIncm] at ix
    simp only [lateX] at tk ix
    simp -dsimp -implicitDefEqProofs [-getElem?_pos, go_sem, hP]
    refine callQ_is (tk.lift _ _) hP en_5 (by simpa using ⟨ic, ix⟩) (imm_trip ib (imm_matches []) .sc) ?_
    have ll : (lateC (vs ++ [a])).Loose.length = vs.length + 1 := by simp [lateC]
    have la : (lateC (vs ++ [a])).Loose[vs.length]? = some a := by simp [lateC]
    have sb : 0 ≤ vs.sum ∧ vs.sum ≤ 300 := by
      match vs, hk, hb with
      | [], _, _ => simp
      | [x], _, hb => have := hb x (by simp); simp; omega
      | [x, y], _, hb => have := hb x (by simp); have := hb y (by simp); simp; omega
    have ws := wrap_in (vs.sum + a) (by omega)
    have wk := wrap_in ((vs.length : Int) + 1 + 1) (by omega)
    have wl := wrap_in ((vs.length : Int) + 1 - 1) (by omega)
    have wm := wrap_in (vs.length : Int) (by omega)
    obtain ⟨vs', hvs⟩ : ∃ l, l = vs ++ [a] := ⟨_, rfl⟩
    have hv' : vs'.length = vs.length + 1 := by rw [hvs]; simp
    have hs' : vs'.sum = vs.sum + a := by rw [hvs]; simp
    have hb' : ∀ z, z ∈ vs' → 1 ≤ z ∧ z ≤ 100 := fun z hz => by
      rw [hvs] at hz
      rcases List.mem_append.1 hz with hz | hz
      · exact hb z hz
      · rw [List.mem_singleton.1 hz]; exact ha
    rw [← hvs] at ll la ib
    have le : (encL encI (lateC vs').Loose).length = vs.length + 1 := by rw [encL_len, ll]
    have nxt : ∀ (s' : St), s'.t 3 = sp p → s'.t 4 = .ref 1 0 0 → s'.t 5 = iv (vs.sum + a) → s'.t 6 = iv ((vs.length : Int) + 1 + 1) → s'.H[1]? = some (some ⟨29, 4, [[claimsL (lateC vs').Claims, incomesL (lateC vs').Incomes, matchesL (lateC vs').Matches, .list 1 (encL encI (lateC vs').Loose)]]⟩) → ∃ m', m' < m ∧ I m' s' := fun s' a3 a4 a5 a6 b1 => by
      refine ⟨3 - vs'.length, by omega, ?_⟩
      rw [hI]
      exact ⟨vs', by omega, rfl, hb', a3, a4, by rw [a5, hs'], by rw [a6, hv']; simp, b1⟩
    clear hI
    rw [← hvs]
    simp -dsimp -implicitDefEqProofs [-getElem?_pos, go_sem, hP, t4, t6, lt1, le]
    refine ⟨agree_gen0 rfl fun i hi => ⟨by simp at hi; omega, rfl⟩, ?_⟩
    simp -dsimp -implicitDefEqProofs [-getElem?_pos, go_sem, hP, t4, t5, t6, lt1, h1, le, la, encI, wl, wm, ws, wk]
    exact nxt _ (by simp -dsimp -implicitDefEqProofs [-getElem?_pos, go_sem, t3]) (by simp -dsimp -implicitDefEqProofs [-getElem?_pos, go_sem, t4]) (by simp -dsimp -implicitDefEqProofs [-getElem?_pos, go_sem]) (by simp -dsimp -implicitDefEqProofs [-getElem?_pos, go_sem]) (by simp -dsimp -implicitDefEqProofs [-getElem?_pos, go_sem, lt1])
  have h3 : vs.length = 3 := by
    have : ¬ ((vs.length : Int) + 1 ≤ 3) := by simpa using h
    omega
  obtain ⟨a, b, d, rfl⟩ : ∃ a b d, vs = [a, b, d] := by
    match vs, h3 with
    | [a, b, d], _ => exact ⟨a, b, d, rfl⟩
  clear hI h hm hv
  have hA := hb a (by simp)
  have hB := hb b (by simp)
  have hC := hb d (by simp)
  have es : [a, b, d].sum = a + b + d := by simp; omega
  rw [es] at t5
  simp -dsimp -implicitDefEqProofs [-getElem?_pos, go_sem, hP, t3]
  refine callB_isQ (up (range_pf p src 1 150 (by omega) (by omega))) hP en_7 (by simp [go_sem]) ⟨iv 1, ⟨1, rfl, by omega, by omega⟩, .sc⟩ ?_
  rintro r ⟨n, rfl, hn, _⟩ _
  have hn := hn (by omega)
  obtain ⟨ad, dc, df, di, dl, u, v, w, eL, eu, ev, so, sl⟩ := late_add hb ⟨hn.1, by omega⟩
  obtain ⟨D, hD⟩ : ∃ D, D = added (lateC [a, b, d]) (lateY n) := ⟨_, rfl⟩
  rw [← hD] at ad dc df di dl eL so sl
  have add := cadd_pf (lateC [a, b, d]) (lateY n) (lateC_fit (by simp)) (by show (1 : Nat) ≤ 1000000; omega)
  rw [ad, cCsh, cCsh, cClm] at add
  have iy := imm_agg.2 (lateY n).imm
  rw [cClm] at iy
  simp only [lateY] at add iy
  have id := cash_imm D
  simp -dsimp -implicitDefEqProofs [-getElem?_pos, go_sem, hP, t4, h1, lt1]
  refine callB_is (add.lift _ _) hP en_8 (by simpa using ⟨ic, iy⟩) (imm_pair id .sc) ?_
  have lD : (encL encI D.Loose).length = 3 := by rw [encL_len, eL]; rfl
  simp -dsimp -implicitDefEqProofs [-getElem?_pos, go_sem, hP, lD]
  have cc := lateC_cash (vs := [a, b, d]) (by simp) hb
  have ow := cowed_pf D 1 df
  have lo := cloose_pf D 1 df
  have lo2 := cloose_pf (lateC [a, b, d]) 1 (lateC_fit (by simp))
  rw [owedD_eq dc, so, cCsh] at ow
  rw [looseD_eq dc, sl, cCsh] at lo
  rw [looseD_eq cc, late_loose, cCsh] at lo2
  obtain ⟨OD, hOD⟩ : ∃ O : AObj, O = ⟨29, 4, [[claimsL D.Claims, incomesL D.Incomes, matchesL D.Matches, .list 1 (encL encI D.Loose)]]⟩ := ⟨_, rfl⟩
  obtain ⟨OC, hOC⟩ : ∃ O : AObj, O = ⟨29, 4, [[claimsL (lateC [a, b, d]).Claims, incomesL (lateC [a, b, d]).Incomes, matchesL (lateC [a, b, d]).Matches, .list 1 (encL encI (lateC [a, b, d]).Loose)]]⟩ := ⟨_, rfl⟩
  obtain ⟨q, hq⟩ : ∃ q, q = s.H.length := ⟨_, rfl⟩
  simp only [← hOD]
  rw [← hOC] at h1
  obtain ⟨J, hJ⟩ : ∃ I : Nat → St → Prop, I = fun m s => ∃ (i : Nat), 1 ≤ i ∧ i ≤ 3 ∧ m = 3 - i ∧ s.t 3 = sp p ∧ s.t 4 = .ref 1 0 0 ∧ s.t 5 = iv (a + b + d) ∧ s.t 10 = iv n ∧ s.t 11 = .ref q 0 0 ∧ s.t 13 = iv i ∧ s.H[1]? = some (some OC) ∧ s.H[q]? = some (some OD) := ⟨_, rfl⟩
  refine aloop0 J (2) (by rw [hN]; rfl) ?_ ?_
  · rw [hJ]
    exact ⟨1, by omega, by omega, by omega, by simp -dsimp -implicitDefEqProofs [-getElem?_pos, go_sem, t3], by simp -dsimp -implicitDefEqProofs [-getElem?_pos, go_sem, t4], by simp -dsimp -implicitDefEqProofs [-getElem?_pos, go_sem, t5], by simp -dsimp -implicitDefEqProofs [-getElem?_pos, go_sem], by simp -dsimp -implicitDefEqProofs [-getElem?_pos, go_sem, hq], by simp -dsimp -implicitDefEqProofs [-getElem?_pos, go_sem], by simp -dsimp -implicitDefEqProofs [-getElem?_pos, go_sem, lt1, h1], by simp -dsimp -implicitDefEqProofs [-getElem?_pos, go_sem, hq]⟩
  clear t3 t4 t5 t6 h1 lt1
  intro m s hs'
  rw [hJ] at hs'
  obtain ⟨i, i1, i2, hm, t3, t4, t5, t10, t11, t13, h1, h2⟩ := hs'
  have lt1 := (List.getElem?_eq_some_iff.1 h1).1
  have lt2 := (List.getElem?_eq_some_iff.1 h2).1
  simp -dsimp -implicitDefEqProofs [-getElem?_pos, go_sem, hP, t13]
  refine condP (fun h => ?_) (fun h => ?_)
  · have hi : i = 1 ∨ i = 2 := by
      have : (i : Int) < 3 := by simpa using h
      omega
    have nxt : ∀ (s' : St), s'.t 3 = sp p → s'.t 4 = .ref 1 0 0 → s'.t 5 = iv (a + b + d) → s'.t 10 = iv n → s'.t 11 = .ref q 0 0 → s'.t 13 = iv ((i : Int) + 1) → s'.H[1]? = some (some OC) → s'.H[q]? = some (some OD) → ∃ m', m' < m ∧ J m' s' := fun s' a3 a4 a5 a10 a11 a13 b1 b2 => by
      refine ⟨3 - (i + 1), by omega, ?_⟩
      rw [hJ]
      exact ⟨i + 1, by omega, by omega, rfl, a3, a4, a5, a10, a11, by rw [a13]; simp, b1, b2⟩
    clear hJ
    simp -dsimp -implicitDefEqProofs [-getElem?_pos, go_sem, hP]
    refine adrawB (fun _ => true) [] hP (by kernel_rfl) (by kernel_rfl) ?_
    rcases hi with rfl | rfl
    · have d0 : D.Loose[0]? = some u := by rw [eL]; rfl
      have d1 : D.Loose[1]? = some v := by rw [eL]; rfl
      have c1 : (lateC [a, b, d]).Loose[1]? = some b := rfl
      have w1 := wrap_in 0 (by omega)
      have w2 := wrap_in 2 (by omega)
      by_cases e : v = b
      · simp -dsimp -implicitDefEqProofs [-getElem?_pos, go_sem, hP, t11, t4, t13, h1, h2, lt1, lt2, hOD, hOC, d0, d1, c1, encI, e, w1, w2]
        exact nxt _ (by simp -dsimp -implicitDefEqProofs [-getElem?_pos, go_sem, t3]) (by simp -dsimp -implicitDefEqProofs [-getElem?_pos, go_sem, t4]) (by simp -dsimp -implicitDefEqProofs [-getElem?_pos, go_sem, t5]) (by simp -dsimp -implicitDefEqProofs [-getElem?_pos, go_sem, t10]) (by simp -dsimp -implicitDefEqProofs [-getElem?_pos, go_sem, t11]) (by simp -dsimp -implicitDefEqProofs [-getElem?_pos, go_sem]) (by simp -dsimp -implicitDefEqProofs [-getElem?_pos, go_sem, lt1, h1]) (by simp -dsimp -implicitDefEqProofs [-getElem?_pos, go_sem, lt2, h2])
      · have eu := eu.resolve_left e
        simp -dsimp -implicitDefEqProofs [-getElem?_pos, go_sem, hP, t11, t4, t13, h1, h2, lt1, lt2, hOD, hOC, d0, d1, c1, encI, e, eu, w1, w2]
        exact nxt _ (by simp -dsimp -implicitDefEqProofs [-getElem?_pos, go_sem, t3]) (by simp -dsimp -implicitDefEqProofs [-getElem?_pos, go_sem, t4]) (by simp -dsimp -implicitDefEqProofs [-getElem?_pos, go_sem, t5]) (by simp -dsimp -implicitDefEqProofs [-getElem?_pos, go_sem, t10]) (by simp -dsimp -implicitDefEqProofs [-getElem?_pos, go_sem, t11]) (by simp -dsimp -implicitDefEqProofs [-getElem?_pos, go_sem]) (by simp -dsimp -implicitDefEqProofs [-getElem?_pos, go_sem, lt1, h1]) (by simp -dsimp -implicitDefEqProofs [-getElem?_pos, go_sem, lt2, h2])
    · have d1 : D.Loose[1]? = some v := by rw [eL]; rfl
      have d2 : D.Loose[2]? = some w := by rw [eL]; rfl
      have c2 : (lateC [a, b, d]).Loose[2]? = some d := rfl
      have w1 := wrap_in 1 (by omega)
      have w2 := wrap_in 3 (by omega)
      by_cases e : w = d
      · simp -dsimp -implicitDefEqProofs [-getElem?_pos, go_sem, hP, t11, t4, t13, h1, h2, lt1, lt2, hOD, hOC, d1, d2, c2, encI, e, w1, w2]
        exact nxt _ (by simp -dsimp -implicitDefEqProofs [-getElem?_pos, go_sem, t3]) (by simp -dsimp -implicitDefEqProofs [-getElem?_pos, go_sem, t4]) (by simp -dsimp -implicitDefEqProofs [-getElem?_pos, go_sem, t5]) (by simp -dsimp -implicitDefEqProofs [-getElem?_pos, go_sem, t10]) (by simp -dsimp -implicitDefEqProofs [-getElem?_pos, go_sem, t11]) (by simp -dsimp -implicitDefEqProofs [-getElem?_pos, go_sem]) (by simp -dsimp -implicitDefEqProofs [-getElem?_pos, go_sem, lt1, h1]) (by simp -dsimp -implicitDefEqProofs [-getElem?_pos, go_sem, lt2, h2])
      · have ev := ev.resolve_left e
        simp -dsimp -implicitDefEqProofs [-getElem?_pos, go_sem, hP, t11, t4, t13, h1, h2, lt1, lt2, hOD, hOC, d1, d2, c2, encI, e, ev, w1, w2]
        exact nxt _ (by simp -dsimp -implicitDefEqProofs [-getElem?_pos, go_sem, t3]) (by simp -dsimp -implicitDefEqProofs [-getElem?_pos, go_sem, t4]) (by simp -dsimp -implicitDefEqProofs [-getElem?_pos, go_sem, t5]) (by simp -dsimp -implicitDefEqProofs [-getElem?_pos, go_sem, t10]) (by simp -dsimp -implicitDefEqProofs [-getElem?_pos, go_sem, t11]) (by simp -dsimp -implicitDefEqProofs [-getElem?_pos, go_sem]) (by simp -dsimp -implicitDefEqProofs [-getElem?_pos, go_sem, lt1, h1]) (by simp -dsimp -implicitDefEqProofs [-getElem?_pos, go_sem, lt2, h2])
  clear hJ
  obtain ⟨S, hS⟩ : ∃ S, S = a + b + d := ⟨_, rfl⟩
  rw [← hS] at t5 ow lo lo2
  have w1 := wrap_in (n - S) (by omega)
  have w2 := wrap_in (S - n) (by omega)
  have m1 : amax [iv (n - S), iv 0] = some (iv (max (n - S) 0)) := by simp [amax, amaxFrom]
  have m2 : amax [iv (S - n), iv 0] = some (iv (max (S - n) 0)) := by simp [amax, amaxFrom]
  simp -dsimp -implicitDefEqProofs [-getElem?_pos, go_sem, hP, t11, h2, lt2, hOD]
  refine callB_pure ow hP en_9 (args_same (by simpa [imm_sc] using id)) .sc ?_
  simp -dsimp -implicitDefEqProofs [-getElem?_pos, go_sem, hP, t10, t5, w1, m1, t11, h2, lt2, hOD]
  refine callB_pure lo hP en_10 (args_same (by simpa [imm_sc] using id)) .sc ?_
  simp -dsimp -implicitDefEqProofs [-getElem?_pos, go_sem, hP, t10, t5, w2, m2, t4, h1, lt1, hOC]
  refine callB_pure lo2 hP en_10 (args_same (by simpa [imm_sc] using ic)) .sc ?_
  simp -dsimp -implicitDefEqProofs [-getElem?_pos, go_sem, hP, t5]
  refine saneB ?_
  simp -dsimp -implicitDefEqProofs [-getElem?_pos, go_sem, hP]
end Go.Proofs.YtgapbmaehfdkoaaDoor
