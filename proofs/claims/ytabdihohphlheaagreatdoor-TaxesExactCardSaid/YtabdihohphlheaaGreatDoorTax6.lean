/- Taxes: years and claims. -/
import Derived.Test.YtabdihohphlheaaGreatDoorTax4
set_option linter.unusedSimpArgs false
set_option linter.unusedVariables false
namespace Go.Proofs.YtabdihohphlheaaGreatDoor
open Go.PA
open Go.RowKit

/-! ### What flows hold -/
theorem mem_rowF {w : TTax → Int → Bool} {t : TTax} {i : Nat} {ds : List Int} {x : TFlow} (h : x ∈ rowF w t i ds) : ∃ d, d ∈ ds ∧ 0 < amountD t ∧ w t d = true ∧ x = ⟨d, amountD t, 3, i⟩ := by
  unfold rowF at h
  obtain ⟨d, hd, rfl⟩ := List.mem_map.1 h
  obtain ⟨h1, h2⟩ := List.mem_filter.1 hd
  simp only [Bool.and_eq_true, decide_eq_true_eq] at h2
  exact ⟨d, h1, h2.1, h2.2, rfl⟩
theorem mem_rawF {w : TTax → Int → Bool} {x : TFlow} : ∀ (l : List TTax) (i : Nat), x ∈ rawF w i l → ∃ (j : Nat) (t : TTax), l[j]? = some t ∧ ∃ d, d ∈ daysD t ∧ 0 < amountD t ∧ w t d = true ∧ x = ⟨d, amountD t, 3, ((i + j : Nat) : Int)⟩
  | [], i, h => by simp [rawF] at h
  | t :: l, i, h => by
    rw [rawF, List.mem_append] at h
    rcases h with h | h
    · obtain ⟨d, h1, h2, h3, h4⟩ := mem_rowF h
      exact ⟨0, t, rfl, d, h1, h2, h3, by simpa using h4⟩
    · obtain ⟨j, u, hj, d, h1, h2, h3, h4⟩ := mem_rawF l (i + 1) h
      exact ⟨j + 1, u, by simpa using hj, d, h1, h2, h3, by rw [h4, show i + 1 + j = i + (j + 1) by omega]⟩
theorem mem_flowsD {w : TTax → Int → Bool} {l : List TTax} {x : TFlow} (h : x ∈ flowsD w l) : ∃ (j : Nat) (t : TTax), l[j]? = some t ∧ ∃ d, d ∈ daysD t ∧ 0 < amountD t ∧ w t d = true ∧ x = ⟨d, amountD t, 3, (j : Int)⟩ := by
  rw [flowsD, ssort_mem] at h
  have := mem_rawF l 0 h
  simpa using this

/-! ### Years -/
def sumA (l : List TFlow) : Int := (l.map (·.Amount)).sum
theorem sumA_snoc (l : List TFlow) (x : TFlow) : sumA (l ++ [x]) = sumA l + x.Amount := by simp [sumA]
theorem sumA_bd : ∀ (l : List TFlow), (∀ x, x ∈ l → 0 ≤ x.Amount ∧ x.Amount ≤ 1000000000000) → 0 ≤ sumA l ∧ sumA l ≤ (l.length : Int) * 1000000000000
  | [], _ => by simp [sumA]
  | x :: l, h => by
    have h1 := sumA_bd l fun y hy => h y (List.mem_cons_of_mem _ hy)
    have h2 := h x (List.mem_cons_self ..)
    have e : sumA (x :: l) = x.Amount + sumA l := by simp [sumA]
    rw [e, List.length_cons]
    omega
theorem flowsD_amt (w : TTax → Int → Bool) (l : List TTax) : ∀ x, x ∈ flowsD w l → 0 ≤ x.Amount ∧ x.Amount ≤ 1000000000000 := fun x hx => by
  obtain ⟨_, t, _, d, _, _, _, rfl⟩ := mem_flowsD hx
  exact amountD_bd t

def calY (n : Int) : Int := if btw n 0 36000 then n / 360 else -1
theorem calY_pf (n : Int) : PFun Tryz.prog none none 49 [iv n] (· = iv (calY n)) := by
  refine pfun_intro Tryz.func49 rfl (by simp [Tryz.f49]) (by kernel_rfl) ?_
  intro E hP hr hs hW hN
  simp -dsimp -implicitDefEqProofs [-getElem?_pos, go_sem, hP]
  refine callB_pure (cvalid_pf n) hP en_38 (args_same (by simp -dsimp -implicitDefEqProofs [-getElem?_pos, go_sem])) .sc ?_
  cases c : btw n 0 36000
  · simp -dsimp -implicitDefEqProofs [-getElem?_pos, go_sem, hP, calY, c]
  · have hc := btw_iff.1 c
    have ht : n.tdiv 360 = n / 360 := Int.tdiv_eq_ediv_of_nonneg hc.1
    have wd := wrap_in (n / 360) (by omega)
    simp -dsimp -implicitDefEqProofs [-getElem?_pos, go_sem, hP, calY, c, ht, wd]

def yearW (code : ByteArray) (y : Int) (t : TTax) (d : Int) : Bool := underB t.Code code && decide (calY d = y)
theorem tyear1_pf (t : TTax) (d : Int) (code : ByteArray) (y : Int) (h1 : t.Code.size ≤ 1000000) (h2 : code.size ≤ 1000000) : PFun Tryz.prog none none 47 [.agg t.cells, iv d, .iref [.sc (.string code)], .iref [iv y]] (· = bv (yearW code y t d)) := by
  refine pfun_intro Tryz.func47 rfl (by simp [Tryz.f47]) (by kernel_rfl) ?_
  intro E hP hr hs hW hN
  simp -dsimp -implicitDefEqProofs [-getElem?_pos, go_sem, hP, cTx]
  refine adrawB (fun _ => true) [] hP (by kernel_rfl) (by kernel_rfl) ?_
  simp -dsimp -implicitDefEqProofs [-getElem?_pos, go_sem, hP]
  refine callB_pure (tunder_pf t.Code code h1 h2) hP en_48 (args_same (by simp -dsimp -implicitDefEqProofs [-getElem?_pos, go_sem])) .sc ?_
  cases c : underB t.Code code
  · simp -dsimp -implicitDefEqProofs [-getElem?_pos, go_sem, hP, yearW, c]
  · simp -dsimp -implicitDefEqProofs [-getElem?_pos, go_sem, hP]
    refine callB_pure (calY_pf d) hP en_49 (args_same (by simp -dsimp -implicitDefEqProofs [-getElem?_pos, go_sem])) .sc ?_
    simp -dsimp -implicitDefEqProofs [-getElem?_pos, go_sem, hP, yearW, c]

def yearD (l : List TTax) (code : ByteArray) (y : Int) : Int × Int := if checkT l = 0 then (if codeB code then (sumA (flowsD (yearW code y) l), 0) else (0, 5)) else (0, checkT l)
theorem tyear_pf (l : List TTax) (hf : FitT l) (hl : l.length ≤ 1000000) (code : ByteArray) (hc : code.size ≤ 1000000) (y : Int) : PFun Tryz.prog none none 29 [taxesL l, .sc (.string code), iv y] (· = .tup [iv (yearD l code y).1, iv (yearD l code y).2]) := by
  refine pfun_intro Tryz.func29 rfl (by simp [Tryz.f29]) (by kernel_rfl) ?_
  intro E hP hr hs hW hN
  have it := imm_taxes l
  obtain ⟨R, hR⟩ : ∃ R, R = yearD l code y := ⟨_, rfl⟩
  rw [← hR]
  simp -dsimp -implicitDefEqProofs [-getElem?_pos, go_sem, hP]
  refine callB_is ((tcheck_pf l hf hl).lift _ _) hP en_13 (by simpa using it) .sc ?_
  by_cases c : checkT l = 0
  rotate_left
  · have e : R = (0, checkT l) := by rw [hR, yearD, if_neg c]
    have d := decide_eq_false c
    simp -dsimp -implicitDefEqProofs [-getElem?_pos, go_sem, hP, d]
    exact done_imm (imm_pair .sc .sc) (by rw [e])
  obtain ⟨l20, _⟩ := checkT_len c
  rw [yearD, if_pos c] at hR
  simp -dsimp -implicitDefEqProofs [-getElem?_pos, go_sem, hP, c]
  refine callB_is ((parts_pf code hc).lift _ _) hP en_35 (by simp -dsimp -implicitDefEqProofs [-getElem?_pos, go_sem]) (imm_ints _) ?_
  obtain ⟨ps, hps⟩ : ∃ ps, ps = partsD code := ⟨_, rfl⟩
  have hcb : codeB code = decide (0 < ps.length) := by rw [hps]; rfl
  rw [← hps]
  cases hp : ps with
  | nil =>
    rw [hp] at hcb
    rw [hcb] at hR
    simp -dsimp -implicitDefEqProofs [-getElem?_pos, go_sem, hP, intsL]
    exact done_imm (imm_pair .sc .sc) (by rw [hR]; rfl)
  | cons p0 ps0 =>
  rw [hp, List.length_cons, decide_eq_true (by omega)] at hcb
  rw [hcb, if_pos rfl] at hR
  have d0 : decide ((ps0.length : Int) + 1 = 0) = false := decide_eq_false (by omega)
  have fl := flows_pf (yearW code y) 47 [.iref [.sc (.string code)], .iref [iv y]] l hf (by omega) en_47 (by simp [imm_iref, imm_sc]) (fun t ht d => tyear1_pf t d code y (hf t ht) hc)
  have lf := flowsD_len (yearW code y) l
  have am := flowsD_amt (yearW code y) l
  obtain ⟨fs, hfs⟩ : ∃ fs, fs = flowsD (yearW code y) l := ⟨_, rfl⟩
  rw [← hfs] at fl lf hR am
  simp -dsimp -implicitDefEqProofs [-getElem?_pos, go_sem, hP, intsL, d0]
  refine callB_frz (fl.lift _ _) hP hW en_45 (args_imm it (args_fnc (cs := [.ref 0 0 0, .ref 1 0 0]) (by simp -dsimp -implicitDefEqProofs [-getElem?_pos, go_sem, viewR_ref]) (by simp [imm_iref, imm_sc]) (args_nil.2 trivial))) (imm_flows _) ?_
  simp -dsimp -implicitDefEqProofs [-getElem?_pos, go_sem, hP]
  obtain ⟨I, hI⟩ : ∃ I : Nat → St → Prop, I = fun m s => ∃ k : Nat, k ≤ fs.length ∧ m = fs.length - k ∧ s.t 9 = iv (sumA (fs.take k)) ∧ s.t 23 = flowsL fs ∧ s.t 24 = iv fs.length ∧ s.t 25 = iv k := ⟨_, rfl⟩
  refine aloop0 I (fs.length) (by rw [hN]; rfl) ?_ ?_
  · rw [hI]
    exact ⟨0, by omega, by omega, by simp -dsimp -implicitDefEqProofs [-getElem?_pos, go_sem, sumA], by simp -dsimp -implicitDefEqProofs [-getElem?_pos, go_sem], by simp -dsimp -implicitDefEqProofs [-getElem?_pos, go_sem], by simp -dsimp -implicitDefEqProofs [-getElem?_pos, go_sem]⟩
  intro m s hs'
  rw [hI] at hs'
  obtain ⟨k, hk, hm, t9, t23, t24, t25⟩ := hs'
  subst hm
  simp -dsimp -implicitDefEqProofs [-getElem?_pos, go_sem, hP, t24, t25]
  refine condP (fun h => ?_) (fun h => ?_)
  · have hk : k < fs.length := by simpa using h
    obtain ⟨x, hx⟩ : ∃ x, fs[k]? = some x := ⟨_, List.getElem?_eq_getElem hk⟩
    have wk := wrap_in ((k : Int) + 1) (by omega)
    have tk : fs.take (k + 1) = fs.take k ++ [x] := takeAt hx
    have b1 := sumA_bd (fs.take k) fun z hz => am z (List.mem_of_mem_take hz)
    have b2 := am x (List.mem_of_getElem? hx)
    rw [List.length_take] at b1
    have ws := wrap_in (sumA (fs.take k) + x.Amount) (by omega)
    simp -dsimp -implicitDefEqProofs [-getElem?_pos, go_sem, hP, t23, t25, hx, cFl, t9, ws, wk]
    refine ⟨fs.length - (k + 1), by omega, ?_⟩
    rw [hI]
    exact ⟨k + 1, by omega, rfl, by simp -dsimp -implicitDefEqProofs [-getElem?_pos, go_sem, tk, sumA_snoc], by simp -dsimp -implicitDefEqProofs [-getElem?_pos, go_sem, t23], by simp -dsimp -implicitDefEqProofs [-getElem?_pos, go_sem, t24], by simp -dsimp -implicitDefEqProofs [-getElem?_pos, go_sem]⟩
  · have hk : k = fs.length := by
      have : ¬ k < fs.length := by simpa using h
      omega
    subst hk
    rw [List.take_length] at t9
    simp -dsimp -implicitDefEqProofs [-getElem?_pos, go_sem, hP, t9]
    exact done_imm (imm_pair .sc .sc) (by rw [hR])

/-! ### Claims -/
abbrev claimsL (l : List TClaim) : AV := .list 6 (encL TClaim.cells l)
theorem imm_claims (l : List TClaim) : Imm (claimsL l) := imm_encL _ TClaim.imm l
theorem cCl (x : TClaim) : x.cells = [iv x.ID, iv x.Payer, iv x.Amount, iv x.Open, iv x.Day, .sc (.string x.Code)] := rfl
def clm (l : List TTax) (first : Int) (i : Nat) (x : TFlow) : TClaim := ⟨first + i, (l[x.Ref.toNat]?.getD default).Payer, x.Amount, x.Amount, x.Day, (l[x.Ref.toNat]?.getD default).Code⟩
def claimsD (l : List TTax) (a b first : Int) : List TClaim × Int := if (expectedD l a b).2 = 0 then (if (expectedD l a b).1.length ≤ 60 then (if btw first 1 999940 then ((expectedD l a b).1.mapIdx (clm l first), 0) else ([], 2)) else ([], 3)) else ([], (expectedD l a b).2)

theorem expected_mem {l : List TTax} {a b : Int} {x : TFlow} (h : x ∈ (expectedD l a b).1) : ∃ (j : Nat) (t : TTax), l[j]? = some t ∧ ∃ d, d ∈ daysD t ∧ 0 < amountD t ∧ btw d a b = true ∧ x = ⟨d, amountD t, 3, (j : Int)⟩ := by
  unfold expectedD at h
  split at h
  · split at h
    · exact mem_flowsD h
    · cases h
  · cases h

set_option maxHeartbeats 1000000 in
theorem tclaims_pf (l : List TTax) (hf : FitT l) (hl : l.length ≤ 1000000) (a b first : Int) : PFun Tryz.prog none none 24 [taxesL l, iv a, iv b, iv first] (· = .tup [claimsL (claimsD l a b first).1, iv (claimsD l a b first).2]) := by
  refine pfun_intro Tryz.func24 rfl (by simp [Tryz.f24]) (by kernel_rfl) ?_
  intro E hP hr hs hW hN
  have it := imm_taxes l
  have ex := texpected_pf l hf hl a b
  have mem : ∀ x, x ∈ (expectedD l a b).1 → _ := fun x hx => expected_mem hx
  obtain ⟨R, hR⟩ : ∃ R, R = claimsD l a b first := ⟨_, rfl⟩
  rw [← hR]
  rw [claimsD] at hR
  obtain ⟨fs, hfs⟩ : ∃ fs, fs = (expectedD l a b).1 := ⟨_, rfl⟩
  obtain ⟨e, he⟩ : ∃ e, e = (expectedD l a b).2 := ⟨_, rfl⟩
  rw [← hfs, ← he] at hR ex
  rw [← hfs] at mem
  simp -dsimp -implicitDefEqProofs [-getElem?_pos, go_sem, hP]
  refine callB_is (ex.lift _ _) hP en_22 (by simpa [imm_sc] using it) (imm_pair (imm_flows _) .sc) ?_
  by_cases c : e = 0
  rotate_left
  · rw [if_neg c] at hR
    have d := decide_eq_false c
    simp -dsimp -implicitDefEqProofs [-getElem?_pos, go_sem, hP, d]
    exact done_nil2 6 (by rw [hR]; rfl)
  rw [if_pos c] at hR
  by_cases h4 : fs.length ≤ 60
  rotate_left
  · have d : decide ((60 : Int) < (fs.length : Int)) = true := decide_eq_true (by omega)
    rw [if_neg h4] at hR
    simp -dsimp -implicitDefEqProofs [-getElem?_pos, go_sem, hP, c, d]
    exact done_nil2 6 (by rw [hR]; rfl)
  have d : decide ((60 : Int) < (fs.length : Int)) = false := decide_eq_false (by omega)
  rw [if_pos h4] at hR
  simp -dsimp -implicitDefEqProofs [-getElem?_pos, go_sem, hP, c, d]
  refine callB_pure (tamong_pf first 1 999940) hP en_36 (args_same (by simp -dsimp -implicitDefEqProofs [-getElem?_pos, go_sem])) .sc ?_
  cases hb : btw first 1 999940
  · rw [hb, if_neg (by simp)] at hR
    simp -dsimp -implicitDefEqProofs [-getElem?_pos, go_sem, hP]
    exact done_nil2 6 (by rw [hR]; rfl)
  rw [hb, if_pos rfl] at hR
  have bf := btw_iff.1 hb
  simp -dsimp -implicitDefEqProofs [-getElem?_pos, go_sem, hP]
  refine aloop_own 12 73 6 (by simp -dsimp -implicitDefEqProofs [-getElem?_pos, go_sem]) ?_
  obtain ⟨I, hI⟩ : ∃ I : Nat → St → Prop, I = fun m s => ∃ k id : Nat, k ≤ fs.length ∧ m = fs.length - k ∧ s.t 0 = taxesL l ∧ s.t 3 = iv first ∧ s.t 12 = .sref id 0 ((fs.take k).mapIdx (clm l first)).length ∧ s.t 35 = flowsL fs ∧ s.t 36 = iv fs.length ∧ s.t 37 = iv k ∧ s.H[id]? = some (some ⟨73, 6, encL TClaim.cells ((fs.take k).mapIdx (clm l first))⟩) := ⟨_, rfl⟩
  refine aloop0 I (fs.length) (by rw [hN]; rfl) ?_ ?_
  · rw [hI]
    exact ⟨0, 0, by omega, by omega, by simp -dsimp -implicitDefEqProofs [-getElem?_pos, go_sem], by simp -dsimp -implicitDefEqProofs [-getElem?_pos, go_sem], by simp -dsimp -implicitDefEqProofs [-getElem?_pos, go_sem], by simp -dsimp -implicitDefEqProofs [-getElem?_pos, go_sem], by simp -dsimp -implicitDefEqProofs [-getElem?_pos, go_sem], by simp -dsimp -implicitDefEqProofs [-getElem?_pos, go_sem], by simp -dsimp -implicitDefEqProofs [-getElem?_pos, go_sem, encL]⟩
  intro m s hs'
  rw [hI] at hs'
  obtain ⟨k, id, hk, hm, t0, t3, t12, t35, t36, t37, hH⟩ := hs'
  have ltH := (List.getElem?_eq_some_iff.1 hH).1
  subst hm
  simp -dsimp -implicitDefEqProofs [-getElem?_pos, go_sem, hP, t36, t37]
  refine condP (fun h => ?_) (fun h => ?_)
  · have hk : k < fs.length := by simpa using h
    obtain ⟨x, hx⟩ : ∃ x, fs[k]? = some x := ⟨_, List.getElem?_eq_getElem hk⟩
    have wk := wrap_in ((k : Int) + 1) (by omega)
    have wf := wrap_in (first + k) (by omega)
    have tk : (fs.take (k + 1)).mapIdx (clm l first) = (fs.take k).mapIdx (clm l first) ++ [clm l first k x] := by
      rw [takeAt hx, List.mapIdx_concat, List.length_take, Nat.min_eq_left (by omega)]
    obtain ⟨j, t, ht, d, _, _, _, ex⟩ := mem x (List.mem_of_getElem? hx)
    have r1 : x.Ref = (j : Int) := by rw [ex]
    have ec : clm l first k x = ⟨first + k, t.Payer, x.Amount, x.Amount, x.Day, t.Code⟩ := by
      rw [clm, r1, Int.toNat_natCast, ht]
      rfl
    rw [ec] at tk
    obtain ⟨cur, hcur⟩ : ∃ cur, cur = (fs.take k).mapIdx (clm l first) := ⟨_, rfl⟩
    have lcur : cur.length = k := by rw [hcur, List.length_mapIdx, List.length_take, Nat.min_eq_left (by omega)]
    rw [← hcur] at t12 hH tk
    simp -dsimp -implicitDefEqProofs [-getElem?_pos, go_sem, hP, t35, t37, hx, cFl, t0, r1, ht, cTx, t12, t3, wf, hH, ltH, wk, cCl]
    refine ⟨by omega, by omega, fs.length - (k + 1), by omega, ?_⟩
    rw [hI]
    exact ⟨k + 1, s.H.length + 2, by omega, rfl, by simp -dsimp -implicitDefEqProofs [-getElem?_pos, go_sem, t0], by simp -dsimp -implicitDefEqProofs [-getElem?_pos, go_sem, t3], by rw [tk]; simp -dsimp -implicitDefEqProofs [-getElem?_pos, go_sem], by simp -dsimp -implicitDefEqProofs [-getElem?_pos, go_sem, t35], by simp -dsimp -implicitDefEqProofs [-getElem?_pos, go_sem, t36], by simp -dsimp -implicitDefEqProofs [-getElem?_pos, go_sem], by rw [tk]; simp -dsimp -implicitDefEqProofs [-getElem?_pos, go_sem, encL, cCl]⟩
  · have hk : k = fs.length := by
      have : ¬ k < fs.length := by simpa using h
      omega
    subst hk
    rw [List.take_length] at t12 hH
    obtain ⟨cs, hcs⟩ : ∃ cs, cs = fs.mapIdx (clm l first) := ⟨_, rfl⟩
    rw [← hcs] at t12 hH hR
    simp -dsimp -implicitDefEqProofs [-getElem?_pos, go_sem, hP, t12]
    have ic := imm_claims cs
    refine done (x := .tup [claimsL cs, iv 0]) ?_ (by rw [hR]) ?_
    · simp [go_sem, hH, encL]
      exact fun x _ c hc => x.imm c hc
    · simp [go_sem, hH, encL]

theorem listEq_pf_flows28 (a b : List TFlow) (ha : a.length ≤ 100000) (hb : b.length ≤ 100000) :
    PFun Tryz.prog none none 26 [.list 4 (encL TFlow.cells a), .list 4 (encL TFlow.cells b)] (· = bv (decide (a = b))) := by
  refine pfun_intro Tryz.func26 rfl (by simp [Tryz.f26]) (by kernel_rfl) ?_
  intro E hP hr hs hW hN
  by_cases hlen : a.length = b.length
  rotate_left
  · have hne : ¬ a = b := fun h => hlen (by rw [h])
    have hl : decide ((a.length : Int) = (b.length : Int)) = false := by simp; omega
    simp -dsimp -implicitDefEqProofs [-getElem?_pos, go_sem, hP, hl, hne]
  have hl : decide ((a.length : Int) = (b.length : Int)) = true := by simp; omega
  simp -dsimp -implicitDefEqProofs [-getElem?_pos, go_sem, hP, hl]
  obtain ⟨I, hI⟩ : ∃ I : Nat → St → Prop, I = fun m s => ∃ k : Nat, k ≤ a.length ∧ m = a.length - k ∧ s.t 0 = .list 4 (encL TFlow.cells a) ∧ s.t 1 = .list 4 (encL TFlow.cells b) ∧ s.t 12 = iv a.length ∧ s.t 13 = iv k ∧ a.take k = b.take k := ⟨_, rfl⟩
  refine aloop0 I (a.length) (by rw [hN]; rfl) ?_ ?_
  · rw [hI]
    exact ⟨0, by omega, by omega, by simp -dsimp -implicitDefEqProofs [-getElem?_pos, go_sem], by simp -dsimp -implicitDefEqProofs [-getElem?_pos, go_sem], by simp -dsimp -implicitDefEqProofs [-getElem?_pos, go_sem], by simp -dsimp -implicitDefEqProofs [-getElem?_pos, go_sem], by simp⟩
  intro m s hs'
  rw [hI] at hs'
  obtain ⟨k, hk, hm, t0, t1, t12, t13, heq⟩ := hs'
  simp -dsimp -implicitDefEqProofs [-getElem?_pos, go_sem, hP, t12, t13]
  refine condP (fun h => ?_) (fun h => ?_)
  · have hk : k < a.length := by simpa using h
    obtain ⟨x, hx⟩ : ∃ x, a[k]? = some x := ⟨_, List.getElem?_eq_getElem hk⟩
    obtain ⟨y, hy⟩ : ∃ y, b[k]? = some y := ⟨_, List.getElem?_eq_getElem (by omega)⟩
    have wk := wrap_in ((k : Int) + 1) (by omega)
    have tx : a.take (k + 1) = a.take k ++ [x] := by rw [List.take_add_one, hx]; rfl
    have ty : b.take (k + 1) = b.take k ++ [y] := by rw [List.take_add_one, hy]; rfl
    simp -dsimp -implicitDefEqProofs [-getElem?_pos, go_sem, hP, t13]
    refine adrawB (fun _ => true) [] hP (by kernel_rfl) (by kernel_rfl) ?_
    by_cases hxy : x = y
    · subst hxy
      simp -dsimp -implicitDefEqProofs [-getElem?_pos, go_sem, hP, t0, t1, hx, hy, TFlow.cells, t13, wk]
      refine ⟨a.length - (k + 1), by omega, ?_⟩
      rw [hI]
      exact ⟨k + 1, by omega, rfl, by simp -dsimp -implicitDefEqProofs [-getElem?_pos, go_sem, t0], by simp -dsimp -implicitDefEqProofs [-getElem?_pos, go_sem, t1], by simp -dsimp -implicitDefEqProofs [-getElem?_pos, go_sem, t12], by simp -dsimp -implicitDefEqProofs [-getElem?_pos, go_sem], by rw [tx, ty, heq]⟩
    · have hne : ¬ a = b := fun h => by
        subst h
        rw [hx] at hy
        exact hxy (Option.some.inj hy)
      simp -dsimp -implicitDefEqProofs [-getElem?_pos, go_sem, hP, t0, t1, hx, hy, TFlow.cells, t13, wk]
      refine condP (fun h => ?_) (fun h => ?_)
      · simp -dsimp -implicitDefEqProofs [-getElem?_pos, go_sem, hP, hne]
      · exact absurd (by cases x; cases y; simp at h; simp [h]) hxy
  · have hk : k = a.length := by simp at h; omega
    subst hk
    rw [List.take_length] at heq
    rw [hlen, List.take_length] at heq
    simp -dsimp -implicitDefEqProofs [-getElem?_pos, go_sem, hP, heq]

end Go.Proofs.YtabdihohphlheaaGreatDoor
