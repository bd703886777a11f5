/- Strips: one security over its whole life. Plain laws. -/
import Derived.Test.YtkcfmmpcpdlfeaaGreatDoorStr1
set_option linter.unusedSimpArgs false
set_option linter.unusedVariables false
namespace Go.Proofs.YtkcfmmpcpdlfeaaGreatDoor
open Go.PA
open Go.RowKit

/-- The security of the law. -/
def bS (m : Nat) (rate : Int) : TSecurity := ⟨1, 100, 0, 180 * (m : Int), rate, 6, false⟩
structure BOk (m : Nat) (rate : Int) : Prop where
  m : 1 ≤ m ∧ m ≤ 4
  rate : rate = 0 ∨ rate = 2500 ∨ rate = 5000
def dayL (m : Nat) : List Int := (List.range m).map fun i : Nat => 180 * ((i : Int) + 1)
theorem days_bS {m : Nat} {rate : Int} (h : BOk m rate) : daysS (bS m rate) = dayL m := by
  unfold daysS bS dayL
  dsimp only
  rw [if_neg (by omega), show ((180 * (m : Int) - 0) / (30 * 6)).toNat = m by omega]
  refine List.map_congr_left fun i _ => by omega
theorem sec_bS {m : Nat} {rate : Int} (h : BOk m rate) : secB (bS m rate) = true := by
  have := h.m
  have hr := h.rate
  unfold secB bS
  dsimp only
  rw [if_neg (by omega), if_pos (by omega), Bool.and_eq_true]
  refine ⟨decide_eq_true ?_, decide_eq_true (by omega)⟩
  have e : min ((0 : Int) + 18000) 35990 = 18000 := by omega
  rw [e]
  omega
def notStr (x : THolding) : Bool := !decide (x.Holder = 1000)
structure RegS (b : TSecurity) (r : TRegister) (T S : Int) (j : Nat) : Prop where
  ok : RegOk r 0
  secs : r.Securities = [b]
  sec : ∀ x, x ∈ r.Holdings → x.Security = 1
  tot : outH r.Holdings 1 = T
  str : heldH r.Holdings 1 1000 = S
  day : ∀ m, m ∈ r.Moves → m.Day = 0
  mv : r.Moves.length = j
  cnt : cntQ notStr r.Holdings ≤ j
theorem sec_setH {l : List THolding} {id h n : Int} (hl : ∀ x, x ∈ l → x.Security = id) : ∀ x, x ∈ setH l id h n → x.Security = id := by
  intro x hx
  rcases mem_setK hx with hx | ⟨_, rfl⟩ | ⟨_, _, _, _, rfl⟩
  · exact hl x hx
  · rfl
  · rfl
theorem cnt_setH (l : List THolding) (id h n : Int) : cntQ notStr (setH l id h n) ≤ cntQ notStr l + if h = 1000 then 0 else 1 := by
  have := cntQ_setK (lt := hLt id h) (is := hIs id h) (mk := hMk id h) (am := hAm) notStr (!decide (h = 1000)) (fun _ => rfl) (fun x hx => by rw [hIs_iff] at hx; unfold notStr; rw [hx.2]) l n
  unfold setH
  by_cases e : h = 1000
  · simp [e] at this ⊢; exact this
  · simp [e] at this ⊢; exact this
theorem find_one {b : TSecurity} (hb : b.ID = 1) : findS [b] 1 = some b := by simp [findS, hb]
theorem regS_issue {m : Nat} {rate : Int} (hb : BOk m rate) {r : TRegister} {T S : Int} {j : Nat} (h : RegS (bS m rate) r T S j) {hd n : Int} (hh : 1 ≤ hd ∧ hd ≤ 3) (hn : 0 < n ∧ n % 100 = 0) (ht : T + n ≤ 1000000000000) (hj : j < 400) :
    MoveOk r.Securities r.Holdings 0 ⟨(j : Int) + 1, 0, 1, 1, 0, hd, n⟩ (bS m rate) ∧ RegS (bS m rate) (moved r ⟨(j : Int) + 1, 0, 1, 1, 0, hd, n⟩) (T + n) S (j + 1) := by
  have hp : 0 ≤ T := by
    rw [← h.tot]
    exact (sumQ_le _ _ _ h.ok.run.ok.pos).1
  have hm := hb.m
  have ok : MoveOk r.Securities r.Holdings 0 ⟨(j : Int) + 1, 0, 1, 1, 0, hd, n⟩ (bS m rate) := by
    refine ⟨by rw [h.secs]; exact find_one rfl, ?_, ?_, ?_, fun e => absurd rfl e, fun _ => ?_⟩
    · unfold bS
      dsimp only
      rw [if_neg (by omega)]
      omega
    · unfold bS
      dsimp only
      omega
    · simp [strangeB, holderB]
      omega
    · dsimp only
      rw [h.tot]
      exact ht
  refine ⟨ok, regOk_move h.ok ok (by rw [h.mv]) (by dsimp only; omega) (by rw [h.mv]; exact hj), h.secs, ?_, ?_, ?_, ?_, ?_, ?_⟩
  all_goals unfold moved goH; dsimp only
  · rw [if_pos rfl, if_neg (by omega)]
    exact sec_setH h.sec
  · rw [if_pos rfl, if_neg (by omega), outH_setH, if_pos rfl, h.tot]
  · rw [if_pos rfl, if_neg (by omega), heldH_setH, if_neg (by omega), h.str]
    omega
  · intro x hx
    rcases List.mem_append.1 hx with hx | hx
    · exact h.day x hx
    · rw [List.mem_singleton.1 hx]
  · rw [List.length_append, h.mv]; rfl
  · rw [if_pos rfl, if_neg (by omega)]
    have := cnt_setH r.Holdings 1 hd n
    rw [if_neg (by omega)] at this
    have := h.cnt
    omega
theorem regS_split {m : Nat} {rate : Int} (hb : BOk m rate) {r : TRegister} {T S : Int} {j : Nat} (h : RegS (bS m rate) r T S j) {hd n : Int} (hh : 1 ≤ hd ∧ hd ≤ 3) (ok : MoveOk r.Securities r.Holdings 0 ⟨(j : Int) + 1, 0, 2, 1, hd, 1000, n⟩ (bS m rate)) (hj : j < 400) :
    RegS (bS m rate) (moved r ⟨(j : Int) + 1, 0, 2, 1, hd, 1000, n⟩) T (S + n) (j + 1) := by
  refine ⟨regOk_move h.ok ok (by rw [h.mv]) (by dsimp only; omega) (by rw [h.mv]; exact hj), h.secs, ?_, ?_, ?_, ?_, ?_, ?_⟩
  all_goals unfold moved goH; dsimp only
  · rw [if_neg (by omega), if_neg (by omega)]
    exact sec_setH (sec_setH h.sec)
  · rw [if_neg (by omega), if_neg (by omega), outH_setH, outH_setH, if_pos rfl, if_pos rfl, h.tot]
    omega
  · rw [if_neg (by omega), if_neg (by omega), heldH_setH, heldH_setH, if_pos (show (1 : Int) = 1 ∧ (1000 : Int) = 1000 by omega), if_neg (show ¬ ((1 : Int) = 1 ∧ hd = 1000) by omega), h.str]
    omega
  · intro x hx
    rcases List.mem_append.1 hx with hx | hx
    · exact h.day x hx
    · rw [List.mem_singleton.1 hx]
  · rw [List.length_append, h.mv]; rfl
  · rw [if_neg (by omega), if_neg (by omega)]
    have h1 := cnt_setH r.Holdings 1 hd (-n)
    have h2 := cnt_setH (setH r.Holdings 1 hd (-n)) 1 1000 n
    rw [if_neg (by omega)] at h1
    rw [if_pos rfl] at h2
    have := h.cnt
    omega
/-- What is stripped, taken away at the end. -/
theorem regS_redeem {m : Nat} {rate : Int} (hb : BOk m rate) {r : TRegister} {T S : Int} {j : Nat} (h : RegS (bS m rate) r T S j) (hS : 0 < S ∧ S % 100 = 0 ∧ S ≤ 1000000000000) (hj : j < 400) :
    MoveOk r.Securities r.Holdings 0 ⟨(j : Int) + 1, 180 * (m : Int), 3, 1, 1000, 0, S⟩ (bS m rate) ∧ RegOk (moved r ⟨(j : Int) + 1, 180 * (m : Int), 3, 1, 1000, 0, S⟩) (180 * (m : Int)) ∧ (moved r ⟨(j : Int) + 1, 180 * (m : Int), 3, 1, 1000, 0, S⟩).Securities = [bS m rate] ∧ heldH (moved r ⟨(j : Int) + 1, 180 * (m : Int), 3, 1, 1000, 0, S⟩).Holdings 1 1000 = 0 := by
  have hm := hb.m
  have ok : MoveOk r.Securities r.Holdings 0 ⟨(j : Int) + 1, 180 * (m : Int), 3, 1, 1000, 0, S⟩ (bS m rate) := by
    refine ⟨by rw [h.secs]; exact find_one rfl, ?_, ?_, ?_, fun _ => ?_, fun e => absurd (show (1000 : Int) = 0 from e) (by omega)⟩
    · unfold bS
      dsimp only
      rw [if_pos rfl]
      omega
    · unfold bS
      dsimp only
      omega
    · simp [strangeB, holderB]
    · dsimp only
      rw [h.str]
      exact Int.le_refl _
  refine ⟨ok, regOk_move h.ok ok (by rw [h.mv]) (by dsimp only; omega) (by rw [h.mv]; exact hj), h.secs, ?_⟩
  unfold moved goH
  dsimp only
  rw [if_pos rfl, if_neg (show ¬ (1000 : Int) = 0 by omega), heldH_setH, if_pos (show (1 : Int) = 1 ∧ (1000 : Int) = 1000 by omega), h.str]
  omega

/-- The strips of a vault. -/
structure StrS (b : TSecurity) (l : List TStrip) (S : Int) (k : Nat) : Prop where
  srt : l.Pairwise sR
  el : ∀ x, x ∈ l → StripEl b x
  sums : ∀ d, d ∈ daysS b → sumS l 1 d false = S
  prin : sumS l 1 b.Maturity true = S
  cnt : ∀ d p, cntS l 1 d p ≤ k
  len : l.length ≤ 5 * k
theorem strS_nil (b : TSecurity) : StrS b [] 0 0 := ⟨by simp, by simp, fun _ _ => rfl, rfl, fun _ _ => Nat.le_refl _, by simp⟩
theorem parts_bS {m : Nat} {rate : Int} (hb : BOk m rate) (h : Int) : partsD (bS m rate) 0 h = (dayL m).map (fun d => ⟨1, d, false, h, 0⟩) ++ [⟨1, 180 * (m : Int), true, h, 0⟩] := by
  unfold partsD
  rw [days_bS hb, List.filter_eq_self.2]
  · rfl
  · intro d hd
    obtain ⟨i, _, rfl⟩ := List.mem_map.1 hd
    exact decide_eq_true (by omega)
theorem cnt_days (m : Nat) (h d : Int) : cntS ((dayL m).map fun d => (⟨1, d, false, h, 0⟩ : TStrip)) 1 d false = (dayL m).count d := by
  generalize dayL m = l
  induction l with
  | nil => rfl
  | cons x l ih =>
    unfold cntS at *
    rw [List.map_cons, cntQ_cons, ih, List.count_cons]
    by_cases e : x = d
    · simp [partQ, e]; omega
    · simp [partQ, e]
theorem cnt_daysT (m : Nat) (h d : Int) : cntS ((dayL m).map fun d => (⟨1, d, false, h, 0⟩ : TStrip)) 1 d true = 0 := by
  generalize dayL m = l
  induction l with
  | nil => rfl
  | cons x l ih =>
    unfold cntS at *
    rw [List.map_cons, cntQ_cons, ih]
    simp [partQ]
theorem dayL_nodup (m : Nat) : (dayL m).Nodup := by
  unfold dayL List.Nodup
  rw [List.pairwise_map]
  exact List.nodup_range.imp fun h => by omega
theorem cntS_app (a b : List TStrip) (id d : Int) (p : Bool) : cntS (a ++ b) id d p = cntS a id d p + cntS b id d p := by simp [cntS, cntQ]
theorem cnt_parts {m : Nat} {rate : Int} (hb : BOk m rate) (h d : Int) (p : Bool) : cntS (partsD (bS m rate) 0 h) 1 d p = if p = true then (if d = 180 * (m : Int) then 1 else 0) else (dayL m).count d := by
  rw [parts_bS hb, cntS_app]
  have e1 : cntS [(⟨1, 180 * (m : Int), true, h, 0⟩ : TStrip)] 1 d p = if p = true ∧ d = 180 * (m : Int) then 1 else 0 := by
    by_cases e : d = 180 * (m : Int)
    · cases p <;> simp [cntS, cntQ, partQ, e, List.filter_cons]
    · have e' : ¬ 180 * (m : Int) = d := fun h => e h.symm
      cases p <;> simp [cntS, cntQ, partQ, e, e', List.filter_cons]
  rw [e1]
  cases p
  · rw [cnt_days]; simp
  · rw [cnt_daysT]; simp
theorem strS_add {m : Nat} {rate : Int} (hb : BOk m rate) {l : List TStrip} {S : Int} {k : Nat} (h : StrS (bS m rate) l S k) {hd n : Int} (hh : 1 ≤ hd ∧ hd ≤ 3) (hn : 0 < n ∧ n % 100 = 0) : StrS (bS m rate) (addAll l (partsD (bS m rate) 0 hd) n) (S + n) (k + 1) := by
  have hm := hb.m
  refine ⟨srt_addAll _ _ h.srt, el_addAll hn _ _ (fun x hx => ?_) h.el, fun d hd' => ?_, ?_, fun d p => ?_, ?_⟩
  · rw [parts_bS hb] at hx
    rcases List.mem_append.1 hx with hx | hx
    · obtain ⟨d, h1, rfl⟩ := List.mem_map.1 hx
      exact ⟨rfl, by rw [days_bS hb]; simpa using h1, hh⟩
    · rw [List.mem_singleton.1 hx]
      exact ⟨rfl, by simp [bS], hh⟩
  · rw [sumS_addAll, h.sums d hd', cnt_parts hb]
    rw [days_bS hb] at hd'
    rw [if_neg (by decide), (dayL_nodup m).count, if_pos hd']
    omega
  · rw [sumS_addAll, h.prin, cnt_parts hb, if_pos rfl, if_pos (show (bS m rate).Maturity = 180 * (m : Int) from rfl)]
    omega
  · have h1 := cntS_addAll n 1 d p (partsD (bS m rate) 0 hd) l
    have h2 := h.cnt d p
    have h3 : cntS (partsD (bS m rate) 0 hd) 1 d p ≤ 1 := by
      rw [cnt_parts hb]
      split
      · split <;> omega
      · rw [(dayL_nodup m).count]
        split <;> omega
    omega
  · have h1 := len_addAll (n := n) (partsD (bS m rate) 0 hd) l
    have h2 := h.len
    have h3 : (partsD (bS m rate) 0 hd).length = m + 1 := by
      rw [parts_bS hb]
      simp [dayL]
    omega

/-! ### What is due -/
def valS (b : TSecurity) (x : TStrip) : Int := if x.Principal = true then x.Amount else coupD b x.Amount
/-- What is due on a day. -/
def pendD (b : TSecurity) (hs : List THolding) (ss : List TStrip) (day : Int) : Int := sumD ((hs.filter notStr).flatMap (dueH b day)) + ((ss.filter fun x => decide (x.Day = day)).map (valS b)).sum
theorem coup_near (b : TSecurity) (n : Int) : n * b.Rate * b.Every - 600000 ≤ 1200000 * coupD b n ∧ 1200000 * coupD b n ≤ n * b.Rate * b.Every + 600000 := by
  unfold coupD
  generalize n * b.Rate * b.Every = z
  omega
theorem coup_sum {α : Type} (b : TSecurity) (am : α → Int) : ∀ l : List α, (l.map am).sum * b.Rate * b.Every - 600000 * (l.length : Int) ≤ 1200000 * (l.map fun x => coupD b (am x)).sum ∧ 1200000 * (l.map fun x => coupD b (am x)).sum ≤ (l.map am).sum * b.Rate * b.Every + 600000 * (l.length : Int)
  | [] => by simp
  | x :: l => by
    have ih := coup_sum b am l
    have h := coup_near b (am x)
    simp only [List.map_cons, List.sum_cons, List.length_cons, Int.add_mul, Int.natCast_add, Int.natCast_one]
    omega
theorem sum_dueH (b : TSecurity) (day : Int) (x : THolding) : sumD (dueH b day x) = (if day ∈ daysS b then coupD b x.Amount else 0) + if day = b.Maturity then x.Amount else 0 := by
  unfold dueH
  rw [sumD_append]
  congr 1
  · by_cases h : day ∈ daysS b
    · by_cases h0 : coupD b x.Amount = 0
      · simp [h, h0, sumD]
      · simp [h, h0, sumD]
    · simp [h, sumD]
  · split <;> simp [sumD]
theorem sum_dues (b : TSecurity) (day : Int) (hd : day ∈ daysS b) : ∀ l : List THolding, sumD (l.flatMap (dueH b day)) = (l.map fun x => coupD b x.Amount).sum + if day = b.Maturity then (l.map hAm).sum else 0
  | [] => by simp [sumD]
  | x :: l => by
    rw [List.flatMap_cons, sumD_append, sum_dues b day hd l, sum_dueH, if_pos hd]
    simp only [List.map_cons, List.sum_cons]
    unfold hAm
    split <;> omega
theorem sum_notStr (l : List THolding) (h : ∀ x, x ∈ l → x.Security = 1) : ((l.filter notStr).map hAm).sum = outH l 1 - heldH l 1 1000 := by
  induction l with
  | nil => rfl
  | cons x l ih =>
    have ih := ih fun y hy => h y (by simp [hy])
    have hx := h x (by simp)
    unfold outH heldH at *
    rw [sumQ_cons, sumQ_cons, if_pos (by simp [secQ, hx])]
    by_cases e : x.Holder = 1000
    · rw [List.filter_cons_of_neg (by simp [notStr, e]), if_pos (by simp [hIs, hx, e]), ih]
      omega
    · rw [List.filter_cons_of_pos (by simp [notStr, e]), if_neg (by simp [hIs, hx, e]), List.map_cons, List.sum_cons, ih]
      omega
theorem sum_valS (b : TSecurity) (day : Int) : ∀ l : List TStrip, (∀ x, x ∈ l → x.Security = 1) → ((l.filter fun x => decide (x.Day = day)).map (valS b)).sum = ((l.filter (partQ 1 day false)).map fun x => coupD b (sAm x)).sum + sumS l 1 day true
  | [], _ => rfl
  | x :: l, h => by
    have ih := sum_valS b day l fun y hy => h y (by simp [hy])
    have hx := h x (by simp)
    unfold sumS at *
    rw [sumQ_cons]
    by_cases e : x.Day = day
    · rw [List.filter_cons_of_pos (by simp [e]), List.map_cons, List.sum_cons, ih]
      cases hp : x.Principal with
      | true =>
        rw [List.filter_cons_of_neg (by simp [partQ, hp]), if_pos (by simp [partQ, hx, e, hp])]
        simp only [valS, hp, if_true, sAm]
        omega
      | false =>
        rw [List.filter_cons_of_pos (by simp [partQ, hx, e, hp]), if_neg (by simp [partQ, hp]), List.map_cons, List.sum_cons]
        simp only [valS, hp, sAm]
        simp
        omega
    · rw [List.filter_cons_of_neg (by simp [e]), ih, List.filter_cons_of_neg (by simp [partQ, e]), if_neg (by simp [partQ, e])]
      omega
/-- Close to what is due without strips. -/
theorem pend_near {m : Nat} {rate : Int} (hb : BOk m rate) {r : TRegister} {ss : List TStrip} {T S : Int} {j k : Nat} (hr : RegS (bS m rate) r T S j) (hs : StrS (bS m rate) ss S k) {day : Int} (hd : day ∈ daysS (bS m rate)) :
    T * rate * 6 + (if day = 180 * (m : Int) then 1200000 * T else 0) - 600000 * ((j : Int) + k) ≤ 1200000 * pendD (bS m rate) r.Holdings ss day ∧ 1200000 * pendD (bS m rate) r.Holdings ss day ≤ T * rate * 6 + (if day = 180 * (m : Int) then 1200000 * T else 0) + 600000 * ((j : Int) + k) := by
  unfold pendD
  rw [sum_dues _ _ hd, sum_valS _ _ _ fun x hx => (hs.el x hx).sec]
  have h1 := coup_sum (bS m rate) (fun x : THolding => x.Amount) (r.Holdings.filter notStr)
  have h2 := coup_sum (bS m rate) sAm (ss.filter (partQ 1 day false))
  have h3 := sum_notStr r.Holdings hr.sec
  have h4 : ((ss.filter (partQ 1 day false)).map sAm).sum = S := hs.sums day hd
  have h5 := hs.cnt day false
  have h6 := hr.cnt
  have h7 : (if day = (bS m rate).Maturity then ((r.Holdings.filter notStr).map hAm).sum else 0) + sumS ss 1 day true = if day = 180 * (m : Int) then T else 0 := by
    have hM : (bS m rate).Maturity = 180 * (m : Int) := rfl
    rw [hM]
    by_cases e : day = 180 * (m : Int)
    · rw [if_pos e, if_pos e, h3, hr.tot, hr.str]
      have := hs.prin
      rw [hM, ← e] at this
      omega
    · rw [if_neg e, if_neg e]
      have : sumS ss 1 day true = 0 := sumQ_none _ _ _ fun x hx => by
        cases hp : partQ 1 day true x with
        | false => rfl
        | true =>
          exfalso
          simp only [partQ, decide_eq_true_eq] at hp
          have := (hs.el x hx).day
          rw [if_pos hp.2.2, hM, hp.2.1] at this
          exact e this
      omega
  have e1 : ((r.Holdings.filter notStr).map fun x : THolding => x.Amount).sum = T - S := by
    rw [← hr.tot, ← hr.str]
    exact h3
  rw [e1] at h1
  rw [h4] at h2
  unfold cntS at h5
  unfold cntQ at h5 h6
  have e2 : (bS m rate).Rate = rate := rfl
  have e3 : (bS m rate).Every = 6 := rfl
  rw [e2, e3] at h1 h2
  have e4 : (T - S) * rate * 6 = T * rate * 6 - S * rate * 6 := by rw [Int.sub_mul, Int.sub_mul]
  rw [e4] at h1
  generalize ((r.Holdings.filter notStr).map fun x : THolding => coupD (bS m rate) x.Amount).sum = A at *
  generalize ((ss.filter (partQ 1 day false)).map fun x => coupD (bS m rate) (sAm x)).sum = B at *
  generalize (if day = (bS m rate).Maturity then ((r.Holdings.filter notStr).map hAm).sum else 0) = C at *
  generalize sumS ss 1 day true = D at *
  generalize T * rate * 6 = X at *
  generalize S * rate * 6 = Y at *
  by_cases e : day = 180 * (m : Int)
  · rw [if_pos e] at h7 ⊢
    omega
  · rw [if_neg e] at h7 ⊢
    omega
end Go.Proofs.YtkcfmmpcpdlfeaaGreatDoor
