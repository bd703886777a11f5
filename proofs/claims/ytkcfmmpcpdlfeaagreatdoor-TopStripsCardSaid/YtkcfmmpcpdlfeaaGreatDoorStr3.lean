/- Strips: the state of the law. -/
import Derived.Test.YtkcfmmpcpdlfeaaGreatDoorStp10
set_option linter.unusedSimpArgs false
set_option linter.unusedVariables false
namespace Go.Proofs.YtkcfmmpcpdlfeaaGreatDoor
open Go.PA
open Go.RowKit

theorem bS_ok {m : Nat} {rate : Int} (h : BOk m rate) : BS (bS m rate) := ⟨sec_bS h, by unfold bS; dsimp only; omega⟩
theorem cnt_day (day : Int) : ∀ l : List TStrip, (∀ x, x ∈ l → x.Security = 1) → cntQ (fun x => decide (x.Day = day)) l = cntS l 1 day false + cntS l 1 day true
  | [], _ => rfl
  | x :: l, h => by
    have ih := cnt_day day l fun y hy => h y (by simp [hy])
    have hx := h x (by simp)
    unfold cntS at *
    rw [cntQ_cons, cntQ_cons, cntQ_cons, ih]
    by_cases e : x.Day = day
    · cases hp : x.Principal <;> simp [partQ, hx, e, hp] <;> omega
    · simp [partQ, e]
theorem regS_hold {m : Nat} {rate : Int} {r : TRegister} {T S : Int} {j : Nat} (h : RegS (bS m rate) r T S j) {x : THolding} (hx : x ∈ r.Holdings) : x.Security = 1 ∧ 0 < x.Amount ∧ x.Amount ≤ T := by
  have h1 := h.sec x hx
  have h2 := h.ok.hl.pos x hx
  have h3 := (sumQ_le (secQ 1) hAm r.Holdings h.ok.hl.pos).2 x hx (by simp [secQ, h1])
  have h4 := h.tot
  unfold outH at h4
  rw [h4] at h3
  exact ⟨h1, h2, h3⟩
theorem regS_noStr {m : Nat} {rate : Int} {r : TRegister} {T : Int} {j : Nat} (h : RegS (bS m rate) r T 0 j) : ∀ x, x ∈ r.Holdings → x.Holder ≠ 1000 := by
  intro x hx e
  have h1 := h.sec x hx
  have h2 := h.ok.hl.pos x hx
  have h3 := (sumQ_le (hIs 1 1000) hAm r.Holdings h.ok.hl.pos).2 x hx (by simp [hIs, h1, e])
  have h4 := h.str
  unfold heldH at h4
  rw [h4] at h3
  unfold hAm at h3
  omega
/-- The vault of the law, behind k splits. -/
structure VS (m : Nat) (rate : Int) (v : TVault) (T S : Int) (k : Nat) : Prop where
  reg : RegS (bS m rate) v.Register T S (3 + k)
  str : StrS (bS m rate) v.Strips S k
  k3 : k ≤ 3
  s : 0 ≤ S ∧ S ≤ 500 * k ∧ S % 100 = 0
  t : 0 ≤ T ∧ T ≤ 6000
theorem VS.vok {m : Nat} {rate : Int} {v : TVault} {T S : Int} {k : Nat} (h : VS m rate v T S k) : VOk (bS m rate) v S 0 := by
  have h3 := h.k3
  have hs := h.s
  have hl := h.str.len
  exact ⟨h.reg.ok, h.reg.secs, h.reg.str, h.str.srt, h.str.el, h.str.sums, h.str.prin, by omega, by omega⟩
theorem day_bnd {m : Nat} {rate : Int} (hb : BOk m rate) {day : Int} (hd : day ∈ daysS (bS m rate)) : 180 ≤ day ∧ day ≤ 720 := by
  rw [days_bS hb] at hd
  obtain ⟨i, hi, rfl⟩ := List.mem_map.1 hd
  have := List.mem_range.1 hi
  have := hb.m
  omega
theorem rate_bnd {m : Nat} {rate : Int} (hb : BOk m rate) {T : Int} (ht : 0 ≤ T ∧ T ≤ 6000) : 0 ≤ T * rate * 6 ∧ T * rate * 6 ≤ 6000 * 5000 * 6 := by
  rcases hb.rate with e | e | e <;> rw [e] <;> omega
theorem pend_bnd {m : Nat} {rate : Int} (hb : BOk m rate) {v : TVault} {T S : Int} {k : Nat} (h : VS m rate v T S k) {day : Int} (hd : day ∈ daysS (bS m rate)) : pendD (bS m rate) v.Register.Holdings v.Strips day ≤ 20000 := by
  have h1 := (pend_near hb h.reg h.str hd).2
  have h2 := rate_bnd hb h.t
  have h3 := h.k3
  have h4 := h.t
  generalize pendD (bS m rate) v.Register.Holdings v.Strips day = A at *
  generalize T * rate * 6 = X at *
  split at h1 <;> omega
theorem VS.pend {m : Nat} {rate : Int} (hb : BOk m rate) {v : TVault} {T S : Int} {k : Nat} (h : VS m rate v T S k) {day : Int} (hd : day ∈ daysS (bS m rate)) : PendOk (bS m rate) v S 0 day := by
  have hdb := day_bnd hb hd
  have h3 := h.k3
  refine ⟨h.vok, rfl, fun x hx => ?_, fun x hx => ?_, by omega, ?_, ?_⟩
  · have := regS_hold h.reg hx
    have := h.t
    omega
  · rw [h.reg.day x hx]
    omega
  · rw [cnt_day day _ fun x hx => (h.str.el x hx).sec]
    have h1 := h.reg.cnt
    have h2 := h.str.cnt day false
    have h4 := h.str.cnt day true
    omega
  · have := pend_bnd hb h hd
    omega
/-- The difference of a day. -/
theorem pend_diff {m : Nat} {rate : Int} (hb : BOk m rate) {v w : TVault} {T S S' : Int} {k k' : Nat} (h : VS m rate v T S k) (h' : VS m rate w T S' k') {day : Int} (hd : day ∈ daysS (bS m rate)) : pendD (bS m rate) v.Register.Holdings v.Strips day - pendD (bS m rate) w.Register.Holdings w.Strips day ≤ 10 ∧ pendD (bS m rate) w.Register.Holdings w.Strips day - pendD (bS m rate) v.Register.Holdings v.Strips day ≤ 10 := by
  have h1 := pend_near hb h.reg h.str hd
  have h2 := pend_near hb h'.reg h'.str hd
  have h3 := h.k3
  have h4 := h'.k3
  generalize pendD (bS m rate) v.Register.Holdings v.Strips day = A at *
  generalize pendD (bS m rate) w.Register.Holdings w.Strips day = B at *
  generalize T * rate * 6 = X at *
  generalize (if day = 180 * (m : Int) then 1200000 * T else 0) = Y at *
  omega
theorem VS.split {m : Nat} {rate : Int} (hb : BOk m rate) {v : TVault} {T S : Int} {k : Nat} (h : VS m rate v T S k) (hk : k < 3) {hd z : Int} (hh : 1 ≤ hd ∧ hd ≤ 3) (hz : 1 ≤ z ∧ z ≤ 5) (he : moveE v.Register.Securities v.Register.Holdings 0 (splitM (bS m rate) v hd (100 * z)) = 0) : VS m rate ⟨moved v.Register (splitM (bS m rate) v hd (100 * z)), addAll v.Strips (allP (bS m rate) hd) (100 * z)⟩ T (S + 100 * z) (k + 1) := by
  obtain ⟨s, hm⟩ := moveE_ok he
  have es : s = bS m rate := by
    have := hm.sec
    rw [h.reg.secs] at this
    have e : findS [bS m rate] (splitM (bS m rate) v hd (100 * z)).Security = some (bS m rate) := find_one rfl
    rw [e] at this
    exact (Option.some.inj this).symm
  rw [es] at hm
  have em : splitM (bS m rate) v hd (100 * z) = ⟨((3 + k : Nat) : Int) + 1, 0, 2, 1, hd, 1000, 100 * z⟩ := by
    unfold splitM
    rw [h.reg.mv]
    rfl
  have hs := h.s
  rw [em] at hm ⊢
  refine ⟨regS_split hb h.reg hh hm (by omega), ?_, by omega, by omega, h.t⟩
  have := strS_add hb h.str hh (n := 100 * z) (by omega)
  rw [show partsD (bS m rate) 0 hd = allP (bS m rate) hd from parts_all (bS_ok hb) hd] at this
  exact this
/-- The end of the law. -/
theorem VS.pay {m : Nat} {rate : Int} (hb : BOk m rate) {v : TVault} {T S : Int} {k : Nat} (h : VS m rate v T S k) : (S ≠ 0 → moveE v.Register.Securities v.Register.Holdings 0 (payM (bS m rate) v S) = 0) ∧ ∃ d, VOk (bS m rate) ⟨payR (bS m rate) v S, []⟩ 0 d := by
  have hs := h.s
  have h3 := h.k3
  have pm : payM (bS m rate) v S = ⟨((3 + k : Nat) : Int) + 1, 180 * (m : Int), 3, 1, 1000, 0, S⟩ := by
    unfold payM
    rw [h.reg.mv]
    rfl
  have mk : ∀ (R : TRegister) (d : Int), RegOk R d → R.Securities = [bS m rate] → heldH R.Holdings 1 1000 = 0 → VOk (bS m rate) ⟨R, []⟩ 0 d := fun R d h1 h2 h4 => ⟨h1, h2, h4, by simp, by simp, fun _ _ => rfl, rfl, by simp, by omega⟩
  by_cases h0 : S = 0
  · refine ⟨fun e => absurd h0 e, 0, ?_⟩
    unfold payR
    rw [if_pos h0]
    exact mk _ _ h.reg.ok h.reg.secs (by rw [h.reg.str, h0])
  · obtain ⟨q1, q2, q3, q4⟩ := regS_redeem hb h.reg (by omega) (by omega)
    rw [← pm] at q1 q2 q3 q4
    refine ⟨fun _ => moveE_zero q1, 180 * (m : Int), ?_⟩
    unfold payR
    rw [if_neg h0]
    exact mk _ _ q2 q3 q4
end Go.Proofs.YtkcfmmpcpdlfeaaGreatDoor
