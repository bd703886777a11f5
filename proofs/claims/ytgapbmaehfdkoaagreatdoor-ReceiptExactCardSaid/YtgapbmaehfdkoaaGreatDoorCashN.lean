/- Receipts: nobody has loose money and an open claim at once; sums; refunds. Plain. -/
import Derived.Test.YtgapbmaehfdkoaaGreatDoorCashA
set_option linter.unusedSimpArgs false
set_option linter.unusedVariables false
namespace Go.Proofs.YtgapbmaehfdkoaaGreatDoor

def zeroL (d : TCash) (i : Nat) : Prop := d.Loose[i]? = some 0
def zeroC (d : TCash) (k : Nat) : Prop := ∀ z, d.Claims[k]? = some z → z.Open = 0
theorem Fall.zeroL {c d : TCash} (h : Fall c d) {i : Nat} (hz : zeroL c i) : zeroL d i := by
  obtain ⟨n, h1, h2, h3⟩ := h.lo i 0 hz
  have := h2 (Int.le_refl _)
  rw [Go.Proofs.YtgapbmaehfdkoaaGreatDoor.zeroL, h3]
  congr 1
  omega
theorem Fall.back {c d : TCash} (h : Fall c d) {k : Nat} {z : TClaim} (hz : d.Claims[k]? = some z) : ∃ x, c.Claims[k]? = some x ∧ z.Open ≤ x.Open ∧ (0 ≤ x.Open → 0 ≤ z.Open) ∧ z = { x with Open := z.Open } := by
  have lt := (List.getElem?_eq_some_iff.1 hz).1
  rw [h.cn] at lt
  obtain ⟨n, h1, h2, h3⟩ := h.cl k _ (List.getElem?_eq_getElem lt)
  rw [hz] at h3
  cases h3
  exact ⟨_, List.getElem?_eq_getElem lt, h1, h2, rfl⟩
theorem Fall.zeroC {c d : TCash} (h : Fall c d) (hp : Pos c) {k : Nat} (hz : zeroC c k) : zeroC d k := fun z hk => by
  obtain ⟨x, h1, h2, h3, h4⟩ := h.back hk
  have := hz x h1
  have := h3 (by omega)
  omega
theorem meet_zero {c : TCash} {i k : Nat} (hp : Pos c) (hi : i < c.Loose.length) (hy : i < c.Incomes.length) : zeroL (meet c i k) i ∨ zeroC (meet c i k) k := by
  have hl : c.Loose[i]? = some c.Loose[i] := List.getElem?_eq_getElem hi
  have hyy : c.Incomes[i]? = some c.Incomes[i] := List.getElem?_eq_getElem hy
  obtain ⟨lo, hlo⟩ : ∃ lo, lo = c.Loose[i] := ⟨_, rfl⟩
  obtain ⟨y, hyd⟩ : ∃ y, y = c.Incomes[i] := ⟨_, rfl⟩
  rw [← hlo] at hl
  rw [← hyd] at hyy
  cases hx : c.Claims[k]? with
  | none =>
    refine .inr fun z hz => ?_
    have e : meet c i k = c := by unfold meet; rw [hl, hx]
    rw [e, hx] at hz
    cases hz
  | some x =>
  have px := hp.1 x (List.mem_of_getElem? hx)
  have pl := hp.2 lo (List.mem_of_getElem? hl)
  by_cases hn : min lo x.Open = 0
  · have e : meet c i k = c := by
      unfold meet
      rw [hl, hx, hyy]
      simp only
      rw [if_pos hn]
    rw [e]
    by_cases h0 : lo = 0
    · subst h0; exact .inl hl
    · refine .inr fun z hz => ?_
      rw [hx] at hz
      cases hz
      omega
  rw [meet_at hl hx hyy hn]
  by_cases hle : lo ≤ x.Open
  · refine .inl ?_
    show (c.Loose.set i _)[i]? = some 0
    rw [List.getElem?_set_self hi]
    congr 1
    omega
  · refine .inr fun z hz => ?_
    have hz : (c.Claims.set k { x with Open := x.Open - min lo x.Open })[k]? = some z := hz
    rw [List.getElem?_set_self (List.getElem?_eq_some_iff.1 hx).1] at hz
    cases hz
    show x.Open - min lo x.Open = 0
    omega
theorem meets_fall {c : TCash} {i : Nat} (hp : Pos c) (ks : List Nat) : Fall c (meets c i ks) := meets_ind (Fall c) i ks c (.refl c) fun d k hd _ => by
  have := hd.pos hp
  exact hd.trans (meet_fall d i k this.1 this.2)
theorem meetI_fall {c : TCash} {k : Nat} (hp : Pos c) (is : List Nat) : Fall c (meetI c is k) := meetI_ind (Fall c) k is c (.refl c) fun d i hd _ => by
  have := hd.pos hp
  exact hd.trans (meet_fall d i k this.1 this.2)
theorem meets_zero {i : Nat} : ∀ (ks : List Nat) {c : TCash}, Pos c → i < c.Loose.length → i < c.Incomes.length → zeroL (meets c i ks) i ∨ ∀ k, k ∈ ks → zeroC (meets c i ks) k
  | [], c, _, _, _ => .inr fun k hk => by cases hk
  | k :: ks, c, hp, hl, hi => by
    have f := meet_fall c i k hp.1 hp.2
    have hp' := f.pos hp
    have e : meets c i (k :: ks) = meets (meet c i k) i ks := rfl
    have f2 := meets_fall (i := i) hp' ks
    rw [e]
    rcases meet_zero (k := k) hp hl hi with h | h
    · exact .inl (f2.zeroL h)
    · rcases meets_zero ks hp' (by rw [f.ln]; exact hl) (by rw [f.inc]; exact hi) with g | g
      · exact .inl g
      · refine .inr fun j hj => ?_
        rcases List.mem_cons.1 hj with rfl | hj
        · exact f2.zeroC hp' h
        · exact g j hj
theorem meetI_zero {k : Nat} : ∀ (is : List Nat) {c : TCash}, Pos c → (∀ i, i ∈ is → i < c.Loose.length ∧ i < c.Incomes.length) → zeroC (meetI c is k) k ∨ ∀ i, i ∈ is → zeroL (meetI c is k) i
  | [], c, _, _ => .inr fun k hk => by cases hk
  | i :: is, c, hp, hi => by
    have f := meet_fall c i k hp.1 hp.2
    have hp' := f.pos hp
    have e : meetI c (i :: is) k = meetI (meet c i k) is k := rfl
    have f2 := meetI_fall (k := k) hp' is
    have h0 := hi i (by simp)
    rw [e]
    rcases meet_zero (k := k) hp h0.1 h0.2 with h | h
    · rcases meetI_zero is hp' (fun j hj => by have := hi j (by simp [hj]); rw [f.ln, f.inc]; exact this) with g | g
      · exact .inl g
      · refine .inr fun j hj => ?_
        rcases List.mem_cons.1 hj with rfl | hj
        · exact f2.zeroL h
        · exact g j hj
    · exact .inl (f2.zeroC hp' h)

/-! ### The steps of an income -/
theorem mid1_fall {c : TCash} {x : TIncome} (hp : Pos (start c x)) : Fall (start c x) (mid1 c x) := by
  unfold mid1
  split
  · split
    · exact meet_fall _ _ _ hp.1 hp.2
    · exact .refl _
  · exact .refl _
theorem mid2_fall {c : TCash} {x : TIncome} (hp : Pos (start c x)) : Fall (start c x) (mid2 c x) := by
  have h1 := mid1_fall hp
  unfold mid2
  split
  · exact h1.trans (meets_fall (h1.pos hp) _)
  · exact h1
/-- No payer has loose money and an open claim. -/
def NoBoth (c : TCash) : Prop := ∀ (i k : Nat) y lo z, c.Incomes[i]? = some y → c.Loose[i]? = some lo → c.Claims[k]? = some z → y.Payer = z.Payer → lo ≤ 0 ∨ z.Open ≤ 0
theorem taken_none {c : TCash} {x : TIncome} (hp : Pos c) (hl : c.Loose.length = c.Incomes.length) (hx : 0 ≤ x.Amount) (h : NoBoth c) : NoBoth (taken c x) := by
  have ps := start_pos hp hx
  have f2 := mid2_fall ps
  have p2 := f2.pos ps
  have f3 := taken_fall hp hx
  have ll : c.Incomes.length < (mid2 c x).Loose.length := by rw [f2.ln]; simp [start, hl]
  have li : c.Incomes.length < (mid2 c x).Incomes.length := by rw [f2.inc]; simp [start]
  have z := meets_zero (openK (mid2 c x).Claims x.Payer) p2 ll li
  rw [← taken_eq] at z
  have f4 : Fall (mid2 c x) (taken c x) := by rw [taken_eq]; exact meets_fall p2 _
  intro i k y lo w hy hlo hw he
  rw [f3.inc] at hy
  obtain ⟨w0, hw0, hwo, hwn, hwe⟩ := f3.back hw
  have hw0' : c.Claims[k]? = some w0 := hw0
  have pay0 : w.Payer = w0.Payer := by rw [hwe]
  have ylt := (List.getElem?_eq_some_iff.1 hy).1
  by_cases e : i = c.Incomes.length
  · subst e
    have ey : y = x := by
      simp [start] at hy
      exact hy.symm
    subst ey
    rcases z with z | z
    · rw [zeroL, hlo] at z
      cases z
      exact .inl (Int.le_refl _)
    · obtain ⟨w2, hw2, hwo2, _, hwe2⟩ := f4.back hw
      by_cases ho : 0 < w2.Open
      · have hm : k ∈ openK (mid2 c y).Claims y.Payer := openK_mem.2 ⟨w2, hw2, by rw [hwe2] at he; exact he.symm, ho⟩
        have := z k hm w hw
        omega
      · omega
  · have hi : i < c.Incomes.length := by simp [start] at ylt; omega
    have hy' : c.Incomes[i]? = some y := by
      simp only [start] at hy
      rwa [List.getElem?_append_left hi] at hy
    have hi2 : i < c.Loose.length := by omega
    have hl0 : c.Loose[i]? = some c.Loose[i] := List.getElem?_eq_getElem hi2
    obtain ⟨n, h1, _, h3⟩ := f3.lo i c.Loose[i] (by simp only [start]; rw [List.getElem?_append_left hi2, hl0])
    rw [hlo] at h3
    cases h3
    have := h i k y _ w0 hy' hl0 hw0' (by omega)
    omega
theorem withC_get {c : TCash} {x z : TClaim} {k : Nat} (h : (withC c x).Claims[k]? = some z) : (k = insAt c.Claims x.ID ∧ z = x) ∨ ∃ j : Nat, c.Claims[j]? = some z := by
  by_cases e : k = insAt c.Claims x.ID
  · subst e
    rw [withC_at] at h
    exact .inl ⟨rfl, (Option.some.inj h).symm⟩
  · rcases withC_mem.1 (List.mem_of_getElem? h) with rfl | hm
    · have hle := insAt_le c.Claims z.ID
      unfold withC at h
      simp only at h
      rcases Nat.lt_or_ge k (insAt c.Claims z.ID) with hlt | hge
      · rw [List.getElem?_append_left (by rw [List.length_take]; omega), List.getElem?_take, if_pos hlt] at h
        exact .inr ⟨_, h⟩
      · rw [List.getElem?_append_right (by rw [List.length_take]; omega), List.length_take, Nat.min_eq_left hle] at h
        obtain ⟨j, hj⟩ : ∃ j, k - insAt c.Claims z.ID = j + 1 := ⟨k - insAt c.Claims z.ID - 1, by omega⟩
        rw [hj, List.getElem?_cons_succ, List.getElem?_drop] at h
        exact .inr ⟨_, h⟩
    · obtain ⟨j, hj⟩ := List.getElem?_of_mem hm
      exact .inr ⟨j, hj⟩
theorem added_none {c : TCash} {x : TClaim} (hp : Pos c) (hl : c.Loose.length = c.Incomes.length) (hx : 0 ≤ x.Open) (h : NoBoth c) : NoBoth (added c x) := by
  have ps := withC_pos hp hx
  have f := added_fall hp hx
  have z := meetI_zero (k := insAt c.Claims x.ID) (ofP c x.Payer c.Incomes.length) ps fun i hi => by
    have := (ofP_mem.1 hi).1
    exact ⟨by show i < c.Loose.length; omega, this⟩
  intro i k y lo w hy hlo hw he
  rw [f.inc] at hy
  have hy' : c.Incomes[i]? = some y := hy
  have hi := (List.getElem?_eq_some_iff.1 hy').1
  obtain ⟨w0, hw0, hwo, _, hwe⟩ := f.back hw
  have pay0 : w.Payer = w0.Payer := by rw [hwe]
  rcases withC_get hw0 with ⟨ek, ew⟩ | ⟨j, hj⟩
  · subst ek; subst ew
    rcases z with z | z
    · exact .inr (by have := z w hw; omega)
    · have := z i (ofP_mem.2 ⟨hi, y, hy', by omega⟩)
      have e : (added c w0).Loose[i]? = some 0 := this
      rw [hlo] at e
      cases e
      exact .inl (Int.le_refl _)
  · have hi2 : i < c.Loose.length := by omega
    obtain ⟨n, h1, _, h3⟩ := f.lo i c.Loose[i] (List.getElem?_eq_getElem hi2)
    rw [hlo] at h3
    cases h3
    have := h i j y _ w0 hy' (List.getElem?_eq_getElem hi2) hj (by omega)
    omega
/-! ### What is paid back -/
def refunded (c : TCash) (i : Nat) : TCash := { c with Loose := c.Loose.set i 0 }
theorem refunded_fall {c : TCash} (hp : Pos c) (i : Nat) : Fall c (refunded c i) := by
  refine ⟨rfl, fun k x h => ⟨x.Open, Int.le_refl _, fun h => h, h⟩, rfl, fun j l hl => ?_, by simp [refunded]⟩
  by_cases e : i = j
  · subst e
    have := hp.2 l (List.mem_of_getElem? hl)
    exact ⟨0, this, fun _ => Int.le_refl _, List.getElem?_set_self (List.getElem?_eq_some_iff.1 hl).1⟩
  · exact ⟨l, Int.le_refl _, fun h => h, (List.getElem?_set_ne e).trans hl⟩
theorem refunded_ok {c : TCash} (h : CashOk c) (i : Nat) : CashOk (refunded c i) := by
  refine ⟨h.pays, h.incs, by simp [refunded, h.len], h.mates, h.got, fun j y lo hy hl => ?_⟩
  have lt := (List.getElem?_eq_some_iff.1 hy).1
  obtain ⟨l, hl0⟩ : ∃ l, c.Loose[j]? = some l := ⟨_, List.getElem?_eq_getElem (by rw [h.len]; exact lt)⟩
  have hu := h.used j y l hy hl0
  by_cases e : i = j
  · subst e
    have e2 : (refunded c i).Loose[i]? = some 0 := List.getElem?_set_self (List.getElem?_eq_some_iff.1 hl0).1
    rw [hl] at e2
    cases e2
    show 0 ≤ (0 : Int) ∧ usedS c.Matches y.Number ≤ _
    omega
  · have e2 : (refunded c i).Loose[j]? = some l := (List.getElem?_set_ne e).trans hl0
    rw [hl] at e2
    cases e2
    exact hu
theorem fall_none {c d : TCash} (f : Fall c d) (hl : c.Loose.length = c.Incomes.length) (h : NoBoth c) : NoBoth d := by
  intro i k y lo w hy hlo hw he
  rw [f.inc] at hy
  have hi := (List.getElem?_eq_some_iff.1 hy).1
  obtain ⟨w0, hw0, hwo, _, hwe⟩ := f.back hw
  have pay0 : w.Payer = w0.Payer := by rw [hwe]
  have hi2 : i < c.Loose.length := by omega
  obtain ⟨n, h1, _, h3⟩ := f.lo i c.Loose[i] (List.getElem?_eq_getElem hi2)
  rw [hlo] at h3
  cases h3
  have := h i k y _ w0 hy (List.getElem?_eq_getElem hi2) hw0 (by omega)
  omega
theorem refunded_pot {c : TCash} (i : Nat) : pot (refunded c i) ≤ pot c := by
  unfold pot refunded
  simp only
  cases hl : c.Loose[i]? with
  | none => rw [List.set_eq_of_length_le (List.getElem?_eq_none_iff.1 hl)]; omega
  | some l =>
    have := countP_set1 (fun z : Int => decide (0 < z)) c.Loose i l 0 hl
    simp at this
    omega
end Go.Proofs.YtgapbmaehfdkoaaGreatDoor
