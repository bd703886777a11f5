/- Receipts: what a claim does that is added. Plain. -/
import Derived.Test.YtgapbmaehfdkoaaGreatDoorCashT
set_option linter.unusedSimpArgs false
set_option linter.unusedVariables false
namespace Go.Proofs.YtgapbmaehfdkoaaGreatDoor

/-- Where a claim belongs. -/
def insAt : List TClaim → Int → Nat
  | [], _ => 0
  | c :: l, id => if c.ID < id then insAt l id + 1 else 0
def withC (c : TCash) (x : TClaim) : TCash := { c with Claims := c.Claims.take (insAt c.Claims x.ID) ++ x :: c.Claims.drop (insAt c.Claims x.ID) }
def ofP (c : TCash) (p : Int) (n : Nat) : List Nat := (List.range n).filter fun i => match c.Incomes[i]? with | some y => decide (y.Payer = p) | none => false
def meetI (c : TCash) (is : List Nat) (k : Nat) : TCash := is.foldl (fun d i => meet d i k) c
def added (c : TCash) (x : TClaim) : TCash := meetI (withC c x) (ofP c x.Payer c.Incomes.length) (insAt c.Claims x.ID)
def addD (c : TCash) (x : TClaim) : TCash × Int :=
  if cashE c = 0 then (if payB x && decide (x.Open = x.Amount) && (payAt c.Claims x.ID).isNone then (if c.Claims.length < 60 then (if (added c x).Matches.length ≤ 160 then (added c x, 0) else (noCash, 3)) else (noCash, 3)) else (noCash, 69)) else (noCash, cashE c)
theorem insAt_le : ∀ (l : List TClaim) (id : Int), insAt l id ≤ l.length
  | [], _ => Nat.le_refl _
  | c :: l, id => by
    rw [insAt]
    have := insAt_le l id
    split <;> simp <;> omega
theorem insAt_lt : ∀ (l : List TClaim) (id : Int) (j : Nat) (y : TClaim), j < insAt l id → l[j]? = some y → y.ID < id
  | [], _, j, y, _, hj => by simp at hj
  | c :: l, id, j, y, h, hj => by
    rw [insAt] at h
    by_cases e : c.ID < id
    · rw [if_pos e] at h
      cases j with
      | zero => simp at hj; subst hj; exact e
      | succ j => exact insAt_lt l id j y (by omega) (by simpa using hj)
    · rw [if_neg e] at h; omega
theorem insAt_at : ∀ (l : List TClaim) (id : Int) (y : TClaim), l[insAt l id]? = some y → id ≤ y.ID
  | [], _, y, h => by simp [insAt] at h
  | c :: l, id, y, h => by
    rw [insAt] at h
    by_cases e : c.ID < id
    · rw [if_pos e, List.getElem?_cons_succ] at h
      exact insAt_at l id y h
    · rw [if_neg e] at h
      simp at h
      subst h
      omega
theorem insAt_ge {l : List TClaim} (hp : l.Pairwise fun a b => a.ID < b.ID) {id : Int} {j : Nat} {y : TClaim} (h : insAt l id ≤ j) (hj : l[j]? = some y) : id ≤ y.ID := by
  have ltj := (List.getElem?_eq_some_iff.1 hj).1
  obtain ⟨z, hz⟩ : ∃ z, l[insAt l id]? = some z := ⟨_, List.getElem?_eq_getElem (by omega)⟩
  have h1 := insAt_at l id z hz
  by_cases e : insAt l id = j
  · rw [e, hj] at hz; cases hz; exact h1
  · have := List.pairwise_iff_getElem.1 hp (insAt l id) j (by omega) ltj (by omega)
    rw [(List.getElem?_eq_some_iff.1 hz).2, (List.getElem?_eq_some_iff.1 hj).2] at this
    omega
theorem withC_at (c : TCash) (x : TClaim) : (withC c x).Claims[insAt c.Claims x.ID]? = some x := by
  have := insAt_le c.Claims x.ID
  unfold withC
  rw [List.getElem?_append_right (by rw [List.length_take]; omega), List.length_take, Nat.min_eq_left this, Nat.sub_self]
  rfl
theorem withC_mem {c : TCash} {x z : TClaim} : z ∈ (withC c x).Claims ↔ z = x ∨ z ∈ c.Claims := by
  unfold withC
  rw [List.mem_append, List.mem_cons]
  constructor
  · rintro (h | h | h)
    · exact .inr (List.mem_of_mem_take h)
    · exact .inl h
    · exact .inr (List.mem_of_mem_drop h)
  · rintro (h | h)
    · exact .inr (.inl h)
    · rw [← List.take_append_drop (insAt c.Claims x.ID) c.Claims] at h
      rcases List.mem_append.1 h with h | h
      · exact .inl h
      · exact .inr (.inr h)
theorem gotS_none {c : TCash} (h : CashOk c) {id : Int} (hn : payAt c.Claims id = none) : gotS c.Matches id = 0 := by
  unfold gotS
  have e : (c.Matches.filter fun m => decide (m.Claim = id)) = [] := List.filter_eq_nil_iff.2 fun m hm => by
    obtain ⟨_, x, _, h2, _, h4, _, _⟩ := h.mates m hm
    have := payAt_none hn x h2
    simp only [decide_eq_true_eq]
    omega
  rw [e]
  rfl
theorem withC_ok {c : TCash} (h : CashOk c) {x : TClaim} (hx : payB x = true) (ho : x.Open = x.Amount) (hn : payAt c.Claims x.ID = none) : CashOk (withC c x) := by
  refine ⟨⟨fun z hz => ?_, ?_⟩, h.incs, h.len, fun m hm => ?_, fun z hz => ?_, h.used⟩
  · rcases withC_mem.1 hz with rfl | hz
    · exact hx
    · exact h.pays.1 z hz
  · have lo : ∀ z, z ∈ c.Claims.take (insAt c.Claims x.ID) → z.ID < x.ID := fun z hz => by
      obtain ⟨j, hj⟩ := List.getElem?_of_mem hz
      rw [List.getElem?_take] at hj
      split at hj
      · exact insAt_lt _ _ j z (by assumption) hj
      · cases hj
    have hi : ∀ z, z ∈ c.Claims.drop (insAt c.Claims x.ID) → x.ID < z.ID := fun z hz => by
      obtain ⟨j, hj⟩ := List.getElem?_of_mem hz
      rw [List.getElem?_drop] at hj
      have h1 := insAt_ge h.pays.2 (Nat.le_add_right _ j) hj
      have h2 := payAt_none hn z (List.mem_of_getElem? hj)
      omega
    show (c.Claims.take (insAt c.Claims x.ID) ++ x :: c.Claims.drop (insAt c.Claims x.ID)).Pairwise _
    rw [List.pairwise_append, List.pairwise_cons]
    refine ⟨h.pays.2.sublist (List.take_sublist _ _), ⟨hi, h.pays.2.sublist (List.drop_sublist _ _)⟩, fun a ha b hb => ?_⟩
    have := lo a ha
    rcases List.mem_cons.1 hb with rfl | hb
    · exact this
    · have := hi b hb; omega
  · obtain ⟨q1, z, y, q2, q3, q4, q5, q6⟩ := h.mates m hm
    exact ⟨q1, z, y, withC_mem.2 (.inr q2), q3, q4, q5, q6⟩
  · show gotS c.Matches z.ID = _
    rcases withC_mem.1 hz with rfl | hz
    · rw [gotS_none h hn]; omega
    · exact h.got z hz
theorem meetI_ind (P : TCash → Prop) (k : Nat) : ∀ (is : List Nat) (c : TCash), P c → (∀ d i, P d → i ∈ is → P (meet d i k)) → P (meetI c is k)
  | [], c, h, _ => h
  | i :: is, c, h, hs => by
    have := meetI_ind P k is (meet c i k) (hs c i h (List.mem_cons_self ..)) fun d j hd hj => hs d j hd (List.mem_cons_of_mem _ hj)
    exact this
theorem ofP_mem {c : TCash} {p : Int} {n i : Nat} : i ∈ ofP c p n ↔ i < n ∧ ∃ y, c.Incomes[i]? = some y ∧ y.Payer = p := by
  unfold ofP
  rw [List.mem_filter, List.mem_range]
  cases h : c.Incomes[i]? with
  | none => simp
  | some y => simp
theorem withC_pos {c : TCash} (h : Pos c) {x : TClaim} (hx : 0 ≤ x.Open) : Pos (withC c x) := ⟨fun z hz => by
  rcases withC_mem.1 hz with rfl | hz
  · exact hx
  · exact h.1 z hz, h.2⟩
theorem added_fall {c : TCash} {x : TClaim} (hp : Pos c) (hx : 0 ≤ x.Open) : Fall (withC c x) (added c x) :=
  meetI_ind (Fall (withC c x)) _ _ _ (.refl _) fun d i hd _ => by
    have := hd.pos (withC_pos hp hx)
    exact hd.trans (meet_fall d i _ this.1 this.2)
theorem added_pot {c : TCash} {x : TClaim} (hp : Pos c) (hx : 0 ≤ x.Open) : pot (added c x) ≤ pot c + 1 := by
  have h0 : pot (withC c x) ≤ pot c + 1 := by
    have e : c.Claims.countP (fun z => decide (0 < z.Open)) = (c.Claims.take (insAt c.Claims x.ID)).countP (fun z => decide (0 < z.Open)) + (c.Claims.drop (insAt c.Claims x.ID)).countP (fun z => decide (0 < z.Open)) := by
      rw [← List.countP_append, List.take_append_drop]
    unfold pot withC
    simp only [List.countP_append, List.countP_cons]
    split <;> omega
  have := meetI_ind (fun d => Fall (withC c x) d ∧ pot d ≤ pot c + 1) (insAt c.Claims x.ID) (ofP c x.Payer c.Incomes.length) (withC c x) ⟨.refl _, h0⟩ fun d i hd _ => by
    have hq := hd.1.pos (withC_pos hp hx)
    have := meet_pot d i (insAt c.Claims x.ID) hq
    exact ⟨hd.1.trans (meet_fall d i _ hq.1 hq.2), by omega⟩
  exact this.2
theorem added_ok {c : TCash} (h : CashOk c) {x : TClaim} (hx : payB x = true) (ho : x.Open = x.Amount) (hn : payAt c.Claims x.ID = none) : CashOk (added c x) := by
  have h0 := withC_ok h hx ho hn
  have := meetI_ind (fun d => Fall (withC c x) d ∧ CashOk d) (insAt c.Claims x.ID) (ofP c x.Payer c.Incomes.length) (withC c x) ⟨.refl _, h0⟩ fun d i hd hi => by
    have hq := hd.2.pos
    refine ⟨hd.1.trans (meet_fall d i _ hq.1 hq.2), ?_⟩
    obtain ⟨n, _, _, h3⟩ := hd.1.cl _ _ (withC_at c x)
    obtain ⟨lt, y, hy, ep⟩ := ofP_mem.1 hi
    have hy' : d.Incomes[i]? = some y := by rw [hd.1.inc]; exact hy
    have lt : i < d.Loose.length := by rw [hd.2.len]; exact (List.getElem?_eq_some_iff.1 hy').1
    exact meet_ok hd.2 (List.getElem?_eq_getElem lt) h3 hy' ep
  exact this.2
end Go.Proofs.YtgapbmaehfdkoaaGreatDoor
