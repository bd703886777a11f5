/- Sweeps: what the laws of chapter 24 say, no program in sight. -/
import Derived.Test.YtcfkdimndhapfaaSwNet
set_option linter.unusedSimpArgs false
set_option linter.unusedVariables false
namespace Go.Proofs.Ytcfkdimndhapfaa
open Go.PA
open Go.RowKit

theorem low1_le {a : TAccount} {l : List TKeep} {day : Int} (H : SwH a l day) {x : TKeep} (hx : x ∈ l) : low1 (balI a.Subs) x ≤ x.High := by
  have kx := keepsB_mem _ l 0 H.keeps x hx
  rw [low1_small (H.small _) (by omega)]
  split <;> omega
/-- A sweep, whole. -/
theorem sweep_all {a : TAccount} {l : List TKeep} {day : Int} (H : SwH a l day) : ∃ b, S2 a l day l.length b ∧ checkK a l = 0 ∧ planA a l day = ((GK a l day l.length).2, 0) ∧ sweepA a l day = (b, 0) := by
  obtain ⟨b, hb⟩ := sweep2 H l.length (Nat.le_refl _)
  have ck : checkK a l = 0 := by rw [checkK, if_pos H.ok, if_pos H.keeps]
  have hr := H.room
  have hl := hb.len
  have pl : planA a l day = ((GK a l day l.length).2, 0) := by
    rw [planA, if_pos ck, if_pos (amongB_iff.2 H.day), planL_GK, if_neg (by omega)]
  refine ⟨b, hb, ck, pl, ?_⟩
  rw [sweepA, pl, if_pos rfl]
  exact hb.be.post
theorem S2.final {a : TAccount} {l : List TKeep} {day : Int} (H : SwH a l day) {b : TAccount} (h : S2 a l day l.length b) : ∀ x, x ∈ l → ∃ g, balI b.Subs x.Sub = low1 (balI a.Subs) x + g ∧ 0 ≤ g ∧ (0 < g → balI a.Subs x.Sub < x.Low ∧ low1 (balI a.Subs) x + g ≤ x.Low) ∧ (low1 (balI a.Subs) x + g < x.Low → balI b.Subs 1 ≤ 0) := fun x hx => by
  obtain ⟨g, h1, h2, h3, h4⟩ := h.done x (by rw [List.take_length]; exact hx)
  exact ⟨g, h1, h2, h3, fun hlt => by rw [h.main]; exact h4 hlt⟩
theorem S2.high {a : TAccount} {l : List TKeep} {day : Int} (H : SwH a l day) {b : TAccount} (h : S2 a l day l.length b) : ∀ x, x ∈ l → balI b.Subs x.Sub ≤ x.High := fun x hx => by
  obtain ⟨g, h1, h2, h3, _⟩ := h.final H x hx
  have kx := keepsB_mem _ l 0 H.keeps x hx
  have := low1_le H hx
  by_cases hg : 0 < g
  · have := h3 hg; omega
  · omega
theorem S2.missing {a : TAccount} {l : List TKeep} {day : Int} (H : SwH a l day) {b : TAccount} (h : S2 a l day l.length b) {x : TKeep} (hx : x ∈ l) (hm : balI b.Subs x.Sub < x.Low) : balI b.Subs 1 ≤ 0 := by
  obtain ⟨g, h1, _, _, h4⟩ := h.final H x hx
  exact h4 (by omega)
theorem S2.check {a : TAccount} {l : List TKeep} {day : Int} (H : SwH a l day) {b : TAccount} (h : S2 a l day l.length b) : checkK b l = 0 := by
  rw [checkK, if_pos h.be.ok, h.be.ids, if_pos H.keeps]
theorem fold_same {α β : Type} (f : β → α → β) (s : β) : ∀ l : List α, (∀ x, x ∈ l → f s x = s) → l.foldl f s = s
  | [], _ => rfl
  | x :: l, h => by
    rw [List.foldl_cons, h x (by simp)]
    exact fold_same f s l fun y hy => h y (List.mem_cons_of_mem _ hy)
/-- Another one of the same day moves nothing. -/
theorem S2.again {a : TAccount} {l : List TKeep} {day : Int} (H : SwH a l day) {b : TAccount} (h : S2 a l day l.length b) : planA b l day = ([], 0) := by
  have hl := h.len
  have hr := H.room
  have hbl : b.Entries.length = a.Entries.length + (GK a l day l.length).2.length := by rw [h.be.ents]; simp
  have e1 : planL (balI b.Subs) b.Entries.length day l = (balI b.Subs 1, []) := by
    unfold planL
    rw [fold_same (take1 (balI b.Subs) b.Entries.length day) (balI b.Subs 1, []) l fun x hx => by
      have := h.high H x hx
      rw [take1, if_neg (by omega)]]
    exact fold_same _ _ l fun x hx => by
      rw [give1, if_neg]
      rintro ⟨h1, h2⟩
      have := h.missing H hx h1
      dsimp only at h2
      omega
  rw [planA, if_pos (h.check H), if_pos (amongB_iff.2 ⟨h.be.dayb, H.day.2⟩), e1, if_neg (by simp; omega)]
theorem sumE_zero (f : TEntry → Int) : ∀ l : List TEntry, (∀ e, e ∈ l → f e = 0) → sumE f l = 0
  | [], _ => rfl
  | e :: l, h => by rw [sumE_cons, h e (by simp), sumE_zero f l fun x hx => h x (List.mem_cons_of_mem _ hx)]; rfl
theorem Behind.total {a b : TAccount} {day : Int} {es : List TEntry} (H : checkA a = 0) (h : Behind a b day es) : totalA b = totalA a := by
  rw [total_sum h.ok, total_sum H, h.ents, sumE_app, sumE_zero ioE es fun e he => by
    obtain ⟨g1, g2, _⟩ := h.good e he
    rw [ioE, if_neg g1, if_neg g2]; rfl]
  omega
theorem shortL_zero {f : Int → Int} : ∀ l : List TKeep, shortL f l = 0 ↔ ∀ k, k ∈ l → k.Low ≤ f k.Sub
  | [] => by simp [shortL]
  | k :: l => by
    have ih := shortL_zero (f := f) l
    have e : shortL f (k :: l) = missK f k + shortL f l := by simp [shortL]
    have nn : ∀ l : List TKeep, 0 ≤ shortL f l := fun l => by
      induction l with
      | nil => simp [shortL]
      | cons x l ih =>
        have e : shortL f (x :: l) = missK f x + shortL f l := by simp [shortL]
        rw [e, missK]
        omega
    have := nn l
    rw [e, missK]
    constructor
    · intro h
      have h1 : shortL f l = 0 := by omega
      intro x hx
      rcases List.mem_cons.1 hx with rfl | hx
      · omega
      · exact ih.1 h1 x hx
    · intro h
      have h1 := ih.2 fun x hx => h x (List.mem_cons_of_mem _ hx)
      have h2 := h k (by simp)
      omega
theorem S2.kept_iff {a : TAccount} {l : List TKeep} {day : Int} (H : SwH a l day) {b : TAccount} (h : S2 a l day l.length b) : keptA b l = true ↔ shortA b l = 0 := by
  rw [shortA, if_pos (h.check H), shortL_zero, keptA, decide_eq_true (h.check H), Bool.true_and, List.all_eq_true]
  constructor
  · intro hk x hx
    have := hk x hx
    simp only [Bool.and_eq_true, decide_eq_true_eq] at this
    exact this.1
  · intro hk x hx
    simp only [Bool.and_eq_true, decide_eq_true_eq]
    exact ⟨hk x hx, h.high H x hx⟩
theorem S2.kept_or {a : TAccount} {l : List TKeep} {day : Int} (H : SwH a l day) {b : TAccount} (h : S2 a l day l.length b) : keptA b l = true ∨ balI b.Subs 1 ≤ 0 := by
  by_cases hk : keptA b l = true
  · exact .inl hk
  · right
    rw [h.kept_iff H, shortA, if_pos (h.check H), shortL_zero] at hk
    obtain ⟨x, hx⟩ := Classical.not_forall.1 hk
    rw [Classical.not_imp] at hx
    exact h.missing H hx.1 (by omega)
theorem S2.shortfall {a : TAccount} {l : List TKeep} {day : Int} (H : SwH a l day) {b : TAccount} (h : S2 a l day l.length b) : shortA b l = shortA a l - givenE (GK a l day l.length).2 ∧ givenE (GK a l day l.length).2 ≤ max (balI a.Subs 1 + takenE (GK a l day l.length).2) 0 := by
  obtain ⟨b1, hb1⟩ := sweep1 H l.length (Nat.le_refl _)
  have ck : checkK a l = 0 := by rw [checkK, if_pos H.ok, if_pos H.keeps]
  refine ⟨by rw [shortA, if_pos (h.check H), shortA, if_pos ck]; exact h.short, ?_⟩
  have h1 := hb1.tak
  have h2 := h.tak
  have h3 := h.giv
  by_cases h0 : (TK a l day l.length).1 ≤ 0
  · have := h.none h0; omega
  · have := h.pos (by omega); omega
/-- How great balances grow. -/
theorem S2.bound {a : TAccount} {l : List TKeep} {day B : Int} (H : SwH a l day) {b : TAccount} (h : S2 a l day l.length b) (hB : 1000000000000 ≤ 1000000000000 ∧ 0 ≤ B) (ha : ∀ i, i ∈ ids a.Subs → -B ≤ balI a.Subs i ∧ balI a.Subs i ≤ B) (hk : ∀ x, x ∈ l → x.High ≤ B) : (TK a l day l.length).1 ≤ B + B * l.length + B * l.length → balI b.Subs 1 ≤ B + B * l.length + B * l.length := fun hT => by
  rw [h.main]
  have h3 := h.giv
  have hg : 0 ≤ givenE (GK a l day l.length).2 := by
    have : ∀ es : List TEntry, (∀ e, e ∈ es → GoodE day e) → 0 ≤ givenE es := fun es => by
      induction es with
      | nil => intro _; simp [givenE, sumE]
      | cons e es ih =>
        intro hes
        have h1 := ih fun x hx => hes x (List.mem_cons_of_mem _ hx)
        have h2 := (hes e (by simp)).2.2.2.1
        unfold givenE at h1 ⊢
        rw [sumE_cons]
        split <;> omega
    exact this _ h.be.good
  omega

/-- Rules as the source makes them. -/
structure GenK (l : List TKeep) : Prop where
  ok : keepsB [1, 2, 3, 7] 0 l = true
  len : l.length ≤ 3
  high : ∀ k, k ∈ l → k.High ≤ 380
theorem GenAcc.balI {n : Nat} {a : TAccount} (h : GenAcc n a) (i : Int) : -(500 * (n : Int)) ≤ Go.Proofs.Ytcfkdimndhapfaa.balI a.Subs i ∧ Go.Proofs.Ytcfkdimndhapfaa.balI a.Subs i ≤ 500 * (n : Int) := by
  by_cases hm : i ∈ Go.Proofs.Ytcfkdimndhapfaa.ids a.Subs
  · obtain ⟨s, h1, h2, _⟩ := find_some hm
    have := h.bal s h2
    rw [Go.Proofs.Ytcfkdimndhapfaa.balI, h1]
    exact this
  · rw [balI_out hm]
    omega
theorem gen_SwH {n : Nat} {a : TAccount} {l : List TKeep} (h : GenAcc n a) (hn : n ≤ 12) (hl : GenK l) : SwH a l 50 := by
  have h1 := hl.len
  have h2 := h.len
  have h3 := h.day
  exact ⟨h.ok, by rw [h.ids]; exact hl.ok, fun i => by have := h.balI i; omega, by omega, by omega, by omega, by omega⟩
theorem keepsB_snoc (is : List Int) : ∀ (l : List TKeep) (p : Int) (x : TKeep), keepsB is p l = true → keepB is p x = true → (∀ y, y ∈ l → y.Sub < x.Sub) → keepsB is p (l ++ [x]) = true
  | [], p, x, _, hx, _ => by simp [keepsB, hx]
  | y :: l, p, x, h, hx, hs => by
    rw [keepB_iff] at hx
    simp only [keepsB, Bool.and_eq_true] at h
    simp only [List.cons_append, keepsB, Bool.and_eq_true]
    refine ⟨h.1, keepsB_snoc is l y.Sub x h.2 ?_ fun z hz => hs z (List.mem_cons_of_mem _ hz)⟩
    rw [keepB_iff]
    exact ⟨hx.1, hx.2.1, hs y (by simp), hx.2.2.2⟩
end Go.Proofs.Ytcfkdimndhapfaa
