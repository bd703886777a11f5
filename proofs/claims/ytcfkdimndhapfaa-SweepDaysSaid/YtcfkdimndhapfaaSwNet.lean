/- Sweeps: what a sweep does to the balances, no program in sight. -/
import Derived.Test.YtcfkdimndhapfaaSw9
set_option linter.unusedSimpArgs false
set_option linter.unusedVariables false
namespace Go.Proofs.Ytcfkdimndhapfaa
open Go.PA
open Go.RowKit

theorem post_move {b : TAccount} (hb : checkA b = 0) (hlen : b.Entries.length < 400) {day f t amt : Int} (hd : (lastE b).Day ≤ day ∧ day ≤ 36000) (ha : 0 < amt ∧ amt ≤ 1000000000000) (hf : f ∈ ids b.Subs) (ht : t ∈ ids b.Subs) (hft : f ≠ t)
    (hmf : (if f = 1 then -b.Credit else 0) ≤ balI b.Subs f - amt) (hmt : balI b.Subs t + amt ≤ 1000000000000000) :
    postA b ⟨(b.Entries.length : Int) + 1, day, f, t, amt, 0⟩ = (⟨b.Credit, mvL b.Subs f t amt, b.Entries ++ [⟨(b.Entries.length : Int) + 1, day, f, t, amt, 0⟩]⟩, 0) := by
  obtain ⟨k1, k2, k3, k4, k5⟩ := check_ok hb
  obtain ⟨q1, q2, q3, q4⟩ := check_keeps hb
  obtain ⟨hn, h0, _⟩ := numB_facts k4
  have mv : mvL b.Subs f t amt = adj (adj b.Subs f (-amt)) t amt := by rw [mvL, if_neg (by omega)]
  have b1 : badNum (lastE b).Number ⟨(b.Entries.length : Int) + 1, day, f, t, amt, 0⟩ = false := by simp [badNum, q2]
  have b2 : badDay (lastE b).Day ⟨(b.Entries.length : Int) + 1, day, f, t, amt, 0⟩ = false := by simp [badDay, amongB]; omega
  have b3 : badAmt ⟨(b.Entries.length : Int) + 1, day, f, t, amt, 0⟩ = false := by simp [badAmt, vB, amongB]; omega
  have b4 : badSub b.Subs ⟨(b.Entries.length : Int) + 1, day, f, t, amt, 0⟩ = false := by
    have h1 : knownB b.Subs f = true := (knownB_iff _ _).2 (.inr hf)
    have h2 : knownB b.Subs t = true := (knownB_iff _ _).2 (.inr ht)
    simp [badSub, h1, h2, hft]
  have o1 : okAt b.Credit (adj b.Subs f (-amt)) f = true := by
    refine List.all_eq_true.2 fun s hs => ?_
    obtain ⟨u, hu, rfl⟩ := List.mem_map.1 hs
    have ho := List.all_eq_true.1 q1 u hu
    have hbu := balI_mem hn hu
    by_cases e : u.ID = f
    · rw [e] at hbu
      simp only [okSub, e, if_true, Bool.and_eq_true, decide_eq_true_eq, decide_true, Bool.not_true, Bool.false_or] at ho ⊢
      omega
    · simp [e]
  have o2 : okAt b.Credit (adj (adj b.Subs f (-amt)) t amt) t = true := by
    refine List.all_eq_true.2 fun s hs => ?_
    obtain ⟨v, hv, rfl⟩ := List.mem_map.1 hs
    obtain ⟨u, hu, rfl⟩ := List.mem_map.1 hv
    have ho := List.all_eq_true.1 q1 u hu
    have hbu := balI_mem hn hu
    by_cases e : u.ID = t
    · have e2 : ¬ u.ID = f := fun h => hft (h.symm.trans e)
      rw [e] at hbu
      simp only [if_neg e2, if_pos e]
      simp only [okSub, e, Bool.and_eq_true, decide_eq_true_eq, decide_true, Bool.not_true, Bool.false_or] at ho ⊢
      omega
    · have : ¬ (if u.ID = f then (⟨u.ID, u.Balance + -amt⟩ : TSub) else u).ID = t := by split <;> exact e
      rw [if_neg this]
      simp [this]
  have : postS b.Credit (lastE b).Number (lastE b).Day b.Subs ⟨(b.Entries.length : Int) + 1, day, f, t, amt, 0⟩ = (0, adj (adj b.Subs f (-amt)) t amt) := by
    unfold postS
    simp only [b1, b2, b3, b4, o1, o2, Bool.false_eq_true, if_false, Bool.true_eq_false]
  rw [postA, if_pos hb, if_neg (by omega), this, mv]
  rfl

theorem postAll_snoc : ∀ (es : List TEntry) (a : TAccount) (e : TEntry) {b : TAccount}, postAll a es = (b, 0) → postAll a (es ++ [e]) = if (postA b e).2 = 0 then ((postA b e).1, 0) else (zeroA, (postA b e).2)
  | [], a, e, b, h => by
    have : a = b := congrArg Prod.fst h
    subst this
    rfl
  | x :: es, a, e, b, h => by
    rw [postAll] at h
    rw [List.cons_append, postAll]
    split at h
    · rename_i hp
      rw [if_pos hp]
      exact postAll_snoc es _ e h
    · rename_i hp
      have := congrArg Prod.snd h
      exact absurd this hp

def GoodE (day : Int) (e : TEntry) : Prop := e.From ≠ 0 ∧ e.To ≠ 0 ∧ (e.From = 1 ∨ e.To = 1) ∧ 1 ≤ e.Amount ∧ e.Ref = 0 ∧ e.Day = day
def givenE (l : List TEntry) : Int := sumE (fun e => if e.From = 1 then e.Amount else 0) l
def takenE (l : List TEntry) : Int := sumE (fun e => if e.From = 1 then 0 else e.Amount) l
theorem givenE_snoc (l : List TEntry) (e : TEntry) : givenE (l ++ [e]) = givenE l + if e.From = 1 then e.Amount else 0 := sumE_snoc _ _ _
theorem takenE_snoc (l : List TEntry) (e : TEntry) : takenE (l ++ [e]) = takenE l + if e.From = 1 then 0 else e.Amount := sumE_snoc _ _ _

structure SwH (a : TAccount) (l : List TKeep) (day : Int) : Prop where
  ok : checkA a = 0
  keeps : keepsB (ids a.Subs) 0 l = true
  small : ∀ i, balI a.Subs i ≤ 1000000000000
  len : l.length ≤ 20
  room : a.Entries.length + 2 * l.length ≤ 400
  day : (lastE a).Day ≤ day ∧ day ≤ 36000

def TK (a : TAccount) (l : List TKeep) (day : Int) (k : Nat) : Int × List TEntry := (l.take k).foldl (take1 (balI a.Subs) a.Entries.length day) (balI a.Subs 1, [])
def GK (a : TAccount) (l : List TKeep) (day : Int) (k : Nat) : Int × List TEntry := (l.take k).foldl (give1 (balI a.Subs) a.Entries.length day) (TK a l day l.length)
theorem TK_step {a : TAccount} {l : List TKeep} {day : Int} {k : Nat} {x : TKeep} (h : l[k]? = some x) : TK a l day (k + 1) = take1 (balI a.Subs) a.Entries.length day (TK a l day k) x := by
  rw [TK, take_snoc h, List.foldl_append]
  rfl
theorem GK_step {a : TAccount} {l : List TKeep} {day : Int} {k : Nat} {x : TKeep} (h : l[k]? = some x) : GK a l day (k + 1) = give1 (balI a.Subs) a.Entries.length day (GK a l day k) x := by
  rw [GK, take_snoc h, List.foldl_append]
  rfl
theorem planL_GK (a : TAccount) (l : List TKeep) (day : Int) : planL (balI a.Subs) a.Entries.length day l = GK a l day l.length := by
  rw [GK, TK, planL, List.take_length]

/-- An account behind the first entries of a sweep. -/
structure Behind (a b : TAccount) (day : Int) (es : List TEntry) : Prop where
  ok : checkA b = 0
  ids : ids b.Subs = ids a.Subs
  credit : b.Credit = a.Credit
  ents : b.Entries = a.Entries ++ es
  dayb : (lastE b).Day ≤ day
  post : postAll a es = (b, 0)
  good : ∀ e, e ∈ es → GoodE day e
theorem Behind.move {a b : TAccount} {day : Int} {es : List TEntry} (h : Behind a b day es) (hd : day ≤ 36000) (hlen : a.Entries.length + es.length < 400) {f t amt : Int} (ha : 0 < amt ∧ amt ≤ 1000000000000) (hf : f ∈ Go.Proofs.Ytcfkdimndhapfaa.ids a.Subs) (ht : t ∈ Go.Proofs.Ytcfkdimndhapfaa.ids a.Subs) (hft : f ≠ t) (h1 : f = 1 ∨ t = 1)
    (hmf : (if f = 1 then -b.Credit else 0) ≤ balI b.Subs f - amt) (hmt : balI b.Subs t + amt ≤ 1000000000000000) :
    ∃ b', Behind a b' day (es ++ [⟨(a.Entries.length : Int) + 1 + es.length, day, f, t, amt, 0⟩]) ∧ b'.Subs = mvL b.Subs f t amt := by
  have hbl : b.Entries.length = a.Entries.length + es.length := by rw [h.ents]; simp
  have hz := (numB_facts (check_ok h.ok).2.2.2.1).2.1
  have pm := post_move h.ok (by omega) (day := day) (f := f) (t := t) (amt := amt) ⟨h.dayb, hd⟩ ha (by rw [h.ids]; exact hf) (by rw [h.ids]; exact ht) hft hmf hmt
  have en : (b.Entries.length : Int) + 1 = (a.Entries.length : Int) + 1 + es.length := by omega
  rw [en] at pm
  have p2 : (postA b ⟨(a.Entries.length : Int) + 1 + es.length, day, f, t, amt, 0⟩).2 = 0 := by rw [pm]
  refine ⟨_, ⟨post_check p2, (post_ids p2).trans h.ids, (post_credit p2).trans h.credit, ?_, ?_, ?_, ?_⟩, by rw [pm]⟩
  · rw [post_ents p2, h.ents, List.append_assoc]
  · rw [lastE_post p2]
    exact Int.le_refl _
  · rw [postAll_snoc es a _ h.post, if_pos p2]
  · intro e he
    rcases List.mem_append.1 he with he | he
    · exact h.good e he
    · simp at he
      subst he
      refine ⟨fun e => hz ?_, fun e => hz ?_, h1, by dsimp only; omega, rfl, rfl⟩
      · have e : f = 0 := e
        rw [h.ids, ← e]; exact hf
      · have e : t = 0 := e
        rw [h.ids, ← e]; exact ht

structure S1 (a : TAccount) (l : List TKeep) (day : Int) (k : Nat) (b : TAccount) : Prop where
  be : Behind a b day (TK a l day k).2
  pi : PI1 (balI a.Subs) (ids a.Subs) (l.take k) (TK a l day k) (b.Subs, (TK a l day k).2)
  len : (TK a l day k).2.length ≤ k
  giv : givenE (TK a l day k).2 = 0
  tak : (TK a l day k).1 = balI a.Subs 1 + takenE (TK a l day k).2
  big : (TK a l day k).1 ≤ 1000000000000 + 1000000000000 * (k : Int)

theorem sub_ne {l : List TKeep} (hn : (l.map (·.Sub)).Nodup) {i j : Nat} {x y : TKeep} (hi : l[i]? = some x) (hj : l[j]? = some y) (h : ¬ i = j) : ¬ x.Sub = y.Sub := fun e => by
  have g1 : (l.map (·.Sub))[i]? = some x.Sub := by rw [List.getElem?_map, hi]; rfl
  have g2 : (l.map (·.Sub))[j]? = some x.Sub := by rw [List.getElem?_map, hj]; simp [e]
  exact h ((List.getElem?_inj (List.getElem?_eq_some_iff.1 g1).1 hn).1 (g1.trans g2.symm))
theorem take_ne {l : List TKeep} (hn : (l.map (·.Sub)).Nodup) {k : Nat} {x : TKeep} (hx : l[k]? = some x) : ∀ y, y ∈ l.take k → ¬ y.Sub = x.Sub := fun y hy => by
  obtain ⟨i, hi⟩ := List.getElem?_of_mem hy
  have hik := (List.getElem?_eq_some_iff.1 hi).1
  rw [List.length_take] at hik
  rw [List.getElem?_take, if_pos (by omega)] at hi
  exact sub_ne hn hi hx (by omega)
theorem drop_ne {l : List TKeep} (hn : (l.map (·.Sub)).Nodup) {k : Nat} {x : TKeep} (hx : l[k]? = some x) : ∀ y, y ∈ l.drop (k + 1) → ¬ y.Sub = x.Sub := fun y hy => by
  obtain ⟨i, hi⟩ := List.getElem?_of_mem hy
  rw [List.getElem?_drop] at hi
  exact sub_ne hn hi hx (by omega)

theorem SwH.one {a : TAccount} {l : List TKeep} {day : Int} (h : SwH a l day) : (1 : Int) ∈ ids a.Subs := by
  obtain ⟨_, _, hhd⟩ := numB_facts (check_ok h.ok).2.2.2.1
  exact List.mem_of_mem_head? (by rw [hhd]; simp)
theorem S1.step {a : TAccount} {l : List TKeep} {day : Int} (H : SwH a l day) {k : Nat} {b : TAccount} (h : S1 a l day k b) {x : TKeep} (hx : l[k]? = some x) : ∃ b', S1 a l day (k + 1) b' := by
  have km := keepsB_mem _ l 0 H.keeps
  have knd := keepsB_nodup _ l 0 H.keeps
  have kx := km x (List.mem_of_getElem? hx)
  have hkl := (List.getElem?_eq_some_iff.1 hx).1
  have hlen := H.len
  have hroom := H.room
  have pre := take_ne knd hx
  have hps := h.pi.step (n := a.Entries.length) (day := day) H.one kx.1 kx.2.1 pre (fun y hy => by have := km y (List.mem_of_mem_take hy); exact ⟨this.1, this.2.1⟩)
  rw [← TK_step hx, ← take_snoc hx] at hps
  have hb := h.pi.rest x.Sub kx.1 kx.2.1 pre
  dsimp only at hb
  have sm := H.small x.Sub
  have ts := TK_step (a := a) (day := day) hx
  unfold take1 at ts
  unfold ps1 at hps
  dsimp only at hps
  rw [hb] at hps
  have hl1 := h.len
  have hbig := h.big
  by_cases hc : x.High < balI a.Subs x.Sub
  · have hmin : min (balI a.Subs x.Sub - x.High) 1000000000000 = balI a.Subs x.Sub - x.High := by omega
    rw [if_pos hc, hmin] at ts
    rw [hmin] at hps
    obtain ⟨b', hb', hsub⟩ := h.be.move H.day.2 (by omega) (f := x.Sub) (t := 1) (amt := balI a.Subs x.Sub - x.High) (by omega) kx.1 H.one kx.2.1 (.inr rfl) (by rw [if_neg kx.2.1, hb]; omega) (by
      have := h.pi.main
      dsimp only at this
      rw [this]
      omega)
    refine ⟨b', ?_, ?_, ?_, ?_, ?_, ?_⟩
    · rw [ts]; exact hb'
    · rw [hsub]
      have : (mvE a.Entries.length day (TK a l day k).2 x.Sub 1 (balI a.Subs x.Sub - x.High)) = (TK a l day (k + 1)).2 := hps.ents
      rw [this] at hps
      exact hps
    · rw [ts]; simp; omega
    · rw [ts, givenE_snoc, h.giv, if_neg kx.2.1]; rfl
    · rw [ts, takenE_snoc, if_neg kx.2.1, h.tak]; dsimp only; omega
    · rw [ts]; dsimp only; omega
  · rw [if_neg hc] at ts
    have e0 : mvL b.Subs x.Sub 1 (min (balI a.Subs x.Sub - x.High) 1000000000000) = b.Subs := by rw [mvL, if_pos (by omega)]
    have e1 : mvE a.Entries.length day (TK a l day k).2 x.Sub 1 (min (balI a.Subs x.Sub - x.High) 1000000000000) = (TK a l day k).2 := by rw [mvE, if_pos (by omega)]
    rw [e0, e1] at hps
    refine ⟨b, ?_, ?_, ?_, ?_, ?_, ?_⟩
    · rw [ts]; exact h.be
    · rw [ts] at hps ⊢; exact hps
    · rw [ts]; omega
    · rw [ts]; exact h.giv
    · rw [ts]; exact h.tak
    · rw [ts]; omega
theorem sweep1 {a : TAccount} {l : List TKeep} {day : Int} (H : SwH a l day) : ∀ k, k ≤ l.length → ∃ b, S1 a l day k b
  | 0, _ => ⟨a, ⟨⟨H.ok, rfl, rfl, by simp [TK], H.day.1, rfl, by simp [TK]⟩, ⟨rfl, rfl, rfl, fun _ _ _ _ => rfl, by simp⟩, by simp [TK], by simp [TK, givenE, sumE], by simp [TK, takenE, sumE], by have := H.small 1; simp [TK]; omega⟩⟩
  | k + 1, hk => by
    obtain ⟨b, hb⟩ := sweep1 H k (by omega)
    exact hb.step H (List.getElem?_eq_getElem (by omega))

theorem shortL_congr {f g : Int → Int} : ∀ l : List TKeep, (∀ k, k ∈ l → missK f k = missK g k) → shortL f l = shortL g l
  | [], _ => rfl
  | k :: l, h => by
    have ih := shortL_congr l fun x hx => h x (List.mem_cons_of_mem _ hx)
    have e : ∀ f : Int → Int, shortL f (k :: l) = missK f k + shortL f l := fun f => by simp [shortL]
    rw [e, e, h k (by simp), ih]
theorem shortL_app (f : Int → Int) (l m : List TKeep) : shortL f (l ++ m) = shortL f l + shortL f m := by simp [shortL]

structure S2 (a : TAccount) (l : List TKeep) (day : Int) (k : Nat) (b : TAccount) : Prop where
  be : Behind a b day (GK a l day k).2
  main : balI b.Subs 1 = (GK a l day k).1
  left : ∀ x, x ∈ l.drop k → balI b.Subs x.Sub = low1 (balI a.Subs) x
  done : ∀ x, x ∈ l.take k → ∃ g, balI b.Subs x.Sub = low1 (balI a.Subs) x + g ∧ 0 ≤ g ∧ (0 < g → balI a.Subs x.Sub < x.Low ∧ low1 (balI a.Subs) x + g ≤ x.Low) ∧ (low1 (balI a.Subs) x + g < x.Low → (GK a l day k).1 ≤ 0)
  len : (GK a l day k).2.length ≤ l.length + k
  giv : (GK a l day k).1 = (TK a l day l.length).1 - givenE (GK a l day k).2
  tak : takenE (GK a l day k).2 = takenE (TK a l day l.length).2
  none : (TK a l day l.length).1 ≤ 0 → givenE (GK a l day k).2 = 0
  pos : 0 ≤ (TK a l day l.length).1 → 0 ≤ (GK a l day k).1
  short : shortL (balI b.Subs) l = shortL (balI a.Subs) l - givenE (GK a l day k).2
  rest : ∀ i, i ∈ ids a.Subs → ¬ i = 1 → (∀ x, x ∈ l → ¬ x.Sub = i) → balI b.Subs i = balI a.Subs i

theorem low1_small {bal : Int → Int} {x : TKeep} (h : bal x.Sub ≤ 1000000000000) (hh : 0 ≤ x.High) : low1 bal x = if x.High < bal x.Sub then x.High else bal x.Sub := by
  unfold low1
  split
  · omega
  · rfl
theorem S2.step {a : TAccount} {l : List TKeep} {day : Int} (H : SwH a l day) {k : Nat} {b : TAccount} (h : S2 a l day k b) {x : TKeep} (hx : l[k]? = some x) : ∃ b', S2 a l day (k + 1) b' := by
  have km := keepsB_mem _ l 0 H.keeps
  have knd := keepsB_nodup _ l 0 H.keeps
  have hxm := List.mem_of_getElem? hx
  have kx := km x hxm
  have hkl := (List.getElem?_eq_some_iff.1 hx).1
  have hlen := H.len
  have hroom := H.room
  have sm := H.small x.Sub
  have pre := take_ne knd hx
  have suf := drop_ne knd hx
  have hd : l.drop k = x :: l.drop (k + 1) := by
    have hx' := hx
    rw [List.getElem?_eq_getElem hkl] at hx'
    rw [List.drop_eq_getElem_cons hkl, Option.some.inj hx']
  have hlx := low1_small sm (by omega : 0 ≤ x.High)
  have hb : balI b.Subs x.Sub = low1 (balI a.Subs) x := h.left x (by rw [hd]; simp)
  have ts := GK_step (a := a) (day := day) hx
  unfold give1 at ts
  have hl1 := h.len
  by_cases hc : balI a.Subs x.Sub < x.Low ∧ 0 < min (x.Low - balI a.Subs x.Sub) (GK a l day k).1
  · rw [if_pos hc] at ts
    obtain ⟨amt, ha⟩ : ∃ amt, amt = min (x.Low - balI a.Subs x.Sub) (GK a l day k).1 := ⟨_, rfl⟩
    rw [← ha] at hc ts
    have hbx : low1 (balI a.Subs) x = balI a.Subs x.Sub := by rw [hlx, if_neg (by omega)]
    have bb := balI_bounds H.ok x.Sub
    have cr := (check_ok H.ok).2.2.1
    have nn : 0 ≤ balI a.Subs x.Sub := by
      obtain ⟨s, h1, h2, h3⟩ := find_some kx.1
      have ho := List.all_eq_true.1 (check_keeps H.ok).1 s h2
      rw [balI, h1]
      simp only [okSub, Bool.and_eq_true, decide_eq_true_eq] at ho
      rw [if_neg (by rw [h3]; exact kx.2.1)] at ho
      exact ho.1
    obtain ⟨b', hb', hsub⟩ := h.be.move H.day.2 (by omega) (f := 1) (t := x.Sub) (amt := amt) (by omega) H.one kx.1 (fun e => kx.2.1 e.symm) (.inl rfl) (by rw [if_pos rfl, h.main, h.be.credit]; omega) (by rw [hb, hbx]; omega)
    have hbal : ∀ i, i ∈ ids a.Subs → balI b'.Subs i = balI b.Subs i + ((if i = x.Sub then amt else 0) - (if i = 1 then amt else 0)) := fun i hi => by
      rw [hsub, balI_mvL (by rw [h.be.ids]; exact hi), if_neg (by omega)]
    have hne : ∀ y, y ∈ l → ¬ y.Sub = x.Sub → balI b'.Subs y.Sub = balI b.Subs y.Sub := fun y hy e => by
      have ky := km y hy
      rw [hbal _ ky.1, if_neg e, if_neg ky.2.1]
      omega
    have hbx' : balI b'.Subs x.Sub = balI a.Subs x.Sub + amt := by
      rw [hbal _ kx.1, hb, hbx, if_pos rfl, if_neg kx.2.1]
      omega
    have gv : givenE (GK a l day (k + 1)).2 = givenE (GK a l day k).2 + amt := by rw [ts, givenE_snoc]; simp
    refine ⟨b', ?_, ?_, ?_, ?_, ?_, ?_, ?_, ?_, ?_, ?_, ?_⟩
    · rw [ts]; exact hb'
    · rw [hbal 1 H.one, h.main, ts, if_neg (fun e => kx.2.1 e.symm), if_pos rfl]; dsimp only; omega
    · intro y hy
      rw [hne y (List.mem_of_mem_drop hy) (suf y hy)]
      exact h.left y (by rw [hd]; exact List.mem_cons_of_mem _ hy)
    · intro y hy
      rw [take_snoc hx] at hy
      rcases List.mem_append.1 hy with hy | hy
      · obtain ⟨g, g1, g2, g3, g4⟩ := h.done y hy
        refine ⟨g, by rw [hne y (List.mem_of_mem_take hy) (pre y hy), g1], g2, g3, fun hlt => ?_⟩
        have := g4 hlt
        omega
      · simp at hy
        subst hy
        refine ⟨amt, by rw [hbx', hbx], by omega, fun _ => ⟨hc.1, by rw [hbx]; omega⟩, fun hlt => ?_⟩
        rw [hbx] at hlt
        rw [ts]
        dsimp only
        omega
    · rw [ts]; simp; omega
    · rw [gv, ts]
      have := h.giv
      dsimp only
      omega
    · rw [ts, takenE_snoc]
      simp
      exact h.tak
    · intro h0
      have g1 := h.none h0
      have g2 := h.giv
      omega
    · intro h0
      have := h.pos h0
      rw [ts]
      dsimp only
      omega
    · have e1 : l = l.take k ++ (x :: l.drop (k + 1)) := by rw [← hd, List.take_append_drop]
      have e2 : ∀ f : Int → Int, shortL f l = shortL f (l.take k) + (missK f x + shortL f (l.drop (k + 1))) := fun f => by
        conv => lhs; rw [e1]
        rw [shortL_app]
        simp [shortL]
      have c1 : shortL (balI b'.Subs) (l.take k) = shortL (balI b.Subs) (l.take k) := shortL_congr _ fun y hy => by rw [missK, missK, hne y (List.mem_of_mem_take hy) (pre y hy)]
      have c2 : shortL (balI b'.Subs) (l.drop (k + 1)) = shortL (balI b.Subs) (l.drop (k + 1)) := shortL_congr _ fun y hy => by rw [missK, missK, hne y (List.mem_of_mem_drop hy) (suf y hy)]
      have c3 : missK (balI b'.Subs) x = missK (balI b.Subs) x - amt := by
        rw [missK, missK, hbx', hb, hbx]
        omega
      have := h.short
      rw [e2] at this
      rw [gv, e2, c1, c2, c3]
      omega
    · intro i hi hi1 hno
      rw [hbal i hi, if_neg (fun e => hno x hxm e.symm), if_neg hi1, h.rest i hi hi1 hno]
      omega
  · rw [if_neg hc] at ts
    refine ⟨b, ?_, ?_, ?_, ?_, ?_, ?_, ?_, ?_, ?_, ?_, h.rest⟩
    · rw [ts]; exact h.be
    · rw [ts]; exact h.main
    · intro y hy
      exact h.left y (by rw [hd]; exact List.mem_cons_of_mem _ hy)
    · intro y hy
      rw [ts]
      rw [take_snoc hx] at hy
      rcases List.mem_append.1 hy with hy | hy
      · exact h.done y hy
      · simp at hy
        subst hy
        refine ⟨0, by rw [hb]; omega, by omega, fun h => by omega, fun hlt => ?_⟩
        rw [hlx] at hlt
        split at hlt
        · omega
        · have : balI a.Subs y.Sub < y.Low := by omega
          have : ¬ 0 < min (y.Low - balI a.Subs y.Sub) (GK a l day k).1 := fun h => hc ⟨by assumption, h⟩
          omega
    · rw [ts]; omega
    · rw [ts]; exact h.giv
    · rw [ts]; exact h.tak
    · rw [ts]; exact h.none
    · rw [ts]; exact h.pos
    · rw [ts]; exact h.short
theorem sweep2 {a : TAccount} {l : List TKeep} {day : Int} (H : SwH a l day) : ∀ k, k ≤ l.length → ∃ b, S2 a l day k b
  | 0, _ => by
    obtain ⟨b, hb⟩ := sweep1 H l.length (Nat.le_refl _)
    have km := keepsB_mem _ l 0 H.keeps
    have g0 : GK a l day 0 = TK a l day l.length := rfl
    have pi := hb.pi
    rw [List.take_length] at pi
    refine ⟨b, by rw [g0]; exact hb.be, by rw [g0]; exact pi.main, fun x hx => pi.seen x (by simpa using hx), by simp, by rw [g0]; exact hb.len, by rw [g0, hb.giv]; omega, by rw [g0], fun _ => by rw [g0]; exact hb.giv, fun h => by rw [g0]; exact h, ?_, fun i hi hi1 hno => pi.rest i hi hi1 hno⟩
    rw [g0, hb.giv, Int.sub_zero]
    refine shortL_congr _ fun x hx => ?_
    have kx := km x hx
    have e : balI b.Subs x.Sub = low1 (balI a.Subs) x := pi.seen x hx
    rw [missK, missK, e, low1_small (H.small _) (by omega)]
    split <;> omega
  | k + 1, hk => by
    obtain ⟨b, hb⟩ := sweep2 H k (by omega)
    exact hb.step H (List.getElem?_eq_getElem (by omega))
end Go.Proofs.Ytcfkdimndhapfaa
