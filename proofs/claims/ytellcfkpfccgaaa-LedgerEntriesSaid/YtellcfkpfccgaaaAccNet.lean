/- Accounts: what a replay makes, in closed form, no program in sight. -/
import Derived.Test.YtellcfkpfccgaaaAcc8
set_option linter.unusedSimpArgs false
set_option linter.unusedVariables false
namespace Go.Proofs.Ytellcfkpfccgaaa
open Go.PA

def dE (id : Int) (e : TEntry) : Int := (if e.To = id then e.Amount else 0) - (if e.From = id then e.Amount else 0)
def netE (id : Int) (es : List TEntry) : Int := sumE (dE id) es
theorem sumE_cons (f : TEntry → Int) (e : TEntry) (l : List TEntry) : sumE f (e :: l) = f e + sumE f l := by simp [sumE]
theorem sumE_app (f : TEntry → Int) (l l' : List TEntry) : sumE f (l ++ l') = sumE f l + sumE f l' := by simp [sumE]
theorem postS_net {credit n d : Int} {l : List TSub} {e : TEntry} (h : (postS credit n d l e).1 = 0) : (postS credit n d l e).2 = l.map fun s => ⟨s.ID, s.Balance + dE s.ID e⟩ := by
  obtain ⟨_, _, _, _, _, _, _, hne, _, _, _, _, h2⟩ := postS_ok h
  rw [h2, adj, adj, List.map_map]
  apply List.map_congr_left
  intro s _
  simp only [Function.comp, dE]
  by_cases h1 : s.ID = e.From
  · have h3 : ¬ s.ID = e.To := fun h => hne (h1.symm.trans h)
    have h3' : ¬ e.To = s.ID := fun h => h3 h.symm
    simp [h1, h3, h3', hne, Ne.symm hne]; try omega
  · have h1' : ¬ e.From = s.ID := fun h => h1 h.symm
    by_cases h3 : s.ID = e.To
    · simp [h1, h3, h1', Ne.symm hne, hne]
    · have h3' : ¬ e.To = s.ID := fun h => h3 h.symm
      simp [h1, h3, h1', h3']
theorem replayS_net (credit : Int) : ∀ (es : List TEntry) (n d : Int) (l : List TSub) (r : Int × Int × List TSub), replayS credit n d l es = some r → r.2.2 = l.map fun s => ⟨s.ID, s.Balance + netE s.ID es⟩
  | [], n, d, l, r, h => by
    simp only [replayS, Option.some.injEq] at h
    subst h
    simp [netE, sumE]
  | e :: es, n, d, l, r, h => by
    rw [replayS] at h
    split at h
    · rename_i hp
      rw [replayS_net credit es _ _ _ r h, postS_net hp, List.map_map]
      apply List.map_congr_left
      intro s _
      simp only [Function.comp, netE, sumE_cons]
      congr 1
      omega
    · cases h
theorem zero_net (l : List TSub) (es : List TEntry) : ((zeroS l).map fun s => (⟨s.ID, s.Balance + netE s.ID es⟩ : TSub)) = (ids l).map fun i => ⟨i, netE i es⟩ := by
  simp [zeroS, ids, Function.comp_def]
theorem check_net {a : TAccount} (h : checkA a = 0) : a.Subs = (ids a.Subs).map fun i => ⟨i, netE i a.Entries⟩ := by
  obtain ⟨_, _, _, _, h5⟩ := check_ok h
  have := replayS_net _ _ _ _ _ _ h5
  rw [zero_net] at this
  exact this

theorem agree_one {H l : Heap} {n : Nat} (h : n < H.length) : Agree (fun id => decide (id = n)) H (H ++ l) := fun id hid => by
  have : id = n := by simpa using hid
  subst this
  exact List.getElem?_append_left h

theorem agree_1 {a : Option AObj} {l l' : Heap} : Agree (fun id => decide (id = 0)) (a :: l) (a :: l') := fun id hid => by
  have : id = 0 := by simpa using hid
  rcases id with _ | id
  · rfl
  · omega
theorem agree_2 {a b : Option AObj} {l l' : Heap} : Agree (fun id => decide (id < 2)) (a :: b :: l) (a :: b :: l') := fun id hid => by
  have : id < 2 := by simpa using hid
  rcases id with _ | _ | id
  · rfl
  · rfl
  · omega
theorem agree_2' {a b : Option AObj} {l l' : Heap} : Agree (fun id => decide (id = 1)) (a :: b :: l) (a :: b :: l') := fun id hid => by
  have : id = 1 := by simpa using hid
  subst this
  rfl

/-! ### Sums -/
def sumI (f : Int → Int) (l : List Int) : Int := (l.map f).sum
theorem sumI_cons (f : Int → Int) (i : Int) (l : List Int) : sumI f (i :: l) = f i + sumI f l := by simp [sumI]
theorem sumI_add (f g : Int → Int) : ∀ l : List Int, sumI (fun i => f i + g i) l = sumI f l + sumI g l
  | [] => by simp [sumI]
  | i :: l => by rw [sumI_cons, sumI_cons, sumI_cons, sumI_add f g l]; omega
theorem sumI_sub (f g : Int → Int) : ∀ l : List Int, sumI (fun i => f i - g i) l = sumI f l - sumI g l
  | [] => by simp [sumI]
  | i :: l => by rw [sumI_cons, sumI_cons, sumI_cons, sumI_sub f g l]; omega
theorem sumI_zero : ∀ l : List Int, sumI (fun _ => 0) l = 0
  | [] => by simp [sumI]
  | i :: l => by rw [sumI_cons, sumI_zero l]; omega
theorem sumI_one (x A : Int) : ∀ l : List Int, l.Nodup → sumI (fun i => if x = i then A else 0) l = if x ∈ l then A else 0
  | [], _ => by simp [sumI]
  | i :: l, h => by
    rw [List.nodup_cons] at h
    rw [sumI_cons, sumI_one x A l h.2]
    by_cases h1 : x = i
    · subst h1
      simp [h.1]
    · simp [h1]
/-- What an entry brings from outside, less what it takes there. -/
def ioE (e : TEntry) : Int := (if e.From = 0 then e.Amount else 0) - (if e.To = 0 then e.Amount else 0)
theorem sumI_dE {l : List Int} (hn : l.Nodup) (h0 : 0 ∉ l) {e : TEntry} (hf : e.From = 0 ∨ e.From ∈ l) (ht : e.To = 0 ∨ e.To ∈ l) : sumI (fun i => dE i e) l = ioE e := by
  unfold dE
  rw [sumI_sub, sumI_one _ _ _ hn, sumI_one _ _ _ hn, ioE]
  have k : ∀ x : Int, (x = 0 ∨ x ∈ l) → (if x ∈ l then e.Amount else 0) = e.Amount - (if x = 0 then e.Amount else 0) := fun x hx => by
    by_cases h : x = 0
    · subst h; simp [h0]
    · simp [h, hx.resolve_left h]
  rw [k _ hf, k _ ht]
  omega
theorem sumI_netE {l : List Int} (hn : l.Nodup) (h0 : 0 ∉ l) : ∀ es : List TEntry, (∀ e, e ∈ es → (e.From = 0 ∨ e.From ∈ l) ∧ (e.To = 0 ∨ e.To ∈ l)) → sumI (fun i => netE i es) l = sumE ioE es
  | [], _ => by simp [netE, sumE]; exact sumI_zero l
  | e :: es, h => by
    simp only [netE, sumE_cons]
    rw [sumI_add]
    have := sumI_netE hn h0 es fun x hx => h x (List.mem_cons_of_mem _ hx)
    simp only [netE] at this
    rw [this, sumI_dE hn h0 (h e (by simp)).1 (h e (by simp)).2]
theorem sumB_map (g : Int → Int) (l : List Int) : sumB (l.map fun i => ⟨i, g i⟩) = sumI g l := by simp [sumB, sumI, Function.comp_def]
theorem check_sum {a : TAccount} (h : checkA a = 0) : sumB a.Subs = sumE ioE a.Entries := by
  obtain ⟨_, _, _, h4, _⟩ := check_ok h
  obtain ⟨hn, h0, _⟩ := numB_facts h4
  rw [check_net h, sumB_map]
  exact sumI_netE hn h0 _ fun e he => (check_mem h e he).2.2.2.2.2
theorem total_sum {a : TAccount} (h : checkA a = 0) : totalA a = sumE ioE a.Entries := by rw [totalA, if_pos h, check_sum h]

/-- Entries of a right account: their days. -/
theorem check_days {a : TAccount} (h : checkA a = 0) : ∀ e, e ∈ a.Entries → 0 ≤ e.Day ∧ e.Day ≤ 36000 := by
  obtain ⟨_, _, _, _, h5⟩ := check_ok h
  exact replayS_days _ _ _ _ _ _ (Int.le_refl _) h5
theorem sumE_congr {f g : TEntry → Int} : ∀ l : List TEntry, (∀ e, e ∈ l → f e = g e) → sumE f l = sumE g l
  | [], _ => rfl
  | e :: l, h => by rw [sumE_cons, sumE_cons, h e (by simp), sumE_congr l fun x hx => h x (List.mem_cons_of_mem _ hx)]
theorem sumE_sub (f g : TEntry → Int) : ∀ l : List TEntry, sumE (fun e => f e - g e) l = sumE f l - sumE g l
  | [] => by simp [sumE]
  | e :: l => by rw [sumE_cons, sumE_cons, sumE_cons, sumE_sub f g l]; omega
theorem sumE_add (f g : TEntry → Int) : ∀ l : List TEntry, sumE (fun e => f e + g e) l = sumE f l + sumE g l
  | [] => by simp [sumE]
  | e :: l => by rw [sumE_cons, sumE_cons, sumE_cons, sumE_add f g l]; omega
theorem flow_all {a : TAccount} (h : checkA a = 0) : sumE ioE a.Entries = (flowA a 0 36000).1 - (flowA a 0 36000).2 := by
  rw [flowA, if_pos h, ← sumE_sub]
  apply sumE_congr
  intro e he
  have hd := check_days h e he
  have : amongB e.Day 0 36000 = true := amongB_iff.2 hd
  simp [ioE, inF, outF, this]
theorem flow_split {a : TAccount} (h : checkA a = 0) {k : Int} (hk : 0 ≤ k ∧ k < 36000) : (flowA a 0 k).1 + (flowA a (k + 1) 36000).1 = (flowA a 0 36000).1 ∧ (flowA a 0 k).2 + (flowA a (k + 1) 36000).2 = (flowA a 0 36000).2 := by
  simp only [flowA, if_pos h]
  rw [← sumE_add, ← sumE_add]
  constructor <;> apply sumE_congr <;> intro e he <;> have hd := check_days h e he <;> simp only [inF, outF, amongB_iff]
  · by_cases h1 : e.From = 0
    · simp only [h1, and_true]
      by_cases h2 : e.Day ≤ k
      · rw [if_pos (by omega), if_neg (by omega), if_pos (by omega)]; omega
      · rw [if_neg (by omega), if_pos (by omega), if_pos (by omega)]; omega
    · simp [h1]
  · by_cases h1 : e.To = 0
    · simp only [h1, and_true]
      by_cases h2 : e.Day ≤ k
      · rw [if_pos (by omega), if_neg (by omega), if_pos (by omega)]; omega
      · rw [if_neg (by omega), if_pos (by omega), if_pos (by omega)]; omega
    · simp [h1]
/-- What flowed up to a day is what the entries up to it brought. -/
theorem flow_until (credit : Int) (k : Int) : ∀ (es : List TEntry) (n d : Int) (l : List TSub) (r : Int × Int × List TSub), 0 ≤ d → replayS credit n d l es = some r → sumE (inF 0 k) es - sumE (outF 0 k) es = sumE ioE (es.takeWhile (early k))
  | [], n, d, l, r, hd, h => by simp [sumE]
  | e :: es, n, d, l, r, hd, h => by
    have hall := replayS_days credit (e :: es) n d l r hd h
    rw [replayS] at h
    split at h
    · rename_i hp
      have hde := hall e (by simp)
      by_cases h1 : e.Day ≤ k
      · rw [List.takeWhile_cons_of_pos (by simpa [early] using h1), sumE_cons, sumE_cons, sumE_cons, ← flow_until credit k es _ _ _ r (by omega) h]
        have : amongB e.Day 0 k = true := amongB_iff.2 (by omega)
        simp only [inF, outF, ioE, this, true_and]
        omega
      · rw [List.takeWhile_cons_of_neg (by simpa [early] using h1)]
        have hz := replayS_days credit es _ _ _ r (by omega) h
        have z : ∀ x, x ∈ e :: es → amongB x.Day 0 k = false := fun x hx => by
          rw [← Bool.not_eq_true, amongB_iff]
          rcases List.mem_cons.1 hx with rfl | hx
          · omega
          · have := hz x hx
            omega
        rw [sumE_congr (g := fun _ => 0) (e :: es) fun x hx => by simp [inF, z x hx], sumE_congr (f := outF 0 k) (g := fun _ => 0) (e :: es) fun x hx => by simp [outF, z x hx]]
        simp [sumE]
    · cases h
/-- What At gives: balances that add up to what flowed, and are right. -/
theorem at_facts {a : TAccount} (h : checkA a = 0) (k : Int) : sumB (atA a k) = (flowA a 0 k).1 - (flowA a 0 k).2 ∧ okAll a.Credit (atA a k) = true ∧ ids (atA a k) = ids a.Subs := by
  obtain ⟨x, hx, hu⟩ := until_replay h k
  have tA : atA a k = x.2.2 := by rw [atA, if_pos h, hu]
  obtain ⟨_, _, h3, h4, h5⟩ := check_ok h
  obtain ⟨hn, h0, _⟩ := numB_facts h4
  have kp := replayS_keeps a.Credit _ 0 0 (zeroS a.Subs) _ (zeroS_all h3.1 _) hx
  refine ⟨?_, ?_, ?_⟩
  · have hm : ∀ e, e ∈ a.Entries.takeWhile (early k) → e ∈ a.Entries := fun e he => (List.takeWhile_sublist _).mem he
    rw [tA, replayS_net _ _ _ _ _ _ hx, zero_net, sumB_map, sumI_netE hn h0 _ fun e he => (check_mem h e (hm e he)).2.2.2.2.2, flowA, if_pos h]
    exact (flow_until a.Credit k a.Entries 0 0 _ _ (Int.le_refl _) h5).symm
  · rw [tA]; exact kp.1
  · rw [tA, kp.2.1, zeroS_ids]
theorem at_end {a : TAccount} (h : checkA a = 0) : atA a 36000 = a.Subs := by
  obtain ⟨x, hx, hu⟩ := until_replay h 36000
  obtain ⟨_, _, h3, h4, h5⟩ := check_ok h
  have : a.Entries.takeWhile (early 36000) = a.Entries := takeWhile_all _ _ fun e he => by simpa [early] using (check_days h e he).2
  rw [replayW, this, h5] at hx
  rw [atA, if_pos h, hu, ← Option.some.inj hx]

/-! ### What an entry does to a right account -/
theorem post_ok {a : TAccount} {e : TEntry} (h : (postA a e).2 = 0) : checkA a = 0 ∧ a.Entries.length < 400 ∧ (postS a.Credit (lastE a).Number (lastE a).Day a.Subs e).1 = 0 ∧ (postA a e).1 = ⟨a.Credit, (postS a.Credit (lastE a).Number (lastE a).Day a.Subs e).2, a.Entries ++ [e]⟩ := by
  unfold postA at h ⊢
  by_cases c1 : checkA a = 0
  · rw [if_pos c1] at h ⊢
    by_cases c2 : a.Entries.length = 400
    · rw [if_pos c2] at h; simp at h
    · rw [if_neg c2] at h ⊢
      by_cases c3 : (postS a.Credit (lastE a).Number (lastE a).Day a.Subs e).1 = 0
      · rw [if_pos c3]
        have := (check_ok c1).2.1
        exact ⟨c1, by omega, c3, rfl⟩
      · rw [if_neg c3] at h
        exact absurd h c3
  · rw [if_neg c1] at h
    exact absurd h c1
theorem post_check {a : TAccount} {e : TEntry} (h : (postA a e).2 = 0) : checkA (postA a e).1 = 0 := by
  obtain ⟨c1, c2, c3, c4⟩ := post_ok h
  obtain ⟨k1, k2, k3, k4, k5⟩ := check_ok c1
  rw [c4]
  have hi := postS_ids a.Credit (lastE a).Number (lastE a).Day a.Subs e
  have hl : (postS a.Credit (lastE a).Number (lastE a).Day a.Subs e).2.length = a.Subs.length := by rw [← ids_len, hi, ids_len]
  have hz : zeroS (postS a.Credit (lastE a).Number (lastE a).Day a.Subs e).2 = zeroS a.Subs := by
    have : ∀ l : List TSub, zeroS l = (ids l).map fun i => ⟨i, 0⟩ := fun l => by simp [zeroS, ids, Function.comp_def]
    rw [this, this, hi]
  refine check_mk (n := e.Number) (d := e.Day) (by dsimp only; omega) (by simp; omega) k3 (by dsimp only; rw [hi]; exact k4) ?_
  dsimp only
  rw [hz, replayS_app, k5]
  simp only [Option.bind_some, replayS, c3, if_true]
theorem lastE_post {a : TAccount} {e : TEntry} (h : (postA a e).2 = 0) : lastE (postA a e).1 = e := by
  rw [(post_ok h).2.2.2, lastE]
  simp
theorem post_ids {a : TAccount} {e : TEntry} (h : (postA a e).2 = 0) : ids (postA a e).1.Subs = ids a.Subs := by
  rw [(post_ok h).2.2.2]
  exact postS_ids _ _ _ _ _
theorem post_ents {a : TAccount} {e : TEntry} (h : (postA a e).2 = 0) : (postA a e).1.Entries = a.Entries ++ [e] := by rw [(post_ok h).2.2.2]
theorem post_credit {a : TAccount} {e : TEntry} (h : (postA a e).2 = 0) : (postA a e).1.Credit = a.Credit := by rw [(post_ok h).2.2.2]

/-- An account as the source makes it. -/
structure GenAcc (n : Nat) (a : TAccount) : Prop where
  ok : checkA a = 0
  ids : ids a.Subs = [1, 2, 3, 7]
  len : a.Entries.length ≤ n
  day : (lastE a).Day ≤ 2 * (n : Int)
  small : ∀ e, e ∈ a.Entries → e.Amount ≤ 500
  cred : a.Credit ≤ 100
theorem GenAcc.post {n : Nat} {a : TAccount} {e : TEntry} (h : GenAcc n a) (hp : (postA a e).2 = 0) (hd : e.Day ≤ 2 * ((n : Int) + 1)) (ha : e.Amount ≤ 500) : GenAcc (n + 1) (postA a e).1 := by
  refine ⟨post_check hp, (post_ids hp).trans h.ids, ?_, ?_, ?_, by rw [post_credit hp]; exact h.cred⟩
  · rw [post_ents hp]; have := h.len; simp; omega
  · rw [lastE_post hp]; omega
  · rw [post_ents hp]
    intro x hx
    rcases List.mem_append.1 hx with hx | hx
    · exact h.small x hx
    · simp at hx; subst hx; exact ha
theorem GenAcc.mono {n m : Nat} {a : TAccount} (h : GenAcc n a) (hm : n ≤ m) : GenAcc m a := ⟨h.ok, h.ids, by have := h.len; omega, by have := h.day; omega, h.small, h.cred⟩
theorem GenAcc.slen {n : Nat} {a : TAccount} (h : GenAcc n a) : a.Subs.length = 4 := by rw [← ids_len, h.ids]; rfl
theorem dE_small {id : Int} {e : TEntry} (h : 0 < e.Amount ∧ e.Amount ≤ 500) : -500 ≤ dE id e ∧ dE id e ≤ 500 := by
  unfold dE
  split <;> split <;> omega
theorem netE_small (id : Int) : ∀ es : List TEntry, (∀ e, e ∈ es → 0 < e.Amount ∧ e.Amount ≤ 500) → -(500 * (es.length : Int)) ≤ netE id es ∧ netE id es ≤ 500 * (es.length : Int)
  | [], _ => by simp [netE, sumE]
  | e :: es, h => by
    have h1 := netE_small id es fun x hx => h x (List.mem_cons_of_mem _ hx)
    have h2 := dE_small (id := id) (h e (by simp))
    simp only [netE, sumE_cons, List.length_cons] at h1 ⊢
    omega
theorem GenAcc.bal {n : Nat} {a : TAccount} (h : GenAcc n a) : ∀ s, s ∈ a.Subs → -(500 * (n : Int)) ≤ s.Balance ∧ s.Balance ≤ 500 * (n : Int) := fun s hs => by
  rw [check_net h.ok] at hs
  obtain ⟨i, _, rfl⟩ := List.mem_map.1 hs
  have := netE_small i a.Entries fun e he => ⟨(check_mem h.ok e he).1, h.small e he⟩
  have := h.len
  dsimp only
  omega
theorem GenAcc.open {c : Int} (hc : 0 ≤ c ∧ c ≤ 100) : GenAcc 0 (newA [1, 2, 3, 7] c) ∧ openA [1, 2, 3, 7] c = (newA [1, 2, 3, 7] c, 0) := by
  have hv : vB c = true := by simp [vB, amongB]; omega
  have hb : numB [1, 2, 3, 7] = true := by decide
  refine ⟨⟨check_mk (n := 0) (d := 0) (by simp [newA, newS]) (by simp [newA]) (by simp [newA]; omega) (by simp only [newA, newS_ids]; exact hb) (by simp [newA, newS, zeroS, replayS]), by simp [newA, newS_ids], by simp [newA], by simp [newA, lastE], by simp [newA], by simp [newA]; omega⟩, ?_⟩
  unfold openA
  rw [if_pos hv, if_neg (by simp), if_pos hb]

/-! ### Bent accounts -/
theorem bent_sub {a : TAccount} (h : checkA a = 0) {l : List TSub} (hi : ids l = ids a.Subs) (hne : l ≠ a.Subs) : checkA ⟨a.Credit, l, a.Entries⟩ = 62 := by
  obtain ⟨k1, k2, k3, k4, k5⟩ := check_ok h
  have hl : l.length = a.Subs.length := by rw [← ids_len, hi, ids_len]
  have hz : zeroS l = zeroS a.Subs := by
    have : ∀ l : List TSub, zeroS l = (ids l).map fun i => ⟨i, 0⟩ := fun l => by simp [zeroS, ids, Function.comp_def]
    rw [this, this, hi]
  have hv : vB a.Credit = true := by simpa [vB, amongB] using k3
  unfold checkA
  dsimp only
  rw [if_neg (by omega), if_neg (by simp [hv, hi, k4]), hz, k5]
  exact if_neg fun h => hne h.symm
theorem sumE_set (f : TEntry → Int) : ∀ (l : List TEntry) (i : Nat) (e e' : TEntry), l[i]? = some e → sumE f (l.set i e') = sumE f l - f e + f e'
  | [], i, e, e', h => by simp at h
  | x :: l, 0, e, e', h => by
    simp at h
    subst h
    simp only [List.set_cons_zero, sumE_cons]
    omega
  | x :: l, i + 1, e, e', h => by
    simp only [List.getElem?_cons_succ] at h
    rw [List.set_cons_succ, sumE_cons, sumE_cons, sumE_set f l i e e' h]
    omega
theorem bent_entry {a : TAccount} (h : checkA a = 0) {i : Nat} {e : TEntry} (hi : a.Entries[i]? = some e) : checkA ⟨a.Credit, a.Subs, a.Entries.set i ⟨e.Number, e.Day, e.From, e.To, e.Amount + 1, e.Ref⟩⟩ = 62 := by
  obtain ⟨k1, k2, k3, k4, k5⟩ := check_ok h
  have hv : vB a.Credit = true := by simpa [vB, amongB] using k3
  unfold checkA
  dsimp only
  rw [if_neg (by simp; omega), if_neg (by simp [hv, k4])]
  split
  · rfl
  · rename_i r hr
    refine if_neg fun he => ?_
    have hn := replayS_net _ _ _ _ _ _ hr
    rw [he, zero_net, check_net h] at hn
    have hids : ids ((ids a.Subs).map fun i => (⟨i, netE i a.Entries⟩ : TSub)) = ids a.Subs := by simp [ids, Function.comp_def]
    rw [hids] at hn
    have key : ∀ id, id ∈ ids a.Subs → netE id a.Entries = netE id (a.Entries.set i ⟨e.Number, e.Day, e.From, e.To, e.Amount + 1, e.Ref⟩) := fun id hid => by
      have := List.map_inj_left.1 hn id hid
      simpa using this
    obtain ⟨_, _, _, _, hne, hf, ht⟩ := check_mem h e (List.mem_of_getElem? hi)
    by_cases h0 : e.To = 0
    · have hf' : e.From ∈ ids a.Subs := hf.resolve_left fun h => hne (h.trans h0.symm)
      have := key _ hf'
      rw [netE, netE, sumE_set _ _ _ _ _ hi] at this
      simp only [dE, if_true, if_neg (Ne.symm hne)] at this
      omega
    · have := key _ (ht.resolve_left h0)
      rw [netE, netE, sumE_set _ _ _ _ _ hi] at this
      simp only [dE, if_true, if_neg hne] at this
      omega
theorem total_bad {a : TAccount} (h : checkA a = 62) : totalA a = 0 := by rw [totalA, if_neg (by omega)]
end Go.Proofs.Ytellcfkpfccgaaa
