/- Several texts of this claim, joined: Law26d. -/
import Derived.Test.YtmpncdlhmknkoaaGreatPk8
set_option linter.unusedSimpArgs false
set_option linter.unusedVariables false
set_option linter.unusedSimpArgs false
set_option linter.unusedVariables false
namespace Go.Proofs.YtmpncdlhmknkoaaGreat
open Go.PA
open Go.RowKit
def goneI (x : TItem) : Int := if goneB x = true then x.Payment.Amount else 0
def paidI (x : TItem) : Int := if x.State = 3 then x.Payment.Amount else 0
def movI (e : TEntry) : Int := (if e.Ref ≠ 0 ∧ e.To = 0 then e.Amount else 0) - (if e.Ref ≠ 0 ∧ e.From = 0 then e.Amount else 0)
def sgI (p : TPayment) (e : TEntry) : Int := (if outE p e = true then p.Amount else 0) - (if inE p e = true then p.Amount else 0)
theorem sumM_take {α : Type} (f : α → Int) {l : List α} {k : Nat} {x : α} (h : l[k]? = some x) : ((l.take (k + 1)).map f).sum = ((l.take k).map f).sum + f x := by
  rw [take_at h, List.map_append, List.sum_append, List.map_cons, List.map_nil, List.sum_cons, List.sum_nil, Int.add_zero]
theorem sumM_bound {α : Type} (f : α → Int) (a b : Int) : ∀ l : List α, (∀ x, x ∈ l → a ≤ f x ∧ f x ≤ b) → a * (l.length : Int) ≤ (l.map f).sum ∧ (l.map f).sum ≤ b * (l.length : Int)
  | [], _ => by simp
  | x :: l, h => by
    have h1 := h x (by simp)
    have h2 := sumM_bound f a b l fun y hy => h y (by simp [hy])
    rw [List.map_cons, List.sum_cons, List.length_cons, Int.natCast_add, Int.mul_add, Int.mul_add]
    simp only [Int.natCast_one, Int.mul_one]
    omega
theorem sumM_zero {α : Type} (f : α → Int) : ∀ l : List α, (∀ x, x ∈ l → f x = 0) → (l.map f).sum = 0
  | [], _ => rfl
  | x :: l, h => by rw [List.map_cons, List.sum_cons, h x (by simp), sumM_zero f l fun y hy => h y (by simp [hy]), Int.add_zero]
theorem sumM_congr {α : Type} (f g : α → Int) : ∀ l : List α, (∀ x, x ∈ l → f x = g x) → (l.map f).sum = (l.map g).sum
  | [], _ => rfl
  | x :: l, h => by rw [List.map_cons, List.sum_cons, h x (by simp), sumM_congr f g l fun y hy => h y (by simp [hy]), List.map_cons, List.sum_cons]
theorem sumM_le {α : Type} (f g : α → Int) : ∀ l : List α, (∀ x, x ∈ l → f x ≤ g x) → (l.map f).sum ≤ (l.map g).sum
  | [], _ => by simp
  | x :: l, h => by
    have h1 := h x (by simp)
    have h2 := sumM_le f g l fun y hy => h y (by simp [hy])
    rw [List.map_cons, List.sum_cons, List.map_cons, List.sum_cons]
    omega
theorem sumM_add {α : Type} (f g : α → Int) : ∀ l : List α, (l.map fun x => f x + g x).sum = (l.map f).sum + (l.map g).sum
  | [] => rfl
  | x :: l => by simp only [List.map_cons, List.sum_cons, sumM_add f g l]; omega
theorem sumM_swap {α β : Type} (f : α → β → Int) (l : List α) : ∀ es : List β, (es.map fun e => (l.map fun x => f x e).sum).sum = (l.map fun x => (es.map (f x)).sum).sum
  | [] => by rw [List.map_nil, List.sum_nil]; exact (sumM_zero _ l fun x _ => rfl).symm
  | e :: es => by
    rw [List.map_cons, List.sum_cons, sumM_swap f l es, ← sumM_add]
    exact sumM_congr _ _ l fun x _ => by rw [List.map_cons, List.sum_cons]
theorem sumM_one (f : TItem → Int) : ∀ (l : List TItem), (l.map wrt).Nodup → ∀ x, x ∈ l → (∀ y, y ∈ l → y.Payment.Warrant ≠ x.Payment.Warrant → f y = 0) → (l.map f).sum = f x
  | [], _, x, hx, _ => by cases hx
  | a :: l, hn, x, hx, h => by
    rw [List.map_cons, List.nodup_cons] at hn
    rw [List.map_cons, List.sum_cons]
    rcases List.mem_cons.1 hx with rfl | hx
    · rw [sumM_zero f l fun y hy => h y (by simp [hy]) fun e => hn.1 (List.mem_map.2 ⟨y, hy, e⟩), Int.add_zero]
    · rw [h a (by simp) fun e => hn.1 (List.mem_map.2 ⟨x, hx, e.symm⟩), sumM_one f l hn.2 x hx fun y hy => h y (by simp [hy]), Int.zero_add]
theorem sg_sum (p : TPayment) : ∀ es : List TEntry, (es.map (sgI p)).sum = ((es.countP (outE p) : Int) - (es.countP (inE p) : Int)) * p.Amount
  | [] => by simp
  | e :: es => by
    have ih := sg_sum p es
    rw [Int.sub_mul] at ih
    rw [List.map_cons, List.sum_cons, ih, List.countP_cons, List.countP_cons, sgI, Int.sub_mul, Int.natCast_add, Int.natCast_add, Int.add_mul, Int.add_mul]
    split <;> split <;> simp <;> omega
theorem sg_mov {d : TDesk} (hd : DOk d) {e : TEntry} (he : e ∈ d.Account.Entries) (hr : e.Ref = 0 ∨ e.Ref ∈ d.Queue.Known) : movI e = (d.Items.map fun x => sgI x.Payment e).sum := by
  rcases hr with h0 | hk
  · rw [sumM_zero _ _ fun x hx => ?_]
    · simp [movI, h0]
    · have := (hd.io hx).pay.warrant.1
      have : ¬ e.Ref = x.Payment.Warrant := by omega
      simp [sgI, outE, inE, this]
  · rw [← hd.k] at hk
    obtain ⟨x, hx, ew⟩ := List.mem_map.1 hk
    have ew : x.Payment.Warrant = e.Ref := ew
    rw [sumM_one _ _ hd.nd x hx fun y hy hne => ?_]
    · obtain ⟨e1, e2, e3⟩ := entry_out (hd.io hx) he
      have ea := e3 ew.symm
      have hw := (hd.io hx).pay.warrant.1
      have hn : e.Ref ≠ 0 := by omega
      have t1 : decide (e.Ref = x.Payment.Warrant) = true := decide_eq_true ew.symm
      rw [t1, Bool.true_and] at e1 e2
      rw [movI, sgI, ← e1, ← e2, ea]
      simp [hn]
    · have : ¬ e.Ref = y.Payment.Warrant := fun h => hne (by omega)
      simp [sgI, outE, inE, this]
theorem mov_gone {d : TDesk} (hd : DOk d) (hr : ∀ e, e ∈ d.Account.Entries → e.Ref = 0 ∨ e.Ref ∈ d.Queue.Known) : (d.Account.Entries.map movI).sum = (d.Items.map goneI).sum := by
  rw [sumM_congr _ _ _ fun e he => sg_mov hd he (hr e he), sumM_swap (fun (x : TItem) e => sgI x.Payment e)]
  refine sumM_congr _ _ _ fun x hx => ?_
  have io := hd.io hx
  rw [sg_sum, io.outs, goneI]
  have h1 := io.ins
  have : x.Attempts - (d.Account.Entries.countP (inE x.Payment) : Int) = goneN x := by omega
  rw [this, goneN]
  split <;> simp
theorem paid_fold : ∀ (l : List TItem) (s : Int), 0 ≤ s ∧ s ≤ 1000000000 → l.length ≤ 1000 → (∀ x, x ∈ l → 0 ≤ paidI x ∧ paidI x ≤ 100) → s + (l.map paidI).sum ≤ 1000000000 → l.foldl addPaid s = s + (l.map paidI).sum
  | [], s, _, _, _, _ => by simp
  | x :: l, s, hs, hl, h, hb => by
    have h1 := h x (by simp)
    have h2 : ∀ y, y ∈ l → 0 ≤ paidI y ∧ paidI y ≤ 100 := fun y hy => h y (by simp [hy])
    have h3 := (sumM_bound paidI 0 100 l h2).1
    rw [List.map_cons, List.sum_cons] at hb ⊢
    have e : addPaid s x = s + paidI x := by
      unfold addPaid paidI
      unfold paidI at h1 hb
      split
      · rename_i h3
        rw [if_pos h3] at h1 hb
        exact wrap_in _ (by omega)
      · omega
    rw [List.foldl_cons, e, paid_fold l _ (by omega) (by simp at hl; omega) h2 (by omega)]
    omega
set_option maxHeartbeats 8000000 in
theorem sums26_pf (xs : List Int) (hx : Small xs) (hl : xs.length ≤ 9223372036854775807) : PFun Tryz.prog none none 6 [intsL xs] (· = bv true) := by
  refine pfun_introA Tryz.func6 rfl (by simp [Tryz.f6]) ?_
  intro E hP hr hs hW hN
  refine awp_cut (by rw [hN]; kernel_rfl) ?_
  simp [go_sem, hP]
  refine awp_cut (by rw [hN]; kernel_rfl) ?_
  simp [go_sem, hP]
  have hnew : POwn Tryz.prog E.row E.src 9 [intsL xs] 81 2 (· = [[intsL (xs.take 900), iv 0]]) := by rw [hr, hs]; exact new_pf xs hl
  refine callB_own hnew hP en_9 (args_same (by simp [go_sem, intsL])) (by simp [srefs_imm, go_sem, intsL]) ⟨_, rfl⟩ ?_
  rintro es rfl
  simp [go_sem, hP]
  refine awp_adopt 3 (ty := 81) (xs := xs.take 900) (at_ := 0) hr hs hW (by simp [go_sem]) (by simp [go_sem, intsL]) (by omega) (by simp; omega) (fun x hx' => hx x (List.mem_of_mem_take hx')) (by rw [hN]; kernel_rfl) ?_
  intro E' p hP' hr' hN' hW'
  rw [hP] at hP'
  rw [hN] at hN'
  clear hnew hP hr hs hW hN E
  rename Env => E
  rename E.P = _ => hP
  rename E.row = _ => hr
  rename E.N = _ => hN
  rename (∀ b, ¬ E.W b) => hW
  obtain ⟨src, hs⟩ : ∃ src, E.src = src := ⟨_, rfl⟩
  have up : ∀ {f : FuncId} {args : List AV} {Q : AV → Prop}, PFun Tryz.prog (some p) src f args Q → PFun Tryz.prog E.row E.src f args Q := fun h => hr ▸ hs ▸ h
  have saneB : ∀ {H : Heap} {C : AV → Heap → Prop} {b : Bx C}, C (bv true) H → CallB E 15 [] H C b := fun h => callB_pure sane26_pf hP en_15 (args_nil.2 trivial) .sc h
  simp -dsimp -implicitDefEqProofs [-getElem?_pos, go_sem, hP]
  refine callB_isQ (up (desk_pf p src 16 (by omega))) hP en_16 (by simp [go_sem]) (DeskQ_ex 16) ?_
  rintro r ⟨d, day, rfl, hg⟩ _
  have hd := hg.ok
  have rp := rpaid_pf d hd.fit
  have id' := imm_desk d
  obtain ⟨l, hl'⟩ : ∃ l, l = d.Items := ⟨_, rfl⟩
  obtain ⟨es, hes⟩ : ∃ es, es = d.Account.Entries := ⟨_, rfl⟩
  have li : l.length ≤ 12 := by
    have h1 := congrArg List.length hd.k
    have := hg.known
    rw [List.length_map] at h1
    rw [hl', h1]; exact this
  have le : es.length ≤ 168 := by rw [hes]; have := hg.len; omega
  have eg : ∀ x, x ∈ l → 0 ≤ goneI x ∧ goneI x ≤ 100 := fun x hx => by
    rw [hl'] at hx
    have h1 := (hg.pays x hx).2
    have h2 := (hd.io hx).pay.amount.1
    unfold goneI
    split <;> omega
  have ep : ∀ x, x ∈ l → 0 ≤ paidI x ∧ paidI x ≤ 100 := fun x hx => by
    rw [hl'] at hx
    have h1 := (hg.pays x hx).2
    have h2 := (hd.io hx).pay.amount.1
    unfold paidI
    split <;> omega
  have em : ∀ e, e ∈ es → -500 ≤ movI e ∧ movI e ≤ 500 := fun e he => by
    rw [hes] at he
    have h1 := hg.small e he
    have h2 := (check_mem hd.a e he).1
    unfold movI
    split <;> split <;> omega
  have ea : ∀ e, e ∈ es → 0 < e.Amount ∧ e.Amount ≤ 500 := fun e he => by
    rw [hes] at he
    exact ⟨(check_mem hd.a e he).1, hg.small e he⟩
  have mg := mov_gone hd hg.refs
  have sp' := (sumM_bound paidI 0 100 l ep).2
  have hp' : paidD d = (l.map paidI).sum := by
    rw [paidD, if_pos (checkD_iff.2 hd), ← hl']
    have h0 := (sumM_bound paidI 0 100 l ep).1
    have h100 : (100 : Int) * (l.length : Int) ≤ 1200 := by omega
    rw [paid_fold l 0 (by omega) (by omega) ep (by omega), Int.zero_add]
  have hle : (l.map paidI).sum ≤ (l.map goneI).sum := sumM_le _ _ _ fun x hx => by
    have h2 := eg x hx
    unfold goneI goneB at *
    unfold paidI
    by_cases h3 : x.State = 3
    · simp [h3]
    · rw [if_neg h3]; exact h2.1
  rw [← hes, ← hl'] at mg
  rw [hp'] at rp
  rw [cDn] at rp id'
  simp -dsimp -implicitDefEqProofs [-getElem?_pos, go_sem, hP, cDn, ← hl']
  obtain ⟨I, hI⟩ : ∃ I : Nat → St → Prop, I = fun m s => ∃ k : Nat, k ≤ l.length ∧ m = l.length - k ∧ s.t 3 = sp p ∧ s.t 4 = .ref 1 0 0 ∧ s.t 6 = iv ((l.take k).map goneI).sum ∧ s.t 7 = iv ((l.take k).map paidI).sum ∧ s.t 8 = iv 0 ∧ s.t 21 = itemsL l ∧ s.t 22 = iv l.length ∧ s.t 23 = iv k ∧ s.H[1]? = some (some (deskO d)) := ⟨_, rfl⟩
  refine aloop0 I (l.length) (by rw [hN]; rfl) ?_ ?_
  · rw [hI]
    exact ⟨0, by omega, by omega, by simp -dsimp -implicitDefEqProofs [-getElem?_pos, go_sem], by simp -dsimp -implicitDefEqProofs [-getElem?_pos, go_sem], by simp -dsimp -implicitDefEqProofs [-getElem?_pos, go_sem], by simp -dsimp -implicitDefEqProofs [-getElem?_pos, go_sem], by simp -dsimp -implicitDefEqProofs [-getElem?_pos, go_sem], by simp -dsimp -implicitDefEqProofs [-getElem?_pos, go_sem], by simp -dsimp -implicitDefEqProofs [-getElem?_pos, go_sem], by simp -dsimp -implicitDefEqProofs [-getElem?_pos, go_sem], (by simp -dsimp -implicitDefEqProofs [-getElem?_pos, go_sem]; rw [hl'])⟩
  intro m s hs'
  rw [hI] at hs'
  obtain ⟨k, hk, hm, t3, t4, t6, t7, t8, t21, t22, t23, h0⟩ := hs'
  subst hm
  have lt0 := (List.getElem?_eq_some_iff.1 h0).1
  simp -dsimp -implicitDefEqProofs [-getElem?_pos, go_sem, hP, t22, t23]
  refine condP (fun hh => ?_) (fun hh => ?_)
  · have hk : k < l.length := by simpa using hh
    obtain ⟨y, hy⟩ : ∃ y, l[k]? = some y := ⟨_, List.getElem?_eq_getElem hk⟩
    have wk := wrap_in ((k : Int) + 1) (by omega)
    have bg := sumM_bound goneI 0 100 (l.take k) fun x hx => eg x (List.mem_of_mem_take hx)
    have bp := sumM_bound paidI 0 100 (l.take k) fun x hx => ep x (List.mem_of_mem_take hx)
    rw [List.length_take, Nat.min_eq_left (Nat.le_of_lt hk)] at bg bp
    have sg := sumM_take goneI hy
    have sp1 := sumM_take paidI hy
    have gy := eg y (List.mem_of_getElem? hy)
    have py := ep y (List.mem_of_getElem? hy)
    obtain ⟨G, hG⟩ : ∃ G, G = ((l.take k).map goneI).sum := ⟨_, rfl⟩
    obtain ⟨S, hS⟩ : ∃ S, S = ((l.take k).map paidI).sum := ⟨_, rfl⟩
    rw [← hG] at bg sg t6
    rw [← hS] at bp sp1 t7
    have k0 : k ≤ 12 := by omega
    have wg := wrap_in (G + y.Payment.Amount)
    have wp := wrap_in (S + y.Payment.Amount)
    have fin : ∀ s' : St, s'.t 3 = sp p → s'.t 4 = .ref 1 0 0 → s'.t 6 = iv (G + goneI y) → s'.t 7 = iv (S + paidI y) → s'.t 8 = iv 0 → s'.t 21 = itemsL l → s'.t 22 = iv l.length → s'.t 23 = iv (k + 1) → (∃ z, s'.H = s.H ++ z) → ∃ m', m' < l.length - k ∧ I m' s' := fun s' a1 a2 a3 a4 a5 a6 a7 a8 ⟨z, hz⟩ => by
      refine ⟨l.length - (k + 1), by omega, ?_⟩
      rw [hI]
      exact ⟨k + 1, by omega, rfl, a1, a2, by rw [a3, sg], by rw [a4, sp1], a5, a6, a7, a8, by rw [hz, List.getElem?_append_left lt0]; exact h0⟩
    rcases (show y.State = 2 ∨ y.State = 3 ∨ (¬ y.State = 2 ∧ ¬ y.State = 3) by omega) with s2 | s3 | ⟨s2, s3⟩
    · have e1 : goneI y = y.Payment.Amount := by simp [goneI, goneB, s2]
      have e2 : paidI y = 0 := by simp [paidI, s2]
      rw [e1] at gy fin
      rw [e2, Int.add_zero] at fin
      have wg := wg (by omega)
      simp -dsimp -implicitDefEqProofs [-getElem?_pos, go_sem, hP, t21, t23, hy, cIt, s2, cPy, t6, wg, wk]
      exact fin _ (by simp -dsimp -implicitDefEqProofs [-getElem?_pos, go_sem, t3]) (by simp -dsimp -implicitDefEqProofs [-getElem?_pos, go_sem, t4]) (by simp -dsimp -implicitDefEqProofs [-getElem?_pos, go_sem]) (by simp -dsimp -implicitDefEqProofs [-getElem?_pos, go_sem, t7]) (by simp -dsimp -implicitDefEqProofs [-getElem?_pos, go_sem, t8]) (by simp -dsimp -implicitDefEqProofs [-getElem?_pos, go_sem, t21]) (by simp -dsimp -implicitDefEqProofs [-getElem?_pos, go_sem, t22]) (by simp -dsimp -implicitDefEqProofs [-getElem?_pos, go_sem]) ⟨_, rfl⟩
    · have e1 : goneI y = y.Payment.Amount := by simp [goneI, goneB, s3]
      have e2 : paidI y = y.Payment.Amount := by simp [paidI, s3]
      rw [e1] at gy fin
      rw [e2] at fin
      have wg := wg (by omega)
      have wp := wp (by omega)
      simp -dsimp -implicitDefEqProofs [-getElem?_pos, go_sem, hP, t21, t23, hy, cIt, s3, cPy, t6, wg, t7, wp, wk]
      exact fin _ (by simp -dsimp -implicitDefEqProofs [-getElem?_pos, go_sem, t3]) (by simp -dsimp -implicitDefEqProofs [-getElem?_pos, go_sem, t4]) (by simp -dsimp -implicitDefEqProofs [-getElem?_pos, go_sem]) (by simp -dsimp -implicitDefEqProofs [-getElem?_pos, go_sem]) (by simp -dsimp -implicitDefEqProofs [-getElem?_pos, go_sem, t8]) (by simp -dsimp -implicitDefEqProofs [-getElem?_pos, go_sem, t21]) (by simp -dsimp -implicitDefEqProofs [-getElem?_pos, go_sem, t22]) (by simp -dsimp -implicitDefEqProofs [-getElem?_pos, go_sem]) ⟨_, rfl⟩
    · have e1 : goneI y = 0 := by simp [goneI, goneB, s2, s3]
      have e2 : paidI y = 0 := by simp [paidI, s3]
      have d2 := decide_eq_false s2
      have d3 := decide_eq_false s3
      rw [e1, e2, Int.add_zero, Int.add_zero] at fin
      simp -dsimp -implicitDefEqProofs [-getElem?_pos, go_sem, hP, t21, t23, hy, cIt, s2, s3, d2, d3, wk]
      exact fin _ (by simp -dsimp -implicitDefEqProofs [-getElem?_pos, go_sem, t3]) (by simp -dsimp -implicitDefEqProofs [-getElem?_pos, go_sem, t4]) (by simp -dsimp -implicitDefEqProofs [-getElem?_pos, go_sem, t6]) (by simp -dsimp -implicitDefEqProofs [-getElem?_pos, go_sem, t7]) (by simp -dsimp -implicitDefEqProofs [-getElem?_pos, go_sem, t8]) (by simp -dsimp -implicitDefEqProofs [-getElem?_pos, go_sem, t21]) (by simp -dsimp -implicitDefEqProofs [-getElem?_pos, go_sem, t22]) (by simp -dsimp -implicitDefEqProofs [-getElem?_pos, go_sem]) ⟨_, rfl⟩
  have hk : k = l.length := by simp at hh; omega
  subst hk
  rw [List.take_length] at t6 t7
  obtain ⟨G, hG⟩ : ∃ G, G = (l.map goneI).sum := ⟨_, rfl⟩
  obtain ⟨S, hS⟩ : ∃ S, S = (l.map paidI).sum := ⟨_, rfl⟩
  rw [← hG] at t6 mg hle
  rw [← hS] at t7 rp hle
  simp -dsimp -implicitDefEqProofs [-getElem?_pos, go_sem, hP, t4, h0, lt0, cA, ← hes]
  obtain ⟨J, hJ⟩ : ∃ I : Nat → St → Prop, I = fun m s => ∃ k : Nat, k ≤ es.length ∧ m = es.length - k ∧ s.t 4 = .ref 1 0 0 ∧ s.t 6 = iv G ∧ s.t 7 = iv S ∧ s.t 8 = iv ((es.take k).map movI).sum ∧ s.t 51 = entsL es ∧ s.t 52 = iv es.length ∧ s.t 53 = iv k ∧ s.H[1]? = some (some (deskO d)) := ⟨_, rfl⟩
  refine aloop0 J (es.length) (by rw [hN]; rfl) ?_ ?_
  · rw [hJ]
    exact ⟨0, by omega, by omega, by simp -dsimp -implicitDefEqProofs [-getElem?_pos, go_sem, t4], by simp -dsimp -implicitDefEqProofs [-getElem?_pos, go_sem, t6], by simp -dsimp -implicitDefEqProofs [-getElem?_pos, go_sem, t7], by simp -dsimp -implicitDefEqProofs [-getElem?_pos, go_sem, t8], by simp -dsimp -implicitDefEqProofs [-getElem?_pos, go_sem], by simp -dsimp -implicitDefEqProofs [-getElem?_pos, go_sem], by simp -dsimp -implicitDefEqProofs [-getElem?_pos, go_sem], by simp -dsimp -implicitDefEqProofs [-getElem?_pos, go_sem, h0]⟩
  clear t3 t4 t6 t7 t8 t21 t22 t23 h0 lt0
  intro m s hs'
  rw [hJ] at hs'
  obtain ⟨k, hk, hm, t4, t6, t7, t8, t51, t52, t53, h0⟩ := hs'
  subst hm
  have lt0 := (List.getElem?_eq_some_iff.1 h0).1
  simp -dsimp -implicitDefEqProofs [-getElem?_pos, go_sem, hP, t52, t53]
  refine condP (fun hh => ?_) (fun hh => ?_)
  · have hk : k < es.length := by simpa using hh
    obtain ⟨e, hee⟩ : ∃ e, es[k]? = some e := ⟨_, List.getElem?_eq_getElem hk⟩
    have wk := wrap_in ((k : Int) + 1) (by omega)
    have bm := sumM_bound movI (-500) 500 (es.take k) fun x hx => em x (List.mem_of_mem_take hx)
    rw [List.length_take, Nat.min_eq_left (Nat.le_of_lt hk)] at bm
    have sm := sumM_take movI hee
    have ae := ea e (List.mem_of_getElem? hee)
    obtain ⟨M, hM⟩ : ∃ M, M = ((es.take k).map movI).sum := ⟨_, rfl⟩
    rw [← hM] at bm sm t8
    have fin : ∀ s' : St, s'.t 4 = .ref 1 0 0 → s'.t 6 = iv G → s'.t 7 = iv S → s'.t 8 = iv (M + movI e) → s'.t 51 = entsL es → s'.t 52 = iv es.length → s'.t 53 = iv (k + 1) → (∃ z, s'.H = s.H ++ z) → ∃ m', m' < es.length - k ∧ J m' s' := fun s' a1 a2 a3 a4 a5 a6 a7 ⟨z, hz⟩ => by
      refine ⟨es.length - (k + 1), by omega, ?_⟩
      rw [hJ]
      exact ⟨k + 1, by omega, rfl, a1, a2, a3, by rw [a4, sm], a5, a6, a7, by rw [hz, List.getElem?_append_left lt0]; exact h0⟩
    have w1 := wrap_in (M + e.Amount) (by omega)
    have w2 := wrap_in (M - e.Amount) (by omega)
    have w3 := wrap_in M (by omega)
    by_cases c1 : e.Ref = 0
    · have e1 : movI e = 0 := by simp [movI, c1]
      rw [e1, Int.add_zero] at fin
      simp -dsimp -implicitDefEqProofs [-getElem?_pos, go_sem, hP, t51, t53, hee, cE, c1, wk]
      exact fin _ (by simp -dsimp -implicitDefEqProofs [-getElem?_pos, go_sem, t4]) (by simp -dsimp -implicitDefEqProofs [-getElem?_pos, go_sem, t6]) (by simp -dsimp -implicitDefEqProofs [-getElem?_pos, go_sem, t7]) (by simp -dsimp -implicitDefEqProofs [-getElem?_pos, go_sem, t8]) (by simp -dsimp -implicitDefEqProofs [-getElem?_pos, go_sem, t51]) (by simp -dsimp -implicitDefEqProofs [-getElem?_pos, go_sem, t52]) (by simp -dsimp -implicitDefEqProofs [-getElem?_pos, go_sem]) ⟨_, rfl⟩
    have d1 := decide_eq_false c1
    by_cases c2 : e.To = 0
    · by_cases c3 : e.From = 0
      · have e1 : movI e = e.Amount - e.Amount := by simp [movI, c1, c2, c3]
        rw [e1, ← Int.add_sub_assoc] at fin
        simp -dsimp -implicitDefEqProofs [-getElem?_pos, go_sem, hP, t51, t53, hee, cE, c1, d1, c2, c3, t8, w1, w3, wk]
        exact fin _ (by simp -dsimp -implicitDefEqProofs [-getElem?_pos, go_sem, t4]) (by simp -dsimp -implicitDefEqProofs [-getElem?_pos, go_sem, t6]) (by simp -dsimp -implicitDefEqProofs [-getElem?_pos, go_sem, t7]) (by simp -dsimp -implicitDefEqProofs [-getElem?_pos, go_sem, w3]) (by simp -dsimp -implicitDefEqProofs [-getElem?_pos, go_sem, t51]) (by simp -dsimp -implicitDefEqProofs [-getElem?_pos, go_sem, t52]) (by simp -dsimp -implicitDefEqProofs [-getElem?_pos, go_sem]) ⟨_, rfl⟩
      · have d3 := decide_eq_false c3
        have e1 : movI e = e.Amount := by simp [movI, c1, c2, c3]
        rw [e1] at fin
        simp -dsimp -implicitDefEqProofs [-getElem?_pos, go_sem, hP, t51, t53, hee, cE, c1, d1, c2, c3, d3, t8, w1, wk]
        exact fin _ (by simp -dsimp -implicitDefEqProofs [-getElem?_pos, go_sem, t4]) (by simp -dsimp -implicitDefEqProofs [-getElem?_pos, go_sem, t6]) (by simp -dsimp -implicitDefEqProofs [-getElem?_pos, go_sem, t7]) (by simp -dsimp -implicitDefEqProofs [-getElem?_pos, go_sem, w3]) (by simp -dsimp -implicitDefEqProofs [-getElem?_pos, go_sem, t51]) (by simp -dsimp -implicitDefEqProofs [-getElem?_pos, go_sem, t52]) (by simp -dsimp -implicitDefEqProofs [-getElem?_pos, go_sem]) ⟨_, rfl⟩
    · have d2 := decide_eq_false c2
      by_cases c3 : e.From = 0
      · have e1 : movI e = -e.Amount := by simp [movI, c1, c2, c3]
        rw [e1, ← Int.sub_eq_add_neg] at fin
        simp -dsimp -implicitDefEqProofs [-getElem?_pos, go_sem, hP, t51, t53, hee, cE, c1, d1, c2, d2, c3, t8, w2, wk]
        exact fin _ (by simp -dsimp -implicitDefEqProofs [-getElem?_pos, go_sem, t4]) (by simp -dsimp -implicitDefEqProofs [-getElem?_pos, go_sem, t6]) (by simp -dsimp -implicitDefEqProofs [-getElem?_pos, go_sem, t7]) (by simp -dsimp -implicitDefEqProofs [-getElem?_pos, go_sem, w3]) (by simp -dsimp -implicitDefEqProofs [-getElem?_pos, go_sem, t51]) (by simp -dsimp -implicitDefEqProofs [-getElem?_pos, go_sem, t52]) (by simp -dsimp -implicitDefEqProofs [-getElem?_pos, go_sem]) ⟨_, rfl⟩
      · have d3 := decide_eq_false c3
        have e1 : movI e = 0 := by simp [movI, c1, c2, c3]
        rw [e1, Int.add_zero] at fin
        simp -dsimp -implicitDefEqProofs [-getElem?_pos, go_sem, hP, t51, t53, hee, cE, c1, d1, c2, d2, c3, d3, wk]
        exact fin _ (by simp -dsimp -implicitDefEqProofs [-getElem?_pos, go_sem, t4]) (by simp -dsimp -implicitDefEqProofs [-getElem?_pos, go_sem, t6]) (by simp -dsimp -implicitDefEqProofs [-getElem?_pos, go_sem, t7]) (by simp -dsimp -implicitDefEqProofs [-getElem?_pos, go_sem, t8]) (by simp -dsimp -implicitDefEqProofs [-getElem?_pos, go_sem, t51]) (by simp -dsimp -implicitDefEqProofs [-getElem?_pos, go_sem, t52]) (by simp -dsimp -implicitDefEqProofs [-getElem?_pos, go_sem]) ⟨_, rfl⟩
  have hk : k = es.length := by simp at hh; omega
  subst hk
  rw [List.take_length, mg] at t8
  have d1 := decide_eq_true hle
  simp -dsimp -implicitDefEqProofs [-getElem?_pos, go_sem, hP, t8, t6, t4, h0, lt0]
  refine callB_is (rp.lift _ _) hP en_30 (by simpa using id') .sc ?_
  simp -dsimp -implicitDefEqProofs [-getElem?_pos, go_sem, hP, t7, t6, hle, d1]
  refine saneB ?_
  simp -dsimp -implicitDefEqProofs [-getElem?_pos, go_sem, hP]
end Go.Proofs.YtmpncdlhmknkoaaGreat
