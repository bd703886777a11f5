/- TopCarries. -/
import Derived.Test.YtmkhcmiplleghaaGreatDoorCar8
import Derived.Test.YtmkhcmiplleghaaGreatDoorAwake
set_option linter.unusedSimpArgs false
set_option linter.unusedVariables false
namespace Go.Proofs.YtmkhcmiplleghaaGreatDoor
open Go.PA
open Go.RowKit

theorem sumT_succ {α : Type} (f : α → Int) {l : List α} {k : Nat} {x : α} (hx : l[k]? = some x) : ((l.take (k + 1)).map f).sum = ((l.take k).map f).sum + f x := by
  rw [List.take_add_one, hx]
  simp
theorem sumT_le {α : Type} (f : α → Int) (B : Int) : ∀ l : List α, (∀ x, x ∈ l → 0 ≤ f x ∧ f x ≤ B) → 0 ≤ (l.map f).sum ∧ (l.map f).sum ≤ B * (l.length : Int)
  | [], _ => by simp
  | x :: l, h => by
    have ih := sumT_le f B l fun y hy => h y (by simp [hy])
    have := h x (by simp)
    rw [List.map_cons, List.sum_cons, List.length_cons, Int.natCast_succ, Int.mul_add]
    omega
theorem sumT_take {α : Type} (f : α → Int) (B : Int) (hB : 0 ≤ B) (l : List α) (n : Nat) (hn : l.length ≤ n) (h : ∀ x, x ∈ l → 0 ≤ f x ∧ f x ≤ B) (k : Nat) : 0 ≤ ((l.take k).map f).sum ∧ ((l.take k).map f).sum ≤ B * (n : Int) := by
  have h1 := sumT_le f B (l.take k) fun x hx => h x (List.mem_of_mem_take hx)
  have h2 : B * ((l.take k).length : Int) ≤ B * (n : Int) := Int.mul_le_mul_of_nonneg_left (by simp; omega) hB
  omega
theorem carSt_sum {A : List TOpen} {left : List TLeft} (hA : ∀ x, x ∈ A → OpOk x) (hf : GenLf 4 left) : ∀ k, k ≤ A.length → CarryOk (left.map (·.Code)) (sumLf left) (sumO (A.take k)) k (carSt A left k)
  | 0, _ => carry_start left hf.nodup fun x hx => by
      have := hf.am x hx
      simp only [List.mem_cons, List.not_mem_nil, or_false] at this
      omega
  | k + 1, h => by
    have hd := carSt_sum hA hf k (by omega)
    obtain ⟨x, hx⟩ : ∃ x, A[k]? = some x := ⟨_, List.getElem?_eq_getElem (by omega)⟩
    rw [carSt_succ hx, show sumO (A.take (k + 1)) = sumO (A.take k) + x.Amount from sumT_succ _ hx]
    exact carryStep_ok hf.nodup hd (hA x (List.mem_of_getElem? hx))
theorem sumO_perm {A l : List TOpen} (h : A.Perm l) : sumO A = sumO l := by
  induction h with
  | nil => rfl
  | cons x _ ih => simp only [sumO, List.map_cons, List.sum_cons] at ih ⊢; omega
  | swap x y l => simp only [sumO, List.map_cons, List.sum_cons]; omega
  | trans _ _ h1 h2 => omega
def sumT {α : Type} (f : α → Int) (l : List α) (k : Nat) : Int := ((l.take k).map f).sum
theorem sumT_0 {α : Type} (f : α → Int) (l : List α) : sumT f l 0 = 0 := rfl
theorem sumT_all {α : Type} (f : α → Int) (l : List α) : sumT f l l.length = (l.map f).sum := by rw [sumT, List.take_length]
def aO (x : TOpen) : Int := x.Amount
def aL (x : TLeft) : Int := x.Amount
def aC (x : TCarry) : Int := x.Amount
theorem sumT_step {α : Type} (f : α → Int) {l : List α} {k : Nat} {x : α} (hl : l.length ≤ 9) (h : ∀ x, x ∈ l → 0 ≤ f x ∧ f x ≤ 1000) (hx : l[k]? = some x) : ∃ V v, V = sumT f l k ∧ v = f x ∧ sumT f l (k + 1) = V + v ∧ IntKind.i64.wrap (V + v) = V + v := by
  have h1 := sumT_take f 1000 (by omega) l 9 hl h (k + 1)
  rw [sumT_succ f hx] at h1
  exact ⟨_, _, rfl, rfl, sumT_succ f hx, wrap_in _ (by unfold sumT; omega)⟩
/-- What a carrying over comes to. -/
theorem carries_sums {A l : List TOpen} {left : List TLeft} (hp : A.Perm l) (hA : ∀ x, x ∈ A → OpOk x) (hf : GenLf 4 left) {t : CarrySt} (ht : t = carSt A left A.length) {B : List TOpen} (hB : B.Perm t.c) :
    sumK (linesOf B) + sumLf (lapsedOf t.r left) = sumLf left ∧ sumK (linesOf B) + sumO t.s = sumO l := by
  have ok := carSt_sum hA hf A.length (Nat.le_refl _)
  rw [List.take_length, ← ht] at ok
  have e1 := (lines_ok B fun x hx => (ok.car x (hB.subset hx)).am).1
  rw [e1, sumO_perm hB, lapsed_sum fun c => (ok.pos c).1, ← sumO_perm hp]
  have := ok.tot
  have := ok.sum
  omega
set_option maxHeartbeats 8000000 in
set_option maxRecDepth 8000 in
theorem carries45_pf (xs : List Int) (hx : Small xs) (hl : xs.length ≤ 9223372036854775807) : PFun Tryz.prog none none 3 [intsL xs] (· = bv true) := by
  refine pfun_introA Tryz.func3 rfl (by simp [Tryz.f3]) ?_
  intro E hP hr hs hW hN
  refine awp_cut (by rw [hN]; kernel_rfl) ?_
  simp [go_sem, hP]
  refine awp_cut (by rw [hN]; kernel_rfl) ?_
  simp [go_sem, hP]
  have hnew : POwn Tryz.prog E.row E.src 4 [intsL xs] 46 2 (· = [[intsL (xs.take 900), iv 0]]) := by rw [hr, hs]; exact new_pf xs hl
  refine callB_own hnew hP en_4 (args_same (by simp [go_sem, intsL])) (by simp [srefs_imm, go_sem, intsL]) ⟨_, rfl⟩ ?_
  rintro es rfl
  simp [go_sem, hP]
  refine awp_adopt 3 (ty := 46) (xs := xs.take 900) (at_ := 0) hr hs hW (by simp [go_sem]) (by simp [go_sem, intsL]) (by omega) (by simp; omega) (fun x hx' => hx x (List.mem_of_mem_take hx')) (by rw [hN]; kernel_rfl) ?_
  intro E' p hP' hr' hN' hW'
  rw [hP] at hP'
  rw [hN] at hN'
  clear hnew hP hr hs hW hN E
  rename Env => E
  rename E.P = _ => hP
  rename E.row = _ => hr
  rename E.N = _ => hN
  rename (∀ b, ¬ E.W b) => hW
  obtain ⟨src, hs⟩ : ∃ src, E.src = src := ⟨_, rfl⟩
  have up : ∀ {f : FuncId} {args : List AV} {Q : AV → Prop}, PFun Tryz.prog (some p) src f args Q → PFun Tryz.prog E.row E.src f args Q := fun h => hr ▸ hs ▸ h

  simp -dsimp -implicitDefEqProofs [-getElem?_pos, go_sem, hP]
  refine callB_isQ (up (sopens_pf p src 9 (by omega))) hP en_5 (by simp -dsimp -implicitDefEqProofs [-getElem?_pos, go_sem]) (opensQ_ex 9) ?_
  rintro r ⟨l, rfl, l9, hg⟩ _
  simp -dsimp -implicitDefEqProofs [-getElem?_pos, go_sem, hP]
  refine callB_isQ (up (slefts_pf p src)) hP en_6 (by simp -dsimp -implicitDefEqProofs [-getElem?_pos, go_sem]) leftsQ_ex ?_
  rintro r ⟨left, rfl, hf⟩ _
  have hcd : ∀ x, x ∈ l → OpOk x := fun x hx => by
    obtain ⟨i, hi⟩ := List.getElem?_of_mem hx
    exact (hg.ok l9 hi).1
  have lf4 : left.length ≤ 4 := by
    have := hf.sub.length_le
    simpa [codes4] using this
  obtain ⟨A, hA, cy⟩ := carry_pf l left hg l9 hf
  have hAo : ∀ x, x ∈ A → OpOk x := fun x hx => hcd x (hA.subset hx)
  obtain ⟨t, ht⟩ : ∃ t, t = carSt A left A.length := ⟨_, rfl⟩
  have ok := carSt_sum hAo hf A.length (Nat.le_refl _)
  rw [← ht, hA.length_eq] at ok
  have cy2 : PFun Tryz.prog none none 7 [opensL l, leftsL left] (· = .tup [.agg [opensL t.c, opensL t.s, leftsL (lapsedOf t.r left)], iv 0]) := cy.mono fun x hx => by
    obtain ⟨t', e1, e2⟩ := hx
    rw [e2, e1, ht]
  obtain ⟨lc, ls⟩ := ok.len
  obtain ⟨B, hB, ln⟩ := clines_pf t.c t.s (lapsedOf t.r left) (by omega) ok.car
  obtain ⟨q1, q2⟩ := carries_sums hA hAo hf ht hB
  obtain ⟨_, z2, z3⟩ := lines_ok B fun x hx => (ok.car x (hB.subset hx)).am
  rw [hB.length_eq] at z2 z3
  obtain ⟨P, hP'⟩ : ∃ P, P = lapsedOf t.r left := ⟨_, rfl⟩
  obtain ⟨Z, hZ⟩ : ∃ Z, Z = linesOf B := ⟨_, rfl⟩
  obtain ⟨C, hC⟩ : ∃ C, C = t.c := ⟨_, rfl⟩
  obtain ⟨S, hS⟩ : ∃ S, S = t.s := ⟨_, rfl⟩
  have lp4 : P.length ≤ 4 := by
    rw [hP', lapsedOf, List.length_map]
    exact Nat.le_trans (List.length_filter_le _ _) lf4
  have bP : ∀ x, x ∈ P → 0 ≤ x.Amount ∧ x.Amount ≤ 1000 := fun x hx => by
    rw [hP', lapsedOf] at hx
    obtain ⟨y, _, rfl⟩ := List.mem_map.1 hx
    exact ok.pos _
  have bZ : ∀ x, x ∈ Z → 0 ≤ x.Amount ∧ x.Amount ≤ 1000 := fun x hx => by
    have := z2 x (hZ ▸ hx)
    omega
  have bl : ∀ x, x ∈ l → 0 ≤ x.Amount ∧ x.Amount ≤ 1000 := fun x hx => by
    have := (hcd x hx).am
    omega
  have bS : ∀ x, x ∈ S → 0 ≤ x.Amount ∧ x.Amount ≤ 1000 := fun x hx => by
    have := ok.sh x (hS ▸ hx)
    omega
  have bf : ∀ x, x ∈ left → 0 ≤ x.Amount ∧ x.Amount ≤ 1000 := fun x hx => by
    have := hf.am x hx
    simp only [List.mem_cons, List.not_mem_nil, or_false] at this
    omega
  have lZ : Z.length ≤ 9 := by rw [hZ]; omega
  have lS : S.length ≤ 9 := by rw [hS]; omega
  rw [← hP', ← hC, ← hS] at cy2 ln
  rw [← hZ] at ln
  rw [← hZ, ← hP'] at q1
  rw [← hZ, ← hS] at q2
  have i1 := imm_opens l
  have i2 := imm_lefts left
  have i3 := imm_opens C
  have i4 := imm_opens S
  have i5 := imm_lefts P
  have i6 := imm_carries Z
  simp -dsimp -implicitDefEqProofs [-getElem?_pos, go_sem, hP]
  refine callB_is (cy2.lift _ _) hP en_7 (by simp only [List.mem_cons, List.not_mem_nil, or_false]; rintro a (rfl | rfl); exact i1; exact i2) (by simp [go_sem, i3, i4, i5]) ?_
  simp -dsimp -implicitDefEqProofs [-getElem?_pos, go_sem, hP]
  refine callB_is (ln.lift _ _) hP en_8 (by simp [go_sem, i3, i4, i5]) (by simp [go_sem, i6]) ?_
  simp -dsimp -implicitDefEqProofs [-getElem?_pos, go_sem, hP]
  obtain ⟨O, hO⟩ : ∃ O : AObj, O = ⟨30, 3, [[opensL C, opensL S, leftsL P]]⟩ := ⟨_, rfl⟩
  obtain ⟨J1, hJ1⟩ : ∃ I : Nat → St → Prop, I = fun m s => ∃ k : Nat, k ≤ left.length ∧ m = left.length - k ∧ s.t 4 = opensL l ∧ s.t 6 = .ref 1 0 0 ∧ s.t 8 = carriesL Z ∧ s.t 11 = iv 0 ∧ s.t 12 = iv 0 ∧ s.t 48 = leftsL left ∧ s.t 49 = iv left.length ∧ s.t 50 = iv k ∧ s.t 10 = iv (sumT aL left k) ∧ s.H[1]? = some (some O) := ⟨_, rfl⟩
  refine aloop0 J1 (left.length) (by rw [hN]; rfl) ?_ ?_
  · rw [hJ1]
    exact ⟨0, by omega, by omega, by simp -dsimp -implicitDefEqProofs [-getElem?_pos, go_sem, opensL], by simp -dsimp -implicitDefEqProofs [-getElem?_pos, go_sem], by simp -dsimp -implicitDefEqProofs [-getElem?_pos, go_sem, carriesL], by simp -dsimp -implicitDefEqProofs [-getElem?_pos, go_sem], by simp -dsimp -implicitDefEqProofs [-getElem?_pos, go_sem], by simp -dsimp -implicitDefEqProofs [-getElem?_pos, go_sem, leftsL], by simp -dsimp -implicitDefEqProofs [-getElem?_pos, go_sem, leftsL, encL_len], by simp -dsimp -implicitDefEqProofs [-getElem?_pos, go_sem], by simp -dsimp -implicitDefEqProofs [-getElem?_pos, go_sem, sumT_0], by simp -dsimp -implicitDefEqProofs [-getElem?_pos, go_sem, hO, leftsL, carriesL, opensL]⟩
  intro m s hs'
  rw [hJ1] at hs'
  obtain ⟨k, hk, hm, t4, t6, t8, t11, t12, t48, t49, t50, t10, h1⟩ := hs'
  have lt1 := (List.getElem?_eq_some_iff.1 h1).1
  simp -dsimp -implicitDefEqProofs [-getElem?_pos, go_sem, hP, t50, t49]
  refine condP (fun h => ?_) (fun h => ?_)
  · have hk : k < left.length := by simpa using h
    obtain ⟨x, hx⟩ : ∃ x, left[k]? = some x := ⟨_, List.getElem?_eq_getElem hk⟩
    obtain ⟨V, v, hV, hv, hs, ws⟩ := sumT_step aL (by omega) bf hx
    rw [← hV] at t10
    unfold aL at hv
    have wk := wrap_in ((k : Int) + 1) (by omega)
    simp -dsimp -implicitDefEqProofs [-getElem?_pos, go_sem, hP, t48, t50, leftsL, hx, cLft, t10, ← hv, wk, ws, List.getElem?_append]
    refine ⟨left.length - (k + 1), by omega, ?_⟩
    rw [hJ1]
    exact ⟨k + 1, by omega, rfl, by simp -dsimp -implicitDefEqProofs [-getElem?_pos, go_sem, t4, opensL], by simp -dsimp -implicitDefEqProofs [-getElem?_pos, go_sem, t6], by simp -dsimp -implicitDefEqProofs [-getElem?_pos, go_sem, t8, carriesL], by simp -dsimp -implicitDefEqProofs [-getElem?_pos, go_sem, t11], by simp -dsimp -implicitDefEqProofs [-getElem?_pos, go_sem, t12], by simp -dsimp -implicitDefEqProofs [-getElem?_pos, go_sem, t48, leftsL], by simp -dsimp -implicitDefEqProofs [-getElem?_pos, go_sem, t49], by simp -dsimp -implicitDefEqProofs [-getElem?_pos, go_sem], by simp -dsimp -implicitDefEqProofs [-getElem?_pos, go_sem, hs], by simp -dsimp -implicitDefEqProofs [-getElem?_pos, go_sem, lt1, h1]⟩
  have hk : k = left.length := by simp at h; omega
  subst hk
  rw [sumT_all] at t10
  obtain ⟨a10, e10⟩ : ∃ a, a = (left.map aL).sum := ⟨_, rfl⟩
  rw [← e10] at t10
  clear hJ1 h t48 t49 t50
  simp -dsimp -implicitDefEqProofs [-getElem?_pos, go_sem, hP, t6, h1, lt1, hO, leftsL, encL_len]
  obtain ⟨J2, hJ2⟩ : ∃ I : Nat → St → Prop, I = fun m s => ∃ k : Nat, k ≤ P.length ∧ m = P.length - k ∧ s.t 4 = opensL l ∧ s.t 6 = .ref 1 0 0 ∧ s.t 8 = carriesL Z ∧ s.t 10 = iv a10 ∧ s.t 12 = iv 0 ∧ s.t 60 = leftsL P ∧ s.t 61 = iv P.length ∧ s.t 62 = iv k ∧ s.t 11 = iv (sumT aL P k) ∧ s.H[1]? = some (some O) := ⟨_, rfl⟩
  refine aloop0 J2 (P.length) (by rw [hN]; rfl) ?_ ?_
  · rw [hJ2]
    exact ⟨0, by omega, by omega, by simp -dsimp -implicitDefEqProofs [-getElem?_pos, go_sem, t4, opensL], by simp -dsimp -implicitDefEqProofs [-getElem?_pos, go_sem, t6], by simp -dsimp -implicitDefEqProofs [-getElem?_pos, go_sem, t8, carriesL], by simp -dsimp -implicitDefEqProofs [-getElem?_pos, go_sem, t10], by simp -dsimp -implicitDefEqProofs [-getElem?_pos, go_sem, t12], by simp -dsimp -implicitDefEqProofs [-getElem?_pos, go_sem, t4, t8, h1, hO, lt1, leftsL], by simp -dsimp -implicitDefEqProofs [-getElem?_pos, go_sem, t4, t8, h1, hO, lt1, leftsL, encL_len], by simp -dsimp -implicitDefEqProofs [-getElem?_pos, go_sem], by simp -dsimp -implicitDefEqProofs [-getElem?_pos, go_sem, t11, sumT_0], by simp -dsimp -implicitDefEqProofs [-getElem?_pos, go_sem, h1, lt1]⟩
  clear lt1 t4 t6 t8 t11 t12 t10 h1
  intro m s hs'
  rw [hJ2] at hs'
  obtain ⟨k, hk, hm, t4, t6, t8, t10, t12, t60, t61, t62, t11, h1⟩ := hs'
  have lt1 := (List.getElem?_eq_some_iff.1 h1).1
  simp -dsimp -implicitDefEqProofs [-getElem?_pos, go_sem, hP, t62, t61]
  refine condP (fun h => ?_) (fun h => ?_)
  · have hk : k < P.length := by simpa using h
    obtain ⟨x, hx⟩ : ∃ x, P[k]? = some x := ⟨_, List.getElem?_eq_getElem hk⟩
    obtain ⟨V, v, hV, hv, hs, ws⟩ := sumT_step aL (by omega) bP hx
    rw [← hV] at t11
    unfold aL at hv
    have wk := wrap_in ((k : Int) + 1) (by omega)
    simp -dsimp -implicitDefEqProofs [-getElem?_pos, go_sem, hP, t60, t62, leftsL, hx, cLft, t11, ← hv, wk, ws, List.getElem?_append]
    refine ⟨P.length - (k + 1), by omega, ?_⟩
    rw [hJ2]
    exact ⟨k + 1, by omega, rfl, by simp -dsimp -implicitDefEqProofs [-getElem?_pos, go_sem, t4, opensL], by simp -dsimp -implicitDefEqProofs [-getElem?_pos, go_sem, t6], by simp -dsimp -implicitDefEqProofs [-getElem?_pos, go_sem, t8, carriesL], by simp -dsimp -implicitDefEqProofs [-getElem?_pos, go_sem, t10], by simp -dsimp -implicitDefEqProofs [-getElem?_pos, go_sem, t12], by simp -dsimp -implicitDefEqProofs [-getElem?_pos, go_sem, t60, leftsL], by simp -dsimp -implicitDefEqProofs [-getElem?_pos, go_sem, t61], by simp -dsimp -implicitDefEqProofs [-getElem?_pos, go_sem], by simp -dsimp -implicitDefEqProofs [-getElem?_pos, go_sem, hs], by simp -dsimp -implicitDefEqProofs [-getElem?_pos, go_sem, lt1, h1]⟩
  have hk : k = P.length := by simp at h; omega
  subst hk
  rw [sumT_all] at t11
  obtain ⟨a11, e11⟩ : ∃ a, a = (P.map aL).sum := ⟨_, rfl⟩
  rw [← e11] at t11
  clear hJ2 h t60 t61 t62
  simp -dsimp -implicitDefEqProofs [-getElem?_pos, go_sem, hP, t8, carriesL, encL_len]
  obtain ⟨J3, hJ3⟩ : ∃ I : Nat → St → Prop, I = fun m s => ∃ k : Nat, k ≤ Z.length ∧ m = Z.length - k ∧ s.t 4 = opensL l ∧ s.t 6 = .ref 1 0 0 ∧ s.t 8 = carriesL Z ∧ s.t 10 = iv a10 ∧ s.t 11 = iv a11 ∧ s.t 71 = carriesL Z ∧ s.t 72 = iv Z.length ∧ s.t 73 = iv k ∧ s.t 12 = iv (sumT aC Z k) ∧ s.H[1]? = some (some O) := ⟨_, rfl⟩
  refine aloop0 J3 (Z.length) (by rw [hN]; rfl) ?_ ?_
  · rw [hJ3]
    exact ⟨0, by omega, by omega, by simp -dsimp -implicitDefEqProofs [-getElem?_pos, go_sem, t4, opensL], by simp -dsimp -implicitDefEqProofs [-getElem?_pos, go_sem, t6], by simp -dsimp -implicitDefEqProofs [-getElem?_pos, go_sem, t8, carriesL], by simp -dsimp -implicitDefEqProofs [-getElem?_pos, go_sem, t10], by simp -dsimp -implicitDefEqProofs [-getElem?_pos, go_sem, t11], by simp -dsimp -implicitDefEqProofs [-getElem?_pos, go_sem, t4, t8, h1, hO, lt1, carriesL], by simp -dsimp -implicitDefEqProofs [-getElem?_pos, go_sem, t4, t8, h1, hO, lt1, carriesL, encL_len], by simp -dsimp -implicitDefEqProofs [-getElem?_pos, go_sem], by simp -dsimp -implicitDefEqProofs [-getElem?_pos, go_sem, t12, sumT_0], by simp -dsimp -implicitDefEqProofs [-getElem?_pos, go_sem, h1, lt1]⟩
  clear lt1 t4 t6 t8 t10 t12 t11 h1
  intro m s hs'
  rw [hJ3] at hs'
  obtain ⟨k, hk, hm, t4, t6, t8, t10, t11, t71, t72, t73, t12, h1⟩ := hs'
  have lt1 := (List.getElem?_eq_some_iff.1 h1).1
  simp -dsimp -implicitDefEqProofs [-getElem?_pos, go_sem, hP, t73, t72]
  refine condP (fun h => ?_) (fun h => ?_)
  · have hk : k < Z.length := by simpa using h
    obtain ⟨x, hx⟩ : ∃ x, Z[k]? = some x := ⟨_, List.getElem?_eq_getElem hk⟩
    obtain ⟨V, v, hV, hv, hs, ws⟩ := sumT_step aC lZ bZ hx
    rw [← hV] at t12
    unfold aC at hv
    have wk := wrap_in ((k : Int) + 1) (by omega)
    simp -dsimp -implicitDefEqProofs [-getElem?_pos, go_sem, hP, t71, t73, carriesL, hx, cCry, t12, ← hv, wk, ws, List.getElem?_append]
    refine ⟨Z.length - (k + 1), by omega, ?_⟩
    rw [hJ3]
    exact ⟨k + 1, by omega, rfl, by simp -dsimp -implicitDefEqProofs [-getElem?_pos, go_sem, t4, opensL], by simp -dsimp -implicitDefEqProofs [-getElem?_pos, go_sem, t6], by simp -dsimp -implicitDefEqProofs [-getElem?_pos, go_sem, t8, carriesL], by simp -dsimp -implicitDefEqProofs [-getElem?_pos, go_sem, t10], by simp -dsimp -implicitDefEqProofs [-getElem?_pos, go_sem, t11], by simp -dsimp -implicitDefEqProofs [-getElem?_pos, go_sem, t71, carriesL], by simp -dsimp -implicitDefEqProofs [-getElem?_pos, go_sem, t72], by simp -dsimp -implicitDefEqProofs [-getElem?_pos, go_sem], by simp -dsimp -implicitDefEqProofs [-getElem?_pos, go_sem, hs], by simp -dsimp -implicitDefEqProofs [-getElem?_pos, go_sem, lt1, h1]⟩
  have hk : k = Z.length := by simp at h; omega
  subst hk
  rw [sumT_all] at t12
  obtain ⟨a12, e12⟩ : ∃ a, a = (Z.map aC).sum := ⟨_, rfl⟩
  rw [← e12] at t12
  clear hJ3 h t71 t72 t73
  simp -dsimp -implicitDefEqProofs [-getElem?_pos, go_sem, hP, t4, opensL, encL_len]
  obtain ⟨J4, hJ4⟩ : ∃ I : Nat → St → Prop, I = fun m s => ∃ k : Nat, k ≤ l.length ∧ m = l.length - k ∧ s.t 4 = opensL l ∧ s.t 6 = .ref 1 0 0 ∧ s.t 8 = carriesL Z ∧ s.t 10 = iv a10 ∧ s.t 11 = iv a11 ∧ s.t 12 = iv a12 ∧ s.t 20 = iv 0 ∧ s.t 82 = opensL l ∧ s.t 83 = iv l.length ∧ s.t 84 = iv k ∧ s.t 19 = iv (sumT aO l k) ∧ s.H[1]? = some (some O) := ⟨_, rfl⟩
  refine aloop0 J4 (l.length) (by rw [hN]; rfl) ?_ ?_
  · rw [hJ4]
    exact ⟨0, by omega, by omega, by simp -dsimp -implicitDefEqProofs [-getElem?_pos, go_sem, t4, opensL], by simp -dsimp -implicitDefEqProofs [-getElem?_pos, go_sem, t6], by simp -dsimp -implicitDefEqProofs [-getElem?_pos, go_sem, t8, carriesL], by simp -dsimp -implicitDefEqProofs [-getElem?_pos, go_sem, t10], by simp -dsimp -implicitDefEqProofs [-getElem?_pos, go_sem, t11], by simp -dsimp -implicitDefEqProofs [-getElem?_pos, go_sem, t12], by simp -dsimp -implicitDefEqProofs [-getElem?_pos, go_sem], by simp -dsimp -implicitDefEqProofs [-getElem?_pos, go_sem, t4, t8, h1, hO, lt1, opensL], by simp -dsimp -implicitDefEqProofs [-getElem?_pos, go_sem, t4, t8, h1, hO, lt1, opensL, encL_len], by simp -dsimp -implicitDefEqProofs [-getElem?_pos, go_sem], by simp -dsimp -implicitDefEqProofs [-getElem?_pos, go_sem, sumT_0], by simp -dsimp -implicitDefEqProofs [-getElem?_pos, go_sem, h1, lt1]⟩
  clear lt1 t4 t6 t8 t10 t11 t12 h1
  intro m s hs'
  rw [hJ4] at hs'
  obtain ⟨k, hk, hm, t4, t6, t8, t10, t11, t12, t20, t82, t83, t84, t19, h1⟩ := hs'
  have lt1 := (List.getElem?_eq_some_iff.1 h1).1
  simp -dsimp -implicitDefEqProofs [-getElem?_pos, go_sem, hP, t84, t83]
  refine condP (fun h => ?_) (fun h => ?_)
  · have hk : k < l.length := by simpa using h
    obtain ⟨x, hx⟩ : ∃ x, l[k]? = some x := ⟨_, List.getElem?_eq_getElem hk⟩
    obtain ⟨V, v, hV, hv, hs, ws⟩ := sumT_step aO l9 bl hx
    rw [← hV] at t19
    unfold aO at hv
    have wk := wrap_in ((k : Int) + 1) (by omega)
    simp -dsimp -implicitDefEqProofs [-getElem?_pos, go_sem, hP, t82, t84, opensL, hx, cOpn, t19, ← hv, wk, ws, List.getElem?_append]
    refine ⟨l.length - (k + 1), by omega, ?_⟩
    rw [hJ4]
    exact ⟨k + 1, by omega, rfl, by simp -dsimp -implicitDefEqProofs [-getElem?_pos, go_sem, t4, opensL], by simp -dsimp -implicitDefEqProofs [-getElem?_pos, go_sem, t6], by simp -dsimp -implicitDefEqProofs [-getElem?_pos, go_sem, t8, carriesL], by simp -dsimp -implicitDefEqProofs [-getElem?_pos, go_sem, t10], by simp -dsimp -implicitDefEqProofs [-getElem?_pos, go_sem, t11], by simp -dsimp -implicitDefEqProofs [-getElem?_pos, go_sem, t12], by simp -dsimp -implicitDefEqProofs [-getElem?_pos, go_sem, t20], by simp -dsimp -implicitDefEqProofs [-getElem?_pos, go_sem, t82, opensL], by simp -dsimp -implicitDefEqProofs [-getElem?_pos, go_sem, t83], by simp -dsimp -implicitDefEqProofs [-getElem?_pos, go_sem], by simp -dsimp -implicitDefEqProofs [-getElem?_pos, go_sem, hs], by simp -dsimp -implicitDefEqProofs [-getElem?_pos, go_sem, lt1, h1]⟩
  have hk : k = l.length := by simp at h; omega
  subst hk
  rw [sumT_all] at t19
  obtain ⟨a19, e19⟩ : ∃ a, a = (l.map aO).sum := ⟨_, rfl⟩
  rw [← e19] at t19
  clear hJ4 h t82 t83 t84
  simp -dsimp -implicitDefEqProofs [-getElem?_pos, go_sem, hP, t6, h1, lt1, hO, opensL, encL_len]
  obtain ⟨J5, hJ5⟩ : ∃ I : Nat → St → Prop, I = fun m s => ∃ k : Nat, k ≤ S.length ∧ m = S.length - k ∧ s.t 4 = opensL l ∧ s.t 6 = .ref 1 0 0 ∧ s.t 8 = carriesL Z ∧ s.t 10 = iv a10 ∧ s.t 11 = iv a11 ∧ s.t 12 = iv a12 ∧ s.t 19 = iv a19 ∧ s.t 94 = opensL S ∧ s.t 95 = iv S.length ∧ s.t 96 = iv k ∧ s.t 20 = iv (sumT aO S k) ∧ s.H[1]? = some (some O) := ⟨_, rfl⟩
  refine aloop0 J5 (S.length) (by rw [hN]; rfl) ?_ ?_
  · rw [hJ5]
    exact ⟨0, by omega, by omega, by simp -dsimp -implicitDefEqProofs [-getElem?_pos, go_sem, t4, opensL], by simp -dsimp -implicitDefEqProofs [-getElem?_pos, go_sem, t6], by simp -dsimp -implicitDefEqProofs [-getElem?_pos, go_sem, t8, carriesL], by simp -dsimp -implicitDefEqProofs [-getElem?_pos, go_sem, t10], by simp -dsimp -implicitDefEqProofs [-getElem?_pos, go_sem, t11], by simp -dsimp -implicitDefEqProofs [-getElem?_pos, go_sem, t12], by simp -dsimp -implicitDefEqProofs [-getElem?_pos, go_sem, t19], by simp -dsimp -implicitDefEqProofs [-getElem?_pos, go_sem, t4, t8, h1, hO, lt1, opensL], by simp -dsimp -implicitDefEqProofs [-getElem?_pos, go_sem, t4, t8, h1, hO, lt1, opensL, encL_len], by simp -dsimp -implicitDefEqProofs [-getElem?_pos, go_sem], by simp -dsimp -implicitDefEqProofs [-getElem?_pos, go_sem, t20, sumT_0], by simp -dsimp -implicitDefEqProofs [-getElem?_pos, go_sem, h1, lt1]⟩
  clear lt1 t4 t6 t8 t10 t11 t12 t20 t19 h1
  intro m s hs'
  rw [hJ5] at hs'
  obtain ⟨k, hk, hm, t4, t6, t8, t10, t11, t12, t19, t94, t95, t96, t20, h1⟩ := hs'
  have lt1 := (List.getElem?_eq_some_iff.1 h1).1
  simp -dsimp -implicitDefEqProofs [-getElem?_pos, go_sem, hP, t96, t95]
  refine condP (fun h => ?_) (fun h => ?_)
  · have hk : k < S.length := by simpa using h
    obtain ⟨x, hx⟩ : ∃ x, S[k]? = some x := ⟨_, List.getElem?_eq_getElem hk⟩
    obtain ⟨V, v, hV, hv, hs, ws⟩ := sumT_step aO lS bS hx
    rw [← hV] at t20
    unfold aO at hv
    have wk := wrap_in ((k : Int) + 1) (by omega)
    simp -dsimp -implicitDefEqProofs [-getElem?_pos, go_sem, hP, t94, t96, opensL, hx, cOpn, t20, ← hv, wk, ws, List.getElem?_append]
    refine ⟨S.length - (k + 1), by omega, ?_⟩
    rw [hJ5]
    exact ⟨k + 1, by omega, rfl, by simp -dsimp -implicitDefEqProofs [-getElem?_pos, go_sem, t4, opensL], by simp -dsimp -implicitDefEqProofs [-getElem?_pos, go_sem, t6], by simp -dsimp -implicitDefEqProofs [-getElem?_pos, go_sem, t8, carriesL], by simp -dsimp -implicitDefEqProofs [-getElem?_pos, go_sem, t10], by simp -dsimp -implicitDefEqProofs [-getElem?_pos, go_sem, t11], by simp -dsimp -implicitDefEqProofs [-getElem?_pos, go_sem, t12], by simp -dsimp -implicitDefEqProofs [-getElem?_pos, go_sem, t19], by simp -dsimp -implicitDefEqProofs [-getElem?_pos, go_sem, t94, opensL], by simp -dsimp -implicitDefEqProofs [-getElem?_pos, go_sem, t95], by simp -dsimp -implicitDefEqProofs [-getElem?_pos, go_sem], by simp -dsimp -implicitDefEqProofs [-getElem?_pos, go_sem, hs], by simp -dsimp -implicitDefEqProofs [-getElem?_pos, go_sem, lt1, h1]⟩
  have hk : k = S.length := by simp at h; omega
  subst hk
  rw [sumT_all] at t20
  obtain ⟨a20, e20⟩ : ∃ a, a = (S.map aO).sum := ⟨_, rfl⟩
  rw [← e20] at t20
  clear hJ5 h t94 t95 t96
  have b1 := sumT_le aL 1000 left bf
  have b2 := sumT_le aL 1000 P bP
  have b3 := sumT_le aC 1000 Z bZ
  have b4 := sumT_le aO 1000 l bl
  have b5 := sumT_le aO 1000 S bS
  rw [← e10] at b1
  rw [← e11] at b2
  rw [← e12] at b3
  rw [← e19] at b4
  rw [← e20] at b5
  have q1 : a12 + a11 = a10 := by rw [e10, e11, e12]; exact q1
  have q2 : a12 + a20 = a19 := by rw [e12, e19, e20]; exact q2
  have w1 := wrap_in (a12 + a11) (by omega)
  have w2 := wrap_in (a12 + a20) (by omega)
  rw [q1] at w1
  rw [q2] at w2
  simp -dsimp -implicitDefEqProofs [-getElem?_pos, go_sem, hP, t10, t11, t12, t19, t20, q1, q2, w1, w2]
  refine callB_pure (awake45_pf none none) hP en_9 (args_nil.2 trivial) .sc ?_
  simp -dsimp -implicitDefEqProofs [-getElem?_pos, go_sem, hP]
end Go.Proofs.YtmkhcmiplleghaaGreatDoor
