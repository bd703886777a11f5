/- Stable sorting: merging in place, the general case. -/
import Derived.Test.YtabdihohphlheaaGreatDoorStab2
import Derived.Test.YtabdihohphlheaaGreatDoorPaFrz
import Derived.Below
import Derived.Lib.Hide
set_option linter.unusedSimpArgs false
set_option linter.unusedVariables false
namespace Go.Proofs.YtabdihohphlheaaGreatDoor
open Go.PA
open Go.RowKit

section
variable {α : Type} (enc : α → List AV) (lt : α → α → Bool) (g : FuncId)

/-- What the search for the place of the cut knows. -/
theorem cut_ok {lt : α → α → Bool} (ho : SOrd lt) {A B : List α} (sA : Srt lt A) (sB : Srt lt B) {i j : Nat} (hi : i ≤ A.length) (hj : j ≤ B.length)
    (h1 : i = 0 ∨ j = B.length ∨ ∃ x y, A[i - 1]? = some x ∧ B[j]? = some y ∧ lt y x = false) (h2 : i = A.length ∨ j = 0 ∨ ∃ x y, A[i]? = some x ∧ B[j - 1]? = some y ∧ lt y x = true) :
    smerge lt A B = smerge lt (A.take i) (B.take j) ++ smerge lt (A.drop i) (B.drop j) := by
  have := smerge_split ho (A1 := A.take i) (A2 := A.drop i) (B1 := B.take j) (B2 := B.drop j) ?_ ?_
  · rw [← this, List.take_append_drop, List.take_append_drop]
  · intro x hx y hy
    rcases h2 with h2 | h2 | ⟨a, b, ha, hb, hab⟩
    · rw [List.drop_eq_nil_of_le (by omega)] at hx; simp at hx
    · rw [h2] at hy; simp at hy
    · have hj1 : j = (j - 1) + 1 := by
        rcases Nat.eq_zero_or_pos j with h | h
        · rw [h] at hy; simp at hy
        · omega
      rw [hj1] at hy
      have hby : lt b y = false := by
        rcases take_mem hy hb with rfl | hy
        · exact ho.irr _
        · exact srt_take sB hy hb
      exact ho.le_lt_le hby hab (srt_drop ho sA hx ha)
  · intro x hx y hy
    rcases h1 with h1 | h1 | ⟨a, b, ha, hb, hab⟩
    · rw [h1] at hx; simp at hx
    · rw [List.drop_eq_nil_of_le (by omega)] at hy; simp at hy
    · have hi1 : i = (i - 1) + 1 := by
        rcases Nat.eq_zero_or_pos i with h | h
        · rw [h] at hx; simp at hx
        · omega
      rw [hi1] at hx
      have hax : lt a x = false := by
        rcases take_mem hx ha with rfl | hx
        · exact ho.irr _
        · exact srt_take sA hx ha
      exact ho.tr _ _ _ (srt_drop ho sB hy hb) (ho.tr _ _ _ hab hax)

def SymOk (f : Nat) : Prop := ∀ (row src : Option Nat) (P A B S : List α) (H : Heap) (id a m0 b N : Nat), A.length + B.length ≤ f → 1 ≤ A.length → 1 ≤ B.length → Srt lt A → Srt lt B → a = P.length → m0 = a + A.length → b = m0 + B.length → N = (P ++ A ++ B ++ S).length → N ≤ 1000000000 →
    H[id]? = some (flO enc (P ++ A ++ B ++ S)) →
    MFun Tryz.prog row src 78 [.sref id 0 N, iv a, iv m0, iv b, .fn g []] H (fun _ H' => H' = H.set id (flO enc (P ++ smerge lt A B ++ S)))
set_option maxHeartbeats 8000000 in
theorem symStep (hc : CmpOk enc lt g) (ho : SOrd lt) (f : Nat) (ih : SymOk enc lt g f) : SymOk enc lt g (f + 1) := by
  intro row src P A B S H id a m0 b N hf hA hB sA sB ha hm0 hb hT hb9 hH
  by_cases hA1 : A.length = 1
  · obtain ⟨x, rfl⟩ := List.length_eq_one_iff.1 hA1
    rw [hm0]
    exact symOne_m enc lt g hc ho P x B S H id a b N hB sB ha (by rw [hb, hm0]; simp) hT hb9 hH
  by_cases hB1 : B.length = 1
  · obtain ⟨y, rfl⟩ := List.length_eq_one_iff.1 hB1
    exact symLast_m enc lt g hc ho P A y S H id a m0 b N (by omega) sA ha hm0 (by rw [hb]; simp) hT hb9 hH
  have hc' := hc
  obtain ⟨hk, him, hen, hcmp⟩ := hc'
  refine mfun_of_AWp Tryz.func78 rfl (by simp [Tryz.f78]) ⟨.tup [], _, rfl⟩ ?_
  intro E hP hr hs hN
  have hlt : id < H.length := (List.getElem?_eq_some_iff.1 hH).1
  obtain ⟨C, hC⟩ : ∃ C, C = fun (_ : AV) H' => H' = H.set id (flO enc (P ++ smerge lt A B ++ S)) := ⟨_, rfl⟩
  rw [← hC]
  simp only [List.length_append] at hT
  have c1 : (m0 : Int) - a = A.length := by omega
  have w1 := wrap_in ((A.length : Nat) : Int) (by omega)
  have d1 : decide (((A.length : Nat) : Int) = 1) = false := decide_eq_false (by omega)
  have c2 : (b : Int) - m0 = B.length := by omega
  have w2 := wrap_in ((B.length : Nat) : Int) (by omega)
  have d2 : decide (((B.length : Nat) : Int) = 1) = false := decide_eq_false (by omega)
  have e1 := wrap_in ((a : Int) + b) (by omega)
  have wu : IntKind.u64.wrap ((a : Int) + b) = (a : Int) + b := by rw [IntKind.wrap_u64]; omega
  obtain ⟨mid, hmid⟩ : ∃ mid, mid = (a + b) / 2 := ⟨_, rfl⟩
  have wh : IntKind.i64.wrap (((a : Int) + b) / 2) = (mid : Int) := by rw [wrap_in _ (by omega)]; omega
  obtain ⟨n, hn⟩ : ∃ n, n = mid + m0 := ⟨_, rfl⟩
  have wn : IntKind.i64.wrap ((mid : Int) + m0) = (n : Int) := by rw [wrap_in _ (by omega)]; omega
  obtain ⟨s0, r0, hs0, hmr⟩ : ∃ s0 r0 : Nat, s0 ≤ r0 ∧ ((mid < m0 ∧ s0 = n - b ∧ r0 = mid) ∨ (m0 ≤ mid ∧ s0 = a ∧ r0 = m0)) := by
    by_cases h : mid < m0
    · exact ⟨n - b, mid, by omega, .inl ⟨h, rfl, rfl⟩⟩
    · exact ⟨a, m0, by omega, .inr ⟨by omega, rfl, rfl⟩⟩
  have as0 : a ≤ s0 ∧ r0 ≤ m0 ∧ r0 ≤ mid ∧ n ≤ b + s0 := by omega
  have hmd : a < mid ∧ mid < b := by omega
  have hnb : mid < m0 → b ≤ n := by omega
  have HN := Lib.hid hnb
  clear hnb
  have HM := Lib.hid hmr
  have HD := Lib.hid hmid
  clear hmr hmid
  refine awp_cut (by rw [hN]; kernel_rfl) ?_
  simp -dsimp -implicitDefEqProofs [-getElem?_pos, go_sem, hP, c1, w1, d1]
  refine awp_cut (by rw [hN]; kernel_rfl) ?_
  simp -dsimp -implicitDefEqProofs [-getElem?_pos, go_sem, hP, c2, w2, d2]
  refine awp_cut (by rw [hN]; kernel_rfl) ?_
  simp -dsimp -implicitDefEqProofs [-getElem?_pos, go_sem, hP, e1, wu, aconv, aint_shr, wh]
  refine awp_cut (by rw [hN]; kernel_rfl) ?_
  simp -dsimp -implicitDefEqProofs [-getElem?_pos, go_sem, hP, wn]
  refine awp_cut (by rw [hN]; kernel_rfl) ?_
  simp -dsimp -implicitDefEqProofs [-getElem?_pos, go_sem, hP]
  obtain ⟨Inv, hInv⟩ : ∃ Inv : St → Prop, Inv = fun s => s.t 0 = .sref id 0 N ∧ s.t 1 = iv a ∧ s.t 2 = iv m0 ∧ s.t 3 = iv b ∧ s.t 4 = .fn g [] ∧ s.t 18 = iv mid ∧ s.t 19 = iv n ∧ s.t 20 = iv s0 ∧ s.t 21 = iv r0 ∧ s.H = H := ⟨_, rfl⟩
  refine awp_join Inv (by rw [hN]; kernel_rfl) ?_ ?_
  · rcases HM.out with ⟨h1, h2, h3⟩ | ⟨h1, h2, h3⟩
    · have hnb := HN.out h1
      have d3 : decide (mid < m0) = true := decide_eq_true h1
      have w3 : IntKind.i64.wrap ((n : Int) - b) = (s0 : Int) := by rw [wrap_in _ (by omega)]; omega
      simp -dsimp -implicitDefEqProofs [-getElem?_pos, go_sem, hP, d3, w3]
      refine ⟨_, Weaker.refl _, ?_⟩
      rw [hInv]
      exact ⟨by simp -dsimp -implicitDefEqProofs [-getElem?_pos, go_sem], by simp -dsimp -implicitDefEqProofs [-getElem?_pos, go_sem], by simp -dsimp -implicitDefEqProofs [-getElem?_pos, go_sem], by simp -dsimp -implicitDefEqProofs [-getElem?_pos, go_sem], by simp -dsimp -implicitDefEqProofs [-getElem?_pos, go_sem], by simp -dsimp -implicitDefEqProofs [-getElem?_pos, go_sem], by simp -dsimp -implicitDefEqProofs [-getElem?_pos, go_sem], by simp -dsimp -implicitDefEqProofs [-getElem?_pos, go_sem], by simp -dsimp -implicitDefEqProofs [-getElem?_pos, go_sem, h3], rfl⟩
    · have d3 : decide (mid < m0) = false := decide_eq_false (by omega)
      simp -dsimp -implicitDefEqProofs [-getElem?_pos, go_sem, hP, d3]
      refine ⟨_, Weaker.refl _, ?_⟩
      rw [hInv]
      exact ⟨by simp -dsimp -implicitDefEqProofs [-getElem?_pos, go_sem], by simp -dsimp -implicitDefEqProofs [-getElem?_pos, go_sem], by simp -dsimp -implicitDefEqProofs [-getElem?_pos, go_sem], by simp -dsimp -implicitDefEqProofs [-getElem?_pos, go_sem], by simp -dsimp -implicitDefEqProofs [-getElem?_pos, go_sem], by simp -dsimp -implicitDefEqProofs [-getElem?_pos, go_sem], by simp -dsimp -implicitDefEqProofs [-getElem?_pos, go_sem], by simp -dsimp -implicitDefEqProofs [-getElem?_pos, go_sem, h2], by simp -dsimp -implicitDefEqProofs [-getElem?_pos, go_sem, h3], rfl⟩
  intro s hs'
  rw [hInv] at hs'
  obtain ⟨t0, t1, t2, t3, t4, t18, t19, t20, t21, hHs⟩ := hs'
  obtain ⟨p, hp⟩ : ∃ p, p = n - 1 := ⟨_, rfl⟩
  have wp : IntKind.i64.wrap ((n : Int) - 1) = (p : Int) := by rw [wrap_in _ (by omega)]; omega
  refine awp_cut (by rw [hN]; kernel_rfl) ?_
  simp -dsimp -implicitDefEqProofs [-getElem?_pos, go_sem, hP, t19, wp]
  refine awp_cut (by rw [hN]; kernel_rfl) ?_
  simp -dsimp -implicitDefEqProofs [-getElem?_pos, go_sem, hP]
  obtain ⟨cs, hcs⟩ : ∃ cs, cs = P ++ A ++ B ++ S := ⟨_, rfl⟩
  have hH0 := hH
  rw [← hcs] at hH
  have gA : ∀ c x, a ≤ c → A[c - a]? = some x → cs[c]? = some x := fun c x hc hx => by
    have hk := (List.getElem?_eq_some_iff.1 hx).1
    rw [hcs, List.append_assoc, List.getElem?_append_left (by simp only [List.length_append]; omega), List.getElem?_append_right (by omega), ← ha]
    exact hx
  have gB : ∀ c y, m0 ≤ c → B[c - m0]? = some y → cs[c]? = some y := fun c y hc hy => by
    have hk := (List.getElem?_eq_some_iff.1 hy).1
    rw [hcs, List.getElem?_append_left (by simp only [List.length_append]; omega), List.getElem?_append_right (by simp only [List.length_append]; omega), show c - (P ++ A).length = c - m0 by rw [List.length_append]; omega]
    exact hy
  obtain ⟨J, hJ⟩ : ∃ I : Nat → St → Prop, I = fun m s => ∃ u v : Nat, s0 ≤ u ∧ u ≤ v ∧ v ≤ r0 ∧ m = v - u ∧ (u = s0 ∨ ∃ x y, A[u - 1 - a]? = some x ∧ B[n - u - m0]? = some y ∧ lt y x = false) ∧ (v = r0 ∨ ∃ x y, A[v - a]? = some x ∧ B[n - v - 1 - m0]? = some y ∧ lt y x = true) ∧ s.t 0 = .sref id 0 N ∧ s.t 1 = iv a ∧ s.t 2 = iv m0 ∧ s.t 3 = iv b ∧ s.t 4 = .fn g [] ∧ s.t 18 = iv mid ∧ s.t 19 = iv n ∧ s.t 20 = iv u ∧ s.t 21 = iv v ∧ s.t 22 = iv p ∧ s.H = H := ⟨_, rfl⟩
  refine aloop0 J (r0 - s0) (by rw [hN]; rfl) ?_ ?_
  · rw [hJ]
    exact ⟨s0, r0, by omega, hs0, by omega, rfl, .inl rfl, .inl rfl, by simp -dsimp -implicitDefEqProofs [-getElem?_pos, go_sem, t0], by simp -dsimp -implicitDefEqProofs [-getElem?_pos, go_sem, t1], by simp -dsimp -implicitDefEqProofs [-getElem?_pos, go_sem, t2], by simp -dsimp -implicitDefEqProofs [-getElem?_pos, go_sem, t3], by simp -dsimp -implicitDefEqProofs [-getElem?_pos, go_sem, t4], by simp -dsimp -implicitDefEqProofs [-getElem?_pos, go_sem, t18], by simp -dsimp -implicitDefEqProofs [-getElem?_pos, go_sem, t19], by simp -dsimp -implicitDefEqProofs [-getElem?_pos, go_sem, t20], by simp -dsimp -implicitDefEqProofs [-getElem?_pos, go_sem, t21], by simp -dsimp -implicitDefEqProofs [-getElem?_pos, go_sem], by simp -dsimp -implicitDefEqProofs [-getElem?_pos, go_sem, hHs]⟩
  clear t0 t1 t2 t3 t4 t18 t19 t20 t21 hHs
  intro m s hs'
  rw [hJ] at hs'
  obtain ⟨u, v, hu0, huv, hvr, hm, hlo, hhi, t0, t1, t2, t3, t4, t18, t19, t20, t21, t22, hs'⟩ := hs'
  simp -dsimp -implicitDefEqProofs [-getElem?_pos, go_sem, hP, t20, t21]
  refine condP (fun h => ?_) (fun h => ?_)
  · have huv : u < v := by simpa using h
    have e1 := wrap_in ((u : Int) + v) (by omega)
    have wu : IntKind.u64.wrap ((u : Int) + v) = (u : Int) + v := by rw [IntKind.wrap_u64]; omega
    obtain ⟨c, wh, hcu, hcv⟩ : ∃ c : Nat, IntKind.i64.wrap (((u : Int) + v) / 2) = (c : Int) ∧ u ≤ c ∧ c < v := by
      clear HM HD hhi hlo
      exact ⟨(u + v) / 2, by rw [wrap_in _ (by omega)]; omega, by omega, by omega⟩
    have cA : c - a < A.length := by omega
    obtain ⟨q, hq⟩ : ∃ q, q = p - c := ⟨_, rfl⟩
    have qB : m0 ≤ q ∧ q - m0 < B.length := by omega
    obtain ⟨x, hx⟩ : ∃ x, A[c - a]? = some x := ⟨_, List.getElem?_eq_getElem cA⟩
    obtain ⟨y, hy⟩ : ∃ y, B[q - m0]? = some y := ⟨_, List.getElem?_eq_getElem qB.2⟩
    have ex := encL_get enc (gA c x (by omega) hx)
    have ey := encL_get enc (gB q y qB.1 hy)
    have wq : IntKind.i64.wrap ((p : Int) - c) = (q : Int) := by rw [wrap_in _ (by omega)]; omega
    have w3 := wrap_in ((c : Int) + 1) (by omega)
    have qN : q < N := by omega
    have cN : c < N := by omega
    have tk : ∀ z, (enc z).take 4 = enc z := fun z => List.take_of_length_le (by rw [hk]; omega)
    obtain ⟨es, hes⟩ : ∃ es, es = encL enc cs := ⟨_, rfl⟩
    rw [← hes] at ex ey
    have hid : s.H[id]? = some (some ⟨59, 4, es⟩) := by rw [hs', hes]; exact hH
    simp -dsimp -implicitDefEqProofs [-getElem?_pos, go_sem, hP, t20, t21, e1, wu, aconv, aint_shr, wh]
    refine adrawB (fun _ => true) [] hP (by kernel_rfl) (by kernel_rfl) ?_
    simp -dsimp -implicitDefEqProofs [-getElem?_pos, go_sem, hP, t0, t22, t4, wq, hid, qN, cN, ex, ey, tk, hk]
    refine callB_flat ((hcmp y x).lift _ _) hP hen (args_same (by simp [go_sem]; exact ⟨fun c h => (him y c h).1, fun c h => (him x c h).1⟩)) ⟨iv (if lt y x then -1 else 0), _, rfl, by cases lt y x <;> simp⟩ (by rintro r ⟨c, rfl, _⟩; exact .sc) ?_
    rintro r ⟨z, rfl, hlt'⟩
    simp -dsimp -implicitDefEqProofs [-getElem?_pos, go_sem, hP, hlt']
    refine condP (fun hl => ?_) (fun hl => ?_)
    · simp -dsimp -implicitDefEqProofs [-getElem?_pos, go_sem, hP]
      refine ⟨c - u, by omega, ?_⟩
      rw [hJ]
      refine ⟨u, c, hu0, by omega, by omega, rfl, hlo, .inr ⟨x, y, hx, by rw [show n - c - 1 - m0 = q - m0 by omega]; exact hy, hl⟩, by simp -dsimp -implicitDefEqProofs [-getElem?_pos, go_sem, t0], by simp -dsimp -implicitDefEqProofs [-getElem?_pos, go_sem, t1], by simp -dsimp -implicitDefEqProofs [-getElem?_pos, go_sem, t2], by simp -dsimp -implicitDefEqProofs [-getElem?_pos, go_sem, t3], by simp -dsimp -implicitDefEqProofs [-getElem?_pos, go_sem, t4], by simp -dsimp -implicitDefEqProofs [-getElem?_pos, go_sem, t18], by simp -dsimp -implicitDefEqProofs [-getElem?_pos, go_sem, t19], by simp -dsimp -implicitDefEqProofs [-getElem?_pos, go_sem, t20], by simp -dsimp -implicitDefEqProofs [-getElem?_pos, go_sem], by simp -dsimp -implicitDefEqProofs [-getElem?_pos, go_sem, t22], hs'⟩
    · simp -dsimp -implicitDefEqProofs [-getElem?_pos, go_sem, hP, w3]
      refine ⟨v - (c + 1), by omega, ?_⟩
      rw [hJ]
      refine ⟨c + 1, v, by omega, by omega, hvr, rfl, .inr ⟨x, y, by rw [show c + 1 - 1 - a = c - a by omega]; exact hx, by rw [show n - (c + 1) - m0 = q - m0 by omega]; exact hy, hl⟩, hhi, by simp -dsimp -implicitDefEqProofs [-getElem?_pos, go_sem, t0], by simp -dsimp -implicitDefEqProofs [-getElem?_pos, go_sem, t1], by simp -dsimp -implicitDefEqProofs [-getElem?_pos, go_sem, t2], by simp -dsimp -implicitDefEqProofs [-getElem?_pos, go_sem, t3], by simp -dsimp -implicitDefEqProofs [-getElem?_pos, go_sem, t4], by simp -dsimp -implicitDefEqProofs [-getElem?_pos, go_sem, t18], by simp -dsimp -implicitDefEqProofs [-getElem?_pos, go_sem, t19], by simp -dsimp -implicitDefEqProofs [-getElem?_pos, go_sem], by simp -dsimp -implicitDefEqProofs [-getElem?_pos, go_sem, t21], by simp -dsimp -implicitDefEqProofs [-getElem?_pos, go_sem, t22], hs'⟩
  have huv' : u = v := by
    have : ¬ u < v := by simpa using h
    omega
  subst huv'
  obtain ⟨e, he⟩ : ∃ e, e = n - u := ⟨_, rfl⟩
  have we : IntKind.i64.wrap ((n : Int) - u) = (e : Int) := by rw [wrap_in _ (by omega)]; omega
  obtain ⟨i, hi⟩ : ∃ i, i = u - a := ⟨_, rfl⟩
  obtain ⟨j, hj⟩ : ∃ j, j = e - m0 := ⟨_, rfl⟩
  have hres := cut_ok ho sA sB (i := i) (j := j) (by omega) (by omega) (by
    rcases hlo with h | ⟨x, y, h1, h2, h3⟩
    · rcases HM.out with ⟨h0, h', _⟩ | ⟨_, h', _⟩
      · have hnb := HN.out h0
        exact .inr (.inl (by omega))
      · exact .inl (by omega)
    · exact .inr (.inr ⟨x, y, by rw [show i - 1 = u - 1 - a by omega]; exact h1, by rw [show j = n - u - m0 by omega]; exact h2, h3⟩)) (by
    rcases hhi with h | ⟨x, y, h1, h2, h3⟩
    · rcases HM.out with ⟨_, _, h'⟩ | ⟨_, _, h'⟩
      · exact .inr (.inl (by omega))
      · exact .inl (by omega)
    · exact .inr (.inr ⟨x, y, by rw [hi]; exact h1, by rw [show j - 1 = n - u - 1 - m0 by omega]; exact h2, h3⟩))
  obtain ⟨A1, hA1'⟩ : ∃ A1, A1 = A.take i := ⟨_, rfl⟩
  obtain ⟨A2, hA2'⟩ : ∃ A2, A2 = A.drop i := ⟨_, rfl⟩
  obtain ⟨B1, hB1'⟩ : ∃ B1, B1 = B.take j := ⟨_, rfl⟩
  obtain ⟨B2, hB2'⟩ : ∃ B2, B2 = B.drop j := ⟨_, rfl⟩
  have lA1 : A1.length = i := by rw [hA1', List.length_take]; omega
  have lA2 : A2.length = A.length - i := by rw [hA2', List.length_drop]
  have lB1 : B1.length = j := by rw [hB1', List.length_take]; omega
  have lB2 : B2.length = B.length - j := by rw [hB2', List.length_drop]
  have sA1 : Srt lt A1 := by rw [hA1']; exact sA.sublist (List.take_sublist _ _)
  have sA2 : Srt lt A2 := by rw [hA2']; exact sA.sublist (List.drop_sublist _ _)
  have sB1 : Srt lt B1 := by rw [hB1']; exact sB.sublist (List.take_sublist _ _)
  have sB2 : Srt lt B2 := by rw [hB2']; exact sB.sublist (List.drop_sublist _ _)
  have eA : A = A1 ++ A2 := by rw [hA1', hA2', List.take_append_drop]
  have eB : B = B1 ++ B2 := by rw [hB1', hB2', List.take_append_drop]
  rw [← hA1', ← hA2', ← hB1', ← hB2'] at hres
  simp -dsimp -implicitDefEqProofs [-getElem?_pos, go_sem, hP]
  refine awp_cut (by rw [hN]; kernel_rfl) ?_
  simp -dsimp -implicitDefEqProofs [-getElem?_pos, go_sem, hP, t19, t20, we]
  have lens : a + i = u ∧ u ≤ m0 ∧ u ≤ mid ∧ e = m0 + j ∧ mid = u + j ∧ mid + A2.length = e ∧ e + B2.length = b := by clear HM HN HD hlo hhi hcmp ih; omega
  obtain ⟨K1, hK1⟩ : ∃ K1 : St → Prop, K1 = fun s => s.t 0 = .sref id 0 N ∧ s.t 1 = iv a ∧ s.t 3 = iv b ∧ s.t 4 = .fn g [] ∧ s.t 18 = iv mid ∧ s.t 20 = iv u ∧ s.t 24 = iv e ∧ s.H = H.set id (flO enc (P ++ A1 ++ B1 ++ A2 ++ B2 ++ S)) := ⟨_, rfl⟩
  clear HM HN HD hlo hhi
  have hcs0 : P ++ A ++ B ++ S = P ++ A1 ++ A2 ++ B1 ++ B2 ++ S := by rw [eA, eB]; simp
  rw [hcs0] at hH0
  refine awp_join K1 (by rw [hN]; kernel_rfl) ?_ ?_
  · by_cases q1 : u < m0
    · have q1' : decide (u < m0) = true := decide_eq_true q1
      by_cases q2 : m0 < e
      · have q2' : decide (m0 < e) = true := decide_eq_true q2
        have hro := rotate_m (row := E.row) (src := E.src) enc lt g hc (P ++ A1) A2 B1 (B2 ++ S) s.H id u m0 e N (by omega) (by omega) (by rw [List.length_append]; omega) (by omega) (by omega) (by simp only [List.length_append]; omega) hb9 (by rw [hs', hH0]; simp)
        simp -dsimp -implicitDefEqProofs [-getElem?_pos, go_sem, hP, t20, t2, q1', q2', t0, t4]
        refine callB_m hro hP en_88 ?_
        rintro r H' rfl
        simp -dsimp -implicitDefEqProofs [-getElem?_pos, go_sem, hP]
        refine ⟨_, Weaker.refl _, ?_⟩
        rw [hK1]
        refine ⟨by simp -dsimp -implicitDefEqProofs [-getElem?_pos, go_sem, t0], by simp -dsimp -implicitDefEqProofs [-getElem?_pos, go_sem, t1], by simp -dsimp -implicitDefEqProofs [-getElem?_pos, go_sem, t3], by simp -dsimp -implicitDefEqProofs [-getElem?_pos, go_sem, t4], by simp -dsimp -implicitDefEqProofs [-getElem?_pos, go_sem, t18], by simp -dsimp -implicitDefEqProofs [-getElem?_pos, go_sem, t20], by simp -dsimp -implicitDefEqProofs [-getElem?_pos, go_sem], ?_⟩
        show s.H.set id _ = _
        rw [hs']
        simp
      · have q2' : decide (m0 < e) = false := decide_eq_false q2
        have b1 : B1 = [] := List.length_eq_zero_iff.1 (by omega)
        simp -dsimp -implicitDefEqProofs [-getElem?_pos, go_sem, hP, t20, t2, q1', q2']
        refine ⟨_, Weaker.refl _, ?_⟩
        rw [hK1]
        refine ⟨by simp -dsimp -implicitDefEqProofs [-getElem?_pos, go_sem, t0], by simp -dsimp -implicitDefEqProofs [-getElem?_pos, go_sem, t1], by simp -dsimp -implicitDefEqProofs [-getElem?_pos, go_sem, t3], by simp -dsimp -implicitDefEqProofs [-getElem?_pos, go_sem, t4], by simp -dsimp -implicitDefEqProofs [-getElem?_pos, go_sem, t18], by simp -dsimp -implicitDefEqProofs [-getElem?_pos, go_sem, t20], by simp -dsimp -implicitDefEqProofs [-getElem?_pos, go_sem], ?_⟩
        show s.H = _
        rw [hs', show P ++ A1 ++ B1 ++ A2 ++ B2 ++ S = P ++ A1 ++ A2 ++ B1 ++ B2 ++ S by rw [b1]; simp, set_same hH0]
    · have q1' : decide (u < m0) = false := decide_eq_false q1
      have a2 : A2 = [] := List.length_eq_zero_iff.1 (by omega)
      simp -dsimp -implicitDefEqProofs [-getElem?_pos, go_sem, hP, t20, t2, q1']
      refine ⟨_, Weaker.refl _, ?_⟩
      rw [hK1]
      refine ⟨by simp -dsimp -implicitDefEqProofs [-getElem?_pos, go_sem, t0], by simp -dsimp -implicitDefEqProofs [-getElem?_pos, go_sem, t1], by simp -dsimp -implicitDefEqProofs [-getElem?_pos, go_sem, t3], by simp -dsimp -implicitDefEqProofs [-getElem?_pos, go_sem, t4], by simp -dsimp -implicitDefEqProofs [-getElem?_pos, go_sem, t18], by simp -dsimp -implicitDefEqProofs [-getElem?_pos, go_sem, t20], by simp -dsimp -implicitDefEqProofs [-getElem?_pos, go_sem], ?_⟩
      show s.H = _
      rw [hs', show P ++ A1 ++ B1 ++ A2 ++ B2 ++ S = P ++ A1 ++ A2 ++ B1 ++ B2 ++ S by rw [a2]; simp, set_same hH0]
  clear t0 t1 t2 t3 t4 t18 t19 t20 t21 t22 hs'
  intro s hs'
  rw [hK1] at hs'
  obtain ⟨t0, t1, t3, t4, t18, t20, t24, hs'⟩ := hs'
  obtain ⟨K2, hK2⟩ : ∃ K2 : St → Prop, K2 = fun s => s.t 0 = .sref id 0 N ∧ s.t 3 = iv b ∧ s.t 4 = .fn g [] ∧ s.t 18 = iv mid ∧ s.t 24 = iv e ∧ s.H = H.set id (flO enc (P ++ smerge lt A1 B1 ++ A2 ++ B2 ++ S)) := ⟨_, rfl⟩
  have hid1 : s.H[id]? = some (flO enc (P ++ A1 ++ B1 ++ A2 ++ B2 ++ S)) := by rw [hs']; simp [hlt]
  refine awp_join K2 (by rw [hN]; kernel_rfl) ?_ ?_
  · by_cases q1 : a < u
    · have q1' : decide (a < u) = true := decide_eq_true q1
      by_cases q2 : u < mid
      · have q2' : decide (u < mid) = true := decide_eq_true q2
        have hsy := ih E.row E.src P A1 B1 (A2 ++ B2 ++ S) s.H id a u mid N (by omega) (by omega) (by omega) sA1 sB1 ha (by omega) (by omega) (by simp only [List.length_append]; omega) hb9 (by rw [hid1]; simp)
        simp -dsimp -implicitDefEqProofs [-getElem?_pos, go_sem, hP, t20, t1, t18, q1', q2', t0, t4]
        refine callB_m hsy hP en_78 ?_
        rintro r H' rfl
        simp -dsimp -implicitDefEqProofs [-getElem?_pos, go_sem, hP]
        refine ⟨_, Weaker.refl _, ?_⟩
        rw [hK2]
        refine ⟨by simp -dsimp -implicitDefEqProofs [-getElem?_pos, go_sem, t0], by simp -dsimp -implicitDefEqProofs [-getElem?_pos, go_sem, t3], by simp -dsimp -implicitDefEqProofs [-getElem?_pos, go_sem, t4], by simp -dsimp -implicitDefEqProofs [-getElem?_pos, go_sem, t18], by simp -dsimp -implicitDefEqProofs [-getElem?_pos, go_sem, t24], ?_⟩
        show s.H.set id _ = _
        rw [hs', List.set_set]
        simp
      · have q2' : decide (u < mid) = false := decide_eq_false q2
        have b1 : B1 = [] := List.length_eq_zero_iff.1 (by omega)
        simp -dsimp -implicitDefEqProofs [-getElem?_pos, go_sem, hP, t20, t1, t18, q1', q2']
        refine ⟨_, Weaker.refl _, ?_⟩
        rw [hK2]
        refine ⟨by simp -dsimp -implicitDefEqProofs [-getElem?_pos, go_sem, t0], by simp -dsimp -implicitDefEqProofs [-getElem?_pos, go_sem, t3], by simp -dsimp -implicitDefEqProofs [-getElem?_pos, go_sem, t4], by simp -dsimp -implicitDefEqProofs [-getElem?_pos, go_sem, t18], by simp -dsimp -implicitDefEqProofs [-getElem?_pos, go_sem, t24], ?_⟩
        show s.H = _
        rw [hs', b1, smerge_nil]
        simp
    · have q1' : decide (a < u) = false := decide_eq_false q1
      have a1 : A1 = [] := List.length_eq_zero_iff.1 (by omega)
      simp -dsimp -implicitDefEqProofs [-getElem?_pos, go_sem, hP, t20, t1, q1']
      refine ⟨_, Weaker.refl _, ?_⟩
      rw [hK2]
      refine ⟨by simp -dsimp -implicitDefEqProofs [-getElem?_pos, go_sem, t0], by simp -dsimp -implicitDefEqProofs [-getElem?_pos, go_sem, t3], by simp -dsimp -implicitDefEqProofs [-getElem?_pos, go_sem, t4], by simp -dsimp -implicitDefEqProofs [-getElem?_pos, go_sem, t18], by simp -dsimp -implicitDefEqProofs [-getElem?_pos, go_sem, t24], ?_⟩
      show s.H = _
      rw [hs', a1]
      simp [smerge]
  clear t0 t1 t3 t4 t18 t20 t24 hs' hid1
  intro s hs'
  rw [hK2] at hs'
  obtain ⟨t0, t3, t4, t18, t24, hs'⟩ := hs'
  have hid2 : s.H[id]? = some (flO enc (P ++ smerge lt A1 B1 ++ A2 ++ B2 ++ S)) := by rw [hs']; simp [hlt]
  have lm := smerge_len (lt := lt) A1 B1
  refine awp_sound _ _ _ (by rw [hN]; kernel_rfl) ?_
  by_cases q1 : mid < e
  · have q1' : decide (mid < e) = true := decide_eq_true q1
    by_cases q2 : e < b
    · have q2' : decide (e < b) = true := decide_eq_true q2
      have hsy := ih E.row E.src (P ++ smerge lt A1 B1) A2 B2 S s.H id mid e b N (by omega) (by omega) (by omega) sA2 sB2 (by rw [List.length_append, lm]; omega) (by omega) (by omega) (by simp only [List.length_append, lm]; omega) hb9 hid2
      simp -dsimp -implicitDefEqProofs [-getElem?_pos, go_sem, hP, t18, t24, t3, q1', q2', t0, t4]
      refine callB_m hsy hP en_78 ?_
      rintro r H' rfl
      simp -dsimp -implicitDefEqProofs [-getElem?_pos, go_sem, hP]
      rw [hC, hs', List.set_set, hres]
      simp
    · have q2' : decide (e < b) = false := decide_eq_false q2
      have b2 : B2 = [] := List.length_eq_zero_iff.1 (by omega)
      simp -dsimp -implicitDefEqProofs [-getElem?_pos, go_sem, hP, t18, t24, t3, q1', q2']
      rw [hC, hs', hres, b2, smerge_nil]
      simp
  · have q1' : decide (mid < e) = false := decide_eq_false q1
    have a2 : A2 = [] := List.length_eq_zero_iff.1 (by omega)
    simp -dsimp -implicitDefEqProofs [-getElem?_pos, go_sem, hP, t18, t24, q1']
    rw [hC, hs', hres, a2]
    simp [smerge]

theorem symMerge_m (hc : CmpOk enc lt g) (ho : SOrd lt) (f : Nat) : SymOk enc lt g f := by
  induction f with
  | zero => intro row src P A B S H id a m0 b N hf hA hB; omega
  | succ f ih => exact symStep enc lt g hc ho f ih
end
end Go.Proofs.YtabdihohphlheaaGreatDoor
