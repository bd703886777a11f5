/- Carrying over: checking. -/
import Derived.Test.YtmkhcmiplleghaaGreatDoorCar5
set_option linter.unusedSimpArgs false
set_option linter.unusedVariables false
namespace Go.Proofs.YtmkhcmiplleghaaGreatDoor
open Go.PA
open Go.RowKit

def pwB {α : Type} (p : α → α → Bool) : List α → Bool
  | [] => true
  | a :: l => l.all (p a) && pwB p l
theorem pwB_pw {α : Type} {p : α → α → Bool} : ∀ {l : List α}, pwB p l = true → l.Pairwise fun a b => p a b = true
  | [], _ => .nil
  | a :: l, h => by
    simp only [pwB, Bool.and_eq_true, List.all_eq_true] at h
    exact List.pairwise_cons.2 ⟨h.1, pwB_pw h.2⟩
theorem codes4_asc : codes4.Pairwise fun a b => decide (cmpC a b < 0) = true := pwB_pw (by kernel_rfl)
theorem GenLf.mem {k : Nat} {l : List TLeft} (h : GenLf k l) {x : TLeft} (hx : x ∈ l) : x.Code ∈ codes4 := List.mem_of_mem_take (h.sub.subset (List.mem_map_of_mem hx))
theorem GenLf.nodup {k : Nat} {l : List TLeft} (h : GenLf k l) : (l.map (·.Code)).Nodup := by
  have : (codes4.take k).Pairwise fun a b => decide (cmpC a b < 0) = true := codes4_asc.sublist (List.take_sublist _ _)
  refine (this.sublist h.sub).imp fun {a b} hab => ?_
  rintro rfl
  have e : cmpC a a = 0 := by
    have key : ∀ l : List Int, cmpLL l l = 0 := fun l => by induction l with
      | nil => rfl
      | cons x l ih => simp [cmpLL, ih]
    exact key _
  rw [e] at hab
  simp at hab
theorem GenLf.asc {k : Nat} {l : List TLeft} (h : GenLf k l) {i : Nat} {x y : TLeft} (hx : l[i]? = some x) (hy : l[i + 1]? = some y) : cmpC x.Code y.Code < 0 := by
  have : (codes4.take k).Pairwise fun a b => decide (cmpC a b < 0) = true := codes4_asc.sublist (List.take_sublist _ _)
  have hp := this.sublist h.sub
  rw [List.pairwise_iff_getElem] at hp
  have l1 := (List.getElem?_eq_some_iff.1 hx).1
  have l2 := (List.getElem?_eq_some_iff.1 hy).1
  have := hp i (i + 1) (by simpa using l1) (by simpa using l2) (by omega)
  rw [List.getElem?_eq_getElem l1] at hx
  rw [List.getElem?_eq_getElem l2] at hy
  cases hx; cases hy
  simpa using this
theorem GenOps.ok {l : List TOpen} (h : GenOps l) (hl : l.length ≤ 9) {i : Nat} {x : TOpen} (hx : l[i]? = some x) : OpOk x ∧ x.Commitment = i + 1 := by
  obtain ⟨h1, h2, h3, h4, h5⟩ := h i x hx
  have := (List.getElem?_eq_some_iff.1 hx).1
  simp only [List.mem_cons, List.not_mem_nil, or_false] at h5
  exact ⟨⟨h1, by omega, h3, h4, by omega⟩, h2⟩
theorem jmSeen : JMap Tryz.prog 101 2 (.sc (.bool false)) := jmap_mk (kt := 103) (et := 4) (by kernel_rfl) (by kernel_rfl) (by kernel_rfl)
set_option maxHeartbeats 4000000 in
theorem ccheck_pf (l : List TOpen) (left : List TLeft) (hg : GenOps l) (hl : l.length ≤ 9) (hf : GenLf 4 left) : PFun Tryz.prog none none 14 [opensL l, leftsL left] (· = iv 0) := by
  refine pfun_intro Tryz.func14 rfl (by simp [Tryz.f14]) (by kernel_rfl) ?_
  intro E hP hr hs hW hN
  have ll := hf.sub.length_le
  rw [List.length_map, List.length_take] at ll
  have d1 : decide ((60 : Int) < (l.length : Int)) = false := decide_eq_false (by omega)
  have d2 : decide ((60 : Int) < (left.length : Int)) = false := decide_eq_false (by omega)
  simp -dsimp -implicitDefEqProofs [-getElem?_pos, go_sem, hP, encL_len, d1, d2]
  obtain ⟨I, hI⟩ : ∃ I : Nat → St → Prop, I = fun m s => ∃ (k id : Nat) (M : List (List Int × Bool)), k ≤ l.length ∧ m = l.length - k ∧ (∀ e, e ∈ M → ∃ a b : Int, e.1 = [a, b] ∧ b ≤ k) ∧ s.t 0 = opensL l ∧ s.t 1 = leftsL left ∧ s.t 5 = .mref id ∧ s.t 20 = opensL l ∧ s.t 21 = iv l.length ∧ s.t 22 = iv k ∧ s.H[id]? = some (some ⟨0, 2, encG kJ valB M⟩) := ⟨_, rfl⟩
  refine aloop0 I (l.length) (by rw [hN]; rfl) ?_ ?_
  · rw [hI]
    exact ⟨0, 0, [], by omega, by omega, by simp, by simp -dsimp -implicitDefEqProofs [-getElem?_pos, go_sem], by simp -dsimp -implicitDefEqProofs [-getElem?_pos, go_sem], by simp -dsimp -implicitDefEqProofs [-getElem?_pos, go_sem], by simp -dsimp -implicitDefEqProofs [-getElem?_pos, go_sem], by simp -dsimp -implicitDefEqProofs [-getElem?_pos, go_sem, encL_len], by simp -dsimp -implicitDefEqProofs [-getElem?_pos, go_sem], by simp -dsimp -implicitDefEqProofs [-getElem?_pos, go_sem, encG]⟩
  intro m s hs'
  rw [hI] at hs'
  obtain ⟨k, id, M, hk, hm, hM, t0, t1, t5, t20, t21, t22, hH⟩ := hs'
  have ltH := (List.getElem?_eq_some_iff.1 hH).1
  simp -dsimp -implicitDefEqProofs [-getElem?_pos, go_sem, hP, t22, t21]
  refine condP (fun h => ?_) (fun h => ?_)
  · have hk : k < l.length := by simpa using h
    obtain ⟨x, hx⟩ : ∃ x, l[k]? = some x := ⟨_, List.getElem?_eq_getElem hk⟩
    obtain ⟨y0, hy0⟩ : ∃ x, l[0]? = some x := ⟨_, List.getElem?_eq_getElem (by omega)⟩
    obtain ⟨ox, cx⟩ := hg.ok hl hx
    have oy := (hg.ok hl hy0).1
    have wk := wrap_in ((k : Int) + 1) (by omega)
    have hM2 : ∀ e, e ∈ M → e.1.length = 2 := fun e he => by obtain ⟨a, b, h1, _⟩ := hM e he; rw [h1]; rfl
    have gN : getG M [x.Office, x.Commitment] = none := by
      have key : ∀ M : List (List Int × Bool), (∀ e, e ∈ M → ∃ a b : Int, e.1 = [a, b] ∧ b ≤ k) → getG M [x.Office, x.Commitment] = none := fun M => by
        induction M with
        | nil => intro _; rfl
        | cons e M ih =>
          intro h
          obtain ⟨a, b, h1, h2⟩ := h e (by simp)
          rw [getG, if_neg, ih fun e he => h e (by simp [he])]
          rw [h1]
          intro q
          simp only [List.cons.injEq, and_true] at q
          omega
      exact key M hM
    have lk : alookO Tryz.prog 101 (some (some ⟨0, 2, encG kJ valB M⟩)) (.agg [iv x.Office, iv x.Commitment]) false = some (.sc (.bool false)) := by
      have := alookO_J (f := valB) jmSeen (ty := 0) (k := 2) hM2 [x.Office, x.Commitment] rfl
      rw [gN] at this
      exact this
    have op := copen_pf ox
    rw [cOpn] at op
    have dy : decide (x.Year = y0.Year) = true := decide_eq_true (by rw [ox.yr, oy.yr])
    simp -dsimp -implicitDefEqProofs [-getElem?_pos, go_sem, hP, t20, t22, hx, cOpn]
    refine adrawB (fun _ => true) [] hP (by kernel_rfl) (by kernel_rfl) ?_
    simp -dsimp -implicitDefEqProofs [-getElem?_pos, go_sem, hP]
    refine callB_pure op hP en_21 (args_same (by simp -dsimp -implicitDefEqProofs [-getElem?_pos, go_sem])) .sc ?_
    simp -dsimp -implicitDefEqProofs [-getElem?_pos, go_sem, hP, t5, t0, hH, ltH, lk, hy0, cOpn, dy]
    have up : ∀ H : Heap, aupdO Tryz.prog 101 id H (some (some ⟨0, 2, encG kJ valB M⟩)) (.agg [iv x.Office, iv x.Commitment]) (.sc (.bool true)) = some (H.set id (some ⟨0, 2, encG kJ valB (putG M [x.Office, x.Commitment] true)⟩)) := fun H =>
      aupdO_J (f := valB) jmSeen (H := H) hM2 [x.Office, x.Commitment] rfl true
    simp -dsimp -implicitDefEqProofs [-getElem?_pos, go_sem, hP, t5, hH, ltH, up, t22, wk]
    refine ⟨l.length - (k + 1), by omega, ?_⟩
    rw [hI]
    refine ⟨k + 1, id, putG M [x.Office, x.Commitment] true, by omega, rfl, fun e he => ?_, by simp -dsimp -implicitDefEqProofs [-getElem?_pos, go_sem, t0], by simp -dsimp -implicitDefEqProofs [-getElem?_pos, go_sem, t1], by simp -dsimp -implicitDefEqProofs [-getElem?_pos, go_sem, t5], by simp -dsimp -implicitDefEqProofs [-getElem?_pos, go_sem, t20], by simp -dsimp -implicitDefEqProofs [-getElem?_pos, go_sem, t21], by simp -dsimp -implicitDefEqProofs [-getElem?_pos, go_sem], by simp -dsimp -implicitDefEqProofs [-getElem?_pos, go_sem, ltH]⟩
    rcases putG_mem he with rfl | he
    · exact ⟨_, _, rfl, by omega⟩
    · obtain ⟨a, b, h1, h2⟩ := hM e he
      exact ⟨a, b, h1, by omega⟩
  · clear hI
    simp -dsimp -implicitDefEqProofs [-getElem?_pos, go_sem, hP, t1, encL_len]
    obtain ⟨J, hJ⟩ : ∃ I : Nat → St → Prop, I = fun m s => ∃ k : Nat, k ≤ left.length ∧ m = left.length - k ∧ s.t 1 = leftsL left ∧ s.t 51 = leftsL left ∧ s.t 52 = iv left.length ∧ s.t 53 = iv k := ⟨_, rfl⟩
    refine aloop0 J (left.length) (by rw [hN]; rfl) ?_ ?_
    · rw [hJ]
      exact ⟨0, by omega, by omega, by simp -dsimp -implicitDefEqProofs [-getElem?_pos, go_sem, t1], by simp -dsimp -implicitDefEqProofs [-getElem?_pos, go_sem, t1], by simp -dsimp -implicitDefEqProofs [-getElem?_pos, go_sem, t1, encL_len], by simp -dsimp -implicitDefEqProofs [-getElem?_pos, go_sem]⟩
    clear t0 t1 t5 t20 t21 t22 hH ltH hm hk
    intro m s hs'
    rw [hJ] at hs'
    obtain ⟨k, hk, hm, t1, t51, t52, t53⟩ := hs'
    simp -dsimp -implicitDefEqProofs [-getElem?_pos, go_sem, hP, t53, t52]
    refine condP (fun h => ?_) (fun h => ?_)
    · have hk : k < left.length := by simpa using h
      obtain ⟨x, hx⟩ : ∃ x, left[k]? = some x := ⟨_, List.getElem?_eq_getElem hk⟩
      have hc := hf.mem (List.mem_of_getElem? hx)
      have ha := hf.am x (List.mem_of_getElem? hx)
      simp only [List.mem_cons, List.not_mem_nil, or_false] at ha
      have wk := wrap_in ((k : Int) + 1) (by omega)
      have e1 : decide (0 ≤ x.Amount) = true := decide_eq_true (by omega)
      have e2 : decide (x.Amount ≤ 1000000000000000) = true := decide_eq_true (by omega)
      have fin : ∀ s' : St, s'.t 1 = leftsL left → s'.t 51 = leftsL left → s'.t 52 = iv left.length → s'.t 53 = iv ((k : Int) + 1) → ∃ m', m' < left.length - k ∧ J m' s' := fun s' a1 a2 a3 a4 => by
        refine ⟨left.length - (k + 1), by omega, ?_⟩
        rw [hJ]
        exact ⟨k + 1, by omega, rfl, a1, a2, a3, by rw [a4]; simp⟩
      subst hm
      simp -dsimp -implicitDefEqProofs [-getElem?_pos, go_sem, hP, t51, t53, hx, cLft]
      refine adrawB (fun _ => true) [] hP (by kernel_rfl) (by kernel_rfl) ?_
      simp -dsimp -implicitDefEqProofs [-getElem?_pos, go_sem, hP]
      refine callB_pure (ccode4_pf hc) hP en_33 (args_same (by simp -dsimp -implicitDefEqProofs [-getElem?_pos, go_sem])) .sc ?_
      simp -dsimp -implicitDefEqProofs [-getElem?_pos, go_sem, hP]
      refine callB_pure (camong_pf x.Amount 0 1000000000000000) hP en_18 (args_same (by simp -dsimp -implicitDefEqProofs [-getElem?_pos, go_sem])) .sc ?_
      cases k with
      | zero =>
        have w1 : IntKind.i64.wrap 1 = 1 := wrap_in 1 (by omega)
        simp -dsimp -implicitDefEqProofs [-getElem?_pos, go_sem, hP, e1, e2, t53, w1]
        exact fin _ (by simp -dsimp -implicitDefEqProofs [-getElem?_pos, go_sem, t1]) (by simp -dsimp -implicitDefEqProofs [-getElem?_pos, go_sem, t51]) (by simp -dsimp -implicitDefEqProofs [-getElem?_pos, go_sem, t52]) (by simp -dsimp -implicitDefEqProofs [-getElem?_pos, go_sem, w1])
      | succ j =>
        obtain ⟨y, hy⟩ : ∃ x, left[j]? = some x := ⟨_, List.getElem?_eq_getElem (by omega)⟩
        have hcy := hf.mem (List.mem_of_getElem? hy)
        have asc := hf.asc hy hx
        have wj := wrap_in ((j : Int) + 1 - 1) (by omega)
        rw [Int.add_sub_cancel] at wj
        have d0 : decide ((0 : Int) < (j : Int) + 1) = true := decide_eq_true (by omega)
        have dc : decide (0 ≤ cmpC y.Code x.Code) = false := decide_eq_false (by omega)
        simp -dsimp -implicitDefEqProofs [-getElem?_pos, go_sem, hP, e1, e2, d0, t1, Int.add_sub_cancel, wj, hy, cLft]
        refine callB_pure (cmp4_pf hcy hc) hP en_24 (args_same (by simp -dsimp -implicitDefEqProofs [-getElem?_pos, go_sem])) .sc ?_
        have wk2 := wrap_in ((j : Int) + 1 + 1) (by omega)
        simp -dsimp -implicitDefEqProofs [-getElem?_pos, go_sem, hP, dc, t53, wk2]
        exact fin _ (by simp -dsimp -implicitDefEqProofs [-getElem?_pos, go_sem, t1]) (by simp -dsimp -implicitDefEqProofs [-getElem?_pos, go_sem, t51]) (by simp -dsimp -implicitDefEqProofs [-getElem?_pos, go_sem, t52]) (by simp -dsimp -implicitDefEqProofs [-getElem?_pos, go_sem, wk2])
    · simp -dsimp -implicitDefEqProofs [-getElem?_pos, go_sem, hP]
end Go.Proofs.YtmkhcmiplleghaaGreatDoor
