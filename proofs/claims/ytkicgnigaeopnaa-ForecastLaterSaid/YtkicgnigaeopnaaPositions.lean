/- The reference's comparison of positions; the least position. -/
import Derived.Test.YtkicgnigaeopnaaProject
import Derived.Test.YtkicgnigaeopnaaCmp
set_option linter.unusedSimpArgs false
namespace Go.Proofs.Ytkicgnigaeopnaa
open Go.PA
open Go.RowKit

theorem imm_posL (l : List Pos) : Imm (posL l) := by simp [go_sem, posL, Pos.cells]
theorem Pos.ext' {p q : Pos} (h1 : p.d = q.d) (h2 : p.a = q.a) : p = q := by
  cases p; cases q; simp_all

theorem positions_pf (a b : List Pos) (ha : a.length ≤ 100000) (hb : b.length ≤ 100000) :
    PFun Try.prog none none 11 [posL a, posL b] (fun x => ∃ t, x = bv t ∧ (t = true ↔ a = b)) := by
  refine pfun_intro Try.func11 rfl (by simp [Try.f11]) (by kernel_rfl) ?_
  intro E hP hr hs hW hN
  simp [go_sem, hP, posL]
  refine condP (fun h => ?_) (fun h => ?_)
  rotate_left
  · simp [go_sem, hP, Try.f11]
    intro e
    subst e
    simp at h
  have hlen : a.length = b.length := by simp at h; omega
  simp [go_sem, hP]
  refine aloop0 (fun m s => ∃ k, k ≤ a.length ∧ m = a.length - k ∧ s.t 0 = posL a ∧ s.t 1 = posL b ∧ s.t 12 = iv a.length ∧ s.t 13 = iv k ∧ a.take k = b.take k) a.length (by rw [hN]; rfl) ?_ ?_
  · exact ⟨0, by simp, by simp, by simp [go_sem, posL], by simp [go_sem, posL], by simp [go_sem], by simp [go_sem], by simp⟩
  rintro m s ⟨k, hk, rfl, t0, t1, t12, t13, heq⟩
  simp [go_sem, hP, t12, t13]
  refine condP (fun h => ?_) (fun h => ?_)
  · have hka : k < a.length := by simpa using h
    have hkb : k < b.length := by omega
    have w1 : IntKind.i64.wrap (↑k + 1) = ((k + 1 : Nat) : Int) := by rw [wrap_in _ (by omega)]; rfl
    simp [go_sem, hP, t13]
    refine adrawB (fun _ => true) [] hP (by kernel_rfl) rfl ?_
    simp [go_sem, hP, t0, t1, hka, hkb, posL, Pos.cells]
    refine condP (fun h => ?_) (fun h => ?_)
    · simp [go_sem, hP, Try.f11]
      intro h'
      subst h'
      simp at h
    · simp at h
      obtain ⟨e1, e2⟩ := h
      simp [go_sem, hP, t13, w1]
      refine ⟨a.length - (k + 1), by omega, k + 1, by omega, rfl, by rw [t0]; rfl, by rw [t1]; rfl, t12, by omega, ?_⟩
      rw [List.take_succ_eq_append_getElem hka, List.take_succ_eq_append_getElem hkb, heq, Pos.ext' e1 e2]
  · have hk' : k = a.length := by simp at h; omega
    subst hk'
    simp [go_sem, hP, Try.f11]
    rw [List.take_length] at heq
    rw [heq, hlen, List.take_length]

theorem low1_pf (p q : Pos) : PFun Try.prog none none 30 [.agg p.cells, .agg q.cells] (· = iv (cmpI p.a q.a)) := by
  refine pfun_intro Try.func30 rfl (by simp [Try.f30]) (by kernel_rfl) ?_
  intro E hP hr hs hW hN
  simp [go_sem, hP, Pos.cells]
  refine callB_pure (compare_pf p.a q.a) hP en_31 (args_same (by simp [go_sem])) .sc ?_
  simp [go_sem, hP, Try.f30]

/-- The first least position. -/
def minP : Pos → List Pos → Pos
  | p, [] => p
  | p, q :: l => minP (if q.a < p.a then q else p) l
theorem cmpI_lt (a b : Int) : cmpI a b < 0 ↔ a < b := by unfold cmpI; split <;> (try split) <;> simp <;> omega
theorem minP_app : ∀ (p : Pos) (l : List Pos) (q : Pos), minP p (l ++ [q]) = if q.a < (minP p l).a then q else minP p l
  | _, [], _ => rfl
  | p, r :: l, q => minP_app (if r.a < p.a then r else p) l q

theorem min_pf (p : Pos) (l : List Pos) (hl : l.length ≤ 100000) : PFun Try.prog none none 29 [posL (p :: l), .fn 30 []] (· = .agg (minP p l).cells) := by
  refine pfun_intro Try.func29 rfl (by simp [Try.f29]) (by kernel_rfl) ?_
  intro E hP hr hs hW hN
  simp [go_sem, hP, posL, Pos.cells]
  refine condP (fun h => absurd h (by simp; omega)) (fun _ => ?_)
  simp [go_sem, hP]
  refine aloop0 (fun m s => ∃ k, k ≤ l.length ∧ m = l.length - k ∧ s.t 0 = posL (p :: l) ∧ s.t 1 = .fn 30 [] ∧ s.t 4 = .ref 0 0 0 ∧ s.t 5 = .ref 1 0 0 ∧ s.t 6 = iv (k + 1) ∧ ∃ z, s.H = [some ⟨33, 2, [z]⟩, some ⟨33, 2, [(minP p (l.take k)).cells]⟩] ∧ z.length = 2) l.length (by rw [hN]; rfl) ?_ ?_
  · exact ⟨0, by simp, by simp, by simp [go_sem, posL, Pos.cells], by simp [go_sem], by simp [go_sem], by simp [go_sem], by simp [go_sem], [iv 0, iv 0], by simp [minP, Pos.cells, go_sem, hP], rfl⟩
  rintro m s ⟨k, hk, rfl, t0, t1, t4, t5, t6, z, hH, hz⟩
  simp [go_sem, hP, t0, t6, posL]
  refine condP (fun h => ?_) (fun h => ?_)
  · have hk' : k < l.length := by simp at h; omega
    have w1 : IntKind.i64.wrap (↑k + 1 + 1) = (k : Int) + 1 + 1 := wrap_in _ (by omega)
    have e1 : ((k : Int) + 1).toNat = k + 1 := by omega
    have e2 : 0 ≤ (k : Int) + 1 := by omega
    have tk : l.take (k + 1) = l.take k ++ [l[k]] := List.take_succ_eq_append_getElem hk'
    refine adrawB (fun _ => true) [] hP (by kernel_rfl) rfl ?_
    simp [go_sem, hP, t0, t1, t5, t6, posL, hH, e1, e2, hk', Pos.cells]
    refine callB_pure (low1_pf l[k] (minP p (l.take k))) hP en_30 (args_same (by simp [go_sem, Pos.cells])) .sc ?_
    simp [go_sem, hP]
    refine condP (fun h => ?_) (fun h => ?_)
    · have h : l[k].a < (minP p (l.take k)).a := by simpa [cmpI_lt] using h
      simp [go_sem, hP, t0, t1, t5, t6, posL, e1, e2, hk', Pos.cells, w1]
      refine ⟨l.length - (k + 1), by omega, k + 1, by omega, rfl, t4, by omega, z, ⟨rfl, ?_⟩, hz⟩
      rw [tk, minP_app, if_pos h]
      exact ⟨rfl, rfl⟩
    · have h : ¬ l[k].a < (minP p (l.take k)).a := by
        intro h'
        have := (cmpI_lt _ _).2 h'
        simp at h
        omega
      simp [go_sem, hP, t6, w1]
      refine ⟨l.length - (k + 1), by omega, k + 1, by omega, rfl, by rw [t0]; rfl, t1, t4, t5, by omega, z, ⟨rfl, ?_⟩, hz⟩
      rw [tk, minP_app, if_neg h]
      exact ⟨rfl, rfl⟩
  · have hk' : k = l.length := by simp at h; omega
    subst hk'
    rw [List.take_length] at hH
    simp [go_sem, hP, t4, t5, hH, Pos.cells, hz, Try.f29]
    exact done_imm (by simp [go_sem]) (by simp [Pos.cells])

/-- forecast.Lowest. -/
def lowest : List Pos → Pos × Bool
  | [] => (⟨0, 0⟩, false)
  | p :: l => (minP p l, true)
theorem lowest_pf (l : List Pos) (hl : l.length ≤ 100000) : PFun Try.prog none none 22 [posL l] (· = .tup [.agg (lowest l).1.cells, bv (lowest l).2]) := by
  refine pfun_intro Try.func22 rfl (by simp [Try.f22]) (by kernel_rfl) ?_
  intro E hP hr hs hW hN
  simp [go_sem, hP, posL]
  cases l with
  | nil =>
    simp [go_sem, hP, Try.f22]
    exact done_imm (by simp [go_sem]) (by simp [lowest, Pos.cells])
  | cons p l =>
    refine condP (fun h => absurd h (by simp)) (fun _ => ?_)
    simp [go_sem, hP]
    refine callB_is ((min_pf p l (by simp at hl; omega)).lift _ _) hP en_29 (by simp [go_sem, Pos.cells]) (by simp [go_sem, Pos.cells]) ?_
    simp [go_sem, hP, Try.f22, Pos.cells]
    exact done_imm (by simp [go_sem]) (by simp [lowest, Pos.cells])
end Go.Proofs.Ytkicgnigaeopnaa
