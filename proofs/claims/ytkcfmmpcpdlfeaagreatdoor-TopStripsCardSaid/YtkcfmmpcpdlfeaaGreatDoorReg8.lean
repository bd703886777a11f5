/- Registers: replaying; checking. -/
import Derived.Test.YtkcfmmpcpdlfeaaGreatDoorReg7
import Derived.Test.YtkcfmmpcpdlfeaaGreatDoorPaCell
set_option linter.unusedSimpArgs false
set_option linter.unusedVariables false
namespace Go.Proofs.YtkcfmmpcpdlfeaaGreatDoor
open Go.PA
open Go.RowKit

theorem secsB_all : ∀ (l : List TSecurity) (p : Int), secsB p l = true → (∀ s, s ∈ l → secB s = true) ∧ ∀ (i : Nat) (s t : TSecurity), l[i]? = some s → l[i + 1]? = some t → s.ID < t.ID
  | [], _, _ => ⟨fun _ h => (by cases h), fun i s t h => by simp at h⟩
  | x :: l, p, h => by
    unfold secsB at h
    rw [Bool.and_eq_true, Bool.and_eq_true] at h
    obtain ⟨⟨h1, h2⟩, h3⟩ := h
    obtain ⟨g1, g2⟩ := secsB_all l _ h3
    refine ⟨fun s hs => ?_, fun i s t hs ht => ?_⟩
    · rcases List.mem_cons.1 hs with rfl | hs
      · exact h1
      · exact g1 s hs
    · cases i with
      | zero =>
        simp only [List.getElem?_cons_zero, Option.some.injEq] at hs
        subst hs
        cases l with
        | nil => simp at ht
        | cons y l =>
          simp only [List.getElem?_cons_succ, List.getElem?_cons_zero, Option.some.injEq] at ht
          subst ht
          unfold secsB at h3
          rw [Bool.and_eq_true, Bool.and_eq_true, decide_eq_true_eq] at h3
          exact h3.1.2
      | succ i => exact g2 i s t (by simpa using hs) (by simpa using ht)
theorem gall_pf (m : TMove) : PFun Tryz.prog none none 57 [.agg m.cells] (· = bv true) := by
  refine pfun_intro Tryz.func57 rfl (by simp [Tryz.f57]) (by kernel_rfl) ?_
  intro E hP hr hs hW hN
  simp -dsimp -implicitDefEqProofs [-getElem?_pos, go_sem, hP, cMov]
/-- A clerk of one's own. -/
def NewC (H : Heap) (sx : AV) (t : RepSt) (r : AV) (H' : Heap) : Prop := ∃ c hid, r = .tup [.ref c 0 0, bv true] ∧ Clk H' c hid sx t.l t.n t.d ∧ H.length ≤ c ∧ (∀ (z : Nat) (o : AObj), H[z]? = some (some o) → z ≠ hid) ∧ Kept [] H H'
set_option maxHeartbeats 4000000 in
theorem replay_m {row src : Option Nat} (r : TRegister) (g : FuncId) (caps : List AV) (t : RepSt) (H : Heap) (hrun : Runs r.Securities rep0 r.Moves t) (hml : r.Moves.length ≤ 400) (hsl : r.Securities.length ≤ 1000) (hso : ∀ s, s ∈ r.Securities → secB s = true) (hen : enterable Tryz.prog g = true)
    (hg : ∀ m, m ∈ r.Moves → ∀ H', Kept [] H H' → MFun Tryz.prog row src g (.agg m.cells :: caps) H' (fun r H'' => r = bv true ∧ Kept [] H' H'')) :
    MFun Tryz.prog row src 56 [.agg r.cells, .fn g caps] H (NewC H (secsL r.Securities) t) := by
  obtain ⟨C, hC⟩ : ∃ C : AV → Heap → Prop, C = NewC H (secsL r.Securities) t := ⟨_, rfl⟩
  rw [← hC]
  have ex : ∃ x H', C x H' := by
    rw [hC]
    refine ⟨_, H ++ [some ⟨94, 4, [[secsL r.Securities, .sref (H.length + 1) 0 t.l.length, iv t.n, iv t.d]]⟩, some ⟨70, 3, encL THolding.cells t.l⟩], H.length, H.length + 1, rfl, ⟨by simp, ?_, by omega⟩, Nat.le_refl _, fun z o hz => by have := (List.getElem?_eq_some_iff.1 hz).1; omega, kept_app _ _ _⟩
    rw [List.getElem?_append_right (by omega)]
    simp
  refine mfun_intro Tryz.func56 rfl (by simp [Tryz.f56]) (by kernel_rfl) (ex) ?_
  intro E hP hr hs hN
  simp -dsimp -implicitDefEqProofs [-getElem?_pos, go_sem, hP, cReg]
  refine aloop_owncell (o := H.length + 1) (ty := 94) (k := 4) (cs := [secsL r.Securities, .nil, iv 0, iv 0]) 1 70 3 (by simp) (by decide) (by simp) rfl ?_
  obtain ⟨I, hI⟩ : ∃ I : Nat → St → Prop, I = fun m s => ∃ (k c hid : Nat) (v : RepSt), k ≤ r.Moves.length ∧ m = r.Moves.length - k ∧ Runs r.Securities rep0 (r.Moves.take k) v ∧ s.t 1 = .fn g caps ∧ s.t 6 = .ref c 0 0 ∧ s.t 14 = movesL r.Moves ∧ s.t 15 = iv r.Moves.length ∧ s.t 16 = iv k ∧ Clk s.H c hid (secsL r.Securities) v.l v.n v.d ∧ H.length ≤ c ∧ (∀ (z : Nat) (o : AObj), H[z]? = some (some o) → z ≠ hid) ∧ Kept [] H s.H := ⟨_, rfl⟩
  refine aloop0 I (r.Moves.length) (by rw [hN]; rfl) ?_ ?_
  · rw [hI]
    refine ⟨0, H.length + 1, H.length + 2, rep0, by omega, by omega, by simpa using Runs.nil, by simp -dsimp -implicitDefEqProofs [-getElem?_pos, go_sem], by simp -dsimp -implicitDefEqProofs [-getElem?_pos, go_sem], by simp -dsimp -implicitDefEqProofs [-getElem?_pos, go_sem], by simp -dsimp -implicitDefEqProofs [-getElem?_pos, go_sem], by simp -dsimp -implicitDefEqProofs [-getElem?_pos, go_sem], ⟨?_, ?_, by omega⟩, by omega, fun z o hz => by have := (List.getElem?_eq_some_iff.1 hz).1; omega, ?_⟩
    · simp [rep0]
    · simp [rep0, encL]
    · simp
      exact kept_app _ _ _
  intro m s hs'
  rw [hI] at hs'
  obtain ⟨k, c, hid, v, hk, hm, hv, t1, t6, t14, t15, t16, hc, hcl, hhl, kp⟩ := hs'
  simp -dsimp -implicitDefEqProofs [-getElem?_pos, go_sem, hP, t15, t16]
  refine condP (fun hq => ?_) (fun hq => ?_)
  · have hk : k < r.Moves.length := by simpa using hq
    obtain ⟨a, ha⟩ : ∃ a, r.Moves[k]? = some a := ⟨_, List.getElem?_eq_getElem hk⟩
    have wk := wrap_in ((k : Int) + 1) (by omega)
    obtain ⟨v', hv', hst⟩ := hrun.take k
    have e : v' = v := by rw [hv'.det, hv.det]
    subst e
    obtain ⟨⟨s1, s2, s3⟩, hv2⟩ := hst a ha
    have hnn := hv.n
    have hho := hv.ok
    have htl : (r.Moves.take k).length = k := by simp; omega
    rw [htl] at hnn hho
    have h00 : rep0.n = 0 := rfl
    have wn := wrap_in ((v'.n : Int) + 1) (by omega)
    have kb := bet_yes s2
    simp -dsimp -implicitDefEqProofs [-getElem?_pos, go_sem, hP, t14, t16, ha, cMov]
    obtain ⟨b, hb⟩ : ∃ b, b = s.H.length := ⟨_, rfl⟩
    obtain ⟨H1, hH1⟩ : ∃ H1 : Heap, H1 = s.H ++ [some ⟨67, 7, [[iv a.Number, iv a.Day, iv a.Kind, iv a.Security, iv a.From, iv a.To, iv a.Amount]]⟩] := ⟨_, rfl⟩
    have k1 : Kept [] s.H H1 := by rw [hH1]; exact kept_app _ _ _
    have a1 : H1[b]? = some (some ⟨67, 7, [[iv a.Number, iv a.Day, iv a.Kind, iv a.Security, iv a.From, iv a.To, iv a.Amount]]⟩) := by rw [hH1, hb]; simp
    have c1 := hc.kept k1
    have lb1 := (List.getElem?_eq_some_iff.1 a1).1
    rw [← hH1, ← hb]
    have gm := hg a (List.mem_of_getElem? ha) H1 (kp.trans k1)
    rw [cMov] at gm
    simp -dsimp -implicitDefEqProofs [-getElem?_pos, go_sem, hP, t1, a1, lb1]
    refine callB_m (by rw [hr, hs]; exact gm) hP hen ?_
    rintro x H2 ⟨rfl, k2⟩
    have a2 := k2 _ _ (by simp) a1
    have c2 := c1.kept k2
    have lb2 := (List.getElem?_eq_some_iff.1 a2).1
    have oc2 := c2.oc
    have lc2 := (List.getElem?_eq_some_iff.1 oc2).1
    simp -dsimp -implicitDefEqProofs [-getElem?_pos, go_sem, hP]
    refine adrawB (fun _ => true) [17] hP (by kernel_rfl) (by kernel_rfl) ?_
    simp -dsimp -implicitDefEqProofs [-getElem?_pos, go_sem, hP, t6, a2, lb2, oc2, lc2, s1, wn]
    refine callB_pure (gamong_pf a.Kind 1 3) hP en_60 (args_same (by simp -dsimp -implicitDefEqProofs [-getElem?_pos, go_sem])) .sc ?_
    have dm := fun {row src : Option Nat} => do_m (row := row) (src := src) c hid r.Securities v'.l v'.n v'.d a (2 * k) H2 c2 (by have := hho.len; omega) hsl hso hho (by omega)
    rw [cMov] at dm
    simp -dsimp -implicitDefEqProofs [-getElem?_pos, go_sem, hP, kb, t6, a2, lb2, oc2, lc2]
    refine callB_m (by rw [hr, hs]; exact dm) hP en_66 ?_
    rintro x H3 ⟨rfl, _, hd⟩
    obtain ⟨hid', c3, p3, k3⟩ := hd s3
    simp -dsimp -implicitDefEqProofs [-getElem?_pos, go_sem, hP, s3, t16, wk]
    refine ⟨r.Moves.length - (k + 1), by omega, ?_⟩
    rw [hI]
    refine ⟨k + 1, c, hid', stepR v' a, by omega, rfl, hv2, by simp -dsimp -implicitDefEqProofs [-getElem?_pos, go_sem, t1], by simp -dsimp -implicitDefEqProofs [-getElem?_pos, go_sem, t6], by simp -dsimp -implicitDefEqProofs [-getElem?_pos, go_sem, t14], by simp -dsimp -implicitDefEqProofs [-getElem?_pos, go_sem, t15], by simp -dsimp -implicitDefEqProofs [-getElem?_pos, go_sem], ?_, hcl, ?_, ?_⟩
    · simpa [stepR] using c3
    · exact fun z o hz => p3 z o (hhl z o hz) (((kp.trans k1).trans k2) z o (by simp) hz)
    · intro z o _ hz
      have h2 := ((kp.trans k1).trans k2) z o (by simp) hz
      have := (List.getElem?_eq_some_iff.1 hz).1
      have n1 : ¬ z = c := by omega
      exact k3 z o (by simp [n1, hhl z o hz]) h2
  · have hk : k = r.Moves.length := by simp at hq; omega
    subst hk
    rw [List.take_length] at hv
    have e : v = t := by rw [hv.det, hrun.det]
    subst e
    simp -dsimp -implicitDefEqProofs [-getElem?_pos, go_sem, hP, t6]
    rw [hC]
    exact ⟨c, hid, rfl, hc, hcl, hhl, kp⟩
theorem listEq_pf_hol (a b : List THolding) (ha : a.length ≤ 100000) (hb : b.length ≤ 100000) :
    PFun Tryz.prog none none 58 [.list 3 (encL THolding.cells a), .list 3 (encL THolding.cells b)] (· = bv (decide (a = b))) := by
  refine pfun_intro Tryz.func58 rfl (by simp [Tryz.f58]) (by kernel_rfl) ?_
  intro E hP hr hs hW hN
  by_cases hlen : a.length = b.length
  rotate_left
  · have hne : ¬ a = b := fun h => hlen (by rw [h])
    have hl : decide ((a.length : Int) = (b.length : Int)) = false := by simp; omega
    simp -dsimp -implicitDefEqProofs [-getElem?_pos, go_sem, hP, hl, hne]
  have hl : decide ((a.length : Int) = (b.length : Int)) = true := by simp; omega
  simp -dsimp -implicitDefEqProofs [-getElem?_pos, go_sem, hP, hl]
  obtain ⟨I, hI⟩ : ∃ I : Nat → St → Prop, I = fun m s => ∃ k : Nat, k ≤ a.length ∧ m = a.length - k ∧ s.t 0 = .list 3 (encL THolding.cells a) ∧ s.t 1 = .list 3 (encL THolding.cells b) ∧ s.t 12 = iv a.length ∧ s.t 13 = iv k ∧ a.take k = b.take k := ⟨_, rfl⟩
  refine aloop0 I (a.length) (by rw [hN]; rfl) ?_ ?_
  · rw [hI]
    exact ⟨0, by omega, by omega, by simp -dsimp -implicitDefEqProofs [-getElem?_pos, go_sem], by simp -dsimp -implicitDefEqProofs [-getElem?_pos, go_sem], by simp -dsimp -implicitDefEqProofs [-getElem?_pos, go_sem], by simp -dsimp -implicitDefEqProofs [-getElem?_pos, go_sem], by simp⟩
  intro m s hs'
  rw [hI] at hs'
  obtain ⟨k, hk, hm, t0, t1, t12, t13, heq⟩ := hs'
  simp -dsimp -implicitDefEqProofs [-getElem?_pos, go_sem, hP, t12, t13]
  refine condP (fun h => ?_) (fun h => ?_)
  · have hk : k < a.length := by simpa using h
    obtain ⟨x, hx⟩ : ∃ x, a[k]? = some x := ⟨_, List.getElem?_eq_getElem hk⟩
    obtain ⟨y, hy⟩ : ∃ y, b[k]? = some y := ⟨_, List.getElem?_eq_getElem (by omega)⟩
    have wk := wrap_in ((k : Int) + 1) (by omega)
    have tx : a.take (k + 1) = a.take k ++ [x] := by rw [List.take_add_one, hx]; rfl
    have ty : b.take (k + 1) = b.take k ++ [y] := by rw [List.take_add_one, hy]; rfl
    simp -dsimp -implicitDefEqProofs [-getElem?_pos, go_sem, hP, t13]
    refine adrawB (fun _ => true) [] hP (by kernel_rfl) (by kernel_rfl) ?_
    by_cases hxy : x = y
    · subst hxy
      simp -dsimp -implicitDefEqProofs [-getElem?_pos, go_sem, hP, t0, t1, hx, hy, THolding.cells, t13, wk]
      refine ⟨a.length - (k + 1), by omega, ?_⟩
      rw [hI]
      exact ⟨k + 1, by omega, rfl, by simp -dsimp -implicitDefEqProofs [-getElem?_pos, go_sem, t0], by simp -dsimp -implicitDefEqProofs [-getElem?_pos, go_sem, t1], by simp -dsimp -implicitDefEqProofs [-getElem?_pos, go_sem, t12], by simp -dsimp -implicitDefEqProofs [-getElem?_pos, go_sem], by rw [tx, ty, heq]⟩
    · have hne : ¬ a = b := fun h => by
        subst h
        rw [hx] at hy
        exact hxy (Option.some.inj hy)
      simp -dsimp -implicitDefEqProofs [-getElem?_pos, go_sem, hP, t0, t1, hx, hy, THolding.cells, t13, wk]
      refine condP (fun h => ?_) (fun h => ?_)
      · simp -dsimp -implicitDefEqProofs [-getElem?_pos, go_sem, hP, hne]
      · exact absurd (by cases x; cases y; simp at h; simp [h]) hxy
  · have hk : k = a.length := by simp at h; omega
    subst hk
    rw [List.take_length] at heq
    rw [hlen, List.take_length] at heq
    simp -dsimp -implicitDefEqProofs [-getElem?_pos, go_sem, hP, heq]

structure RegIn (r : TRegister) : Prop where
  ml : r.Moves.length ≤ 400
  sl : r.Securities.length ≤ 20
  so : ∀ s, s ∈ r.Securities → secB s = true
  asc : ∀ (i : Nat) (s t : TSecurity), r.Securities[i]? = some s → r.Securities[i + 1]? = some t → s.ID < t.ID
theorem RegOk.regIn {r : TRegister} {d : Int} (h : RegOk r d) : RegIn r := by
  obtain ⟨h1, h2⟩ := secsB_all _ _ h.secs
  exact ⟨h.mlen, h.slen, h1, h2⟩
theorem RegOk.hl {r : TRegister} {d : Int} (h : RegOk r d) : HoldOk r.Holdings (2 * r.Moves.length) := h.run.ok
set_option maxHeartbeats 4000000 in
theorem gcheck_pf (r : TRegister) (d : Int) (h : RegOk r d) : PFun Tryz.prog none none 18 [.agg r.cells] (· = iv 0) := by
  have hin := h.regIn
  have h1 := hin.ml
  have h2 := hin.sl
  have h4 := h.hl
  refine pfun_intro Tryz.func18 rfl (by simp [Tryz.f18]) (by kernel_rfl) ?_
  intro E hP hr hs hW hN
  have d1 : decide (20 < (r.Securities.length : Int)) = false := decide_eq_false (by omega)
  have d2 : decide (400 < (r.Moves.length : Int)) = false := decide_eq_false (by omega)
  have ir := imm_reg r
  simp -dsimp -implicitDefEqProofs [-getElem?_pos, go_sem, hP, cReg, encL_len, d1, d2]
  obtain ⟨I, hI⟩ : ∃ I : Nat → St → Prop, I = fun m s => ∃ k : Nat, k ≤ r.Securities.length ∧ m = r.Securities.length - k ∧ s.t 1 = .ref 0 0 0 ∧ s.t 18 = secsL r.Securities ∧ s.t 19 = iv r.Securities.length ∧ s.t 20 = iv k ∧ s.H[0]? = some (some ⟨33, 3, [[secsL r.Securities, holdsL r.Holdings, movesL r.Moves]]⟩) := ⟨_, rfl⟩
  refine aloop0 I (r.Securities.length) (by rw [hN]; rfl) ?_ ?_
  · rw [hI]
    exact ⟨0, by omega, by omega, by simp -dsimp -implicitDefEqProofs [-getElem?_pos, go_sem], by simp -dsimp -implicitDefEqProofs [-getElem?_pos, go_sem], by simp -dsimp -implicitDefEqProofs [-getElem?_pos, go_sem, encL_len], by simp -dsimp -implicitDefEqProofs [-getElem?_pos, go_sem], by simp -dsimp -implicitDefEqProofs [-getElem?_pos, go_sem]⟩
  intro m s hs'
  rw [hI] at hs'
  obtain ⟨k, hk, hm, t1, t18, t19, t20, g0⟩ := hs'
  have l0 := (List.getElem?_eq_some_iff.1 g0).1
  simp -dsimp -implicitDefEqProofs [-getElem?_pos, go_sem, hP, t19, t20]
  refine condP (fun hq => ?_) (fun hq => ?_)
  · have hk : k < r.Securities.length := by simpa using hq
    obtain ⟨a, ha⟩ : ∃ a, r.Securities[k]? = some a := ⟨_, List.getElem?_eq_getElem hk⟩
    have wk := wrap_in ((k : Int) + 1) (by omega)
    have sp := gsec_pf a (hin.so a (List.mem_of_getElem? ha))
    rw [cSec] at sp
    have g0' : ∀ x : Heap, (s.H ++ x)[0]? = some (some ⟨33, 3, [[secsL r.Securities, holdsL r.Holdings, movesL r.Moves]]⟩) := fun x => by rw [List.getElem?_append_left l0]; exact g0
    simp -dsimp -implicitDefEqProofs [-getElem?_pos, go_sem, hP, t18, t20, ha, cSec]
    refine adrawB (fun _ => true) [] hP (by kernel_rfl) (by kernel_rfl) ?_
    simp -dsimp -implicitDefEqProofs [-getElem?_pos, go_sem, hP]
    refine callB_pure sp hP en_22 (args_same (by simp -dsimp -implicitDefEqProofs [-getElem?_pos, go_sem])) .sc ?_
    by_cases k0 : k = 0
    · subst k0
      have w1 := wrap_in 1 (by omega)
      simp -dsimp -implicitDefEqProofs [-getElem?_pos, go_sem, hP, t1, g0', t20, wk, w1]
      refine ⟨r.Securities.length - 1, by omega, ?_⟩
      rw [hI]
      exact ⟨1, by omega, rfl, by simp -dsimp -implicitDefEqProofs [-getElem?_pos, go_sem, t1], by simp -dsimp -implicitDefEqProofs [-getElem?_pos, go_sem, t18], by simp -dsimp -implicitDefEqProofs [-getElem?_pos, go_sem, t19], by simp -dsimp -implicitDefEqProofs [-getElem?_pos, go_sem, w1], by simp -dsimp -implicitDefEqProofs [-getElem?_pos, go_sem, g0']⟩
    · obtain ⟨j, rfl⟩ : ∃ j, k = j + 1 := ⟨k - 1, by omega⟩
      obtain ⟨z, hz⟩ : ∃ z, r.Securities[j]? = some z := ⟨_, List.getElem?_eq_getElem (by omega)⟩
      have lt := hin.asc j z a hz ha
      have dj : decide ((0 : Int) < ((j + 1 : Nat) : Int)) = true := decide_eq_true (by omega)
      have wj := wrap_in (((j + 1 : Nat) : Int) - 1) (by omega)
      have ej : ((j + 1 : Nat) : Int) - 1 = (j : Int) := by omega
      have dl : decide (a.ID ≤ z.ID) = false := decide_eq_false (by omega)
      have lj : j < r.Securities.length := by omega
      rw [ej] at wj
      have wk2 := wrap_in ((j : Int) + 1 + 1) (by omega)
      simp -dsimp -implicitDefEqProofs [-getElem?_pos, go_sem, hP, t1, g0', t20, wk, wk2, dj, wj, ej, hz, cSec, dl, lj]
      refine ⟨r.Securities.length - (j + 1 + 1), by omega, ?_⟩
      rw [hI]
      exact ⟨j + 1 + 1, by omega, rfl, by simp -dsimp -implicitDefEqProofs [-getElem?_pos, go_sem, t1], by simp -dsimp -implicitDefEqProofs [-getElem?_pos, go_sem, t18], by simp -dsimp -implicitDefEqProofs [-getElem?_pos, go_sem, t19], by simp -dsimp -implicitDefEqProofs [-getElem?_pos, go_sem, wk2], by simp -dsimp -implicitDefEqProofs [-getElem?_pos, go_sem, g0']⟩
  · have hk : k = r.Securities.length := by simp at hq; omega
    subst hk
    have rm := fun {row src : Option Nat} => replay_m (row := row) (src := src) r 57 [] ⟨r.Holdings, r.Moves.length, d⟩ s.H h.run hin.ml (by omega) hin.so en_57 fun m hm H' hk => (mfun_of_flat ((gall_pf m).lift _ _) (args_same (by simp [imm_mov])) ⟨_, rfl⟩ (by rintro _ rfl; simp [flat_sc])).mono (by rintro x H'' ⟨rfl, rfl⟩; exact ⟨rfl, kept_refl _ _⟩)
    rw [cReg] at rm
    simp -dsimp -implicitDefEqProofs [-getElem?_pos, go_sem, hP, t1, g0]
    refine callB_m (by rw [hr, hs]; exact rm) hP en_56 ?_
    rintro x H1 ⟨c, hid, rfl, hc, _, _, kp⟩
    have a1 := kp _ _ (by simp) g0
    have l1 := (List.getElem?_eq_some_iff.1 a1).1
    have oc := hc.oc
    have lc := (List.getElem?_eq_some_iff.1 oc).1
    have ihl := imm_holds r.Holdings
    have lq := listEq_pf_hol r.Holdings r.Holdings (by have := h4.len; omega) (by have := h4.len; omega)
    rw [decide_eq_true rfl] at lq
    simp -dsimp -implicitDefEqProofs [-getElem?_pos, go_sem, hP]
    refine adrawB (fun _ => true) [] hP (by kernel_rfl) (by kernel_rfl) ?_
    simp -dsimp -implicitDefEqProofs [-getElem?_pos, go_sem, hP, t1, a1, l1, oc, lc]
    refine callB_flat (lq.lift _ _) hP en_58 (args_sref hc.oh (by rw [encL_len]) ihl (args_imm ihl (args_nil.2 trivial))) ⟨_, rfl⟩ (by rintro x rfl; simp [flat_sc]) ?_
    rintro x rfl
    simp -dsimp -implicitDefEqProofs [-getElem?_pos, go_sem, hP]
end Go.Proofs.YtkcfmmpcpdlfeaaGreatDoor
