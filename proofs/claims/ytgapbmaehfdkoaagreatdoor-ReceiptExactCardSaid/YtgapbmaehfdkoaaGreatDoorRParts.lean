/- The reference's Parts, for a seat without taxes (the same as in Ref28a). -/
import Derived.Test.YtgapbmaehfdkoaaGreatDoorRefCode
import Derived.Test.YtgapbmaehfdkoaaGreatDoorCash1
import Derived.Test.YtgapbmaehfdkoaaGreatDoorPaIns
set_option linter.unusedSimpArgs false
set_option linter.unusedVariables false
namespace Go.Proofs.YtgapbmaehfdkoaaGreatDoor
open Go.PA
open Go.RowKit

theorem done_nil {H : Heap} (k : Nat) {Q : AV → Prop} {b : Bx Q} (hq : Q (.list k [])) : Done H .nil Q b := done_weak .nil (imm_list.2 (by simp)) (.nil k) hq
theorem imm_ints (l : List Int) : Imm (intsL l) := by simp [intsL, go_sem]
/-! ### Codes: plain steps -/
theorem numR_snoc (cur : List UInt8) (c : UInt8) : numR (cur ++ [c]) = 10 * numR cur + ((c.toNat : Int) - 48) := by simp [numR]
theorem numR_bd {cur : List UInt8} : cur.all digR = true → 0 ≤ numR cur ∧ numR cur < (10 ^ cur.length : Nat) := by
  induction cur using snocRec with
  | h0 => intro _; simp [numR]
  | h1 l c ih =>
    intro h
    rw [List.all_append, Bool.and_eq_true] at h
    have h1 := ih h.1
    have h2 : digR c = true := by simpa using h.2
    simp only [digR, Bool.and_eq_true, decide_eq_true_eq] at h2
    rw [numR_snoc, List.length_append, List.length_singleton, Nat.pow_succ]
    omega
theorem numR_12 {cur : List UInt8} (h : cur.all digR = true) (hl : cur.length ≤ 12) : 0 ≤ numR cur ∧ numR cur ≤ 1000000000000 := by
  have h1 := numR_bd h
  have h2 : 10 ^ cur.length ≤ 10 ^ 12 := Nat.pow_le_pow_right (by omega) hl
  have h3 : (10 : Nat) ^ 12 = 1000000000000 := by decide
  omega
section
variable {L : List UInt8} {i : Nat} {cur : List UInt8} {out : List Int}
theorem drop_at {c : UInt8} (h : L[i]? = some c) : L.drop i = c :: L.drop (i + 1) := by
  obtain ⟨h1, h2⟩ := List.getElem?_eq_some_iff.1 h
  rw [List.drop_eq_getElem_cons h1, h2]
theorem step_none (hI : refGo [] L = (refGo cur (L.drop i)).map (out ++ ·)) (he : i = L.length ∨ L[i]? = some 46) (hk : okR cur = none) : refGo [] L = none := by
  rcases he with he | he
  · rw [he, List.drop_length, refGo, hk] at hI
    exact hI
  · rw [drop_at he, refGo, if_pos rfl, hk] at hI
    exact hI
theorem step_some {n : Int} (hI : refGo [] L = (refGo cur (L.drop i)).map (out ++ ·)) (he : i = L.length ∨ L[i]? = some 46) (hk : okR cur = some n) : (i + 1 ≤ L.length → refGo [] L = (refGo [] (L.drop (i + 1))).map ((out ++ [n]) ++ ·)) ∧ (i = L.length → refGo [] L = some (out ++ [n])) := by
  constructor
  · intro h
    rcases he with he | he
    · omega
    · rw [drop_at he, refGo, if_pos rfl, hk] at hI
      rw [hI, Option.bind_some, Option.map_map]
      congr 1
      funext x
      simp
  · intro he
    rw [he, List.drop_length, refGo, hk] at hI
    exact hI
theorem step_bad {c : UInt8} (hI : refGo [] L = (refGo cur (L.drop i)).map (out ++ ·)) (h : L[i]? = some c) (h2 : ¬ c = 46) (hd : digR c = false) : refGo [] L = none := by
  rw [drop_at h, refGo, if_neg h2, hd] at hI
  exact hI
theorem step_dig {c : UInt8} (hI : refGo [] L = (refGo cur (L.drop i)).map (out ++ ·)) (h : L[i]? = some c) (h2 : ¬ c = 46) (hd : digR c = true) : refGo [] L = (refGo (cur ++ [c]) (L.drop (i + 1))).map (out ++ ·) := by
  rw [drop_at h, refGo, if_neg h2, hd, if_pos rfl] at hI
  exact hI
end
theorem bl_at (s : ByteArray) (i : Nat) : s[i]? = (bl s)[i]? := by
  by_cases h : i < s.size
  · rw [getElem?_pos s i h, List.getElem?_eq_getElem (show i < (bl s).length from h)]
    rfl
  · rw [getElem?_neg s i h, List.getElem?_eq_none (show (bl s).length ≤ i by show s.size ≤ i; omega)]

theorem aix_str {q : ByteArray} {x : Int} {i : Nat} {a : UInt8} (hx : x = i) (h : q[i]? = some a) : aixV Tryz.prog 9 (.sc (.string q)) (iv x) = some (.sc (.int .u8 a.toNat)) := by
  subst hx
  simp [aixV, Tryz.underlying9, h]
set_option maxHeartbeats 4000000 in
set_option maxRecDepth 8000 in
theorem rparts_pf (q : ByteArray) : PFun Tryz.prog none none 61 [.sc (.string q)] (· = intsL (partsD q)) := by
  rw [← partsR_eq]
  refine pfun_intro Tryz.func61 rfl (by simp [Tryz.f61]) (by kernel_rfl) ?_
  intro E hP hr hs hW hN
  have hl : (bl q).length = q.size := rfl
  by_cases h12 : 12 < q.size
  · have d : decide ((12 : Int) < (q.size : Int)) = true := decide_eq_true (by omega)
    have e : partsR q = [] := by rw [partsR, if_pos h12]
    simp -dsimp -implicitDefEqProofs [-getElem?_pos, go_sem, hP, d]
    rw [e]
    exact done_nil 1 rfl
  have d : decide ((12 : Int) < (q.size : Int)) = false := decide_eq_false (by omega)
  have ep : partsR q = match refGo [] (bl q) with
      | some ns => if ns.length ≤ 4 then ns else []
      | none => [] := by rw [partsR, if_neg h12]; cases refGo [] (bl q) <;> rfl
  have bad : refGo [] (bl q) = none → partsR q = [] := fun h => by rw [ep, h]
  simp -dsimp -implicitDefEqProofs [-getElem?_pos, go_sem, hP, d]
  refine aloop_own 3 3 1 (by simp -dsimp -implicitDefEqProofs [-getElem?_pos, go_sem]) ?_
  obtain ⟨I, hI⟩ : ∃ I : Nat → St → Prop, I = fun m s => ∃ (i id : Nat) (cur : List UInt8) (out : List Int), i ≤ q.size + 1 ∧ m = q.size + 1 - i ∧ cur.length ≤ i ∧ out.length ≤ i ∧ cur.all digR = true ∧ (∀ a, cur.head? = some a → (bl q)[i - cur.length]? = some a) ∧ (i ≤ q.size → refGo [] (bl q) = (refGo cur ((bl q).drop i)).map (out ++ ·)) ∧ (i = q.size + 1 → refGo [] (bl q) = some out) ∧ s.t 0 = .sc (.string q) ∧ s.t 3 = .sref id 0 out.length ∧ s.t 4 = iv (numR cur) ∧ s.t 5 = iv cur.length ∧ s.t 6 = iv i ∧ s.H[id]? = some (some ⟨3, 1, out.map fun x => [iv x]⟩) := ⟨_, rfl⟩
  refine aloop0 I (q.size + 1) (by rw [hN]; rfl) ?_ ?_
  · rw [hI]
    exact ⟨0, 0, [], [], by omega, by omega, by simp, by simp, rfl, by simp, fun _ => by simp, fun h => by omega, by simp -dsimp -implicitDefEqProofs [-getElem?_pos, go_sem], by simp -dsimp -implicitDefEqProofs [-getElem?_pos, go_sem], by simp -dsimp -implicitDefEqProofs [-getElem?_pos, go_sem, numR], by simp -dsimp -implicitDefEqProofs [-getElem?_pos, go_sem], by simp -dsimp -implicitDefEqProofs [-getElem?_pos, go_sem], by simp -dsimp -implicitDefEqProofs [-getElem?_pos, go_sem]⟩
  intro m s hs'
  rw [hI] at hs'
  obtain ⟨i, id, cur, out, hi, hm, hcl, hol, hdg, hhd, hgo, hfin, t0, t3, t4, t5, t6, hH⟩ := hs'
  have ltH := (List.getElem?_eq_some_iff.1 hH).1
  subst hm
  simp -dsimp -implicitDefEqProofs [-getElem?_pos, go_sem, hP, t6, t0]
  refine condP (fun h => ?_) (fun h => ?_)
  rotate_left
  · have hi : i = q.size + 1 := by
      have : ¬ i ≤ q.size := by simpa using h
      omega
    have hf := hfin hi
    rw [hf] at ep
    simp only at ep
    by_cases c4 : out.length ≤ 4
    · have d4 : decide ((4 : Int) < (out.length : Int)) = false := decide_eq_false (by omega)
      rw [if_pos c4] at ep
      simp -dsimp -implicitDefEqProofs [-getElem?_pos, go_sem, hP, t3, d4, hH, ltH]
      rw [ep]
      refine done (x := intsL out) ?_ rfl ?_ <;> rw [view_sref, hH, viewS_some, List.drop_zero, List.take_of_length_le (by simp)]
      · exact imm_ints out
      · rfl
    · have d4 : decide ((4 : Int) < (out.length : Int)) = true := decide_eq_true (by omega)
      rw [if_neg c4] at ep
      simp -dsimp -implicitDefEqProofs [-getElem?_pos, go_sem, hP, t3, d4, hH, ltH]
      rw [ep]
      exact done_nil 1 rfl
  have hi : i ≤ q.size := by simpa using h
  have hgo := hgo hi
  have wi := wrap_in ((i : Int) + 1) (by omega)
  by_cases hend : i = q.size ∨ (bl q)[i]? = some 46
  · have two : (i = q.size) ∨ (¬ i = q.size ∧ q[i]? = some 46) := by
      by_cases e : i = q.size
      · exact .inl e
      · refine .inr ⟨e, ?_⟩
        rw [bl_at]
        exact hend.resolve_left e
    have reg : ∀ s' : St, True → True := fun _ h => h
    by_cases hk : (cur.length = 1 ∨ cur.length = 2) ∧ ¬ cur.head? = some 48
    · have ok : okR cur = some (numR cur) := by rw [okR, if_pos ⟨hk.1, hdg, hk.2⟩]
      obtain ⟨g1, g2⟩ := step_some hgo (by rw [hl]; exact hend) ok
      obtain ⟨a, ha⟩ : ∃ a, cur.head? = some a := by
        cases cur with
        | nil => simp at hk
        | cons a r => exact ⟨a, rfl⟩
      have hat := hhd a ha
      rw [← bl_at] at hat
      have a48 : ¬ a.toNat = 48 := fun e => hk.2 (by rw [ha]; congr 1; exact UInt8.toNat_inj.1 e)
      have d0 : decide (cur = []) = false := decide_eq_false fun e => by rw [e] at ha; cases ha
      have hne : ¬ cur = [] := fun e => by rw [e] at ha; cases ha
      have d2n : decide (2 < cur.length) = false := decide_eq_false (by omega)
      have d4n : decide (a.toNat = 48) = false := decide_eq_false a48
      have d2 : decide ((2 : Int) < (cur.length : Int)) = false := decide_eq_false (by omega)
      have d48 : decide ((a.toNat : Int) = 48) = false := decide_eq_false (by omega)
      have ws := wrap_in ((i : Int) - cur.length) (by omega)
      have ts : ((i : Int) - cur.length).toNat = i - cur.length := by omega
      have xa := aix_str (x := (i : Int) - cur.length) (by omega) hat
      have gs : (0 : Int) ≤ (i : Int) - cur.length := by omega
      obtain ⟨n, hn⟩ : ∃ n, n = numR cur := ⟨_, rfl⟩
      rw [← hn] at t4 g1 g2
      have nxt : ∀ (s2 : St) (id2 : Nat), s2.t 0 = .sc (.string q) → s2.t 3 = .sref id2 0 (out.length + 1) → s2.t 4 = iv 0 → s2.t 5 = iv 0 → s2.t 6 = iv ((i : Int) + 1) → s2.H[id2]? = some (some ⟨3, 1, (out ++ [n]).map fun x => [iv x]⟩) → ∃ n', n' < q.size + 1 - i ∧ I n' s2 := fun s2 id2 b1 b2 b3 b4 b5 b6 => by
        refine ⟨q.size + 1 - (i + 1), by omega, ?_⟩
        rw [hI]
        exact ⟨i + 1, id2, [], out ++ [n], by omega, rfl, by simp, by simp; omega, rfl, by simp, fun h => g1 (by omega), fun h => g2 (by omega), b1, by rw [b2]; simp, b3, b4, b5, b6⟩
      rcases two with e | ⟨e, h46⟩
      · have dE : decide ((i : Int) = (q.size : Int)) = true := decide_eq_true (by omega)
        simp -dsimp -implicitDefEqProofs [-getElem?_pos, go_sem, hP, t0, t6, dE, t5, d0, hne, d2, d2n, d4n, a48, ws, xa, d48, t4, t3, hH, ltH, wi]
        refine ⟨by omega, by omega, nxt _ s.H.length (by simp -dsimp -implicitDefEqProofs [-getElem?_pos, go_sem, t0]) (by simp -dsimp -implicitDefEqProofs [-getElem?_pos, go_sem]) (by simp -dsimp -implicitDefEqProofs [-getElem?_pos, go_sem]) (by simp -dsimp -implicitDefEqProofs [-getElem?_pos, go_sem]) (by simp -dsimp -implicitDefEqProofs [-getElem?_pos, go_sem]) ?_⟩
        rw [List.getElem?_append_right (by rw [List.length_set]; omega), List.length_set, Nat.sub_self]
        simp
      · have dE : decide ((i : Int) = (q.size : Int)) = false := decide_eq_false (by omega)
        have x46 := aix_str (x := (i : Int)) rfl h46
        simp -dsimp -implicitDefEqProofs [-getElem?_pos, go_sem, hP, t0, t6, dE, x46, t5, d0, hne, d2, d2n, d4n, a48, ws, xa, d48, t4, t3, hH, ltH, wi]
        refine ⟨by omega, by omega, nxt _ s.H.length (by simp -dsimp -implicitDefEqProofs [-getElem?_pos, go_sem, t0]) (by simp -dsimp -implicitDefEqProofs [-getElem?_pos, go_sem]) (by simp -dsimp -implicitDefEqProofs [-getElem?_pos, go_sem]) (by simp -dsimp -implicitDefEqProofs [-getElem?_pos, go_sem]) (by simp -dsimp -implicitDefEqProofs [-getElem?_pos, go_sem]) ?_⟩
        rw [List.getElem?_append_right (by rw [List.length_set]; omega), List.length_set, Nat.sub_self]
        simp
    · have ok : okR cur = none := by
        rw [okR, if_neg]
        rintro ⟨x1, _, x3⟩
        exact hk ⟨x1, x3⟩
      have e0 := bad (step_none hgo (by rw [hl]; exact hend) ok)
      rw [e0]
      cases hcur : cur with
      | nil =>
        rw [hcur] at t5
        rcases two with e | ⟨e, h46⟩
        · have dE : decide ((i : Int) = (q.size : Int)) = true := decide_eq_true (by omega)
          simp -dsimp -implicitDefEqProofs [-getElem?_pos, go_sem, hP, t0, t6, dE, t5]
          exact done_nil 1 rfl
        · have dE : decide ((i : Int) = (q.size : Int)) = false := decide_eq_false (by omega)
          have x46 := aix_str (x := (i : Int)) rfl h46
          simp -dsimp -implicitDefEqProofs [-getElem?_pos, go_sem, hP, t0, t6, dE, x46, t5]
          exact done_nil 1 rfl
      | cons a r =>
      have ha : cur.head? = some a := by rw [hcur]; rfl
      have d0 : decide (cur = []) = false := decide_eq_false fun e => by rw [e] at ha; cases ha
      have hne : ¬ cur = [] := fun e => by rw [e] at ha; cases ha
      have lp : 0 < cur.length := by rw [hcur]; simp
      by_cases c2 : 2 < cur.length
      · have d2 : decide ((2 : Int) < (cur.length : Int)) = true := decide_eq_true (by omega)
        have d2n : decide (2 < cur.length) = true := decide_eq_true c2
        rcases two with e | ⟨e, h46⟩
        · have dE : decide ((i : Int) = (q.size : Int)) = true := decide_eq_true (by omega)
          simp -dsimp -implicitDefEqProofs [-getElem?_pos, go_sem, hP, t0, t6, dE, t5, d0, hne, d2, d2n]
          exact done_nil 1 rfl
        · have dE : decide ((i : Int) = (q.size : Int)) = false := decide_eq_false (by omega)
          have x46 := aix_str (x := (i : Int)) rfl h46
          simp -dsimp -implicitDefEqProofs [-getElem?_pos, go_sem, hP, t0, t6, dE, x46, t5, d0, hne, d2, d2n]
          exact done_nil 1 rfl
      have d2 : decide ((2 : Int) < (cur.length : Int)) = false := decide_eq_false (by omega)
      have d2n : decide (2 < cur.length) = false := decide_eq_false (by omega)
      have a48 : a = 48 := by
        refine Classical.byContradiction fun c => hk ⟨by omega, ?_⟩
        rw [ha]
        intro e
        exact c (Option.some.inj e)
      have hat := hhd a ha
      rw [← bl_at, a48] at hat
      have ws := wrap_in ((i : Int) - cur.length) (by omega)
      have xa := aix_str (x := (i : Int) - cur.length) (by omega) hat
      rcases two with e | ⟨e, h46⟩
      · have dE : decide ((i : Int) = (q.size : Int)) = true := decide_eq_true (by omega)
        simp -dsimp -implicitDefEqProofs [-getElem?_pos, go_sem, hP, t0, t6, dE, t5, d0, hne, d2, d2n, ws, xa]
        exact done_nil 1 rfl
      · have dE : decide ((i : Int) = (q.size : Int)) = false := decide_eq_false (by omega)
        have x46 := aix_str (x := (i : Int)) rfl h46
        simp -dsimp -implicitDefEqProofs [-getElem?_pos, go_sem, hP, t0, t6, dE, x46, t5, d0, hne, d2, d2n, ws, xa]
        exact done_nil 1 rfl
  · have hi2 : ¬ i = q.size := fun e => hend (.inl e)
    obtain ⟨c, hc⟩ : ∃ c, (bl q)[i]? = some c := ⟨_, List.getElem?_eq_getElem (show i < (bl q).length by omega)⟩
    have c46 : ¬ c = 46 := fun e => hend (.inr (by rw [hc, e]))
    have n46 : ¬ c.toNat = 46 := fun e => c46 (UInt8.toNat_inj.1 e)
    have dn : decide ((c.toNat : Int) = 46) = false := decide_eq_false (by omega)
    have dnn : decide (c.toNat = 46) = false := decide_eq_false n46
    have dE : decide ((i : Int) = (q.size : Int)) = false := decide_eq_false (by omega)
    have xc := aix_str (x := (i : Int)) rfl ((bl_at q i).trans hc)
    by_cases c1 : c.toNat < 48
    · have hd : digR c = false := by simp only [digR, Bool.and_eq_false_iff, decide_eq_false_iff_not]; omega
      have e0 := bad (step_bad hgo hc c46 hd)
      have f1 : decide ((c.toNat : Int) < 48) = true := decide_eq_true (by omega)
      rw [e0]
      simp -dsimp -implicitDefEqProofs [-getElem?_pos, go_sem, hP, t0, t6, dE, xc, dn, dnn, f1, c1]
      exact done_nil 1 rfl
    have f1 : decide ((c.toNat : Int) < 48) = false := decide_eq_false (by omega)
    have f1n : decide (c.toNat < 48) = false := decide_eq_false c1
    by_cases c2 : 57 < c.toNat
    · have hd : digR c = false := by simp only [digR, Bool.and_eq_false_iff, decide_eq_false_iff_not]; omega
      have e0 := bad (step_bad hgo hc c46 hd)
      have f2 : decide ((57 : Int) < (c.toNat : Int)) = true := decide_eq_true (by omega)
      rw [e0]
      simp -dsimp -implicitDefEqProofs [-getElem?_pos, go_sem, hP, t0, t6, dE, xc, dn, dnn, f1, f1n, f2, c2]
      exact done_nil 1 rfl
    have f2 : decide ((57 : Int) < (c.toNat : Int)) = false := decide_eq_false (by omega)
    have f2n : decide (57 < c.toNat) = false := decide_eq_false c2
    have hd : digR c = true := by simp only [digR, Bool.and_eq_true, decide_eq_true_eq]; omega
    have g1 := step_dig hgo hc c46 hd
    have lc : cur.length ≤ 12 := by omega
    have nb := numR_12 hdg lc
    have sn := numR_snoc cur c
    obtain ⟨n, hn⟩ : ∃ n, n = numR cur := ⟨_, rfl⟩
    rw [← hn] at t4 nb sn
    have w1 : IntKind.u8.wrap ((c.toNat : Int) - 48) = (c.toNat : Int) - 48 := by rw [IntKind.wrap_u8]; omega
    have w2 := wrap_in ((c.toNat : Int) - 48) (by omega)
    have w3 := wrap_in (10 * n) (by omega)
    have w4 := wrap_in (10 * n + ((c.toNat : Int) - 48)) (by omega)
    have w5 := wrap_in ((cur.length : Int) + 1) (by omega)
    simp -dsimp -implicitDefEqProofs [-getElem?_pos, go_sem, hP, t0, t6, dE, xc, dn, dnn, f1, f1n, f2, f2n, t4, t5, w1, aconv, w2, w3, w4, w5, wi]
    refine ⟨q.size + 1 - (i + 1), by omega, ?_⟩
    rw [hI]
    refine ⟨i + 1, id, cur ++ [c], out, by omega, rfl, by simp; omega, by omega, ?_, ?_, fun _ => g1, fun h => by omega, by simp -dsimp -implicitDefEqProofs [-getElem?_pos, go_sem, t0], by simp -dsimp -implicitDefEqProofs [-getElem?_pos, go_sem, t3], ?_, by simp -dsimp -implicitDefEqProofs [-getElem?_pos, go_sem], by simp -dsimp -implicitDefEqProofs [-getElem?_pos, go_sem], hH⟩
    · rw [List.all_append, hdg]
      simp [hd]
    · intro a ha
      cases hcur : cur with
      | nil =>
        rw [hcur] at ha
        simp at ha
        subst ha
        simpa using hc
      | cons b r =>
        rw [hcur] at ha
        simp at ha
        subst ha
        have := hhd b (by rw [hcur]; rfl)
        rw [hcur] at this hcl
        rw [← this]
        congr 1
        simp at hcl ⊢
    · rw [sn]
      simp -dsimp -implicitDefEqProofs [-getElem?_pos, go_sem]
end Go.Proofs.YtgapbmaehfdkoaaGreatDoor
