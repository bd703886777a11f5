/- Registers: adding to what a holder has. -/
import Derived.Test.YtkcfmmpcpdlfeaaGreatDoorReg4
set_option linter.unusedSimpArgs false
set_option linter.unusedVariables false
namespace Go.Proofs.YtkcfmmpcpdlfeaaGreatDoor
open Go.PA
open Go.RowKit

/-- The clerk and its holdings. -/
structure Clk (H : Heap) (c hid : Nat) (sx : AV) (l : List THolding) (n d : Int) : Prop where
  oc : H[c]? = some (some ⟨94, 4, [[sx, .sref hid 0 l.length, iv n, iv d]]⟩)
  oh : H[hid]? = some (some ⟨70, 3, encL THolding.cells l⟩)
  ne : c ≠ hid
theorem Clk.kept {H H' : Heap} {c hid : Nat} {sx : AV} {l : List THolding} {n d : Int} (h : Clk H c hid sx l n d) (k : Kept [] H H') : Clk H' c hid sx l n d := ⟨k _ _ (by simp) h.oc, k _ _ (by simp) h.oh, h.ne⟩
theorem Clk.sl {H : Heap} {c hid : Nat} {sx : AV} {l : List THolding} {n d : Int} (h : Clk H c hid sx l n d) : SlIs H (.sref hid 0 l.length) 3 (encL THolding.cells l) := .inr (.inr ⟨hid, _, by rw [encL_len], h.oh⟩)
theorem encL_set {α : Type} (enc : α → List AV) : ∀ (l : List α) (k : Nat) (x : α), (encL enc l).set k (enc x) = encL enc (l.set k x)
  | [], _, _ => rfl
  | _ :: _, 0, _ => rfl
  | y :: l, k + 1, x => by
    have := encL_set enc l k x
    simp only [encL, List.map_cons, List.set_cons_succ] at *
    rw [this]
/-- What has become of the holdings. -/
def Clk2 (H : Heap) (c hid : Nat) (sx : AV) (l : List THolding) (n d : Int) (H' : Heap) : Prop := ∃ hid', Clk H' c hid' sx l n d ∧ (∀ (x : Nat) (o : AObj), x ≠ hid → H[x]? = some (some o) → x ≠ hid') ∧ Kept [c, hid] H H'
set_option maxHeartbeats 4000000 in
theorem cadd_m {row src : Option Nat} (c hid : Nat) (sx : AV) (n d : Int) (l : List THolding) (id h am : Int) (H : Heap) (hk : Clk H c hid sx l n d) (hsx : sx.cellish = true) (hl : l.length ≤ 10000) (ho : l.Pairwise hR) (hb : ∀ x, x ∈ l → 0 < x.Amount ∧ x.Amount ≤ 1000000000000) (ham : -1000000000000 ≤ am ∧ am ≤ 1000000000000) (ha0 : am ≠ 0) :
    MFun Tryz.prog row src 103 [.ref c 0 0, iv id, iv h, iv am] H (fun _ H' => Clk2 H c hid sx (addH l id h am) n d H') := by
  by_cases hz : h = 0
  · have ea : addH l id h am = l := by rw [addH, if_pos hz]
    rw [ea]
    refine mfun_intro Tryz.func103 rfl (by simp [Tryz.f103]) (by kernel_rfl) (⟨.tup [], H, hid, hk, fun x o hx _ => hx, kept_refl _ _⟩) ?_
    intro E hP hr hs hN
    simp -dsimp -implicitDefEqProofs [-getElem?_pos, go_sem, hP, hz]
    exact ⟨hid, hk, fun x o hx _ => hx, kept_refl _ _⟩
  have ea : addH l id h am = setH l id h am := by rw [addH, if_neg hz]
  rw [ea]
  obtain ⟨l', hl'⟩ : ∃ l', l' = setH l id h am := ⟨_, rfl⟩
  rw [← hl']
  obtain ⟨C, hC⟩ : ∃ C : AV → Heap → Prop, C = fun _ H' => Clk2 H c hid sx l' n d H' := ⟨_, rfl⟩
  rw [← hC]
  have lc := (List.getElem?_eq_some_iff.1 hk.oc).1
  have lh := (List.getElem?_eq_some_iff.1 hk.oh).1
  have ne := hk.ne
  have ex : ∃ r H', C r H' := by
    rw [hC]
    refine ⟨.tup [], (H.set c (some ⟨94, 4, [[sx, .sref hid 0 l'.length, iv n, iv d]]⟩)).set hid (some ⟨70, 3, encL THolding.cells l'⟩), hid, ⟨?_, ?_, ne⟩, fun x o hx _ => hx, ?_⟩
    · rw [List.getElem?_set_ne (fun e => ne e.symm)]
      simp [lc]
    · simp [lh]
    · exact kept_set _ (by simp) (kept_set _ (by simp) (kept_refl _ _))
  obtain ⟨k, hkl, hm, hcase⟩ := place_setK (hOk id h) ho
  have pm := fun {row src : Option Nat} => place_m (row := row) (src := src) c sx _ _ _ l id h k H hk.oc hk.sl (by omega) hkl hm
  have wk := wrap_in ((k : Int) + 1) (by omega)
  rcases hcase with ⟨x, e1, e2, e3, e4⟩ | ⟨e1, e3, e4⟩
  · have hbt : (l[k]?).any (hIs id h) = true := by rw [e1]; exact e2
    have lk := (List.getElem?_eq_some_iff.1 e1).1
    have bx := hb x (List.mem_of_getElem? e1)
    have wa := wrap_in (x.Amount + am) (by omega)
    have e4 : l' = if x.Amount + am = 0 then l.take k ++ l.drop (k + 1) else l.take k ++ hMk id h (x.Amount + am) :: l.drop (k + 1) := by rw [hl']; exact e4 am
    have hx2 := hIs_iff.1 e2
    rw [hbt] at pm
    refine mfun_intro Tryz.func103 rfl (by simp [Tryz.f103]) (by kernel_rfl) (ex) ?_
    intro E hP hr hs hN
    simp -dsimp -implicitDefEqProofs [-getElem?_pos, go_sem, hP, hz]
    refine callB_m (by rw [hr, hs]; exact pm) hP en_84 ?_
    rintro r H1 ⟨rfl, kp⟩
    have k1 := hk.kept kp
    have c1 := k1.oc
    have h1 := k1.oh
    have lc1 := (List.getElem?_eq_some_iff.1 c1).1
    have lh1 := (List.getElem?_eq_some_iff.1 h1).1
    obtain ⟨y, hy⟩ : ∃ y : THolding, y = ⟨x.Security, x.Holder, x.Amount + am⟩ := ⟨_, rfl⟩
    have ey : (encL THolding.cells l).set k [iv x.Security, iv x.Holder, iv (x.Amount + am)] = encL THolding.cells (l.set k y) := by rw [← encL_set, hy, cHol]
    have lk2 : (l.set k y)[k]? = some y := by simp [lk]
    have ne' : ¬ hid = c := fun e => ne e.symm
    simp -dsimp -implicitDefEqProofs [-getElem?_pos, go_sem, hP, c1, lc1, h1, lh1, e1, cHol, encL_len, lk, wa, ey, ne, ne']
    have es : l.set k y = l.take k ++ y :: l.drop (k + 1) := List.set_eq_take_append_cons_drop.trans (if_pos lk)
    obtain ⟨H2, hH2⟩ : ∃ H2, H2 = H1.set hid (some ⟨70, 3, encL THolding.cells (l.set k y)⟩) := ⟨_, rfl⟩
    have k12 : Kept [c, hid] H1 H2 := by rw [hH2]; exact kept_set _ (by simp) (kept_refl _ _)
    have c2 : H2[c]? = some (some ⟨94, 4, [[sx, .sref hid 0 l.length, iv n, iv d]]⟩) := by rw [hH2, List.getElem?_set_ne ne']; exact c1
    have h2 : H2[hid]? = some (some ⟨70, 3, encL THolding.cells (l.set k y)⟩) := by rw [hH2]; simp [lh1]
    have hye : y.Amount = x.Amount + am := by rw [hy]
    rw [← hH2]
    refine condP (fun hq => ?_) (fun hq => ?_)
    · have hq : y.Amount = 0 := by simpa using hq
      have el : l' = l.take k ++ l.drop (k + 1) := by rw [e4, if_pos (by omega)]
      have dm := fun {row src : Option Nat} => deleteC_hol (row := row) (src := src) (encL THolding.cells (l.set k y)) k hid H2 (by rw [encL_len, List.length_set]; exact lk) (by rw [encL_len, List.length_set]; omega) h2
      rw [encL_len, List.length_set] at dm
      simp -dsimp -implicitDefEqProofs [-getElem?_pos, go_sem, hP, c2, wk]
      refine callB_m (by rw [hr, hs]; exact dm) hP en_158 ?_
      rintro r H3 ⟨jd, rfl, hj, h3, kp3⟩
      have c3 := kp3 _ _ (by simpa using ne) c2
      have lc3 := (List.getElem?_eq_some_iff.1 c3).1
      have nj : c ≠ jd := fun e => by
        have := hj c _ ne c2
        omega
      simp -dsimp -implicitDefEqProofs [-getElem?_pos, go_sem, hP, c3, lc3, hsx]
      rw [hC]
      refine ⟨jd, ⟨?_, ?_, nj⟩, fun z o hz he => ?_, ?_⟩
      · have : l'.length = l.length - 1 := by rw [el]; simp; omega
        rw [this]
        simp [lc3]
      · rw [List.getElem?_set_ne nj, h3, es, el]
        rw [encL_takeE, encL_dropE, encL_appE, ← es, List.take_set_of_le (Nat.le_refl _), List.drop_set_of_lt (by omega)]
      · by_cases hzc : z = c
        · rw [hzc]; exact nj
        · have := hj z o hz (k12 z o (by simp [hzc, hz]) (kp z o (by simp) he))
          omega
      · exact (((kp.mono (by simp)).trans k12).trans (kp3.mono (by simp))).trans (kept_set _ (by simp) (kept_refl _ _))
    · have hq : ¬ y.Amount = 0 := by simpa using hq
      have el : l' = l.set k y := by rw [e4, if_neg (by omega), es, hy, hx2.1, hx2.2]; rfl
      simp -dsimp -implicitDefEqProofs [-getElem?_pos, go_sem, hP]
      rw [hC, el]
      exact ⟨hid, ⟨by rw [List.length_set]; exact c2, h2, ne⟩, fun z o hz _ => hz, (kp.mono (by simp)).trans k12⟩
  · have hbt : (l[k]?).any (hIs id h) = false := by
      cases e : l[k]? with
      | none => rfl
      | some x => simpa using e1 x e
    have e4 : l' = l.take k ++ hMk id h am :: l.drop k := by rw [hl', setH, e4 am, if_neg ha0]
    rw [hbt] at pm
    refine mfun_intro Tryz.func103 rfl (by simp [Tryz.f103]) (by kernel_rfl) (ex) ?_
    intro E hP hr hs hN
    simp -dsimp -implicitDefEqProofs [-getElem?_pos, go_sem, hP, hz]
    refine callB_m (by rw [hr, hs]; exact pm) hP en_84 ?_
    rintro r H1 ⟨rfl, kp⟩
    have k1 := hk.kept kp
    have c1 := k1.oc
    have h1 := k1.oh
    have lc1 := (List.getElem?_eq_some_iff.1 c1).1
    have lh1 := (List.getElem?_eq_some_iff.1 h1).1
    have im := fun {row src : Option Nat} => insert_m_hol (row := row) (src := src) (encL THolding.cells l) [iv id, iv h, iv 0] k hid H1 (by rw [encL_len]; exact hkl) (by rw [encL_len]; omega) h1 (by simp)
    rw [encL_len] at im
    simp -dsimp -implicitDefEqProofs [-getElem?_pos, go_sem, hP, c1, lc1]
    refine callB_m (by rw [hr, hs]; exact im) hP en_157 ?_
    rintro r H2 ⟨jd, rfl, hj, h2, kp2⟩
    have c2 := kp2 _ _ (by simpa using ne) c1
    have lc2 := (List.getElem?_eq_some_iff.1 c2).1
    have lh2 := (List.getElem?_eq_some_iff.1 h2).1
    have nj : c ≠ jd := by rcases hj with rfl | hj <;> omega
    have nj' : ¬ jd = c := fun e => nj e.symm
    obtain ⟨y0, hy0⟩ : ∃ y0 : THolding, y0 = ⟨id, h, 0⟩ := ⟨_, rfl⟩
    obtain ⟨y, hy⟩ : ∃ y : THolding, y = ⟨id, h, am⟩ := ⟨_, rfl⟩
    obtain ⟨l1, hl1⟩ : ∃ l1, l1 = l.take k ++ y0 :: l.drop k := ⟨_, rfl⟩
    have h2' : (encL THolding.cells l).take k ++ [iv id, iv h, iv 0] :: (encL THolding.cells l).drop k = encL THolding.cells l1 := by
      rw [encL_takeE, encL_dropE, hl1, ← encL_appE, hy0]
      rfl
    rw [h2'] at h2
    have ll1 : l1.length = l.length + 1 := by rw [hl1]; simp; omega
    have e1k : l1[k]? = some y0 := by rw [hl1, List.getElem?_append_right (by simp; omega)]; simp [Nat.min_eq_left hkl]
    have lk : k < l1.length := by omega
    have lkl : k < l.length + 1 := by omega
    have lki : (k : Int) < (l.length : Int) + 1 := by omega
    have lk2 : (l1.set k y)[k]? = some y := by simp [lk]
    have wa := wrap_in (0 + am) (by omega)
    have wa' := wrap_in am (by omega)
    have es1 : l1.set k y = l' := by
      rw [e4, hl1, List.set_append_right _ _ (by simp; omega)]
      simp [Nat.min_eq_left hkl, hy]
      rfl
    have ey : (encL THolding.cells l1).set k [iv id, iv h, iv am] = encL THolding.cells (l1.set k y) := by rw [← encL_set, hy, cHol]
    have c0 : y0.cells = [iv id, iv h, iv 0] := by rw [hy0]; rfl
    have cy : y.cells = [iv id, iv h, iv am] := by rw [hy]; rfl
    have hya : ¬ y.Amount = 0 := by rw [hy]; exact ha0
    simp -dsimp -implicitDefEqProofs [-getElem?_pos, go_sem, hP, c2, lc2, hsx, h2, lh2, e1k, c0, encL_len, lk, lkl, lki, ll1, wa, wa', ey, nj, nj', lk2, cy, ha0]
    obtain ⟨H3, hH3⟩ : ∃ H3, H3 = (H2.set c (some ⟨94, 4, [[sx, .sref jd 0 (l.length + 1), iv n, iv d]]⟩)).set jd (some ⟨70, 3, encL THolding.cells (l1.set k y)⟩) := ⟨_, rfl⟩
    rw [← hH3]
    rw [hC, ← es1, hH3]
    have lset : (l1.set k y).length = l.length + 1 := by simp [ll1]
    refine ⟨jd, ⟨?_, ?_, nj⟩, fun z o hz he => ?_, ?_⟩
    · rw [lset]
      simp [nj', lc2]
    · simp [lh2]
    · rcases hj with rfl | hj
      · exact hz
      · have := (List.getElem?_eq_some_iff.1 (kp z o (by simp) he)).1
        omega
    · intro z o hz he
      have h2z := kp2 z o (by simp at hz; simp [hz]) (kp z o (by simp) he)
      have n1 : jd ≠ z := fun e => by
        rcases hj with rfl | hj
        · simp [e] at hz
        · have := (List.getElem?_eq_some_iff.1 (kp z o (by simp) he)).1
          omega
      have n2 : c ≠ z := fun e => by simp [e] at hz
      rw [List.getElem?_set_ne n1, List.getElem?_set_ne n2]
      exact h2z
end Go.Proofs.YtkcfmmpcpdlfeaaGreatDoor
