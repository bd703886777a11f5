/- Coupons: what is due for a holding. -/
import Derived.Test.YtkcfmmpcpdlfeaaGreatDoorCpn1
set_option linter.unusedSimpArgs false
set_option linter.unusedVariables false
namespace Go.Proofs.YtkcfmmpcpdlfeaaGreatDoor
open Go.PA
open Go.RowKit

/-- What has been collected: a list of one's own, or none. -/
def OutIs (H : Heap) (p : Nat) (l : List TDue) : Prop := ∃ x, H[p]? = some (some ⟨46, 1, [[x]]⟩) ∧ ((x = .nil ∧ l = []) ∨ ∃ id, x = .sref id 0 l.length ∧ 3 < id ∧ H[id]? = some (some ⟨50, 5, encL TDue.cells l⟩))
theorem OutIs.kept {H H' : Heap} {p : Nat} {l : List TDue} (h : OutIs H p l) (k : Kept [] H H') : OutIs H' p l := by
  obtain ⟨x, h1, h2⟩ := h
  refine ⟨x, k _ _ (by simp) h1, h2.imp (fun h => h) ?_⟩
  rintro ⟨id, e1, e2, e3⟩
  exact ⟨id, e1, e2, k _ _ (by simp) e3⟩
/-- The boxes of a call. -/
structure OfH (H : Heap) (s : TSecurity) (h : THolding) (day : Int) (l : List TDue) : Prop where
  b0 : H[0]? = some (some ⟨28, 7, [s.cells]⟩)
  b1 : H[1]? = some (some ⟨70, 3, [h.cells]⟩)
  b2 : H[2]? = some (some ⟨3, 1, [[iv day]]⟩)
  out : OutIs H 3 l
def addD (day : Int) (h : THolding) (kind v : Int) : List TDue := if v = 0 then [] else [⟨day, h.Security, h.Holder, kind, v⟩]
set_option maxHeartbeats 2000000 in
theorem of1_m {row src : Option Nat} (s : TSecurity) (h : THolding) (day : Int) (l : List TDue) (kind v : Int) (g : FuncId) (caps : List AV) (H : Heap) (o : OfH H s h day l) (hl : l.length ≤ 100) (hen : enterable Tryz.prog g = true) (hc : ∀ a, a ∈ caps → Imm a) (hg : PFun Tryz.prog none none g (iv h.Amount :: caps) (· = .tup [iv v, iv 0])) :
    MFun Tryz.prog row src 160 [iv kind, .fn g caps, .ref 1 0 0, .ref 3 0 0, .ref 2 0 0] H (fun r H' => r = iv 0 ∧ OfH H' s h day (l ++ addD day h kind v)) := by
  obtain ⟨C, hC⟩ : ∃ C : AV → Heap → Prop, C = fun r H' => r = iv 0 ∧ OfH H' s h day (l ++ addD day h kind v) := ⟨_, rfl⟩
  rw [← hC]
  have ex : ∃ r H', C r H' := by
    rw [hC]
    obtain ⟨b0, b1, b2, x, b3, hx⟩ := o
    have l3 := (List.getElem?_eq_some_iff.1 b3).1
    have ho := fun (z : Nat) (hz : z < 3) (w : Option AObj) (v : Option AObj) => (List.getElem?_append_left (l₂ := [v]) (show z < (H.set 3 w).length by simp; omega)).trans (List.getElem?_set_ne (show (3 : Nat) ≠ z by omega) (a := w) (l := H))
    refine ⟨_, H.set 3 (some ⟨46, 1, [[.sref H.length 0 (l ++ addD day h kind v).length]]⟩) ++ [some ⟨50, 5, encL TDue.cells (l ++ addD day h kind v)⟩], rfl, ⟨?_, ?_, ?_, .sref H.length 0 _, ?_, .inr ⟨H.length, rfl, by omega, ?_⟩⟩⟩
    · rw [ho 0 (by omega)]; exact b0
    · rw [ho 1 (by omega)]; exact b1
    · rw [ho 2 (by omega)]; exact b2
    · rw [List.getElem?_append_left (by simpa using l3)]; simp [l3]
    · rw [List.getElem?_append_right (by simp)]; simp
  obtain ⟨b0, b1, b2, x, b3, hx⟩ := o
  have l1 := (List.getElem?_eq_some_iff.1 b1).1
  have l2 := (List.getElem?_eq_some_iff.1 b2).1
  have l3 := (List.getElem?_eq_some_iff.1 b3).1
  rw [cHol] at b1
  have ho := fun (z : Nat) (hz : z < 3) (H : Heap) (l3 : 3 < H.length) (w : Option AObj) (v : Option AObj) => (List.getElem?_append_left (l₂ := [v]) (show z < (H.set 3 w).length by simp; omega)).trans (List.getElem?_set_ne (show (3 : Nat) ≠ z by omega) (a := w) (l := H))
  refine mfun_intro Tryz.func160 rfl (by simp [Tryz.f160]) (by kernel_rfl) (ex) ?_
  intro E hP hr hs hN
  simp -dsimp -implicitDefEqProofs [-getElem?_pos, go_sem, hP, b1, l1]
  refine callB_is (hg.lift _ _) hP hen (by simpa [imm_sc] using hc) (imm_pair .sc .sc) ?_
  by_cases hv : v = 0
  · have e : l ++ addD day h kind v = l := by rw [addD, if_pos hv, List.append_nil]
    simp -dsimp -implicitDefEqProofs [-getElem?_pos, go_sem, hP, hv]
    rw [hC, e]
    exact ⟨rfl, b0, b1, b2, x, b3, hx⟩
  · rcases hx with ⟨rfl, rfl⟩ | ⟨id, rfl, hid, hh⟩
    · simp -dsimp -implicitDefEqProofs [-getElem?_pos, go_sem, hP, hv, b3, l3, b1, l1, b2, l2]
      rw [hC]
      refine ⟨rfl, ?_, ?_, ?_, .sref H.length 0 1, ?_, .inr ⟨H.length, by simp [addD, hv], by omega, ?_⟩⟩
      · rw [ho 0 (by omega) H l3]; exact b0
      · rw [ho 1 (by omega) H l3, cHol]; exact b1
      · rw [ho 2 (by omega) H l3]; exact b2
      · rw [List.getElem?_append_left (by simpa using l3)]; simp [l3]
      · rw [List.getElem?_append_right (by simp)]; simp [addD, hv, encL, cDue]
    · have lid := (List.getElem?_eq_some_iff.1 hh).1
      simp -dsimp -implicitDefEqProofs [-getElem?_pos, go_sem, hP, hv, b3, l3, b1, l1, b2, l2, hh, lid, encL_len]
      refine ⟨by omega, by omega, ?_⟩
      have s3 : (H.set id none)[3]? = some (some ⟨46, 1, [[.sref id 0 l.length]]⟩) := by rw [List.getElem?_set_ne (by omega)]; exact b3
      have sz : ∀ z, z < 3 → (H.set id none)[z]? = H[z]? := fun z hz => List.getElem?_set_ne (by omega)
      have ls : 3 < (H.set id none).length := by simpa using l3
      simp -dsimp -implicitDefEqProofs [-getElem?_pos, go_sem, hP, s3, l3]
      rw [hC]
      have e : l ++ addD day h kind v = l ++ [⟨day, h.Security, h.Holder, kind, v⟩] := by rw [addD, if_neg hv]
      rw [e]
      refine ⟨rfl, ?_, ?_, ?_, .sref H.length 0 (l.length + 1), ?_, .inr ⟨H.length, by simp, by omega, ?_⟩⟩
      · rw [ho 0 (by omega) _ ls, sz 0 (by omega)]; exact b0
      · rw [ho 1 (by omega) _ ls, sz 1 (by omega), cHol]; exact b1
      · rw [ho 2 (by omega) _ ls, sz 2 (by omega)]; exact b2
      · rw [List.getElem?_append_left (by simpa using l3)]; simp [l3]
      · rw [List.getElem?_append_right (by simp)]; simp [encL, cDue]
theorem done_sl2 {H : Heap} {id n ty k : Nat} {es : List (List AV)} {v : Value} {Q : AV → Prop} {b : Bx Q} (h : H[id]? = some (some ⟨ty, k, es⟩)) (hn : n = es.length) (hi : Imm (.list k es)) (hq : Q (.tup [.list k es, .sc v])) : Done H (.tup [.sref id 0 n, .sc v]) Q b := by
  have hv : view2 H (.sref id 0 n) = .list k es := by
    rw [view2_sref, h, viewS_some]
    simp only [List.drop_zero]
    rw [List.take_of_length_le (by omega)]
  exact done_weak (imm_pair (by rw [hv]; exact hi) .sc) (imm_pair hi .sc) (weak_tup2 (by rw [hv]; exact .refl _) (.refl _)) hq
theorem done_nil2 {H : Heap} {k : Nat} {v : Value} {Q : AV → Prop} {b : Bx Q} (hq : Q (.tup [.list k [], .sc v])) : Done H (.tup [.nil, .sc v]) Q b :=
  done_weak (imm_pair .nil .sc) (imm_pair (imm_list.2 (by simp)) .sc) (weak_tup2 (.nil k) (.refl _)) hq
theorem dueH_add (s : TSecurity) (h : THolding) (day : Int) (ha : h.Amount ≠ 0) : dueH s day h = (if day ∈ daysS s then addD day h 1 (coupD s h.Amount) else []) ++ if day = s.Maturity then addD day h 2 h.Amount else [] := by
  unfold dueH addD
  congr 1
  · by_cases h1 : day ∈ daysS s
    · by_cases h2 : coupD s h.Amount = 0
      · simp [h1, h2]
      · simp [h1, h2]
    · simp [h1]
  · rw [if_neg ha]
theorem len_addD (day : Int) (h : THolding) (k v : Int) : (addD day h k v).length ≤ 1 := by
  unfold addD
  split <;> simp
set_option maxHeartbeats 4000000 in
theorem of_due_pf (s : TSecurity) (h : THolding) (day : Int) (hs0 : secB s = true) (he : s.Every ≠ 0) (ha : 0 < h.Amount ∧ h.Amount ≤ 1000000000) : PFun Tryz.prog none none 109 [.agg s.cells, .agg h.cells, iv day, .fn 110 [.iref s.cells], .fn 111 []] (· = .tup [duesL (dueH s day h), iv 0]) := by
  have dp := cdays_pf s hs0 he
  have is := imm_sec s
  have hcn := hasInt_pf (daysS s) day (by
    obtain ⟨q, n, _, _, _, hn, hd⟩ := days_arith (secOk hs0) he
    rw [hd]; simp; omega)
  have iL := imm_intsX (daysS s)
  obtain ⟨L, hL⟩ : ∃ L, L = daysS s := ⟨_, rfl⟩
  rw [← hL] at dp hcn iL
  have p1 := plain1_pf s h.Amount hs0 (by omega)
  have p2 := plain2_pf h.Amount
  have o1 := fun (l : List TDue) (H : Heap) (o : OfH H s h day l) (hl : l.length ≤ 100) => of1_m (row := none) (src := none) s h day l 1 (coupD s h.Amount) 110 [.iref s.cells] H o hl en_110 (by simp [imm_iref]; exact s.imm) p1
  have o2 := fun (l : List TDue) (H : Heap) (o : OfH H s h day l) (hl : l.length ≤ 100) => of1_m (row := none) (src := none) s h day l 2 h.Amount 111 [] H o hl en_111 (by simp) p2
  rw [cSec] at dp is o1
  refine pfun_intro Tryz.func109 rfl (by simp [Tryz.f109]) (by kernel_rfl) ?_
  intro E hP hr hs hW hN
  simp -dsimp -implicitDefEqProofs [-getElem?_pos, go_sem, hP, cSec, cHol]
  refine adrawB (fun _ => true) [] hP (by kernel_rfl) (by kernel_rfl) ?_
  simp -dsimp -implicitDefEqProofs [-getElem?_pos, go_sem, hP]
  refine callB_is (dp.lift _ _) hP en_12 (by simpa using is) iL ?_
  simp -dsimp -implicitDefEqProofs [-getElem?_pos, go_sem, hP]
  refine callB_is (hcn.lift _ _) hP en_85 (by simp [iL, imm_sc]) .sc ?_
  obtain ⟨H0, hH0⟩ : ∃ H0 : Heap, H0 = [some ⟨28, 7, [[iv s.ID, iv s.Unit, iv s.Issued, iv s.Maturity, iv s.Rate, iv s.Every, bv s.Indexed]]⟩, some ⟨70, 3, [[iv h.Security, iv h.Holder, iv h.Amount]]⟩, some ⟨3, 1, [[iv day]]⟩, some ⟨46, 1, [[.nil]]⟩] := ⟨_, rfl⟩
  have of0 : OfH H0 s h day [] := by
    rw [hH0]
    exact ⟨rfl, rfl, rfl, .nil, rfl, .inl ⟨rfl, rfl⟩⟩
  rw [← hH0]
  have fin : ∀ (H : Heap) (l : List TDue) (Q : AV → Prop) (x : AV), H[3]? = some (some ⟨46, 1, [[x]]⟩) → (x = .nil ∧ l = []) ∨ (∃ id, x = .sref id 0 l.length ∧ 3 < id ∧ H[id]? = some (some ⟨50, 5, encL TDue.cells l⟩)) → Q (.tup [duesL l, iv 0]) → Done H (.tup [x, iv 0]) Q .mk := fun H l Q x _ hx hq => by
    rcases hx with ⟨rfl, rfl⟩ | ⟨id, rfl, _, h2⟩
    · exact done_nil2 hq
    · exact done_sl2 h2 (by rw [encL_len]) (imm_dues l) hq
  have em := dueH_add s h day (by omega)
  rw [← hL] at em
  by_cases c1 : day ∈ L
  · simp -dsimp -implicitDefEqProofs [-getElem?_pos, go_sem, hP, c1]
    have a1 := len_addD day h 1 (coupD s h.Amount)
    refine callB_m (by rw [hr, hs]; exact o1 [] H0 of0 (by simp)) hP en_160 ?_
    rintro x H1 ⟨rfl, ⟨b0, b1, b2, y, b3, hy⟩⟩
    have of1 : OfH H1 s h day (addD day h 1 (coupD s h.Amount)) := ⟨b0, b1, b2, y, b3, hy⟩
    rw [cSec] at b0
    have l0 := (List.getElem?_eq_some_iff.1 b0).1
    have l2 := (List.getElem?_eq_some_iff.1 b2).1
    have l3 := (List.getElem?_eq_some_iff.1 b3).1
    by_cases c2 : day = s.Maturity
    · simp -dsimp -implicitDefEqProofs [-getElem?_pos, go_sem, hP, b0, l0, b2, l2, c2]
      rw [← c2]
      refine callB_m (by rw [hr, hs]; exact o2 _ H1 of1 (by omega)) hP en_160 ?_
      rintro x H2 ⟨rfl, ⟨_, _, _, z, d3, hz⟩⟩
      have l4 := (List.getElem?_eq_some_iff.1 d3).1
      rw [if_pos c1, if_pos c2] at em
      simp -dsimp -implicitDefEqProofs [-getElem?_pos, go_sem, hP, d3, l4]
      exact fin H2 _ _ z d3 hz (by rw [em])
    · rw [if_pos c1, if_neg c2, List.append_nil] at em
      simp -dsimp -implicitDefEqProofs [-getElem?_pos, go_sem, hP, b0, l0, b2, l2, c2, b3, l3]
      exact fin H1 _ _ y b3 hy (by rw [em]; rfl)
  · have l0 : H0.length = 4 := by rw [hH0]; rfl
    have b0 := of0.b0
    have b2 := of0.b2
    have b3 : H0[3]? = some (some ⟨46, 1, [[.nil]]⟩) := by rw [hH0]; rfl
    rw [cSec] at b0
    by_cases c2 : day = s.Maturity
    · simp -dsimp -implicitDefEqProofs [-getElem?_pos, go_sem, hP, c1]
      simp -dsimp -implicitDefEqProofs [-getElem?_pos, go_sem, hP, b0, b2, l0, c2]
      rw [← c2]
      refine callB_m (by rw [hr, hs]; exact o2 _ H0 of0 (by simp)) hP en_160 ?_
      rintro x H2 ⟨rfl, ⟨_, _, _, z, d3, hz⟩⟩
      have l4 := (List.getElem?_eq_some_iff.1 d3).1
      rw [if_neg c1, if_pos c2] at em
      simp -dsimp -implicitDefEqProofs [-getElem?_pos, go_sem, hP, d3, l4]
      exact fin H2 _ _ z d3 hz (by rw [em])
    · rw [if_neg c1, if_neg c2, List.append_nil] at em
      simp -dsimp -implicitDefEqProofs [-getElem?_pos, go_sem, hP, c1]
      simp -dsimp -implicitDefEqProofs [-getElem?_pos, go_sem, hP, b0, b2, l0, c2, b3]
      exact fin H0 [] _ .nil b3 (.inl ⟨rfl, rfl⟩) (by rw [em])
end Go.Proofs.YtkcfmmpcpdlfeaaGreatDoor
