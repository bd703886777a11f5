/- Strips: splitting. -/
import Derived.Test.YtkcfmmpcpdlfeaaGreatDoorStp6
set_option linter.unusedSimpArgs false
set_option linter.unusedVariables false
namespace Go.Proofs.YtkcfmmpcpdlfeaaGreatDoor
open Go.PA
open Go.RowKit

theorem bnd_setS {l : List TStrip} {x : TStrip} {n B : Int} (hn : 0 ≤ n) (hB : 0 ≤ B) (h : ∀ y, y ∈ l → y.Amount ≤ B) : ∀ y, y ∈ setS l x n → y.Amount ≤ B + n := by
  intro y hy
  rcases mem_setK hy with hy | ⟨_, rfl⟩ | ⟨z, h1, _, _, rfl⟩
  · have := h y hy
    omega
  · unfold sMk; dsimp only; omega
  · have := h z h1
    unfold sMk sAm; dsimp only; omega
theorem addAll_take {l Q : List TStrip} {n : Int} {k : Nat} {x : TStrip} (hx : Q[k]? = some x) : addAll l (Q.take (k + 1)) n = setS (addAll l (Q.take k) n) x n := by
  unfold addAll
  rw [List.take_add_one, hx, List.foldl_append]
  rfl
theorem bnd_addAll {l : List TStrip} {Q : List TStrip} {n B : Int} (hn : 0 ≤ n) (hB : 0 ≤ B) (h : ∀ y, y ∈ l → y.Amount ≤ B) : ∀ k : Nat, ∀ y, y ∈ addAll l (Q.take k) n → y.Amount ≤ B + n * k
  | 0 => by simpa [addAll] using h
  | k + 1 => by
    have ih := bnd_addAll (Q := Q) hn hB h k
    have h2 : 0 ≤ n * (k : Int) := Int.mul_nonneg hn (by omega)
    intro y hy
    cases hx : Q[k]? with
    | none =>
      rw [List.take_of_length_le (by have := List.getElem?_eq_none_iff.1 hx; omega)] at hy
      rw [List.take_of_length_le (by have := List.getElem?_eq_none_iff.1 hx; omega)] at ih
      have := ih y hy
      rw [Int.natCast_succ, Int.mul_add]
      omega
    | some x =>
      rw [addAll_take hx] at hy
      have := bnd_setS hn (by omega) ih y hy
      rw [Int.natCast_succ, Int.mul_add]
      omega
theorem pos_setS {l : List TStrip} {x : TStrip} {n : Int} (hn : 0 < n) (h : ∀ y, y ∈ l → 0 < y.Amount) : ∀ y, y ∈ setS l x n → 0 < y.Amount := by
  intro y hy
  rcases mem_setK hy with hy | ⟨_, rfl⟩ | ⟨z, h1, _, _, rfl⟩
  · exact h y hy
  · exact hn
  · have := h z h1
    unfold sMk sAm; dsimp only; omega
theorem pos_addAll {Q : List TStrip} {n : Int} (hn : 0 < n) : ∀ (l : List TStrip), (∀ y, y ∈ l → 0 < y.Amount) → ∀ k : Nat, ∀ y, y ∈ addAll l (Q.take k) n → 0 < y.Amount
  | l, h, 0 => by simpa [addAll] using h
  | l, h, k + 1 => by
    have ih := pos_addAll (Q := Q) hn l h k
    intro y hy
    cases hx : Q[k]? with
    | none =>
      rw [List.take_of_length_le (by have := List.getElem?_eq_none_iff.1 hx; omega)] at hy
      rw [List.take_of_length_le (by have := List.getElem?_eq_none_iff.1 hx; omega)] at ih
      exact ih y hy
    | some x =>
      rw [addAll_take hx] at hy
      exact pos_setS hn ih y hy
def zV : TVault := ⟨⟨[], [], []⟩, []⟩
theorem cw_zeroV {H : Heap} : CW H [.nil, .nil, .nil, .nil] zV.cells := cw_nil (cw_nil (cw_nil (cw_nil .nil)))
theorem clone_m_stp {row src : Option Nat} (l : List TStrip) (H : Heap) (hl : l.length ≤ 1000000) : MFun Tryz.prog row src 31 [.list 5 (encL TStrip.cells l)] H (fun r H' => ∃ id, r = .sref id 0 l.length ∧ H.length ≤ id ∧ H'[id]? = some (some ⟨79, 5, encL TStrip.cells l⟩) ∧ Kept [] H H') := by
  have own : MFun Tryz.prog row src 31 [.list 5 (encL TStrip.cells l)] H (fun r H' => (r = .nil ∧ l = [] ∧ H' = H) ∨ ∃ id, r = .sref id 0 l.length ∧ H.length ≤ id ∧ H'[id]? = some (some ⟨79, 5, encL TStrip.cells l⟩) ∧ Kept [] H H') := by
    cases l with
    | nil =>
      refine mfun_list_nil fun A c => ?_
      refine mfun_intro Tryz.func31 rfl (by simp [Tryz.f31]) (by kernel_rfl) ⟨.nil, H, .inl ⟨rfl, rfl, rfl⟩⟩ ?_
      intro E hP hr hs hN
      cases A with
      | none => simp -dsimp -implicitDefEqProofs [-getElem?_pos, go_sem, hP]
      | some a =>
        simp -dsimp -implicitDefEqProofs [-getElem?_pos, go_sem, hP]
        exact kept_app _ _ _
    | cons a l =>
      refine mfun_intro Tryz.func31 rfl (by simp [Tryz.f31]) (by kernel_rfl) ⟨_, H ++ [some ⟨79, 5, encL TStrip.cells (a :: l)⟩], .inr ⟨H.length, rfl, Nat.le_refl _, by simp, kept_push _ (kept_refl _ _)⟩⟩ ?_
      intro E hP hr hs hN
      simp only [List.length_cons] at hl
      have e : encL TStrip.cells (a :: l) = TStrip.cells a :: encL TStrip.cells l := rfl
      simp -dsimp -implicitDefEqProofs [-getElem?_pos, go_sem, hP, e]
      refine ⟨by omega, by omega, ?_⟩
      exact kept_app _ _ _
  refine (own.ownNil 79 5).mono ?_
  rintro r H' (⟨H0, h0, rfl, rfl⟩ | ⟨hne, h⟩)
  · rcases h0 with ⟨_, rfl, rfl⟩ | ⟨id, h, _⟩
    · exact ⟨_, rfl, Nat.le_refl _, by simp [encL], kept_push _ (kept_refl _ _)⟩
    · cases h
  · rcases h with ⟨h, _⟩ | h
    · exact absurd h hne
    · exact h

def splitM (b : TSecurity) (v : TVault) (hd n : Int) : TMove := ⟨(v.Register.Moves.length : Int) + 1, b.Issued, 2, b.ID, hd, 1000, n⟩
def SplitQ (b : TSecurity) (v : TVault) (d hd n : Int) (x : AV) : Prop := ∃ v' : TVault, x = .tup [.agg v'.cells, iv (moveE v.Register.Securities v.Register.Holdings d (splitM b v hd n))] ∧ (moveE v.Register.Securities v.Register.Holdings d (splitM b v hd n) = 0 → v' = ⟨moved v.Register (splitM b v hd n), addAll v.Strips (allP b hd) n⟩)
theorem splitQ_ex (b : TSecurity) (v : TVault) (d hd n : Int) : ∃ x, SplitQ b v d hd n x ∧ Imm x := by
  by_cases h : moveE v.Register.Securities v.Register.Holdings d (splitM b v hd n) = 0
  · exact ⟨_, ⟨_, rfl, fun _ => rfl⟩, imm_pair (imm_vlt _) .sc⟩
  · exact ⟨_, ⟨zV, rfl, fun e => absurd e h⟩, imm_pair (imm_vlt _) .sc⟩
set_option maxHeartbeats 8000000 in
theorem ssplit_pf (b : TSecurity) (hb : BS b) (v : TVault) (S d hd n : Int) (ok : VOk b v S d) (hn : 0 < n ∧ n ≤ 1000000000) (hml : v.Register.Moves.length < 400) (hsl : v.Strips.length + (daysS b).length + 1 ≤ 400) : PFun Tryz.prog none none 11 [.agg v.cells, iv b.Issued, iv b.ID, iv hd, iv n] (SplitQ b v d hd n) := by
  obtain ⟨QQ, hQQ⟩ : ∃ QQ, QQ = SplitQ b v d hd n := ⟨_, rfl⟩
  rw [← hQQ]
  have sc := ssecurity_pf b hb v S d ok
  have tr := gtransfer_pf v.Register d (splitM b v hd n) ok.reg hml rfl rfl
  have trx := moveQ_ex v.Register d (splitM b v hd n)
  have pt := sparts_pf b hb v S d hd ok
  have iv0 := imm_vlt v
  have ir := imm_reg v.Register
  have ib := imm_sec b
  have il := imm_strips v.Strips
  have hp : ∀ x, x ∈ v.Strips → 0 < x.Amount := fun x hx => (ok.el x hx).am.1
  have hbd : ∀ x, x ∈ v.Strips → x.Amount ≤ 1000000000 := fun x hx => Int.le_trans (ok.am hx).2 ok.sb.2
  have srt := ok.srt
  have len := ok.len
  have lQ := len_allP b hd
  obtain ⟨M, hM⟩ : ∃ M, M = splitM b v hd n := ⟨_, rfl⟩
  have eM : M.Day = b.Issued ∧ M.Security = b.ID ∧ M.From = hd ∧ M.To = 1000 ∧ M.Amount = n := by rw [hM]; exact ⟨rfl, rfl, rfl, rfl, rfl⟩
  obtain ⟨e, he⟩ : ∃ e, e = moveE v.Register.Securities v.Register.Holdings d M := ⟨_, rfl⟩
  have hQQ' : QQ = fun x => ∃ v' : TVault, x = .tup [.agg v'.cells, iv e] ∧ (e = 0 → v' = ⟨moved v.Register M, addAll v.Strips (allP b hd) n⟩) := by rw [hQQ, he, hM]; rfl
  rw [← hM] at tr trx
  rw [eM.1, eM.2.1, eM.2.2.1, eM.2.2.2.1, eM.2.2.2.2] at tr
  clear hQQ hM
  obtain ⟨Q, hQ⟩ : ∃ Q, Q = allP b hd := ⟨_, rfl⟩
  rw [← hQ] at pt lQ hQQ'
  have iQ := imm_strips Q
  have lA := fun k : Nat => len_addAll (n := n) (Q.take k) v.Strips
  rw [cVlt] at sc pt iv0
  rw [cReg] at tr ir
  rw [cSec] at pt
  refine pfun_intro Tryz.func11 rfl (by simp [Tryz.f11]) (by kernel_rfl) ?_
  intro E hP hr hs hW hN
  simp -dsimp -implicitDefEqProofs [-getElem?_pos, go_sem, hP, cVlt]
  refine callB_is (sc.lift _ _) hP en_28 (by simpa [imm_sc] using iv0) (imm_pair ib .sc) ?_
  simp -dsimp -implicitDefEqProofs [-getElem?_pos, go_sem, hP, cSec]
  refine callB_isQ (tr.lift _ _) hP en_29 (by simpa [imm_sc] using ir) trx ?_
  rintro x ⟨r', rfl, hr'⟩ _
  have ir' := imm_reg r'
  rw [cReg] at ir'
  rw [← he] at hr' ⊢
  by_cases e0 : e = 0
  rotate_left
  · simp -dsimp -implicitDefEqProofs [-getElem?_pos, go_sem, hP, e0, cReg]
    refine done_agg2 (cs' := zV.cells) cw_zeroV ?_
    rw [hQQ']
    exact ⟨_, rfl, fun h => absurd h e0⟩
  have hr' := hr' e0
  simp -dsimp -implicitDefEqProofs [-getElem?_pos, go_sem, hP, e0, cReg]
  refine callB_is (pt.lift _ _) hP en_30 (by rw [cSec] at ib; simpa [imm_sc] using ⟨iv0, ib⟩) (imm_pair iQ .sc) ?_
  simp -dsimp -implicitDefEqProofs [-getElem?_pos, go_sem, hP]
  obtain ⟨H0, hH0⟩ : ∃ H0 : Heap, H0 = [some ⟨40, 4, [[secsL v.Register.Securities, holdsL v.Register.Holdings, movesL v.Register.Moves, stripsL v.Strips]]⟩, some ⟨40, 4, [[.nil, .nil, .nil, .nil]]⟩, some ⟨28, 7, [[iv b.ID, iv b.Unit, iv b.Issued, iv b.Maturity, iv b.Rate, iv b.Every, bv b.Indexed]]⟩, some ⟨33, 3, [[secsL r'.Securities, holdsL r'.Holdings, movesL r'.Moves]]⟩] := ⟨_, rfl⟩
  have a0 : H0[0]? = some (some ⟨40, 4, [[secsL v.Register.Securities, holdsL v.Register.Holdings, movesL v.Register.Moves, stripsL v.Strips]]⟩) := by rw [hH0]; rfl
  have a1 : H0[1]? = some (some ⟨40, 4, [[.nil, .nil, .nil, .nil]]⟩) := by rw [hH0]; rfl
  have a3 : H0[3]? = some (some ⟨33, 3, [[secsL r'.Securities, holdsL r'.Holdings, movesL r'.Moves]]⟩) := by rw [hH0]; rfl
  have l0 : H0.length = 4 := by rw [hH0]; rfl
  have live : ∀ i, i < 4 → ∃ o, H0[i]? = some (some o) := fun i hi => by
    rw [hH0]
    match i, hi with
    | 0, _ => exact ⟨_, rfl⟩
    | 1, _ => exact ⟨_, rfl⟩
    | 2, _ => exact ⟨_, rfl⟩
    | 3, _ => exact ⟨_, rfl⟩
  have aD : ∀ (X X' : Heap), Kept [] H0 X → Kept [] X X' → Agree (fun i => decide (i < 4)) X X' := fun X X' h1 h2 i hi => by
    obtain ⟨o, ho⟩ := live i (of_decide_eq_true hi)
    rw [h1 i o (by simp) ho, h2 i o (by simp) (h1 i o (by simp) ho)]
  rw [← hH0]
  have cl := fun H : Heap => clone_m_stp (row := none) (src := none) v.Strips H (by omega)
  obtain ⟨Inv, hInv⟩ : ∃ Inv : St → Prop, Inv = fun s => ∃ p j, s.t 4 = iv n ∧ s.t 10 = .ref 1 0 0 ∧ s.t 15 = stripsL Q ∧ s.t 16 = .ref p 0 0 ∧ 4 ≤ p ∧ 4 ≤ j ∧ p ≠ j ∧ s.H[1]? = some (some ⟨40, 4, [[.nil, .nil, .nil, .nil]]⟩) ∧ s.H[p]? = some (some ⟨40, 4, [[secsL r'.Securities, holdsL r'.Holdings, movesL r'.Moves, .sref j 0 v.Strips.length]]⟩) ∧ s.H[j]? = some (some ⟨79, 5, encL TStrip.cells v.Strips⟩) := ⟨_, rfl⟩
  refine adraw_cut Inv ?_ ?_
  · refine adrawK (fun i => decide (i < 4)) [] [] 3 hP (by kernel_rfl) (by kernel_rfl) (by simp) ?_
    simp -dsimp -implicitDefEqProofs [-getElem?_pos, go_sem, hP, List.take_succ_cons, List.take_zero, restr_get, a0, a3, l0]
    refine xany_two (i := 3) (j := 5) (by kernel_rfl) rfl rfl ?_ ?_
    · simp -dsimp -implicitDefEqProofs [-getElem?_pos, go_sem, hP]
      refine callB_m (by rw [hr, hs]; exact cl H0) hP en_31 ?_
      rintro x H2 ⟨j, rfl, hj, oj, hk⟩
      have b1 := hk _ _ (by simp) a1
      have lj := (List.getElem?_eq_some_iff.1 oj).1
      have l1 := (List.getElem?_eq_some_iff.1 b1).1
      have fin : ∀ t, t 4 = iv n → t 10 = .ref 1 0 0 → t 15 = stripsL Q → t 16 = .ref H2.length 0 0 → Inv ⟨t, H2 ++ [some ⟨40, 4, [[secsL r'.Securities, holdsL r'.Holdings, movesL r'.Moves, .sref j 0 v.Strips.length]]⟩]⟩ := fun t e1 e2 e3 e4 => by
        rw [hInv]
        refine ⟨H2.length, j, e1, e2, e3, e4, by omega, by omega, by omega, ?_, by simp, ?_⟩
        · rw [List.getElem?_append_left (by omega)]; exact b1
        · rw [List.getElem?_append_left (by omega)]; exact oj
      have ag2 : ∀ x y : Option AObj, Agree (fun i => decide (i < 4)) (H2 ++ [x]) (H2 ++ [y]) := fun x y i hi => by
        have := of_decide_eq_true hi
        have l2 : H0.length ≤ j := hj
        rw [List.getElem?_append_left (by omega), List.getElem?_append_left (by omega)]
      simp -dsimp -implicitDefEqProofs [-getElem?_pos, go_sem, hP]
      refine ⟨aD _ _ (kept_refl _ _) hk, ?_⟩
      refine xany_two (i := 4) (j := 5) (by kernel_rfl) rfl rfl ?_ ?_
      · simp -dsimp -implicitDefEqProofs [-getElem?_pos, go_sem, hP]
        refine xany_one (i := 5) (by kernel_rfl) rfl ?_
        simp -dsimp -implicitDefEqProofs [-getElem?_pos, go_sem, hP]
        refine ⟨aD _ _ hk (kept_app _ _ _), ?_⟩
        refine xany_one (i := 6) (by kernel_rfl) rfl ?_
        simp -dsimp -implicitDefEqProofs [-getElem?_pos, go_sem, hP]
        refine ⟨ag2 _ _, ?_⟩
        refine xany_nil (by kernel_rfl) ?_
        exact fin _ (by simp -dsimp -implicitDefEqProofs [-getElem?_pos, go_sem]) (by simp -dsimp -implicitDefEqProofs [-getElem?_pos, go_sem]) (by simp -dsimp -implicitDefEqProofs [-getElem?_pos, go_sem]) (by simp -dsimp -implicitDefEqProofs [-getElem?_pos, go_sem])
      · simp -dsimp -implicitDefEqProofs [-getElem?_pos, go_sem, hP]
        refine ⟨aD _ _ hk (kept_app _ _ _), ?_⟩
        refine xany_one (i := 4) (by kernel_rfl) rfl ?_
        simp -dsimp -implicitDefEqProofs [-getElem?_pos, go_sem, hP]
        refine xany_one (i := 6) (by kernel_rfl) rfl ?_
        simp -dsimp -implicitDefEqProofs [-getElem?_pos, go_sem, hP]
        refine ⟨ag2 _ _, ?_⟩
        refine xany_nil (by kernel_rfl) ?_
        exact fin _ (by simp -dsimp -implicitDefEqProofs [-getElem?_pos, go_sem]) (by simp -dsimp -implicitDefEqProofs [-getElem?_pos, go_sem]) (by simp -dsimp -implicitDefEqProofs [-getElem?_pos, go_sem]) (by simp -dsimp -implicitDefEqProofs [-getElem?_pos, go_sem])
    · simp -dsimp -implicitDefEqProofs [-getElem?_pos, go_sem, hP]
      refine ⟨aD _ _ (kept_refl _ _) (kept_app _ _ _), ?_⟩
      refine xany_one (i := 3) (by kernel_rfl) rfl ?_
      obtain ⟨Z, hZ⟩ : ∃ Z : Heap, Z = H0 ++ [some ⟨40, 4, [[.nil, .nil, .nil, .nil]]⟩] := ⟨_, rfl⟩
      have kZ : Kept [] H0 Z := by rw [hZ]; exact kept_app _ _ _
      have z4 : Z[4]? = some (some ⟨40, 4, [[.nil, .nil, .nil, .nil]]⟩) := by rw [hZ, List.getElem?_append_right (by omega), l0]; rfl
      have lZ : Z.length = 5 := by rw [hZ]; simp [l0]
      have z1 := kZ _ _ (by simp) a1
      rw [← hZ]
      simp -dsimp -implicitDefEqProofs [-getElem?_pos, go_sem, hP]
      refine callB_m (by rw [hr, hs]; exact cl Z) hP en_31 ?_
      rintro x H2 ⟨j, rfl, hj, oj, hk⟩
      have b1 := hk _ _ (by simp) z1
      have b4 := hk _ _ (by simp) z4
      have lj := (List.getElem?_eq_some_iff.1 oj).1
      have l4 := (List.getElem?_eq_some_iff.1 b4).1
      simp -dsimp -implicitDefEqProofs [-getElem?_pos, go_sem, hP]
      refine ⟨aD _ _ kZ hk, ?_⟩
      refine xany_one (i := 4) (by kernel_rfl) rfl ?_
      simp -dsimp -implicitDefEqProofs [-getElem?_pos, go_sem, hP]
      refine xany_one (i := 6) (by kernel_rfl) rfl ?_
      simp -dsimp -implicitDefEqProofs [-getElem?_pos, go_sem, hP, l0, b4, l4]
      refine ⟨fun i hi => by rw [List.getElem?_set_ne (by have := of_decide_eq_true hi; omega)], ?_⟩
      refine xany_nil (by kernel_rfl) ?_
      rw [hInv]
      refine ⟨4, j, by simp -dsimp -implicitDefEqProofs [-getElem?_pos, go_sem], by simp -dsimp -implicitDefEqProofs [-getElem?_pos, go_sem], by simp -dsimp -implicitDefEqProofs [-getElem?_pos, go_sem], by simp -dsimp -implicitDefEqProofs [-getElem?_pos, go_sem, l0], by omega, by omega, by omega, ?_, by simp [l4], ?_⟩
      · dsimp only
        rw [List.getElem?_set_ne (by omega)]; exact b1
      · dsimp only
        rw [List.getElem?_set_ne (by omega)]; exact oj
  intro s hs2
  rw [hInv] at hs2
  obtain ⟨p, j, t4, t10, t15, t16, hp4, hj4, npj, g1, gp, gj⟩ := hs2
  clear hInv aD live cl a0 a1 a3
  have lA0 : (addAll v.Strips (Q.take 0) n) = v.Strips := by simp [addAll]
  simp -dsimp -implicitDefEqProofs [-getElem?_pos, go_sem, hP, t15, encL_len]
  obtain ⟨I, hI⟩ : ∃ I : Nat → St → Prop, I = fun m s => ∃ (k j : Nat) (A : List TStrip), k ≤ Q.length ∧ m = Q.length - k ∧ A = addAll v.Strips (Q.take k) n ∧ s.t 4 = iv n ∧ s.t 10 = .ref 1 0 0 ∧ s.t 16 = .ref p 0 0 ∧ s.t 60 = stripsL Q ∧ s.t 61 = iv Q.length ∧ s.t 62 = iv k ∧ p ≠ j ∧ j ≠ 1 ∧ s.H[1]? = some (some ⟨40, 4, [[.nil, .nil, .nil, .nil]]⟩) ∧ s.H[p]? = some (some ⟨40, 4, [[secsL r'.Securities, holdsL r'.Holdings, movesL r'.Moves, .sref j 0 A.length]]⟩) ∧ s.H[j]? = some (some ⟨79, 5, encL TStrip.cells A⟩) := ⟨_, rfl⟩
  refine aloop0 I (Q.length) (by rw [hN]; rfl) ?_ ?_
  · rw [hI]
    exact ⟨0, j, v.Strips, by omega, by omega, lA0.symm, by simp -dsimp -implicitDefEqProofs [-getElem?_pos, go_sem, t4], by simp -dsimp -implicitDefEqProofs [-getElem?_pos, go_sem, t10], by simp -dsimp -implicitDefEqProofs [-getElem?_pos, go_sem, t16], by simp -dsimp -implicitDefEqProofs [-getElem?_pos, go_sem, t15], by simp -dsimp -implicitDefEqProofs [-getElem?_pos, go_sem, encL_len], by simp -dsimp -implicitDefEqProofs [-getElem?_pos, go_sem], npj, by omega, by simp -dsimp -implicitDefEqProofs [-getElem?_pos, go_sem, g1], by simp -dsimp -implicitDefEqProofs [-getElem?_pos, go_sem, gp], by simp -dsimp -implicitDefEqProofs [-getElem?_pos, go_sem, gj]⟩
  clear g1 gp gj t4 t10 t15 t16 npj hj4 j
  clear s
  intro m s hs'
  rw [hI] at hs'
  obtain ⟨k, j, A, hk, hm, hA, t4, t10, t16, t60, t61, t62, npj, hj4, g1, gp, gj⟩ := hs'
  have l1 := (List.getElem?_eq_some_iff.1 g1).1
  have lp := (List.getElem?_eq_some_iff.1 gp).1
  have lj := (List.getElem?_eq_some_iff.1 gj).1
  have hAl : A.length ≤ v.Strips.length + k := by
    have := lA k
    rw [← hA, List.length_take] at this
    omega
  simp -dsimp -implicitDefEqProofs [-getElem?_pos, go_sem, hP, t61, t62]
  refine condP (fun hq => ?_) (fun hq => ?_)
  · have hk : k < Q.length := by simpa using hq
    obtain ⟨x, hx⟩ : ∃ x, Q[k]? = some x := ⟨_, List.getElem?_eq_getElem hk⟩
    have wk := wrap_in ((k : Int) + 1) (by omega)
    simp -dsimp -implicitDefEqProofs [-getElem?_pos, go_sem, hP, t60, t62, hx, cStp]
    obtain ⟨H1, hH1⟩ : ∃ H1 : Heap, H1 = s.H ++ [some ⟨79, 5, [[iv x.Security, iv x.Day, bv x.Principal, iv x.Holder, iv x.Amount]]⟩] := ⟨_, rfl⟩
    obtain ⟨B, hB⟩ : ∃ B, B = s.H.length := ⟨_, rfl⟩
    have k1 : Kept [] s.H H1 := by rw [hH1]; exact kept_app _ _ _
    have b1 := k1 _ _ (by simp) g1
    have bp := k1 _ _ (by simp) gp
    have bj := k1 _ _ (by simp) gj
    have bx : H1[B]? = some (some ⟨79, 5, [[iv x.Security, iv x.Day, bv x.Principal, iv x.Holder, iv x.Amount]]⟩) := by rw [hH1, hB]; simp
    have lbp := (List.getElem?_eq_some_iff.1 bp).1
    have lbx := (List.getElem?_eq_some_iff.1 bx).1
    rw [← hH1, ← hB]
    have am := fun {row src : Option Nat} => sadd_m (row := row) (src := src) j A x n H1 bj (by omega) (by rw [hA]; exact srt_addAll _ _ srt) (fun y hy => by
      rw [hA] at hy
      refine ⟨pos_addAll hn.1 _ hp k y hy, ?_⟩
      have h1 := bnd_addAll (by omega) (by omega) hbd k y hy
      have h2 : n * (k : Int) ≤ 1000000000 * 402 := Int.mul_le_mul hn.2 (by omega) (by omega) (by omega)
      omega) (by omega)
    rw [cStp] at am
    simp -dsimp -implicitDefEqProofs [-getElem?_pos, go_sem, hP, t16, bp, lbp, bx, lbx, t4]
    refine callB_m (by rw [hr, hs]; exact am) hP en_32 ?_
    rintro r H2 ⟨jd, rfl, h2, hd2, kp2⟩
    have hAx : setS A x n = addAll v.Strips (Q.take (k + 1)) n := by rw [addAll_take hx, hA]
    obtain ⟨A', hA'⟩ : ∃ A', A' = setS A x n := ⟨_, rfl⟩
    rw [← hA'] at h2 hAx ⊢
    have c1 := kp2 1 _ (by simp; omega) b1
    have cp := kp2 p _ (by simpa using npj) bp
    have lcp := (List.getElem?_eq_some_iff.1 cp).1
    have npjd := hd2 p _ npj bp
    have n1jd := hd2 1 _ (by omega) b1
    simp -dsimp -implicitDefEqProofs [-getElem?_pos, go_sem, hP, t16, cp, lcp, t62, wk]
    refine ⟨Q.length - (k + 1), by omega, ?_⟩
    rw [hI]
    refine ⟨k + 1, jd, A', by omega, rfl, hAx, by simp -dsimp -implicitDefEqProofs [-getElem?_pos, go_sem, t4], by simp -dsimp -implicitDefEqProofs [-getElem?_pos, go_sem, t10], by simp -dsimp -implicitDefEqProofs [-getElem?_pos, go_sem, t16], by simp -dsimp -implicitDefEqProofs [-getElem?_pos, go_sem, t60], by simp -dsimp -implicitDefEqProofs [-getElem?_pos, go_sem, t61], by simp -dsimp -implicitDefEqProofs [-getElem?_pos, go_sem], npjd, fun e => n1jd e.symm, ?_, ?_, ?_⟩
    · dsimp only
      rw [List.getElem?_set_ne (by omega)]; exact c1
    · dsimp only
      simp [lcp]
    · dsimp only
      rw [List.getElem?_set_ne npjd]; exact h2
  · have hk : k = Q.length := by simp at hq; omega
    subst hk
    rw [List.take_length] at hA
    have dl : decide (400 < (A.length : Int)) = false := decide_eq_false (by omega)
    simp -dsimp -implicitDefEqProofs [-getElem?_pos, go_sem, hP, t16, gp, lp, gj, lj, encL_len, dl, t10, g1, l1]
    rw [hQQ']
    refine done_agg2 (cs' := (⟨r', A⟩ : TVault).cells) ?_ ⟨_, by rw [e0], fun _ => by rw [hr', hA]⟩
    exact cw_imm (imm_secs _) (cw_imm (imm_holds _) (cw_imm (imm_moves _) (cw_sref (es := encL TStrip.cells A) (by rw [List.getElem?_set_ne (fun e => ‹j ≠ 1› e.symm)]; exact gj) (by rw [encL_len]) (imm_strips A) .nil)))
end Go.Proofs.YtkcfmmpcpdlfeaaGreatDoor
