/- Registers: copies; moves that are added. -/
import Derived.Test.YtkcfmmpcpdlfeaaGreatDoorReg8
set_option linter.unusedSimpArgs false
set_option linter.unusedVariables false
namespace Go.Proofs.YtkcfmmpcpdlfeaaGreatDoor
open Go.PA
open Go.RowKit

theorem clone_m_sec {row src : Option Nat} (l : List TSecurity) (H : Heap) (hl : l.length ≤ 1000000) : MFun Tryz.prog row src 61 [.list 7 (encL TSecurity.cells l)] H (fun r H' => ∃ id, r = .sref id 0 l.length ∧ H.length ≤ id ∧ H'[id]? = some (some ⟨28, 7, encL TSecurity.cells l⟩) ∧ Kept [] H H') := by
  have own : MFun Tryz.prog row src 61 [.list 7 (encL TSecurity.cells l)] H (fun r H' => (r = .nil ∧ l = [] ∧ H' = H) ∨ ∃ id, r = .sref id 0 l.length ∧ H.length ≤ id ∧ H'[id]? = some (some ⟨28, 7, encL TSecurity.cells l⟩) ∧ Kept [] H H') := by
    cases l with
    | nil =>
      refine mfun_list_nil fun A c => ?_
      refine mfun_intro Tryz.func61 rfl (by simp [Tryz.f61]) (by kernel_rfl) ⟨.nil, H, .inl ⟨rfl, rfl, rfl⟩⟩ ?_
      intro E hP hr hs hN
      cases A with
      | none => simp -dsimp -implicitDefEqProofs [-getElem?_pos, go_sem, hP]
      | some a =>
        simp -dsimp -implicitDefEqProofs [-getElem?_pos, go_sem, hP]
        exact kept_app _ _ _
    | cons a l =>
      refine mfun_intro Tryz.func61 rfl (by simp [Tryz.f61]) (by kernel_rfl) ⟨_, H ++ [some ⟨28, 7, encL TSecurity.cells (a :: l)⟩], .inr ⟨H.length, rfl, Nat.le_refl _, by simp, kept_push _ (kept_refl _ _)⟩⟩ ?_
      intro E hP hr hs hN
      simp only [List.length_cons] at hl
      have e : encL TSecurity.cells (a :: l) = TSecurity.cells a :: encL TSecurity.cells l := rfl
      simp -dsimp -implicitDefEqProofs [-getElem?_pos, go_sem, hP, e]
      refine ⟨by omega, by omega, ?_⟩
      exact kept_app _ _ _
  refine (own.ownNil 28 7).mono ?_
  rintro r H' (⟨H0, h0, rfl, rfl⟩ | ⟨hne, h⟩)
  · rcases h0 with ⟨_, rfl, rfl⟩ | ⟨id, h, _⟩
    · exact ⟨_, rfl, Nat.le_refl _, by simp [encL], kept_push _ (kept_refl _ _)⟩
    · cases h
  · rcases h with ⟨h, _⟩ | h
    · exact absurd h hne
    · exact h

theorem clone_m_hol {row src : Option Nat} (l : List THolding) (H : Heap) (hl : l.length ≤ 1000000) : MFun Tryz.prog row src 62 [.list 3 (encL THolding.cells l)] H (fun r H' => ∃ id, r = .sref id 0 l.length ∧ H.length ≤ id ∧ H'[id]? = some (some ⟨70, 3, encL THolding.cells l⟩) ∧ Kept [] H H') := by
  have own : MFun Tryz.prog row src 62 [.list 3 (encL THolding.cells l)] H (fun r H' => (r = .nil ∧ l = [] ∧ H' = H) ∨ ∃ id, r = .sref id 0 l.length ∧ H.length ≤ id ∧ H'[id]? = some (some ⟨70, 3, encL THolding.cells l⟩) ∧ Kept [] H H') := by
    cases l with
    | nil =>
      refine mfun_list_nil fun A c => ?_
      refine mfun_intro Tryz.func62 rfl (by simp [Tryz.f62]) (by kernel_rfl) ⟨.nil, H, .inl ⟨rfl, rfl, rfl⟩⟩ ?_
      intro E hP hr hs hN
      cases A with
      | none => simp -dsimp -implicitDefEqProofs [-getElem?_pos, go_sem, hP]
      | some a =>
        simp -dsimp -implicitDefEqProofs [-getElem?_pos, go_sem, hP]
        exact kept_app _ _ _
    | cons a l =>
      refine mfun_intro Tryz.func62 rfl (by simp [Tryz.f62]) (by kernel_rfl) ⟨_, H ++ [some ⟨70, 3, encL THolding.cells (a :: l)⟩], .inr ⟨H.length, rfl, Nat.le_refl _, by simp, kept_push _ (kept_refl _ _)⟩⟩ ?_
      intro E hP hr hs hN
      simp only [List.length_cons] at hl
      have e : encL THolding.cells (a :: l) = THolding.cells a :: encL THolding.cells l := rfl
      simp -dsimp -implicitDefEqProofs [-getElem?_pos, go_sem, hP, e]
      refine ⟨by omega, by omega, ?_⟩
      exact kept_app _ _ _
  refine (own.ownNil 70 3).mono ?_
  rintro r H' (⟨H0, h0, rfl, rfl⟩ | ⟨hne, h⟩)
  · rcases h0 with ⟨_, rfl, rfl⟩ | ⟨id, h, _⟩
    · exact ⟨_, rfl, Nat.le_refl _, by simp [encL], kept_push _ (kept_refl _ _)⟩
    · cases h
  · rcases h with ⟨h, _⟩ | h
    · exact absurd h hne
    · exact h

theorem clone_m_mov {row src : Option Nat} (l : List TMove) (H : Heap) (hl : l.length ≤ 1000000) : MFun Tryz.prog row src 63 [.list 7 (encL TMove.cells l)] H (fun r H' => ∃ id, r = .sref id 0 l.length ∧ H.length ≤ id ∧ H'[id]? = some (some ⟨67, 7, encL TMove.cells l⟩) ∧ Kept [] H H') := by
  have own : MFun Tryz.prog row src 63 [.list 7 (encL TMove.cells l)] H (fun r H' => (r = .nil ∧ l = [] ∧ H' = H) ∨ ∃ id, r = .sref id 0 l.length ∧ H.length ≤ id ∧ H'[id]? = some (some ⟨67, 7, encL TMove.cells l⟩) ∧ Kept [] H H') := by
    cases l with
    | nil =>
      refine mfun_list_nil fun A c => ?_
      refine mfun_intro Tryz.func63 rfl (by simp [Tryz.f63]) (by kernel_rfl) ⟨.nil, H, .inl ⟨rfl, rfl, rfl⟩⟩ ?_
      intro E hP hr hs hN
      cases A with
      | none => simp -dsimp -implicitDefEqProofs [-getElem?_pos, go_sem, hP]
      | some a =>
        simp -dsimp -implicitDefEqProofs [-getElem?_pos, go_sem, hP]
        exact kept_app _ _ _
    | cons a l =>
      refine mfun_intro Tryz.func63 rfl (by simp [Tryz.f63]) (by kernel_rfl) ⟨_, H ++ [some ⟨67, 7, encL TMove.cells (a :: l)⟩], .inr ⟨H.length, rfl, Nat.le_refl _, by simp, kept_push _ (kept_refl _ _)⟩⟩ ?_
      intro E hP hr hs hN
      simp only [List.length_cons] at hl
      have e : encL TMove.cells (a :: l) = TMove.cells a :: encL TMove.cells l := rfl
      simp -dsimp -implicitDefEqProofs [-getElem?_pos, go_sem, hP, e]
      refine ⟨by omega, by omega, ?_⟩
      exact kept_app _ _ _
  refine (own.ownNil 67 7).mono ?_
  rintro r H' (⟨H0, h0, rfl, rfl⟩ | ⟨hne, h⟩)
  · rcases h0 with ⟨_, rfl, rfl⟩ | ⟨id, h, _⟩
    · exact ⟨_, rfl, Nat.le_refl _, by simp [encL], kept_push _ (kept_refl _ _)⟩
    · cases h
  · rcases h with ⟨h, _⟩ | h
    · exact absurd h hne
    · exact h

/-- A register's copy. -/
structure RegC (H : Heap) (r : TRegister) (i1 i2 i3 : Nat) : Prop where
  o1 : H[i1]? = some (some ⟨28, 7, encL TSecurity.cells r.Securities⟩)
  o2 : H[i2]? = some (some ⟨70, 3, encL THolding.cells r.Holdings⟩)
  o3 : H[i3]? = some (some ⟨67, 7, encL TMove.cells r.Moves⟩)
theorem RegC.kept {H H' : Heap} {r : TRegister} {i1 i2 i3 : Nat} (h : RegC H r i1 i2 i3) (k : Kept [] H H') : RegC H' r i1 i2 i3 := ⟨k _ _ (by simp) h.o1, k _ _ (by simp) h.o2, k _ _ (by simp) h.o3⟩
def regR (r : TRegister) (i1 i2 i3 : Nat) : List AV := [.sref i1 0 r.Securities.length, .sref i2 0 r.Holdings.length, .sref i3 0 r.Moves.length]
theorem RegC.cw {H : Heap} {r : TRegister} {i1 i2 i3 : Nat} (h : RegC H r i1 i2 i3) : CW H (regR r i1 i2 i3) r.cells :=
  cw_sref h.o1 (by rw [encL_len]) (imm_secs _) (cw_sref h.o2 (by rw [encL_len]) (imm_holds _) (cw_sref h.o3 (by rw [encL_len]) (imm_moves _) .nil))
def CopyR (H : Heap) (r : TRegister) (x : AV) (H' : Heap) : Prop := ∃ i1 i2 i3, x = .agg (regR r i1 i2 i3) ∧ RegC H' r i1 i2 i3 ∧ H.length ≤ i1 ∧ i1 < i2 ∧ i2 < i3 ∧ Kept [] H H'
set_option maxHeartbeats 4000000 in
theorem gcopy_m {row src : Option Nat} (r : TRegister) (H : Heap) (h1 : r.Securities.length ≤ 100000) (h2 : r.Holdings.length ≤ 100000) (h3 : r.Moves.length ≤ 100000) : MFun Tryz.prog row src 23 [.agg r.cells] H (CopyR H r) := by
  obtain ⟨C, hC⟩ : ∃ C : AV → Heap → Prop, C = CopyR H r := ⟨_, rfl⟩
  rw [← hC]
  have ex : ∃ x H', C x H' := by
    rw [hC]
    refine ⟨_, H ++ [some ⟨28, 7, encL TSecurity.cells r.Securities⟩, some ⟨70, 3, encL THolding.cells r.Holdings⟩, some ⟨67, 7, encL TMove.cells r.Moves⟩], H.length, H.length + 1, H.length + 2, rfl, ⟨by simp, ?_, ?_⟩, by omega, by omega, by omega, kept_app _ _ _⟩
    all_goals
      rw [List.getElem?_append_right (by omega)]
      simp
  refine mfun_intro Tryz.func23 rfl (by simp [Tryz.f23]) (by kernel_rfl) (ex) ?_
  intro E hP hr hs hN
  have i1 := imm_secs r.Securities
  have i2 := imm_holds r.Holdings
  have i3 := imm_moves r.Moves
  simp -dsimp -implicitDefEqProofs [-getElem?_pos, go_sem, hP, cReg]
  obtain ⟨O, hO⟩ : ∃ O : AObj, O = ⟨33, 3, [[secsL r.Securities, holdsL r.Holdings, movesL r.Moves]]⟩ := ⟨_, rfl⟩
  obtain ⟨Z, hZ⟩ : ∃ Z : AObj, Z = ⟨33, 3, [[.nil, .nil, .nil]]⟩ := ⟨_, rfl⟩
  obtain ⟨H0, hH0⟩ : ∃ H0 : Heap, H0 = H ++ [some O, some Z] := ⟨_, rfl⟩
  obtain ⟨p, hp⟩ : ∃ p, p = H.length := ⟨_, rfl⟩
  have a0 : H0[p]? = some (some O) := by rw [hH0, hp]; simp
  have z0 : H0[p + 1]? = some (some Z) := by rw [hH0, hp, List.getElem?_append_right (by omega)]; simp
  have k0 : Kept [] H H0 := by rw [hH0]; exact kept_app _ _ _
  have l0 : H0.length = p + 2 := by rw [hH0, hp]; simp
  rw [← hO, ← hZ, ← hH0, ← hp]
  refine adrawB (fun i => decide (i = p)) [] hP (by kernel_rfl) (by kernel_rfl) ?_
  simp -dsimp -implicitDefEqProofs [-getElem?_pos, go_sem, hP, restr_get, a0, hO]
  refine callB_m (by rw [hr, hs]; exact clone_m_sec r.Securities H0 (by omega)) hP en_61 ?_
  rintro x H1 ⟨id1, rfl, hid1, ho1, hk1⟩
  have a1 := hk1 _ _ (by simp) a0
  have z1 := hk1 _ _ (by simp) z0
  simp -dsimp -implicitDefEqProofs [-getElem?_pos, go_sem, hP]
  refine ⟨agree_p hk1 a0, ?_⟩
  simp -dsimp -implicitDefEqProofs [-getElem?_pos, go_sem, hP, restr_get, a1, hO]
  refine callB_m (by rw [hr, hs]; exact clone_m_hol r.Holdings H1 (by omega)) hP en_62 ?_
  rintro x H2 ⟨id2, rfl, hid2, ho2, hk2⟩
  have a2 := hk2 _ _ (by simp) a1
  have z2 := hk2 _ _ (by simp) z1
  simp -dsimp -implicitDefEqProofs [-getElem?_pos, go_sem, hP]
  refine ⟨agree_p hk2 a1, ?_⟩
  simp -dsimp -implicitDefEqProofs [-getElem?_pos, go_sem, hP, restr_get, a2, hO]
  refine callB_m (by rw [hr, hs]; exact clone_m_mov r.Moves H2 (by omega)) hP en_63 ?_
  rintro x H3 ⟨id3, rfl, hid3, ho3, hk3⟩
  have a3 := hk3 _ _ (by simp) a2
  have z3 := hk3 _ _ (by simp) z2
  have lz3 := (List.getElem?_eq_some_iff.1 z3).1
  have lz1 := (List.getElem?_eq_some_iff.1 z1).1
  have lz2 := (List.getElem?_eq_some_iff.1 z2).1
  have np : ¬ p = p + 1 := by omega
  simp -dsimp -implicitDefEqProofs [-getElem?_pos, go_sem, hP]
  refine ⟨agree_p hk3 a2, ?_⟩
  simp -dsimp -implicitDefEqProofs [-getElem?_pos, go_sem, hP, restr_get, z3, lz3, hZ]
  refine ⟨agree_ps np, ?_⟩
  rw [hC]
  have n1 : ¬ p + 1 = id1 := by omega
  have n2 : ¬ p + 1 = id2 := by omega
  have n3 : ¬ p + 1 = id3 := by omega
  have m1 := (List.getElem?_eq_some_iff.1 ho1).1
  have m2 := (List.getElem?_eq_some_iff.1 ho2).1
  refine ⟨id1, id2, id3, rfl, ⟨?_, ?_, ?_⟩, by omega, by omega, by omega, ?_⟩
  · rw [List.getElem?_set_ne n1]; exact hk3 _ _ (by simp) (hk2 _ _ (by simp) ho1)
  · rw [List.getElem?_set_ne n2]; exact hk3 _ _ (by simp) ho2
  · rw [List.getElem?_set_ne n3]; exact ho3
  · exact kept_new _ (by omega) (((k0.trans hk1).trans hk2).trans hk3)
theorem gheld_pf (r : TRegister) (d : Int) (id h : Int) (ok : RegOk r d) : PFun Tryz.prog none none 15 [.agg r.cells, iv id, iv h] (· = iv (heldH r.Holdings id h)) := by
  have ir := imm_reg r
  have ck := gcheck_pf r d ok
  have h4 := ok.hl
  have hin := ok.regIn
  have hm := fun (H : Heap) (e : H[1]? = some (some ⟨94, 4, [[.nil, holdsL r.Holdings, iv 0, iv 0]]⟩)) => held_m (row := none) (src := none) 1 .nil (holdsL r.Holdings) (iv 0) (iv 0) r.Holdings id h H e (.inl rfl) (by have := h4.len; have := hin.ml; omega) h4.srt
  rw [cReg] at ir ck
  refine pfun_intro Tryz.func15 rfl (by simp [Tryz.f15]) (by kernel_rfl) ?_
  intro E hP hr hs hW hN
  simp -dsimp -implicitDefEqProofs [-getElem?_pos, go_sem, hP, cReg]
  refine callB_is (ck.lift _ _) hP en_18 (by simpa using ir) .sc ?_
  simp -dsimp -implicitDefEqProofs [-getElem?_pos, go_sem, hP]
  refine callB_m (by rw [hr, hs]; exact hm _ (by simp -dsimp -implicitDefEqProofs [-getElem?_pos, go_sem])) hP en_43 ?_
  rintro x H' ⟨rfl, _⟩
  simp -dsimp -implicitDefEqProofs [-getElem?_pos, go_sem, hP]
theorem gfindX_pf (r : TRegister) (id : Int) (hl : r.Securities.length ≤ 100000) : PFun Tryz.prog none none 36 [.agg r.cells, iv id] (· = .tup [.agg (findR r.Securities id).1.cells, bv (findR r.Securities id).2]) := by
  have il := imm_secs r.Securities
  have gf := gfind_pf r.Securities id hl
  obtain ⟨F, hF⟩ : ∃ F, F = findR r.Securities id := ⟨_, rfl⟩
  rw [← hF] at gf ⊢
  refine pfun_intro Tryz.func36 rfl (by simp [Tryz.f36]) (by kernel_rfl) ?_
  intro E hP hr hs hW hN
  simp -dsimp -implicitDefEqProofs [-getElem?_pos, go_sem, hP, cReg]
  refine callB_is (gf.lift _ _) hP en_78 (by simp [il, imm_sc]) (imm_pair (imm_sec _) .sc) ?_
  simp -dsimp -implicitDefEqProofs [-getElem?_pos, go_sem, hP, cSec]
  exact done_imm (imm_pair (by rw [← cSec]; exact imm_sec _) .sc) rfl
end Go.Proofs.YtkcfmmpcpdlfeaaGreatDoor
