/- Registers: moves that are added. -/
import Derived.Test.YtkcfmmpcpdlfeaaGreatDoorReg9
set_option linter.unusedSimpArgs false
set_option linter.unusedVariables false
namespace Go.Proofs.YtkcfmmpcpdlfeaaGreatDoor
open Go.PA
open Go.RowKit

theorem cw_zeroR {H : Heap} : CW H [.nil, .nil, .nil] (⟨[], [], []⟩ : TRegister).cells := cw_nil (cw_nil (cw_nil .nil))
/-- A move that was asked for. -/
def MoveQ (r : TRegister) (d : Int) (m : TMove) (x : AV) : Prop := ∃ r', x = .tup [.agg r'.cells, iv (moveE r.Securities r.Holdings d m)] ∧ (moveE r.Securities r.Holdings d m = 0 → r' = moved r m)
theorem moveQ_ex (r : TRegister) (d : Int) (m : TMove) : ∃ x, MoveQ r d m x ∧ Imm x := by
  by_cases h : moveE r.Securities r.Holdings d m = 0
  · exact ⟨_, ⟨_, rfl, fun _ => rfl⟩, imm_pair (imm_reg _) .sc⟩
  · exact ⟨_, ⟨⟨[], [], []⟩, rfl, fun e => absurd e h⟩, imm_pair (imm_reg _) .sc⟩
set_option maxHeartbeats 4000000 in
theorem gmove_pf (r : TRegister) (d : Int) (m : TMove) (k0 : Int) (ok : RegOk r d) (hl : r.Moves.length < 400) (hmn : m.Number = (r.Moves.length : Int) + 1) : PFun Tryz.prog none none 25 [.agg r.cells, .agg [iv k0, iv m.Day, iv m.Kind, iv m.Security, iv m.From, iv m.To, iv m.Amount]] (MoveQ r d m) := by
  obtain ⟨Q, hQ⟩ : ∃ Q, Q = MoveQ r d m := ⟨_, rfl⟩
  rw [← hQ]
  have ir := imm_reg r
  have ck := gcheck_pf r d ok
  have h4 := ok.hl
  have hin := ok.regIn
  have g4 := h4.len
  have g2 := hin.sl
  rw [cReg] at ir ck
  have dl : decide ((r.Moves.length : Int) = 400) = false := decide_eq_false (by omega)
  have w1 := wrap_in ((r.Moves.length : Int) + 1) (by omega)
  refine pfun_intro Tryz.func25 rfl (by simp [Tryz.f25]) (by kernel_rfl) ?_
  intro E hP hr hs hW hN
  simp -dsimp -implicitDefEqProofs [-getElem?_pos, go_sem, hP, cReg]
  refine callB_is (ck.lift _ _) hP en_18 (by simpa using ir) .sc ?_
  have rm := fun (H : Heap) => replay_m (row := none) (src := none) r 57 [] ⟨r.Holdings, r.Moves.length, d⟩ H ok.run hin.ml (by omega) hin.so en_57 fun m hm H' hk => (mfun_of_flat ((gall_pf m).lift _ _) (args_same (by simp [imm_mov])) ⟨_, rfl⟩ (by rintro _ rfl; simp [flat_sc])).mono (by rintro x H'' ⟨rfl, rfl⟩; exact ⟨rfl, kept_refl _ _⟩)
  rw [cReg] at rm
  simp -dsimp -implicitDefEqProofs [-getElem?_pos, go_sem, hP, encL_len, dl]
  refine callB_m (by rw [hr, hs]; exact rm _) hP en_56 ?_
  rintro x H1 ⟨c, hid, rfl, hc, hcl, hhn, kp⟩
  simp only [List.length_cons, List.length_nil] at hcl
  have a0 := kp 0 _ (by simp) (by rfl)
  have a1 := kp 1 _ (by simp) (by rfl)
  have a2 := kp 2 _ (by simp) (by rfl)
  have n0 := hhn 0 _ (by rfl)
  have n1 := hhn 1 _ (by rfl)
  have n2 := hhn 2 _ (by rfl)
  have oc := hc.oc
  have lc := (List.getElem?_eq_some_iff.1 oc).1
  have l1 := (List.getElem?_eq_some_iff.1 a1).1
  dsimp only at oc
  simp -dsimp -implicitDefEqProofs [-getElem?_pos, go_sem, hP, oc, lc, a1, l1, w1]
  obtain ⟨H2, hH2⟩ : ∃ H2, H2 = H1.set 1 (some ⟨67, 7, [[iv ((r.Moves.length : Int) + 1), iv m.Day, iv m.Kind, iv m.Security, iv m.From, iv m.To, iv m.Amount]]⟩) := ⟨_, rfl⟩
  have nc : ¬ 1 = c := by omega
  have cc : Clk H2 c hid (secsL r.Securities) r.Holdings r.Moves.length d := by
    refine ⟨?_, ?_, hc.ne⟩
    · rw [hH2, List.getElem?_set_ne nc]; exact oc
    · rw [hH2, List.getElem?_set_ne n1]; exact hc.oh
  have b0 : H2[0]? = some (some ⟨33, 3, [[secsL r.Securities, holdsL r.Holdings, movesL r.Moves]]⟩) := by rw [hH2, List.getElem?_set_ne (by omega)]; exact a0
  have b1 : H2[1]? = some (some ⟨67, 7, [m.cells]⟩) := by rw [hH2, cMov, hmn]; simp [l1]
  have b2 : H2[2]? = some (some ⟨33, 3, [[.nil, .nil, .nil]]⟩) := by rw [hH2, List.getElem?_set_ne (by omega)]; exact a2
  rw [← hH2, ← hmn, ← cMov m]
  have dm := do_m (row := none) (src := none) c hid r.Securities r.Holdings r.Moves.length d m (2 * r.Moves.length) H2 cc (by omega) (by omega) hin.so h4 (by omega)
  clear oc a0 a1 a2 hc kp hhn hH2
  refine callB_m (by rw [hr, hs]; exact dm) hP en_66 ?_
  rintro x H3 ⟨rfl, hbad, hgood⟩
  by_cases e0 : moveE r.Securities r.Holdings d m = 0
  rotate_left
  · have kp := hbad e0
    have c2 := kp _ _ (by simp) b2
    have l2 := (List.getElem?_eq_some_iff.1 c2).1
    simp -dsimp -implicitDefEqProofs [-getElem?_pos, go_sem, hP, e0, c2, l2]
    refine done_agg2 (cs' := (⟨[], [], []⟩ : TRegister).cells) cw_zeroR ?_
    rw [hQ]
    exact ⟨_, rfl, fun e => absurd e e0⟩
  obtain ⟨hid', hc, hp, kp⟩ := hgood e0
  have m0 : (0 : Nat) ∉ [c, hid] := by simp; omega
  have m1 : (1 : Nat) ∉ [c, hid] := by simp; omega
  have m2 : (2 : Nat) ∉ [c, hid] := by simp; omega
  have c0 := kp _ _ m0 b0
  have c1 := kp _ _ m1 b1
  have c2 := kp _ _ m2 b2
  have p0 := hp 0 _ n0 b0
  have p1 := hp 1 _ n1 b1
  have p2 := hp 2 _ n2 b2
  have gc := gcopy_m (row := none) (src := none) r H3 (by omega) (by omega) (by omega)
  rw [cReg] at gc
  have l0 := (List.getElem?_eq_some_iff.1 c0).1
  simp -dsimp -implicitDefEqProofs [-getElem?_pos, go_sem, hP, e0, c0, l0]
  refine callB_m (by rw [hr, hs]; exact gc) hP en_23 ?_
  rintro x H4 ⟨i1, i2, i3, rfl, hrc, q1, q2, q3, kp4⟩
  have d0 := kp4 _ _ (by simp) c0
  have d1 := kp4 _ _ (by simp) c1
  have d2 := kp4 _ _ (by simp) c2
  have l04 := (List.getElem?_eq_some_iff.1 d0).1
  have hc4 := hc.kept kp4
  have oc4 := hc4.oc
  have lc4 := (List.getElem?_eq_some_iff.1 oc4).1
  have lc3 := (List.getElem?_eq_some_iff.1 hc.oc).1
  have lh3 := (List.getElem?_eq_some_iff.1 hc.oh).1
  simp -dsimp -implicitDefEqProofs [-getElem?_pos, go_sem, hP, regR, d0, l04]
  obtain ⟨H5, hH5⟩ : ∃ H5, H5 = H4.set 0 (some ⟨33, 3, [[.sref i1 0 r.Securities.length, .sref i2 0 r.Holdings.length, .sref i3 0 r.Moves.length]]⟩) := ⟨_, rfl⟩
  rw [← hH5]
  have nx : ∀ z : Nat, 0 < z → H5[z]? = H4[z]? := fun z hz => by rw [hH5, List.getElem?_set_ne (by omega)]
  have f0 : H5[0]? = some (some ⟨33, 3, [[.sref i1 0 r.Securities.length, .sref i2 0 r.Holdings.length, .sref i3 0 r.Moves.length]]⟩) := by rw [hH5]; simp [l04]
  have f1 : H5[1]? = some (some ⟨67, 7, [m.cells]⟩) := by rw [nx 1 (by omega)]; exact d1
  have f2 : H5[2]? = some (some ⟨33, 3, [[.nil, .nil, .nil]]⟩) := by rw [nx 2 (by omega)]; exact d2
  have fc : H5[c]? = some (some ⟨94, 4, [[secsL r.Securities, .sref hid' 0 (goH r.Holdings m).length, iv ((r.Moves.length : Int) + 1), iv m.Day]]⟩) := by rw [nx c (by omega)]; exact oc4
  have fh : H5[hid']? = some (some ⟨70, 3, encL THolding.cells (goH r.Holdings m)⟩) := by rw [nx hid' (by omega)]; exact hc4.oh
  have g1 : H5[i1]? = some (some ⟨28, 7, encL TSecurity.cells r.Securities⟩) := by rw [nx i1 (by omega)]; exact hrc.o1
  have g3 : H5[i3]? = some (some ⟨67, 7, encL TMove.cells r.Moves⟩) := by rw [nx i3 (by omega)]; exact hrc.o3
  have v0 := (List.getElem?_eq_some_iff.1 f0).1
  have v1 := (List.getElem?_eq_some_iff.1 f1).1
  have v2 := (List.getElem?_eq_some_iff.1 f2).1
  have vc := (List.getElem?_eq_some_iff.1 fc).1
  have v3 := (List.getElem?_eq_some_iff.1 g3).1
  have vh := (List.getElem?_eq_some_iff.1 fh).1
  have vi := (List.getElem?_eq_some_iff.1 g1).1
  clear hrc hc4 oc4 d0 d1 d2 hH5 nx
  refine adrawB (fun i => decide (i < 2) || decide (i = c)) [10, 12] hP (by kernel_rfl) (by kernel_rfl) ?_
  simp -dsimp -implicitDefEqProofs [-getElem?_pos, go_sem, hP, restr_get, f0, f1, fc, g3, v0, v1, vc, v3, cMov, encL_len]
  refine ⟨by omega, by omega, ?_, ?_⟩
  · intro i hi
    simp only [Bool.or_eq_true, decide_eq_true_eq] at hi
    rw [List.getElem?_append_left (by simp; omega), List.getElem?_set_ne (by omega)]
  obtain ⟨N, hN6⟩ : ∃ N, N = H5.length := ⟨_, rfl⟩
  obtain ⟨H6, hH6⟩ : ∃ H6, H6 = H5.set i3 none ++ [some ⟨67, 7, encL TMove.cells r.Moves ++ [[iv m.Number, iv m.Day, iv m.Kind, iv m.Security, iv m.From, iv m.To, iv m.Amount]]⟩] := ⟨_, rfl⟩
  dsimp only
  rw [← hH6, ← hN6]
  have hx : ∀ z : Nat, z < H5.length → z ≠ i3 → H6[z]? = H5[z]? := fun z h1 h2 => by rw [hH6, List.getElem?_append_left (by simpa using h1), List.getElem?_set_ne (fun e => h2 e.symm)]
  have k0 := (hx 0 (by omega) (by omega)).trans f0
  have k2 := (hx 2 (by omega) (by omega)).trans f2
  have kh := (hx hid' (by omega) (by omega)).trans fh
  have k1 := (hx i1 (by omega) (by omega)).trans g1
  have kn : H6[N]? = some (some ⟨67, 7, encL TMove.cells (r.Moves ++ [m])⟩) := by
    rw [hH6, hN6, List.getElem?_append_right (by simp)]
    simp [encL, cMov]
  have w0 := (List.getElem?_eq_some_iff.1 k0).1
  have w2 := (List.getElem?_eq_some_iff.1 k2).1
  have s0 : (H5.set i3 none)[0]? = some (some ⟨33, 3, [[.sref i1 0 r.Securities.length, .sref i2 0 r.Holdings.length, .sref i3 0 r.Moves.length]]⟩) := by rw [List.getElem?_set_ne (by omega)]; exact f0
  clear f0 f1 f2 fc fh g1 g3 hx hH6
  have n02 : ¬ (0 : Nat) = 2 := by omega
  simp -dsimp -implicitDefEqProofs [-getElem?_pos, go_sem, hP, restr_get, s0, k0, w0, k2, w2]
  rw [hQ]
  refine done_agg2 (cs' := (moved r m).cells) ?_ ⟨_, by rw [e0], fun _ => rfl⟩
  have hy : ∀ (z : Nat) (x y : Option AObj) (w : Option (Option AObj)), z ≠ 0 → z ≠ 2 → H6[z]? = w → ((H6.set 0 x).set 2 y)[z]? = w := fun z x y w h0 h2 h => by rw [List.getElem?_set_ne (fun e => h2 e.symm), List.getElem?_set_ne (fun e => h0 e.symm)]; exact h
  refine cw_sref (hy i1 _ _ _ (by omega) (by omega) k1) (by rw [encL_len]; rfl) (imm_secs _) (cw_sref (hy hid' _ _ _ (by omega) (by omega) kh) (by rw [encL_len]; rfl) (imm_holds _) (cw_sref (hy N _ _ _ (by omega) (by omega) kn) (by rw [encL_len]; simp [moved]) (imm_moves _) .nil))
theorem imm_mv (a b c d e f g : Int) : Imm (.agg [iv a, iv b, iv c, iv d, iv e, iv f, iv g]) := imm_mov ⟨a, b, c, d, e, f, g⟩
theorem gissue_pf (r : TRegister) (d : Int) (m : TMove) (ok : RegOk r d) (hl : r.Moves.length < 400) (hmn : m.Number = (r.Moves.length : Int) + 1) (h : m.Kind = 1 ∧ m.From = 0) : PFun Tryz.prog none none 8 [.agg r.cells, iv m.Day, iv m.Security, iv m.To, iv m.Amount] (MoveQ r d m) := by
  obtain ⟨Q, hQ⟩ : ∃ Q, Q = MoveQ r d m := ⟨_, rfl⟩
  rw [← hQ]
  have ir := imm_reg r
  have gm := gmove_pf r d m 0 ok hl hmn
  have im := imm_mv 0 m.Day m.Kind m.Security m.From m.To m.Amount
  rw [h.1, h.2] at gm im
  rw [cReg] at ir gm
  refine pfun_intro Tryz.func8 rfl (by simp [Tryz.f8]) (by kernel_rfl) ?_
  intro E hP hr hs hW hN
  simp -dsimp -implicitDefEqProofs [-getElem?_pos, go_sem, hP, cReg]
  refine callB_isQ (gm.lift _ _) hP en_25 (by simpa using ⟨ir, im⟩) (moveQ_ex r d m) ?_
  rintro x ⟨r', rfl, hx⟩ _
  have ir' := imm_reg r'
  rw [cReg] at ir'
  simp -dsimp -implicitDefEqProofs [-getElem?_pos, go_sem, hP, cReg]
  exact done_imm (imm_pair ir' .sc) (by rw [hQ, ← cReg]; exact ⟨r', rfl, hx⟩)
theorem gtransfer_pf (r : TRegister) (d : Int) (m : TMove) (ok : RegOk r d) (hl : r.Moves.length < 400) (hmn : m.Number = (r.Moves.length : Int) + 1) (h : m.Kind = 2) : PFun Tryz.prog none none 29 [.agg r.cells, iv m.Day, iv m.Security, iv m.From, iv m.To, iv m.Amount] (MoveQ r d m) := by
  obtain ⟨Q, hQ⟩ : ∃ Q, Q = MoveQ r d m := ⟨_, rfl⟩
  rw [← hQ]
  have ir := imm_reg r
  have gm := gmove_pf r d m 0 ok hl hmn
  have im := imm_mv 0 m.Day m.Kind m.Security m.From m.To m.Amount
  rw [h] at gm im
  rw [cReg] at ir gm
  refine pfun_intro Tryz.func29 rfl (by simp [Tryz.f29]) (by kernel_rfl) ?_
  intro E hP hr hs hW hN
  simp -dsimp -implicitDefEqProofs [-getElem?_pos, go_sem, hP, cReg]
  refine callB_isQ (gm.lift _ _) hP en_25 (by simpa using ⟨ir, im⟩) (moveQ_ex r d m) ?_
  rintro x ⟨r', rfl, hx⟩ _
  have ir' := imm_reg r'
  rw [cReg] at ir'
  simp -dsimp -implicitDefEqProofs [-getElem?_pos, go_sem, hP, cReg]
  exact done_imm (imm_pair ir' .sc) (by rw [hQ, ← cReg]; exact ⟨r', rfl, hx⟩)
theorem gredeem_pf (r : TRegister) (d : Int) (m : TMove) (ok : RegOk r d) (hl : r.Moves.length < 400) (hmn : m.Number = (r.Moves.length : Int) + 1) (h : m.Kind = 3 ∧ m.To = 0) : PFun Tryz.prog none none 42 [.agg r.cells, iv m.Day, iv m.Security, iv m.From, iv m.Amount] (MoveQ r d m) := by
  obtain ⟨Q, hQ⟩ : ∃ Q, Q = MoveQ r d m := ⟨_, rfl⟩
  rw [← hQ]
  have ir := imm_reg r
  have gm := gmove_pf r d m 0 ok hl hmn
  have im := imm_mv 0 m.Day m.Kind m.Security m.From m.To m.Amount
  rw [h.1, h.2] at gm im
  rw [cReg] at ir gm
  refine pfun_intro Tryz.func42 rfl (by simp [Tryz.f42]) (by kernel_rfl) ?_
  intro E hP hr hs hW hN
  simp -dsimp -implicitDefEqProofs [-getElem?_pos, go_sem, hP, cReg]
  refine callB_isQ (gm.lift _ _) hP en_25 (by simpa using ⟨ir, im⟩) (moveQ_ex r d m) ?_
  rintro x ⟨r', rfl, hx⟩ _
  have ir' := imm_reg r'
  rw [cReg] at ir'
  simp -dsimp -implicitDefEqProofs [-getElem?_pos, go_sem, hP, cReg]
  exact done_imm (imm_pair ir' .sc) (by rw [hQ, ← cReg]; exact ⟨r', rfl, hx⟩)
theorem at1_m {row src : Option Nat} (m : TMove) (day : Int) (H : Heap) (b : Nat) (hb : H[b]? = some (some ⟨3, 1, [[iv day]]⟩)) (h : m.Day ≤ day) : MFun Tryz.prog row src 108 [.agg m.cells, .ref b 0 0] H (fun r H' => r = bv true ∧ Kept [] H H') := by
  have dh := decide_eq_true h
  have lb := (List.getElem?_eq_some_iff.1 hb).1
  refine mfun_intro Tryz.func108 rfl (by simp [Tryz.f108]) (by kernel_rfl) (⟨_, H, rfl, kept_refl _ _⟩) ?_
  intro E hP hr hs hN
  have hb' : ∀ x : Heap, (H ++ x)[b]? = some (some ⟨3, 1, [[iv day]]⟩) := fun x => by rw [List.getElem?_append_left lb]; exact hb
  simp -dsimp -implicitDefEqProofs [-getElem?_pos, go_sem, hP, cMov, dh, hb']
  exact kept_app _ _ _
theorem gat_pf (r : TRegister) (d day : Int) (ok : RegOk r d) (hd : ∀ m, m ∈ r.Moves → m.Day ≤ day) : PFun Tryz.prog none none 75 [.agg r.cells, iv day] (· = holdsL r.Holdings) := by
  have ir := imm_reg r
  have ck := gcheck_pf r d ok
  have hin := ok.regIn
  have g2 := hin.sl
  have rm := fun (H : Heap) (hb : H[1]? = some (some ⟨3, 1, [[iv day]]⟩)) => replay_m (row := none) (src := none) r 108 [.ref 1 0 0] ⟨r.Holdings, r.Moves.length, d⟩ H ok.run hin.ml (by omega) hin.so en_108 fun m hm H' hk => at1_m m day H' 1 (hk 1 _ (by simp) hb) (hd m hm)
  rw [cReg] at ir ck rm
  refine pfun_intro Tryz.func75 rfl (by simp [Tryz.f75]) (by kernel_rfl) ?_
  intro E hP hr hs hW hN
  simp -dsimp -implicitDefEqProofs [-getElem?_pos, go_sem, hP, cReg]
  refine callB_is (ck.lift _ _) hP en_18 (by simpa using ir) .sc ?_
  simp -dsimp -implicitDefEqProofs [-getElem?_pos, go_sem, hP]
  refine callB_m (by rw [hr, hs]; exact rm _ (by simp -dsimp -implicitDefEqProofs [-getElem?_pos, go_sem])) hP en_56 ?_
  rintro x H1 ⟨c, hid, rfl, hc, hcl, hhn, kp⟩
  have oc := hc.oc
  have lc := (List.getElem?_eq_some_iff.1 oc).1
  dsimp only at oc
  simp -dsimp -implicitDefEqProofs [-getElem?_pos, go_sem, hP, oc, lc]
  have oh := hc.oh
  refine done (x := holdsL r.Holdings) ?_ rfl ?_ <;> rw [view_sref, oh, viewS_some]
  · rw [List.drop_zero, List.take_of_length_le (by simp [encL])]
    exact imm_holds _
  · rw [List.drop_zero, List.take_of_length_le (by simp [encL])]
end Go.Proofs.YtkcfmmpcpdlfeaaGreatDoor
