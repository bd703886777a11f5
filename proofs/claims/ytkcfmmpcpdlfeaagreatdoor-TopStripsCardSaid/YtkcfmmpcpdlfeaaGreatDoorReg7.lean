/- Registers: the clerk makes a move. -/
import Derived.Test.YtkcfmmpcpdlfeaaGreatDoorReg6
set_option linter.unusedSimpArgs false
set_option linter.unusedVariables false
namespace Go.Proofs.YtkcfmmpcpdlfeaaGreatDoor
open Go.PA
open Go.RowKit

/-- What has become of the clerk. -/
def DoneC (secs : List TSecurity) (l : List THolding) (n d : Int) (m : TMove) (H : Heap) (c hid : Nat) (r : AV) (H' : Heap) : Prop :=
  r = iv (moveE secs l d m) ∧ (moveE secs l d m ≠ 0 → Kept [] H H') ∧ (moveE secs l d m = 0 → ∃ hid', Clk H' c hid' (secsL secs) (goH l m) (n + 1) m.Day ∧ (∀ (x : Nat) (o : AObj), x ≠ hid → H[x]? = some (some o) → x ≠ hid') ∧ Kept [c, hid] H H')
theorem clk_ex {H : Heap} {c hid : Nat} {sx : AV} {l : List THolding} {n d : Int} (hk : Clk H c hid sx l n d) (l' : List THolding) (n' d' : Int) : ∃ H', Clk H' c hid sx l' n' d' ∧ Kept [c, hid] H H' := by
  have lc := (List.getElem?_eq_some_iff.1 hk.oc).1
  have lh := (List.getElem?_eq_some_iff.1 hk.oh).1
  have ne := hk.ne
  refine ⟨(H.set c (some ⟨94, 4, [[sx, .sref hid 0 l'.length, iv n', iv d']]⟩)).set hid (some ⟨70, 3, encL THolding.cells l'⟩), ⟨?_, ?_, ne⟩, ?_⟩
  · rw [List.getElem?_set_ne (fun e => ne e.symm)]
    simp [lc]
  · simp [lh]
  · exact kept_set _ (by simp) (kept_set _ (by simp) (kept_refl _ _))
theorem agree_p {H H' : Heap} {p : Nat} {o : AObj} (k : Kept [] H H') (h : H[p]? = some (some o)) : Agree (fun i => decide (i = p)) H H' := fun i hi => by
  have := of_decide_eq_true hi
  subst this
  rw [h, k _ _ (by simp) h]
theorem agree_ps {H : Heap} {p c : Nat} {o : Option AObj} (h : ¬ p = c) : Agree (fun i => decide (i = p)) H (H.set c o) := fun i hi => by
  have := of_decide_eq_true hi
  subst this
  rw [List.getElem?_set_ne (fun e => h e.symm)]
theorem agree_ps2 {H : Heap} {p c : Nat} {o o' : Option AObj} (h : ¬ p = c) : Agree (fun i => decide (i = p)) (H.set c o) (H.set c o') := fun i hi => by
  have := of_decide_eq_true hi
  subst this
  rw [List.getElem?_set_ne (fun e => h e.symm), List.getElem?_set_ne (fun e => h e.symm)]
theorem clk2_pre {H0 H H' : Heap} {c hid : Nat} {sx : AV} {l l' : List THolding} {n d n' d' : Int} (k : Kept [] H0 H) (hk : Clk H0 c hid sx l n d) (h : Clk2 H c hid sx l' n' d' H') : Clk2 H0 c hid sx l' n' d' H' := by
  obtain ⟨hid', h1, h2, h3⟩ := h
  exact ⟨hid', h1, fun x o hx he => h2 x o hx (k x o (by simp) he), (k.mono (by simp)).trans h3⟩
theorem clk2_comp {H H' H'' : Heap} {c hid : Nat} {sx : AV} {l1 l2 : List THolding} {n d : Int} (h : Clk2 H c hid sx l1 n d H') (hid1 : Nat) (hk : Clk H' c hid1 sx l1 n d) (hp : ∀ (x : Nat) (o : AObj), x ≠ hid → H[x]? = some (some o) → x ≠ hid1) (h2 : Clk2 H' c hid1 sx l2 n d H'') : Clk2 H c hid sx l2 n d H'' := by
  obtain ⟨_, _, _, kp⟩ := h
  obtain ⟨hid2, g1, g2, g3⟩ := h2
  refine ⟨hid2, g1, fun x o hx he => ?_, fun x o hx he => ?_⟩
  · by_cases hc : x = c
    · rw [hc]; exact g1.ne
    · exact g2 x o (hp x o hx he) (kp x o (by simp [hc, hx]) he)
  · have hx' : ¬ x = c ∧ ¬ x = hid := by simpa using hx
    exact g3 x o (by simp [hx'.1, hp x o hx'.2 he]) (kp x o hx he)
theorem clk2_end {secs : List TSecurity} {l : List THolding} {n d : Int} {m : TMove} {H H5 : Heap} {c hid hid5 : Nat} (cl : Clk2 H c hid (secsL secs) (goH l m) n d H5) (hk : Clk H5 c hid5 (secsL secs) (goH l m) n d) (e0 : moveE secs l d m = 0) :
    DoneC secs l n d m H c hid (iv 0) (H5.set c (some ⟨94, 4, [[secsL secs, .sref hid5 0 (goH l m).length, iv (n + 1), iv m.Day]]⟩)) := by
  obtain ⟨hid', h1, h2, h3⟩ := cl
  have lc := (List.getElem?_eq_some_iff.1 h1.oc).1
  have e : hid' = hid5 := by
    have := h1.oc.symm.trans hk.oc
    simpa using this
  subst e
  refine ⟨by rw [e0], fun e => absurd e0 e, fun _ => ⟨hid', ⟨by simp [lc], by rw [List.getElem?_set_ne h1.ne]; exact h1.oh, h1.ne⟩, h2, h3.trans (kept_set _ (by simp) (kept_refl _ _))⟩⟩
set_option maxHeartbeats 4000000 in
theorem do_m {row src : Option Nat} (c hid : Nat) (secs : List TSecurity) (l : List THolding) (n d : Int) (m : TMove) (N : Nat) (H : Heap) (hk : Clk H c hid (secsL secs) l n d) (hl : l.length ≤ 5000) (hsl : secs.length ≤ 1000) (hso : ∀ s, s ∈ secs → secB s = true) (ho : HoldOk l N) (hn : 0 ≤ n ∧ n ≤ 1000000) :
    MFun Tryz.prog row src 66 [.ref c 0 0, .agg m.cells] H (DoneC secs l n d m H c hid) := by
  obtain ⟨C, hC⟩ : ∃ C : AV → Heap → Prop, C = DoneC secs l n d m H c hid := ⟨_, rfl⟩
  rw [← hC]
  have ex : ∃ r H', C r H' := by
    rw [hC]
    by_cases h0 : moveE secs l d m = 0
    · obtain ⟨H', h1, h2⟩ := clk_ex hk (goH l m) (n + 1) m.Day
      exact ⟨_, H', rfl, fun e => absurd h0 e, fun _ => ⟨hid, h1, fun x o hx _ => hx, h2⟩⟩
    · exact ⟨_, H, rfl, fun _ => kept_refl _ _, fun e => absurd e h0⟩
  refine mfun_intro Tryz.func66 rfl (by simp [Tryz.f66]) (by kernel_rfl) (ex) ?_
  intro E hP hr hs hN
  simp -dsimp -implicitDefEqProofs [-getElem?_pos, go_sem, hP, cMov]
  obtain ⟨H1, hH1⟩ : ∃ H1 : Heap, H1 = H ++ [some ⟨67, 7, [[iv m.Number, iv m.Day, iv m.Kind, iv m.Security, iv m.From, iv m.To, iv m.Amount]]⟩] := ⟨_, rfl⟩
  have k1 : Kept [] H H1 := by rw [hH1]; exact kept_app _ _ _
  have a1 : H1[H.length]? = some (some ⟨67, 7, [[iv m.Number, iv m.Day, iv m.Kind, iv m.Security, iv m.From, iv m.To, iv m.Amount]]⟩) := by rw [hH1]; simp
  have c1 := (hk.kept k1).oc
  have lt1 := (List.getElem?_eq_some_iff.1 a1).1
  have lc1 := (List.getElem?_eq_some_iff.1 c1).1
  simp only [← hH1]
  obtain ⟨p, hp⟩ : ∃ p, p = H.length := ⟨_, rfl⟩
  rw [← hp] at a1 lt1
  simp only [← hp]
  have hk1 := hk.kept k1
  have npc : ¬ p = c := fun e => by
    have := (List.getElem?_eq_some_iff.1 hk.oc).1
    omega
  have npc' : ¬ c = p := fun e => npc e.symm
  have am : amax [iv d, iv (findR secs m.Security).1.Issued] = some (iv (max d (findR secs m.Security).1.Issued)) := by simp [amax, amaxFrom]
  have gf := gfind_pf secs m.Security (by omega)
  refine adrawQ (fun i => decide (i < H1.length)) [11] [6] hP (by kernel_rfl) (by kernel_rfl) ?_
  simp -dsimp -implicitDefEqProofs [-getElem?_pos, go_sem, hP, restr_get, c1, a1, lt1, lc1]
  cases hf : findS secs m.Security with
  | none =>
    have e0 : moveE secs l d m = 76 := by rw [moveE, hf]
    have ef : findR secs m.Security = (zSec, false) := by rw [findR, hf]
    rw [ef] at gf
    refine callQ_is (gf.lift _ _) hP en_78 (by simp [imm_secs, imm_sc]) (imm_pair (show Imm (.agg zSec.cells) from imm_sec _) .sc) ?_
    simp -dsimp -implicitDefEqProofs [-getElem?_pos, go_sem, hP, cSec]
    refine ⟨agree_push (Nat.le_refl _), ?_⟩
    by_cases k3 : m.Kind = 3
    all_goals
      simp -dsimp -implicitDefEqProofs [-getElem?_pos, go_sem, hP, a1, lt1, k3, List.getElem?_append]
      rw [hC]
      exact ⟨by rw [e0], fun _ => k1.trans (kept_app _ _ _), fun e => by rw [e0] at e; cases e⟩
  | some s =>
    have ef : findR secs m.Security = (s, true) := by rw [findR, hf]
    rw [ef] at gf am
    refine callQ_is (gf.lift _ _) hP en_78 (by simp [imm_secs, imm_sc]) (imm_pair (imm_sec _) .sc) ?_
    have so := secOk (hso s (List.mem_of_find?_eq_some hf))
    simp -dsimp -implicitDefEqProofs [-getElem?_pos, go_sem, hP, cSec]
    refine ⟨agree_push (Nat.le_refl _), ?_⟩
    obtain ⟨H2, hH2⟩ : ∃ H2 : Heap, H2 = H1 ++ [some ⟨28, 7, [[iv s.ID, iv s.Unit, iv s.Issued, iv s.Maturity, iv s.Rate, iv s.Every, bv s.Indexed]]⟩] := ⟨_, rfl⟩
    have k2 : Kept [] H H2 := k1.trans (by rw [hH2]; exact kept_app _ _ _)
    have k12 : Kept [] H1 H2 := by rw [hH2]; exact kept_app _ _ _
    obtain ⟨q, hq⟩ : ∃ q, q = H1.length := ⟨_, rfl⟩
    have b2 : H2[q]? = some (some ⟨28, 7, [[iv s.ID, iv s.Unit, iv s.Issued, iv s.Maturity, iv s.Rate, iv s.Every, bv s.Indexed]]⟩) := by rw [hH2, hq]; simp
    rw [← hH2, ← hq]
    have a2 := k12 _ _ (by simp) a1
    have hk2 := hk1.kept k12
    have c2 := hk2.oc
    have lp2 := (List.getElem?_eq_some_iff.1 a2).1
    have lq2 := (List.getElem?_eq_some_iff.1 b2).1
    have lc2 := (List.getElem?_eq_some_iff.1 c2).1
    dsimp only at am
    have gs := gstrange_pf m
    rw [cMov] at gs
    have hm := fun {row src : Option Nat} => held_m (row := row) (src := src) c _ _ _ _ l m.Security m.From H2 c2 hk2.sl (by omega) ho.srt
    have om := fun {row src : Option Nat} => outst_m (row := row) (src := src) c _ _ _ _ l N m.Security H2 c2 hk2.sl (by omega) ho
    have nph : ¬ p = hid := fun e => by
      have := (List.getElem?_eq_some_iff.1 hk.oh).1
      omega
    by_cases k3 : m.Kind = 3
    · by_cases cday : max d s.Issued ≤ m.Day ∧ m.Day ≤ if m.Kind = 3 then 36000 else s.Maturity
      rotate_left
      · have e0 : moveE secs l d m = 8 := by rw [moveE, hf]; dsimp only; rw [if_pos (by simpa using cday)]
        have hb : bet m.Day (max d s.Issued) (36000) = false := bet_no (by rw [if_pos k3] at cday; exact cday)
        simp -dsimp -implicitDefEqProofs [-getElem?_pos, go_sem, hP, a2, b2, c2, lp2, lq2, lc2, k3, am]
        refine adrawB (fun _ => true) [] hP (by kernel_rfl) (by kernel_rfl) ?_
        simp -dsimp -implicitDefEqProofs [-getElem?_pos, go_sem, hP, a2, b2, c2, lp2, lq2, lc2, k3, am]
        refine callB_pure (gamong_pf m.Day (max d s.Issued) (36000)) hP en_60 (args_same (by simp -dsimp -implicitDefEqProofs [-getElem?_pos, go_sem])) .sc ?_
        simp -dsimp -implicitDefEqProofs [-getElem?_pos, go_sem, hP, hb]
        rw [hC]
        exact ⟨by rw [e0], fun _ => k2, fun e => by rw [e0] at e; cases e⟩
      have hb : bet m.Day (max d s.Issued) (36000) = true := bet_yes (by rw [if_pos k3] at cday; exact cday)
      simp -dsimp -implicitDefEqProofs [-getElem?_pos, go_sem, hP, a2, b2, c2, lp2, lq2, lc2, k3, am]
      refine adrawB (fun _ => true) [] hP (by kernel_rfl) (by kernel_rfl) ?_
      simp -dsimp -implicitDefEqProofs [-getElem?_pos, go_sem, hP, a2, b2, c2, lp2, lq2, lc2, k3, am]
      refine callB_pure (gamong_pf m.Day (max d s.Issued) (36000)) hP en_60 (args_same (by simp -dsimp -implicitDefEqProofs [-getElem?_pos, go_sem])) .sc ?_
      by_cases a0 : m.Amount ≤ 0
      · have e0 : moveE secs l d m = 79 := by rw [moveE, hf]; dsimp only; rw [if_neg (by simpa using cday), if_pos (.inl a0)]
        have d0 : decide (m.Amount ≤ 0) = true := decide_eq_true a0
        simp -dsimp -implicitDefEqProofs [-getElem?_pos, go_sem, hP, hb, a2, b2, lp2, lq2, d0]
        rw [hC]
        exact ⟨by rw [e0], fun _ => k2, fun e => by rw [e0] at e; cases e⟩
      have d0 : decide (m.Amount ≤ 0) = false := decide_eq_false a0
      simp -dsimp -implicitDefEqProofs [-getElem?_pos, go_sem, hP, hb, a2, b2, lp2, lq2, d0]
      refine callB_pure (gvalid_pf m.Amount) hP en_100 (args_same (by simp -dsimp -implicitDefEqProofs [-getElem?_pos, go_sem])) .sc ?_
      by_cases a9 : 1000000000000 < m.Amount
      · have e0 : moveE secs l d m = 79 := by rw [moveE, hf]; dsimp only; rw [if_neg (by simpa using cday), if_pos (.inr (.inl a9))]
        have hv : bet m.Amount 0 1000000000000 = false := bet_no (by omega)
        simp -dsimp -implicitDefEqProofs [-getElem?_pos, go_sem, hP, hv]
        rw [hC]
        exact ⟨by rw [e0], fun _ => k2, fun e => by rw [e0] at e; cases e⟩
      have hv : bet m.Amount 0 1000000000000 = true := bet_yes (by omega)
      have ht : m.Amount.tmod s.Unit = m.Amount % s.Unit := Int.tmod_eq_emod_of_nonneg (by omega)
      have u0 : ¬ s.Unit = 0 := by have := so.unit; omega
      by_cases am0 : m.Amount % s.Unit = 0
      rotate_left
      · have e0 : moveE secs l d m = 79 := by rw [moveE, hf]; dsimp only; rw [if_neg (by simpa using cday), if_pos (.inr (.inr am0))]
        simp -dsimp -implicitDefEqProofs [-getElem?_pos, go_sem, hP, hv, a2, b2, lp2, lq2, ht, u0, am0]
        rw [hC]
        exact ⟨by rw [e0], fun _ => k2, fun e => by rw [e0] at e; cases e⟩
      simp -dsimp -implicitDefEqProofs [-getElem?_pos, go_sem, hP, hv, a2, b2, lp2, lq2, ht, u0, am0]
      refine callB_pure gs hP en_101 (args_same (by simp -dsimp -implicitDefEqProofs [-getElem?_pos, go_sem])) .sc ?_
      cases cs : strangeB m with
      | true =>
        have e0 : moveE secs l d m = 6 := by rw [moveE, hf]; dsimp only; rw [if_neg (by simpa using cday), if_neg (by omega), if_pos cs]
        simp -dsimp -implicitDefEqProofs [-getElem?_pos, go_sem, hP]
        rw [hC]
        exact ⟨by rw [e0], fun _ => k2, fun e => by rw [e0] at e; cases e⟩
      | false =>
        simp -dsimp -implicitDefEqProofs [-getElem?_pos, go_sem, hP]
        refine adrawB (fun i => decide (i = p)) [] hP (by kernel_rfl) (by kernel_rfl) ?_
        by_cases f0 : m.From = 0
        · simp -dsimp -implicitDefEqProofs [-getElem?_pos, go_sem, hP, restr_get, a2, lp2, f0]
          refine adrawB (fun i => decide (i = p)) [] hP (by kernel_rfl) (by kernel_rfl) ?_
          simp -dsimp -implicitDefEqProofs [-getElem?_pos, go_sem, hP, restr_get, a2, lp2, f0]
          refine callB_m (by rw [hr, hs]; exact om) hP en_102 ?_
          rintro r H3 ⟨rfl, kp3⟩
          have a3 := kp3 _ _ (by simp) a2
          have hk3 := hk2.kept kp3
          have k3' : Kept [] H H3 := k2.trans kp3
          have lp3 := (List.getElem?_eq_some_iff.1 a3).1
          have ho3 := outH_take ho m.Security l.length
          rw [List.take_length] at ho3
          have wo := wrap_in (outH l m.Security + m.Amount) (by omega)
          by_cases o9 : 1000000000000 < outH l m.Security + m.Amount
          · have e0 : moveE secs l d m = 2 := by rw [moveE, hf]; dsimp only; rw [if_neg (by simpa using cday), if_neg (by omega), if_neg (by simp [cs]), if_neg (fun e => e.1 f0), if_pos ⟨f0, o9⟩]
            have d9 : decide (1000000000000 < outH l m.Security + m.Amount) = true := decide_eq_true o9
            simp -dsimp -implicitDefEqProofs [-getElem?_pos, go_sem, hP]
            refine ⟨agree_p kp3 a2, ?_⟩
            simp -dsimp -implicitDefEqProofs [-getElem?_pos, go_sem, hP, restr_get, a3, lp3, wo, d9]
            rw [hC]
            exact ⟨by rw [e0], fun _ => k3', fun e => by rw [e0] at e; cases e⟩
          have d9 : decide (1000000000000 < outH l m.Security + m.Amount) = false := decide_eq_false o9
          simp -dsimp -implicitDefEqProofs [-getElem?_pos, go_sem, hP]
          refine ⟨agree_p kp3 a2, ?_⟩
          simp -dsimp -implicitDefEqProofs [-getElem?_pos, go_sem, hP, restr_get, a3, lp3, wo, d9]
          have mok : MoveOk secs l d m s := ⟨hf, cday, ⟨by omega, by omega, am0⟩, cs, fun e => by first | exact absurd f0 e | omega, fun e => by first | exact absurd e f0 | omega⟩
          have e0 := moveE_zero mok
          have ho1 := goH1_ok ho mok
          have wn := wrap_in (-m.Amount) (by omega)
          have ad1 := fun {row src : Option Nat} => cadd_m (row := row) (src := src) c hid (secsL secs) n d l m.Security m.From (-m.Amount) H3 hk3 rfl (by omega) ho.srt (fun x hx => ho.am hx) (by omega) (by omega)
          simp -dsimp -implicitDefEqProofs [-getElem?_pos, go_sem, hP, a3, lp3, wn]
          refine callB_m (by rw [hr, hs]; exact ad1) hP en_103 ?_
          rintro _ H4 c24
          obtain ⟨hid4, hk4, pr4, kp4⟩ := c24
          have a4 := kp4 _ _ (by simpa using ⟨npc, nph⟩) a3
          have lp4 := (List.getElem?_eq_some_iff.1 a4).1
          have ad2 := fun {row src : Option Nat} => cadd_m (row := row) (src := src) c hid4 (secsL secs) n d (addH l m.Security m.From (-m.Amount)) m.Security m.To m.Amount H4 hk4 rfl (by have := ho1.2; omega) ho1.1.srt (fun x hx => ho1.1.am hx) (by omega) (by omega)
          simp -dsimp -implicitDefEqProofs [-getElem?_pos, go_sem, hP, a4, lp4]
          refine callB_m (by rw [hr, hs]; exact ad2) hP en_103 ?_
          rintro _ H5 c25
          have cl5 : Clk2 H c hid (secsL secs) (goH l m) n d H5 := clk2_comp (clk2_pre k3' hk ⟨hid4, hk4, pr4, kp4⟩) hid4 hk4 (fun x o hx he => pr4 x o hx (k3' x o (by simp) he)) c25
          obtain ⟨hid5, hk5, pr5, kp5⟩ := c25
          have a5 := kp5 _ _ (by simpa using ⟨npc, pr4 p _ nph a3⟩) a4
          have lp5 := (List.getElem?_eq_some_iff.1 a5).1
          have c5 := hk5.oc
          have lc5 := (List.getElem?_eq_some_iff.1 c5).1
          have wn1 := wrap_in (n + 1) (by omega)
          simp -dsimp -implicitDefEqProofs [-getElem?_pos, go_sem, hP]
          refine adrawB (fun i => decide (i = p)) [3, 4, 5, 9, 10, 12, 13] hP (by kernel_rfl) (by kernel_rfl) ?_
          simp -dsimp -implicitDefEqProofs [-getElem?_pos, go_sem, hP, restr_get, a5, lp5, c5, lc5, npc, npc', wn1]
          refine ⟨agree_ps npc, agree_ps2 npc, ?_⟩
          rw [hC]
          exact clk2_end cl5 hk5 e0

        · simp -dsimp -implicitDefEqProofs [-getElem?_pos, go_sem, hP, restr_get, a2, lp2, f0]
          refine callB_m (by rw [hr, hs]; exact hm) hP en_43 ?_
          rintro r H3 ⟨rfl, kp3⟩
          have a3 := kp3 _ _ (by simp) a2
          have hk3 := hk2.kept kp3
          have k3' : Kept [] H H3 := k2.trans kp3
          have lp3 := (List.getElem?_eq_some_iff.1 a3).1
          by_cases o9 : heldH l m.Security m.From < m.Amount
          · have e0 : moveE secs l d m = 77 := by rw [moveE, hf]; dsimp only; rw [if_neg (by simpa using cday), if_neg (by omega), if_neg (by simp [cs]), if_pos ⟨f0, o9⟩]
            have d9 : decide (heldH l m.Security m.From < m.Amount) = true := decide_eq_true o9
            simp -dsimp -implicitDefEqProofs [-getElem?_pos, go_sem, hP]
            refine ⟨agree_p kp3 a2, ?_⟩
            simp -dsimp -implicitDefEqProofs [-getElem?_pos, go_sem, hP, restr_get, a3, lp3, d9]
            rw [hC]
            exact ⟨by rw [e0], fun _ => k3', fun e => by rw [e0] at e; cases e⟩
          have d9 : decide (heldH l m.Security m.From < m.Amount) = false := decide_eq_false o9
          simp -dsimp -implicitDefEqProofs [-getElem?_pos, go_sem, hP]
          refine ⟨agree_p kp3 a2, ?_⟩
          simp -dsimp -implicitDefEqProofs [-getElem?_pos, go_sem, hP, restr_get, a3, lp3, d9]
          refine adrawB (fun i => decide (i = p)) [] hP (by kernel_rfl) (by kernel_rfl) ?_
          simp -dsimp -implicitDefEqProofs [-getElem?_pos, go_sem, hP, restr_get, a3, lp3, f0]
          have mok : MoveOk secs l d m s := ⟨hf, cday, ⟨by omega, by omega, am0⟩, cs, fun e => by first | exact absurd f0 e | omega, fun e => by first | exact absurd e f0 | omega⟩
          have e0 := moveE_zero mok
          have ho1 := goH1_ok ho mok
          have wn := wrap_in (-m.Amount) (by omega)
          have ad1 := fun {row src : Option Nat} => cadd_m (row := row) (src := src) c hid (secsL secs) n d l m.Security m.From (-m.Amount) H3 hk3 rfl (by omega) ho.srt (fun x hx => ho.am hx) (by omega) (by omega)
          simp -dsimp -implicitDefEqProofs [-getElem?_pos, go_sem, hP, a3, lp3, wn]
          refine callB_m (by rw [hr, hs]; exact ad1) hP en_103 ?_
          rintro _ H4 c24
          obtain ⟨hid4, hk4, pr4, kp4⟩ := c24
          have a4 := kp4 _ _ (by simpa using ⟨npc, nph⟩) a3
          have lp4 := (List.getElem?_eq_some_iff.1 a4).1
          have ad2 := fun {row src : Option Nat} => cadd_m (row := row) (src := src) c hid4 (secsL secs) n d (addH l m.Security m.From (-m.Amount)) m.Security m.To m.Amount H4 hk4 rfl (by have := ho1.2; omega) ho1.1.srt (fun x hx => ho1.1.am hx) (by omega) (by omega)
          simp -dsimp -implicitDefEqProofs [-getElem?_pos, go_sem, hP, a4, lp4]
          refine callB_m (by rw [hr, hs]; exact ad2) hP en_103 ?_
          rintro _ H5 c25
          have cl5 : Clk2 H c hid (secsL secs) (goH l m) n d H5 := clk2_comp (clk2_pre k3' hk ⟨hid4, hk4, pr4, kp4⟩) hid4 hk4 (fun x o hx he => pr4 x o hx (k3' x o (by simp) he)) c25
          obtain ⟨hid5, hk5, pr5, kp5⟩ := c25
          have a5 := kp5 _ _ (by simpa using ⟨npc, pr4 p _ nph a3⟩) a4
          have lp5 := (List.getElem?_eq_some_iff.1 a5).1
          have c5 := hk5.oc
          have lc5 := (List.getElem?_eq_some_iff.1 c5).1
          have wn1 := wrap_in (n + 1) (by omega)
          simp -dsimp -implicitDefEqProofs [-getElem?_pos, go_sem, hP]
          refine adrawB (fun i => decide (i = p)) [3, 4, 5, 9, 10, 12, 13] hP (by kernel_rfl) (by kernel_rfl) ?_
          simp -dsimp -implicitDefEqProofs [-getElem?_pos, go_sem, hP, restr_get, a5, lp5, c5, lc5, npc, npc', wn1]
          refine ⟨agree_ps npc, agree_ps2 npc, ?_⟩
          rw [hC]
          exact clk2_end cl5 hk5 e0


    · by_cases cday : max d s.Issued ≤ m.Day ∧ m.Day ≤ if m.Kind = 3 then 36000 else s.Maturity
      rotate_left
      · have e0 : moveE secs l d m = 8 := by rw [moveE, hf]; dsimp only; rw [if_pos (by simpa using cday)]
        have hb : bet m.Day (max d s.Issued) (s.Maturity) = false := bet_no (by rw [if_neg k3] at cday; exact cday)
        simp -dsimp -implicitDefEqProofs [-getElem?_pos, go_sem, hP, a2, b2, c2, lp2, lq2, lc2, k3, am]
        refine adrawB (fun _ => true) [] hP (by kernel_rfl) (by kernel_rfl) ?_
        simp -dsimp -implicitDefEqProofs [-getElem?_pos, go_sem, hP, a2, b2, c2, lp2, lq2, lc2, k3, am]
        refine callB_pure (gamong_pf m.Day (max d s.Issued) (s.Maturity)) hP en_60 (args_same (by simp -dsimp -implicitDefEqProofs [-getElem?_pos, go_sem])) .sc ?_
        simp -dsimp -implicitDefEqProofs [-getElem?_pos, go_sem, hP, hb]
        rw [hC]
        exact ⟨by rw [e0], fun _ => k2, fun e => by rw [e0] at e; cases e⟩
      have hb : bet m.Day (max d s.Issued) (s.Maturity) = true := bet_yes (by rw [if_neg k3] at cday; exact cday)
      simp -dsimp -implicitDefEqProofs [-getElem?_pos, go_sem, hP, a2, b2, c2, lp2, lq2, lc2, k3, am]
      refine adrawB (fun _ => true) [] hP (by kernel_rfl) (by kernel_rfl) ?_
      simp -dsimp -implicitDefEqProofs [-getElem?_pos, go_sem, hP, a2, b2, c2, lp2, lq2, lc2, k3, am]
      refine callB_pure (gamong_pf m.Day (max d s.Issued) (s.Maturity)) hP en_60 (args_same (by simp -dsimp -implicitDefEqProofs [-getElem?_pos, go_sem])) .sc ?_
      by_cases a0 : m.Amount ≤ 0
      · have e0 : moveE secs l d m = 79 := by rw [moveE, hf]; dsimp only; rw [if_neg (by simpa using cday), if_pos (.inl a0)]
        have d0 : decide (m.Amount ≤ 0) = true := decide_eq_true a0
        simp -dsimp -implicitDefEqProofs [-getElem?_pos, go_sem, hP, hb, a2, b2, lp2, lq2, d0]
        rw [hC]
        exact ⟨by rw [e0], fun _ => k2, fun e => by rw [e0] at e; cases e⟩
      have d0 : decide (m.Amount ≤ 0) = false := decide_eq_false a0
      simp -dsimp -implicitDefEqProofs [-getElem?_pos, go_sem, hP, hb, a2, b2, lp2, lq2, d0]
      refine callB_pure (gvalid_pf m.Amount) hP en_100 (args_same (by simp -dsimp -implicitDefEqProofs [-getElem?_pos, go_sem])) .sc ?_
      by_cases a9 : 1000000000000 < m.Amount
      · have e0 : moveE secs l d m = 79 := by rw [moveE, hf]; dsimp only; rw [if_neg (by simpa using cday), if_pos (.inr (.inl a9))]
        have hv : bet m.Amount 0 1000000000000 = false := bet_no (by omega)
        simp -dsimp -implicitDefEqProofs [-getElem?_pos, go_sem, hP, hv]
        rw [hC]
        exact ⟨by rw [e0], fun _ => k2, fun e => by rw [e0] at e; cases e⟩
      have hv : bet m.Amount 0 1000000000000 = true := bet_yes (by omega)
      have ht : m.Amount.tmod s.Unit = m.Amount % s.Unit := Int.tmod_eq_emod_of_nonneg (by omega)
      have u0 : ¬ s.Unit = 0 := by have := so.unit; omega
      by_cases am0 : m.Amount % s.Unit = 0
      rotate_left
      · have e0 : moveE secs l d m = 79 := by rw [moveE, hf]; dsimp only; rw [if_neg (by simpa using cday), if_pos (.inr (.inr am0))]
        simp -dsimp -implicitDefEqProofs [-getElem?_pos, go_sem, hP, hv, a2, b2, lp2, lq2, ht, u0, am0]
        rw [hC]
        exact ⟨by rw [e0], fun _ => k2, fun e => by rw [e0] at e; cases e⟩
      simp -dsimp -implicitDefEqProofs [-getElem?_pos, go_sem, hP, hv, a2, b2, lp2, lq2, ht, u0, am0]
      refine callB_pure gs hP en_101 (args_same (by simp -dsimp -implicitDefEqProofs [-getElem?_pos, go_sem])) .sc ?_
      cases cs : strangeB m with
      | true =>
        have e0 : moveE secs l d m = 6 := by rw [moveE, hf]; dsimp only; rw [if_neg (by simpa using cday), if_neg (by omega), if_pos cs]
        simp -dsimp -implicitDefEqProofs [-getElem?_pos, go_sem, hP]
        rw [hC]
        exact ⟨by rw [e0], fun _ => k2, fun e => by rw [e0] at e; cases e⟩
      | false =>
        simp -dsimp -implicitDefEqProofs [-getElem?_pos, go_sem, hP]
        refine adrawB (fun i => decide (i = p)) [] hP (by kernel_rfl) (by kernel_rfl) ?_
        by_cases f0 : m.From = 0
        · simp -dsimp -implicitDefEqProofs [-getElem?_pos, go_sem, hP, restr_get, a2, lp2, f0]
          refine adrawB (fun i => decide (i = p)) [] hP (by kernel_rfl) (by kernel_rfl) ?_
          simp -dsimp -implicitDefEqProofs [-getElem?_pos, go_sem, hP, restr_get, a2, lp2, f0]
          refine callB_m (by rw [hr, hs]; exact om) hP en_102 ?_
          rintro r H3 ⟨rfl, kp3⟩
          have a3 := kp3 _ _ (by simp) a2
          have hk3 := hk2.kept kp3
          have k3' : Kept [] H H3 := k2.trans kp3
          have lp3 := (List.getElem?_eq_some_iff.1 a3).1
          have ho3 := outH_take ho m.Security l.length
          rw [List.take_length] at ho3
          have wo := wrap_in (outH l m.Security + m.Amount) (by omega)
          by_cases o9 : 1000000000000 < outH l m.Security + m.Amount
          · have e0 : moveE secs l d m = 2 := by rw [moveE, hf]; dsimp only; rw [if_neg (by simpa using cday), if_neg (by omega), if_neg (by simp [cs]), if_neg (fun e => e.1 f0), if_pos ⟨f0, o9⟩]
            have d9 : decide (1000000000000 < outH l m.Security + m.Amount) = true := decide_eq_true o9
            simp -dsimp -implicitDefEqProofs [-getElem?_pos, go_sem, hP]
            refine ⟨agree_p kp3 a2, ?_⟩
            simp -dsimp -implicitDefEqProofs [-getElem?_pos, go_sem, hP, restr_get, a3, lp3, wo, d9]
            rw [hC]
            exact ⟨by rw [e0], fun _ => k3', fun e => by rw [e0] at e; cases e⟩
          have d9 : decide (1000000000000 < outH l m.Security + m.Amount) = false := decide_eq_false o9
          simp -dsimp -implicitDefEqProofs [-getElem?_pos, go_sem, hP]
          refine ⟨agree_p kp3 a2, ?_⟩
          simp -dsimp -implicitDefEqProofs [-getElem?_pos, go_sem, hP, restr_get, a3, lp3, wo, d9]
          have mok : MoveOk secs l d m s := ⟨hf, cday, ⟨by omega, by omega, am0⟩, cs, fun e => by first | exact absurd f0 e | omega, fun e => by first | exact absurd e f0 | omega⟩
          have e0 := moveE_zero mok
          have ho1 := goH1_ok ho mok
          have wn := wrap_in (-m.Amount) (by omega)
          have ad1 := fun {row src : Option Nat} => cadd_m (row := row) (src := src) c hid (secsL secs) n d l m.Security m.From (-m.Amount) H3 hk3 rfl (by omega) ho.srt (fun x hx => ho.am hx) (by omega) (by omega)
          simp -dsimp -implicitDefEqProofs [-getElem?_pos, go_sem, hP, a3, lp3, wn]
          refine callB_m (by rw [hr, hs]; exact ad1) hP en_103 ?_
          rintro _ H4 c24
          obtain ⟨hid4, hk4, pr4, kp4⟩ := c24
          have a4 := kp4 _ _ (by simpa using ⟨npc, nph⟩) a3
          have lp4 := (List.getElem?_eq_some_iff.1 a4).1
          have ad2 := fun {row src : Option Nat} => cadd_m (row := row) (src := src) c hid4 (secsL secs) n d (addH l m.Security m.From (-m.Amount)) m.Security m.To m.Amount H4 hk4 rfl (by have := ho1.2; omega) ho1.1.srt (fun x hx => ho1.1.am hx) (by omega) (by omega)
          simp -dsimp -implicitDefEqProofs [-getElem?_pos, go_sem, hP, a4, lp4]
          refine callB_m (by rw [hr, hs]; exact ad2) hP en_103 ?_
          rintro _ H5 c25
          have cl5 : Clk2 H c hid (secsL secs) (goH l m) n d H5 := clk2_comp (clk2_pre k3' hk ⟨hid4, hk4, pr4, kp4⟩) hid4 hk4 (fun x o hx he => pr4 x o hx (k3' x o (by simp) he)) c25
          obtain ⟨hid5, hk5, pr5, kp5⟩ := c25
          have a5 := kp5 _ _ (by simpa using ⟨npc, pr4 p _ nph a3⟩) a4
          have lp5 := (List.getElem?_eq_some_iff.1 a5).1
          have c5 := hk5.oc
          have lc5 := (List.getElem?_eq_some_iff.1 c5).1
          have wn1 := wrap_in (n + 1) (by omega)
          simp -dsimp -implicitDefEqProofs [-getElem?_pos, go_sem, hP]
          refine adrawB (fun i => decide (i = p)) [3, 4, 5, 9, 10, 12, 13] hP (by kernel_rfl) (by kernel_rfl) ?_
          simp -dsimp -implicitDefEqProofs [-getElem?_pos, go_sem, hP, restr_get, a5, lp5, c5, lc5, npc, npc', wn1]
          refine ⟨agree_ps npc, agree_ps2 npc, ?_⟩
          rw [hC]
          exact clk2_end cl5 hk5 e0

        · simp -dsimp -implicitDefEqProofs [-getElem?_pos, go_sem, hP, restr_get, a2, lp2, f0]
          refine callB_m (by rw [hr, hs]; exact hm) hP en_43 ?_
          rintro r H3 ⟨rfl, kp3⟩
          have a3 := kp3 _ _ (by simp) a2
          have hk3 := hk2.kept kp3
          have k3' : Kept [] H H3 := k2.trans kp3
          have lp3 := (List.getElem?_eq_some_iff.1 a3).1
          by_cases o9 : heldH l m.Security m.From < m.Amount
          · have e0 : moveE secs l d m = 77 := by rw [moveE, hf]; dsimp only; rw [if_neg (by simpa using cday), if_neg (by omega), if_neg (by simp [cs]), if_pos ⟨f0, o9⟩]
            have d9 : decide (heldH l m.Security m.From < m.Amount) = true := decide_eq_true o9
            simp -dsimp -implicitDefEqProofs [-getElem?_pos, go_sem, hP]
            refine ⟨agree_p kp3 a2, ?_⟩
            simp -dsimp -implicitDefEqProofs [-getElem?_pos, go_sem, hP, restr_get, a3, lp3, d9]
            rw [hC]
            exact ⟨by rw [e0], fun _ => k3', fun e => by rw [e0] at e; cases e⟩
          have d9 : decide (heldH l m.Security m.From < m.Amount) = false := decide_eq_false o9
          simp -dsimp -implicitDefEqProofs [-getElem?_pos, go_sem, hP]
          refine ⟨agree_p kp3 a2, ?_⟩
          simp -dsimp -implicitDefEqProofs [-getElem?_pos, go_sem, hP, restr_get, a3, lp3, d9]
          refine adrawB (fun i => decide (i = p)) [] hP (by kernel_rfl) (by kernel_rfl) ?_
          simp -dsimp -implicitDefEqProofs [-getElem?_pos, go_sem, hP, restr_get, a3, lp3, f0]
          have mok : MoveOk secs l d m s := ⟨hf, cday, ⟨by omega, by omega, am0⟩, cs, fun e => by first | exact absurd f0 e | omega, fun e => by first | exact absurd e f0 | omega⟩
          have e0 := moveE_zero mok
          have ho1 := goH1_ok ho mok
          have wn := wrap_in (-m.Amount) (by omega)
          have ad1 := fun {row src : Option Nat} => cadd_m (row := row) (src := src) c hid (secsL secs) n d l m.Security m.From (-m.Amount) H3 hk3 rfl (by omega) ho.srt (fun x hx => ho.am hx) (by omega) (by omega)
          simp -dsimp -implicitDefEqProofs [-getElem?_pos, go_sem, hP, a3, lp3, wn]
          refine callB_m (by rw [hr, hs]; exact ad1) hP en_103 ?_
          rintro _ H4 c24
          obtain ⟨hid4, hk4, pr4, kp4⟩ := c24
          have a4 := kp4 _ _ (by simpa using ⟨npc, nph⟩) a3
          have lp4 := (List.getElem?_eq_some_iff.1 a4).1
          have ad2 := fun {row src : Option Nat} => cadd_m (row := row) (src := src) c hid4 (secsL secs) n d (addH l m.Security m.From (-m.Amount)) m.Security m.To m.Amount H4 hk4 rfl (by have := ho1.2; omega) ho1.1.srt (fun x hx => ho1.1.am hx) (by omega) (by omega)
          simp -dsimp -implicitDefEqProofs [-getElem?_pos, go_sem, hP, a4, lp4]
          refine callB_m (by rw [hr, hs]; exact ad2) hP en_103 ?_
          rintro _ H5 c25
          have cl5 : Clk2 H c hid (secsL secs) (goH l m) n d H5 := clk2_comp (clk2_pre k3' hk ⟨hid4, hk4, pr4, kp4⟩) hid4 hk4 (fun x o hx he => pr4 x o hx (k3' x o (by simp) he)) c25
          obtain ⟨hid5, hk5, pr5, kp5⟩ := c25
          have a5 := kp5 _ _ (by simpa using ⟨npc, pr4 p _ nph a3⟩) a4
          have lp5 := (List.getElem?_eq_some_iff.1 a5).1
          have c5 := hk5.oc
          have lc5 := (List.getElem?_eq_some_iff.1 c5).1
          have wn1 := wrap_in (n + 1) (by omega)
          simp -dsimp -implicitDefEqProofs [-getElem?_pos, go_sem, hP]
          refine adrawB (fun i => decide (i = p)) [3, 4, 5, 9, 10, 12, 13] hP (by kernel_rfl) (by kernel_rfl) ?_
          simp -dsimp -implicitDefEqProofs [-getElem?_pos, go_sem, hP, restr_get, a5, lp5, c5, lc5, npc, npc', wn1]
          refine ⟨agree_ps npc, agree_ps2 npc, ?_⟩
          rw [hC]
          exact clk2_end cl5 hk5 e0


end Go.Proofs.YtkcfmmpcpdlfeaaGreatDoor
