/- Several texts of this claim, joined: Con3 Con4 LedLst Con5 Con6 Acr0 ClmL Shelf Split Parts PaFrz PaPf Code SortFlow Stab0 Pl27 Cash0 Cash1 Acr1 Acr2 Acr3 Acr4 Bk4. -/
import Derived.Test.YtpllcolbcahicaaGreatDoorPk6
import Derived.Shelf.LaysM
import Derived.Shelf.Strconv.Itoa3
import Derived.Shelf.LaysC
import Derived.Shelf.Strconv.AtoiAll
import Derived.Shelf.Strings.Search2
import Derived.Shelf.Strings.Search3
import Derived.Test.YtpllcolbcahicaaGreatDoorProg
import Derived.RangeFuncBox
import Derived.RangeFuncLeaves
import Derived.Shelf.Abstract
import Derived.WalkKit
import Derived.OwnWalkIn
import Derived.TacticsInMore
import Derived.LoopNIn
import Derived.LoopIn
import Derived.Maps.AppendAt
import Derived.Lib.PathFns
import Derived.Lib.IndexLaws
import Derived.Laws.Rows
import Derived.RangeFuncCalls
import Derived.Lib.AppendZerosOnto
import Derived.Lib.Hide
set_option linter.unusedSimpArgs false
set_option linter.unusedVariables false
namespace Go.Proofs.YtpllcolbcahicaaGreatDoor
open Go.PA
open Go.RowKit
def MutOk (mi : Nat) (ki fi se sg : Int) : Prop := (mi = 0 ∧ ki = 1 ∧ fi = 140 ∧ se = 240 ∧ sg = 1) ∨ (mi = 1 ∧ ki = 2 ∧ fi = 440 ∧ se = 540 ∧ sg = -1)
theorem mut_ix : ∀ k : Nat, k < 2 → ∃ ki fi se sg : Int, aixV Tryz.prog 154 (.agg [iv 1, iv 140, iv 240, iv 1, iv 2, iv 440, iv 540, iv (-1)]) (iv (k : Int)) = some (.agg [iv ki, iv fi, iv se, iv sg]) ∧ MutOk k ki fi se sg := fun k hk => by
  have x0 : aixV Tryz.prog 154 (.agg [iv 1, iv 140, iv 240, iv 1, iv 2, iv 440, iv 540, iv (-1)]) (iv ((0 : Nat) : Int)) = some (.agg [iv 1, iv 140, iv 240, iv 1]) := by kernel_rfl
  have x1 : aixV Tryz.prog 154 (.agg [iv 1, iv 140, iv 240, iv 1, iv 2, iv 440, iv 540, iv (-1)]) (iv ((1 : Nat) : Int)) = some (.agg [iv 2, iv 440, iv 540, iv (-1)]) := by kernel_rfl
  match k, hk with
  | 0, _ => exact ⟨1, 140, 240, 1, x0, .inl ⟨rfl, rfl, rfl, rfl, rfl⟩⟩
  | 1, _ => exact ⟨2, 440, 540, -1, x1, .inr ⟨rfl, rfl, rfl, rfl, rfl⟩⟩
def posV (x a r : Int) : Int := if a = 1 ∧ r = 3 then x else 0
def Agreed (l : List TPosting) (day x : Int) : Prop := ∀ (a b r : Int), ((a = 1 ∧ b = 2) ∨ (a = 2 ∧ b = 1)) →
  spotV l day 140 a b r = posV x a r ∧ spotV l day 240 b a r = -(posV x a r) ∧ spotV l day 440 a b r = -(posV x a r) ∧ spotV l day 540 b a r = posV x a r
def KA (K : Nat → Int → Heap → Prop) (x : Int) : Nat → Heap → Prop
  | 0 => K 0 0
  | 1 => K 1 0
  | _ => K 1 x
def DoOk (g : FuncId) (caps : List AV) (row src : Option Nat) (x : Int) (X : List Nat) (K : Nat → Int → Heap → Prop) : Prop :=
  ∀ (mi : Nat) (ki fi se sg a b r S v : Int) (H : Heap), MutOk mi ki fi se sg → K mi S H → (0 ≤ v ∧ v ≤ 1000) → (0 ≤ S ∧ S ≤ 100000) →
    MFun Tryz.prog row src g (.agg [iv ki, iv fi, iv se, iv sg] :: .agg [iv ki, iv a, iv b, iv r, iv 0] :: iv v :: iv v :: caps) H fun q H' => q = .tup [] ∧ K mi (S + v) H' ∧ Kept X H H'
theorem posV_b {x a r : Int} (hx : 0 ≤ x ∧ x ≤ 1000) : 0 ≤ posV x a r ∧ posV x a r ≤ 1000 := by unfold posV; split <;> omega
def sumP (x a : Int) (l : List Int) : Int := (l.map (posV x a)).sum
theorem sumP_b {x a : Int} (hx : 0 ≤ x ∧ x ≤ 1000) : ∀ l : List Int, 0 ≤ sumP x a l ∧ sumP x a l ≤ 1000 * (l.length : Int)
  | [] => by simp [sumP]
  | r :: l => by
    have ih := sumP_b (a := a) hx l
    have := posV_b (a := a) (r := r) hx
    have e : sumP x a (r :: l) = posV x a r + sumP x a l := rfl
    rw [e, List.length_cons]
    omega
theorem sumP_snoc (x a : Int) (l : List Int) (r : Int) : sumP x a (l ++ [r]) = sumP x a l + posV x a r := by simp [sumP]
theorem sumP_refs {x a : Int} {l : List TPosting} (h : (3 : Int) ∈ l.map (·.Ref)) : sumP x a (refsZ l) = if a = 1 then x else 0 := by
  have hs := refsZ_sum l 3 x
  rw [if_pos h] at hs
  by_cases ha : a = 1
  · rw [if_pos ha]
    refine Eq.trans ?_ hs
    unfold sumP sumF posV
    simp only [ha, true_and]
  · rw [if_neg ha]
    unfold sumP posV
    simp only [ha, false_and, if_false]
    induction refsZ l with
    | nil => rfl
    | cons r l ih => simpa using ih
def SB (x : Int) (ai : Nat) : Int := if ai = 0 then 0 else x
def SC (x : Int) (a : Int) (bi : Nat) : Int := if a = 1 ∧ bi ≤ 1 then 0 else x
set_option maxHeartbeats 8000000 in
theorem each_m {row src : Option Nat} {l : List TPosting} {day x : Int} (hck : checkL l = 0) (hll : l.length ≤ 60) (hag : Agreed l day x) (hrf : (3 : Int) ∈ l.map (·.Ref)) (hx : 0 ≤ x ∧ x ≤ 1000) {g : FuncId} {caps : List AV} (hen : enterable Tryz.prog g = true) {X : List Nat} {K : Nat → Int → Heap → Prop}
    (hdo : DoOk g caps row src x X K) {H : Heap} (hX : ∀ i, i ∈ X → i < H.length) (hkk : ∀ mi S H1 H2, K mi S H1 → Kept [] H1 H2 → K mi S H2) (h01 : ∀ H, K 0 x H → K 1 0 H) (h0 : K 0 0 H) (hw : ∃ H', K 1 x H' ∧ Kept X H H') :
    MFun Tryz.prog row src 36 [.agg [postsL l], intsL [1, 2], iv day, .fn g caps] H fun q H' => q = .tup [] ∧ K 1 x H' ∧ Kept X H H' := by
  obtain ⟨C, hC⟩ : ∃ C : AV → Heap → Prop, C = fun q H' => q = .tup [] ∧ K 1 x H' ∧ Kept X H H' := ⟨_, rfl⟩
  rw [← hC]
  have wit : ∃ q H', C q H' := by
    obtain ⟨H', h1, h2⟩ := hw
    rw [hC]
    exact ⟨_, H', rfl, h1, h2⟩
  have sp := spots_pf day hck (by omega)
  have rf := refs_pf (l := l) (by omega)
  have ip := imm_posts l
  have rl : (refsZ l).length ≤ 60 := by have := refsZ_len l; omega
  have rs := fun a => sumP_refs (x := x) (a := a) hrf
  have ndc : ∀ p, p ∈ l → p.Debit ≠ p.Credit := fun p hp => ((checkL_ok hck).2.1 p hp).ne
  have sg4 := fun c e q r => spots_get day l c e q r ndc
  have lk0 : ∀ (H1 : Heap) (c e q r : Int), alookup Tryz.prog 152 H1 (.imap (imG kJ valI (spotsM day l))) (.agg [iv c, iv e, iv q, iv r]) false = some (iv (spotV l day c e q r)) := fun H1 c e q r => by
    rw [← sg4]
    exact alook_imJ (f := valI) sMap (spots_len day l) [c, e, q, r] rfl
  have mx := mut_ix
  obtain ⟨P8, hP8⟩ : ∃ P8, P8 = AV.agg [iv 1, iv 140, iv 240, iv 1, iv 2, iv 440, iv 540, iv (-1)] := ⟨_, rfl⟩
  have mu := mutuals_pf
  have im8 : Imm P8 := by rw [hP8]; simp [imm_agg, imm_sc]
  rw [← hP8] at mx mu
  obtain ⟨G, hG⟩ : ∃ G : List Int, G = [1, 2] := ⟨_, rfl⟩
  have gl : G.length = 2 := by rw [hG]; rfl
  have gat : ∀ k : Nat, k < 2 → G[k]? = some ((k : Int) + 1) := fun k hk => by
    rw [hG]
    have : k = 0 ∨ k = 1 := by omega
    rcases this with rfl | rfl <;> rfl
  obtain ⟨R, hR⟩ : ∃ R, R = refsZ l := ⟨_, rfl⟩
  rw [← hR] at rf rl
  have iR : Imm (intsL R) := imm_intsX R
  obtain ⟨M4, hM4⟩ : ∃ M4, M4 = AV.imap (imG kJ valI (spotsM day l)) := ⟨_, rfl⟩
  have iM : Imm M4 := by rw [hM4]; exact .imap
  rw [← hM4] at sp lk0
  rw [← hG]
  refine mfun_intro Tryz.func36 rfl (by simp [Tryz.f36]) (by kernel_rfl) (wit) ?_
  intro E hP hr hs hN
  simp -dsimp -implicitDefEqProofs [-getElem?_pos, go_sem, hP]
  refine adrawB (fun _ => true) [] hP (by kernel_rfl) (by kernel_rfl) ?_
  simp -dsimp -implicitDefEqProofs [-getElem?_pos, go_sem, hP]
  refine callB_is (rf.lift _ _) hP en_68 (by simp [ip, imm_agg]) iR ?_
  simp -dsimp -implicitDefEqProofs [-getElem?_pos, go_sem, hP]
  refine callB_is (sp.lift _ _) hP en_69 (by simp [ip, imm_agg, imm_sc]) iM ?_
  simp -dsimp -implicitDefEqProofs [-getElem?_pos, go_sem, hP]
  refine callB_is (mu.lift _ _) hP en_70 (by simp) im8 ?_
  simp -dsimp -implicitDefEqProofs [-getElem?_pos, go_sem, hP]
  obtain ⟨IA, hIA⟩ : ∃ I : Nat → St → Prop, I = fun m s => ∃ mi : Nat, mi ≤ 2 ∧ m = 2 - mi ∧ KA K x mi s.H ∧ Kept X H s.H ∧ H.length ≤ s.H.length ∧ s.t 1 = intsL G ∧ s.t 3 = .fn g caps ∧ s.t 8 = intsL R ∧ s.t 9 = M4 ∧ s.t 23 = P8 ∧ s.t 24 = iv mi := ⟨_, rfl⟩
  refine aloop0 IA (2) (by rw [hN]; rfl) ?_ ?_
  · rw [hIA]
    refine ⟨0, by omega, by omega, ?_, ?_, by simp -dsimp -implicitDefEqProofs [-getElem?_pos, go_sem], by simp -dsimp -implicitDefEqProofs [-getElem?_pos, go_sem], by simp -dsimp -implicitDefEqProofs [-getElem?_pos, go_sem], by simp -dsimp -implicitDefEqProofs [-getElem?_pos, go_sem], by simp -dsimp -implicitDefEqProofs [-getElem?_pos, go_sem], by simp -dsimp -implicitDefEqProofs [-getElem?_pos, go_sem], by simp -dsimp -implicitDefEqProofs [-getElem?_pos, go_sem]⟩
    · exact hkk 0 0 _ _ h0 (kept_push _ (kept_refl _ _))
    · exact kept_push _ (kept_refl _ _)
  intro m s hs'
  rw [hIA] at hs'
  obtain ⟨mi, hmi, hmA, kA, kp, hln, t1, t3, t8, t9, t23, t24⟩ := hs'
  simp -dsimp -implicitDefEqProofs [-getElem?_pos, go_sem, hP, t24]
  refine condP (fun hq => ?_) (fun hq => ?_)
  rotate_left
  · have e : mi = 2 := by simp at hq; omega
    subst e
    simp -dsimp -implicitDefEqProofs [-getElem?_pos, go_sem, hP]
    rw [hC]
    exact ⟨rfl, kA, kp⟩
  have hmi2 : mi < 2 := by simp at hq; omega
  obtain ⟨ki, fi, se, sg, hmx, hmut⟩ := mx mi hmi2
  have wmi := wrap_in ((mi : Int) + 1) (by omega)
  have k0 : K mi (SB x 0) s.H := by
    have : mi = 0 ∨ mi = 1 := by omega
    rcases this with rfl | rfl <;> exact kA
  simp -dsimp -implicitDefEqProofs [-getElem?_pos, go_sem, hP, t23, t24, hmx, t1, intsL]
  have kp1 := kept_push (X := []) (some ⟨90, 4, [[iv ki, iv fi, iv se, iv sg]]⟩) (kept_refl [] s.H)
  obtain ⟨IB, hIB⟩ : ∃ I : Nat → St → Prop, I = fun m s => ∃ (ai b : Nat), ai ≤ 2 ∧ m = 2 - ai ∧ K mi (SB x ai) s.H ∧ Kept X H s.H ∧ H.length ≤ b ∧ s.t 1 = intsL G ∧ s.t 3 = .fn g caps ∧ s.t 8 = intsL R ∧ s.t 9 = M4 ∧ s.t 23 = P8 ∧ s.t 24 = iv mi ∧ s.t 11 = .ref b 0 0 ∧ s.t 27 = intsL G ∧ s.t 28 = iv G.length ∧ s.t 29 = iv ai ∧ s.H[b]? = some (some ⟨90, 4, [[iv ki, iv fi, iv se, iv sg]]⟩) := ⟨_, rfl⟩
  refine aloop0 IB (2) (by rw [hN]; rfl) ?_ ?_
  · rw [hIB]
    exact ⟨0, s.H.length, by omega, by omega, hkk _ _ _ _ k0 kp1, kept_push _ kp, hln, by simp -dsimp -implicitDefEqProofs [-getElem?_pos, go_sem, t1], by simp -dsimp -implicitDefEqProofs [-getElem?_pos, go_sem, t3], by simp -dsimp -implicitDefEqProofs [-getElem?_pos, go_sem, t8], by simp -dsimp -implicitDefEqProofs [-getElem?_pos, go_sem, t9], by simp -dsimp -implicitDefEqProofs [-getElem?_pos, go_sem, t23], by simp -dsimp -implicitDefEqProofs [-getElem?_pos, go_sem, t24], by simp -dsimp -implicitDefEqProofs [-getElem?_pos, go_sem], by simp -dsimp -implicitDefEqProofs [-getElem?_pos, go_sem, intsL], by simp -dsimp -implicitDefEqProofs [-getElem?_pos, go_sem], by simp -dsimp -implicitDefEqProofs [-getElem?_pos, go_sem], by simp -dsimp -implicitDefEqProofs [-getElem?_pos, go_sem]⟩
  clear t1 t3 t8 t9 t23 t24 k0 kp1 kp hln kA hmx
  intro m s hs'
  rw [hIB] at hs'
  obtain ⟨ai, b, hai, hmB, kB, kp, hbl, t1, t3, t8, t9, t23, t24, t11, t27, t28, t29, gb⟩ := hs'
  rw [gl] at t28
  simp -dsimp -implicitDefEqProofs [-getElem?_pos, go_sem, hP, t28, t29]
  refine condP (fun hq => ?_) (fun hq => ?_)
  rotate_left
  · have e : ai = 2 := by simp at hq; omega
    subst e
    simp -dsimp -implicitDefEqProofs [-getElem?_pos, go_sem, hP, t24, wmi]
    refine ⟨2 - (mi + 1), by omega, ?_⟩
    rw [hIA]
    refine ⟨mi + 1, by omega, rfl, ?_, kp, ?_, by simp -dsimp -implicitDefEqProofs [-getElem?_pos, go_sem, t1], by simp -dsimp -implicitDefEqProofs [-getElem?_pos, go_sem, t3], by simp -dsimp -implicitDefEqProofs [-getElem?_pos, go_sem, t8], by simp -dsimp -implicitDefEqProofs [-getElem?_pos, go_sem, t9], by simp -dsimp -implicitDefEqProofs [-getElem?_pos, go_sem, t23], by simp -dsimp -implicitDefEqProofs [-getElem?_pos, go_sem]⟩
    · have kB : K mi x s.H := kB
      have : mi = 0 ∨ mi = 1 := by omega
      rcases this with rfl | rfl
      · exact h01 _ kB
      · exact kB
    · have := (List.getElem?_eq_some_iff.1 gb).1
      dsimp only
      omega
  have hai2 : ai < 2 := by simp at hq; omega
  have wai := wrap_in ((ai : Int) + 1) (by omega)
  simp -dsimp -implicitDefEqProofs [-getElem?_pos, go_sem, hP, t27, t29, gat ai hai2, t1, intsL, encI]
  obtain ⟨IC, hIC⟩ : ∃ I : Nat → St → Prop, I = fun m s => ∃ bi : Nat, bi ≤ 2 ∧ m = 2 - bi ∧ K mi (SC x ((ai : Int) + 1) bi) s.H ∧ Kept X H s.H ∧ s.t 1 = intsL G ∧ s.t 3 = .fn g caps ∧ s.t 8 = intsL R ∧ s.t 9 = M4 ∧ s.t 23 = P8 ∧ s.t 24 = iv mi ∧ s.t 11 = .ref b 0 0 ∧ s.t 27 = intsL G ∧ s.t 28 = iv G.length ∧ s.t 29 = iv ai ∧ s.t 13 = iv ((ai : Int) + 1) ∧ s.t 33 = intsL G ∧ s.t 34 = iv G.length ∧ s.t 35 = iv bi ∧ s.H[b]? = some (some ⟨90, 4, [[iv ki, iv fi, iv se, iv sg]]⟩) := ⟨_, rfl⟩
  refine aloop0 IC (2) (by rw [hN]; rfl) ?_ ?_
  · rw [hIC]
    refine ⟨0, by omega, by omega, ?_, kp, by simp -dsimp -implicitDefEqProofs [-getElem?_pos, go_sem, t1, intsL], by simp -dsimp -implicitDefEqProofs [-getElem?_pos, go_sem, t3], by simp -dsimp -implicitDefEqProofs [-getElem?_pos, go_sem, t8], by simp -dsimp -implicitDefEqProofs [-getElem?_pos, go_sem, t9], by simp -dsimp -implicitDefEqProofs [-getElem?_pos, go_sem, t23], by simp -dsimp -implicitDefEqProofs [-getElem?_pos, go_sem, t24], by simp -dsimp -implicitDefEqProofs [-getElem?_pos, go_sem, t11], by simp -dsimp -implicitDefEqProofs [-getElem?_pos, go_sem, t27], by simp -dsimp -implicitDefEqProofs [-getElem?_pos, go_sem, t28, gl], by simp -dsimp -implicitDefEqProofs [-getElem?_pos, go_sem, t29], by simp -dsimp -implicitDefEqProofs [-getElem?_pos, go_sem], by simp -dsimp -implicitDefEqProofs [-getElem?_pos, go_sem, intsL], by simp -dsimp -implicitDefEqProofs [-getElem?_pos, go_sem], by simp -dsimp -implicitDefEqProofs [-getElem?_pos, go_sem], by simp -dsimp -implicitDefEqProofs [-getElem?_pos, go_sem, gb]⟩
    have : ai = 0 ∨ ai = 1 := by omega
    rcases this with rfl | rfl <;> exact kB
  clear t1 t3 t8 t9 t23 t24 t11 t27 t28 t29 gb kB kp
  intro m s hs'
  rw [hIC] at hs'
  obtain ⟨bi, hbi, hmC, kC, kp, t1, t3, t8, t9, t23, t24, t11, t27, t28, t29, t13, t33, t34, t35, gb⟩ := hs'
  have lb := (List.getElem?_eq_some_iff.1 gb).1
  rw [gl] at t34
  simp -dsimp -implicitDefEqProofs [-getElem?_pos, go_sem, hP, t34, t35]
  refine condP (fun hq => ?_) (fun hq => ?_)
  rotate_left
  · have e : bi = 2 := by simp at hq; omega
    subst e
    simp -dsimp -implicitDefEqProofs [-getElem?_pos, go_sem, hP, t29, wai]
    refine ⟨2 - (ai + 1), by omega, ?_⟩
    rw [hIB]
    refine ⟨ai + 1, b, by omega, rfl, ?_, kp, hbl, by simp -dsimp -implicitDefEqProofs [-getElem?_pos, go_sem, t1], by simp -dsimp -implicitDefEqProofs [-getElem?_pos, go_sem, t3], by simp -dsimp -implicitDefEqProofs [-getElem?_pos, go_sem, t8], by simp -dsimp -implicitDefEqProofs [-getElem?_pos, go_sem, t9], by simp -dsimp -implicitDefEqProofs [-getElem?_pos, go_sem, t23], by simp -dsimp -implicitDefEqProofs [-getElem?_pos, go_sem, t24], by simp -dsimp -implicitDefEqProofs [-getElem?_pos, go_sem, t11], by simp -dsimp -implicitDefEqProofs [-getElem?_pos, go_sem, t27], by simp -dsimp -implicitDefEqProofs [-getElem?_pos, go_sem, t28], by simp -dsimp -implicitDefEqProofs [-getElem?_pos, go_sem], by simp -dsimp -implicitDefEqProofs [-getElem?_pos, go_sem, gb]⟩
    have e1 : SC x ((ai : Int) + 1) 2 = x := by unfold SC; rw [if_neg (by omega)]
    rw [e1] at kC
    exact kC
  have hbi2 : bi < 2 := by simp at hq; omega
  have wbi := wrap_in ((bi : Int) + 1) (by omega)
  have nxtC : ∀ s' : St, K mi (SC x ((ai : Int) + 1) (bi + 1)) s'.H → Kept X H s'.H → s'.t 1 = intsL G → s'.t 3 = .fn g caps → s'.t 8 = intsL R → s'.t 9 = M4 → s'.t 23 = P8 → s'.t 24 = iv mi → s'.t 11 = .ref b 0 0 → s'.t 27 = intsL G → s'.t 28 = iv G.length → s'.t 29 = iv ai → s'.t 13 = iv ((ai : Int) + 1) → s'.t 33 = intsL G → s'.t 34 = iv 2 → s'.t 35 = iv ((bi : Int) + 1) → s'.H[b]? = some (some ⟨90, 4, [[iv ki, iv fi, iv se, iv sg]]⟩) → ∃ n', n' < m ∧ IC n' s' := fun s' h1 h2 e1 e3 e8 e9 e23 e24 e11 e27 e28 e29 e13 e33 e34 e35 eb => by
    refine ⟨2 - (bi + 1), by omega, ?_⟩
    rw [hIC]
    exact ⟨bi + 1, by omega, rfl, h1, h2, e1, e3, e8, e9, e23, e24, e11, e27, e28, e29, e13, e33, by rw [e34, gl]; rfl, by rw [e35]; simp, eb⟩
  simp -dsimp -implicitDefEqProofs [-getElem?_pos, go_sem, hP, t33, t35, gat bi hbi2, t13, intsL, encI]
  by_cases hab : ai = bi
  · have d1 : decide ((ai : Int) = (bi : Int)) = true := decide_eq_true (by omega)
    have e1 : SC x ((ai : Int) + 1) (bi + 1) = SC x ((ai : Int) + 1) bi := by
      subst hab
      have : ai = 0 ∨ ai = 1 := by omega
      rcases this with rfl | rfl <;> simp [SC]
    simp -dsimp -implicitDefEqProofs [-getElem?_pos, go_sem, hP, d1, t35, wbi]
    refine nxtC _ ?_ kp (by simp -dsimp -implicitDefEqProofs [-getElem?_pos, go_sem, t1]) (by simp -dsimp -implicitDefEqProofs [-getElem?_pos, go_sem, t3]) (by simp -dsimp -implicitDefEqProofs [-getElem?_pos, go_sem, t8]) (by simp -dsimp -implicitDefEqProofs [-getElem?_pos, go_sem, t9]) (by simp -dsimp -implicitDefEqProofs [-getElem?_pos, go_sem, t23]) (by simp -dsimp -implicitDefEqProofs [-getElem?_pos, go_sem, t24]) (by simp -dsimp -implicitDefEqProofs [-getElem?_pos, go_sem, t11]) (by simp -dsimp -implicitDefEqProofs [-getElem?_pos, go_sem, t27]) (by simp -dsimp -implicitDefEqProofs [-getElem?_pos, go_sem, t28]) (by simp -dsimp -implicitDefEqProofs [-getElem?_pos, go_sem, t29]) (by simp -dsimp -implicitDefEqProofs [-getElem?_pos, go_sem, t13]) (by simp -dsimp -implicitDefEqProofs [-getElem?_pos, go_sem, t33]) (by simp -dsimp -implicitDefEqProofs [-getElem?_pos, go_sem, t34]) (by simp -dsimp -implicitDefEqProofs [-getElem?_pos, go_sem]) (by simp -dsimp -implicitDefEqProofs [-getElem?_pos, go_sem, gb])
    rw [e1]
    exact kC
  have d1 : decide ((ai : Int) = (bi : Int)) = false := decide_eq_false (by omega)
  have hpr : ((ai : Int) + 1 = 1 ∧ (bi : Int) + 1 = 2) ∨ ((ai : Int) + 1 = 2 ∧ (bi : Int) + 1 = 1) := by omega
  have e1 : SC x ((ai : Int) + 1) bi + (if (ai : Int) + 1 = 1 then x else 0) = SC x ((ai : Int) + 1) (bi + 1) := by
    unfold SC
    rcases hpr with ⟨h1, h2⟩ | ⟨h1, h2⟩
    · rw [if_pos ⟨h1, by omega⟩, if_pos h1, if_neg (by omega)]; omega
    · rw [if_neg (by omega), if_neg (by omega), if_neg (by omega)]; omega
  have rs1 := rs ((ai : Int) + 1)
  rw [← hR] at rs1
  have S0b : 0 ≤ SC x ((ai : Int) + 1) bi ∧ SC x ((ai : Int) + 1) bi ≤ 1000 := by unfold SC; split <;> omega
  have av := hag ((ai : Int) + 1) ((bi : Int) + 1)
  obtain ⟨S0, hS0⟩ : ∃ S0, S0 = SC x ((ai : Int) + 1) bi := ⟨_, rfl⟩
  rw [← hS0] at e1 kC S0b
  obtain ⟨aa, haa⟩ : ∃ aa : Int, aa = (ai : Int) + 1 := ⟨_, rfl⟩
  obtain ⟨bb, hbb⟩ : ∃ bb : Int, bb = (bi : Int) + 1 := ⟨_, rfl⟩
  rw [← haa] at t13 rs1 av hpr nxtC e1
  rw [← hbb] at av hpr
  simp -dsimp -implicitDefEqProofs [-getElem?_pos, go_sem, hP, d1, t8, intsL, ← hbb]
  have pb := fun k => sumP_b (a := aa) hx (R.take k)
  have ptk : ∀ k, k ≤ R.length → (R.take k).length ≤ 60 := fun k hk => by simp; omega
  obtain ⟨ID, hID⟩ : ∃ I : Nat → St → Prop, I = fun m s => ∃ k : Nat, k ≤ R.length ∧ m = R.length - k ∧ K mi (S0 + sumP x aa (R.take k)) s.H ∧ Kept X H s.H ∧ s.t 1 = intsL G ∧ s.t 3 = .fn g caps ∧ s.t 8 = intsL R ∧ s.t 9 = M4 ∧ s.t 23 = P8 ∧ s.t 24 = iv mi ∧ s.t 11 = .ref b 0 0 ∧ s.t 27 = intsL G ∧ s.t 28 = iv G.length ∧ s.t 29 = iv ai ∧ s.t 13 = iv aa ∧ s.t 33 = intsL G ∧ s.t 34 = iv 2 ∧ s.t 35 = iv bi ∧ s.H[b]? = some (some ⟨90, 4, [[iv ki, iv fi, iv se, iv sg]]⟩) ∧ s.t 15 = iv bb ∧ s.t 42 = intsL R ∧ s.t 43 = iv R.length ∧ s.t 44 = iv k := ⟨_, rfl⟩
  refine aloop0 ID (R.length) (by rw [hN]; rfl) ?_ ?_
  · rw [hID]
    exact ⟨0, by omega, by omega, by simpa [sumP] using kC, kp, by simp -dsimp -implicitDefEqProofs [-getElem?_pos, go_sem, t1], by simp -dsimp -implicitDefEqProofs [-getElem?_pos, go_sem, t3], by simp -dsimp -implicitDefEqProofs [-getElem?_pos, go_sem, t8], by simp -dsimp -implicitDefEqProofs [-getElem?_pos, go_sem, t9], by simp -dsimp -implicitDefEqProofs [-getElem?_pos, go_sem, t23], by simp -dsimp -implicitDefEqProofs [-getElem?_pos, go_sem, t24], by simp -dsimp -implicitDefEqProofs [-getElem?_pos, go_sem, t11], by simp -dsimp -implicitDefEqProofs [-getElem?_pos, go_sem, t27], by simp -dsimp -implicitDefEqProofs [-getElem?_pos, go_sem, t28], by simp -dsimp -implicitDefEqProofs [-getElem?_pos, go_sem, t29], by simp -dsimp -implicitDefEqProofs [-getElem?_pos, go_sem, t13], by simp -dsimp -implicitDefEqProofs [-getElem?_pos, go_sem, t33], by simp -dsimp -implicitDefEqProofs [-getElem?_pos, go_sem, t34], by simp -dsimp -implicitDefEqProofs [-getElem?_pos, go_sem, t35], by simp -dsimp -implicitDefEqProofs [-getElem?_pos, go_sem, gb], by simp -dsimp -implicitDefEqProofs [-getElem?_pos, go_sem, hbb], by simp -dsimp -implicitDefEqProofs [-getElem?_pos, go_sem, intsL], by simp -dsimp -implicitDefEqProofs [-getElem?_pos, go_sem], by simp -dsimp -implicitDefEqProofs [-getElem?_pos, go_sem]⟩
  clear t1 t3 t8 t9 t23 t24 t11 t27 t28 t29 t13 t33 t34 t35 gb lb kC kp
  intro m s hs'
  rw [hID] at hs'
  obtain ⟨k, hk, hmD, kD, kp, t1, t3, t8, t9, t23, t24, t11, t27, t28, t29, t13, t33, t34, t35, gb, t15, t42, t43, t44⟩ := hs'
  have lb := (List.getElem?_eq_some_iff.1 gb).1
  simp -dsimp -implicitDefEqProofs [-getElem?_pos, go_sem, hP, t43, t44]
  refine condP (fun hq => ?_) (fun hq => ?_)
  rotate_left
  · have e : k = R.length := by simp at hq; omega
    subst e
    rw [List.take_length, rs1, e1] at kD
    simp -dsimp -implicitDefEqProofs [-getElem?_pos, go_sem, hP, t35, wbi]
    exact nxtC _ kD kp (by simp -dsimp -implicitDefEqProofs [-getElem?_pos, go_sem, t1]) (by simp -dsimp -implicitDefEqProofs [-getElem?_pos, go_sem, t3]) (by simp -dsimp -implicitDefEqProofs [-getElem?_pos, go_sem, t8]) (by simp -dsimp -implicitDefEqProofs [-getElem?_pos, go_sem, t9]) (by simp -dsimp -implicitDefEqProofs [-getElem?_pos, go_sem, t23]) (by simp -dsimp -implicitDefEqProofs [-getElem?_pos, go_sem, t24]) (by simp -dsimp -implicitDefEqProofs [-getElem?_pos, go_sem, t11]) (by simp -dsimp -implicitDefEqProofs [-getElem?_pos, go_sem, t27]) (by simp -dsimp -implicitDefEqProofs [-getElem?_pos, go_sem, t28]) (by simp -dsimp -implicitDefEqProofs [-getElem?_pos, go_sem, t29]) (by simp -dsimp -implicitDefEqProofs [-getElem?_pos, go_sem, t13]) (by simp -dsimp -implicitDefEqProofs [-getElem?_pos, go_sem, t33]) (by simp -dsimp -implicitDefEqProofs [-getElem?_pos, go_sem, t34]) (by simp -dsimp -implicitDefEqProofs [-getElem?_pos, go_sem]) (by simp -dsimp -implicitDefEqProofs [-getElem?_pos, go_sem, gb])
  have hk2 : k < R.length := by simpa using hq
  obtain ⟨r, hr3⟩ : ∃ r, R[k]? = some r := ⟨_, List.getElem?_eq_getElem hk2⟩
  have wk := wrap_in ((k : Int) + 1) (by omega)
  have et : sumP x aa (R.take (k + 1)) = sumP x aa (R.take k) + posV x aa r := by rw [List.take_add_one, hr3]; exact sumP_snoc _ _ _ _
  have pvb := posV_b (a := aa) (r := r) hx
  have pbk := pb k
  have ptk1 := ptk k hk
  obtain ⟨v1, v2, v3, v4⟩ := av r hpr
  obtain ⟨v, hv⟩ : ∃ v, v = posV x aa r := ⟨_, rfl⟩
  rw [← hv] at v1 v2 v3 v4 et pvb
  obtain ⟨w1, w2, w3⟩ : IntKind.i64.wrap (sg * spotV l day fi aa bb r) = v ∧ IntKind.i64.wrap (-sg) = -sg ∧ IntKind.i64.wrap (-sg * spotV l day se bb aa r) = v := by
    rcases hmut with ⟨_, _, rfl, rfl, rfl⟩ | ⟨_, _, rfl, rfl, rfl⟩
    · rw [v1, v2, wrap_in _ (by omega), wrap_in _ (by omega), wrap_in _ (by omega)]; omega
    · rw [v3, v4, wrap_in _ (by omega), wrap_in _ (by omega), wrap_in _ (by omega)]; omega
  simp -dsimp -implicitDefEqProofs [-getElem?_pos, go_sem, hP, t42, t44, hr3, intsL, encI]
  refine adrawB (fun _ => true) [31] hP (by kernel_rfl) (by kernel_rfl) ?_
  simp -dsimp -implicitDefEqProofs [-getElem?_pos, go_sem, hP, t11, gb, lb, t3, t9, t13, t15, lk0, w1, w2, w3]
  refine callB_m (by rw [hr, hs]; exact hdo mi ki fi se sg aa bb r _ v _ hmut kD pvb (by omega)) hP hen ?_
  rintro q H1 ⟨rfl, kE, kq⟩
  have gb2 := kq b _ (fun hi => by have := hX b hi; omega) gb
  simp -dsimp -implicitDefEqProofs [-getElem?_pos, go_sem, hP, t44, wk]
  refine ⟨R.length - (k + 1), by omega, ?_⟩
  rw [hID]
  exact ⟨k + 1, by omega, rfl, by rw [et, ← Int.add_assoc]; exact kE, kp.trans kq, by simp -dsimp -implicitDefEqProofs [-getElem?_pos, go_sem, t1], by simp -dsimp -implicitDefEqProofs [-getElem?_pos, go_sem, t3], by simp -dsimp -implicitDefEqProofs [-getElem?_pos, go_sem, t8], by simp -dsimp -implicitDefEqProofs [-getElem?_pos, go_sem, t9], by simp -dsimp -implicitDefEqProofs [-getElem?_pos, go_sem, t23], by simp -dsimp -implicitDefEqProofs [-getElem?_pos, go_sem, t24], by simp -dsimp -implicitDefEqProofs [-getElem?_pos, go_sem, t11], by simp -dsimp -implicitDefEqProofs [-getElem?_pos, go_sem, t27], by simp -dsimp -implicitDefEqProofs [-getElem?_pos, go_sem, t28], by simp -dsimp -implicitDefEqProofs [-getElem?_pos, go_sem, t29], by simp -dsimp -implicitDefEqProofs [-getElem?_pos, go_sem, t13], by simp -dsimp -implicitDefEqProofs [-getElem?_pos, go_sem, t33], by simp -dsimp -implicitDefEqProofs [-getElem?_pos, go_sem, t34], by simp -dsimp -implicitDefEqProofs [-getElem?_pos, go_sem, t35], by simp -dsimp -implicitDefEqProofs [-getElem?_pos, go_sem, gb2], by simp -dsimp -implicitDefEqProofs [-getElem?_pos, go_sem, t15], by simp -dsimp -implicitDefEqProofs [-getElem?_pos, go_sem, t42], by simp -dsimp -implicitDefEqProofs [-getElem?_pos, go_sem, t43], by simp -dsimp -implicitDefEqProofs [-getElem?_pos, go_sem]⟩
open Go.PA
open Go.RowKit
theorem expl1_ok (x : Int) (row src : Option Nat) (o : Nat) : DoOk 66 [.ref o 0 0] row src x [] (fun _ _ H => H[o]? = some (some ⟨49, 1, [[.nil]]⟩)) := by
  intro mi ki fi se sg a b r S v H hm hK hv hS
  refine mfun_intro Tryz.func66 rfl (by simp [Tryz.f66]) (by kernel_rfl) (⟨_, H, rfl, hK, kept_refl _ _⟩) ?_
  intro E hP hr hs hN
  have lo := (List.getElem?_eq_some_iff.1 hK).1
  have w1 := wrap_in (v - v) (by omega)
  rw [Int.sub_self] at w1
  simp -dsimp -implicitDefEqProofs [-getElem?_pos, go_sem, hP, Int.sub_self, w1]
  exact ⟨by simp -dsimp -implicitDefEqProofs [-getElem?_pos, go_sem, List.getElem?_append_left lo, hK], by first | exact kept_app _ _ _ | (simp -dsimp -implicitDefEqProofs [-getElem?_pos, go_sem]; exact kept_app _ _ _)⟩
set_option maxHeartbeats 1000000 in
theorem explain_pf {l : List TPosting} {day x : Int} (hck : checkL l = 0) (hll : l.length ≤ 60) (hd : 0 ≤ day ∧ day ≤ 36000) (hag : Agreed l day x) (hrf : (3 : Int) ∈ l.map (·.Ref)) (hx : 0 ≤ x ∧ x ≤ 1000) :
    PFun Tryz.prog none none 32 [.agg [postsL l], intsL [1, 2], iv day] (· = .tup [.list 5 [], iv 0]) := by
  refine pfun_intro Tryz.func32 rfl (by simp [Tryz.f32]) (by kernel_rfl) ?_
  intro E hP hr hs hW hN
  have ck := concheck2_pf hck (by omega : l.length ≤ 400) hd
  have ip := imm_posts l
  have ig : Imm (intsL [1, 2]) := imm_intsX _
  have ea := fun H h0 hw => each_m (row := E.row) (src := E.src) (H := H) (X := []) (day := day) (g := 66) (caps := [.ref 1 0 0]) hck hll hag hrf hx en_66 (expl1_ok x E.row E.src 1) (by simp) (fun mi S H1 H2 h hk => hk _ _ (by simp) h) (fun H h => h) h0 hw
  obtain ⟨G, hG⟩ : ∃ G, G = intsL [1, 2] := ⟨_, rfl⟩
  rw [← hG] at ck ig ea ⊢
  simp -dsimp -implicitDefEqProofs [-getElem?_pos, go_sem, hP]
  refine callB_is (ck.lift _ _) hP en_65 (by simp [ip, ig, imm_agg, imm_sc]) .sc ?_
  simp -dsimp -implicitDefEqProofs [-getElem?_pos, go_sem, hP]
  refine callB_m (ea _ (by simp) ⟨_, by simp, kept_refl _ _⟩) hP en_36 ?_
  rintro q H1 ⟨rfl, h1, _⟩
  have l1 := (List.getElem?_eq_some_iff.1 h1).1
  simp -dsimp -implicitDefEqProofs [-getElem?_pos, go_sem, hP, h1, l1]
  exact done_nil2 5 rfl
theorem whole1_m {row src : Option Nat} {H : Heap} {gi di : Nat} {day : Int} (p : TPosting) (hg : H[gi]? = some (some ⟨22, 1, [[intsL [1, 2]]]⟩)) (hd : H[di]? = some (some ⟨3, 1, [[iv day]]⟩)) :
    MFun Tryz.prog row src 34 [.agg p.cells, .ref gi 0 0, .ref di 0 0] H fun r H' => r = bv (grpB day p) ∧ Kept [] H H' := by
  obtain ⟨w, hw⟩ : ∃ w, w = grpB day p := ⟨_, rfl⟩
  rw [← hw]
  refine mfun_intro Tryz.func34 rfl (by simp [Tryz.f34]) (by kernel_rfl) (⟨_, H, rfl, kept_refl _ _⟩) ?_
  intro E hP hr hs hN
  have ci := hasInt_pf [1, 2] p.Entity (by simp)
  have ig : Imm (intsL [1, 2]) := imm_intsX _
  have lg := (List.getElem?_eq_some_iff.1 hg).1
  have ld := (List.getElem?_eq_some_iff.1 hd).1
  have e0 : decide (p.Entity ∈ ([1, 2] : List Int)) = (decide (p.Entity = 1) || decide (p.Entity = 2)) := by
    rw [Bool.eq_iff_iff]
    simp
  rw [e0] at ci
  have hw : w = ((decide (p.Entity = 1) || decide (p.Entity = 2)) && decide (p.Day ≤ day)) := hw
  obtain ⟨G, hG⟩ : ∃ G, G = intsL [1, 2] := ⟨_, rfl⟩
  rw [← hG] at ci ig hg
  obtain ⟨b, hb⟩ : ∃ b, b = (decide (p.Entity = 1) || decide (p.Entity = 2)) := ⟨_, rfl⟩
  rw [← hb] at ci hw
  simp -dsimp -implicitDefEqProofs [-getElem?_pos, go_sem, hP, cP, hg, hd, lg, ld]
  refine callB_is (ci.lift _ _) hP en_35 (by simp [ig, imm_sc]) .sc ?_
  cases b
  · simp -dsimp -implicitDefEqProofs [-getElem?_pos, go_sem, hP, hw, hg, hd, lg, ld]
    exact kept_push _ (kept_refl _ _)
  · simp -dsimp -implicitDefEqProofs [-getElem?_pos, go_sem, hP, hw, hg, hd, lg, ld]
    exact kept_push _ (kept_refl _ _)
set_option maxHeartbeats 2000000 in
theorem wbooks_m {row src : Option Nat} {l : List TPosting} {day : Int} (hl : FineL l) (H : Heap) {gi di : Nat} (hg : H[gi]? = some (some ⟨22, 1, [[intsL [1, 2]]]⟩)) (hd : H[di]? = some (some ⟨3, 1, [[iv day]]⟩)) :
    MFun Tryz.prog row src 33 [postsL l, .fn 34 [.ref gi 0 0, .ref di 0 0]] H fun r H' => ∃ id, r = .mref id ∧ H.length ≤ id ∧ H'[id]? = some (some ⟨0, 2, encK valI (books (grpB day) l)⟩) ∧ Kept [] H H' := by
  obtain ⟨C, hC⟩ : ∃ C : AV → Heap → Prop, C = fun r H' => ∃ id, r = .mref id ∧ H.length ≤ id ∧ H'[id]? = some (some ⟨0, 2, encK valI (books (grpB day) l)⟩) ∧ Kept [] H H' := ⟨_, rfl⟩
  rw [← hC]
  have wit : ∃ q H', C q H' := by
    rw [hC]
    exact ⟨_, H ++ [some ⟨0, 2, encK valI (books (grpB day) l)⟩], H.length, rfl, Nat.le_refl _, by simp, kept_app _ _ _⟩
  have ip := imm_posts l
  have w1m := fun (H' : Heap) (h1 : H'[gi]? = some (some ⟨22, 1, [[intsL [1, 2]]]⟩)) (h2 : H'[di]? = some (some ⟨3, 1, [[iv day]]⟩)) p => whole1_m (row := row) (src := src) p h1 h2
  obtain ⟨f, hf⟩ : ∃ f, f = grpB day := ⟨_, rfl⟩
  obtain ⟨h1, h2⟩ := hl
  rw [← hf] at hC w1m
  refine mfun_intro Tryz.func33 rfl (by simp [Tryz.f33]) (by kernel_rfl) (wit) ?_
  intro E hP hr hs hN
  obtain ⟨N, hN0⟩ : ∃ N, N = H.length := ⟨_, rfl⟩
  simp -dsimp -implicitDefEqProofs [-getElem?_pos, go_sem, hP, ← hN0]
  obtain ⟨I, hI⟩ : ∃ I : Nat → St → Prop, I = fun m s => ∃ k : Nat, k ≤ l.length ∧ m = l.length - k ∧ s.t 1 = .fn 34 [.ref gi 0 0, .ref di 0 0] ∧ s.t 5 = .mref N ∧ s.t 9 = postsL l ∧ s.t 10 = iv l.length ∧ s.t 11 = iv k ∧ s.H[N]? = some (some ⟨0, 2, encK valI (books f (l.take k))⟩) ∧ Kept [] H s.H := ⟨_, rfl⟩
  refine aloop0 I (l.length) (by rw [hN]; rfl) ?_ ?_
  · rw [hI]
    exact ⟨0, by omega, by omega, by simp -dsimp -implicitDefEqProofs [-getElem?_pos, go_sem], by simp -dsimp -implicitDefEqProofs [-getElem?_pos, go_sem], by simp -dsimp -implicitDefEqProofs [-getElem?_pos, go_sem], by simp -dsimp -implicitDefEqProofs [-getElem?_pos, go_sem], by simp -dsimp -implicitDefEqProofs [-getElem?_pos, go_sem], by simp -dsimp -implicitDefEqProofs [-getElem?_pos, go_sem, List.take_zero, hN0]; rfl, by simp -dsimp -implicitDefEqProofs [-getElem?_pos, go_sem]; exact kept_app _ _ _⟩
  intro m s hs'
  rw [hI] at hs'
  obtain ⟨k, hk, hm, t1, t5, t9, t10, t11, hH, kp⟩ := hs'
  have hlt := (List.getElem?_eq_some_iff.1 hH).1
  simp -dsimp -implicitDefEqProofs [-getElem?_pos, go_sem, hP, t10, t11]
  refine condP (fun h => ?_) (fun h => ?_)
  · have hk : k < l.length := by simpa using h
    obtain ⟨p, hp⟩ : ∃ p, l[k]? = some p := ⟨_, List.getElem?_eq_getElem hk⟩
    have hfp := h1 p (List.mem_of_getElem? hp)
    have wk := wrap_in ((k : Int) + 1) (by omega)
    have nx : books f (l.take (k + 1)) = if f p = true then bookP (books f (l.take k)) p else books f (l.take k) := by rw [List.take_add_one, hp]; exact books_snoc _ _ _
    have hab := books_abs f (l.take k) fun q hq => h1 q (List.mem_of_mem_take hq)
    have hlen : (l.take k).length = k := by simp; omega
    rw [hlen] at hab
    generalize books f (l.take k) = M at nx hab hH
    have hamt := hfp.amt
    have b1 := getZ_abs M p.Debit
    have b2 := absM_put p.Debit p.Amount M
    rw [if_neg (by omega)] at b2
    have w1 := wrap_in (getZ M p.Debit + p.Amount) (by omega)
    obtain ⟨M1, hM1⟩ : ∃ M1, M1 = putM M p.Debit (getZ M p.Debit + p.Amount) := ⟨_, rfl⟩
    have b3 := getZ_abs M1 p.Credit
    rw [← hM1] at b2
    have w2 : IntKind.i64.wrap (getZ M1 p.Credit - p.Amount) = getZ M1 p.Credit + -p.Amount := by rw [wrap_in _ (by omega)]; omega
    have nx1 : bookP M p = putM M1 p.Credit (getZ M1 p.Credit + -p.Amount) := by rw [bookP, ← hM1]
    simp -dsimp -implicitDefEqProofs [-getElem?_pos, go_sem, hP, t9, t11, t1, hp, cP]
    obtain ⟨P, hP0⟩ : ∃ P, P = s.H.length := ⟨_, rfl⟩
    obtain ⟨H1, hH1⟩ : ∃ H1 : Heap, H1 = s.H ++ [some ⟨36, 8, [[iv p.Number, iv p.Day, iv p.Entity, iv p.Debit, iv p.Credit, iv p.Amount, iv p.Partner, iv p.Ref]]⟩] := ⟨_, rfl⟩
    have gP : H1[P]? = some (some ⟨36, 8, [[iv p.Number, iv p.Day, iv p.Entity, iv p.Debit, iv p.Credit, iv p.Amount, iv p.Partner, iv p.Ref]]⟩) := by rw [hH1, hP0]; simp
    have k1 : Kept [] s.H H1 := by rw [hH1]; exact kept_push _ (kept_refl _ _)
    have kp1 := kp.trans k1
    have gM := k1 _ _ (by simp) hH
    have cm := w1m H1 (kp1 _ _ (by simp) hg) (kp1 _ _ (by simp) hd) p
    rw [cP] at cm
    rw [← hH1, ← hP0]
    have lP := (List.getElem?_eq_some_iff.1 gP).1
    try simp -dsimp -implicitDefEqProofs [-getElem?_pos, go_sem, hP, gP, lP]
    refine callB_m (by rw [hr, hs]; exact cm) hP en_34 ?_
    rintro q H2 ⟨rfl, k2⟩
    have gP := k2 _ _ (by simp) gP
    have gM := k2 _ _ (by simp) gM
    have lP := (List.getElem?_eq_some_iff.1 gP).1
    have lM := (List.getElem?_eq_some_iff.1 gM).1
    have kp2 := kp1.trans k2
    have nP : ¬ N = P := by omega
    clear kp1 k1 k2 hH1 cm
    cases hc : f p
    · rw [hc, if_neg (by simp)] at nx
      simp -dsimp -implicitDefEqProofs [-getElem?_pos, go_sem, hP, t11, wk]
      refine ⟨l.length - (k + 1), by omega, ?_⟩
      rw [hI]
      exact ⟨k + 1, by omega, rfl, by simp -dsimp -implicitDefEqProofs [-getElem?_pos, go_sem, t1], by simp -dsimp -implicitDefEqProofs [-getElem?_pos, go_sem, t5], by simp -dsimp -implicitDefEqProofs [-getElem?_pos, go_sem, t9], by simp -dsimp -implicitDefEqProofs [-getElem?_pos, go_sem, t10], by simp -dsimp -implicitDefEqProofs [-getElem?_pos, go_sem], by rw [nx]; simp -dsimp -implicitDefEqProofs [-getElem?_pos, go_sem, gM], kp2⟩
    · rw [hc, if_pos rfl, nx1] at nx
      simp -dsimp -implicitDefEqProofs [-getElem?_pos, go_sem, hP, t11, t5, wk, gP, lP, gM, lM, w1, ← hM1, w2, List.getElem?_set_self, List.getElem?_set_ne, nP, List.length_set, List.set_set]
      refine ⟨l.length - (k + 1), by omega, ?_⟩
      rw [hI]
      exact ⟨k + 1, by omega, rfl, by simp -dsimp -implicitDefEqProofs [-getElem?_pos, go_sem, t1], by simp -dsimp -implicitDefEqProofs [-getElem?_pos, go_sem, t5], by simp -dsimp -implicitDefEqProofs [-getElem?_pos, go_sem, t9], by simp -dsimp -implicitDefEqProofs [-getElem?_pos, go_sem, t10], by simp -dsimp -implicitDefEqProofs [-getElem?_pos, go_sem], by rw [nx]; simp -dsimp -implicitDefEqProofs [-getElem?_pos, go_sem, List.getElem?_set_self, lM, List.set_set], by first | exact kept_new _ (by omega) kp2 | exact kept_new _ (by omega) (kept_new _ (by omega) kp2)⟩
  · have hk : k = l.length := by simp at h; omega
    subst hk
    rw [List.take_length] at hH
    simp -dsimp -implicitDefEqProofs [-getElem?_pos, go_sem, hP, t5]
    rw [hC]
    exact ⟨N, rfl, by omega, hH, kp⟩
open Go.PA
open Go.RowKit
def listG (g : Int → Int) (from_ : Nat) : Nat → List TBalance
  | 0 => []
  | n + 1 => listG g from_ n ++ (if g ((from_ + n : Nat) : Int) = 0 then [] else [⟨((from_ + n : Nat) : Int), g ((from_ + n : Nat) : Int)⟩])
abbrev listM (m : List (Int × Int)) (n : Nat) : List TBalance := listG (getZ m) 0 n
theorem listG_len (g : Int → Int) (k : Nat) : ∀ n : Nat, (listG g k n).length ≤ n
  | 0 => by simp [listG]
  | n + 1 => by
    have := listG_len g k n
    simp only [listG, List.length_append]
    split <;> simp <;> omega
theorem cB (b : TBalance) : b.cells = [iv b.Account, iv b.Amount] := rfl
abbrev balsL (l : List TBalance) : AV := .list 2 (encL TBalance.cells l)
theorem imm_bals (l : List TBalance) : Imm (balsL l) := imm_encL _ TBalance.imm _
theorem list_pf (M : List (Int × Int)) : PFun Tryz.prog none none 38 [.imap (imK valI M)] (· = balsL (listM M 600)) := by
  refine pfun_intro Tryz.func38 rfl (by simp [Tryz.f38]) (by kernel_rfl) ?_
  intro E hP hr hs hW hN
  simp -dsimp -implicitDefEqProofs [-getElem?_pos, go_sem, hP]
  refine aloop_own 3 55 2 (by simp -dsimp -implicitDefEqProofs [-getElem?_pos, go_sem]) ?_
  obtain ⟨I, hI⟩ : ∃ I : Nat → St → Prop, I = fun m s => ∃ k id : Nat, k ≤ 600 ∧ m = 600 - k ∧ s.t 0 = .imap (imK valI M) ∧ s.t 5 = iv k ∧ s.t 3 = .sref id 0 (listM M k).length ∧ s.H[id]? = some (some ⟨55, 2, encL TBalance.cells (listM M k)⟩) := ⟨_, rfl⟩
  refine aloopF 3 hW I (600) (by rw [hN]; rfl) ?_ ?_
  · rw [hI]
    exact ⟨0, 0, by omega, by omega, by simp -dsimp -implicitDefEqProofs [-getElem?_pos, go_sem], by simp -dsimp -implicitDefEqProofs [-getElem?_pos, go_sem], by simp -dsimp -implicitDefEqProofs [-getElem?_pos, go_sem, listM, listG], by simp -dsimp -implicitDefEqProofs [-getElem?_pos, go_sem, listM, listG]⟩
  intro m s hs'
  rw [hI] at hs'
  obtain ⟨k, id, hk, hm, t0, t5, t3, hH⟩ := hs'
  have hlt := (List.getElem?_eq_some_iff.1 hH).1
  have hll : (listM M k).length ≤ k := listG_len (getZ M) 0 k
  simp -dsimp -implicitDefEqProofs [-getElem?_pos, go_sem, hP, t5]
  refine condP (fun h => ?_) (fun h => ?_)
  · have hk : k < 600 := by simp at h; omega
    have wk := wrap_in ((k : Int) + 1) (by omega)
    have nx : listM M (k + 1) = listM M k ++ (if getZ M k = 0 then [] else [⟨(k : Int), getZ M k⟩]) := by simp [listM, listG]
    by_cases hz : getZ M k = 0
    · rw [if_pos hz, List.append_nil] at nx
      have d : decide (getZ M k = 0) = true := decide_eq_true hz
      simp -dsimp -implicitDefEqProofs [-getElem?_pos, go_sem, hP, t5, t0, d, hz, wk]
      refine ⟨600 - (k + 1), by omega, ?_⟩
      rw [hI]
      exact ⟨k + 1, id, by omega, rfl, by simp -dsimp -implicitDefEqProofs [-getElem?_pos, go_sem, t0], by simp -dsimp -implicitDefEqProofs [-getElem?_pos, go_sem], by rw [nx]; simp -dsimp -implicitDefEqProofs [-getElem?_pos, go_sem, t3], by rw [nx]; simp -dsimp -implicitDefEqProofs [-getElem?_pos, go_sem, hH]⟩
    · rw [if_neg hz] at nx
      have d : decide (getZ M k = 0) = false := decide_eq_false hz
      simp -dsimp -implicitDefEqProofs [-getElem?_pos, go_sem, hP, t5, t0, d, wk, t3, hH]
      refine ⟨by omega, by omega, ?_⟩
      refine ⟨600 - (k + 1), by omega, ?_⟩
      rw [hI]
      exact ⟨k + 1, s.H.length, by omega, rfl, by simp -dsimp -implicitDefEqProofs [-getElem?_pos, go_sem, t0], by simp -dsimp -implicitDefEqProofs [-getElem?_pos, go_sem], by rw [nx]; simp -dsimp -implicitDefEqProofs [-getElem?_pos, go_sem], by rw [nx, ← encL_snoc]; simp -dsimp -implicitDefEqProofs [-getElem?_pos, go_sem, cB]⟩
  · have hk : k = 600 := by simp at h; omega
    subst hk
    refine frz id _ 55 2 (encL TBalance.cells (listM M 600)) t3 hH (by rw [encL_len]) (imm_bals _) ?_
    simp -dsimp -implicitDefEqProofs [-getElem?_pos, go_sem, hP]
    exact done_imm (imm_bals _) rfl
open Go.PA
open Go.RowKit
def WK (l : List TPosting) (day x : Int) (bc bm bo : Nat) (mi : Nat) (S : Int) (H : Heap) : Prop :=
  ∃ M : List (Int × Int), (∀ a, getZ M a = bal (grpB day) l a + elimG (if mi = 0 then S else x) (if mi = 0 then 0 else S) a) ∧ H[bc]? = some (some ⟨85, 1, [[.mref bm]]⟩) ∧ H[bm]? = some (some ⟨0, 2, encK valI M⟩) ∧ H[bo]? = some (some ⟨51, 3, [[.nil, iv (if mi = 0 then S else x + S), .list 5 []]]⟩)
theorem elimG_step (mi : Nat) (ki fi se sg x S v : Int) (h : MutOk mi ki fi se sg) (a : Int) : elimG (if mi = 0 then S + v else x) (if mi = 0 then 0 else S + v) a = elimG (if mi = 0 then S else x) (if mi = 0 then 0 else S) a + ((if a = fi then -(sg * v) else 0) + (if a = se then sg * v else 0)) := by
  unfold elimG
  rcases h with ⟨rfl, rfl, rfl, rfl, rfl⟩ | ⟨rfl, rfl, rfl, rfl, rfl⟩
  · simp only [if_true, eq_comm (a := a)]
    split <;> split <;> split <;> split <;> omega
  · simp only [Nat.succ_ne_zero, if_false, eq_comm (a := a)]
    split <;> split <;> split <;> split <;> omega
theorem elimG_b {u v : Int} (hu : 0 ≤ u ∧ u ≤ 1000000) (hv : 0 ≤ v ∧ v ≤ 1000000) (a : Int) : -4000000 ≤ elimG u v a ∧ elimG u v a ≤ 4000000 := by
  unfold elimG
  split <;> split <;> split <;> split <;> omega
set_option maxHeartbeats 2000000 in
theorem whole2_ok {l : List TPosting} {day x : Int} (hx : 0 ≤ x ∧ x ≤ 1000) (hck : checkL l = 0) (row src : Option Nat) (bc bm bo : Nat) (n1 : ¬ bc = bm) (n2 : ¬ bc = bo) (n3 : ¬ bm = bo) : DoOk 37 [.ref bc 0 0, .ref bo 0 0] row src x [bm, bo] (WK l day x bc bm bo) := by
  intro mi ki fi se sg a b r S v H hm hK hv hS
  obtain ⟨C, hC⟩ : ∃ C : AV → Heap → Prop, C = fun q H' => q = .tup [] ∧ WK l day x bc bm bo mi (S + v) H' ∧ Kept [bm, bo] H H' := ⟨_, rfl⟩
  rw [← hC]
  obtain ⟨M, hM, hc, hmm, ho⟩ := hK
  obtain ⟨e0, hE⟩ : ∃ e0, e0 = if mi = 0 then S else x + S := ⟨_, rfl⟩
  rw [← hE] at ho
  have lc := (List.getElem?_eq_some_iff.1 hc).1
  have lm := (List.getElem?_eq_some_iff.1 hmm).1
  have lo := (List.getElem?_eq_some_iff.1 ho).1
  have hfs : ¬ fi = se := by rcases hm with ⟨_, _, rfl, rfl, _⟩ | ⟨_, _, rfl, rfl, _⟩ <;> omega
  have hsg : sg = 1 ∨ sg = -1 := by rcases hm with ⟨_, _, _, _, rfl⟩ | ⟨_, _, _, _, rfl⟩ <;> simp
  have hbal : ∀ c, -400000000000000 ≤ bal (grpB day) l c ∧ bal (grpB day) l c ≤ 400000000000000 := fun c => by
    obtain ⟨_, h2, _⟩ := checkL_ok hck
    have := netP_bound (fun b => decide (b = c)) (grpB day) l fun p hp => (h2 p hp).fine
    show _ ≤ netP _ _ l ∧ netP _ _ l ≤ _
    omega
  have hMb : ∀ c, -500000000000000 ≤ getZ M c ∧ getZ M c ≤ 500000000000000 := fun c => by
    rw [hM]
    have h1 := hbal c
    have h2 := elimG_b (u := if mi = 0 then S else x) (v := if mi = 0 then 0 else S) (by split <;> omega) (by split <;> omega) c
    omega
  have sv : -1000 ≤ sg * v ∧ sg * v ≤ 1000 := by rcases hsg with rfl | rfl <;> omega
  obtain ⟨u, hu⟩ : ∃ u, u = sg * v := ⟨_, rfl⟩
  rw [← hu] at sv
  have wu : IntKind.i64.wrap (sg * v) = u := by rw [← hu]; exact wrap_in _ (by omega)
  have b1 := hMb fi
  have b2 := hMb se
  have w1 := wrap_in (getZ M fi - u) (by omega)
  obtain ⟨M1, hM1⟩ : ∃ M1, M1 = putM M fi (getZ M fi - u) := ⟨_, rfl⟩
  have g1 : getZ M1 se = getZ M se := by rw [hM1, getZ_putM, if_neg (fun e => hfs e.symm)]
  have w2 : IntKind.i64.wrap (getZ M1 se + u) = getZ M1 se + u := by rw [g1]; exact wrap_in _ (by omega)
  obtain ⟨M2, hM2⟩ : ∃ M2, M2 = putM M1 se (getZ M1 se + u) := ⟨_, rfl⟩
  have hEb : 0 ≤ e0 ∧ e0 ≤ 200000 := by rw [hE]; split <;> omega
  have w3 := wrap_in (e0 + v) (by omega)
  have fin : ∀ H' : Heap, H'[bc]? = some (some ⟨85, 1, [[.mref bm]]⟩) → H'[bm]? = some (some ⟨0, 2, encK valI M2⟩) → H'[bo]? = some (some ⟨51, 3, [[.nil, iv (e0 + v), .list 5 []]]⟩) → Kept [bm, bo] H H' → C (.tup []) H' := fun H' h1 h2 h3 h4 => by
    rw [hC]
    refine ⟨rfl, ⟨M2, fun c => ?_, h1, h2, ?_⟩, h4⟩
    · rw [elimG_step mi ki fi se sg x S v hm c, ← Int.add_assoc, ← hM c, hM2, getZ_putM, g1, hM1, getZ_putM, ← hu]
      by_cases e1 : c = se
      · rw [if_pos e1, if_pos e1, if_neg (fun e => hfs (e.symm.trans e1)), e1]
        omega
      · rw [if_neg e1, if_neg e1]
        by_cases e2 : c = fi
        · rw [if_pos e2, if_pos e2, e2]
          omega
        · rw [if_neg e2, if_neg e2]
          omega
    · have e : (if mi = 0 then S + v else x + (S + v)) = e0 + v := by rw [hE]; split <;> omega
      rw [e]
      exact h3
  have wit : ∃ q H', C q H' := by
    refine ⟨_, (H.set bm (some ⟨0, 2, encK valI M2⟩)).set bo (some ⟨51, 3, [[.nil, iv (e0 + v), .list 5 []]]⟩), fin _ ?_ ?_ ?_ (kept_set _ (by simp) (kept_set _ (by simp) (kept_refl _ _)))⟩
    · rw [List.getElem?_set_ne (fun e => n2 e.symm), List.getElem?_set_ne (fun e => n1 e.symm)]
      exact hc
    · rw [List.getElem?_set_ne (fun e => n3 e.symm), List.getElem?_set_self lm]
    · rw [List.getElem?_set_self (by simpa using lo)]
  refine mfun_intro Tryz.func37 rfl (by simp [Tryz.f37]) (by kernel_rfl) (wit) ?_
  intro E hP hr hs hN
  have mn : amin [iv v, iv v] = some (iv v) := by simp [amin, aminFrom]
  have mx : amax [iv v, iv 0] = some (iv v) := by
    simp [amax, amaxFrom]
    omega
  simp -dsimp -implicitDefEqProofs [-getElem?_pos, go_sem, hP, mn, mx]
  obtain ⟨N, hN0⟩ : ∃ N, N = H.length := ⟨_, rfl⟩
  obtain ⟨H1, hH1⟩ : ∃ H1 : Heap, H1 = H ++ [some ⟨90, 4, [[iv ki, iv fi, iv se, iv sg]]⟩, some ⟨92, 5, [[iv ki, iv a, iv b, iv r, iv 0]]⟩] := ⟨_, rfl⟩
  have k1 : Kept [] H H1 := by rw [hH1]; exact kept_app _ _ _
  have gN : H1[N]? = some (some ⟨90, 4, [[iv ki, iv fi, iv se, iv sg]]⟩) := by rw [hH1, hN0]; simp
  have lN := (List.getElem?_eq_some_iff.1 gN).1
  have hc := k1 _ _ (by simp) hc
  have hmm := k1 _ _ (by simp) hmm
  have ho := k1 _ _ (by simp) ho
  have m1 : ¬ bc = N := by omega
  have m2 : ¬ bm = N := by omega
  have m3 : ¬ bo = N := by omega
  have n1' : ¬ bm = bc := fun e => n1 e.symm
  have n2' : ¬ bo = bc := fun e => n2 e.symm
  have n3' : ¬ bo = bm := fun e => n3 e.symm
  have lc := (List.getElem?_eq_some_iff.1 hc).1
  have lm := (List.getElem?_eq_some_iff.1 hmm).1
  have lo := (List.getElem?_eq_some_iff.1 ho).1
  have kk : Kept [bm, bo] H H1 := k1.mono (by simp)
  rw [← hH1, ← hN0]
  simp -dsimp -implicitDefEqProofs [-getElem?_pos, go_sem, hP, hc, hmm, ho, gN, lc, lm, lo, lN, List.getElem?_set_self, List.getElem?_set_ne, m1, m2, m3, n1, n2, n3, n1', n2', n3', List.length_set, List.set_set, wu, w1, ← hM1, w2, ← hM2, w3]
  refine fin _ ?_ ?_ ?_ (kept_set _ (by simp) (kept_set _ (by simp) kk))
  · rw [List.getElem?_set_ne n2', List.getElem?_set_ne n1']
    exact hc
  · rw [List.getElem?_set_ne n3', List.getElem?_set_self lm]
  · rw [List.getElem?_set_self (by simpa using lo)]
open Go.PA
open Go.RowKit
def WholeQ (l : List TPosting) (day x : Int) (r : AV) : Prop := ∃ M : List (Int × Int), (∀ a, getZ M a = bal (grpB day) l a + elimG x x a) ∧ r = .tup [.agg [balsL (listM M 600), iv (x + x), .list 5 []], iv 0]
theorem wk_kept {l : List TPosting} {day x : Int} {bc bm bo : Nat} (mi : Nat) (S : Int) (H1 H2 : Heap) (h : WK l day x bc bm bo mi S H1) (hk : Kept [] H1 H2) : WK l day x bc bm bo mi S H2 := by
  obtain ⟨M, h1, h2, h3, h4⟩ := h
  exact ⟨M, h1, hk _ _ (by simp) h2, hk _ _ (by simp) h3, hk _ _ (by simp) h4⟩
theorem wk_next {l : List TPosting} {day x : Int} {bc bm bo : Nat} (H : Heap) (h : WK l day x bc bm bo 0 x H) : WK l day x bc bm bo 1 0 H := by
  obtain ⟨M, h1, h2, h3, h4⟩ := h
  exact ⟨M, h1, h2, h3, by simpa using h4⟩
theorem wk_wit (l : List TPosting) (day x : Int) : ∃ M : List (Int × Int), ∀ a, getZ M a = bal (grpB day) l a + elimG x x a := by
  refine ⟨putM (putM (putM (putM (books (grpB day) l) 140 (bal (grpB day) l 140 + elimG x x 140)) 240 (bal (grpB day) l 240 + elimG x x 240)) 440 (bal (grpB day) l 440 + elimG x x 440)) 540 (bal (grpB day) l 540 + elimG x x 540), fun a => ?_⟩
  rw [getZ_putM, getZ_putM, getZ_putM, getZ_putM, books_get]
  by_cases h1 : a = 540
  · rw [if_pos h1, h1]
  rw [if_neg h1]
  by_cases h2 : a = 440
  · rw [if_pos h2, h2]
  rw [if_neg h2]
  by_cases h3 : a = 240
  · rw [if_pos h3, h3]
  rw [if_neg h3]
  by_cases h4 : a = 140
  · rw [if_pos h4, h4]
  rw [if_neg h4]
  unfold elimG
  rw [if_neg (fun e => h4 e.symm), if_neg (fun e => h3 e.symm), if_neg (fun e => h2 e.symm), if_neg (fun e => h1 e.symm)]
  omega
theorem wholeQ_ex (l : List TPosting) (day x : Int) : ∃ r, WholeQ l day x r ∧ Imm r := by
  obtain ⟨M, hM⟩ := wk_wit l day x
  have ib := imm_bals (listM M 600)
  exact ⟨_, ⟨M, hM, rfl⟩, imm_pair (by simp [imm_agg, ib, imm_sc, imm_list]) .sc⟩
set_option maxHeartbeats 4000000 in
set_option maxRecDepth 4000 in
theorem whole_pf {l : List TPosting} {day x : Int} (hck : checkL l = 0) (hll : l.length ≤ 60) (hd : 0 ≤ day ∧ day ≤ 36000) (hag : Agreed l day x) (hrf : (3 : Int) ∈ l.map (·.Ref)) (hx : 0 ≤ x ∧ x ≤ 1000) :
    PFun Tryz.prog none none 12 [.agg [postsL l], intsL [1, 2], iv day] (WholeQ l day x) := by
  refine pfun_intro Tryz.func12 rfl (by simp [Tryz.f12]) (by kernel_rfl) ?_
  intro E hP hr hs hW hN
  have ex := explain_pf hck hll hd hag hrf hx
  have ip := imm_posts l
  have ig : Imm (intsL [1, 2]) := imm_intsX _
  have bm := fun H gi di hg hd => wbooks_m (row := E.row) (src := E.src) (day := day) (checkL_fine hck) H (gi := gi) (di := di) hg hd
  have ea := fun H bc bm bo n1 n2 n3 hX h0 hw => each_m (row := E.row) (src := E.src) (H := H) (X := [bm, bo]) (day := day) (g := 37) (caps := [.ref bc 0 0, .ref bo 0 0]) hck hll hag hrf hx en_37 (whole2_ok (l := l) (day := day) hx hck E.row E.src bc bm bo n1 n2 n3) hX wk_kept wk_next h0 hw
  obtain ⟨G, hG⟩ : ∃ G : List Int, G = [1, 2] := ⟨_, rfl⟩
  rw [← hG] at ex ig bm ea ⊢
  have ig : Imm (.list 1 (G.map fun x => [iv x])) := ig
  have zm : zeros Tryz.prog 85 = some [.sc (.map none)] := by kernel_rfl
  simp -dsimp -implicitDefEqProofs [-getElem?_pos, go_sem, hP, intsL]
  refine callB_is (ex.lift _ _) hP en_32 (by simp [ip, ig, imm_agg, imm_sc]) (imm_pair (by simp [imm_list]) .sc) ?_
  simp -dsimp -implicitDefEqProofs [-getElem?_pos, go_sem, hP]
  refine callB_m (bm _ 1 2 rfl rfl) hP en_33 ?_
  rintro r H1 ⟨id, rfl, hid, hM, kp⟩
  have f0 := kp 0 _ (by simp) rfl
  have f1 := kp 1 _ (by simp) rfl
  have f2 := kp 2 _ (by simp) rfl
  have f3 := kp 3 _ (by simp) rfl
  have l0 := (List.getElem?_eq_some_iff.1 f0).1
  have l1 := (List.getElem?_eq_some_iff.1 f1).1
  have l2 := (List.getElem?_eq_some_iff.1 f2).1
  have l3 := (List.getElem?_eq_some_iff.1 f3).1
  have lid := (List.getElem?_eq_some_iff.1 hM).1
  simp only [List.length_cons, List.length_nil] at hid
  simp -dsimp -implicitDefEqProofs [-getElem?_pos, go_sem, hP, f0, f1, f2, l0, l1, l2, zm]
  obtain ⟨bc, hbc⟩ : ∃ bc, bc = H1.length := ⟨_, rfl⟩
  obtain ⟨H2, hH2⟩ : ∃ H2 : Heap, H2 = H1 ++ [some ⟨85, 1, [[.mref id]]⟩, some ⟨51, 3, [[.nil, iv 0, .list 5 []]]⟩] := ⟨_, rfl⟩
  have k12 : Kept [] H1 H2 := by rw [hH2]; exact kept_app _ _ _
  have gc : H2[bc]? = some (some ⟨85, 1, [[.mref id]]⟩) := by rw [hH2, hbc]; simp
  have go : H2[bc + 1]? = some (some ⟨51, 3, [[.nil, iv 0, .list 5 []]]⟩) := by rw [hH2, hbc, List.getElem?_append_right (by omega)]; simp
  have gm := k12 _ _ (by simp) hM
  have f3 := k12 _ _ (by simp) f3
  have lo := (List.getElem?_eq_some_iff.1 go).1
  have lm := (List.getElem?_eq_some_iff.1 gm).1
  have h0 : WK l day x bc id (bc + 1) 0 0 H2 := by
    refine ⟨_, fun a => ?_, gc, gm, go⟩
    rw [books_get]
    have : elimG 0 0 a = 0 := by unfold elimG; simp
    simp [this]
  have hw : ∃ H', WK l day x bc id (bc + 1) 1 x H' ∧ Kept [id, bc + 1] H2 H' := by
    obtain ⟨M, hM⟩ := wk_wit l day x
    refine ⟨(H2.set id (some ⟨0, 2, encK valI M⟩)).set (bc + 1) (some ⟨51, 3, [[.nil, iv (x + x), .list 5 []]]⟩), ⟨M, by simpa using hM, ?_, ?_, ?_⟩, kept_set _ (by simp) (kept_set _ (by simp) (kept_refl _ _))⟩
    · rw [List.getElem?_set_ne (by omega), List.getElem?_set_ne (by omega)]
      exact gc
    · rw [List.getElem?_set_ne (by omega), List.getElem?_set_self lm]
    · rw [List.getElem?_set_self (by simpa using lo)]
      rfl
  have ec := ea H2 bc id (bc + 1) (by omega) (by omega) (by omega) (fun i hi => by simp at hi; omega) h0 hw
  rw [← hbc, ← hH2]
  refine callB_m ec hP en_36 ?_
  rintro q H3 ⟨rfl, ⟨M, hMg, gc3, gm3, go3⟩, k3⟩
  have f33 := k3 3 _ (by simp; omega) f3
  have hMg : ∀ a, getZ M a = bal (grpB day) l a + elimG x x a := by simpa using hMg
  have go3 : H3[bc + 1]? = some (some ⟨51, 3, [[.nil, iv (x + x), .list 5 []]]⟩) := by simpa using go3
  have lc3 := (List.getElem?_eq_some_iff.1 gc3).1
  have lm3 := (List.getElem?_eq_some_iff.1 gm3).1
  have lo3 := (List.getElem?_eq_some_iff.1 go3).1
  have l33 := (List.getElem?_eq_some_iff.1 f33).1
  have ib := imm_bals (listM M 600)
  simp -dsimp -implicitDefEqProofs [-getElem?_pos, go_sem, hP, gc3, lc3]
  refine callB_frz ((list_pf M).lift _ _) hP hW en_38 (args_cons.2 ⟨⟨by rw [view_mref, gm3, viewM_enc]; exact .refl _, by rw [view_mref, gm3, viewM_enc]; exact .imap⟩, args_nil.2 trivial⟩) ib ?_
  have ka : ∀ Y : Heap, killAll ([AV.mref id].flatMap srefs) Y = Y.set id none := fun Y => rfl
  rw [ka]
  have go4 : (H3.set id none)[bc + 1]? = some (some ⟨51, 3, [[.nil, iv (x + x), .list 5 []]]⟩) := by rw [List.getElem?_set_ne (by omega)]; exact go3
  have f34 : ∀ y : Option AObj, ((H3.set id none).set (bc + 1) y)[3]? = some (some ⟨51, 3, [[.nil, iv 0, .nil]]⟩) := fun y => by rw [List.getElem?_set_ne (by omega), List.getElem?_set_ne (by omega)]; exact f33
  simp -dsimp -implicitDefEqProofs [-getElem?_pos, go_sem, hP, go4, lo3, f34, l33, List.getElem?_set_self, List.length_set]
  exact done_imm (imm_pair (by simp [imm_agg, ib, imm_sc, imm_list]) .sc) ⟨M, hMg, rfl⟩
open Go.PA
open Go.RowKit
theorem index_pf_z (l : List Int) (g : FuncId) (caps : List AV) (p : Int → Bool) (hl : l.length ≤ 1000000) (hen : enterable Tryz.prog g = true) (hcap : ∀ a, a ∈ caps → Imm a)
    (hg : ∀ a, a ∈ l → PFun Tryz.prog none none g (iv a :: caps) (· = bv (p a))) :
    PFun Tryz.prog none none 132 [intsL l, .fn g caps] (· = iv (idxI p l)) := by
  refine pfun_intro Tryz.func132 rfl (by simp [Tryz.f132]) (by kernel_rfl) ?_
  intro E hP hr hs hW hN
  simp -dsimp -implicitDefEqProofs [-getElem?_pos, go_sem, hP, intsL]
  obtain ⟨I, hI⟩ : ∃ I : Nat → St → Prop, I = fun m s => ∃ k : Nat, k ≤ l.length ∧ m = l.length - k ∧ idxI p l = idxFrom p k (l.drop k) ∧ s.t 0 = intsL l ∧ s.t 1 = .fn g caps ∧ s.t 7 = iv l.length ∧ s.t 8 = iv k := ⟨_, rfl⟩
  refine aloop0 I (l.length) (by rw [hN]; rfl) ?_ ?_
  · rw [hI]
    exact ⟨0, by omega, by omega, by simp [idxI], by simp -dsimp -implicitDefEqProofs [-getElem?_pos, go_sem, intsL], by simp -dsimp -implicitDefEqProofs [-getElem?_pos, go_sem], by simp -dsimp -implicitDefEqProofs [-getElem?_pos, go_sem], by simp -dsimp -implicitDefEqProofs [-getElem?_pos, go_sem]⟩
  intro m s hs'
  rw [hI] at hs'
  obtain ⟨k, hk, hm, hi, t0, t1, t7, t8⟩ := hs'
  simp -dsimp -implicitDefEqProofs [-getElem?_pos, go_sem, hP, t7, t8]
  refine condP (fun h => ?_) (fun h => ?_)
  · have hk : k < l.length := by simpa using h
    obtain ⟨a, ha⟩ : ∃ a, l[k]? = some a := ⟨_, List.getElem?_eq_getElem hk⟩
    have wk := wrap_in ((k : Int) + 1) (by omega)
    have hd : l.drop k = a :: l.drop (k + 1) := by
      rw [List.getElem?_eq_getElem hk] at ha
      rw [List.drop_eq_getElem_cons hk, Option.some.inj ha]
    simp -dsimp -implicitDefEqProofs [-getElem?_pos, go_sem, hP, t8, t1, t0, ha, intsL, encI]
    refine callB_is ((hg a (List.mem_of_getElem? ha)).lift _ _) hP hen (fun x hx => ?_) .sc ?_
    · rcases List.mem_cons.1 hx with rfl | hx
      · exact .sc
      · exact hcap x hx
    rw [hd] at hi
    simp only [idxFrom] at hi
    simp -dsimp -implicitDefEqProofs [-getElem?_pos, go_sem, hP]
    refine condP (fun hp => ?_) (fun hp => ?_)
    · rw [if_pos hp] at hi
      simp -dsimp -implicitDefEqProofs [-getElem?_pos, go_sem, hP]
      exact hi.symm
    · rw [hp, if_neg (by simp)] at hi
      simp -dsimp -implicitDefEqProofs [-getElem?_pos, go_sem, hP, t8, wk]
      refine ⟨l.length - (k + 1), by omega, ?_⟩
      rw [hI]
      exact ⟨k + 1, by omega, rfl, hi, by simp -dsimp -implicitDefEqProofs [-getElem?_pos, go_sem, t0], by simp -dsimp -implicitDefEqProofs [-getElem?_pos, go_sem, t1], by simp -dsimp -implicitDefEqProofs [-getElem?_pos, go_sem, t7], by simp -dsimp -implicitDefEqProofs [-getElem?_pos, go_sem]⟩
  · have hk : k = l.length := by simp at h; omega
    subst hk
    rw [List.drop_length] at hi
    simp -dsimp -implicitDefEqProofs [-getElem?_pos, go_sem, hP]
    exact hi.symm
theorem contains_pf_z (l : List Int) (g : FuncId) (caps : List AV) (p : Int → Bool) (hl : l.length ≤ 1000000) (hen : enterable Tryz.prog g = true) (hcap : ∀ a, a ∈ caps → Imm a)
    (hg : ∀ a, a ∈ l → PFun Tryz.prog none none g (iv a :: caps) (· = bv (p a))) :
    PFun Tryz.prog none none 88 [intsL l, .fn g caps] (· = bv (l.any p)) := by
  refine pfun_intro Tryz.func88 rfl (by simp [Tryz.f88]) (by kernel_rfl) ?_
  intro E hP hr hs hW hN
  obtain ⟨w, hw⟩ : ∃ w, w = l.any p := ⟨_, rfl⟩
  rw [← hw]
  have hi : ∀ a, a ∈ [intsL l, .fn g caps] → Imm a := fun a ha => by
    simp only [List.mem_cons, List.not_mem_nil, or_false] at ha
    rcases ha with rfl | rfl
    · exact imm_intsX _
    · exact imm_fn.2 hcap
  simp -dsimp -implicitDefEqProofs [-getElem?_pos, go_sem, hP]
  refine callB_is ((index_pf_z l g caps p hl hen hcap hg).lift _ _) hP en_132 hi .sc ?_
  rcases idxI_spec p l with ⟨h1, h2⟩ | ⟨i, a, h1, h2, h3, _⟩
  · have : w = false := by rw [hw]; exact List.any_eq_false.2 fun a ha => by simp [h2 a ha]
    simp -dsimp -implicitDefEqProofs [-getElem?_pos, go_sem, hP, h1, this]
  · have d : decide ((0 : Int) ≤ (i : Int)) = true := decide_eq_true (by omega)
    have : w = true := by rw [hw]; exact List.any_eq_true.2 ⟨a, List.mem_of_getElem? h1, h2⟩
    simp -dsimp -implicitDefEqProofs [-getElem?_pos, go_sem, hP, h3, d, this]
open Go.PA
open Go.RowKit
abbrev claimsL (l : List TClaim) : AV := .list 6 (encL TClaim.cells l)
theorem imm_claims (l : List TClaim) : Imm (claimsL l) := imm_encL _ TClaim.imm l
open Go.Shelf
def lays171_ren : Go.Shelf.Ren := ⟨fun | 171 => 211 | 243 => 259 | 246 => 297 | 283 => 315 | 284 => 316 | 285 => 317 | 286 => 318 | 129 => 177 | 317 => 330 | 318 => 331 | 319 => 332 | 320 => 333 | 337 => 339 | 338 => 340 | n => n, fun | 3 => 3 | 9 => 9 | 2 => 2 | 4 => 4 | 171 => 399 | 0 => 0 | 53 => 277 | 37 => 377 | 5 => 5 | 173 => 401 | 212 => 416 | 51 => 275 | 20 => 20 | 213 => 417 | 46 => 234 | 232 => 422 | 233 => 423 | n => n, fun | 17 => 5 | 18 => 6 | 19 => 7 | n => n⟩
theorem lays171 : Go.Proofs.Lays.n171 Tryz.prog lays171_ren := {
  mixed := by kernel_rfl
  f129 := Tryz.func177.trans (congrArg some (by kernel_rfl))
  f171 := Tryz.func211.trans (congrArg some (by kernel_rfl))
  f243 := Tryz.func259.trans (congrArg some (by kernel_rfl))
  f246 := Tryz.func297.trans (congrArg some (by kernel_rfl))
  f283 := Tryz.func315.trans (congrArg some (by kernel_rfl))
  f284 := Tryz.func316.trans (congrArg some (by kernel_rfl))
  f285 := Tryz.func317.trans (congrArg some (by kernel_rfl))
  f286 := Tryz.func318.trans (congrArg some (by kernel_rfl))
  f317 := Tryz.func330.trans (congrArg some (by kernel_rfl))
  f318 := Tryz.func331.trans (congrArg some (by kernel_rfl))
  f319 := Tryz.func332.trans (congrArg some (by kernel_rfl))
  f320 := Tryz.func333.trans (congrArg some (by kernel_rfl))
  f337 := Tryz.func339.trans (congrArg some (by kernel_rfl))
  f338 := Tryz.func340.trans (congrArg some (by kernel_rfl))
  t0 := Tryz.underlying0
  a0 := Tryz.isAgg0
  z0 := Tryz.sizeOf0
  v0 := Tryz.zeroValue0
  t2 := Tryz.underlying2
  a2 := Tryz.isAgg2
  z2 := Tryz.sizeOf2
  v2 := Tryz.zeroValue2
  t3 := Tryz.underlying3
  a3 := Tryz.isAgg3
  z3 := Tryz.sizeOf3
  v3 := Tryz.zeroValue3
  t4 := Tryz.underlying4
  a4 := Tryz.isAgg4
  z4 := Tryz.sizeOf4
  v4 := Tryz.zeroValue4
  t5 := Tryz.underlying5
  a5 := Tryz.isAgg5
  z5 := Tryz.sizeOf5
  v5 := Tryz.zeroValue5
  t9 := Tryz.underlying9
  a9 := Tryz.isAgg9
  z9 := Tryz.sizeOf9
  v9 := Tryz.zeroValue9
  t20 := Tryz.underlying20
  a20 := Tryz.isAgg20
  z20 := Tryz.sizeOf20
  v20 := Tryz.zeroValue20
  t37 := Tryz.underlying377
  a37 := Tryz.isAgg377
  z37 := Tryz.sizeOf377
  v37 := Tryz.zeroValue377
  t46 := Tryz.underlying234
  a46 := Tryz.isAgg234
  z46 := Tryz.sizeOf234
  v46 := Tryz.zeroValue234
  t51 := Tryz.underlying275
  a51 := Tryz.isAgg275
  z51 := Tryz.sizeOf275
  v51 := Tryz.zeroValue275
  t53 := Tryz.underlying277
  a53 := Tryz.isAgg277
  z53 := Tryz.sizeOf277
  v53 := Tryz.zeroValue277
  t171 := Tryz.underlying399
  a171 := Tryz.isAgg399
  z171 := Tryz.sizeOf399
  v171 := Tryz.zeroValue399
  t173 := Tryz.underlying401
  a173 := Tryz.isAgg401
  z173 := Tryz.sizeOf401
  v173 := Tryz.zeroValue401
  t212 := Tryz.underlying416
  a212 := Tryz.isAgg416
  z212 := Tryz.sizeOf416
  v212 := Tryz.zeroValue416
  t213 := Tryz.underlying417
  a213 := Tryz.isAgg417
  z213 := Tryz.sizeOf417
  t232 := Tryz.underlying422
  a232 := Tryz.isAgg422
  z232 := Tryz.sizeOf422
  v232 := Tryz.zeroValue422
  t233 := Tryz.underlying423
  a233 := Tryz.isAgg423
  z233 := Tryz.sizeOf423
  v233 := Tryz.zeroValue423
  g17 := by kernel_rfl
  g18 := by kernel_rfl
  g19 := by kernel_rfl }
open Go.RowKit Go.Sort Go.Lib in
theorem strconv_Itoa_small (i : Nat) (hi : i < 100) (w : World) :
    Calls Tryz.prog 211 #[.int .i64 i] w fun e w' => e = .returned (.string ⟨(Lib.decDigits i).toArray⟩) ∧ w' = w := Any.strconv_Itoa_small lays171 i hi w
def laysC172_ren : Go.Shelf.Ren := ⟨fun | 172 => 210 | 244 => 257 | 245 => 258 | 247 => 292 | 279 => 293 | 280 => 294 | 281 => 295 | 282 => 296 | 287 => 312 | 316 => 313 | 171 => 211 | 205 => 314 | 321 => 328 | 322 => 329 | 243 => 259 | 246 => 297 | 283 => 315 | 284 => 316 | 285 => 317 | 286 => 318 | 129 => 177 | 317 => 330 | 318 => 331 | 319 => 332 | 320 => 333 | 337 => 339 | 338 => 340 | n => n, fun | 9 => 9 | 3 => 3 | 75 => 310 | 76 => 311 | 4 => 4 | 5 => 5 | 167 => 376 | 37 => 377 | 0 => 0 | 85 => 378 | 2 => 2 | 168 => 380 | 53 => 277 | 175 => 393 | 46 => 234 | 210 => 397 | 127 => 411 | 145 => 414 | 143 => 412 | 21 => 21 | 171 => 399 | 173 => 401 | 212 => 416 | 51 => 275 | 20 => 20 | 213 => 417 | 232 => 422 | 233 => 423 | 80 => 79 | n => n, fun | 15 => 0 | 16 => 1 | 17 => 5 | 18 => 6 | 19 => 7 | n => n⟩
theorem laysC172 : Go.Proofs.LaysC.n172 Tryz.prog laysC172_ren := {
  mixed := by kernel_rfl
  f129 := Tryz.func177.trans (congrArg some (by kernel_rfl))
  f171 := Tryz.func211.trans (congrArg some (by kernel_rfl))
  f172 := Tryz.func210.trans (congrArg some (by kernel_rfl))
  f205 := Tryz.func314.trans (congrArg some (by kernel_rfl))
  f243 := Tryz.func259.trans (congrArg some (by kernel_rfl))
  f244 := Tryz.func257.trans (congrArg some (by kernel_rfl))
  f245 := Tryz.func258.trans (congrArg some (by kernel_rfl))
  f246 := Tryz.func297.trans (congrArg some (by kernel_rfl))
  f247 := Tryz.func292.trans (congrArg some (by kernel_rfl))
  f279 := Tryz.func293.trans (congrArg some (by kernel_rfl))
  f280 := Tryz.func294.trans (congrArg some (by kernel_rfl))
  f281 := Tryz.func295.trans (congrArg some (by kernel_rfl))
  f282 := Tryz.func296.trans (congrArg some (by kernel_rfl))
  f283 := Tryz.func315.trans (congrArg some (by kernel_rfl))
  f284 := Tryz.func316.trans (congrArg some (by kernel_rfl))
  f285 := Tryz.func317.trans (congrArg some (by kernel_rfl))
  f286 := Tryz.func318.trans (congrArg some (by kernel_rfl))
  f287 := Tryz.func312.trans (congrArg some (by kernel_rfl))
  f316 := Tryz.func313.trans (congrArg some (by kernel_rfl))
  f317 := Tryz.func330.trans (congrArg some (by kernel_rfl))
  f318 := Tryz.func331.trans (congrArg some (by kernel_rfl))
  f319 := Tryz.func332.trans (congrArg some (by kernel_rfl))
  f320 := Tryz.func333.trans (congrArg some (by kernel_rfl))
  f321 := Tryz.func328.trans (congrArg some (by kernel_rfl))
  f322 := Tryz.func329.trans (congrArg some (by kernel_rfl))
  f337 := Tryz.func339.trans (congrArg some (by kernel_rfl))
  f338 := Tryz.func340.trans (congrArg some (by kernel_rfl))
  t0 := Tryz.underlying0
  a0 := Tryz.isAgg0
  z0 := Tryz.sizeOf0
  v0 := Tryz.zeroValue0
  t2 := Tryz.underlying2
  a2 := Tryz.isAgg2
  z2 := Tryz.sizeOf2
  v2 := Tryz.zeroValue2
  t3 := Tryz.underlying3
  a3 := Tryz.isAgg3
  z3 := Tryz.sizeOf3
  v3 := Tryz.zeroValue3
  t4 := Tryz.underlying4
  a4 := Tryz.isAgg4
  z4 := Tryz.sizeOf4
  v4 := Tryz.zeroValue4
  t5 := Tryz.underlying5
  a5 := Tryz.isAgg5
  z5 := Tryz.sizeOf5
  v5 := Tryz.zeroValue5
  t9 := Tryz.underlying9
  a9 := Tryz.isAgg9
  z9 := Tryz.sizeOf9
  v9 := Tryz.zeroValue9
  t20 := Tryz.underlying20
  a20 := Tryz.isAgg20
  z20 := Tryz.sizeOf20
  v20 := Tryz.zeroValue20
  t21 := Tryz.underlying21
  a21 := Tryz.isAgg21
  z21 := Tryz.sizeOf21
  v21 := Tryz.zeroValue21
  t37 := Tryz.underlying377
  a37 := Tryz.isAgg377
  z37 := Tryz.sizeOf377
  v37 := Tryz.zeroValue377
  t46 := Tryz.underlying234
  a46 := Tryz.isAgg234
  z46 := Tryz.sizeOf234
  v46 := Tryz.zeroValue234
  t51 := Tryz.underlying275
  a51 := Tryz.isAgg275
  z51 := Tryz.sizeOf275
  v51 := Tryz.zeroValue275
  t53 := Tryz.underlying277
  a53 := Tryz.isAgg277
  z53 := Tryz.sizeOf277
  v53 := Tryz.zeroValue277
  t75 := Tryz.underlying310
  a75 := Tryz.isAgg310
  z75 := Tryz.sizeOf310
  v75 := Tryz.zeroValue310
  t76 := Tryz.underlying311
  a76 := Tryz.isAgg311
  z76 := Tryz.sizeOf311
  v76 := Tryz.zeroValue311
  t85 := Tryz.underlying378
  a85 := Tryz.isAgg378
  z85 := Tryz.sizeOf378
  v85 := Tryz.zeroValue378
  t127 := Tryz.underlying411
  a127 := Tryz.isAgg411
  z127 := Tryz.sizeOf411
  v127 := Tryz.zeroValue411
  t143 := Tryz.underlying412
  a143 := Tryz.isAgg412
  z143 := Tryz.sizeOf412
  v143 := Tryz.zeroValue412
  t145 := Tryz.underlying414
  a145 := Tryz.isAgg414
  z145 := Tryz.sizeOf414
  v145 := Tryz.zeroValue414
  t167 := Tryz.underlying376
  a167 := Tryz.isAgg376
  z167 := Tryz.sizeOf376
  v167 := Tryz.zeroValue376
  t168 := Tryz.underlying380
  a168 := Tryz.isAgg380
  z168 := Tryz.sizeOf380
  v168 := Tryz.zeroValue380
  t171 := Tryz.underlying399
  a171 := Tryz.isAgg399
  z171 := Tryz.sizeOf399
  v171 := Tryz.zeroValue399
  t173 := Tryz.underlying401
  a173 := Tryz.isAgg401
  z173 := Tryz.sizeOf401
  v173 := Tryz.zeroValue401
  t175 := Tryz.underlying393
  a175 := Tryz.isAgg393
  z175 := Tryz.sizeOf393
  v175 := Tryz.zeroValue393
  t210 := Tryz.underlying397
  a210 := Tryz.isAgg397
  z210 := Tryz.sizeOf397
  v210 := Tryz.zeroValue397
  t212 := Tryz.underlying416
  a212 := Tryz.isAgg416
  z212 := Tryz.sizeOf416
  v212 := Tryz.zeroValue416
  t213 := Tryz.underlying417
  a213 := Tryz.isAgg417
  z213 := Tryz.sizeOf417
  t232 := Tryz.underlying422
  a232 := Tryz.isAgg422
  z232 := Tryz.sizeOf422
  v232 := Tryz.zeroValue422
  t233 := Tryz.underlying423
  a233 := Tryz.isAgg423
  z233 := Tryz.sizeOf423
  v233 := Tryz.zeroValue423
  g15 := by kernel_rfl
  g16 := by kernel_rfl
  g17 := by kernel_rfl
  g18 := by kernel_rfl
  g19 := by kernel_rfl
  t80 := Tryz.underlying79
  a80 := Tryz.isAgg79
  z80 := Tryz.sizeOf79
  v80 := Tryz.zeroValue79
  i0 := by kernel_rfl
  i2 := by kernel_rfl
  i3 := by kernel_rfl
  i4 := by kernel_rfl
  i5 := by kernel_rfl
  i9 := by kernel_rfl
  i20 := by kernel_rfl
  i21 := by kernel_rfl
  i37 := by kernel_rfl
  i46 := by kernel_rfl
  i51 := by kernel_rfl
  i53 := by kernel_rfl
  i75 := by kernel_rfl
  i76 := by kernel_rfl
  i80 := by kernel_rfl
  i85 := by kernel_rfl
  i127 := by kernel_rfl
  i143 := by kernel_rfl
  i145 := by kernel_rfl
  i167 := by kernel_rfl
  i168 := by kernel_rfl
  i171 := by kernel_rfl
  i173 := by kernel_rfl
  i175 := by kernel_rfl
  i210 := by kernel_rfl
  i212 := by kernel_rfl
  i232 := by kernel_rfl
  i233 := by kernel_rfl
  m15 := by kernel_rfl
  m16 := by kernel_rfl
  m17 := by kernel_rfl
  m18 := by kernel_rfl
  m19 := by kernel_rfl
  c0 := by kernel_rfl
  c2 := by kernel_rfl
  c3 := by kernel_rfl
  c4 := by kernel_rfl
  c5 := by kernel_rfl
  c9 := by kernel_rfl
  c20 := by kernel_rfl
  c21 := by kernel_rfl
  c37 := by kernel_rfl
  c46 := by kernel_rfl
  c51 := by kernel_rfl
  c53 := by kernel_rfl
  c75 := by kernel_rfl
  c76 := by kernel_rfl
  c80 := by kernel_rfl
  c85 := by kernel_rfl
  c127 := by kernel_rfl
  c143 := by kernel_rfl
  c145 := by kernel_rfl
  c167 := by kernel_rfl
  c168 := by kernel_rfl
  c171 := by kernel_rfl
  c173 := by kernel_rfl
  c175 := by kernel_rfl
  c210 := by kernel_rfl
  c212 := by kernel_rfl
  c213 := by kernel_rfl
  c232 := by kernel_rfl
  c233 := by kernel_rfl }
open Go.RowKit in
theorem strconv_Atoi_ok (s : ByteArray) (hmax : s.size ≤ 9223372036854775806) (v : Int) (h : Lib.atoiAll s.data.toList = .ok v) (w : World) :
    Calls Tryz.prog 210 #[.string s] w fun e w' => e = .returned (.tuple #[.int .i64 v, .nilIface]) ∧ (w' = w ∨ ∃ t, w' = Lib.bytesWorld w 5 t) := Any.strconv_Atoi_ok laysC172 s hmax v h w
def lays143_ren : Go.Shelf.Ren := ⟨fun | 143 => 291 | 219 => 311 | 217 => 324 | 225 => 325 | 224 => 326 | 267 => 327 | 266 => 337 | 314 => 338 | n => n, fun | 9 => 9 | 3 => 3 | 4 => 4 | 5 => 5 | 46 => 234 | 146 => 420 | 51 => 275 | n => n, fun | 1 => 4 | n => n⟩
theorem lays143 : Go.Proofs.Lays.n143 Tryz.prog lays143_ren := {
  mixed := by kernel_rfl
  f143 := Tryz.func291.trans (congrArg some (by kernel_rfl))
  f217 := Tryz.func324.trans (congrArg some (by kernel_rfl))
  f219 := Tryz.func311.trans (congrArg some (by kernel_rfl))
  f224 := Tryz.func326.trans (congrArg some (by kernel_rfl))
  f225 := Tryz.func325.trans (congrArg some (by kernel_rfl))
  f266 := Tryz.func337.trans (congrArg some (by kernel_rfl))
  f267 := Tryz.func327.trans (congrArg some (by kernel_rfl))
  f314 := Tryz.func338.trans (congrArg some (by kernel_rfl))
  t3 := Tryz.underlying3
  a3 := Tryz.isAgg3
  z3 := Tryz.sizeOf3
  v3 := Tryz.zeroValue3
  t4 := Tryz.underlying4
  a4 := Tryz.isAgg4
  z4 := Tryz.sizeOf4
  v4 := Tryz.zeroValue4
  t5 := Tryz.underlying5
  a5 := Tryz.isAgg5
  z5 := Tryz.sizeOf5
  v5 := Tryz.zeroValue5
  t9 := Tryz.underlying9
  a9 := Tryz.isAgg9
  z9 := Tryz.sizeOf9
  v9 := Tryz.zeroValue9
  t46 := Tryz.underlying234
  a46 := Tryz.isAgg234
  z46 := Tryz.sizeOf234
  v46 := Tryz.zeroValue234
  t51 := Tryz.underlying275
  a51 := Tryz.isAgg275
  z51 := Tryz.sizeOf275
  v51 := Tryz.zeroValue275
  t146 := Tryz.underlying420
  a146 := Tryz.isAgg420
  z146 := Tryz.sizeOf420
  v146 := Tryz.zeroValue420
  g1 := by kernel_rfl }
open Go.RowKit Go.Lib in
theorem strings_Index_one (s : ByteArray) (c : UInt8) (w : World) :
    Calls Tryz.prog 291 #[.string s, .string ⟨#[c]⟩] w fun e w' => e = .returned (.int .i64 (Lib.indexByte s.data.toList c)) ∧ w' = w := Any.strings_Index_one lays143 s c w
open Go.RowKit Go.Shelf
attribute [local go_sem] Oper.semAt_some
def piecesF (c : UInt8) : Nat → List UInt8 → List (List UInt8)
  | 0, l => [l]
  | n + 1, l => if Lib.indexByte l c < 0 then [l] else l.take (Lib.indexByte l c).toNat :: piecesF c n (l.drop ((Lib.indexByte l c).toNat + 1))
def dot : ByteArray := ⟨#[46]⟩
def bl (s : ByteArray) : List UInt8 := s.data.toList
def bsOf (l : List UInt8) : ByteArray := ⟨l.toArray⟩
def boxLen (W : World) (b : Nat) : Nat := match W.cell? ⟨b, 0, none⟩ with | some (.string s) => s.size | _ => 0
theorem bsOf_bl (s : ByteArray) : bsOf (bl s) = s := rfl
theorem cut_head (s : ByteArray) (k : Nat) : bsOf ((bl s).take k) = s.extract 0 k := (Lib.Pa.extract_upto s k).symm
theorem cut_tail (s : ByteArray) (k : Nat) : bl (s.extract k s.size) = (bl s).drop k := by rw [Lib.Pa.extract_from]; rfl
theorem size_tail (s : ByteArray) (k : Nat) : (s.extract k s.size).size = s.size - k := by
  have := congrArg List.length (cut_tail s k)
  rw [List.length_drop] at this
  exact this
theorem piecesF_last {c : UInt8} {n : Nat} {l : List UInt8} (h : Lib.indexByte l c < 0) : piecesF c n l = [l] := by cases n <;> simp [piecesF, h]
theorem boxLen_of {W : World} {b : Nat} {s : ByteArray} (h : Boxed W b 9 (.string s)) : boxLen W b = s.size := by rw [boxLen, h.cell]
theorem index_dot (s : ByteArray) (w : World) : CallsIn Fence.wide 9 Tryz.prog 291 #[.string s, .string dot] w fun e w' => e = .returned (.int .i64 (Lib.indexByte (bl s) 46)) ∧ w' = w := callsIn_wide.2 (strings_Index_one s 46 w)
set_option maxRecDepth 100000 in
set_option maxHeartbeats 1000000 in
theorem split1_in (l B1 B2 B3 : Nat) (s0 : ByteArray) (J Jx : List (List UInt8) → World → Prop)
    (hJ : ∀ pre W (s s' : ByteArray), J pre W → Boxed W B2 9 (.string s) → J pre (W.setCell ⟨B2, 0, none⟩ (.string s')))
    (hY : ∀ pre x W, J pre W → pre ++ [x] <+: piecesF 46 s0.size (bl s0) → YieldAt Fence.wide 9 Tryz.prog l #[.string (bsOf x)] W fun e W' =>
      (e = .returned (.bool true) ∧ J (pre ++ [x]) W' ∧ (∀ b, b = B1 ∨ b = B2 ∨ b = B3 → W'.heap[b]? = W.heap[b]?)) ∨ (e = .returned (.bool false) ∧ Jx (pre ++ [x]) W'))
    (W : World) (hlim : s0.size ≤ 1000000) (h1 : Boxed W B1 9 (.string dot)) (h2 : Boxed W B2 9 (.string s0)) (h3 : Boxed W B3 3 (.int .i64 0)) (d12 : B1 ≠ B2) (d32 : B3 ≠ B2) (h0 : J [] W) :
    CallsIn Fence.wide 10 Tryz.prog 289 #[.func (.yield l) #[] #[], .pointer (some ⟨B1, 0, none⟩), .pointer (some ⟨B2, 0, none⟩), .pointer (some ⟨B3, 0, none⟩)] W fun e W' => (∃ v, e = .returned v) ∧
      ((∃ ys, ys = piecesF 46 s0.size (bl s0) ∧ J ys W') ∨ (∃ pre, Jx pre W')) := by
  have hlen : s0.size = (bl s0).length := rfl
  refine callsIn_of_wp Tryz.func289 rfl trivial ?_ rfl
  simp only [Tryz.ntmps289, List.size_toArray, List.length_cons, List.length_nil, Nat.reduceAdd, Nat.reduceSub, Array.replicate_succ, Array.replicate_zero, List.push_toArray, List.append_toArray, List.nil_append, List.cons_append]
  have c1 := h1.cell
  have c2 := h2.cell
  have c3 := h3.cell
  gi_wp2
  gi_loopw [] (fun wr => ∃ (pre : List (List UInt8)) (rest : ByteArray) (n : Nat), piecesF 46 s0.size (bl s0) = pre ++ piecesF 46 n (bl rest) ∧ rest.size ≤ n ∧ rest.size ≤ 1000000 ∧ J pre wr ∧ Boxed wr B1 9 (.string dot) ∧ Boxed wr B2 9 (.string rest) ∧ Boxed wr B3 3 (.int .i64 0))
    (fun wr => boxLen wr B2)
  case atStart =>
    exact ⟨[], s0, s0.size, rfl, Nat.le_refl _, hlim, h0, h1, h2, h3⟩
  case round =>
    obtain ⟨pre, rest, n, hp, hn, hr, hj, b1, b2, b3⟩ := hrel
    clear c1 c2 c3
    have c1 := b1.cell
    have c2 := b2.cell
    have c3 := b3.cell
    have f2 := b2.frozen
    by_cases hneg : Lib.indexByte (bl rest) 46 < 0
    · obtain ⟨fn, tmps, assign, body, hy, hR⟩ := hY pre (bl rest) wr hj (by rw [hp, piecesF_last hneg]; exact List.prefix_rfl)
      rw [piecesF_last hneg] at hp
      rw [bsOf_bl] at hy
      gi_wp2_with (refine ⟨trivial, ?_⟩; gi_at_call 291; refine (index_dot rest _).mono ?_; rintro e w' ⟨rfl, rfl⟩)
      refine hR.mono ?_
      rintro e W3 (⟨rfl, hJ3, hk3⟩ | ⟨rfl, hJx3⟩)
      · gi_wp2
        go_end0
        exact ⟨⟨_, rfl⟩, .inl ⟨_, hp.symm, hJ3⟩⟩
      · gi_wp2
        go_end0
        exact ⟨⟨_, rfl⟩, .inr ⟨_, hJx3⟩⟩
    · obtain ⟨k, hk⟩ : ∃ k : Nat, Lib.indexByte (bl rest) 46 = k := ⟨(Lib.indexByte (bl rest) 46).toNat, by omega⟩
      rw [hk] at hneg
      have hkl : k < rest.size := by
        have := (Lib.indexByte_some hk).1
        exact (List.getElem?_eq_some_iff.1 this).1
      have w1 : wrap64 (k : Int) = k := by unfold wrap64; omega
      have w2 : wrap64 ((k : Int) + (dot.size : Nat)) = ((k + 1 : Nat) : Int) := by rw [show dot.size = 1 from rfl]; unfold wrap64; omega
      have hk1 : ((k + 1 : Nat) : Int) ≤ rest.size := by omega
      have hk0 : (0 : Int) ≤ ((k + 1 : Nat) : Int) := by omega
      have tn : (((k + 1 : Nat) : Int)).toNat = k + 1 := rfl
      obtain ⟨q, hq⟩ : ∃ q : Nat, k + 1 = q := ⟨_, rfl⟩
      rw [hq] at w2 hk1 hk0 tn
      obtain ⟨fn, tmps, assign, body, hy, hR⟩ := hY pre ((bl rest).take k) wr hj (by obtain ⟨n', rfl⟩ : ∃ n', n = n' + 1 := ⟨n - 1, by omega⟩; rw [hp]; simp [piecesF, hk, hneg])
      rw [cut_head] at hy
      gi_wp2_with (refine ⟨trivial, ?_⟩; gi_at_call 291; refine (index_dot rest _).mono ?_; rintro e w' ⟨rfl, rfl⟩; rw [hk])
      refine hR.mono ?_
      have b2 := b2
      rintro e W3 (⟨rfl, hJ3, hk3⟩ | ⟨rfl, hJx3⟩)
      · have b1' : Boxed W3 B1 9 (.string dot) := (hk3 B1 (.inl rfl)).trans b1
        have b2' : Boxed W3 B2 9 (.string rest) := (hk3 B2 (.inr (.inl rfl))).trans b2
        have b3' : Boxed W3 B3 3 (.int .i64 0) := (hk3 B3 (.inr (.inr rfl))).trans b3
        have c1 := b1'.cell
        have c2 := b2'.cell
        have f2 := b2'.frozen
        gi_wp2
        refine ⟨⟨_, _, _, _, _, _, _, _, _, _, _, _, _, _, _, _, _, _, _, _, _, _, ⟨pre ++ [(bl rest).take k], rest.extract q rest.size, n - 1, ?_, ?_, ?_, hJ _ _ _ _ hJ3 b2', b1'.kept (grownBy_setCell' _ _ _) (by simpa using d12), b2'.set _, b3'.kept (grownBy_setCell' _ _ _) (by simpa using d32)⟩, rfl⟩, ?_⟩
        · obtain ⟨n', rfl⟩ : ∃ n', n = n' + 1 := ⟨n - 1, by omega⟩
          rw [hp, cut_tail, ← hq]
          simp [piecesF, hk]
          omega
        · rw [size_tail]; omega
        · rw [size_tail]; omega
        · rw [boxLen_of b2, boxLen_of (b2'.set _), size_tail]
          omega
      · gi_wp2
        refine bodyPost_ret (results_none rfl _ _ _) rfl ?_
        exact ⟨⟨_, rfl⟩, .inr ⟨_, hJx3⟩⟩
theorem wp_split {g : Operand} {p : Tmp} {assign body : Code} {Q : Exit → Act → World → Prop} {a : Act} {w : World} {B1 B2 B3 : Nat} (s0 : ByteArray)
    (hg : a.eval g = .func (.func 289) #[] #[.pointer (some ⟨B1, 0, none⟩), .pointer (some ⟨B2, 0, none⟩), .pointer (some ⟨B3, 0, none⟩)])
    (hlim : s0.size ≤ 1000000) (h1 : Boxed w B1 9 (.string dot)) (h2 : Boxed w B2 9 (.string s0)) (h3 : Boxed w B3 3 (.int .i64 0)) (d12 : B1 ≠ B2) (d32 : B3 ≠ B2)
    (I Ix : List (List UInt8) → World → Prop)
    (hI : ∀ pre W W' b, I pre W ∨ Ix pre W → W.grownBy W' (some b) → ((b = B2 ∧ ∃ s, Boxed W B2 9 (.string s)) ∨ (w.heap.size ≤ b ∧ ∀ o, W.heap[b]? = some o → o.isCells = false)) → (I pre W → I pre W') ∧ (Ix pre W → Ix pre W'))
    (h0 : I [] w)
    (hbody : ∀ l pre x W, I pre W → pre ++ [x] <+: piecesF 46 s0.size (bl s0) → assign.wpIn (Fence.wide.inRound l) 9 Tryz.prog (Exit.then (fun a₁ w₁ => w₁ = W ∧ ∀ W1, I pre W1 → w.heap.size ≤ W1.heap.size →
      body.wpIn (Fence.wide.inRound l) 9 Tryz.prog (fun e a3 W3 => match e with
        | .normal => KeepsOthers W1 W3 ∧ (∀ b, b < w.heap.size → b = B1 ∨ b = B2 ∨ b = B3 → W3.heap[b]? = W1.heap[b]?) ∧ I (pre ++ [x]) W3
        | .ret => KeepsOthers W1 W3 ∧ Ix (pre ++ [x]) W3
        | _ => False) a₁ W1) (fun _ _ _ => False)) { tmps := a.tmps.setIfInBounds p (.string (bsOf x)), defers := [] } W)
    (hdone : ∀ (D : Nat) (W : World), w.heap.size ≤ D → I (piecesF 46 s0.size (bl s0)) W → W.heap[D]? = some (.deferred (some [])) → Q .normal { a with defers := { target := .collected D, args := #[] } :: a.defers } W)
    (hstop : ∀ (D : Nat) (pre : List (List UInt8)) (W : World), w.heap.size ≤ D → Ix pre W → W.heap[D]? = some (.deferred (some [])) → Code.ret.wpIn Fence.wide 11 Tryz.prog Q { a with defers := { target := .collected D, args := #[] } :: a.defers } W) :
    (Code.rangeFunc g #[p] assign body).wpIn Fence.wide 11 Tryz.prog Q a w := by
  refine wpIn_rangeFunc ?_
  intro fn hfn
  obtain ⟨rec, hrec⟩ : ∃ rec : LoopState → Option Code → Loop, rec = fun st pe => { state := st, pending := pe, fn, tmps := a.tmps, params := #[p], assign, body, defers := w.heap.size } := ⟨_, rfl⟩
  obtain ⟨W1, hW1⟩ : ∃ W1, (w.alloc (.deferred (some []))).alloc (.loop (rec .ready none)) = W1 := ⟨_, rfl⟩
  obtain ⟨L, hL⟩ : ∃ L, L = w.heap.size + 1 := ⟨_, rfl⟩
  obtain ⟨D, hD⟩ : ∃ D, D = w.heap.size := ⟨_, rfl⟩
  have lt1 := h1.lt
  have lt2 := h2.lt
  have lt3 := h3.lt
  have hL1 : W1.heap[L]? = some (.loop (rec .ready none)) := by
    rw [← hW1, hL]; have := World.alloc_heap_new (w.alloc (.deferred (some []))) (.loop (rec .ready none)); rwa [World.size_alloc] at this
  have hD1 : W1.heap[D]? = some (.deferred (some [])) := by
    rw [← hW1, hD]; exact (Below.heap_alloc _ _ _ (by simp)).trans (World.alloc_heap_new w _)
  have hsz1 : w.heap.size ≤ W1.heap.size := by rw [← hW1, World.size_alloc, World.size_alloc]; omega
  have alloc1 : ∀ (W : World) (o : Obj), W.grownBy (W.alloc o) (some W.heap.size) := fun W o => ⟨rfl, rfl, rfl, by simp, fun k hk _ => Below.heap_alloc W o k hk⟩
  have hI1 : I [] W1 := by
    rw [← hW1]
    refine (hI _ _ _ _ (.inl ?_) (alloc1 _ _) (.inr ⟨by simp, fun o ho => by simp at ho⟩)).1 ?_ <;>
      exact (hI _ _ _ _ (.inl h0) (alloc1 _ _) (.inr ⟨Nat.le_refl _, fun o ho => by simp at ho⟩)).1 h0
  have old : ∀ b, b < w.heap.size → W1.heap[b]? = w.heap[b]? := fun b hb => by
    rw [← hW1]
    exact (Below.heap_alloc _ _ _ (by simp; omega)).trans (Below.heap_alloc _ _ _ hb)
  refine ⟨L, [{ target := .collected D, args := #[] }], W1, { target := .fn (.func 289) #[.pointer (some ⟨B1, 0, none⟩), .pointer (some ⟨B2, 0, none⟩), .pointer (some ⟨B3, 0, none⟩)], args := #[.func (.yield L) #[] #[]] }, W1, 289,
    #[.func (.yield L) #[] #[], .pointer (some ⟨B1, 0, none⟩), .pointer (some ⟨B2, 0, none⟩), .pointer (some ⟨B3, 0, none⟩)], W1, ?_, ?_, ?_, ?_, fun h => by simp, ?_⟩
  · rw [← hW1, hrec, hL, hD]; exact run_enterLoop_outer _ _ _ _ _
  · simp only [resolve, hg]
    simp [go_sem]
  · intro f' hf'; trivial
  · simp [invoke, go_sem, callFunc, Tryz.func289, Tryz.f289]
  · have turn : ∀ {pre W} (o o' : Obj) (b : Nat), I pre W ∨ Ix pre W → w.heap.size ≤ b → W.heap[b]? = some o → o.isCells = false → (I pre W → I pre (W.putObj b o')) ∧ (Ix pre W → Ix pre (W.putObj b o')) := fun {pre W} o o' b h hb ho hc =>
      hI pre W _ b h (grownBy_putObj' W b o') (.inr ⟨hb, fun o2 h2 => by rw [ho] at h2; cases h2; exact hc⟩)
    refine (split1_in L B1 B2 B3 s0 (fun pre W => I pre W ∧ w.heap.size ≤ W.heap.size ∧ W.heap[L]? = some (.loop (rec .ready none)) ∧ W.heap[D]? = some (.deferred (some [])))
      (fun pre W => Ix pre W ∧ W.heap[L]? = some (.loop (rec .done (some .ret))) ∧ W.heap[D]? = some (.deferred (some []))) ?_ ?_ W1 hlim ((old _ lt1).trans h1) ((old _ lt2).trans h2) ((old _ lt3).trans h3) d12 d32 ⟨hI1, hsz1, hL1, hD1⟩).mono ?_
    · rintro pre W s s' ⟨hi, hsz, hl, hd⟩ hb
      have hg' := grownBy_setCell' W B2 (.string s')
      refine ⟨(hI _ _ _ _ (.inl hi) hg' (.inl ⟨rfl, s, hb⟩)).1 hi, Nat.le_trans hsz hg'.size, (hg'.block L (Array.getElem?_eq_some_iff.1 hl).1 (by simp; omega)).trans hl, (hg'.block D (Array.getElem?_eq_some_iff.1 hd).1 (by simp; omega)).trans hd⟩
    · rintro pre x W ⟨hi, hsz, hl, hd⟩ hpre
      have hlt := (Array.getElem?_eq_some_iff.1 hl).1
      have hy := run_yield (P := Tryz.prog) (args := #[.string (bsOf x)]) hl (by rw [hrec]; rfl)
      rw [hrec] at hy
      have hy : (Instr.yield L #[.string (bsOf x)]).run Tryz.prog W = .ok (.round L fn (a.tmps.setIfInBounds p (.string (bsOf x))) assign body) W := by
        rw [hy, show (#[p].zip #[Value.string (bsOf x)]) = #[(p, Value.string (bsOf x))] from by simp]
        simp
      refine ⟨fn, _, assign, body, hy, roundIn_of_wpIn hfn (wpIn_mono (hbody L pre x W hi hpre) ?_)⟩
      intro e a₁ w₁ he
      cases e with
      | normal =>
        obtain ⟨rfl, hb⟩ := he
        have hl2 : (w₁.putObj L (.loop { rec .ready none with state := .busy })).heap[L]? = some (.loop { rec .ready none with state := .busy }) := World.putObj_heap_same hlt
        have hd2 : (w₁.putObj L (.loop { rec .ready none with state := .busy })).heap[D]? = some (.deferred (some [])) := (World.putObj_heap_other (by omega)).trans hd
        refine ⟨_, run_beginRound hl (by rw [hrec]), wpIn_mono (hb _ ((turn _ _ _ (.inl hi) (by omega) hl rfl).1 hi) (by simpa using hsz)) ?_⟩
        have fin : ∀ (jump : Option Code) (W3 : World), KeepsOthers (w₁.putObj L (.loop { rec .ready none with state := .busy })) W3 →
            (Instr.endRound L jump).run Tryz.prog W3 = .ok (.bool jump.isNone) (W3.putObj L (.loop (rec (if jump.isNone then .ready else .done) jump))) ∧
            W3.heap[L]? = some (.loop { rec .ready none with state := .busy }) ∧
            (W3.putObj L (.loop (rec (if jump.isNone then .ready else .done) jump))).heap[L]? = some (.loop (rec (if jump.isNone then .ready else .done) jump)) ∧
            (W3.putObj L (.loop (rec (if jump.isNone then .ready else .done) jump))).heap[D]? = some (.deferred (some [])) := fun jump W3 hk3 => by
          have hl3 := hk3.same _ _ hl2 rfl
          have := run_endRound (P := Tryz.prog) jump hl3
          rw [hrec] at this ⊢
          exact ⟨this, by rw [hrec] at hl3; exact hl3, World.putObj_heap_same (Array.getElem?_eq_some_iff.1 hl3).1, (World.putObj_heap_other (by omega)).trans (hk3.same _ _ hd2 rfl)⟩
        intro e3 a3 W3 hp
        cases e3 with
        | normal =>
          obtain ⟨hk3, hb3, hi3⟩ := hp
          obtain ⟨hr, hl3, hl4, hd4⟩ := fin none W3 hk3
          refine ⟨_, _, hr, .inl ⟨rfl, ⟨(turn _ _ _ (.inl hi3) (by omega) hl3 rfl).1 hi3, ?_, hl4, hd4⟩, fun b hb' => ?_⟩⟩
          · have := hk3.size
            simp at this ⊢
            omega
          · have hbl : b < w.heap.size := by rcases hb' with rfl | rfl | rfl <;> assumption
            exact ((World.putObj_heap_other (by omega)).trans (hb3 b hbl hb')).trans (World.putObj_heap_other (by omega))
        | ret =>
          obtain ⟨hk3, hi3⟩ := hp
          obtain ⟨hr, hl3, hl4, hd4⟩ := fin (some .ret) W3 hk3
          exact ⟨_, _, hr, .inr ⟨rfl, (turn _ _ _ (.inr hi3) (by omega) hl3 rfl).2 hi3, hl4, hd4⟩⟩
        | _ => exact hp.elim
      | _ => exact he.elim
    · rintro e W2 ⟨⟨v, rfl⟩, (⟨ys, rfl, hi, _, hl, hd⟩ | ⟨pre, hi, hl, hd⟩)⟩
      · exact ⟨none, _, by have := run_endLoop (P := Tryz.prog) hl (by rw [hrec]; simp); rw [hrec] at this; exact this, hdone D _ (by omega) ((turn _ _ _ (.inl hi) (by omega) hl rfl).1 hi) ((World.putObj_heap_other (by omega)).trans hd)⟩
      · exact ⟨some .ret, _, by have := run_endLoop (P := Tryz.prog) hl (by rw [hrec]; simp); rw [hrec] at this; exact this, hstop D pre _ (by omega) ((turn _ _ _ (.inr hi) (by omega) hl rfl).2 hi) ((World.putObj_heap_other (by omega)).trans hd)⟩
open Go.RowKit Go.Shelf
attribute [local go_sem] Oper.semAt_some
def partOf (l : List UInt8) : Option Int := match Lib.atoiAll l with
  | .ok n => if 1 ≤ n ∧ n ≤ 99 ∧ Lib.decDigits n.toNat = l then some n else none
  | _ => none
def partsD (s : ByteArray) : List Int := match (piecesF 46 s.size (bl s)).mapM partOf with
  | some ns => if ns.length ≤ 4 then ns else []
  | none => []
theorem pieces_len (c : UInt8) : ∀ (n : Nat) (l x : List UInt8), x ∈ piecesF c n l → x.length ≤ l.length
  | 0, l, x, h => by simp [piecesF] at h; simp [h]
  | n + 1, l, x, h => by
    unfold piecesF at h
    split at h
    · simp at h; simp [h]
    · rcases List.mem_cons.1 h with rfl | h
      · rw [List.length_take]; omega
      · have := pieces_len c n _ _ h
        rw [List.length_drop] at this
        omega
theorem pieces_count (c : UInt8) : ∀ (n : Nat) (l : List UInt8), (piecesF c n l).length ≤ n + 1
  | 0, l => by simp [piecesF]
  | n + 1, l => by
    unfold piecesF
    split
    · simp
    · have := pieces_count c n (l.drop ((Lib.indexByte l c).toNat + 1))
      simp
      omega
theorem mapM_len : ∀ {l : List (List UInt8)} {ns : List Int}, l.mapM partOf = some ns → ns.length = l.length
  | [], ns, h => by simp at h; simp [h]
  | x :: l, ns, h => by
    simp only [List.mapM_cons, Option.bind_eq_bind, Option.bind_eq_some_iff, Option.pure_def, Option.some.injEq] at h
    obtain ⟨a, _, b, hb, rfl⟩ := h
    simp [mapM_len hb]
theorem gOf {W W' : World} (hb : Below W.heap.size W W') : W.grownBy W' none := ⟨hb.os, hb.tape, hb.output, hb.size, fun k hk _ => hb.block k hk⟩
theorem owns_base {W : World} {b b' : Nat} {e : TypeId} {size k : Nat} {v : Value} {xs : List Value} (h : W.ownsRow b e size v k xs) (hb : b' ≤ b) : W.ownsRow b' e size v k xs := by
  refine ⟨h.1, ?_⟩
  rcases h.2 with ⟨rfl, h0⟩ | ⟨g, cap, cur, rfl, h1, h2⟩
  · exact .inl ⟨rfl, h0⟩
  · exact .inr ⟨g, cap, cur, rfl, by omega, h2⟩
theorem owns_far {W : World} {b : Nat} {e : TypeId} {size k : Nat} {v : Value} {xs : List Value} (h : W.ownsRow b e size v k xs) {j : Nat} (hj : j < b) : some j ≠ v.ownBlock := by
  rcases h.2 with ⟨rfl, h0⟩ | ⟨g, cap, cur, rfl, h1, h2⟩
  · simp [Value.ownBlock]
  · simp [Value.ownBlock]; omega
theorem atoi_ok_in (n : Nat) (s : ByteArray) (hlim : s.size ≤ 1000000) (v : Int) (h : Lib.atoiAll (bl s) = .ok v) (w : World) :
    CallsIn Fence.wide n Tryz.prog 210 #[.string s] w fun e w' => e = .returned (.tuple #[.int .i64 v, .nilIface]) ∧ Below w.heap.size w w' := by
  refine callsIn_wide.2 ((strconv_Atoi_ok s (by omega) v h w).mono ?_)
  rintro e w' ⟨rfl, hw⟩
  refine ⟨rfl, ?_⟩
  rcases hw with rfl | ⟨t, rfl⟩
  · exact Below.refl _ _
  · exact Lib.bytesWorld_below _ _ _
theorem atoi_bad_in (n : Nat) (s : ByteArray) (hlim : s.size ≤ 1000000) (h : ∀ v, Lib.atoiAll (bl s) ≠ .ok v) (w : World) (hv : ∀ g, g ∈ ([0, 1] : List Nat) → ∃ t p, w.cell? ⟨g, 0, none⟩ = some (.iface t p)) :
    CallsIn Fence.wide n Tryz.prog 210 #[.string s] w fun e w' => ∃ v t p, e = .returned (.tuple #[.int .i64 v, .iface t p]) ∧ Below w.heap.size w w' := by
  obtain ⟨t1, p1, e1⟩ := hv 0 (by simp)
  obtain ⟨t2, p2, e2⟩ := hv 1 (by simp)
  refine callsIn_wide.2 ?_
  rcases hh : Lib.atoiAll (bl s) with v | _ | _
  · exact absurd hh (h v)
  · refine (Any.strconv_Atoi_syntax laysC172 s (by omega) hh _ w e1 (.inr ⟨_, _, rfl⟩)).mono ?_
    rintro e w' ⟨N, rfl, _, _, hb⟩
    exact ⟨_, _, _, rfl, hb⟩
  · refine (Any.strconv_Atoi_range laysC172 s (by omega) hh _ w e2 (.inr ⟨_, _, rfl⟩)).mono ?_
    rintro e w' ⟨N, rfl, _, _, hb⟩
    exact ⟨_, _, _, rfl, hb⟩
theorem itoa_in (n : Nat) (i : Nat) (hi : i < 100) (w : World) : CallsIn Fence.wide n Tryz.prog 211 #[.int .i64 i] w fun e w' => e = .returned (.string (bsOf (Lib.decDigits i))) ∧ w' = w := callsIn_wide.2 (strconv_Itoa_small i hi w)
set_option maxHeartbeats 1000000 in
theorem splitSeqI_in (n : Nat) (s : ByteArray) (w : World) :
    CallsIn Fence.wide n Tryz.prog 256 #[.string s, .string dot, .int .i64 0] w fun e w' => e = .returned (.func (.func 289) #[] #[.pointer (some ⟨w.heap.size + 1, 0, none⟩), .pointer (some ⟨w.heap.size, 0, none⟩), .pointer (some ⟨w.heap.size + 2, 0, none⟩)]) ∧
      w' = ((w.alloc (.cells #[.string s] 9)).alloc (.cells #[.string dot] 9)).alloc (.cells #[.int .i64 0] 3) := by
  refine callsIn_of_wp Tryz.func256 rfl trivial ?_ rfl
  simp only [Tryz.ntmps256, List.size_toArray, List.length_cons, List.length_nil, Nat.reduceAdd, Nat.reduceSub, Array.replicate_succ, Array.replicate_zero, List.push_toArray, List.append_toArray, List.nil_append, List.cons_append]
  gi_wp2
  go_ret
  exact ⟨rfl, rfl⟩
set_option maxHeartbeats 1000000 in
theorem splitSeq_in (n : Nat) (s : ByteArray) (w : World) :
    CallsIn Fence.wide n Tryz.prog 209 #[.string s, .string dot] w fun e w' => e = .returned (.func (.func 289) #[] #[.pointer (some ⟨w.heap.size + 1, 0, none⟩), .pointer (some ⟨w.heap.size, 0, none⟩), .pointer (some ⟨w.heap.size + 2, 0, none⟩)]) ∧
      w' = ((w.alloc (.cells #[.string s] 9)).alloc (.cells #[.string dot] 9)).alloc (.cells #[.int .i64 0] 3) := by
  refine callsIn_of_wp Tryz.func209 rfl trivial ?_ rfl
  simp only [Tryz.ntmps209, List.size_toArray, List.length_cons, List.length_nil, Nat.reduceAdd, Nat.reduceSub, Array.replicate_succ, Array.replicate_zero, List.push_toArray, List.append_toArray, List.nil_append, List.cons_append]
  gi_wp2_with (refine ⟨trivial, fun h => (by cases h), ?_⟩; gi_at_call 256; refine (splitSeqI_in _ s _).mono ?_; rintro e w' ⟨rfl, rfl⟩)
  go_ret
  exact ⟨rfl, rfl⟩
theorem info_int : (Tryz.prog.info? 3).map (fun i => (i.zero, i.size, i.bytes)) = some (some (.int .i64 0), 1, 8) := by kernel_rfl
theorem res_cell {tmps : Array Value} {b : Nat} {W : World} {v : Value} (ht : tmps[2]?.getD undef = .pointer (some ⟨b, 0, none⟩)) (h : Boxed W b 22 v) : (results Tryz.f166 tmps).run Tryz.prog W = .ok v W := by
  simp [results, Tryz.f166, Sem.run_bind, ht, asAddr, loadVar, Tryz.isAgg22, h.cell, Result.andThen]
theorem parts_end {tmps : Array Value} {w W : World} {D : Nat} {v : Value} {s : ByteArray} (ht : tmps[2]?.getD undef = .pointer (some ⟨w.heap.size, 0, none⟩)) (h : Boxed W w.heap.size 22 v) (h6 : Below w.heap.size w W) (hd : W.heap[D]? = some (.deferred (some []))) (hD : w.heap.size < D)
    (ho : W.ownsRow w.heap.size 3 1 v (partsD s).length ((partsD s).map (Value.int .i64))) (hn : v = .slice none 0 0 ↔ partsD s = []) :
    bodyPostM Fence.wide 11 Tryz.prog Tryz.f166 (fun e W' => ∃ v, e = .returned v ∧ W'.ownsRow w.heap.size 3 1 v (partsD s).length ((partsD s).map (Value.int .i64)) ∧ (v = .slice none 0 0 ↔ partsD s = []) ∧ Below w.heap.size w W')
      .ret { tmps := tmps, defers := [{ target := .collected D, args := #[] }] } W := by
  refine ⟨by simp, .inl ⟨_, _, rfl, run_takeDeferred hd, ?_⟩⟩
  exact ⟨v, res_cell ht (h.kept (grownBy_putObj' _ _ _) (by simp; omega)), v, rfl, ownsRow_putObj ho _ hd rfl, hn, h6.grown (grownBy_putObj' _ _ _) (by have := h.lt; omega) (fun k e => by cases e; omega)⟩
set_option maxRecDepth 100000 in
set_option maxHeartbeats 4000000 in
theorem parts_in (s : ByteArray) (hlim : s.size ≤ 1000000) (w : World) (hv : ∀ g, g ∈ ([0, 1] : List Nat) → g < w.heap.size ∧ ∃ t p, w.cell? ⟨g, 0, none⟩ = some (.iface t p)) :
    CallsIn Fence.wide 11 Tryz.prog 166 #[.string s] w fun e W' => ∃ v, e = .returned v ∧ W'.ownsRow w.heap.size 3 1 v (partsD s).length ((partsD s).map (Value.int .i64)) ∧ (v = .slice none 0 0 ↔ partsD s = []) ∧ Below w.heap.size w W' := by
  obtain ⟨i0, hi, hz0, hz1, hz2⟩ := info_parts info_int
  refine callsIn_of_wp_marks Tryz.func166 rfl trivial ?_ rfl
  simp only [Tryz.ntmps166, List.size_toArray, List.length_cons, List.length_nil, Nat.reduceAdd, Nat.reduceSub, Array.replicate_succ, Array.replicate_zero, List.push_toArray, List.append_toArray, List.nil_append, List.cons_append]
  gi_wp2_with (refine ⟨trivial, ?_⟩; gi_at_call 209; refine (splitSeq_in _ s _).mono ?_; rintro e w' ⟨rfl, rfl⟩)
  obtain ⟨n0, hn0⟩ : ∃ n0, n0 = w.heap.size := ⟨_, rfl⟩
  obtain ⟨W0, hW0⟩ : ∃ W0, (((((w.alloc (Obj.cells #[Value.slice none 0 0] 22)).alloc (Obj.cells #[Value.slice none 0 0] 22)).alloc (Obj.cells #[Value.string s] 9)).alloc (Obj.cells #[Value.string dot] 9)).alloc (Obj.cells #[Value.int IntKind.i64 0] 3)) = W0 := ⟨_, rfl⟩
  have bR : Boxed W0 n0 22 (.slice none 0 0) := by
    rw [← hW0, hn0]
    exact ((((Boxed.new w _ _).alloc _).alloc _).alloc _).alloc _
  have bO : Boxed W0 (n0 + 1) 22 (.slice none 0 0) := by
    rw [← hW0, hn0]
    have := Boxed.new (w.alloc (Obj.cells #[Value.slice none 0 0] 22)) 22 (.slice none 0 0)
    rw [World.size_alloc] at this
    exact (((this).alloc _).alloc _).alloc _
  have b2 : Boxed W0 (n0 + 2) 9 (.string s) := by
    rw [← hW0, hn0]
    have := Boxed.new ((w.alloc (Obj.cells #[Value.slice none 0 0] 22)).alloc (Obj.cells #[Value.slice none 0 0] 22)) 9 (.string s)
    rw [World.size_alloc, World.size_alloc] at this
    exact ((this).alloc _).alloc _
  have b1 : Boxed W0 (n0 + 3) 9 (.string dot) := by
    rw [← hW0, hn0]
    have := Boxed.new (((w.alloc (Obj.cells #[Value.slice none 0 0] 22)).alloc (Obj.cells #[Value.slice none 0 0] 22)).alloc (Obj.cells #[Value.string s] 9)) 9 (.string dot)
    rw [World.size_alloc, World.size_alloc, World.size_alloc] at this
    exact this.alloc _
  have b3 : Boxed W0 (n0 + 4) 3 (.int .i64 0) := by
    rw [← hW0, hn0]
    have := Boxed.new ((((w.alloc (Obj.cells #[Value.slice none 0 0] 22)).alloc (Obj.cells #[Value.slice none 0 0] 22)).alloc (Obj.cells #[Value.string s] 9)).alloc (Obj.cells #[Value.string dot] 9)) 3 (.int .i64 0)
    rwa [World.size_alloc, World.size_alloc, World.size_alloc, World.size_alloc] at this
  have sz0 : W0.heap.size = n0 + 5 := by rw [← hW0, hn0]; simp [World.size_alloc]
  have hB0 : Below n0 w W0 := by
    rw [← hW0]
    exact (((((Below.refl n0 w).alloc (by omega) _).alloc (by simp; omega) _).alloc (by simp; omega) _).alloc (by simp; omega) _).alloc (by simp; omega) _
  rw [hW0]
  clear hW0
  subst hn0
  refine wp_split (B1 := w.heap.size + 3) (B2 := w.heap.size + 2) (B3 := w.heap.size + 4) s rfl hlim b1 b2 b3 (by omega) (by omega)
    (fun pre W => ∃ v ns, pre.mapM partOf = some ns ∧ Boxed W w.heap.size 22 (.slice none 0 0) ∧ Boxed W (w.heap.size + 1) 22 v ∧ W.ownsRow (w.heap.size + 5) 3 1 v ns.length (ns.map (Value.int .i64)) ∧ (v = .slice none 0 0 ↔ ns = []) ∧ Below w.heap.size w W)
    (fun pre W => pre.mapM partOf = none ∧ pre <+: piecesF 46 s.size (bl s) ∧ Boxed W w.heap.size 22 (.slice none 0 0) ∧ Below w.heap.size w W)
    ?hI ⟨_, [], rfl, bR, bO, World.ownsRow_nil _ _ _ _, by simp, hB0⟩ ?body ?done ?stop
  case hI =>
    rintro pre W W' b _ hg hb
    have h1 : some w.heap.size ≠ some b ∧ some (w.heap.size + 1) ≠ some b ∧ w.heap.size ≤ b := by
      rcases hb with ⟨rfl, _⟩ | ⟨h, _⟩
      · simp
      · simp; omega
    refine ⟨?_, ?_⟩
    · rintro ⟨v, ns, e1, e2, e3, e4, e5, e6⟩
      refine ⟨v, ns, e1, e2.kept hg h1.1, e3.kept hg h1.2.1, e4.kept hg ?_, e5, e6.grown hg (by have := e2.lt; omega) (fun k e => by cases e; exact h1.2.2)⟩
      rcases hb with ⟨rfl, s', hs'⟩ | ⟨_, h⟩
      · exact .inr (hs'.not_row (by decide) e4).symm
      · rcases e4.2 with ⟨rfl, _⟩ | ⟨g, cap, cur, rfl, _, hgb, _⟩
        · exact .inl rfl
        · refine .inr fun e' => ?_
          obtain rfl : g = b := by simpa [Value.ownBlock] using e'
          have := h _ hgb
          cases this
    · rintro ⟨e1, e2, e3, e4⟩
      exact ⟨e1, e2, e3.kept hg h1.1, e4.grown hg (by have := e3.lt; omega) (fun k e => by cases e; exact h1.2.2)⟩
  case body =>
    intro l pre x W hW hpre
    gi_wp2
    refine ⟨trivial, ?_⟩
    clear hW W
    rintro W ⟨v, ns, e1, e2, e3, e4, e5, e6⟩ hsz
    have c2 := e2.cell
    have f2 := e2.frozen
    have c3 := e3.cell
    have f3 := e3.frozen
    have hlx : (bsOf x).size ≤ 1000000 := by
      have := pieces_len 46 s.size (bl s) x (hpre.subset (by simp))
      have e : (bsOf x).size = x.length := rfl
      have e2 : s.size = (bl s).length := rfl
      omega
    have hcnt := pieces_count 46 s.size (bl s)
    have hpl := hpre.length_le
    rw [List.length_append, List.length_singleton] at hpl
    have hns := Nat.le_of_eq (mapM_len e1)
    have bad : partOf x = none → (Code.ret).wpIn (Fence.wide.inRound l) 9 Tryz.prog (fun e a3 W3 => True) { tmps := #[], defers := [] } W → True := fun _ _ => trivial
    clear bad
    by_cases hok : ∃ m, Lib.atoiAll x = .ok m
    · obtain ⟨m, hm⟩ := hok
      by_cases hm1 : 1 ≤ m ∧ m ≤ 99
      · obtain ⟨i, rfl⟩ : ∃ i : Nat, m = i := ⟨m.toNat, by omega⟩
        by_cases hd : Lib.decDigits i = x
        · have hp : partOf x = some (i : Int) := by simp [partOf, hm, hm1, hd]
          gi_wp2_with (first | (refine ⟨trivial, ?_⟩; first | (gi_at_call 210; refine (CallsIn.inRound l (atoi_ok_in _ _ hlx _ hm _)).mono ?_; rintro e W2 ⟨rfl, hb⟩; have g := gOf hb; have gs := g.size; have k0 := KeepsOthers.of_grownBy g (fun j o e => (by cases e)); have e6 := e6.grown g (by have := e2.lt; omega) (fun k e => (by cases e)); have e2 := e2.kept g (by simp); have e3 := e3.kept g (by simp); have e4 := e4.kept g (Classical.em _); have c2 := e2.cell; have f2 := e2.frozen; have c3 := e3.cell; have f3 := e3.frozen) | (gi_at_call 211; refine (CallsIn.inRound l (itoa_in _ i (by omega) _)).mono ?_; rintro e W3 ⟨rfl, rfl⟩)) | (gi_at_builtin; refine wpListIn_append_own _ rfl _ _ 22 rfl (w.heap.size + 5) 3 i0 (.int .i64 0) 1 8 Tryz.underlying22 hi hz0 hz1 hz2 rfl (by decide) _ _ _ rfl (e4.alloc _) ⟨W3.heap.size, 0, none⟩ 1 1 [.int .i64 i] rfl rfl (cell_one_new _ _ _) (by simp [Value.oneCell']) (by unfold maxLen; omega) (by omega) (by simp; omega) ?_; intro v' w1 hown' hgrow _; obtain ⟨g', cap', rfl⟩ := ownsRow_succ hown'; obtain ⟨hv1, hv2, hr2, hk2, hb2⟩ := e3.appended (n₀ := w.heap.size) (by decide) (owns_base e4 (by omega)) e6.size (by omega) (owns_base hown' (by omega)) hgrow; have hc1 := hv1.cell; have hf1 := hv1.frozen))
          have z1 := hgrow.size
          rw [World.size_alloc] at z1
          refine ⟨k0.trans hk2, fun b hb5 hb3 => ?_, ((e2.alloc _).kept hgrow (owns_far e4 (by omega))).kept (grownBy_setCell' _ _ _) (by simp), _, hv2, hown'.kept (grownBy_setCell' _ _ _) (.inr (hv1.not_row (by decide) hown').symm), by simp, e6.trans hb2⟩
          exact ((grownBy_setCell' _ _ _).block b (by omega) (by simp; omega)).trans ((hgrow.block b (by rw [World.size_alloc]; omega) (owns_far e4 (by omega))).trans ((Below.heap_alloc _ _ _ (by omega)).trans (g.block b (by omega) (by simp))))
        · have hp : partOf x = none := by simp [partOf, hm, hm1, hd]
          have d1 : decide ((i : Int) < 1) = false := decide_eq_false (by omega)
          have d2 : decide ((99 : Int) < i) = false := decide_eq_false (by omega)
          have hne : ((bsOf (Lib.decDigits i)).toList == (bsOf x).toList) = false := by
            rw [beq_eq_false_iff_ne, ByteArray.toList_eq, ByteArray.toList_eq]
            exact hd
          gi_wp2_with (refine ⟨trivial, ?_⟩; first | (gi_at_call 210; refine (CallsIn.inRound l (atoi_ok_in _ _ hlx _ hm _)).mono ?_; rintro e W2 ⟨rfl, hb⟩; have g := gOf hb; have gs := g.size; have k0 := KeepsOthers.of_grownBy g (fun j o e => (by cases e)); have e6 := e6.grown g (by have := e2.lt; omega) (fun k e => (by cases e)); have e2 := e2.kept g (by simp); have e3 := e3.kept g (by simp); have e4 := e4.kept g (Classical.em _); have c2 := e2.cell; have f2 := e2.frozen; have c3 := e3.cell; have f3 := e3.frozen) | (gi_at_call 211; refine (CallsIn.inRound l (itoa_in _ i (by omega) _)).mono ?_; rintro e W3 ⟨rfl, rfl⟩))
          exact ⟨k0.trans (KeepsOthers.setCell _ _ _), e2.set _, e6.setCell (p := ⟨w.heap.size, 0, none⟩) (Nat.le_refl _) _⟩
      · have hp : partOf x = none := by simp [partOf, hm]; intro h1 h2; exact absurd ⟨h1, h2⟩ hm1
        by_cases hlow : m < 1
        · have d1 : decide (m < 1) = true := decide_eq_true hlow
          gi_wp2_with (refine ⟨trivial, ?_⟩; gi_at_call 210; refine (CallsIn.inRound l (atoi_ok_in _ _ hlx _ hm _)).mono ?_; rintro e W2 ⟨rfl, hb⟩; have g := gOf hb; have gs := g.size; have k0 := KeepsOthers.of_grownBy g (fun j o e => (by cases e)); have e6 := e6.grown g (by have := e2.lt; omega) (fun k e => (by cases e)); have e2 := e2.kept g (by simp); have e3 := e3.kept g (by simp); have e4 := e4.kept g (Classical.em _); have c2 := e2.cell; have f2 := e2.frozen; have c3 := e3.cell; have f3 := e3.frozen)
          refine ⟨trivial, ?_⟩
          gi_wp2
          exact ⟨k0.trans (KeepsOthers.setCell _ _ _), e2.set _, e6.setCell (p := ⟨w.heap.size, 0, none⟩) (Nat.le_refl _) _⟩
        · have d1 : decide (m < 1) = false := decide_eq_false hlow
          have d2 : decide ((99 : Int) < m) = true := decide_eq_true (by omega)
          gi_wp2_with (refine ⟨trivial, ?_⟩; gi_at_call 210; refine (CallsIn.inRound l (atoi_ok_in _ _ hlx _ hm _)).mono ?_; rintro e W2 ⟨rfl, hb⟩; have g := gOf hb; have gs := g.size; have k0 := KeepsOthers.of_grownBy g (fun j o e => (by cases e)); have e6 := e6.grown g (by have := e2.lt; omega) (fun k e => (by cases e)); have e2 := e2.kept g (by simp); have e3 := e3.kept g (by simp); have e4 := e4.kept g (Classical.em _); have c2 := e2.cell; have f2 := e2.frozen; have c3 := e3.cell; have f3 := e3.frozen)
          refine ⟨trivial, ?_⟩
          gi_wp2
          exact ⟨k0.trans (KeepsOthers.setCell _ _ _), e2.set _, e6.setCell (p := ⟨w.heap.size, 0, none⟩) (Nat.le_refl _) _⟩
    · have hbad : ∀ v, Lib.atoiAll (bl (bsOf x)) ≠ .ok v := fun v h => hok ⟨v, h⟩
      have hp : partOf x = none := by
        unfold partOf
        split
        · rename_i n h; exact absurd ⟨n, h⟩ hok
        · rfl
      have hv' : ∀ g, g ∈ ([0, 1] : List Nat) → ∃ t p, W.cell? ⟨g, 0, none⟩ = some (.iface t p) := fun g hg => by
        obtain ⟨h1, t, p, h2⟩ := hv g hg
        exact ⟨t, p, (e6.cell (p := ⟨g, 0, none⟩) h1).trans h2⟩
      gi_wp2_with (refine ⟨trivial, ?_⟩; gi_at_call 210; refine (CallsIn.inRound l (atoi_bad_in _ _ hlx hbad _ hv')).mono ?_; rintro e W2 ⟨vv, tt, pp, rfl, hb⟩; have g := gOf hb; have gs := g.size; have k0 := KeepsOthers.of_grownBy g (fun j o e => (by cases e)); have e6 := e6.grown g (by have := e2.lt; omega) (fun k e => (by cases e)); have e2 := e2.kept g (by simp); have e3 := e3.kept g (by simp); have e4 := e4.kept g (Classical.em _); have c2 := e2.cell; have f2 := e2.frozen; have c3 := e3.cell; have f3 := e3.frozen)
      refine ⟨trivial, ?_⟩
      gi_wp2
      exact ⟨k0.trans (KeepsOthers.setCell _ _ _), e2.set _, e6.setCell (p := ⟨w.heap.size, 0, none⟩) (Nat.le_refl _) _⟩
  case done =>
    rintro D W hD ⟨v, ns, e1, e2, e3, e4, e5, e6⟩ hd
    have c2 := e2.cell
    have f2 := e2.frozen
    have c3 := e3.cell
    have f3 := e3.frozen
    obtain ⟨A, c, rfl⟩ : ∃ A c, v = .slice A ns.length c := by
      rcases e4.2 with ⟨rfl, h0⟩ | ⟨g, cap, cur, rfl, _⟩
      · exact ⟨none, 0, by rw [h0]⟩
      · exact ⟨_, _, rfl⟩
    by_cases h4 : ns.length ≤ 4
    · have hp : partsD s = ns := by rw [partsD, e1]; simp [h4]
      have d4 : decide ((4 : Int) < (ns.length : Int)) = false := decide_eq_false (by omega)
      gi_wp2
      refine parts_end rfl (e2.set _) (e6.setCell (p := ⟨w.heap.size, 0, none⟩) (Nat.le_refl _) _) ?_ (by omega) ?_ (by rw [hp]; exact e5)
      · exact ((grownBy_setCell' _ _ _).block D (Array.getElem?_eq_some_iff.1 hd).1 (by simp; omega)).trans hd
      · rw [hp]
        exact owns_base (e4.kept (grownBy_setCell' _ _ _) (.inr (e2.not_row (by decide) e4).symm)) (by omega)
    · have hp : partsD s = [] := by rw [partsD, e1]; simp [h4]
      have d4 : decide ((4 : Int) < (ns.length : Int)) = true := decide_eq_true (by omega)
      gi_wp2
      refine parts_end rfl (e2.set _) (e6.setCell (p := ⟨w.heap.size, 0, none⟩) (Nat.le_refl _) _) ?_ (by omega) ?_ (by rw [hp]; simp)
      · exact ((grownBy_setCell' _ _ _).block D (Array.getElem?_eq_some_iff.1 hd).1 (by simp; omega)).trans hd
      · rw [hp]
        exact World.ownsRow_nil _ _ _ _
  case stop =>
    rintro D pre W hD ⟨e1, e2, e3, e4⟩ hd
    have hp : partsD s = [] := by
      obtain ⟨t, ht⟩ := e2
      rw [partsD, ← ht, List.mapM_append, e1]
      rfl
    gi_wp2
    refine parts_end rfl e3 e4 hd (by omega) ?_ (by rw [hp]; simp)
    rw [hp]
    exact World.ownsRow_nil _ _ _ _
end Go.Proofs.YtpllcolbcahicaaGreatDoor
namespace Go.PA
open Go.RowKit
section
variable {E : Env}
theorem Weaker.refl (s : St) : Weaker E s s := fun _ _ h => h
end
open Go.RowKit
theorem pfun_of_mfun {P : Program} {row src : Option Nat} {f : FuncId} {args : List AV} {C : AV → Heap → Prop} {Q : AV → Prop} (h : MFun P row src f args [] C)
    (hC : ∀ r H', C r H' → ∃ x, Weak (view H' r) x ∧ Imm (view H' r) ∧ Imm x ∧ Q x) : PFun P row src f args Q := by
  intro w ok vs h1 h2 h3 h4
  let E : Env := { P := P, w0 := w, okA := ok, row := row, src := src, N := 0, W := fun _ => False, ρ0 := fun _ => none, H0 := [] }
  have g : Good E w (fun _ => none) [] ok := ⟨rfl, rfl, rfl, Nat.le_refl _, fun _ _ _ _ => rfl, h2, fun b hb => ⟨(h1 b hb).1, (h1 b hb).2, .inl hb⟩, by simp, by simp, by simp, by simp⟩
  refine ((h E rfl rfl rfl).2 w (fun _ => none) ok vs g h3 h4).mono ?_
  rintro e w' ⟨v, r, H', ρ, ok', rfl, hc, g', _, hrep⟩
  obtain ⟨x, hwk, hi, hix, hx⟩ := hC r H' hc
  refine ⟨v, x, rfl, hx, hix, ?_, ⟨g'.os, g'.tape, g'.output, g'.size, fun k hk hne => g'.blk k hk (fun h => h) hne⟩, ?_⟩
  · refine Rep.weak hwk ((view_sound g' hrep hi).imm (fun b hb => ?_) hi)
    rcases hb with hb | ⟨_, _, _, ho, hρ⟩
    · obtain ⟨b1, _, b3⟩ := g'.oks b hb
      exact b3.imp id fun h => ⟨h, b1⟩
    · have hobj := g'.obj _ _ ho
      rw [hρ] at hobj
      obtain ⟨_, _, b3⟩ := g'.own _ _ b _ ho hρ
      exact .inr ⟨b3.resolve_left (fun h => h), hobj.lt⟩
  · refine ⟨⟨h2.1.1, h2.1.2.at g'.inv.1.2⟩, fun p hp => ?_⟩
    exact g'.inv.2 p hp
end Go.PA
namespace Go.Proofs.YtpllcolbcahicaaGreatDoor
open Go.PA
open Go.RowKit
theorem rep_ints {w : World} {ok : Nat → Prop} {base : Nat} {v : Value} {ns : List Int} (h : w.ownsRow base 3 1 v ns.length (ns.map (Value.int .i64))) (hok : ∀ b, base ≤ b → b < w.heap.size → ok b) : RepI w ok v (intsL ns) := by
  have hl := h.lt
  have hc := fun g hg => h.cells (g := g) hg
  rcases h.2 with ⟨rfl, h0⟩ | ⟨g, cap, cur, rfl, hb, hg, hcap, _⟩
  · rw [List.length_eq_zero_iff.1 h0]
    exact .listNil
  · obtain ⟨_, hlt⟩ := hl g rfl
    refine .list (fun i _ => .int .i64 (ns.getD i 0)) (by simp) hcap (hok g hb hlt) (by simp) ?_ (fun _ _ _ _ _ _ => rfl) ?_ <;>
    · intro i e j a he ha
      rw [List.getElem?_map, Option.map_eq_some_iff] at he
      obtain ⟨x, hx, rfl⟩ := he
      have hj : j = 0 := by have := (List.getElem?_eq_some_iff.1 ha).1; simpa using this
      subst hj
      have hd : ns.getD i 0 = x := by rw [List.getD_eq_getElem?_getD, hx]; rfl
      simp only [List.getElem?_cons_zero, Option.some.injEq] at ha
      subst ha
      simp only [hd]
      first
        | exact .sc
        | exact hc g rfl _ _ (by rw [Nat.mul_one, Nat.add_zero, List.getElem?_map, hx]; rfl)
theorem parts_pf (s : ByteArray) (hl : s.size ≤ 1000000) : PFun Tryz.prog none none 166 [.sc (.string s)] (· = intsL (partsD s)) := by
  intro w ok vs h1 h2 h3 h4
  have hv : vs = #[.string s] := by
    have h0 : 0 < vs.size := by rw [h3]; simp
    have e0 := rep_sc (h4 0 vs[0] _ (Array.getElem?_eq_getElem h0) rfl)
    apply Array.ext
    · simpa using h3
    · intro i hi hi'
      have : i = 0 := by simp at hi'; exact hi'
      subst this
      simpa using e0
  subst hv
  refine (callsIn_wide.1 (parts_in s hl w fun g hg => ?_)).mono ?_
  · have := h2.1.2 g hg
    exact ⟨(h1 g this.1).1, this.2⟩
  · rintro e W' ⟨v, rfl, ho, hn, hb⟩
    have hg : w.grownBy W' none := gOf hb
    refine ⟨v, _, rfl, rfl, by simp [intsL, go_sem], rep_ints ho (fun b h1 h2 => .inr ⟨h1, h2⟩), ?_, h2.keep (by simp) (fun _ h => h) (fun b hb' => hg.block b (h1 b hb').1 (by simp))⟩
    exact hg
open Go.PA
open Go.RowKit
section
variable {α : Type} (enc : α → List AV) (lt : α → α → Bool) (g : FuncId)
end
section
variable {α : Type} {lt : α → α → Bool}
def insR (lt : α → α → Bool) (x : α) : List α → List α
  | [] => [x]
  | y :: l => if lt x y then x :: y :: l else y :: insR lt x l
def ssort (lt : α → α → Bool) (l : List α) : List α := l.foldl (fun acc x => insR lt x acc) []
def blk (lt : α → α → Bool) (bs : Nat) : Nat → List α → List α
  | 0, _ => []
  | f + 1, l => ssort lt (l.take bs) ++ blk lt bs f (l.drop bs)
end
def btw (n lo hi : Int) : Bool := decide (lo ≤ n) && decide (n ≤ hi)
theorem btw_iff {n lo hi : Int} : btw n lo hi = true ↔ lo ≤ n ∧ n ≤ hi := by simp [btw]
theorem btw_no {n lo hi : Int} (h : ¬ (lo ≤ n ∧ n ≤ hi)) : btw n lo hi = false := by simp [btw]; omega
def codeB (s : ByteArray) : Bool := decide (0 < (partsD s).length)
section
variable {α : Type} {lt : α → α → Bool}
end
def payB (c : TClaim) : Bool := btw c.ID 1 1000000 && btw c.Payer 1 1000000 && btw c.Amount 1 1000000000000 && btw c.Open 0 c.Amount && btw c.Day 0 36000 && codeB c.Code
def only (ks : List Nat) : List Nat := match ks with
  | [k] => [k]
  | _ => []
theorem payB_iff {c : TClaim} : payB c = true ↔ (1 ≤ c.ID ∧ c.ID ≤ 1000000) ∧ (1 ≤ c.Payer ∧ c.Payer ≤ 1000000) ∧ (1 ≤ c.Amount ∧ c.Amount ≤ 1000000000000) ∧ (0 ≤ c.Open ∧ c.Open ≤ c.Amount) ∧ (0 ≤ c.Day ∧ c.Day ≤ 36000) ∧ codeB c.Code = true := by
  simp [payB, btw, and_assoc]
open Go.PA
open Go.RowKit
theorem camong_pf (n lo hi : Int) : PFun Tryz.prog none none 164 [iv n, iv lo, iv hi] (· = bv (btw n lo hi)) := by
  refine pfun_intro Tryz.func164 rfl (by simp [Tryz.f164]) (by kernel_rfl) ?_
  intro E hP hr hs hW hN
  by_cases h1 : lo ≤ n <;> by_cases h2 : n ≤ hi <;> simp -dsimp -implicitDefEqProofs [-getElem?_pos, go_sem, hP, h1, h2, btw]
theorem cmvalid_pf (n : Int) : PFun Tryz.prog none none 48 [iv n] (· = bv (btw n 0 1000000000000)) := by
  refine pfun_intro Tryz.func48 rfl (by simp [Tryz.f48]) (by kernel_rfl) ?_
  intro E hP hr hs hW hN
  by_cases h1 : 0 ≤ n <;> by_cases h2 : n ≤ 1000000000000 <;> simp -dsimp -implicitDefEqProofs [-getElem?_pos, go_sem, hP, h1, h2, btw]
theorem cpositive_pf (n : Int) : PFun Tryz.prog none none 165 [iv n] (· = bv (btw n 1 1000000000000)) := by
  refine pfun_intro Tryz.func165 rfl (by simp [Tryz.f165]) (by kernel_rfl) ?_
  intro E hP hr hs hW hN
  by_cases h1 : 0 < n
  · have e : btw n 0 1000000000000 = btw n 1 1000000000000 := by rw [Bool.eq_iff_iff, btw_iff, btw_iff]; omega
    simp -dsimp -implicitDefEqProofs [-getElem?_pos, go_sem, hP, h1]
    refine callB_pure (cmvalid_pf n) hP en_48 (args_same (by simp -dsimp -implicitDefEqProofs [-getElem?_pos, go_sem])) .sc ?_
    rw [e]
    simp -dsimp -implicitDefEqProofs [-getElem?_pos, go_sem, hP]
  · have e : btw n 1 1000000000000 = false := btw_no (by omega)
    have d := decide_eq_false h1
    simp -dsimp -implicitDefEqProofs [-getElem?_pos, go_sem, hP, d, e]
theorem cClm (x : TClaim) : x.cells = [iv x.ID, iv x.Payer, iv x.Amount, iv x.Open, iv x.Day, .sc (.string x.Code)] := rfl
theorem cclaim_pf (x : TClaim) (hl : x.Code.size ≤ 1000000) : PFun Tryz.prog none none 131 [.agg x.cells] (· = bv (payB x)) := by
  refine pfun_intro Tryz.func131 rfl (by simp [Tryz.f131]) (by kernel_rfl) ?_
  intro E hP hr hs hW hN
  have ip : Imm (intsL (partsD x.Code)) := by simp [intsL, go_sem]
  obtain ⟨n, hn⟩ : ∃ n, n = (partsD x.Code).length := ⟨_, rfl⟩
  have hc : codeB x.Code = decide (0 < n) := by rw [hn]; rfl
  have hm : (List.map (fun x => [iv x]) (partsD x.Code)).length = n := by rw [List.length_map, hn]
  simp -dsimp -implicitDefEqProofs [-getElem?_pos, go_sem, hP, cClm]
  refine callB_pure (camong_pf x.ID 1 1000000) hP en_164 (args_same (by simp -dsimp -implicitDefEqProofs [-getElem?_pos, go_sem])) .sc ?_
  cases c1 : btw x.ID 1 1000000
  · have e : payB x = false := by simp [payB, c1]
    simp -dsimp -implicitDefEqProofs [-getElem?_pos, go_sem, hP, e]
  simp -dsimp -implicitDefEqProofs [-getElem?_pos, go_sem, hP]
  refine callB_pure (camong_pf x.Payer 1 1000000) hP en_164 (args_same (by simp -dsimp -implicitDefEqProofs [-getElem?_pos, go_sem])) .sc ?_
  cases c2 : btw x.Payer 1 1000000
  · have e : payB x = false := by simp [payB, c2]
    simp -dsimp -implicitDefEqProofs [-getElem?_pos, go_sem, hP, e]
  simp -dsimp -implicitDefEqProofs [-getElem?_pos, go_sem, hP]
  refine callB_pure (cpositive_pf x.Amount) hP en_165 (args_same (by simp -dsimp -implicitDefEqProofs [-getElem?_pos, go_sem])) .sc ?_
  cases c3 : btw x.Amount 1 1000000000000
  · have e : payB x = false := by simp [payB, c3]
    simp -dsimp -implicitDefEqProofs [-getElem?_pos, go_sem, hP, e]
  simp -dsimp -implicitDefEqProofs [-getElem?_pos, go_sem, hP]
  refine callB_pure (camong_pf x.Open 0 x.Amount) hP en_164 (args_same (by simp -dsimp -implicitDefEqProofs [-getElem?_pos, go_sem])) .sc ?_
  cases c4 : btw x.Open 0 x.Amount
  · have e : payB x = false := by simp [payB, c4]
    simp -dsimp -implicitDefEqProofs [-getElem?_pos, go_sem, hP, e]
  simp -dsimp -implicitDefEqProofs [-getElem?_pos, go_sem, hP]
  refine callB_pure (camong_pf x.Day 0 36000) hP en_164 (args_same (by simp -dsimp -implicitDefEqProofs [-getElem?_pos, go_sem])) .sc ?_
  cases c5 : btw x.Day 0 36000
  · have e : payB x = false := by simp [payB, c5]
    simp -dsimp -implicitDefEqProofs [-getElem?_pos, go_sem, hP, e]
  simp -dsimp -implicitDefEqProofs [-getElem?_pos, go_sem, hP]
  refine callB_is ((parts_pf x.Code hl).lift _ _) hP en_166 (by simp -dsimp -implicitDefEqProofs [-getElem?_pos, go_sem]) ip ?_
  have e : payB x = decide (0 < n) := by simp [payB, c1, c2, c3, c4, c5, hc]
  simp -dsimp -implicitDefEqProofs [-getElem?_pos, go_sem, hP, intsL, hm, e]
open Go.PA
open Go.RowKit
theorem acamong_pf (n lo hi : Int) : PFun Tryz.prog none none 30 [iv n, iv lo, iv hi] (· = bv (betw n lo hi)) := by
  refine pfun_intro Tryz.func30 rfl (by simp [Tryz.f30]) (by kernel_rfl) ?_
  intro E hP hr hs hW hN
  by_cases h1 : lo ≤ n <;> by_cases h2 : n ≤ hi <;> simp -dsimp -implicitDefEqProofs [-getElem?_pos, go_sem, hP, h1, h2, betw]
theorem acval_pf (n : Int) : PFun Tryz.prog none none 89 [iv n] (· = bv (!vB n)) := by
  refine pfun_intro Tryz.func89 rfl (by simp [Tryz.f89]) (by kernel_rfl) ?_
  intro E hP hr hs hW hN
  simp -dsimp -implicitDefEqProofs [-getElem?_pos, go_sem, hP]
  refine callB_pure (valid_pf n) hP en_48 (args_same (by simp -dsimp -implicitDefEqProofs [-getElem?_pos, go_sem])) .sc ?_
  simp -dsimp -implicitDefEqProofs [-getElem?_pos, go_sem, hP]
theorem acamounts_pf (l : List Int) (hl : l.length ≤ 1000) (h : ∀ n, n ∈ l → vB n = true) : PFun Tryz.prog none none 62 [intsL l] (· = bv true) := by
  refine pfun_intro Tryz.func62 rfl (by simp [Tryz.f62]) (by kernel_rfl) ?_
  intro E hP hr hs hW hN
  have ct := contains_pf_z l 89 [] (fun n => !vB n) (by omega) en_89 (by simp) fun a _ => acval_pf a
  have e : l.any (fun n => !vB n) = false := List.any_eq_false.2 fun n hn => by simp [h n hn]
  rw [e] at ct
  simp -dsimp -implicitDefEqProofs [-getElem?_pos, go_sem, hP]
  refine callB_is (ct.lift _ _) hP en_88 (by simp [imm_fn, imm_intsX]) .sc ?_
  simp -dsimp -implicitDefEqProofs [-getElem?_pos, go_sem, hP]
theorem acadj_pf (p : TPosting) (h : vB p.Amount = true) : PFun Tryz.prog none none 61 [.agg p.cells] (· = bv false) := by
  refine pfun_intro Tryz.func61 rfl (by simp [Tryz.f61]) (by kernel_rfl) ?_
  intro E hP hr hs hW hN
  have am : PFun Tryz.prog none none 62 [.list 1 [[iv p.Amount]]] (· = bv true) := acamounts_pf [p.Amount] (by simp) (by simpa using h)
  have ii : Imm (.list 1 [[iv p.Amount]]) := imm_intsX [p.Amount]
  simp -dsimp -implicitDefEqProofs [-getElem?_pos, go_sem, hP, cP]
  refine callB_is (am.lift _ _) hP en_62 (by simpa using ii) .sc ?_
  simp -dsimp -implicitDefEqProofs [-getElem?_pos, go_sem, hP]
theorem acclaim_pf (x : TClaim) (hl : x.Code.size ≤ 1000000) : PFun Tryz.prog none none 130 [.agg x.cells] (· = bv (!payB x)) := by
  refine pfun_intro Tryz.func130 rfl (by simp [Tryz.f130]) (by kernel_rfl) ?_
  intro E hP hr hs hW hN
  have cc := cclaim_pf x hl
  have ix : Imm (.agg x.cells) := imm_agg.2 x.imm
  rw [cClm] at cc ix
  simp -dsimp -implicitDefEqProofs [-getElem?_pos, go_sem, hP, cClm]
  refine callB_is (cc.lift _ _) hP en_131 (by simpa using ix) .sc ?_
  simp -dsimp -implicitDefEqProofs [-getElem?_pos, go_sem, hP]
theorem index_pf_clm (l : List TClaim) (g : FuncId) (caps : List AV) (p : TClaim → Bool) (hl : l.length ≤ 1000000) (hen : enterable Tryz.prog g = true) (hcap : ∀ a, a ∈ caps → Imm a)
    (hg : ∀ a, a ∈ l → PFun Tryz.prog none none g (.agg (TClaim.cells a) :: caps) (· = bv (p a))) :
    PFun Tryz.prog none none 163 [.list 6 (encL TClaim.cells l), .fn g caps] (· = iv (idxI p l)) := by
  refine pfun_intro Tryz.func163 rfl (by simp [Tryz.f163]) (by kernel_rfl) ?_
  intro E hP hr hs hW hN
  simp -dsimp -implicitDefEqProofs [-getElem?_pos, go_sem, hP]
  obtain ⟨I, hI⟩ : ∃ I : Nat → St → Prop, I = fun m s => ∃ k : Nat, k ≤ l.length ∧ m = l.length - k ∧ idxI p l = idxFrom p k (l.drop k) ∧ s.t 0 = .list 6 (encL TClaim.cells l) ∧ s.t 1 = .fn g caps ∧ s.t 7 = iv l.length ∧ s.t 8 = iv k := ⟨_, rfl⟩
  refine aloop0 I (l.length) (by rw [hN]; rfl) ?_ ?_
  · rw [hI]
    exact ⟨0, by omega, by omega, by simp [idxI], by simp -dsimp -implicitDefEqProofs [-getElem?_pos, go_sem], by simp -dsimp -implicitDefEqProofs [-getElem?_pos, go_sem], by simp -dsimp -implicitDefEqProofs [-getElem?_pos, go_sem], by simp -dsimp -implicitDefEqProofs [-getElem?_pos, go_sem]⟩
  intro m s hs'
  rw [hI] at hs'
  obtain ⟨k, hk, hm, hi, t0, t1, t7, t8⟩ := hs'
  simp -dsimp -implicitDefEqProofs [-getElem?_pos, go_sem, hP, t7, t8]
  refine condP (fun h => ?_) (fun h => ?_)
  · have hk : k < l.length := by simpa using h
    obtain ⟨a, ha⟩ : ∃ a, l[k]? = some a := ⟨_, List.getElem?_eq_getElem hk⟩
    have wk := wrap_in ((k : Int) + 1) (by omega)
    have hz : (TClaim.cells a).take 6 = TClaim.cells a := List.take_of_length_le (by rw [TClaim.len]; omega)
    have hd : l.drop k = a :: l.drop (k + 1) := by
      rw [List.getElem?_eq_getElem hk] at ha
      rw [List.drop_eq_getElem_cons hk, Option.some.inj ha]
    simp -dsimp -implicitDefEqProofs [-getElem?_pos, go_sem, hP, t8, t1, t0, ha, TClaim.len, hz]
    refine callB_is ((hg a (List.mem_of_getElem? ha)).lift _ _) hP hen (fun x hx => ?_) .sc ?_
    · rcases List.mem_cons.1 hx with rfl | hx
      · exact imm_agg.2 (TClaim.imm a)
      · exact hcap x hx
    rw [hd] at hi
    simp only [idxFrom] at hi
    simp -dsimp -implicitDefEqProofs [-getElem?_pos, go_sem, hP]
    refine condP (fun hp => ?_) (fun hp => ?_)
    · rw [if_pos hp] at hi
      simp -dsimp -implicitDefEqProofs [-getElem?_pos, go_sem, hP]
      exact hi.symm
    · rw [hp, if_neg (by simp)] at hi
      simp -dsimp -implicitDefEqProofs [-getElem?_pos, go_sem, hP, t8, wk]
      refine ⟨l.length - (k + 1), by omega, ?_⟩
      rw [hI]
      exact ⟨k + 1, by omega, rfl, hi, by simp -dsimp -implicitDefEqProofs [-getElem?_pos, go_sem, t0], by simp -dsimp -implicitDefEqProofs [-getElem?_pos, go_sem, t1], by simp -dsimp -implicitDefEqProofs [-getElem?_pos, go_sem, t7], by simp -dsimp -implicitDefEqProofs [-getElem?_pos, go_sem]⟩
  · have hk : k = l.length := by simp at h; omega
    subst hk
    rw [List.drop_length] at hi
    simp -dsimp -implicitDefEqProofs [-getElem?_pos, go_sem, hP]
    exact hi.symm
theorem contains_pf_clm (l : List TClaim) (g : FuncId) (caps : List AV) (p : TClaim → Bool) (hl : l.length ≤ 1000000) (hen : enterable Tryz.prog g = true) (hcap : ∀ a, a ∈ caps → Imm a)
    (hg : ∀ a, a ∈ l → PFun Tryz.prog none none g (.agg (TClaim.cells a) :: caps) (· = bv (p a))) :
    PFun Tryz.prog none none 129 [.list 6 (encL TClaim.cells l), .fn g caps] (· = bv (l.any p)) := by
  refine pfun_intro Tryz.func129 rfl (by simp [Tryz.f129]) (by kernel_rfl) ?_
  intro E hP hr hs hW hN
  obtain ⟨w, hw⟩ : ∃ w, w = l.any p := ⟨_, rfl⟩
  rw [← hw]
  have hi : ∀ a, a ∈ [AV.list 6 (encL TClaim.cells l), .fn g caps] → Imm a := fun a ha => by
    simp only [List.mem_cons, List.not_mem_nil, or_false] at ha
    rcases ha with rfl | rfl
    · exact imm_encL _ TClaim.imm _
    · exact imm_fn.2 hcap
  simp -dsimp -implicitDefEqProofs [-getElem?_pos, go_sem, hP]
  refine callB_is ((index_pf_clm l g caps p hl hen hcap hg).lift _ _) hP en_163 hi .sc ?_
  rcases idxI_spec p l with ⟨h1, h2⟩ | ⟨i, a, h1, h2, h3, _⟩
  · have : w = false := by rw [hw]; exact List.any_eq_false.2 fun a ha => by simp [h2 a ha]
    simp -dsimp -implicitDefEqProofs [-getElem?_pos, go_sem, hP, h1, this]
  · have d : decide ((0 : Int) ≤ (i : Int)) = true := decide_eq_true (by omega)
    have : w = true := by rw [hw]; exact List.any_eq_true.2 ⟨a, List.mem_of_getElem? h1, h2⟩
    simp -dsimp -implicitDefEqProofs [-getElem?_pos, go_sem, hP, h3, d, this]
theorem acclaims_pf (l : List TClaim) (hl : l.length ≤ 60) (h : ∀ x, x ∈ l → x.Code.size ≤ 1000000 ∧ payB x = true) : PFun Tryz.prog none none 84 [claimsL l] (· = iv 0) := by
  refine pfun_intro Tryz.func84 rfl (by simp [Tryz.f84]) (by kernel_rfl) ?_
  intro E hP hr hs hW hN
  have ct := contains_pf_clm l 130 [] (fun x => !payB x) (by omega) en_130 (by simp) fun a ha => acclaim_pf a (h a ha).1
  have e : l.any (fun x => !payB x) = false := List.any_eq_false.2 fun x hx => by simp [(h x hx).2]
  rw [e] at ct
  have d : decide ((60 : Int) < (l.length : Int)) = false := decide_eq_false (by omega)
  simp -dsimp -implicitDefEqProofs [-getElem?_pos, go_sem, hP, d]
  refine callB_is (ct.lift _ _) hP en_129 (by simp [imm_fn, imm_claims]) .sc ?_
  simp -dsimp -implicitDefEqProofs [-getElem?_pos, go_sem, hP]
def pctD (d : Int) : Int := if d ≤ 90 then 0 else if d ≤ 180 then 25 else if d ≤ 360 then 50 else 100
theorem pctD_b (d : Int) : 0 ≤ pctD d ∧ pctD d ≤ 100 := by unfold pctD; repeat' split <;> omega
theorem pctD_ix : ∀ k : Nat, k < 3 → ∃ li va : Int, aixV Tryz.prog 230 (.agg [iv 90, iv 0, iv 180, iv 25, iv 360, iv 50]) (iv (k : Int)) = some (.agg [iv li, iv va]) ∧ ((k = 0 ∧ li = 90 ∧ va = 0) ∨ (k = 1 ∧ li = 180 ∧ va = 25) ∨ (k = 2 ∧ li = 360 ∧ va = 50)) := fun k hk => by
  have x0 : aixV Tryz.prog 230 (.agg [iv 90, iv 0, iv 180, iv 25, iv 360, iv 50]) (iv ((0 : Nat) : Int)) = some (.agg [iv 90, iv 0]) := by kernel_rfl
  have x1 : aixV Tryz.prog 230 (.agg [iv 90, iv 0, iv 180, iv 25, iv 360, iv 50]) (iv ((1 : Nat) : Int)) = some (.agg [iv 180, iv 25]) := by kernel_rfl
  have x2 : aixV Tryz.prog 230 (.agg [iv 90, iv 0, iv 180, iv 25, iv 360, iv 50]) (iv ((2 : Nat) : Int)) = some (.agg [iv 360, iv 50]) := by kernel_rfl
  match k, hk with
  | 0, _ => exact ⟨90, 0, x0, .inl ⟨rfl, rfl, rfl⟩⟩
  | 1, _ => exact ⟨180, 25, x1, .inr (.inl ⟨rfl, rfl, rfl⟩)⟩
  | 2, _ => exact ⟨360, 50, x2, .inr (.inr ⟨rfl, rfl, rfl⟩)⟩
theorem acpct_pf (d : Int) : PFun Tryz.prog none none 86 [iv d] (· = iv (pctD d)) := by
  refine pfun_intro Tryz.func86 rfl (by simp [Tryz.f86]) (by kernel_rfl) ?_
  intro E hP hr hs hW hN
  have ix := pctD_ix
  obtain ⟨A3, hA⟩ : ∃ A3, A3 = AV.agg [iv 90, iv 0, iv 180, iv 25, iv 360, iv 50] := ⟨_, rfl⟩
  rw [← hA] at ix
  simp -dsimp -implicitDefEqProofs [-getElem?_pos, go_sem, hP]
  rw [← hA]
  obtain ⟨I, hI⟩ : ∃ I : Nat → St → Prop, I = fun m s => ∃ k : Nat, k ≤ 3 ∧ m = 3 - k ∧ (k = 0 ∨ (k = 1 ∧ 90 < d) ∨ (k = 2 ∧ 180 < d) ∨ (k = 3 ∧ 360 < d)) ∧ s.t 0 = iv d ∧ s.t 8 = A3 ∧ s.t 9 = iv k := ⟨_, rfl⟩
  refine aloop0 I (3) (by rw [hN]; rfl) ?_ ?_
  · rw [hI]
    exact ⟨0, by omega, by omega, by simp, by simp -dsimp -implicitDefEqProofs [-getElem?_pos, go_sem], by simp -dsimp -implicitDefEqProofs [-getElem?_pos, go_sem], by simp -dsimp -implicitDefEqProofs [-getElem?_pos, go_sem]⟩
  intro m s hs'
  rw [hI] at hs'
  obtain ⟨k, hk, hm, hd, t0, t8, t9⟩ := hs'
  simp -dsimp -implicitDefEqProofs [-getElem?_pos, go_sem, hP, t9]
  refine condP (fun h => ?_) (fun h => ?_)
  · have hk : k < 3 := by simp at h; omega
    obtain ⟨li, va, hx, hl⟩ := ix k hk
    have wk := wrap_in ((k : Int) + 1) (by omega)
    simp -dsimp -implicitDefEqProofs [-getElem?_pos, go_sem, hP, t8, t9, hx, t0]
    refine condP (fun h => ?_) (fun h => ?_)
    · have hd2 : d ≤ li := by simpa using h
      have e : pctD d = va := by unfold pctD; repeat' split <;> omega
      simp -dsimp -implicitDefEqProofs [-getElem?_pos, go_sem, hP, e]
    · have hd2 : ¬ d ≤ li := by simpa using h
      simp -dsimp -implicitDefEqProofs [-getElem?_pos, go_sem, hP, t9, wk]
      refine ⟨3 - (k + 1), by omega, ?_⟩
      rw [hI]
      exact ⟨k + 1, by omega, rfl, by omega, by simp -dsimp -implicitDefEqProofs [-getElem?_pos, go_sem, t0], by simp -dsimp -implicitDefEqProofs [-getElem?_pos, go_sem, t8], by simp -dsimp -implicitDefEqProofs [-getElem?_pos, go_sem]⟩
  · have hk : k = 3 := by simp at h; omega
    have e : pctD d = 100 := by unfold pctD; repeat' split <;> omega
    simp -dsimp -implicitDefEqProofs [-getElem?_pos, go_sem, hP, e]
theorem mpercent_pf (a p : Int) (ha : 0 ≤ a ∧ a ≤ 1000000000000) (hp : 0 ≤ p ∧ p ≤ 100) : PFun Tryz.prog none none 85 [iv a, iv p] (· = .tup [iv (a * p / 100), iv 0]) := by
  refine pfun_intro Tryz.func85 rfl (by simp [Tryz.f85]) (by kernel_rfl) ?_
  intro E hP hr hs hW hN
  have d1 : decide (p < 0) = false := decide_eq_false (by omega)
  have d2 : decide (100 < p) = false := decide_eq_false (by omega)
  have hb : 0 ≤ a * p ∧ a * p ≤ 100000000000000 := ⟨Int.mul_nonneg ha.1 hp.1, by have := Int.mul_le_mul ha.2 hp.2 hp.1 (by omega : (0 : Int) ≤ 1000000000000); omega⟩
  have vb : vB a = true := by unfold vB; exact amongB_iff.2 (by omega)
  have w1 := wrap_in (a * p) (by omega)
  have w2 : IntKind.i64.wrap ((a * p).tdiv 100) = a * p / 100 := by
    rw [Int.tdiv_eq_ediv_of_nonneg hb.1]
    exact wrap_in _ (by omega)
  simp -dsimp -implicitDefEqProofs [-getElem?_pos, go_sem, hP]
  refine callB_pure (valid_pf a) hP en_48 (args_same (by simp -dsimp -implicitDefEqProofs [-getElem?_pos, go_sem])) .sc ?_
  simp -dsimp -implicitDefEqProofs [-getElem?_pos, go_sem, hP, vb, d1, d2, w1, w2]
  exact done (by simp -dsimp -implicitDefEqProofs [-getElem?_pos, go_sem]) rfl (by simp -dsimp -implicitDefEqProofs [-getElem?_pos, go_sem])
structure Closer (H : Heap) (p : Nat) (l : List TPosting) (e d : Int) (out : List TPosting) : Prop where
  is : ∃ x, H[p]? = some (some ⟨142, 4, [[postsL l, iv e, iv d, x]]⟩) ∧ Grown (p + 1) H x 36 8 (encL TPosting.cells out)
theorem closer_fin {T : Heap} {p : Nat} {l : List TPosting} {e day : Int} {nx : List TPosting} {id : Nat} (h1 : p < id) (h2 : T[p]? = some (some ⟨142, 4, [[postsL l, iv e, iv day, .sref id 0 nx.length]]⟩)) (h3 : T[id]? = some (some ⟨36, 8, encL TPosting.cells nx⟩)) : Closer T p l e day nx :=
  ⟨_, h2, .inr ⟨id, by omega, by rw [encL_len], h3⟩⟩
theorem closer_wit {H : Heap} {p : Nat} {l : List TPosting} {e day : Int} {out : List TPosting} (ho : Closer H p l e day out) (nx : List TPosting) : ∃ H', Closer H' p l e day nx ∧ ∀ (q : Nat) (o : Option AObj), q < p → H[q]? = some o → H'[q]? = some o := by
  obtain ⟨x, hp, hg⟩ := ho.is
  have lp := (List.getElem?_eq_some_iff.1 hp).1
  refine ⟨(H.set p (some ⟨142, 4, [[postsL l, iv e, iv day, .sref H.length 0 nx.length]]⟩)) ++ [some ⟨36, 8, encL TPosting.cells nx⟩], closer_fin lp ?_ ?_, fun q o hq h => ?_⟩
  · rw [List.getElem?_append_left (by simpa using lp)]
    simp [lp]
  · rw [List.getElem?_append_right (by simp)]
    simp
  · have := (List.getElem?_eq_some_iff.1 h).1
    rw [List.getElem?_append_left (by simpa using this), List.getElem?_set_ne (by omega)]
    exact h
set_option maxHeartbeats 2000000 in
theorem cpost_m {row src : Option Nat} (H : Heap) (p : Nat) (l : List TPosting) (day : Int) (out : List TPosting) (dd cc a r : Int) (ho : Closer H p l 1 day out) (hl : l.length ≤ 400) (hol : out.length ≤ 10) (ha : -1000000000000000 ≤ a ∧ a ≤ 1000000000000000) :
    MFun Tryz.prog row src 59 [.ref p 0 0, iv dd, iv cc, iv a, iv r] H (fun r' H' => r' = .tup [] ∧ Closer H' p l 1 day (clP l.length day out dd cc a r) ∧ ∀ (q : Nat) (o : Option AObj), q < p → H[q]? = some o → H'[q]? = some o) := by
  obtain ⟨C, hC⟩ : ∃ C : AV → Heap → Prop, C = fun r' H' => r' = .tup [] ∧ Closer H' p l 1 day (clP l.length day out dd cc a r) ∧ ∀ (q : Nat) (o : Option AObj), q < p → H[q]? = some o → H'[q]? = some o := ⟨_, rfl⟩
  rw [← hC]
  obtain ⟨nx, hnx⟩ : ∃ nx, nx = clP l.length day out dd cc a r := ⟨_, rfl⟩
  have wit : ∃ x H', C x H' := by
    obtain ⟨H', h1, h2⟩ := closer_wit ho nx
    rw [hC]
    exact ⟨_, H', rfl, hnx ▸ h1, h2⟩
  obtain ⟨x, hp, hg⟩ := ho.is
  have lp := (List.getElem?_eq_some_iff.1 hp).1
  refine mfun_intro Tryz.func59 rfl (by simp [Tryz.f59]) (by kernel_rfl) (wit) ?_
  intro E hP hr hs hN
  have cl : clP l.length day out dd cc a r = if a = 0 then out else out ++ [⟨((l.length + out.length : Nat) : Int) + 1, day, 1, if a < 0 then cc else dd, if a < 0 then dd else cc, if a < 0 then -a else a, 0, r⟩] := rfl
  have w1 := wrap_in ((l.length : Int) + (out.length : Int)) (by omega)
  have w2 := wrap_in ((l.length : Int) + (out.length : Int) + 1) (by omega)
  by_cases h0 : a = 0
  · rw [if_pos h0] at cl
    have d0 : decide (a < 0) = false := decide_eq_false (by omega)
    have d1 : decide (0 < a) = false := decide_eq_false (by omega)
    simp -dsimp -implicitDefEqProofs [-getElem?_pos, go_sem, hP, d0, d1]
    rw [hC]
    exact ⟨rfl, by rw [cl]; exact ho, fun q o _ h => h⟩
  rw [if_neg h0] at cl
  have nl : nx.length = out.length + 1 := by rw [hnx, cl]; simp
  have fin : ∀ (T : Heap) (id : Nat), p < id → T[p]? = some (some ⟨142, 4, [[postsL l, iv 1, iv day, .sref id 0 (out.length + 1)]]⟩) → T[id]? = some (some ⟨36, 8, encL TPosting.cells nx⟩) → (∀ (q : Nat) (o : Option AObj), q < p → H[q]? = some o → T[q]? = some o) → C (.tup []) T := fun T id h1 h2 h3 h4 => by
    rw [hC]
    exact ⟨rfl, hnx ▸ closer_fin h1 (by rw [nl]; exact h2) h3, h4⟩
  by_cases hs : a < 0
  · simp only [hs, if_true] at cl
    have d0 : decide (a < 0) = true := decide_eq_true hs
    have d1 : decide (0 < -a) = true := decide_eq_true (by omega)
    have wn := wrap_in (-a) (by omega)
    simp -dsimp -implicitDefEqProofs [-getElem?_pos, go_sem, hP, d0, d1, wn]
    refine adrawB (fun _ => true) [32, 35] hP (by kernel_rfl) (by kernel_rfl) ?_
    have en : encL TPosting.cells nx = encL TPosting.cells out ++ [[iv ((l.length : Int) + (out.length : Int) + 1), iv day, iv 1, iv cc, iv dd, iv (-a), iv 0, iv r]] := by rw [hnx, cl, ← encL_snoc, cP]; simp only [Int.natCast_add]
    rcases hg with ⟨rfl, h1⟩ | ⟨q, hq, rfl, hH⟩
    · have eo : out = [] := by cases out with | nil => rfl | cons a b => simp [encL] at h1
      subst eo
      simp only [List.length_nil, Int.natCast_zero, Int.add_zero] at w1 w2 en
      simp -dsimp -implicitDefEqProofs [-getElem?_pos, go_sem, hP, hp, lp, w1, w2]
      refine fin _ H.length lp ?_ ?_ ?_
      · simp -dsimp -implicitDefEqProofs [-getElem?_pos, go_sem, lp]
      · rw [en]
        simp -dsimp -implicitDefEqProofs [-getElem?_pos, go_sem, encL]
      · exact fun q o hq h => by have := (List.getElem?_eq_some_iff.1 h).1; simp -dsimp -implicitDefEqProofs [-getElem?_pos, go_sem, List.getElem?_append_left, this, List.getElem?_set_ne, Nat.ne_of_gt hq, h]
    · rw [encL_len] at hp
      have qp : ¬ q = p := by omega
      simp -dsimp -implicitDefEqProofs [-getElem?_pos, go_sem, hP, hp, lp, w1, w2, hH]
      refine ⟨by omega, by omega, ?_⟩
      have hp2 : (H.set q none)[p]? = some (some ⟨142, 4, [[postsL l, iv 1, iv day, .sref q 0 out.length]]⟩) := by
        rw [List.getElem?_set_ne qp]
        exact hp
      have hp3 : ∀ x : Option AObj, (H.set q none ++ [x])[p]? = some (some ⟨142, 4, [[postsL l, iv 1, iv day, .sref q 0 out.length]]⟩) := fun x => by
        rw [List.getElem?_append_left (by simpa using lp)]
        exact hp2
      simp -dsimp -implicitDefEqProofs [-getElem?_pos, go_sem, hP, hp2, hp3]
      refine fin _ H.length lp ?_ ?_ ?_
      · simp -dsimp -implicitDefEqProofs [-getElem?_pos, go_sem, lp]
      · rw [en]
        simp -dsimp -implicitDefEqProofs [-getElem?_pos, go_sem, lp]
      · exact fun q' o hq' h => by
          have := (List.getElem?_eq_some_iff.1 h).1
          rw [List.getElem?_set_ne (by omega), List.getElem?_append_left (by simpa using this), List.getElem?_set_ne (by omega)]
          exact h
  · simp only [hs, if_false] at cl
    have d0 : decide (a < 0) = false := decide_eq_false hs
    have d1 : decide (0 < a) = true := decide_eq_true (by omega)
    simp -dsimp -implicitDefEqProofs [-getElem?_pos, go_sem, hP, d0, d1]
    refine adrawB (fun _ => true) [32, 35] hP (by kernel_rfl) (by kernel_rfl) ?_
    have en : encL TPosting.cells nx = encL TPosting.cells out ++ [[iv ((l.length : Int) + (out.length : Int) + 1), iv day, iv 1, iv dd, iv cc, iv (a), iv 0, iv r]] := by rw [hnx, cl, ← encL_snoc, cP]; simp only [Int.natCast_add]
    rcases hg with ⟨rfl, h1⟩ | ⟨q, hq, rfl, hH⟩
    · have eo : out = [] := by cases out with | nil => rfl | cons a b => simp [encL] at h1
      subst eo
      simp only [List.length_nil, Int.natCast_zero, Int.add_zero] at w1 w2 en
      simp -dsimp -implicitDefEqProofs [-getElem?_pos, go_sem, hP, hp, lp, w1, w2]
      refine fin _ H.length lp ?_ ?_ ?_
      · simp -dsimp -implicitDefEqProofs [-getElem?_pos, go_sem, lp]
      · rw [en]
        simp -dsimp -implicitDefEqProofs [-getElem?_pos, go_sem, encL]
      · exact fun q o hq h => by have := (List.getElem?_eq_some_iff.1 h).1; simp -dsimp -implicitDefEqProofs [-getElem?_pos, go_sem, List.getElem?_append_left, this, List.getElem?_set_ne, Nat.ne_of_gt hq, h]
    · rw [encL_len] at hp
      have qp : ¬ q = p := by omega
      simp -dsimp -implicitDefEqProofs [-getElem?_pos, go_sem, hP, hp, lp, w1, w2, hH]
      refine ⟨by omega, by omega, ?_⟩
      have hp2 : (H.set q none)[p]? = some (some ⟨142, 4, [[postsL l, iv 1, iv day, .sref q 0 out.length]]⟩) := by
        rw [List.getElem?_set_ne qp]
        exact hp
      have hp3 : ∀ x : Option AObj, (H.set q none ++ [x])[p]? = some (some ⟨142, 4, [[postsL l, iv 1, iv day, .sref q 0 out.length]]⟩) := fun x => by
        rw [List.getElem?_append_left (by simpa using lp)]
        exact hp2
      simp -dsimp -implicitDefEqProofs [-getElem?_pos, go_sem, hP, hp2, hp3]
      refine fin _ H.length lp ?_ ?_ ?_
      · simp -dsimp -implicitDefEqProofs [-getElem?_pos, go_sem, lp]
      · rw [en]
        simp -dsimp -implicitDefEqProofs [-getElem?_pos, go_sem, lp]
      · exact fun q' o hq' h => by
          have := (List.getElem?_eq_some_iff.1 h).1
          rw [List.getElem?_set_ne (by omega), List.getElem?_append_left (by simpa using this), List.getElem?_set_ne (by omega)]
          exact h
open Go.PA
open Go.RowKit
theorem accheck_pf (i u q : Int) (l : List TClaim) (hl : l.length ≤ 60) (h : ∀ x, x ∈ l → x.Code.size ≤ 1000000 ∧ payB x = true) (hi : vB i = true) (hu : vB u = true) (hq : vB q = true) :
    PFun Tryz.prog none none 57 [.agg [iv i, iv u, iv q, claimsL l]] (· = iv 0) := by
  refine pfun_intro Tryz.func57 rfl (by simp [Tryz.f57]) (by kernel_rfl) ?_
  intro E hP hr hs hW hN
  have ic := imm_claims l
  have cs := acclaims_pf l hl h
  have am : PFun Tryz.prog none none 62 [.list 1 [[iv i], [iv u], [iv q]]] (· = bv true) := acamounts_pf [i, u, q] (by simp) (by intro n hn; simp at hn; rcases hn with rfl | rfl | rfl <;> assumption)
  have ii : Imm (.list 1 [[iv i], [iv u], [iv q]]) := imm_intsX [i, u, q]
  simp -dsimp -implicitDefEqProofs [-getElem?_pos, go_sem, hP]
  refine callB_is (cs.lift _ _) hP en_84 (by simpa using ic) .sc ?_
  simp -dsimp -implicitDefEqProofs [-getElem?_pos, go_sem, hP]
  refine callB_is (am.lift _ _) hP en_62 (by simpa using ii) .sc ?_
  simp -dsimp -implicitDefEqProofs [-getElem?_pos, go_sem, hP]
def provD (day : Int) (l : List TClaim) : Int := (l.map fun c => c.Open * pctD (day - c.Day) / 100).sum
def openS (l : List TClaim) : Int := (l.map (·.Open)).sum
theorem provD_b (day : Int) : ∀ l : List TClaim, (∀ x, x ∈ l → 0 ≤ x.Open ∧ x.Open ≤ 1000000000) → 0 ≤ provD day l ∧ provD day l ≤ 1000000000 * (l.length : Int)
  | [], _ => by simp [provD]
  | c :: l, h => by
    have ih := provD_b day l fun x hx => h x (by simp [hx])
    have hc := h c (by simp)
    have hp := pctD_b (day - c.Day)
    have e : provD day (c :: l) = c.Open * pctD (day - c.Day) / 100 + provD day l := rfl
    have b1 : 0 ≤ c.Open * pctD (day - c.Day) := Int.mul_nonneg hc.1 hp.1
    have b2 : c.Open * pctD (day - c.Day) ≤ c.Open * 100 := Int.mul_le_mul_of_nonneg_left hp.2 hc.1
    rw [e, List.length_cons]
    omega
theorem openS_b : ∀ l : List TClaim, (∀ x, x ∈ l → 0 ≤ x.Open ∧ x.Open ≤ 1000000000) → 0 ≤ openS l ∧ openS l ≤ 1000000000 * (l.length : Int)
  | [], _ => by simp [openS]
  | c :: l, h => by
    have ih := openS_b l fun x hx => h x (by simp [hx])
    have hc := h c (by simp)
    have e : openS (c :: l) = c.Open + openS l := rfl
    rw [e, List.length_cons]
    omega
theorem mtotal_pf (n : Int) (h : 0 ≤ n ∧ n ≤ 100000000000) : PFun Tryz.prog none none 87 [iv n] (· = bv true) := by
  refine pfun_intro Tryz.func87 rfl (by simp [Tryz.f87]) (by kernel_rfl) ?_
  intro E hP hr hs hW hN
  have d1 : decide ((-1000000000000000 : Int) ≤ n) = true := decide_eq_true (by omega)
  have d2 : decide (n ≤ (1000000000000000 : Int)) = true := decide_eq_true (by omega)
  simp -dsimp -implicitDefEqProofs [-getElem?_pos, go_sem, hP, d1, d2]
set_option maxHeartbeats 1000000 in
theorem acprov_pf (l : List TClaim) (day : Int) (hl : l.length ≤ 60) (h : ∀ x, x ∈ l → x.Code.size ≤ 1000000 ∧ payB x = true) (hd : 0 ≤ day ∧ day ≤ 36000) (hO : ∀ x, x ∈ l → 0 ≤ x.Open ∧ x.Open ≤ 1000000000) (hD : ∀ x, x ∈ l → 0 ≤ x.Day ∧ x.Day ≤ 36000) :
    PFun Tryz.prog none none 58 [claimsL l, iv day] (· = .tup [iv (provD day l), iv 0]) := by
  refine pfun_intro Tryz.func58 rfl (by simp [Tryz.f58]) (by kernel_rfl) ?_
  intro E hP hr hs hW hN
  have ic := imm_claims l
  have cs := acclaims_pf l hl h
  have bd : betw day 0 36000 = true := by unfold betw; simp; omega
  simp -dsimp -implicitDefEqProofs [-getElem?_pos, go_sem, hP]
  refine callB_is (cs.lift _ _) hP en_84 (by simpa using ic) .sc ?_
  simp -dsimp -implicitDefEqProofs [-getElem?_pos, go_sem, hP]
  refine callB_pure (acamong_pf day 0 36000) hP en_30 (args_same (by simp -dsimp -implicitDefEqProofs [-getElem?_pos, go_sem])) .sc ?_
  simp -dsimp -implicitDefEqProofs [-getElem?_pos, go_sem, hP, bd]
  obtain ⟨I, hI⟩ : ∃ I : Nat → St → Prop, I = fun m s => ∃ k : Nat, k ≤ l.length ∧ m = l.length - k ∧ s.t 1 = iv day ∧ s.t 20 = claimsL l ∧ s.t 21 = iv l.length ∧ s.t 22 = iv k ∧ s.t 7 = iv (provD day (l.take k)) := ⟨_, rfl⟩
  refine aloop0 I (l.length) (by rw [hN]; rfl) ?_ ?_
  · rw [hI]
    exact ⟨0, by omega, by omega, by simp -dsimp -implicitDefEqProofs [-getElem?_pos, go_sem], by simp -dsimp -implicitDefEqProofs [-getElem?_pos, go_sem], by simp -dsimp -implicitDefEqProofs [-getElem?_pos, go_sem], by simp -dsimp -implicitDefEqProofs [-getElem?_pos, go_sem], by simp -dsimp -implicitDefEqProofs [-getElem?_pos, go_sem, provD]⟩
  intro m s hs'
  rw [hI] at hs'
  obtain ⟨k, hk, hm, t1, t20, t21, t22, t7⟩ := hs'
  simp -dsimp -implicitDefEqProofs [-getElem?_pos, go_sem, hP, t21, t22]
  refine condP (fun h => ?_) (fun h => ?_)
  · have hk : k < l.length := by simpa using h
    obtain ⟨c, hc⟩ : ∃ c, l[k]? = some c := ⟨_, List.getElem?_eq_getElem hk⟩
    have hm2 := List.mem_of_getElem? hc
    have bO := hO c hm2
    have bD := hD c hm2
    have bp := pctD_b (day - c.Day)
    have wk := wrap_in ((k : Int) + 1) (by omega)
    have ws := wrap_in (day - c.Day) (by omega)
    have e1 : provD day (l.take (k + 1)) = provD day (l.take k) + c.Open * pctD (day - c.Day) / 100 := by rw [List.take_add_one, hc]; simp [provD]
    have b1 := provD_b day (l.take k) fun x hx => hO x (List.mem_of_mem_take hx)
    have b2 := provD_b day (l.take (k + 1)) fun x hx => hO x (List.mem_of_mem_take hx)
    have tl : (l.take k).length ≤ 60 := by simp; omega
    have tl2 : (l.take (k + 1)).length ≤ 60 := by simp; omega
    have wsum := wrap_in (provD day (l.take k) + c.Open * pctD (day - c.Day) / 100) (by omega)
    have mp := mpercent_pf c.Open (pctD (day - c.Day)) (by omega) bp
    simp -dsimp -implicitDefEqProofs [-getElem?_pos, go_sem, hP, t20, t22, hc, cClm]
    refine adrawB (fun _ => true) [] hP (by kernel_rfl) (by kernel_rfl) ?_
    simp -dsimp -implicitDefEqProofs [-getElem?_pos, go_sem, hP, t1, ws]
    refine callB_pure (acpct_pf (day - c.Day)) hP en_86 (args_same (by simp -dsimp -implicitDefEqProofs [-getElem?_pos, go_sem])) .sc ?_
    simp -dsimp -implicitDefEqProofs [-getElem?_pos, go_sem, hP]
    refine callB_is (mp.lift _ _) hP en_85 (by simp [imm_sc]) (imm_pair .sc .sc) ?_
    simp -dsimp -implicitDefEqProofs [-getElem?_pos, go_sem, hP, t7, t22, wk, wsum]
    refine ⟨l.length - (k + 1), by omega, ?_⟩
    rw [hI]
    exact ⟨k + 1, by omega, rfl, by simp -dsimp -implicitDefEqProofs [-getElem?_pos, go_sem, t1], by simp -dsimp -implicitDefEqProofs [-getElem?_pos, go_sem, t20], by simp -dsimp -implicitDefEqProofs [-getElem?_pos, go_sem, t21], by simp -dsimp -implicitDefEqProofs [-getElem?_pos, go_sem], by rw [e1]; simp -dsimp -implicitDefEqProofs [-getElem?_pos, go_sem]⟩
  · have hk : k = l.length := by simp at h; omega
    subst hk
    rw [List.take_length] at t7
    have b1 := provD_b day l hO
    simp -dsimp -implicitDefEqProofs [-getElem?_pos, go_sem, hP, t7]
    refine callB_pure (mtotal_pf (provD day l) (by omega)) hP en_87 (args_same (by simp -dsimp -implicitDefEqProofs [-getElem?_pos, go_sem])) .sc ?_
    simp -dsimp -implicitDefEqProofs [-getElem?_pos, go_sem, hP, t7]
    exact done (by simp -dsimp -implicitDefEqProofs [-getElem?_pos, go_sem]) rfl (by simp -dsimp -implicitDefEqProofs [-getElem?_pos, go_sem])
set_option maxHeartbeats 1000000 in
theorem cbring_m {row src : Option Nat} (H : Heap) (p : Nat) (l : List TPosting) (day : Int) (out : List TPosting) (ac ba ag : Int) (ho : Closer H p l 1 day out) (hl : l.length ≤ 400) (hol : out.length ≤ 10) (hz : ofL l 1 ac day = 0) (ha : -1000000000000 ≤ ba ∧ ba ≤ 1000000000000) :
    MFun Tryz.prog row src 60 [.ref p 0 0, iv ac, iv ba, iv ag] H (fun r' H' => r' = .tup [] ∧ Closer H' p l 1 day (clP l.length day out ac ag ba 0) ∧ ∀ (q : Nat) (o : Option AObj), q < p → H[q]? = some o → H'[q]? = some o) := by
  obtain ⟨C, hC⟩ : ∃ C : AV → Heap → Prop, C = fun r' H' => r' = .tup [] ∧ Closer H' p l 1 day (clP l.length day out ac ag ba 0) ∧ ∀ (q : Nat) (o : Option AObj), q < p → H[q]? = some o → H'[q]? = some o := ⟨_, rfl⟩
  have cp := cpost_m (row := row) (src := src) H p l day out ac ag ba 0 ho hl hol (by omega)
  rw [← hC] at cp ⊢
  have of := of2_pf ⟨l⟩ 1 ac day (by show l.length ≤ _; omega)
  rw [cL] at of
  have of : PFun Tryz.prog none none 41 [.agg [postsL l], iv 1, iv ac, iv day] (· = iv 0) := by simpa [hz] using of
  have ip := imm_posts l
  have ho2 := ho
  obtain ⟨x, hp, hg⟩ := ho2.is
  have lp := (List.getElem?_eq_some_iff.1 hp).1
  have w1 := wrap_in (ba - 0) (by omega)
  rw [Int.sub_zero] at w1
  have wit : ∃ x H', C x H' := by
    obtain ⟨H', h1, h2⟩ := closer_wit ho (clP l.length day out ac ag ba 0)
    rw [hC]
    exact ⟨_, H', rfl, h1, h2⟩
  refine mfun_intro Tryz.func60 rfl (by simp [Tryz.f60]) (by kernel_rfl) (wit) ?_
  intro E hP hr hs hN
  simp -dsimp -implicitDefEqProofs [-getElem?_pos, go_sem, hP]
  refine adrawB (fun _ => true) [19] hP (by kernel_rfl) (by kernel_rfl) ?_
  simp -dsimp -implicitDefEqProofs [-getElem?_pos, go_sem, hP, hp, lp]
  refine callB_is (of.lift _ _) hP en_41 (by simp [ip, imm_agg, imm_sc]) .sc ?_
  simp -dsimp -implicitDefEqProofs [-getElem?_pos, go_sem, hP, Int.sub_zero, w1]
  refine callB_m (by rw [hr, hs]; exact cp) hP en_59 ?_
  intro r H' h
  have h0 : r = .tup [] := by rw [hC] at h; exact h.1
  subst h0
  simp -dsimp -implicitDefEqProofs [-getElem?_pos, go_sem, hP]
  exact h
open Go.PA
open Go.RowKit
structure AdjIn (l : List TPosting) (day i u q : Int) (cl : List TClaim) : Prop where
  ck : checkL l = 0
  ll : l.length ≤ 300
  dd : 0 ≤ day ∧ day ≤ 35999
  la : lastP l ≤ day
  nn : cl.length ≤ 60
  cs : ∀ x, x ∈ cl → x.Code.size ≤ 1000000 ∧ payB x = true
  oo : ∀ x, x ∈ cl → 0 ≤ x.Open ∧ x.Open ≤ 1000000000
  ds : ∀ x, x ∈ cl → 0 ≤ x.Day ∧ x.Day ≤ 36000
  am : (0 ≤ i ∧ i ≤ 1000000) ∧ (0 ≤ u ∧ u ≤ 1000000) ∧ (0 ≤ q ∧ q ≤ 1000000)
  z1 : ofL l 1 120 day = 0
  z2 : ofL l 1 119 day = 0
theorem clP_len (len : Nat) (day : Int) (out : List TPosting) (d c x r : Int) : (clP len day out d c x r).length ≤ out.length + 1 := by
  unfold clP
  split <;> simp
theorem Grown.args {n : Nat} {H : Heap} {x : AV} {ty : TypeId} {k : Nat} {es : List (List AV)} {bs bs' : List AV} (h : Grown n H x ty k es) (hi : Imm (.list k es)) (t : Args H bs bs') : Args H (x :: bs) (.list k es :: bs') := by
  rcases h with ⟨rfl, rfl⟩ | ⟨id, _, rfl, h⟩
  · exact args_nilL t
  · exact args_sref h rfl hi t
theorem vB_of {n : Int} (h : 0 ≤ n ∧ n ≤ 1000000000000) : vB n = true := by unfold vB; exact amongB_iff.2 (by omega)
set_option maxHeartbeats 4000000 in
theorem adjust_pf {l : List TPosting} {day i u q : Int} {cl : List TClaim} (h : AdjIn l day i u q cl) :
    PFun Tryz.prog none none 26 [.agg [postsL l], iv 1, iv day, .agg [iv i, iv u, iv q, claimsL cl]] (· = .tup [postsL (adjL l.length day i u q (openS cl) (-(provD day cl))), iv 0]) := by
  refine pfun_intro Tryz.func26 rfl (by simp [Tryz.f26]) (by kernel_rfl) ?_
  intro E hP hr hs hW hN
  obtain ⟨hck, hll, hdd, hla, hnn, hcs, hoo, hds, ⟨hi, hu, hq⟩, hz1, hz2⟩ := h
  have ck := lcheck_pf ⟨l⟩ (by show l.length ≤ _; omega)
  rw [cL] at ck
  have ck : PFun Tryz.prog none none 22 [.agg [postsL l]] (· = iv 0) := by simpa [hck] using ck
  have la := llast_pf ⟨l⟩ (by show l.length ≤ _; omega)
  rw [cL] at la
  have ac := accheck_pf i u q cl hnn hcs (vB_of (by omega)) (vB_of (by omega)) (vB_of (by omega))
  have pv := acprov_pf cl day hnn hcs (by omega) hoo hds
  have ip := imm_posts l
  have ic := imm_claims cl
  have ib : Imm (.agg [iv i, iv u, iv q, claimsL cl]) := by simp [imm_agg, ic, imm_sc]
  have b1 : betw 1 1 10 = true := rfl
  have b2 : betw day (lastP l) 36000 = true := by unfold betw; simp; omega
  have pb := provD_b day cl hoo
  have ob := openS_b cl hoo
  simp -dsimp -implicitDefEqProofs [-getElem?_pos, go_sem, hP]
  refine callB_is (ck.lift _ _) hP en_22 (by simp [ip, imm_agg]) .sc ?_
  simp -dsimp -implicitDefEqProofs [-getElem?_pos, go_sem, hP]
  refine callB_is (ac.lift _ _) hP en_57 (by simpa using ib) .sc ?_
  simp -dsimp -implicitDefEqProofs [-getElem?_pos, go_sem, hP]
  refine callB_pure (acamong_pf 1 1 10) hP en_30 (args_same (by simp -dsimp -implicitDefEqProofs [-getElem?_pos, go_sem])) .sc ?_
  simp -dsimp -implicitDefEqProofs [-getElem?_pos, go_sem, hP, b1]
  refine callB_is (la.lift _ _) hP en_24 (by simp [ip, imm_agg]) .sc ?_
  simp -dsimp -implicitDefEqProofs [-getElem?_pos, go_sem, hP]
  refine callB_pure (acamong_pf day (lastP l) 36000) hP en_30 (args_same (by simp -dsimp -implicitDefEqProofs [-getElem?_pos, go_sem])) .sc ?_
  simp -dsimp -implicitDefEqProofs [-getElem?_pos, go_sem, hP, b2]
  refine callB_is (pv.lift _ _) hP en_58 (by simp [ic, imm_sc]) (imm_pair .sc .sc) ?_
  simp -dsimp -implicitDefEqProofs [-getElem?_pos, go_sem, hP]
  obtain ⟨I, hI⟩ : ∃ I : Nat → St → Prop, I = fun m s => ∃ k : Nat, k ≤ cl.length ∧ m = cl.length - k ∧ s.t 1 = iv 1 ∧ s.t 2 = iv day ∧ s.t 4 = .ref 0 0 0 ∧ s.t 7 = .ref 1 0 0 ∧ s.t 12 = iv (provD day cl) ∧ s.t 49 = claimsL cl ∧ s.t 50 = iv cl.length ∧ s.t 51 = iv k ∧ s.t 14 = iv (openS (cl.take k)) ∧ s.H[0]? = some (some ⟨33, 1, [[postsL l]]⟩) ∧ s.H[1]? = some (some ⟨45, 4, [[iv i, iv u, iv q, claimsL cl]]⟩) := ⟨_, rfl⟩
  refine aloop0 I (cl.length) (by rw [hN]; rfl) ?_ ?_
  · rw [hI]
    exact ⟨0, by omega, by omega, by simp -dsimp -implicitDefEqProofs [-getElem?_pos, go_sem], by simp -dsimp -implicitDefEqProofs [-getElem?_pos, go_sem], by simp -dsimp -implicitDefEqProofs [-getElem?_pos, go_sem], by simp -dsimp -implicitDefEqProofs [-getElem?_pos, go_sem], by simp -dsimp -implicitDefEqProofs [-getElem?_pos, go_sem], by simp -dsimp -implicitDefEqProofs [-getElem?_pos, go_sem], by simp -dsimp -implicitDefEqProofs [-getElem?_pos, go_sem], by simp -dsimp -implicitDefEqProofs [-getElem?_pos, go_sem], by simp -dsimp -implicitDefEqProofs [-getElem?_pos, go_sem, openS], by simp -dsimp -implicitDefEqProofs [-getElem?_pos, go_sem], by simp -dsimp -implicitDefEqProofs [-getElem?_pos, go_sem]⟩
  intro m s hs'
  rw [hI] at hs'
  obtain ⟨k, hk, hm, t1, t2, t4, t7, t12, t49, t50, t51, t14, g0, g1⟩ := hs'
  have l0 := (List.getElem?_eq_some_iff.1 g0).1
  have l1 := (List.getElem?_eq_some_iff.1 g1).1
  simp -dsimp -implicitDefEqProofs [-getElem?_pos, go_sem, hP, t50, t51]
  refine condP (fun h => ?_) (fun h => ?_)
  · have hk : k < cl.length := by simpa using h
    obtain ⟨c, hc⟩ : ∃ c, cl[k]? = some c := ⟨_, List.getElem?_eq_getElem hk⟩
    have wk := wrap_in ((k : Int) + 1) (by omega)
    have e1 : openS (cl.take (k + 1)) = openS (cl.take k) + c.Open := by rw [List.take_add_one, hc]; simp [openS]
    have b3 := openS_b (cl.take (k + 1)) fun x hx => hoo x (List.mem_of_mem_take hx)
    have tl2 : (cl.take (k + 1)).length ≤ 60 := by simp; omega
    have ws := wrap_in (openS (cl.take k) + c.Open) (by omega)
    simp -dsimp -implicitDefEqProofs [-getElem?_pos, go_sem, hP, t49, t51, hc, cClm, t14, wk, ws]
    refine ⟨cl.length - (k + 1), by omega, ?_⟩
    rw [hI]
    exact ⟨k + 1, by omega, rfl, by simp -dsimp -implicitDefEqProofs [-getElem?_pos, go_sem, t1], by simp -dsimp -implicitDefEqProofs [-getElem?_pos, go_sem, t2], by simp -dsimp -implicitDefEqProofs [-getElem?_pos, go_sem, t4], by simp -dsimp -implicitDefEqProofs [-getElem?_pos, go_sem, t7], by simp -dsimp -implicitDefEqProofs [-getElem?_pos, go_sem, t12], by simp -dsimp -implicitDefEqProofs [-getElem?_pos, go_sem, t49], by simp -dsimp -implicitDefEqProofs [-getElem?_pos, go_sem, t50], by simp -dsimp -implicitDefEqProofs [-getElem?_pos, go_sem], by rw [e1]; simp -dsimp -implicitDefEqProofs [-getElem?_pos, go_sem], by simp -dsimp -implicitDefEqProofs [-getElem?_pos, go_sem, List.getElem?_append_left l0, g0], by simp -dsimp -implicitDefEqProofs [-getElem?_pos, go_sem, List.getElem?_append_left l1, g1]⟩
  have hk : k = cl.length := by simp at h; omega
  subst hk
  rw [List.take_length] at t14
  simp -dsimp -implicitDefEqProofs [-getElem?_pos, go_sem, hP, t1, t2, t4, t7, t12, t14, g0, l0]
  obtain ⟨p, hp⟩ : ∃ p, p = s.H.length := ⟨_, rfl⟩
  obtain ⟨H1, hH1⟩ : ∃ H1 : Heap, H1 = s.H ++ [some ⟨142, 4, [[postsL l, iv 1, iv day, .nil]]⟩] := ⟨_, rfl⟩
  have c1 : Closer H1 p l 1 day [] := ⟨.nil, by rw [hH1, hp]; exact push_new, .inl ⟨rfl, rfl⟩⟩
  have f0 : H1[0]? = some (some ⟨33, 1, [[postsL l]]⟩) := by rw [hH1, List.getElem?_append_left l0]; exact g0
  have f1 : H1[1]? = some (some ⟨45, 4, [[iv i, iv u, iv q, claimsL cl]]⟩) := by rw [hH1, List.getElem?_append_left l1]; exact g1
  have hp2 : 2 ≤ p := by omega
  rw [← hH1, ← hp]
  clear hH1 hp g0 g1 l0 l1
  have l1 := (List.getElem?_eq_some_iff.1 f1).1
  simp -dsimp -implicitDefEqProofs [-getElem?_pos, go_sem, hP, f1, l1]
  refine callB_m (by rw [hr, hs]; exact cpost_m H1 p l day [] 520 220 i 1000000 c1 (by omega) (by simp) (by omega)) hP en_59 ?_
  rintro r H2 ⟨rfl, c2, k2⟩
  have n2 := clP_len l.length day [] 520 220 i 1000000
  obtain ⟨o2, ho2⟩ : ∃ o2, o2 = clP l.length day [] 520 220 i 1000000 := ⟨_, rfl⟩
  rw [← ho2] at c2 n2
  have f0 := k2 0 _ (by omega) f0
  have f1 := k2 1 _ (by omega) f1
  have l1 := (List.getElem?_eq_some_iff.1 f1).1
  clear c1 k2
  simp -dsimp -implicitDefEqProofs [-getElem?_pos, go_sem, hP, t7, f1, l1]
  refine callB_m (by rw [hr, hs]; exact cpost_m H2 p l day o2 510 210 u 1000000 c2 (by omega) (by simp at n2; omega) (by omega)) hP en_59 ?_
  rintro r H3 ⟨rfl, c3, k3⟩
  have n3 := clP_len l.length day o2 510 210 u 1000000
  obtain ⟨o3, ho3⟩ : ∃ o3, o3 = clP l.length day o2 510 210 u 1000000 := ⟨_, rfl⟩
  rw [← ho3] at c3 n3
  have f0 := k3 0 _ (by omega) f0
  have f1 := k3 1 _ (by omega) f1
  have l1 := (List.getElem?_eq_some_iff.1 f1).1
  clear c2 k3
  simp -dsimp -implicitDefEqProofs [-getElem?_pos, go_sem, hP, t7, f1, l1]
  refine callB_m (by rw [hr, hs]; exact cpost_m H3 p l day o3 130 510 q 1000000 c3 (by omega) (by simp at n2; omega) (by omega)) hP en_59 ?_
  rintro r H4 ⟨rfl, c4, k4⟩
  have n4 := clP_len l.length day o3 130 510 q 1000000
  obtain ⟨o4, ho4⟩ : ∃ o4, o4 = clP l.length day o3 130 510 q 1000000 := ⟨_, rfl⟩
  rw [← ho4] at c4 n4
  have f0 := k4 0 _ (by omega) f0
  clear c3 k4
  simp -dsimp -implicitDefEqProofs [-getElem?_pos, go_sem, hP, t14]
  refine callB_m (by rw [hr, hs]; exact cbring_m H4 p l day o4 120 (openS cl) 420 c4 (by omega) (by simp at n2; omega) hz1 (by omega)) hP en_60 ?_
  rintro r H5 ⟨rfl, c5, k5⟩
  have n5 := clP_len l.length day o4 120 420 (openS cl) 0
  obtain ⟨o5, ho5⟩ : ∃ o5, o5 = clP l.length day o4 120 420 (openS cl) 0 := ⟨_, rfl⟩
  rw [← ho5] at c5 n5
  have f0 := k5 0 _ (by omega) f0
  have wp := wrap_in (-(provD day cl)) (by omega)
  clear c4 k5
  simp -dsimp -implicitDefEqProofs [-getElem?_pos, go_sem, hP, t12, wp]
  refine callB_m (by rw [hr, hs]; exact cbring_m H5 p l day o5 119 (-(provD day cl)) 530 c5 (by omega) (by simp at n2; omega) hz2 (by omega)) hP en_60 ?_
  rintro r H6 ⟨rfl, c6, k6⟩
  have n6 := clP_len l.length day o5 119 530 (-(provD day cl)) 0
  obtain ⟨o6, ho6⟩ : ∃ o6, o6 = adjL l.length day i u q (openS cl) (-(provD day cl)) := ⟨_, rfl⟩
  have e6 : clP l.length day o5 119 530 (-(provD day cl)) 0 = o6 := by rw [ho6, adjL, ho5, ho4, ho3, ho2]
  have all6 := (adjL_ok l.length day (i := i) (u := u) (q := q) (o := openS cl) (v := -(provD day cl)) (by omega) (by omega) (by omega) (by omega) (by omega)).1.all
  rw [e6] at c6 n6
  rw [← ho6] at all6 ⊢
  have f0 := k6 0 _ (by omega) f0
  have l0 := (List.getElem?_eq_some_iff.1 f0).1
  clear c5 k6
  obtain ⟨x, hx, hg⟩ := c6.is
  have lx := (List.getElem?_eq_some_iff.1 hx).1
  have io := imm_posts o6
  have ct := contains_pf_posting o6 61 [] (fun _ => false) (by simp at n2; omega) en_61 (by simp) fun a ha => acadj_pf a (vB_of (by have := (all6 a ha).amt; omega))
  have ea : (o6.any fun _ => false) = false := List.any_eq_false.2 (by simp)
  rw [ea] at ct
  have d4 : decide ((400 : Int) < (l.length : Int) + (o6.length : Int)) = false := decide_eq_false (by simp at n2; omega)
  have w4 := wrap_in ((l.length : Int) + (o6.length : Int)) (by simp at n2; omega)
  rcases hg with ⟨rfl, he⟩ | ⟨id, hid, rfl, hH⟩
  · have eo : o6 = [] := by cases o6 with | nil => rfl | cons a b => simp [encL] at he
    subst eo
    have d4 : decide ((400 : Int) < (l.length : Int)) = false := decide_eq_false (by omega)
    have w4 := wrap_in ((l.length : Int)) (by omega)
    simp -dsimp -implicitDefEqProofs [-getElem?_pos, go_sem, hP, hx, lx]
    refine callB_pure ct hP en_54 (args_nilL (args_imm (by simp [imm_fn]) (args_nil.2 trivial))) .sc ?_
    simp -dsimp -implicitDefEqProofs [-getElem?_pos, go_sem, hP]
    refine adrawB (fun _ => true) [] hP (by kernel_rfl) (by kernel_rfl) ?_
    simp -dsimp -implicitDefEqProofs [-getElem?_pos, go_sem, hP, hx, lx, t4, f0, l0, d4, w4]
    exact done_nil2 8 rfl
  · rw [encL_len] at hx
    simp -dsimp -implicitDefEqProofs [-getElem?_pos, go_sem, hP, hx, lx]
    refine callB_pure ct hP en_54 (args_sref hH (by rw [encL_len]) io (args_imm (by simp [imm_fn]) (args_nil.2 trivial))) .sc ?_
    simp -dsimp -implicitDefEqProofs [-getElem?_pos, go_sem, hP]
    refine adrawB (fun _ => true) [] hP (by kernel_rfl) (by kernel_rfl) ?_
    simp -dsimp -implicitDefEqProofs [-getElem?_pos, go_sem, hP, hx, lx, t4, f0, l0, d4, w4, hH]
    exact done (by simp -dsimp -implicitDefEqProofs [-getElem?_pos, go_sem, hH, io]) rfl (by simp -dsimp -implicitDefEqProofs [-getElem?_pos, go_sem, hH])
open Go.PA
open Go.RowKit
theorem grow0_posting (w : World) : Calls Tryz.prog 63 #[.slice none 0 0, .int .i64 0] w fun e w' => e = .returned (.slice none 0 0) ∧ w' = w := by
  go_enter Tryz.func63, Tryz.ntmps63
  go_wp2
  go_ret
  exact ⟨rfl, rfl⟩
set_option maxRecDepth 8000 in
set_option maxHeartbeats 1000000 in
theorem grow1_posting (n : Nat) (h1 : 1 ≤ n) (hb : n * 64 ≤ 140737488355328) (h63 : n ≤ 4611686018427387904) (i0 : TypeInfo) (z : Value) (hi0 : Tryz.prog.info? 36 = some i0) (hz0 : i0.zero = some z) (hs0 : 0 < i0.size) (hbytes : i0.bytes = 64) (w : World) :
    Calls Tryz.prog 63 #[.slice none 0 0, .int .i64 n] w fun e w' => e = .returned (.slice (some ⟨w.heap.size, 0, none⟩) 0 (grownCap w n 0 36)) ∧ w' = w.drew.alloc (.cells (([] : List Value).toArray ++ Builtin.zeroCells z.cells n ++ Builtin.zeroCells z.cells (grownCap w n 0 36 - n)) 36) := by
  have h1' : ¬ ((n : Int) < 0) := by omega
  have h2 : wrap64 (0 : Int) = 0 := by unfold wrap64; omega
  have h3 : wrap64 (n : Int) = (n : Int) := by unfold wrap64; omega
  have h4 : (n : Int) > 0 := by omega
  have hrz : ∀ ty, (Builtin.append_ #[30, 3] ty #[.slice none 0 0, .int .i64 n]).run Tryz.prog w =
      .ok (.slice (some ⟨w.heap.size, 0, none⟩) n (grownCap w n 0 36)) (w.drew.alloc (.cells (([] : List Value).toArray ++ Builtin.zeroCells z.cells n ++ Builtin.zeroCells z.cells (grownCap w n 0 36 - n)) 36)) := fun ty => by
    have h := Lib.run_append_grow_zeros w 30 3 ty 36 i0 z .i64 .i64 Tryz.underlying30 Tryz.underlying3 hi0 hz0 none 0 0 [] (run_firstCells_none w.drew i0.size 0 0 0) n (by omega) hs0 (by omega) (by omega) (by rw [hbytes]; omega) (by rw [hbytes, Nat.zero_add]; exact growslice_fits (by omega) (by omega))
    simp only [Nat.zero_add] at h
    exact h
  have hGn : n ≤ grownCap w n 0 36 := grownCap_ge w _ _ _
  obtain ⟨G, hG⟩ : ∃ G, G = grownCap w n 0 36 := ⟨_, rfl⟩
  rw [← hG] at hrz hGn ⊢
  have hG63 : G ≤ 9223372036854775807 := by
    have := grownCap_le_maxLen w n 0 36 (by unfold maxLen; omega)
    rw [← hG] at this
    unfold maxLen at this
    omega
  clear hG
  go_enter Tryz.func63, Tryz.ntmps63
  go_wp2_with (at_builtin; refine Lib.wpList_append_run _ rfl _ _ _ _ rfl _ _ rfl rfl _ _ (hrz _) ?_)
  all_goals (go_ret; exact ⟨rfl, rfl⟩)
theorem grow_m_posting {row src : Option Nat} (n : Nat) (hn : n ≤ 1000000) (H : Heap) : MFun Tryz.prog row src 63 [.nil, iv n] H (fun r H' => r = .sref H.length 0 0 ∧ H' = H ++ [some ⟨36, 8, []⟩]) := by
  obtain ⟨i0, hi0⟩ : ∃ i, Tryz.prog.info? 36 = some i := Option.isSome_iff_exists.1 (by kernel_rfl)
  have hz0' : (i0.zero).isSome = true := by
    have : ((Tryz.prog.info? 36).bind (·.zero)).isSome = true := by kernel_rfl
    rw [hi0] at this
    simpa using this
  obtain ⟨z, hz0⟩ := Option.isSome_iff_exists.1 hz0'
  have hsz : i0.size = 8 := by
    have : ((Tryz.prog.info? 36).map (·.size)) = some 8 := by kernel_rfl
    rw [hi0] at this
    simpa using this
  have hby : i0.bytes = 64 := by
    have : ((Tryz.prog.info? 36).map (·.bytes)) = some 64 := by kernel_rfl
    rw [hi0] at this
    simpa using this
  have hzc : z.cells.size = 8 := by
    have : (((Tryz.prog.info? 36).bind (·.zero)).map (·.cells.size)) = some 8 := by kernel_rfl
    rw [hi0] at this
    simp only [Option.bind_some, hz0, Option.map_some, Option.some.injEq] at this
    exact this
  refine MFun.mono (C := fun r H' => r = .sref H.length 0 0 ∧ H' = H ++ [some ⟨36, 8, []⟩]) ?_ (fun _ _ h => h)
  intro E hP hrow hsrc
  refine ⟨⟨_, _, rfl, rfl⟩, fun w ρ ok vs g hsz' hrep => ?_⟩
  rw [hP]
  have hv0 := hrep 0 (vs[0]'(by simp at hsz'; omega)) .nil (Array.getElem?_eq_getElem _) rfl
  have hv1 := hrep 1 (vs[1]'(by simp at hsz'; omega)) (iv n) (Array.getElem?_eq_getElem _) rfl
  have e1 := rep_sc hv1
  have e0 : vs[0]'(by simp at hsz'; omega) = .slice none 0 0 := by
    generalize vs[0]'(by simp at hsz'; omega) = v at hv0
    cases hv0
    rfl
  have hvs : vs = #[.slice none 0 0, .int .i64 n] := by
    apply Array.ext
    · simpa using hsz'
    · intro i h1 h2
      match i with
      | 0 => simpa using e0
      | 1 => simpa using e1
      | i + 2 => simp at h2; omega
  subst hvs
  rcases Nat.eq_zero_or_pos n with rfl | hpos
  · refine (grow0_posting w).mono ?_
    rintro e w' ⟨rfl, rfl⟩
    obtain ⟨g2, x2⟩ := g.add ⟨36, 8, []⟩ none rfl (by simp) (by simp)
    exact ⟨_, _, _, _, _, rfl, ⟨rfl, rfl⟩, g2, x2, .srefNil push_new (by simp [updP])⟩
  · refine (grow1_posting n hpos (by omega) (by omega) i0 z hi0 hz0 (by omega) hby w).mono ?_
    rintro e w' ⟨rfl, rfl⟩
    have hGn : n ≤ grownCap w n 0 36 := grownCap_ge w _ _ _
    have hG63 := grownCap_le_maxLen w n 0 36 (by unfold maxLen; omega)
    obtain ⟨G, hG⟩ : ∃ G, G = grownCap w n 0 36 := ⟨_, rfl⟩
    rw [← hG] at hGn hG63 ⊢
    obtain ⟨g1, x1⟩ := g.step (w' := w.drew) (ok' := ok) (fun _ => False) rfl rfl rfl (Nat.le_refl _) (fun _ _ _ => rfl) (fun _ h => h.elim) (fun _ h => h) (fun _ h => .inl h)
    obtain ⟨g2, x2⟩ := g1.newObj ⟨36, 8, []⟩ G (([] : List Value).toArray ++ Builtin.zeroCells z.cells n ++ Builtin.zeroCells z.cells (G - n)) (by
      simp only [Array.size_append, Builtin.zeroCells, Array.size_map, Array.size_range, hzc]
      simp
      omega) (by simp) hG63 (by simp) (by simp)
    refine ⟨_, .sref H.length 0 0, _, _, _, rfl, ⟨rfl, rfl⟩, g2, x1.trans x2, ?_⟩
    have := Rep.sref (w := w.drew.alloc (.cells (([] : List Value).toArray ++ Builtin.zeroCells z.cells n ++ Builtin.zeroCells z.cells (G - n)) 36)) (ρ := updP ρ H.length (some (w.drew.heap.size, G))) (H := H ++ [some ⟨36, 8, []⟩]) (ok := ok) (id := H.length) (lo := 0) (n := 0) (c := G) push_new (b := w.drew.heap.size) (cap := G) (by simp [updP]) (by simp) (fun _ => rfl) (Nat.zero_le _) hG63
    simpa using this
theorem concat_m_posting {row src : Option Nat} (ls : List (List TPosting)) (al : List TPosting) (hal : al = ls.flatten) (hl : ls.length ≤ 1000) (hn : al.length ≤ 1000000) (H : Heap) :
    MFun Tryz.prog row src 27 [.list 1 (ls.map fun l => [.list 8 (encL TPosting.cells l)])] H (fun r H' => ∃ id, r = .sref id 0 al.length ∧ H.length ≤ id ∧ H'[id]? = some (some ⟨36, 8, encL TPosting.cells al⟩) ∧ Kept [] H H') := by
  subst hal
  refine mfun_intro Tryz.func27 rfl (by simp [Tryz.f27]) (by kernel_rfl) ⟨_, H ++ [some ⟨36, 8, encL TPosting.cells ls.flatten⟩], H.length, rfl, Nat.le_refl _, by simp, kept_push _ (kept_refl _ _)⟩ ?_
  intro E hP hr hs hN
  simp -dsimp -implicitDefEqProofs [-getElem?_pos, go_sem, hP]
  obtain ⟨I, hI⟩ : ∃ I : Nat → St → Prop, I = fun m s => ∃ k : Nat, k ≤ ls.length ∧ m = ls.length - k ∧ s.t 0 = .list 1 (ls.map fun l => [.list 8 (encL TPosting.cells l)]) ∧ s.t 9 = .list 1 (ls.map fun l => [.list 8 (encL TPosting.cells l)]) ∧ s.t 10 = iv ls.length ∧ s.t 11 = iv k ∧ s.t 3 = iv ((ls.take k).flatten.length : Nat) ∧ s.H = H := ⟨_, rfl⟩
  refine aloop0 I ls.length (by rw [hN]; rfl) ?_ ?_
  · rw [hI]
    exact ⟨0, by omega, by omega, by simp -dsimp -implicitDefEqProofs [-getElem?_pos, go_sem], by simp -dsimp -implicitDefEqProofs [-getElem?_pos, go_sem], by simp -dsimp -implicitDefEqProofs [-getElem?_pos, go_sem], by simp -dsimp -implicitDefEqProofs [-getElem?_pos, go_sem], by simp -dsimp -implicitDefEqProofs [-getElem?_pos, go_sem], by simp -dsimp -implicitDefEqProofs [-getElem?_pos, go_sem]⟩
  intro m s hs'
  rw [hI] at hs'
  obtain ⟨k, hk, hm, t0, t9, t10, t11, t3, sH⟩ := hs'
  simp -dsimp -implicitDefEqProofs [-getElem?_pos, go_sem, hP, t11, t10]
  have flat : ∀ k, k ≤ ls.length → (ls.take k).flatten.length ≤ ls.flatten.length := fun k hk => by
    have := congrArg List.length (congrArg List.flatten (List.take_append_drop k ls))
    simp only [List.flatten_append, List.length_append] at this
    omega
  refine condP (fun h => ?_) (fun h => ?_)
  · have hk : k < ls.length := by simpa using h
    obtain ⟨l, hl'⟩ : ∃ l, ls[k]? = some l := ⟨_, List.getElem?_eq_getElem hk⟩
    have e1 : ls.take (k + 1) = ls.take k ++ [l] := by rw [List.take_add_one, hl']; rfl
    have e2 : (ls.take (k + 1)).flatten.length = (ls.take k).flatten.length + l.length := by rw [e1]; simp
    have := flat (k + 1) (by omega)
    have wk := wrap_in ((k : Int) + 1) (by omega)
    have w3 := wrap_in (((ls.take k).flatten.length : Int) + (l.length : Int)) (by omega)
    have hneg : decide (((ls.take k).flatten.length : Int) + (l.length : Int) < 0) = false := by simp; omega
    obtain ⟨m1, hm1⟩ : ∃ m1, m1 = (ls.take k).flatten.length := ⟨_, rfl⟩
    rw [← hm1] at w3 hneg t3 e2
    simp -dsimp -implicitDefEqProofs [-getElem?_pos, go_sem, hP, t9, t11, hk, hl', t3, w3, hneg, wk]
    refine ⟨ls.length - (k + 1), by omega, ?_⟩
    rw [hI]
    exact ⟨k + 1, by omega, rfl, by simp -dsimp -implicitDefEqProofs [-getElem?_pos, go_sem, t0], by simp -dsimp -implicitDefEqProofs [-getElem?_pos, go_sem, t9], by simp -dsimp -implicitDefEqProofs [-getElem?_pos, go_sem, t10], by simp -dsimp -implicitDefEqProofs [-getElem?_pos, go_sem], by rw [e2]; simp -dsimp -implicitDefEqProofs [-getElem?_pos, go_sem], by simp -dsimp -implicitDefEqProofs [-getElem?_pos, go_sem, sH]⟩
  · have hk : k = ls.length := by simp at h; omega
    subst hk
    rw [List.take_length] at t3
    obtain ⟨n, hnn⟩ : ∃ n, n = ls.flatten.length := ⟨_, rfl⟩
    rw [← hnn] at t3
    simp -dsimp -implicitDefEqProofs [-getElem?_pos, go_sem, hP, t3]
    refine callB_m (grow_m_posting n (by omega) s.H) hP (by kernel_rfl) ?_
    rintro r H' ⟨rfl, rfl⟩
    simp -dsimp -implicitDefEqProofs [-getElem?_pos, go_sem, hP, t0]
    obtain ⟨J, hJ⟩ : ∃ J : Nat → St → Prop, J = fun m s => ∃ (k id : Nat), k ≤ ls.length ∧ m = ls.length - k ∧ s.t 25 = .list 1 (ls.map fun l => [.list 8 (encL TPosting.cells l)]) ∧ s.t 26 = iv ls.length ∧ s.t 27 = iv k ∧ s.t 6 = .sref id 0 (ls.take k).flatten.length ∧ H.length ≤ id ∧ s.H[id]? = some (some ⟨36, 8, encL TPosting.cells (ls.take k).flatten⟩) ∧ Kept [] H s.H := ⟨_, rfl⟩
    refine aloop0 J ls.length (by rw [hN]; rfl) ?_ ?_
    · rw [hJ]
      exact ⟨0, H.length, by omega, by omega, by simp -dsimp -implicitDefEqProofs [-getElem?_pos, go_sem], by simp -dsimp -implicitDefEqProofs [-getElem?_pos, go_sem], by simp -dsimp -implicitDefEqProofs [-getElem?_pos, go_sem], by simp -dsimp -implicitDefEqProofs [-getElem?_pos, go_sem, sH], Nat.le_refl _, by simp -dsimp -implicitDefEqProofs [-getElem?_pos, go_sem, sH], by simp -dsimp -implicitDefEqProofs [-getElem?_pos, go_sem, sH]; exact kept_push _ (kept_refl _ _)⟩
    clear t0 t9 t10 t11 t3 sH
    intro m s hs'
    rw [hJ] at hs'
    obtain ⟨k, id, hk, hm, t25, t26, t27, t6, hid, hH, hKp⟩ := hs'
    simp -dsimp -implicitDefEqProofs [-getElem?_pos, go_sem, hP, t26, t27]
    refine condP (fun h => ?_) (fun h => ?_)
    · have hk : k < ls.length := by simpa using h
      obtain ⟨l, hl'⟩ : ∃ l, ls[k]? = some l := ⟨_, List.getElem?_eq_getElem hk⟩
      have e1 : ls.take (k + 1) = ls.take k ++ [l] := by rw [List.take_add_one, hl']; rfl
      have e2 : (ls.take (k + 1)).flatten = (ls.take k).flatten ++ l := by rw [e1]; simp
      have hle := flat (k + 1) (by omega)
      have wk := wrap_in ((k : Int) + 1) (by omega)
      rw [e2, List.length_append] at hle
      obtain ⟨fl, hfl⟩ : ∃ fl, fl = (ls.take k).flatten := ⟨_, rfl⟩
      rw [← hfl] at e2 t6 hH hle
      have hlt := (List.getElem?_eq_some_iff.1 hH).1
      simp -dsimp -implicitDefEqProofs [-getElem?_pos, go_sem, hP, t25, t27, hk, hl', t6, hH, wk]
      refine ⟨by omega, by omega, ls.length - (k + 1), by omega, ?_⟩
      rw [hJ]
      refine ⟨k + 1, s.H.length, by omega, rfl, by simp -dsimp -implicitDefEqProofs [-getElem?_pos, go_sem, t25], by simp -dsimp -implicitDefEqProofs [-getElem?_pos, go_sem, t26], by simp -dsimp -implicitDefEqProofs [-getElem?_pos, go_sem], by simp -dsimp -implicitDefEqProofs [-getElem?_pos, go_sem, e2], by omega, ?_, ?_⟩
      · simp -dsimp -implicitDefEqProofs [-getElem?_pos, go_sem, e2, encL_app]
      · simp -dsimp -implicitDefEqProofs [-getElem?_pos, go_sem]
        exact kept_push _ (kept_new _ hid hKp)
    · have hk : k = ls.length := by simp at h; omega
      subst hk
      rw [List.take_length] at t6 hH
      simp -dsimp -implicitDefEqProofs [-getElem?_pos, go_sem, hP, t6]
      exact ⟨hid, hH, hKp⟩
theorem aclose_pf {l : List TPosting} {day i u q : Int} {cl : List TClaim} (h : AdjIn l day i u q cl) {X : List TPosting} (hX : X = l ++ adjL l.length day i u q (openS cl) (-(provD day cl))) (hxl : X.length ≤ 1000) :
    PFun Tryz.prog none none 9 [.agg [postsL l], iv 1, iv day, .agg [iv i, iv u, iv q, claimsL cl]] (· = .tup [.agg [postsL X], iv 0]) := by
  refine pfun_intro Tryz.func9 rfl (by simp [Tryz.f9]) (by kernel_rfl) ?_
  intro E hP hr hs hW hN
  have ad := adjust_pf h
  have ip := imm_posts l
  have ic := imm_claims cl
  have ix := imm_posts X
  obtain ⟨a, ha⟩ : ∃ a, a = adjL l.length day i u q (openS cl) (-(provD day cl)) := ⟨_, rfl⟩
  rw [← ha] at ad hX
  have ia := imm_posts a
  have cc := fun H => concat_m_posting (row := E.row) (src := E.src) [l, a] X (by rw [hX]; simp) (by simp) (by omega) H
  have cc : ∀ H, MFun Tryz.prog E.row E.src 27 [.list 1 [[postsL l], [postsL a]]] H (fun r H' => ∃ id, r = .sref id 0 X.length ∧ H.length ≤ id ∧ H'[id]? = some (some ⟨36, 8, encL TPosting.cells X⟩) ∧ Kept [] H H') := cc
  simp -dsimp -implicitDefEqProofs [-getElem?_pos, go_sem, hP]
  refine callB_is (ad.lift _ _) hP en_26 (by simp [ip, ic, imm_agg, imm_sc]) (imm_pair ia .sc) ?_
  simp -dsimp -implicitDefEqProofs [-getElem?_pos, go_sem, hP]
  refine callB_m (cc _) hP en_27 ?_
  rintro r H1 ⟨id, rfl, hid, hH, kp⟩
  simp only [List.length_cons, List.length_nil] at hid
  have f2 := kp 2 _ (by simp) rfl
  have l2 := (List.getElem?_eq_some_iff.1 f2).1
  have ne : ¬ id = 2 := by omega
  have ne' : ¬ 2 = id := by omega
  simp -dsimp -implicitDefEqProofs [-getElem?_pos, go_sem, hP, f2, l2]
  exact done (by simp -dsimp -implicitDefEqProofs [-getElem?_pos, go_sem, hH, l2, ne, ne', ix]) rfl (by simp -dsimp -implicitDefEqProofs [-getElem?_pos, go_sem, hH, l2, ne, ne'])
set_option maxHeartbeats 4000000 in
theorem areopen_pf {l : List TPosting} {day : Int} (hck : checkL l = 0) (hll : l.length ≤ 200) (hdd : 0 ≤ day ∧ day ≤ 35999) (hla : lastP l ≤ day + 1) :
    PFun Tryz.prog none none 11 [.agg [postsL l], iv 1, iv day] (· = .tup [.agg [postsL (reopGo 1 day l l)], iv 0]) := by
  refine pfun_intro Tryz.func11 rfl (by simp [Tryz.f11]) (by kernel_rfl) ?_
  intro E hP hr hs hW hN
  have ck := lcheck_pf ⟨l⟩ (by show l.length ≤ _; omega)
  rw [cL] at ck
  have ck : PFun Tryz.prog none none 22 [.agg [postsL l]] (· = iv 0) := by simpa [hck] using ck
  have la := llast_pf ⟨l⟩ (by show l.length ≤ _; omega)
  rw [cL] at la
  have ip := imm_posts l
  have b1 : betw 1 1 10 = true := rfl
  have b2 : betw day 0 35999 = true := by unfold betw; simp; omega
  have w1 := wrap_in (day + 1) (by omega)
  have d1 : decide (day + 1 < lastP l) = false := decide_eq_false (by omega)
  simp -dsimp -implicitDefEqProofs [-getElem?_pos, go_sem, hP]
  refine callB_is (ck.lift _ _) hP en_22 (by simp [ip, imm_agg]) .sc ?_
  simp -dsimp -implicitDefEqProofs [-getElem?_pos, go_sem, hP]
  refine callB_pure (acamong_pf 1 1 10) hP en_30 (args_same (by simp -dsimp -implicitDefEqProofs [-getElem?_pos, go_sem])) .sc ?_
  simp -dsimp -implicitDefEqProofs [-getElem?_pos, go_sem, hP, b1]
  refine callB_pure (acamong_pf day 0 35999) hP en_30 (args_same (by simp -dsimp -implicitDefEqProofs [-getElem?_pos, go_sem])) .sc ?_
  simp -dsimp -implicitDefEqProofs [-getElem?_pos, go_sem, hP, b2]
  refine callB_is (la.lift _ _) hP en_24 (by simp [ip, imm_agg]) .sc ?_
  simp -dsimp -implicitDefEqProofs [-getElem?_pos, go_sem, hP, w1, d1]
  refine callB_m (by rw [hr, hs]; exact clone_m_posting l _ (by omega)) hP en_25 ?_
  rintro r H1 ⟨id, rfl, hid, hH, kp⟩
  simp only [List.length_cons, List.length_nil] at hid
  have f0 := kp 0 _ (by simp) rfl
  have f1 := kp 1 _ (by simp) rfl
  have l0 := (List.getElem?_eq_some_iff.1 f0).1
  have l1 := (List.getElem?_eq_some_iff.1 f1).1
  have lid := (List.getElem?_eq_some_iff.1 hH).1
  simp -dsimp -implicitDefEqProofs [-getElem?_pos, go_sem, hP, f0, l0]
  obtain ⟨I, hI⟩ : ∃ I : Nat → St → Prop, I = fun m s => ∃ (k id a : Nat) (out : List TPosting), k ≤ l.length ∧ m = l.length - k ∧ reopGo 1 day l l = reopGo 1 day out (l.drop k) ∧ out.length ≤ l.length + k ∧ 2 ≤ a ∧ a ≠ id ∧ 2 ≤ id ∧ s.t 1 = iv 1 ∧ s.t 2 = iv day ∧ s.t 6 = .ref 1 0 0 ∧ s.t 9 = .ref a 0 0 ∧ s.t 40 = postsL l ∧ s.t 41 = iv l.length ∧ s.t 42 = iv k ∧ s.H[a]? = some (some ⟨33, 1, [[.sref id 0 out.length]]⟩) ∧ s.H[id]? = some (some ⟨36, 8, encL TPosting.cells out⟩) ∧ s.H[1]? = some (some ⟨33, 1, [[.nil]]⟩) := ⟨_, rfl⟩
  refine aloop0 I (l.length) (by rw [hN]; rfl) ?_ ?_
  · rw [hI]
    refine ⟨0, id, H1.length, l, by omega, by omega, by simp, by omega, by omega, by omega, by omega, by simp -dsimp -implicitDefEqProofs [-getElem?_pos, go_sem], by simp -dsimp -implicitDefEqProofs [-getElem?_pos, go_sem], by simp -dsimp -implicitDefEqProofs [-getElem?_pos, go_sem], by simp -dsimp -implicitDefEqProofs [-getElem?_pos, go_sem], by simp -dsimp -implicitDefEqProofs [-getElem?_pos, go_sem], by simp -dsimp -implicitDefEqProofs [-getElem?_pos, go_sem], by simp -dsimp -implicitDefEqProofs [-getElem?_pos, go_sem], by simp -dsimp -implicitDefEqProofs [-getElem?_pos, go_sem], ?_, ?_⟩
    · simp -dsimp -implicitDefEqProofs [-getElem?_pos, go_sem, List.getElem?_append_left lid, hH]
    · simp -dsimp -implicitDefEqProofs [-getElem?_pos, go_sem, List.getElem?_append_left l1, f1]
  clear f0 f1 l0 l1 lid hH kp hid
  intro m s hs'
  rw [hI] at hs'
  obtain ⟨k, id, a, out, hk, hm, hgo, hol, ha2, hne, hid2, t1, t2, t6, t9, t40, t41, t42, ga, gi, g1⟩ := hs'
  have la2 := (List.getElem?_eq_some_iff.1 ga).1
  have li2 := (List.getElem?_eq_some_iff.1 gi).1
  have l1 := (List.getElem?_eq_some_iff.1 g1).1
  simp -dsimp -implicitDefEqProofs [-getElem?_pos, go_sem, hP, t41, t42]
  refine condP (fun hq => ?_) (fun hq => ?_)
  · have hk : k < l.length := by simpa using hq
    obtain ⟨p, hp⟩ : ∃ p, l[k]? = some p := ⟨_, List.getElem?_eq_getElem hk⟩
    have wk := wrap_in ((k : Int) + 1) (by omega)
    have hdr : l.drop k = p :: l.drop (k + 1) := by
      obtain ⟨h2, h3⟩ := List.getElem?_eq_some_iff.1 hp
      rw [List.drop_eq_getElem_cons h2, h3]
    rw [hdr, reopGo] at hgo
    have nxt : turnB 1 day p = false → ∀ s' : St, s'.t 1 = s.t 1 → s'.t 2 = s.t 2 → s'.t 6 = s.t 6 → s'.t 9 = s.t 9 → s'.t 40 = s.t 40 → s'.t 41 = s.t 41 → s'.t 42 = iv ((k : Int) + 1) → (∀ (j : Nat) (o : Option AObj), s.H[j]? = some o → s'.H[j]? = some o) → ∃ n', n' < m ∧ I n' s' := fun ht s' e1 e2 e6 e9 e40 e41 e42 hh => by
      rw [ht, if_neg (by simp)] at hgo
      refine ⟨l.length - (k + 1), by omega, ?_⟩
      rw [hI]
      exact ⟨k + 1, id, a, out, by omega, rfl, hgo, by omega, ha2, hne, hid2, by rw [e1, t1], by rw [e2, t2], by rw [e6, t6], by rw [e9, t9], by rw [e40, t40], by rw [e41, t41], by rw [e42]; simp, hh _ _ ga, hh _ _ gi, hh _ _ g1⟩
    have psh : ∀ (x : AObj) (j : Nat) (o : Option AObj), s.H[j]? = some o → (s.H ++ [some x])[j]? = some o := fun x j o h => by
      rw [List.getElem?_append_left (List.getElem?_eq_some_iff.1 h).1]
      exact h
    simp -dsimp -implicitDefEqProofs [-getElem?_pos, go_sem, hP, t40, t42, hp, cP, t1, t2]
    by_cases c1 : p.Entity = 1
    rotate_left
    · have e1 : decide (p.Entity = 1) = false := decide_eq_false c1
      simp -dsimp -implicitDefEqProofs [-getElem?_pos, go_sem, hP, e1, t42, wk]
      exact nxt (by simp [turnB, c1]) _ (by simp -dsimp -implicitDefEqProofs [-getElem?_pos, go_sem]) (by simp -dsimp -implicitDefEqProofs [-getElem?_pos, go_sem]) (by simp -dsimp -implicitDefEqProofs [-getElem?_pos, go_sem]) (by simp -dsimp -implicitDefEqProofs [-getElem?_pos, go_sem]) (by simp -dsimp -implicitDefEqProofs [-getElem?_pos, go_sem]) (by simp -dsimp -implicitDefEqProofs [-getElem?_pos, go_sem]) (by simp -dsimp -implicitDefEqProofs [-getElem?_pos, go_sem]) fun j o h => psh _ j o h
    have e1 : decide (p.Entity = 1) = true := decide_eq_true c1
    by_cases c2 : p.Day = day
    rotate_left
    · have e2 : decide (p.Day = day) = false := decide_eq_false c2
      simp -dsimp -implicitDefEqProofs [-getElem?_pos, go_sem, hP, e1, e2, t2, t42, wk]
      exact nxt (by simp [turnB, c2]) _ (by simp -dsimp -implicitDefEqProofs [-getElem?_pos, go_sem]) (by simp -dsimp -implicitDefEqProofs [-getElem?_pos, go_sem]) (by simp -dsimp -implicitDefEqProofs [-getElem?_pos, go_sem]) (by simp -dsimp -implicitDefEqProofs [-getElem?_pos, go_sem]) (by simp -dsimp -implicitDefEqProofs [-getElem?_pos, go_sem]) (by simp -dsimp -implicitDefEqProofs [-getElem?_pos, go_sem]) (by simp -dsimp -implicitDefEqProofs [-getElem?_pos, go_sem]) fun j o h => psh _ j o h
    have e2 : decide (p.Day = day) = true := decide_eq_true c2
    by_cases c3 : p.Ref = 1000000
    rotate_left
    · have e3 : decide (p.Ref = 1000000) = false := decide_eq_false c3
      simp -dsimp -implicitDefEqProofs [-getElem?_pos, go_sem, hP, e1, e2, t2, e3, t42, wk]
      exact nxt (by simp [turnB, c3]) _ (by simp -dsimp -implicitDefEqProofs [-getElem?_pos, go_sem]) (by simp -dsimp -implicitDefEqProofs [-getElem?_pos, go_sem]) (by simp -dsimp -implicitDefEqProofs [-getElem?_pos, go_sem]) (by simp -dsimp -implicitDefEqProofs [-getElem?_pos, go_sem]) (by simp -dsimp -implicitDefEqProofs [-getElem?_pos, go_sem]) (by simp -dsimp -implicitDefEqProofs [-getElem?_pos, go_sem]) (by simp -dsimp -implicitDefEqProofs [-getElem?_pos, go_sem]) fun j o h => psh _ j o h
    have e3 : decide (p.Ref = 1000000) = true := decide_eq_true c3
    have ht : turnB 1 day p = true := by simp [turnB, c1, c2, c3]
    rw [if_pos ht] at hgo
    have wo := wrap_in ((out.length : Int) + 1) (by omega)
    have tp := turn_pf p ((out.length : Int) + 1) (day + 1)
    rw [cP] at tp
    have ipp : Imm (.agg [iv p.Number, iv p.Day, iv p.Entity, iv p.Debit, iv p.Credit, iv p.Amount, iv p.Partner, iv p.Ref]) := imm_agg.2 p.imm
    simp -dsimp -implicitDefEqProofs [-getElem?_pos, go_sem, hP, e1, e2, t2, e3]
    have sa := psh ⟨36, 8, [[iv p.Number, iv p.Day, iv p.Entity, iv p.Debit, iv p.Credit, iv p.Amount, iv p.Partner, iv p.Ref]]⟩
    have ga := sa _ _ ga
    have gi := sa _ _ gi
    have g1 := sa _ _ g1
    obtain ⟨N, hN0⟩ : ∃ N, N = s.H.length := ⟨_, rfl⟩
    obtain ⟨H2, hH2⟩ : ∃ H2 : Heap, H2 = s.H ++ [some ⟨36, 8, [[iv p.Number, iv p.Day, iv p.Entity, iv p.Debit, iv p.Credit, iv p.Amount, iv p.Partner, iv p.Ref]]⟩] := ⟨_, rfl⟩
    have gN : H2[N]? = some (some ⟨36, 8, [[iv p.Number, iv p.Day, iv p.Entity, iv p.Debit, iv p.Credit, iv p.Amount, iv p.Partner, iv p.Ref]]⟩) := by rw [hH2, hN0]; simp
    rw [← hH2] at ga gi g1
    clear sa psh nxt
    rw [← hH2, ← hN0]
    have lN := (List.getElem?_eq_some_iff.1 gN).1
    have la3 := (List.getElem?_eq_some_iff.1 ga).1
    have l13 := (List.getElem?_eq_some_iff.1 g1).1
    have qa : ¬ id = a := fun e => hne e.symm
    have hp2 : (H2.set id none)[a]? = some (some ⟨33, 1, [[.sref id 0 out.length]]⟩) := by rw [List.getElem?_set_ne qa]; exact ga
    have hp3 : ∀ x : Option AObj, (H2.set id none ++ [x])[a]? = some (some ⟨33, 1, [[.sref id 0 out.length]]⟩) := fun x => by rw [List.getElem?_append_left (by simpa using la3)]; exact hp2
    have ct : (turnP p ((out.length : Int) + 1) (day + 1)).cells = [iv ((out.length : Int) + 1), iv (day + 1), iv p.Entity, iv p.Credit, iv p.Debit, iv p.Amount, iv p.Partner, iv p.Ref] := rfl
    have ln : (out ++ [turnP p ((out.length : Int) + 1) (day + 1)]).length = out.length + 1 := by simp
    refine adrawB (fun _ => true) [11, 13] hP (by kernel_rfl) (by kernel_rfl) ?_
    simp -dsimp -implicitDefEqProofs [-getElem?_pos, go_sem, hP, t9, ga, gi, gN, la3, lN, wo, t2, w1]
    refine callB_is (tp.lift _ _) hP en_31 (by simpa [imm_sc] using ipp) (imm_agg.2 (TPosting.imm _)) ?_
    simp -dsimp -implicitDefEqProofs [-getElem?_pos, go_sem, hP, ct, gi]
    refine ⟨by omega, by omega, ?_⟩
    simp -dsimp -implicitDefEqProofs [-getElem?_pos, go_sem, hP, hp2, hp3, t9, la3, t42, wk]
    refine ⟨l.length - (k + 1), by omega, ?_⟩
    rw [hI]
    refine ⟨k + 1, H2.length, a, out ++ [turnP p ((out.length : Int) + 1) (day + 1)], by omega, rfl, hgo, by rw [ln]; omega, ha2, by omega, by omega, by simp -dsimp -implicitDefEqProofs [-getElem?_pos, go_sem, t1], by simp -dsimp -implicitDefEqProofs [-getElem?_pos, go_sem, t2], by simp -dsimp -implicitDefEqProofs [-getElem?_pos, go_sem, t6], by simp -dsimp -implicitDefEqProofs [-getElem?_pos, go_sem, t9], by simp -dsimp -implicitDefEqProofs [-getElem?_pos, go_sem, t40], by simp -dsimp -implicitDefEqProofs [-getElem?_pos, go_sem, t41], by simp -dsimp -implicitDefEqProofs [-getElem?_pos, go_sem], ?_, ?_, ?_⟩
    · rw [ln]
      simp -dsimp -implicitDefEqProofs [-getElem?_pos, go_sem, la3]
    · rw [← encL_snoc, ct]
      simp -dsimp -implicitDefEqProofs [-getElem?_pos, go_sem, la3]
    · dsimp only
      first
        | rw [List.getElem?_set_ne (by omega), List.getElem?_append_left (by simpa using l13), List.getElem?_set_ne (by omega)]
        | rw [List.getElem?_append_left (by simpa using l13), List.getElem?_set_ne (by omega), List.getElem?_set_ne (by omega)]
      exact g1
  · have hk : k = l.length := by simp at hq; omega
    subst hk
    rw [List.drop_length, reopGo] at hgo
    have io := imm_posts out
    have d4 : decide ((400 : Int) < (out.length : Int)) = false := decide_eq_false (by omega)
    simp -dsimp -implicitDefEqProofs [-getElem?_pos, go_sem, hP, t9, ga, la2, d4, t6, l1, gi, g1]
    rw [hgo]
    have gi1 : ∀ x : Option AObj, (s.H.set 1 x)[id]? = some (some ⟨36, 8, encL TPosting.cells out⟩) := fun x => by rw [List.getElem?_set_ne (by omega)]; exact gi
    exact done (by simp -dsimp -implicitDefEqProofs [-getElem?_pos, go_sem, gi, gi1, l1, io]) rfl (by simp -dsimp -implicitDefEqProofs [-getElem?_pos, go_sem, gi, gi1, l1])
open Go.PA
open Go.RowKit
theorem sumG_list (g : Int → Int) : ∀ n : Nat, ((listG g 0 n).map (·.Amount)).sum = sumG g n
  | 0 => rfl
  | n + 1 => by
    rw [listG, sumG, List.map_append, List.sum_append, sumG_list g n]
    simp only [Nat.zero_add]
    split
    · simp; omega
    · simp
def cashL (l : List TBalance) : Int := l.foldl (fun c b => if b.Account = 110 then b.Amount else c) 0
theorem cash_list (g : Int → Int) : ∀ n : Nat, cashL (listG g 0 n) = if 110 < n then g 110 else 0
  | 0 => rfl
  | n + 1 => by
    have ih := cash_list g n
    unfold cashL at *
    rw [listG, List.foldl_append, ih]
    simp only [Nat.zero_add]
    by_cases h : n = 110
    · subst h
      by_cases hz : g ((110 : Nat) : Int) = 0
      · rw [if_pos hz]
        have : g 110 = 0 := hz
        simp [this]
      · rw [if_neg hz]
        simp
    · have hn : ¬ ((n : Nat) : Int) = 110 := by omega
      have e : (110 < n + 1) = (110 < n) := propext (by omega)
      rw [show (if 110 < n + 1 then g 110 else 0) = (if 110 < n then g 110 else 0) by simp only [e]]
      by_cases hz : g (n : Int) = 0
      · rw [if_pos hz]
        rfl
      · rw [if_neg hz, List.foldl_cons, List.foldl_nil]
        simp only [if_neg hn]
end Go.Proofs.YtpllcolbcahicaaGreatDoor
