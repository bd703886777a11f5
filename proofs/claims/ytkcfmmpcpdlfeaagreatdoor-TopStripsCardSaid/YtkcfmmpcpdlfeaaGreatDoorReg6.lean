/- Registers: making a move. -/
import Derived.Test.YtkcfmmpcpdlfeaaGreatDoorReg5
set_option linter.unusedSimpArgs false
set_option linter.unusedVariables false
namespace Go.Proofs.YtkcfmmpcpdlfeaaGreatDoor
open Go.PA
open Go.RowKit

theorem index_pf_sec (l : List TSecurity) (g : FuncId) (caps : List AV) (p : TSecurity → Bool) (hl : l.length ≤ 1000000) (hen : enterable Tryz.prog g = true) (hcap : ∀ a, a ∈ caps → Imm a)
    (hg : ∀ a, a ∈ l → PFun Tryz.prog none none g (.agg (TSecurity.cells a) :: caps) (· = bv (p a))) :
    PFun Tryz.prog none none 87 [.list 7 (encL TSecurity.cells l), .fn g caps] (· = iv (idxI p l)) := by
  refine pfun_intro Tryz.func87 rfl (by simp [Tryz.f87]) (by kernel_rfl) ?_
  intro E hP hr hs hW hN
  simp -dsimp -implicitDefEqProofs [-getElem?_pos, go_sem, hP]
  obtain ⟨I, hI⟩ : ∃ I : Nat → St → Prop, I = fun m s => ∃ k : Nat, k ≤ l.length ∧ m = l.length - k ∧ idxI p l = idxFrom p k (l.drop k) ∧ s.t 0 = .list 7 (encL TSecurity.cells l) ∧ s.t 1 = .fn g caps ∧ s.t 7 = iv l.length ∧ s.t 8 = iv k := ⟨_, rfl⟩
  refine aloop0 I (l.length) (by rw [hN]; rfl) ?_ ?_
  · rw [hI]
    exact ⟨0, by omega, by omega, by simp [idxI], by simp -dsimp -implicitDefEqProofs [-getElem?_pos, go_sem], by simp -dsimp -implicitDefEqProofs [-getElem?_pos, go_sem], by simp -dsimp -implicitDefEqProofs [-getElem?_pos, go_sem], by simp -dsimp -implicitDefEqProofs [-getElem?_pos, go_sem]⟩
  intro m s hs'
  rw [hI] at hs'
  obtain ⟨k, hk, hm, hi, t0, t1, t7, t8⟩ := hs'
  simp -dsimp -implicitDefEqProofs [-getElem?_pos, go_sem, hP, t7, t8]
  refine condP (fun h => ?_) (fun h => ?_)
  · have hk : k < l.length := by simpa using h
    obtain ⟨a, ha⟩ : ∃ a, l[k]? = some a := ⟨_, List.getElem?_eq_getElem hk⟩
    have wk := wrap_in ((k : Int) + 1) (by omega)
    have hz : (TSecurity.cells a).take 7 = TSecurity.cells a := List.take_of_length_le (by rw [TSecurity.len]; omega)
    have hd : l.drop k = a :: l.drop (k + 1) := by
      rw [List.getElem?_eq_getElem hk] at ha
      rw [List.drop_eq_getElem_cons hk, Option.some.inj ha]
    simp -dsimp -implicitDefEqProofs [-getElem?_pos, go_sem, hP, t8, t1, t0, ha, TSecurity.len, hz]
    refine callB_is ((hg a (List.mem_of_getElem? ha)).lift _ _) hP hen (fun x hx => ?_) .sc ?_
    · rcases List.mem_cons.1 hx with rfl | hx
      · exact imm_agg.2 (TSecurity.imm a)
      · exact hcap x hx
    rw [hd] at hi
    simp only [idxFrom] at hi
    simp -dsimp -implicitDefEqProofs [-getElem?_pos, go_sem, hP]
    refine condP (fun hp => ?_) (fun hp => ?_)
    · rw [if_pos hp] at hi
      simp -dsimp -implicitDefEqProofs [-getElem?_pos, go_sem, hP]
      exact hi.symm
    · rw [hp, if_neg (by simp)] at hi
      simp -dsimp -implicitDefEqProofs [-getElem?_pos, go_sem, hP, t8, wk]
      refine ⟨l.length - (k + 1), by omega, ?_⟩
      rw [hI]
      exact ⟨k + 1, by omega, rfl, hi, by simp -dsimp -implicitDefEqProofs [-getElem?_pos, go_sem, t0], by simp -dsimp -implicitDefEqProofs [-getElem?_pos, go_sem, t1], by simp -dsimp -implicitDefEqProofs [-getElem?_pos, go_sem, t7], by simp -dsimp -implicitDefEqProofs [-getElem?_pos, go_sem]⟩
  · have hk : k = l.length := by simp at h; omega
    subst hk
    rw [List.drop_length] at hi
    simp -dsimp -implicitDefEqProofs [-getElem?_pos, go_sem, hP]
    exact hi.symm

theorem gfind1_pf (x : TSecurity) (id : Int) : PFun Tryz.prog none none 112 [.agg x.cells, .iref [iv id]] (· = bv (decide (x.ID = id))) := by
  refine pfun_intro Tryz.func112 rfl (by simp [Tryz.f112]) (by kernel_rfl) ?_
  intro E hP hr hs hW hN
  simp -dsimp -implicitDefEqProofs [-getElem?_pos, go_sem, hP, cSec]
def zSec : TSecurity := ⟨0, 0, 0, 0, 0, 0, false⟩
def findR (l : List TSecurity) (id : Int) : TSecurity × Bool := match findS l id with
  | some s => (s, true)
  | none => (zSec, false)
theorem find_idx {α : Type} (p : α → Bool) (l : List α) : (idxI p l = -1 ∧ l.find? p = none) ∨ ∃ (i : Nat) (a : α), l[i]? = some a ∧ idxI p l = (i : Int) ∧ l.find? p = some a := by
  rcases idxI_spec p l with ⟨h1, h2⟩ | ⟨i, a, h1, h2, h3, h4⟩
  · exact .inl ⟨h1, List.find?_eq_none.2 fun x hx => by simp [h2 x hx]⟩
  · refine .inr ⟨i, a, h1, h3, ?_⟩
    rw [List.find?_eq_some_iff_getElem]
    have hi := (List.getElem?_eq_some_iff.1 h1).1
    refine ⟨h2, i, hi, (List.getElem?_eq_some_iff.1 h1).2, fun j hj => ?_⟩
    rw [h4 j l[j] hj (List.getElem?_eq_getElem (by omega))]
    rfl
theorem gfind_pf (l : List TSecurity) (id : Int) (hl : l.length ≤ 100000) : PFun Tryz.prog none none 78 [secsL l, iv id] (· = .tup [.agg (findR l id).1.cells, bv (findR l id).2]) := by
  have il := imm_secs l
  refine pfun_intro Tryz.func78 rfl (by simp [Tryz.f78]) (by kernel_rfl) ?_
  intro E hP hr hs hW hN
  simp -dsimp -implicitDefEqProofs [-getElem?_pos, go_sem, hP]
  refine callB_pure (index_pf_sec l 112 [.iref [iv id]] (fun x => decide (x.ID = id)) (by omega) en_112 (by simp [imm_iref, imm_sc]) fun x _ => gfind1_pf x id) hP en_87 (args_imm il (args_fnc (cs := [.ref 0 0 0]) (by simp -dsimp -implicitDefEqProofs [-getElem?_pos, go_sem, viewR_ref]) (by simp [imm_iref, imm_sc]) (args_nil.2 trivial))) .sc ?_
  rcases find_idx (fun x : TSecurity => decide (x.ID = id)) l with ⟨h1, h2⟩ | ⟨i, a, h1, h2, h3⟩
  · have e : findR l id = (zSec, false) := by rw [findR, findS, h2]
    simp -dsimp -implicitDefEqProofs [-getElem?_pos, go_sem, hP, h1]
    exact done_imm (imm_pair (show Imm (.agg zSec.cells) from imm_sec _) .sc) (by rw [e]; rfl)
  · have e : findR l id = (a, true) := by rw [findR, findS, h3]
    have d : decide ((i : Int) < 0) = false := decide_eq_false (by omega)
    have li := (List.getElem?_eq_some_iff.1 h1).1
    simp -dsimp -implicitDefEqProofs [-getElem?_pos, go_sem, hP, h2, d, h1, cSec, li]
    exact done_imm (imm_pair (by rw [← cSec]; exact imm_sec _) .sc) (by rw [e]; rfl)
theorem gstrange_pf (m : TMove) : PFun Tryz.prog none none 101 [.agg m.cells] (· = bv (strangeB m)) := by
  refine pfun_intro Tryz.func101 rfl (by simp [Tryz.f101]) (by kernel_rfl) ?_
  intro E hP hr hs hW hN
  simp -dsimp -implicitDefEqProofs [-getElem?_pos, go_sem, hP, cMov]
  refine adrawB (fun _ => true) [] hP (by kernel_rfl) (by kernel_rfl) ?_
  simp -dsimp -implicitDefEqProofs [-getElem?_pos, go_sem, hP]
  refine callB_pure (gholder_pf m.From) hP en_156 (args_same (by simp -dsimp -implicitDefEqProofs [-getElem?_pos, go_sem])) .sc ?_
  simp -dsimp -implicitDefEqProofs [-getElem?_pos, go_sem, hP]
  refine callB_pure (gholder_pf m.To) hP en_156 (args_same (by simp -dsimp -implicitDefEqProofs [-getElem?_pos, go_sem])) .sc ?_
  by_cases k1 : m.Kind = 1
  · by_cases f : m.From = 0 <;> cases h : holderB m.To <;> simp -dsimp -implicitDefEqProofs [-getElem?_pos, go_sem, hP, k1, f, h, strangeB]
  · by_cases k2 : m.Kind = 2
    · cases h1 : holderB m.From <;> cases h2 : holderB m.To <;> by_cases f : m.From = m.To <;> simp -dsimp -implicitDefEqProofs [-getElem?_pos, go_sem, hP, k1, k2, f, h1, h2, strangeB]
    · by_cases f : m.To = 0 <;> cases h : holderB m.From <;> simp -dsimp -implicitDefEqProofs [-getElem?_pos, go_sem, hP, k1, k2, f, h, strangeB]
end Go.Proofs.YtkcfmmpcpdlfeaaGreatDoor
