/- Queues: wait. -/
import Derived.Test.YtmpncdlhmknkoaaBat7
set_option linter.unusedSimpArgs false
set_option linter.unusedVariables false
namespace Go.Proofs.Ytmpncdlhmknkoaa
open Go.PA
open Go.RowKit

set_option maxHeartbeats 1000000 in
theorem bwait_m {row src : Option Nat} (l : List TPayment) (p : TPayment) (id : Nat) (y z : AV) (H : Heap) (hl : l.length ≤ 100000) (hs0 : l.Pairwise Bef) (ho : H[id]? = some (some ⟨34, 5, encL TPayment.cells l⟩)) (cy : y.cellish = true) (cz : z.cellish = true) :
    MFun Try.prog row src 46 [.agg [.sref id 0 l.length, y, z], .agg p.cells] H (fun r H' => ∃ jd, r = .agg [.sref jd 0 (l.length + 1), y, z] ∧ (jd = id ∨ H.length ≤ jd) ∧ H'[jd]? = some (some ⟨34, 5, encL TPayment.cells (ins befB l p)⟩) ∧ Kept [id] H H') := by
  obtain ⟨C, hC⟩ : ∃ C : AV → Heap → Prop, C = fun r H' => ∃ jd, r = .agg [.sref jd 0 (l.length + 1), y, z] ∧ (jd = id ∨ H.length ≤ jd) ∧ H'[jd]? = some (some ⟨34, 5, encL TPayment.cells (ins befB l p)⟩) ∧ Kept [id] H H' := ⟨_, rfl⟩
  rw [← hC]
  have ex : ∃ r H', C r H' := ⟨.agg [.sref H.length 0 (l.length + 1), y, z], H ++ [some ⟨34, 5, encL TPayment.cells (ins befB l p)⟩], by
    rw [hC]
    exact ⟨H.length, rfl, .inr (Nat.le_refl _), by simp, kept_app _ _ _⟩⟩
  obtain ⟨k, hk, hm, hi⟩ := ins_place (p := p) hs0
  refine mfun_intro Try.func46 rfl (by simp [Try.f46]) (by kernel_rfl) (ex) ?_
  intro E hP hr hs hN
  have ip := imm_pay p
  have il := imm_pays l
  have lid := (List.getElem?_eq_some_iff.1 ho).1
  rw [cPy] at ip
  simp -dsimp -implicitDefEqProofs [-getElem?_pos, go_sem, hP, cPy, cy, cz]
  obtain ⟨H1, hH1⟩ : ∃ H1 : Heap, H1 = H ++ [some ⟨28, 3, [[.sref id 0 l.length, y, z]]⟩, some ⟨34, 5, [[iv p.Warrant, iv p.Payee, iv p.Amount, iv p.Due, iv p.Sub]]⟩, some ⟨28, 3, [[.nil, .nil, .nil]]⟩] := ⟨_, rfl⟩
  have l1 : H1.length = H.length + 3 := by rw [hH1]; simp
  have k1 : Kept [] H H1 := by rw [hH1]; exact kept_app _ _ _
  have a0 : H1[H.length]? = some (some ⟨28, 3, [[.sref id 0 l.length, y, z]]⟩) := by rw [hH1]; simp
  have a1 : H1[H.length + 1]? = some (some ⟨34, 5, [[iv p.Warrant, iv p.Payee, iv p.Amount, iv p.Due, iv p.Sub]]⟩) := by rw [hH1, List.getElem?_append_right (by omega)]; simp
  have a2 : H1[H.length + 2]? = some (some ⟨28, 3, [[.nil, .nil, .nil]]⟩) := by rw [hH1, List.getElem?_append_right (by omega)]; simp
  have aid := k1 _ _ (by simp) ho
  simp only [← hH1]
  refine callB_flat ((bsf_pf l p k (by omega) hk hm).lift _ _) hP en_69 (args_sref aid (by rw [encL_len]) il (args_imm ip (args_fnc rfl (by simp) (args_nil.2 trivial)))) ⟨_, true, rfl⟩ (by rintro r ⟨b, rfl⟩; simp [flat_tup, flat_sc]) ?_
  rintro r ⟨b, rfl⟩
  simp -dsimp -implicitDefEqProofs [-getElem?_pos, go_sem, hP, a0, a1, l1]
  have insm := fun {row src : Option Nat} => insert_m_pay (row := row) (src := src) (encL TPayment.cells l) [iv p.Warrant, iv p.Payee, iv p.Amount, iv p.Due, iv p.Sub] k id H1 (by rw [encL_len]; exact hk) (by rw [encL_len]; omega) aid (by simp)
  rw [encL_len] at insm
  refine callB_m (by rw [hr, hs]; exact insm) hP en_70 ?_
  rintro r H3 ⟨jd, rfl, hjd, hoj, hk3⟩
  have c0 := hk3 _ _ (by simp; omega) a0
  have c2 := hk3 _ _ (by simp; omega) a2
  have lt0 := (List.getElem?_eq_some_iff.1 c0).1
  have lt2 := (List.getElem?_eq_some_iff.1 c2).1
  have n02 : ¬ H.length = H.length + 2 := by omega
  simp -dsimp -implicitDefEqProofs [-getElem?_pos, go_sem, hP, c0, lt0, c2, lt2, cy, cz]
  rw [hC]
  have ei : (encL TPayment.cells l).take k ++ [iv p.Warrant, iv p.Payee, iv p.Amount, iv p.Due, iv p.Sub] :: (encL TPayment.cells l).drop k = encL TPayment.cells (ins befB l p) := by
    rw [hi, encL_takeE, encL_dropE]
    simp [encL, cPy]
  refine ⟨jd, rfl, ?_, ?_, ?_⟩
  · omega
  · rw [List.getElem?_set_ne (by omega), List.getElem?_set_ne (by omega), hoj, ei]
  · refine kept_new _ (by omega) ?_
    refine kept_new _ (by omega) ?_
    exact (k1.mono (by simp)).trans hk3
end Go.Proofs.Ytmpncdlhmknkoaa
