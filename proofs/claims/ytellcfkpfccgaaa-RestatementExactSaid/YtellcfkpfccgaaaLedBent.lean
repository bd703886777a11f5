/- Ledgers in which one thing is changed. -/
import Derived.Test.YtellcfkpfccgaaaLedGen
set_option linter.unusedSimpArgs false
set_option linter.unusedVariables false
namespace Go.Proofs.Ytellcfkpfccgaaa
open Go.PA
open Go.RowKit

theorem odd40_pf (p : Nat) (src : Option Nat) : PFun Try.prog (some p) src 43 [sp p] (fun x => ∃ m : Int, x = iv m) := by
  refine pfun_intro Try.func43 rfl (by simp [Try.f43]) (by kernel_rfl) ?_
  intro E hP hr hs hW hN
  simp -dsimp -implicitDefEqProofs [-getElem?_pos, go_sem, hP]
  refine callB_flat (hr ▸ hs ▸ pick_pf p src [-1, 0, 1, 2, 9223372036854775807, -9223372036854775808, 1000000000000, 1000000000001, 1000000000000000, 1000000000000001, 36000, 36001, 35991, 1000000, 1000001, 1000, 1001, 360] (by simp)) hP en_42 (by simp [go_sem, intsL]) ⟨iv 0, 0, rfl, by simp⟩ (by rintro r ⟨m, rfl, _⟩; exact .sc) ?_
  rintro r ⟨m, rfl, _⟩
  simp -dsimp -implicitDefEqProofs [-getElem?_pos, go_sem, hP]
/-- What a changed ledger is. -/
def BentLed (l : List TPosting) (x : AV) : Prop := ∃ b : TLedger, x = .agg b.cells ∧ b.Postings.length ≤ l.length + 1
theorem bentled_ex (l : List TPosting) : ∃ r, BentLed l r ∧ Imm r := ⟨_, ⟨⟨l⟩, rfl, by simp⟩, imm_led _⟩

set_option maxHeartbeats 2000000 in
theorem bentled_pf (p : Nat) (src : Option Nat) (l : List TPosting) (h1 : l.length ≤ 1000) : PFun Try.prog (some p) src 41 [sp p, .agg (TLedger.mk l).cells] (BentLed l) := by
  refine pfun_intro Try.func41 rfl (by simp [Try.f41]) (by kernel_rfl) ?_
  intro E hP hr hs hW hN
  have up : ∀ {f : FuncId} {args : List AV} {Q : AV → Prop}, PFun Try.prog (some p) src f args Q → PFun Try.prog E.row E.src f args Q := fun h => hr ▸ hs ▸ h
  by_cases hz : l.length = 0
  · have dz : l = [] := List.eq_nil_of_length_eq_zero hz
    subst dz
    simp -dsimp -implicitDefEqProofs [-getElem?_pos, go_sem, hP, cL]
    exact done_agg (cs' := (TLedger.mk [⟨2, 0, 0, 0, 0, 0, 0, 0⟩]).cells) (cw_imm (imm_posts [⟨2, 0, 0, 0, 0, 0, 0, 0⟩]) .nil) ⟨⟨[⟨2, 0, 0, 0, 0, 0, 0, 0⟩]⟩, rfl, by simp⟩
  have dz : ¬ l = [] := fun h => hz (by rw [h]; rfl)
  have hzi : ¬ (l.length : Int) = 0 := by omega
  have d0 : decide ((l.length : Int) = 0) = false := decide_eq_false hzi
  simp -dsimp -implicitDefEqProofs [-getElem?_pos, go_sem, hP, cL, dz]
  refine ⟨by omega, by omega, ?_⟩
  refine adrawB (fun _ => true) [] hP (by kernel_rfl) (by kernel_rfl) ?_
  simp -dsimp -implicitDefEqProofs [-getElem?_pos, go_sem, hP]
  refine callB_flat (up (N_pf p src l.length (by omega))) hP en_35 (args_same (by simp -dsimp -implicitDefEqProofs [-getElem?_pos, go_sem])) (NQ_ex _) (NQ_flat _) ?_
  rintro r ⟨j, rfl, _, hj⟩
  have hj := hj (by omega)
  obtain ⟨j, rfl⟩ := Int.eq_ofNat_of_zero_le hj.1
  have hjl : j < l.length := by omega
  obtain ⟨e, he⟩ : ∃ e, l[j]? = some e := ⟨_, List.getElem?_eq_getElem hjl⟩
  have hjt : (j : Int) < l.length := by omega
  have fin : ∀ e' : TPosting, BentLed l (.agg (TLedger.mk (l.set j e')).cells) := fun e' => ⟨⟨l.set j e'⟩, rfl, by simp⟩
  simp -dsimp -implicitDefEqProofs [-getElem?_pos, go_sem, hP, hjt, he]
  refine callB_flat (up (N_pf p src 6 (by omega))) hP en_35 (args_same (by simp -dsimp -implicitDefEqProofs [-getElem?_pos, go_sem])) (NQ_ex _) (NQ_flat _) ?_
  rintro r ⟨k, rfl, _, hk⟩
  have hk := hk (by omega)
  have six : k = 0 ∨ k = 1 ∨ k = 2 ∨ k = 3 ∨ k = 4 ∨ (¬ k = 0 ∧ ¬ k = 1 ∧ ¬ k = 2 ∧ ¬ k = 3 ∧ ¬ k = 4) := by omega
  rcases six with rfl | rfl | rfl | rfl | rfl | ⟨z0, z1, z2, z3, z4⟩
  · simp -dsimp -implicitDefEqProofs [-getElem?_pos, go_sem, hP]
    refine callB_flat (up (pick_pf p src [0, 3, 1000001] (by simp))) hP en_42 (by simp [go_sem, intsL]) ⟨iv (0), 0, rfl, by simp⟩ (by rintro r ⟨m, rfl, _⟩; exact .sc) ?_
    rintro r ⟨v, rfl, _⟩
    have set2 : (encL TPosting.cells l).set j [iv v, iv e.Day, iv e.Entity, iv e.Debit, iv e.Credit, iv e.Amount, iv e.Partner, iv e.Ref] = encL TPosting.cells (l.set j ⟨v, e.Day, e.Entity, e.Debit, e.Credit, e.Amount, e.Partner, e.Ref⟩) := by rw [← encL_set]; rfl
    simp -dsimp -implicitDefEqProofs [-getElem?_pos, go_sem, hP, hjt, he, cP, set2]
    exact done_agg (cw_sref rfl (by simp [encL]) (imm_posts _) .nil) (fin _)
  · simp -dsimp -implicitDefEqProofs [-getElem?_pos, go_sem, hP]
    refine callB_flat (up (odd40_pf p src)) hP en_43 (args_same (by simp -dsimp -implicitDefEqProofs [-getElem?_pos, go_sem])) ⟨iv 0, 0, rfl⟩ (by rintro r ⟨m, rfl⟩; exact .sc) ?_
    rintro r ⟨v, rfl⟩
    have set2 : (encL TPosting.cells l).set j [iv e.Number, iv v, iv e.Entity, iv e.Debit, iv e.Credit, iv e.Amount, iv e.Partner, iv e.Ref] = encL TPosting.cells (l.set j ⟨e.Number, v, e.Entity, e.Debit, e.Credit, e.Amount, e.Partner, e.Ref⟩) := by rw [← encL_set]; rfl
    simp -dsimp -implicitDefEqProofs [-getElem?_pos, go_sem, hP, hjt, he, cP, set2]
    exact done_agg (cw_sref rfl (by simp [encL]) (imm_posts _) .nil) (fin _)
  · simp -dsimp -implicitDefEqProofs [-getElem?_pos, go_sem, hP]
    refine callB_flat (up (odd40_pf p src)) hP en_43 (args_same (by simp -dsimp -implicitDefEqProofs [-getElem?_pos, go_sem])) ⟨iv 0, 0, rfl⟩ (by rintro r ⟨m, rfl⟩; exact .sc) ?_
    rintro r ⟨v, rfl⟩
    have set2 : (encL TPosting.cells l).set j [iv e.Number, iv e.Day, iv e.Entity, iv e.Debit, iv e.Credit, iv v, iv e.Partner, iv e.Ref] = encL TPosting.cells (l.set j ⟨e.Number, e.Day, e.Entity, e.Debit, e.Credit, v, e.Partner, e.Ref⟩) := by rw [← encL_set]; rfl
    simp -dsimp -implicitDefEqProofs [-getElem?_pos, go_sem, hP, hjt, he, cP, set2]
    exact done_agg (cw_sref rfl (by simp [encL]) (imm_posts _) .nil) (fin _)
  · simp -dsimp -implicitDefEqProofs [-getElem?_pos, go_sem, hP]
    refine callB_flat (up (pick_pf p src [99, 100, 599, 600] (by simp))) hP en_42 (by simp [go_sem, intsL]) ⟨iv (99), 99, rfl, by simp⟩ (by rintro r ⟨m, rfl, _⟩; exact .sc) ?_
    rintro r ⟨v, rfl, _⟩
    have set2 : (encL TPosting.cells l).set j [iv e.Number, iv e.Day, iv e.Entity, iv v, iv e.Credit, iv e.Amount, iv e.Partner, iv e.Ref] = encL TPosting.cells (l.set j ⟨e.Number, e.Day, e.Entity, v, e.Credit, e.Amount, e.Partner, e.Ref⟩) := by rw [← encL_set]; rfl
    simp -dsimp -implicitDefEqProofs [-getElem?_pos, go_sem, hP, hjt, he, cP, set2]
    exact done_agg (cw_sref rfl (by simp [encL]) (imm_posts _) .nil) (fin _)
  · simp -dsimp -implicitDefEqProofs [-getElem?_pos, go_sem, hP, hjt, he, cP]
    refine callB_flat (up (pick_pf p src [-1, e.Entity, 10, 11] (by simp))) hP en_42 (by simp [go_sem, intsL]) ⟨iv (-1), -1, rfl, by simp⟩ (by rintro r ⟨m, rfl, _⟩; exact .sc) ?_
    rintro r ⟨v, rfl, _⟩
    have set2 : (encL TPosting.cells l).set j [iv e.Number, iv e.Day, iv e.Entity, iv e.Debit, iv e.Credit, iv e.Amount, iv v, iv e.Ref] = encL TPosting.cells (l.set j ⟨e.Number, e.Day, e.Entity, e.Debit, e.Credit, e.Amount, v, e.Ref⟩) := by rw [← encL_set]; rfl
    simp -dsimp -implicitDefEqProofs [-getElem?_pos, go_sem, hP, hjt, he, cP, set2]
    exact done_agg (cw_sref rfl (by simp [encL]) (imm_posts _) .nil) (fin _)
  · simp -dsimp -implicitDefEqProofs [-getElem?_pos, go_sem, hP, z0, z1, z2, z3, z4]
    refine callB_flat (up (pick_pf p src [0, 10, 11] (by simp))) hP en_42 (by simp [go_sem, intsL]) ⟨iv (0), 0, rfl, by simp⟩ (by rintro r ⟨m, rfl, _⟩; exact .sc) ?_
    rintro r ⟨v, rfl, _⟩
    have set2 : (encL TPosting.cells l).set j [iv e.Number, iv e.Day, iv v, iv e.Debit, iv e.Credit, iv e.Amount, iv e.Partner, iv e.Ref] = encL TPosting.cells (l.set j ⟨e.Number, e.Day, v, e.Debit, e.Credit, e.Amount, e.Partner, e.Ref⟩) := by rw [← encL_set]; rfl
    simp -dsimp -implicitDefEqProofs [-getElem?_pos, go_sem, hP, hjt, he, cP, set2]
    exact done_agg (cw_sref rfl (by simp [encL]) (imm_posts _) .nil) (fin _)
end Go.Proofs.Ytellcfkpfccgaaa
