/- Accounts in which one thing is changed; few entries. -/
import Derived.Test.YtellcfkpfccgaaaAccGen
set_option linter.unusedSimpArgs false
set_option linter.unusedVariables false
namespace Go.Proofs.Ytellcfkpfccgaaa
open Go.PA
open Go.RowKit

theorem few_pf (a : TAccount) : PFun Try.prog none none 59 [.agg a.cells] (· = bv (decide (a.Subs.length ≤ 25) && decide (a.Entries.length ≤ 25))) := by
  refine pfun_intro Try.func59 rfl (by simp [Try.f59]) (by kernel_rfl) ?_
  intro E hP hr hs hW hN
  by_cases h1 : a.Subs.length ≤ 25
  · have d1 : decide ((a.Subs.length : Int) ≤ 25) = true := decide_eq_true (by omega)
    have e1 : decide (a.Subs.length ≤ 25) = true := decide_eq_true h1
    by_cases h2 : a.Entries.length ≤ 25
    · have d2 : decide ((a.Entries.length : Int) ≤ 25) = true := decide_eq_true (by omega)
      have e2 : decide (a.Entries.length ≤ 25) = true := decide_eq_true h2
      simp -dsimp -implicitDefEqProofs [-getElem?_pos, go_sem, hP, cA, d1, d2, e1, e2]
    · have d2 : decide ((a.Entries.length : Int) ≤ 25) = false := decide_eq_false (by omega)
      have e2 : decide (a.Entries.length ≤ 25) = false := decide_eq_false h2
      simp -dsimp -implicitDefEqProofs [-getElem?_pos, go_sem, hP, cA, d1, d2, e1, e2]
  · have d1 : decide ((a.Subs.length : Int) ≤ 25) = false := decide_eq_false (by omega)
    have e1 : decide (a.Subs.length ≤ 25) = false := decide_eq_false h1
    simp -dsimp -implicitDefEqProofs [-getElem?_pos, go_sem, hP, cA, d1, e1]

/-- What a changed account is. -/
def BentOf (a : TAccount) (x : AV) : Prop := ∃ b : TAccount, x = .agg b.cells ∧ b.Subs.length ≤ a.Subs.length ∧ b.Entries.length ≤ a.Entries.length

set_option maxHeartbeats 2000000 in
theorem bentacc_pf (p : Nat) (src : Option Nat) (a : TAccount) (h1 : 1 ≤ a.Subs.length ∧ a.Subs.length ≤ 1000) (h2 : a.Entries.length ≤ 1000) : PFun Try.prog (some p) src 69 [sp p, .agg a.cells] (BentOf a) := by
  refine pfun_intro Try.func69 rfl (by simp [Try.f69]) (by kernel_rfl) ?_
  intro E hP hr hs hW hN
  have up : ∀ {f : FuncId} {args : List AV} {Q : AV → Prop}, PFun Try.prog (some p) src f args Q → PFun Try.prog E.row E.src f args Q := fun h => hr ▸ hs ▸ h
  have one : ∀ k, (∃ m : Int, iv k = iv m) := fun k => ⟨k, rfl⟩
  simp -dsimp -implicitDefEqProofs [-getElem?_pos, go_sem, hP, cA]
  refine ⟨by omega, by omega, by omega, by omega, ?_⟩
  refine callB_flat (up (N_pf p src 7 (by omega))) hP en_35 (args_same (by simp -dsimp -implicitDefEqProofs [-getElem?_pos, go_sem])) (NQ_ex _) (NQ_flat _) ?_
  rintro r ⟨m, rfl, _, hm⟩
  have hm := hm (by omega)
  obtain ⟨es, hes⟩ : ∃ es, es = a.Entries := ⟨_, rfl⟩
  obtain ⟨l, hl⟩ : ∃ l, l = a.Subs := ⟨_, rfl⟩
  rw [← hl] at h1
  rw [← hes] at h2
  have BO : ∀ b : TAccount, b.Subs.length ≤ l.length → b.Entries.length ≤ es.length → BentOf a (.agg b.cells) := fun b q1 q2 => ⟨b, rfl, by rw [← hl]; exact q1, by rw [← hes]; exact q2⟩
  rw [← hl, ← hes]
  clear hl hes
  have seven : m = 0 ∨ m = 1 ∨ m = 2 ∨ (¬ m = 0 ∧ ¬ m = 1 ∧ ¬ m = 2) := by omega
  rcases seven with rfl | rfl | rfl | ⟨z0, z1, z2⟩
  · simp -dsimp -implicitDefEqProofs [-getElem?_pos, go_sem, hP]
    refine callB_flat (up (odd_pf p src)) hP en_43 (args_same (by simp -dsimp -implicitDefEqProofs [-getElem?_pos, go_sem])) ⟨iv 0, 0, rfl⟩ (by rintro r ⟨m, rfl⟩; exact .sc) ?_
    rintro r ⟨v, rfl⟩
    simp -dsimp -implicitDefEqProofs [-getElem?_pos, go_sem, hP]
    exact done_agg (cs' := (⟨v, l, es⟩ : TAccount).cells) (cw_sc (cw_sref rfl (by simp [encL]) (imm_subs _) (cw_sref rfl (by simp [encL]) (imm_ents _) .nil))) (BO _ (Nat.le_refl _) (Nat.le_refl _))
  · simp -dsimp -implicitDefEqProofs [-getElem?_pos, go_sem, hP]
    refine adrawB (fun _ => true) [13] hP (by kernel_rfl) (by kernel_rfl) ?_
    simp -dsimp -implicitDefEqProofs [-getElem?_pos, go_sem, hP]
    refine callB_flat (up (N_pf p src l.length (by omega))) hP en_35 (args_same (by simp -dsimp -implicitDefEqProofs [-getElem?_pos, go_sem])) (NQ_ex _) (NQ_flat _) ?_
    rintro r ⟨i, rfl, _, hi⟩
    have hi := hi (by omega)
    obtain ⟨i, rfl⟩ := Int.eq_ofNat_of_zero_le hi.1
    have hil : i < l.length := by omega
    obtain ⟨s, hs'⟩ : ∃ s, l[i]? = some s := ⟨_, List.getElem?_eq_getElem hil⟩
    have hlt : (i : Int) < l.length := by omega
    have set1 : (encL TSub.cells l).set i [iv s.ID, iv (IntKind.i64.wrap (s.Balance + 1))] = encL TSub.cells (l.set i ⟨s.ID, IntKind.i64.wrap (s.Balance + 1)⟩) := by rw [← encL_set]; rfl
    simp -dsimp -implicitDefEqProofs [-getElem?_pos, go_sem, hP, hlt, hs', TSub.cells, set1]
    exact done_agg (cs' := (⟨a.Credit, l.set i ⟨s.ID, IntKind.i64.wrap (s.Balance + 1)⟩, es⟩ : TAccount).cells) (cw_sc (cw_sref rfl (by simp [encL]) (imm_subs _) (cw_sref rfl (by simp [encL]) (imm_ents _) .nil))) (BO _ (by simp) (Nat.le_refl _))
  · simp -dsimp -implicitDefEqProofs [-getElem?_pos, go_sem, hP]
    refine adrawB (fun _ => true) [12] hP (by kernel_rfl) (by kernel_rfl) ?_
    simp -dsimp -implicitDefEqProofs [-getElem?_pos, go_sem, hP]
    refine callB_flat (up (N_pf p src l.length (by omega))) hP en_35 (args_same (by simp -dsimp -implicitDefEqProofs [-getElem?_pos, go_sem])) (NQ_ex _) (NQ_flat _) ?_
    rintro r ⟨i, rfl, _, hi⟩
    have hi := hi (by omega)
    obtain ⟨i, rfl⟩ := Int.eq_ofNat_of_zero_le hi.1
    have hil : i < l.length := by omega
    obtain ⟨s, hs'⟩ : ∃ s, l[i]? = some s := ⟨_, List.getElem?_eq_getElem hil⟩
    have hlt : (i : Int) < l.length := by omega
    simp -dsimp -implicitDefEqProofs [-getElem?_pos, go_sem, hP]
    refine callB_flat (up (pick_pf p src [0, 1, 5, 1001] (by simp))) hP en_42 (by simp [go_sem, intsL]) ⟨iv 0, 0, rfl, by simp⟩ (by rintro r ⟨m, rfl, _⟩; exact .sc) ?_
    rintro r ⟨v, rfl, _⟩
    have set1 : (encL TSub.cells l).set i [iv v, iv s.Balance] = encL TSub.cells (l.set i ⟨v, s.Balance⟩) := by rw [← encL_set]; rfl
    simp -dsimp -implicitDefEqProofs [-getElem?_pos, go_sem, hP, hlt, hs', TSub.cells, set1]
    exact done_agg (cs' := (⟨a.Credit, l.set i ⟨v, s.Balance⟩, es⟩ : TAccount).cells) (cw_sc (cw_sref rfl (by simp [encL]) (imm_subs _) (cw_sref rfl (by simp [encL]) (imm_ents _) .nil))) (BO _ (by simp) (Nat.le_refl _))
  · by_cases hz : es.length = 0
    · simp -dsimp -implicitDefEqProofs [-getElem?_pos, go_sem, hP, z0, z1, z2, hz]
      exact done_agg (cs' := (⟨a.Credit, [], es⟩ : TAccount).cells) (cw_sc (cw_nil (cw_sref rfl (by simp [encL, hz]) (imm_ents _) .nil))) (BO _ (by simp) (Nat.le_refl _))
    have dz : ¬ es = [] := fun h => hz (by rw [h]; rfl)
    simp -dsimp -implicitDefEqProofs [-getElem?_pos, go_sem, hP, z0, z1, z2, dz]
    refine adrawB (fun _ => true) [] hP (by kernel_rfl) (by kernel_rfl) ?_
    simp -dsimp -implicitDefEqProofs [-getElem?_pos, go_sem, hP]
    refine callB_flat (up (N_pf p src es.length (by omega))) hP en_35 (args_same (by simp -dsimp -implicitDefEqProofs [-getElem?_pos, go_sem])) (NQ_ex _) (NQ_flat _) ?_
    rintro r ⟨j, rfl, _, hj⟩
    have hj := hj (by omega)
    obtain ⟨j, rfl⟩ := Int.eq_ofNat_of_zero_le hj.1
    have hjl : j < es.length := by omega
    obtain ⟨e, he⟩ : ∃ e, es[j]? = some e := ⟨_, List.getElem?_eq_getElem hjl⟩
    have hjt : (j : Int) < es.length := by omega
    have fin : ∀ e' : TEntry, BentOf a (.agg (⟨a.Credit, l, es.set j e'⟩ : TAccount).cells) := fun e' => BO _ (Nat.le_refl _) (by simp)
    simp -dsimp -implicitDefEqProofs [-getElem?_pos, go_sem, hP, hjt, he]
    refine callB_flat (up (N_pf p src 5 (by omega))) hP en_35 (args_same (by simp -dsimp -implicitDefEqProofs [-getElem?_pos, go_sem])) (NQ_ex _) (NQ_flat _) ?_
    rintro r ⟨k, rfl, _, hk⟩
    have hk := hk (by omega)
    have five : k = 0 ∨ k = 1 ∨ k = 2 ∨ k = 3 ∨ k = 4 := by omega
    rcases five with rfl | rfl | rfl | rfl | rfl
    · simp -dsimp -implicitDefEqProofs [-getElem?_pos, go_sem, hP]
      refine callB_flat (up (pick_pf p src [0, 2, 9] (by simp))) hP en_42 (by simp [go_sem, intsL]) ⟨iv 0, 0, rfl, by simp⟩ (by rintro r ⟨m, rfl, _⟩; exact .sc) ?_
      rintro r ⟨v, rfl, _⟩
      have set2 : (encL TEntry.cells es).set j [iv v, iv e.Day, iv e.From, iv e.To, iv e.Amount, iv e.Ref] = encL TEntry.cells (es.set j ⟨v, e.Day, e.From, e.To, e.Amount, e.Ref⟩) := by rw [← encL_set]; rfl
      simp -dsimp -implicitDefEqProofs [-getElem?_pos, go_sem, hP, hjt, he, TEntry.cells, set2]
      exact done_agg (cw_sc (cw_sref rfl (by simp [encL]) (imm_subs _) (cw_sref rfl (by simp [encL]) (imm_ents _) .nil))) (fin _)
    · simp -dsimp -implicitDefEqProofs [-getElem?_pos, go_sem, hP]
      refine callB_flat (up (odd_pf p src)) hP en_43 (args_same (by simp -dsimp -implicitDefEqProofs [-getElem?_pos, go_sem])) ⟨iv 0, 0, rfl⟩ (by rintro r ⟨m, rfl⟩; exact .sc) ?_
      rintro r ⟨v, rfl⟩
      have set2 : (encL TEntry.cells es).set j [iv e.Number, iv v, iv e.From, iv e.To, iv e.Amount, iv e.Ref] = encL TEntry.cells (es.set j ⟨e.Number, v, e.From, e.To, e.Amount, e.Ref⟩) := by rw [← encL_set]; rfl
      simp -dsimp -implicitDefEqProofs [-getElem?_pos, go_sem, hP, hjt, he, TEntry.cells, set2]
      exact done_agg (cw_sc (cw_sref rfl (by simp [encL]) (imm_subs _) (cw_sref rfl (by simp [encL]) (imm_ents _) .nil))) (fin _)
    · simp -dsimp -implicitDefEqProofs [-getElem?_pos, go_sem, hP]
      refine callB_flat (up (odd_pf p src)) hP en_43 (args_same (by simp -dsimp -implicitDefEqProofs [-getElem?_pos, go_sem])) ⟨iv 0, 0, rfl⟩ (by rintro r ⟨m, rfl⟩; exact .sc) ?_
      rintro r ⟨v, rfl⟩
      have set2 : (encL TEntry.cells es).set j [iv e.Number, iv e.Day, iv e.From, iv e.To, iv v, iv e.Ref] = encL TEntry.cells (es.set j ⟨e.Number, e.Day, e.From, e.To, v, e.Ref⟩) := by rw [← encL_set]; rfl
      simp -dsimp -implicitDefEqProofs [-getElem?_pos, go_sem, hP, hjt, he, TEntry.cells, set2]
      exact done_agg (cw_sc (cw_sref rfl (by simp [encL]) (imm_subs _) (cw_sref rfl (by simp [encL]) (imm_ents _) .nil))) (fin _)
    · simp -dsimp -implicitDefEqProofs [-getElem?_pos, go_sem, hP]
      refine callB_flat (up (pick_pf p src [0, 1, 4] (by simp))) hP en_42 (by simp [go_sem, intsL]) ⟨iv 0, 0, rfl, by simp⟩ (by rintro r ⟨m, rfl, _⟩; exact .sc) ?_
      rintro r ⟨v, rfl, _⟩
      have set2 : (encL TEntry.cells es).set j [iv e.Number, iv e.Day, iv v, iv e.To, iv e.Amount, iv e.Ref] = encL TEntry.cells (es.set j ⟨e.Number, e.Day, v, e.To, e.Amount, e.Ref⟩) := by rw [← encL_set]; rfl
      simp -dsimp -implicitDefEqProofs [-getElem?_pos, go_sem, hP, hjt, he, TEntry.cells, set2]
      exact done_agg (cw_sc (cw_sref rfl (by simp [encL]) (imm_subs _) (cw_sref rfl (by simp [encL]) (imm_ents _) .nil))) (fin _)
    · simp -dsimp -implicitDefEqProofs [-getElem?_pos, go_sem, hP]
      refine callB_flat (up (odd_pf p src)) hP en_43 (args_same (by simp -dsimp -implicitDefEqProofs [-getElem?_pos, go_sem])) ⟨iv 0, 0, rfl⟩ (by rintro r ⟨m, rfl⟩; exact .sc) ?_
      rintro r ⟨v, rfl⟩
      have set2 : (encL TEntry.cells es).set j [iv e.Number, iv e.Day, iv e.From, iv e.To, iv e.Amount, iv v] = encL TEntry.cells (es.set j ⟨e.Number, e.Day, e.From, e.To, e.Amount, v⟩) := by rw [← encL_set]; rfl
      simp -dsimp -implicitDefEqProofs [-getElem?_pos, go_sem, hP, hjt, he, TEntry.cells, set2]
      exact done_agg (cw_sc (cw_sref rfl (by simp [encL]) (imm_subs _) (cw_sref rfl (by simp [encL]) (imm_ents _) .nil))) (fin _)
end Go.Proofs.Ytellcfkpfccgaaa
