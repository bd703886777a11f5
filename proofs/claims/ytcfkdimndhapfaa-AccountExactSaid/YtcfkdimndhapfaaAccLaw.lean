/- Accounts: the chapter's example and the laws. -/
import Derived.Test.YtcfkdimndhapfaaAccGen
set_option linter.unusedSimpArgs false
set_option linter.unusedVariables false
namespace Go.Proofs.Ytcfkdimndhapfaa
open Go.PA
open Go.RowKit

theorem agree_1 {a : Option AObj} {l l' : Heap} : Agree (fun id => decide (id = 0)) (a :: l) (a :: l') := fun id hid => by
  have : id = 0 := by simpa using hid
  rcases id with _ | id
  · rfl
  · omega
theorem agree_2 {a b : Option AObj} {l l' : Heap} : Agree (fun id => decide (id < 2)) (a :: b :: l) (a :: b :: l') := fun id hid => by
  have : id < 2 := by simpa using hid
  rcases id with _ | _ | id
  · rfl
  · rfl
  · omega
theorem agree_2' {a b : Option AObj} {l l' : Heap} : Agree (fun id => decide (id = 1)) (a :: b :: l) (a :: b :: l') := fun id hid => by
  have : id = 1 := by simpa using hid
  subst this
  rfl
theorem sane23_open : openA [1, 2] 0 = (⟨0, [⟨1, 0⟩, ⟨2, 0⟩], []⟩, 0) := by decide +kernel
theorem sane23_low : postA ⟨0, [⟨1, 0⟩, ⟨2, 0⟩], []⟩ ⟨1, 0, 2, 0, 5, 0⟩ = (zeroA, 61) := by decide +kernel
theorem sane23_post : postA ⟨0, [⟨1, 0⟩, ⟨2, 0⟩], []⟩ ⟨1, 0, 0, 2, 5, 0⟩ = (⟨0, [⟨1, 0⟩, ⟨2, 5⟩], [⟨1, 0, 0, 2, 5, 0⟩]⟩, 0) := by decide +kernel
theorem sane23_bal : balanceA ⟨0, [⟨1, 0⟩, ⟨2, 5⟩], [⟨1, 0, 0, 2, 5, 0⟩]⟩ 2 = (5, true) := by decide +kernel
theorem sane23_tot : totalA ⟨0, [⟨1, 0⟩, ⟨2, 5⟩], [⟨1, 0, 0, 2, 5, 0⟩]⟩ = 5 := by decide +kernel
theorem sane23_n1 : nextE ⟨0, [⟨1, 0⟩, ⟨2, 0⟩], []⟩ 0 2 0 5 0 = ⟨1, 0, 2, 0, 5, 0⟩ := by decide +kernel
theorem sane23_n2 : nextE ⟨0, [⟨1, 0⟩, ⟨2, 0⟩], []⟩ 0 0 2 5 0 = ⟨1, 0, 0, 2, 5, 0⟩ := by decide +kernel

set_option maxHeartbeats 1000000 in
theorem sane23_pf : PFun Try.prog none none 18 [] (· = bv true) := by
  refine pfun_intro Try.func18 rfl (by simp [Try.f18]) (by kernel_rfl) ?_
  intro E hP hr hs hW hN
  obtain ⟨a, ha⟩ : ∃ a : TAccount, a = ⟨0, [⟨1, 0⟩, ⟨2, 0⟩], []⟩ := ⟨_, rfl⟩
  obtain ⟨b, hb⟩ : ∃ b : TAccount, b = ⟨0, [⟨1, 0⟩, ⟨2, 5⟩], [⟨1, 0, 0, 2, 5, 0⟩]⟩ := ⟨_, rfl⟩
  obtain ⟨e1, he1⟩ : ∃ e : TEntry, e = ⟨1, 0, 2, 0, 5, 0⟩ := ⟨_, rfl⟩
  obtain ⟨e2, he2⟩ : ∃ e : TEntry, e = ⟨1, 0, 0, 2, 5, 0⟩ := ⟨_, rfl⟩
  have la : a.Subs.length ≤ 100000 := by subst ha; decide
  have la' : a.Entries.length ≤ 100000 := by subst ha; decide
  have lb : b.Subs.length ≤ 100000 := by subst hb; decide
  have lb' : b.Entries.length ≤ 100000 := by subst hb; decide
  have op := open_pf [1, 2] 0 (by simp)
  rw [sane23_open, ← ha] at op
  have n1 := next_pf a 0 2 0 5 0 la'
  have n2 := next_pf a 0 0 2 5 0 la'
  have p1 := post_pf a e1 la la'
  have p2 := post_pf a e2 la la'
  have bl := balance_pf b 2 lb lb'
  have tt := total_pf b lb lb'
  rw [show nextE a 0 2 0 5 0 = e1 by rw [ha, he1]; exact sane23_n1] at n1
  rw [show nextE a 0 0 2 5 0 = e2 by rw [ha, he2]; exact sane23_n2] at n2
  rw [show postA a e1 = (zeroA, 61) by rw [ha, he1]; exact sane23_low] at p1
  rw [show postA a e2 = (b, 0) by rw [ha, he2, hb]; exact sane23_post] at p2
  rw [show balanceA b 2 = (5, true) by rw [hb]; exact sane23_bal] at bl
  rw [show totalA b = 5 by rw [hb]; exact sane23_tot] at tt
  rw [cA] at op n1 n2 p1 p2 bl tt
  rw [cE] at n1 n2 p1 p2
  have ia : Imm (.agg [iv a.Credit, subsL a.Subs, entsL a.Entries]) := imm_acc a
  have ib : Imm (.agg [iv b.Credit, subsL b.Subs, entsL b.Entries]) := imm_acc b
  have i1 : Imm (.agg [iv e1.Number, iv e1.Day, iv e1.From, iv e1.To, iv e1.Amount, iv e1.Ref]) := imm_ent e1
  have i2 : Imm (.agg [iv e2.Number, iv e2.Day, iv e2.From, iv e2.To, iv e2.Amount, iv e2.Ref]) := imm_ent e2
  have iz : Imm (.agg zeroA.cells) := imm_acc zeroA
  rw [cA] at iz p1 p2
  clear ha hb he1 he2
  simp -dsimp -implicitDefEqProofs [-getElem?_pos, go_sem, hP]
  refine callB_is (op.lift _ _) hP en_27 (by simp [go_sem, encI, encL]) (imm_pair ia .sc) ?_
  simp -dsimp -implicitDefEqProofs [-getElem?_pos, go_sem, hP]
  refine adrawQ (fun i => decide (i = 0)) [8] [2, 3] hP (by kernel_rfl) (by kernel_rfl) ?_
  simp -dsimp -implicitDefEqProofs [-getElem?_pos, go_sem, hP]
  refine callQ_is (n1.lift _ _) hP en_20 (by simp [ia, imm_sc]) i1 ?_
  simp -dsimp -implicitDefEqProofs [-getElem?_pos, go_sem, hP]
  refine callQ_is (p1.lift _ _) hP en_21 (by simp [ia, i1]) (imm_pair iz .sc) ?_
  simp -dsimp -implicitDefEqProofs [-getElem?_pos, go_sem, hP]
  refine ⟨agree_1, ?_⟩
  refine adrawQ (fun i => decide (i < 2)) [8] [2, 3] hP (by kernel_rfl) (by kernel_rfl) ?_
  simp -dsimp -implicitDefEqProofs [-getElem?_pos, go_sem, hP]
  refine callQ_is (n2.lift _ _) hP en_20 (by simp [ia, imm_sc]) i2 ?_
  simp -dsimp -implicitDefEqProofs [-getElem?_pos, go_sem, hP]
  refine callQ_is (p2.lift _ _) hP en_21 (by simp [ia, i2]) (imm_pair ib .sc) ?_
  simp -dsimp -implicitDefEqProofs [-getElem?_pos, go_sem, hP]
  refine ⟨agree_2, ?_⟩
  refine callB_is (bl.lift _ _) hP en_35 (by simp [ib, imm_sc]) (imm_pair .sc .sc) ?_
  simp -dsimp -implicitDefEqProofs [-getElem?_pos, go_sem, hP]
  refine callB_is (tt.lift _ _) hP en_19 (by simp [ib, imm_sc]) .sc ?_
  simp -dsimp -implicitDefEqProofs [-getElem?_pos, go_sem, hP]
end Go.Proofs.Ytcfkdimndhapfaa
