/- Sweeps: rules that the source makes; the chapter's example. -/
import Derived.Test.YtcfkdimndhapfaaSwNet2
import Derived.Test.YtcfkdimndhapfaaAccBent
set_option linter.unusedSimpArgs false
set_option linter.unusedVariables false
namespace Go.Proofs.Ytcfkdimndhapfaa
open Go.PA
open Go.RowKit

def sub3 : Nat → Int
  | 0 => 2
  | 1 => 3
  | _ => 7

set_option maxHeartbeats 1000000 in
theorem keeps_pf (p : Nat) (src : Option Nat) : PFun Try.prog (some p) src 41 [sp p] (fun x => ∃ l : List TKeep, x = keepsL l ∧ GenK l) := by
  refine pfun_intro Try.func41 rfl (by simp [Try.f41]) (by kernel_rfl) ?_
  intro E hP hr hs hW hN
  have up : ∀ {f : FuncId} {args : List AV} {Q : AV → Prop}, PFun Try.prog (some p) src f args Q → PFun Try.prog E.row E.src f args Q := fun h => hr ▸ hs ▸ h
  simp -dsimp -implicitDefEqProofs [-getElem?_pos, go_sem, hP]
  refine aloop_own 3 69 3 (by simp -dsimp -implicitDefEqProofs [-getElem?_pos, go_sem]) ?_
  obtain ⟨Y, hY⟩ : ∃ Y : AV, Y = .agg [iv 2, iv 3, iv 7] := ⟨_, rfl⟩
  have y0 : aixV Try.prog 56 (.agg [iv 2, iv 3, iv 7]) (iv ((0 : Nat) : Int)) = some (iv (sub3 0)) := by kernel_rfl
  have y1 : aixV Try.prog 56 (.agg [iv 2, iv 3, iv 7]) (iv ((1 : Nat) : Int)) = some (iv (sub3 1)) := by kernel_rfl
  have y2 : aixV Try.prog 56 (.agg [iv 2, iv 3, iv 7]) (iv ((2 : Nat) : Int)) = some (iv (sub3 2)) := by kernel_rfl
  rw [← hY] at y0 y1 y2
  have yix : ∀ j : Nat, j < 3 → aixV Try.prog 56 Y (iv j) = some (iv (sub3 j)) := fun j hj => by
    have : j = 0 ∨ j = 1 ∨ j = 2 := by omega
    rcases this with rfl | rfl | rfl
    · exact y0
    · exact y1
    · exact y2
  obtain ⟨I, hI⟩ : ∃ I : Nat → St → Prop, I = fun m s => ∃ (k id : Nat) (l : List TKeep), k ≤ 3 ∧ m = 3 - k ∧ keepsB [1, 2, 3, 7] 0 l = true ∧ l.length ≤ k ∧ (∀ y, y ∈ l → y.High ≤ 380 ∧ (k < 3 → y.Sub < sub3 k)) ∧ s.t 0 = sp p ∧ s.t 3 = .sref id 0 l.length ∧ s.t 7 = Y ∧ s.t 8 = iv k ∧ s.H[id]? = some (some ⟨69, 3, encL TKeep.cells l⟩) := ⟨_, rfl⟩
  refine aloop0 I (3) (by rw [hN]; rfl) ?_ ?_
  · rw [hI]
    exact ⟨0, 0, [], by omega, by omega, rfl, by simp, by simp, by simp -dsimp -implicitDefEqProofs [-getElem?_pos, go_sem], by simp -dsimp -implicitDefEqProofs [-getElem?_pos, go_sem], by simp -dsimp -implicitDefEqProofs [-getElem?_pos, go_sem, hY], by simp -dsimp -implicitDefEqProofs [-getElem?_pos, go_sem], by simp -dsimp -implicitDefEqProofs [-getElem?_pos, go_sem]⟩
  intro m s hs'
  rw [hI] at hs'
  obtain ⟨k, id, l, hk, hm, hks, hll, hls, t0, t3, t7, t8, hO⟩ := hs'
  have ltO := (List.getElem?_eq_some_iff.1 hO).1
  simp -dsimp -implicitDefEqProofs [-getElem?_pos, go_sem, hP, t8]
  refine condP (fun h => ?_) (fun h => ?_)
  · have hk : k < 3 := by simp at h; omega
    have wk := wrap_in ((k : Int) + 1) (by omega)
    have hix := yix k hk
    have nx : k + 1 < 3 → sub3 k < sub3 (k + 1) := fun h => by
      have : k = 0 ∨ k = 1 := by omega
      rcases this with rfl | rfl <;> decide
    have sm : sub3 k ∈ ([1, 2, 3, 7] : List Int) ∧ ¬ sub3 k = 1 ∧ 0 < sub3 k := by
      have : k = 0 ∨ k = 1 ∨ k = 2 := by omega
      rcases this with rfl | rfl | rfl <;> decide
    obtain ⟨i, hi⟩ : ∃ i, i = sub3 k := ⟨_, rfl⟩
    rw [← hi] at hix nx sm hls
    simp -dsimp -implicitDefEqProofs [-getElem?_pos, go_sem, hP, t7, t8, hix, t0]
    refine callB_flat (up (N_pf p src 4 (by omega))) hP en_15 (args_same (by simp -dsimp -implicitDefEqProofs [-getElem?_pos, go_sem])) (NQ_ex _) (NQ_flat _) ?_
    rintro r ⟨z, rfl, _, hz⟩
    simp -dsimp -implicitDefEqProofs [-getElem?_pos, go_sem, hP]
    by_cases c0 : 0 < z
    · simp -dsimp -implicitDefEqProofs [-getElem?_pos, go_sem, hP, c0, t0]
      refine callB_flat (up (pick_pf p src [0, 5, 80] (by simp))) hP en_16 (by simp [go_sem, intsL]) ⟨iv 0, 0, rfl, by simp⟩ (by rintro r ⟨m, rfl, _⟩; exact .sc) ?_
      rintro r ⟨low, rfl, hlow⟩
      have hlow : 0 ≤ low ∧ low ≤ 80 := by simp at hlow; omega
      simp -dsimp -implicitDefEqProofs [-getElem?_pos, go_sem, hP, t3, t0]
      refine callB_flat (up (pick_pf p src [0, 20, 300] (by simp))) hP en_16 (by simp [go_sem, intsL]) ⟨iv 0, 0, rfl, by simp⟩ (by rintro r ⟨m, rfl, _⟩; exact .sc) ?_
      rintro r ⟨d, rfl, hd⟩
      have hd : 0 ≤ d ∧ d ≤ 300 := by simp at hd; omega
      have wd := wrap_in (low + d) (by omega)
      have es : encL TKeep.cells l ++ [[iv i, iv low, iv (low + d)]] = encL TKeep.cells (l ++ [⟨i, low, low + d⟩]) := by rw [← encL_snoc]; rfl
      simp -dsimp -implicitDefEqProofs [-getElem?_pos, go_sem, hP, wd, hO, ltO, t8, wk]
      refine ⟨by omega, by omega, ?_⟩
      refine ⟨3 - (k + 1), by omega, ?_⟩
      rw [hI]
      refine ⟨k + 1, s.H.length, l ++ [⟨i, low, low + d⟩], by omega, rfl, ?_, by simp; omega, ?_, by simp -dsimp -implicitDefEqProofs [-getElem?_pos, go_sem, t0], by simp -dsimp -implicitDefEqProofs [-getElem?_pos, go_sem], by simp -dsimp -implicitDefEqProofs [-getElem?_pos, go_sem, t7], by simp -dsimp -implicitDefEqProofs [-getElem?_pos, go_sem], by simp -dsimp -implicitDefEqProofs [-getElem?_pos, go_sem, es]⟩
      · refine keepsB_snoc _ l 0 _ hks (keepB_iff.2 ⟨sm.1, sm.2.1, sm.2.2, by dsimp only; omega, by dsimp only; omega, by dsimp only; omega⟩) fun y hy => (hls y hy).2 hk
      · intro y hy
        rcases List.mem_append.1 hy with hy | hy
        · have := hls y hy
          exact ⟨this.1, fun h => by have := this.2 hk; have := nx h; omega⟩
        · simp at hy
          subst hy
          exact ⟨by dsimp only; omega, nx⟩
    · simp -dsimp -implicitDefEqProofs [-getElem?_pos, go_sem, hP, c0, t8, wk]
      refine ⟨3 - (k + 1), by omega, ?_⟩
      rw [hI]
      exact ⟨k + 1, id, l, by omega, rfl, hks, by omega, fun y hy => ⟨(hls y hy).1, fun h => by have := (hls y hy).2 hk; have := nx h; omega⟩, by simp -dsimp -implicitDefEqProofs [-getElem?_pos, go_sem, t0], by simp -dsimp -implicitDefEqProofs [-getElem?_pos, go_sem, t3], by simp -dsimp -implicitDefEqProofs [-getElem?_pos, go_sem, t7], by simp -dsimp -implicitDefEqProofs [-getElem?_pos, go_sem], by simp -dsimp -implicitDefEqProofs [-getElem?_pos, go_sem, hO]⟩
  · simp -dsimp -implicitDefEqProofs [-getElem?_pos, go_sem, hP, t3]
    have e2 := encL_take TKeep.cells l _ rfl
    refine done (x := keepsL l) ?_ ⟨l, rfl, hks, by omega, fun y hy => (hls y hy).1⟩ ?_
    · simp -dsimp -implicitDefEqProofs [-getElem?_pos, go_sem, hO, e2]
      exact imm_list.1 (imm_keeps _)
    · simp -dsimp -implicitDefEqProofs [-getElem?_pos, go_sem, hO, e2]

theorem genk_ex : ∃ r, (∃ l : List TKeep, r = keepsL l ∧ GenK l) ∧ Imm r := ⟨_, ⟨[], rfl, rfl, by simp, by simp⟩, imm_keeps _⟩

def poorA : TAccount := ⟨0, [⟨1, 10⟩, ⟨2, 0⟩, ⟨3, 0⟩], [⟨1, 0, 0, 1, 10, 0⟩]⟩
def poorB : TAccount := ⟨0, [⟨1, 0⟩, ⟨2, 8⟩, ⟨3, 2⟩], [⟨1, 0, 0, 1, 10, 0⟩, ⟨2, 0, 1, 2, 8, 0⟩, ⟨3, 0, 1, 3, 2, 0⟩]⟩
theorem poor_open : openA [1, 2, 3] 0 = (⟨0, [⟨1, 0⟩, ⟨2, 0⟩, ⟨3, 0⟩], []⟩, 0) := by decide +kernel
theorem poor_next : nextE ⟨0, [⟨1, 0⟩, ⟨2, 0⟩, ⟨3, 0⟩], []⟩ 0 0 1 10 0 = ⟨1, 0, 0, 1, 10, 0⟩ := by decide +kernel
theorem poor_post : postA ⟨0, [⟨1, 0⟩, ⟨2, 0⟩, ⟨3, 0⟩], []⟩ ⟨1, 0, 0, 1, 10, 0⟩ = (poorA, 0) := by decide +kernel
theorem poor_sweep : sweepA poorA [⟨2, 8, 8⟩, ⟨3, 8, 8⟩] 0 = (poorB, 0) := by decide +kernel
theorem poor_b2 : balanceA poorB 2 = (8, true) := by decide +kernel
theorem poor_b3 : balanceA poorB 3 = (2, true) := by decide +kernel

theorem poor_pf : PFun Try.prog none none 75 [] (· = .agg poorA.cells) := by
  refine pfun_intro Try.func75 rfl (by simp [Try.f75]) (by kernel_rfl) ?_
  intro E hP hr hs hW hN
  obtain ⟨a, ha⟩ : ∃ a : TAccount, a = ⟨0, [⟨1, 0⟩, ⟨2, 0⟩, ⟨3, 0⟩], []⟩ := ⟨_, rfl⟩
  obtain ⟨e, he⟩ : ∃ e : TEntry, e = ⟨1, 0, 0, 1, 10, 0⟩ := ⟨_, rfl⟩
  obtain ⟨b, hb⟩ : ∃ b, b = poorA := ⟨_, rfl⟩
  have la : a.Subs.length ≤ 100000 := by subst ha; decide
  have la' : a.Entries.length ≤ 100000 := by subst ha; decide
  have op := open23_pf [1, 2, 3] 0 (by simp)
  have nx := next23_pf a 0 0 1 10 0 la'
  have po := post23_pf a e la la'
  rw [poor_open, ← ha] at op
  rw [show nextE a 0 0 1 10 0 = e by rw [ha, he]; exact poor_next] at nx
  rw [show postA a e = (b, 0) by rw [ha, he, hb]; exact poor_post] at po
  rw [← hb]
  rw [cA] at op nx po
  rw [cE] at nx po
  rw [cA] at po
  have ia : Imm (.agg [iv a.Credit, subsL a.Subs, entsL a.Entries]) := imm_acc a
  have ib : Imm (.agg [iv b.Credit, subsL b.Subs, entsL b.Entries]) := imm_acc b
  have ie : Imm (.agg [iv e.Number, iv e.Day, iv e.From, iv e.To, iv e.Amount, iv e.Ref]) := imm_ent e
  clear ha hb he
  simp -dsimp -implicitDefEqProofs [-getElem?_pos, go_sem, hP]
  refine callB_is (op.lift _ _) hP en_23 (by simp [go_sem, encI, encL]) (imm_pair ia .sc) ?_
  simp -dsimp -implicitDefEqProofs [-getElem?_pos, go_sem, hP]
  refine adrawB (fun _ => true) [7] hP (by kernel_rfl) (by kernel_rfl) ?_
  simp -dsimp -implicitDefEqProofs [-getElem?_pos, go_sem, hP]
  refine callB_is (nx.lift _ _) hP en_32 (by simp [ia, imm_sc]) ie ?_
  simp -dsimp -implicitDefEqProofs [-getElem?_pos, go_sem, hP]
  refine callB_is (po.lift _ _) hP en_34 (by simp [ia, ie]) (imm_pair ib .sc) ?_
  simp -dsimp -implicitDefEqProofs [-getElem?_pos, go_sem, hP]
  refine done_imm ib ?_
  rw [cA]

theorem sane24_pf : PFun Try.prog none none 44 [] (· = bv true) := by
  refine pfun_intro Try.func44 rfl (by simp [Try.f44]) (by kernel_rfl) ?_
  intro E hP hr hs hW hN
  obtain ⟨a, ha⟩ : ∃ a, a = poorA := ⟨_, rfl⟩
  obtain ⟨b, hb⟩ : ∃ b, b = poorB := ⟨_, rfl⟩
  obtain ⟨l, hl⟩ : ∃ l : List TKeep, l = [⟨2, 8, 8⟩, ⟨3, 8, 8⟩] := ⟨_, rfl⟩
  have la : a.Subs.length ≤ 100000 := by subst ha; decide
  have la' : a.Entries.length ≤ 100000 := by subst ha; decide
  have lb : b.Subs.length ≤ 100000 := by subst hb; decide
  have lb' : b.Entries.length ≤ 100000 := by subst hb; decide
  have pp := poor_pf
  have sw := ssweep_pf a l 0 la la' (by rw [hl]; simp)
  have b2 := balance23_pf b 2 lb lb'
  have b3 := balance23_pf b 3 lb lb'
  rw [← ha] at pp
  rw [show sweepA a l 0 = (b, 0) by rw [ha, hl, hb]; exact poor_sweep] at sw
  rw [show balanceA b 2 = (8, true) by rw [hb]; exact poor_b2] at b2
  rw [show balanceA b 3 = (2, true) by rw [hb]; exact poor_b3] at b3
  have hlk : keepsL l = .list 3 [[iv 2, iv 8, iv 8], [iv 3, iv 8, iv 8]] := by rw [hl]; rfl
  rw [hlk] at sw
  rw [cA] at pp sw b2 b3
  rw [cA] at sw
  have ia : Imm (.agg [iv a.Credit, subsL a.Subs, entsL a.Entries]) := imm_acc a
  have ib : Imm (.agg [iv b.Credit, subsL b.Subs, entsL b.Entries]) := imm_acc b
  clear ha hb hl hlk
  simp -dsimp -implicitDefEqProofs [-getElem?_pos, go_sem, hP]
  refine callB_is (pp.lift _ _) hP en_75 (by simp) ia ?_
  simp -dsimp -implicitDefEqProofs [-getElem?_pos, go_sem, hP]
  refine callB_is (sw.lift _ _) hP en_45 (by simp [ia, go_sem]) (imm_pair ib .sc) ?_
  simp -dsimp -implicitDefEqProofs [-getElem?_pos, go_sem, hP]
  refine callB_is (b2.lift _ _) hP en_36 (by simp [ib, imm_sc]) (imm_pair .sc .sc) ?_
  simp -dsimp -implicitDefEqProofs [-getElem?_pos, go_sem, hP]
  refine callB_is (b3.lift _ _) hP en_36 (by simp [ib, imm_sc]) (imm_pair .sc .sc) ?_
  simp -dsimp -implicitDefEqProofs [-getElem?_pos, go_sem, hP]
end Go.Proofs.Ytcfkdimndhapfaa
