/- SweepLeast: the walk. -/
import Derived.Test.YtcfkdimndhapfaaSwGen
set_option linter.unusedSimpArgs false
set_option linter.unusedVariables false
namespace Go.Proofs.Ytcfkdimndhapfaa
open Go.PA
open Go.RowKit

set_option maxHeartbeats 1000000 in
theorem sleast_law_pf (xs : List Int) (hx : Small xs) (hl : xs.length ≤ 9223372036854775807) :
    PFun Try.prog none none 8 [intsL xs] (· = bv true) := by
  refine pfun_introA Try.func8 rfl (by simp [Try.f8]) ?_
  intro E hP hr hs hW hN
  refine awp_cut (by rw [hN]; kernel_rfl) ?_
  simp [go_sem, hP]
  refine awp_cut (by rw [hN]; kernel_rfl) ?_
  simp [go_sem, hP]
  have hnew : POwn Try.prog E.row E.src 13 [intsL xs] 76 2 (· = [[intsL (xs.take 900), iv 0]]) := by rw [hr, hs]; exact new_pf xs hl
  refine callB_own hnew hP en_13 (args_same (by simp [go_sem, intsL])) (by simp [srefs_imm, go_sem, intsL]) ⟨_, rfl⟩ ?_
  rintro es rfl
  simp [go_sem, hP]
  refine awp_adopt 3 (ty := 76) (xs := xs.take 900) (at_ := 0) hr hs hW (by simp [go_sem]) (by simp [go_sem, intsL]) (by omega) (by simp; omega) (fun x hx' => hx x (List.mem_of_mem_take hx')) (by rw [hN]; kernel_rfl) ?_
  intro E' p hP' hr' hN' hW'
  rw [hP] at hP'
  rw [hN] at hN'
  clear hnew hP hr hs hW hN E
  rename Env => E
  rename E.P = _ => hP
  rename E.row = _ => hr
  rename E.N = _ => hN
  rename (∀ b, ¬ E.W b) => hW
  obtain ⟨src, hs⟩ : ∃ src, E.src = src := ⟨_, rfl⟩
  have up : ∀ {f : FuncId} {args : List AV} {Q : AV → Prop}, PFun Try.prog (some p) src f args Q → PFun Try.prog E.row E.src f args Q := fun h => hr ▸ hs ▸ h

  simp -dsimp -implicitDefEqProofs [-getElem?_pos, go_sem, hP]
  refine callB_isQ (up (account_pf p src 10 (by omega))) hP en_14 (by simp [go_sem]) (gen_ex 10) ?_
  rintro r ⟨a, rfl, hg⟩ _
  simp -dsimp -implicitDefEqProofs [-getElem?_pos, go_sem, hP]
  refine callB_isQ (up (keeps_pf p src)) hP en_41 (by simp [go_sem]) genk_ex ?_
  rintro r ⟨l, rfl, hk⟩ _
  have H := gen_SwH hg (by omega) hk
  obtain ⟨b, hb, ckA, hpl, hsw⟩ := sweep_all H
  have hll := hk.len
  have asl := hg.slen
  have ael := hg.len
  have bsl : b.Subs.length = 4 := by rw [← ids_len, hb.be.ids, hg.ids]; rfl
  have bel := (check_ok hb.be.ok).2.1
  have sw := sweep24_pf a l 50 (by omega) (by omega) (by omega)
  rw [hsw] at sw
  have pl := splan_pf a l 50 (by omega) (by omega) (by omega)
  rw [hpl] at pl
  have km := keepsB_mem _ l 0 H.keeps
  have hgood := hb.be.good
  have hplen : (GK a l 50 l.length).2.length ≤ 400 := by have := hb.len; have := H.room; omega
  obtain ⟨es, hes⟩ : ∃ es, es = (GK a l 50 l.length).2 := ⟨_, rfl⟩
  rw [← hes] at pl hgood hplen
  have facts : ∀ x, x ∈ l → x.Sub ∈ ids a.Subs ∧ x.Sub ∈ ids b.Subs ∧ x.Low ≤ x.High ∧ (x.High < balI a.Subs x.Sub → balI b.Subs x.Sub = x.High) ∧ (balI a.Subs x.Sub < x.Low → balI a.Subs x.Sub ≤ balI b.Subs x.Sub ∧ balI b.Subs x.Sub ≤ x.Low) ∧ (x.Low ≤ balI a.Subs x.Sub → balI a.Subs x.Sub ≤ x.High → balI b.Subs x.Sub = balI a.Subs x.Sub) := fun x hx => by
    have kx := km x hx
    obtain ⟨g, g1, g2, g3, _⟩ := hb.final H x hx
    have hl1 := low1_small (H.small x.Sub) (by omega : 0 ≤ x.High)
    refine ⟨kx.1, by rw [hb.be.ids]; exact kx.1, kx.2.2.2.2.1, fun h => ?_, fun h => ?_, fun h h' => ?_⟩
    · rw [hl1, if_pos h] at g1 g3
      by_cases h0 : 0 < g
      · have := g3 h0; omega
      · omega
    · rw [hl1, if_neg (by omega)] at g1 g3
      by_cases h0 : 0 < g
      · have := g3 h0; omega
      · omega
    · rw [hl1, if_neg (by omega)] at g1 g3
      by_cases h0 : 0 < g
      · have := g3 h0; omega
      · omega
  rw [cA] at sw pl
  rw [cA] at sw
  have ia : Imm (.agg [iv a.Credit, subsL a.Subs, entsL a.Entries]) := imm_acc a
  have ib : Imm (.agg [iv b.Credit, subsL b.Subs, entsL b.Entries]) := imm_acc b
  have oka := H.ok
  have okb := hb.be.ok
  clear hes hpl hsw km hb
  simp -dsimp -implicitDefEqProofs [-getElem?_pos, go_sem, hP, cA]
  refine callB_is (pl.lift _ _) hP en_42 (by simp [ia, imm_keeps, imm_sc]) (imm_pair (imm_ents _) .sc) ?_
  simp -dsimp -implicitDefEqProofs [-getElem?_pos, go_sem, hP]
  refine callB_is (sw.lift _ _) hP en_43 (by simp [ia, imm_keeps, imm_sc]) (imm_pair ib .sc) ?_
  simp -dsimp -implicitDefEqProofs [-getElem?_pos, go_sem, hP]
  obtain ⟨I, hI⟩ : ∃ I : Nat → St → Prop, I = fun m s => ∃ k : Nat, k ≤ l.length ∧ m = l.length - k ∧ s.t 4 = .ref 1 0 0 ∧ s.t 6 = entsL es ∧ s.t 8 = .ref 2 0 0 ∧ s.t 38 = keepsL l ∧ s.t 39 = iv l.length ∧ s.t 40 = iv k ∧ s.H[1]? = some (some ⟨28, 3, [a.cells]⟩) ∧ s.H[2]? = some (some ⟨28, 3, [b.cells]⟩) := ⟨_, rfl⟩
  refine aloop0 I (l.length) (by rw [hN]; rfl) ?_ ?_
  · rw [hI]
    exact ⟨0, by omega, by omega, by simp -dsimp -implicitDefEqProofs [-getElem?_pos, go_sem], by simp -dsimp -implicitDefEqProofs [-getElem?_pos, go_sem], by simp -dsimp -implicitDefEqProofs [-getElem?_pos, go_sem], by simp -dsimp -implicitDefEqProofs [-getElem?_pos, go_sem], by simp -dsimp -implicitDefEqProofs [-getElem?_pos, go_sem], by simp -dsimp -implicitDefEqProofs [-getElem?_pos, go_sem], by simp -dsimp -implicitDefEqProofs [-getElem?_pos, go_sem, cA], by simp -dsimp -implicitDefEqProofs [-getElem?_pos, go_sem, cA]⟩
  intro m s hs'
  rw [hI] at hs'
  obtain ⟨k, hk, hm, t4, t6, t8, t38, t39, t40, h1, h2⟩ := hs'
  have lt1 := (List.getElem?_eq_some_iff.1 h1).1
  have lt2 := (List.getElem?_eq_some_iff.1 h2).1
  simp -dsimp -implicitDefEqProofs [-getElem?_pos, go_sem, hP, t39, t40]
  refine condP (fun h => ?_) (fun h => ?_)
  · have hk : k < l.length := by simpa using h
    obtain ⟨x, hx⟩ : ∃ x, l[k]? = some x := ⟨_, List.getElem?_eq_getElem hk⟩
    have wk := wrap_in ((k : Int) + 1) (by omega)
    obtain ⟨f1, f2, f3, f4, f5, f6⟩ := facts x (List.mem_of_getElem? hx)
    have ba := balance23_pf a x.Sub (by omega) (by omega)
    have bb := balance23_pf b x.Sub (by omega) (by omega)
    rw [balance_in oka f1, cA] at ba
    rw [balance_in okb f2, cA] at bb
    obtain ⟨o, ho⟩ : ∃ o, o = balI a.Subs x.Sub := ⟨_, rfl⟩
    obtain ⟨w, hw⟩ : ∃ w, w = balI b.Subs x.Sub := ⟨_, rfl⟩
    rw [← ho] at ba f4 f5 f6
    rw [← hw] at bb f4 f5 f6
    have fin : ∀ s' : St, s'.t 4 = s.t 4 → s'.t 6 = s.t 6 → s'.t 8 = s.t 8 → s'.t 38 = s.t 38 → s'.t 39 = s.t 39 → s'.t 40 = iv ((k : Int) + 1) → s'.H[1]? = s.H[1]? → s'.H[2]? = s.H[2]? → ∃ n', n' < m ∧ I n' s' := fun s' e4 e6 e8 e38 e39 e40 e1 e2 => by
      refine ⟨l.length - (k + 1), by omega, ?_⟩
      rw [hI]
      exact ⟨k + 1, by omega, rfl, by rw [e4, t4], by rw [e6, t6], by rw [e8, t8], by rw [e38, t38], by rw [e39, t39], by rw [e40]; simp, by rw [e1, h1], by rw [e2, h2]⟩
    simp -dsimp -implicitDefEqProofs [-getElem?_pos, go_sem, hP, t38, t40, hx, TKeep.cells, t4, h1, lt1, cA]
    refine callB_is (ba.lift _ _) hP en_36 (by simp [ia, imm_sc]) (imm_pair .sc .sc) ?_
    simp -dsimp -implicitDefEqProofs [-getElem?_pos, go_sem, hP, t8, h2, lt2, cA]
    refine callB_is (bb.lift _ _) hP en_36 (by simp [ib, imm_sc]) (imm_pair .sc .sc) ?_
    by_cases c1 : x.High < o
    · have hw1 := f4 c1
      subst hw1
      have c2 : ¬ o < x.Low := by omega
      have c3 : x.Low ≤ o := by omega
      have c4 : ¬ o ≤ x.High := by omega
      simp -dsimp -implicitDefEqProofs [-getElem?_pos, go_sem, hP, c1, c2, c3, c4, t40, wk]
      exact fin _ (by simp -dsimp -implicitDefEqProofs [-getElem?_pos, go_sem]) (by simp -dsimp -implicitDefEqProofs [-getElem?_pos, go_sem]) (by simp -dsimp -implicitDefEqProofs [-getElem?_pos, go_sem]) (by simp -dsimp -implicitDefEqProofs [-getElem?_pos, go_sem]) (by simp -dsimp -implicitDefEqProofs [-getElem?_pos, go_sem]) (by simp -dsimp -implicitDefEqProofs [-getElem?_pos, go_sem]) (by simp -dsimp -implicitDefEqProofs [-getElem?_pos, go_sem, lt1]) (by simp -dsimp -implicitDefEqProofs [-getElem?_pos, go_sem, lt2])
    · by_cases c2 : o < x.Low
      · obtain ⟨w1, w2⟩ := f5 c2
        have c3 : ¬ x.Low ≤ o := by omega
        have c4 : ¬ w < o := by omega
        have c5 : ¬ x.Low < w := by omega
        simp -dsimp -implicitDefEqProofs [-getElem?_pos, go_sem, hP, c1, c2, c3, c4, c5, t40, wk]
        exact fin _ (by simp -dsimp -implicitDefEqProofs [-getElem?_pos, go_sem]) (by simp -dsimp -implicitDefEqProofs [-getElem?_pos, go_sem]) (by simp -dsimp -implicitDefEqProofs [-getElem?_pos, go_sem]) (by simp -dsimp -implicitDefEqProofs [-getElem?_pos, go_sem]) (by simp -dsimp -implicitDefEqProofs [-getElem?_pos, go_sem]) (by simp -dsimp -implicitDefEqProofs [-getElem?_pos, go_sem]) (by simp -dsimp -implicitDefEqProofs [-getElem?_pos, go_sem, lt1]) (by simp -dsimp -implicitDefEqProofs [-getElem?_pos, go_sem, lt2])
      · have hw1 := f6 (by omega) (by omega)
        subst hw1
        have c3 : x.Low ≤ w := by omega
        have c4 : w ≤ x.High := by omega
        simp -dsimp -implicitDefEqProofs [-getElem?_pos, go_sem, hP, c1, c2, c3, c4, t40, wk]
        exact fin _ (by simp -dsimp -implicitDefEqProofs [-getElem?_pos, go_sem]) (by simp -dsimp -implicitDefEqProofs [-getElem?_pos, go_sem]) (by simp -dsimp -implicitDefEqProofs [-getElem?_pos, go_sem]) (by simp -dsimp -implicitDefEqProofs [-getElem?_pos, go_sem]) (by simp -dsimp -implicitDefEqProofs [-getElem?_pos, go_sem]) (by simp -dsimp -implicitDefEqProofs [-getElem?_pos, go_sem]) (by simp -dsimp -implicitDefEqProofs [-getElem?_pos, go_sem, lt1]) (by simp -dsimp -implicitDefEqProofs [-getElem?_pos, go_sem, lt2])
  simp -dsimp -implicitDefEqProofs [-getElem?_pos, go_sem, hP, t6]
  obtain ⟨J, hJ⟩ : ∃ I : Nat → St → Prop, I = fun m s => ∃ k : Nat, k ≤ es.length ∧ m = es.length - k ∧ s.t 103 = entsL es ∧ s.t 104 = iv es.length ∧ s.t 105 = iv k := ⟨_, rfl⟩
  refine aloop0 J (es.length) (by rw [hN]; rfl) ?_ ?_
  · rw [hJ]
    exact ⟨0, by omega, by omega, by simp -dsimp -implicitDefEqProofs [-getElem?_pos, go_sem, t6], by simp -dsimp -implicitDefEqProofs [-getElem?_pos, go_sem, t6], by simp -dsimp -implicitDefEqProofs [-getElem?_pos, go_sem]⟩
  clear t4 t6 t8 t38 t39 t40 h1 h2 lt1 lt2
  intro m s hs'
  rw [hJ] at hs'
  obtain ⟨k, hk, hm, t103, t104, t105⟩ := hs'
  simp -dsimp -implicitDefEqProofs [-getElem?_pos, go_sem, hP, t104, t105]
  refine condP (fun h => ?_) (fun h => ?_)
  · have hk : k < es.length := by simpa using h
    obtain ⟨e, he⟩ : ∃ e, es[k]? = some e := ⟨_, List.getElem?_eq_getElem hk⟩
    have wk := wrap_in ((k : Int) + 1) (by omega)
    obtain ⟨g1, g2, g3, g4, g5, g6⟩ := hgood e (List.mem_of_getElem? he)
    have c1 : ¬ e.Amount < 1 := by omega
    by_cases c2 : e.From = 1
    · have d2 : decide (e.From = 1) = true := decide_eq_true c2
      simp -dsimp -implicitDefEqProofs [-getElem?_pos, go_sem, hP, t103, t105, he, TEntry.cells, d2, c1, g5, g6, wk]
      refine ⟨es.length - (k + 1), by omega, ?_⟩
      rw [hJ]
      exact ⟨k + 1, by omega, rfl, by simp -dsimp -implicitDefEqProofs [-getElem?_pos, go_sem, t103], by simp -dsimp -implicitDefEqProofs [-getElem?_pos, go_sem, t104], by simp -dsimp -implicitDefEqProofs [-getElem?_pos, go_sem]⟩
    · have d3 : decide (e.To = 1) = true := decide_eq_true (g3.resolve_left c2)
      simp -dsimp -implicitDefEqProofs [-getElem?_pos, go_sem, hP, t103, t105, he, TEntry.cells, c2, d3, c1, g5, g6, wk]
      refine ⟨es.length - (k + 1), by omega, ?_⟩
      rw [hJ]
      exact ⟨k + 1, by omega, rfl, by simp -dsimp -implicitDefEqProofs [-getElem?_pos, go_sem, t103], by simp -dsimp -implicitDefEqProofs [-getElem?_pos, go_sem, t104], by simp -dsimp -implicitDefEqProofs [-getElem?_pos, go_sem]⟩
  · simp -dsimp -implicitDefEqProofs [-getElem?_pos, go_sem, hP]
    refine callB_pure sane24_pf hP en_44 (args_nil.2 trivial) .sc ?_
    simp -dsimp -implicitDefEqProofs [-getElem?_pos, go_sem, hP]
end Go.Proofs.Ytcfkdimndhapfaa
