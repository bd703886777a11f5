/- Accounts: the program's replay, Check and the rest. -/
import Derived.Test.YtellcfkpfccgaaaAcc6
set_option linter.unusedSimpArgs false
set_option linter.unusedVariables false
namespace Go.Proofs.Ytellcfkpfccgaaa
open Go.PA
open Go.RowKit

theorem kept_high {H H' H'' : Heap} {X : List Nat} (h : Kept [] H H') (k : Kept X H' H'') (hX : ∀ i, i ∈ X → H.length ≤ i) : Kept [] H H'' := fun j o _ ho => by
  refine k j o (fun hj => ?_) (h j o (by simp) ho)
  have := hX j hj
  have := (List.getElem?_eq_some_iff.1 ho).1
  omega

def replayW (a : TAccount) (w : TEntry → Bool) : Option (Int × Int × List TSub) := replayS a.Credit 0 0 (zeroS a.Subs) (a.Entries.takeWhile w)

set_option maxHeartbeats 1000000 in
theorem replay_m {row src : Option Nat} (a : TAccount) (H : Heap) (g : FuncId) (caps : List AV) (w : TEntry → Bool) (hl : a.Subs.length ≤ 100000) (he : a.Entries.length ≤ 100000) (hne : a.Subs ≠ []) (hc : 0 ≤ a.Credit ∧ a.Credit ≤ 1000000000000) (hn : (ids a.Subs).Nodup) (h0 : 0 ∉ ids a.Subs)
    (hen : enterable Try.prog g = true) (hg : ∀ e, e ∈ a.Entries → ∀ H', Kept [] H H' → MFun Try.prog row src g (.agg e.cells :: caps) H' (fun r H'' => r = bv (w e) ∧ Kept [] H' H'')) :
    MFun Try.prog row src 118 [.agg a.cells, .fn g caps] H (fun r H' => ∃ p q, r = .tup [.ref p 0 0, bv (replayW a w).isSome] ∧ H.length ≤ p ∧ H.length ≤ q ∧ (∀ x, replayW a w = some x → Teller H' p q a.Credit x.1 x.2.1 x.2.2) ∧ Kept [] H H') := by
  obtain ⟨C, hC⟩ : ∃ C : AV → Heap → Prop, C = fun r H' => ∃ p q, r = .tup [.ref p 0 0, bv (replayW a w).isSome] ∧ H.length ≤ p ∧ H.length ≤ q ∧ (∀ x, replayW a w = some x → Teller H' p q a.Credit x.1 x.2.1 x.2.2) ∧ Kept [] H H' := ⟨_, rfl⟩
  rw [← hC]
  obtain ⟨R, hR⟩ : ∃ R, R = replayW a w := ⟨_, rfl⟩
  rw [← hR] at hC
  have ex : ∃ r H', C r H' := by
    rw [hC]
    cases R with
    | none => exact ⟨_, H, H.length, H.length, rfl, Nat.le_refl _, Nat.le_refl _, by simp, kept_refl _ _⟩
    | some x => exact ⟨_, H ++ [some ⟨162, 4, [[iv a.Credit, iv x.1, iv x.2.1, .sref (H.length + 1) 0 x.2.2.length]]⟩, some ⟨96, 2, encL TSub.cells x.2.2⟩], H.length, H.length + 1, rfl, Nat.le_refl _, by omega, fun y hy => by
        simp only [Option.some.injEq] at hy
        subst hy
        exact ⟨by omega, by simp, by rw [List.getElem?_append_right (by omega)]; simp⟩, kept_app _ _ _⟩
  refine mfun_intro Try.func118 rfl (by simp [Try.f118]) (by kernel_rfl) (ex) ?_
  intro E hP hr hs hN
  have ia : Imm (.agg [iv a.Credit, subsL a.Subs, entsL a.Entries]) := imm_acc a
  have fr := fun (row src : Option Nat) (H : Heap) => fresh_m (row := row) (src := src) a H hl hne
  rw [cA] at fr
  simp -dsimp -implicitDefEqProofs [-getElem?_pos, go_sem, hP, cA]
  refine callB_m (fr _ _ _) hP en_128 ?_
  rintro r H1 ⟨p, q, rfl, hp, hq, ht, hk1⟩
  have ob := hk1 H.length ⟨90, 3, [[iv a.Credit, subsL a.Subs, entsL a.Entries]]⟩ (by simp) (by simp)
  have lb := (List.getElem?_eq_some_iff.1 ob).1
  rw [List.length_append, List.length_singleton] at hp hq
  simp -dsimp -implicitDefEqProofs [-getElem?_pos, go_sem, hP, ob, lb]
  obtain ⟨I, hI⟩ : ∃ I : Nat → St → Prop, I = fun m s => ∃ (k : Nat) (d : Int) (l : List TSub), k ≤ a.Entries.length ∧ m = a.Entries.length - k ∧ R = replayS a.Credit k d l ((a.Entries.drop k).takeWhile w) ∧ okAll a.Credit l = true ∧ ids l = ids a.Subs ∧ Teller s.H p q a.Credit k d l ∧ Kept [] H s.H ∧ s.t 1 = .fn g caps ∧ s.t 6 = .ref p 0 0 ∧ s.t 12 = entsL a.Entries ∧ s.t 13 = iv a.Entries.length ∧ s.t 14 = iv k := ⟨_, rfl⟩
  refine aloop0 I (a.Entries.length) (by rw [hN]; rfl) ?_ ?_
  · rw [hI]
    exact ⟨0, 0, zeroS a.Subs, by omega, by omega, by rw [hR]; simp [replayW], zeroS_all hc.1 _, zeroS_ids _, by simp -dsimp -implicitDefEqProofs [-getElem?_pos, go_sem]; exact ht, by simp -dsimp -implicitDefEqProofs [-getElem?_pos, go_sem]; exact (kept_app _ _ _).trans hk1, by simp -dsimp -implicitDefEqProofs [-getElem?_pos, go_sem], by simp -dsimp -implicitDefEqProofs [-getElem?_pos, go_sem], by simp -dsimp -implicitDefEqProofs [-getElem?_pos, go_sem], by simp -dsimp -implicitDefEqProofs [-getElem?_pos, go_sem], by simp -dsimp -implicitDefEqProofs [-getElem?_pos, go_sem]⟩
  clear ht hk1 ob lb
  intro m s hs'
  rw [hI] at hs'
  obtain ⟨k, d, l, hk, hm, hRr, hok, hids, ht, hK, t1, t6, t12, t13, t14⟩ := hs'
  have fin : ∀ b : Bool, R.isSome = b → (∀ x, R = some x → Teller s.H p q a.Credit x.1 x.2.1 x.2.2) → C (.tup [.ref p 0 0, bv b]) s.H := fun b hb hx => by
    rw [hC]
    exact ⟨p, q, by rw [hb], by omega, by omega, hx, hK⟩
  simp -dsimp -implicitDefEqProofs [-getElem?_pos, go_sem, hP, t13, t14]
  refine condP (fun h => ?_) (fun h => ?_)
  · have hk : k < a.Entries.length := by simpa using h
    obtain ⟨e, hee⟩ : ∃ e, a.Entries[k]? = some e := ⟨_, List.getElem?_eq_getElem hk⟩
    have wk := wrap_in ((k : Int) + 1) (by omega)
    have hd : a.Entries.drop k = e :: a.Entries.drop (k + 1) := by
      rw [List.getElem?_eq_getElem hk] at hee
      rw [List.drop_eq_getElem_cons hk, Option.some.inj hee]
    rw [hd] at hRr
    have hge := hg e (List.mem_of_getElem? hee) _ (hK.trans (kept_push (some ⟨139, 6, [[iv e.Number, iv e.Day, iv e.From, iv e.To, iv e.Amount, iv e.Ref]]⟩) (kept_refl _ s.H)))
    rw [cE] at hge
    simp -dsimp -implicitDefEqProofs [-getElem?_pos, go_sem, hP, t12, t14, hee, cE, t1]
    refine callB_m (by rw [hr, hs]; exact hge) hP hen ?_
    rintro r H2 ⟨rfl, hk2⟩
    have o2 := hk2 s.H.length ⟨139, 6, [[iv e.Number, iv e.Day, iv e.From, iv e.To, iv e.Amount, iv e.Ref]]⟩ (by simp) (by simp)
    have l2 := (List.getElem?_eq_some_iff.1 o2).1
    have k2 : Kept [] s.H H2 := (kept_app _ _ _).trans hk2
    by_cases hw : w e = true
    rotate_left
    · rw [List.takeWhile_cons_of_neg hw] at hRr
      simp -dsimp -implicitDefEqProofs [-getElem?_pos, go_sem, hP, hw, t6]
      rw [hC]
      have hRr : R = some ((k : Int), d, l) := hRr
      refine ⟨p, q, by rw [hRr]; rfl, by omega, by omega, fun x hx => ?_, hK.trans k2⟩
      rw [hRr] at hx
      simp only [Option.some.injEq] at hx
      subst hx
      exact ht.kept k2 (by simp) (by simp)
    rw [List.takeWhile_cons_of_pos hw, replayS] at hRr
    have tp := tpost_m (row := row) (src := src) (ht.kept k2 (by simp) (by simp)) (by rw [← ids_len, hids, ids_len]; omega) hc (by rw [hids]; exact hn) (by rw [hids]; exact h0) hok (by omega) e
    rw [cE] at tp
    simp -dsimp -implicitDefEqProofs [-getElem?_pos, go_sem, hP, hw, t6, o2, l2]
    refine callB_m (by rw [hr, hs]; exact tp) hP en_129 ?_
    rintro r H3 ⟨rfl, ht3, hk3⟩
    have K3 : Kept [] H H3 := kept_high (hK.trans k2) hk3 (fun i hi => by simp at hi; omega)
    by_cases hp0 : (postS a.Credit k d l e).1 = 0
    · rw [if_pos hp0] at hRr
      obtain ⟨q1, q2, q3, _⟩ := postS_ok hp0
      simp -dsimp -implicitDefEqProofs [-getElem?_pos, go_sem, hP, hp0, t14, wk]
      refine ⟨a.Entries.length - (k + 1), by omega, ?_⟩
      rw [hI]
      rw [q1] at hRr
      refine ⟨k + 1, e.Day, (postS a.Credit k d l e).2, by omega, rfl, hRr, postS_all hp0 hok, (postS_ids _ _ _ _ _).trans hids, ?_, by simp -dsimp -implicitDefEqProofs [-getElem?_pos, go_sem]; exact K3, by simp -dsimp -implicitDefEqProofs [-getElem?_pos, go_sem, t1], by simp -dsimp -implicitDefEqProofs [-getElem?_pos, go_sem, t6], by simp -dsimp -implicitDefEqProofs [-getElem?_pos, go_sem, t12], by simp -dsimp -implicitDefEqProofs [-getElem?_pos, go_sem, t13], by simp -dsimp -implicitDefEqProofs [-getElem?_pos, go_sem]⟩
      simp -dsimp -implicitDefEqProofs [-getElem?_pos, go_sem]
      have := ht3 hp0
      rw [q1] at this
      exact this
    · rw [if_neg hp0] at hRr
      simp -dsimp -implicitDefEqProofs [-getElem?_pos, go_sem, hP, hp0, t6]
      rw [hC]
      exact ⟨p, q, by rw [hRr]; rfl, by omega, by omega, fun x hx => (by rw [hRr] at hx; cases hx), K3⟩
  · have hk : k = a.Entries.length := by simp at h; omega
    subst hk
    rw [List.drop_length] at hRr
    have hRr : R = some ((a.Entries.length : Int), d, l) := hRr
    simp -dsimp -implicitDefEqProofs [-getElem?_pos, go_sem, hP, t6]
    refine fin true (by rw [hRr]; rfl) fun x hx => ?_
    rw [hRr] at hx
    simp only [Option.some.injEq] at hx
    subst hx
    exact ht

theorem all_m {row src : Option Nat} (e : TEntry) (H : Heap) : MFun Try.prog row src 119 [.agg e.cells] H (fun r H' => r = bv true ∧ Kept [] H H') := by
  refine mfun_intro Try.func119 rfl (by simp [Try.f119]) (by kernel_rfl) (⟨_, H, rfl, kept_refl _ _⟩) ?_
  intro E hP hr hs hN
  simp -dsimp -implicitDefEqProofs [-getElem?_pos, go_sem, hP, TEntry.cells]
  exact kept_app _ _ _
theorem takeWhile_true {α : Type} (l : List α) : l.takeWhile (fun _ => true) = l := takeWhile_all _ _ fun _ _ => rfl

/-- The check once more, as the program has it. -/
theorem check_prog {a : TAccount} (h1 : ¬ (20 < a.Subs.length ∨ 400 < a.Entries.length)) (h2 : (vB a.Credit && numB (ids a.Subs)) = true) :
    checkA a = (replayW a fun _ => true).elim 62 (fun r => if r.2.2 = a.Subs then 0 else 62) := by
  have h3 : ¬ (!vB a.Credit || !numB (ids a.Subs)) = true := by
    simp only [Bool.and_eq_true] at h2
    simp [h2.1, h2.2]
  rw [checkA, if_neg h1, if_neg h3, replayW, takeWhile_true]
  cases replayS a.Credit 0 0 (zeroS a.Subs) a.Entries <;> rfl

set_option maxHeartbeats 1000000 in
theorem check_pf (a : TAccount) (hl : a.Subs.length ≤ 100000) (he : a.Entries.length ≤ 100000) : PFun Try.prog none none 97 [.agg a.cells] (· = iv (checkA a)) := by
  refine pfun_intro Try.func97 rfl (by simp [Try.f97]) (by kernel_rfl) ?_
  intro E hP hr hs hW hN
  by_cases c1 : 20 < a.Subs.length
  · have d1 : decide ((20 : Int) < a.Subs.length) = true := decide_eq_true (by omega)
    have : checkA a = 3 := by rw [checkA, if_pos (.inl c1)]
    simp -dsimp -implicitDefEqProofs [-getElem?_pos, go_sem, hP, cA, d1, this]
  have d1 : decide ((20 : Int) < a.Subs.length) = false := decide_eq_false (by omega)
  by_cases c2 : 400 < a.Entries.length
  · have d2 : decide ((400 : Int) < a.Entries.length) = true := decide_eq_true (by omega)
    have : checkA a = 3 := by rw [checkA, if_pos (.inr c2)]
    simp -dsimp -implicitDefEqProofs [-getElem?_pos, go_sem, hP, cA, d1, d2, this]
  have d2 : decide ((400 : Int) < a.Entries.length) = false := decide_eq_false (by omega)
  simp -dsimp -implicitDefEqProofs [-getElem?_pos, go_sem, hP, cA, d1, d2]
  refine callB_pure (valid_pf a.Credit) hP en_115 (args_same (by simp -dsimp -implicitDefEqProofs [-getElem?_pos, go_sem])) .sc ?_
  by_cases c3 : vB a.Credit = true
  rotate_left
  · have : checkA a = 62 := by rw [checkA, if_neg (by omega), if_pos (by simp [c3])]
    simp -dsimp -implicitDefEqProofs [-getElem?_pos, go_sem, hP, c3, this]
  simp -dsimp -implicitDefEqProofs [-getElem?_pos, go_sem, hP, c3]
  refine callB_is ((numbers_pf a.Subs hl).lift _ _) hP en_117 (by simp [imm_subs]) (imm_nums _) ?_
  simp -dsimp -implicitDefEqProofs [-getElem?_pos, go_sem, hP, c3]
  refine callB_pure (numbered_pf (ids a.Subs) (by rw [ids_len]; omega)) hP en_116 (args_imm (imm_nums _) (args_nil.2 trivial)) .sc ?_
  by_cases c4 : numB (ids a.Subs) = true
  rotate_left
  · have : checkA a = 62 := by rw [checkA, if_neg (by omega), if_pos (by simp [c4])]
    simp -dsimp -implicitDefEqProofs [-getElem?_pos, go_sem, hP, c3, c4, this]
  obtain ⟨hnd, hz0, hhd⟩ := numB_facts c4
  have hcr : 0 ≤ a.Credit ∧ a.Credit ≤ 1000000000000 := by simpa [vB, amongB] using c3
  have hchk := check_prog (a := a) (by omega) (by simp [c3, c4])
  have hne : a.Subs ≠ [] := fun h => by rw [h] at hhd; simp [ids] at hhd
  have rp := fun (H : Heap) => replay_m (row := none) (src := none) a H 119 [] (fun _ => true) hl he hne hcr hnd hz0 en_119 (fun e _ H' _ => all_m e H')
  rw [cA] at rp
  simp -dsimp -implicitDefEqProofs [-getElem?_pos, go_sem, hP, c3, c4]
  refine callB_m (by rw [hr, hs]; exact rp _) hP en_118 ?_
  rintro r H1 ⟨p, q, rfl, hp, hq, ht, hk⟩
  have ob := hk 0 ⟨90, 3, [[iv a.Credit, subsL a.Subs, entsL a.Entries]]⟩ (by simp) (by simp)
  have lb := (List.getElem?_eq_some_iff.1 ob).1
  cases hR : replayW a fun _ => true with
  | none =>
    rw [hR] at hchk
    have hchk : checkA a = 62 := hchk
    simp -dsimp -implicitDefEqProofs [-getElem?_pos, go_sem, hP, hchk]
    refine adrawB (fun _ => true) [] hP (by kernel_rfl) (by kernel_rfl) ?_
    simp -dsimp -implicitDefEqProofs [-getElem?_pos, go_sem, hP]
    exact hchk.symm
  | some x =>
    rw [hR] at hchk
    have hchk : checkA a = if x.2.2 = a.Subs then 0 else 62 := hchk
    have t := ht x hR
    have t1 := t.obj
    have t2 := t.ltp
    have t3 := t.subs
    have il : x.2.2.length = a.Subs.length := by
      have := (replayS_keeps a.Credit _ 0 0 (zeroS a.Subs) x (zeroS_all hcr.1 _) hR).2.1
      rw [← ids_len x.2.2, this, ids_len, zeroS_len]
    simp -dsimp -implicitDefEqProofs [-getElem?_pos, go_sem, hP]
    refine adrawB (fun _ => true) [] hP (by kernel_rfl) (by kernel_rfl) ?_
    simp -dsimp -implicitDefEqProofs [-getElem?_pos, go_sem, hP, t1, t2, ob, lb]
    refine callB_pure (listEq_pf_subs x.2.2 a.Subs (by omega) hl) hP en_120 (args_sref t3 (by rw [encL_len]) (imm_subs _) (args_imm (imm_subs _) (args_nil.2 trivial))) .sc ?_
    by_cases c5 : x.2.2 = a.Subs
    · rw [if_pos c5] at hchk
      have d5 : decide (x.2.2 = a.Subs) = true := decide_eq_true c5
      simp -dsimp -implicitDefEqProofs [-getElem?_pos, go_sem, hP, d5, hchk]
    · rw [if_neg c5] at hchk
      simp -dsimp -implicitDefEqProofs [-getElem?_pos, go_sem, hP, c5, hchk]

end Go.Proofs.Ytellcfkpfccgaaa
