/- TaxesExact. -/
import Derived.Test.YtabdihohphlheaaGreatDoorRef28e
import Derived.Test.YtabdihohphlheaaGreatDoorTax5
import Derived.Test.YtabdihohphlheaaGreatDoorTaxGen2
set_option linter.unusedSimpArgs false
set_option linter.unusedVariables false
namespace Go.Proofs.YtabdihohphlheaaGreatDoor
open Go.PA
open Go.RowKit

/-! ### A list of the walk's own within a value is frozen -/
theorem weaker_frzV {E : Env} {s : St} (hW : ∀ b, ¬ E.W b) (j : Nat) {id : Nat} {o : AObj} {r : AV} (hview : view s.H (s.t j) = r) (hsr : ∀ x, x ∈ srefs (s.t j) → x = id) (ho : s.H[id]? = some (some o)) (hi : Imm r) :
    Weaker E s ⟨upd s.t j r, s.H.set id none⟩ := by
  rintro a w ⟨ρ, ok, g, hx, hd, hs, hr⟩
  obtain ⟨g', x'⟩ := g.kill id (fun b => ok b ∨ ∃ o c, s.H[id]? = some (some o) ∧ ρ id = some (b, c)) (fun _ h => .inl h) (fun b hb => hb.imp (fun h => h) fun ⟨o, c, h1, h2⟩ => ⟨o, c, h1, h2, hW b⟩)
  refine ⟨ρ, _, g', hx.trans x', hd, hs, fun i => ?_⟩
  simp only [upd]
  split
  · rename_i hij
    subst hij
    have hv := hr i
    have := view_soundX (fun x => x = id) g hv (by rw [hview]; exact hi) hsr
    rw [hview] at this
    refine this.imm (fun b hb => ?_) hi
    rcases hb with hb | ⟨x, o', c, rfl, h1, h2⟩
    · exact .inl hb
    · exact .inr ⟨o', c, h1, h2⟩
  · exact (hr i).ext x'

theorem aloop_frzV {E : Env} {c : Code} {s : St} {Q : Exit → St → Prop} {b : Bx (c, Q)} (hW : ∀ b, ¬ E.W b) (j : Nat) {id : Nat} {o : AObj} {r : AV} (hview : view s.H (s.t j) = r) (hsr : ∀ x, x ∈ srefs (s.t j) → x = id) (ho : s.H[id]? = some (some o)) (hi : Imm r)
    (hl : ALoop E c ⟨upd s.t j r, s.H.set id none⟩ Q .mk) : ALoop E c s Q b := AWp.weaken (weaker_frzV hW j hview hsr ho hi) hl

def shortB (l : List TTax) : Bool := (l.all fun t => decide (t.Code.size ≤ 30)) && decide (l.length ≤ 25)
theorem short_pf (l : List TTax) (hl : l.length ≤ 9223372036854775807) : PFun Tryz.prog none none 4 [taxesL l] (· = bv (shortB l)) := by
  refine pfun_intro Tryz.func4 rfl (by simp [Tryz.f4]) (by kernel_rfl) ?_
  intro E hP hr hs hW hN
  simp -dsimp -implicitDefEqProofs [-getElem?_pos, go_sem, hP]
  obtain ⟨I, hI⟩ : ∃ I : Nat → St → Prop, I = fun m s => ∃ k : Nat, k ≤ l.length ∧ m = l.length - k ∧ s.t 0 = taxesL l ∧ s.t 5 = taxesL l ∧ s.t 6 = iv l.length ∧ s.t 7 = iv k ∧ ∀ t, t ∈ l.take k → t.Code.size ≤ 30 := ⟨_, rfl⟩
  refine aloop0 I (l.length) (by rw [hN]; rfl) ?_ ?_
  · rw [hI]
    exact ⟨0, by omega, by omega, by simp -dsimp -implicitDefEqProofs [-getElem?_pos, go_sem], by simp -dsimp -implicitDefEqProofs [-getElem?_pos, go_sem], by simp -dsimp -implicitDefEqProofs [-getElem?_pos, go_sem], by simp -dsimp -implicitDefEqProofs [-getElem?_pos, go_sem], by simp⟩
  intro m s hs'
  rw [hI] at hs'
  obtain ⟨k, hk, hm, t0, t5, t6, t7, hall⟩ := hs'
  subst hm
  simp -dsimp -implicitDefEqProofs [-getElem?_pos, go_sem, hP, t6, t7]
  refine condP (fun h => ?_) (fun h => ?_)
  · have hk : k < l.length := by simpa using h
    obtain ⟨t, ht⟩ : ∃ t, l[k]? = some t := ⟨_, List.getElem?_eq_getElem hk⟩
    have wk := wrap_in ((k : Int) + 1) (by omega)
    by_cases c : 30 < t.Code.size
    · have d : decide ((30 : Int) < (t.Code.size : Int)) = true := decide_eq_true (by omega)
      have e : shortB l = false := by
        have : (l.all fun t => decide (t.Code.size ≤ 30)) = false := by
          rw [List.all_eq_false]
          exact ⟨t, List.mem_of_getElem? ht, by simpa using c⟩
        rw [shortB, this, Bool.false_and]
      simp -dsimp -implicitDefEqProofs [-getElem?_pos, go_sem, hP, t5, t7, ht, cTx, d, e]
    · have d : decide ((30 : Int) < (t.Code.size : Int)) = false := decide_eq_false (by omega)
      simp -dsimp -implicitDefEqProofs [-getElem?_pos, go_sem, hP, t5, t7, ht, cTx, d, wk]
      refine ⟨l.length - (k + 1), by omega, ?_⟩
      rw [hI]
      refine ⟨k + 1, by omega, rfl, by simp -dsimp -implicitDefEqProofs [-getElem?_pos, go_sem, t0], by simp -dsimp -implicitDefEqProofs [-getElem?_pos, go_sem, t5], by simp -dsimp -implicitDefEqProofs [-getElem?_pos, go_sem, t6], by simp -dsimp -implicitDefEqProofs [-getElem?_pos, go_sem], fun u hu => ?_⟩
      rw [takeAt ht] at hu
      rcases List.mem_append.1 hu with hu | hu
      · exact hall u hu
      · rw [List.mem_singleton.1 hu]; omega
  · have hk : k = l.length := by
      have : ¬ k < l.length := by simpa using h
      omega
    subst hk
    rw [List.take_length] at hall
    have e : shortB l = decide (l.length ≤ 25) := by
      have : (l.all fun t => decide (t.Code.size ≤ 30)) = true := List.all_eq_true.2 fun t ht => decide_eq_true (hall t ht)
      rw [shortB, this, Bool.true_and]
    simp -dsimp -implicitDefEqProofs [-getElem?_pos, go_sem, hP, t0, e]
    constructor <;> intro h <;> omega

theorem sodd_pf (p : Nat) (src : Option Nat) : PFun Tryz.prog (some p) src 11 [sp p] (fun x => ∃ m : Int, x = iv m) := by
  refine pfun_intro Tryz.func11 rfl (by simp [Tryz.f11]) (by kernel_rfl) ?_
  intro E hP hr hs hW hN
  simp -dsimp -implicitDefEqProofs [-getElem?_pos, go_sem, hP]
  refine callB_isQ (hr ▸ hs ▸ pick_pf p src [-1, 0, 1, 2, 9223372036854775807, -9223372036854775808, 1000000000000, 1000000000001, 1000000000000000, 1000000000000001, 36000, 36001, 35991, 1000000, 1000001, 1000, 1001, 360] (by simp)) hP en_12 (by simp -dsimp -implicitDefEqProofs [-getElem?_pos, go_sem]) (pickQ_ex (by simp)) ?_
  rintro r ⟨m, rfl, _⟩ _
  simp -dsimp -implicitDefEqProofs [-getElem?_pos, go_sem, hP]
theorem anyI_ex : ∃ r, (fun x => ∃ m : Int, x = iv m) r ∧ Imm r := ⟨iv 0, ⟨0, rfl⟩, .sc⟩
theorem three {k : Nat} (h : k < 3) : k = 0 ∨ k = 1 ∨ k = 2 := by omega

set_option maxHeartbeats 8000000 in
set_option maxRecDepth 8000 in
theorem exact28_pf (xs : List Int) (raw : List TTax) (code : ByteArray) (fr to first year : Int) (hx : Small xs) (hl : xs.length ≤ 9223372036854775807) (hrl : raw.length ≤ 9223372036854775807) :
    PFun Tryz.prog none none 3 [intsL xs, taxesL raw, .sc (.string code), iv fr, iv to, iv first, iv year] (· = bv true) := by
  refine pfun_introA Tryz.func3 rfl (by simp [Tryz.f3]) ?_
  intro E hP hr hs hW hN
  have ir := imm_taxes raw
  have saneB : ∀ {H : Heap} {C : AV → Heap → Prop} {b : Bx C}, C (bv true) H → CallB E 5 [] H C b := fun h => callB_pure sane28_pf hP en_5 (args_nil.2 trivial) .sc h
  refine awp_cut (by rw [hN]; kernel_rfl) ?_
  simp -dsimp -implicitDefEqProofs [-getElem?_pos, go_sem, hP]
  refine awp_cut (by rw [hN]; kernel_rfl) ?_
  simp -dsimp -implicitDefEqProofs [-getElem?_pos, go_sem, hP]
  refine callB_is ((short_pf raw hrl).lift _ _) hP en_4 (by simpa using ir) .sc ?_
  cases hs1 : shortB raw
  · simp -dsimp -implicitDefEqProofs [-getElem?_pos, go_sem, hP]
    refine saneB ?_
    simp -dsimp -implicitDefEqProofs [-getElem?_pos, go_sem, hP]
  by_cases c2 : 30 < code.size
  · have d2 : decide ((30 : Int) < (code.size : Int)) = true := decide_eq_true (by omega)
    simp -dsimp -implicitDefEqProofs [-getElem?_pos, go_sem, hP, d2]
    refine saneB ?_
    simp -dsimp -implicitDefEqProofs [-getElem?_pos, go_sem, hP]
  have d2 : decide ((30 : Int) < (code.size : Int)) = false := decide_eq_false (by omega)
  have hraw : raw.length ≤ 25 ∧ FitT raw := by
    rw [shortB, Bool.and_eq_true, decide_eq_true_eq] at hs1
    refine ⟨hs1.2, fun t ht => ?_⟩
    have := List.all_eq_true.1 hs1.1 t ht
    simp only [decide_eq_true_eq] at this
    omega
  simp -dsimp -implicitDefEqProofs [-getElem?_pos, go_sem, hP, d2]
  refine awp_cut (by rw [hN]; kernel_rfl) ?_
  simp -dsimp -implicitDefEqProofs [-getElem?_pos, go_sem, hP]
  have hnew : POwn Tryz.prog E.row E.src 6 [intsL xs] 61 2 (· = [[intsL (xs.take 900), iv 0]]) := by rw [hr, hs]; exact new_pf xs hl
  refine callB_own hnew hP en_6 (args_same (by simp [go_sem, intsL])) (by simp [srefs_imm, go_sem, intsL]) ⟨_, rfl⟩ ?_
  rintro es rfl
  simp -dsimp -implicitDefEqProofs [-getElem?_pos, go_sem, hP]
  refine awp_adoptW 15 0 (ty := 61) (xs := xs.take 900) (at_ := 0) hr hs (by simp -dsimp -implicitDefEqProofs [-getElem?_pos, go_sem]) (by simp -dsimp -implicitDefEqProofs [-getElem?_pos, go_sem, intsL]) (by omega) (by simp; omega) (fun x hx' => hx x (List.mem_of_mem_take hx')) ?_
  intro E' p hP' hr' hN' hWx
  have hW' : ∀ b, ¬ E'.W b := fun b hb => by
    obtain ⟨id, o, ho⟩ := hWx b hb
    rcases id with _ | id <;> simp at ho
  rw [hP] at hP'
  rw [hN] at hN'
  clear hnew hP hr hs hW hN saneB hWx E
  rename Env => E
  rename E.P = _ => hP
  rename E.row = _ => hr
  rename E.N = _ => hN
  rename (∀ b, ¬ E.W b) => hW
  obtain ⟨src, hs⟩ : ∃ src, E.src = src := ⟨_, rfl⟩
  have up : ∀ {f : FuncId} {args : List AV} {Q : AV → Prop}, PFun Tryz.prog (some p) src f args Q → PFun Tryz.prog E.row E.src f args Q := fun h => hr ▸ hs ▸ h
  have saneB : ∀ {H : Heap} {C : AV → Heap → Prop} {b : Bx C}, C (bv true) H → CallB E 5 [] H C b := fun h => callB_pure sane28_pf hP en_5 (args_nil.2 trivial) .sc h
  refine awp_cut (by rw [hN]; kernel_rfl) ?_
  simp -dsimp -implicitDefEqProofs [-getElem?_pos, go_sem, hP]
  refine callB_isQ (up (staxes_pf p src 6 (by omega))) hP en_7 (by simp [go_sem]) (taxesQ_ex 6) ?_
  rintro r ⟨own, rfl, ho6, hg⟩ _
  simp -dsimp -implicitDefEqProofs [-getElem?_pos, go_sem, hP]
  refine awp_cut (by rw [hN]; kernel_rfl) ?_
  simp -dsimp -implicitDefEqProofs [-getElem?_pos, go_sem, hP]
  refine callB_isQ (up (stax_pf p src)) hP en_8 (by simp [go_sem]) taxQ_ex ?_
  rintro r ⟨od, rfl, hgo⟩ _
  simp -dsimp -implicitDefEqProofs [-getElem?_pos, go_sem, hP, cTx]
  have odc : od.Code.size ≤ 1000 := by have := hgo.ok.2; omega
  obtain ⟨Inv1, hInv1⟩ : ∃ Inv1 : St → Prop, Inv1 = fun s => ∃ (o : TTax), o.Code.size ≤ 1000 ∧ s.t 1 = taxesL raw ∧ s.t 2 = .sc (.string code) ∧ s.t 3 = iv fr ∧ s.t 4 = iv to ∧ s.t 5 = iv first ∧ s.t 6 = iv year ∧ s.t 15 = sp p ∧ s.t 16 = taxesL own ∧ s.t 17 = .ref 1 0 0 ∧ s.H = [none, some ⟨30, 8, [o.cells]⟩] := ⟨_, rfl⟩
  refine awp_join Inv1 (by rw [hN]; kernel_rfl) ?_ ?_
  · simp -dsimp -implicitDefEqProofs [-getElem?_pos, go_sem, hP]
    refine callB_flat (up (N_pf p src 6 (by omega))) hP en_9 (args_same (by simp -dsimp -implicitDefEqProofs [-getElem?_pos, go_sem])) (NQ_ex _) (NQ_flat _) ?_
    rintro r ⟨z, rfl, _, hz⟩
    have hz := hz (by omega)
    have six : z = 0 ∨ z = 1 ∨ z = 2 ∨ z = 3 ∨ z = 4 ∨ z = 5 := by omega
    rcases six with rfl | rfl | rfl | rfl | rfl | rfl
    · simp -dsimp -implicitDefEqProofs [-getElem?_pos, go_sem, hP]
      refine callB_isQ (up (text_pf p src [⟨#[]⟩, ⟨#[49, 46]⟩, ⟨#[48, 49]⟩, ⟨#[49, 46, 50, 46, 51, 46, 52, 46, 53]⟩] (by simp))) hP en_10 (by simp -dsimp -implicitDefEqProofs [-getElem?_pos, go_sem]) (strQ_ex (by simp)) ?_
      rintro r ⟨b, rfl, hb⟩ _
      have hb : b.size ≤ 1000 := by
        simp only [List.mem_cons, List.not_mem_nil, or_false] at hb
        rcases hb with rfl | rfl | rfl | rfl <;> decide
      simp -dsimp -implicitDefEqProofs [-getElem?_pos, go_sem, hP]
      refine ⟨_, Weaker.refl _, ?_⟩
      rw [hInv1]
      exact ⟨⟨b, od.Payer, od.Base, od.Num, od.Den, od.First, od.Every, od.Times⟩, hb, by simp -dsimp -implicitDefEqProofs [-getElem?_pos, go_sem], by simp -dsimp -implicitDefEqProofs [-getElem?_pos, go_sem], by simp -dsimp -implicitDefEqProofs [-getElem?_pos, go_sem], by simp -dsimp -implicitDefEqProofs [-getElem?_pos, go_sem], by simp -dsimp -implicitDefEqProofs [-getElem?_pos, go_sem], by simp -dsimp -implicitDefEqProofs [-getElem?_pos, go_sem], by simp -dsimp -implicitDefEqProofs [-getElem?_pos, go_sem], by simp -dsimp -implicitDefEqProofs [-getElem?_pos, go_sem], by simp -dsimp -implicitDefEqProofs [-getElem?_pos, go_sem], by simp [cTx]⟩
    · simp -dsimp -implicitDefEqProofs [-getElem?_pos, go_sem, hP]
      refine callB_isQ (up (sodd_pf p src)) hP en_11 (by simp -dsimp -implicitDefEqProofs [-getElem?_pos, go_sem]) anyI_ex ?_
      rintro r ⟨v, rfl⟩ _
      simp -dsimp -implicitDefEqProofs [-getElem?_pos, go_sem, hP]
      refine ⟨_, Weaker.refl _, ?_⟩
      rw [hInv1]
      exact ⟨⟨od.Code, od.Payer, od.Base, od.Num, v, od.First, od.Every, od.Times⟩, odc, by simp -dsimp -implicitDefEqProofs [-getElem?_pos, go_sem], by simp -dsimp -implicitDefEqProofs [-getElem?_pos, go_sem], by simp -dsimp -implicitDefEqProofs [-getElem?_pos, go_sem], by simp -dsimp -implicitDefEqProofs [-getElem?_pos, go_sem], by simp -dsimp -implicitDefEqProofs [-getElem?_pos, go_sem], by simp -dsimp -implicitDefEqProofs [-getElem?_pos, go_sem], by simp -dsimp -implicitDefEqProofs [-getElem?_pos, go_sem], by simp -dsimp -implicitDefEqProofs [-getElem?_pos, go_sem], by simp -dsimp -implicitDefEqProofs [-getElem?_pos, go_sem], by simp [cTx]⟩
    · simp -dsimp -implicitDefEqProofs [-getElem?_pos, go_sem, hP]
      refine callB_isQ (up (pick_pf p src [0, 60, 61] (by simp))) hP en_12 (by simp -dsimp -implicitDefEqProofs [-getElem?_pos, go_sem]) (pickQ_ex (by simp)) ?_
      rintro r ⟨v, rfl, _⟩ _
      simp -dsimp -implicitDefEqProofs [-getElem?_pos, go_sem, hP]
      refine ⟨_, Weaker.refl _, ?_⟩
      rw [hInv1]
      exact ⟨⟨od.Code, od.Payer, od.Base, od.Num, od.Den, od.First, v, od.Times⟩, odc, by simp -dsimp -implicitDefEqProofs [-getElem?_pos, go_sem], by simp -dsimp -implicitDefEqProofs [-getElem?_pos, go_sem], by simp -dsimp -implicitDefEqProofs [-getElem?_pos, go_sem], by simp -dsimp -implicitDefEqProofs [-getElem?_pos, go_sem], by simp -dsimp -implicitDefEqProofs [-getElem?_pos, go_sem], by simp -dsimp -implicitDefEqProofs [-getElem?_pos, go_sem], by simp -dsimp -implicitDefEqProofs [-getElem?_pos, go_sem], by simp -dsimp -implicitDefEqProofs [-getElem?_pos, go_sem], by simp -dsimp -implicitDefEqProofs [-getElem?_pos, go_sem], by simp [cTx]⟩
    · simp -dsimp -implicitDefEqProofs [-getElem?_pos, go_sem, hP]
      refine callB_isQ (up (pick_pf p src [0, 60, 61] (by simp))) hP en_12 (by simp -dsimp -implicitDefEqProofs [-getElem?_pos, go_sem]) (pickQ_ex (by simp)) ?_
      rintro r ⟨v, rfl, _⟩ _
      simp -dsimp -implicitDefEqProofs [-getElem?_pos, go_sem, hP]
      refine ⟨_, Weaker.refl _, ?_⟩
      rw [hInv1]
      exact ⟨⟨od.Code, od.Payer, od.Base, od.Num, od.Den, od.First, od.Every, v⟩, odc, by simp -dsimp -implicitDefEqProofs [-getElem?_pos, go_sem], by simp -dsimp -implicitDefEqProofs [-getElem?_pos, go_sem], by simp -dsimp -implicitDefEqProofs [-getElem?_pos, go_sem], by simp -dsimp -implicitDefEqProofs [-getElem?_pos, go_sem], by simp -dsimp -implicitDefEqProofs [-getElem?_pos, go_sem], by simp -dsimp -implicitDefEqProofs [-getElem?_pos, go_sem], by simp -dsimp -implicitDefEqProofs [-getElem?_pos, go_sem], by simp -dsimp -implicitDefEqProofs [-getElem?_pos, go_sem], by simp -dsimp -implicitDefEqProofs [-getElem?_pos, go_sem], by simp [cTx]⟩
    · simp -dsimp -implicitDefEqProofs [-getElem?_pos, go_sem, hP]
      refine callB_isQ (up (sodd_pf p src)) hP en_11 (by simp -dsimp -implicitDefEqProofs [-getElem?_pos, go_sem]) anyI_ex ?_
      rintro r ⟨v, rfl⟩ _
      simp -dsimp -implicitDefEqProofs [-getElem?_pos, go_sem, hP]
      refine ⟨_, Weaker.refl _, ?_⟩
      rw [hInv1]
      exact ⟨⟨od.Code, od.Payer, od.Base, od.Num, od.Den, v, od.Every, od.Times⟩, odc, by simp -dsimp -implicitDefEqProofs [-getElem?_pos, go_sem], by simp -dsimp -implicitDefEqProofs [-getElem?_pos, go_sem], by simp -dsimp -implicitDefEqProofs [-getElem?_pos, go_sem], by simp -dsimp -implicitDefEqProofs [-getElem?_pos, go_sem], by simp -dsimp -implicitDefEqProofs [-getElem?_pos, go_sem], by simp -dsimp -implicitDefEqProofs [-getElem?_pos, go_sem], by simp -dsimp -implicitDefEqProofs [-getElem?_pos, go_sem], by simp -dsimp -implicitDefEqProofs [-getElem?_pos, go_sem], by simp -dsimp -implicitDefEqProofs [-getElem?_pos, go_sem], by simp [cTx]⟩
    · simp -dsimp -implicitDefEqProofs [-getElem?_pos, go_sem, hP]
      refine callB_isQ (up (sodd_pf p src)) hP en_11 (by simp -dsimp -implicitDefEqProofs [-getElem?_pos, go_sem]) anyI_ex ?_
      rintro r ⟨v, rfl⟩ _
      simp -dsimp -implicitDefEqProofs [-getElem?_pos, go_sem, hP]
      refine ⟨_, Weaker.refl _, ?_⟩
      rw [hInv1]
      exact ⟨⟨od.Code, od.Payer, v, od.Num, od.Den, od.First, od.Every, od.Times⟩, odc, by simp -dsimp -implicitDefEqProofs [-getElem?_pos, go_sem], by simp -dsimp -implicitDefEqProofs [-getElem?_pos, go_sem], by simp -dsimp -implicitDefEqProofs [-getElem?_pos, go_sem], by simp -dsimp -implicitDefEqProofs [-getElem?_pos, go_sem], by simp -dsimp -implicitDefEqProofs [-getElem?_pos, go_sem], by simp -dsimp -implicitDefEqProofs [-getElem?_pos, go_sem], by simp -dsimp -implicitDefEqProofs [-getElem?_pos, go_sem], by simp -dsimp -implicitDefEqProofs [-getElem?_pos, go_sem], by simp -dsimp -implicitDefEqProofs [-getElem?_pos, go_sem], by simp [cTx]⟩
  rw [hInv1]
  rintro s ⟨o, hoc, t1, t2, t3, t4, t5, t6, t15, t16, t17, hH⟩
  clear hInv1 Inv1
  refine awp_sound _ _ _ (by rw [hN]; kernel_rfl) ?_
  simp -dsimp -implicitDefEqProofs [-getElem?_pos, go_sem, hP, t1, t16, t17, hH]
  have io := imm_tax o
  have a2 : ∀ (a b : Option AObj) (l l' : Heap), Agree (fun i => decide (i < 2)) (a :: b :: l) (a :: b :: l') := fun a b l l' i hi => by
    have hi : i < 2 := by simpa using hi
    rcases (by omega : i = 0 ∨ i = 1) with rfl | rfl <;> rfl
  refine adrawB (fun i => decide (i < 2)) [6] hP (by kernel_rfl) (by kernel_rfl) ?_
  simp -dsimp -implicitDefEqProofs [-getElem?_pos, go_sem, hP, restr_get, t1, t16, t17, hH, cTx]
  refine ⟨by omega, by omega, a2 _ _ _ _, by omega, by omega, ?_⟩
  obtain ⟨L3, hL3⟩ : ∃ L3, L3 = own ++ [o] := ⟨_, rfl⟩
  have eo : encL TTax.cells own ++ [[.sc (.string o.Code), iv o.Payer, iv o.Base, iv o.Num, iv o.Den, iv o.First, iv o.Every, iv o.Times]] = encL TTax.cells L3 := by rw [hL3, ← encL_snoc]; rfl
  have l3 : own.length + 1 = L3.length := by rw [hL3]; simp
  have f3 : FitT L3 := fun t ht => by
    rw [hL3] at ht
    rcases List.mem_append.1 ht with ht | ht
    · exact genFit hg t ht
    · rw [List.mem_singleton.1 ht]; omega
  have iw := imm_taxes own
  have i3 := imm_taxes L3
  have hsr3 : srefs (.agg [taxesL own, taxesL raw, .sref 3 0 L3.length]) = [3] := by
    have e1 := srefs1_imm iw
    have e2 := srefs1_imm ir
    simp only [srefs, srefs2, List.flatMap_cons, List.flatMap_nil, e1, e2]
    rfl
  rw [eo, l3]
  refine aloop_frzV hW 95 (id := 3) (o := ⟨30, 8, encL TTax.cells L3⟩) (r := .agg [taxesL own, taxesL raw, taxesL L3]) ?_ ?_ rfl (.agg fun a ha => ?_) ?_
  · simp -dsimp -implicitDefEqProofs [-getElem?_pos, go_sem, hP]
  · simp -dsimp -implicitDefEqProofs [-getElem?_pos, go_sem, hP]
  · simp only [List.mem_cons, List.not_mem_nil, or_false] at ha
    rcases ha with rfl | rfl | rfl
    · exact iw
    · exact ir
    · exact i3
  have yA : ∀ k : Nat, k < 3 → ∃ L : List TTax, L.length ≤ 1000 ∧ FitT L ∧ aixV Tryz.prog 36 (.agg [taxesL own, taxesL raw, taxesL L3]) (iv k) = some (taxesL L) := fun k hk => by
    rcases three hk with rfl | rfl | rfl
    · exact ⟨own, by omega, genFit hg, by kernel_rfl⟩
    · exact ⟨raw, by omega, hraw.2, by kernel_rfl⟩
    · exact ⟨L3, by omega, f3, by kernel_rfl⟩
  obtain ⟨XA, hXA⟩ : ∃ XA : AV, XA = .agg [taxesL own, taxesL raw, taxesL L3] := ⟨_, rfl⟩
  rw [← hXA] at yA
  obtain ⟨I, hI⟩ : ∃ I : Nat → St → Prop, I = fun m s => ∃ k : Nat, k ≤ 3 ∧ m = 3 - k ∧ s.t 2 = .sc (.string code) ∧ s.t 3 = iv fr ∧ s.t 4 = iv to ∧ s.t 5 = iv first ∧ s.t 6 = iv year ∧ s.t 15 = sp p ∧ s.t 95 = XA ∧ s.t 96 = iv k := ⟨_, rfl⟩
  refine aloop0 I (3) (by rw [hN]; rfl) ?_ ?_
  · rw [hI]
    exact ⟨0, by omega, by omega, by simp -dsimp -implicitDefEqProofs [-getElem?_pos, go_sem, t2], by simp -dsimp -implicitDefEqProofs [-getElem?_pos, go_sem, t3], by simp -dsimp -implicitDefEqProofs [-getElem?_pos, go_sem, t4], by simp -dsimp -implicitDefEqProofs [-getElem?_pos, go_sem, t5], by simp -dsimp -implicitDefEqProofs [-getElem?_pos, go_sem, t6], by simp -dsimp -implicitDefEqProofs [-getElem?_pos, go_sem, t15], by simp -dsimp -implicitDefEqProofs [-getElem?_pos, go_sem, hXA], by simp -dsimp -implicitDefEqProofs [-getElem?_pos, go_sem]⟩
  clear t1 t2 t3 t4 t5 t6 t15 t16 t17 hH hsr3
  intro m s hs'
  rw [hI] at hs'
  obtain ⟨k, hk, hm, t2, t3, t4, t5, t6, t15, t95, t96⟩ := hs'
  subst hm
  simp -dsimp -implicitDefEqProofs [-getElem?_pos, go_sem, hP, t96]
  refine condP (fun h => ?_) (fun h => ?_)
  rotate_left
  · simp -dsimp -implicitDefEqProofs [-getElem?_pos, go_sem, hP]
    refine saneB ?_
    simp -dsimp -implicitDefEqProofs [-getElem?_pos, go_sem, hP]
  have hk : k < 3 := by
    have : (k : Int) < 3 := by simpa using h
    omega
  obtain ⟨L, lL, fL, hix⟩ := yA k hk
  have wk := wrap_in ((k : Int) + 1) (by omega)
  have iL := imm_taxes L
  simp -dsimp -implicitDefEqProofs [-getElem?_pos, go_sem, hP, t95, t96, hix]
  refine callB_is ((tcheck_pf L fL (by omega)).lift _ _) hP en_13 (by simpa using iL) .sc ?_
  simp -dsimp -implicitDefEqProofs [-getElem?_pos, go_sem, hP]
  refine callB_is ((rcheck_pf L (by omega)).lift _ _) hP en_14 (by simpa using iL) .sc ?_
  simp -dsimp -implicitDefEqProofs [-getElem?_pos, go_sem, hP]
  obtain ⟨J, hJ⟩ : ∃ I : Nat → St → Prop, I = fun m s => ∃ j : Nat, j ≤ L.length ∧ m = L.length - j ∧ s.t 2 = .sc (.string code) ∧ s.t 3 = iv fr ∧ s.t 4 = iv to ∧ s.t 5 = iv first ∧ s.t 6 = iv year ∧ s.t 15 = sp p ∧ s.t 19 = taxesL L ∧ s.t 95 = XA ∧ s.t 96 = iv k ∧ s.t 104 = taxesL L ∧ s.t 105 = iv L.length ∧ s.t 106 = iv j := ⟨_, rfl⟩
  refine aloop0 J (L.length) (by rw [hN]; rfl) ?_ ?_
  · rw [hJ]
    exact ⟨0, by omega, by omega, by simp -dsimp -implicitDefEqProofs [-getElem?_pos, go_sem, t2], by simp -dsimp -implicitDefEqProofs [-getElem?_pos, go_sem, t3], by simp -dsimp -implicitDefEqProofs [-getElem?_pos, go_sem, t4], by simp -dsimp -implicitDefEqProofs [-getElem?_pos, go_sem, t5], by simp -dsimp -implicitDefEqProofs [-getElem?_pos, go_sem, t6], by simp -dsimp -implicitDefEqProofs [-getElem?_pos, go_sem, t15], by simp -dsimp -implicitDefEqProofs [-getElem?_pos, go_sem], by simp -dsimp -implicitDefEqProofs [-getElem?_pos, go_sem, t95], by simp -dsimp -implicitDefEqProofs [-getElem?_pos, go_sem, t96], by simp -dsimp -implicitDefEqProofs [-getElem?_pos, go_sem], by simp -dsimp -implicitDefEqProofs [-getElem?_pos, go_sem], by simp -dsimp -implicitDefEqProofs [-getElem?_pos, go_sem]⟩
  clear t2 t3 t4 t5 t6 t15 t95 t96
  intro m s hs'
  rw [hJ] at hs'
  obtain ⟨j, hj, hm, t2, t3, t4, t5, t6, t15, t19, t95, t96, t104, t105, t106⟩ := hs'
  subst hm
  simp -dsimp -implicitDefEqProofs [-getElem?_pos, go_sem, hP, t105, t106]
  refine condP (fun h => ?_) (fun h => ?_)
  · have hj : j < L.length := by simpa using h
    obtain ⟨t, ht⟩ : ∃ t, L[j]? = some t := ⟨_, List.getElem?_eq_getElem hj⟩
    have htl := List.mem_of_getElem? ht
    have wj := wrap_in ((j : Int) + 1) (by omega)
    have tx := tax_pf t (fL t htl)
    have rx := rtax_pf t
    have ta := tamount_pf t (fL t htl)
    have ra := ramount_pf t
    have td := tdays_pf t (fL t htl)
    have rd := rdays_pf t
    have itx := imm_tax t
    have dl := daysD_len t
    obtain ⟨B, hB⟩ : ∃ B, B = taxB t := ⟨_, rfl⟩
    obtain ⟨A, hA⟩ : ∃ A, A = amountD t := ⟨_, rfl⟩
    obtain ⟨ds, hds⟩ : ∃ ds, ds = daysD t := ⟨_, rfl⟩
    rw [← hB] at tx rx
    rw [← hA] at ta ra
    rw [← hds] at td rd dl
    rw [cTx] at tx rx ta ra td rd itx
    have iq := ints28_pf ds ds (by omega) (by omega)
    rw [decide_eq_true rfl] at iq
    have ids := imm_ints ds
    simp -dsimp -implicitDefEqProofs [-getElem?_pos, go_sem, hP, t104, t106, ht, cTx]
    refine adrawB (fun _ => true) [] hP (by kernel_rfl) (by kernel_rfl) ?_
    simp -dsimp -implicitDefEqProofs [-getElem?_pos, go_sem, hP]
    refine callB_is (tx.lift _ _) hP en_15 (by simpa using itx) .sc ?_
    simp -dsimp -implicitDefEqProofs [-getElem?_pos, go_sem, hP]
    refine callB_is (rx.lift _ _) hP en_16 (by simpa using itx) .sc ?_
    simp -dsimp -implicitDefEqProofs [-getElem?_pos, go_sem, hP]
    refine callB_is (ta.lift _ _) hP en_17 (by simpa using itx) .sc ?_
    simp -dsimp -implicitDefEqProofs [-getElem?_pos, go_sem, hP]
    refine callB_is (ra.lift _ _) hP en_18 (by simpa using itx) .sc ?_
    simp -dsimp -implicitDefEqProofs [-getElem?_pos, go_sem, hP]
    refine callB_is (td.lift _ _) hP en_20 (by simpa using itx) ids ?_
    simp -dsimp -implicitDefEqProofs [-getElem?_pos, go_sem, hP]
    refine callB_is (rd.lift _ _) hP en_21 (by simpa using itx) ids ?_
    simp -dsimp -implicitDefEqProofs [-getElem?_pos, go_sem, hP]
    refine callB_is (iq.lift _ _) hP en_19 (by simp only [List.mem_cons, List.not_mem_nil, or_false]; rintro z (rfl | rfl) <;> exact ids) .sc ?_
    simp -dsimp -implicitDefEqProofs [-getElem?_pos, go_sem, hP, t106, wj]
    refine ⟨L.length - (j + 1), by omega, ?_⟩
    rw [hJ]
    exact ⟨j + 1, by omega, rfl, by simp -dsimp -implicitDefEqProofs [-getElem?_pos, go_sem, t2], by simp -dsimp -implicitDefEqProofs [-getElem?_pos, go_sem, t3], by simp -dsimp -implicitDefEqProofs [-getElem?_pos, go_sem, t4], by simp -dsimp -implicitDefEqProofs [-getElem?_pos, go_sem, t5], by simp -dsimp -implicitDefEqProofs [-getElem?_pos, go_sem, t6], by simp -dsimp -implicitDefEqProofs [-getElem?_pos, go_sem, t15], by simp -dsimp -implicitDefEqProofs [-getElem?_pos, go_sem, t19], by simp -dsimp -implicitDefEqProofs [-getElem?_pos, go_sem, t95], by simp -dsimp -implicitDefEqProofs [-getElem?_pos, go_sem, t96], by simp -dsimp -implicitDefEqProofs [-getElem?_pos, go_sem, t104], by simp -dsimp -implicitDefEqProofs [-getElem?_pos, go_sem, t105], by simp -dsimp -implicitDefEqProofs [-getElem?_pos, go_sem]⟩
  have hj : j = L.length := by
    have : ¬ j < L.length := by simpa using h
    omega
  subst hj
  simp -dsimp -implicitDefEqProofs [-getElem?_pos, go_sem, hP, t15, t3, t4]
  refine callB_flat (up (N_pf p src 400 (by omega))) hP en_9 (args_same (by simp -dsimp -implicitDefEqProofs [-getElem?_pos, go_sem])) (NQ_ex _) (NQ_flat _) ?_
  rintro r ⟨n1, rfl, _⟩
  simp -dsimp -implicitDefEqProofs [-getElem?_pos, go_sem, hP, t15]
  refine callB_flat (up (N_pf p src 2000 (by omega))) hP en_9 (args_same (by simp -dsimp -implicitDefEqProofs [-getElem?_pos, go_sem])) (NQ_ex _) (NQ_flat _) ?_
  rintro r ⟨n2, rfl, _⟩
  simp -dsimp -implicitDefEqProofs [-getElem?_pos, go_sem, hP]
  have yB : ∀ q : Nat, q < 3 → ∃ x y : Int, aixV Tryz.prog 44 (.agg [iv fr, iv to, iv n1, iv n2, iv 0, iv 36000]) (iv q) = some (.agg [iv x, iv y]) := fun q hq => by
    rcases three hq with rfl | rfl | rfl
    · exact ⟨fr, to, by kernel_rfl⟩
    · exact ⟨n1, n2, by kernel_rfl⟩
    · exact ⟨0, 36000, by kernel_rfl⟩
  obtain ⟨XB, hXB⟩ : ∃ XB : AV, XB = .agg [iv fr, iv to, iv n1, iv n2, iv 0, iv 36000] := ⟨_, rfl⟩
  rw [← hXB] at yB
  obtain ⟨K, hK⟩ : ∃ I : Nat → St → Prop, I = fun m s => ∃ q : Nat, q ≤ 3 ∧ m = 3 - q ∧ s.t 2 = .sc (.string code) ∧ s.t 3 = iv fr ∧ s.t 4 = iv to ∧ s.t 5 = iv first ∧ s.t 6 = iv year ∧ s.t 15 = sp p ∧ s.t 19 = taxesL L ∧ s.t 95 = XA ∧ s.t 96 = iv k ∧ s.t 140 = XB ∧ s.t 141 = iv q := ⟨_, rfl⟩
  refine aloop0 K (3) (by rw [hN]; rfl) ?_ ?_
  · rw [hK]
    exact ⟨0, by omega, by omega, by simp -dsimp -implicitDefEqProofs [-getElem?_pos, go_sem, t2], by simp -dsimp -implicitDefEqProofs [-getElem?_pos, go_sem, t3], by simp -dsimp -implicitDefEqProofs [-getElem?_pos, go_sem, t4], by simp -dsimp -implicitDefEqProofs [-getElem?_pos, go_sem, t5], by simp -dsimp -implicitDefEqProofs [-getElem?_pos, go_sem, t6], by simp -dsimp -implicitDefEqProofs [-getElem?_pos, go_sem, t15], by simp -dsimp -implicitDefEqProofs [-getElem?_pos, go_sem, t19], by simp -dsimp -implicitDefEqProofs [-getElem?_pos, go_sem, t95], by simp -dsimp -implicitDefEqProofs [-getElem?_pos, go_sem, t96], by simp -dsimp -implicitDefEqProofs [-getElem?_pos, go_sem, hXB], by simp -dsimp -implicitDefEqProofs [-getElem?_pos, go_sem]⟩
  clear t2 t3 t4 t5 t6 t15 t19 t95 t96 t104 t105 t106
  intro m s hs'
  rw [hK] at hs'
  obtain ⟨q, hq, hm, t2, t3, t4, t5, t6, t15, t19, t95, t96, t140, t141⟩ := hs'
  subst hm
  simp -dsimp -implicitDefEqProofs [-getElem?_pos, go_sem, hP, t141]
  refine condP (fun h => ?_) (fun h => ?_)
  · have hq : q < 3 := by
      have : (q : Int) < 3 := by simpa using h
      omega
    obtain ⟨x, y, hxy⟩ := yB q hq
    have wq := wrap_in ((q : Int) + 1) (by omega)
    have e1 := texpected_pf L fL (by omega) x y
    have e2 := rexpected_pf L (by omega) x y
    have c1 := tclaims_pf L fL (by omega) x y first
    have c2 := rclaims_pf L (by omega) x y first
    have c3 := tclaims_pf L fL (by omega) x y 5
    have c4 := rclaims_pf L (by omega) x y 5
    have le1 : (expectedD L x y).1.length ≤ 400 := by
      unfold expectedD
      split
      · split
        · assumption
        · simp
      · simp
    have lc : ∀ f, (claimsD L x y f).1.length ≤ 60 := fun f => by
      unfold claimsD
      split
      · split
        · split
          · simpa
          · simp
        · simp
      · simp
    obtain ⟨F, hF⟩ : ∃ F, F = (expectedD L x y).1 := ⟨_, rfl⟩
    obtain ⟨e, he⟩ : ∃ e, e = (expectedD L x y).2 := ⟨_, rfl⟩
    obtain ⟨C, hC⟩ : ∃ C, C = (claimsD L x y first).1 := ⟨_, rfl⟩
    obtain ⟨g, hg'⟩ : ∃ g, g = (claimsD L x y first).2 := ⟨_, rfl⟩
    obtain ⟨C5, hC5⟩ : ∃ C5, C5 = (claimsD L x y 5).1 := ⟨_, rfl⟩
    obtain ⟨g5, hg5⟩ : ∃ g5, g5 = (claimsD L x y 5).2 := ⟨_, rfl⟩
    have lC := lc first
    have lC5 := lc 5
    rw [← hF, ← he] at e1 e2
    rw [← hF] at le1
    rw [← hC, ← hg'] at c1 c2
    rw [← hC5, ← hg5] at c3 c4
    rw [← hC] at lC
    rw [← hC5] at lC5
    clear hF he hC hg' hC5 hg5 lc
    have fe := listEq_pf_flows28 F F (by omega) (by omega)
    have ce := listEq_pf_claims27 C C (by omega) (by omega)
    have ce5 := listEq_pf_claims27 C5 C5 (by omega) (by omega)
    rw [decide_eq_true rfl] at fe ce ce5
    have iF := imm_flows F
    have iC := imm_claims C
    have iC5 := imm_claims C5
    simp -dsimp -implicitDefEqProofs [-getElem?_pos, go_sem, hP, t140, t141, hxy, t19, t5]
    refine callB_is (e1.lift _ _) hP en_22 (by simpa [imm_sc] using iL) (imm_pair iF .sc) ?_
    simp -dsimp -implicitDefEqProofs [-getElem?_pos, go_sem, hP, t19, t5]
    refine callB_is (e2.lift _ _) hP en_23 (by simpa [imm_sc] using iL) (imm_pair iF .sc) ?_
    simp -dsimp -implicitDefEqProofs [-getElem?_pos, go_sem, hP, t19, t5]
    refine callB_is (c1.lift _ _) hP en_24 (by simpa [imm_sc] using iL) (imm_pair iC .sc) ?_
    simp -dsimp -implicitDefEqProofs [-getElem?_pos, go_sem, hP, t19, t5]
    refine callB_is (c2.lift _ _) hP en_25 (by simpa [imm_sc] using iL) (imm_pair iC .sc) ?_
    simp -dsimp -implicitDefEqProofs [-getElem?_pos, go_sem, hP]
    refine callB_is (fe.lift _ _) hP en_26 (by simp only [List.mem_cons, List.not_mem_nil, or_false]; rintro z (rfl | rfl) <;> exact iF) .sc ?_
    simp -dsimp -implicitDefEqProofs [-getElem?_pos, go_sem, hP]
    refine callB_is (ce.lift _ _) hP en_27 (by simp only [List.mem_cons, List.not_mem_nil, or_false]; rintro z (rfl | rfl) <;> exact iC) .sc ?_
    simp -dsimp -implicitDefEqProofs [-getElem?_pos, go_sem, hP, t19]
    refine callB_is (c3.lift _ _) hP en_24 (by simpa [imm_sc] using iL) (imm_pair iC5 .sc) ?_
    simp -dsimp -implicitDefEqProofs [-getElem?_pos, go_sem, hP, t19]
    refine callB_is (c4.lift _ _) hP en_25 (by simpa [imm_sc] using iL) (imm_pair iC5 .sc) ?_
    simp -dsimp -implicitDefEqProofs [-getElem?_pos, go_sem, hP]
    refine callB_is (ce5.lift _ _) hP en_27 (by simp only [List.mem_cons, List.not_mem_nil, or_false]; rintro z (rfl | rfl) <;> exact iC5) .sc ?_
    simp -dsimp -implicitDefEqProofs [-getElem?_pos, go_sem, hP, t141, wq]
    refine ⟨3 - (q + 1), by omega, ?_⟩
    rw [hK]
    exact ⟨q + 1, by omega, rfl, by simp -dsimp -implicitDefEqProofs [-getElem?_pos, go_sem, t2], by simp -dsimp -implicitDefEqProofs [-getElem?_pos, go_sem, t3], by simp -dsimp -implicitDefEqProofs [-getElem?_pos, go_sem, t4], by simp -dsimp -implicitDefEqProofs [-getElem?_pos, go_sem, t5], by simp -dsimp -implicitDefEqProofs [-getElem?_pos, go_sem, t6], by simp -dsimp -implicitDefEqProofs [-getElem?_pos, go_sem, t15], by simp -dsimp -implicitDefEqProofs [-getElem?_pos, go_sem, t19], by simp -dsimp -implicitDefEqProofs [-getElem?_pos, go_sem, t95], by simp -dsimp -implicitDefEqProofs [-getElem?_pos, go_sem, t96], by simp -dsimp -implicitDefEqProofs [-getElem?_pos, go_sem, t140], by simp -dsimp -implicitDefEqProofs [-getElem?_pos, go_sem]⟩
  simp -dsimp -implicitDefEqProofs [-getElem?_pos, go_sem, hP, t15, t2]
  refine callB_isQ (Q := StrQ codes) (up (code_pf p src)) hP en_28 (by simp -dsimp -implicitDefEqProofs [-getElem?_pos, go_sem]) (strQ_ex (by simp [codes])) ?_
  rintro r ⟨cd, rfl, hcd⟩ _
  have lcd : cd.size ≤ 1000000 := by
    have key : (codes.all fun c => decide (c.size ≤ 30)) = true := by kernel_rfl
    have := List.all_eq_true.1 key _ hcd
    simp only [decide_eq_true_eq] at this
    omega
  have yC : ∀ q : Nat, q < 3 → ∃ c : ByteArray, c.size ≤ 1000000 ∧ aixV Tryz.prog 54 (.agg [.sc (.string code), .sc (.string cd), .sc (.string ⟨#[51]⟩)]) (iv q) = some (.sc (.string c)) := fun q hq => by
    rcases three hq with rfl | rfl | rfl
    · exact ⟨code, by omega, by kernel_rfl⟩
    · exact ⟨cd, lcd, by kernel_rfl⟩
    · exact ⟨⟨#[51]⟩, by decide, by kernel_rfl⟩
  obtain ⟨XC, hXC⟩ : ∃ XC : AV, XC = .agg [.sc (.string code), .sc (.string cd), .sc (.string ⟨#[51]⟩)] := ⟨_, rfl⟩
  rw [← hXC] at yC
  simp -dsimp -implicitDefEqProofs [-getElem?_pos, go_sem, hP]
  obtain ⟨M, hM⟩ : ∃ I : Nat → St → Prop, I = fun m s => ∃ q : Nat, q ≤ 3 ∧ m = 3 - q ∧ s.t 2 = .sc (.string code) ∧ s.t 3 = iv fr ∧ s.t 4 = iv to ∧ s.t 5 = iv first ∧ s.t 6 = iv year ∧ s.t 15 = sp p ∧ s.t 19 = taxesL L ∧ s.t 95 = XA ∧ s.t 96 = iv k ∧ s.t 233 = XC ∧ s.t 234 = iv q := ⟨_, rfl⟩
  refine aloop0 M (3) (by rw [hN]; rfl) ?_ ?_
  · rw [hM]
    exact ⟨0, by omega, by omega, by simp -dsimp -implicitDefEqProofs [-getElem?_pos, go_sem, t2], by simp -dsimp -implicitDefEqProofs [-getElem?_pos, go_sem, t3], by simp -dsimp -implicitDefEqProofs [-getElem?_pos, go_sem, t4], by simp -dsimp -implicitDefEqProofs [-getElem?_pos, go_sem, t5], by simp -dsimp -implicitDefEqProofs [-getElem?_pos, go_sem, t6], by simp -dsimp -implicitDefEqProofs [-getElem?_pos, go_sem, t15], by simp -dsimp -implicitDefEqProofs [-getElem?_pos, go_sem, t19], by simp -dsimp -implicitDefEqProofs [-getElem?_pos, go_sem, t95], by simp -dsimp -implicitDefEqProofs [-getElem?_pos, go_sem, t96], by simp -dsimp -implicitDefEqProofs [-getElem?_pos, go_sem, hXC], by simp -dsimp -implicitDefEqProofs [-getElem?_pos, go_sem]⟩
  clear t2 t3 t4 t5 t6 t15 t19 t95 t96 t140 t141
  intro m s hs'
  rw [hM] at hs'
  obtain ⟨q, hq, hm, t2, t3, t4, t5, t6, t15, t19, t95, t96, t233, t234⟩ := hs'
  subst hm
  simp -dsimp -implicitDefEqProofs [-getElem?_pos, go_sem, hP, t234]
  refine condP (fun h => ?_) (fun h => ?_)
  rotate_left
  · simp -dsimp -implicitDefEqProofs [-getElem?_pos, go_sem, hP, t96, wk]
    refine ⟨3 - (k + 1), by omega, ?_⟩
    rw [hI]
    exact ⟨k + 1, by omega, rfl, by simp -dsimp -implicitDefEqProofs [-getElem?_pos, go_sem, t2], by simp -dsimp -implicitDefEqProofs [-getElem?_pos, go_sem, t3], by simp -dsimp -implicitDefEqProofs [-getElem?_pos, go_sem, t4], by simp -dsimp -implicitDefEqProofs [-getElem?_pos, go_sem, t5], by simp -dsimp -implicitDefEqProofs [-getElem?_pos, go_sem, t6], by simp -dsimp -implicitDefEqProofs [-getElem?_pos, go_sem, t15], by simp -dsimp -implicitDefEqProofs [-getElem?_pos, go_sem, t95], by simp -dsimp -implicitDefEqProofs [-getElem?_pos, go_sem]⟩
  have hq : q < 3 := by
    have : (q : Int) < 3 := by simpa using h
    omega
  obtain ⟨c, hc, hcx⟩ := yC q hq
  have wq := wrap_in ((q : Int) + 1) (by omega)
  simp -dsimp -implicitDefEqProofs [-getElem?_pos, go_sem, hP, t233, t234, hcx, t6, t15]
  refine callB_flat (up (N_pf p src 5 (by omega))) hP en_9 (args_same (by simp -dsimp -implicitDefEqProofs [-getElem?_pos, go_sem])) (NQ_ex _) (NQ_flat _) ?_
  rintro r ⟨n5, rfl, _⟩
  have yD : ∀ z : Nat, z < 2 → ∃ y : Int, aixV Tryz.prog 43 (.agg [iv year, iv n5]) (iv z) = some (iv y) := fun z hz => by
    rcases (by omega : z = 0 ∨ z = 1) with rfl | rfl
    · exact ⟨year, by kernel_rfl⟩
    · exact ⟨n5, by kernel_rfl⟩
  obtain ⟨XD, hXD⟩ : ∃ XD : AV, XD = .agg [iv year, iv n5] := ⟨_, rfl⟩
  rw [← hXD] at yD
  simp -dsimp -implicitDefEqProofs [-getElem?_pos, go_sem, hP]
  obtain ⟨N_, hN_⟩ : ∃ I : Nat → St → Prop, I = fun m s => ∃ z : Nat, z ≤ 2 ∧ m = 2 - z ∧ s.t 2 = .sc (.string code) ∧ s.t 3 = iv fr ∧ s.t 4 = iv to ∧ s.t 5 = iv first ∧ s.t 6 = iv year ∧ s.t 15 = sp p ∧ s.t 19 = taxesL L ∧ s.t 95 = XA ∧ s.t 96 = iv k ∧ s.t 33 = .sc (.string c) ∧ s.t 233 = XC ∧ s.t 234 = iv q ∧ s.t 240 = XD ∧ s.t 241 = iv z := ⟨_, rfl⟩
  refine aloop0 N_ (2) (by rw [hN]; rfl) ?_ ?_
  · rw [hN_]
    exact ⟨0, by omega, by omega, by simp -dsimp -implicitDefEqProofs [-getElem?_pos, go_sem, t2], by simp -dsimp -implicitDefEqProofs [-getElem?_pos, go_sem, t3], by simp -dsimp -implicitDefEqProofs [-getElem?_pos, go_sem, t4], by simp -dsimp -implicitDefEqProofs [-getElem?_pos, go_sem, t5], by simp -dsimp -implicitDefEqProofs [-getElem?_pos, go_sem, t6], by simp -dsimp -implicitDefEqProofs [-getElem?_pos, go_sem, t15], by simp -dsimp -implicitDefEqProofs [-getElem?_pos, go_sem, t19], by simp -dsimp -implicitDefEqProofs [-getElem?_pos, go_sem, t95], by simp -dsimp -implicitDefEqProofs [-getElem?_pos, go_sem, t96], by simp -dsimp -implicitDefEqProofs [-getElem?_pos, go_sem], by simp -dsimp -implicitDefEqProofs [-getElem?_pos, go_sem, t233], by simp -dsimp -implicitDefEqProofs [-getElem?_pos, go_sem, t234], by simp -dsimp -implicitDefEqProofs [-getElem?_pos, go_sem, hXD], by simp -dsimp -implicitDefEqProofs [-getElem?_pos, go_sem]⟩
  clear t2 t3 t4 t5 t6 t15 t19 t95 t96 t233 t234
  intro m s hs'
  rw [hN_] at hs'
  obtain ⟨z, hz, hm, t2, t3, t4, t5, t6, t15, t19, t95, t96, t33, t233, t234, t240, t241⟩ := hs'
  subst hm
  simp -dsimp -implicitDefEqProofs [-getElem?_pos, go_sem, hP, t241]
  refine condP (fun h => ?_) (fun h => ?_)
  rotate_left
  · simp -dsimp -implicitDefEqProofs [-getElem?_pos, go_sem, hP, t234, wq]
    refine ⟨3 - (q + 1), by omega, ?_⟩
    rw [hM]
    exact ⟨q + 1, by omega, rfl, by simp -dsimp -implicitDefEqProofs [-getElem?_pos, go_sem, t2], by simp -dsimp -implicitDefEqProofs [-getElem?_pos, go_sem, t3], by simp -dsimp -implicitDefEqProofs [-getElem?_pos, go_sem, t4], by simp -dsimp -implicitDefEqProofs [-getElem?_pos, go_sem, t5], by simp -dsimp -implicitDefEqProofs [-getElem?_pos, go_sem, t6], by simp -dsimp -implicitDefEqProofs [-getElem?_pos, go_sem, t15], by simp -dsimp -implicitDefEqProofs [-getElem?_pos, go_sem, t19], by simp -dsimp -implicitDefEqProofs [-getElem?_pos, go_sem, t95], by simp -dsimp -implicitDefEqProofs [-getElem?_pos, go_sem, t96], by simp -dsimp -implicitDefEqProofs [-getElem?_pos, go_sem, t233], by simp -dsimp -implicitDefEqProofs [-getElem?_pos, go_sem]⟩
  have hz : z < 2 := by
    have : (z : Int) < 2 := by simpa using h
    omega
  obtain ⟨y, hy⟩ := yD z hz
  have wz := wrap_in ((z : Int) + 1) (by omega)
  have y1 := tyear_pf L fL (by omega) c hc y
  have y2 := ryear_pf L (by omega) c y
  simp -dsimp -implicitDefEqProofs [-getElem?_pos, go_sem, hP, t240, t241, hy, t19, t33]
  refine callB_is (y1.lift _ _) hP en_29 (by simpa [imm_sc] using iL) (imm_pair .sc .sc) ?_
  simp -dsimp -implicitDefEqProofs [-getElem?_pos, go_sem, hP, t19, t33]
  refine callB_is (y2.lift _ _) hP en_30 (by simpa [imm_sc] using iL) (imm_pair .sc .sc) ?_
  simp -dsimp -implicitDefEqProofs [-getElem?_pos, go_sem, hP, t241, wz]
  refine ⟨2 - (z + 1), by omega, ?_⟩
  rw [hN_]
  exact ⟨z + 1, by omega, rfl, by simp -dsimp -implicitDefEqProofs [-getElem?_pos, go_sem, t2], by simp -dsimp -implicitDefEqProofs [-getElem?_pos, go_sem, t3], by simp -dsimp -implicitDefEqProofs [-getElem?_pos, go_sem, t4], by simp -dsimp -implicitDefEqProofs [-getElem?_pos, go_sem, t5], by simp -dsimp -implicitDefEqProofs [-getElem?_pos, go_sem, t6], by simp -dsimp -implicitDefEqProofs [-getElem?_pos, go_sem, t15], by simp -dsimp -implicitDefEqProofs [-getElem?_pos, go_sem, t19], by simp -dsimp -implicitDefEqProofs [-getElem?_pos, go_sem, t95], by simp -dsimp -implicitDefEqProofs [-getElem?_pos, go_sem, t96], by simp -dsimp -implicitDefEqProofs [-getElem?_pos, go_sem, t33], by simp -dsimp -implicitDefEqProofs [-getElem?_pos, go_sem, t233], by simp -dsimp -implicitDefEqProofs [-getElem?_pos, go_sem, t234], by simp -dsimp -implicitDefEqProofs [-getElem?_pos, go_sem, t240], by simp -dsimp -implicitDefEqProofs [-getElem?_pos, go_sem]⟩
end Go.Proofs.YtabdihohphlheaaGreatDoor
