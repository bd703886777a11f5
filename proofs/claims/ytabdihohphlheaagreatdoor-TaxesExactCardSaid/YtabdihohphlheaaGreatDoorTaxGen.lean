/- The source of numbers: codes and taxes. -/
import Derived.Test.YtabdihohphlheaaGreatDoorTax2
set_option linter.unusedSimpArgs false
set_option linter.unusedVariables false
namespace Go.Proofs.YtabdihohphlheaaGreatDoor
open Go.PA
open Go.RowKit

abbrev strsL (l : List ByteArray) : AV := .list 1 (l.map fun b => [.sc (.string b)])
def codes : List ByteArray := [⟨#[49]⟩, ⟨#[49, 46, 49]⟩, ⟨#[49, 46, 50]⟩, ⟨#[49, 46, 50, 46, 51]⟩, ⟨#[50]⟩, ⟨#[50, 46, 49, 48]⟩, ⟨#[50, 46, 57]⟩]
def StrQ (l : List ByteArray) (x : AV) : Prop := ∃ b, x = .sc (.string b) ∧ b ∈ l
theorem text_pf (p : Nat) (src : Option Nat) (l : List ByteArray) (h : 1 ≤ l.length ∧ l.length ≤ 1000) :
    PFun Tryz.prog (some p) src 10 [sp p, strsL l] (StrQ l) := by
  refine pfun_intro Tryz.func10 rfl (by simp [Tryz.f10]) (by kernel_rfl) ?_
  intro E hP hr hs hW hN
  simp -dsimp -implicitDefEqProofs [-getElem?_pos, go_sem, hP]
  refine callB_flat (hr ▸ hs ▸ N_pf p src l.length (by omega)) hP en_9 (by simp -dsimp -implicitDefEqProofs [-getElem?_pos, go_sem]) (NQ_ex _) (NQ_flat _) ?_
  rintro r ⟨m, rfl, _, a⟩
  obtain ⟨b1, b2⟩ := a (by omega)
  obtain ⟨k, rfl⟩ : ∃ k : Nat, m = k := ⟨m.toNat, by omega⟩
  obtain ⟨b, hb⟩ : ∃ b, l[k]? = some b := ⟨_, List.getElem?_eq_getElem (by omega)⟩
  simp -dsimp -implicitDefEqProofs [-getElem?_pos, go_sem, hP, hb]
  exact ⟨b, rfl, List.mem_of_getElem? hb⟩
theorem strQ_ex {l : List ByteArray} (h : l ≠ []) : ∃ r, StrQ l r ∧ Imm r := by
  cases l with
  | nil => exact absurd rfl h
  | cons b l => exact ⟨_, ⟨b, rfl, by simp⟩, .sc⟩
theorem code_pf (p : Nat) (src : Option Nat) : PFun Tryz.prog (some p) src 28 [sp p] (StrQ codes) := by
  refine pfun_intro Tryz.func28 rfl (by simp [Tryz.f28]) (by kernel_rfl) ?_
  intro E hP hr hs hW hN
  simp -dsimp -implicitDefEqProofs [-getElem?_pos, go_sem, hP]
  refine callB_isQ (Q := StrQ codes) (hr ▸ hs ▸ text_pf p src codes (by simp [codes])) hP en_10 (by simp -dsimp -implicitDefEqProofs [-getElem?_pos, go_sem]) (strQ_ex (by simp [codes])) ?_
  rintro r ⟨b, rfl, hb⟩ _
  simp -dsimp -implicitDefEqProofs [-getElem?_pos, go_sem, hP]
  exact ⟨b, rfl, hb⟩

/-- A tax as the source makes it. -/
def GenTax (t : TTax) : Prop := t.Code ∈ codes ∧ (1 ≤ t.Payer ∧ t.Payer ≤ 3) ∧ t.Base ∈ [0, 100, 999, 100000] ∧ (0 ≤ t.Num ∧ t.Num < 20) ∧ t.Den ∈ [20, 100, 360] ∧ (0 ≤ t.First ∧ t.First < 800) ∧ t.Every ∈ [1, 1, 3, 12] ∧ (1 ≤ t.Times ∧ t.Times ≤ 6)
def TaxQ (x : AV) : Prop := ∃ t : TTax, x = .agg t.cells ∧ GenTax t
theorem taxQ_ex : ∃ r, TaxQ r ∧ Imm r := ⟨_, ⟨⟨⟨#[49]⟩, 1, 0, 0, 20, 0, 1, 1⟩, rfl, by simp [GenTax, codes]⟩, imm_tax _⟩
theorem pickQ_ex {l : List Int} (h : l ≠ []) : ∃ r, (∃ m : Int, r = iv m ∧ m ∈ l) ∧ Imm r := by
  cases l with
  | nil => exact absurd rfl h
  | cons b l => exact ⟨_, ⟨b, rfl, by simp⟩, .sc⟩
theorem rangeQ_ex (lo hi : Int) (h : lo ≤ hi) : ∃ r, (∃ m : Int, r = iv m ∧ (lo ≤ hi → lo ≤ m ∧ m ≤ hi) ∧ (hi < lo → m = lo)) ∧ Imm r := ⟨_, ⟨lo, rfl, fun h => ⟨Int.le_refl _, h⟩, fun _ => rfl⟩, .sc⟩
theorem stax_pf (p : Nat) (src : Option Nat) : PFun Tryz.prog (some p) src 8 [sp p] TaxQ := by
  refine pfun_intro Tryz.func8 rfl (by simp [Tryz.f8]) (by kernel_rfl) ?_
  intro E hP hr hs hW hN
  have pk : ∀ l : List Int, 1 ≤ l.length ∧ l.length ≤ 1000 → PFun Tryz.prog E.row E.src 12 [sp p, intsL l] (fun x => ∃ m : Int, x = iv m ∧ m ∈ l) := fun l h => hr ▸ hs ▸ pick_pf p src l h
  have rg : ∀ lo hi : Int, 0 ≤ lo ∧ lo ≤ 100 → 0 ≤ hi ∧ hi ≤ 100 → PFun Tryz.prog E.row E.src 32 [sp p, iv lo, iv hi] _ := fun lo hi h1 h2 => hr ▸ hs ▸ range_pf p src lo hi (by omega) (by omega)
  have nn : ∀ n : Int, 0 ≤ n ∧ n ≤ 1000 → PFun Tryz.prog E.row E.src 9 [sp p, iv n] (NQ n) := fun n h => hr ▸ hs ▸ N_pf p src n (by omega)
  simp -dsimp -implicitDefEqProofs [-getElem?_pos, go_sem, hP]
  refine callB_isQ (hr ▸ hs ▸ code_pf p src) hP en_28 (by simp -dsimp -implicitDefEqProofs [-getElem?_pos, go_sem]) (strQ_ex (by simp [codes])) ?_
  rintro r ⟨b, rfl, hb⟩ _
  simp -dsimp -implicitDefEqProofs [-getElem?_pos, go_sem, hP]
  refine callB_isQ (rg 1 3 (by omega) (by omega)) hP en_32 (by simp -dsimp -implicitDefEqProofs [-getElem?_pos, go_sem]) (rangeQ_ex _ _ (by omega)) ?_
  rintro r ⟨m1, rfl, a1, _⟩ _
  have a1 := a1 (by omega)
  simp -dsimp -implicitDefEqProofs [-getElem?_pos, go_sem, hP]
  refine callB_isQ (pk [0, 100, 999, 100000] (by simp)) hP en_12 (by simp -dsimp -implicitDefEqProofs [-getElem?_pos, go_sem]) (pickQ_ex (by simp)) ?_
  rintro r ⟨m2, rfl, a2⟩ _
  simp -dsimp -implicitDefEqProofs [-getElem?_pos, go_sem, hP]
  refine callB_isQ (nn 20 (by omega)) hP en_9 (by simp -dsimp -implicitDefEqProofs [-getElem?_pos, go_sem]) ⟨_, ⟨0, rfl, by omega, by omega⟩, .sc⟩ ?_
  rintro r ⟨m3, rfl, _, a3⟩ _
  have a3 := a3 (by omega)
  simp -dsimp -implicitDefEqProofs [-getElem?_pos, go_sem, hP]
  refine callB_isQ (pk [20, 100, 360] (by simp)) hP en_12 (by simp -dsimp -implicitDefEqProofs [-getElem?_pos, go_sem]) (pickQ_ex (by simp)) ?_
  rintro r ⟨m4, rfl, a4⟩ _
  simp -dsimp -implicitDefEqProofs [-getElem?_pos, go_sem, hP]
  refine callB_isQ (nn 800 (by omega)) hP en_9 (by simp -dsimp -implicitDefEqProofs [-getElem?_pos, go_sem]) ⟨_, ⟨0, rfl, by omega, by omega⟩, .sc⟩ ?_
  rintro r ⟨m5, rfl, _, a5⟩ _
  have a5 := a5 (by omega)
  simp -dsimp -implicitDefEqProofs [-getElem?_pos, go_sem, hP]
  refine callB_isQ (pk [1, 1, 3, 12] (by simp)) hP en_12 (by simp -dsimp -implicitDefEqProofs [-getElem?_pos, go_sem]) (pickQ_ex (by simp)) ?_
  rintro r ⟨m6, rfl, a6⟩ _
  simp -dsimp -implicitDefEqProofs [-getElem?_pos, go_sem, hP]
  refine callB_isQ (rg 1 6 (by omega) (by omega)) hP en_32 (by simp -dsimp -implicitDefEqProofs [-getElem?_pos, go_sem]) (rangeQ_ex _ _ (by omega)) ?_
  rintro r ⟨m7, rfl, a7, _⟩ _
  have a7 := a7 (by omega)
  simp -dsimp -implicitDefEqProofs [-getElem?_pos, go_sem, hP]
  exact done_imm (imm_tax ⟨b, m1, m2, m3, m4, m5, m6, m7⟩) ⟨⟨b, m1, m2, m3, m4, m5, m6, m7⟩, rfl, hb, a1, a2, a3, a4, a5, a6, a7⟩

theorem GenTax.ok {t : TTax} (h : GenTax t) : taxB t = true ∧ t.Code.size ≤ 30 := by
  obtain ⟨h1, h2, h3, h4, h5, h6, h7, h8⟩ := h
  have hc : codeB t.Code = true ∧ t.Code.size ≤ 30 := by
    have key : (codes.all fun c => codeB c && decide (c.size ≤ 30)) = true := by kernel_rfl
    have := List.all_eq_true.1 key _ h1
    simpa using this
  simp only [List.mem_cons, List.not_mem_nil, or_false] at h3 h5 h7
  exact ⟨taxB_iff.2 ⟨hc.1, by omega, by omega, by omega, by omega, by omega, by omega, by omega⟩, hc.2⟩
end Go.Proofs.YtabdihohphlheaaGreatDoor
