/- Carrying over: open commitments and what is left, as the source makes them. -/
import Derived.Test.YtmkhcmiplleghaaGreatDoorCar1
import Derived.Test.YtmkhcmiplleghaaGreatDoorCode
import Derived.Test.YtmkhcmiplleghaaGreatDoorPlayAll
set_option linter.unusedSimpArgs false
set_option linter.unusedVariables false
namespace Go.Proofs.YtmkhcmiplleghaaGreatDoor
open Go.PA
open Go.RowKit

abbrev opensL (l : List TOpen) : AV := .list 5 (encL TOpen.cells l)
abbrev leftsL (l : List TLeft) : AV := .list 2 (encL TLeft.cells l)
abbrev carriesL (l : List TCarry) : AV := .list 5 (encL TCarry.cells l)
theorem cOpn (x : TOpen) : x.cells = [iv x.Office, iv x.Commitment, .sc (.string x.Code), iv x.Year, iv x.Amount] := rfl
theorem cLft (x : TLeft) : x.cells = [.sc (.string x.Code), iv x.Amount] := rfl
theorem cCry (x : TCarry) : x.cells = [iv x.Number, iv x.Day, .sc (.string x.Code), iv x.Year, iv x.Amount] := rfl
theorem imm_opens (l : List TOpen) : Imm (opensL l) := imm_encL _ TOpen.imm _
theorem imm_lefts (l : List TLeft) : Imm (leftsL l) := imm_encL _ TLeft.imm _
theorem imm_carries (l : List TCarry) : Imm (carriesL l) := imm_encL _ TCarry.imm _
abbrev strs4 (l : List ByteArray) : AV := .list 1 (l.map fun b => [.sc (.string b)])
def Str4 (l : List ByteArray) (x : AV) : Prop := ∃ b, x = .sc (.string b) ∧ b ∈ l
theorem text4_pf (p : Nat) (src : Option Nat) (l : List ByteArray) (h : 1 ≤ l.length ∧ l.length ≤ 1000) :
    PFun Tryz.prog (some p) src 12 [sp p, strs4 l] (Str4 l) := by
  refine pfun_intro Tryz.func12 rfl (by simp [Tryz.f12]) (by kernel_rfl) ?_
  intro E hP hr hs hW hN
  simp -dsimp -implicitDefEqProofs [-getElem?_pos, go_sem, hP]
  refine callB_flat (hr ▸ hs ▸ N_pf p src l.length (by omega)) hP en_10 (by simp -dsimp -implicitDefEqProofs [-getElem?_pos, go_sem]) (NQ_ex _) (NQ_flat _) ?_
  rintro r ⟨m, rfl, _, a⟩
  obtain ⟨b1, b2⟩ := a (by omega)
  obtain ⟨k, rfl⟩ : ∃ k : Nat, m = k := ⟨m.toNat, by omega⟩
  obtain ⟨b, hb⟩ : ∃ b, l[k]? = some b := ⟨_, List.getElem?_eq_getElem (by omega)⟩
  simp -dsimp -implicitDefEqProofs [-getElem?_pos, go_sem, hP, hb]
  exact ⟨b, rfl, List.mem_of_getElem? hb⟩
theorem str4_ex {l : List ByteArray} (h : l ≠ []) : ∃ r, Str4 l r ∧ Imm r := by
  cases l with
  | nil => exact absurd rfl h
  | cons b l => exact ⟨_, ⟨b, rfl, by simp⟩, .sc⟩
theorem pick4_ex {l : List Int} (h : l ≠ []) : ∃ r, (∃ m : Int, r = iv m ∧ m ∈ l) ∧ Imm r := by
  cases l with
  | nil => exact absurd rfl h
  | cons b l => exact ⟨_, ⟨b, rfl, by simp⟩, .sc⟩
theorem range4_ex (lo hi : Int) (h : lo ≤ hi) : ∃ r, (∃ m : Int, r = iv m ∧ (lo ≤ hi → lo ≤ m ∧ m ≤ hi) ∧ (hi < lo → m = lo)) ∧ Imm r := ⟨_, ⟨lo, rfl, fun h => ⟨Int.le_refl _, h⟩, fun _ => rfl⟩, .sc⟩

/-- Open commitments as the source makes them. -/
def GenOp (i : Nat) (y : TOpen) : Prop := (1 ≤ y.Office ∧ y.Office ≤ 3) ∧ y.Commitment = i + 1 ∧ y.Code ∈ codes4 ∧ y.Year = 3 ∧ y.Amount ∈ [1, 20, 70, 100]
def GenOps (l : List TOpen) : Prop := ∀ i y, l[i]? = some y → GenOp i y
def OpensQ (n : Nat) (x : AV) : Prop := ∃ l : List TOpen, x = opensL l ∧ l.length ≤ n ∧ GenOps l
theorem opensQ_ex (n : Nat) : ∃ r, OpensQ n r ∧ Imm r := ⟨_, ⟨[], rfl, by simp, fun i y h => by simp at h⟩, imm_opens []⟩
set_option maxHeartbeats 2000000 in
theorem sopens_pf (p : Nat) (src : Option Nat) (n : Nat) (hn : n ≤ 100) : PFun Tryz.prog (some p) src 5 [sp p, iv n] (OpensQ n) := by
  refine pfun_intro Tryz.func5 rfl (by simp [Tryz.f5]) (by kernel_rfl) ?_
  intro E hP hr hs hW hN
  have up : ∀ {f : FuncId} {args : List AV} {Q : AV → Prop}, PFun Tryz.prog (some p) src f args Q → PFun Tryz.prog E.row E.src f args Q := fun h => hr ▸ hs ▸ h
  have w1 := wrap_in ((n : Int) + 1) (by omega)
  simp -dsimp -implicitDefEqProofs [-getElem?_pos, go_sem, hP, w1]
  refine callB_flat (up (N_pf p src ((n : Int) + 1) (by omega))) hP en_10 (args_same (by simp -dsimp -implicitDefEqProofs [-getElem?_pos, go_sem])) (NQ_ex _) (NQ_flat _) ?_
  rintro r ⟨z, rfl, _, hz⟩
  have hz := hz (by omega)
  obtain ⟨c, rfl⟩ : ∃ c : Nat, z = c := ⟨z.toNat, by omega⟩
  simp -dsimp -implicitDefEqProofs [-getElem?_pos, go_sem, hP]
  refine aloop_own 5 42 5 (by simp -dsimp -implicitDefEqProofs [-getElem?_pos, go_sem]) ?_
  obtain ⟨I, hI⟩ : ∃ I : Nat → St → Prop, I = fun m s => ∃ (id : Nat) (l : List TOpen), m ≤ c ∧ l.length + m = c ∧ GenOps l ∧ s.t 0 = sp p ∧ s.t 5 = .sref id 0 l.length ∧ s.t 6 = iv m ∧ s.H[id]? = some (some ⟨42, 5, encL TOpen.cells l⟩) := ⟨_, rfl⟩
  refine aloop0 I (c) (by rw [hN]; rfl) ?_ ?_
  · rw [hI]
    exact ⟨0, [], by omega, by simp, fun i y h => by simp at h, by simp -dsimp -implicitDefEqProofs [-getElem?_pos, go_sem], by simp -dsimp -implicitDefEqProofs [-getElem?_pos, go_sem], by simp -dsimp -implicitDefEqProofs [-getElem?_pos, go_sem], by simp -dsimp -implicitDefEqProofs [-getElem?_pos, go_sem, encL]⟩
  intro m s hs'
  rw [hI] at hs'
  obtain ⟨id, l, hk, hl, hg, t0, t5, t6, hH⟩ := hs'
  have ltH := (List.getElem?_eq_some_iff.1 hH).1
  simp -dsimp -implicitDefEqProofs [-getElem?_pos, go_sem, hP, t6]
  refine condP (fun h => ?_) (fun h => ?_)
  · have hm : 0 < m := by simpa using h
    have wm := wrap_in ((m : Int) - 1) (by omega)
    have w4 := wrap_in ((l.length : Int) + 1) (by omega)
    simp -dsimp -implicitDefEqProofs [-getElem?_pos, go_sem, hP, t5, t0, hH]
    refine callB_isQ (up (range_pf p src 1 3 (by omega) (by omega))) hP en_11 (by simp -dsimp -implicitDefEqProofs [-getElem?_pos, go_sem]) (range4_ex _ _ (by omega)) ?_
    rintro r ⟨m2, rfl, a2, _⟩ _
    have a2 := a2 (by omega)
    simp -dsimp -implicitDefEqProofs [-getElem?_pos, go_sem, hP, t5, t0, hH, w4, encL_len]
    refine callB_isQ (Q := Str4 codes4) (up (text4_pf p src codes4 (by simp [codes4]))) hP en_12 (by simp -dsimp -implicitDefEqProofs [-getElem?_pos, go_sem]) (str4_ex (by simp [codes4])) ?_
    rintro r ⟨b, rfl, hb⟩ _
    simp -dsimp -implicitDefEqProofs [-getElem?_pos, go_sem, hP, t5, t0, hH]
    refine callB_isQ (up (pick_pf p src [1, 20, 70, 100] (by simp))) hP en_13 (by simp -dsimp -implicitDefEqProofs [-getElem?_pos, go_sem]) (pick4_ex (by simp)) ?_
    rintro r ⟨m1, rfl, a1⟩ _
    simp -dsimp -implicitDefEqProofs [-getElem?_pos, go_sem, hP, t5, t0, hH, ltH, encL_len, t6, wm]
    refine ⟨by omega, by omega, m - 1, by omega, ?_⟩
    rw [hI]
    refine ⟨s.H.length, l ++ [⟨m2, (l.length : Int) + 1, b, 3, m1⟩], by omega, by simp; omega, ?_, by simp -dsimp -implicitDefEqProofs [-getElem?_pos, go_sem, t0], by simp -dsimp -implicitDefEqProofs [-getElem?_pos, go_sem], ?_, by simp -dsimp -implicitDefEqProofs [-getElem?_pos, go_sem, encL, cOpn]⟩
    · intro i y hy
      by_cases e : i < l.length
      · rw [List.getElem?_append_left e] at hy
        exact hg i y hy
      · have lt := (List.getElem?_eq_some_iff.1 hy).1
        rw [List.length_append, List.length_singleton] at lt
        have ei : i = l.length := by omega
        subst ei
        rw [List.getElem?_append_right (Nat.le_refl _), Nat.sub_self] at hy
        cases hy
        exact ⟨a2, rfl, hb, rfl, a1⟩
    · simp -dsimp -implicitDefEqProofs [-getElem?_pos, go_sem, hP]
      omega
  · have hm : m = 0 := by
      have : ¬ 0 < m := by simpa using h
      omega
    simp -dsimp -implicitDefEqProofs [-getElem?_pos, go_sem, hP, t5]
    refine done (x := opensL l) ?_ ⟨l, rfl, by omega, hg⟩ ?_ <;> rw [view_sref, hH, viewS_some]
    · rw [List.drop_zero, List.take_of_length_le (by simp [encL])]
      exact imm_opens l
    · rw [List.drop_zero, List.take_of_length_le (by simp [encL])]

/-- What is left, as the source makes it. -/
structure GenLf (k : Nat) (l : List TLeft) : Prop where
  sub : (l.map (·.Code)).Sublist (codes4.take k)
  am : ∀ x, x ∈ l → x.Amount ∈ [0, 10, 90, 300]
def LeftsQ (x : AV) : Prop := ∃ l : List TLeft, x = leftsL l ∧ GenLf 4 l
theorem leftsQ_ex : ∃ r, LeftsQ r ∧ Imm r := ⟨_, ⟨[], rfl, ⟨by simp, by simp⟩⟩, imm_lefts []⟩
def arC : AV := .agg [.sc (.string ⟨#[49, 46, 49]⟩), .sc (.string ⟨#[49, 46, 50]⟩), .sc (.string ⟨#[50, 46, 57]⟩), .sc (.string ⟨#[50, 46, 49, 48]⟩)]
theorem arC_ix (k : Nat) (hk : k < 4) : ∃ b, codes4[k]? = some b ∧ aixV Tryz.prog 51 arC (iv (k : Int)) = some (.sc (.string b)) := by
  match k, hk with
  | 0, _ => exact ⟨_, rfl, by kernel_rfl⟩
  | 1, _ => exact ⟨_, rfl, by kernel_rfl⟩
  | 2, _ => exact ⟨_, rfl, by kernel_rfl⟩
  | 3, _ => exact ⟨_, rfl, by kernel_rfl⟩
set_option maxHeartbeats 2000000 in
theorem slefts_pf (p : Nat) (src : Option Nat) : PFun Tryz.prog (some p) src 6 [sp p] LeftsQ := by
  refine pfun_intro Tryz.func6 rfl (by simp [Tryz.f6]) (by kernel_rfl) ?_
  intro E hP hr hs hW hN
  have up : ∀ {f : FuncId} {args : List AV} {Q : AV → Prop}, PFun Tryz.prog (some p) src f args Q → PFun Tryz.prog E.row E.src f args Q := fun h => hr ▸ hs ▸ h
  simp -dsimp -implicitDefEqProofs [-getElem?_pos, go_sem, hP]
  refine aloop_own 3 38 2 (by simp -dsimp -implicitDefEqProofs [-getElem?_pos, go_sem]) ?_
  obtain ⟨I, hI⟩ : ∃ I : Nat → St → Prop, I = fun m s => ∃ (k id : Nat) (l : List TLeft), k ≤ 4 ∧ m = 4 - k ∧ GenLf k l ∧ s.t 0 = sp p ∧ s.t 3 = .sref id 0 l.length ∧ s.t 6 = arC ∧ s.t 7 = iv k ∧ s.H[id]? = some (some ⟨38, 2, encL TLeft.cells l⟩) := ⟨_, rfl⟩
  refine aloop0 I (4) (by rw [hN]; rfl) ?_ ?_
  · rw [hI]
    exact ⟨0, 0, [], by omega, by omega, ⟨by simp, by simp⟩, by simp -dsimp -implicitDefEqProofs [-getElem?_pos, go_sem], by simp -dsimp -implicitDefEqProofs [-getElem?_pos, go_sem], by simp -dsimp -implicitDefEqProofs [-getElem?_pos, go_sem, arC], by simp -dsimp -implicitDefEqProofs [-getElem?_pos, go_sem], by simp -dsimp -implicitDefEqProofs [-getElem?_pos, go_sem, encL]⟩
  intro m s hs'
  rw [hI] at hs'
  obtain ⟨k, id, l, hk, hm, hg, t0, t3, t6, t7, hH⟩ := hs'
  have ltH := (List.getElem?_eq_some_iff.1 hH).1
  simp -dsimp -implicitDefEqProofs [-getElem?_pos, go_sem, hP, t7]
  refine condP (fun h => ?_) (fun h => ?_)
  · have hk : k < 4 := by
      have : (k : Int) < 4 := by simpa using h
      omega
    have wk := wrap_in ((k : Int) + 1) (by omega)
    obtain ⟨b, hb, ix⟩ := arC_ix k hk
    have ll := hg.sub.length_le
    rw [List.length_map, List.length_take] at ll
    have tk : codes4.take (k + 1) = codes4.take k ++ [b] := by rw [List.take_add_one, hb]; rfl
    simp -dsimp -implicitDefEqProofs [-getElem?_pos, go_sem, hP, t6, t7, t0, ix]
    refine callB_flat (up (N_pf p src 4 (by omega))) hP en_10 (by simp -dsimp -implicitDefEqProofs [-getElem?_pos, go_sem]) (NQ_ex _) (NQ_flat _) ?_
    rintro r ⟨z, rfl, _, hz⟩
    simp -dsimp -implicitDefEqProofs [-getElem?_pos, go_sem, hP]
    refine condP (fun h2 => ?_) (fun h2 => ?_)
    · simp -dsimp -implicitDefEqProofs [-getElem?_pos, go_sem, hP, t3, t0, hH]
      refine callB_isQ (up (pick_pf p src [0, 10, 90, 300] (by simp))) hP en_13 (by simp -dsimp -implicitDefEqProofs [-getElem?_pos, go_sem]) (pick4_ex (by simp)) ?_
      rintro r ⟨m1, rfl, a1⟩ _
      simp -dsimp -implicitDefEqProofs [-getElem?_pos, go_sem, hP, t3, t0, hH, ltH, encL_len, t7, wk]
      refine ⟨by omega, by omega, 4 - (k + 1), by omega, ?_⟩
      rw [hI]
      refine ⟨k + 1, s.H.length, l ++ [⟨b, m1⟩], by omega, rfl, ⟨?_, fun x hx => ?_⟩, by simp -dsimp -implicitDefEqProofs [-getElem?_pos, go_sem, t0], by simp -dsimp -implicitDefEqProofs [-getElem?_pos, go_sem], by simp -dsimp -implicitDefEqProofs [-getElem?_pos, go_sem, t6], by simp -dsimp -implicitDefEqProofs [-getElem?_pos, go_sem], by simp -dsimp -implicitDefEqProofs [-getElem?_pos, go_sem, encL, cLft]⟩
      · rw [tk, List.map_append]
        exact hg.sub.append (List.Sublist.refl _)
      · rcases List.mem_append.1 hx with hx | hx
        · exact hg.am x hx
        · simp only [List.mem_singleton] at hx
          subst hx
          exact a1
    · simp -dsimp -implicitDefEqProofs [-getElem?_pos, go_sem, hP, t7, wk]
      refine ⟨4 - (k + 1), by omega, ?_⟩
      rw [hI]
      refine ⟨k + 1, id, l, by omega, rfl, ⟨?_, hg.am⟩, by simp -dsimp -implicitDefEqProofs [-getElem?_pos, go_sem, t0], by simp -dsimp -implicitDefEqProofs [-getElem?_pos, go_sem, t3], by simp -dsimp -implicitDefEqProofs [-getElem?_pos, go_sem, t6], by simp -dsimp -implicitDefEqProofs [-getElem?_pos, go_sem], by simp -dsimp -implicitDefEqProofs [-getElem?_pos, go_sem, hH]⟩
      rw [tk]
      exact hg.sub.trans (List.sublist_append_left _ _)
  · have hk4 : k = 4 := by
      have : ¬ (k : Int) < 4 := by simpa using h
      omega
    subst hk4
    simp -dsimp -implicitDefEqProofs [-getElem?_pos, go_sem, hP, t3]
    refine done (x := leftsL l) ?_ ⟨l, rfl, hg⟩ ?_ <;> rw [view_sref, hH, viewS_some]
    · rw [List.drop_zero, List.take_of_length_le (by simp [encL])]
      exact imm_lefts l
    · rw [List.drop_zero, List.take_of_length_le (by simp [encL])]
end Go.Proofs.YtmkhcmiplleghaaGreatDoor
