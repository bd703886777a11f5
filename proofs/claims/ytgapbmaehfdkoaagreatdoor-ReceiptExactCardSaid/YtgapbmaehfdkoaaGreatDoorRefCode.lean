/- Codes: what the reference reads is what the program reads. Plain. -/
import Derived.Test.YtgapbmaehfdkoaaGreatDoorParts
import Derived.Lib.IndexLaws
set_option linter.unusedSimpArgs false
set_option linter.unusedVariables false
namespace Go.Proofs.YtgapbmaehfdkoaaGreatDoor

def digR (c : UInt8) : Bool := decide (48 ≤ c.toNat) && decide (c.toNat ≤ 57)
def numR (x : List UInt8) : Int := x.foldl (fun n c => 10 * n + ((c.toNat : Int) - 48)) 0
def okR (x : List UInt8) : Option Int := if (x.length = 1 ∨ x.length = 2) ∧ x.all digR = true ∧ ¬ x.head? = some 48 then some (numR x) else none

theorem dec1 : ((List.range 10).all fun a => decide (a = 0) || decide (partOf [UInt8.ofNat (48 + a)] = some (a : Int))) = true := by kernel_rfl
theorem dec2 : ((List.range 10).all fun a => (List.range 10).all fun b => decide (a = 0) || decide (partOf [UInt8.ofNat (48 + a), UInt8.ofNat (48 + b)] = some ((10 * a + b : Nat) : Int))) = true := by kernel_rfl
theorem dec3 : ((List.range 100).all fun n => decide (n = 0) || decide (okR (Lib.decDigits n) = some (n : Int))) = true := by kernel_rfl
theorem dig_of {c : UInt8} (h : digR c = true) : ∃ k : Nat, k < 10 ∧ c = UInt8.ofNat (48 + k) ∧ c.toNat = 48 + k := by
  simp only [digR, Bool.and_eq_true, decide_eq_true_eq] at h
  refine ⟨c.toNat - 48, by omega, ?_, by omega⟩
  rw [show 48 + (c.toNat - 48) = c.toNat by omega, UInt8.ofNat_toNat]
theorem ne48 {c : UInt8} {k : Nat} (h : c.toNat = 48 + k) (h2 : ¬ c = 48) : ¬ k = 0 := by
  intro e
  apply h2
  rw [e] at h
  exact UInt8.toNat_inj.1 h
theorem partOf_okR (x : List UInt8) : partOf x = okR x := by
  apply Option.ext
  intro n
  constructor
  · intro h
    unfold partOf at h
    split at h
    · rename_i m hm
      split at h
      · rename_i hc
        obtain ⟨h1, h2, h3⟩ := hc
        cases h
        have := List.all_eq_true.1 dec3 n.toNat (List.mem_range.2 (by omega))
        rw [h3, decide_eq_false (by omega : ¬ n.toNat = 0), Bool.false_or, decide_eq_true_eq] at this
        rw [this]
        congr 1
        omega
      · cases h
    · cases h
  · intro h
    unfold okR at h
    split at h
    · rename_i hc
      obtain ⟨hl, ha, hh⟩ := hc
      cases h
      rcases hl with hl | hl
      · obtain ⟨a, rfl⟩ := List.length_eq_one_iff.1 hl
        simp only [List.all_cons, List.all_nil, Bool.and_true] at ha
        obtain ⟨k, hk, e1, e2⟩ := dig_of ha
        have k0 := ne48 e2 (by simpa using hh)
        have := List.all_eq_true.1 dec1 k (List.mem_range.2 hk)
        rw [decide_eq_false k0, Bool.false_or, decide_eq_true_eq, ← e1] at this
        rw [this]
        congr 1
        simp only [numR, List.foldl_cons, List.foldl_nil, e2]
        omega
      · match x, hl with
        | [a, b], _ =>
          simp only [List.all_cons, List.all_nil, Bool.and_true, Bool.and_eq_true] at ha
          obtain ⟨k, hk, e1, e2⟩ := dig_of ha.1
          obtain ⟨j, hj, f1, f2⟩ := dig_of ha.2
          have k0 := ne48 e2 (by simpa using hh)
          have := List.all_eq_true.1 (List.all_eq_true.1 dec2 k (List.mem_range.2 hk)) j (List.mem_range.2 hj)
          rw [decide_eq_false k0, Bool.false_or, decide_eq_true_eq, ← e1, ← f1] at this
          rw [this]
          congr 1
          simp only [numR, List.foldl_cons, List.foldl_nil, e2, f2]
          omega
    · cases h

/-- The reference's reading: what is open, and the rest. -/
def refGo : List UInt8 → List UInt8 → Option (List Int)
  | cur, [] => (okR cur).map fun n => [n]
  | cur, c :: r => if c = 46 then (okR cur).bind fun n => (refGo [] r).map (n :: ·) else if digR c then refGo (cur ++ [c]) r else none
theorem okR_bad {c : UInt8} {x : List UInt8} (h : c ∈ x) (hd : digR c = false) : okR x = none := by
  rw [okR, if_neg]
  rintro ⟨_, ha, _⟩
  have := List.all_eq_true.1 ha c h
  rw [hd] at this
  cases this
theorem refGo_nodot : ∀ (l cur : List UInt8), (∀ c, c ∈ l → ¬ c = 46) → refGo cur l = (okR (cur ++ l)).map fun n => [n]
  | [], cur, _ => by simp [refGo]
  | c :: l, cur, h => by
    rw [refGo, if_neg (h c (List.mem_cons_self ..))]
    cases hd : digR c
    · rw [okR_bad (c := c) (by simp) hd]
      rfl
    · rw [if_pos rfl, refGo_nodot l (cur ++ [c]) fun d hd => h d (List.mem_cons_of_mem _ hd), List.append_assoc]
      rfl
theorem refGo_dot (r : List UInt8) : ∀ (a cur : List UInt8), (∀ c, c ∈ a → ¬ c = 46) → refGo cur (a ++ 46 :: r) = (okR (cur ++ a)).bind fun n => (refGo [] r).map (n :: ·)
  | [], cur, _ => by rw [List.nil_append, refGo, if_pos rfl, List.append_nil]
  | c :: a, cur, h => by
    rw [List.cons_append, refGo, if_neg (h c (List.mem_cons_self ..))]
    cases hd : digR c
    · rw [okR_bad (c := c) (by simp) hd]
      rfl
    · rw [if_pos rfl, refGo_dot r a (cur ++ [c]) fun d hd => h d (List.mem_cons_of_mem _ hd), List.append_assoc]
      rfl
theorem no_mem {l : List UInt8} {c : UInt8} (h : ∀ k : Nat, l[k]? ≠ some c) : ∀ d, d ∈ l → ¬ d = c := by
  rintro d hd rfl
  obtain ⟨k, hk⟩ := List.getElem?_of_mem hd
  exact h k hk
theorem refGo_pieces : ∀ (n : Nat) (l : List UInt8), l.length ≤ n → refGo [] l = (piecesF 46 n l).mapM okR
  | 0, l, h => by
    rw [List.length_eq_zero_iff.1 (by omega : l.length = 0)]
    rfl
  | n + 1, l, h => by
    unfold piecesF
    have ge := Lib.indexByte_ge l 46
    split
    · rename_i hn
      rw [refGo_nodot l [] (no_mem (Lib.indexByte_none (by omega)))]
      simp only [List.nil_append, List.mapM_cons, List.mapM_nil, Option.bind_eq_bind, Option.pure_def]
      cases okR l <;> rfl
    · rename_i hn
      obtain ⟨k, hk⟩ : ∃ k : Nat, Lib.indexByte l 46 = k := ⟨(Lib.indexByte l 46).toNat, by omega⟩
      obtain ⟨h1, h2⟩ := Lib.indexByte_some hk
      have hlt := (List.getElem?_eq_some_iff.1 h1).1
      rw [hk, Int.toNat_natCast]
      have e : l = l.take k ++ 46 :: l.drop (k + 1) := by
        have e1 := (List.getElem?_eq_some_iff.1 h1).2
        rw [← e1, ← List.drop_eq_getElem_cons hlt, List.take_append_drop]
      have hd := refGo_dot (l.drop (k + 1)) (l.take k) [] (no_mem fun j hj => by
        rw [List.getElem?_take] at hj
        split at hj
        · exact h2 j (by assumption) hj
        · cases hj)
      rw [← e] at hd
      rw [hd, refGo_pieces n _ (by rw [List.length_drop]; omega), List.nil_append, List.mapM_cons]
      simp only [Option.bind_eq_bind, Option.pure_def]
      congr 1
      funext m
      cases (piecesF 46 n (l.drop (k + 1))).mapM okR <;> rfl
theorem pieces_sum (c : UInt8) : ∀ (n : Nat) (l : List UInt8), ((piecesF c n l).map List.length).sum + (piecesF c n l).length = l.length + 1
  | 0, l => by simp [piecesF]
  | n + 1, l => by
    unfold piecesF
    have ge := Lib.indexByte_ge l c
    split
    · simp
    · rename_i hn
      obtain ⟨k, hk⟩ : ∃ k : Nat, Lib.indexByte l c = k := ⟨(Lib.indexByte l c).toNat, by omega⟩
      have hlt := (List.getElem?_eq_some_iff.1 (Lib.indexByte_some hk).1).1
      have ih := pieces_sum c n (l.drop (k + 1))
      rw [hk, Int.toNat_natCast]
      simp only [List.map_cons, List.sum_cons, List.length_cons, List.length_take, List.length_drop] at ih ⊢
      omega
theorem mapM_short : ∀ {l : List (List UInt8)} {ns : List Int}, l.mapM okR = some ns → ns.length = l.length ∧ (l.map List.length).sum ≤ 2 * l.length
  | [], ns, h => by simp at h; simp [h]
  | x :: l, ns, h => by
    simp only [List.mapM_cons, Option.bind_eq_bind, Option.bind_eq_some_iff, Option.pure_def, Option.some.injEq] at h
    obtain ⟨a, ha, b, hb, rfl⟩ := h
    obtain ⟨i1, i2⟩ := mapM_short hb
    have hx : x.length ≤ 2 := by
      unfold okR at ha
      split at ha
      · rename_i hc
        have := hc.1
        omega
      · cases ha
    simp only [List.map_cons, List.sum_cons, List.length_cons]
    omega
/-- What the reference reads. -/
def partsR (s : ByteArray) : List Int := if 12 < s.size then [] else match refGo [] (bl s) with
  | some ns => if ns.length ≤ 4 then ns else []
  | none => []
theorem partsR_eq (s : ByteArray) : partsR s = partsD s := by
  have hf : partOf = okR := funext partOf_okR
  have hl : (bl s).length = s.size := rfl
  have hg := refGo_pieces s.size (bl s) (by omega)
  unfold partsR partsD
  rw [hf, ← hg]
  by_cases h : 12 < s.size
  · rw [if_pos h]
    cases hm : refGo [] (bl s) with
    | none => rfl
    | some ns =>
      rw [hg] at hm
      obtain ⟨h1, h2⟩ := mapM_short hm
      have h3 := pieces_sum 46 s.size (bl s)
      simp only
      rw [if_neg (by omega)]
  · rw [if_neg h]
    cases refGo [] (bl s) <;> rfl
end Go.Proofs.YtgapbmaehfdkoaaGreatDoor
