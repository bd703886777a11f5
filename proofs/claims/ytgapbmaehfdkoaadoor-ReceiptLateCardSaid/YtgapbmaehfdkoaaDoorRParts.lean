/- The reference's Parts, for a seat without taxes (the same as in Ref28a). -/
import Derived.Test.YtgapbmaehfdkoaaDoorRefCode
import Derived.Test.YtgapbmaehfdkoaaDoorCash1
import Derived.Test.YtgapbmaehfdkoaaDoorPaIns
set_option linter.unusedSimpArgs false
set_option linter.unusedVariables false
namespace Go.Proofs.YtgapbmaehfdkoaaDoor
open Go.PA
open Go.RowKit

theorem done_nil {H : Heap} (k : Nat) {Q : AV → Prop} {b : Bx Q} (hq : Q (.list k [])) : Done H .nil Q b := done_weak .nil (imm_list.2 (by simp)) (.nil k) hq
theorem imm_ints (l : List Int) : Imm (intsL l) := by simp [intsL, go_sem]
/-! ### Codes: plain steps -/
theorem numR_snoc (cur : List UInt8) (c : UInt8) : numR (cur ++ [c]) = 10 * numR cur + ((c.toNat : Int) - 48) := by simp [numR]
theorem numR_bd {cur : List UInt8} : cur.all digR = true → 0 ≤ numR cur ∧ numR cur < (10 ^ cur.length : Nat) := by
  induction cur using snocRec with
  | h0 => intro _; simp [numR]
  | h1 l c ih =>
    intro h
    rw [List.all_append, Bool.and_eq_true] at h
    have h1 := ih h.1
    have h2 : digR c = true := by simpa using h.2
    simp only [digR, Bool.and_eq_true, decide_eq_true_eq] at h2
    rw [numR_snoc, List.length_append, List.length_singleton, Nat.pow_succ]
    omega
theorem numR_12 {cur : List UInt8} (h : cur.all digR = true) (hl : cur.length ≤ 12) : 0 ≤ numR cur ∧ numR cur ≤ 1000000000000 := by
  have h1 := numR_bd h
  have h2 : 10 ^ cur.length ≤ 10 ^ 12 := Nat.pow_le_pow_right (by omega) hl
  have h3 : (10 : Nat) ^ 12 = 1000000000000 := by decide
  omega
section
variable {L : List UInt8} {i : Nat} {cur : List UInt8} {out : List Int}
theorem drop_at {c : UInt8} (h : L[i]? = some c) : L.drop i = c :: L.drop (i + 1) := by
  obtain ⟨h1, h2⟩ := List.getElem?_eq_some_iff.1 h
  rw [List.drop_eq_getElem_cons h1, h2]
theorem step_none (hI : refGo [] L = (refGo cur (L.drop i)).map (out ++ ·)) (he : i = L.length ∨ L[i]? = some 46) (hk : okR cur = none) : refGo [] L = none := by
  rcases he with he | he
  · rw [he, List.drop_length, refGo, hk] at hI
    exact hI
  · rw [drop_at he, refGo, if_pos rfl, hk] at hI
    exact hI
theorem step_some {n : Int} (hI : refGo [] L = (refGo cur (L.drop i)).map (out ++ ·)) (he : i = L.length ∨ L[i]? = some 46) (hk : okR cur = some n) : (i + 1 ≤ L.length → refGo [] L = (refGo [] (L.drop (i + 1))).map ((out ++ [n]) ++ ·)) ∧ (i = L.length → refGo [] L = some (out ++ [n])) := by
  constructor
  · intro h
    rcases he with he | he
    · omega
    · rw [drop_at he, refGo, if_pos rfl, hk] at hI
      rw [hI, Option.bind_some, Option.map_map]
      congr 1
      funext x
      simp
  · intro he
    rw [he, List.drop_length, refGo, hk] at hI
    exact hI
theorem step_bad {c : UInt8} (hI : refGo [] L = (refGo cur (L.drop i)).map (out ++ ·)) (h : L[i]? = some c) (h2 : ¬ c = 46) (hd : digR c = false) : refGo [] L = none := by
  rw [drop_at h, refGo, if_neg h2, hd] at hI
  exact hI
theorem step_dig {c : UInt8} (hI : refGo [] L = (refGo cur (L.drop i)).map (out ++ ·)) (h : L[i]? = some c) (h2 : ¬ c = 46) (hd : digR c = true) : refGo [] L = (refGo (cur ++ [c]) (L.drop (i + 1))).map (out ++ ·) := by
  rw [drop_at h, refGo, if_neg h2, hd, if_pos rfl] at hI
  exact hI
end
theorem bl_at (s : ByteArray) (i : Nat) : s[i]? = (bl s)[i]? := by
  by_cases h : i < s.size
  · rw [getElem?_pos s i h, List.getElem?_eq_getElem (show i < (bl s).length from h)]
    rfl
  · rw [getElem?_neg s i h, List.getElem?_eq_none (show (bl s).length ≤ i by show s.size ≤ i; omega)]

theorem aix_str {q : ByteArray} {x : Int} {i : Nat} {a : UInt8} (hx : x = i) (h : q[i]? = some a) : aixV Tryd.prog 9 (.sc (.string q)) (iv x) = some (.sc (.int .u8 a.toNat)) := by
  subst hx
  simp [aixV, Tryd.underlying9, h]
end Go.Proofs.YtgapbmaehfdkoaaDoor
