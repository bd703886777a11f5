/- Taxes that the source makes: what is expected of them. -/
import Derived.Test.YtabdihohphlheaaDoorTax7
import Derived.Test.YtabdihohphlheaaDoorTaxGen2
set_option linter.unusedSimpArgs false
set_option linter.unusedVariables false
namespace Go.Proofs.YtabdihohphlheaaDoor
open Go.PA
open Go.RowKit

theorem gen_check {l : List TTax} (h : ∀ t, t ∈ l → GenTax t) (hl : l.length ≤ 20) : checkT l = 0 := checkT_ok hl fun t ht => (h t ht).ok.1
theorem days6 {t : TTax} (h : GenTax t) : (daysD t).length ≤ 6 := by
  rw [days_gen h, List.length_map, List.length_range]
  obtain ⟨_, _, _, _, _, _, _, n⟩ := h
  omega
theorem rawF_len6 (w : TTax → Int → Bool) : ∀ (l : List TTax) (i : Nat), (∀ t, t ∈ l → GenTax t) → (rawF w i l).length ≤ 6 * l.length
  | [], _, _ => by simp [rawF]
  | t :: l, i, h => by
    rw [rawF, List.length_append, List.length_cons]
    have h1 := rowF_len w t i (daysD t)
    have h2 := days6 (h t (List.mem_cons_self ..))
    have h3 := rawF_len6 w l (i + 1) fun u hu => h u (List.mem_cons_of_mem _ hu)
    omega
theorem flowsD_len6 (w : TTax → Int → Bool) {l : List TTax} (h : ∀ t, t ∈ l → GenTax t) : (flowsD w l).length ≤ 6 * l.length := by
  rw [flowsD, ssort_len]
  exact rawF_len6 w l 0 h
theorem gen_expected {l : List TTax} (h : ∀ t, t ∈ l → GenTax t) (hl : l.length ≤ 6) (a b : Int) : expectedD l a b = (flowsD (fun _ d => btw d a b) l, 0) := by
  have := flowsD_len6 (fun _ d => btw d a b) h
  rw [expectedD, if_pos (gen_check h (by omega)), if_pos (by omega)]
theorem gen_claims {l : List TTax} (h : ∀ t, t ∈ l → GenTax t) (hl : l.length ≤ 6) (a b : Int) : claimsD l a b 1 = ((flowsD (fun _ d => btw d a b) l).mapIdx (clm l 1), 0) := by
  have := flowsD_len6 (fun _ d => btw d a b) h
  rw [claimsD, gen_expected h hl, if_pos rfl, if_pos (by simp only; omega), if_pos (by decide)]
theorem gen_year {l : List TTax} (h : ∀ t, t ∈ l → GenTax t) (hl : l.length ≤ 6) (c : ByteArray) (hc : codeB c = true) (y : Int) : yearD l c y = (tsum (yearW c y) l, 0) := by
  rw [yearD, if_pos (gen_check h (by omega)), if_pos hc, sumA_flows]
end Go.Proofs.YtabdihohphlheaaDoor
