/- Receipts: an income is taken in, by the reference. -/
import Derived.Test.YtgapbmaehfdkoaaDoorCash10
set_option linter.unusedSimpArgs false
set_option linter.unusedVariables false
namespace Go.Proofs.YtgapbmaehfdkoaaDoor
open Go.PA
open Go.RowKit

/-- The oldest open claim meets the income: the others stay, or nothing is loose any more. -/
theorem openK_meet {d : TCash} {i k : Nat} {r : List Nat} {p lo : Int} {y : TIncome} (hl : d.Loose[i]? = some lo) (h0 : 0 < lo) (hy : d.Incomes[i]? = some y) (hk : openK d.Claims p = k :: r) :
    ∃ x, d.Claims[k]? = some x ∧ 0 < x.Open ∧ (openK (meet d i k).Claims p = r ∨ (meet d i k).Loose[i]? = some 0) := by
  have hmem : k ∈ openK d.Claims p := by rw [hk]; simp
  obtain ⟨x, hx, _, hxo⟩ := openK_mem.1 hmem
  have nd := openK_nodup d.Claims p
  rw [hk, List.nodup_cons] at nd
  have hn : ¬ min lo x.Open = 0 := by omega
  have em := meet_at hl hx hy hn
  refine ⟨x, hx, hxo, ?_⟩
  by_cases hle : lo ≤ x.Open
  · refine .inr ?_
    rw [em]
    show (d.Loose.set i _)[i]? = some 0
    rw [List.getElem?_set_self (List.getElem?_eq_some_iff.1 hl).1]
    congr 1
    omega
  · refine .inl ?_
    rw [em]
    show openK (d.Claims.set k { x with Open := x.Open - min lo x.Open }) p = r
    rw [openK_set (y := { x with Open := x.Open - min lo x.Open }) hx rfl (by show x.Open - min lo x.Open = 0; omega), hk, List.filter_cons, if_neg (by simp)]
    exact List.filter_eq_self.2 fun j hj => by
      simp only [decide_eq_true_eq]
      rintro rfl
      exact nd.1 hj
theorem meet_new {d : TCash} {i k : Nat} {lo : Int} {x : TClaim} {y : TIncome} (h1 : d.Loose[i]? = some lo) (h2 : d.Claims[k]? = some x) (h3 : d.Incomes[i]? = some y) (hn : ¬ min lo x.Open = 0) : (meet d i k).Matches = d.Matches ++ [⟨y.Number, x.ID, min lo x.Open⟩] := by
  rw [meet_at h1 h2 h3 hn]

theorem GoodD.fit {c : TCash} {x : TIncome} {d : TCash} (g : GoodD c x d) (h : cashE c = 0) (hf : FitC c) : FitC d := by
  have l := (cashE_ok.1 h).1
  have l2 := (cashE_ok.1 h).2.len
  refine ⟨by rw [g.fall.cn]; exact hf.fc, by rw [g.fall.inc]; simp [Go.Proofs.YtgapbmaehfdkoaaDoor.start]; omega, by have := g.len; omega, by rw [g.fall.ln]; simp [Go.Proofs.YtgapbmaehfdkoaaDoor.start]; omega, fun z hz => ?_⟩
  obtain ⟨k, hk⟩ := List.getElem?_of_mem hz
  obtain ⟨y, hy, _, _, e⟩ := g.fall.back hk
  rw [e]
  exact hf.code y (List.mem_of_getElem? hy)
theorem HC.cw {n0 : Nat} {H : Heap} {p : Nat} {c : TCash} {A B D F : AV} (h : HC n0 H p c A B D F) : CW H [A, B, D, F] c.cells := by
  rw [cCsh]
  exact h.a.cw (imm_claims _) (h.b.cw (imm_incomes _) (h.d.cw (imm_matches _) (h.f.cw (c.imm _ (by simp [cCsh])) .nil)))
/-- The matches of this income. -/
def Out (H : Heap) (D X : AV) (new : List TMatch) : Prop := (X = .nil ∧ new = []) ∨ ∃ o, 3 ≤ o ∧ X = .sref o 0 new.length ∧ H[o]? = some (some ⟨55, 3, encL TMatch.cells new⟩) ∧ ¬ isS D o
theorem Out.kept {H H' : Heap} {d : TCash} {A B D F D' X : AV} {new : List TMatch} (h : Out H D X new) (hc : HC 3 H 0 d A B D F) (hk : KeptS 0 A D F H H') (hf : ∀ j, isS D' j → isS D j ∨ H.length ≤ j) : Out H' D' X new := by
  rcases h with h | ⟨o, h1, h2, h3, h4⟩
  · exact .inl h
  · have lt := (List.getElem?_eq_some_iff.1 h3).1
    refine .inr ⟨o, h1, h2, hk _ _ (by omega) (fun hs => ?_) h4 (fun hs => ?_) h3, fun hs => ?_⟩
    · obtain ⟨a, _, rfl, ha⟩ := hc.a
      rw [isS_iff] at hs
      subst hs
      exact obj_ne ha h3 (by simp) rfl
    · obtain ⟨a, _, rfl, ha⟩ := hc.f
      rw [isS_iff] at hs
      subst hs
      exact obj_ne ha h3 (by simp) rfl
    · rcases hf o hs with hs | hs
      · exact h4 hs
      · omega
theorem Own.setO {n0 : Nat} {H : Heap} {x : AV} {ty : TypeId} {k : Nat} {es : List (List AV)} {o : Nat} (h : Own n0 H x ty k es) (hn : ¬ isS x o) (z : Option AObj) : Own n0 (H.set o z) x ty k es := by
  obtain ⟨id, h1, rfl, h3⟩ := h
  rw [isS_iff] at hn
  exact ⟨id, h1, rfl, by rw [List.getElem?_set_ne (fun e => hn e.symm)]; exact h3⟩
theorem HC.setO {n0 : Nat} {H : Heap} {p : Nat} {c : TCash} {A B D F : AV} (h : HC n0 H p c A B D F) {o : Nat} {es : List (List AV)} (ho : H[o]? = some (some ⟨55, 3, es⟩)) (hD : ¬ isS D o) (z : Option AObj) : HC n0 (H.set o z) p c A B D F :=
  ⟨by rw [List.length_set]; exact h.len, by rw [List.getElem?_set_ne (obj_ne ho h.obj (by simp))]; exact h.obj, h.a.set ho (by simp), h.b.set ho (by simp), h.d.setO hD z, h.f.set ho (by simp)⟩
theorem Own.lt {n0 : Nat} {H : Heap} {x : AV} {ty : TypeId} {k : Nat} {es : List (List AV)} (h : Own n0 H x ty k es) {j : Nat} (hj : isS x j) : j < H.length := by
  obtain ⟨id, _, rfl, h3⟩ := h
  rw [isS_iff] at hj
  subst hj
  exact (List.getElem?_eq_some_iff.1 h3).1
theorem done_cashG {H : Heap} {cs cs' : List AV} {D X : AV} {new : List TMatch} {v : Value} {Q : AV → Prop} {b : Bx Q} (h : CW H cs cs') (ho : Out H D X new) (hq : Q (.tup [.agg cs', matchesL new, .sc v])) : Done H (.tup [.agg cs, X, .sc v]) Q b := by
  rcases ho with ⟨rfl, rfl⟩ | ⟨o, _, rfl, h3, _⟩
  · exact done_weak (imm_trip h.imm .nil .sc) (imm_trip h.imm' (imm_matches []) .sc) (weak_tup3 h.weak (.nil 3) (.refl _)) hq
  · have hv : view2 H (.sref o 0 new.length) = matchesL new := by
      rw [view2_sref, h3, viewS_some]
      simp only [List.drop_zero]
      rw [List.take_of_length_le (by rw [encL_len]; omega)]
    exact done_weak (imm_trip h.imm (by rw [hv]; exact imm_matches new) .sc) (imm_trip h.imm' (imm_matches new) .sc) (weak_tup3 h.weak (by rw [hv]; exact .refl _) (.refl _)) hq
theorem meets_app (d : TCash) (i : Nat) (ks r : List Nat) : meets d i (ks ++ r) = meets (meets d i ks) i r := by simp [meets]
theorem Out.app {H l : Heap} {D X : AV} {new : List TMatch} (h : Out H D X new) : Out (H ++ l) D X new := by
  rcases h with h | ⟨o, h1, h2, h3, h4⟩
  · exact .inl h
  · exact .inr ⟨o, h1, h2, by rw [List.getElem?_append_left (List.getElem?_eq_some_iff.1 h3).1]; exact h3, h4⟩
def sameB (l : List TClaim) (p n : Int) (k : Nat) : Bool := match l[k]? with | some x => decide (x.Payer = p) && decide (x.Open = n) | none => false
theorem sameK_eq (l : List TClaim) (p n : Int) : sameK l p n = (List.range l.length).filter (sameB l p n) := rfl
def lastO (ks : List Nat) : Int := idxO ks.getLast?
theorem only_one {ks : List Nat} (h : ks.length = 1) : ∃ k, ks = [k] ∧ only ks = [k] ∧ lastO ks = k := by
  match ks, h with
  | [k], _ => exact ⟨k, rfl, rfl, rfl⟩
theorem only_none {ks : List Nat} (h : ¬ ks.length = 1) : only ks = [] := by
  match ks, h with
  | [], _ => rfl
  | _ :: _ :: _, _ => rfl
/-- The state in which an income is counted. -/
def TR (c : TCash) (O1 O2 : AObj) (n : Nat) (d : TCash) (new : List TMatch) (s : St) : Prop := s.t 2 = .ref 0 0 0 ∧ s.t 3 = .ref 1 0 0 ∧ s.t 4 = .ref 2 0 0 ∧ s.t 8 = iv n ∧ s.H[1]? = some (some O1) ∧ s.H[2]? = some (some O2) ∧ d.Matches = c.Matches ++ new ∧ ∃ A B D F, HC 3 s.H 0 d A B D F ∧ Out s.H D (s.t 9) new
theorem first_new {c : TCash} {x : TIncome} (h : cashE c = 0) (hx : 1 ≤ x.Amount) : ∃ new, (mid1 c x).Matches = c.Matches ++ new ∧ new.length ≤ 1 ∧ (((mid1 c x).Loose[c.Incomes.length]?).getD 0 = x.Amount ↔ new = []) := by
  have ok := (cashE_ok.1 h).2
  have h0 : (start c x).Loose[c.Incomes.length]? = some x.Amount := by simp [start, ok.len]
  have hy : (start c x).Incomes[c.Incomes.length]? = some x := by simp [start]
  have st : ∃ new, (start c x).Matches = c.Matches ++ new ∧ new.length ≤ 1 ∧ (((start c x).Loose[c.Incomes.length]?).getD 0 = x.Amount ↔ new = []) := ⟨[], by simp [start], by simp, by rw [h0]; simp⟩
  unfold mid1
  split
  · rename_i k hk
    split
    · rename_i hp
      obtain ⟨z, hz, _⟩ := payAt_some hk
      have hz' : (start c x).Claims[k]? = some z := hz
      by_cases hn : min x.Amount z.Open = 0
      · rw [meet_zero_eq h0 hz' hy hn]
        exact st
      · have zo := ok.pos.1 z (List.mem_of_getElem? hz)
        rw [meet_at h0 hz' hy hn]
        refine ⟨[⟨x.Number, z.ID, min x.Amount z.Open⟩], rfl, by simp, ?_⟩
        show ((((start c x).Loose.set _ _)[c.Incomes.length]?).getD 0 = x.Amount ↔ _)
        rw [List.getElem?_set_self (List.getElem?_eq_some_iff.1 h0).1]
        simp
        omega
    · exact st
  · exact st

/-- A match is put behind the others. -/
theorem put_out {c : TCash} {O1 O2 : AObj} {n : Nat} {d : TCash} {A B D F : AV} {H : Heap} {new : List TMatch} {m : TMatch} {z : AObj} (hm : d.Matches = c.Matches ++ (new ++ [m])) (h1 : H[1]? = some (some O1)) (h2 : H[2]? = some (some O2)) (hc : HC 3 H 0 d A B D F) :
    (∀ t : Nat → AV, Out H D .nil new → new = [] → t 2 = .ref 0 0 0 → t 3 = .ref 1 0 0 → t 4 = .ref 2 0 0 → t 8 = iv n → t 9 = .sref (H.length + 1) 0 1 → TR c O1 O2 n d (new ++ [m]) ⟨t, H ++ [some z, some ⟨55, 3, [[iv m.Income, iv m.Claim, iv m.Amount]]⟩]⟩) ∧
    (∀ (t : Nat → AV) (o : Nat), 3 ≤ o → H[o]? = some (some ⟨55, 3, encL TMatch.cells new⟩) → ¬ isS D o → t 2 = .ref 0 0 0 → t 3 = .ref 1 0 0 → t 4 = .ref 2 0 0 → t 8 = iv n → t 9 = .sref (H.length + 1) 0 (new.length + 1) → TR c O1 O2 n d (new ++ [m]) ⟨t, H.set o none ++ [some z, some ⟨55, 3, encL TMatch.cells new ++ [[iv m.Income, iv m.Claim, iv m.Amount]]⟩]⟩) := by
  have lt1 := (List.getElem?_eq_some_iff.1 h1).1
  have lt2 := (List.getElem?_eq_some_iff.1 h2).1
  have hl := hc.len
  constructor
  · intro t _ hn t2 t3 t4 t8 t9
    subst hn
    refine ⟨t2, t3, t4, t8, by simp only; rw [List.getElem?_append_left lt1]; exact h1, by simp only; rw [List.getElem?_append_left lt2]; exact h2, hm, A, B, D, F, hc.app, .inr ⟨H.length + 1, by omega, t9, ?_, fun hs => ?_⟩⟩
    · simp only
      rw [List.getElem?_append_right (by omega)]
      simp [encL, cMtc]
    · have := hc.d.lt hs
      omega
  · intro t o ho3 ho hD t2 t3 t4 t8 t9
    have hc' := hc.setO ho hD none
    refine ⟨t2, t3, t4, t8, by simp only; rw [List.getElem?_append_left (by rw [List.length_set]; exact lt1), List.getElem?_set_ne (by omega)]; exact h1, by simp only; rw [List.getElem?_append_left (by rw [List.length_set]; exact lt2), List.getElem?_set_ne (by omega)]; exact h2, hm, A, B, D, F, hc'.app, .inr ⟨H.length + 1, by omega, by show t 9 = _; rw [t9, List.length_append]; rfl, ?_, fun hs => ?_⟩⟩
    · simp only
      rw [List.getElem?_append_right (by simp)]
      simp [encL, cMtc]
    · have := hc.d.lt hs
      omega
end Go.Proofs.YtgapbmaehfdkoaaDoor
