/- Receipts: the open claims, in the walk's own objects. -/
import Derived.Test.YtgapbmaehfdkoaaGreatDoorCash6
import Derived.Test.YtgapbmaehfdkoaaGreatDoorDelInt
set_option linter.unusedSimpArgs false
set_option linter.unusedVariables false
namespace Go.Proofs.YtgapbmaehfdkoaaGreatDoor
open Go.PA
open Go.RowKit

theorem insR_map {α β : Type} {lt : α → α → Bool} {lt' : β → β → Bool} (f : α → β) (h : ∀ a b, lt a b = lt' (f a) (f b)) (x : α) : ∀ l : List α, (insR lt x l).map f = insR lt' (f x) (l.map f)
  | [] => rfl
  | y :: l => by
    rw [insR, List.map_cons, insR, h]
    split
    · rfl
    · rw [List.map_cons, insR_map f h x l]
theorem ssort_map {α β : Type} {lt : α → α → Bool} {lt' : β → β → Bool} (f : α → β) (h : ∀ a b, lt a b = lt' (f a) (f b)) (l : List α) : (ssort lt l).map f = ssort lt' (l.map f) := by
  induction l using snocRec with
  | h0 => rfl
  | h1 l x ih => rw [ssort_snoc, insR_map f h, ih, List.map_append, List.map_cons, List.map_nil, ssort_snoc]
/-- Places of a list of n. -/
theorem fin_of (n : Nat) : ∀ ks : List Nat, (∀ k, k ∈ ks → k < n) → ∃ fs : List (Fin n), fs.map (·.val) = ks
  | [], _ => ⟨[], rfl⟩
  | k :: ks, h => by
    obtain ⟨fs, hf⟩ := fin_of n ks fun j hj => h j (List.mem_cons_of_mem _ hj)
    exact ⟨⟨k, h k (List.mem_cons_self ..)⟩ :: fs, by rw [List.map_cons, hf]⟩
theorem encV_map {n : Nat} (fs : List (Fin n)) : encL (encV fun i : Fin n => ((i.val : Nat) : Int)) fs = encL encN (fs.map (·.val)) := by
  unfold encL
  rw [List.map_map]
  rfl

theorem cmpI_ltC (a b : Int) : decide (cmpI a b < 0) = decide (a < b) := by
  rw [decide_eq_decide]
  simp only [cmpI]
  repeat' split
  all_goals omega
/-- Where the claims lie. -/
structure Clm (H : Heap) (q p a : Nat) (l : List TClaim) : Prop where
  q : H[q]? = some (some ⟨72, 1, [[.ref p 0 0]]⟩)
  p : ∃ B D F, H[p]? = some (some ⟨29, 4, [[.sref a 0 l.length, B, D, F]]⟩)
  a : H[a]? = some (some ⟨38, 6, encL TClaim.cells l⟩)
theorem Clm.set {H : Heap} {q p a : Nat} {l : List TClaim} (h : Clm H q p a l) {id : Nat} {es : List (List AV)} (hid : H[id]? = some (some ⟨3, 1, es⟩)) (o : Option AObj) : Clm (H.set id o) q p a l := by
  obtain ⟨B, D, F, hp⟩ := h.p
  exact ⟨by rw [List.getElem?_set_ne (obj_ne hid h.q (by simp))]; exact h.q, ⟨B, D, F, by rw [List.getElem?_set_ne (obj_ne hid hp (by simp))]; exact hp⟩, by rw [List.getElem?_set_ne (obj_ne hid h.a (by simp))]; exact h.a⟩
theorem open1_m {row src : Option Nat} {H : Heap} {q p a : Nat} {l : List TClaim} (hc : Clm H q p a l) (i j : Nat) (hi : i < l.length) (hj : j < l.length) :
    MFun Tryz.prog row src 76 [iv i, iv j, .ref q 0 0] H (fun r H'' => (∃ x : Int, r = iv x ∧ decide (x < 0) = decide (dayAt l i < dayAt l j)) ∧ H'' = H) := by
  obtain ⟨C, hC⟩ : ∃ C : AV → Heap → Prop, C = fun r H'' => (∃ x : Int, r = iv x ∧ decide (x < 0) = decide (dayAt l i < dayAt l j)) ∧ H'' = H := ⟨_, rfl⟩
  rw [← hC]
  have h0 := hc.q
  obtain ⟨B, D, F, h1⟩ := hc.p
  have h2 := hc.a
  have lt0 := (List.getElem?_eq_some_iff.1 h0).1
  have lt1 := (List.getElem?_eq_some_iff.1 h1).1
  have lt2 := (List.getElem?_eq_some_iff.1 h2).1
  obtain ⟨x, hx⟩ : ∃ x, l[i]? = some x := ⟨_, List.getElem?_eq_getElem hi⟩
  obtain ⟨y, hy⟩ : ∃ y, l[j]? = some y := ⟨_, List.getElem?_eq_getElem hj⟩
  have ex : C (iv (cmpI x.Day y.Day)) H := by
    rw [hC]
    refine ⟨⟨_, rfl, ?_⟩, rfl⟩
    rw [cmpI_ltC]
    simp [dayAt, hx, hy]
  have rx := rowsC_get hx
  have ry := rowsC_get hy
  have ln := encL_len TClaim.cells l
  obtain ⟨P, hPd⟩ : ∃ P, P = encL TClaim.cells l := ⟨_, rfl⟩
  rw [← hPd] at h2 rx ry ln
  obtain ⟨n, hn⟩ : ∃ n, n = l.length := ⟨_, rfl⟩
  rw [← hn] at h1 ln hi hj
  refine mfun_intro Tryz.func76 rfl (by simp [Tryz.f76]) (by kernel_rfl) (⟨_, _, ex⟩) ?_
  intro E hP hr hs hN
  simp -dsimp -implicitDefEqProofs [-getElem?_pos, go_sem, hP]
  refine adrawB (fun _ => true) [] hP (by kernel_rfl) (by kernel_rfl) ?_
  simp -dsimp -implicitDefEqProofs [-getElem?_pos, go_sem, hP, h0, lt0, h1, lt1, h2, lt2, rx, ry, ln, hi, hj]
  refine callB_pure (compare_pf x.Day y.Day) hP en_64 (args_same (by simp -dsimp -implicitDefEqProofs [-getElem?_pos, go_sem])) .sc ?_
  simp -dsimp -implicitDefEqProofs [-getElem?_pos, go_sem, hP]
  exact ex
theorem exact1_m {row src : Option Nat} {H : Heap} {q p a z : Nat} {l : List TClaim} (hc : Clm H q p a l) (n : Int) (hz : H[z]? = some (some ⟨3, 1, [[iv n]]⟩)) (i : Nat) (hi : i < l.length) :
    MFun Tryz.prog row src 74 [iv i, .ref q 0 0, .ref z 0 0] H (fun r H'' => r = bv (!(match l[i]? with | some x => decide (x.Open = n) | none => false)) ∧ H'' = H) := by
  obtain ⟨C, hC⟩ : ∃ C : AV → Heap → Prop, C = fun r H'' => r = bv (!(match l[i]? with | some x => decide (x.Open = n) | none => false)) ∧ H'' = H := ⟨_, rfl⟩
  rw [← hC]
  have h0 := hc.q
  obtain ⟨B, D, F, h1⟩ := hc.p
  have h2 := hc.a
  have lt0 := (List.getElem?_eq_some_iff.1 h0).1
  have lt1 := (List.getElem?_eq_some_iff.1 h1).1
  have lt2 := (List.getElem?_eq_some_iff.1 h2).1
  have ltz := (List.getElem?_eq_some_iff.1 hz).1
  obtain ⟨x, hx⟩ : ∃ x, l[i]? = some x := ⟨_, List.getElem?_eq_getElem hi⟩
  have ex : C (bv (!decide (x.Open = n))) H := by
    rw [hC, hx]
    exact ⟨rfl, rfl⟩
  have rx := rowsC_get hx
  have ln := encL_len TClaim.cells l
  obtain ⟨P, hPd⟩ : ∃ P, P = encL TClaim.cells l := ⟨_, rfl⟩
  rw [← hPd] at h2 rx ln
  obtain ⟨nl, hn⟩ : ∃ n, n = l.length := ⟨_, rfl⟩
  rw [← hn] at h1 ln hi
  refine mfun_intro Tryz.func74 rfl (by simp [Tryz.f74]) (by kernel_rfl) (⟨_, _, ex⟩) ?_
  intro E hP hr hs hN
  simp -dsimp -implicitDefEqProofs [-getElem?_pos, go_sem, hP]
  refine adrawB (fun _ => true) [] hP (by kernel_rfl) (by kernel_rfl) ?_
  simp -dsimp -implicitDefEqProofs [-getElem?_pos, go_sem, hP, h0, lt0, h1, lt1, h2, lt2, hz, ltz, rx, ln, hi]
  exact ex

/-- What of the first claims is open. -/
def openB (l : List TClaim) (payer : Int) (k : Nat) : Bool := match l[k]? with | some x => decide (x.Payer = payer) && decide (0 < x.Open) | none => false
theorem openK_eq (l : List TClaim) (payer : Int) : openK l payer = ssort (fun a b => decide (dayAt l a < dayAt l b)) ((List.range l.length).filter (openB l payer)) := rfl
set_option maxHeartbeats 4000000 in
set_option maxRecDepth 8000 in
theorem open_m {row src : Option Nat} {H : Heap} {p a : Nat} {l : List TClaim} {B D F : AV} (hp : H[p]? = some (some ⟨29, 4, [[.sref a 0 l.length, B, D, F]]⟩)) (ha : H[a]? = some (some ⟨38, 6, encL TClaim.cells l⟩)) (hl : l.length < 20) (payer : Int) :
    MFun Tryz.prog row src 44 [.ref p 0 0, iv payer] H (fun r H' => ∃ id, r = .sref id 0 (openK l payer).length ∧ H.length ≤ id ∧ H'[id]? = some (some ⟨3, 1, encL encN (openK l payer)⟩) ∧ Kept [] H H') := by
  obtain ⟨C, hC⟩ : ∃ C : AV → Heap → Prop, C = fun r H' => ∃ id, r = .sref id 0 (openK l payer).length ∧ H.length ≤ id ∧ H'[id]? = some (some ⟨3, 1, encL encN (openK l payer)⟩) ∧ Kept [] H H' := ⟨_, rfl⟩
  rw [← hC]
  have ltp := (List.getElem?_eq_some_iff.1 hp).1
  have lta := (List.getElem?_eq_some_iff.1 ha).1
  have ex : ∃ r H', C r H' := ⟨.sref H.length 0 (openK l payer).length, H ++ [some ⟨3, 1, encL encN (openK l payer)⟩], by
    rw [hC]
    exact ⟨H.length, rfl, Nat.le_refl _, by simp, kept_app _ _ _⟩⟩
  refine mfun_intro Tryz.func44 rfl (by simp [Tryz.f44]) (by kernel_rfl) (ex) ?_
  intro E hP hr hs hN
  obtain ⟨n, hn⟩ : ∃ n, n = l.length := ⟨_, rfl⟩
  have ln := encL_len TClaim.cells l
  have rows : ∀ (k : Nat) x, l[k]? = some x → (encL TClaim.cells l)[k]? = some [iv x.ID, iv x.Payer, iv x.Amount, iv x.Open, iv x.Day, .sc (.string x.Code)] := fun k x h => rowsC_get h
  obtain ⟨P, hPd⟩ : ∃ P, P = encL TClaim.cells l := ⟨_, rfl⟩
  rw [← hPd] at ha ln
  simp only [← hPd] at rows
  rw [← hn] at hp ln hl
  simp -dsimp -implicitDefEqProofs [-getElem?_pos, go_sem, hP, hp, ltp, ha, lta, ln]
  refine aloop_own 5 3 1 (by simp -dsimp -implicitDefEqProofs [-getElem?_pos, go_sem]) ?_
  obtain ⟨I, hI⟩ : ∃ I : Nat → St → Prop, I = fun m s => ∃ (k id : Nat) (out : List Nat), k ≤ n ∧ m = n - k ∧ out = (List.range k).filter (openB l payer) ∧ H.length < id ∧ s.t 1 = iv payer ∧ s.t 2 = .ref H.length 0 0 ∧ s.t 5 = .sref id 0 out.length ∧ s.t 11 = .sref a 0 n ∧ s.t 12 = iv n ∧ s.t 13 = iv k ∧ s.H[H.length]? = some (some ⟨72, 1, [[.ref p 0 0]]⟩) ∧ s.H[id]? = some (some ⟨3, 1, encL encN out⟩) ∧ Kept [] H s.H := ⟨_, rfl⟩
  refine aloop0 I (n) (by rw [hN]; rfl) ?_ ?_
  · rw [hI]
    exact ⟨0, H.length + 1, [], by omega, by omega, rfl, by omega, by simp -dsimp -implicitDefEqProofs [-getElem?_pos, go_sem], by simp -dsimp -implicitDefEqProofs [-getElem?_pos, go_sem], by simp -dsimp -implicitDefEqProofs [-getElem?_pos, go_sem], by simp -dsimp -implicitDefEqProofs [-getElem?_pos, go_sem], by simp -dsimp -implicitDefEqProofs [-getElem?_pos, go_sem], by simp -dsimp -implicitDefEqProofs [-getElem?_pos, go_sem], by simp -dsimp -implicitDefEqProofs [-getElem?_pos, go_sem], by simp -dsimp -implicitDefEqProofs [-getElem?_pos, go_sem, encL], by simp -dsimp -implicitDefEqProofs [-getElem?_pos, go_sem]; exact kept_app _ _ _⟩
  intro m s hs'
  rw [hI] at hs'
  obtain ⟨k, id, out, hk, hm, hout, hid, t1, t2, t5, t11, t12, t13, hq, ho, hK⟩ := hs'
  have ltq := (List.getElem?_eq_some_iff.1 hq).1
  have lto := (List.getElem?_eq_some_iff.1 ho).1
  have ha' := hK _ _ (by simp) ha
  have hp' := hK _ _ (by simp) hp
  have lta' := (List.getElem?_eq_some_iff.1 ha').1
  have ltp' := (List.getElem?_eq_some_iff.1 hp').1
  simp -dsimp -implicitDefEqProofs [-getElem?_pos, go_sem, hP, t12, t13]
  refine condP (fun h => ?_) (fun h => ?_)
  · have hk : k < n := by simpa using h
    obtain ⟨x, hx⟩ : ∃ x, l[k]? = some x := ⟨_, List.getElem?_eq_getElem (by omega)⟩
    have rx := rows k x hx
    have wk := wrap_in ((k : Int) + 1) (by omega)
    have lo : out.length ≤ k := by rw [hout]; exact Nat.le_trans (List.length_filter_le _ _) (by simp)
    have eo : (List.range (k + 1)).filter (openB l payer) = if openB l payer k = true then out ++ [k] else out := by
      rw [List.range_succ, List.filter_append, ← hout, List.filter_cons, List.filter_nil]
      split <;> simp
    have ob : openB l payer k = (decide (x.Payer = payer) && decide (0 < x.Open)) := by simp [openB, hx]
    have neq : ¬ id = H.length := by omega
    have neq' : ¬ H.length = id := by omega
    by_cases c1 : x.Payer = payer
    · by_cases c2 : 0 < x.Open
      · have d1 : openB l payer k = true := by rw [ob]; simp [c1, c2]
        rw [if_pos d1] at eo
        simp -dsimp -implicitDefEqProofs [-getElem?_pos, go_sem, hP, t1, t5, t11, t13, ha', lta', ln, hk, rx, c1, c2, ho, lto, wk]
        refine ⟨by omega, by omega, n - (k + 1), by omega, ?_⟩
        rw [hI]
        refine ⟨k + 1, s.H.length + 1, out ++ [k], by omega, rfl, eo.symm, by omega, by simp -dsimp -implicitDefEqProofs [-getElem?_pos, go_sem, t1, c1], by simp -dsimp -implicitDefEqProofs [-getElem?_pos, go_sem, t2], by simp -dsimp -implicitDefEqProofs [-getElem?_pos, go_sem], by simp -dsimp -implicitDefEqProofs [-getElem?_pos, go_sem, t11], by simp -dsimp -implicitDefEqProofs [-getElem?_pos, go_sem, t12], by simp -dsimp -implicitDefEqProofs [-getElem?_pos, go_sem], by simp -dsimp -implicitDefEqProofs [-getElem?_pos, go_sem, ltq, hq, neq], ?_, ?_⟩
        · simp -dsimp -implicitDefEqProofs [-getElem?_pos, go_sem, encL, encN]
        · simp -dsimp -implicitDefEqProofs [-getElem?_pos, go_sem]
          exact (kept_new _ (by omega) hK).trans (kept_app _ _ _)
      · have d1 : openB l payer k = false := by rw [ob]; simp [c2]
        rw [if_neg (by rw [d1]; simp)] at eo
        simp -dsimp -implicitDefEqProofs [-getElem?_pos, go_sem, hP, t1, t5, t11, t13, ha', lta', ln, hk, rx, c1, c2, ho, lto, wk]
        refine ⟨n - (k + 1), by omega, ?_⟩
        rw [hI]
        exact ⟨k + 1, id, out, by omega, rfl, eo.symm, hid, by simp -dsimp -implicitDefEqProofs [-getElem?_pos, go_sem, t1, c1], by simp -dsimp -implicitDefEqProofs [-getElem?_pos, go_sem, t2], by simp -dsimp -implicitDefEqProofs [-getElem?_pos, go_sem, t5], by simp -dsimp -implicitDefEqProofs [-getElem?_pos, go_sem, t11], by simp -dsimp -implicitDefEqProofs [-getElem?_pos, go_sem, t12], by simp -dsimp -implicitDefEqProofs [-getElem?_pos, go_sem], by simp -dsimp -implicitDefEqProofs [-getElem?_pos, go_sem, ltq, hq], by simp -dsimp -implicitDefEqProofs [-getElem?_pos, go_sem, lto, ho], by simp -dsimp -implicitDefEqProofs [-getElem?_pos, go_sem]; exact hK.trans (kept_app _ _ _)⟩
    · have d1 : openB l payer k = false := by rw [ob]; simp [c1]
      rw [if_neg (by rw [d1]; simp)] at eo
      simp -dsimp -implicitDefEqProofs [-getElem?_pos, go_sem, hP, t1, t5, t11, t13, ha', lta', ln, hk, rx, c1, ho, lto, wk]
      refine ⟨n - (k + 1), by omega, ?_⟩
      rw [hI]
      exact ⟨k + 1, id, out, by omega, rfl, eo.symm, hid, by simp -dsimp -implicitDefEqProofs [-getElem?_pos, go_sem, t1], by simp -dsimp -implicitDefEqProofs [-getElem?_pos, go_sem, t2], by simp -dsimp -implicitDefEqProofs [-getElem?_pos, go_sem, t5], by simp -dsimp -implicitDefEqProofs [-getElem?_pos, go_sem, t11], by simp -dsimp -implicitDefEqProofs [-getElem?_pos, go_sem, t12], by simp -dsimp -implicitDefEqProofs [-getElem?_pos, go_sem], by simp -dsimp -implicitDefEqProofs [-getElem?_pos, go_sem, ltq, hq], by simp -dsimp -implicitDefEqProofs [-getElem?_pos, go_sem, lto, ho], by simp -dsimp -implicitDefEqProofs [-getElem?_pos, go_sem]; exact hK.trans (kept_app _ _ _)⟩
  · have hk : n = k := by
      have : ¬ k < n := by simpa using h
      omega
    subst hk
    have hmem : ∀ i, i ∈ out → i < l.length := fun i hi => by
      rw [hout] at hi
      have := List.mem_range.1 (List.mem_filter.1 hi).1
      omega
    obtain ⟨fs, hfs⟩ := fin_of l.length out hmem
    have lo : out.length ≤ l.length := by rw [hout, hn]; exact Nat.le_trans (List.length_filter_le _ _) (by simp)
    have hc : Clm s.H H.length p a l := ⟨hq, ⟨B, D, F, by rw [← hn]; exact hp'⟩, by rw [← hPd]; exact ha'⟩
    have ho' : s.H[id]? = some (some ⟨3, 1, encL (encV fun i : Fin l.length => ((i.val : Nat) : Int)) fs⟩) := by rw [encV_map, hfs]; exact ho
    have cm : CmpH (fun i : Fin l.length => ((i.val : Nat) : Int)) (fun i j => decide (dayAt l i.val < dayAt l j.val)) 76 (.ref H.length 0 0) E.row E.src s.H id := ⟨en_76, fun i j o => open1_m (hc.set ho o) i.val j.val i.isLt j.isLt⟩
    have lf : out.length = fs.length := by rw [← hfs, List.length_map]
    have fin : openK l payer = (isort (fun i j : Fin l.length => decide (dayAt l i.val < dayAt l j.val)) fs).map (·.val) := by
      rw [isort_ssort ⟨fun a b h => by simp at h ⊢; omega, fun a b c h1 h2 => by simp at h1 h2 ⊢; omega⟩, ssort_map (lt := fun i j : Fin l.length => decide (dayAt l i.val < dayAt l j.val)) (lt' := fun a b => decide (dayAt l a < dayAt l b)) (fun i : Fin l.length => i.val) (fun _ _ => rfl), hfs, hout, openK_eq, hn]
    have lk : (openK l payer).length = out.length := by rw [fin, List.length_map, isort_len, lf]
    simp -dsimp -implicitDefEqProofs [-getElem?_pos, go_sem, hP, t5, t2]
    refine callB_m (sortStable_i _ _ _ _ cm fs out.length lf (by omega) ho') hP en_75 ?_
    rintro r H' rfl
    simp -dsimp -implicitDefEqProofs [-getElem?_pos, go_sem, hP, t5]
    rw [hC]
    refine ⟨id, by rw [lk], by omega, ?_, kept_new _ (by omega) hK⟩
    rw [List.getElem?_set_self lto, encV_map, ← fin]

theorem openK_lt {l : List TClaim} {payer : Int} {k : Nat} (h : k ∈ openK l payer) : k < l.length := by
  obtain ⟨x, hx, _⟩ := openK_mem.1 h
  exact (List.getElem?_eq_some_iff.1 hx).1
def justB (l : List TClaim) (n : Int) (k : Nat) : Bool := match l[k]? with | some x => decide (x.Open = n) | none => false
theorem exactK_eq (l : List TClaim) (payer n : Int) : exactK l payer n = only ((openK l payer).filter (justB l n)) := rfl
set_option maxHeartbeats 4000000 in
set_option maxRecDepth 8000 in
theorem exact_m {row src : Option Nat} {H : Heap} {p a : Nat} {l : List TClaim} {B D F : AV} (hp : H[p]? = some (some ⟨29, 4, [[.sref a 0 l.length, B, D, F]]⟩)) (ha : H[a]? = some (some ⟨38, 6, encL TClaim.cells l⟩)) (hl : l.length < 20) (payer n : Int) :
    MFun Tryz.prog row src 43 [.ref p 0 0, iv payer, iv n] H (fun r H' => ((exactK l payer n = [] ∧ r = .nil) ∨ ∃ k id tl, exactK l payer n = [k] ∧ r = .sref id 0 1 ∧ H.length ≤ id ∧ H'[id]? = some (some ⟨3, 1, [iv k] :: tl⟩)) ∧ Kept [] H H') := by
  obtain ⟨C, hC⟩ : ∃ C : AV → Heap → Prop, C = fun r H' => ((exactK l payer n = [] ∧ r = .nil) ∨ ∃ k id tl, exactK l payer n = [k] ∧ r = .sref id 0 1 ∧ H.length ≤ id ∧ H'[id]? = some (some ⟨3, 1, [iv (k : Nat)] :: tl⟩)) ∧ Kept [] H H' := ⟨_, rfl⟩
  rw [← hC]
  have ltp := (List.getElem?_eq_some_iff.1 hp).1
  have lta := (List.getElem?_eq_some_iff.1 ha).1
  have two : exactK l payer n = [] ∨ ∃ k, exactK l payer n = [k] := by
    rw [exactK_eq]
    match (openK l payer).filter (justB l n) with
    | [] => exact .inl rfl
    | [k] => exact .inr ⟨k, rfl⟩
    | _ :: _ :: _ => exact .inl rfl
  have ex : ∃ r H', C r H' := by
    rw [hC]
    rcases two with h | ⟨k, h⟩
    · exact ⟨.nil, H, .inl ⟨h, rfl⟩, kept_refl _ _⟩
    · exact ⟨_, H ++ [some ⟨3, 1, [[iv (k : Nat)]]⟩], .inr ⟨k, H.length, [], h, rfl, Nat.le_refl _, by simp⟩, kept_app _ _ _⟩
  refine mfun_intro Tryz.func43 rfl (by simp [Tryz.f43]) (by kernel_rfl) (ex) ?_
  intro E hP hr hs hN
  simp -dsimp -implicitDefEqProofs [-getElem?_pos, go_sem, hP, hp, ltp]
  obtain ⟨H1, hH1⟩ : ∃ H1 : Heap, H1 = H ++ [some ⟨72, 1, [[.ref p 0 0]]⟩, some ⟨3, 1, [[iv n]]⟩] := ⟨_, rfl⟩
  have l1 : H1.length = H.length + 2 := by rw [hH1]; simp
  have k1 : Kept [] H H1 := by rw [hH1]; exact kept_app _ _ _
  have hq : H1[H.length]? = some (some ⟨72, 1, [[.ref p 0 0]]⟩) := by rw [hH1]; simp
  have hz : H1[H.length + 1]? = some (some ⟨3, 1, [[iv n]]⟩) := by rw [hH1, List.getElem?_append_right (by omega)]; simp
  simp only [← hH1]
  refine callB_m (by rw [hr, hs]; exact open_m (k1 _ _ (by simp) hp) (k1 _ _ (by simp) ha) hl payer) hP en_44 ?_
  rintro r H2 ⟨id, rfl, hid, ho, hk⟩
  have hq2 := hk _ _ (by simp) hq
  have hz2 := hk _ _ (by simp) hz
  have hp2 := hk _ _ (by simp) (k1 _ _ (by simp) hp)
  have ha2 := hk _ _ (by simp) (k1 _ _ (by simp) ha)
  have lto := (List.getElem?_eq_some_iff.1 ho).1
  have hc : Clm H2 H.length p a l := ⟨hq2, ⟨B, D, F, hp2⟩, ha2⟩
  obtain ⟨ks, hks⟩ : ∃ ks, ks = openK l payer := ⟨_, rfl⟩
  have klt : ∀ k, k ∈ ks → k < l.length := fun k hk => openK_lt (by rw [← hks]; exact hk)
  have klen : ks.length ≤ 100000 := by
    rw [hks, openK_eq, ssort_len]
    refine Nat.le_trans (List.length_filter_le _ _) ?_
    simp
    omega
  rw [exactK_eq, ← hks] at hC two
  rw [← hks] at ho
  simp only [← hks]
  have hg : ∀ i, i ∈ ks → ∀ o, MFun Tryz.prog E.row E.src 74 (iv (i : Nat) :: [.ref H.length 0 0, .ref (H.length + 1) 0 0]) (H2.set id o) (fun r H'' => r = bv (!justB l n i) ∧ H'' = H2.set id o) := fun i hi o =>
    exact1_m (hc.set ho o) n (by rw [List.getElem?_set_ne (by omega)]; exact hz2) i (klt i hi)
  have df := deleteFunc_i ks id H2 74 [.ref H.length 0 0, .ref (H.length + 1) 0 0] (fun i => !justB l n i) klen ho en_74 hg
  have ef : (ks.filter fun a => !(fun i => !justB l n i) a) = ks.filter (justB l n) := List.filter_congr fun x _ => by simp
  rw [ef] at df
  obtain ⟨fs, hfs⟩ : ∃ fs, fs = ks.filter (justB l n) := ⟨_, rfl⟩
  rw [← hfs] at hC df two
  simp -dsimp -implicitDefEqProofs [-getElem?_pos, go_sem, hP]
  refine callB_m df hP en_73 ?_
  rintro r H3 ⟨tl, rfl, rfl⟩
  have kk : Kept [] H (H2.set id (some ⟨3, 1, encL encN fs ++ tl⟩)) := kept_new _ (by omega) (k1.trans hk)
  have h3 : (H2.set id (some (⟨3, 1, encL encN fs ++ tl⟩ : AObj)))[id]? = some (some ⟨3, 1, encL encN fs ++ tl⟩) := by simp [lto]
  by_cases h1 : fs.length = 1
  · obtain ⟨k, hk1⟩ : ∃ k, fs = [k] := List.length_eq_one_iff.1 h1
    have d : decide ((fs.length : Int) = 1) = true := decide_eq_true (by omega)
    simp -dsimp -implicitDefEqProofs [-getElem?_pos, go_sem, hP, h1, d, h3]
    rw [hC]
    refine ⟨.inr ⟨k, id, tl, by rw [hk1]; rfl, rfl, by omega, ?_⟩, kk⟩
    rw [h3, hk1]
    rfl
  · have d : decide ((fs.length : Int) = 1) = false := decide_eq_false (by omega)
    have e0 : only fs = [] := by
      match fs, h1 with
      | [], _ => rfl
      | _ :: _ :: _, _ => rfl
    simp -dsimp -implicitDefEqProofs [-getElem?_pos, go_sem, hP, h1, d, h3]
    rw [hC]
    exact ⟨.inl ⟨e0, rfl⟩, kk⟩
end Go.Proofs.YtgapbmaehfdkoaaGreatDoor
