/- Several texts of this claim, joined: Rec2 Rec3 Rec4 Rec5 Rec6 Rec7 Rec11 Rec12 Rec13 Rec14. -/
import Derived.Test.YtmpncdlhmknkoaaGreatPk6
set_option linter.unusedSimpArgs false
set_option linter.unusedVariables false
namespace Go.Proofs.YtmpncdlhmknkoaaGreat
open Go.PA
open Go.RowKit
theorem index_pf_entry (l : List TEntry) (g : FuncId) (caps : List AV) (p : TEntry → Bool) (hl : l.length ≤ 1000000) (hen : enterable Tryz.prog g = true) (hcap : ∀ a, a ∈ caps → Imm a)
  (hg : ∀ a, a ∈ l → PFun Tryz.prog none none g (.agg (TEntry.cells a) :: caps) (· = bv (p a))) :
  PFun Tryz.prog none none 134 [.list 6 (encL TEntry.cells l), .fn g caps] (· = iv (idxI p l)) := by
 refine pfun_intro Tryz.func134 rfl (by simp [Tryz.f134]) (by kernel_rfl) ?_
 intro E hP hr hs hW hN
 simp -dsimp -implicitDefEqProofs [-getElem?_pos, go_sem, hP]
 obtain ⟨I, hI⟩ : ∃ I : Nat → St → Prop, I = fun m s => ∃ k : Nat, k ≤ l.length ∧ m = l.length - k ∧ idxI p l = idxFrom p k (l.drop k) ∧ s.t 0 = .list 6 (encL TEntry.cells l) ∧ s.t 1 = .fn g caps ∧ s.t 7 = iv l.length ∧ s.t 8 = iv k := ⟨_, rfl⟩
 refine aloop0 I (l.length) (by rw [hN]; rfl) ?_ ?_
 ·rw [hI]
  exact ⟨0, by omega, by omega, by simp [idxI], by simp -dsimp [-getElem?_pos, go_sem], by simp -dsimp [-getElem?_pos, go_sem], by simp -dsimp [-getElem?_pos, go_sem], by simp -dsimp [-getElem?_pos, go_sem]⟩
 intro m s hs'
 rw [hI] at hs'
 obtain ⟨k, hk, hm, hi, t0, t1, t7, t8⟩ := hs'
 simp -dsimp -implicitDefEqProofs [-getElem?_pos, go_sem, hP, t7, t8]
 refine condP (fun h => ?_) (fun h => ?_)
 ·have hk : k < l.length := by simpa using h
  obtain ⟨a, ha⟩ : ∃ a, l[k]? = some a := ⟨_, List.getElem?_eq_getElem hk⟩
  have wk := wrap_in ((k : Int) + 1) (by omega)
  have hz : (TEntry.cells a).take 6 = TEntry.cells a := List.take_of_length_le (by rw [TEntry.len]; omega)
  have hd : l.drop k = a :: l.drop (k + 1) := by
   rw [List.getElem?_eq_getElem hk] at ha
   rw [List.drop_eq_getElem_cons hk, Option.some.inj ha]
  simp -dsimp -implicitDefEqProofs [-getElem?_pos, go_sem, hP, t8, t1, t0, ha, TEntry.len, hz]
  refine callB_is ((hg a (List.mem_of_getElem? ha)).lift _ _) hP hen (fun x hx => ?_) .sc ?_
  ·rcases List.mem_cons.1 hx with rfl | hx
   ·exact imm_agg.2 (TEntry.imm a)
   ·exact hcap x hx
  rw [hd] at hi
  simp only [idxFrom] at hi
  simp -dsimp -implicitDefEqProofs [-getElem?_pos, go_sem, hP]
  refine condP (fun hp => ?_) (fun hp => ?_)
  ·rw [if_pos hp] at hi
   simp -dsimp -implicitDefEqProofs [-getElem?_pos, go_sem, hP]
   exact hi.symm
  ·rw [hp, if_neg (by simp)] at hi
   simp -dsimp -implicitDefEqProofs [-getElem?_pos, go_sem, hP, t8, wk]
   refine ⟨l.length - (k + 1), by omega, ?_⟩
   rw [hI]
   exact ⟨k + 1, by omega, rfl, hi, by simp -dsimp [-getElem?_pos, go_sem, t0], by simp -dsimp [-getElem?_pos, go_sem, t1], by simp -dsimp [-getElem?_pos, go_sem, t7], by simp -dsimp [-getElem?_pos, go_sem]⟩
 ·have hk : k = l.length := by simp at h; omega
  subst hk
  rw [List.drop_length] at hi
  simp -dsimp -implicitDefEqProofs [-getElem?_pos, go_sem, hP]
  exact hi.symm
theorem clone_m_item {row src : Option Nat} (l : List TItem) (H : Heap) (hl : l.length ≤ 1000000) : MFun Tryz.prog row src 124 [.list 7 (encL TItem.cells l)] H (fun r H' => ∃ id, r = .sref id 0 l.length ∧ H.length ≤ id ∧ H'[id]? = some (some ⟨46, 7, encL TItem.cells l⟩) ∧ Kept [] H H') := by
 have own : MFun Tryz.prog row src 124 [.list 7 (encL TItem.cells l)] H (fun r H' => (r = .nil ∧ l = [] ∧ H' = H) ∨ ∃ id, r = .sref id 0 l.length ∧ H.length ≤ id ∧ H'[id]? = some (some ⟨46, 7, encL TItem.cells l⟩) ∧ Kept [] H H') := by
  cases l with
  | nil =>
   refine mfun_list_nil fun A c => ?_
   refine mfun_intro Tryz.func124 rfl (by simp [Tryz.f124]) (by kernel_rfl) ⟨.nil, H, .inl ⟨rfl, rfl, rfl⟩⟩ ?_
   intro E hP hr hs hN
   cases A with
   | none => simp -dsimp -implicitDefEqProofs [-getElem?_pos, go_sem, hP]
   | some a =>
    simp -dsimp -implicitDefEqProofs [-getElem?_pos, go_sem, hP]
    exact kept_app _ _ _
  | cons a l =>
   refine mfun_intro Tryz.func124 rfl (by simp [Tryz.f124]) (by kernel_rfl) ⟨_, H ++ [some ⟨46, 7, encL TItem.cells (a :: l)⟩], .inr ⟨H.length, rfl, Nat.le_refl _, by simp, kept_push _ (kept_refl _ _)⟩⟩ ?_
   intro E hP hr hs hN
   simp only [List.length_cons] at hl
   have e : encL TItem.cells (a :: l) = TItem.cells a :: encL TItem.cells l := rfl
   simp -dsimp -implicitDefEqProofs [-getElem?_pos, go_sem, hP, e]
   refine ⟨by omega, by omega, ?_⟩
   exact kept_app _ _ _
 refine (own.ownNil 46 7).mono ?_
 rintro r H' (⟨H0, h0, rfl, rfl⟩ | ⟨hne, h⟩)
 ·rcases h0 with ⟨_, rfl, rfl⟩ | ⟨id, h, _⟩
  ·exact ⟨_, rfl, Nat.le_refl _, by simp [encL], kept_push _ (kept_refl _ _)⟩
  ·cases h
 ·rcases h with ⟨h, _⟩ | h
  ·exact absurd h hne
  ·exact h
theorem cQn (q : TQueue) : q.cells = [paysL q.Waiting, numsL q.Known, batsL q.Batches] := rfl
theorem cDn (d : TDesk) : d.cells = [iv d.Account.Credit, subsL d.Account.Subs, entsL d.Account.Entries, paysL d.Queue.Waiting, numsL d.Queue.Known, batsL d.Queue.Batches, itemsL d.Items] := rfl
theorem equalInts_pf (a b : List Int) (ha : a.length ≤ 100000) (hb : b.length ≤ 100000) :
  PFun Tryz.prog none none 55 [.list 1 (encL encI a), .list 1 (encL encI b)] (· = bv (decide (a = b))) := by
 refine pfun_intro Tryz.func55 rfl (by simp [Tryz.f55]) (by kernel_rfl) ?_
 intro E hP hr hs hW hN
 by_cases hlen : a.length = b.length
 rotate_left
 ·have hne : ¬ a = b := fun h => hlen (by rw [h])
  have hl : decide ((a.length : Int) = (b.length : Int)) = false := by simp; omega
  simp -dsimp -implicitDefEqProofs [-getElem?_pos, go_sem, hP, hl, hne]
 have hl : decide ((a.length : Int) = (b.length : Int)) = true := by simp; omega
 simp -dsimp -implicitDefEqProofs [-getElem?_pos, go_sem, hP, hl]
 obtain ⟨I, hI⟩ : ∃ I : Nat → St → Prop, I = fun m s => ∃ k : Nat, k ≤ a.length ∧ m = a.length - k ∧ s.t 0 = .list 1 (encL encI a) ∧ s.t 1 = .list 1 (encL encI b) ∧ s.t 12 = iv a.length ∧ s.t 13 = iv k ∧ a.take k = b.take k := ⟨_, rfl⟩
 refine aloop0 I (a.length) (by rw [hN]; rfl) ?_ ?_
 ·rw [hI]
  exact ⟨0, by omega, by omega, by simp -dsimp [-getElem?_pos, go_sem], by simp -dsimp [-getElem?_pos, go_sem], by simp -dsimp [-getElem?_pos, go_sem], by simp -dsimp [-getElem?_pos, go_sem], by simp⟩
 intro m s hs'
 rw [hI] at hs'
 obtain ⟨k, hk, hm, t0, t1, t12, t13, heq⟩ := hs'
 simp -dsimp -implicitDefEqProofs [-getElem?_pos, go_sem, hP, t12, t13]
 refine condP (fun h => ?_) (fun h => ?_)
 ·have hk : k < a.length := by simpa using h
  obtain ⟨x, hx⟩ : ∃ x, a[k]? = some x := ⟨_, List.getElem?_eq_getElem hk⟩
  obtain ⟨y, hy⟩ : ∃ y, b[k]? = some y := ⟨_, List.getElem?_eq_getElem (by omega)⟩
  have wk := wrap_in ((k : Int) + 1) (by omega)
  have tx : a.take (k + 1) = a.take k ++ [x] := by rw [List.take_add_one, hx]; rfl
  have ty : b.take (k + 1) = b.take k ++ [y] := by rw [List.take_add_one, hy]; rfl
  simp -dsimp -implicitDefEqProofs [-getElem?_pos, go_sem, hP, t13]
  refine adrawB (fun _ => true) [] hP (by kernel_rfl) (by kernel_rfl) ?_
  by_cases hxy : x = y
  ·subst hxy
   simp -dsimp -implicitDefEqProofs [-getElem?_pos, go_sem, hP, t0, t1, hx, hy, encI, t13, wk]
   refine ⟨a.length - (k + 1), by omega, ?_⟩
   rw [hI]
   exact ⟨k + 1, by omega, rfl, by simp -dsimp [-getElem?_pos, go_sem, t0], by simp -dsimp [-getElem?_pos, go_sem, t1], by simp -dsimp [-getElem?_pos, go_sem, t12], by simp -dsimp [-getElem?_pos, go_sem], by rw [tx, ty, heq]⟩
  ·have hne : ¬ a = b := fun h => by
    subst h
    rw [hx] at hy
    exact hxy (Option.some.inj hy)
   have dxy : decide (x = y) = false := decide_eq_false hxy
   simp -dsimp -implicitDefEqProofs [-getElem?_pos, go_sem, hP, t0, t1, hx, hy, encI, t13, wk, dxy, hne]
 ·have hk : k = a.length := by simp at h; omega
  subst hk
  rw [List.take_length] at heq
  rw [hlen, List.take_length] at heq
  simp -dsimp -implicitDefEqProofs [-getElem?_pos, go_sem, hP, heq]
theorem indexPay_pf (l : List TPayment) (v : TPayment) (hl : l.length ≤ 1000000) : PFun Tryz.prog none none 160 [paysL l, .agg v.cells] (· = iv (idxI (fun x => decide (v = x)) l)) := by
 refine pfun_intro Tryz.func160 rfl (by simp [Tryz.f160]) (by kernel_rfl) ?_
 intro E hP hr hs hW hN
 simp -dsimp -implicitDefEqProofs [-getElem?_pos, go_sem, hP, cPy]
 obtain ⟨I, hI⟩ : ∃ I : Nat → St → Prop, I = fun m s => ∃ k : Nat, k ≤ l.length ∧ m = l.length - k ∧ idxI (fun x => decide (v = x)) l = idxFrom (fun x => decide (v = x)) k (l.drop k) ∧ s.t 0 = paysL l ∧ s.t 3 = .ref 0 0 0 ∧ s.t 7 = iv l.length ∧ s.t 8 = iv k ∧ s.H[0]? = some (some ⟨44, 5, [[iv v.Warrant, iv v.Payee, iv v.Amount, iv v.Due, iv v.Sub]]⟩) := ⟨_, rfl⟩
 refine aloop0 I (l.length) (by rw [hN]; rfl) ?_ ?_
 ·rw [hI]
  exact ⟨0, by omega, by omega, by simp [idxI], by simp -dsimp [-getElem?_pos, go_sem], by simp -dsimp [-getElem?_pos, go_sem], by simp -dsimp [-getElem?_pos, go_sem], by simp -dsimp [-getElem?_pos, go_sem], by simp -dsimp [-getElem?_pos, go_sem]⟩
 intro m s hs'
 rw [hI] at hs'
 obtain ⟨k, hk, hm, hi, t0, t3, t7, t8, h0⟩ := hs'
 have lt0 := (gsI h0)
 simp -dsimp -implicitDefEqProofs [-getElem?_pos, go_sem, hP, t7, t8]
 refine condP (fun h => ?_) (fun h => ?_)
 ·have hk : k < l.length := by simpa using h
  obtain ⟨a, ha⟩ : ∃ a, l[k]? = some a := ⟨_, List.getElem?_eq_getElem hk⟩
  have wk := wrap_in ((k : Int) + 1) (by omega)
  rw [drop_at ha] at hi
  simp only [idxFrom] at hi
  simp -dsimp -implicitDefEqProofs [-getElem?_pos, go_sem, hP, t8]
  refine adrawB (fun _ => true) [] hP (by kernel_rfl) (by kernel_rfl) ?_
  by_cases hp : v = a
  ·subst hp
   rw [if_pos (by simp)] at hi
   simp -dsimp -implicitDefEqProofs [-getElem?_pos, go_sem, hP, t8, t3, t0, ha, h0, lt0, cPy]
   exact hi.symm
  ·rw [if_neg (by simpa using hp)] at hi
   simp -dsimp -implicitDefEqProofs [-getElem?_pos, go_sem, hP, t8, t3, t0, ha, h0, lt0, cPy, wk]
   refine condP (fun h => ?_) (fun h => ?_)
   ·exact absurd (by cases v; cases a; simp at h; simp [h]) hp
   ·simp -dsimp -implicitDefEqProofs [-getElem?_pos, go_sem, hP, t8, wk]
    refine ⟨l.length - (k + 1), by omega, ?_⟩
    rw [hI]
    exact ⟨k + 1, by omega, rfl, hi, by simp -dsimp [-getElem?_pos, go_sem, t0], by simp -dsimp [-getElem?_pos, go_sem, t3], by simp -dsimp [-getElem?_pos, go_sem, t7], by simp -dsimp [-getElem?_pos, go_sem], by simp -dsimp [-getElem?_pos, go_sem, h0]⟩
 ·have hk : k = l.length := by simp at h; omega
  subst hk
  rw [List.drop_length] at hi
  simp -dsimp -implicitDefEqProofs [-getElem?_pos, go_sem, hP]
  exact hi.symm
theorem containsPay_pf (l : List TPayment) (v : TPayment) (hl : l.length ≤ 1000000) : PFun Tryz.prog none none 115 [paysL l, .agg v.cells] (· = bv (decide (v ∈ l))) := by
 refine pfun_intro Tryz.func115 rfl (by simp [Tryz.f115]) (by kernel_rfl) ?_
 intro E hP hr hs hW hN
 have ix := indexPay_pf l v hl
 have iv' := imm_pay v
 have il := imm_pays l
 rw [cPy] at ix iv'
 simp -dsimp -implicitDefEqProofs [-getElem?_pos, go_sem, hP, cPy]
 refine callB_is (ix.lift _ _) hP en_160 (by simpa using ⟨il, iv'⟩) .sc ?_
 rcases idxI_spec (fun x => decide (v = x)) l with ⟨h1, h2⟩ | ⟨i, a, h1, h2, h3, _⟩
 ·have : decide (v ∈ l) = false := decide_eq_false fun hv => by simpa using h2 v hv
  simp -dsimp -implicitDefEqProofs [-getElem?_pos, go_sem, hP, h1, this]
 ·have d : decide ((0 : Int) ≤ (i : Int)) = true := decide_eq_true (by omega)
  have hva : v = a := by simpa using h2
  have : decide (v ∈ l) = true := decide_eq_true (hva ▸ List.mem_of_getElem? h1)
  simp -dsimp -implicitDefEqProofs [-getElem?_pos, go_sem, hP, h3, d, this]
def CutI (l : List TItem) (w : Int) (k : Nat) : Prop := k ≤ l.length ∧ ∀ h x, l[h]? = some x → (x.Payment.Warrant < w ↔ h < k)
def PlaceQ (l : List TItem) (w : Int) (r : AV) : Prop := ∃ i : Nat, i ≤ l.length ∧ r = .tup [iv i, bv (decide ((l[i]?).map wrt = some w))] ∧ ∀ k, CutI l w k → i = k
theorem place1_pf (x : TItem) (w : Int) : PFun Tryz.prog none none 120 [.agg x.cells, iv w] (· = iv (cmpI x.Payment.Warrant w)) := by
 refine pfun_intro Tryz.func120 rfl (by simp [Tryz.f120]) (by kernel_rfl) ?_
 intro E hP hr hs hW hN
 simp -dsimp -implicitDefEqProofs [-getElem?_pos, go_sem, hP, cIt]
 refine callB_pure (compare_pf x.Payment.Warrant w) hP en_121 (args_same (by simp -dsimp [-getElem?_pos, go_sem])) .sc ?_
 simp -dsimp -implicitDefEqProofs [-getElem?_pos, go_sem, hP]
theorem cmpI_lt (a b : Int) : decide (cmpI a b < 0) = decide (a < b) := by
 rw [decide_eq_decide]
 simp only [cmpI]
 repeat' split
 all_goals omega
theorem cmpI_eq (a b : Int) : decide (cmpI a b = 0) = decide (a = b) := by
 rw [decide_eq_decide]
 simp only [cmpI]
 repeat' split
 all_goals omega
set_option maxHeartbeats 1000000 in
theorem bsfItem_pf (l : List TItem) (w : Int) (hl : l.length ≤ 1000000) : PFun Tryz.prog none none 119 [itemsL l, iv w, .fn 120 []] (PlaceQ l w) := by
 refine pfun_intro Tryz.func119 rfl (by simp [Tryz.f119]) (by kernel_rfl) ?_
 intro E hP hr hs hW hN
 simp -dsimp -implicitDefEqProofs [-getElem?_pos, go_sem, hP]
 obtain ⟨I, hI⟩ : ∃ I : Nat → St → Prop, I = fun m s => ∃ i j : Nat, (∀ k, CutI l w k → i ≤ k ∧ k ≤ j) ∧ i ≤ j ∧ j ≤ l.length ∧ m = j - i ∧ s.t 0 = itemsL l ∧ s.t 1 = iv w ∧ s.t 2 = .fn 120 [] ∧ s.t 8 = iv l.length ∧ s.t 9 = iv i ∧ s.t 10 = iv j := ⟨_, rfl⟩
 refine aloop0 I (l.length) (by rw [hN]; rfl) ?_ ?_
 ·rw [hI]
  exact ⟨0, l.length, fun k hk => ⟨by omega, hk.1⟩, by omega, by omega, rfl, by simp -dsimp [-getElem?_pos, go_sem], by simp -dsimp [-getElem?_pos, go_sem], by simp -dsimp [-getElem?_pos, go_sem], by simp -dsimp [-getElem?_pos, go_sem], by simp -dsimp [-getElem?_pos, go_sem], by simp -dsimp [-getElem?_pos, go_sem]⟩
 intro m s hs'
 rw [hI] at hs'
 obtain ⟨i, j, hc, hij, hjl, hm', t0, t1, t2, t8, t9, t10⟩ := hs'
 simp -dsimp -implicitDefEqProofs [-getElem?_pos, go_sem, hP, t9, t10]
 refine condP (fun h => ?_) (fun h => ?_)
 ·have hij : i < j := by simpa using h
  have w1 := wrap_in ((i : Int) + j) (by omega)
  have wu : IntKind.u64.wrap ((i : Int) + j) = (i : Int) + j := by rw [IntKind.wrap_u64]; omega
  obtain ⟨h, hh⟩ : ∃ h, h = (i + j) / 2 := ⟨_, rfl⟩
  have wh : IntKind.i64.wrap (((i : Int) + j) / 2) = (h : Int) := by rw [wrap_in _ (by omega)]; omega
  obtain ⟨a, ha⟩ : ∃ a, l[h]? = some a := ⟨_, List.getElem?_eq_getElem (by omega)⟩
  have w2 := wrap_in ((h : Int) + 1) (by omega)
  have ia := imm_item a
  have cm := place1_pf a w
  rw [cIt] at cm ia
  have cl := cmpI_lt a.Payment.Warrant w
  simp -dsimp -implicitDefEqProofs [-getElem?_pos, go_sem, hP, t9, t10, w1, wu, aconv, aint_shr, wh, t0, t1, t2, ha, cIt]
  refine callB_is (cm.lift _ _) hP en_120 (by simpa [imm_sc] using ia) .sc ?_
  by_cases c : a.Payment.Warrant < w
  ·have c1 : decide (cmpI a.Payment.Warrant w < 0) = true := by rw [cl]; exact decide_eq_true c
   simp -dsimp -implicitDefEqProofs [-getElem?_pos, go_sem, hP, c1, w2]
   refine ⟨j - (h + 1), by omega, ?_⟩
   rw [hI]
   exact ⟨h + 1, j, fun k hk => ⟨by have := (hk.2 h a ha).1 c; omega, (hc k hk).2⟩, by omega, by omega, rfl, by simp -dsimp [-getElem?_pos, go_sem, t0], by simp -dsimp [-getElem?_pos, go_sem, t1], by simp -dsimp [-getElem?_pos, go_sem, t2], by simp -dsimp [-getElem?_pos, go_sem, t8], by simp -dsimp [-getElem?_pos, go_sem], by simp -dsimp [-getElem?_pos, go_sem, t10]⟩
  ·have c1 : decide (cmpI a.Payment.Warrant w < 0) = false := by rw [cl]; exact decide_eq_false c
   simp -dsimp -implicitDefEqProofs [-getElem?_pos, go_sem, hP, c1]
   refine ⟨h - i, by omega, ?_⟩
   rw [hI]
   exact ⟨i, h, fun k hk => ⟨(hc k hk).1, by have := mt (hk.2 h a ha).2 c; omega⟩, by omega, by omega, rfl, by simp -dsimp [-getElem?_pos, go_sem, t0], by simp -dsimp [-getElem?_pos, go_sem, t1], by simp -dsimp [-getElem?_pos, go_sem, t2], by simp -dsimp [-getElem?_pos, go_sem, t8], by simp -dsimp [-getElem?_pos, go_sem, t9], by simp -dsimp [-getElem?_pos, go_sem]⟩
 ·have hik : i = j := by
   have : ¬ i < j := by simpa using h
   omega
  subst hik
  have fin : PlaceQ l w (.tup [iv i, bv (decide ((l[i]?).map wrt = some w))]) := ⟨i, hjl, rfl, fun k hk => by have := hc k hk; omega⟩
  by_cases c : i < l.length
  ·obtain ⟨a, ha⟩ : ∃ a, l[i]? = some a := ⟨_, List.getElem?_eq_getElem c⟩
   have d : decide ((i : Int) < (l.length : Int)) = true := decide_eq_true (by omega)
   have ia := imm_item a
   have cm := place1_pf a w
   rw [cIt] at cm ia
   rw [ha] at fin
   have e : decide (Option.map wrt (some a) = some w) = decide (cmpI a.Payment.Warrant w = 0) := by rw [cmpI_eq, decide_eq_decide]; simp [wrt]
   rw [e] at fin
   simp -dsimp -implicitDefEqProofs [-getElem?_pos, go_sem, hP, t9, t8, c, d, t0, t1, t2, ha, cIt]
   refine callB_is (cm.lift _ _) hP en_120 (by simpa [imm_sc] using ia) .sc ?_
   simp -dsimp -implicitDefEqProofs [-getElem?_pos, go_sem, hP, t9, t8, c, d, t0, t2, ha]
   exact done_imm (imm_pair .sc .sc) fin
  ·have d : decide ((i : Int) < (l.length : Int)) = false := decide_eq_false (by omega)
   rw [List.getElem?_eq_none (by omega)] at fin
   simp -dsimp -implicitDefEqProofs [-getElem?_pos, go_sem, hP, t9, t8, c, d]
   exact done_imm (imm_pair .sc .sc) (by simpa using fin)
theorem CutI.uniq {l : List TItem} {w : Int} {j k : Nat} (hj : CutI l w j) (hk : CutI l w k) : j = k := by
 have key : ∀ {j k : Nat}, CutI l w j → CutI l w k → ¬ j < k := fun {j k} hj hk h => by
  obtain ⟨x, hx⟩ : ∃ x, l[j]? = some x := ⟨_, List.getElem?_eq_getElem (by have := hk.1; omega)⟩
  have h1 := (hk.2 j x hx).2 h
  have h2 := (hj.2 j x hx).1 h1
  omega
 have := key hj hk
 have := key hk hj
 omega
theorem placeQ_ex (l : List TItem) (w : Int) : ∃ r, PlaceQ l w r ∧ Imm r := by
 by_cases h : ∃ k, CutI l w k
 ·obtain ⟨k, hk⟩ := h
  exact ⟨_, ⟨k, hk.1, rfl, fun j hj => hk.uniq hj⟩, imm_pair .sc .sc⟩
 ·exact ⟨_, ⟨0, by omega, rfl, fun j hj => absurd ⟨j, hj⟩ h⟩, imm_pair .sc .sc⟩
theorem PlaceQ.flat {l : List TItem} {w : Int} {r : AV} (h : PlaceQ l w r) : Flat r := by
 obtain ⟨i, _, rfl, _⟩ := h
 simp [flat_tup, flat_sc]
theorem place_pf (d : TDesk) (w : Int) (hl : d.Items.length ≤ 1000000) : PFun Tryz.prog none none 56 [.agg d.cells, iv w] (PlaceQ d.Items w) := by
 refine pfun_intro Tryz.func56 rfl (by simp [Tryz.f56]) (by kernel_rfl) ?_
 intro E hP hr hs hW hN
 have ii := imm_items d.Items
 simp -dsimp -implicitDefEqProofs [-getElem?_pos, go_sem, hP, cDn]
 refine callB_isQ ((bsfItem_pf d.Items w hl).lift _ _) hP en_119 (by simp [imm_sc, imm_fn, ii]) (placeQ_ex _ _) ?_
 rintro r ⟨i, h1, rfl, h2⟩ _
 simp -dsimp -implicitDefEqProofs [-getElem?_pos, go_sem, hP]
 exact done_imm (imm_pair .sc .sc) ⟨i, h1, by simp, h2⟩
open Go.PA
open Go.RowKit
theorem out_pf (x : TItem) : PFun Tryz.prog none none 162 [.agg x.cells] (· = bv (goneB x)) := by
 refine pfun_intro Tryz.func162 rfl (by simp [Tryz.f162]) (by kernel_rfl) ?_
 intro E hP hr hs hW hN
 by_cases h1 : x.State = 2
 ·simp -dsimp -implicitDefEqProofs [-getElem?_pos, go_sem, hP, cIt, h1, goneB]
 ·have d1 := decide_eq_false h1
  simp -dsimp -implicitDefEqProofs [-getElem?_pos, go_sem, hP, cIt, h1, d1, goneB]
theorem lastDay_pf (a : TAccount) (he : a.Entries.length ≤ 100000) : PFun Tryz.prog none none 57 [.agg a.cells] (· = iv (lastDay a)) := by
 refine pfun_intro Tryz.func57 rfl (by simp [Tryz.f57]) (by kernel_rfl) ?_
 intro E hP hr hs hW hN
 by_cases h0 : a.Entries.length = 0
 ·have d0 : decide (0 < a.Entries.length) = false := decide_eq_false (by omega)
  have : lastDay a = 0 := by rw [lastDay, lastE_nil h0]
  simp -dsimp -implicitDefEqProofs [-getElem?_pos, go_sem, hP, cA, d0, this]
 ·obtain ⟨k, hk⟩ : ∃ k, a.Entries.length = k + 1 := ⟨a.Entries.length - 1, by omega⟩
  obtain ⟨e, hee⟩ : ∃ e, a.Entries[k]? = some e := ⟨_, List.getElem?_eq_getElem (by omega)⟩
  have d0 : decide ((0 : Int) < (k : Int) + 1) = true := by simp
  have wk := wrap_in ((k : Int) + 1 - 1) (by omega)
  rw [Int.add_sub_cancel] at wk
  have : lastDay a = e.Day := by rw [lastDay, lastE_get hk hee]
  simp -dsimp -implicitDefEqProofs [-getElem?_pos, go_sem, hP, cA, hk, d0, Int.add_sub_cancel, wk, hee, cE, this]
theorem sent1_pf (p : TPayment) (w : Int) : PFun Tryz.prog none none 161 [.agg p.cells, .iref [iv w]] (· = bv (hasW w p)) := by
 refine pfun_intro Tryz.func161 rfl (by simp [Tryz.f161]) (by kernel_rfl) ?_
 intro E hP hr hs hW hN
 simp -dsimp -implicitDefEqProofs [-getElem?_pos, go_sem, hP, cPy, hasW]
theorem sent_pf (q : TQueue) (w : Int) (hf : FitQ q) : PFun Tryz.prog none none 117 [.agg q.cells, iv w] (· = iv (sentN q w)) := by
 refine pfun_intro Tryz.func117 rfl (by simp [Tryz.f117]) (by kernel_rfl) ?_
 intro E hP hr hs hW hN
 obtain ⟨R, hR⟩ : ∃ R, R = sentN q w := ⟨_, rfl⟩
 rw [← hR]
 rw [sentN] at hR
 have lb := hf.b
 have each := hf.each
 obtain ⟨l, hl⟩ : ∃ l, l = q.Batches := ⟨_, rfl⟩
 rw [← hl] at hR lb each
 simp -dsimp -implicitDefEqProofs [-getElem?_pos, go_sem, hP, cQn, ← hl]
 obtain ⟨I, hI⟩ : ∃ I : Nat → St → Prop, I = fun m s => ∃ k : Nat, k ≤ l.length ∧ m = l.length - k ∧ s.t 3 = .ref 1 0 0 ∧ s.t 5 = iv ((l.take k).countP fun b => b.Payments.any (hasW w)) ∧ s.t 9 = batsL l ∧ s.t 10 = iv l.length ∧ s.t 11 = iv k ∧ s.H[1]? = some (some ⟨3, 1, [[iv w]]⟩) := ⟨_, rfl⟩
 refine aloop0 I (l.length) (by rw [hN]; rfl) ?_ ?_
 ·rw [hI]
  exact ⟨0, by omega, by omega, by simp -dsimp [-getElem?_pos, go_sem], by simp -dsimp [-getElem?_pos, go_sem], by simp -dsimp [-getElem?_pos, go_sem], by simp -dsimp [-getElem?_pos, go_sem], by simp -dsimp [-getElem?_pos, go_sem], by simp -dsimp [-getElem?_pos, go_sem]⟩
 intro m s hs'
 rw [hI] at hs'
 obtain ⟨k, hk, hm, t3, t5, t9, t10, t11, h1⟩ := hs'
 have lt1 := (gsI h1)
 simp -dsimp -implicitDefEqProofs [-getElem?_pos, go_sem, hP, t10, t11]
 refine condP (fun h => ?_) (fun h => ?_)
 ·have hk : k < l.length := by simpa using h
  obtain ⟨b, hb⟩ : ∃ b, l[k]? = some b := ⟨_, List.getElem?_eq_getElem hk⟩
  have wk := wrap_in ((k : Int) + 1) (by omega)
  have hbl := each b (List.mem_of_getElem? hb)
  have ip := imm_pays b.Payments
  have g1 : ∀ x : Option AObj, (s.H ++ [x])[1]? = some (some ⟨3, 1, [[iv w]]⟩) := fun x => by rw [List.getElem?_append_left lt1]; exact h1
  have es : (l.take (k + 1)).countP (fun b => b.Payments.any (hasW w)) = (l.take k).countP (fun b => b.Payments.any (hasW w)) + if b.Payments.any (hasW w) = true then 1 else 0 := by rw [take_at hb, List.countP_append, List.countP_cons, List.countP_nil, Nat.zero_add]
  have lc := List.countP_le_length (p := fun b : TBatch => b.Payments.any (hasW w)) (l := l.take k)
  rw [List.length_take] at lc
  generalize (l.take k).countP (fun b => b.Payments.any (hasW w)) = c at es t5 lc
  have wc := wrap_in ((c : Int) + 1) (by omega)
  simp -dsimp -implicitDefEqProofs [-getElem?_pos, go_sem, hP, t9, t11, hb, cBt, t3]
  refine callB_pure (contains_pf_pay b.Payments 161 [.iref [iv w]] (hasW w) (by omega) en_161 (by simp [imm_iref, imm_sc]) fun p _ => sent1_pf p w) hP en_158 (args_imm ip (args_fnc (cs := [.ref 1 0 0]) (by simp -dsimp [-getElem?_pos, go_sem, viewR_ref, g1, lt1, h1]) (by simp [imm_iref, imm_sc]) (args_nil.2 trivial))) .sc ?_
  cases hc : b.Payments.any (hasW w)
  ·rw [hc] at es
   simp -dsimp -implicitDefEqProofs [-getElem?_pos, go_sem, hP, t5, t11, wk]
   refine ⟨l.length - (k + 1), by omega, ?_⟩
   rw [hI]
   exact ⟨k + 1, by omega, rfl, by simp -dsimp [-getElem?_pos, go_sem, t3], by simp -dsimp [-getElem?_pos, go_sem, t5, es], by simp -dsimp [-getElem?_pos, go_sem, t9], by simp -dsimp [-getElem?_pos, go_sem, t10], by simp -dsimp [-getElem?_pos, go_sem], by simp -dsimp [-getElem?_pos, go_sem, lt1, h1]⟩
  ·rw [hc] at es
   simp -dsimp -implicitDefEqProofs [-getElem?_pos, go_sem, hP, t5, t11, wk, wc]
   refine ⟨l.length - (k + 1), by omega, ?_⟩
   rw [hI]
   exact ⟨k + 1, by omega, rfl, by simp -dsimp [-getElem?_pos, go_sem, t3], by simp -dsimp [-getElem?_pos, go_sem, es], by simp -dsimp [-getElem?_pos, go_sem, t9], by simp -dsimp [-getElem?_pos, go_sem, t10], by simp -dsimp [-getElem?_pos, go_sem], by simp -dsimp [-getElem?_pos, go_sem, lt1, h1]⟩
 ·have hk : k = l.length := by simp at h; omega
  subst hk
  rw [List.take_length] at t5
  simp -dsimp -implicitDefEqProofs [-getElem?_pos, go_sem, hP, t5, hR]
theorem moved_pf (a : TAccount) (x : TItem) (he : a.Entries.length ≤ 100000) (hs1 : 1 ≤ x.Payment.Sub) : PFun Tryz.prog none none 118 [.agg a.cells, .agg x.cells] (· = bv (movedB a x)) := by
 refine pfun_intro Tryz.func118 rfl (by simp [Tryz.f118]) (by kernel_rfl) ?_
 intro E hP hr hs hW hN
 have ix := imm_item x
 have ot := out_pf x
 rw [cIt] at ix ot
 obtain ⟨R, hR⟩ : ∃ R, R = movedB a x := ⟨_, rfl⟩
 rw [← hR]
 rw [movedB] at hR
 obtain ⟨l, hl⟩ : ∃ l, l = a.Entries := ⟨_, rfl⟩
 rw [← hl] at hR he
 simp -dsimp -implicitDefEqProofs [-getElem?_pos, go_sem, hP, cA, cIt, ← hl]
 obtain ⟨I, hI⟩ : ∃ I : Nat → St → Prop, I = fun m s => ∃ k : Nat, k ≤ l.length ∧ m = l.length - k ∧ (l.take k).all (okE x.Payment) = true ∧ s.t 3 = .ref 1 0 0 ∧ s.t 5 = iv ((l.take k).countP (outE x.Payment)) ∧ s.t 6 = iv ((l.take k).countP (inE x.Payment)) ∧ s.t 10 = entsL l ∧ s.t 11 = iv l.length ∧ s.t 12 = iv k ∧ s.H[1]? = some (some ⟨46, 7, [[iv x.Payment.Warrant, iv x.Payment.Payee, iv x.Payment.Amount, iv x.Payment.Due, iv x.Payment.Sub, iv x.State, iv x.Attempts]]⟩) := ⟨_, rfl⟩
 refine aloop0 I (l.length) (by rw [hN]; rfl) ?_ ?_
 ·rw [hI]
  exact ⟨0, by omega, by omega, by simp, by simp -dsimp [-getElem?_pos, go_sem], by simp -dsimp [-getElem?_pos, go_sem], by simp -dsimp [-getElem?_pos, go_sem], by simp -dsimp [-getElem?_pos, go_sem], by simp -dsimp [-getElem?_pos, go_sem], by simp -dsimp [-getElem?_pos, go_sem], by simp -dsimp [-getElem?_pos, go_sem]⟩
 intro m s hs'
 rw [hI] at hs'
 obtain ⟨k, hk, hm, hall, t3, t5, t6, t10, t11, t12, h1⟩ := hs'
 have lt1 := (gsI h1)
 have lo := List.countP_le_length (p := outE x.Payment) (l := l.take k)
 have li := List.countP_le_length (p := inE x.Payment) (l := l.take k)
 rw [List.length_take] at lo li
 simp -dsimp -implicitDefEqProofs [-getElem?_pos, go_sem, hP, t11, t12]
 refine condP (fun h => ?_) (fun h => ?_)
 ·have hk : k < l.length := by simpa using h
  obtain ⟨e, hee⟩ : ∃ e, l[k]? = some e := ⟨_, List.getElem?_eq_getElem hk⟩
  have wk := wrap_in ((k : Int) + 1) (by omega)
  have g1 : ∀ y : Option AObj, (s.H ++ [y])[1]? = some (some ⟨46, 7, [[iv x.Payment.Warrant, iv x.Payment.Payee, iv x.Payment.Amount, iv x.Payment.Due, iv x.Payment.Sub, iv x.State, iv x.Attempts]]⟩) := fun y => by rw [List.getElem?_append_left lt1]; exact h1
  have eo : (l.take (k + 1)).countP (outE x.Payment) = (l.take k).countP (outE x.Payment) + if outE x.Payment e = true then 1 else 0 := by rw [take_at hee, List.countP_append, List.countP_cons, List.countP_nil, Nat.zero_add]
  have ei : (l.take (k + 1)).countP (inE x.Payment) = (l.take k).countP (inE x.Payment) + if inE x.Payment e = true then 1 else 0 := by rw [take_at hee, List.countP_append, List.countP_cons, List.countP_nil, Nat.zero_add]
  have ea : (l.take (k + 1)).all (okE x.Payment) = okE x.Payment e := by rw [take_at hee, List.all_append, hall]; simp
  generalize (l.take k).countP (outE x.Payment) = co at eo t5 lo
  generalize (l.take k).countP (inE x.Payment) = ci at ei t6 li
  have wo := wrap_in ((co : Int) + 1) (by omega)
  have wi := wrap_in ((ci : Int) + 1) (by omega)
  have fin : ∀ s' : St, okE x.Payment e = true → s'.t 3 = .ref 1 0 0 → s'.t 5 = iv ((l.take (k + 1)).countP (outE x.Payment)) → s'.t 6 = iv ((l.take (k + 1)).countP (inE x.Payment)) → s'.t 10 = entsL l → s'.t 11 = iv l.length → s'.t 12 = iv (k + 1) → s'.H[1]? = some (some ⟨46, 7, [[iv x.Payment.Warrant, iv x.Payment.Payee, iv x.Payment.Amount, iv x.Payment.Due, iv x.Payment.Sub, iv x.State, iv x.Attempts]]⟩) → ∃ m', m' < m ∧ I m' s' := fun s' a1 a2 a3 a4 a5 a6 a7 a8 => by
   refine ⟨l.length - (k + 1), by omega, ?_⟩
   rw [hI]
   exact ⟨k + 1, by omega, rfl, by rw [ea]; exact a1, a2, a3, a4, a5, a6, a7, a8⟩
  have bad : okE x.Payment e = false → R = false := fun h => by
   rw [hR, Bool.and_eq_false_iff]
   refine .inl (List.all_eq_false.2 ⟨e, List.mem_of_getElem? hee, by simp [h]⟩)
  by_cases c1 : e.Ref = x.Payment.Warrant
  rotate_left
  ·have d1 := decide_eq_false c1
   rw [show outE x.Payment e = false by simp [outE, d1], if_neg (by simp)] at eo
   rw [show inE x.Payment e = false by simp [inE, d1], if_neg (by simp)] at ei
   simp -dsimp -implicitDefEqProofs [-getElem?_pos, go_sem, hP, t10, t12, hee, cE, t3, g1, lt1, h1, c1, d1, wk]
   exact fin _ (by simp [okE, d1]) (by simp -dsimp [-getElem?_pos, go_sem, t3]) (by simp -dsimp [-getElem?_pos, go_sem, t5, eo]) (by simp -dsimp [-getElem?_pos, go_sem, t6, ei]) (by simp -dsimp [-getElem?_pos, go_sem, t10]) (by simp -dsimp [-getElem?_pos, go_sem, t11]) (by simp -dsimp [-getElem?_pos, go_sem]) (by simp -dsimp [-getElem?_pos, go_sem, lt1, h1])
  have d1 : decide (e.Ref = x.Payment.Warrant) = true := decide_eq_true c1
  have bool1 : ∀ a b c d f : Bool, (a && (b && c)) = false → (d && (f && c)) = false → (!true || (c && (a && b || d && f))) = false := by decide
  simp -dsimp -implicitDefEqProofs [-getElem?_pos, go_sem, hP, t10, t12, hee, cE, t3, g1, lt1, h1, c1]
  refine condP (fun q1 => ?_) (fun q1 => ?_)
  ·simp only [Bool.and_eq_true, decide_eq_true_eq] at q1
   obtain ⟨q1, q2, q3⟩ := q1
   rw [show outE x.Payment e = true by simp [outE, c1, q1, q2], if_pos rfl] at eo
   rw [show inE x.Payment e = false by simp [inE, c1, q1]; omega, if_neg (by simp)] at ei
   simp -dsimp -implicitDefEqProofs [-getElem?_pos, go_sem, hP, t5, t12, wo, wk]
   exact fin _ (by simp [okE, d1, q1, q2, q3]) (by simp -dsimp [-getElem?_pos, go_sem, t3]) (by simp -dsimp [-getElem?_pos, go_sem, eo]) (by simp -dsimp [-getElem?_pos, go_sem, t6, ei]) (by simp -dsimp [-getElem?_pos, go_sem, t10]) (by simp -dsimp [-getElem?_pos, go_sem, t11]) (by simp -dsimp [-getElem?_pos, go_sem]) (by simp -dsimp [-getElem?_pos, go_sem, lt1, h1])
  simp -dsimp -implicitDefEqProofs [-getElem?_pos, go_sem, hP, t3, g1, lt1, h1]
  refine condP (fun q5 => ?_) (fun q5 => ?_)
  ·simp only [Bool.and_eq_true, decide_eq_true_eq] at q5
   obtain ⟨q5, q6, q7⟩ := q5
   rw [show outE x.Payment e = false by simp [outE, c1, q5]; omega, if_neg (by simp)] at eo
   rw [show inE x.Payment e = true by simp [inE, c1, q5, q6], if_pos rfl] at ei
   simp -dsimp -implicitDefEqProofs [-getElem?_pos, go_sem, hP, t6, t12, wi, wk]
   exact fin _ (by simp [okE, d1, q5, q6, q7]) (by simp -dsimp [-getElem?_pos, go_sem, t3]) (by simp -dsimp [-getElem?_pos, go_sem, t5, eo]) (by simp -dsimp [-getElem?_pos, go_sem, ei]) (by simp -dsimp [-getElem?_pos, go_sem, t10]) (by simp -dsimp [-getElem?_pos, go_sem, t11]) (by simp -dsimp [-getElem?_pos, go_sem]) (by simp -dsimp [-getElem?_pos, go_sem, lt1, h1])
  have := bad (by rw [okE, d1]; exact bool1 _ _ _ _ _ q1 q5)
  simp -dsimp -implicitDefEqProofs [-getElem?_pos, go_sem, hP, this]
 ·have hk : k = l.length := by simp at h; omega
  subst hk
  rw [List.take_length] at t5 t6 hall lo li
  rw [hall, Bool.true_and] at hR
  generalize l.countP (outE x.Payment) = co at hR t5 lo
  generalize l.countP (inE x.Payment) = ci at hR t6 li
  have wi := wrap_in ((ci : Int) + 1) (by omega)
  simp -dsimp -implicitDefEqProofs [-getElem?_pos, go_sem, hP, t3, h1, lt1]
  refine callB_is (ot.lift _ _) hP en_162 (by simpa using ix) .sc ?_
  cases hg : goneB x
  ·rw [show goneN x = 0 by simp [goneN, hg]] at hR
   by_cases c2 : (co : Int) = x.Attempts
   ·have d2 := decide_eq_true c2
    rw [d2, Bool.true_and] at hR
    simp -dsimp -implicitDefEqProofs [-getElem?_pos, go_sem, hP, hg, t5, t6, t3, h1, lt1, d2, hR, c2]
   ·have d2 := decide_eq_false c2
    rw [d2, Bool.false_and] at hR
    simp -dsimp -implicitDefEqProofs [-getElem?_pos, go_sem, hP, hg, t5, t6, t3, h1, lt1, d2, hR, c2]
  ·rw [show goneN x = 1 by simp [goneN, hg]] at hR
   by_cases c2 : (co : Int) = x.Attempts
   ·have d2 := decide_eq_true c2
    rw [d2, Bool.true_and] at hR
    simp -dsimp -implicitDefEqProofs [-getElem?_pos, go_sem, hP, hg, t5, t6, t3, h1, lt1, d2, hR, c2, wi]
   ·have d2 := decide_eq_false c2
    rw [d2, Bool.false_and] at hR
    simp -dsimp -implicitDefEqProofs [-getElem?_pos, go_sem, hP, hg, t5, t6, t3, h1, lt1, d2, hR, c2, wi]
open Go.PA
open Go.RowKit
abbrev deskO (d : TDesk) : AObj := ⟨35, 7, [[iv d.Account.Credit, subsL d.Account.Subs, entsL d.Account.Entries, paysL d.Queue.Waiting, numsL d.Queue.Known, batsL d.Queue.Batches, itemsL d.Items]]⟩
abbrev itemO (x : TItem) : AObj := ⟨46, 7, [[iv x.Payment.Warrant, iv x.Payment.Payee, iv x.Payment.Amount, iv x.Payment.Due, iv x.Payment.Sub, iv x.State, iv x.Attempts]]⟩
set_option maxHeartbeats 2000000 in
theorem right_pf (d : TDesk) (x : TItem) (hf : FitD d) : PFun Tryz.prog none none 54 [.agg d.cells, .agg x.cells] (· = bv (rightB d x)) := by
 refine pfun_introA Tryz.func54 rfl (by simp [Tryz.f54]) ?_
 intro E hP hr hs hW hN
 have ix := imm_item x
 have ia := imm_acc d.Account
 have iq := imm_que d.Queue
 have ip := imm_pay x.Payment
 have i1 := imm_pays d.Queue.Waiting
 have bl := balance_pf d.Account x.Payment.Sub hf.s hf.e
 have py := bpay_pf x.Payment
 have cp := containsPay_pf d.Queue.Waiting x.Payment (by have := hf.q.w; omega)
 have sn := sent_pf d.Queue x.Payment.Warrant hf.q
 have mv := fun h => moved_pf d.Account x hf.e h
 rw [cIt] at ix
 rw [cA] at ia bl
 rw [cPy] at ip py cp
 rw [cQn] at iq sn
 rw [cA, cIt] at mv
 obtain ⟨R, hR⟩ : ∃ R, R = rightB d x := ⟨_, rfl⟩
 rw [← hR]
 rw [rightB] at hR
 refine awp_cut (by rw [hN]; kernel_rfl) ?_
 simp -dsimp -implicitDefEqProofs [-getElem?_pos, go_sem, hP, cDn, cIt]
 refine awp_cut (by rw [hN]; kernel_rfl) ?_
 simp -dsimp -implicitDefEqProofs [-getElem?_pos, go_sem, hP]
 obtain ⟨Inv, hInv⟩ : ∃ Inv : St → Prop, Inv = fun s => s.t 2 = .ref 0 0 0 ∧ s.t 3 = .ref 1 0 0 ∧ s.t 5 = iv (mostI x) ∧ s.t 6 = iv (leastI x) ∧ s.H = [some (deskO d), some (itemO x)] := ⟨_, rfl⟩
 refine awp_join Inv (by rw [hN]; kernel_rfl) ?_ ?_
 ·by_cases s1 : x.State = 1
  ·have e1 : mostI x = 4 := by rw [mostI, if_pos s1]
   have e2 : leastI x = 0 := by rw [leastI, if_pos s1]
   simp -dsimp -implicitDefEqProofs [-getElem?_pos, go_sem, hP, s1]
   refine ⟨_, Weaker.refl _, ?_⟩
   rw [hInv]
   exact ⟨by simp -dsimp [-getElem?_pos, go_sem], by simp -dsimp [-getElem?_pos, go_sem], by simp -dsimp [-getElem?_pos, go_sem, e1], by simp -dsimp [-getElem?_pos, go_sem, e2], by simp [s1]⟩
  have d1 := decide_eq_false s1
  have e1 : mostI x = 5 := by rw [mostI, if_neg s1]
  by_cases s5 : x.State = 5
  ·have e2 : leastI x = 0 := by rw [leastI, if_neg s1, if_pos s5]
   simp -dsimp -implicitDefEqProofs [-getElem?_pos, go_sem, hP, s1, d1, s5]
   refine ⟨_, Weaker.refl _, ?_⟩
   rw [hInv]
   exact ⟨by simp -dsimp [-getElem?_pos, go_sem], by simp -dsimp [-getElem?_pos, go_sem], by simp -dsimp [-getElem?_pos, go_sem, e1], by simp -dsimp [-getElem?_pos, go_sem, e2], by simp [s5]⟩
  ·have d5 := decide_eq_false s5
   have e2 : leastI x = 1 := by rw [leastI, if_neg s1, if_neg s5]
   simp -dsimp -implicitDefEqProofs [-getElem?_pos, go_sem, hP, s1, d1, s5, d5]
   refine ⟨_, Weaker.refl _, ?_⟩
   rw [hInv]
   exact ⟨by simp -dsimp [-getElem?_pos, go_sem], by simp -dsimp [-getElem?_pos, go_sem], by simp -dsimp [-getElem?_pos, go_sem, e1], by simp -dsimp [-getElem?_pos, go_sem, e2], rfl⟩
 intro s hs'
 rw [hInv] at hs'
 obtain ⟨t2, t3, t5, t6, hH⟩ := hs'
 clear hInv Inv
 refine awp_sound _ _ _ (by rw [hN]; kernel_rfl) ?_
 simp -dsimp -implicitDefEqProofs [-getElem?_pos, go_sem, hP, t2, t3, hH]
 refine callB_is (cp.lift _ _) hP en_115 (by simpa using ⟨i1, ip⟩) .sc ?_
 simp -dsimp -implicitDefEqProofs [-getElem?_pos, go_sem, hP, t2, t3, hH]
 refine callB_is (bl.lift _ _) hP en_70 (by simpa [imm_sc] using ia) (imm_pair .sc .sc) ?_
 simp -dsimp -implicitDefEqProofs [-getElem?_pos, go_sem, hP, t2, t3, hH]
 refine adrawB (fun _ => true) [] hP (by kernel_rfl) (by kernel_rfl) ?_
 cases c1 : (balanceA d.Account x.Payment.Sub).2
 ·rw [c1, Bool.false_and] at hR
  simp -dsimp -implicitDefEqProofs [-getElem?_pos, go_sem, hP, c1, hR]
 rw [c1, Bool.true_and] at hR
 simp -dsimp -implicitDefEqProofs [-getElem?_pos, go_sem, hP, t2, t3, hH]
 refine callB_is (py.lift _ _) hP en_116 (by simpa using ip) .sc ?_
 cases c2 : payB x.Payment
 ·rw [c2, Bool.false_and] at hR
  simp -dsimp -implicitDefEqProofs [-getElem?_pos, go_sem, hP, c2, hR]
 have hsub := ((payB_iff x.Payment).1 c2).sub.1
 rw [c2, Bool.true_and] at hR
 simp -dsimp -implicitDefEqProofs [-getElem?_pos, go_sem, hP, t2, t3, hH]
 by_cases c3 : 1 ≤ x.State
 rotate_left
 ·rw [amg_no (by omega), Bool.false_and] at hR
  have d3 := decide_eq_false c3
  simp -dsimp -implicitDefEqProofs [-getElem?_pos, go_sem, hP, t2, t3, c3, d3, hR]
 have d3 := decide_eq_true c3
 by_cases c4 : x.State ≤ 5
 rotate_left
 ·rw [amg_no (by omega), Bool.false_and] at hR
  have d4 := decide_eq_false c4
  simp -dsimp -implicitDefEqProofs [-getElem?_pos, go_sem, hP, t2, t3, d3, d4, hR]
 have d4 := decide_eq_true c4
 rw [amg_iff.2 ⟨c3, c4⟩, Bool.true_and] at hR
 by_cases c5 : leastI x ≤ x.Attempts
 rotate_left
 ·rw [amg_no (by omega), Bool.false_and] at hR
  have d5 := decide_eq_false c5
  simp -dsimp -implicitDefEqProofs [-getElem?_pos, go_sem, hP, t2, t3, d3, d4, d5, hR, t5, t6]
 have d5 := decide_eq_true c5
 by_cases c6 : x.Attempts ≤ mostI x
 rotate_left
 ·rw [amg_no (by omega), Bool.false_and] at hR
  have d6 := decide_eq_false c6
  simp -dsimp -implicitDefEqProofs [-getElem?_pos, go_sem, hP, t2, t3, d3, d4, d5, d6, hR, t5, t6]
 have d6 := decide_eq_true c6
 rw [amg_iff.2 ⟨c5, c6⟩, Bool.true_and] at hR
 simp -dsimp -implicitDefEqProofs [-getElem?_pos, go_sem, hP, t2, t3, d3, d4, d5, d6, t5, t6]
 by_cases c7 : decide (x.Payment ∈ d.Queue.Waiting) = decide (x.State = 1)
 rotate_left
 ·rw [decide_eq_false c7, Bool.false_and] at hR
  have d7 : (decide (x.Payment ∈ d.Queue.Waiting) == decide (x.State = 1)) = false := by rw [beq_eq_false_iff_ne]; exact c7
  simp -dsimp -implicitDefEqProofs [-getElem?_pos, go_sem, hP, t2, t3, d7, hR]
 have d7 : (decide (x.Payment ∈ d.Queue.Waiting) == decide (x.State = 1)) = true := by rw [beq_iff_eq]; exact c7
 rw [decide_eq_true c7, Bool.true_and] at hR
 simp -dsimp -implicitDefEqProofs [-getElem?_pos, go_sem, hP, t2, t3, d7]
 refine callB_is (sn.lift _ _) hP en_117 (by simpa [imm_sc] using iq) .sc ?_
 by_cases c8 : (sentN d.Queue x.Payment.Warrant : Int) = x.Attempts
 rotate_left
 ·rw [decide_eq_false c8, Bool.false_and] at hR
  have d8 := decide_eq_false c8
  simp -dsimp -implicitDefEqProofs [-getElem?_pos, go_sem, hP, t2, t3, d7, d8, hR]
 have d8 := decide_eq_true c8
 rw [d8, Bool.true_and] at hR
 simp -dsimp -implicitDefEqProofs [-getElem?_pos, go_sem, hP, t2, t3, d7, d8]
 refine callB_is ((mv hsub).lift _ _) hP en_118 (by simpa using ⟨ia, ix⟩) .sc ?_
 simp -dsimp -implicitDefEqProofs [-getElem?_pos, go_sem, hP, d7, d8, hR]
theorem deskP_or {d : TDesk} (hq : QOk d.Queue) (ha : checkA d.Account = 0) : checkD d = if deskP d = true then 0 else 68 := by
 rw [checkD, if_pos ha, if_pos (checkQ_iff.2 hq), deskP_eq hq]
theorem map_snoc_take {l : List TItem} {k : Nat} {x : TItem} (h : l[k]? = some x) : (l.take (k + 1)).map wrt = (l.take k).map wrt ++ [wrt x] := by rw [take_at h, List.map_append]; rfl
set_option maxHeartbeats 2000000 in
theorem dcheck_pf (d : TDesk) (hf : FitD d) : PFun Tryz.prog none none 13 [.agg d.cells] (· = iv (checkD d)) := by
 refine pfun_intro Tryz.func13 rfl (by simp [Tryz.f13]) (by kernel_rfl) ?_
 intro E hP hr hs hW hN
 have ia := imm_acc d.Account
 have iq := imm_que d.Queue
 have id' := imm_desk d
 have cka := check_pf d.Account hf.s hf.e
 have ckq := bcheck_pf d.Queue hf.q
 have rt := fun x => right_pf d x hf
 rw [cA] at ia cka
 rw [cQn] at iq ckq
 rw [cDn] at id'
 simp only [cDn] at rt
 have li := hf.i
 have lk := hf.q.k
 have lw := hf.q.w
 obtain ⟨R, hR⟩ : ∃ R, R = checkD d := ⟨_, rfl⟩
 rw [← hR]
 simp -dsimp -implicitDefEqProofs [-getElem?_pos, go_sem, hP, cDn]
 refine callB_is (cka.lift _ _) hP en_52 (by simpa using ia) .sc ?_
 by_cases c1 : checkA d.Account = 0
 rotate_left
 ·have : R = checkA d.Account := by rw [hR, checkD, if_neg c1]
  simp -dsimp -implicitDefEqProofs [-getElem?_pos, go_sem, hP, c1, this]
 simp -dsimp -implicitDefEqProofs [-getElem?_pos, go_sem, hP, c1]
 refine callB_is (ckq.lift _ _) hP en_53 (by simpa using iq) .sc ?_
 by_cases c2 : checkQ d.Queue = 0
 rotate_left
 ·have : R = checkQ d.Queue := by rw [hR, checkD, if_pos c1, if_neg c2]
  simp -dsimp -implicitDefEqProofs [-getElem?_pos, go_sem, hP, c2, this]
 have hq := checkQ_iff.1 c2
 rw [deskP_or hq c1] at hR
 obtain ⟨l, hl⟩ : ∃ l, l = d.Items := ⟨_, rfl⟩
 have hRl : R = if (l.all (rightB d) && (decide (l.map wrt = d.Queue.Known) && decide (l.countP queuedB = d.Queue.Waiting.length))) = true then 0 else 68 := by rw [hR, hl]; rfl
 clear hR
 rw [← hl] at li
 simp only [← hl] at rt id'
 simp -dsimp -implicitDefEqProofs [-getElem?_pos, go_sem, hP, c2, ← hl]
 refine aloop_own 5 3 1 (by simp -dsimp [-getElem?_pos, go_sem]) ?_
 obtain ⟨I, hI⟩ : ∃ I : Nat → St → Prop, I = fun m s => ∃ (k id : Nat), k ≤ l.length ∧ m = l.length - k ∧ (l.take k).all (rightB d) = true ∧ 1 ≤ id ∧ s.t 1 = .ref 0 0 0 ∧ s.t 5 = .sref id 0 k ∧ s.t 6 = iv ((l.take k).countP queuedB) ∧ s.t 22 = itemsL l ∧ s.t 23 = iv l.length ∧ s.t 24 = iv k ∧ s.H[0]? = some (some ⟨35, 7, [[iv d.Account.Credit, subsL d.Account.Subs, entsL d.Account.Entries, paysL d.Queue.Waiting, numsL d.Queue.Known, batsL d.Queue.Batches, itemsL l]]⟩) ∧ s.H[id]? = some (some ⟨3, 1, encL encI ((l.take k).map wrt)⟩) := ⟨_, rfl⟩
 refine aloop0 I (l.length) (by rw [hN]; rfl) ?_ ?_
 ·rw [hI]
  exact ⟨0, 1, by omega, by omega, by simp, by omega, by simp -dsimp [-getElem?_pos, go_sem], by simp -dsimp [-getElem?_pos, go_sem], by simp -dsimp [-getElem?_pos, go_sem], by simp -dsimp [-getElem?_pos, go_sem], by simp -dsimp [-getElem?_pos, go_sem], by simp -dsimp [-getElem?_pos, go_sem], by simp -dsimp [-getElem?_pos, go_sem], by simp -dsimp [-getElem?_pos, go_sem, encL]⟩
 intro m s hs'
 rw [hI] at hs'
 obtain ⟨k, id, hk, hm, hall, hid, t1, t5, t6, t22, t23, t24, h0, hH⟩ := hs'
 have lt0 := (gsI h0)
 have lti := (gsI hH)
 have lc := List.countP_le_length (p := queuedB) (l := l.take k)
 rw [List.length_take] at lc
 have lws : (encL encI ((l.take k).map wrt)).length = k := by rw [encL_len, List.length_map, List.length_take]; omega
 simp -dsimp -implicitDefEqProofs [-getElem?_pos, go_sem, hP, t23, t24]
 refine condP (fun hh => ?_) (fun hh => ?_)
 ·have hk : k < l.length := by simpa using hh
  obtain ⟨x, hx⟩ : ∃ x, l[k]? = some x := ⟨_, List.getElem?_eq_getElem hk⟩
  have wk := wrap_in ((k : Int) + 1) (by omega)
  have ix := imm_item x
  have rx := rt x
  rw [cIt] at ix rx
  have g0 : ∀ y : Option AObj, (s.H ++ [y])[0]? = some (some ⟨35, 7, [[iv d.Account.Credit, subsL d.Account.Subs, entsL d.Account.Entries, paysL d.Queue.Waiting, numsL d.Queue.Known, batsL d.Queue.Batches, itemsL l]]⟩) := fun y => by rw [List.getElem?_append_left lt0]; exact h0
  have gi : ∀ y : Option AObj, (s.H ++ [y])[id]? = some (some ⟨3, 1, encL encI ((l.take k).map wrt)⟩) := fun y => by rw [List.getElem?_append_left lti]; exact hH
  have ec : (l.take (k + 1)).countP queuedB = (l.take k).countP queuedB + if queuedB x = true then 1 else 0 := by rw [take_at hx, List.countP_append, List.countP_cons, List.countP_nil, Nat.zero_add]
  have ea : (l.take (k + 1)).all (rightB d) = rightB d x := by rw [take_at hx, List.all_append, hall]; simp
  have ew : encL encI ((l.take (k + 1)).map wrt) = encL encI ((l.take k).map wrt) ++ [[iv x.Payment.Warrant]] := by rw [map_snoc_take hx]; exact (encL_snoc encI _ _).symm
  generalize (l.take k).countP queuedB = cq at ec t6 lc
  generalize encL encI ((l.take k).map wrt) = ws at ew hH gi lws
  have wq := wrap_in ((cq : Int) + 1) (by omega)
  simp -dsimp -implicitDefEqProofs [-getElem?_pos, go_sem, hP, t22, t24, hx, cIt, t1, g0, lt0, h0]
  refine callB_is (rx.lift _ _) hP en_54 (by simpa using ⟨id', ix⟩) .sc ?_
  have n0 : ¬ id = 0 := by omega
  cases hrx : rightB d x
  ·have : R = 68 := by
    rw [hRl, if_neg]
    rw [Bool.and_eq_true]
    rintro ⟨h1, _⟩
    have := List.all_eq_true.1 h1 x (List.mem_of_getElem? hx)
    rw [hrx] at this
    cases this
   simp -dsimp -implicitDefEqProofs [-getElem?_pos, go_sem, hP, this]
  rw [hrx] at ea
  have fin : ∀ s' : St, s'.t 1 = .ref 0 0 0 → s'.t 5 = .sref (s.H.length + 1) 0 (k + 1) → s'.t 6 = iv ((l.take (k + 1)).countP queuedB) → s'.t 22 = itemsL l → s'.t 23 = iv l.length → s'.t 24 = iv (k + 1) → s'.H[0]? = some (some ⟨35, 7, [[iv d.Account.Credit, subsL d.Account.Subs, entsL d.Account.Entries, paysL d.Queue.Waiting, numsL d.Queue.Known, batsL d.Queue.Batches, itemsL l]]⟩) → s'.H[s.H.length + 1]? = some (some ⟨3, 1, ws ++ [[iv x.Payment.Warrant]]⟩) → ∃ m', m' < m ∧ I m' s' := fun s' a1 a2 a3 a4 a5 a6 a7 a8 => by
   refine ⟨l.length - (k + 1), by omega, ?_⟩
   rw [hI]
   exact ⟨k + 1, s.H.length + 1, by omega, rfl, ea, by omega, a1, a2, a3, a4, a5, a6, a7, by rw [ew]; exact a8⟩
  by_cases hs : x.State = 1
  ·rw [show queuedB x = true by simp [queuedB, hs], if_pos rfl] at ec
   simp -dsimp -implicitDefEqProofs [-getElem?_pos, go_sem, hP, hs, t6, wq, t5, gi, hH, lti, lws, t24, wk]
   refine ⟨by omega, by omega, ?_⟩
   exact fin _ (by simp -dsimp [-getElem?_pos, go_sem, t1]) (by simp -dsimp [-getElem?_pos, go_sem]) (by simp -dsimp [-getElem?_pos, go_sem, ec]) (by simp -dsimp [-getElem?_pos, go_sem, t22]) (by simp -dsimp [-getElem?_pos, go_sem, t23]) (by simp -dsimp [-getElem?_pos, go_sem]) (by simp -dsimp [-getElem?_pos, go_sem, lt0, h0, n0]) (by simp -dsimp [-getElem?_pos, go_sem])
  ·rw [show queuedB x = false by simp [queuedB, hs], if_neg (by simp)] at ec
   have ds := decide_eq_false hs
   simp -dsimp -implicitDefEqProofs [-getElem?_pos, go_sem, hP, hs, ds, t5, gi, hH, lti, lws, t24, wk]
   refine ⟨by omega, by omega, ?_⟩
   exact fin _ (by simp -dsimp [-getElem?_pos, go_sem, t1]) (by simp -dsimp [-getElem?_pos, go_sem]) (by simp -dsimp [-getElem?_pos, go_sem, t6, ec]) (by simp -dsimp [-getElem?_pos, go_sem, t22]) (by simp -dsimp [-getElem?_pos, go_sem, t23]) (by simp -dsimp [-getElem?_pos, go_sem]) (by simp -dsimp [-getElem?_pos, go_sem, lt0, h0, n0]) (by simp -dsimp [-getElem?_pos, go_sem])
 ·have hk : k = l.length := by simp at hh; omega
  subst hk
  rw [List.take_length] at t6 hall hH
  rw [hall, Bool.true_and] at hRl
  have eq := equalInts_pf (l.map wrt) d.Queue.Known (by rw [List.length_map]; omega) (by omega)
  simp -dsimp -implicitDefEqProofs [-getElem?_pos, go_sem, hP, t5, t1, h0, lt0]
  refine callB_pure eq hP en_55 (args_sref hH (by rw [encL_len, List.length_map]) (imm_nums _) (args_imm (imm_nums _) (args_nil.2 trivial))) .sc ?_
  by_cases c3 : l.map wrt = d.Queue.Known
  rotate_left
  ·have d3 := decide_eq_false c3
   rw [d3, Bool.false_and] at hRl
   simp -dsimp -implicitDefEqProofs [-getElem?_pos, go_sem, hP, d3, hRl]
  have d3 := decide_eq_true c3
  rw [d3, Bool.true_and] at hRl
  by_cases c4 : l.countP queuedB = d.Queue.Waiting.length
  ·have d4 : decide ((l.countP queuedB : Int) = (d.Queue.Waiting.length : Int)) = true := decide_eq_true (by omega)
   rw [decide_eq_true c4] at hRl
   simp -dsimp -implicitDefEqProofs [-getElem?_pos, go_sem, hP, d3, t1, h0, lt0, t6, d4, hRl]
  ·have d4 : decide ((l.countP queuedB : Int) = (d.Queue.Waiting.length : Int)) = false := decide_eq_false (by omega)
   rw [decide_eq_false c4] at hRl
   simp -dsimp -implicitDefEqProofs [-getElem?_pos, go_sem, hP, d3, t1, h0, lt0, t6, d4, hRl]
open Go.PA
open Go.RowKit
theorem clone_pf_sub (l : List TSub) (hl : l.length ≤ 1000000) : PFun Tryz.prog none none 135 [.list 2 (encL TSub.cells l)] (· = .list 2 (encL TSub.cells l)) := by
 cases l with
 | nil =>
  refine pfun_list_nil fun A c => ?_
  refine pfun_intro Tryz.func135 rfl (by simp [Tryz.f135]) (by kernel_rfl) ?_
  intro E hP hr hs hW hN
  cases A with
  | none =>
   simp -dsimp -implicitDefEqProofs [-getElem?_pos, go_sem, hP]
   exact done_weak .nil (imm_list.2 (by simp)) (.nil _) rfl
  | some a =>
   simp -dsimp -implicitDefEqProofs [-getElem?_pos, go_sem, hP]
   refine done_weak (x := .list 2 []) ?_ (imm_list.2 (by simp)) ?_ rfl
   ·simp -dsimp -implicitDefEqProofs [-getElem?_pos, go_sem]
   ·simp -dsimp -implicitDefEqProofs [-getElem?_pos, go_sem]
    first | exact .refl _ | skip
 | cons a l =>
  refine pfun_intro Tryz.func135 rfl (by simp [Tryz.f135]) (by kernel_rfl) ?_
  intro E hP hr hs hW hN
  simp only [List.length_cons] at hl
  have e : encL TSub.cells (a :: l) = TSub.cells a :: encL TSub.cells l := rfl
  have im : Imm (.list 2 (TSub.cells a :: encL TSub.cells l)) := by rw [← e]; exact imm_encL _ TSub.imm _
  have et : (TSub.cells a :: encL TSub.cells l).take (l.length + 1) = TSub.cells a :: encL TSub.cells l := by
   rw [← e]
   exact encL_take TSub.cells (a :: l) _ (by simp)
  simp -dsimp -implicitDefEqProofs [-getElem?_pos, go_sem, hP, e]
  refine ⟨by omega, by omega, ?_⟩
  refine done_weak (x := .list 2 (TSub.cells a :: encL TSub.cells l)) ?_ im ?_ rfl
  ·simp -dsimp -implicitDefEqProofs [-getElem?_pos, go_sem]
   first | exact im | (have h := imm_list.1 im; simp only [List.mem_cons, forall_eq_or_imp] at h; exact h)
  ·simp -dsimp -implicitDefEqProofs [-getElem?_pos, go_sem]
   first | exact .refl _ | skip
theorem clone_pf_entry (l : List TEntry) (hl : l.length ≤ 1000000) : PFun Tryz.prog none none 129 [.list 6 (encL TEntry.cells l)] (· = .list 6 (encL TEntry.cells l)) := by
 cases l with
 | nil =>
  refine pfun_list_nil fun A c => ?_
  refine pfun_intro Tryz.func129 rfl (by simp [Tryz.f129]) (by kernel_rfl) ?_
  intro E hP hr hs hW hN
  cases A with
  | none =>
   simp -dsimp -implicitDefEqProofs [-getElem?_pos, go_sem, hP]
   exact done_weak .nil (imm_list.2 (by simp)) (.nil _) rfl
  | some a =>
   simp -dsimp -implicitDefEqProofs [-getElem?_pos, go_sem, hP]
   refine done_weak (x := .list 6 []) ?_ (imm_list.2 (by simp)) ?_ rfl
   ·simp -dsimp -implicitDefEqProofs [-getElem?_pos, go_sem]
   ·simp -dsimp -implicitDefEqProofs [-getElem?_pos, go_sem]
    first | exact .refl _ | skip
 | cons a l =>
  refine pfun_intro Tryz.func129 rfl (by simp [Tryz.f129]) (by kernel_rfl) ?_
  intro E hP hr hs hW hN
  simp only [List.length_cons] at hl
  have e : encL TEntry.cells (a :: l) = TEntry.cells a :: encL TEntry.cells l := rfl
  have im : Imm (.list 6 (TEntry.cells a :: encL TEntry.cells l)) := by rw [← e]; exact imm_encL _ TEntry.imm _
  have et : (TEntry.cells a :: encL TEntry.cells l).take (l.length + 1) = TEntry.cells a :: encL TEntry.cells l := by
   rw [← e]
   exact encL_take TEntry.cells (a :: l) _ (by simp)
  simp -dsimp -implicitDefEqProofs [-getElem?_pos, go_sem, hP, e]
  refine ⟨by omega, by omega, ?_⟩
  refine done_weak (x := .list 6 (TEntry.cells a :: encL TEntry.cells l)) ?_ im ?_ rfl
  ·simp -dsimp -implicitDefEqProofs [-getElem?_pos, go_sem]
   first | exact im | (have h := imm_list.1 im; simp only [List.mem_cons, forall_eq_or_imp] at h; exact h)
  ·simp -dsimp -implicitDefEqProofs [-getElem?_pos, go_sem]
   first | exact .refl _ | skip
theorem copyAcc_pf (a : TAccount) (hl : a.Subs.length ≤ 100000) (he : a.Entries.length ≤ 100000) : PFun Tryz.prog none none 68 [.agg a.cells] (· = .agg a.cells) := by
 refine pfun_intro Tryz.func68 rfl (by simp [Tryz.f68]) (by kernel_rfl) ?_
 intro E hP hr hs hW hN
 have i1 := imm_subs a.Subs
 have i2 := imm_ents a.Entries
 simp -dsimp -implicitDefEqProofs [-getElem?_pos, go_sem, hP, cA]
 refine adrawQ (fun i => decide (i = 0)) [9] [4, 7] hP (by kernel_rfl) (by kernel_rfl) ?_
 simp -dsimp -implicitDefEqProofs [-getElem?_pos, go_sem, hP]
 refine callQ_is ((clone_pf_sub a.Subs (by omega)).lift _ _) hP en_135 (by simpa using i1) i1 ?_
 simp -dsimp -implicitDefEqProofs [-getElem?_pos, go_sem, hP]
 refine callQ_is ((clone_pf_entry a.Entries (by omega)).lift _ _) hP en_129 (by simpa using i2) i2 ?_
 simp -dsimp -implicitDefEqProofs [-getElem?_pos, go_sem, hP]
 exact done_imm (imm_acc a) rfl
theorem copyQ_pf (q : TQueue) (hf : FitQ q) : PFun Tryz.prog none none 123 [.agg q.cells] (· = .agg q.cells) := by
 refine pfun_of_mfun_agg (bcopy_m q [] hf) (imm_que q) ?_
 rintro r H' ⟨i1, i2, x, rfl, _, _, _, h1, h2, ⟨B, _, _, hg⟩, _⟩
 exact ⟨_, rfl, cw_sref h1 (by rw [encL_len]) (imm_pays _) (cw_sref h2 (by rw [encL_len]) (imm_nums _) (hg.cw (imm_bats _) .nil))⟩
set_option maxHeartbeats 1000000 in
theorem copied26_m {row src : Option Nat} (d : TDesk) (H : Heap) (hf : FitD d) :
  MFun Tryz.prog row src 59 [.agg d.cells] H (fun r H' => ∃ id, r = .agg [iv d.Account.Credit, subsL d.Account.Subs, entsL d.Account.Entries, paysL d.Queue.Waiting, numsL d.Queue.Known, batsL d.Queue.Batches, .sref id 0 d.Items.length] ∧ H.length ≤ id ∧ H'[id]? = some (some ⟨46, 7, encL TItem.cells d.Items⟩) ∧ Kept [] H H') := by
 obtain ⟨C, hC⟩ : ∃ C : AV → Heap → Prop, C = fun r H' => ∃ id, r = .agg [iv d.Account.Credit, subsL d.Account.Subs, entsL d.Account.Entries, paysL d.Queue.Waiting, numsL d.Queue.Known, batsL d.Queue.Batches, .sref id 0 d.Items.length] ∧ H.length ≤ id ∧ H'[id]? = some (some ⟨46, 7, encL TItem.cells d.Items⟩) ∧ Kept [] H H' := ⟨_, rfl⟩
 rw [← hC]
 have ex : ∃ r H', C r H' := ⟨_, H ++ [some ⟨46, 7, encL TItem.cells d.Items⟩], by
  rw [hC]
  exact ⟨H.length, rfl, Nat.le_refl _, by simp, kept_app _ _ _⟩⟩
 refine mfun_intro Tryz.func59 rfl (by simp [Tryz.f59]) (by kernel_rfl) (ex) ?_
 intro E hP hr hs hN
 have ia := imm_acc d.Account
 have iq := imm_que d.Queue
 have ca := copyAcc_pf d.Account hf.s hf.e
 have cq := copyQ_pf d.Queue hf.q
 have li := hf.i
 rw [cA] at ia ca
 rw [cQn] at iq cq
 simp -dsimp -implicitDefEqProofs [-getElem?_pos, go_sem, hP, cDn]
 obtain ⟨H1, hH1⟩ : ∃ H1 : Heap, H1 = H ++ [some (deskO d), some ⟨35, 7, [[iv 0, .nil, .nil, .nil, .nil, .nil, .nil]]⟩] := ⟨_, rfl⟩
 have l1 : H1.length = H.length + 2 := by rw [hH1]; simp
 have a0 : H1[H.length]? = some (some (deskO d)) := by rw [hH1]; simp
 have a1 : H1[H.length + 1]? = some (some ⟨35, 7, [[iv 0, .nil, .nil, .nil, .nil, .nil, .nil]]⟩) := by rw [hH1, List.getElem?_append_right (by omega)]; simp
 have k1 : Kept [] H H1 := by rw [hH1]; exact kept_app _ _ _
 have e1 : H ++ [some (deskO d), some ⟨35, 7, [[iv 0, .nil, .nil, .nil, .nil, .nil, .nil]]⟩] = H1 := hH1.symm
 simp only [deskO] at e1 a0
 simp only [e1]
 refine adrawQ (fun i => decide (i = H.length)) [10] [2, 5] hP (by kernel_rfl) (by kernel_rfl) ?_
 simp -dsimp -implicitDefEqProofs [-getElem?_pos, go_sem, hP, a0, l1]
 refine callQ_is (ca.lift _ _) hP en_68 (by simpa using ia) ia ?_
 simp -dsimp -implicitDefEqProofs [-getElem?_pos, go_sem, hP, a0, l1]
 refine callQ_is (cq.lift _ _) hP en_123 (by simpa using iq) iq ?_
 simp -dsimp -implicitDefEqProofs [-getElem?_pos, go_sem, hP, a0, l1]
 refine callB_m (by rw [hr, hs]; exact clone_m_item d.Items H1 (by omega)) hP en_124 ?_
 rintro r H2 ⟨id, rfl, hid, ho, hk⟩
 have b0 := hk _ _ (by simp) a0
 have b1 := hk _ _ (by simp) a1
 have lt1 := (gsI b1)
 have aD : ∀ (X X' : Heap), Kept [] X X' → X[H.length]? = some (some (deskO d)) → Agree (fun i => decide (i = H.length)) X X' := fun X X' hk e0 => agree_live hk fun i hi => by
  simp only [decide_eq_true_eq] at hi
  subst hi
  exact ⟨by simp, _, e0⟩
 simp -dsimp -implicitDefEqProofs [-getElem?_pos, go_sem, hP, b1, lt1]
 refine ⟨aD _ _ hk a0, ?_⟩
 rw [hC]
 refine ⟨id, rfl, by omega, ?_, ?_⟩
 ·rw [List.getElem?_set_ne (by omega), ho]
 ·exact kept_new _ (by omega) (k1.trans hk)
open Go.PA
open Go.RowKit
theorem DOk.ks {d : TDesk} (h : DOk d) : (d.Items.map wrt).Pairwise (· < ·) := by rw [h.k]; exact h.q.ks
theorem DOk.nd {d : TDesk} (h : DOk d) : (d.Items.map wrt).Nodup := sorted_nodup h.ks
theorem place_cut {l : List TItem} (hs : (l.map wrt).Pairwise (· < ·)) (w : Int) : ∃ k, CutI l w k ∧ ((l[k]?).map wrt = some w ↔ w ∈ l.map wrt) := by
 obtain ⟨k, h1, h2, _, h4⟩ := ins_placeK (p := w) hs
 rw [List.length_map] at h1
 refine ⟨k, ⟨h1, fun h x hx => h2 h (wrt x) (by rw [List.getElem?_map, hx]; rfl)⟩, ?_⟩
 rw [← List.getElem?_map]
 exact h4
theorem posI_at {l : List TItem} (hn : (l.map wrt).Nodup) {k : Nat} {x : TItem} (hx : l[k]? = some x) : posI l x.Payment.Warrant = k := by
 unfold posI
 rcases idxI_spec (fun y : TItem => decide (y.Payment.Warrant = x.Payment.Warrant)) l with ⟨h1, h2⟩ | ⟨i, a, h1, h2, h3, _⟩
 ·have := h2 x (List.mem_of_getElem? hx)
  simp at this
 ·have h2 : a.Payment.Warrant = x.Payment.Warrant := by simpa using h2
  have e1 : (l.map wrt)[i]? = some x.Payment.Warrant := by rw [List.getElem?_map, h1]; exact congrArg some h2
  have e2 : (l.map wrt)[k]? = some x.Payment.Warrant := by rw [List.getElem?_map, hx]; rfl
  have := (List.getElem?_inj (gsI e1) hn).1 (e1.trans e2.symm)
  rw [h3, this]
theorem posI_none {l : List TItem} {w : Int} (h : w ∉ l.map wrt) : posI l w = -1 := by
 unfold posI
 rcases idxI_spec (fun y : TItem => decide (y.Payment.Warrant = w)) l with ⟨h1, h2⟩ | ⟨i, a, h1, h2, h3, _⟩
 ·exact h1
 ·have h2 : a.Payment.Warrant = w := by simpa using h2
  exact absurd (List.mem_map.2 ⟨a, List.mem_of_getElem? h1, h2⟩) h
theorem changeD_bad {d : TDesk} {w st : Int} {f : TDesk → TItem → Done1} (h : ¬ checkD d = 0) : changeD d w st f = (zeroD, checkD d) := by rw [changeD, if_neg h]
theorem changeD_none {d : TDesk} {w st : Int} {f : TDesk → TItem → Done1} (h : checkD d = 0) (hw : w ∉ d.Items.map wrt) : changeD d w st f = (zeroD, 6) := by
 rw [changeD, if_pos h]
 split
 ·rfl
 ·rw [if_pos (by rw [posI_none hw]; omega)]
theorem changeD_at {d : TDesk} {st : Int} {f : TDesk → TItem → Done1} (h : checkD d = 0) {k : Nat} {x : TItem} (hx : d.Items[k]? = some x) : changeD d x.Payment.Warrant st f = if x.State = st then (if (f d x).e = 0 then (⟨(f d x).a, (f d x).q, d.Items.set k (f d x).x⟩, 0) else (zeroD, (f d x).e)) else (zeroD, 67) := by
 have hp := posI_at (checkD_iff.1 h).nd hx
 rw [changeD, if_pos h, hp, Int.toNat_natCast, hx]
 simp only
 rw [if_neg (by omega)]
theorem stateD_none {d : TDesk} {w : Int} (h : checkD d = 0) (hw : w ∉ d.Items.map wrt) : stateD d w = 0 := by
 rw [stateD, if_pos h]
 split
 ·rfl
 ·rw [if_pos (by rw [posI_none hw]; omega)]
theorem stateD_at {d : TDesk} (h : checkD d = 0) {k : Nat} {x : TItem} (hx : d.Items[k]? = some x) : stateD d x.Payment.Warrant = x.State := by
 have hp := posI_at (checkD_iff.1 h).nd hx
 rw [stateD, if_pos h, hp, Int.toNat_natCast, hx]
 simp only
 rw [if_neg (by omega)]
theorem contains_pf_entry (l : List TEntry) (g : FuncId) (caps : List AV) (p : TEntry → Bool) (hl : l.length ≤ 1000000) (hen : enterable Tryz.prog g = true) (hcap : ∀ a, a ∈ caps → Imm a)
  (hg : ∀ a, a ∈ l → PFun Tryz.prog none none g (.agg (TEntry.cells a) :: caps) (· = bv (p a))) :
  PFun Tryz.prog none none 66 [.list 6 (encL TEntry.cells l), .fn g caps] (· = bv (l.any p)) := by
 refine pfun_intro Tryz.func66 rfl (by simp [Tryz.f66]) (by kernel_rfl) ?_
 intro E hP hr hs hW hN
 obtain ⟨w, hw⟩ : ∃ w, w = l.any p := ⟨_, rfl⟩
 rw [← hw]
 have hi : ∀ a, a ∈ [AV.list 6 (encL TEntry.cells l), .fn g caps] → Imm a := fun a ha => by
  simp only [List.mem_cons, List.not_mem_nil, or_false] at ha
  rcases ha with rfl | rfl
  ·exact imm_encL _ TEntry.imm _
  ·exact imm_fn.2 hcap
 simp -dsimp -implicitDefEqProofs [-getElem?_pos, go_sem, hP]
 refine callB_is ((index_pf_entry l g caps p hl hen hcap hg).lift _ _) hP en_134 hi .sc ?_
 rcases idxI_spec p l with ⟨h1, h2⟩ | ⟨i, a, h1, h2, h3, _⟩
 ·have : w = false := by rw [hw]; exact List.any_eq_false.2 fun a ha => by simp [h2 a ha]
  simp -dsimp -implicitDefEqProofs [-getElem?_pos, go_sem, hP, h1, this]
 ·have d : decide ((0 : Int) ≤ (i : Int)) = true := decide_eq_true (by omega)
  have : w = true := by rw [hw]; exact List.any_eq_true.2 ⟨a, List.mem_of_getElem? h1, h2⟩
  simp -dsimp -implicitDefEqProofs [-getElem?_pos, go_sem, hP, h3, d, this]
theorem cw_zeroD {H : Heap} : CW H [iv 0, .nil, .nil, .nil, .nil, .nil, .nil] zeroD.cells := cw_sc (cw_nil (cw_nil (cw_nil (cw_nil (cw_nil (cw_nil .nil))))))
theorem done_zeroD {H : Heap} {n : Int} {Q : AV → Prop} {b : Bx Q} (h : Q (.tup [.agg zeroD.cells, iv n])) : Done H (.tup [.agg [iv 0, .nil, .nil, .nil, .nil, .nil, .nil], iv n]) Q b := done_agg2 cw_zeroD h
theorem open1_pf (e : TEntry) : PFun Tryz.prog none none 67 [.agg e.cells] (· = bv (!refB 0 e)) := by
 refine pfun_intro Tryz.func67 rfl (by simp [Tryz.f67]) (by kernel_rfl) ?_
 intro E hP hr hs hW hN
 simp -dsimp -implicitDefEqProofs [-getElem?_pos, go_sem, hP, cE, refB]
theorem ropen_pf (a : TAccount) (hl : a.Subs.length ≤ 100000) (he : a.Entries.length ≤ 100000) : PFun Tryz.prog none none 24 [.agg a.cells] (· = .tup [.agg (openD a).1.cells, iv (openD a).2]) := by
 refine pfun_intro Tryz.func24 rfl (by simp [Tryz.f24]) (by kernel_rfl) ?_
 intro E hP hr hs hW hN
 have ia := imm_acc a
 have ie := imm_ents a.Entries
 have ck := check_pf a hl he
 have cp := copyAcc_pf a hl he
 rw [cA] at ia ck cp
 have ct := contains_pf_entry a.Entries 67 [] (fun e => !refB 0 e) (by omega) en_67 (by simp) fun e _ => open1_pf e
 simp -dsimp -implicitDefEqProofs [-getElem?_pos, go_sem, hP, cA]
 refine callB_is (ck.lift _ _) hP en_52 (by simpa using ia) .sc ?_
 by_cases c1 : checkA a = 0
 rotate_left
 ·have : openD a = (zeroD, checkA a) := by rw [openD, if_neg c1]
  simp -dsimp -implicitDefEqProofs [-getElem?_pos, go_sem, hP, c1]
  refine done_zeroD ?_
  rw [this]
 simp -dsimp -implicitDefEqProofs [-getElem?_pos, go_sem, hP, c1]
 refine callB_is (ct.lift _ _) hP en_66 (by simp [ie, imm_fn]) .sc ?_
 cases c2 : a.Entries.any (fun e => !refB 0 e)
 rotate_left
 ·have : openD a = (zeroD, 68) := by rw [openD, if_pos c1, if_pos c2]
  simp -dsimp -implicitDefEqProofs [-getElem?_pos, go_sem, hP, c2]
  refine done_zeroD ?_
  rw [this]
 have : openD a = (⟨a, zeroQ, []⟩, 0) := by rw [openD, if_pos c1, if_neg (by simp [c2])]
 simp -dsimp -implicitDefEqProofs [-getElem?_pos, go_sem, hP, c2]
 refine callB_is (cp.lift _ _) hP en_68 (by simpa using ia) ia ?_
 simp -dsimp -implicitDefEqProofs [-getElem?_pos, go_sem, hP]
 refine done_agg2 (cs' := [iv a.Credit, subsL a.Subs, entsL a.Entries, paysL [], numsL [], batsL [], itemsL []]) (cw_sc (cw_imm (imm_subs _) (cw_imm (imm_ents _) (cw_nil (cw_nil (cw_nil (cw_nil .nil))))))) ?_
 rw [this]
 rfl
theorem rstate_pf (d : TDesk) (w : Int) (hf : FitD d) : PFun Tryz.prog none none 14 [.agg d.cells, iv w] (· = iv (stateD d w)) := by
 refine pfun_intro Tryz.func14 rfl (by simp [Tryz.f14]) (by kernel_rfl) ?_
 intro E hP hr hs hW hN
 have li := hf.i
 have id' := imm_desk d
 have pl := place_pf d w (by omega)
 have ck := dcheck_pf d hf
 rw [cDn] at id' pl ck
 simp -dsimp -implicitDefEqProofs [-getElem?_pos, go_sem, hP, cDn]
 refine callB_flat (pl.lift _ _) hP en_56 (args_same (by simpa [imm_sc] using id')) (by obtain ⟨r, h, _⟩ := placeQ_ex d.Items w; exact ⟨r, h⟩) (fun r h => h.flat) ?_
 rintro r ⟨i, hi, rfl, hcut⟩
 by_cases c1 : (d.Items[i]?).map wrt = some w
 rotate_left
 ·have : stateD d w = 0 := by
   by_cases c2 : checkD d = 0
   ·refine stateD_none c2 fun hw => ?_
    obtain ⟨k, hk, hk2⟩ := place_cut (checkD_iff.1 c2).ks w
    have := hcut k hk
    subst this
    exact c1 (hk2.2 hw)
   ·rw [stateD, if_neg c2]
  have d1 := decide_eq_false c1
  generalize decide ((d.Items[i]?).map wrt = some w) = bb at d1
  subst d1
  simp -dsimp -implicitDefEqProofs [-getElem?_pos, go_sem, hP, this]
 have d1 := decide_eq_true c1
 generalize decide ((d.Items[i]?).map wrt = some w) = bb at d1
 subst d1
 obtain ⟨x, hx, hxw⟩ : ∃ x, d.Items[i]? = some x ∧ x.Payment.Warrant = w := by
  cases h : d.Items[i]? with
  | none => rw [h] at c1; cases c1
  | some x => rw [h] at c1; exact ⟨x, rfl, by simpa [wrt] using c1⟩
 simp -dsimp -implicitDefEqProofs [-getElem?_pos, go_sem, hP]
 refine callB_is (ck.lift _ _) hP en_13 (by simpa using id') .sc ?_
 by_cases c2 : checkD d = 0
 rotate_left
 ·have : stateD d w = 0 := by rw [stateD, if_neg c2]
  simp -dsimp -implicitDefEqProofs [-getElem?_pos, go_sem, hP, c2, this]
 have : stateD d w = x.State := by rw [← hxw]; exact stateD_at c2 hx
 simp -dsimp -implicitDefEqProofs [-getElem?_pos, go_sem, hP, c2, hx, cIt, this]
theorem rpaid_pf (d : TDesk) (hf : FitD d) : PFun Tryz.prog none none 30 [.agg d.cells] (· = iv (paidD d)) := by
 refine pfun_intro Tryz.func30 rfl (by simp [Tryz.f30]) (by kernel_rfl) ?_
 intro E hP hr hs hW hN
 have li := hf.i
 have id' := imm_desk d
 have ck := dcheck_pf d hf
 rw [cDn] at id' ck
 simp -dsimp -implicitDefEqProofs [-getElem?_pos, go_sem, hP, cDn]
 refine callB_is (ck.lift _ _) hP en_13 (by simpa using id') .sc ?_
 by_cases c2 : checkD d = 0
 rotate_left
 ·have : paidD d = 0 := by rw [paidD, if_neg c2]
  simp -dsimp -implicitDefEqProofs [-getElem?_pos, go_sem, hP, c2, this]
 have hR : paidD d = d.Items.foldl addPaid 0 := by rw [paidD, if_pos c2]
 obtain ⟨l, hl⟩ : ∃ l, l = d.Items := ⟨_, rfl⟩
 rw [← hl] at hR li
 simp -dsimp -implicitDefEqProofs [-getElem?_pos, go_sem, hP, c2, ← hl]
 obtain ⟨I, hI⟩ : ∃ I : Nat → St → Prop, I = fun m s => ∃ k : Nat, k ≤ l.length ∧ m = l.length - k ∧ s.t 3 = iv ((l.take k).foldl addPaid 0) ∧ s.t 10 = itemsL l ∧ s.t 11 = iv l.length ∧ s.t 12 = iv k := ⟨_, rfl⟩
 refine aloop0 I (l.length) (by rw [hN]; rfl) ?_ ?_
 ·rw [hI]
  exact ⟨0, by omega, by omega, by simp -dsimp [-getElem?_pos, go_sem], by simp -dsimp [-getElem?_pos, go_sem], by simp -dsimp [-getElem?_pos, go_sem], by simp -dsimp [-getElem?_pos, go_sem]⟩
 intro m s hs'
 rw [hI] at hs'
 obtain ⟨k, hk, hm, t3, t10, t11, t12⟩ := hs'
 simp -dsimp -implicitDefEqProofs [-getElem?_pos, go_sem, hP, t11, t12]
 refine condP (fun h => ?_) (fun h => ?_)
 ·have hk : k < l.length := by simpa using h
  obtain ⟨x, hx⟩ : ∃ x, l[k]? = some x := ⟨_, List.getElem?_eq_getElem hk⟩
  have wk := wrap_in ((k : Int) + 1) (by omega)
  have es : (l.take (k + 1)).foldl addPaid 0 = addPaid ((l.take k).foldl addPaid 0) x := by rw [take_at hx, List.foldl_append]; rfl
  by_cases c3 : x.State = 3
  ·rw [addPaid, if_pos c3] at es
   simp -dsimp -implicitDefEqProofs [-getElem?_pos, go_sem, hP, t10, t12, hx, cIt, c3, t3, wk]
   refine ⟨l.length - (k + 1), by omega, ?_⟩
   rw [hI]
   exact ⟨k + 1, by omega, rfl, by simp -dsimp [-getElem?_pos, go_sem, es], by simp -dsimp [-getElem?_pos, go_sem, t10], by simp -dsimp [-getElem?_pos, go_sem, t11], by simp -dsimp [-getElem?_pos, go_sem]⟩
  ·rw [addPaid, if_neg c3] at es
   have d3 := decide_eq_false c3
   simp -dsimp -implicitDefEqProofs [-getElem?_pos, go_sem, hP, t10, t12, hx, cIt, c3, d3, wk]
   refine ⟨l.length - (k + 1), by omega, ?_⟩
   rw [hI]
   exact ⟨k + 1, by omega, rfl, by simp -dsimp [-getElem?_pos, go_sem, t3, es], by simp -dsimp [-getElem?_pos, go_sem, t10], by simp -dsimp [-getElem?_pos, go_sem, t11], by simp -dsimp [-getElem?_pos, go_sem]⟩
 ·have hk : k = l.length := by simp at h; omega
  subst hk
  rw [List.take_length] at t3
  simp -dsimp -implicitDefEqProofs [-getElem?_pos, go_sem, hP, t3, hR]
open Go.PA
open Go.RowKit
abbrev ownO (a : TAccount) (q : TQueue) (id n : Nat) : AObj := ⟨35, 7, [[iv a.Credit, subsL a.Subs, entsL a.Entries, paysL q.Waiting, numsL q.Known, batsL q.Batches, .sref id 0 n]]⟩
abbrev itemsO (l : List TItem) : AObj := ⟨46, 7, encL TItem.cells l⟩
def DoM (g : FuncId) (caps : List AV) (d : TDesk) (f : TDesk → TItem → Done1) : Prop :=
 ∀ (row src : Option Nat) (x : TItem) (at_ b id : Nat) (H : Heap), d.Items[at_]? = some x → b ≠ id → H[b]? = some (some (ownO d.Account d.Queue id d.Items.length)) → H[id]? = some (some (itemsO d.Items)) →
  MFun Tryz.prog row src g ([.ref b 0 0, .ref id at_ 0] ++ caps) H (fun r H' => r = iv (f d x).e ∧ ((f d x).e = 0 → H'[b]? = some (some (ownO (f d x).a (f d x).q id d.Items.length)) ∧ H'[id]? = some (some (itemsO (d.Items.set at_ (f d x).x)))) ∧ Kept [b, id] H H')
theorem encL_set {α : Type} (f : α → List AV) (l : List α) (i : Nat) (x : α) : (encL f l).set i (f x) = encL f (l.set i x) := by
 simp [encL, List.map_set]
set_option maxHeartbeats 2000000 in
theorem change_pf (d : TDesk) (w st : Int) (g : FuncId) (caps : List AV) (f : TDesk → TItem → Done1) (hf : FitD d) (hen : enterable Tryz.prog g = true) (hcap : ∀ c, c ∈ caps → Imm c) (hg : checkD d = 0 → DoM g caps d f) :
  PFun Tryz.prog none none 73 [.agg d.cells, iv w, iv st, .fn g caps] (· = .tup [.agg (changeD d w st f).1.cells, iv (changeD d w st f).2]) := by
 refine pfun_introA Tryz.func73 rfl (by simp [Tryz.f73]) ?_
 intro E hP hr hs hW hN
 have li := hf.i
 have id' := imm_desk d
 have pl := place_pf d w (by omega)
 have ck := dcheck_pf d hf
 rw [cDn] at id' pl ck
 refine awp_sound _ _ _ (by rw [hN]; kernel_rfl) ?_
 simp -dsimp -implicitDefEqProofs [-getElem?_pos, go_sem, hP, cDn]
 refine callB_is (ck.lift _ _) hP en_13 (by simpa using id') .sc ?_
 by_cases c1 : checkD d = 0
 rotate_left
 ·have := changeD_bad (w := w) (st := st) (f := f) c1
  simp -dsimp -implicitDefEqProofs [-getElem?_pos, go_sem, hP, c1]
  refine done_zeroD ?_
  rw [this]
 have hd := checkD_iff.1 c1
 simp -dsimp -implicitDefEqProofs [-getElem?_pos, go_sem, hP, c1]
 refine callB_flat (pl.lift _ _) hP en_56 (args_same (by simpa [imm_sc] using id')) (by obtain ⟨r, h, _⟩ := placeQ_ex d.Items w; exact ⟨r, h⟩) (fun r h => h.flat) ?_
 rintro r ⟨i, hi, rfl, hcut⟩
 obtain ⟨k, hk, hk2⟩ := place_cut hd.ks w
 have := hcut k hk
 subst this
 by_cases c2 : w ∈ d.Items.map wrt
 rotate_left
 ·have := changeD_none (st := st) (f := f) c1 c2
  have d1 : decide ((d.Items[i]?).map wrt = some w) = false := decide_eq_false (mt hk2.1 c2)
  generalize decide ((d.Items[i]?).map wrt = some w) = bb at d1
  subst d1
  simp -dsimp -implicitDefEqProofs [-getElem?_pos, go_sem, hP]
  refine done_zeroD ?_
  rw [this]
 have c2' := hk2.2 c2
 have d1 := decide_eq_true c2'
 generalize decide ((d.Items[i]?).map wrt = some w) = bb at d1
 subst d1
 obtain ⟨x, hx, hxw⟩ : ∃ x, d.Items[i]? = some x ∧ x.Payment.Warrant = w := by
  cases h : d.Items[i]? with
  | none => rw [h] at c2'; cases c2'
  | some x => rw [h] at c2'; exact ⟨x, rfl, by simpa [wrt] using c2'⟩
 have hch := changeD_at (st := st) (f := f) c1 hx
 rw [hxw] at hch
 rw [hch]
 clear hch
 by_cases c3 : x.State = st
 rotate_left
 ·have d3 := decide_eq_false c3
  rw [if_neg c3]
  simp -dsimp -implicitDefEqProofs [-getElem?_pos, go_sem, hP, hx, cIt, d3]
  exact done_zeroD rfl
 rw [if_pos c3]
 simp -dsimp -implicitDefEqProofs [-getElem?_pos, go_sem, hP, hx, cIt, c3]
 have cm := fun {row src : Option Nat} (H : Heap) => copied26_m (row := row) (src := src) d H hf
 simp only [cDn] at cm
 refine callB_m (by rw [hr, hs]; exact cm _) hP en_59 ?_
 rintro r H2 ⟨id, rfl, hid, ho, hk'⟩
 have b0 := hk' 0 _ (by simp) rfl
 have b1 := hk' 1 _ (by simp) rfl
 have lt0 := (gsI b0)
 have lt1 := (gsI b1)
 have lti := (gsI ho)
 have hid2 : 2 ≤ id := by simpa using hid
 have n0 : ¬ 0 = id := by omega
 have n0' : ¬ id = 0 := by omega
 have hil := (gsI hx)
 simp -dsimp -implicitDefEqProofs [-getElem?_pos, go_sem, hP, b0, lt0, ho, hil, n0]
 generalize hH3 : List.set H2 0 _ = H3
 have e0 : H3[0]? = some (some (ownO d.Account d.Queue id d.Items.length)) := by rw [← hH3, List.getElem?_set_self lt0]
 have e1 : H3[1]? = H2[1]? := by rw [← hH3, List.getElem?_set_ne (by omega)]
 have ei : H3[id]? = H2[id]? := by rw [← hH3, List.getElem?_set_ne (by omega)]
 rw [b1] at e1
 rw [ho] at ei
 refine callB_m (by rw [hr, hs]; exact hg c1 none none x i 0 id H3 hx n0 e0 ei) hP hen ?_
 rintro r H4 ⟨rfl, hdo, hk4⟩
 have f1 := hk4 _ _ (by simp; omega) e1
 have m1 := (gsI f1)
 by_cases c4 : (f d x).e = 0
 rotate_left
 ·have d4 := decide_eq_false c4
  rw [if_neg c4]
  simp -dsimp -implicitDefEqProofs [-getElem?_pos, go_sem, hP, d4, f1, m1]
  exact done_zeroD rfl
 obtain ⟨g0, gi⟩ := hdo c4
 have m0 := (gsI g0)
 have d4 := decide_eq_true c4
 have n01 : ¬ 1 = id := by omega
 rw [if_pos c4]
 simp -dsimp -implicitDefEqProofs [-getElem?_pos, go_sem, hP, c4, d4, f1, m1, g0, m0]
 refine done_agg2 (cs' := TDesk.cells ⟨(f d x).a, (f d x).q, d.Items.set i (f d x).x⟩) ?_ rfl
 refine cw_sc (cw_imm (imm_subs _) (cw_imm (imm_ents _) (cw_imm (imm_pays _) (cw_imm (imm_nums _) (cw_imm (imm_bats _) (cw_sref (ty := 46) ?_ ?_ (imm_items _) .nil))))))
 ·rw [List.getElem?_set_ne n01]
  exact gi
 ·rw [encL_len, List.length_set]
theorem settle1_do (d : TDesk) : DoM 79 [] d settleF := by
 intro row src x at_ b id H hx hbi hb hi
 have hil := (gsI hx)
 have ltb := (gsI hb)
 have lti := (gsI hi)
 obtain ⟨C, hC⟩ : ∃ C : AV → Heap → Prop, C = fun r H' => r = iv (settleF d x).e ∧ ((settleF d x).e = 0 → H'[b]? = some (some (ownO (settleF d x).a (settleF d x).q id d.Items.length)) ∧ H'[id]? = some (some (itemsO (d.Items.set at_ (settleF d x).x)))) ∧ Kept [b, id] H H' := ⟨_, rfl⟩
 rw [← hC]
 have es := encL_set TItem.cells d.Items at_ (settleF d x).x
 have fin : C (iv 0) (H.set id (some ⟨46, 7, (encL TItem.cells d.Items).set at_ (settleF d x).x.cells⟩)) := by
  rw [hC, es]
  exact ⟨rfl, fun _ => ⟨by rw [List.getElem?_set_ne (Ne.symm hbi)]; exact hb, by rw [List.getElem?_set_self lti]⟩, kept_set _ (by simp) (kept_refl _ _)⟩
 refine mfun_intro Tryz.func79 rfl (by simp [Tryz.f79]) (by kernel_rfl) (⟨_, _, fin⟩) ?_
 intro E hP hr hs hN
 simp -dsimp -implicitDefEqProofs [-getElem?_pos, go_sem, hP, hi, hx, hil, lti, cIt]
 exact fin
theorem recall1_do (d : TDesk) (w : Int) (hf : FitD d) : DoM 77 [.iref [iv w]] d (recallF w) := by
 intro row src x at_ b id H hx hbi hb hi
 have hil := (gsI hx)
 have ltb := (gsI hb)
 have lti := (gsI hi)
 have iq := imm_que d.Queue
 have dp := bdrop_pf d.Queue w hf.q
 have io := imm_que (dropQ d.Queue w).1
 simp only [cQn] at iq dp io
 obtain ⟨C, hC⟩ : ∃ C : AV → Heap → Prop, C = fun r H' => r = iv (recallF w d x).e ∧ ((recallF w d x).e = 0 → H'[b]? = some (some (ownO (recallF w d x).a (recallF w d x).q id d.Items.length)) ∧ H'[id]? = some (some (itemsO (d.Items.set at_ (recallF w d x).x)))) ∧ Kept [b, id] H H' := ⟨_, rfl⟩
 rw [← hC]
 have es := encL_set TItem.cells d.Items at_ (recallF w d x).x
 have fin : C (iv (recallF w d x).e) ((H.set id (some ⟨46, 7, (encL TItem.cells d.Items).set at_ (recallF w d x).x.cells⟩)).set b (some (ownO (recallF w d x).a (recallF w d x).q id d.Items.length))) := by
  rw [hC, es]
  exact ⟨rfl, fun _ => ⟨by rw [List.getElem?_set_self (by simpa using ltb)], by rw [List.getElem?_set_ne hbi, List.getElem?_set_self lti]⟩, kept_set _ (by simp) (kept_set _ (by simp) (kept_refl _ _))⟩
 refine mfun_intro Tryz.func77 rfl (by simp [Tryz.f77]) (by kernel_rfl) (⟨_, _, fin⟩) ?_
 intro E hP hr hs hN
 simp -dsimp -implicitDefEqProofs [-getElem?_pos, go_sem, hP, hi, hx, hil, lti, cIt]
 have hb1 : (H.set id (some ⟨46, 7, (encL TItem.cells d.Items).set at_ (recallF w d x).x.cells⟩))[b]? = H[b]? := List.getElem?_set_ne (Ne.symm hbi)
 have hl1 : (H.set id (some ⟨46, 7, (encL TItem.cells d.Items).set at_ (recallF w d x).x.cells⟩)).length = H.length := List.length_set
 rw [hb] at hb1
 simp only [recallF, cIt] at hb1 hl1 fin
 generalize hH1 : List.set H id _ = H1 at hb1 hl1 fin
 rw [← hl1] at ltb
 refine adrawB (fun i => decide (i = b)) [12] hP (by kernel_rfl) (by kernel_rfl) ?_
 simp -dsimp -implicitDefEqProofs [-getElem?_pos, go_sem, hP, hb1, ltb]
 refine callB_is (dp.lift _ _) hP en_78 (by simpa [imm_sc] using iq) (imm_pair io .sc) ?_
 simp -dsimp -implicitDefEqProofs [-getElem?_pos, go_sem, hP, hb1, ltb]
 exact fin
theorem return1_do (d : TDesk) (w day : Int) (hf : FitD d) : DoM 74 [.iref [iv day], .iref [iv w]] d (returnF w day) := by
 intro row src x at_ b id H hx hbi hb hi
 have hil := (gsI hx)
 have ltb := (gsI hb)
 have lti := (gsI hi)
 have ia := imm_acc d.Account
 have nx := next_pf d.Account day 0 x.Payment.Sub x.Payment.Amount w hf.e
 have po := post_pf d.Account (nextE d.Account day 0 x.Payment.Sub x.Payment.Amount w) hf.s hf.e
 have ie := imm_ent (nextE d.Account day 0 x.Payment.Sub x.Payment.Amount w)
 have io := imm_acc (postA d.Account (nextE d.Account day 0 x.Payment.Sub x.Payment.Amount w)).1
 simp only [cA] at ia nx po io
 obtain ⟨C, hC⟩ : ∃ C : AV → Heap → Prop, C = fun r H' => r = iv (returnF w day d x).e ∧ ((returnF w day d x).e = 0 → H'[b]? = some (some (ownO (returnF w day d x).a (returnF w day d x).q id d.Items.length)) ∧ H'[id]? = some (some (itemsO (d.Items.set at_ (returnF w day d x).x)))) ∧ Kept [b, id] H H' := ⟨_, rfl⟩
 rw [← hC]
 have es := encL_set TItem.cells d.Items at_ (returnF w day d x).x
 have fin : C (iv (returnF w day d x).e) ((H.set id (some ⟨46, 7, (encL TItem.cells d.Items).set at_ (returnF w day d x).x.cells⟩)).set b (some (ownO (returnF w day d x).a (returnF w day d x).q id d.Items.length))) := by
  rw [hC, es]
  exact ⟨rfl, fun _ => ⟨by rw [List.getElem?_set_self (by simpa using ltb)], by rw [List.getElem?_set_ne hbi, List.getElem?_set_self lti]⟩, kept_set _ (by simp) (kept_set _ (by simp) (kept_refl _ _))⟩
 refine mfun_intro Tryz.func74 rfl (by simp [Tryz.f74]) (by kernel_rfl) (⟨_, _, fin⟩) ?_
 intro E hP hr hs hN
 simp -dsimp -implicitDefEqProofs [-getElem?_pos, go_sem, hP, hi, hx, hil, lti, cIt]
 have hb1 : (H.set id (some ⟨46, 7, (encL TItem.cells d.Items).set at_ (returnF w day d x).x.cells⟩))[b]? = H[b]? := List.getElem?_set_ne (Ne.symm hbi)
 have hi1 : (H.set id (some ⟨46, 7, (encL TItem.cells d.Items).set at_ (returnF w day d x).x.cells⟩))[id]? = some (some ⟨46, 7, encL TItem.cells (d.Items.set at_ (returnF w day d x).x)⟩) := by rw [List.getElem?_set_self lti, es]
 have hx1 : (d.Items.set at_ (returnF w day d x).x)[at_]? = some (returnF w day d x).x := List.getElem?_set_self hil
 have hl1 : (H.set id (some ⟨46, 7, (encL TItem.cells d.Items).set at_ (returnF w day d x).x.cells⟩)).length = H.length := List.length_set
 rw [hb] at hb1
 simp only [returnF, cIt] at hb1 hl1 hi1 hx1 fin
 generalize hH1 : List.set H id _ = H1 at hb1 hl1 hi1 fin
 generalize List.set d.Items at_ _ = L1 at hi1 hx1
 have hil1 := (gsI hx1)
 rw [← hl1] at ltb lti
 refine adrawB (fun i => decide (i = b) || decide (i = id)) [28] hP (by kernel_rfl) (by kernel_rfl) ?_
 simp -dsimp -implicitDefEqProofs [-getElem?_pos, go_sem, hP, hb1, ltb, hi1, hx1, lti, hil1, cIt]
 refine callB_is (nx.lift _ _) hP en_62 (by simpa [imm_sc] using ia) ie ?_
 simp -dsimp -implicitDefEqProofs [-getElem?_pos, go_sem, hP, hb1, ltb, hi1, hx1, lti, hil1, cIt]
 refine callB_is (po.lift _ _) hP en_61 (by simpa using ⟨ia, ie⟩) (imm_pair io .sc) ?_
 simp -dsimp -implicitDefEqProofs [-getElem?_pos, go_sem, hP, hb1, ltb, hi1, hx1, lti, hil1, cIt]
 exact fin
theorem again1_do (d : TDesk) (due : Int) (hf : FitD d) : DoM 75 [.iref [iv due]] d (againF due) := by
 intro row src x at_ b id H hx hbi hb hi
 have hil := (gsI hx)
 have ltb := (gsI hb)
 have lti := (gsI hi)
 have iq := imm_que d.Queue
 have ip := imm_pay (duePay x.Payment due)
 have ap := bagain_pf d.Queue (duePay x.Payment due) hf.q
 have io := imm_que (againQ d.Queue (duePay x.Payment due)).1
 simp only [cQn] at iq ap io
 obtain ⟨C, hC⟩ : ∃ C : AV → Heap → Prop, C = fun r H' => r = iv (againF due d x).e ∧ ((againF due d x).e = 0 → H'[b]? = some (some (ownO (againF due d x).a (againF due d x).q id d.Items.length)) ∧ H'[id]? = some (some (itemsO (d.Items.set at_ (againF due d x).x)))) ∧ Kept [b, id] H H' := ⟨_, rfl⟩
 rw [← hC]
 by_cases c1 : x.Attempts = 5
 ·have fin : C (iv 3) H := by
   rw [hC]
   have : againF due d x = ⟨d.Account, d.Queue, x, 3⟩ := by rw [againF, if_pos c1]
   rw [this]
   exact ⟨rfl, fun h => absurd h (by simp), kept_refl _ _⟩
  refine mfun_intro Tryz.func75 rfl (by simp [Tryz.f75]) (by kernel_rfl) (⟨_, _, fin⟩) ?_
  intro E hP hr hs hN
  simp -dsimp -implicitDefEqProofs [-getElem?_pos, go_sem, hP, hi, hx, hil, lti, cIt, c1]
  exact fin
 have d1 := decide_eq_false c1
 have hag : againF due d x = ⟨d.Account, (againQ d.Queue (duePay x.Payment due)).1, ⟨duePay x.Payment due, 1, x.Attempts⟩, (againQ d.Queue (duePay x.Payment due)).2⟩ := by rw [againF, if_neg c1]
 obtain ⟨y, hy⟩ : ∃ y : TItem, y = ⟨duePay x.Payment due, 1, x.Attempts⟩ := ⟨_, rfl⟩
 rw [← hy] at hag
 rw [hag] at hC
 have es := encL_set TItem.cells d.Items at_ y
 have fin : C (iv (againQ d.Queue (duePay x.Payment due)).2) ((H.set id (some ⟨46, 7, (encL TItem.cells d.Items).set at_ y.cells⟩)).set b (some (ownO d.Account (againQ d.Queue (duePay x.Payment due)).1 id d.Items.length))) := by
  rw [hC, es]
  exact ⟨rfl, fun _ => ⟨by rw [List.getElem?_set_self (by simpa using ltb)], by rw [List.getElem?_set_ne hbi, List.getElem?_set_self lti]⟩, kept_set _ (by simp) (kept_set _ (by simp) (kept_refl _ _))⟩
 refine mfun_intro Tryz.func75 rfl (by simp [Tryz.f75]) (by kernel_rfl) (⟨_, _, fin⟩) ?_
 intro E hP hr hs hN
 simp -dsimp -implicitDefEqProofs [-getElem?_pos, go_sem, hP, hi, hx, hil, lti, cIt, d1]
 refine adrawB (fun _ => false) [3, 4, 6, 7, 8, 9] hP (by kernel_rfl) (by kernel_rfl) ?_
 simp -dsimp -implicitDefEqProofs [-getElem?_pos, go_sem, hP, hi, hx, hil, lti, cIt]
 refine ⟨fun _ h => (by cases h), ?_⟩
 have hb1 : (H.set id (some ⟨46, 7, (encL TItem.cells d.Items).set at_ y.cells⟩))[b]? = H[b]? := List.getElem?_set_ne (Ne.symm hbi)
 have hi1 : (H.set id (some ⟨46, 7, (encL TItem.cells d.Items).set at_ y.cells⟩))[id]? = some (some ⟨46, 7, encL TItem.cells (d.Items.set at_ y)⟩) := by rw [List.getElem?_set_self lti, es]
 have hx1 : (d.Items.set at_ y)[at_]? = some y := List.getElem?_set_self hil
 have hl1 : (H.set id (some ⟨46, 7, (encL TItem.cells d.Items).set at_ y.cells⟩)).length = H.length := List.length_set
 rw [hb] at hb1
 rw [hy] at hb1 hl1 hi1 hx1 fin
 simp only [duePay, cIt] at hb1 hl1 hi1 hx1 fin
 generalize hH1 : List.set H id _ = H1 at hb1 hl1 hi1 fin
 generalize List.set d.Items at_ _ = L1 at hi1 hx1
 have hil1 := (gsI hx1)
 rw [← hl1] at ltb lti
 simp only [duePay, cPy] at ip ap io
 refine adrawB (fun i => decide (i = b) || decide (i = id)) [15] hP (by kernel_rfl) (by kernel_rfl) ?_
 simp -dsimp -implicitDefEqProofs [-getElem?_pos, go_sem, hP, hb1, ltb, hi1, hx1, lti, hil1, cIt]
 refine callB_is (ap.lift _ _) hP en_76 (by simpa using ⟨iq, ip⟩) (imm_pair io .sc) ?_
 simp -dsimp -implicitDefEqProofs [-getElem?_pos, go_sem, hP, hb1, ltb, hi1, hx1, lti, hil1, cIt]
 exact fin
theorem rsettle_pf (d : TDesk) (w : Int) (hf : FitD d) : PFun Tryz.prog none none 32 [.agg d.cells, iv w] (· = .tup [.agg (settleD d w).1.cells, iv (settleD d w).2]) := by
 refine pfun_intro Tryz.func32 rfl (by simp [Tryz.f32]) (by kernel_rfl) ?_
 intro E hP hr hs hW hN
 have id' := imm_desk d
 have io := imm_desk (settleD d w).1
 have ch := change_pf d w 2 79 [] settleF hf en_79 (by simp) fun _ => settle1_do d
 rw [← settleD] at ch
 simp only [cDn] at id' ch io
 simp -dsimp -implicitDefEqProofs [-getElem?_pos, go_sem, hP, cDn]
 refine callB_is (ch.lift _ _) hP en_73 (by simpa [imm_sc, imm_fn] using id') (imm_pair io .sc) ?_
 simp -dsimp -implicitDefEqProofs [-getElem?_pos, go_sem, hP]
 exact done_imm (imm_pair io .sc) rfl
theorem rrecall_pf (d : TDesk) (w : Int) (hf : FitD d) : PFun Tryz.prog none none 31 [.agg d.cells, iv w] (· = .tup [.agg (recallD d w).1.cells, iv (recallD d w).2]) := by
 refine pfun_intro Tryz.func31 rfl (by simp [Tryz.f31]) (by kernel_rfl) ?_
 intro E hP hr hs hW hN
 have id' := imm_desk d
 have io := imm_desk (recallD d w).1
 have ch := change_pf d w 1 77 [.iref [iv w]] (recallF w) hf en_77 (by simp [imm_iref, imm_sc]) fun _ => recall1_do d w hf
 rw [← recallD] at ch
 simp only [cDn] at id' ch io
 simp -dsimp -implicitDefEqProofs [-getElem?_pos, go_sem, hP, cDn]
 refine callB_frz (ch.lift _ _) hP hW en_73 (args_imm id' (args_imm .sc (args_imm .sc (args_fnc (cs := [.ref 1 0 0]) (by simp -dsimp [-getElem?_pos, go_sem, viewR_ref]) (by simp [imm_iref, imm_sc]) (args_nil.2 trivial))))) (imm_pair io .sc) ?_
 simp -dsimp -implicitDefEqProofs [-getElem?_pos, go_sem, hP, killAll, List.flatMap_cons, List.flatMap_nil, List.foldl_cons, List.foldl_nil, List.append_nil, List.cons_append, List.nil_append]
 exact done_imm (imm_pair io .sc) rfl
theorem rreturn_pf (d : TDesk) (w day : Int) (hf : FitD d) : PFun Tryz.prog none none 28 [.agg d.cells, iv w, iv day] (· = .tup [.agg (returnD d w day).1.cells, iv (returnD d w day).2]) := by
 refine pfun_intro Tryz.func28 rfl (by simp [Tryz.f28]) (by kernel_rfl) ?_
 intro E hP hr hs hW hN
 have id' := imm_desk d
 have io := imm_desk (returnD d w day).1
 have ch := change_pf d w 2 74 [.iref [iv day], .iref [iv w]] (returnF w day) hf en_74 (by simp [imm_iref, imm_sc]) fun _ => return1_do d w day hf
 rw [← returnD] at ch
 simp only [cDn] at id' ch io
 simp -dsimp -implicitDefEqProofs [-getElem?_pos, go_sem, hP, cDn]
 refine callB_frz (ch.lift _ _) hP hW en_73 (args_imm id' (args_imm .sc (args_imm .sc (args_fnc (cs := [.ref 2 0 0, .ref 1 0 0]) (by simp -dsimp [-getElem?_pos, go_sem, viewR_ref]) (by simp [imm_iref, imm_sc]) (args_nil.2 trivial))))) (imm_pair io .sc) ?_
 simp -dsimp -implicitDefEqProofs [-getElem?_pos, go_sem, hP, killAll, List.flatMap_cons, List.flatMap_nil, List.foldl_cons, List.foldl_nil, List.append_nil, List.cons_append, List.nil_append]
 exact done_imm (imm_pair io .sc) rfl
theorem ragain_pf (d : TDesk) (w due : Int) (hf : FitD d) : PFun Tryz.prog none none 29 [.agg d.cells, iv w, iv due] (· = .tup [.agg (againD d w due).1.cells, iv (againD d w due).2]) := by
 refine pfun_intro Tryz.func29 rfl (by simp [Tryz.f29]) (by kernel_rfl) ?_
 intro E hP hr hs hW hN
 have id' := imm_desk d
 have io := imm_desk (againD d w due).1
 have ch := change_pf d w 4 75 [.iref [iv due]] (againF due) hf en_75 (by simp [imm_iref, imm_sc]) fun _ => again1_do d due hf
 rw [← againD] at ch
 simp only [cDn] at id' ch io
 simp -dsimp -implicitDefEqProofs [-getElem?_pos, go_sem, hP, cDn]
 refine callB_frz (ch.lift _ _) hP hW en_73 (args_imm id' (args_imm .sc (args_imm .sc (args_fnc (cs := [.ref 1 0 0]) (by simp -dsimp [-getElem?_pos, go_sem, viewR_ref]) (by simp [imm_iref, imm_sc]) (args_nil.2 trivial))))) (imm_pair io .sc) ?_
 simp -dsimp -implicitDefEqProofs [-getElem?_pos, go_sem, hP, killAll, List.flatMap_cons, List.flatMap_nil, List.foldl_cons, List.foldl_nil, List.append_nil, List.cons_append, List.nil_append]
 exact done_imm (imm_pair io .sc) rfl
open Go.PA
open Go.RowKit
theorem rat_pf (d : TDesk) (w : Int) (hl : d.Items.length ≤ 1000000) : PFun Tryz.prog none none 92 [.agg d.cells, iv w] (· = iv (posI d.Items w)) := by
 refine pfun_intro Tryz.func92 rfl (by simp [Tryz.f92]) (by kernel_rfl) ?_
 intro E hP hr hs hW hN
 obtain ⟨R, hR⟩ : ∃ R, R = posI d.Items w := ⟨_, rfl⟩
 rw [← hR]
 rw [posI] at hR
 obtain ⟨l, hll⟩ : ∃ l, l = d.Items := ⟨_, rfl⟩
 rw [← hll] at hR hl
 simp -dsimp -implicitDefEqProofs [-getElem?_pos, go_sem, hP, cDn, ← hll]
 obtain ⟨I, hI⟩ : ∃ I : Nat → St → Prop, I = fun m s => ∃ k : Nat, k ≤ l.length ∧ m = l.length - k ∧ R = idxFrom (fun x : TItem => decide (x.Payment.Warrant = w)) k (l.drop k) ∧ s.t 1 = iv w ∧ s.t 8 = itemsL l ∧ s.t 9 = iv l.length ∧ s.t 10 = iv k := ⟨_, rfl⟩
 refine aloop0 I (l.length) (by rw [hN]; rfl) ?_ ?_
 ·rw [hI]
  exact ⟨0, by omega, by omega, by rw [hR]; rfl, by simp -dsimp [-getElem?_pos, go_sem], by simp -dsimp [-getElem?_pos, go_sem], by simp -dsimp [-getElem?_pos, go_sem], by simp -dsimp [-getElem?_pos, go_sem]⟩
 intro m s hs'
 rw [hI] at hs'
 obtain ⟨k, hk, hm, hq, t1, t8, t9, t10⟩ := hs'
 simp -dsimp -implicitDefEqProofs [-getElem?_pos, go_sem, hP, t9, t10]
 refine condP (fun h => ?_) (fun h => ?_)
 ·have hk : k < l.length := by simpa using h
  obtain ⟨a, ha⟩ : ∃ a, l[k]? = some a := ⟨_, List.getElem?_eq_getElem hk⟩
  have wk := wrap_in ((k : Int) + 1) (by omega)
  rw [drop_at ha, idxFrom] at hq
  by_cases c : a.Payment.Warrant = w
  ·rw [if_pos (by simpa using c)] at hq
   simp -dsimp -implicitDefEqProofs [-getElem?_pos, go_sem, hP, t8, t10, ha, cIt, t1, c, hq]
  ·rw [if_neg (by simpa using c)] at hq
   have d := decide_eq_false c
   simp -dsimp -implicitDefEqProofs [-getElem?_pos, go_sem, hP, t8, t10, ha, cIt, t1, c, d, wk]
   refine ⟨l.length - (k + 1), by omega, ?_⟩
   rw [hI]
   exact ⟨k + 1, by omega, rfl, hq, by simp -dsimp [-getElem?_pos, go_sem, t1], by simp -dsimp [-getElem?_pos, go_sem, t8], by simp -dsimp [-getElem?_pos, go_sem, t9], by simp -dsimp [-getElem?_pos, go_sem]⟩
 ·have hk : k = l.length := by simp at h; omega
  subst hk
  rw [List.drop_length, idxFrom] at hq
  simp -dsimp -implicitDefEqProofs [-getElem?_pos, go_sem, hP, hq]
abbrev zeroP : TPayment := ⟨0, 0, 0, 0, 0⟩
theorem rwaiting_pf (q : TQueue) (w : Int) (hl : q.Waiting.length ≤ 1000000) : PFun Tryz.prog none none 86 [.agg q.cells, iv w] (· = .tup [.agg ((waitO q w).getD zeroP).cells, bv (waitO q w).isSome]) := by
 refine pfun_intro Tryz.func86 rfl (by simp [Tryz.f86]) (by kernel_rfl) ?_
 intro E hP hr hs hW hN
 obtain ⟨o, ho⟩ : ∃ o, o = waitO q w := ⟨_, rfl⟩
 rw [← ho]
 rw [waitO] at ho
 obtain ⟨l, hll⟩ : ∃ l, l = q.Waiting := ⟨_, rfl⟩
 rw [← hll] at ho hl
 simp -dsimp -implicitDefEqProofs [-getElem?_pos, go_sem, hP, cQn, ← hll]
 obtain ⟨I, hI⟩ : ∃ I : Nat → St → Prop, I = fun m s => ∃ k : Nat, k ≤ l.length ∧ m = l.length - k ∧ o = (l.drop k).find? (hasW w) ∧ s.t 1 = iv w ∧ s.t 4 = .ref 1 0 0 ∧ s.t 9 = paysL l ∧ s.t 10 = iv l.length ∧ s.t 11 = iv k ∧ s.H[1]? = some (some ⟨44, 5, [[iv 0, iv 0, iv 0, iv 0, iv 0]]⟩) := ⟨_, rfl⟩
 refine aloop0 I (l.length) (by rw [hN]; rfl) ?_ ?_
 ·rw [hI]
  exact ⟨0, by omega, by omega, by rw [ho]; rfl, by simp -dsimp [-getElem?_pos, go_sem], by simp -dsimp [-getElem?_pos, go_sem], by simp -dsimp [-getElem?_pos, go_sem], by simp -dsimp [-getElem?_pos, go_sem], by simp -dsimp [-getElem?_pos, go_sem], by simp -dsimp [-getElem?_pos, go_sem]⟩
 intro m s hs'
 rw [hI] at hs'
 obtain ⟨k, hk, hm, hq, t1, t4, t9, t10, t11, h1⟩ := hs'
 have lt1 := (gsI h1)
 simp -dsimp -implicitDefEqProofs [-getElem?_pos, go_sem, hP, t10, t11]
 refine condP (fun h => ?_) (fun h => ?_)
 ·have hk : k < l.length := by simpa using h
  obtain ⟨a, ha⟩ : ∃ a, l[k]? = some a := ⟨_, List.getElem?_eq_getElem hk⟩
  have wk := wrap_in ((k : Int) + 1) (by omega)
  have g1 : ∀ x : Option AObj, (s.H ++ [x])[1]? = some (some ⟨44, 5, [[iv 0, iv 0, iv 0, iv 0, iv 0]]⟩) := fun x => by rw [List.getElem?_append_left lt1]; exact h1
  rw [drop_at ha, List.find?_cons] at hq
  by_cases c : a.Warrant = w
  ·rw [show hasW w a = true by simp [hasW, c]] at hq
   simp only at hq
   simp -dsimp -implicitDefEqProofs [-getElem?_pos, go_sem, hP, t9, t11, ha, cPy, t1, c, t4, g1, lt1, h1]
   refine done_imm (imm_pair (imm_pay ⟨w, a.Payee, a.Amount, a.Due, a.Sub⟩) .sc) ?_
   rw [hq, Option.getD_some, cPy, c]
   rfl
  ·rw [show hasW w a = false by simp [hasW, c]] at hq
   simp only at hq
   have d := decide_eq_false c
   simp -dsimp -implicitDefEqProofs [-getElem?_pos, go_sem, hP, t9, t11, ha, cPy, t1, c, d, wk]
   refine ⟨l.length - (k + 1), by omega, ?_⟩
   rw [hI]
   exact ⟨k + 1, by omega, rfl, hq, by simp -dsimp [-getElem?_pos, go_sem, t1], by simp -dsimp [-getElem?_pos, go_sem, t4], by simp -dsimp [-getElem?_pos, go_sem, t9], by simp -dsimp [-getElem?_pos, go_sem, t10], by simp -dsimp [-getElem?_pos, go_sem], by simp -dsimp [-getElem?_pos, go_sem, lt1, h1]⟩
 ·have hk : k = l.length := by simp at h; omega
  subst hk
  rw [List.drop_length, List.find?_nil] at hq
  simp -dsimp -implicitDefEqProofs [-getElem?_pos, go_sem, hP, t4, h1, lt1, hq]
  exact done_imm (imm_pair (imm_pay zeroP) .sc) (by rw [hq]; rfl)
theorem rbatched_pf (q : TQueue) (w : Int) (hf : FitQ q) : PFun Tryz.prog none none 87 [.agg q.cells, iv w] (· = iv (batN q w)) := by
 refine pfun_intro Tryz.func87 rfl (by simp [Tryz.f87]) (by kernel_rfl) ?_
 intro E hP hr hs hW hN
 obtain ⟨R, hR⟩ : ∃ R, R = batN q w := ⟨_, rfl⟩
 rw [← hR]
 rw [batN] at hR
 have lb := hf.b
 have each := hf.each
 obtain ⟨l, hl⟩ : ∃ l, l = q.Batches := ⟨_, rfl⟩
 rw [← hl] at hR lb each
 simp -dsimp -implicitDefEqProofs [-getElem?_pos, go_sem, hP, cQn, ← hl]
 obtain ⟨I, hI⟩ : ∃ I : Nat → St → Prop, I = fun m s => ∃ (k c : Nat), k ≤ l.length ∧ m = l.length - k ∧ c = ((l.take k).map fun b => b.Payments.countP (hasW w)).sum ∧ c ≤ 100000 * k ∧ s.t 1 = iv w ∧ s.t 5 = iv c ∧ s.t 11 = batsL l ∧ s.t 12 = iv l.length ∧ s.t 13 = iv k := ⟨_, rfl⟩
 refine aloop0 I (l.length) (by rw [hN]; rfl) ?_ ?_
 ·rw [hI]
  exact ⟨0, 0, by omega, by omega, by simp, by omega, by simp -dsimp [-getElem?_pos, go_sem], by simp -dsimp [-getElem?_pos, go_sem], by simp -dsimp [-getElem?_pos, go_sem], by simp -dsimp [-getElem?_pos, go_sem], by simp -dsimp [-getElem?_pos, go_sem]⟩
 intro m s hs'
 rw [hI] at hs'
 obtain ⟨k, c, hk, hm, hc, hcl, t1, t5, t11, t12, t13⟩ := hs'
 simp -dsimp -implicitDefEqProofs [-getElem?_pos, go_sem, hP, t12, t13]
 refine condP (fun h => ?_) (fun h => ?_)
 ·have hk : k < l.length := by simpa using h
  obtain ⟨b, hb⟩ : ∃ b, l[k]? = some b := ⟨_, List.getElem?_eq_getElem hk⟩
  have wk := wrap_in ((k : Int) + 1) (by omega)
  have hbl := each b (List.mem_of_getElem? hb)
  have es : ((l.take (k + 1)).map fun b => b.Payments.countP (hasW w)).sum = ((l.take k).map fun b => b.Payments.countP (hasW w)).sum + b.Payments.countP (hasW w) := by rw [take_at hb, List.map_append, List.sum_append]; simp
  have lp := List.countP_le_length (p := hasW w) (l := b.Payments)
  obtain ⟨P, hPP⟩ : ∃ P, P = b.Payments := ⟨_, rfl⟩
  rw [← hPP] at hbl es lp
  simp -dsimp -implicitDefEqProofs [-getElem?_pos, go_sem, hP, t11, t13, hb, cBt, ← hPP]
  obtain ⟨J, hJ⟩ : ∃ I : Nat → St → Prop, I = fun m s => ∃ (j : Nat), j ≤ P.length ∧ m = P.length - j ∧ s.t 1 = iv w ∧ s.t 5 = iv (c + (P.take j).countP (hasW w)) ∧ s.t 11 = batsL l ∧ s.t 12 = iv l.length ∧ s.t 13 = iv k ∧ s.t 18 = paysL P ∧ s.t 19 = iv P.length ∧ s.t 20 = iv j := ⟨_, rfl⟩
  refine aloop0 J (P.length) (by rw [hN]; rfl) ?_ ?_
  ·rw [hJ]
   exact ⟨0, by omega, by omega, by simp -dsimp [-getElem?_pos, go_sem, t1], by simp -dsimp [-getElem?_pos, go_sem, t5], by simp -dsimp [-getElem?_pos, go_sem, t11], by simp -dsimp [-getElem?_pos, go_sem, t12], by simp -dsimp [-getElem?_pos, go_sem, t13], by simp -dsimp [-getElem?_pos, go_sem], by simp -dsimp [-getElem?_pos, go_sem], by simp -dsimp [-getElem?_pos, go_sem]⟩
  clear t1 t5 t11 t12 t13
  intro m s hs'
  rw [hJ] at hs'
  obtain ⟨j, hj, hm2, t1, t5, t11, t12, t13, t18, t19, t20⟩ := hs'
  simp -dsimp -implicitDefEqProofs [-getElem?_pos, go_sem, hP, t19, t20]
  refine condP (fun h => ?_) (fun h => ?_)
  ·have hj : j < P.length := by simpa using h
   obtain ⟨p, hp⟩ : ∃ p, P[j]? = some p := ⟨_, List.getElem?_eq_getElem hj⟩
   have wj := wrap_in ((j : Int) + 1) (by omega)
   have ej : (P.take (j + 1)).countP (hasW w) = (P.take j).countP (hasW w) + if hasW w p = true then 1 else 0 := by rw [take_at hp, List.countP_append, List.countP_cons, List.countP_nil, Nat.zero_add]
   have lj := List.countP_le_length (p := hasW w) (l := P.take j)
   rw [List.length_take] at lj
   generalize (P.take j).countP (hasW w) = cj at ej t5 lj
   have wc := wrap_in ((c : Int) + cj + 1) (by omega)
   by_cases e : p.Warrant = w
   ·rw [show hasW w p = true by simp [hasW, e], if_pos rfl] at ej
    have e1 : (c : Int) + ((P.take (j + 1)).countP (hasW w) : Nat) = c + cj + 1 := by rw [ej]; omega
    simp -dsimp -implicitDefEqProofs [-getElem?_pos, go_sem, hP, t18, t20, hp, cPy, t1, e, t5, wc, wj]
    refine ⟨P.length - (j + 1), by omega, ?_⟩
    rw [hJ]
    exact ⟨j + 1, by omega, rfl, by simp -dsimp [-getElem?_pos, go_sem, t1], by simp -dsimp [-getElem?_pos, go_sem, e1], by simp -dsimp [-getElem?_pos, go_sem, t11], by simp -dsimp [-getElem?_pos, go_sem, t12], by simp -dsimp [-getElem?_pos, go_sem, t13], by simp -dsimp [-getElem?_pos, go_sem, t18], by simp -dsimp [-getElem?_pos, go_sem, t19], by simp -dsimp [-getElem?_pos, go_sem]⟩
   ·rw [show hasW w p = false by simp [hasW, e], if_neg (by simp)] at ej
    have d := decide_eq_false e
    simp -dsimp -implicitDefEqProofs [-getElem?_pos, go_sem, hP, t18, t20, hp, cPy, t1, e, d, wj]
    refine ⟨P.length - (j + 1), by omega, ?_⟩
    rw [hJ]
    exact ⟨j + 1, by omega, rfl, by simp -dsimp [-getElem?_pos, go_sem, t1], by simp -dsimp [-getElem?_pos, go_sem, t5, ej], by simp -dsimp [-getElem?_pos, go_sem, t11], by simp -dsimp [-getElem?_pos, go_sem, t12], by simp -dsimp [-getElem?_pos, go_sem, t13], by simp -dsimp [-getElem?_pos, go_sem, t18], by simp -dsimp [-getElem?_pos, go_sem, t19], by simp -dsimp [-getElem?_pos, go_sem]⟩
  ·have hj : j = P.length := by simp at h; omega
   subst hj
   rw [List.take_length] at t5
   simp -dsimp -implicitDefEqProofs [-getElem?_pos, go_sem, hP, t13, wk]
   refine ⟨l.length - (k + 1), by omega, ?_⟩
   rw [hI]
   exact ⟨k + 1, c + P.countP (hasW w), by omega, rfl, by rw [es, hc], by omega, by simp -dsimp [-getElem?_pos, go_sem, t1], by simp -dsimp [-getElem?_pos, go_sem, t5], by simp -dsimp [-getElem?_pos, go_sem, t11], by simp -dsimp [-getElem?_pos, go_sem, t12], by simp -dsimp [-getElem?_pos, go_sem]⟩
 ·have hk : k = l.length := by simp at h; omega
  subst hk
  rw [List.take_length] at hc
  simp -dsimp -implicitDefEqProofs [-getElem?_pos, go_sem, hP, t5, hR, hc]
theorem rcounted_pf (a : TAccount) (p : TPayment) (he : a.Entries.length ≤ 100000) (hs1 : 1 ≤ p.Sub) : PFun Tryz.prog none none 88 [.agg a.cells, .agg p.cells] (· = .tup [iv (a.Entries.countP (outE p)), iv (a.Entries.countP (inE p)), bv (a.Entries.all (okE p))]) := by
 refine pfun_intro Tryz.func88 rfl (by simp [Tryz.f88]) (by kernel_rfl) ?_
 intro E hP hr hs hW hN
 obtain ⟨l, hl⟩ : ∃ l, l = a.Entries := ⟨_, rfl⟩
 rw [← hl] at he
 simp -dsimp -implicitDefEqProofs [-getElem?_pos, go_sem, hP, cA, cPy, ← hl]
 obtain ⟨I, hI⟩ : ∃ I : Nat → St → Prop, I = fun m s => ∃ (k o i : Nat), k ≤ l.length ∧ m = l.length - k ∧ o ≤ k ∧ i ≤ k ∧ o = (l.take k).countP (outE p) ∧ i = (l.take k).countP (inE p) ∧ s.t 3 = .ref 1 0 0 ∧ s.t 7 = iv o ∧ s.t 8 = iv i ∧ s.t 9 = bv ((l.take k).all (okE p)) ∧ s.t 13 = entsL l ∧ s.t 14 = iv l.length ∧ s.t 15 = iv k ∧ s.H[1]? = some (some ⟨44, 5, [[iv p.Warrant, iv p.Payee, iv p.Amount, iv p.Due, iv p.Sub]]⟩) := ⟨_, rfl⟩
 refine aloop0 I (l.length) (by rw [hN]; rfl) ?_ ?_
 ·rw [hI]
  exact ⟨0, 0, 0, by omega, by omega, by omega, by omega, by simp, by simp, by simp -dsimp [-getElem?_pos, go_sem], by simp -dsimp [-getElem?_pos, go_sem], by simp -dsimp [-getElem?_pos, go_sem], by simp -dsimp [-getElem?_pos, go_sem], by simp -dsimp [-getElem?_pos, go_sem], by simp -dsimp [-getElem?_pos, go_sem], by simp -dsimp [-getElem?_pos, go_sem], by simp -dsimp [-getElem?_pos, go_sem]⟩
 intro m s hs'
 rw [hI] at hs'
 obtain ⟨k, o, i, hk, hm, lo, li, ho, hi, t3, t7, t8, t9, t13, t14, t15, h1⟩ := hs'
 have lt1 := (gsI h1)
 simp -dsimp -implicitDefEqProofs [-getElem?_pos, go_sem, hP, t14, t15]
 refine condP (fun h => ?_) (fun h => ?_)
 ·have hk : k < l.length := by simpa using h
  obtain ⟨e, hee⟩ : ∃ e, l[k]? = some e := ⟨_, List.getElem?_eq_getElem hk⟩
  have wk := wrap_in ((k : Int) + 1) (by omega)
  have g1 : ∀ y : Option AObj, (s.H ++ [y])[1]? = some (some ⟨44, 5, [[iv p.Warrant, iv p.Payee, iv p.Amount, iv p.Due, iv p.Sub]]⟩) := fun y => by rw [List.getElem?_append_left lt1]; exact h1
  have eo : (l.take (k + 1)).countP (outE p) = (l.take k).countP (outE p) + if outE p e = true then 1 else 0 := by rw [take_at hee, List.countP_append, List.countP_cons, List.countP_nil, Nat.zero_add]
  have ei : (l.take (k + 1)).countP (inE p) = (l.take k).countP (inE p) + if inE p e = true then 1 else 0 := by rw [take_at hee, List.countP_append, List.countP_cons, List.countP_nil, Nat.zero_add]
  have ea : (l.take (k + 1)).all (okE p) = ((l.take k).all (okE p) && okE p e) := by rw [take_at hee, List.all_append]; simp
  rw [← ho] at eo
  rw [← hi] at ei
  generalize (l.take k).all (okE p) = bk at ea t9
  have wo := wrap_in ((o : Int) + 1) (by omega)
  have wi := wrap_in ((i : Int) + 1) (by omega)
  have fin : ∀ (s' : St) (o' i' : Nat), o' ≤ k + 1 → i' ≤ k + 1 → o' = (l.take (k + 1)).countP (outE p) → i' = (l.take (k + 1)).countP (inE p) → s'.t 3 = .ref 1 0 0 → s'.t 7 = iv o' → s'.t 8 = iv i' → s'.t 9 = bv (bk && okE p e) → s'.t 13 = entsL l → s'.t 14 = iv l.length → s'.t 15 = iv (k + 1) → s'.H[1]? = some (some ⟨44, 5, [[iv p.Warrant, iv p.Payee, iv p.Amount, iv p.Due, iv p.Sub]]⟩) → ∃ m', m' < m ∧ I m' s' := fun s' o' i' b1 b2 b3 b4 a1 a2 a3 a4 a5 a6 a7 a8 => by
   refine ⟨l.length - (k + 1), by omega, ?_⟩
   rw [hI]
   exact ⟨k + 1, o', i', by omega, rfl, b1, b2, b3, b4, a1, a2, a3, by rw [ea]; exact a4, a5, a6, a7, a8⟩
  by_cases c1 : e.Ref = p.Warrant
  rotate_left
  ·have d1 := decide_eq_false c1
   have hok : okE p e = true := by simp [okE, d1]
   rw [show outE p e = false by simp [outE, d1], if_neg (by simp)] at eo
   rw [show inE p e = false by simp [inE, d1], if_neg (by simp)] at ei
   simp -dsimp -implicitDefEqProofs [-getElem?_pos, go_sem, hP, t13, t15, hee, cE, t3, g1, lt1, h1, c1, d1, wk]
   exact fin _ o i (by omega) (by omega) (by omega) (by omega) (by simp -dsimp [-getElem?_pos, go_sem, t3]) (by simp -dsimp [-getElem?_pos, go_sem, t7]) (by simp -dsimp [-getElem?_pos, go_sem, t8]) (by simp -dsimp [-getElem?_pos, go_sem, t9, hok]) (by simp -dsimp [-getElem?_pos, go_sem, t13]) (by simp -dsimp [-getElem?_pos, go_sem, t14]) (by simp -dsimp [-getElem?_pos, go_sem]) (by simp -dsimp [-getElem?_pos, go_sem, lt1, h1])
  have d1 : decide (e.Ref = p.Warrant) = true := decide_eq_true c1
  by_cases c2 : e.From = p.Sub
  ·have c3 : ¬ e.From = 0 := by omega
   have d3 := decide_eq_false c3
   by_cases c4 : e.To = 0
   ·have hok : okE p e = decide (e.Amount = p.Amount) := by simp [okE, c1, c2, c4]
    rw [show outE p e = true by simp [outE, c1, c2, c4], if_pos rfl] at eo
    rw [show inE p e = false by simp [inE, c3], if_neg (by simp)] at ei
    cases bk
    ·simp -dsimp -implicitDefEqProofs [-getElem?_pos, go_sem, hP, t13, t15, hee, cE, t3, g1, lt1, h1, c1, c2, c4, t7, t9, wo, wk]
     exact fin _ (o + 1) i (by omega) (by omega) (by omega) (by omega) (by simp -dsimp [-getElem?_pos, go_sem, t3]) (by simp -dsimp [-getElem?_pos, go_sem]) (by simp -dsimp [-getElem?_pos, go_sem, t8]) (by simp -dsimp [-getElem?_pos, go_sem]) (by simp -dsimp [-getElem?_pos, go_sem, t13]) (by simp -dsimp [-getElem?_pos, go_sem, t14]) (by simp -dsimp [-getElem?_pos, go_sem]) (by simp -dsimp [-getElem?_pos, go_sem, lt1, h1])
    ·simp -dsimp -implicitDefEqProofs [-getElem?_pos, go_sem, hP, t13, t15, hee, cE, t3, g1, lt1, h1, c1, c2, c4, t7, t9, wo, wk]
     exact fin _ (o + 1) i (by omega) (by omega) (by omega) (by omega) (by simp -dsimp [-getElem?_pos, go_sem, t3]) (by simp -dsimp [-getElem?_pos, go_sem]) (by simp -dsimp [-getElem?_pos, go_sem, t8]) (by simp -dsimp [-getElem?_pos, go_sem, hok]) (by simp -dsimp [-getElem?_pos, go_sem, t13]) (by simp -dsimp [-getElem?_pos, go_sem, t14]) (by simp -dsimp [-getElem?_pos, go_sem]) (by simp -dsimp [-getElem?_pos, go_sem, lt1, h1])
   ·have d4 := decide_eq_false c4
    have hok : okE p e = false := by simp [okE, d1, d3, d4]
    rw [show outE p e = false by simp [outE, d4], if_neg (by simp)] at eo
    rw [show inE p e = false by simp [inE, d3], if_neg (by simp)] at ei
    have nz : ¬ p.Sub = 0 := by omega
    simp -dsimp -implicitDefEqProofs [-getElem?_pos, go_sem, hP, t13, t15, hee, cE, t3, g1, lt1, h1, c1, c2, c4, d4, nz, d3, wk]
    exact fin _ o i (by omega) (by omega) (by omega) (by omega) (by simp -dsimp [-getElem?_pos, go_sem, t3]) (by simp -dsimp [-getElem?_pos, go_sem, t7]) (by simp -dsimp [-getElem?_pos, go_sem, t8]) (by simp -dsimp [-getElem?_pos, go_sem, hok]) (by simp -dsimp [-getElem?_pos, go_sem, t13]) (by simp -dsimp [-getElem?_pos, go_sem, t14]) (by simp -dsimp [-getElem?_pos, go_sem]) (by simp -dsimp [-getElem?_pos, go_sem, lt1, h1])
  ·have d2 := decide_eq_false c2
   rw [show outE p e = false by simp [outE, d2], if_neg (by simp)] at eo
   by_cases c3 : e.From = 0
   ·by_cases c4 : e.To = p.Sub
    ·have hok : okE p e = decide (e.Amount = p.Amount) := by simp [okE, d1, c3, c4]
     rw [show inE p e = true by simp [inE, c1, c3, c4], if_pos rfl] at ei
     have d2' : decide ((0 : Int) = p.Sub) = false := by rw [← c3]; exact d2
     cases bk
     ·simp -dsimp -implicitDefEqProofs [-getElem?_pos, go_sem, hP, t13, t15, hee, cE, t3, g1, lt1, h1, c1, c2, d2, d2', c3, c4, t8, t9, wi, wk]
      exact fin _ o (i + 1) (by omega) (by omega) (by omega) (by omega) (by simp -dsimp [-getElem?_pos, go_sem, t3]) (by simp -dsimp [-getElem?_pos, go_sem, t7]) (by simp -dsimp [-getElem?_pos, go_sem]) (by simp -dsimp [-getElem?_pos, go_sem]) (by simp -dsimp [-getElem?_pos, go_sem, t13]) (by simp -dsimp [-getElem?_pos, go_sem, t14]) (by simp -dsimp [-getElem?_pos, go_sem]) (by simp -dsimp [-getElem?_pos, go_sem, lt1, h1, c3])
     ·simp -dsimp -implicitDefEqProofs [-getElem?_pos, go_sem, hP, t13, t15, hee, cE, t3, g1, lt1, h1, c1, c2, d2, d2', c3, c4, t8, t9, wi, wk]
      exact fin _ o (i + 1) (by omega) (by omega) (by omega) (by omega) (by simp -dsimp [-getElem?_pos, go_sem, t3]) (by simp -dsimp [-getElem?_pos, go_sem, t7]) (by simp -dsimp [-getElem?_pos, go_sem]) (by simp -dsimp [-getElem?_pos, go_sem, hok]) (by simp -dsimp [-getElem?_pos, go_sem, t13]) (by simp -dsimp [-getElem?_pos, go_sem, t14]) (by simp -dsimp [-getElem?_pos, go_sem]) (by simp -dsimp [-getElem?_pos, go_sem, lt1, h1, c3])
    ·have d4 := decide_eq_false c4
     have hok : okE p e = false := by simp [okE, d1, d2, d4]
     have d2' : decide ((0 : Int) = p.Sub) = false := by rw [← c3]; exact d2
     rw [show inE p e = false by simp [inE, d4], if_neg (by simp)] at ei
     simp -dsimp -implicitDefEqProofs [-getElem?_pos, go_sem, hP, t13, t15, hee, cE, t3, g1, lt1, h1, c1, c2, d2, d2', c3, c4, d4, wk]
     exact fin _ o i (by omega) (by omega) (by omega) (by omega) (by simp -dsimp [-getElem?_pos, go_sem, t3]) (by simp -dsimp [-getElem?_pos, go_sem, t7]) (by simp -dsimp [-getElem?_pos, go_sem, t8]) (by simp -dsimp [-getElem?_pos, go_sem, hok]) (by simp -dsimp [-getElem?_pos, go_sem, t13]) (by simp -dsimp [-getElem?_pos, go_sem, t14]) (by simp -dsimp [-getElem?_pos, go_sem]) (by simp -dsimp [-getElem?_pos, go_sem, lt1, h1, c3])
   ·have d3 := decide_eq_false c3
    have hok : okE p e = false := by simp [okE, d1, d2, d3]
    rw [show inE p e = false by simp [inE, d3], if_neg (by simp)] at ei
    simp -dsimp -implicitDefEqProofs [-getElem?_pos, go_sem, hP, t13, t15, hee, cE, t3, g1, lt1, h1, c1, c2, d2, c3, d3, wk]
    exact fin _ o i (by omega) (by omega) (by omega) (by omega) (by simp -dsimp [-getElem?_pos, go_sem, t3]) (by simp -dsimp [-getElem?_pos, go_sem, t7]) (by simp -dsimp [-getElem?_pos, go_sem, t8]) (by simp -dsimp [-getElem?_pos, go_sem, hok]) (by simp -dsimp [-getElem?_pos, go_sem, t13]) (by simp -dsimp [-getElem?_pos, go_sem, t14]) (by simp -dsimp [-getElem?_pos, go_sem]) (by simp -dsimp [-getElem?_pos, go_sem, lt1, h1])
 ·have hk : k = l.length := by simp at h; omega
  subst hk
  rw [List.take_length] at t9 ho hi
  simp -dsimp -implicitDefEqProofs [-getElem?_pos, go_sem, hP, t7, t8, t9]
  exact done_imm (imm_trip .sc .sc .sc) (by rw [ho, hi, hl])
open Go.PA
open Go.RowKit
theorem pay_ext {a b : TPayment} (h1 : a.Warrant = b.Warrant) (h2 : a.Payee = b.Payee) (h3 : a.Amount = b.Amount) (h4 : a.Due = b.Due) (h5 : a.Sub = b.Sub) : a = b := by
 cases a; cases b
 simp only at h1 h2 h3 h4 h5
 simp [h1, h2, h3, h4, h5]
set_option maxHeartbeats 4000000 in
theorem rcheck26_pf (d : TDesk) (hf : FitD d) : PFun Tryz.prog none none 36 [.agg d.cells] (· = iv (checkD d)) := by
 refine pfun_intro Tryz.func36 rfl (by simp [Tryz.f36]) (by kernel_rfl) ?_
 intro E hP hr hs hW hN
 have ia := imm_acc d.Account
 have iq := imm_que d.Queue
 have cka := check23_pf d.Account hf.s hf.e
 have ckq := rcheck25_pf d.Queue hf.q
 rw [cA] at ia cka
 rw [cQn] at iq ckq
 have li := hf.i
 have lk := hf.q.k
 obtain ⟨R, hR⟩ : ∃ R, R = checkD d := ⟨_, rfl⟩
 rw [← hR]
 simp -dsimp -implicitDefEqProofs [-getElem?_pos, go_sem, hP, cDn]
 refine callB_is (cka.lift _ _) hP en_47 (by simpa using ia) .sc ?_
 by_cases c1 : checkA d.Account = 0
 rotate_left
 ·have : R = checkA d.Account := by rw [hR, checkD, if_neg c1]
  simp -dsimp -implicitDefEqProofs [-getElem?_pos, go_sem, hP, c1, this]
 simp -dsimp -implicitDefEqProofs [-getElem?_pos, go_sem, hP, c1]
 refine callB_is (ckq.lift _ _) hP en_64 (by simpa using iq) .sc ?_
 by_cases c2 : checkQ d.Queue = 0
 rotate_left
 ·have : R = checkQ d.Queue := by rw [hR, checkD, if_pos c1, if_neg c2]
  simp -dsimp -implicitDefEqProofs [-getElem?_pos, go_sem, hP, c2, this]
 rw [checkD, if_pos c1, if_pos c2, deskB] at hR
 obtain ⟨l, hl⟩ : ∃ l, l = d.Items := ⟨_, rfl⟩
 obtain ⟨K, hK⟩ : ∃ K, K = d.Queue.Known := ⟨_, rfl⟩
 obtain ⟨itB, hit⟩ : ∃ f, f = itemB d := ⟨_, rfl⟩
 rw [← hl, ← hK, ← hit] at hR
 rw [← hl] at li
 rw [← hK] at lk
 rw [← hK] at iq
 by_cases c3 : l.length = K.length
 rotate_left
 ·have d3 : decide ((l.length : Int) = (K.length : Int)) = false := decide_eq_false (by omega)
  have hne : ¬ l.map wrt = K := fun e => c3 (by rw [← e, List.length_map])
  rw [decide_eq_false hne, Bool.false_and, if_neg (by simp)] at hR
  simp -dsimp -implicitDefEqProofs [-getElem?_pos, go_sem, hP, c2, ← hl, ← hK, d3, hR]
 have d3 : decide ((l.length : Int) = (K.length : Int)) = true := decide_eq_true (by omega)
 simp -dsimp -implicitDefEqProofs [-getElem?_pos, go_sem, hP, c2, ← hl, ← hK, d3]
 obtain ⟨I, hI⟩ : ∃ I : Nat → St → Prop, I = fun m s => ∃ (k : Nat), k ≤ l.length ∧ m = l.length - k ∧ (l.take k).map wrt = K.take k ∧ (l.take k).all itB = true ∧ s.t 1 = .ref 0 0 0 ∧ s.t 37 = itemsL l ∧ s.t 38 = iv l.length ∧ s.t 39 = iv k ∧ s.H[0]? = some (some ⟨35, 7, [[iv d.Account.Credit, subsL d.Account.Subs, entsL d.Account.Entries, paysL d.Queue.Waiting, numsL K, batsL d.Queue.Batches, itemsL l]]⟩) := ⟨_, rfl⟩
 refine aloop0 I (l.length) (by rw [hN]; rfl) ?_ ?_
 ·rw [hI]
  exact ⟨0, by omega, by omega, by simp, by simp, by simp -dsimp [-getElem?_pos, go_sem], by simp -dsimp [-getElem?_pos, go_sem], by simp -dsimp [-getElem?_pos, go_sem], by simp -dsimp [-getElem?_pos, go_sem], by simp -dsimp [-getElem?_pos, go_sem]⟩
 intro m s hs'
 rw [hI] at hs'
 obtain ⟨k, hk, hm, hmap, hall, t1, t37, t38, t39, h0⟩ := hs'
 have lt0 := (gsI h0)
 simp -dsimp -implicitDefEqProofs [-getElem?_pos, go_sem, hP, t38, t39]
 refine condP (fun hh => ?_) (fun hh => ?_)
 rotate_left
 ·have hk : k = l.length := by simp at hh; omega
  subst hk
  rw [List.take_length] at hmap hall
  rw [c3, List.take_length] at hmap
  rw [decide_eq_true hmap, hall] at hR
  simp -dsimp -implicitDefEqProofs [-getElem?_pos, go_sem, hP, hR]
 have hk : k < l.length := by simpa using hh
 obtain ⟨x, hx⟩ : ∃ x, l[k]? = some x := ⟨_, List.getElem?_eq_getElem hk⟩
 obtain ⟨w, hw⟩ : ∃ w, K[k]? = some w := ⟨_, List.getElem?_eq_getElem (by omega)⟩
 have wk := wrap_in ((k : Int) + 1) (by omega)
 have badI : itB x = false → R = 68 := fun e => by
  rw [hR, if_neg]
  rw [Bool.and_eq_true]
  rintro ⟨_, h1⟩
  have := List.all_eq_true.1 h1 x (List.mem_of_getElem? hx)
  rw [e] at this
  cases this
 have badW : ¬ x.Payment.Warrant = w → R = 68 := fun e => by
  rw [hR, if_neg]
  rw [Bool.and_eq_true]
  rintro ⟨h1, _⟩
  have h1 : l.map wrt = K := of_decide_eq_true h1
  have : (l.map wrt)[k]? = some x.Payment.Warrant := by rw [List.getElem?_map, hx]; rfl
  rw [h1, hw] at this
  exact e (Option.some.inj this).symm
 have hitx : itB x = (payB x.Payment && ((balanceA d.Account x.Payment.Sub).2 && (amg x.State 1 5 && (attB x && (waitB d.Queue x && (decide ((batN d.Queue x.Payment.Warrant : Int) = x.Attempts) && movedB d.Account x)))))) := by rw [hit, itemB]
 have ix := imm_item x
 have ip := imm_pay x.Payment
 have bl := balance23_pf d.Account x.Payment.Sub hf.s hf.e
 have py := rpay_pf x.Payment
 have wt := rwaiting_pf d.Queue x.Payment.Warrant (by have := hf.q.w; omega)
 have bt := rbatched_pf d.Queue x.Payment.Warrant hf.q
 have ct := fun h => rcounted_pf d.Account x.Payment hf.e h
 rw [cIt] at ix
 simp only [cA] at bl ct
 simp only [cPy] at ip py wt ct
 simp only [cQn, ← hK] at wt bt
 obtain ⟨n, hn⟩ : ∃ n, n = s.H.length := ⟨_, rfl⟩
 obtain ⟨H1, hH1⟩ : ∃ H1, H1 = s.H ++ [some (itemO x), some (⟨44, 5, [[iv x.Payment.Warrant, iv x.Payment.Payee, iv x.Payment.Amount, iv x.Payment.Due, iv x.Payment.Sub]]⟩ : AObj)] := ⟨_, rfl⟩
 have l1 : H1.length = n + 2 := by rw [hH1, hn]; simp
 have k0 : H1[0]? = some (some ⟨35, 7, [[iv d.Account.Credit, subsL d.Account.Subs, entsL d.Account.Entries, paysL d.Queue.Waiting, numsL K, batsL d.Queue.Batches, itemsL l]]⟩) := by rw [hH1, List.getElem?_append_left lt0]; exact h0
 have kn : H1[n]? = some (some (itemO x)) := by rw [hH1, hn, List.getElem?_append_right (Nat.le_refl _), Nat.sub_self]; rfl
 have kp : H1[n + 1]? = some (some ⟨44, 5, [[iv x.Payment.Warrant, iv x.Payment.Payee, iv x.Payment.Amount, iv x.Payment.Due, iv x.Payment.Sub]]⟩) := by rw [hH1, hn, List.getElem?_append_right (by omega), Nat.add_sub_cancel_left]; rfl
 have q0 : 0 < H1.length := by omega
 have qn : n < H1.length := by omega
 have qp : n + 1 < H1.length := by omega
 simp -dsimp -implicitDefEqProofs [-getElem?_pos, go_sem, hP, t37, t39, hx, cIt, t1, h0, lt0]
 rw [← hH1, ← hn]
 refine callB_is (bl.lift _ _) hP en_21 (by simpa [imm_sc] using ia) (imm_pair .sc .sc) ?_
 simp -dsimp -implicitDefEqProofs [-getElem?_pos, go_sem, hP]
 refine adrawB (fun _ => true) [] hP (by kernel_rfl) (by kernel_rfl) ?_
 by_cases e1 : x.Payment.Warrant = w
 rotate_left
 ·have f1 := decide_eq_false e1
  simp -dsimp -implicitDefEqProofs [-getElem?_pos, go_sem, hP, kp, qp, t1, k0, q0, hw, encI, f1, badW e1]
 subst e1
 simp -dsimp -implicitDefEqProofs [-getElem?_pos, go_sem, hP, kp, qp, t1, k0, q0, hw, encI]
 refine callB_is (py.lift _ _) hP en_85 (by simpa using ip) .sc ?_
 cases e2 : payB x.Payment
 ·rw [e2, Bool.false_and] at hitx
  simp -dsimp -implicitDefEqProofs [-getElem?_pos, go_sem, hP, kn, qn, badI hitx]
 rw [e2, Bool.true_and] at hitx
 have hsub := ((payB_iff x.Payment).1 e2).sub.1
 cases e3 : (balanceA d.Account x.Payment.Sub).2
 ·rw [e3, Bool.false_and] at hitx
  simp -dsimp -implicitDefEqProofs [-getElem?_pos, go_sem, hP, kn, qn, e3, badI hitx]
 rw [e3, Bool.true_and] at hitx
 by_cases e4 : x.State < 1
 ·rw [amg_no (by omega), Bool.false_and] at hitx
  simp -dsimp -implicitDefEqProofs [-getElem?_pos, go_sem, hP, kn, qn, e3, e4, badI hitx]
 have f4 := decide_eq_false e4
 by_cases e5 : 5 < x.State
 ·rw [amg_no (by omega), Bool.false_and] at hitx
  simp -dsimp -implicitDefEqProofs [-getElem?_pos, go_sem, hP, kn, qn, e3, f4, e5, badI hitx]
 have f5 := decide_eq_false e5
 rw [amg_iff.2 (by omega), Bool.true_and, attB] at hitx
 by_cases e6 : x.Attempts < 0
 ·rw [amg_no (by omega), Bool.false_and, Bool.false_and] at hitx
  simp -dsimp -implicitDefEqProofs [-getElem?_pos, go_sem, hP, kn, qn, e3, f4, f5, e6, badI hitx]
 have f6 := decide_eq_false e6
 by_cases e7 : 5 < x.Attempts
 ·rw [amg_no (by omega), Bool.false_and, Bool.false_and] at hitx
  simp -dsimp -implicitDefEqProofs [-getElem?_pos, go_sem, hP, kn, qn, e3, f4, f5, f6, e7, badI hitx]
 have f7 := decide_eq_false e7
 rw [amg_iff.2 (by omega), Bool.true_and] at hitx
 simp -dsimp -implicitDefEqProofs [-getElem?_pos, go_sem, hP, kn, qn, kp, qp, t1, k0, q0, e3, f4, f5, f6, f7]
 obtain ⟨y, hy⟩ : ∃ y, y = (waitO d.Queue x.Payment.Warrant).getD zeroP := ⟨_, rfl⟩
 obtain ⟨is, his⟩ : ∃ b, b = (waitO d.Queue x.Payment.Warrant).isSome := ⟨_, rfl⟩
 rw [← hy, ← his] at wt
 refine callB_is (wt.lift _ _) hP en_86 (by simpa [imm_sc] using iq) (imm_pair (imm_pay _) .sc) ?_
 simp -dsimp -implicitDefEqProofs [-getElem?_pos, go_sem, hP, kn, qn, cPy]
 obtain ⟨H2, hH2⟩ : ∃ H2, H2 = H1 ++ [some (⟨44, 5, [[iv y.Warrant, iv y.Payee, iv y.Amount, iv y.Due, iv y.Sub]]⟩ : AObj)] := ⟨_, rfl⟩
 have l2 : H2.length = n + 3 := by rw [hH2]; simp; omega
 have j0 := (show H2[0]? = H1[0]? by rw [hH2, List.getElem?_append_left q0]).trans k0
 have jn := (show H2[n]? = H1[n]? by rw [hH2, List.getElem?_append_left qn]).trans kn
 have jp := (show H2[n + 1]? = H1[n + 1]? by rw [hH2, List.getElem?_append_left qp]).trans kp
 have jy : H2[n + 2]? = some (some ⟨44, 5, [[iv y.Warrant, iv y.Payee, iv y.Amount, iv y.Due, iv y.Sub]]⟩) := by rw [hH2, ← l1, List.getElem?_append_right (Nat.le_refl _), Nat.sub_self]; rfl
 have z0 : 0 < H2.length := by omega
 have zn : n < H2.length := by omega
 have zp : n + 1 < H2.length := by omega
 have zy : n + 2 < H2.length := by omega
 rw [← hH2, l1]
 obtain ⟨Inv, hInv⟩ : ∃ Inv : St → Prop, Inv = fun s' => (s'.t 122 = bv true ∧ R = 68 ∨ s'.t 122 = bv false ∧ itB x = (!(decide (x.Attempts = 5) && decide (x.State = 1)) && !(decide (x.Attempts = 0) && !(decide (x.State = 1) || decide (x.State = 5))) && movedB d.Account x)) ∧ s'.t 1 = .ref 0 0 0 ∧ s'.t 6 = .ref n 0 0 ∧ s'.t 7 = .ref (n + 1) 0 0 ∧ s'.t 37 = itemsL l ∧ s'.t 38 = iv l.length ∧ s'.t 39 = iv k ∧ s'.H = H2 := ⟨_, rfl⟩
 refine adraw_cut Inv ?_ ?_
 ·have bad' : ∀ s' : St, itB x = false → s'.t 122 = bv true → s'.t 1 = .ref 0 0 0 → s'.t 6 = .ref n 0 0 → s'.t 7 = .ref (n + 1) 0 0 → s'.t 37 = itemsL l → s'.t 38 = iv l.length → s'.t 39 = iv k → s'.H = H2 → Inv s' := fun s' a b1 b2 b3 b4 b5 b6 b7 b8 => by
   rw [hInv]
   exact ⟨.inl ⟨b1, badI a⟩, b2, b3, b4, b5, b6, b7, b8⟩
  rw [waitB] at hitx
  cases hwo : waitO d.Queue x.Payment.Warrant with
  | none =>
   rw [hwo] at hitx his hy
   simp only [Option.isSome_none] at hitx his
   subst his
   by_cases e8 : x.State = 1
   ·rw [decide_eq_true e8, Bool.not_true, Bool.false_and, Bool.and_false] at hitx
    refine adrawB (fun _ => true) [] hP (by kernel_rfl) (by kernel_rfl) ?_
    simp -dsimp -implicitDefEqProofs [-getElem?_pos, go_sem, hP, jn, zn, e8]
    exact bad' _ hitx (by simp -dsimp [-getElem?_pos, go_sem]) (by simp -dsimp [-getElem?_pos, go_sem, t1]) (by simp -dsimp [-getElem?_pos, go_sem, hn]) (by simp -dsimp [-getElem?_pos, go_sem, hn]) (by simp -dsimp [-getElem?_pos, go_sem, t37]) (by simp -dsimp [-getElem?_pos, go_sem, t38]) (by simp -dsimp [-getElem?_pos, go_sem, t39]) rfl
   have f8 := decide_eq_false e8
   rw [f8, Bool.not_false, Bool.true_and] at hitx
   refine adrawB (fun _ => true) [] hP (by kernel_rfl) (by kernel_rfl) ?_
   simp -dsimp -implicitDefEqProofs [-getElem?_pos, go_sem, hP, jn, zn, e8, f8, t1, j0, z0, jp, zp]
   refine callB_is (bt.lift _ _) hP en_87 (by simpa [imm_sc] using iq) .sc ?_
   by_cases e10 : (batN d.Queue x.Payment.Warrant : Int) = x.Attempts
   ·have f10 := decide_eq_true e10
    rw [f10, Bool.true_and] at hitx
    simp -dsimp -implicitDefEqProofs [-getElem?_pos, go_sem, hP, e8, f8, f10, jn, zn]
    rw [hInv]
    exact ⟨.inr ⟨by simp -dsimp [-getElem?_pos, go_sem], by rw [hitx, f8]⟩, by simp -dsimp [-getElem?_pos, go_sem, t1], by simp -dsimp [-getElem?_pos, go_sem, hn], by simp -dsimp [-getElem?_pos, go_sem, hn], by simp -dsimp [-getElem?_pos, go_sem, t37], by simp -dsimp [-getElem?_pos, go_sem, t38], by simp -dsimp [-getElem?_pos, go_sem, t39], rfl⟩
   ·have f10 := decide_eq_false e10
    rw [f10, Bool.false_and, Bool.and_false] at hitx
    simp -dsimp -implicitDefEqProofs [-getElem?_pos, go_sem, hP, e8, f8, f10, jn, zn]
    exact bad' _ hitx (by simp -dsimp [-getElem?_pos, go_sem]) (by simp -dsimp [-getElem?_pos, go_sem, t1]) (by simp -dsimp [-getElem?_pos, go_sem, hn]) (by simp -dsimp [-getElem?_pos, go_sem, hn]) (by simp -dsimp [-getElem?_pos, go_sem, t37]) (by simp -dsimp [-getElem?_pos, go_sem, t38]) (by simp -dsimp [-getElem?_pos, go_sem, t39]) rfl
  | some w =>
   rw [hwo] at hitx his hy
   simp only [Option.isSome_some, Option.getD_some] at hitx his hy
   subst his
   subst hy
   by_cases e8 : x.State = 1
   rotate_left
   ·have f8 := decide_eq_false e8
    rw [f8, Bool.false_and, Bool.false_and, Bool.and_false] at hitx
    refine adrawB (fun _ => true) [] hP (by kernel_rfl) (by kernel_rfl) ?_
    simp -dsimp -implicitDefEqProofs [-getElem?_pos, go_sem, hP, jn, zn, e8, f8]
    exact bad' _ hitx (by simp -dsimp [-getElem?_pos, go_sem]) (by simp -dsimp [-getElem?_pos, go_sem, t1]) (by simp -dsimp [-getElem?_pos, go_sem, hn]) (by simp -dsimp [-getElem?_pos, go_sem, hn]) (by simp -dsimp [-getElem?_pos, go_sem, t37]) (by simp -dsimp [-getElem?_pos, go_sem, t38]) (by simp -dsimp [-getElem?_pos, go_sem, t39]) rfl
   have f8 := decide_eq_true e8
   rw [f8, Bool.true_and] at hitx
   refine adrawB (fun _ => true) [] hP (by kernel_rfl) (by kernel_rfl) ?_
   simp -dsimp -implicitDefEqProofs [-getElem?_pos, go_sem, hP, jn, zn, e8, f8, t1, j0, z0, jp, zp, jy, zy]
   by_cases e9 : y = x.Payment
   rotate_left
   ·have g9 : (decide (y.Warrant = x.Payment.Warrant) && (decide (y.Payee = x.Payment.Payee) && (decide (y.Amount = x.Payment.Amount) && (decide (y.Due = x.Payment.Due) && decide (y.Sub = x.Payment.Sub))))) = false := Bool.eq_false_iff.2 fun h => e9 (by
     obtain ⟨y1, y2, y3, y4, y5⟩ := y
     simp only [Bool.and_eq_true, decide_eq_true_eq] at h
     rw [h.1, h.2.1, h.2.2.1, h.2.2.2.1, h.2.2.2.2])
    rw [decide_eq_false e9, Bool.false_and, Bool.and_false] at hitx
    simp -dsimp -implicitDefEqProofs [-getElem?_pos, go_sem, hP, g9, e8]
    exact bad' _ hitx (by
     simp -dsimp -implicitDefEqProofs [-getElem?_pos, go_sem, g9]
     exact fun h1 h2 h3 h4 h5 => absurd (pay_ext h1 h2 h3 h4 h5) e9) (by simp -dsimp [-getElem?_pos, go_sem, t1]) (by simp -dsimp [-getElem?_pos, go_sem, hn]) (by simp -dsimp [-getElem?_pos, go_sem, hn]) (by simp -dsimp [-getElem?_pos, go_sem, t37]) (by simp -dsimp [-getElem?_pos, go_sem, t38]) (by simp -dsimp [-getElem?_pos, go_sem, t39]) rfl
   have g9 : (decide (y.Warrant = x.Payment.Warrant) && (decide (y.Payee = x.Payment.Payee) && (decide (y.Amount = x.Payment.Amount) && (decide (y.Due = x.Payment.Due) && decide (y.Sub = x.Payment.Sub))))) = true := by simp [e9]
   rw [decide_eq_true e9, Bool.true_and] at hitx
   simp -dsimp -implicitDefEqProofs [-getElem?_pos, go_sem, hP, g9, e8, t1, j0, z0, jp, zp]
   refine callB_is (bt.lift _ _) hP en_87 (by simpa [imm_sc] using iq) .sc ?_
   by_cases e10 : (batN d.Queue x.Payment.Warrant : Int) = x.Attempts
   ·have f10 := decide_eq_true e10
    rw [f10, Bool.true_and] at hitx
    simp -dsimp -implicitDefEqProofs [-getElem?_pos, go_sem, hP, g9, e8, f10, jn, zn]
    rw [hInv]
    exact ⟨.inr ⟨(by simp -dsimp [-getElem?_pos, go_sem, g9]; simp [e9]), by rw [hitx, f8]⟩, by simp -dsimp [-getElem?_pos, go_sem, t1], by simp -dsimp [-getElem?_pos, go_sem, hn], by simp -dsimp [-getElem?_pos, go_sem, hn], by simp -dsimp [-getElem?_pos, go_sem, t37], by simp -dsimp [-getElem?_pos, go_sem, t38], by simp -dsimp [-getElem?_pos, go_sem, t39], rfl⟩
   ·have f10 := decide_eq_false e10
    rw [f10, Bool.false_and, Bool.and_false] at hitx
    simp -dsimp -implicitDefEqProofs [-getElem?_pos, go_sem, hP, g9, e8, f10, jn, zn]
    exact bad' _ hitx (by simp -dsimp [-getElem?_pos, go_sem, g9]) (by simp -dsimp [-getElem?_pos, go_sem, t1]) (by simp -dsimp [-getElem?_pos, go_sem, hn]) (by simp -dsimp [-getElem?_pos, go_sem, hn]) (by simp -dsimp [-getElem?_pos, go_sem, t37]) (by simp -dsimp [-getElem?_pos, go_sem, t38]) (by simp -dsimp [-getElem?_pos, go_sem, t39]) rfl
 clear t1 t37 t38 t39
 rw [hInv]
 rintro s ⟨hA, t1, t6, t7, t37, t38, t39, hH⟩
 rcases hA with ⟨t122, hA⟩ | ⟨t122, hA⟩
 ·simp -dsimp -implicitDefEqProofs [-getElem?_pos, go_sem, hP, t122, hA]
 clear hitx
 have fin : itB x = true → ∀ s' : St, s'.t 1 = .ref 0 0 0 → s'.t 37 = itemsL l → s'.t 38 = iv l.length → s'.t 39 = iv (k + 1) → s'.H[0]? = some (some ⟨35, 7, [[iv d.Account.Credit, subsL d.Account.Subs, entsL d.Account.Entries, paysL d.Queue.Waiting, numsL K, batsL d.Queue.Batches, itemsL l]]⟩) → ∃ m', m' < m ∧ I m' s' := fun e s' b1 b2 b3 b4 b5 => by
  refine ⟨l.length - (k + 1), by omega, ?_⟩
  rw [hI]
  refine ⟨k + 1, by omega, rfl, ?_, ?_, b1, b2, b3, b4, b5⟩
  ·rw [map_snoc_take hx, hmap, take_at hw]; rfl
  ·rw [take_at hx, List.all_append, hall]; simp [e]
 rw [movedB] at hA
 have ct' := ct hsub
 obtain ⟨co, hco⟩ : ∃ c, c = d.Account.Entries.countP (outE x.Payment) := ⟨_, rfl⟩
 obtain ⟨ci, hci⟩ : ∃ c, c = d.Account.Entries.countP (inE x.Payment) := ⟨_, rfl⟩
 obtain ⟨allE, hal⟩ : ∃ c, c = d.Account.Entries.all (okE x.Payment) := ⟨_, rfl⟩
 rw [← hco, ← hci, ← hal] at hA ct'
 by_cases e11 : x.Attempts = 5
 ·have f11 := decide_eq_true e11
  have f13 : decide (x.Attempts = 0) = false := decide_eq_false (by omega)
  by_cases e12 : x.State = 1
  ·have f12 := decide_eq_true e12
   rw [f11, f12, Bool.and_self, Bool.not_true, Bool.false_and, Bool.false_and] at hA
   simp -dsimp -implicitDefEqProofs [-getElem?_pos, go_sem, hP, t122, t6, hH, jn, zn, e11, e12, badI hA]
  have f12 := decide_eq_false e12
  rw [f11, f12, f13, Bool.and_false, Bool.not_false, Bool.true_and, Bool.false_and, Bool.not_false, Bool.true_and] at hA
  simp -dsimp -implicitDefEqProofs [-getElem?_pos, go_sem, hP, t122, t6, hH, jn, zn, f11, f12, f13, t1, j0, z0, t7, jp, zp]
  refine callB_is (ct'.lift _ _) hP en_88 (by simpa using ⟨ia, ip⟩) (imm_trip .sc .sc .sc) ?_
  cases ea : allE
  ·rw [ea, Bool.false_and] at hA
   rcases (show x.State = 2 ∨ x.State = 3 ∨ (¬ x.State = 2 ∧ ¬ x.State = 3) by omega) with s2 | s3 | ⟨s2, s3⟩
   ·simp -dsimp -implicitDefEqProofs [-getElem?_pos, go_sem, hP, t6, jn, zn, s2, badI hA]
   ·simp -dsimp -implicitDefEqProofs [-getElem?_pos, go_sem, hP, t6, jn, zn, s3, badI hA]
   ·have s2d := decide_eq_false s2
    have s3d := decide_eq_false s3
    simp -dsimp -implicitDefEqProofs [-getElem?_pos, go_sem, hP, t6, jn, zn, s2, s3, s2d, s3d, badI hA]
  rw [ea, Bool.true_and] at hA
  rcases (show x.State = 2 ∨ x.State = 3 ∨ (¬ x.State = 2 ∧ ¬ x.State = 3) by omega) with s2 | s3 | ⟨s2, s3⟩
  ·have hg : goneN x = 1 := by simp [goneN, goneB, s2]
   have wg := wrap_in (x.Attempts - 1) (by omega)
   have wg : IntKind.i64.wrap (x.Attempts - 1) = x.Attempts - 1 := wg
   rw [hg] at hA
   by_cases g1 : (co : Int) = x.Attempts
   rotate_left
   ·have g2 := decide_eq_false g1
    rw [g2, Bool.false_and] at hA
    simp -dsimp -implicitDefEqProofs [-getElem?_pos, go_sem, hP, t6, s2, g2, g1, jn, zn, badI hA]
   have g2 := decide_eq_true g1
   rw [g2, Bool.true_and] at hA
   by_cases g3 : (ci : Int) = x.Attempts - 1
   ·have g4 : decide ((ci : Int) = x.Attempts - 1) = true := decide_eq_true g3
    rw [decide_eq_true (by omega)] at hA
    simp -dsimp -implicitDefEqProofs [-getElem?_pos, go_sem, hP, t6, s2, g2, g4, wg, jn, zn, t39, wk]
    exact fin hA _ (by simp -dsimp [-getElem?_pos, go_sem, t1]) (by simp -dsimp [-getElem?_pos, go_sem, t37]) (by simp -dsimp [-getElem?_pos, go_sem, t38]) (by simp -dsimp [-getElem?_pos, go_sem]) (by simp -dsimp [-getElem?_pos, go_sem, j0])
   ·have g4 : decide ((ci : Int) = x.Attempts - 1) = false := decide_eq_false g3
    rw [decide_eq_false (by omega)] at hA
    simp -dsimp -implicitDefEqProofs [-getElem?_pos, go_sem, hP, t6, s2, g2, g4, wg, jn, zn, badI hA]
  ·have hg : goneN x = 1 := by simp [goneN, goneB, s3]
   have wg := wrap_in (x.Attempts - 1) (by omega)
   have wg : IntKind.i64.wrap (x.Attempts - 1) = x.Attempts - 1 := wg
   rw [hg] at hA
   by_cases g1 : (co : Int) = x.Attempts
   rotate_left
   ·have g2 := decide_eq_false g1
    rw [g2, Bool.false_and] at hA
    simp -dsimp -implicitDefEqProofs [-getElem?_pos, go_sem, hP, t6, s3, g2, g1, jn, zn, badI hA]
   have g2 := decide_eq_true g1
   rw [g2, Bool.true_and] at hA
   by_cases g3 : (ci : Int) = x.Attempts - 1
   ·have g4 : decide ((ci : Int) = x.Attempts - 1) = true := decide_eq_true g3
    rw [decide_eq_true (by omega)] at hA
    simp -dsimp -implicitDefEqProofs [-getElem?_pos, go_sem, hP, t6, s3, g2, g4, wg, jn, zn, t39, wk]
    exact fin hA _ (by simp -dsimp [-getElem?_pos, go_sem, t1]) (by simp -dsimp [-getElem?_pos, go_sem, t37]) (by simp -dsimp [-getElem?_pos, go_sem, t38]) (by simp -dsimp [-getElem?_pos, go_sem]) (by simp -dsimp [-getElem?_pos, go_sem, j0])
   ·have g4 : decide ((ci : Int) = x.Attempts - 1) = false := decide_eq_false g3
    rw [decide_eq_false (by omega)] at hA
    simp -dsimp -implicitDefEqProofs [-getElem?_pos, go_sem, hP, t6, s3, g2, g4, wg, jn, zn, badI hA]
  ·have s2d := decide_eq_false s2
   have s3d := decide_eq_false s3
   have hg : goneN x = 0 := by simp [goneN, goneB, s2, s3]
   have wg := wrap_in x.Attempts (by omega)
   rw [hg] at hA
   by_cases g1 : (co : Int) = x.Attempts
   rotate_left
   ·have g2 := decide_eq_false g1
    rw [g2, Bool.false_and] at hA
    simp -dsimp -implicitDefEqProofs [-getElem?_pos, go_sem, hP, t6, s2, s3, s2d, s3d, g2, g1, jn, zn, badI hA]
   have g2 := decide_eq_true g1
   rw [g2, Bool.true_and] at hA
   by_cases g3 : (ci : Int) = x.Attempts
   ·have g4 : decide ((ci : Int) = x.Attempts) = true := decide_eq_true g3
    rw [decide_eq_true (by omega)] at hA
    simp -dsimp -implicitDefEqProofs [-getElem?_pos, go_sem, hP, t6, s2, s3, s2d, s3d, g2, g4, wg, jn, zn, t39, wk]
    exact fin hA _ (by simp -dsimp [-getElem?_pos, go_sem, t1]) (by simp -dsimp [-getElem?_pos, go_sem, t37]) (by simp -dsimp [-getElem?_pos, go_sem, t38]) (by simp -dsimp [-getElem?_pos, go_sem]) (by simp -dsimp [-getElem?_pos, go_sem, j0])
   ·have g4 : decide ((ci : Int) = x.Attempts) = false := decide_eq_false g3
    rw [decide_eq_false (by omega)] at hA
    simp -dsimp -implicitDefEqProofs [-getElem?_pos, go_sem, hP, t6, s2, s3, s2d, s3d, g2, g4, wg, jn, zn, badI hA]
 have f11 := decide_eq_false e11
 by_cases e13 : x.Attempts = 0
 ·have f13 := decide_eq_true e13
  by_cases e12 : x.State = 1
  ·have f12 := decide_eq_true e12
   rw [f11, f12, f13, Bool.false_and, Bool.not_false, Bool.true_and, Bool.true_or, Bool.not_true, Bool.and_false, Bool.not_false, Bool.true_and] at hA
   simp -dsimp -implicitDefEqProofs [-getElem?_pos, go_sem, hP, t122, t6, hH, jn, zn, f11, f13, e12, t1, j0, z0, t7, jp, zp]
   refine callB_is (ct'.lift _ _) hP en_88 (by simpa using ⟨ia, ip⟩) (imm_trip .sc .sc .sc) ?_
   cases ea : allE
   ·rw [ea, Bool.false_and] at hA
    simp -dsimp -implicitDefEqProofs [-getElem?_pos, go_sem, hP, t6, jn, zn, e12, badI hA]
   rw [ea, Bool.true_and] at hA
   have hg : goneN x = 0 := by simp [goneN, goneB, e12]
   have wg := wrap_in x.Attempts (by omega)
   rw [hg] at hA
   by_cases g1 : (co : Int) = x.Attempts
   rotate_left
   ·have g2 := decide_eq_false g1
    rw [g2, Bool.false_and] at hA
    simp -dsimp -implicitDefEqProofs [-getElem?_pos, go_sem, hP, t6, e12, g2, g1, jn, zn, badI hA]
   have g2 := decide_eq_true g1
   rw [g2, Bool.true_and] at hA
   by_cases g3 : (ci : Int) = x.Attempts
   ·have g4 : decide ((ci : Int) = x.Attempts) = true := decide_eq_true g3
    rw [decide_eq_true (by omega)] at hA
    simp -dsimp -implicitDefEqProofs [-getElem?_pos, go_sem, hP, t6, e12, g2, g4, wg, jn, zn, t39, wk]
    exact fin hA _ (by simp -dsimp [-getElem?_pos, go_sem, t1]) (by simp -dsimp [-getElem?_pos, go_sem, t37]) (by simp -dsimp [-getElem?_pos, go_sem, t38]) (by simp -dsimp [-getElem?_pos, go_sem]) (by simp -dsimp [-getElem?_pos, go_sem, j0])
   ·have g4 : decide ((ci : Int) = x.Attempts) = false := decide_eq_false g3
    rw [decide_eq_false (by omega)] at hA
    simp -dsimp -implicitDefEqProofs [-getElem?_pos, go_sem, hP, t6, e12, g2, g4, wg, jn, zn, badI hA]
  have f12' := decide_eq_false e12
  have n12 := e12
  clear e12
  by_cases e12 : x.State = 5
  ·have f12 := decide_eq_true e12
   rw [f11, f12', f12, f13, Bool.false_and, Bool.not_false, Bool.true_and, Bool.or_true, Bool.not_true, Bool.and_false, Bool.not_false, Bool.true_and] at hA
   simp -dsimp -implicitDefEqProofs [-getElem?_pos, go_sem, hP, t122, t6, hH, jn, zn, f11, f13, e12, t1, j0, z0, t7, jp, zp]
   refine callB_is (ct'.lift _ _) hP en_88 (by simpa using ⟨ia, ip⟩) (imm_trip .sc .sc .sc) ?_
   cases ea : allE
   ·rw [ea, Bool.false_and] at hA
    simp -dsimp -implicitDefEqProofs [-getElem?_pos, go_sem, hP, t6, jn, zn, e12, badI hA]
   rw [ea, Bool.true_and] at hA
   have hg : goneN x = 0 := by simp [goneN, goneB, e12]
   have wg := wrap_in x.Attempts (by omega)
   rw [hg] at hA
   by_cases g1 : (co : Int) = x.Attempts
   rotate_left
   ·have g2 := decide_eq_false g1
    rw [g2, Bool.false_and] at hA
    simp -dsimp -implicitDefEqProofs [-getElem?_pos, go_sem, hP, t6, e12, g2, g1, jn, zn, badI hA]
   have g2 := decide_eq_true g1
   rw [g2, Bool.true_and] at hA
   by_cases g3 : (ci : Int) = x.Attempts
   ·have g4 : decide ((ci : Int) = x.Attempts) = true := decide_eq_true g3
    rw [decide_eq_true (by omega)] at hA
    simp -dsimp -implicitDefEqProofs [-getElem?_pos, go_sem, hP, t6, e12, g2, g4, wg, jn, zn, t39, wk]
    exact fin hA _ (by simp -dsimp [-getElem?_pos, go_sem, t1]) (by simp -dsimp [-getElem?_pos, go_sem, t37]) (by simp -dsimp [-getElem?_pos, go_sem, t38]) (by simp -dsimp [-getElem?_pos, go_sem]) (by simp -dsimp [-getElem?_pos, go_sem, j0])
   ·have g4 : decide ((ci : Int) = x.Attempts) = false := decide_eq_false g3
    rw [decide_eq_false (by omega)] at hA
    simp -dsimp -implicitDefEqProofs [-getElem?_pos, go_sem, hP, t6, e12, g2, g4, wg, jn, zn, badI hA]
  have f12 := decide_eq_false e12
  rw [f11, f12', f12, f13, Bool.false_and, Bool.not_false, Bool.or_self, Bool.not_false, Bool.and_self, Bool.not_true, Bool.and_false, Bool.false_and] at hA
  simp -dsimp -implicitDefEqProofs [-getElem?_pos, go_sem, hP, t122, t6, hH, jn, zn, f11, f13, f12', f12, badI hA]
 have f13 := decide_eq_false e13
 rw [f11, f13, Bool.false_and, Bool.false_and, Bool.not_false, Bool.true_and, Bool.true_and] at hA
 simp -dsimp -implicitDefEqProofs [-getElem?_pos, go_sem, hP, t122, t6, hH, jn, zn, f11, f13, t1, j0, z0, t7, jp, zp]
 refine callB_is (ct'.lift _ _) hP en_88 (by simpa using ⟨ia, ip⟩) (imm_trip .sc .sc .sc) ?_
 cases ea : allE
 ·rw [ea, Bool.false_and] at hA
  rcases (show x.State = 2 ∨ x.State = 3 ∨ (¬ x.State = 2 ∧ ¬ x.State = 3) by omega) with s2 | s3 | ⟨s2, s3⟩
  ·simp -dsimp -implicitDefEqProofs [-getElem?_pos, go_sem, hP, t6, jn, zn, s2, badI hA]
  ·simp -dsimp -implicitDefEqProofs [-getElem?_pos, go_sem, hP, t6, jn, zn, s3, badI hA]
  ·have s2d := decide_eq_false s2
   have s3d := decide_eq_false s3
   simp -dsimp -implicitDefEqProofs [-getElem?_pos, go_sem, hP, t6, jn, zn, s2, s3, s2d, s3d, badI hA]
 rw [ea, Bool.true_and] at hA
 rcases (show x.State = 2 ∨ x.State = 3 ∨ (¬ x.State = 2 ∧ ¬ x.State = 3) by omega) with s2 | s3 | ⟨s2, s3⟩
 ·have hg : goneN x = 1 := by simp [goneN, goneB, s2]
  have wg := wrap_in (x.Attempts - 1) (by omega)
  have wg : IntKind.i64.wrap (x.Attempts - 1) = x.Attempts - 1 := wg
  rw [hg] at hA
  by_cases g1 : (co : Int) = x.Attempts
  rotate_left
  ·have g2 := decide_eq_false g1
   rw [g2, Bool.false_and] at hA
   simp -dsimp -implicitDefEqProofs [-getElem?_pos, go_sem, hP, t6, s2, g2, g1, jn, zn, badI hA]
  have g2 := decide_eq_true g1
  rw [g2, Bool.true_and] at hA
  by_cases g3 : (ci : Int) = x.Attempts - 1
  ·have g4 : decide ((ci : Int) = x.Attempts - 1) = true := decide_eq_true g3
   rw [decide_eq_true (by omega)] at hA
   simp -dsimp -implicitDefEqProofs [-getElem?_pos, go_sem, hP, t6, s2, g2, g4, wg, jn, zn, t39, wk]
   exact fin hA _ (by simp -dsimp [-getElem?_pos, go_sem, t1]) (by simp -dsimp [-getElem?_pos, go_sem, t37]) (by simp -dsimp [-getElem?_pos, go_sem, t38]) (by simp -dsimp [-getElem?_pos, go_sem]) (by simp -dsimp [-getElem?_pos, go_sem, j0])
  ·have g4 : decide ((ci : Int) = x.Attempts - 1) = false := decide_eq_false g3
   rw [decide_eq_false (by omega)] at hA
   simp -dsimp -implicitDefEqProofs [-getElem?_pos, go_sem, hP, t6, s2, g2, g4, wg, jn, zn, badI hA]
 ·have hg : goneN x = 1 := by simp [goneN, goneB, s3]
  have wg := wrap_in (x.Attempts - 1) (by omega)
  have wg : IntKind.i64.wrap (x.Attempts - 1) = x.Attempts - 1 := wg
  rw [hg] at hA
  by_cases g1 : (co : Int) = x.Attempts
  rotate_left
  ·have g2 := decide_eq_false g1
   rw [g2, Bool.false_and] at hA
   simp -dsimp -implicitDefEqProofs [-getElem?_pos, go_sem, hP, t6, s3, g2, g1, jn, zn, badI hA]
  have g2 := decide_eq_true g1
  rw [g2, Bool.true_and] at hA
  by_cases g3 : (ci : Int) = x.Attempts - 1
  ·have g4 : decide ((ci : Int) = x.Attempts - 1) = true := decide_eq_true g3
   rw [decide_eq_true (by omega)] at hA
   simp -dsimp -implicitDefEqProofs [-getElem?_pos, go_sem, hP, t6, s3, g2, g4, wg, jn, zn, t39, wk]
   exact fin hA _ (by simp -dsimp [-getElem?_pos, go_sem, t1]) (by simp -dsimp [-getElem?_pos, go_sem, t37]) (by simp -dsimp [-getElem?_pos, go_sem, t38]) (by simp -dsimp [-getElem?_pos, go_sem]) (by simp -dsimp [-getElem?_pos, go_sem, j0])
  ·have g4 : decide ((ci : Int) = x.Attempts - 1) = false := decide_eq_false g3
   rw [decide_eq_false (by omega)] at hA
   simp -dsimp -implicitDefEqProofs [-getElem?_pos, go_sem, hP, t6, s3, g2, g4, wg, jn, zn, badI hA]
 ·have s2d := decide_eq_false s2
  have s3d := decide_eq_false s3
  have hg : goneN x = 0 := by simp [goneN, goneB, s2, s3]
  have wg := wrap_in x.Attempts (by omega)
  rw [hg] at hA
  by_cases g1 : (co : Int) = x.Attempts
  rotate_left
  ·have g2 := decide_eq_false g1
   rw [g2, Bool.false_and] at hA
   simp -dsimp -implicitDefEqProofs [-getElem?_pos, go_sem, hP, t6, s2, s3, s2d, s3d, g2, g1, jn, zn, badI hA]
  have g2 := decide_eq_true g1
  rw [g2, Bool.true_and] at hA
  by_cases g3 : (ci : Int) = x.Attempts
  ·have g4 : decide ((ci : Int) = x.Attempts) = true := decide_eq_true g3
   rw [decide_eq_true (by omega)] at hA
   simp -dsimp -implicitDefEqProofs [-getElem?_pos, go_sem, hP, t6, s2, s3, s2d, s3d, g2, g4, wg, jn, zn, t39, wk]
   exact fin hA _ (by simp -dsimp [-getElem?_pos, go_sem, t1]) (by simp -dsimp [-getElem?_pos, go_sem, t37]) (by simp -dsimp [-getElem?_pos, go_sem, t38]) (by simp -dsimp [-getElem?_pos, go_sem]) (by simp -dsimp [-getElem?_pos, go_sem, j0])
  ·have g4 : decide ((ci : Int) = x.Attempts) = false := decide_eq_false g3
   rw [decide_eq_false (by omega)] at hA
   simp -dsimp -implicitDefEqProofs [-getElem?_pos, go_sem, hP, t6, s2, s3, s2d, s3d, g2, g4, wg, jn, zn, badI hA]
open Go.PA
open Go.RowKit
abbrev zeroI : TItem := ⟨zeroP, 0, 0⟩
def findD (d : TDesk) (w st : Int) : Int × TItem × Int :=
 if checkD d = 0 then (match d.Items[(posI d.Items w).toNat]? with
  | none => (0, zeroI, 6)
  | some x => if posI d.Items w < 0 then (0, zeroI, 6) else if x.State = st then (posI d.Items w, x, 0) else (0, zeroI, 67)) else (0, zeroI, checkD d)
theorem findD_none {d : TDesk} {w st : Int} (h : checkD d = 0) (hw : w ∉ d.Items.map wrt) : findD d w st = (0, zeroI, 6) := by
 rw [findD, if_pos h]
 split
 ·rfl
 ·rw [if_pos (by rw [posI_none hw]; omega)]
theorem findD_at {d : TDesk} {st : Int} (h : checkD d = 0) {k : Nat} {x : TItem} (hx : d.Items[k]? = some x) : findD d x.Payment.Warrant st = if x.State = st then ((k : Int), x, 0) else (0, zeroI, 67) := by
 have hp := posI_at (checkD_iff.1 h).nd hx
 rw [findD, if_pos h, hp, Int.toNat_natCast, hx]
 simp only
 rw [if_neg (by omega)]
theorem find_cases (d : TDesk) (w st : Int) : ((findD d w st).2.2 ≠ 0 ∧ ∀ f, changeD d w st f = (zeroD, (findD d w st).2.2)) ∨ ∃ (k : Nat) (x : TItem), findD d w st = ((k : Int), x, 0) ∧ checkD d = 0 ∧ d.Items[k]? = some x ∧ x.Payment.Warrant = w ∧ x.State = st ∧ ∀ f : TDesk → TItem → Done1, changeD d w st f = if (f d x).e = 0 then (⟨(f d x).a, (f d x).q, d.Items.set k (f d x).x⟩, 0) else (zeroD, (f d x).e) := by
 by_cases c1 : checkD d = 0
 rotate_left
 ·have : findD d w st = (0, zeroI, checkD d) := by rw [findD, if_neg c1]
  rw [this]
  exact .inl ⟨c1, fun f => changeD_bad c1⟩
 by_cases c2 : w ∈ d.Items.map wrt
 rotate_left
 ·rw [findD_none c1 c2]
  exact .inl ⟨by decide, fun f => changeD_none c1 c2⟩
 obtain ⟨x, hx, e⟩ := List.mem_map.1 c2
 obtain ⟨k, hk⟩ := List.getElem?_of_mem hx
 have e : x.Payment.Warrant = w := e
 subst e
 by_cases c3 : x.State = st
 ·refine .inr ⟨k, x, by rw [findD_at c1 hk, if_pos c3], c1, hk, rfl, c3, fun f => by rw [changeD_at c1 hk, if_pos c3]⟩
 ·refine .inl ⟨by rw [findD_at c1 hk, if_neg c3]; decide, fun f => by rw [changeD_at c1 hk, if_neg c3, findD_at c1 hk, if_neg c3]⟩
theorem with_pf (d : TDesk) (i : Nat) (x : TItem) (hl : d.Items.length ≤ 100000) (hi : i < d.Items.length) : PFun Tryz.prog none none 93 [.agg d.cells, iv i, .agg x.cells] (· = .agg (TDesk.mk d.Account d.Queue (d.Items.set i x)).cells) := by
 refine pfun_intro Tryz.func93 rfl (by simp [Tryz.f93]) (by kernel_rfl) ?_
 intro E hP hr hs hW hN
 have i1 := imm_subs d.Account.Subs
 have i2 := imm_ents d.Account.Entries
 have i3 := imm_pays d.Queue.Waiting
 have i4 := imm_nums d.Queue.Known
 have i5 := imm_bats d.Queue.Batches
 have hle : (encL TItem.cells d.Items).length = d.Items.length := encL_len _ _
 have es := encL_set TItem.cells d.Items i x
 rw [cIt] at es
 have hne : ¬ d.Items.length = 0 := by omega
 obtain ⟨z, hz⟩ : ∃ z, d.Items[i]? = some z := ⟨_, List.getElem?_eq_getElem hi⟩
 simp -dsimp -implicitDefEqProofs [-getElem?_pos, go_sem, hP, cDn, cIt, hle, hne, hi, hz, es]
 refine ⟨by omega, by omega, ?_⟩
 refine done_agg (cs' := TDesk.cells ⟨d.Account, d.Queue, d.Items.set i x⟩) ?_ rfl
 exact cw_sc (cw_imm i1 (cw_imm i2 (cw_imm i3 (cw_imm i4 (cw_imm i5 (cw_sref (ty := 46) rfl (by rw [encL_len, List.length_set]) (imm_items _) .nil))))))
set_option maxHeartbeats 1000000 in
theorem rfind_pf (d : TDesk) (w st : Int) (hf : FitD d) : PFun Tryz.prog none none 95 [.agg d.cells, iv w, iv st] (· = .tup [iv (findD d w st).1, .agg (findD d w st).2.1.cells, iv (findD d w st).2.2]) := by
 refine pfun_intro Tryz.func95 rfl (by simp [Tryz.f95]) (by kernel_rfl) ?_
 intro E hP hr hs hW hN
 have li := hf.i
 have id' := imm_desk d
 have ck := rcheck26_pf d hf
 have rt := rat_pf d w (by omega)
 rw [cDn] at id' ck rt
 obtain ⟨R, hR⟩ : ∃ R, R = AV.tup [iv (findD d w st).1, .agg (findD d w st).2.1.cells, iv (findD d w st).2.2] := ⟨_, rfl⟩
 rw [← hR]
 have zer : ∀ n, findD d w st = (0, zeroI, n) → AV.tup [iv 0, .agg zeroI.cells, iv n] = R := fun n h => by rw [hR, h]
 have iz : ∀ n, Imm (.tup [iv 0, .agg zeroI.cells, iv n]) := fun n => imm_trip .sc (imm_item zeroI) .sc
 simp -dsimp -implicitDefEqProofs [-getElem?_pos, go_sem, hP, cDn]
 refine callB_is (ck.lift _ _) hP en_36 (by simpa using id') .sc ?_
 by_cases c1 : checkD d = 0
 rotate_left
 ·have : findD d w st = (0, zeroI, checkD d) := by rw [findD, if_neg c1]
  simp -dsimp -implicitDefEqProofs [-getElem?_pos, go_sem, hP, c1]
  exact done_imm (iz _) (zer _ this)
 simp -dsimp -implicitDefEqProofs [-getElem?_pos, go_sem, hP, c1]
 refine callB_is (rt.lift _ _) hP en_92 (by simpa [imm_sc] using id') .sc ?_
 by_cases c2 : w ∈ d.Items.map wrt
 rotate_left
 ·have h := findD_none (st := st) c1 c2
  have hp := posI_none c2
  simp -dsimp -implicitDefEqProofs [-getElem?_pos, go_sem, hP, hp]
  exact done_imm (iz _) (zer _ h)
 obtain ⟨x, hx, e⟩ := List.mem_map.1 c2
 obtain ⟨k, hk⟩ := List.getElem?_of_mem hx
 have e : x.Payment.Warrant = w := e
 have hp := posI_at (checkD_iff.1 c1).nd hk
 have hfi := findD_at (st := st) c1 hk
 rw [e] at hp hfi
 have d0 : decide ((k : Int) < 0) = false := decide_eq_false (by omega)
 by_cases c3 : x.State = st
 rotate_left
 ·have d3 := decide_eq_false c3
  rw [if_neg c3] at hfi
  simp -dsimp -implicitDefEqProofs [-getElem?_pos, go_sem, hP, hp, d0, hk, cIt, d3]
  exact done_imm (iz _) (zer _ hfi)
 rw [if_pos c3] at hfi
 simp -dsimp -implicitDefEqProofs [-getElem?_pos, go_sem, hP, hp, d0, hk, cIt, c3]
 refine adrawB (fun i => decide (i = 0)) [7] hP (by kernel_rfl) (by kernel_rfl) ?_
 simp -dsimp -implicitDefEqProofs [-getElem?_pos, go_sem, hP, hp, d0, hk, cIt, c3]
 refine done_imm (imm_trip .sc (by have := imm_item x; rw [cIt, c3] at this; exact this) .sc) ?_
 rw [hR, hfi, ← c3]
 rfl
theorem rstate26_pf (d : TDesk) (w : Int) (hf : FitD d) : PFun Tryz.prog none none 42 [.agg d.cells, iv w] (· = iv (stateD d w)) := by
 refine pfun_intro Tryz.func42 rfl (by simp [Tryz.f42]) (by kernel_rfl) ?_
 intro E hP hr hs hW hN
 have li := hf.i
 have id' := imm_desk d
 have ck := rcheck26_pf d hf
 have rt := rat_pf d w (by omega)
 rw [cDn] at id' ck rt
 obtain ⟨R, hR⟩ : ∃ R, R = stateD d w := ⟨_, rfl⟩
 rw [← hR]
 simp -dsimp -implicitDefEqProofs [-getElem?_pos, go_sem, hP, cDn]
 refine callB_is (ck.lift _ _) hP en_36 (by simpa using id') .sc ?_
 by_cases c1 : checkD d = 0
 rotate_left
 ·have : R = 0 := by rw [hR, stateD, if_neg c1]
  simp -dsimp -implicitDefEqProofs [-getElem?_pos, go_sem, hP, c1, this]
 simp -dsimp -implicitDefEqProofs [-getElem?_pos, go_sem, hP, c1]
 refine callB_is (rt.lift _ _) hP en_92 (by simpa [imm_sc] using id') .sc ?_
 by_cases c2 : w ∈ d.Items.map wrt
 rotate_left
 ·have h := stateD_none c1 c2
  rw [h] at hR
  have hp := posI_none c2
  simp -dsimp -implicitDefEqProofs [-getElem?_pos, go_sem, hP, hp, hR]
 obtain ⟨x, hx, e⟩ := List.mem_map.1 c2
 obtain ⟨k, hk⟩ := List.getElem?_of_mem hx
 have e : x.Payment.Warrant = w := e
 have hp := posI_at (checkD_iff.1 c1).nd hk
 have hst := stateD_at c1 hk
 rw [e] at hp hst
 rw [hst] at hR
 have d0 : decide ((0 : Int) ≤ (k : Int)) = true := decide_eq_true (by omega)
 simp -dsimp -implicitDefEqProofs [-getElem?_pos, go_sem, hP, hp, d0, hk, cIt, hR]
theorem rpaid26_pf (d : TDesk) (hf : FitD d) : PFun Tryz.prog none none 37 [.agg d.cells] (· = iv (paidD d)) := by
 refine pfun_intro Tryz.func37 rfl (by simp [Tryz.f37]) (by kernel_rfl) ?_
 intro E hP hr hs hW hN
 have li := hf.i
 have id' := imm_desk d
 have ck := rcheck26_pf d hf
 rw [cDn] at id' ck
 simp -dsimp -implicitDefEqProofs [-getElem?_pos, go_sem, hP, cDn]
 refine callB_is (ck.lift _ _) hP en_36 (by simpa using id') .sc ?_
 by_cases c2 : checkD d = 0
 rotate_left
 ·have : paidD d = 0 := by rw [paidD, if_neg c2]
  simp -dsimp -implicitDefEqProofs [-getElem?_pos, go_sem, hP, c2, this]
 have hR : paidD d = d.Items.foldl addPaid 0 := by rw [paidD, if_pos c2]
 obtain ⟨l, hl⟩ : ∃ l, l = d.Items := ⟨_, rfl⟩
 rw [← hl] at hR li
 simp -dsimp -implicitDefEqProofs [-getElem?_pos, go_sem, hP, c2, ← hl]
 obtain ⟨I, hI⟩ : ∃ I : Nat → St → Prop, I = fun m s => ∃ k : Nat, k ≤ l.length ∧ m = l.length - k ∧ s.t 3 = iv ((l.take k).foldl addPaid 0) ∧ s.t 10 = itemsL l ∧ s.t 11 = iv l.length ∧ s.t 12 = iv k := ⟨_, rfl⟩
 refine aloop0 I (l.length) (by rw [hN]; rfl) ?_ ?_
 ·rw [hI]
  exact ⟨0, by omega, by omega, by simp -dsimp [-getElem?_pos, go_sem], by simp -dsimp [-getElem?_pos, go_sem], by simp -dsimp [-getElem?_pos, go_sem], by simp -dsimp [-getElem?_pos, go_sem]⟩
 intro m s hs'
 rw [hI] at hs'
 obtain ⟨k, hk, hm, t3, t10, t11, t12⟩ := hs'
 simp -dsimp -implicitDefEqProofs [-getElem?_pos, go_sem, hP, t11, t12]
 refine condP (fun h => ?_) (fun h => ?_)
 ·have hk : k < l.length := by simpa using h
  obtain ⟨x, hx⟩ : ∃ x, l[k]? = some x := ⟨_, List.getElem?_eq_getElem hk⟩
  have wk := wrap_in ((k : Int) + 1) (by omega)
  have es : (l.take (k + 1)).foldl addPaid 0 = addPaid ((l.take k).foldl addPaid 0) x := by rw [take_at hx, List.foldl_append]; rfl
  by_cases c3 : x.State = 3
  ·rw [addPaid, if_pos c3] at es
   simp -dsimp -implicitDefEqProofs [-getElem?_pos, go_sem, hP, t10, t12, hx, cIt, c3, t3, wk]
   refine ⟨l.length - (k + 1), by omega, ?_⟩
   rw [hI]
   exact ⟨k + 1, by omega, rfl, by simp -dsimp [-getElem?_pos, go_sem, es], by simp -dsimp [-getElem?_pos, go_sem, t10], by simp -dsimp [-getElem?_pos, go_sem, t11], by simp -dsimp [-getElem?_pos, go_sem]⟩
  ·rw [addPaid, if_neg c3] at es
   have d3 := decide_eq_false c3
   simp -dsimp -implicitDefEqProofs [-getElem?_pos, go_sem, hP, t10, t12, hx, cIt, c3, d3, wk]
   refine ⟨l.length - (k + 1), by omega, ?_⟩
   rw [hI]
   exact ⟨k + 1, by omega, rfl, by simp -dsimp [-getElem?_pos, go_sem, t3, es], by simp -dsimp [-getElem?_pos, go_sem, t10], by simp -dsimp [-getElem?_pos, go_sem, t11], by simp -dsimp [-getElem?_pos, go_sem]⟩
 ·have hk : k = l.length := by simp at h; omega
  subst hk
  rw [List.take_length] at t3
  simp -dsimp -implicitDefEqProofs [-getElem?_pos, go_sem, hP, t3, hR]
theorem ritems_pf (a b : List TItem) (ha : a.length ≤ 100000) (hb : b.length ≤ 100000) :
  PFun Tryz.prog none none 83 [itemsL a, itemsL b] (· = bv (decide (a = b))) := by
 refine pfun_intro Tryz.func83 rfl (by simp [Tryz.f83]) (by kernel_rfl) ?_
 intro E hP hr hs hW hN
 by_cases hlen : a.length = b.length
 rotate_left
 ·have hne : ¬ a = b := fun h => hlen (by rw [h])
  have hl : decide ((a.length : Int) = (b.length : Int)) = false := by simp; omega
  simp -dsimp -implicitDefEqProofs [-getElem?_pos, go_sem, hP, hl, hne]
 have hl : decide ((a.length : Int) = (b.length : Int)) = true := by simp; omega
 simp -dsimp -implicitDefEqProofs [-getElem?_pos, go_sem, hP, hl]
 obtain ⟨I, hI⟩ : ∃ I : Nat → St → Prop, I = fun m s => ∃ k : Nat, k ≤ a.length ∧ m = a.length - k ∧ s.t 0 = itemsL a ∧ s.t 1 = itemsL b ∧ s.t 12 = iv a.length ∧ s.t 13 = iv k ∧ a.take k = b.take k := ⟨_, rfl⟩
 refine aloop0 I (a.length) (by rw [hN]; rfl) ?_ ?_
 ·rw [hI]
  exact ⟨0, by omega, by omega, by simp -dsimp [-getElem?_pos, go_sem], by simp -dsimp [-getElem?_pos, go_sem], by simp -dsimp [-getElem?_pos, go_sem], by simp -dsimp [-getElem?_pos, go_sem], by simp⟩
 intro m s hs'
 rw [hI] at hs'
 obtain ⟨k, hk, hm, t0, t1, t12, t13, heq⟩ := hs'
 simp -dsimp -implicitDefEqProofs [-getElem?_pos, go_sem, hP, t12, t13]
 refine condP (fun h => ?_) (fun h => ?_)
 ·have hk : k < a.length := by simpa using h
  obtain ⟨x, hx⟩ : ∃ x, a[k]? = some x := ⟨_, List.getElem?_eq_getElem hk⟩
  obtain ⟨y, hy⟩ : ∃ y, b[k]? = some y := ⟨_, List.getElem?_eq_getElem (by omega)⟩
  have wk := wrap_in ((k : Int) + 1) (by omega)
  have tx : a.take (k + 1) = a.take k ++ [x] := by rw [List.take_add_one, hx]; rfl
  have ty : b.take (k + 1) = b.take k ++ [y] := by rw [List.take_add_one, hy]; rfl
  simp -dsimp -implicitDefEqProofs [-getElem?_pos, go_sem, hP, t13]
  refine adrawB (fun _ => true) [] hP (by kernel_rfl) (by kernel_rfl) ?_
  by_cases hxy : x = y
  ·subst hxy
   simp -dsimp -implicitDefEqProofs [-getElem?_pos, go_sem, hP, t0, t1, hx, hy, cIt, t13, wk]
   refine ⟨a.length - (k + 1), by omega, ?_⟩
   rw [hI]
   exact ⟨k + 1, by omega, rfl, by simp -dsimp [-getElem?_pos, go_sem, t0], by simp -dsimp [-getElem?_pos, go_sem, t1], by simp -dsimp [-getElem?_pos, go_sem, t12], by simp -dsimp [-getElem?_pos, go_sem], by rw [tx, ty, heq]⟩
  ·have hne : ¬ a = b := fun h => by
    subst h
    rw [hx] at hy
    exact hxy (Option.some.inj hy)
   simp -dsimp -implicitDefEqProofs [-getElem?_pos, go_sem, hP, t0, t1, hx, hy, cIt, t13, wk]
   refine condP (fun h => ?_) (fun h => ?_)
   ·simp -dsimp -implicitDefEqProofs [-getElem?_pos, go_sem, hP, hne]
   ·refine absurd ?_ hxy
    obtain ⟨⟨x1, x2, x3, x4, x5⟩, x6, x7⟩ := x
    obtain ⟨⟨y1, y2, y3, y4, y5⟩, y6, y7⟩ := y
    simp at h
    simp [h]
 ·have hk : k = a.length := by simp at h; omega
  subst hk
  rw [List.take_length] at heq
  rw [hlen, List.take_length] at heq
  simp -dsimp -implicitDefEqProofs [-getElem?_pos, go_sem, hP, heq]
theorem same26_pf (a b : TDesk) (ha : FitD a) (hb : FitD b) : PFun Tryz.prog none none 34 [.agg a.cells, .agg b.cells] (· = bv (decide (a = b))) := by
 refine pfun_intro Tryz.func34 rfl (by simp [Tryz.f34]) (by kernel_rfl) ?_
 intro E hP hr hs hW hN
 have i1 := imm_acc a.Account
 have i2 := imm_acc b.Account
 have i3 := imm_que a.Queue
 have i4 := imm_que b.Queue
 have s1 := same_pf a.Account b.Account ha.s ha.e hb.s hb.e
 have s2 := same25_pf a.Queue b.Queue ha.q hb.q
 have s3 := ritems_pf a.Items b.Items ha.i hb.i
 have i5 := imm_items a.Items
 have i6 := imm_items b.Items
 simp only [cA] at i1 i2 s1
 simp only [cQn] at i3 i4 s2
 obtain ⟨R, hR⟩ : ∃ R, R = decide (a = b) := ⟨_, rfl⟩
 have hb : ¬ (a.Account = b.Account ∧ a.Queue = b.Queue ∧ a.Items = b.Items) → R = false := fun e => by
  rw [hR]
  refine decide_eq_false fun e' => e ?_
  rw [e']
  exact ⟨rfl, rfl, rfl⟩
 have hg : a.Account = b.Account → a.Queue = b.Queue → a.Items = b.Items → R = true := fun e1 e2 e3 => by
  rw [hR]
  refine decide_eq_true ?_
  cases a; cases b
  simp only at e1 e2 e3
  simp [e1, e2, e3]
 rw [← hR]
 simp -dsimp -implicitDefEqProofs [-getElem?_pos, go_sem, hP, cDn]
 refine callB_is (s1.lift _ _) hP en_81 (by simpa using ⟨i1, i2⟩) .sc ?_
 by_cases c1 : a.Account = b.Account
 rotate_left
 ·have := hb fun e => c1 e.1
  have d1 := decide_eq_false c1
  simp -dsimp -implicitDefEqProofs [-getElem?_pos, go_sem, hP, d1, this]
 have d1 := decide_eq_true c1
 simp -dsimp -implicitDefEqProofs [-getElem?_pos, go_sem, hP, d1]
 refine callB_is (s2.lift _ _) hP en_82 (by simpa using ⟨i3, i4⟩) .sc ?_
 by_cases c2 : a.Queue = b.Queue
 rotate_left
 ·have := hb fun e => c2 e.2.1
  have d2 := decide_eq_false c2
  simp -dsimp -implicitDefEqProofs [-getElem?_pos, go_sem, hP, d1, d2, this]
 have d2 := decide_eq_true c2
 simp -dsimp -implicitDefEqProofs [-getElem?_pos, go_sem, hP, d1, d2]
 refine callB_is (s3.lift _ _) hP en_83 (by simpa using ⟨i5, i6⟩) .sc ?_
 by_cases c3 : a.Items = b.Items
 rotate_left
 ·have := hb fun e => c3 e.2.2
  have d3 := decide_eq_false c3
  simp -dsimp -implicitDefEqProofs [-getElem?_pos, go_sem, hP, d1, d2, d3, this]
 have d3 := decide_eq_true c3
 simp -dsimp -implicitDefEqProofs [-getElem?_pos, go_sem, hP, d1, d2, d3, hg c1 c2 c3]
open Go.PA
open Go.RowKit
theorem settle26_pf (d : TDesk) (w : Int) (hf : FitD d) : PFun Tryz.prog none none 43 [.agg d.cells, iv w] (· = .tup [.agg (settleD d w).1.cells, iv (settleD d w).2]) := by
 refine pfun_intro Tryz.func43 rfl (by simp [Tryz.f43]) (by kernel_rfl) ?_
 intro E hP hr hs hW hN
 have li := hf.i
 have id' := imm_desk d
 have fi := rfind_pf d w 2 hf
 have ifi := imm_item (findD d w 2).2.1
 rw [cDn] at id' fi
 rw [cIt] at ifi fi
 obtain ⟨R, hR⟩ : ∃ R, R = AV.tup [.agg (settleD d w).1.cells, iv (settleD d w).2] := ⟨_, rfl⟩
 rw [← hR]
 simp -dsimp -implicitDefEqProofs [-getElem?_pos, go_sem, hP, cDn]
 refine callB_is (fi.lift _ _) hP en_95 (by simpa [imm_sc] using id') (imm_trip .sc ifi .sc) ?_
 rcases find_cases d w 2 with ⟨h1, h2⟩ | ⟨k, x, h1, h2, h3, h4, h5, h6⟩
 ·have d1 := decide_eq_false h1
  simp -dsimp -implicitDefEqProofs [-getElem?_pos, go_sem, hP, d1]
  refine done_zeroD ?_
  rw [hR, settleD, h2]
 have hil := (gsI h3)
 have wt := with_pf d k ⟨x.Payment, 3, x.Attempts⟩ li hil
 have io := imm_desk (TDesk.mk d.Account d.Queue (d.Items.set k ⟨x.Payment, 3, x.Attempts⟩))
 have ia := imm_item ⟨x.Payment, 3, x.Attempts⟩
 simp only [cDn, cIt] at wt io ia
 rw [h1]
 simp -dsimp -implicitDefEqProofs [-getElem?_pos, go_sem, hP]
 refine callB_is (wt.lift _ _) hP en_93 (by simpa [imm_sc] using ⟨id', ia⟩) io ?_
 simp -dsimp -implicitDefEqProofs [-getElem?_pos, go_sem, hP]
 refine done_imm (imm_pair io .sc) ?_
 rw [hR, settleD, h6]
 rfl
theorem recall26_pf (d : TDesk) (w : Int) (hf : FitD d) : PFun Tryz.prog none none 44 [.agg d.cells, iv w] (· = .tup [.agg (recallD d w).1.cells, iv (recallD d w).2]) := by
 refine pfun_intro Tryz.func44 rfl (by simp [Tryz.f44]) (by kernel_rfl) ?_
 intro E hP hr hs hW hN
 have li := hf.i
 have id' := imm_desk d
 have fi := rfind_pf d w 1 hf
 have ifi := imm_item (findD d w 1).2.1
 have iq := imm_que d.Queue
 have dp := drop25_pf d.Queue w hf.q
 have idp := imm_que (dropQ d.Queue w).1
 rw [cDn] at id' fi
 rw [cIt] at ifi fi
 simp only [cQn] at iq dp idp
 obtain ⟨R, hR⟩ : ∃ R, R = AV.tup [.agg (recallD d w).1.cells, iv (recallD d w).2] := ⟨_, rfl⟩
 rw [← hR]
 simp -dsimp -implicitDefEqProofs [-getElem?_pos, go_sem, hP, cDn]
 refine callB_is (fi.lift _ _) hP en_95 (by simpa [imm_sc] using id') (imm_trip .sc ifi .sc) ?_
 rcases find_cases d w 1 with ⟨h1, h2⟩ | ⟨k, x, h1, h2, h3, h4, h5, h6⟩
 ·have d1 := decide_eq_false h1
  simp -dsimp -implicitDefEqProofs [-getElem?_pos, go_sem, hP, d1]
  refine done_zeroD ?_
  rw [hR, recallD, h2]
 have hil := (gsI h3)
 have hr6 := h6 (recallF w)
 rw [← recallD] at hr6
 have hef : recallF w d x = ⟨d.Account, (dropQ d.Queue w).1, ⟨x.Payment, 5, x.Attempts⟩, (dropQ d.Queue w).2⟩ := rfl
 rw [hef] at hr6
 simp only at hr6
 rw [h1]
 simp -dsimp -implicitDefEqProofs [-getElem?_pos, go_sem, hP]
 refine callB_is (dp.lift _ _) hP en_96 (by simpa [imm_sc] using iq) (imm_pair idp .sc) ?_
 by_cases c1 : (dropQ d.Queue w).2 = 0
 rotate_left
 ·have d1 := decide_eq_false c1
  rw [if_neg c1] at hr6
  simp -dsimp -implicitDefEqProofs [-getElem?_pos, go_sem, hP, d1]
  refine done_zeroD ?_
  rw [hR, hr6]
 rw [if_pos c1] at hr6
 have wt := with_pf ⟨d.Account, (dropQ d.Queue w).1, d.Items⟩ k ⟨x.Payment, 5, x.Attempts⟩ li hil
 have iw := imm_desk ⟨d.Account, (dropQ d.Queue w).1, d.Items⟩
 have io := imm_desk (TDesk.mk d.Account (dropQ d.Queue w).1 (d.Items.set k ⟨x.Payment, 5, x.Attempts⟩))
 have ia := imm_item ⟨x.Payment, 5, x.Attempts⟩
 simp only [cDn, cIt] at wt io ia iw
 simp -dsimp -implicitDefEqProofs [-getElem?_pos, go_sem, hP, c1]
 refine callB_is (wt.lift _ _) hP en_93 (by simpa [imm_sc] using ⟨iw, ia⟩) io ?_
 simp -dsimp -implicitDefEqProofs [-getElem?_pos, go_sem, hP]
 refine done_imm (imm_pair io .sc) ?_
 rw [hR, hr6]
 rfl
theorem return26_pf (d : TDesk) (w day : Int) (hf : FitD d) : PFun Tryz.prog none none 45 [.agg d.cells, iv w, iv day] (· = .tup [.agg (returnD d w day).1.cells, iv (returnD d w day).2]) := by
 refine pfun_intro Tryz.func45 rfl (by simp [Tryz.f45]) (by kernel_rfl) ?_
 intro E hP hr hs hW hN
 have li := hf.i
 have id' := imm_desk d
 have fi := rfind_pf d w 2 hf
 have ifi := imm_item (findD d w 2).2.1
 have iac := imm_acc d.Account
 rw [cDn] at id' fi
 rw [cIt] at ifi fi
 simp only [cA] at iac
 obtain ⟨R, hR⟩ : ∃ R, R = AV.tup [.agg (returnD d w day).1.cells, iv (returnD d w day).2] := ⟨_, rfl⟩
 rw [← hR]
 simp -dsimp -implicitDefEqProofs [-getElem?_pos, go_sem, hP, cDn]
 refine callB_is (fi.lift _ _) hP en_95 (by simpa [imm_sc] using id') (imm_trip .sc ifi .sc) ?_
 rcases find_cases d w 2 with ⟨h1, h2⟩ | ⟨k, x, h1, h2, h3, h4, h5, h6⟩
 ·have d1 := decide_eq_false h1
  simp -dsimp -implicitDefEqProofs [-getElem?_pos, go_sem, hP, d1]
  refine done_zeroD ?_
  rw [hR, returnD, h2]
 have hil := (gsI h3)
 have hr6 := h6 (returnF w day)
 rw [← returnD] at hr6
 have nx := next23_pf d.Account day 0 x.Payment.Sub x.Payment.Amount w hf.e
 obtain ⟨e, hee⟩ : ∃ e, e = nextE d.Account day 0 x.Payment.Sub x.Payment.Amount w := ⟨_, rfl⟩
 have hef : returnF w day d x = ⟨(postA d.Account e).1, d.Queue, ⟨x.Payment, 4, x.Attempts⟩, (postA d.Account e).2⟩ := by rw [returnF, hee]
 rw [hef] at hr6
 simp only at hr6
 rw [← hee] at nx
 have ie := imm_ent e
 have po := post23_pf d.Account e hf.s hf.e
 have ipo := imm_acc (postA d.Account e).1
 simp only [cA] at nx po ipo
 rw [h1]
 simp -dsimp -implicitDefEqProofs [-getElem?_pos, go_sem, hP]
 refine adrawQ (fun i => decide (i < 3)) [18] [12, 13] hP (by kernel_rfl) (by kernel_rfl) ?_
 simp -dsimp -implicitDefEqProofs [-getElem?_pos, go_sem, hP]
 refine callQ_is (nx.lift _ _) hP en_51 (by simpa [imm_sc] using iac) ie ?_
 simp -dsimp -implicitDefEqProofs [-getElem?_pos, go_sem, hP]
 refine callQ_is (po.lift _ _) hP en_50 (by simpa using ⟨iac, ie⟩) (imm_pair ipo .sc) ?_
 simp -dsimp -implicitDefEqProofs [-getElem?_pos, go_sem, hP]
 refine ⟨agree_3, ?_⟩
 by_cases c1 : (postA d.Account e).2 = 0
 rotate_left
 ·have d1 := decide_eq_false c1
  rw [if_neg c1] at hr6
  simp -dsimp -implicitDefEqProofs [-getElem?_pos, go_sem, hP, d1]
  refine done_zeroD ?_
  rw [hR, hr6]
 rw [if_pos c1] at hr6
 have wt := with_pf ⟨(postA d.Account e).1, d.Queue, d.Items⟩ k ⟨x.Payment, 4, x.Attempts⟩ li hil
 have iw := imm_desk ⟨(postA d.Account e).1, d.Queue, d.Items⟩
 have io := imm_desk (TDesk.mk (postA d.Account e).1 d.Queue (d.Items.set k ⟨x.Payment, 4, x.Attempts⟩))
 have ia := imm_item ⟨x.Payment, 4, x.Attempts⟩
 simp only [cDn, cIt] at wt io ia iw
 simp -dsimp -implicitDefEqProofs [-getElem?_pos, go_sem, hP, c1]
 refine callB_is (wt.lift _ _) hP en_93 (by simpa [imm_sc] using ⟨iw, ia⟩) io ?_
 simp -dsimp -implicitDefEqProofs [-getElem?_pos, go_sem, hP]
 refine done_imm (imm_pair io .sc) ?_
 rw [hR, hr6]
 rfl
theorem again26_pf (d : TDesk) (w due : Int) (hf : FitD d) : PFun Tryz.prog none none 46 [.agg d.cells, iv w, iv due] (· = .tup [.agg (againD d w due).1.cells, iv (againD d w due).2]) := by
 refine pfun_intro Tryz.func46 rfl (by simp [Tryz.f46]) (by kernel_rfl) ?_
 intro E hP hr hs hW hN
 have li := hf.i
 have id' := imm_desk d
 have fi := rfind_pf d w 4 hf
 have ifi := imm_item (findD d w 4).2.1
 have iq := imm_que d.Queue
 rw [cDn] at id' fi
 rw [cIt] at ifi fi
 simp only [cQn] at iq
 obtain ⟨R, hR⟩ : ∃ R, R = AV.tup [.agg (againD d w due).1.cells, iv (againD d w due).2] := ⟨_, rfl⟩
 rw [← hR]
 simp -dsimp -implicitDefEqProofs [-getElem?_pos, go_sem, hP, cDn]
 refine callB_is (fi.lift _ _) hP en_95 (by simpa [imm_sc] using id') (imm_trip .sc ifi .sc) ?_
 rcases find_cases d w 4 with ⟨h1, h2⟩ | ⟨k, x, h1, h2, h3, h4, h5, h6⟩
 ·have d1 := decide_eq_false h1
  simp -dsimp -implicitDefEqProofs [-getElem?_pos, go_sem, hP, d1]
  refine done_zeroD ?_
  rw [hR, againD, h2]
 have hil := (gsI h3)
 have hd := checkD_iff.1 h2
 have hatt : 0 ≤ x.Attempts ∧ x.Attempts ≤ 5 := by
  have := hd.i x (List.mem_of_getElem? h3)
  simp only [itemB, attB, Bool.and_eq_true, amg_iff] at this
  exact this.2.2.2.1.1
 have hr6 := h6 (againF due)
 rw [← againD] at hr6
 rw [h1]
 by_cases c0 : x.Attempts = 5
 ·rw [againF, if_pos c0] at hr6
  simp only at hr6
  rw [if_neg (by decide)] at hr6
  simp -dsimp -implicitDefEqProofs [-getElem?_pos, go_sem, hP, c0]
  refine done_zeroD ?_
  rw [hR, hr6]
 have d0 : decide (5 ≤ x.Attempts) = false := decide_eq_false (by omega)
 rw [againF, if_neg c0] at hr6
 simp only at hr6
 obtain ⟨y, hy⟩ : ∃ y, y = duePay x.Payment due := ⟨_, rfl⟩
 have ap := again25_pf d.Queue y hf.q
 have iap := imm_que (againQ d.Queue y).1
 have ip := imm_pay y
 rw [← hy] at hr6
 have cy : TPayment.cells y = [iv x.Payment.Warrant, iv x.Payment.Payee, iv x.Payment.Amount, iv due, iv x.Payment.Sub] := by rw [hy]; rfl
 simp only [cQn, cy] at ap iap ip
 simp -dsimp -implicitDefEqProofs [-getElem?_pos, go_sem, hP, d0]
 refine callB_is (ap.lift _ _) hP en_97 (by simpa using ⟨iq, ip⟩) (imm_pair iap .sc) ?_
 by_cases c1 : (againQ d.Queue y).2 = 0
 rotate_left
 ·have d1 := decide_eq_false c1
  rw [if_neg c1] at hr6
  simp -dsimp -implicitDefEqProofs [-getElem?_pos, go_sem, hP, d1]
  refine done_zeroD ?_
  rw [hR, hr6]
 rw [if_pos c1] at hr6
 have wt := with_pf ⟨d.Account, (againQ d.Queue y).1, d.Items⟩ k ⟨y, 1, x.Attempts⟩ li hil
 have iw := imm_desk ⟨d.Account, (againQ d.Queue y).1, d.Items⟩
 have io := imm_desk (TDesk.mk d.Account (againQ d.Queue y).1 (d.Items.set k ⟨y, 1, x.Attempts⟩))
 have ia := imm_item ⟨y, 1, x.Attempts⟩
 have ciy : TItem.cells ⟨y, 1, x.Attempts⟩ = [iv x.Payment.Warrant, iv x.Payment.Payee, iv x.Payment.Amount, iv due, iv x.Payment.Sub, iv 1, iv x.Attempts] := by rw [hy]; rfl
 simp only [cDn, ciy] at wt io ia iw
 simp -dsimp -implicitDefEqProofs [-getElem?_pos, go_sem, hP, c1]
 refine callB_is (wt.lift _ _) hP en_93 (by simpa [imm_sc] using ⟨iw, ia⟩) io ?_
 simp -dsimp -implicitDefEqProofs [-getElem?_pos, go_sem, hP]
 refine done_imm (imm_pair io .sc) ?_
 rw [hR, hr6]
 rfl
theorem open26_pf (a : TAccount) (hl : a.Subs.length ≤ 100000) (he : a.Entries.length ≤ 100000) : PFun Tryz.prog none none 10 [.agg a.cells] (· = .tup [.agg (openD a).1.cells, iv (openD a).2]) := by
 refine pfun_intro Tryz.func10 rfl (by simp [Tryz.f10]) (by kernel_rfl) ?_
 intro E hP hr hs hW hN
 have ia := imm_acc a
 have ck := check23_pf a hl he
 rw [cA] at ia ck
 have i1 := imm_subs a.Subs
 have i2 := imm_ents a.Entries
 obtain ⟨R, hR⟩ : ∃ R, R = AV.tup [.agg (openD a).1.cells, iv (openD a).2] := ⟨_, rfl⟩
 rw [← hR]
 simp -dsimp -implicitDefEqProofs [-getElem?_pos, go_sem, hP, cA]
 refine callB_is (ck.lift _ _) hP en_47 (by simpa using ia) .sc ?_
 by_cases c1 : checkA a = 0
 rotate_left
 ·have : openD a = (zeroD, checkA a) := by rw [openD, if_neg c1]
  simp -dsimp -implicitDefEqProofs [-getElem?_pos, go_sem, hP, c1]
  refine done_zeroD ?_
  rw [hR, this]
 simp -dsimp -implicitDefEqProofs [-getElem?_pos, go_sem, hP, c1]
 obtain ⟨l, hl'⟩ : ∃ l, l = a.Entries := ⟨_, rfl⟩
 rw [← hl'] at he i2
 obtain ⟨I, hI⟩ : ∃ I : Nat → St → Prop, I = fun m s => ∃ k : Nat, k ≤ l.length ∧ m = l.length - k ∧ l.any (fun e => !refB 0 e) = (l.drop k).any (fun e => !refB 0 e) ∧ s.t 1 = .ref 0 0 0 ∧ s.t 2 = .ref 1 0 0 ∧ s.t 14 = entsL l ∧ s.t 15 = iv l.length ∧ s.t 16 = iv k ∧ s.H[0]? = some (some ⟨28, 3, [[iv a.Credit, subsL a.Subs, entsL l]]⟩) ∧ s.H[1]? = some (some ⟨35, 7, [[iv 0, .nil, .nil, .nil, .nil, .nil, .nil]]⟩) := ⟨_, rfl⟩
 refine aloop0 I (l.length) (by rw [hN]; rfl) ?_ ?_
 ·rw [hI]
  exact ⟨0, by omega, by omega, by rfl, by simp -dsimp [-getElem?_pos, go_sem], by simp -dsimp [-getElem?_pos, go_sem], by simp -dsimp [-getElem?_pos, go_sem, hl'], by simp -dsimp [-getElem?_pos, go_sem, hl'], by simp -dsimp [-getElem?_pos, go_sem], by simp -dsimp [-getElem?_pos, go_sem, hl'], by simp -dsimp [-getElem?_pos, go_sem]⟩
 intro m s hs'
 rw [hI] at hs'
 obtain ⟨k, hk, hm, hq, t1, t2, t14, t15, t16, h0, h1⟩ := hs'
 have lt0 := (gsI h0)
 have lt1 := (gsI h1)
 simp -dsimp -implicitDefEqProofs [-getElem?_pos, go_sem, hP, t15, t16]
 refine condP (fun h => ?_) (fun h => ?_)
 ·have hk : k < l.length := by simpa using h
  obtain ⟨e, hee⟩ : ∃ e, l[k]? = some e := ⟨_, List.getElem?_eq_getElem hk⟩
  have wk := wrap_in ((k : Int) + 1) (by omega)
  have g1 : ∀ x : Option AObj, (s.H ++ [x])[1]? = some (some ⟨35, 7, [[iv 0, .nil, .nil, .nil, .nil, .nil, .nil]]⟩) := fun x => by rw [List.getElem?_append_left lt1]; exact h1
  rw [drop_at hee, List.any_cons] at hq
  by_cases c : e.Ref = 0
  ·rw [show refB 0 e = true by simp [refB, c], Bool.not_true, Bool.false_or] at hq
   simp -dsimp -implicitDefEqProofs [-getElem?_pos, go_sem, hP, t14, t16, hee, cE, c, wk]
   refine ⟨l.length - (k + 1), by omega, ?_⟩
   rw [hI]
   exact ⟨k + 1, by omega, rfl, hq, by simp -dsimp [-getElem?_pos, go_sem, t1], by simp -dsimp [-getElem?_pos, go_sem, t2], by simp -dsimp [-getElem?_pos, go_sem, t14], by simp -dsimp [-getElem?_pos, go_sem, t15], by simp -dsimp [-getElem?_pos, go_sem], by simp -dsimp [-getElem?_pos, go_sem, lt0, h0], by simp -dsimp [-getElem?_pos, go_sem, lt1, h1]⟩
  ·rw [show refB 0 e = false by simp [refB, c], Bool.not_false, Bool.true_or, hl'] at hq
   have d := decide_eq_false c
   have : openD a = (zeroD, 68) := by rw [openD, if_pos c1, if_pos hq]
   simp -dsimp -implicitDefEqProofs [-getElem?_pos, go_sem, hP, t14, t16, hee, cE, c, d, t2, g1, lt1, h1]
   refine done_zeroD ?_
   rw [hR, this]
 ·have hk : k = l.length := by simp at h; omega
  subst hk
  rw [List.drop_length, List.any_nil, hl'] at hq
  have : openD a = (⟨a, zeroQ, []⟩, 0) := by rw [openD, if_pos c1, if_neg (by simp [hq])]
  simp -dsimp -implicitDefEqProofs [-getElem?_pos, go_sem, hP, t1, h0, lt0, t2, h1, lt1]
  refine done_agg2 (cs' := [iv a.Credit, subsL a.Subs, entsL l, paysL [], numsL [], batsL [], itemsL []]) (cw_sc (cw_imm (imm_subs _) (cw_imm (imm_ents _) (cw_nil (cw_nil (cw_nil (cw_nil .nil))))))) ?_
  rw [hR, this, hl']
  rfl
end Go.Proofs.YtmpncdlhmknkoaaGreat
