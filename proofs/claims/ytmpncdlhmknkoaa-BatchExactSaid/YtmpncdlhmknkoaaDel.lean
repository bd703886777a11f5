/- slices.Delete, DeleteFunc, BinarySearch. -/
import Derived.Test.YtmpncdlhmknkoaaPlayAll
import Derived.Test.YtmpncdlhmknkoaaPaIns
import Derived.Test.YtmpncdlhmknkoaaTypes
set_option linter.unusedSimpArgs false
set_option linter.unusedVariables false
namespace Go.Proofs.Ytmpncdlhmknkoaa
open Go.PA
open Go.RowKit
set_option maxHeartbeats 2000000 in
theorem delete_m_pay {row src : Option Nat} (es : List (List AV)) (i id : Nat) (H : Heap) (hi : i < es.length) (hl : es.length ≤ 100000) (ho : H[id]? = some (some ⟨34, 5, es⟩)) :
    MFun Try.prog row src 57 [.sref id 0 es.length, iv i, iv ((i : Int) + 1)] H (fun r H' => ∃ tl, r = .sref id 0 (es.length - 1) ∧ H'[id]? = some (some ⟨34, 5, es.take i ++ es.drop (i + 1) ++ tl⟩) ∧ Kept [id] H H') := by
  obtain ⟨C, hC⟩ : ∃ C : AV → Heap → Prop, C = fun r H' => ∃ tl, r = .sref id 0 (es.length - 1) ∧ H'[id]? = some (some ⟨34, 5, es.take i ++ es.drop (i + 1) ++ tl⟩) ∧ Kept [id] H H' := ⟨_, rfl⟩
  rw [← hC]
  have lid := (List.getElem?_eq_some_iff.1 ho).1
  have ex : ∃ r H', C r H' := by
    rw [hC]
    exact ⟨.sref id 0 (es.length - 1), H.set id (some ⟨34, 5, es.take i ++ es.drop (i + 1) ++ []⟩), [], rfl, by simp [lid], kept_set _ (by simp) (kept_refl _ _)⟩
  obtain ⟨n, hn⟩ : ∃ n, n = es.length := ⟨_, rfl⟩
  rw [← hn] at hi hl hC ⊢
  have hesne : es ≠ [] := by intro e0; simp [e0] at hn; omega
  refine mfun_unfull (C := fun r H' => ∃ N, r = .full id 0 (n - 1) N ∧ ∃ o, H'[id]? = some (some o) ∧ n - 1 ≤ o.es.length ∧ C (.sref id 0 (n - 1)) H') ?_ (fun r H' h => ?_)
  rotate_left
  · obtain ⟨N, h1, o, h2, h3, h4⟩ := h
    exact .inr ⟨id, n - 1, N, o, h1, h2, h3, h4⟩
  refine mfun_full ho hesne (by dsimp only; omega) fun N hN0 => ?_
  dsimp only at hN0
  obtain ⟨D, hD⟩ : ∃ D : AV → Heap → Prop, D = fun r H' => ∃ N, r = .full id 0 (n - 1) N ∧ ∃ o, H'[id]? = some (some o) ∧ n - 1 ≤ o.es.length ∧ C (.sref id 0 (n - 1)) H' := ⟨_, rfl⟩
  rw [← hD]
  have exD : ∃ r H', D r H' := by
    rw [hD, hC]
    refine ⟨.full id 0 (n - 1) n, H.set id (some ⟨34, 5, es.take i ++ es.drop (i + 1) ++ []⟩), n, rfl, ⟨34, 5, es.take i ++ es.drop (i + 1) ++ []⟩, by simp [lid], by simp; omega, [], rfl, by simp [lid], kept_set _ (by simp) (kept_refl _ _)⟩
  obtain ⟨zs, hz⟩ := Option.isSome_iff_exists.1 (show (zeros Try.prog 34).isSome = true by kernel_rfl)
  have nN : n ≤ N := by omega
  have iN : i ≤ N := by omega
  have b1 : (0 : Int) ≤ i := by omega
  have b2 : (i : Int) ≤ (i : Int) + 1 := by omega
  have b3 : (i : Int) + 1 ≤ n := by omega
  have b4 : ¬ (i : Int) = (i : Int) + 1 := by omega
  have b5 : (0 : Int) ≤ (i : Int) + 1 := by omega
  have b6 : ¬ ((i : Int) + 1 = 0) := by omega
  have fin : ∀ (es1 : List (List AV)), es1.take (n - 1) = es.take i ++ es.drop (i + 1) → es1.length = n → (H1 : Heap) → H1[id]? = some (some ⟨34, 5, es1⟩) → Kept [id] H H1 → D (.full id 0 (n - 1) N) (H1.set id (some ⟨34, 5, es.take i ++ es.drop (i + 1) ++ [zs]⟩)) := fun es1 h1 h2 H1 h3 h4 => by
    have l1 := (List.getElem?_eq_some_iff.1 h3).1
    rw [hD, hC]
    exact ⟨N, rfl, ⟨34, 5, es.take i ++ es.drop (i + 1) ++ [zs]⟩, by simp [l1], by simp [← hn]; omega, [zs], rfl, by simp [l1], kept_set _ (by simp) h4⟩
  refine mfun_intro Try.func57 rfl (by simp [Try.f57]) (by kernel_rfl) (exD) ?_
  intro E hP hr hs hN
  simp -dsimp -implicitDefEqProofs [-getElem?_pos, go_sem, hP, ho, ← hn, asliceOp, bound, aslice, aslice3, b1, b2, b3, b4, b5]
  refine adrawB (fun _ => true) [6] hP (by kernel_rfl) (by kernel_rfl) ?_
  have sx : (if n - 1 = 0 then some (AV.full id 0 n N) else some (AV.full id (n - 1) 1 N)) = some (.full id (n - 1) 1 N) := by
    split
    · rename_i h0; rw [h0, show n = 1 by omega]
    · rfl
  have n4 : ¬ (((n - 1 : Nat) : Int) = (n : Int)) := by omega
  have n1 : n - (n - 1) = 1 := by omega
  have n2 : n - 1 ≤ n := by omega
  have n3 : ¬ (n - 1 = n) := by omega
  have n0 : ¬ n = 0 := by omega
  by_cases hlast : i + 1 = n
  · have c1 : (i : Int) + 1 = n := by omega
    have iN1 : i = n - 1 := by omega
    simp -dsimp -implicitDefEqProofs [-getElem?_pos, go_sem, hP, ho, ← hn, asliceOp, bound, aslice, b1, b2, b3, b4, b5, b6, c1, iN, nN, n0]
    refine buiB_appendN (e := 34) (L := n - 1) (o := ⟨34, 5, es⟩) ho (by rw [hP]; kernel_rfl) (by rw [hP]; kernel_rfl) iN iN1 ?_
    simp -dsimp -implicitDefEqProofs [-getElem?_pos, go_sem, hP, ho, asliceOp, bound, aslice, n1, n2, n3, n4, nN, sx]
    refine buiB_clearE (e := 34) (es' := es.take i ++ es.drop (i + 1) ++ [zs]) ho (.inr ⟨N, rfl⟩) (by rw [hP]; kernel_rfl) (by rw [hP]; kernel_rfl) (by omega) (by rw [hP]; exact hz) (by omega) (by omega) ?_ ?_
    · rw [List.drop_of_length_le (show es.length ≤ n - 1 + 1 by omega), List.drop_of_length_le (show es.length ≤ i + 1 by omega), iN1]
      simp
    simp -dsimp -implicitDefEqProofs [-getElem?_pos, go_sem, hP]
    have := fin es (by rw [List.drop_of_length_le (show es.length ≤ i + 1 by omega), iN1]; simp) hn.symm H ho (kept_refl _ _)
    simpa using this
  · have c1 : ¬ (i : Int) + 1 = n := by omega
    have c2 : (n : Int) - ((i : Int) + 1) = ((n - (i + 1) : Nat) : Int) := by omega
    simp -dsimp -implicitDefEqProofs [-getElem?_pos, go_sem, hP, ho, ← hn, asliceOp, bound, aslice, b1, b2, b3, b4, b5, b6, c1, c2, iN, nN]
    refine buiB_appendE (e := 34) (L := n - 1) (m := n - (i + 1)) (news := es.drop (i + 1)) (es' := es.take i ++ es.drop (i + 1) ++ es.drop (n - 1)) ho (by rw [hP]; kernel_rfl) (by rw [hP]; kernel_rfl) (by omega) (by rw [hP]; kernel_rfl) ?_ (by simp [← hn]) (by omega) (by omega) (by omega) rfl (by omega) ?_
    · simp only [srcEs, ho]
      rw [if_pos ⟨by rw [hP]; kernel_rfl, by omega⟩, List.take_of_length_le (by simp; omega)]
    simp -dsimp -implicitDefEqProofs [-getElem?_pos, go_sem, hP, lid, asliceOp, bound, aslice, n1, n2, n3, n4, nN, sx]
    have hl2 : (es.take i ++ es.drop (i + 1)).length = n - 1 := by simp; omega
    refine buiB_clearE (e := 34) (ty := 34) (k := 5) (es := es.take i ++ es.drop (i + 1) ++ es.drop (n - 1)) (es' := es.take i ++ es.drop (i + 1) ++ [zs]) (by simp [lid]) (.inr ⟨N, rfl⟩) (by rw [hP]; kernel_rfl) (by rw [hP]; kernel_rfl) (by omega) (by rw [hP]; exact hz) (by omega) (by simp; omega) ?_ ?_
    · rw [List.take_append_of_le_length (by omega), List.take_of_length_le (by omega), List.drop_of_length_le (show (es.take i ++ es.drop (i + 1) ++ es.drop (n - 1)).length ≤ n - 1 + 1 by rw [List.length_append, hl2, List.length_drop]; omega)]
      simp
    simp -dsimp -implicitDefEqProofs [-getElem?_pos, go_sem, hP]
    have := fin (es.take i ++ es.drop (i + 1) ++ es.drop (n - 1)) (by rw [List.take_append_of_le_length (by omega), List.take_of_length_le (by omega)]) (by rw [List.length_append, hl2, List.length_drop]; omega) (H.set id (some ⟨34, 5, es.take i ++ es.drop (i + 1) ++ es.drop (n - 1)⟩)) (by simp [lid]) (kept_set _ (by simp) (kept_refl _ _))
    simpa using this

theorem index_m_pay {row src : Option Nat} (l : List TPayment) (x : AV) (H : Heap) (g : FuncId) (caps : List AV) (p : TPayment → Bool) (hx : SlIs H x 5 (encL TPayment.cells l)) (hl : l.length ≤ 1000000) (hen : enterable Try.prog g = true)
    (hg : ∀ a, a ∈ l → ∀ H', Kept [] H H' → MFun Try.prog row src g (.agg (TPayment.cells a) :: caps) H' (fun r H'' => r = bv (p a) ∧ Kept [] H' H'')) :
    MFun Try.prog row src 74 [x, .fn g caps] H (fun r H' => r = iv (idxI p l) ∧ Kept [] H H') := by
  refine mfun_intro Try.func74 rfl (by simp [Try.f74]) (by kernel_rfl) ⟨_, H, rfl, kept_refl _ _⟩ ?_
  intro E hP hr hs hN
  have hlen := hx.len
  rw [encL_len] at hlen
  simp -dsimp -implicitDefEqProofs [-getElem?_pos, go_sem, hP, hlen]
  obtain ⟨I, hI⟩ : ∃ I : Nat → St → Prop, I = fun m s => ∃ k : Nat, k ≤ l.length ∧ m = l.length - k ∧ idxI p l = idxFrom p k (l.drop k) ∧ s.t 0 = x ∧ s.t 1 = .fn g caps ∧ s.t 7 = iv l.length ∧ s.t 8 = iv k ∧ Kept [] H s.H := ⟨_, rfl⟩
  refine aloop0 I l.length (by rw [hN]; rfl) ?_ ?_
  · rw [hI]
    exact ⟨0, by omega, by omega, by simp [idxI], by simp -dsimp -implicitDefEqProofs [-getElem?_pos, go_sem], by simp -dsimp -implicitDefEqProofs [-getElem?_pos, go_sem], by simp -dsimp -implicitDefEqProofs [-getElem?_pos, go_sem], by simp -dsimp -implicitDefEqProofs [-getElem?_pos, go_sem], by simp -dsimp -implicitDefEqProofs [-getElem?_pos, go_sem]; exact kept_refl _ _⟩
  intro m s hs'
  rw [hI] at hs'
  obtain ⟨k, hk, hm, hi, t0, t1, t7, t8, hKp⟩ := hs'
  simp -dsimp -implicitDefEqProofs [-getElem?_pos, go_sem, hP, t7, t8]
  refine condP (fun h => ?_) (fun h => ?_)
  · have hk : k < l.length := by simpa using h
    obtain ⟨a, ha⟩ : ∃ a, l[k]? = some a := ⟨_, List.getElem?_eq_getElem hk⟩
    have wk := wrap_in ((k : Int) + 1) (by omega)
    obtain ⟨ad, h1, h2⟩ := (hx.kept hKp).idx (P := Try.prog) (t := 25) (e := 34) el_25 (by rw [sz_34]) kn_34 k (by rw [encL_len]; exact hk)
    have h2' : addrCells s.H ad = some (TPayment.cells a) := by
      rw [h2]
      have := encL_get TPayment.cells l k
      rw [ha, List.getElem?_eq_getElem (by rw [encL_len]; exact hk)] at this
      exact this
    have hz : (TPayment.cells a).take 5 = TPayment.cells a := List.take_of_length_le (by rw [TPayment.len]; omega)
    simp -dsimp -implicitDefEqProofs [-getElem?_pos, go_sem, hP, t8, t1, t0, h1, h2', TPayment.len, hz]
    have hd : l.drop k = a :: l.drop (k + 1) := by
      rw [List.getElem?_eq_getElem hk] at ha
      rw [List.drop_eq_getElem_cons hk, Option.some.inj ha]
    refine callB_m (by rw [hr, hs]; exact hg a (List.mem_of_getElem? ha) s.H hKp) hP hen ?_
    rintro r H' ⟨rfl, hK2⟩
    rw [hd] at hi
    simp only [idxFrom] at hi
    simp -dsimp -implicitDefEqProofs [-getElem?_pos, go_sem, hP]
    refine condP (fun hp => ?_) (fun hp => ?_)
    · rw [if_pos hp] at hi
      simp -dsimp -implicitDefEqProofs [-getElem?_pos, go_sem, hP]
      exact ⟨hi.symm, hKp.trans hK2⟩
    · rw [hp, if_neg (by simp)] at hi
      simp -dsimp -implicitDefEqProofs [-getElem?_pos, go_sem, hP, t8, wk]
      refine ⟨l.length - (k + 1), by omega, ?_⟩
      rw [hI]
      exact ⟨k + 1, by omega, rfl, hi, by simp -dsimp -implicitDefEqProofs [-getElem?_pos, go_sem, t0], by simp -dsimp -implicitDefEqProofs [-getElem?_pos, go_sem, t1], by simp -dsimp -implicitDefEqProofs [-getElem?_pos, go_sem, t7], by simp -dsimp -implicitDefEqProofs [-getElem?_pos, go_sem], by simp -dsimp -implicitDefEqProofs [-getElem?_pos, go_sem]; exact hKp.trans hK2⟩
  · have hk : k = l.length := by simp at h; omega
    subst hk
    rw [List.drop_length] at hi
    simp -dsimp -implicitDefEqProofs [-getElem?_pos, go_sem, hP]
    exact ⟨hi.symm, hKp⟩

theorem index_pf_pay (l : List TPayment) (g : FuncId) (caps : List AV) (p : TPayment → Bool) (hl : l.length ≤ 1000000) (hen : enterable Try.prog g = true) (hcap : ∀ a, a ∈ caps → Imm a)
    (hg : ∀ a, a ∈ l → PFun Try.prog none none g (.agg (TPayment.cells a) :: caps) (· = bv (p a))) :
    PFun Try.prog none none 74 [.list 5 (encL TPayment.cells l), .fn g caps] (· = iv (idxI p l)) := by
  refine pfun_intro Try.func74 rfl (by simp [Try.f74]) (by kernel_rfl) ?_
  intro E hP hr hs hW hN
  simp -dsimp -implicitDefEqProofs [-getElem?_pos, go_sem, hP]
  obtain ⟨I, hI⟩ : ∃ I : Nat → St → Prop, I = fun m s => ∃ k : Nat, k ≤ l.length ∧ m = l.length - k ∧ idxI p l = idxFrom p k (l.drop k) ∧ s.t 0 = .list 5 (encL TPayment.cells l) ∧ s.t 1 = .fn g caps ∧ s.t 7 = iv l.length ∧ s.t 8 = iv k := ⟨_, rfl⟩
  refine aloop0 I (l.length) (by rw [hN]; rfl) ?_ ?_
  · rw [hI]
    exact ⟨0, by omega, by omega, by simp [idxI], by simp -dsimp -implicitDefEqProofs [-getElem?_pos, go_sem], by simp -dsimp -implicitDefEqProofs [-getElem?_pos, go_sem], by simp -dsimp -implicitDefEqProofs [-getElem?_pos, go_sem], by simp -dsimp -implicitDefEqProofs [-getElem?_pos, go_sem]⟩
  intro m s hs'
  rw [hI] at hs'
  obtain ⟨k, hk, hm, hi, t0, t1, t7, t8⟩ := hs'
  simp -dsimp -implicitDefEqProofs [-getElem?_pos, go_sem, hP, t7, t8]
  refine condP (fun h => ?_) (fun h => ?_)
  · have hk : k < l.length := by simpa using h
    obtain ⟨a, ha⟩ : ∃ a, l[k]? = some a := ⟨_, List.getElem?_eq_getElem hk⟩
    have wk := wrap_in ((k : Int) + 1) (by omega)
    have hz : (TPayment.cells a).take 5 = TPayment.cells a := List.take_of_length_le (by rw [TPayment.len]; omega)
    have hd : l.drop k = a :: l.drop (k + 1) := by
      rw [List.getElem?_eq_getElem hk] at ha
      rw [List.drop_eq_getElem_cons hk, Option.some.inj ha]
    simp -dsimp -implicitDefEqProofs [-getElem?_pos, go_sem, hP, t8, t1, t0, ha, TPayment.len, hz]
    refine callB_is ((hg a (List.mem_of_getElem? ha)).lift _ _) hP hen (fun x hx => ?_) .sc ?_
    · rcases List.mem_cons.1 hx with rfl | hx
      · exact imm_agg.2 (TPayment.imm a)
      · exact hcap x hx
    rw [hd] at hi
    simp only [idxFrom] at hi
    simp -dsimp -implicitDefEqProofs [-getElem?_pos, go_sem, hP]
    refine condP (fun hp => ?_) (fun hp => ?_)
    · rw [if_pos hp] at hi
      simp -dsimp -implicitDefEqProofs [-getElem?_pos, go_sem, hP]
      exact hi.symm
    · rw [hp, if_neg (by simp)] at hi
      simp -dsimp -implicitDefEqProofs [-getElem?_pos, go_sem, hP, t8, wk]
      refine ⟨l.length - (k + 1), by omega, ?_⟩
      rw [hI]
      exact ⟨k + 1, by omega, rfl, hi, by simp -dsimp -implicitDefEqProofs [-getElem?_pos, go_sem, t0], by simp -dsimp -implicitDefEqProofs [-getElem?_pos, go_sem, t1], by simp -dsimp -implicitDefEqProofs [-getElem?_pos, go_sem, t7], by simp -dsimp -implicitDefEqProofs [-getElem?_pos, go_sem]⟩
  · have hk : k = l.length := by simp at h; omega
    subst hk
    rw [List.drop_length] at hi
    simp -dsimp -implicitDefEqProofs [-getElem?_pos, go_sem, hP]
    exact hi.symm

theorem contains_pf_pay (l : List TPayment) (g : FuncId) (caps : List AV) (p : TPayment → Bool) (hl : l.length ≤ 1000000) (hen : enterable Try.prog g = true) (hcap : ∀ a, a ∈ caps → Imm a)
    (hg : ∀ a, a ∈ l → PFun Try.prog none none g (.agg (TPayment.cells a) :: caps) (· = bv (p a))) :
    PFun Try.prog none none 65 [.list 5 (encL TPayment.cells l), .fn g caps] (· = bv (l.any p)) := by
  refine pfun_intro Try.func65 rfl (by simp [Try.f65]) (by kernel_rfl) ?_
  intro E hP hr hs hW hN
  obtain ⟨w, hw⟩ : ∃ w, w = l.any p := ⟨_, rfl⟩
  rw [← hw]
  have hi : ∀ a, a ∈ [AV.list 5 (encL TPayment.cells l), .fn g caps] → Imm a := fun a ha => by
    simp only [List.mem_cons, List.not_mem_nil, or_false] at ha
    rcases ha with rfl | rfl
    · exact imm_encL _ TPayment.imm _
    · exact imm_fn.2 hcap
  simp -dsimp -implicitDefEqProofs [-getElem?_pos, go_sem, hP]
  refine callB_is ((index_pf_pay l g caps p hl hen hcap hg).lift _ _) hP en_74 hi .sc ?_
  rcases idxI_spec p l with ⟨h1, h2⟩ | ⟨i, a, h1, h2, h3, _⟩
  · have : w = false := by rw [hw]; exact List.any_eq_false.2 fun a ha => by simp [h2 a ha]
    simp -dsimp -implicitDefEqProofs [-getElem?_pos, go_sem, hP, h1, this]
  · have d : decide ((0 : Int) ≤ (i : Int)) = true := decide_eq_true (by omega)
    have : w = true := by rw [hw]; exact List.any_eq_true.2 ⟨a, List.mem_of_getElem? h1, h2⟩
    simp -dsimp -implicitDefEqProofs [-getElem?_pos, go_sem, hP, h3, d, this]

set_option maxHeartbeats 4000000 in
theorem deleteFunc_m_pay {row src : Option Nat} (l : List TPayment) (id : Nat) (H : Heap) (g : FuncId) (caps caps' : List AV) (p : TPayment → Bool) (hl : l.length ≤ 100000) (ho : H[id]? = some (some ⟨34, 5, encL TPayment.cells l⟩)) (hen : enterable Try.prog g = true)
    (hci : ∀ a, a ∈ caps' → Imm a) (hca : ∀ H', Kept [id] H H' → Args H' caps caps' ∧ caps.map (viewR H') = caps') (hg : ∀ a, a ∈ l → PFun Try.prog none none g (.agg (TPayment.cells a) :: caps') (· = bv (p a))) :
    MFun Try.prog row src 49 [.sref id 0 l.length, .fn g caps] H (fun r H' => ∃ tl, r = .sref id 0 (l.filter fun a => !p a).length ∧ H'[id]? = some (some ⟨34, 5, encL TPayment.cells (l.filter fun a => !p a) ++ tl⟩) ∧ Kept [id] H H') := by
  obtain ⟨C, hC⟩ : ∃ C : AV → Heap → Prop, C = fun r H' => ∃ tl, r = .sref id 0 (l.filter fun a => !p a).length ∧ H'[id]? = some (some ⟨34, 5, encL TPayment.cells (l.filter fun a => !p a) ++ tl⟩) ∧ Kept [id] H H' := ⟨_, rfl⟩
  rw [← hC]
  have lid := (List.getElem?_eq_some_iff.1 ho).1
  have ex : ∃ r H', C r H' := by
    rw [hC]
    exact ⟨_, H.set id (some ⟨34, 5, encL TPayment.cells (l.filter fun a => !p a) ++ []⟩), [], rfl, by simp [lid], kept_set _ (by simp) (kept_refl _ _)⟩
  obtain ⟨zs, hz⟩ := Option.isSome_iff_exists.1 (show (zeros Try.prog 34).isSome = true by kernel_rfl)
  have imm : Imm (.list 5 (encL TPayment.cells l)) := imm_encL _ TPayment.imm _
  obtain ⟨n, hn⟩ : ∃ n, n = l.length := ⟨_, rfl⟩
  refine mfun_intro Try.func49 rfl (by simp [Try.f49]) (by kernel_rfl) (ex) ?_
  intro E hP hr hs hN
  simp -dsimp -implicitDefEqProofs [-getElem?_pos, go_sem, hP]
  refine callB_flat ((index_pf_pay l g caps' p (by omega) hen hci hg).lift _ _) hP en_74 (args_sref ho (by rw [encL_len]) imm (args_fnc (hca H (kept_refl _ _)).2 hci .nil)) ⟨_, rfl⟩ (by rintro r rfl; exact .sc) ?_
  rintro r rfl
  rcases idxI_spec p l with ⟨h1, h2⟩ | ⟨i, a, ha, hpa, h3, h4⟩
  · have hf : (l.filter fun a => !p a) = l := List.filter_eq_self.2 fun a ha => by simp [h2 a ha]
    simp -dsimp -implicitDefEqProofs [-getElem?_pos, go_sem, hP, h1]
    rw [hC, hf]
    exact ⟨[], rfl, by rw [List.append_nil]; exact ho, kept_refl _ _⟩
  have hi1 : ¬ ((i : Int) = -1) := by omega
  have hil := (List.getElem?_eq_some_iff.1 ha).1
  have w1 := wrap_in ((i : Int) + 1) (by omega)
  have kept0 : (l.take (i + 1)).filter (fun a => !p a) = l.take i := by
    rw [List.take_add_one, ha, List.filter_append, Option.toList_some, List.filter_cons_of_neg (by simp [hpa]), List.filter_nil, List.append_nil]
    refine List.filter_eq_self.2 fun x hx => ?_
    obtain ⟨j, hj⟩ := List.getElem?_of_mem hx
    rw [List.getElem?_take] at hj
    split at hj
    · simp [h4 j x (by assumption) hj]
    · cases hj
  simp -dsimp -implicitDefEqProofs [-getElem?_pos, go_sem, hP, h3, hi1, w1]
  obtain ⟨I, hI⟩ : ∃ I : Nat → St → Prop, I = fun m s => ∃ (j q : Nat) (ks : List TPayment) (rows : List (List AV)), ks = ((l.take j).filter fun a => !p a) ∧ q = ks.length ∧ j ≤ n ∧ m = n - j ∧ q < j ∧ rows.length = n ∧ (∀ e, e ∈ rows → e.length = 5) ∧ rows.take q = encL TPayment.cells ks ∧ rows.drop j = encL TPayment.cells (l.drop j) ∧ s.t 0 = .sref id 0 n ∧ s.t 1 = .fn g caps ∧ s.t 5 = iv q ∧ s.t 6 = iv j ∧ s.H[id]? = some (some ⟨34, 5, rows⟩) ∧ Kept [id] H s.H := ⟨_, rfl⟩
  refine aloop0 I (n - (i + 1)) (by rw [hN]; rfl) ?_ ?_
  · rw [hI]
    refine ⟨i + 1, i, l.take i, encL TPayment.cells l, kept0.symm, by simp; omega, by omega, by omega, by omega, by rw [encL_len]; omega, fun e he => ?_, encL_takeE _ _ _, encL_dropE _ _ _, by simp -dsimp -implicitDefEqProofs [-getElem?_pos, go_sem, hn], by simp -dsimp -implicitDefEqProofs [-getElem?_pos, go_sem], by simp -dsimp -implicitDefEqProofs [-getElem?_pos, go_sem], by simp -dsimp -implicitDefEqProofs [-getElem?_pos, go_sem], by simp -dsimp -implicitDefEqProofs [-getElem?_pos, go_sem, ho], by simp -dsimp -implicitDefEqProofs [-getElem?_pos, go_sem]; exact kept_refl _ _⟩
    obtain ⟨x, _, rfl⟩ := List.mem_map.1 he
    exact TPayment.len x
  intro m s hs'
  rw [hI] at hs'
  obtain ⟨j, q, ks, rows, hks, hq, hjn, hm, hqj, hrl, hre, hrt, hrd, t0, t1, t5, t6, h0, hk⟩ := hs'
  have lt0 := (List.getElem?_eq_some_iff.1 h0).1
  simp -dsimp -implicitDefEqProofs [-getElem?_pos, go_sem, hP, t0, t6, h0]
  refine condP (fun hh => ?_) (fun hh => ?_)
  · have hj : j < n := by simpa using hh
    obtain ⟨x, hx⟩ : ∃ x, l[j]? = some x := ⟨_, List.getElem?_eq_getElem (by omega)⟩
    have wj := wrap_in ((j : Int) + 1) (by omega)
    have wq := wrap_in ((q : Int) + 1) (by omega)
    have hrow : rows[j]? = some (TPayment.cells x) := by
      have := congrArg (·[0]?) hrd
      simp only [List.getElem?_drop, Nat.add_zero, encL_getE, hx] at this
      simpa using this
    have im := imm_agg.2 (TPayment.imm x)
    have hcx := hca (s.H ++ [some ⟨34, 5, [TPayment.cells x]⟩]) (hk.trans (kept_app _ _ _))
    have hgx := (hg x (List.mem_of_getElem? hx)).lift E.row E.src
    have htk : (l.take (j + 1)).filter (fun a => !p a) = if p x = true then ks else ks ++ [x] := by
      rw [List.take_add_one, hx, List.filter_append, Option.toList_some, ← hks]
      by_cases hpx : p x = true <;> simp [hpx, List.filter_cons]
    have hxl := TPayment.len x
    simp -dsimp -implicitDefEqProofs [-getElem?_pos, go_sem, hP, t0, t6, h0, hrow, hj, TPayment.cells]
    simp -dsimp -implicitDefEqProofs [-getElem?_pos, go_sem, hP, t1]
    simp only [TPayment.cells] at im hcx hgx
    refine callB_flat hgx hP hen (args_imm im hcx.1) ⟨_, rfl⟩ (by rintro r rfl; exact .sc) ?_
    rintro r rfl
    simp -dsimp -implicitDefEqProofs [-getElem?_pos, go_sem, hP]
    refine condP (fun hp => ?_) (fun hp => ?_)
    · rw [if_pos hp] at htk
      simp -dsimp -implicitDefEqProofs [-getElem?_pos, go_sem, hP, t6, wj]
      refine ⟨n - (j + 1), by omega, ?_⟩
      rw [hI]
      refine ⟨j + 1, q, ks, rows, htk.symm, hq, by omega, rfl, by omega, hrl, hre, hrt, ?_, by simp -dsimp -implicitDefEqProofs [-getElem?_pos, go_sem, t0], by simp -dsimp -implicitDefEqProofs [-getElem?_pos, go_sem, t1], by simp -dsimp -implicitDefEqProofs [-getElem?_pos, go_sem, t5], by simp -dsimp -implicitDefEqProofs [-getElem?_pos, go_sem], by simp -dsimp -implicitDefEqProofs [-getElem?_pos, go_sem, h0, lt0], by simp -dsimp -implicitDefEqProofs [-getElem?_pos, go_sem]; exact hk.trans (kept_app _ _ _)⟩
      have := congrArg (List.drop 1) hrd
      rwa [List.drop_drop, encL_dropE, List.drop_drop] at this
    · rw [if_neg (by simp [hp])] at htk
      obtain ⟨r0, hr0⟩ : ∃ r0, rows[q]? = some r0 := ⟨_, List.getElem?_eq_getElem (by omega)⟩
      have hr0l := hre r0 (List.mem_of_getElem? hr0)
      have hr0d : r0.drop 5 = [] := List.drop_of_length_le (by omega)
      have hqn : q < n := by omega
      simp -dsimp -implicitDefEqProofs [-getElem?_pos, go_sem, hP, t0, t5, t6, h0, lt0, hr0, hr0l, hr0d, hqn, wj, wq]
      refine ⟨n - (j + 1), by omega, ?_⟩
      rw [hI]
      refine ⟨j + 1, q + 1, ks ++ [x], rows.set q (TPayment.cells x), htk.symm, by simp; omega, by omega, rfl, by omega, by simp; omega, fun e he => ?_, ?_, ?_, by simp -dsimp -implicitDefEqProofs [-getElem?_pos, go_sem, t0], by simp -dsimp -implicitDefEqProofs [-getElem?_pos, go_sem, t1], by simp -dsimp -implicitDefEqProofs [-getElem?_pos, go_sem], by simp -dsimp -implicitDefEqProofs [-getElem?_pos, go_sem], by simp -dsimp -implicitDefEqProofs [-getElem?_pos, go_sem, lt0, TPayment.cells], by simp -dsimp -implicitDefEqProofs [-getElem?_pos, go_sem]; exact (kept_set _ (by simp) hk).trans (kept_app _ _ _)⟩
      · rcases List.mem_or_eq_of_mem_set he with he | rfl
        · exact hre e he
        · exact hxl
      · rw [List.take_add_one, List.take_set_of_le (by omega), hrt, List.getElem?_set_self (by omega), ← encL_appE]
        rfl
      · have := congrArg (List.drop 1) hrd
        rw [List.drop_drop, encL_dropE, List.drop_drop] at this
        rw [List.drop_set_of_lt (by omega)]
        exact this
  · have hj : j = n := by simp at hh; omega
    subst hj
    have hkl : ks = l.filter fun a => !p a := by rw [hks, hn, List.take_length]
    have hqn : q ≤ j := by omega
    have hqn1 : ¬ q = j := by omega
    have hqn2 : ¬ (q : Int) = j := by omega
    have sx : ∀ (id n : Nat), (if q = 0 then some (AV.sref id 0 n) else some (AV.sref id q (n - q))) = some (.sref id q (n - q)) := fun id n => by
      split
      · rename_i h0; rw [h0, Nat.sub_zero]
      · rfl
    simp -dsimp -implicitDefEqProofs [-getElem?_pos, go_sem, hP, t0, t5, h0, asliceOp, bound, aslice, hqn, hqn1, hqn2, sx]
    refine buiB_clearE (e := 34) (es' := encL TPayment.cells ks ++ List.replicate (j - q) zs) h0 (.inl rfl) (by rw [hP]; kernel_rfl) (by rw [hP]; kernel_rfl) (by omega) (by rw [hP]; exact hz) (by omega) (by omega) ?_ ?_
    · rw [hrt, List.drop_of_length_le (by omega), List.append_nil]
    simp -dsimp -implicitDefEqProofs [-getElem?_pos, go_sem, hP, t0, t5, lt0, asliceOp, bound, aslice, hqn, hqn1, hqn2, sx]
    rw [hC, ← hkl]
    exact ⟨List.replicate (j - q) zs, by rw [hq], by simp [lt0], kept_set _ (by simp) hk⟩

theorem index_mT_pay {row src : Option Nat} (l : List TPayment) (x : AV) (H : Heap) (g : FuncId) (caps : List AV) (p : TPayment → Bool) (hx : SlIsT H x 5 (encL TPayment.cells l)) (hl : l.length ≤ 1000000) (hen : enterable Try.prog g = true)
    (hg : ∀ a, a ∈ l → ∀ H', Kept [] H H' → MFun Try.prog row src g (.agg (TPayment.cells a) :: caps) H' (fun r H'' => r = bv (p a) ∧ Kept [] H' H'')) :
    MFun Try.prog row src 74 [x, .fn g caps] H (fun r H' => r = iv (idxI p l) ∧ Kept [] H H') := by
  refine mfun_intro Try.func74 rfl (by simp [Try.f74]) (by kernel_rfl) ⟨_, H, rfl, kept_refl _ _⟩ ?_
  intro E hP hr hs hN
  have hlen := hx.len
  rw [encL_len] at hlen
  simp -dsimp -implicitDefEqProofs [-getElem?_pos, go_sem, hP, hlen]
  obtain ⟨I, hI⟩ : ∃ I : Nat → St → Prop, I = fun m s => ∃ k : Nat, k ≤ l.length ∧ m = l.length - k ∧ idxI p l = idxFrom p k (l.drop k) ∧ s.t 0 = x ∧ s.t 1 = .fn g caps ∧ s.t 7 = iv l.length ∧ s.t 8 = iv k ∧ Kept [] H s.H := ⟨_, rfl⟩
  refine aloop0 I l.length (by rw [hN]; rfl) ?_ ?_
  · rw [hI]
    exact ⟨0, by omega, by omega, by simp [idxI], by simp -dsimp -implicitDefEqProofs [-getElem?_pos, go_sem], by simp -dsimp -implicitDefEqProofs [-getElem?_pos, go_sem], by simp -dsimp -implicitDefEqProofs [-getElem?_pos, go_sem], by simp -dsimp -implicitDefEqProofs [-getElem?_pos, go_sem], by simp -dsimp -implicitDefEqProofs [-getElem?_pos, go_sem]; exact kept_refl _ _⟩
  intro m s hs'
  rw [hI] at hs'
  obtain ⟨k, hk, hm, hi, t0, t1, t7, t8, hKp⟩ := hs'
  simp -dsimp -implicitDefEqProofs [-getElem?_pos, go_sem, hP, t7, t8]
  refine condP (fun h => ?_) (fun h => ?_)
  · have hk : k < l.length := by simpa using h
    obtain ⟨a, ha⟩ : ∃ a, l[k]? = some a := ⟨_, List.getElem?_eq_getElem hk⟩
    have wk := wrap_in ((k : Int) + 1) (by omega)
    obtain ⟨ad, h1, h2⟩ := (hx.kept hKp).idx (P := Try.prog) (t := 25) (e := 34) el_25 (by rw [sz_34]) kn_34 k (by rw [encL_len]; exact hk)
    have h2' : addrCells s.H ad = some (TPayment.cells a) := by
      rw [h2]
      have := encL_get TPayment.cells l k
      rw [ha, List.getElem?_eq_getElem (by rw [encL_len]; exact hk)] at this
      exact this
    have hz : (TPayment.cells a).take 5 = TPayment.cells a := List.take_of_length_le (by rw [TPayment.len]; omega)
    simp -dsimp -implicitDefEqProofs [-getElem?_pos, go_sem, hP, t8, t1, t0, h1, h2', TPayment.len, hz]
    have hd : l.drop k = a :: l.drop (k + 1) := by
      rw [List.getElem?_eq_getElem hk] at ha
      rw [List.drop_eq_getElem_cons hk, Option.some.inj ha]
    refine callB_m (by rw [hr, hs]; exact hg a (List.mem_of_getElem? ha) s.H hKp) hP hen ?_
    rintro r H' ⟨rfl, hK2⟩
    rw [hd] at hi
    simp only [idxFrom] at hi
    simp -dsimp -implicitDefEqProofs [-getElem?_pos, go_sem, hP]
    refine condP (fun hp => ?_) (fun hp => ?_)
    · rw [if_pos hp] at hi
      simp -dsimp -implicitDefEqProofs [-getElem?_pos, go_sem, hP]
      exact ⟨hi.symm, hKp.trans hK2⟩
    · rw [hp, if_neg (by simp)] at hi
      simp -dsimp -implicitDefEqProofs [-getElem?_pos, go_sem, hP, t8, wk]
      refine ⟨l.length - (k + 1), by omega, ?_⟩
      rw [hI]
      exact ⟨k + 1, by omega, rfl, hi, by simp -dsimp -implicitDefEqProofs [-getElem?_pos, go_sem, t0], by simp -dsimp -implicitDefEqProofs [-getElem?_pos, go_sem, t1], by simp -dsimp -implicitDefEqProofs [-getElem?_pos, go_sem, t7], by simp -dsimp -implicitDefEqProofs [-getElem?_pos, go_sem], by simp -dsimp -implicitDefEqProofs [-getElem?_pos, go_sem]; exact hKp.trans hK2⟩
  · have hk : k = l.length := by simp at h; omega
    subst hk
    rw [List.drop_length] at hi
    simp -dsimp -implicitDefEqProofs [-getElem?_pos, go_sem, hP]
    exact ⟨hi.symm, hKp⟩

set_option maxHeartbeats 4000000 in
theorem deleteFuncM_pay {row src : Option Nat} (l : List TPayment) (tl0 : List (List AV)) (id : Nat) (H : Heap) (g : FuncId) (caps : List AV) (p : TPayment → Bool) (hl : l.length ≤ 100000) (ho : H[id]? = some (some ⟨34, 5, encL TPayment.cells l ++ tl0⟩)) (hen : enterable Try.prog g = true)
    (hg : ∀ a, a ∈ l → ∀ H', Kept [id] H H' → MFun Try.prog row src g (.agg (TPayment.cells a) :: caps) H' (fun r H'' => r = bv (p a) ∧ Kept [] H' H'')) :
    MFun Try.prog row src 49 [.sref id 0 l.length, .fn g caps] H (fun r H' => ∃ tl, r = .sref id 0 (l.filter fun a => !p a).length ∧ H'[id]? = some (some ⟨34, 5, encL TPayment.cells (l.filter fun a => !p a) ++ tl⟩) ∧ Kept [id] H H') := by
  obtain ⟨C, hC⟩ : ∃ C : AV → Heap → Prop, C = fun r H' => ∃ tl, r = .sref id 0 (l.filter fun a => !p a).length ∧ H'[id]? = some (some ⟨34, 5, encL TPayment.cells (l.filter fun a => !p a) ++ tl⟩) ∧ Kept [id] H H' := ⟨_, rfl⟩
  rw [← hC]
  have lid := (List.getElem?_eq_some_iff.1 ho).1
  have ex : ∃ r H', C r H' := by
    rw [hC]
    exact ⟨_, H.set id (some ⟨34, 5, encL TPayment.cells (l.filter fun a => !p a) ++ []⟩), [], rfl, by simp [lid], kept_set _ (by simp) (kept_refl _ _)⟩
  obtain ⟨zs, hz⟩ := Option.isSome_iff_exists.1 (show (zeros Try.prog 34).isSome = true by kernel_rfl)
  obtain ⟨n, hn⟩ : ∃ n, n = l.length := ⟨_, rfl⟩
  refine mfun_intro Try.func49 rfl (by simp [Try.f49]) (by kernel_rfl) (ex) ?_
  intro E hP hr hs hN
  simp -dsimp -implicitDefEqProofs [-getElem?_pos, go_sem, hP]
  refine callB_m (by rw [hr, hs]; exact index_mT_pay l (.sref id 0 l.length) H g caps p (.inr (.inr ⟨id, 34, tl0, by rw [encL_len], ho⟩)) (by omega) hen (fun a ha H' hk => hg a ha H' (hk.mono (by simp)))) hP en_74 ?_
  rintro r H1 ⟨rfl, hk1⟩
  have ho1 := hk1 _ _ (by simp) ho
  have k1 : Kept [id] H H1 := hk1.mono (by simp)
  rcases idxI_spec p l with ⟨h1, h2⟩ | ⟨i, a, ha, hpa, h3, h4⟩
  · have hf : (l.filter fun a => !p a) = l := List.filter_eq_self.2 fun a ha => by simp [h2 a ha]
    simp -dsimp -implicitDefEqProofs [-getElem?_pos, go_sem, hP, h1]
    rw [hC, hf]
    exact ⟨tl0, rfl, ho1, k1⟩
  have hi1 : ¬ ((i : Int) = -1) := by omega
  have hil := (List.getElem?_eq_some_iff.1 ha).1
  have w1 := wrap_in ((i : Int) + 1) (by omega)
  have kept0 : (l.take (i + 1)).filter (fun a => !p a) = l.take i := by
    rw [List.take_add_one, ha, List.filter_append, Option.toList_some, List.filter_cons_of_neg (by simp [hpa]), List.filter_nil, List.append_nil]
    refine List.filter_eq_self.2 fun x hx => ?_
    obtain ⟨j, hj⟩ := List.getElem?_of_mem hx
    rw [List.getElem?_take] at hj
    split at hj
    · simp [h4 j x (by assumption) hj]
    · cases hj
  simp -dsimp -implicitDefEqProofs [-getElem?_pos, go_sem, hP, h3, hi1, w1]
  obtain ⟨I, hI⟩ : ∃ I : Nat → St → Prop, I = fun m s => ∃ (j q : Nat) (ks : List TPayment) (rows : List (List AV)), ks = ((l.take j).filter fun a => !p a) ∧ q = ks.length ∧ j ≤ n ∧ m = n - j ∧ q < j ∧ n ≤ rows.length ∧ (∀ i e, i < n → rows[i]? = some e → e.length = 5) ∧ rows.take q = encL TPayment.cells ks ∧ rows.drop j = encL TPayment.cells (l.drop j) ++ tl0 ∧ s.t 0 = .sref id 0 n ∧ s.t 1 = .fn g caps ∧ s.t 5 = iv q ∧ s.t 6 = iv j ∧ s.H[id]? = some (some ⟨34, 5, rows⟩) ∧ Kept [id] H s.H := ⟨_, rfl⟩
  refine aloop0 I (n - (i + 1)) (by rw [hN]; rfl) ?_ ?_
  · rw [hI]
    refine ⟨i + 1, i, l.take i, encL TPayment.cells l ++ tl0, kept0.symm, by simp; omega, by omega, by omega, by omega, by rw [List.length_append, encL_len]; omega, fun i' e hi' he => ?_, ?_, ?_, by simp -dsimp -implicitDefEqProofs [-getElem?_pos, go_sem, hn], by simp -dsimp -implicitDefEqProofs [-getElem?_pos, go_sem], by simp -dsimp -implicitDefEqProofs [-getElem?_pos, go_sem], by simp -dsimp -implicitDefEqProofs [-getElem?_pos, go_sem], by simp -dsimp -implicitDefEqProofs [-getElem?_pos, go_sem, ho1], by simp -dsimp -implicitDefEqProofs [-getElem?_pos, go_sem]; exact k1⟩
    · rw [List.getElem?_append_left (by rw [encL_len]; omega)] at he
      obtain ⟨x, _, rfl⟩ := List.mem_map.1 (List.mem_of_getElem? he)
      exact TPayment.len x
    · rw [List.take_append_of_le_length (by rw [encL_len]; omega), encL_takeE]
    · rw [List.drop_append_of_le_length (by rw [encL_len]; omega), encL_dropE]
  intro m s hs'
  rw [hI] at hs'
  obtain ⟨j, q, ks, rows, hks, hq, hjn, hm, hqj, hrl, hre, hrt, hrd, t0, t1, t5, t6, h0, hk⟩ := hs'
  have lt0 := (List.getElem?_eq_some_iff.1 h0).1
  simp -dsimp -implicitDefEqProofs [-getElem?_pos, go_sem, hP, t0, t6, h0]
  refine condP (fun hh => ?_) (fun hh => ?_)
  · have hj : j < n := by simpa using hh
    obtain ⟨x, hx⟩ : ∃ x, l[j]? = some x := ⟨_, List.getElem?_eq_getElem (by omega)⟩
    have wj := wrap_in ((j : Int) + 1) (by omega)
    have wq := wrap_in ((q : Int) + 1) (by omega)
    have hjr : j < rows.length := by omega
    have hrow : rows[j]? = some (TPayment.cells x) := by
      have := congrArg (·[0]?) hrd
      simp only [List.getElem?_drop, Nat.add_zero] at this
      rw [List.getElem?_append_left (by rw [encL_len, List.length_drop]; omega), encL_getE, List.getElem?_drop, Nat.add_zero, hx] at this
      simpa using this
    have htk : (l.take (j + 1)).filter (fun a => !p a) = if p x = true then ks else ks ++ [x] := by
      rw [List.take_add_one, hx, List.filter_append, Option.toList_some, ← hks]
      by_cases hpx : p x = true <;> simp [hpx, List.filter_cons]
    have hxl := TPayment.len x
    have hgx := hg x (List.mem_of_getElem? hx) (s.H ++ [some ⟨34, 5, [TPayment.cells x]⟩]) (hk.trans (kept_app _ _ _))
    have hd1 : rows.drop (j + 1) = encL TPayment.cells (l.drop (j + 1)) ++ tl0 := by
      have := congrArg (List.drop 1) hrd
      rw [List.drop_drop, List.drop_append_of_le_length (by rw [encL_len, List.length_drop]; omega), encL_dropE, List.drop_drop] at this
      exact this
    simp -dsimp -implicitDefEqProofs [-getElem?_pos, go_sem, hP, t0, t6, h0, hrow, hj, hjr, TPayment.cells]
    simp -dsimp -implicitDefEqProofs [-getElem?_pos, go_sem, hP, t1]
    simp only [TPayment.cells] at hgx
    refine callB_m (by rw [hr, hs]; exact hgx) hP hen ?_
    rintro r H2 ⟨rfl, hk2⟩
    have e0 := hk2 _ _ (by simp) (show (s.H ++ [some (⟨34, 5, [TPayment.cells x]⟩ : AObj)])[id]? = some (some ⟨34, 5, rows⟩) by rw [List.getElem?_append_left lt0]; exact h0)
    have ex0 := hk2 _ _ (by simp) (show (s.H ++ [some (⟨34, 5, [TPayment.cells x]⟩ : AObj)])[s.H.length]? = some (some ⟨34, 5, [TPayment.cells x]⟩) by simp)
    simp only [TPayment.cells] at ex0
    have lt2 := (List.getElem?_eq_some_iff.1 e0).1
    have ltx := (List.getElem?_eq_some_iff.1 ex0).1
    have kk2 : Kept [id] H H2 := (hk.trans (kept_app _ _ _)).trans (hk2.mono (by simp))
    simp -dsimp -implicitDefEqProofs [-getElem?_pos, go_sem, hP]
    refine condP (fun hp => ?_) (fun hp => ?_)
    · rw [if_pos hp] at htk
      simp -dsimp -implicitDefEqProofs [-getElem?_pos, go_sem, hP, t6, wj]
      refine ⟨n - (j + 1), by omega, ?_⟩
      rw [hI]
      exact ⟨j + 1, q, ks, rows, htk.symm, hq, by omega, rfl, by omega, hrl, hre, hrt, hd1, by simp -dsimp -implicitDefEqProofs [-getElem?_pos, go_sem, t0], by simp -dsimp -implicitDefEqProofs [-getElem?_pos, go_sem, t1], by simp -dsimp -implicitDefEqProofs [-getElem?_pos, go_sem, t5], by simp -dsimp -implicitDefEqProofs [-getElem?_pos, go_sem], by simp -dsimp -implicitDefEqProofs [-getElem?_pos, go_sem, e0, lt2], by simp -dsimp -implicitDefEqProofs [-getElem?_pos, go_sem]; exact kk2⟩
    · rw [if_neg (by simp [hp])] at htk
      obtain ⟨r0, hr0⟩ : ∃ r0, rows[q]? = some r0 := ⟨_, List.getElem?_eq_getElem (by omega)⟩
      have hr0l := hre q r0 (by omega) hr0
      have hr0d : r0.drop 5 = [] := List.drop_of_length_le (by omega)
      have hqn : q < n := by omega
      have hqr : q < rows.length := by omega
      simp -dsimp -implicitDefEqProofs [-getElem?_pos, go_sem, hP, t0, t5, t6, e0, lt2, ex0, ltx, hr0, hr0l, hr0d, hqn, hqr, wj, wq]
      refine ⟨n - (j + 1), by omega, ?_⟩
      rw [hI]
      refine ⟨j + 1, q + 1, ks ++ [x], rows.set q (TPayment.cells x), htk.symm, by simp; omega, by omega, rfl, by omega, by simp; omega, fun i' e hi' he => ?_, ?_, ?_, by simp -dsimp -implicitDefEqProofs [-getElem?_pos, go_sem, t0], by simp -dsimp -implicitDefEqProofs [-getElem?_pos, go_sem, t1], by simp -dsimp -implicitDefEqProofs [-getElem?_pos, go_sem], by simp -dsimp -implicitDefEqProofs [-getElem?_pos, go_sem], by simp -dsimp -implicitDefEqProofs [-getElem?_pos, go_sem, lt2, TPayment.cells], by simp -dsimp -implicitDefEqProofs [-getElem?_pos, go_sem]; exact kept_set _ (by simp) kk2⟩
      · rw [List.getElem?_set] at he
        simp only [hqr, if_true] at he
        split at he
        · cases he
          exact hxl
        · exact hre i' e hi' he
      · rw [List.take_add_one, List.take_set_of_le (by omega), hrt, List.getElem?_set_self (by omega), ← encL_appE]
        rfl
      · rw [List.drop_set_of_lt (by omega)]
        exact hd1
  · have hj : j = n := by simp at hh; omega
    subst hj
    have hkl : ks = l.filter fun a => !p a := by rw [hks, hn, List.take_length]
    have hqn : q ≤ j := by omega
    have hqn1 : ¬ q = j := by omega
    have hqn2 : ¬ (q : Int) = j := by omega
    have hrd0 : rows.drop j = tl0 := by rw [hrd, List.drop_of_length_le (by omega)]; rfl
    have sx : ∀ (id n : Nat), (if q = 0 then some (AV.sref id 0 n) else some (AV.sref id q (n - q))) = some (.sref id q (n - q)) := fun id n => by
      split
      · rename_i h0; rw [h0, Nat.sub_zero]
      · rfl
    simp -dsimp -implicitDefEqProofs [-getElem?_pos, go_sem, hP, t0, t5, h0, asliceOp, bound, aslice, hqn, hqn1, hqn2, sx]
    refine buiB_clearE (e := 34) (es' := encL TPayment.cells ks ++ (List.replicate (j - q) zs ++ tl0)) h0 (.inl rfl) (by rw [hP]; kernel_rfl) (by rw [hP]; kernel_rfl) (by omega) (by rw [hP]; exact hz) (by omega) (by omega) ?_ ?_
    · rw [hrt, show q + (j - q) = j by omega, hrd0, List.append_assoc]
    simp -dsimp -implicitDefEqProofs [-getElem?_pos, go_sem, hP, t0, t5, lt0, asliceOp, bound, aslice, hqn, hqn1, hqn2, sx]
    rw [hC, ← hkl]
    exact ⟨List.replicate (j - q) zs ++ tl0, by rw [hq], by simp [lt0], kept_set _ (by simp) hk⟩

end Go.Proofs.Ytmpncdlhmknkoaa
