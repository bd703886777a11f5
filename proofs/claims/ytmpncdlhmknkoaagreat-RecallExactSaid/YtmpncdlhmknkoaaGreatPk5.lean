/- Several texts of this claim, joined: Acc8 Cmp PaIns Del Ins BatLib Bat2 Bat3 Bat4 Bat5. -/
import Derived.Test.YtmpncdlhmknkoaaGreatPk4
import Derived.Lib.AppendZerosOnto
import Derived.Lib.Overlaps
import Derived.Laws.Externs
set_option linter.unusedSimpArgs false
set_option linter.unusedVariables false
namespace Go.Proofs.YtmpncdlhmknkoaaGreat
open Go.PA
open Go.RowKit
theorem next_pf (a : TAccount) (day from_ to amount ref : Int) (he : a.Entries.length ≤ 100000) : PFun Tryz.prog none none 62 [.agg a.cells, iv day, iv from_, iv to, iv amount, iv ref] (· = .agg (nextE a day from_ to amount ref).cells) := by
 refine pfun_intro Tryz.func62 rfl (by simp [Tryz.f62]) (by kernel_rfl) ?_
 intro E hP hr hs hW hN
 by_cases h0 : a.Entries.length = 0
 ·have d0 : decide (0 < a.Entries.length) = false := decide_eq_false (by omega)
  have : nextE a day from_ to amount ref = ⟨1, day, from_, to, amount, ref⟩ := by rw [nextE, lastE_nil h0]; rfl
  simp -dsimp -implicitDefEqProofs [-getElem?_pos, go_sem, hP, cA, d0]
  refine done_imm (imm_ent ⟨1, day, from_, to, amount, ref⟩) ?_
  rw [this]
  rfl
 ·obtain ⟨k, hk⟩ : ∃ k, a.Entries.length = k + 1 := ⟨a.Entries.length - 1, by omega⟩
  obtain ⟨e, hee⟩ : ∃ e, a.Entries[k]? = some e := ⟨_, List.getElem?_eq_getElem (by omega)⟩
  have d0 : decide ((0 : Int) < (k : Int) + 1) = true := decide_eq_true (by omega)
  have wk := wrap_in ((k : Int) + 1 - 1) (by omega)
  rw [Int.add_sub_cancel] at wk
  have : nextE a day from_ to amount ref = ⟨IntKind.i64.wrap (e.Number + 1), day, from_, to, amount, ref⟩ := by rw [nextE, lastE_get hk hee]
  simp -dsimp -implicitDefEqProofs [-getElem?_pos, go_sem, hP, cA, hk, d0, Int.add_sub_cancel, wk, hee, cE]
  refine done_imm (imm_ent ⟨IntKind.i64.wrap (e.Number + 1), day, from_, to, amount, ref⟩) ?_
  rw [this]
  rfl
theorem isidB_m {row src : Option Nat} (a : TSub) (H : Heap) (b : Nat) (id : Int) (hb : H[b]? = some (some ⟨3, 1, [[iv id]]⟩)) :
  MFun Tryz.prog row src 140 [.agg a.cells, .ref b 0 0] H (fun r H' => r = bv (decide (a.ID = id)) ∧ Kept [] H H') := by
 refine mfun_intro Tryz.func140 rfl (by simp [Tryz.f140]) (by kernel_rfl) (⟨_, H, rfl, kept_refl _ _⟩) ?_
 intro E hP hr hs hN
 have hlt := (gsI hb)
 simp -dsimp -implicitDefEqProofs [-getElem?_pos, go_sem, hP, TSub.cells, hb, hlt]
 exact kept_push _ (kept_refl _ _)
theorem balance_pf (a : TAccount) (id : Int) (hl : a.Subs.length ≤ 100000) (he : a.Entries.length ≤ 100000) : PFun Tryz.prog none none 70 [.agg a.cells, iv id] (· = .tup [iv (balanceA a id).1, bv (balanceA a id).2]) := by
 refine pfun_intro Tryz.func70 rfl (by simp [Tryz.f70]) (by kernel_rfl) ?_
 intro E hP hr hs hW hN
 have ck := check_pf a hl he
 rw [cA] at ck
 have ia : Imm (.agg [iv a.Credit, subsL a.Subs, entsL a.Entries]) := imm_acc a
 simp -dsimp -implicitDefEqProofs [-getElem?_pos, go_sem, hP, cA]
 refine callB_m (by rw [hr, hs]; exact index_m_sub a.Subs (subsL a.Subs) _ 140 [.ref 1 0 0] (fun s => decide (s.ID = id)) (.inl rfl) (by omega) en_140 (fun a _ H' hk => isidB_m a H' 1 id (hk _ _ (by simp) (by simp)))) hP en_139 ?_
 rintro r H1 ⟨rfl, hk⟩
 have ob := hk 0 ⟨28, 3, [[iv a.Credit, subsL a.Subs, entsL a.Entries]]⟩ (by simp) (by simp)
 have lb := (gsI ob)
 rcases find_place (l := a.Subs) (id := id) with ⟨h1, h2⟩ | ⟨i, s, h1, h2, h3⟩
 ·have : balanceA a id = (0, false) := by
   rw [balanceA, h2]
   split <;> rfl
  have h1 : idxI (fun s : TSub => decide (s.ID = id)) a.Subs = -1 := h1
  simp -dsimp -implicitDefEqProofs [-getElem?_pos, go_sem, hP, h1]
  refine done_imm (imm_pair .sc .sc) ?_
  rw [this]
 ·have h1 : idxI (fun s : TSub => decide (s.ID = id)) a.Subs = (i : Int) := h1
  have hi := (gsI h2)
  have d1 : decide ((i : Int) < 0) = false := decide_eq_false (by omega)
  simp -dsimp -implicitDefEqProofs [-getElem?_pos, go_sem, hP, h1, d1, ob, lb]
  refine callB_is (ck.lift _ _) hP en_52 (by simp [ia]) .sc ?_
  by_cases c1 : checkA a = 0
  ·have : balanceA a id = (s.Balance, true) := by rw [balanceA, if_pos c1, h3]
   simp -dsimp -implicitDefEqProofs [-getElem?_pos, go_sem, hP, h1, d1, c1, h2, TSub.cells, ob, lb]
   refine done_imm (imm_pair .sc .sc) ?_
   rw [this]
  ·have : balanceA a id = (0, false) := by rw [balanceA, if_neg c1]
   simp -dsimp -implicitDefEqProofs [-getElem?_pos, go_sem, hP, h1, d1, c1]
   refine done_imm (imm_pair .sc .sc) ?_
   rw [this]
theorem agree_live {D : Nat → Bool} {X : List Nat} {H H' : Heap} (hk : Kept X H H') (hD : ∀ i, D i = true → i ∉ X ∧ ∃ o, H[i]? = some (some o)) : Agree D H H' := fun i hi => by
 obtain ⟨h1, o, ho⟩ := hD i hi
 rw [ho, hk i o h1 ho]
set_option maxHeartbeats 1000000 in
theorem post_pf (a : TAccount) (e : TEntry) (hl : a.Subs.length ≤ 100000) (he : a.Entries.length ≤ 100000) : PFun Tryz.prog none none 61 [.agg a.cells, .agg e.cells] (· = .tup [.agg (postA a e).1.cells, iv (postA a e).2]) := by
 refine pfun_intro Tryz.func61 rfl (by simp [Tryz.f61]) (by kernel_rfl) ?_
 intro E hP hr hs hW hN
 have ck := check_pf a hl he
 rw [cA] at ck
 have ia : Imm (.agg [iv a.Credit, subsL a.Subs, entsL a.Entries]) := imm_acc a
 have ie : Imm (.agg [iv e.Number, iv e.Day, iv e.From, iv e.To, iv e.Amount, iv e.Ref]) := imm_ent e
 simp -dsimp -implicitDefEqProofs [-getElem?_pos, go_sem, hP, cA, cE]
 refine callB_is (ck.lift _ _) hP en_52 (by simp [ia]) .sc ?_
 by_cases c1 : checkA a = 0
 rotate_left
 ·have : postA a e = (zeroA, checkA a) := by rw [postA, if_neg c1]
  simp -dsimp -implicitDefEqProofs [-getElem?_pos, go_sem, hP, c1]
  refine done_zeroA ?_
  rw [this]
 obtain ⟨k1, k2, k3, k4, k5⟩ := check_ok c1
 by_cases c2 : a.Entries.length = 400
 ·have : postA a e = (zeroA, 3) := by rw [postA, if_pos c1, if_pos c2]
  simp -dsimp -implicitDefEqProofs [-getElem?_pos, go_sem, hP, c1, c2]
  refine done_zeroA ?_
  rw [this]
 have d2 : decide ((a.Entries.length : Int) = 400) = false := decide_eq_false (by omega)
 obtain ⟨hnd, hz0, hhd⟩ := numB_facts k4
 obtain ⟨q1, q2, q3, q4⟩ := check_keeps c1
 have hne : a.Subs ≠ [] := fun h => by rw [h] at hhd; simp [ids] at hhd
 have hx : replayW a (fun _ => true) = some ((lastE a).Number, (lastE a).Day, a.Subs) := by rw [replayW, takeWhile_true]; exact k5
 have rp := fun (H : Heap) => replay_m (row := none) (src := none) a H 108 [] (fun _ => true) hl he hne k3 hnd hz0 en_108 (fun e _ H' _ => all_m e H')
 rw [cA] at rp
 simp -dsimp -implicitDefEqProofs [-getElem?_pos, go_sem, hP, c1, d2]
 refine callB_m (by rw [hr, hs]; exact rp _) hP en_107 ?_
 rintro r H1 ⟨p, q, rfl, hp, hq, ht, hk⟩
 have hp : 3 ≤ p := hp
 have hq : 3 ≤ q := hq
 have t := ht _ hx
 have ob0 := hk 0 ⟨28, 3, [[iv a.Credit, subsL a.Subs, entsL a.Entries]]⟩ (by simp) (by simp)
 have ob1 := hk 1 ⟨48, 6, [[iv e.Number, iv e.Day, iv e.From, iv e.To, iv e.Amount, iv e.Ref]]⟩ (by simp) (by simp)
 have ob2 := hk 2 ⟨28, 3, [[iv 0, .nil, .nil]]⟩ (by simp) (by simp)
 have l0 := (gsI ob0)
 have l1 := (gsI ob1)
 have l2 := (gsI ob2)
 have tp := tpost_m (row := none) (src := none) t hl k3 hnd hz0 q1 (by dsimp only; omega) e
 rw [cE] at tp
 simp -dsimp -implicitDefEqProofs [-getElem?_pos, go_sem, hP, hx, ob1, l1]
 refine callB_m (by rw [hr, hs]; exact tp) hP en_128 ?_
 rintro r H2 ⟨rfl, ht2, hk2⟩
 have np : ∀ i, i < 3 → i ∉ [p, q] := fun i hi => by simp; omega
 have b0 := hk2 _ _ (np 0 (by omega)) ob0
 have b1 := hk2 _ _ (np 1 (by omega)) ob1
 have b2 := hk2 _ _ (np 2 (by omega)) ob2
 have m0 := (gsI b0)
 have m1 := (gsI b1)
 have m2 := (gsI b2)
 by_cases c3 : (postS a.Credit (lastE a).Number (lastE a).Day a.Subs e).1 = 0
 rotate_left
 ·have pA : postA a e = (zeroA, (postS a.Credit (lastE a).Number (lastE a).Day a.Subs e).1) := by rw [postA, if_pos c1, if_neg c2, if_neg c3]
  simp -dsimp -implicitDefEqProofs [-getElem?_pos, go_sem, hP, c3, b2, m2]
  refine done_zeroA ?_
  rw [pA]
 have pA : postA a e = (⟨a.Credit, (postS a.Credit (lastE a).Number (lastE a).Day a.Subs e).2, a.Entries ++ [e]⟩, 0) := by rw [postA, if_pos c1, if_neg c2, if_pos c3]
 have u := ht2 c3
 have u1 := u.obj
 have u2 := u.ltp
 have u3 := u.subs
 simp -dsimp -implicitDefEqProofs [-getElem?_pos, go_sem, hP, c3]
 refine adrawB (fun i => decide (i < 2) || decide (i = p)) [13] hP (by kernel_rfl) (by kernel_rfl) ?_
 simp -dsimp -implicitDefEqProofs [-getElem?_pos, go_sem, hP, b0, m0, u1, u2]
 refine callB_m (by rw [hr, hs]; exact clone_m_entry a.Entries H2 (by omega)) hP en_129 ?_
 rintro r H3 ⟨id, rfl, hid, ho3, hk3⟩
 have e1 := hk3 _ _ (by simp) b1
 have e2 := hk3 _ _ (by simp) b2
 have n1 := (gsI e1)
 have n2 := (gsI e2)
 have n3 := (gsI ho3)
 have u' := u.kept hk3 (by simp) (by simp)
 have e3 := u'.subs
 have n4 := u'.ltq
 have ne2 : ¬ id = 2 := by omega
 have neq : ¬ id = q := by have := u.ltq; omega
 simp -dsimp -implicitDefEqProofs [-getElem?_pos, go_sem, hP, e1, n1, ho3, n3, e2, n2, ne2]
 have en : encL TEntry.cells a.Entries ++ [[iv e.Number, iv e.Day, iv e.From, iv e.To, iv e.Amount, iv e.Ref]] = encL TEntry.cells (a.Entries ++ [e]) := encL_snoc TEntry.cells a.Entries e
 have D : ∀ i, (decide (i < 2) || decide (i = p)) = true → i < H2.length ∧ i ≠ id := fun i hi => by
  simp only [Bool.or_eq_true, decide_eq_true_eq] at hi
  omega
 refine ⟨agree_live hk3 fun i hi => ⟨by simp, ?_⟩, by omega, by omega, fun i hi => ?_, ?_⟩
 ·simp only [Bool.or_eq_true, decide_eq_true_eq] at hi
  rcases hi with hi | rfl
  ·rcases i with _ | _ | i
   ·exact ⟨_, b0⟩
   ·exact ⟨_, b1⟩
   ·omega
  ·exact ⟨_, u1⟩
 ·obtain ⟨h1, h2⟩ := D i hi
  have := (gsI ho3)
  rw [List.getElem?_append_left (by simp; omega), List.getElem?_set_ne (Ne.symm h2)]
 refine done_agg2 (cs' := [iv a.Credit, subsL (postS a.Credit (lastE a).Number (lastE a).Day a.Subs e).2, entsL (a.Entries ++ [e])]) (cw_sc (cw_sref (ty := 98) ?_ (by rw [encL_len]) (imm_subs _) (cw_sref (ty := 48) ?_ (by simp [encL]) (imm_ents _) .nil))) ?_
 ·rw [List.getElem?_append_left (by simp; omega), List.getElem?_set_ne (by omega), List.getElem?_set_ne neq]
  exact e3
 ·rw [List.getElem?_append_right (by simp)]
  simp [en]
 ·rw [pA]
  rfl
open Go.PA
open Go.RowKit
theorem isNaN_pf (x : Int) : PFun Tryz.prog none none 163 [iv x] (· = bv false) := by
 refine pfun_intro Tryz.func163 rfl (by simp [Tryz.f163]) (by kernel_rfl) ?_
 intro E hP hr hs hW hN
 simp [go_sem, hP]
def cmpI (x y : Int) : Int := if x < y then -1 else if y < x then 1 else 0
theorem compare_pf (x y : Int) : PFun Tryz.prog none none 121 [iv x, iv y] (· = iv (cmpI x y)) := by
 refine pfun_intro Tryz.func121 rfl (by simp [Tryz.f121]) (by kernel_rfl) ?_
 intro E hP hr hs hW hN
 simp [go_sem, hP]
 refine callB_pure (isNaN_pf x) hP en_163 (args_same (by simp [go_sem])) .sc ?_
 simp [go_sem, hP]
 refine callB_pure (isNaN_pf y) hP en_163 (args_same (by simp [go_sem])) .sc ?_
 simp [go_sem, hP]
 refine condP (fun h => ?_) (fun h => ?_)
 ·have h : x < y := by simpa using h
  simp [go_sem, hP, cmpI, h]
 ·have h : ¬ x < y := by simpa using h
  simp [go_sem, hP]
  refine condP (fun h' => ?_) (fun h' => ?_)
  ·have h' : y < x := by simpa using h'
   simp [go_sem, hP, cmpI, h, h']
  ·have h' : ¬ y < x := by simpa using h'
   simp [go_sem, hP, cmpI, h, h']
def orI : List Int → Int
 | [] => 0
 | x :: l => if x = 0 then orI l else x
theorem orI_drop (l : List Int) (k : Nat) (h : k < l.length) : orI (l.drop k) = if l[k] = 0 then orI (l.drop (k + 1)) else l[k] := by
 rw [List.drop_eq_getElem_cons h]; rfl
theorem or_pf (l : List Int) (hl : l.length ≤ 1000) : PFun Tryz.prog none none 179 [intsL l] (· = iv (orI l)) := by
 refine pfun_intro Tryz.func179 rfl (by simp [Tryz.f179]) (by kernel_rfl) ?_
 intro E hP hr hs hW hN
 simp [go_sem, hP, intsL]
 refine aloop0 (fun m s => ∃ k : Nat, k ≤ l.length ∧ m = l.length - k ∧ orI l = orI (l.drop k) ∧ s.t 3 = iv 0 ∧ s.t 6 = intsL l ∧ s.t 7 = iv l.length ∧ s.t 8 = iv k) l.length (by rw [hN]; rfl) ?_ ?_
 ·exact ⟨0, by omega, by omega, by simp, by simp [go_sem], by simp [go_sem, intsL], by simp [go_sem], by simp [go_sem]⟩
 rintro m s ⟨k, hk, hm, ho, t3, t6, t7, t8⟩
 simp [go_sem, hP, t7, t8]
 refine condP (fun h => ?_) (fun h => ?_)
 ·have hk : k < l.length := by simpa using h
  rw [orI_drop l k hk] at ho
  have w := wrap_in ((k : Int) + 1) (by omega)
  simp [go_sem, hP, t3, t6, t7, t8, intsL, hk]
  by_cases h0 : l[k] = 0
  ·simp [go_sem, hP, h0, t8, w]
   rw [if_pos h0] at ho
   exact ⟨l.length - (k + 1), by omega, k + 1, by omega, rfl, ho, t3, t6, t7, rfl⟩
  ·simp [go_sem, hP, h0]
   rw [if_neg h0] at ho
   exact ho.symm
 ·have hk : l.length ≤ k := by simpa using h
  simp [go_sem, hP, t3]
  rw [ho, List.drop_eq_nil_of_le hk]
  rfl
end Go.Proofs.YtmpncdlhmknkoaaGreat
namespace Go.PA
open Go.RowKit
section
variable {E : Env} {w : World} {ρ : Places} {H : Heap} {ok : Nat → Prop}
theorem patch_get {α : Type} (es news : List α) (p i : Nat) (hp : p ≤ es.length) :
  (es.take p ++ news ++ es.drop (p + news.length))[i]? = if i < p then es[i]? else if i < p + news.length then news[i - p]? else es[i]? := by
 have h1 : (es.take p).length = p := by simp; omega
 split
 ·rw [List.append_assoc, List.getElem?_append_left (by omega), List.getElem?_take, if_pos (by assumption)]
 ·split
  ·rw [List.append_assoc, List.getElem?_append_right (by omega), List.getElem?_append_left (by omega), h1]
  ·rw [List.getElem?_append_right (by simp; omega), List.getElem?_drop]
   congr 1
   simp
   omega
theorem patch_sound (g : Good E w ρ H ok) {id b cap p : Nat} {o : AObj} (ho : H[id]? = some (some o)) (hρ : ρ id = some (b, cap)) (hcap : cap ≤ maxLen) (hp : p ≤ o.es.length) (news : List (List AV)) (hm : p + news.length ≤ cap)
  (hk : ∀ e, e ∈ news → e.length = o.k) (xs : List Value) (hxl : xs.length = news.length * o.k) (h1 : ∀ v ∈ xs, v.oneCell' = true)
  (hx : ∀ (i : Nat) (e : List AV) (j : Nat) (a : AV), news[i]? = some e → e[j]? = some a → ∃ c, xs[i * o.k + j]? = some c ∧ Rep w ρ H ok c a) :
  ∃ w', (storeCells ⟨b, p * o.k, none⟩ xs).run E.P w = .ok () w' ∧ Good E w' ρ (H.set id (some { o with es := o.es.take p ++ news ++ o.es.drop (p + news.length) })) ok ∧ Ext w ρ H ok w' ρ (H.set id (some { o with es := o.es.take p ++ news ++ o.es.drop (p + news.length) })) ok := by
 have hobj := g.obj id o ho
 rw [hρ] at hobj
 obtain ⟨cur, hb, hs, hl, hmx, hcell⟩ := hobj.cells hcap
 have hle : p * o.k + news.length * o.k ≤ cur.size := by
  rw [hs, ← Nat.add_mul]
  exact Nat.mul_le_mul_right _ hm
 have hst := run_storeCells_at E.P b (p * o.k) o.ty xs 0 cur w hb (by rw [hxl]; omega) h1
 simp only [Nat.add_zero] at hst
 generalize hnew : (cur.toList.take (p * o.k) ++ xs ++ cur.toList.drop (p * o.k + xs.length)).toArray = new at hst
 have hnewget : ∀ q, new[q]? = if q < p * o.k then cur[q]? else if q < p * o.k + news.length * o.k then xs[q - p * o.k]? else cur[q]? := fun q => by
  subst hnew
  have := splice_get cur.toList xs (p * o.k) q (by simp [hxl]; omega)
  rw [hxl] at this
  simpa [hxl] using this
 have hnewsize : new.size = cur.size := by
  subst hnew
  simp only [List.size_toArray, List.length_append, List.length_take, List.length_drop, Array.length_toList]
  rw [hxl]
  omega
 have hlen' : ∀ e ∈ o.es.take p ++ news ++ o.es.drop (p + news.length), e.length = o.k := fun e he => by
  rcases List.mem_append.1 he with he | he
  ·rcases List.mem_append.1 he with he | he
   ·exact g.len id o ho e (List.mem_of_mem_take he)
   ·exact hk e he
  ·exact g.len id o ho e (List.mem_of_mem_drop he)
 obtain ⟨g', x'⟩ := g.change (w' := w.setRow b new) ho hρ { o with es := o.es.take p ++ news ++ o.es.drop (p + news.length) } rfl (by simp; omega) hlen' rfl rfl rfl setRow_size (fun b' hb' => setRow_other hb') fun hxx => .inl ⟨new, setRow_block hb, hnewsize.trans hs, by simp; omega, hmx, fun i e j a hi hj => by
  simp only at hi
  have hjk : j < o.k := by
   have := hlen' e (List.mem_of_getElem? hi)
   have := (gsI hj)
   omega
  rw [patch_get _ _ _ _ hp] at hi
  simp only
  rw [hnewget]
  split at hi
  ·rename_i hip
   have : i * o.k + o.k ≤ p * o.k := by rw [← Nat.succ_mul]; exact Nat.mul_le_mul_right _ hip
   rw [if_pos (by omega)]
   obtain ⟨c, c1, c2, c3⟩ := hcell i e j a hi hj
   exact ⟨c, c1, c2, c3.ext hxx⟩
  ·split at hi
   ·rename_i hge hlt
    have h3 : p * o.k ≤ i * o.k := Nat.mul_le_mul_right _ (by omega)
    have h4 : i * o.k + o.k ≤ p * o.k + news.length * o.k := by rw [← Nat.succ_mul, ← Nat.add_mul]; exact Nat.mul_le_mul_right _ hlt
    rw [if_neg (by omega), if_pos (by omega)]
    obtain ⟨c, c1, c3⟩ := hx (i - p) e j a hi hj
    have e5 : i * o.k + j - p * o.k = (i - p) * o.k + j := by rw [Nat.sub_mul]; omega
    rw [e5]
    exact ⟨c, c1, h1 c (List.mem_of_getElem? c1), c3.ext hxx⟩
   ·rename_i hge hge2
    have h4 : p * o.k + news.length * o.k ≤ i * o.k := by rw [← Nat.add_mul]; exact Nat.mul_le_mul_right _ (by omega)
    rw [if_neg (by omega), if_neg (by omega)]
    obtain ⟨c, c1, c2, c3⟩ := hcell i e j a hi hj
    exact ⟨c, c1, c2, c3.ext hxx⟩⟩
 exact ⟨_, hst, g', x'⟩
theorem src_flat (g : Good E w ρ H ok) {P : Program} {e : TypeId} {v : Value} {x : AV} {es : List (List AV)} (r : Rep w ρ H ok v x) (h : srcEs P e H x = some es) (hne : es ≠ []) (hk : 0 < szOf P e) :
  ∃ (ad : Addr) (c : Nat) (xs : List Value), v = .slice (some ad) es.length c ∧ (∀ (e' : List AV), e' ∈ es → e'.length = szOf P e) ∧ xs.length = es.length * szOf P e ∧ (∀ (j : Nat) (u : Value), xs[j]? = some u → w.cell? (ad.add j) = some u) ∧ (∀ u ∈ xs, u.oneCell' = true) ∧
   ∀ (i : Nat) (e' : List AV) (j : Nat) (a : AV), es[i]? = some e' → e'[j]? = some a → ∃ c, xs[i * szOf P e + j]? = some c ∧ Rep w ρ H ok c a := by
 obtain ⟨A, c, f, hv, hlen, hc⟩ := src_sound g r h
 obtain ⟨ad, rfl, hcc⟩ := hc hne
 have hdm : ∀ p, p < es.length * szOf P e → p / szOf P e < es.length ∧ p % szOf P e < szOf P e := fun p hp => ⟨Nat.div_lt_of_lt_mul (by rw [Nat.mul_comm]; exact hp), Nat.mod_lt _ hk⟩
 have heq : ∀ p, p / szOf P e * szOf P e + p % szOf P e = p := fun p => Nat.div_add_mod' p _
 have get : ∀ i j, i < es.length → j < szOf P e → ∃ e' a, es[i]? = some e' ∧ e'[j]? = some a := fun i j hi hj => by
  have := hlen _ (List.getElem_mem hi)
  exact ⟨_, _, List.getElem?_eq_getElem hi, List.getElem?_eq_getElem (by omega)⟩
 refine ⟨ad, c, (List.range (es.length * szOf P e)).map fun p => f (p / szOf P e) (p % szOf P e), hv, hlen, by simp, fun p u hp => ?_, fun u hu => ?_, fun i e' j a hi hj => ?_⟩
 ·rw [List.getElem?_map, Option.map_eq_some_iff] at hp
  obtain ⟨q, hq, rfl⟩ := hp
  obtain ⟨hlt, rfl⟩ := List.getElem?_eq_some_iff.1 hq
  simp only [List.length_range, List.getElem_range] at hlt ⊢
  obtain ⟨e', a, h1, h2⟩ := get _ _ (hdm p hlt).1 (hdm p hlt).2
  have := (hcc _ _ _ _ h1 h2).1
  rwa [heq] at this
 ·obtain ⟨p, hp, rfl⟩ := List.mem_map.1 hu
  have hlt := List.mem_range.1 hp
  obtain ⟨e', a, h1, h2⟩ := get _ _ (hdm p hlt).1 (hdm p hlt).2
  exact (hcc _ _ _ _ h1 h2).2.1
 ·have hil := (gsI hi)
  have hjl : j < szOf P e := by rw [← hlen e' (List.mem_of_getElem? hi)]; exact (gsI hj)
  have hlt : i * szOf P e + j < es.length * szOf P e := by
   have : i * szOf P e + szOf P e ≤ es.length * szOf P e := by rw [← Nat.succ_mul]; exact Nat.mul_le_mul_right _ hil
   omega
  refine ⟨f i j, ?_, (hcc i e' j a hi hj).2.2⟩
  simp [hlt, (divmod (i := i) hjl).1, (divmod (i := i) hjl).2]
theorem dst_rep (g : Good E w ρ H ok) {v : Value} {x : AV} {id lo dn : Nat} {o : AObj} (hx : x = .sref id lo dn ∨ ∃ N, x = .full id lo dn N) (ho : H[id]? = some (some o)) (hpos : 0 < dn) (r : Rep w ρ H ok v x) :
  ∃ b cap c, v = .slice (some ⟨b, lo * o.k, none⟩) dn c ∧ ρ id = some (b, cap) ∧ lo + dn ≤ cap ∧ cap ≤ maxLen := by
 rcases hx with rfl | ⟨N, rfl⟩
 ·cases r with
  | srefDead hd _ => rw [ho] at hd; cases hd
  | srefNil ho' hρ => omega
  | @sref _ _ _ c o' b cap ho' hρ hn hc hnc hcap =>
   rw [ho] at ho'
   simp only [Option.some.injEq] at ho'
   subst ho'
   have hobj := g.obj id o ho
   rw [hρ] at hobj
   obtain ⟨_, _, _, hl, _, _⟩ := hobj.cells hcap
   exact ⟨b, cap, c, rfl, hρ, by omega, hcap⟩
 ·cases r with
  | fullDead hd _ => rw [ho] at hd; cases hd
  | @full _ _ _ _ o' b ho' hρ hn hN =>
   rw [ho] at ho'
   simp only [Option.some.injEq] at ho'
   subst ho'
   exact ⟨b, N, _, rfl, hρ, hn, hN⟩
theorem size2 {α : Type} {vs : Array α} (h : vs.size = 2) : ∃ a b, vs = #[a, b] := by
 obtain ⟨l⟩ := vs
 match l, h with
 | [a, b], _ => exact ⟨a, b, rfl⟩
theorem size1 {α : Type} {vs : Array α} (h : vs.size = 1) : ∃ a, vs = #[a] := by
 obtain ⟨l⟩ := vs
 match l, h with
 | [a], _ => exact ⟨a, rfl⟩
theorem buiB_copy {t t' e : TypeId} {x y : AV} {id lo dn : Nat} {o : AObj} {news : List (List AV)} {C : AV → Heap → Prop} {b : Bx C} (hx : x = .sref id lo dn ∨ ∃ N, x = .full id lo dn N) (ho : H[id]? = some (some o)) (he : elemOf E.P t = some e)
  (hk : o.k = szOf E.P e) (hk0 : 0 < o.k) (hkn : knownT E.P e = true) (hs : srcEs E.P e H y = some news) (hl : news.length ≤ dn) (hpos : 0 < news.length) (hp : lo ≤ o.es.length)
  (hC : C (.sc (goInt news.length)) (H.set id (some { o with es := o.es.take lo ++ news ++ o.es.drop (lo + news.length) }))) : BuiB E .copy #[t, t'] [x, y] H C b := by
 refine ⟨⟨_, _, hC⟩, fun w ρ ok ty vs g hsz hr => ?_⟩
 obtain ⟨vx, vy, rfl⟩ := size2 hsz
 have rx := hr 0 vx x rfl rfl
 have ry := hr 1 vy y rfl rfl
 obtain ⟨b', cap, c, rfl, hρ, hcap, hmx⟩ := dst_rep g hx ho (by omega) rx
 obtain ⟨ad, c', xs, rfl, hlen, hxl, hcell, h1, hrep⟩ := src_flat g ry hs (by intro e0; simp [e0] at hpos) (by omega)
 obtain ⟨w', hst, g', x'⟩ := patch_sound g ho hρ hmx hp news (by omega) (by rw [hk]; exact hlen) xs (by rw [hk]; exact hxl) h1 (by rw [hk]; exact hrep)
 refine ⟨.int .i64 news.length, w', _, _, ρ, ok, ?_, hC, g', x', .sc⟩
 have hmin : Nat.min news.length dn = news.length := Nat.min_eq_left hl
 have hld := run_firstCells_some (P := E.P) w (szOf E.P e) news.length ad news.length c' xs hxl hcell
 simp [buiRun, Builtin.copy_, run_underlying (elemOf_sound he), Builtin.lenOf, run_sizeOf' hkn, hmin, hld, hst, goInt]
theorem buiB_copy_short {t t' e : TypeId} {x : AV} {id lo dn id2 lo2 m2 N2 : Nat} {o : AObj} {news : List (List AV)} {C : AV → Heap → Prop} {b : Bx C} (hx : x = .sref id lo dn ∨ ∃ N, x = .full id lo dn N) (ho : H[id]? = some (some o)) (he : elemOf E.P t = some e)
  (hk : o.k = szOf E.P e) (hk0 : 0 < o.k) (hkn : knownT E.P e = true) (hs : srcEs E.P e H (.full id2 lo2 dn N2) = some news) (hnl : news.length = dn) (hm2 : dn ≤ m2) (hpos : 0 < news.length) (hp : lo ≤ o.es.length)
  (hC : C (.sc (goInt news.length)) (H.set id (some { o with es := o.es.take lo ++ news ++ o.es.drop (lo + news.length) }))) : BuiB E .copy #[t, t'] [x, .full id2 lo2 m2 N2] H C b := by
 refine ⟨⟨_, _, hC⟩, fun w ρ ok ty vs g hsz hr => ?_⟩
 obtain ⟨vx, vy, rfl⟩ := size2 hsz
 have rx := hr 0 vx x rfl rfl
 have ry := hr 1 vy _ rfl rfl
 obtain ⟨b', cap, c, rfl, hρ, hcap, hmx⟩ := dst_rep g hx ho (by omega) rx
 cases ry with
 | fullDead hd _ => simp [srcEs, hd] at hs
 | @full _ _ _ _ o2 b2 ho2 hρ2 hn2 hN2 =>
  have ry' : Rep w ρ H ok (.slice (some ⟨b2, lo2 * o2.k, none⟩) dn (N2 - lo2)) (.full id2 lo2 dn N2) := .full ho2 hρ2 (by omega) hN2
  obtain ⟨ad, c', xs, hv, hlen, hxl, hcell, h1, hrep⟩ := src_flat g ry' hs (by intro e0; simp [e0] at hpos) (by omega)
  simp only [Value.slice.injEq, Option.some.injEq] at hv
  obtain ⟨rfl, _, _⟩ := hv
  obtain ⟨w', hst, g', x'⟩ := patch_sound g ho hρ hmx hp news (by omega) (by rw [hk]; exact hlen) xs (by rw [hk]; exact hxl) h1 (by rw [hk]; exact hrep)
  refine ⟨.int .i64 news.length, w', _, _, ρ, ok, ?_, hC, g', x', .sc⟩
  have hmin : Nat.min m2 dn = news.length := by rw [hnl]; exact Nat.min_eq_right hm2
  have hld := run_firstCells_some (P := E.P) w (szOf E.P e) news.length ⟨b2, lo2 * o2.k, none⟩ m2 (N2 - lo2) xs hxl hcell
  simp [buiRun, Builtin.copy_, run_underlying (elemOf_sound he), Builtin.lenOf, run_sizeOf' hkn, hmin, hld, hst, goInt]
theorem zeroCells_get {z : Value} {k n i j : Nat} (hz : z.cells.size = k) (hi : i < n) (hj : j < k) : (Builtin.zeroCells z.cells n)[i * k + j]? = z.cells[j]? := by
 have hlt : i * k + j < n * k := by
  have : i * k + k ≤ n * k := by rw [← Nat.succ_mul]; exact Nat.mul_le_mul_right _ hi
  omega
 unfold Builtin.zeroCells
 rw [hz, Array.getElem?_map, Array.getElem?_range, if_pos hlt]
 simp only [Option.map_some, (divmod (i := i) hj).2]
 rw [getElem!_pos z.cells j (by omega), Array.getElem?_eq_getElem (by omega)]
theorem zeroCells_size {z : Value} {k n : Nat} (hz : z.cells.size = k) : (Builtin.zeroCells z.cells n).size = n * k := by simp [Builtin.zeroCells, hz]
theorem zeroCells_mem {z : Value} {k n : Nat} (hz : z.cells.size = k) (hk : 0 < k) {v : Value} (hv : v ∈ (Builtin.zeroCells z.cells n).toList) : v ∈ z.cells.toList := by
 obtain ⟨q, hq⟩ := List.getElem?_of_mem hv
 have hql : q < n * k := by have := (gsI hq); simpa [zeroCells_size (n := n) hz] using this
 have e := Nat.div_add_mod' q k
 have h1 : q / k < n := Nat.div_lt_of_lt_mul (by rw [Nat.mul_comm]; exact hql)
 have h2 : q % k < k := Nat.mod_lt _ hk
 have := zeroCells_get (n := n) hz h1 h2
 rw [e] at this
 rw [Array.getElem?_toList, this] at hq
 exact List.mem_of_getElem? (by simpa using hq)
theorem buiB_clear {t e : TypeId} {x : AV} {id lo dn : Nat} {o : AObj} {zs : List AV} {C : AV → Heap → Prop} {b : Bx C} (hx : x = .sref id lo dn ∨ ∃ N, x = .full id lo dn N) (ho : H[id]? = some (some o)) (he : elemOf E.P t = some e)
  (hk : o.k = szOf E.P e) (hk0 : 0 < o.k) (hz : zeros E.P e = some zs) (hpos : 0 < dn) (hp : lo ≤ o.es.length)
  (hC : C (.tup []) (H.set id (some { o with es := o.es.take lo ++ List.replicate dn zs ++ o.es.drop (lo + dn) }))) : BuiB E .clear #[t] [x] H C b := by
 refine ⟨⟨_, _, hC⟩, fun w ρ ok ty vs g hsz hr => ?_⟩
 obtain ⟨vx, rfl⟩ := size1 hsz
 have rx := hr 0 vx x rfl rfl
 obtain ⟨b', cap, c, rfl, hρ, hcap, hmx⟩ := dst_rep g hx ho hpos rx
 obtain ⟨i, z, hi, hzz, hzs, _, hzeq, h1⟩ := zeros_sound hz
 have hzl : zs.length = szOf E.P e := by rw [hzeq]; simpa using hzs
 obtain ⟨w', hst, g', x'⟩ := patch_sound g ho hρ hmx hp (List.replicate dn zs) (by simp; omega) (fun e' he' => by rw [List.eq_of_mem_replicate he', hk, hzl]) (Builtin.zeroCells z.cells dn).toList (by simp [zeroCells_size hzs, hk]) (fun v hv => h1 v (zeroCells_mem hzs (by omega) hv)) (fun i' e' j a hi' hj => by
  have hil : i' < dn := by have := (List.getElem?_eq_some_iff.1 hi').1; simpa using this
  rw [List.eq_of_mem_replicate (List.mem_of_getElem? hi')] at hj
  have hjl := (gsI hj)
  rw [hzeq, List.getElem?_map, Option.map_eq_some_iff] at hj
  obtain ⟨c0, hc0, rfl⟩ := hj
  refine ⟨c0, ?_, ofCell_rep c0⟩
  rw [Array.getElem?_toList, hk, zeroCells_get hzs hil (by omega)]
  simpa using hc0)
 rw [List.length_replicate] at g' x'
 refine ⟨.tuple #[], w', _, _, ρ, ok, ?_, hC, g', x', .tup rfl (by simp)⟩
 obtain ⟨dn, rfl⟩ : ∃ m, dn = m + 1 := ⟨dn - 1, by omega⟩
 simp [buiRun, Builtin.clear_, run_underlying (elemOf_sound he), run_zeroValue' hi hzz, hst]
theorem buiB_append_in {t e : TypeId} {y : AV} {id n N : Nat} {o : AObj} {news : List (List AV)} {C : AV → Heap → Prop} {b : Bx C} (ho : H[id]? = some (some o)) (he : elemOf E.P t = some e)
  (hk : o.k = szOf E.P e) (hk0 : 0 < o.k) (hkn : knownT E.P e = true) (hs : srcEs E.P e H y = some news) (hl : n + news.length ≤ N) (hpos : 0 < news.length) (hp : n ≤ o.es.length)
  (hC : C (.full id 0 (n + news.length) N) (H.set id (some { o with es := o.es.take n ++ news ++ o.es.drop (n + news.length) }))) : BuiB E .append #[t, t] [.full id 0 n N, y] H C b := by
 refine ⟨⟨_, _, hC⟩, fun w ρ ok ty vs g hsz hr => ?_⟩
 obtain ⟨vx, vy, rfl⟩ := size2 hsz
 have rx := hr 0 vx _ rfl rfl
 have ry := hr 1 vy y rfl rfl
 cases rx with
 | fullDead hd _ => rw [ho] at hd; cases hd
 | @full _ _ _ _ o' b' ho' hρ hn hN =>
  rw [ho] at ho'
  simp only [Option.some.injEq] at ho'
  subst ho'
  obtain ⟨ad, c', xs, rfl, hlen, hxl, hcell, h1, hrep⟩ := src_flat g ry hs (by intro e0; simp [e0] at hpos) (by omega)
  obtain ⟨w', hst, g', x'⟩ := patch_sound g ho hρ hN hp news (by omega) (by rw [hk]; exact hlen) xs (by rw [hk]; exact hxl) h1 (by rw [hk]; exact hrep)
  refine ⟨.slice (some ⟨b', 0 * o.k, none⟩) (n + news.length) (N - 0), w', _, _, ρ, ok, ?_, hC, g', x', ?_⟩
  ·have hld := run_firstCells_some (P := E.P) w (szOf E.P e) news.length ad news.length c' xs hxl hcell
   have hle : n + news.length ≤ N - 0 := by omega
   rw [hk] at hst
   simp [buiRun, Builtin.append_, run_underlying (elemOf_sound he), Builtin.lenOf, run_sizeOf' hkn, hl, hld, add_mk, hk, hst]
  ·exact .full (o := { o with es := o.es.take n ++ news ++ o.es.drop (n + news.length) }) (by rw [List.getElem?_set]; simp [get_lt ho]) hρ (by omega) hN
theorem good_drew (g : Good E w ρ H ok) : Good E w.drew ρ H ok ∧ Ext w ρ H ok w.drew ρ H ok :=
 g.step (w' := w.drew) (fun _ => False) rfl rfl rfl (Nat.le_refl _) (fun _ _ _ => rfl) (fun _ h => h.elim) (fun _ h => h) (fun _ h => .inl h)
theorem buiB_append_make {t tn e : TypeId} {id n N m : Nat} {o : AObj} {zs : List AV} {kq kn : IntKind} {C : AV → Heap → Prop} {b : Bx C} (ho : H[id]? = some (some o)) (he : elemOf E.P t = some e) (htn : E.P.underlying tn = some (.int kn))
  (hk : o.k = szOf E.P e) (hk0 : 0 < o.k) (hty : o.ty = e) (hz : zeros E.P e = some zs) (hp : n ≤ o.es.length) (hpos : 0 < m) (hroom : N < n + m) (h63 : n + m ≤ 9223372036854775807) (hb : (n + m) * bytesOf E.P e ≤ 140737488355328)
  (hC : C (.sref H.length 0 (n + m)) (H ++ [some ⟨e, o.k, o.es.take n ++ List.replicate m zs⟩])) : BuiB E .append #[t, tn] [.full id 0 n N, .sc (.int kq m)] H C b := by
 refine ⟨⟨_, _, hC⟩, fun w ρ ok ty vs g hsz hr => ?_⟩
 obtain ⟨vx, vy, rfl⟩ := size2 hsz
 have rx := hr 0 vx _ rfl rfl
 have ry := rep_sc (hr 1 vy _ rfl rfl)
 subst ry
 cases rx with
 | fullDead hd _ => rw [ho] at hd; cases hd
 | @full _ _ _ _ o' b' ho' hρ hn hN =>
  rw [ho] at ho'
  simp only [Option.some.injEq] at ho'
  subst ho'
  obtain ⟨i, z, hi, hzz, hzs, his, hzeq, h1⟩ := zeros_sound hz
  have hzl : zs.length = szOf E.P e := by rw [hzeq]; simpa using hzs
  have hobj := g.obj id o ho
  rw [hρ] at hobj
  obtain ⟨cur, hbk, hs, hl, hmx, hcell⟩ := hobj.cells hN
  have hcur : n * o.k ≤ cur.size := by rw [hs]; exact Nat.mul_le_mul_right _ (by omega)
  obtain ⟨g0, x0⟩ := good_drew g
  have hold : (Builtin.firstCells i.size n (.slice (some ⟨b', 0 * o.k, none⟩) n (N - 0))).run E.P w.drew = .ok (cur.toList.take (n * o.k)).toArray w.drew := by
   refine run_firstCells_some (P := E.P) w.drew i.size n ⟨b', 0 * o.k, none⟩ n (N - 0) (cur.toList.take (n * o.k)) (by simp [his, ← hk]; omega) (fun j v hj => ?_)
   rw [add_mk, Nat.zero_mul, Nat.zero_add, cell_of_row w.drew b' _ cur o.ty (0, 0) hbk]
   rw [List.getElem?_take] at hj
   split at hj
   ·simpa using hj
   ·cases hj
  have hbi : bytesOf E.P e = i.bytes := by simp [bytesOf, hi]
  rw [hbi] at hb
  have hrun := Lib.run_append_grow_zeros w t tn ty e i z kq kn (elemOf_sound he) htn hi hzz (some ⟨b', 0 * o.k, none⟩) n (N - 0) _ hold m hpos (by rw [his]; omega) (by omega) (by omega) (by
   have := Nat.mul_le_mul_right i.bytes (show m ≤ n + m by omega)
   omega) (growslice_fits (by omega) hb)
  obtain ⟨G, hG⟩ : ∃ G, G = grownCap w (n + m) (N - 0) e := ⟨_, rfl⟩
  have hG1 : n + m ≤ G := by rw [hG]; exact grownCap_ge w _ _ _
  have hG2 : G ≤ maxLen := by rw [hG]; exact grownCap_le_maxLen w _ _ _ (by unfold maxLen; omega)
  rw [← hG] at hrun
  obtain ⟨ROW, hROW⟩ : ∃ ROW, ROW = (cur.toList.take (n * o.k)).toArray ++ Builtin.zeroCells z.cells m ++ Builtin.zeroCells z.cells (G - (n + m)) := ⟨_, rfl⟩
  rw [← hROW] at hrun
  have hl1 : (cur.toList.take (n * o.k)).toArray.size = n * o.k := by simp; omega
  have hl2 : (Builtin.zeroCells z.cells m).size = m * o.k := by rw [zeroCells_size hzs, hk]
  have hRs : ROW.size = G * o.k := by
   rw [hROW, Array.size_append, Array.size_append, hl1, hl2, zeroCells_size hzs, ← hk, ← Nat.add_mul, ← Nat.add_mul]
   congr 1
   omega
  have hlen' : ∀ e' ∈ o.es.take n ++ List.replicate m zs, e'.length = o.k := fun e' he' => by
   rcases List.mem_append.1 he' with he' | he'
   ·exact g.len id o ho e' (List.mem_of_mem_take he')
   ·rw [List.eq_of_mem_replicate he', hk, hzl]
  obtain ⟨g', x'⟩ := g0.newObj ⟨e, o.k, o.es.take n ++ List.replicate m zs⟩ G ROW hRs (by simp; omega) hG2 hlen' (fun i' e' j a hi' hj => by
   simp only at hi' ⊢
   have hjk : j < o.k := by
    have := hlen' e' (List.mem_of_getElem? hi')
    have := (gsI hj)
    omega
   rw [hROW]
   rcases Nat.lt_or_ge i' n with hin | hin
   ·rw [List.getElem?_append_left (by simp; omega), List.getElem?_take, if_pos hin] at hi'
    obtain ⟨c, c1, c2, c3⟩ := hcell i' e' j a hi' hj
    have hlt : i' * o.k + j < n * o.k := by
     have : i' * o.k + o.k ≤ n * o.k := by rw [← Nat.succ_mul]; exact Nat.mul_le_mul_right _ hin
     omega
    refine ⟨c, ?_, c2, c3.ext x0⟩
    rw [Array.append_assoc, Array.getElem?_append_left (by omega)]
    simp [hlt, c1]
   ·rw [List.getElem?_append_right (by simp; omega)] at hi'
    have hil : i' - n < m := by
     have := (List.getElem?_eq_some_iff.1 hi').1
     simp at this
     omega
    rw [List.eq_of_mem_replicate (List.mem_of_getElem? hi')] at hj
    rw [hzeq, List.getElem?_map, Option.map_eq_some_iff] at hj
    obtain ⟨c0, hc0, rfl⟩ := hj
    refine ⟨c0, ?_, h1 c0 (List.mem_of_getElem? hc0), ofCell_rep c0⟩
    have h3 : n * o.k ≤ i' * o.k := Nat.mul_le_mul_right _ hin
    have h4 : (i' - n) * o.k + o.k ≤ m * o.k := by rw [← Nat.succ_mul]; exact Nat.mul_le_mul_right _ hil
    have h5 : i' * o.k + j - n * o.k = (i' - n) * o.k + j := by rw [Nat.sub_mul]; omega
    rw [Array.append_assoc, Array.getElem?_append_right (by omega), hl1, Array.getElem?_append_left (by omega), h5, hk, zeroCells_get hzs hil (by omega)]
    simpa using hc0)
  refine ⟨_, _, _, _, _, ok, by simpa [buiRun] using hrun, hC, g', x0.trans x', ?_⟩
  have := Rep.sref (w := w.drew.alloc (.cells ROW e)) (ρ := updP ρ H.length (some (w.drew.heap.size, G))) (H := H ++ [some ⟨e, o.k, o.es.take n ++ List.replicate m zs⟩]) (ok := ok) (id := H.length) (lo := 0) (n := n + m) (c := G) push_new (b := w.drew.heap.size) (cap := G) (by simp [updP]) (by simp; omega) (fun _ => rfl) hG1 hG2
  simpa using this
theorem lit0 {x y : Value} {h1 : #[x, y].size = 2} {h2 : 0 < 2} : (#[x, y] : Array Value).getLit 0 h1 h2 = x := rfl
theorem lit1 {x y : Value} {h1 : #[x, y].size = 2} {h2 : 1 < 2} : (#[x, y] : Array Value).getLit 1 h1 h2 = y := rfl
theorem run_overlaps_own {P : Program} (w : World) (tS tR e : TypeId) (ht : P.underlying tS = some (.slice e)) (size : Nat) (hz : ∀ w, (Go.sizeOf e).run P w = .ok size w)
  (a b : Addr) (la ca lb cb : Nat) (hne : a.block ≠ b.block) (tA tB : TypeId) (kA kB : Nat) (hsa : w.shape? a.block = some (tA, kA)) (hsb : w.shape? b.block = some (tB, kB)) (hkA : kA ≠ 0)
  (hfb : w.frozen? b = false) (hfe : w.frozen? ⟨b.block, kB, none⟩ = false) :
  (Extern.SlicesOverlaps.overlaps #[tS, tS] #[tR] #[.slice (some a) la ca, .slice (some b) lb cb]).run P w = .ok (.bool false) w := by
 have hnb : (a.block != b.block) = true := by simpa using hne
 have hnb' : (a.block == b.block) = false := by simpa using hne
 obtain ⟨kA, rfl⟩ : ∃ m, kA = m + 1 := ⟨kA - 1, by omega⟩
 delta Extern.SlicesOverlaps.overlaps Extern.SlicesOverlaps.overlaps.match_4 Extern.SlicesOverlaps.overlaps._sparseCasesOn_4
 simp only [List.size_toArray, List.length_cons, List.length_nil, dite_true]
 dsimp only [lit0, lit1]
 by_cases h0 : la = 0 ∨ lb = 0 ∨ size = 0
 ·simp [run_underlying ht, hz, h0]
 ·cases hfa : w.frozen? a <;> cases hfa' : w.frozen? { block := a.block, off := kA + 1 } <;> simp [run_underlying ht, hz, h0, hnb, hnb', frozen, noView, viewAt, mayBeOne, stringish, shape, Sem.run, hsa, hsb, hfa, hfb, hfe, hfa']
theorem callB_overlapsL {f : FuncId} {fn : Func} {t e tR : TypeId} {y : AV} {e0 : List AV} {es : List (List AV)} {k id' lo' dn' : Nat} {o' : AObj} {C : AV → Heap → Prop} {b : Bx C} (hf : E.P.funcs[f]? = some fn) (hname : (fn.name == "runtime.NumGoroutine") = false) (hb : fn.body.isNone = true)
  (hn : Extern.findNext fn = none) (hfind : Extern.find fn = some (Extern.SlicesOverlaps.overlaps #[t, t] #[tR])) (he : elemOf E.P t = some e) (hkn : knownT E.P e = true)
  (hk0 : e0 ≠ []) (hy : y = .sref id' lo' dn' ∨ ∃ N, y = .full id' lo' dn' N) (ho' : H[id']? = some (some o')) (hd' : 0 < dn')
  (hC : C (.sc (.bool false)) H) : CallB E f [.list k (e0 :: es), y] H C b := by
 refine .inr ⟨⟨_, _, hC⟩, fun w ρ ok vs g hsz hr => ?_⟩
 obtain ⟨vx, vy, rfl⟩ := size2 hsz
 have rx := hr 0 vx _ rfl rfl
 obtain ⟨b2, cap', c', rfl, hρ', hcap', hmx'⟩ := dst_rep g hy ho' hd' (hr 1 vy _ rfl rfl)
 have hob' := g.obj id' o' ho'
 rw [hρ'] at hob'
 obtain ⟨cur', hb2, hs', _, _, _⟩ := hob'.cells hmx'
 cases rx with
 | @list ad n c _ _ fv hn' hnc hok hkk hcc h1 hh =>
  obtain ⟨a0, e1, rfl⟩ := List.exists_cons_of_ne_nil hk0
  have hc0 := hcc 0 (a0 :: e1) 0 a0 rfl rfl
  have hne : ad.block ≠ b2 := fun e' => (g.own id' o' b2 cap' ho' hρ').1 (e' ▸ hok)
  obtain ⟨tA, kA, hsa, hkA⟩ : ∃ tA kA, w.shape? ad.block = some (tA, kA) ∧ kA ≠ 0 := by
   unfold World.cell? at hc0
   rw [block_add] at hc0
   unfold World.shape?
   cases hb : w.heap[ad.block]? with
   | none => simp [hb] at hc0
   | some x =>
    cases x with
    | cells cs el fz =>
     simp only [hb] at hc0
     split at hc0
     ·cases hc0
     ·exact ⟨el, cs.size, rfl, fun h0 => by
       have := (Array.getElem?_eq_some_iff.1 hc0).1
       omega⟩
    | _ => simp [hb] at hc0
  have h1 := run_overlaps_own (P := E.P) w t tR e (elemOf_sound he) (szOf E.P e) (fun w => run_sizeOf' hkn w) ad ⟨b2, lo' * o'.k, none⟩ n c dn' c' hne tA o'.ty kA cur'.size hsa (by simp [World.shape?, hb2]) hkA (by simp [World.frozen?, hb2]) (by simp [World.frozen?, hb2])
  refine ⟨.bool false, w, _, _, ρ, ok, ?_, hC, g, Ext.refl _ _ _ _, .sc⟩
  rw [run_callFunc_extern hf hname hb hn hfind, h1]
  rfl
theorem buiB_copyE {t t' e : TypeId} {x y : AV} {id lo dn ty k m : Nat} {es news es' : List (List AV)} {C : AV → Heap → Prop} {b : Bx C} (ho : H[id]? = some (some ⟨ty, k, es⟩)) (hx : x = .sref id lo dn ∨ ∃ N, x = .full id lo dn N) (he : elemOf E.P t = some e)
  (hk : k = szOf E.P e) (hk0 : 0 < k) (hkn : knownT E.P e = true) (hs : srcEs E.P e H y = some news) (hnl : news.length = m) (hl : m ≤ dn) (hpos : 0 < m) (hp : lo ≤ es.length) (hes : es.take lo ++ news ++ es.drop (lo + m) = es')
  (hC : C (.sc (goInt m)) (H.set id (some ⟨ty, k, es'⟩))) : BuiB E .copy #[t, t'] [x, y] H C b := by
 subst hes; subst hnl
 exact buiB_copy hx ho he hk hk0 hkn hs hl hpos hp hC
theorem buiB_copyS {t t' e : TypeId} {x : AV} {id lo dn id2 lo2 m2 N2 ty k : Nat} {es news es' : List (List AV)} {C : AV → Heap → Prop} {b : Bx C} (ho : H[id]? = some (some ⟨ty, k, es⟩)) (hx : x = .sref id lo dn ∨ ∃ N, x = .full id lo dn N) (he : elemOf E.P t = some e)
  (hk : k = szOf E.P e) (hk0 : 0 < k) (hkn : knownT E.P e = true) (hs : srcEs E.P e H (.full id2 lo2 dn N2) = some news) (hnl : news.length = dn) (hm2 : dn ≤ m2) (hpos : 0 < dn) (hp : lo ≤ es.length) (hes : es.take lo ++ news ++ es.drop (lo + dn) = es')
  (hC : C (.sc (goInt dn)) (H.set id (some ⟨ty, k, es'⟩))) : BuiB E .copy #[t, t'] [x, .full id2 lo2 m2 N2] H C b := by
 subst hes; subst hnl
 exact buiB_copy_short hx ho he hk hk0 hkn hs rfl hm2 hpos hp hC
theorem buiB_clearE {t e : TypeId} {x : AV} {id lo dn ty k : Nat} {es es' : List (List AV)} {zs : List AV} {C : AV → Heap → Prop} {b : Bx C} (ho : H[id]? = some (some ⟨ty, k, es⟩)) (hx : x = .sref id lo dn ∨ ∃ N, x = .full id lo dn N) (he : elemOf E.P t = some e)
  (hk : k = szOf E.P e) (hk0 : 0 < k) (hz : zeros E.P e = some zs) (hpos : 0 < dn) (hp : lo ≤ es.length) (hes : es.take lo ++ List.replicate dn zs ++ es.drop (lo + dn) = es') (hC : C (.tup []) (H.set id (some ⟨ty, k, es'⟩))) : BuiB E .clear #[t] [x] H C b := by
 subst hes
 exact buiB_clear hx ho he hk hk0 hz hpos hp hC
theorem buiB_appendE {t e : TypeId} {y : AV} {id n N ty k m L : Nat} {es news es' : List (List AV)} {C : AV → Heap → Prop} {b : Bx C} (ho : H[id]? = some (some ⟨ty, k, es⟩)) (he : elemOf E.P t = some e)
  (hk : k = szOf E.P e) (hk0 : 0 < k) (hkn : knownT E.P e = true) (hs : srcEs E.P e H y = some news) (hnl : news.length = m) (hl : n + m ≤ N) (hpos : 0 < m) (hp : n ≤ es.length) (hes : es.take n ++ news ++ es.drop L = es') (hL : n + m = L)
  (hC : C (.full id 0 L N) (H.set id (some ⟨ty, k, es'⟩))) : BuiB E .append #[t, t] [.full id 0 n N, y] H C b := by
 subst hL; subst hes; subst hnl
 exact buiB_append_in ho he hk hk0 hkn hs hl hpos hp hC
theorem buiB_appendN {t e : TypeId} {id n N k0 L : Nat} {o : AObj} {C : AV → Heap → Prop} {b : Bx C} (ho : H[id]? = some (some o)) (he : elemOf E.P t = some e) (hkn : knownT E.P e = true) (hl : n ≤ N) (hL : n = L)
  (hC : C (.full id 0 L N) H) : BuiB E .append #[t, t] [.full id 0 n N, .list k0 []] H C b := by
 subst hL
 refine ⟨⟨_, _, hC⟩, fun w ρ ok ty vs g hsz hr => ?_⟩
 obtain ⟨vx, vy, rfl⟩ := size2 hsz
 have rx := hr 0 vx _ rfl rfl
 have ry := hr 1 vy _ rfl rfl
 have : ∃ A c, vy = .slice A 0 c := by
  cases ry with
  | listNil => exact ⟨_, _, rfl⟩
  | list f hn _ _ _ _ _ _ => subst hn; exact ⟨_, _, rfl⟩
 obtain ⟨A, c, rfl⟩ := this
 cases rx with
 | fullDead hd _ => rw [ho] at hd; cases hd
 | @full _ _ _ _ o' b' ho' hρ hn hN =>
  refine ⟨.slice (some ⟨b', 0 * o'.k, none⟩) n (N - 0), w, _, _, ρ, ok, ?_, hC, g, Ext.refl _ _ _ _, .full ho' hρ (by omega) hN⟩
  cases A <;> simp [buiRun, Builtin.append_, run_underlying (elemOf_sound he), Builtin.lenOf, run_sizeOf' hkn, hl, Builtin.firstCells, loadCells, loadCellsFrom, storeCells]
theorem buiB_makeE {t tn e : TypeId} {id n N m ty k L : Nat} {es : List (List AV)} {zs : List AV} {x : Int} {kq kn : IntKind} {C : AV → Heap → Prop} {b : Bx C} (ho : H[id]? = some (some ⟨ty, k, es⟩)) (he : elemOf E.P t = some e) (htn : E.P.underlying tn = some (.int kn))
  (hk : k = szOf E.P e) (hk0 : 0 < k) (hty : ty = e) (hz : zeros E.P e = some zs) (hp : n ≤ es.length) (hx : x = (m : Int)) (hpos : 0 < m) (hL : n + m = L) (hroom : N < L) (h63 : L ≤ 9223372036854775807) (hb : L * bytesOf E.P e ≤ 140737488355328)
  (hC : C (.sref H.length 0 L) (H ++ [some ⟨ty, k, es.take n ++ List.replicate m zs⟩])) : BuiB E .append #[t, tn] [.full id 0 n N, .sc (.int kq x)] H C b := by
 subst hL; subst hx; subst hty
 exact buiB_append_make ho he htn hk hk0 rfl hz hp hpos hroom h63 hb hC
end
theorem args_fnc {H : Heap} {g : FuncId} {cs cs' xs ys : List AV} (h : cs.map (viewR H) = cs') (hi : ∀ c, c ∈ cs' → Imm c) (ht : Args H xs ys) : Args H (.fn g cs :: xs) (.fn g cs' :: ys) :=
 args_cons.2 ⟨⟨by rw [view_fn, h]; exact .refl _, by rw [view_fn, h]; exact imm_fn.2 hi⟩, ht⟩
theorem encL_takeE {α : Type} (enc : α → List AV) (l : List α) (i : Nat) : (encL enc l).take i = encL enc (l.take i) := by simp [encL, List.map_take]
theorem encL_dropE {α : Type} (enc : α → List AV) (l : List α) (i : Nat) : (encL enc l).drop i = encL enc (l.drop i) := by simp [encL, List.map_drop]
theorem encL_appE {α : Type} (enc : α → List AV) (l m : List α) : encL enc l ++ encL enc m = encL enc (l ++ m) := by simp [encL]
theorem encL_getE {α : Type} (enc : α → List AV) (l : List α) (i : Nat) : (encL enc l)[i]? = (l[i]?).map enc := by simp [encL]
theorem mfun_full {P : Program} {row src : Option Nat} {f : FuncId} {args : List AV} {id n : Nat} {o : AObj} {H : Heap} {C : AV → Heap → Prop} (ho : H[id]? = some (some o)) (hne : o.es ≠ []) (hn : n ≤ o.es.length)
  (h : ∀ N, o.es.length ≤ N → MFun P row src f (.full id 0 n N :: args) H C) : MFun P row src f (.sref id 0 n :: args) H C := by
 intro E hP hrow hsrc
 refine ⟨(h o.es.length (Nat.le_refl _) E hP hrow hsrc).1, fun w ρ ok vs g hs hr => ?_⟩
 have h0 : 0 < vs.size := by rw [hs]; simp
 have hv := hr 0 vs[0] (.sref id 0 n) (Array.getElem?_eq_getElem h0) rfl
 have key : ∃ N, o.es.length ≤ N ∧ Rep w ρ H ok vs[0] (.full id 0 n N) := by
  have hobj := g.obj id o ho
  generalize vs[0] = v at hv
  cases hv with
  | srefDead hd _ => rw [ho] at hd; cases hd
  | srefNil ho' hρ =>
   rw [hρ] at hobj
   exact absurd hobj hne
  | @sref _ _ _ c o' b cap ho' hρ hn' hc hnc hcap =>
   rw [ho] at ho'
   simp only [Option.some.injEq] at ho'
   subst ho'
   rw [hρ] at hobj
   obtain ⟨_, _, _, hl, _, _⟩ := hobj.cells hcap
   have := hc rfl
   subst this
   exact ⟨c, hl, .full ho hρ (by omega) hcap⟩
 obtain ⟨N, hN, hrep⟩ := key
 refine (h N hN E hP hrow hsrc).2 w ρ ok vs g hs fun i v a hv ha => ?_
 match i, hv, ha with
 | 0, hv, ha =>
  rw [Array.getElem?_eq_getElem h0] at hv
  simp only [Option.some.injEq] at hv
  subst hv
  simp only [List.getElem?_cons_zero, Option.some.injEq] at ha
  subst ha
  exact hrep
 | i + 1, hv, ha => exact hr (i + 1) v a hv ha
theorem mfun_unfull {P : Program} {row src : Option Nat} {f : FuncId} {args : List AV} {H : Heap} {C D : AV → Heap → Prop} (h : MFun P row src f args H C)
  (hd : ∀ r H', C r H' → D r H' ∨ ∃ id n N o, r = .full id 0 n N ∧ H'[id]? = some (some o) ∧ n ≤ o.es.length ∧ D (.sref id 0 n) H') : MFun P row src f args H D := by
 intro E hP hrow hsrc
 obtain ⟨⟨x0, H0, h0⟩, hw⟩ := h E hP hrow hsrc
 refine ⟨?_, fun w ρ ok vs g hs hr => (hw w ρ ok vs g hs hr).mono ?_⟩
 ·rcases hd _ _ h0 with h1 | ⟨_, _, _, _, _, _, _, h1⟩ <;> exact ⟨_, _, h1⟩
 ·rintro e w' ⟨v, x, H', ρ', ok', rfl, hc, g', x', r'⟩
  rcases hd _ _ hc with h1 | ⟨id, n, N, o, rfl, ho, hn, h1⟩
  ·exact ⟨v, x, H', ρ', ok', rfl, h1, g', x', r'⟩
  ·refine ⟨v, _, H', ρ', ok', rfl, h1, g', x', ?_⟩
   cases r' with
   | fullDead hd' _ => rw [ho] at hd'; cases hd'
   | @full _ _ _ _ o' b ho' hρ hn' hN =>
    rw [ho] at ho'
    simp only [Option.some.injEq] at ho'
    subst ho'
    exact .sref ho hρ (by omega) (fun _ => by omega) (by omega) hN
def pickOk (ops : Array Oper) (S T : List Nat) (listed : Array Bool) (i : Nat) : Bool :=
 let A := ancs ops.toList []
 ((List.range ops.size).all fun j => match ops[j]? with
  | none => true
  | some o => !listed.getD j false || o.after.toList.all fun e => !Region.binds .any e || listed.getD e.on false) &&
 (decide (i ∈ Region.ready .any ops listed) && match ops[i]? with
  | none => false
  | some oi => (List.range ops.size).all fun j => match ops[j]? with
   | none => true
   | some oj => decide (j = i) || (listed.getD j true || ((A.getD j 0).testBit i || (oi.apart ops oj && swapOk S T i j oi oj))))
theorem xany_pick {E : Env} {ops : Array Oper} {D : Nat → Bool} {S T : List Nat} {K : St → Prop} {n : Nat} (i : Nat) {oi : Oper} {listed : Array Bool} {s : St} (hi : ops[i]? = some oi) (hc : pickOk ops S T listed i = true)
  (h : AXOps D E ops S T [oi] i s (fun s' => XAny D E ops S T K n (listed.setIfInBounds i true) s')) : XAny D E ops S T K (n + 1) listed s := by
 unfold pickOk at hc
 simp only [Bool.and_eq_true, decide_eq_true_eq] at hc
 obtain ⟨h1, h2, h3⟩ := hc
 rw [hi] at h3
 refine xany_first hi n listed s (fun j o ho hj e he hb => ?_) (fun j oj hoj hji hun hanc => ?_) h2 h
 ·have := List.all_eq_true.1 h1 j (List.mem_range.2 (Array.getElem?_eq_some_iff.1 ho).1)
  simp only [ho, hj, Bool.not_true, Bool.false_or] at this
  have := List.all_eq_true.1 this e (by simpa using he)
  simpa [hb] using this
 ·have := List.all_eq_true.1 h3 j (List.mem_range.2 (Array.getElem?_eq_some_iff.1 hoj).1)
  simp only [hoj, hji, hun, hanc, decide_false, Bool.false_or, Bool.and_eq_true] at this
  exact this
def SlIsT (H : Heap) (x : AV) (k : Nat) (es : List (List AV)) : Prop := x = .list k es ∨ (x = .nil ∧ es = []) ∨ ∃ id ty tl, x = .sref id 0 es.length ∧ H[id]? = some (some ⟨ty, k, es ++ tl⟩)
theorem SlIsT.kept {H H' : Heap} {x : AV} {k : Nat} {es : List (List AV)} (h : SlIsT H x k es) (hk : Kept [] H H') : SlIsT H' x k es := by
 rcases h with h | h | ⟨id, ty, tl, h1, h2⟩
 ·exact .inl h
 ·exact .inr (.inl h)
 ·exact .inr (.inr ⟨id, ty, tl, h1, hk id _ (by simp) h2⟩)
theorem SlIsT.len {H : Heap} {x : AV} {k : Nat} {es : List (List AV)} (h : SlIsT H x k es) : alen H x = some (es.length : Int) := by
 rcases h with h | ⟨rfl, rfl⟩ | ⟨id, ty, tl, rfl, h2⟩
 ·subst h; rfl
 ·rfl
 ·simp only [alen, h2]
theorem SlIsT.idx {P : Program} {t e : TypeId} {H : Heap} {x : AV} {k : Nat} {es : List (List AV)} (h : SlIsT H x k es) (ht : Go.PA.elemOf P t = some e) (hk : k = szOf P e) (hn : knownT P e = true) (i : Nat) (hi : i < es.length) :
  ∃ a, aindexAddr P t H x i = some a ∧ addrCells H a = some es[i] := by
 rcases h with h | ⟨rfl, rfl⟩ | ⟨id, ty, tl, rfl, h2⟩
 ·subst h
  refine ⟨.iref es[i], ?_, rfl⟩
  rw [aix_list ht]
  simp [hk, hn, hi]
 ·simp at hi
 ·have hi' : i < es.length + tl.length := by omega
  refine ⟨.ref id i 0, ?_, ?_⟩
  ·rw [aix_sref ht]
   simp [h2, hk, hn, hi, hi']
  ·rw [addr_ref]
   simp [h2, List.getElem?_append_left hi, hi]
end Go.PA
namespace Go.Proofs.YtmpncdlhmknkoaaGreat
open Go.PA
open Go.RowKit
set_option maxHeartbeats 2000000 in
theorem delete_m_pay {row src : Option Nat} (es : List (List AV)) (i id : Nat) (H : Heap) (hi : i < es.length) (hl : es.length ≤ 100000) (ho : H[id]? = some (some ⟨44, 5, es⟩)) :
  MFun Tryz.prog row src 144 [.sref id 0 es.length, iv i, iv ((i : Int) + 1)] H (fun r H' => ∃ tl, r = .sref id 0 (es.length - 1) ∧ H'[id]? = some (some ⟨44, 5, es.take i ++ es.drop (i + 1) ++ tl⟩) ∧ Kept [id] H H') := by
 obtain ⟨C, hC⟩ : ∃ C : AV → Heap → Prop, C = fun r H' => ∃ tl, r = .sref id 0 (es.length - 1) ∧ H'[id]? = some (some ⟨44, 5, es.take i ++ es.drop (i + 1) ++ tl⟩) ∧ Kept [id] H H' := ⟨_, rfl⟩
 rw [← hC]
 have lid := (gsI ho)
 have ex : ∃ r H', C r H' := by
  rw [hC]
  exact ⟨.sref id 0 (es.length - 1), H.set id (some ⟨44, 5, es.take i ++ es.drop (i + 1) ++ []⟩), [], rfl, by simp [lid], kept_set _ (by simp) (kept_refl _ _)⟩
 obtain ⟨n, hn⟩ : ∃ n, n = es.length := ⟨_, rfl⟩
 rw [← hn] at hi hl hC ⊢
 have hesne : es ≠ [] := by intro e0; simp [e0] at hn; omega
 refine mfun_unfull (C := fun r H' => ∃ N, r = .full id 0 (n - 1) N ∧ ∃ o, H'[id]? = some (some o) ∧ n - 1 ≤ o.es.length ∧ C (.sref id 0 (n - 1)) H') ?_ (fun r H' h => ?_)
 rotate_left
 ·obtain ⟨N, h1, o, h2, h3, h4⟩ := h
  exact .inr ⟨id, n - 1, N, o, h1, h2, h3, h4⟩
 refine mfun_full ho hesne (by dsimp only; omega) fun N hN0 => ?_
 dsimp only at hN0
 obtain ⟨D, hD⟩ : ∃ D : AV → Heap → Prop, D = fun r H' => ∃ N, r = .full id 0 (n - 1) N ∧ ∃ o, H'[id]? = some (some o) ∧ n - 1 ≤ o.es.length ∧ C (.sref id 0 (n - 1)) H' := ⟨_, rfl⟩
 rw [← hD]
 have exD : ∃ r H', D r H' := by
  rw [hD, hC]
  refine ⟨.full id 0 (n - 1) n, H.set id (some ⟨44, 5, es.take i ++ es.drop (i + 1) ++ []⟩), n, rfl, ⟨44, 5, es.take i ++ es.drop (i + 1) ++ []⟩, by simp [lid], by simp; omega, [], rfl, by simp [lid], kept_set _ (by simp) (kept_refl _ _)⟩
 obtain ⟨zs, hz⟩ := Option.isSome_iff_exists.1 (show (zeros Tryz.prog 44).isSome = true by kernel_rfl)
 have nN : n ≤ N := by omega
 have iN : i ≤ N := by omega
 have b1 : (0 : Int) ≤ i := by omega
 have b2 : (i : Int) ≤ (i : Int) + 1 := by omega
 have b3 : (i : Int) + 1 ≤ n := by omega
 have b4 : ¬ (i : Int) = (i : Int) + 1 := by omega
 have b5 : (0 : Int) ≤ (i : Int) + 1 := by omega
 have b6 : ¬ ((i : Int) + 1 = 0) := by omega
 have fin : ∀ (es1 : List (List AV)), es1.take (n - 1) = es.take i ++ es.drop (i + 1) → es1.length = n → (H1 : Heap) → H1[id]? = some (some ⟨44, 5, es1⟩) → Kept [id] H H1 → D (.full id 0 (n - 1) N) (H1.set id (some ⟨44, 5, es.take i ++ es.drop (i + 1) ++ [zs]⟩)) := fun es1 h1 h2 H1 h3 h4 => by
  have l1 := (gsI h3)
  rw [hD, hC]
  exact ⟨N, rfl, ⟨44, 5, es.take i ++ es.drop (i + 1) ++ [zs]⟩, by simp [l1], by simp [← hn]; omega, [zs], rfl, by simp [l1], kept_set _ (by simp) h4⟩
 refine mfun_intro Tryz.func144 rfl (by simp [Tryz.f144]) (by kernel_rfl) (exD) ?_
 intro E hP hr hs hN
 simp -dsimp -implicitDefEqProofs [-getElem?_pos, go_sem, hP, ho, ← hn, asliceOp, bound, aslice, aslice3, b1, b2, b3, b4, b5]
 refine adrawB (fun _ => true) [6] hP (by kernel_rfl) (by kernel_rfl) ?_
 have sx : (if n - 1 = 0 then some (AV.full id 0 n N) else some (AV.full id (n - 1) 1 N)) = some (.full id (n - 1) 1 N) := by
  split
  ·rename_i h0; rw [h0, show n = 1 by omega]
  ·rfl
 have n4 : ¬ (((n - 1 : Nat) : Int) = (n : Int)) := by omega
 have n1 : n - (n - 1) = 1 := by omega
 have n2 : n - 1 ≤ n := by omega
 have n3 : ¬ (n - 1 = n) := by omega
 have n0 : ¬ n = 0 := by omega
 by_cases hlast : i + 1 = n
 ·have c1 : (i : Int) + 1 = n := by omega
  have iN1 : i = n - 1 := by omega
  simp -dsimp -implicitDefEqProofs [-getElem?_pos, go_sem, hP, ho, ← hn, asliceOp, bound, aslice, b1, b2, b3, b4, b5, b6, c1, iN, nN, n0]
  refine buiB_appendN (e := 44) (L := n - 1) (o := ⟨44, 5, es⟩) ho (by rw [hP]; kernel_rfl) (by rw [hP]; kernel_rfl) iN iN1 ?_
  simp -dsimp -implicitDefEqProofs [-getElem?_pos, go_sem, hP, ho, asliceOp, bound, aslice, n1, n2, n3, n4, nN, sx]
  refine buiB_clearE (e := 44) (es' := es.take i ++ es.drop (i + 1) ++ [zs]) ho (.inr ⟨N, rfl⟩) (by rw [hP]; kernel_rfl) (by rw [hP]; kernel_rfl) (by omega) (by rw [hP]; exact hz) (by omega) (by omega) ?_ ?_
  ·rw [List.drop_of_length_le (show es.length ≤ n - 1 + 1 by omega), List.drop_of_length_le (show es.length ≤ i + 1 by omega), iN1]
   simp
  simp -dsimp -implicitDefEqProofs [-getElem?_pos, go_sem, hP]
  have := fin es (by rw [List.drop_of_length_le (show es.length ≤ i + 1 by omega), iN1]; simp) hn.symm H ho (kept_refl _ _)
  simpa using this
 ·have c1 : ¬ (i : Int) + 1 = n := by omega
  have c2 : (n : Int) - ((i : Int) + 1) = ((n - (i + 1) : Nat) : Int) := by omega
  simp -dsimp -implicitDefEqProofs [-getElem?_pos, go_sem, hP, ho, ← hn, asliceOp, bound, aslice, b1, b2, b3, b4, b5, b6, c1, c2, iN, nN]
  refine buiB_appendE (e := 44) (L := n - 1) (m := n - (i + 1)) (news := es.drop (i + 1)) (es' := es.take i ++ es.drop (i + 1) ++ es.drop (n - 1)) ho (by rw [hP]; kernel_rfl) (by rw [hP]; kernel_rfl) (by omega) (by rw [hP]; kernel_rfl) ?_ (by simp [← hn]) (by omega) (by omega) (by omega) rfl (by omega) ?_
  ·simp only [srcEs, ho]
   rw [if_pos ⟨by rw [hP]; kernel_rfl, by omega⟩, List.take_of_length_le (by simp; omega)]
  simp -dsimp -implicitDefEqProofs [-getElem?_pos, go_sem, hP, lid, asliceOp, bound, aslice, n1, n2, n3, n4, nN, sx]
  have hl2 : (es.take i ++ es.drop (i + 1)).length = n - 1 := by simp; omega
  refine buiB_clearE (e := 44) (ty := 44) (k := 5) (es := es.take i ++ es.drop (i + 1) ++ es.drop (n - 1)) (es' := es.take i ++ es.drop (i + 1) ++ [zs]) (by simp [lid]) (.inr ⟨N, rfl⟩) (by rw [hP]; kernel_rfl) (by rw [hP]; kernel_rfl) (by omega) (by rw [hP]; exact hz) (by omega) (by simp; omega) ?_ ?_
  ·rw [List.take_append_of_le_length (by omega), List.take_of_length_le (by omega), List.drop_of_length_le (show (es.take i ++ es.drop (i + 1) ++ es.drop (n - 1)).length ≤ n - 1 + 1 by rw [List.length_append, hl2, List.length_drop]; omega)]
   simp
  simp -dsimp -implicitDefEqProofs [-getElem?_pos, go_sem, hP]
  have := fin (es.take i ++ es.drop (i + 1) ++ es.drop (n - 1)) (by rw [List.take_append_of_le_length (by omega), List.take_of_length_le (by omega)]) (by rw [List.length_append, hl2, List.length_drop]; omega) (H.set id (some ⟨44, 5, es.take i ++ es.drop (i + 1) ++ es.drop (n - 1)⟩)) (by simp [lid]) (kept_set _ (by simp) (kept_refl _ _))
  simpa using this
theorem index_pf_pay (l : List TPayment) (g : FuncId) (caps : List AV) (p : TPayment → Bool) (hl : l.length ≤ 1000000) (hen : enterable Tryz.prog g = true) (hcap : ∀ a, a ∈ caps → Imm a)
  (hg : ∀ a, a ∈ l → PFun Tryz.prog none none g (.agg (TPayment.cells a) :: caps) (· = bv (p a))) :
  PFun Tryz.prog none none 165 [.list 5 (encL TPayment.cells l), .fn g caps] (· = iv (idxI p l)) := by
 refine pfun_intro Tryz.func165 rfl (by simp [Tryz.f165]) (by kernel_rfl) ?_
 intro E hP hr hs hW hN
 simp -dsimp -implicitDefEqProofs [-getElem?_pos, go_sem, hP]
 obtain ⟨I, hI⟩ : ∃ I : Nat → St → Prop, I = fun m s => ∃ k : Nat, k ≤ l.length ∧ m = l.length - k ∧ idxI p l = idxFrom p k (l.drop k) ∧ s.t 0 = .list 5 (encL TPayment.cells l) ∧ s.t 1 = .fn g caps ∧ s.t 7 = iv l.length ∧ s.t 8 = iv k := ⟨_, rfl⟩
 refine aloop0 I (l.length) (by rw [hN]; rfl) ?_ ?_
 ·rw [hI]
  exact ⟨0, by omega, by omega, by simp [idxI], by simp -dsimp [-getElem?_pos, go_sem], by simp -dsimp [-getElem?_pos, go_sem], by simp -dsimp [-getElem?_pos, go_sem], by simp -dsimp [-getElem?_pos, go_sem]⟩
 intro m s hs'
 rw [hI] at hs'
 obtain ⟨k, hk, hm, hi, t0, t1, t7, t8⟩ := hs'
 simp -dsimp -implicitDefEqProofs [-getElem?_pos, go_sem, hP, t7, t8]
 refine condP (fun h => ?_) (fun h => ?_)
 ·have hk : k < l.length := by simpa using h
  obtain ⟨a, ha⟩ : ∃ a, l[k]? = some a := ⟨_, List.getElem?_eq_getElem hk⟩
  have wk := wrap_in ((k : Int) + 1) (by omega)
  have hz : (TPayment.cells a).take 5 = TPayment.cells a := List.take_of_length_le (by rw [TPayment.len]; omega)
  have hd : l.drop k = a :: l.drop (k + 1) := by
   rw [List.getElem?_eq_getElem hk] at ha
   rw [List.drop_eq_getElem_cons hk, Option.some.inj ha]
  simp -dsimp -implicitDefEqProofs [-getElem?_pos, go_sem, hP, t8, t1, t0, ha, TPayment.len, hz]
  refine callB_is ((hg a (List.mem_of_getElem? ha)).lift _ _) hP hen (fun x hx => ?_) .sc ?_
  ·rcases List.mem_cons.1 hx with rfl | hx
   ·exact imm_agg.2 (TPayment.imm a)
   ·exact hcap x hx
  rw [hd] at hi
  simp only [idxFrom] at hi
  simp -dsimp -implicitDefEqProofs [-getElem?_pos, go_sem, hP]
  refine condP (fun hp => ?_) (fun hp => ?_)
  ·rw [if_pos hp] at hi
   simp -dsimp -implicitDefEqProofs [-getElem?_pos, go_sem, hP]
   exact hi.symm
  ·rw [hp, if_neg (by simp)] at hi
   simp -dsimp -implicitDefEqProofs [-getElem?_pos, go_sem, hP, t8, wk]
   refine ⟨l.length - (k + 1), by omega, ?_⟩
   rw [hI]
   exact ⟨k + 1, by omega, rfl, hi, by simp -dsimp [-getElem?_pos, go_sem, t0], by simp -dsimp [-getElem?_pos, go_sem, t1], by simp -dsimp [-getElem?_pos, go_sem, t7], by simp -dsimp [-getElem?_pos, go_sem]⟩
 ·have hk : k = l.length := by simp at h; omega
  subst hk
  rw [List.drop_length] at hi
  simp -dsimp -implicitDefEqProofs [-getElem?_pos, go_sem, hP]
  exact hi.symm
theorem contains_pf_pay (l : List TPayment) (g : FuncId) (caps : List AV) (p : TPayment → Bool) (hl : l.length ≤ 1000000) (hen : enterable Tryz.prog g = true) (hcap : ∀ a, a ∈ caps → Imm a)
  (hg : ∀ a, a ∈ l → PFun Tryz.prog none none g (.agg (TPayment.cells a) :: caps) (· = bv (p a))) :
  PFun Tryz.prog none none 158 [.list 5 (encL TPayment.cells l), .fn g caps] (· = bv (l.any p)) := by
 refine pfun_intro Tryz.func158 rfl (by simp [Tryz.f158]) (by kernel_rfl) ?_
 intro E hP hr hs hW hN
 obtain ⟨w, hw⟩ : ∃ w, w = l.any p := ⟨_, rfl⟩
 rw [← hw]
 have hi : ∀ a, a ∈ [AV.list 5 (encL TPayment.cells l), .fn g caps] → Imm a := fun a ha => by
  simp only [List.mem_cons, List.not_mem_nil, or_false] at ha
  rcases ha with rfl | rfl
  ·exact imm_encL _ TPayment.imm _
  ·exact imm_fn.2 hcap
 simp -dsimp -implicitDefEqProofs [-getElem?_pos, go_sem, hP]
 refine callB_is ((index_pf_pay l g caps p hl hen hcap hg).lift _ _) hP en_165 hi .sc ?_
 rcases idxI_spec p l with ⟨h1, h2⟩ | ⟨i, a, h1, h2, h3, _⟩
 ·have : w = false := by rw [hw]; exact List.any_eq_false.2 fun a ha => by simp [h2 a ha]
  simp -dsimp -implicitDefEqProofs [-getElem?_pos, go_sem, hP, h1, this]
 ·have d : decide ((0 : Int) ≤ (i : Int)) = true := decide_eq_true (by omega)
  have : w = true := by rw [hw]; exact List.any_eq_true.2 ⟨a, List.mem_of_getElem? h1, h2⟩
  simp -dsimp -implicitDefEqProofs [-getElem?_pos, go_sem, hP, h3, d, this]
set_option maxHeartbeats 4000000 in
theorem deleteFunc_m_pay {row src : Option Nat} (l : List TPayment) (id : Nat) (H : Heap) (g : FuncId) (caps caps' : List AV) (p : TPayment → Bool) (hl : l.length ≤ 100000) (ho : H[id]? = some (some ⟨44, 5, encL TPayment.cells l⟩)) (hen : enterable Tryz.prog g = true)
  (hci : ∀ a, a ∈ caps' → Imm a) (hca : ∀ H', Kept [id] H H' → Args H' caps caps' ∧ caps.map (viewR H') = caps') (hg : ∀ a, a ∈ l → PFun Tryz.prog none none g (.agg (TPayment.cells a) :: caps') (· = bv (p a))) :
  MFun Tryz.prog row src 125 [.sref id 0 l.length, .fn g caps] H (fun r H' => ∃ tl, r = .sref id 0 (l.filter fun a => !p a).length ∧ H'[id]? = some (some ⟨44, 5, encL TPayment.cells (l.filter fun a => !p a) ++ tl⟩) ∧ Kept [id] H H') := by
 obtain ⟨C, hC⟩ : ∃ C : AV → Heap → Prop, C = fun r H' => ∃ tl, r = .sref id 0 (l.filter fun a => !p a).length ∧ H'[id]? = some (some ⟨44, 5, encL TPayment.cells (l.filter fun a => !p a) ++ tl⟩) ∧ Kept [id] H H' := ⟨_, rfl⟩
 rw [← hC]
 have lid := (gsI ho)
 have ex : ∃ r H', C r H' := by
  rw [hC]
  exact ⟨_, H.set id (some ⟨44, 5, encL TPayment.cells (l.filter fun a => !p a) ++ []⟩), [], rfl, by simp [lid], kept_set _ (by simp) (kept_refl _ _)⟩
 obtain ⟨zs, hz⟩ := Option.isSome_iff_exists.1 (show (zeros Tryz.prog 44).isSome = true by kernel_rfl)
 have imm : Imm (.list 5 (encL TPayment.cells l)) := imm_encL _ TPayment.imm _
 obtain ⟨n, hn⟩ : ∃ n, n = l.length := ⟨_, rfl⟩
 refine mfun_intro Tryz.func125 rfl (by simp [Tryz.f125]) (by kernel_rfl) (ex) ?_
 intro E hP hr hs hN
 simp -dsimp -implicitDefEqProofs [-getElem?_pos, go_sem, hP]
 refine callB_flat ((index_pf_pay l g caps' p (by omega) hen hci hg).lift _ _) hP en_165 (args_sref ho (by rw [encL_len]) imm (args_fnc (hca H (kept_refl _ _)).2 hci .nil)) ⟨_, rfl⟩ (by rintro r rfl; exact .sc) ?_
 rintro r rfl
 rcases idxI_spec p l with ⟨h1, h2⟩ | ⟨i, a, ha, hpa, h3, h4⟩
 ·have hf : (l.filter fun a => !p a) = l := List.filter_eq_self.2 fun a ha => by simp [h2 a ha]
  simp -dsimp -implicitDefEqProofs [-getElem?_pos, go_sem, hP, h1]
  rw [hC, hf]
  exact ⟨[], rfl, by rw [List.append_nil]; exact ho, kept_refl _ _⟩
 have hi1 : ¬ ((i : Int) = -1) := by omega
 have hil := (gsI ha)
 have w1 := wrap_in ((i : Int) + 1) (by omega)
 have kept0 : (l.take (i + 1)).filter (fun a => !p a) = l.take i := by
  rw [List.take_add_one, ha, List.filter_append, Option.toList_some, List.filter_cons_of_neg (by simp [hpa]), List.filter_nil, List.append_nil]
  refine List.filter_eq_self.2 fun x hx => ?_
  obtain ⟨j, hj⟩ := List.getElem?_of_mem hx
  rw [List.getElem?_take] at hj
  split at hj
  ·simp [h4 j x (by assumption) hj]
  ·cases hj
 simp -dsimp -implicitDefEqProofs [-getElem?_pos, go_sem, hP, h3, hi1, w1]
 obtain ⟨I, hI⟩ : ∃ I : Nat → St → Prop, I = fun m s => ∃ (j q : Nat) (ks : List TPayment) (rows : List (List AV)), ks = ((l.take j).filter fun a => !p a) ∧ q = ks.length ∧ j ≤ n ∧ m = n - j ∧ q < j ∧ rows.length = n ∧ (∀ e, e ∈ rows → e.length = 5) ∧ rows.take q = encL TPayment.cells ks ∧ rows.drop j = encL TPayment.cells (l.drop j) ∧ s.t 0 = .sref id 0 n ∧ s.t 1 = .fn g caps ∧ s.t 5 = iv q ∧ s.t 6 = iv j ∧ s.H[id]? = some (some ⟨44, 5, rows⟩) ∧ Kept [id] H s.H := ⟨_, rfl⟩
 refine aloop0 I (n - (i + 1)) (by rw [hN]; rfl) ?_ ?_
 ·rw [hI]
  refine ⟨i + 1, i, l.take i, encL TPayment.cells l, kept0.symm, by simp; omega, by omega, by omega, by omega, by rw [encL_len]; omega, fun e he => ?_, encL_takeE _ _ _, encL_dropE _ _ _, by simp -dsimp [-getElem?_pos, go_sem, hn], by simp -dsimp [-getElem?_pos, go_sem], by simp -dsimp [-getElem?_pos, go_sem], by simp -dsimp [-getElem?_pos, go_sem], by simp -dsimp [-getElem?_pos, go_sem, ho], by simp -dsimp [-getElem?_pos, go_sem]; exact kept_refl _ _⟩
  obtain ⟨x, _, rfl⟩ := List.mem_map.1 he
  exact TPayment.len x
 intro m s hs'
 rw [hI] at hs'
 obtain ⟨j, q, ks, rows, hks, hq, hjn, hm, hqj, hrl, hre, hrt, hrd, t0, t1, t5, t6, h0, hk⟩ := hs'
 have lt0 := (gsI h0)
 simp -dsimp -implicitDefEqProofs [-getElem?_pos, go_sem, hP, t0, t6, h0]
 refine condP (fun hh => ?_) (fun hh => ?_)
 ·have hj : j < n := by simpa using hh
  obtain ⟨x, hx⟩ : ∃ x, l[j]? = some x := ⟨_, List.getElem?_eq_getElem (by omega)⟩
  have wj := wrap_in ((j : Int) + 1) (by omega)
  have wq := wrap_in ((q : Int) + 1) (by omega)
  have hrow : rows[j]? = some (TPayment.cells x) := by
   have := congrArg (·[0]?) hrd
   simp only [List.getElem?_drop, Nat.add_zero, encL_getE, hx] at this
   simpa using this
  have im := imm_agg.2 (TPayment.imm x)
  have hcx := hca (s.H ++ [some ⟨44, 5, [TPayment.cells x]⟩]) (hk.trans (kept_app _ _ _))
  have hgx := (hg x (List.mem_of_getElem? hx)).lift E.row E.src
  have htk : (l.take (j + 1)).filter (fun a => !p a) = if p x = true then ks else ks ++ [x] := by
   rw [List.take_add_one, hx, List.filter_append, Option.toList_some, ← hks]
   by_cases hpx : p x = true <;> simp [hpx, List.filter_cons]
  have hxl := TPayment.len x
  simp -dsimp -implicitDefEqProofs [-getElem?_pos, go_sem, hP, t0, t6, h0, hrow, hj, TPayment.cells]
  simp -dsimp -implicitDefEqProofs [-getElem?_pos, go_sem, hP, t1]
  simp only [TPayment.cells] at im hcx hgx
  refine callB_flat hgx hP hen (args_imm im hcx.1) ⟨_, rfl⟩ (by rintro r rfl; exact .sc) ?_
  rintro r rfl
  simp -dsimp -implicitDefEqProofs [-getElem?_pos, go_sem, hP]
  refine condP (fun hp => ?_) (fun hp => ?_)
  ·rw [if_pos hp] at htk
   simp -dsimp -implicitDefEqProofs [-getElem?_pos, go_sem, hP, t6, wj]
   refine ⟨n - (j + 1), by omega, ?_⟩
   rw [hI]
   refine ⟨j + 1, q, ks, rows, htk.symm, hq, by omega, rfl, by omega, hrl, hre, hrt, ?_, by simp -dsimp [-getElem?_pos, go_sem, t0], by simp -dsimp [-getElem?_pos, go_sem, t1], by simp -dsimp [-getElem?_pos, go_sem, t5], by simp -dsimp [-getElem?_pos, go_sem], by simp -dsimp [-getElem?_pos, go_sem, h0, lt0], by simp -dsimp [-getElem?_pos, go_sem]; exact hk.trans (kept_app _ _ _)⟩
   have := congrArg (List.drop 1) hrd
   rwa [List.drop_drop, encL_dropE, List.drop_drop] at this
  ·rw [if_neg (by simp [hp])] at htk
   obtain ⟨r0, hr0⟩ : ∃ r0, rows[q]? = some r0 := ⟨_, List.getElem?_eq_getElem (by omega)⟩
   have hr0l := hre r0 (List.mem_of_getElem? hr0)
   have hr0d : r0.drop 5 = [] := List.drop_of_length_le (by omega)
   have hqn : q < n := by omega
   simp -dsimp -implicitDefEqProofs [-getElem?_pos, go_sem, hP, t0, t5, t6, h0, lt0, hr0, hr0l, hr0d, hqn, wj, wq]
   refine ⟨n - (j + 1), by omega, ?_⟩
   rw [hI]
   refine ⟨j + 1, q + 1, ks ++ [x], rows.set q (TPayment.cells x), htk.symm, by simp; omega, by omega, rfl, by omega, by simp; omega, fun e he => ?_, ?_, ?_, by simp -dsimp [-getElem?_pos, go_sem, t0], by simp -dsimp [-getElem?_pos, go_sem, t1], by simp -dsimp [-getElem?_pos, go_sem], by simp -dsimp [-getElem?_pos, go_sem], by simp -dsimp [-getElem?_pos, go_sem, lt0, TPayment.cells], by simp -dsimp [-getElem?_pos, go_sem]; exact (kept_set _ (by simp) hk).trans (kept_app _ _ _)⟩
   ·rcases List.mem_or_eq_of_mem_set he with he | rfl
    ·exact hre e he
    ·exact hxl
   ·rw [List.take_add_one, List.take_set_of_le (by omega), hrt, List.getElem?_set_self (by omega), ← encL_appE]
    rfl
   ·have := congrArg (List.drop 1) hrd
    rw [List.drop_drop, encL_dropE, List.drop_drop] at this
    rw [List.drop_set_of_lt (by omega)]
    exact this
 ·have hj : j = n := by simp at hh; omega
  subst hj
  have hkl : ks = l.filter fun a => !p a := by rw [hks, hn, List.take_length]
  have hqn : q ≤ j := by omega
  have hqn1 : ¬ q = j := by omega
  have hqn2 : ¬ (q : Int) = j := by omega
  have sx : ∀ (id n : Nat), (if q = 0 then some (AV.sref id 0 n) else some (AV.sref id q (n - q))) = some (.sref id q (n - q)) := fun id n => by
   split
   ·rename_i h0; rw [h0, Nat.sub_zero]
   ·rfl
  simp -dsimp -implicitDefEqProofs [-getElem?_pos, go_sem, hP, t0, t5, h0, asliceOp, bound, aslice, hqn, hqn1, hqn2, sx]
  refine buiB_clearE (e := 44) (es' := encL TPayment.cells ks ++ List.replicate (j - q) zs) h0 (.inl rfl) (by rw [hP]; kernel_rfl) (by rw [hP]; kernel_rfl) (by omega) (by rw [hP]; exact hz) (by omega) (by omega) ?_ ?_
  ·rw [hrt, List.drop_of_length_le (by omega), List.append_nil]
  simp -dsimp -implicitDefEqProofs [-getElem?_pos, go_sem, hP, t0, t5, lt0, asliceOp, bound, aslice, hqn, hqn1, hqn2, sx]
  rw [hC, ← hkl]
  exact ⟨List.replicate (j - q) zs, by rw [hq], by simp [lt0], kept_set _ (by simp) hk⟩
theorem index_mT_pay {row src : Option Nat} (l : List TPayment) (x : AV) (H : Heap) (g : FuncId) (caps : List AV) (p : TPayment → Bool) (hx : SlIsT H x 5 (encL TPayment.cells l)) (hl : l.length ≤ 1000000) (hen : enterable Tryz.prog g = true)
  (hg : ∀ a, a ∈ l → ∀ H', Kept [] H H' → MFun Tryz.prog row src g (.agg (TPayment.cells a) :: caps) H' (fun r H'' => r = bv (p a) ∧ Kept [] H' H'')) :
  MFun Tryz.prog row src 165 [x, .fn g caps] H (fun r H' => r = iv (idxI p l) ∧ Kept [] H H') := by
 refine mfun_intro Tryz.func165 rfl (by simp [Tryz.f165]) (by kernel_rfl) ⟨_, H, rfl, kept_refl _ _⟩ ?_
 intro E hP hr hs hN
 have hlen := hx.len
 rw [encL_len] at hlen
 simp -dsimp -implicitDefEqProofs [-getElem?_pos, go_sem, hP, hlen]
 obtain ⟨I, hI⟩ : ∃ I : Nat → St → Prop, I = fun m s => ∃ k : Nat, k ≤ l.length ∧ m = l.length - k ∧ idxI p l = idxFrom p k (l.drop k) ∧ s.t 0 = x ∧ s.t 1 = .fn g caps ∧ s.t 7 = iv l.length ∧ s.t 8 = iv k ∧ Kept [] H s.H := ⟨_, rfl⟩
 refine aloop0 I l.length (by rw [hN]; rfl) ?_ ?_
 ·rw [hI]
  exact ⟨0, by omega, by omega, by simp [idxI], by simp -dsimp [-getElem?_pos, go_sem], by simp -dsimp [-getElem?_pos, go_sem], by simp -dsimp [-getElem?_pos, go_sem], by simp -dsimp [-getElem?_pos, go_sem], by simp -dsimp [-getElem?_pos, go_sem]; exact kept_refl _ _⟩
 intro m s hs'
 rw [hI] at hs'
 obtain ⟨k, hk, hm, hi, t0, t1, t7, t8, hKp⟩ := hs'
 simp -dsimp -implicitDefEqProofs [-getElem?_pos, go_sem, hP, t7, t8]
 refine condP (fun h => ?_) (fun h => ?_)
 ·have hk : k < l.length := by simpa using h
  obtain ⟨a, ha⟩ : ∃ a, l[k]? = some a := ⟨_, List.getElem?_eq_getElem hk⟩
  have wk := wrap_in ((k : Int) + 1) (by omega)
  obtain ⟨ad, h1, h2⟩ := (hx.kept hKp).idx (P := Tryz.prog) (t := 29) (e := 44) el_29 (by rw [sz_44]) kn_44 k (by rw [encL_len]; exact hk)
  have h2' : addrCells s.H ad = some (TPayment.cells a) := by
   rw [h2]
   have := encL_get TPayment.cells l k
   rw [ha, List.getElem?_eq_getElem (by rw [encL_len]; exact hk)] at this
   exact this
  have hz : (TPayment.cells a).take 5 = TPayment.cells a := List.take_of_length_le (by rw [TPayment.len]; omega)
  simp -dsimp -implicitDefEqProofs [-getElem?_pos, go_sem, hP, t8, t1, t0, h1, h2', TPayment.len, hz]
  have hd : l.drop k = a :: l.drop (k + 1) := by
   rw [List.getElem?_eq_getElem hk] at ha
   rw [List.drop_eq_getElem_cons hk, Option.some.inj ha]
  refine callB_m (by rw [hr, hs]; exact hg a (List.mem_of_getElem? ha) s.H hKp) hP hen ?_
  rintro r H' ⟨rfl, hK2⟩
  rw [hd] at hi
  simp only [idxFrom] at hi
  simp -dsimp -implicitDefEqProofs [-getElem?_pos, go_sem, hP]
  refine condP (fun hp => ?_) (fun hp => ?_)
  ·rw [if_pos hp] at hi
   simp -dsimp -implicitDefEqProofs [-getElem?_pos, go_sem, hP]
   exact ⟨hi.symm, hKp.trans hK2⟩
  ·rw [hp, if_neg (by simp)] at hi
   simp -dsimp -implicitDefEqProofs [-getElem?_pos, go_sem, hP, t8, wk]
   refine ⟨l.length - (k + 1), by omega, ?_⟩
   rw [hI]
   exact ⟨k + 1, by omega, rfl, hi, by simp -dsimp [-getElem?_pos, go_sem, t0], by simp -dsimp [-getElem?_pos, go_sem, t1], by simp -dsimp [-getElem?_pos, go_sem, t7], by simp -dsimp [-getElem?_pos, go_sem], by simp -dsimp [-getElem?_pos, go_sem]; exact hKp.trans hK2⟩
 ·have hk : k = l.length := by simp at h; omega
  subst hk
  rw [List.drop_length] at hi
  simp -dsimp -implicitDefEqProofs [-getElem?_pos, go_sem, hP]
  exact ⟨hi.symm, hKp⟩
set_option maxHeartbeats 4000000 in
theorem deleteFuncM_pay {row src : Option Nat} (l : List TPayment) (tl0 : List (List AV)) (id : Nat) (H : Heap) (g : FuncId) (caps : List AV) (p : TPayment → Bool) (hl : l.length ≤ 100000) (ho : H[id]? = some (some ⟨44, 5, encL TPayment.cells l ++ tl0⟩)) (hen : enterable Tryz.prog g = true)
  (hg : ∀ a, a ∈ l → ∀ H', Kept [id] H H' → MFun Tryz.prog row src g (.agg (TPayment.cells a) :: caps) H' (fun r H'' => r = bv (p a) ∧ Kept [] H' H'')) :
  MFun Tryz.prog row src 125 [.sref id 0 l.length, .fn g caps] H (fun r H' => ∃ tl, r = .sref id 0 (l.filter fun a => !p a).length ∧ H'[id]? = some (some ⟨44, 5, encL TPayment.cells (l.filter fun a => !p a) ++ tl⟩) ∧ Kept [id] H H') := by
 obtain ⟨C, hC⟩ : ∃ C : AV → Heap → Prop, C = fun r H' => ∃ tl, r = .sref id 0 (l.filter fun a => !p a).length ∧ H'[id]? = some (some ⟨44, 5, encL TPayment.cells (l.filter fun a => !p a) ++ tl⟩) ∧ Kept [id] H H' := ⟨_, rfl⟩
 rw [← hC]
 have lid := (gsI ho)
 have ex : ∃ r H', C r H' := by
  rw [hC]
  exact ⟨_, H.set id (some ⟨44, 5, encL TPayment.cells (l.filter fun a => !p a) ++ []⟩), [], rfl, by simp [lid], kept_set _ (by simp) (kept_refl _ _)⟩
 obtain ⟨zs, hz⟩ := Option.isSome_iff_exists.1 (show (zeros Tryz.prog 44).isSome = true by kernel_rfl)
 obtain ⟨n, hn⟩ : ∃ n, n = l.length := ⟨_, rfl⟩
 refine mfun_intro Tryz.func125 rfl (by simp [Tryz.f125]) (by kernel_rfl) (ex) ?_
 intro E hP hr hs hN
 simp -dsimp -implicitDefEqProofs [-getElem?_pos, go_sem, hP]
 refine callB_m (by rw [hr, hs]; exact index_mT_pay l (.sref id 0 l.length) H g caps p (.inr (.inr ⟨id, 44, tl0, by rw [encL_len], ho⟩)) (by omega) hen (fun a ha H' hk => hg a ha H' (hk.mono (by simp)))) hP en_165 ?_
 rintro r H1 ⟨rfl, hk1⟩
 have ho1 := hk1 _ _ (by simp) ho
 have k1 : Kept [id] H H1 := hk1.mono (by simp)
 rcases idxI_spec p l with ⟨h1, h2⟩ | ⟨i, a, ha, hpa, h3, h4⟩
 ·have hf : (l.filter fun a => !p a) = l := List.filter_eq_self.2 fun a ha => by simp [h2 a ha]
  simp -dsimp -implicitDefEqProofs [-getElem?_pos, go_sem, hP, h1]
  rw [hC, hf]
  exact ⟨tl0, rfl, ho1, k1⟩
 have hi1 : ¬ ((i : Int) = -1) := by omega
 have hil := (gsI ha)
 have w1 := wrap_in ((i : Int) + 1) (by omega)
 have kept0 : (l.take (i + 1)).filter (fun a => !p a) = l.take i := by
  rw [List.take_add_one, ha, List.filter_append, Option.toList_some, List.filter_cons_of_neg (by simp [hpa]), List.filter_nil, List.append_nil]
  refine List.filter_eq_self.2 fun x hx => ?_
  obtain ⟨j, hj⟩ := List.getElem?_of_mem hx
  rw [List.getElem?_take] at hj
  split at hj
  ·simp [h4 j x (by assumption) hj]
  ·cases hj
 simp -dsimp -implicitDefEqProofs [-getElem?_pos, go_sem, hP, h3, hi1, w1]
 obtain ⟨I, hI⟩ : ∃ I : Nat → St → Prop, I = fun m s => ∃ (j q : Nat) (ks : List TPayment) (rows : List (List AV)), ks = ((l.take j).filter fun a => !p a) ∧ q = ks.length ∧ j ≤ n ∧ m = n - j ∧ q < j ∧ n ≤ rows.length ∧ (∀ i e, i < n → rows[i]? = some e → e.length = 5) ∧ rows.take q = encL TPayment.cells ks ∧ rows.drop j = encL TPayment.cells (l.drop j) ++ tl0 ∧ s.t 0 = .sref id 0 n ∧ s.t 1 = .fn g caps ∧ s.t 5 = iv q ∧ s.t 6 = iv j ∧ s.H[id]? = some (some ⟨44, 5, rows⟩) ∧ Kept [id] H s.H := ⟨_, rfl⟩
 refine aloop0 I (n - (i + 1)) (by rw [hN]; rfl) ?_ ?_
 ·rw [hI]
  refine ⟨i + 1, i, l.take i, encL TPayment.cells l ++ tl0, kept0.symm, by simp; omega, by omega, by omega, by omega, by rw [List.length_append, encL_len]; omega, fun i' e hi' he => ?_, ?_, ?_, by simp -dsimp [-getElem?_pos, go_sem, hn], by simp -dsimp [-getElem?_pos, go_sem], by simp -dsimp [-getElem?_pos, go_sem], by simp -dsimp [-getElem?_pos, go_sem], by simp -dsimp [-getElem?_pos, go_sem, ho1], by simp -dsimp [-getElem?_pos, go_sem]; exact k1⟩
  ·rw [List.getElem?_append_left (by rw [encL_len]; omega)] at he
   obtain ⟨x, _, rfl⟩ := List.mem_map.1 (List.mem_of_getElem? he)
   exact TPayment.len x
  ·rw [List.take_append_of_le_length (by rw [encL_len]; omega), encL_takeE]
  ·rw [List.drop_append_of_le_length (by rw [encL_len]; omega), encL_dropE]
 intro m s hs'
 rw [hI] at hs'
 obtain ⟨j, q, ks, rows, hks, hq, hjn, hm, hqj, hrl, hre, hrt, hrd, t0, t1, t5, t6, h0, hk⟩ := hs'
 have lt0 := (gsI h0)
 simp -dsimp -implicitDefEqProofs [-getElem?_pos, go_sem, hP, t0, t6, h0]
 refine condP (fun hh => ?_) (fun hh => ?_)
 ·have hj : j < n := by simpa using hh
  obtain ⟨x, hx⟩ : ∃ x, l[j]? = some x := ⟨_, List.getElem?_eq_getElem (by omega)⟩
  have wj := wrap_in ((j : Int) + 1) (by omega)
  have wq := wrap_in ((q : Int) + 1) (by omega)
  have hjr : j < rows.length := by omega
  have hrow : rows[j]? = some (TPayment.cells x) := by
   have := congrArg (·[0]?) hrd
   simp only [List.getElem?_drop, Nat.add_zero] at this
   rw [List.getElem?_append_left (by rw [encL_len, List.length_drop]; omega), encL_getE, List.getElem?_drop, Nat.add_zero, hx] at this
   simpa using this
  have htk : (l.take (j + 1)).filter (fun a => !p a) = if p x = true then ks else ks ++ [x] := by
   rw [List.take_add_one, hx, List.filter_append, Option.toList_some, ← hks]
   by_cases hpx : p x = true <;> simp [hpx, List.filter_cons]
  have hxl := TPayment.len x
  have hgx := hg x (List.mem_of_getElem? hx) (s.H ++ [some ⟨44, 5, [TPayment.cells x]⟩]) (hk.trans (kept_app _ _ _))
  have hd1 : rows.drop (j + 1) = encL TPayment.cells (l.drop (j + 1)) ++ tl0 := by
   have := congrArg (List.drop 1) hrd
   rw [List.drop_drop, List.drop_append_of_le_length (by rw [encL_len, List.length_drop]; omega), encL_dropE, List.drop_drop] at this
   exact this
  simp -dsimp -implicitDefEqProofs [-getElem?_pos, go_sem, hP, t0, t6, h0, hrow, hj, hjr, TPayment.cells]
  simp -dsimp -implicitDefEqProofs [-getElem?_pos, go_sem, hP, t1]
  simp only [TPayment.cells] at hgx
  refine callB_m (by rw [hr, hs]; exact hgx) hP hen ?_
  rintro r H2 ⟨rfl, hk2⟩
  have e0 := hk2 _ _ (by simp) (show (s.H ++ [some (⟨44, 5, [TPayment.cells x]⟩ : AObj)])[id]? = some (some ⟨44, 5, rows⟩) by rw [List.getElem?_append_left lt0]; exact h0)
  have ex0 := hk2 _ _ (by simp) (show (s.H ++ [some (⟨44, 5, [TPayment.cells x]⟩ : AObj)])[s.H.length]? = some (some ⟨44, 5, [TPayment.cells x]⟩) by simp)
  simp only [TPayment.cells] at ex0
  have lt2 := (gsI e0)
  have ltx := (gsI ex0)
  have kk2 : Kept [id] H H2 := (hk.trans (kept_app _ _ _)).trans (hk2.mono (by simp))
  simp -dsimp -implicitDefEqProofs [-getElem?_pos, go_sem, hP]
  refine condP (fun hp => ?_) (fun hp => ?_)
  ·rw [if_pos hp] at htk
   simp -dsimp -implicitDefEqProofs [-getElem?_pos, go_sem, hP, t6, wj]
   refine ⟨n - (j + 1), by omega, ?_⟩
   rw [hI]
   exact ⟨j + 1, q, ks, rows, htk.symm, hq, by omega, rfl, by omega, hrl, hre, hrt, hd1, by simp -dsimp [-getElem?_pos, go_sem, t0], by simp -dsimp [-getElem?_pos, go_sem, t1], by simp -dsimp [-getElem?_pos, go_sem, t5], by simp -dsimp [-getElem?_pos, go_sem], by simp -dsimp [-getElem?_pos, go_sem, e0, lt2], by simp -dsimp [-getElem?_pos, go_sem]; exact kk2⟩
  ·rw [if_neg (by simp [hp])] at htk
   obtain ⟨r0, hr0⟩ : ∃ r0, rows[q]? = some r0 := ⟨_, List.getElem?_eq_getElem (by omega)⟩
   have hr0l := hre q r0 (by omega) hr0
   have hr0d : r0.drop 5 = [] := List.drop_of_length_le (by omega)
   have hqn : q < n := by omega
   have hqr : q < rows.length := by omega
   simp -dsimp -implicitDefEqProofs [-getElem?_pos, go_sem, hP, t0, t5, t6, e0, lt2, ex0, ltx, hr0, hr0l, hr0d, hqn, hqr, wj, wq]
   refine ⟨n - (j + 1), by omega, ?_⟩
   rw [hI]
   refine ⟨j + 1, q + 1, ks ++ [x], rows.set q (TPayment.cells x), htk.symm, by simp; omega, by omega, rfl, by omega, by simp; omega, fun i' e hi' he => ?_, ?_, ?_, by simp -dsimp [-getElem?_pos, go_sem, t0], by simp -dsimp [-getElem?_pos, go_sem, t1], by simp -dsimp [-getElem?_pos, go_sem], by simp -dsimp [-getElem?_pos, go_sem], by simp -dsimp [-getElem?_pos, go_sem, lt2, TPayment.cells], by simp -dsimp [-getElem?_pos, go_sem]; exact kept_set _ (by simp) kk2⟩
   ·rw [List.getElem?_set] at he
    simp only [hqr, if_true] at he
    split at he
    ·cases he
     exact hxl
    ·exact hre i' e hi' he
   ·rw [List.take_add_one, List.take_set_of_le (by omega), hrt, List.getElem?_set_self (by omega), ← encL_appE]
    rfl
   ·rw [List.drop_set_of_lt (by omega)]
    exact hd1
 ·have hj : j = n := by simp at hh; omega
  subst hj
  have hkl : ks = l.filter fun a => !p a := by rw [hks, hn, List.take_length]
  have hqn : q ≤ j := by omega
  have hqn1 : ¬ q = j := by omega
  have hqn2 : ¬ (q : Int) = j := by omega
  have hrd0 : rows.drop j = tl0 := by rw [hrd, List.drop_of_length_le (by omega)]; rfl
  have sx : ∀ (id n : Nat), (if q = 0 then some (AV.sref id 0 n) else some (AV.sref id q (n - q))) = some (.sref id q (n - q)) := fun id n => by
   split
   ·rename_i h0; rw [h0, Nat.sub_zero]
   ·rfl
  simp -dsimp -implicitDefEqProofs [-getElem?_pos, go_sem, hP, t0, t5, h0, asliceOp, bound, aslice, hqn, hqn1, hqn2, sx]
  refine buiB_clearE (e := 44) (es' := encL TPayment.cells ks ++ (List.replicate (j - q) zs ++ tl0)) h0 (.inl rfl) (by rw [hP]; kernel_rfl) (by rw [hP]; kernel_rfl) (by omega) (by rw [hP]; exact hz) (by omega) (by omega) ?_ ?_
  ·rw [hrt, show q + (j - q) = j by omega, hrd0, List.append_assoc]
  simp -dsimp -implicitDefEqProofs [-getElem?_pos, go_sem, hP, t0, t5, lt0, asliceOp, bound, aslice, hqn, hqn1, hqn2, sx]
  rw [hC, ← hkl]
  exact ⟨List.replicate (j - q) zs ++ tl0, by rw [hq], by simp [lt0], kept_set _ (by simp) hk⟩
open Go.PA
open Go.RowKit
set_option maxRecDepth 8000 in
set_option maxHeartbeats 2000000 in
theorem insert_m_int {row src : Option Nat} (es : List (List AV)) (e : List AV) (i id : Nat) (H : Heap) (hi : i ≤ es.length) (hl : es.length ≤ 100000) (ho : H[id]? = some (some ⟨3, 1, es⟩)) (he0 : e ≠ []) :
  MFun Tryz.prog row src 138 [.sref id 0 es.length, iv i, .list 1 [e]] H (fun r H' => ∃ jd, r = .sref jd 0 (es.length + 1) ∧ (jd = id ∨ H.length ≤ jd) ∧ H'[jd]? = some (some ⟨3, 1, es.take i ++ e :: es.drop i⟩) ∧ Kept [id] H H') := by
 obtain ⟨C, hC⟩ : ∃ C : AV → Heap → Prop, C = fun r H' => ∃ jd, r = .sref jd 0 (es.length + 1) ∧ (jd = id ∨ H.length ≤ jd) ∧ H'[jd]? = some (some ⟨3, 1, es.take i ++ e :: es.drop i⟩) ∧ Kept [id] H H' := ⟨_, rfl⟩
 rw [← hC]
 have ex : ∃ r H', C r H' := by
  rw [hC]
  exact ⟨.sref H.length 0 (es.length + 1), H ++ [some ⟨3, 1, es.take i ++ e :: es.drop i⟩], H.length, rfl, .inr (Nat.le_refl _), by simp, kept_app _ _ _⟩
 have lid := (gsI ho)
 obtain ⟨n, hn⟩ : ∃ n, n = es.length := ⟨_, rfl⟩
 rw [← hn] at hi hl hC ⊢
 by_cases hin : i = n
 ·subst hin
  refine mfun_intro Tryz.func138 rfl (by simp [Tryz.f138]) (by kernel_rfl) (ex) ?_
  intro E hP hr hs hN
  by_cases h0 : i = 0
  ·subst h0
   simp -dsimp -implicitDefEqProofs [-getElem?_pos, go_sem, hP, ho, ← hn, asliceOp, bound, aslice]
   rw [hC]
   exact ⟨H.length, rfl, .inr (Nat.le_refl _), by simp -dsimp [-getElem?_pos, go_sem, List.eq_nil_of_length_eq_zero hn.symm], (kept_set none (by simp) (kept_refl _ _)).trans (kept_app _ _ _)⟩
  ·simp -dsimp -implicitDefEqProofs [-getElem?_pos, go_sem, hP, ho, ← hn, h0, asliceOp, bound, aslice]
   refine ⟨by omega, by omega, ?_⟩
   rw [hC]
   exact ⟨H.length, rfl, .inr (Nat.le_refl _), by simp -dsimp [-getElem?_pos, go_sem, hn], (kept_set none (by simp) (kept_refl _ _)).trans (kept_app _ _ _)⟩
 ·have hlt : i < n := by omega
  have hin' : ¬ (i : Int) = n := by omega
  have w1 := wrap_in ((n : Int) + 1) (by omega)
  have w2 := wrap_in ((i : Int) + 1) (by omega)
  have w3 := wrap_in ((n : Int) + 1 - i) (by omega)
  have hesne : es ≠ [] := by intro e0; simp [e0] at hn; omega
  refine mfun_unfull (C := fun r H' => C r H' ∨ ∃ N, r = .full id 0 (n + 1) N ∧ ∃ o, H'[id]? = some (some o) ∧ n + 1 ≤ o.es.length ∧ C (.sref id 0 (n + 1)) H') ?_ (fun r H' h => ?_)
  rotate_left
  ·rcases h with h | ⟨N, h1, o, h2, h3, h4⟩
   ·exact .inl h
   ·exact .inr ⟨id, n + 1, N, o, h1, h2, h3, h4⟩
  refine mfun_full ho hesne (by dsimp only; omega) fun N hN0 => ?_
  dsimp only at hN0
  obtain ⟨D, hD⟩ : ∃ D : AV → Heap → Prop, D = fun r H' => C r H' ∨ ∃ N, r = .full id 0 (n + 1) N ∧ ∃ o, H'[id]? = some (some o) ∧ n + 1 ≤ o.es.length ∧ C (.sref id 0 (n + 1)) H' := ⟨_, rfl⟩
  rw [← hD]
  have exD : ∃ r H', D r H' := by
   obtain ⟨r, H', h⟩ := ex
   rw [hD]
   exact ⟨r, H', .inl h⟩
  have fx : ∀ (id n N : Nat), (if i = 0 then some (AV.full id 0 n N) else some (AV.full id i (n - i) N)) = some (.full id i (n - i) N) := fun id n N => by
   split
   ·subst i; rfl
   ·rfl
  have nN : n ≤ N := by omega
  have iN : i ≤ N := by omega
  have a1 : (0 : Int) ≤ (n : Int) + 1 := by omega
  have a3 : (0 : Int) ≤ (i : Int) + 1 := by omega
  have a4 : (i : Int) + 1 ≤ (n : Int) + 1 := by omega
  refine mfun_intro Tryz.func138 rfl (by simp [Tryz.f138]) (by kernel_rfl) (exD) ?_
  intro E hP hr hs hN
  by_cases hroom : N < n + 1
  ·have dN : decide ((N : Int) < (n : Int) + 1) = true := decide_eq_true (by omega)
   obtain ⟨zs, hz⟩ := Option.isSome_iff_exists.1 (show (zeros Tryz.prog 3).isSome = true by kernel_rfl)
   have hbt : bytesOf Tryz.prog 3 = 8 := by kernel_rfl
   have hm : (n : Int) + 1 - i = ((n + 1 - i : Nat) : Int) := by omega
   have sx : ∀ (id n : Nat), (if i = 0 then some (AV.sref id 0 n) else some (AV.sref id i (n - i))) = some (.sref id i (n - i)) := fun id n => by
    split
    ·subst i; rfl
    ·rfl
   simp -dsimp -implicitDefEqProofs [-getElem?_pos, go_sem, hP, dN, ho, ← hn, hin, hin', asliceOp, bound, aslice, w1, w2, w3, hroom, hi, nN, iN, a1, a3, a4, fx]
   refine buiB_makeE (e := 3) (m := n + 1 - i) (L := n + 1) (kn := .i64) (zs := zs) ho (by rw [hP]; kernel_rfl) (by rw [hP]; kernel_rfl) (by rw [hP]; kernel_rfl) (by omega) rfl (by rw [hP]; exact hz) (by omega) hm (by omega) (by omega) hroom (by omega) (by rw [hP, hbt]; omega) ?_
   have ho2 : (H ++ [some (⟨3, 1, es.take i ++ List.replicate (n + 1 - i) zs⟩ : AObj)])[id]? = some (some ⟨3, 1, es⟩) := by rw [List.getElem?_append_left lid]; exact ho
   have hl1 : (es.take i ++ List.replicate (n + 1 - i) zs).length = n + 1 := by simp; omega
   have a7 : (i : Int) ≤ (n : Int) + 1 := by omega
   have a8 : ¬ ((i : Int) = (n : Int) + 1) := by omega
   have a9 : i ≤ n + 1 := by omega
   have a10 : ¬ i = n + 1 := by omega
   have hA : (es.take i).length = i := by simp; omega
   have d1 : (es.take i ++ List.replicate (n + 1 - i) zs).drop (i + 1) = List.replicate (n - i) zs := by
    rw [List.drop_append, List.drop_of_length_le (by omega), hA, List.nil_append, List.drop_replicate]
    congr 1
    omega
   simp -dsimp -implicitDefEqProofs [-getElem?_pos, go_sem, hP, ho2, asliceOp, bound, aslice, a7, a8, a9, a10, sx]
   refine buiB_copyE (e := 3) (ty := 3) (k := 1) (lo := i) (dn := n + 1 - i) (m := 1) (es := es.take i ++ List.replicate (n + 1 - i) zs) (news := [e]) (es' := es.take i ++ e :: List.replicate (n - i) zs) (by simp) (.inl rfl) (by rw [hP]; kernel_rfl) (by rw [hP]; kernel_rfl) (by omega) (by rw [hP]; kernel_rfl) ?_ rfl (by omega) (by omega) (by simp; omega) ?_ ?_
   ·simp only [srcEs]
    rw [if_pos (by rw [hP]; kernel_rfl)]
   ·rw [d1, List.take_append_of_le_length (by omega), List.take_of_length_le (by omega)]
    simp
   have ho3 : (H ++ [some (⟨3, 1, es.take i ++ e :: List.replicate (n - i) zs⟩ : AObj)])[id]? = some (some ⟨3, 1, es⟩) := by rw [List.getElem?_append_left lid]; exact ho
   have a5 : ¬ ((i : Int) + 1 = 0) := by omega
   have a6 : ((n : Int) + 1 - ((i : Int) + 1)).toNat = n - i := by omega
   have a11 : ¬ ((i : Int) + 1 = (n : Int) + 1) := by omega
   simp -dsimp -implicitDefEqProofs [-getElem?_pos, go_sem, hP]
   refine adrawB (fun _ => true) [8] hP (by kernel_rfl) (by kernel_rfl) ?_
   simp -dsimp -implicitDefEqProofs [-getElem?_pos, go_sem, hP, ho3, ← hn, hin, hin', asliceOp, bound, aslice, w1, w2, hi, nN, iN, a1, a3, a4, a5, a6, a7, a8, a11, fx, sx]
   refine buiB_copyE (e := 3) (ty := 3) (k := 1) (lo := i + 1) (dn := n - i) (m := n - i) (es := es.take i ++ e :: List.replicate (n - i) zs) (news := es.drop i) (es' := es.take i ++ e :: es.drop i) (by simp) (.inl rfl) (by rw [hP]; kernel_rfl) (by rw [hP]; kernel_rfl) (by omega) (by rw [hP]; kernel_rfl) ?_ (by simp [← hn]) (by omega) (by omega) (by simp; omega) ?_ ?_
   ·simp only [srcEs, ho3]
    rw [if_pos ⟨by rw [hP]; kernel_rfl, by omega⟩, List.take_of_length_le (by simp; omega)]
   ·rw [show es.take i ++ e :: List.replicate (n - i) zs = (es.take i ++ [e]) ++ List.replicate (n - i) zs from by simp, List.take_append_of_le_length (by simp; omega), List.take_of_length_le (by simp; omega), List.drop_of_length_le (show ((es.take i ++ [e]) ++ List.replicate (n - i) zs).length ≤ i + 1 + (n - i) by simp; omega)]
    simp
   simp -dsimp -implicitDefEqProofs [-getElem?_pos, go_sem, hP]
   rw [hD, hC]
   exact .inl ⟨H.length, rfl, .inr (Nat.le_refl _), by simp, kept_app _ _ _⟩
  ·have dN : decide ((N : Int) < (n : Int) + 1) = false := decide_eq_false (by omega)
   have a2 : (n : Int) + 1 ≤ N := by omega
   have a5 : ¬ ((i : Int) + 1 = 0) := by omega
   have a6 : ((n : Int) + 1 - ((i : Int) + 1)).toNat = n - i := by omega
   have a7 : (i : Int) ≤ (n : Int) + 1 := by omega
   have a8 : ¬ ((i : Int) = (n : Int) + 1) := by omega
   simp -dsimp -implicitDefEqProofs [-getElem?_pos, go_sem, hP, dN, ho, ← hn, hin, hin', asliceOp, bound, aslice, w1, w2, w3, hroom, hi, nN, iN, a1, a2, a3, a4, a5, a6, a7, a8, fx]
   refine callB_overlapsL (t := 22) (e := 3) (tR := 4) (fn := Tryz.f175) (id' := id) (lo' := i + 1) (dn' := n - i) (by rw [hP]; exact Tryz.func175) (by kernel_rfl) (by kernel_rfl) (by kernel_rfl) (by kernel_rfl) (by rw [hP]; kernel_rfl) (by rw [hP]; kernel_rfl) he0 (.inr ⟨N, rfl⟩) ho (by omega) ?_
   simp -dsimp -implicitDefEqProofs [-getElem?_pos, go_sem, hP]
   refine adrawB (fun _ => true) [8] hP (by kernel_rfl) (by kernel_rfl) ?_
   simp -dsimp -implicitDefEqProofs [-getElem?_pos, go_sem, hP, dN, ho, ← hn, hin, hin', asliceOp, bound, aslice, w1, w2, w3, hroom, hi, nN, iN, a1, a2, a3, a4, a5, a6, a7, a8, fx]
   refine buiB_copyS (e := 3) (lo := i + 1) (dn := n - i) (news := es.drop i) (es' := es.take (i + 1) ++ es.drop i) ho (.inr ⟨N, rfl⟩) (by rw [hP]; kernel_rfl) (by rw [hP]; kernel_rfl) (by omega) (by rw [hP]; kernel_rfl) ?_ (by simp [← hn]) (by omega) (by omega) (by omega) (by rw [List.drop_of_length_le (show es.length ≤ i + 1 + (n - i) by omega), List.append_nil]) ?_
   ·simp only [srcEs, ho]
    rw [if_pos ⟨by rw [hP]; kernel_rfl, by omega⟩, List.take_of_length_le (by simp; omega)]
   simp -dsimp -implicitDefEqProofs [-getElem?_pos, go_sem, hP, lid, ho, asliceOp, bound, aslice, a2, a7, a8, fx]
   refine buiB_copyE (e := 3) (ty := 3) (k := 1) (lo := i) (dn := n + 1 - i) (m := 1) (es := es.take (i + 1) ++ es.drop i) (news := [e]) (es' := es.take i ++ e :: es.drop i) (by simp [lid]) (.inr ⟨N, rfl⟩) (by rw [hP]; kernel_rfl) (by rw [hP]; kernel_rfl) (by omega) (by rw [hP]; kernel_rfl) ?_ rfl (by omega) (by omega) (by simp [← hn]; omega) ?_ ?_
   ·simp only [srcEs]
    rw [if_pos (by rw [hP]; kernel_rfl)]
   ·rw [List.take_append_of_le_length (by simp; omega), List.take_take, Nat.min_eq_left (by omega), List.drop_append_of_le_length (by simp; omega), List.drop_of_length_le (by simp; omega)]
    simp
   simp -dsimp -implicitDefEqProofs [-getElem?_pos, go_sem, hP, lid]
   rw [hD, hC]
   simp only [List.set_set]
   exact .inr ⟨N, rfl, ⟨3, 1, es.take i ++ e :: es.drop i⟩, by simp [lid], by simp [← hn]; omega, id, rfl, .inl rfl, by simp [lid], kept_set _ (by simp) (kept_refl _ _)⟩
set_option maxRecDepth 8000 in
set_option maxHeartbeats 2000000 in
theorem insert_m_pay {row src : Option Nat} (es : List (List AV)) (e : List AV) (i id : Nat) (H : Heap) (hi : i ≤ es.length) (hl : es.length ≤ 100000) (ho : H[id]? = some (some ⟨44, 5, es⟩)) (he0 : e ≠ []) :
  MFun Tryz.prog row src 174 [.sref id 0 es.length, iv i, .list 5 [e]] H (fun r H' => ∃ jd, r = .sref jd 0 (es.length + 1) ∧ (jd = id ∨ H.length ≤ jd) ∧ H'[jd]? = some (some ⟨44, 5, es.take i ++ e :: es.drop i⟩) ∧ Kept [id] H H') := by
 obtain ⟨C, hC⟩ : ∃ C : AV → Heap → Prop, C = fun r H' => ∃ jd, r = .sref jd 0 (es.length + 1) ∧ (jd = id ∨ H.length ≤ jd) ∧ H'[jd]? = some (some ⟨44, 5, es.take i ++ e :: es.drop i⟩) ∧ Kept [id] H H' := ⟨_, rfl⟩
 rw [← hC]
 have ex : ∃ r H', C r H' := by
  rw [hC]
  exact ⟨.sref H.length 0 (es.length + 1), H ++ [some ⟨44, 5, es.take i ++ e :: es.drop i⟩], H.length, rfl, .inr (Nat.le_refl _), by simp, kept_app _ _ _⟩
 have lid := (gsI ho)
 obtain ⟨n, hn⟩ : ∃ n, n = es.length := ⟨_, rfl⟩
 rw [← hn] at hi hl hC ⊢
 by_cases hin : i = n
 ·subst hin
  refine mfun_intro Tryz.func174 rfl (by simp [Tryz.f174]) (by kernel_rfl) (ex) ?_
  intro E hP hr hs hN
  by_cases h0 : i = 0
  ·subst h0
   simp -dsimp -implicitDefEqProofs [-getElem?_pos, go_sem, hP, ho, ← hn, asliceOp, bound, aslice]
   rw [hC]
   exact ⟨H.length, rfl, .inr (Nat.le_refl _), by simp -dsimp [-getElem?_pos, go_sem, List.eq_nil_of_length_eq_zero hn.symm], (kept_set none (by simp) (kept_refl _ _)).trans (kept_app _ _ _)⟩
  ·simp -dsimp -implicitDefEqProofs [-getElem?_pos, go_sem, hP, ho, ← hn, h0, asliceOp, bound, aslice]
   refine ⟨by omega, by omega, ?_⟩
   rw [hC]
   exact ⟨H.length, rfl, .inr (Nat.le_refl _), by simp -dsimp [-getElem?_pos, go_sem, hn], (kept_set none (by simp) (kept_refl _ _)).trans (kept_app _ _ _)⟩
 ·have hlt : i < n := by omega
  have hin' : ¬ (i : Int) = n := by omega
  have w1 := wrap_in ((n : Int) + 1) (by omega)
  have w2 := wrap_in ((i : Int) + 1) (by omega)
  have w3 := wrap_in ((n : Int) + 1 - i) (by omega)
  have hesne : es ≠ [] := by intro e0; simp [e0] at hn; omega
  refine mfun_unfull (C := fun r H' => C r H' ∨ ∃ N, r = .full id 0 (n + 1) N ∧ ∃ o, H'[id]? = some (some o) ∧ n + 1 ≤ o.es.length ∧ C (.sref id 0 (n + 1)) H') ?_ (fun r H' h => ?_)
  rotate_left
  ·rcases h with h | ⟨N, h1, o, h2, h3, h4⟩
   ·exact .inl h
   ·exact .inr ⟨id, n + 1, N, o, h1, h2, h3, h4⟩
  refine mfun_full ho hesne (by dsimp only; omega) fun N hN0 => ?_
  dsimp only at hN0
  obtain ⟨D, hD⟩ : ∃ D : AV → Heap → Prop, D = fun r H' => C r H' ∨ ∃ N, r = .full id 0 (n + 1) N ∧ ∃ o, H'[id]? = some (some o) ∧ n + 1 ≤ o.es.length ∧ C (.sref id 0 (n + 1)) H' := ⟨_, rfl⟩
  rw [← hD]
  have exD : ∃ r H', D r H' := by
   obtain ⟨r, H', h⟩ := ex
   rw [hD]
   exact ⟨r, H', .inl h⟩
  have fx : ∀ (id n N : Nat), (if i = 0 then some (AV.full id 0 n N) else some (AV.full id i (n - i) N)) = some (.full id i (n - i) N) := fun id n N => by
   split
   ·subst i; rfl
   ·rfl
  have nN : n ≤ N := by omega
  have iN : i ≤ N := by omega
  have a1 : (0 : Int) ≤ (n : Int) + 1 := by omega
  have a3 : (0 : Int) ≤ (i : Int) + 1 := by omega
  have a4 : (i : Int) + 1 ≤ (n : Int) + 1 := by omega
  refine mfun_intro Tryz.func174 rfl (by simp [Tryz.f174]) (by kernel_rfl) (exD) ?_
  intro E hP hr hs hN
  by_cases hroom : N < n + 1
  ·have dN : decide ((N : Int) < (n : Int) + 1) = true := decide_eq_true (by omega)
   obtain ⟨zs, hz⟩ := Option.isSome_iff_exists.1 (show (zeros Tryz.prog 44).isSome = true by kernel_rfl)
   have hbt : bytesOf Tryz.prog 44 = 40 := by kernel_rfl
   have hm : (n : Int) + 1 - i = ((n + 1 - i : Nat) : Int) := by omega
   have sx : ∀ (id n : Nat), (if i = 0 then some (AV.sref id 0 n) else some (AV.sref id i (n - i))) = some (.sref id i (n - i)) := fun id n => by
    split
    ·subst i; rfl
    ·rfl
   simp -dsimp -implicitDefEqProofs [-getElem?_pos, go_sem, hP, dN, ho, ← hn, hin, hin', asliceOp, bound, aslice, w1, w2, w3, hroom, hi, nN, iN, a1, a3, a4, fx]
   refine buiB_makeE (e := 44) (m := n + 1 - i) (L := n + 1) (kn := .i64) (zs := zs) ho (by rw [hP]; kernel_rfl) (by rw [hP]; kernel_rfl) (by rw [hP]; kernel_rfl) (by omega) rfl (by rw [hP]; exact hz) (by omega) hm (by omega) (by omega) hroom (by omega) (by rw [hP, hbt]; omega) ?_
   have ho2 : (H ++ [some (⟨44, 5, es.take i ++ List.replicate (n + 1 - i) zs⟩ : AObj)])[id]? = some (some ⟨44, 5, es⟩) := by rw [List.getElem?_append_left lid]; exact ho
   have hl1 : (es.take i ++ List.replicate (n + 1 - i) zs).length = n + 1 := by simp; omega
   have a7 : (i : Int) ≤ (n : Int) + 1 := by omega
   have a8 : ¬ ((i : Int) = (n : Int) + 1) := by omega
   have a9 : i ≤ n + 1 := by omega
   have a10 : ¬ i = n + 1 := by omega
   have hA : (es.take i).length = i := by simp; omega
   have d1 : (es.take i ++ List.replicate (n + 1 - i) zs).drop (i + 1) = List.replicate (n - i) zs := by
    rw [List.drop_append, List.drop_of_length_le (by omega), hA, List.nil_append, List.drop_replicate]
    congr 1
    omega
   simp -dsimp -implicitDefEqProofs [-getElem?_pos, go_sem, hP, ho2, asliceOp, bound, aslice, a7, a8, a9, a10, sx]
   refine buiB_copyE (e := 44) (ty := 44) (k := 5) (lo := i) (dn := n + 1 - i) (m := 1) (es := es.take i ++ List.replicate (n + 1 - i) zs) (news := [e]) (es' := es.take i ++ e :: List.replicate (n - i) zs) (by simp) (.inl rfl) (by rw [hP]; kernel_rfl) (by rw [hP]; kernel_rfl) (by omega) (by rw [hP]; kernel_rfl) ?_ rfl (by omega) (by omega) (by simp; omega) ?_ ?_
   ·simp only [srcEs]
    rw [if_pos (by rw [hP]; kernel_rfl)]
   ·rw [d1, List.take_append_of_le_length (by omega), List.take_of_length_le (by omega)]
    simp
   have ho3 : (H ++ [some (⟨44, 5, es.take i ++ e :: List.replicate (n - i) zs⟩ : AObj)])[id]? = some (some ⟨44, 5, es⟩) := by rw [List.getElem?_append_left lid]; exact ho
   have a5 : ¬ ((i : Int) + 1 = 0) := by omega
   have a6 : ((n : Int) + 1 - ((i : Int) + 1)).toNat = n - i := by omega
   have a11 : ¬ ((i : Int) + 1 = (n : Int) + 1) := by omega
   simp -dsimp -implicitDefEqProofs [-getElem?_pos, go_sem, hP]
   refine adrawB (fun _ => true) [8] hP (by kernel_rfl) (by kernel_rfl) ?_
   simp -dsimp -implicitDefEqProofs [-getElem?_pos, go_sem, hP, ho3, ← hn, hin, hin', asliceOp, bound, aslice, w1, w2, hi, nN, iN, a1, a3, a4, a5, a6, a7, a8, a11, fx, sx]
   refine buiB_copyE (e := 44) (ty := 44) (k := 5) (lo := i + 1) (dn := n - i) (m := n - i) (es := es.take i ++ e :: List.replicate (n - i) zs) (news := es.drop i) (es' := es.take i ++ e :: es.drop i) (by simp) (.inl rfl) (by rw [hP]; kernel_rfl) (by rw [hP]; kernel_rfl) (by omega) (by rw [hP]; kernel_rfl) ?_ (by simp [← hn]) (by omega) (by omega) (by simp; omega) ?_ ?_
   ·simp only [srcEs, ho3]
    rw [if_pos ⟨by rw [hP]; kernel_rfl, by omega⟩, List.take_of_length_le (by simp; omega)]
   ·rw [show es.take i ++ e :: List.replicate (n - i) zs = (es.take i ++ [e]) ++ List.replicate (n - i) zs from by simp, List.take_append_of_le_length (by simp; omega), List.take_of_length_le (by simp; omega), List.drop_of_length_le (show ((es.take i ++ [e]) ++ List.replicate (n - i) zs).length ≤ i + 1 + (n - i) by simp; omega)]
    simp
   simp -dsimp -implicitDefEqProofs [-getElem?_pos, go_sem, hP]
   rw [hD, hC]
   exact .inl ⟨H.length, rfl, .inr (Nat.le_refl _), by simp, kept_app _ _ _⟩
  ·have dN : decide ((N : Int) < (n : Int) + 1) = false := decide_eq_false (by omega)
   have a2 : (n : Int) + 1 ≤ N := by omega
   have a5 : ¬ ((i : Int) + 1 = 0) := by omega
   have a6 : ((n : Int) + 1 - ((i : Int) + 1)).toNat = n - i := by omega
   have a7 : (i : Int) ≤ (n : Int) + 1 := by omega
   have a8 : ¬ ((i : Int) = (n : Int) + 1) := by omega
   simp -dsimp -implicitDefEqProofs [-getElem?_pos, go_sem, hP, dN, ho, ← hn, hin, hin', asliceOp, bound, aslice, w1, w2, w3, hroom, hi, nN, iN, a1, a2, a3, a4, a5, a6, a7, a8, fx]
   refine callB_overlapsL (t := 29) (e := 44) (tR := 4) (fn := Tryz.f181) (id' := id) (lo' := i + 1) (dn' := n - i) (by rw [hP]; exact Tryz.func181) (by kernel_rfl) (by kernel_rfl) (by kernel_rfl) (by kernel_rfl) (by rw [hP]; kernel_rfl) (by rw [hP]; kernel_rfl) he0 (.inr ⟨N, rfl⟩) ho (by omega) ?_
   simp -dsimp -implicitDefEqProofs [-getElem?_pos, go_sem, hP]
   refine adrawB (fun _ => true) [8] hP (by kernel_rfl) (by kernel_rfl) ?_
   simp -dsimp -implicitDefEqProofs [-getElem?_pos, go_sem, hP, dN, ho, ← hn, hin, hin', asliceOp, bound, aslice, w1, w2, w3, hroom, hi, nN, iN, a1, a2, a3, a4, a5, a6, a7, a8, fx]
   refine buiB_copyS (e := 44) (lo := i + 1) (dn := n - i) (news := es.drop i) (es' := es.take (i + 1) ++ es.drop i) ho (.inr ⟨N, rfl⟩) (by rw [hP]; kernel_rfl) (by rw [hP]; kernel_rfl) (by omega) (by rw [hP]; kernel_rfl) ?_ (by simp [← hn]) (by omega) (by omega) (by omega) (by rw [List.drop_of_length_le (show es.length ≤ i + 1 + (n - i) by omega), List.append_nil]) ?_
   ·simp only [srcEs, ho]
    rw [if_pos ⟨by rw [hP]; kernel_rfl, by omega⟩, List.take_of_length_le (by simp; omega)]
   simp -dsimp -implicitDefEqProofs [-getElem?_pos, go_sem, hP, lid, ho, asliceOp, bound, aslice, a2, a7, a8, fx]
   refine buiB_copyE (e := 44) (ty := 44) (k := 5) (lo := i) (dn := n + 1 - i) (m := 1) (es := es.take (i + 1) ++ es.drop i) (news := [e]) (es' := es.take i ++ e :: es.drop i) (by simp [lid]) (.inr ⟨N, rfl⟩) (by rw [hP]; kernel_rfl) (by rw [hP]; kernel_rfl) (by omega) (by rw [hP]; kernel_rfl) ?_ rfl (by omega) (by omega) (by simp [← hn]; omega) ?_ ?_
   ·simp only [srcEs]
    rw [if_pos (by rw [hP]; kernel_rfl)]
   ·rw [List.take_append_of_le_length (by simp; omega), List.take_take, Nat.min_eq_left (by omega), List.drop_append_of_le_length (by simp; omega), List.drop_of_length_le (by simp; omega)]
    simp
   simp -dsimp -implicitDefEqProofs [-getElem?_pos, go_sem, hP, lid]
   rw [hD, hC]
   simp only [List.set_set]
   exact .inr ⟨N, rfl, ⟨44, 5, es.take i ++ e :: es.drop i⟩, by simp [lid], by simp [← hn]; omega, id, rfl, .inl rfl, by simp [lid], kept_set _ (by simp) (kept_refl _ _)⟩
open Go.PA
open Go.RowKit
theorem indexInt_pf (l : List Int) (v : Int) (hl : l.length ≤ 1000000) : PFun Tryz.prog none none 169 [intsL l, iv v] (· = iv (idxI (fun x => decide (v = x)) l)) := by
 refine pfun_intro Tryz.func169 rfl (by simp [Tryz.f169]) (by kernel_rfl) ?_
 intro E hP hr hs hW hN
 simp -dsimp -implicitDefEqProofs [-getElem?_pos, go_sem, hP, intsL]
 obtain ⟨I, hI⟩ : ∃ I : Nat → St → Prop, I = fun m s => ∃ k : Nat, k ≤ l.length ∧ m = l.length - k ∧ idxI (fun x => decide (v = x)) l = idxFrom (fun x => decide (v = x)) k (l.drop k) ∧ s.t 0 = intsL l ∧ s.t 1 = iv v ∧ s.t 7 = iv l.length ∧ s.t 8 = iv k := ⟨_, rfl⟩
 refine aloop0 I (l.length) (by rw [hN]; rfl) ?_ ?_
 ·rw [hI]
  exact ⟨0, by omega, by omega, by simp [idxI], by simp -dsimp [-getElem?_pos, go_sem, intsL], by simp -dsimp [-getElem?_pos, go_sem], by simp -dsimp [-getElem?_pos, go_sem], by simp -dsimp [-getElem?_pos, go_sem]⟩
 intro m s hs'
 rw [hI] at hs'
 obtain ⟨k, hk, hm, hi, t0, t1, t7, t8⟩ := hs'
 simp -dsimp -implicitDefEqProofs [-getElem?_pos, go_sem, hP, t7, t8]
 refine condP (fun h => ?_) (fun h => ?_)
 ·have hk : k < l.length := by simpa using h
  obtain ⟨a, ha⟩ : ∃ a, l[k]? = some a := ⟨_, List.getElem?_eq_getElem hk⟩
  have wk := wrap_in ((k : Int) + 1) (by omega)
  have hd : l.drop k = a :: l.drop (k + 1) := by
   rw [List.getElem?_eq_getElem hk] at ha
   rw [List.drop_eq_getElem_cons hk, Option.some.inj ha]
  rw [hd] at hi
  simp only [idxFrom] at hi
  simp -dsimp -implicitDefEqProofs [-getElem?_pos, go_sem, hP, t8, t1, t0, ha, intsL]
  by_cases hp : v = a
  ·rw [if_pos (by simpa using hp)] at hi
   simp -dsimp -implicitDefEqProofs [-getElem?_pos, go_sem, hP, hp]
   rw [hp] at hi
   exact hi.symm
  ·rw [if_neg (by simpa using hp)] at hi
   simp -dsimp -implicitDefEqProofs [-getElem?_pos, go_sem, hP, t8, wk, hp]
   refine ⟨l.length - (k + 1), by omega, ?_⟩
   rw [hI]
   exact ⟨k + 1, by omega, rfl, hi, by simp -dsimp [-getElem?_pos, go_sem, t0], by simp -dsimp [-getElem?_pos, go_sem, t1], by simp -dsimp [-getElem?_pos, go_sem, t7], by simp -dsimp [-getElem?_pos, go_sem]⟩
 ·have hk : k = l.length := by simp at h; omega
  subst hk
  rw [List.drop_length] at hi
  simp -dsimp -implicitDefEqProofs [-getElem?_pos, go_sem, hP]
  exact hi.symm
theorem imm_ints (l : List Int) : Imm (intsL l) := by simp [go_sem, intsL]
theorem containsInt_pf (l : List Int) (v : Int) (hl : l.length ≤ 1000000) : PFun Tryz.prog none none 131 [intsL l, iv v] (· = bv (decide (v ∈ l))) := by
 refine pfun_intro Tryz.func131 rfl (by simp [Tryz.f131]) (by kernel_rfl) ?_
 intro E hP hr hs hW hN
 simp -dsimp -implicitDefEqProofs [-getElem?_pos, go_sem, hP]
 refine callB_is ((indexInt_pf l v hl).lift _ _) hP en_169 (by simp [imm_ints, imm_sc]) .sc ?_
 rcases idxI_spec (fun x => decide (v = x)) l with ⟨h1, h2⟩ | ⟨i, a, h1, h2, h3, _⟩
 ·have : decide (v ∈ l) = false := decide_eq_false fun hv => by simpa using h2 v hv
  simp -dsimp -implicitDefEqProofs [-getElem?_pos, go_sem, hP, h1, this]
 ·have d : decide ((0 : Int) ≤ (i : Int)) = true := decide_eq_true (by omega)
  have hva : v = a := by simpa using h2
  have : decide (v ∈ l) = true := decide_eq_true (hva ▸ List.mem_of_getElem? h1)
  simp -dsimp -implicitDefEqProofs [-getElem?_pos, go_sem, hP, h3, d, this]
theorem snan_pf (x : Int) : PFun Tryz.prog none none 172 [iv x] (· = bv false) := by
 refine pfun_intro Tryz.func172 rfl (by simp [Tryz.f172]) (by kernel_rfl) ?_
 intro E hP hr hs hW hN
 simp -dsimp -implicitDefEqProofs [-getElem?_pos, go_sem, hP]
theorem less_pf (x y : Int) : PFun Tryz.prog none none 171 [iv x, iv y] (· = bv (decide (x < y))) := by
 refine pfun_intro Tryz.func171 rfl (by simp [Tryz.f171]) (by kernel_rfl) ?_
 intro E hP hr hs hW hN
 simp -dsimp -implicitDefEqProofs [-getElem?_pos, go_sem, hP]
 refine callB_pure (isNaN_pf x) hP en_163 (args_same (by simp -dsimp [-getElem?_pos, go_sem])) .sc ?_
 simp -dsimp -implicitDefEqProofs [-getElem?_pos, go_sem, hP]
set_option maxHeartbeats 1000000 in
theorem bsearch_pf (l : List Int) (v : Int) (k : Nat) (hl : l.length ≤ 1000000) (hk : k ≤ l.length) (hm : ∀ h x, l[h]? = some x → (x < v ↔ h < k)) : PFun Tryz.prog none none 136 [intsL l, iv v] (· = .tup [iv k, bv (decide (l[k]? = some v))]) := by
 refine pfun_intro Tryz.func136 rfl (by simp [Tryz.f136]) (by kernel_rfl) ?_
 intro E hP hr hs hW hN
 simp -dsimp -implicitDefEqProofs [-getElem?_pos, go_sem, hP, intsL]
 obtain ⟨I, hI⟩ : ∃ I : Nat → St → Prop, I = fun m s => ∃ i j : Nat, i ≤ k ∧ k ≤ j ∧ j ≤ l.length ∧ m = j - i ∧ s.t 0 = intsL l ∧ s.t 1 = iv v ∧ s.t 6 = iv l.length ∧ s.t 7 = iv i ∧ s.t 8 = iv j := ⟨_, rfl⟩
 refine aloop0 I (l.length) (by rw [hN]; rfl) ?_ ?_
 ·rw [hI]
  exact ⟨0, l.length, by omega, hk, by omega, rfl, by simp -dsimp [-getElem?_pos, go_sem, intsL], by simp -dsimp [-getElem?_pos, go_sem], by simp -dsimp [-getElem?_pos, go_sem], by simp -dsimp [-getElem?_pos, go_sem], by simp -dsimp [-getElem?_pos, go_sem]⟩
 intro m s hs'
 rw [hI] at hs'
 obtain ⟨i, j, hi, hj, hjl, hm', t0, t1, t6, t7, t8⟩ := hs'
 simp -dsimp -implicitDefEqProofs [-getElem?_pos, go_sem, hP, t7, t8]
 refine condP (fun h => ?_) (fun h => ?_)
 ·have hij : i < j := by simpa using h
  have w1 := wrap_in ((i : Int) + j) (by omega)
  have wu : IntKind.u64.wrap ((i : Int) + j) = (i : Int) + j := by rw [IntKind.wrap_u64]; omega
  obtain ⟨h, hh⟩ : ∃ h, h = (i + j) / 2 := ⟨_, rfl⟩
  have wh : IntKind.i64.wrap (((i : Int) + j) / 2) = (h : Int) := by rw [wrap_in _ (by omega)]; omega
  obtain ⟨a, ha⟩ : ∃ a, l[h]? = some a := ⟨_, List.getElem?_eq_getElem (by omega)⟩
  have hcmp := hm h a ha
  have w2 := wrap_in ((h : Int) + 1) (by omega)
  simp -dsimp -implicitDefEqProofs [-getElem?_pos, go_sem, hP, t7, t8, w1, wu, aconv, aint_shr, wh, t0, t1, intsL, ha]
  refine callB_pure (less_pf a v) hP en_171 (args_same (by simp -dsimp [-getElem?_pos, go_sem])) .sc ?_
  by_cases c : a < v
  ·simp -dsimp -implicitDefEqProofs [-getElem?_pos, go_sem, hP, c, w2]
   refine ⟨j - (h + 1), by omega, ?_⟩
   rw [hI]
   exact ⟨h + 1, j, by have := hcmp.1 c; omega, by omega, by omega, rfl, by simp -dsimp [-getElem?_pos, go_sem, t0], by simp -dsimp [-getElem?_pos, go_sem, t1], by simp -dsimp [-getElem?_pos, go_sem, t6], by simp -dsimp [-getElem?_pos, go_sem], by simp -dsimp [-getElem?_pos, go_sem, t8]⟩
  ·have d : decide (a < v) = false := decide_eq_false c
   simp -dsimp -implicitDefEqProofs [-getElem?_pos, go_sem, hP, d]
   refine ⟨h - i, by omega, ?_⟩
   rw [hI]
   exact ⟨i, h, by omega, by have := mt hcmp.2 c; omega, by omega, rfl, by simp -dsimp [-getElem?_pos, go_sem, t0], by simp -dsimp [-getElem?_pos, go_sem, t1], by simp -dsimp [-getElem?_pos, go_sem, t6], by simp -dsimp [-getElem?_pos, go_sem, t7], by simp -dsimp [-getElem?_pos, go_sem]⟩
 ·have hik : i = k := by
   have : ¬ i < j := by simpa using h
   omega
  subst hik
  by_cases c : i < l.length
  ·obtain ⟨a, ha⟩ : ∃ a, l[i]? = some a := ⟨_, List.getElem?_eq_getElem c⟩
   have d : decide ((i : Int) < (l.length : Int)) = true := decide_eq_true (by omega)
   by_cases e : a = v
   ·simp -dsimp -implicitDefEqProofs [-getElem?_pos, go_sem, hP, t7, t6, c, d, t0, t1, intsL, ha, e]
    exact done_imm (imm_pair .sc .sc) (by simp [ha, e])
   ·have e' : decide (a = v) = false := decide_eq_false e
    simp -dsimp -implicitDefEqProofs [-getElem?_pos, go_sem, hP, t7, t6, c, d, t0, t1, intsL, ha, e, e']
    refine callB_pure (snan_pf a) hP en_172 (args_same (by simp -dsimp [-getElem?_pos, go_sem])) .sc ?_
    simp -dsimp -implicitDefEqProofs [-getElem?_pos, go_sem, hP, t7, t6, c, d, t0, t1, intsL, ha, e, e']
    exact done_imm (imm_pair .sc .sc) (by simp [ha, e])
  ·have d : decide ((i : Int) < (l.length : Int)) = false := decide_eq_false (by omega)
   have n : l[i]? = none := List.getElem?_eq_none (by omega)
   simp -dsimp -implicitDefEqProofs [-getElem?_pos, go_sem, hP, t7, t6, c, d, n]
   exact done_imm (imm_pair .sc .sc) (by simp [n])
open Go.PA
open Go.RowKit
theorem prev_at {α β : Type} {f : α → β} {l : List α} {k : Nat} {p : α} (hp : l[k]? = some p) : ∀ j x, k + 1 = j + 1 → l[j]? = some x → f p = f x := fun j x hj hx => by
 cases (show k = j by omega)
 rw [hp] at hx
 cases hx
 rfl
theorem bamong_pf (n lo hi : Int) : PFun Tryz.prog none none 157 [iv n, iv lo, iv hi] (· = bv (amg n lo hi)) := by
 refine pfun_intro Tryz.func157 rfl (by simp [Tryz.f157]) (by kernel_rfl) ?_
 intro E hP hr hs hW hN
 by_cases h1 : lo ≤ n <;> by_cases h2 : n ≤ hi <;> simp -dsimp -implicitDefEqProofs [-getElem?_pos, go_sem, hP, h1, h2, amg]
theorem bpay_pf (p : TPayment) : PFun Tryz.prog none none 116 [.agg p.cells] (· = bv (payB p)) := by
 refine pfun_intro Tryz.func116 rfl (by simp [Tryz.f116]) (by kernel_rfl) ?_
 intro E hP hr hs hW hN
 simp -dsimp -implicitDefEqProofs [-getElem?_pos, go_sem, hP, cPy]
 refine callB_pure (bamong_pf p.Warrant 1 1000000) hP en_157 (args_same (by simp -dsimp [-getElem?_pos, go_sem])) .sc ?_
 cases h1 : amg p.Warrant 1 1000000
 ·simp -dsimp -implicitDefEqProofs [-getElem?_pos, go_sem, hP, payB, h1]
 simp -dsimp -implicitDefEqProofs [-getElem?_pos, go_sem, hP]
 refine callB_pure (bamong_pf p.Payee 1 1000000) hP en_157 (args_same (by simp -dsimp [-getElem?_pos, go_sem])) .sc ?_
 cases h2 : amg p.Payee 1 1000000
 ·simp -dsimp -implicitDefEqProofs [-getElem?_pos, go_sem, hP, payB, h1, h2]
 simp -dsimp -implicitDefEqProofs [-getElem?_pos, go_sem, hP]
 refine callB_pure (bamong_pf p.Amount 1 1000000000000) hP en_157 (args_same (by simp -dsimp [-getElem?_pos, go_sem])) .sc ?_
 cases h3 : amg p.Amount 1 1000000000000
 ·simp -dsimp -implicitDefEqProofs [-getElem?_pos, go_sem, hP, payB, h1, h2, h3]
 simp -dsimp -implicitDefEqProofs [-getElem?_pos, go_sem, hP]
 refine callB_pure (bamong_pf p.Due 0 35990) hP en_157 (args_same (by simp -dsimp [-getElem?_pos, go_sem])) .sc ?_
 cases h4 : amg p.Due 0 35990
 ·simp -dsimp -implicitDefEqProofs [-getElem?_pos, go_sem, hP, payB, h1, h2, h3, h4]
 simp -dsimp -implicitDefEqProofs [-getElem?_pos, go_sem, hP]
 refine callB_pure (bamong_pf p.Sub 1 1000) hP en_157 (args_same (by simp -dsimp [-getElem?_pos, go_sem])) .sc ?_
 simp -dsimp -implicitDefEqProofs [-getElem?_pos, go_sem, hP, payB, h1, h2, h3, h4]
def cmpP (a b : TPayment) : Int := orI [cmpI a.Due b.Due, cmpI a.Warrant b.Warrant]
theorem cmpP_lt {a b : TPayment} : cmpP a b < 0 ↔ Bef a b := by
 simp only [cmpP, orI, cmpI, Bef]
 repeat' split
 all_goals omega
theorem cmpP_ge {a b : TPayment} (h : ¬ Bef a b) : 0 ≤ cmpP a b := by
 have := mt cmpP_lt.1 h
 omega
theorem bcompare_pf (a b : TPayment) : PFun Tryz.prog none none 156 [.agg a.cells, .agg b.cells] (· = iv (cmpP a b)) := by
 refine pfun_intro Tryz.func156 rfl (by simp [Tryz.f156]) (by kernel_rfl) ?_
 intro E hP hr hs hW hN
 simp -dsimp -implicitDefEqProofs [-getElem?_pos, go_sem, hP, cPy]
 refine adrawB (fun _ => true) [] hP (by kernel_rfl) (by kernel_rfl) ?_
 simp -dsimp -implicitDefEqProofs [-getElem?_pos, go_sem, hP]
 refine callB_pure (compare_pf a.Due b.Due) hP en_121 (args_same (by simp -dsimp [-getElem?_pos, go_sem])) .sc ?_
 simp -dsimp -implicitDefEqProofs [-getElem?_pos, go_sem, hP]
 refine callB_pure (compare_pf a.Warrant b.Warrant) hP en_121 (args_same (by simp -dsimp [-getElem?_pos, go_sem])) .sc ?_
 simp -dsimp -implicitDefEqProofs [-getElem?_pos, go_sem, hP]
 refine callB_pure (or_pf [cmpI a.Due b.Due, cmpI a.Warrant b.Warrant] (by simp)) hP en_179 (args_same (by simp -dsimp [-getElem?_pos, go_sem])) .sc ?_
 simp -dsimp -implicitDefEqProofs [-getElem?_pos, go_sem, hP, cmpP]
theorem bordered_pf (l : List TPayment) (hl : l.length ≤ 1000000) : PFun Tryz.prog none none 110 [paysL l] (· = bv (ordFrom none l)) := by
 refine pfun_intro Tryz.func110 rfl (by simp [Tryz.f110]) (by kernel_rfl) ?_
 intro E hP hr hs hW hN
 obtain ⟨R, hR⟩ : ∃ R, R = ordFrom none l := ⟨_, rfl⟩
 rw [← hR]
 simp -dsimp -implicitDefEqProofs [-getElem?_pos, go_sem, hP]
 obtain ⟨I, hI⟩ : ∃ I : Nat → St → Prop, I = fun m s => ∃ (k : Nat) (o : Option TPayment), k ≤ l.length ∧ m = l.length - k ∧ R = ordFrom o (l.drop k) ∧ (k = 0 → o = none) ∧ (∀ j x, k = j + 1 → l[j]? = some x → o = some x) ∧ s.t 0 = paysL l ∧ s.t 5 = paysL l ∧ s.t 6 = iv l.length ∧ s.t 7 = iv k := ⟨_, rfl⟩
 refine aloop0 I (l.length) (by rw [hN]; rfl) ?_ ?_
 ·rw [hI]
  exact ⟨0, none, by omega, by omega, by rw [hR]; rfl, by simp, by omega, by simp -dsimp [-getElem?_pos, go_sem], by simp -dsimp [-getElem?_pos, go_sem], by simp -dsimp [-getElem?_pos, go_sem], by simp -dsimp [-getElem?_pos, go_sem]⟩
 intro m s hs'
 rw [hI] at hs'
 obtain ⟨k, o, hk, hm, hq, ho0, ho1, t0, t5, t6, t7⟩ := hs'
 simp -dsimp -implicitDefEqProofs [-getElem?_pos, go_sem, hP, t6, t7]
 refine condP (fun h => ?_) (fun h => ?_)
 ·have hk : k < l.length := by simpa using h
  obtain ⟨p, hp⟩ : ∃ p, l[k]? = some p := ⟨_, List.getElem?_eq_getElem hk⟩
  have wk := wrap_in ((k : Int) + 1) (by omega)
  have ip := imm_pay p
  have py := bpay_pf p
  rw [cPy] at py ip
  rw [drop_at hp, ordFrom] at hq
  simp -dsimp -implicitDefEqProofs [-getElem?_pos, go_sem, hP, t5, t7, hp, cPy]
  refine adrawB (fun _ => true) [] hP (by kernel_rfl) (by kernel_rfl) ?_
  simp -dsimp -implicitDefEqProofs [-getElem?_pos, go_sem, hP]
  refine callB_is (py.lift _ _) hP en_116 (by simpa using ip) .sc ?_
  cases h1 : payB p
  ·rw [h1, Bool.false_and] at hq
   simp -dsimp -implicitDefEqProofs [-getElem?_pos, go_sem, hP, h1, hq]
  rw [h1, Bool.true_and] at hq
  rcases Nat.eq_zero_or_pos k with k0 | k0
  ·rw [ho0 k0, allO, Bool.true_and] at hq
   have k0' : ¬ 0 < k := by omega
   have hjk : decide ((0 : Int) < (k : Int)) = false := decide_eq_false (by omega)
   simp -dsimp -implicitDefEqProofs [-getElem?_pos, go_sem, hP, h1, t7, k0', hjk, wk]
   refine ⟨l.length - (k + 1), by omega, ?_⟩
   rw [hI]
   exact ⟨k + 1, some p, by omega, rfl, hq, by omega, prev_at (f := some) hp, by simp -dsimp [-getElem?_pos, go_sem, t0], by simp -dsimp [-getElem?_pos, go_sem, t5], by simp -dsimp [-getElem?_pos, go_sem, t6], by simp -dsimp [-getElem?_pos, go_sem]⟩
  ·obtain ⟨j, hj⟩ : ∃ j, k = j + 1 := ⟨k - 1, by omega⟩
   obtain ⟨x, hx⟩ : ∃ x, l[j]? = some x := ⟨_, List.getElem?_eq_getElem (by omega)⟩
   have hox := ho1 j x hj hx
   have hjk : decide ((0 : Int) < (k : Int)) = true := decide_eq_true (by omega)
   have wj : IntKind.i64.wrap ((k : Int) - 1) = (j : Int) := by rw [wrap_in _ (by omega)]; omega
   have cm := bcompare_pf x p
   have ix := imm_pay x
   rw [cPy, cPy] at cm
   rw [cPy] at ix
   rw [hox, allO] at hq
   simp -dsimp -implicitDefEqProofs [-getElem?_pos, go_sem, hP, h1, t7, k0, hjk, wj, t0, hx, cPy]
   refine callB_is (cm.lift _ _) hP en_156 (by simpa using ⟨ix, ip⟩) .sc ?_
   by_cases c : Bef x p
   ·have c1 := cmpP_lt.2 c
    have d1 : decide (0 ≤ cmpP x p) = false := decide_eq_false (by omega)
    rw [befB_iff.2 c, Bool.true_and] at hq
    simp -dsimp -implicitDefEqProofs [-getElem?_pos, go_sem, hP, h1, t7, k0, hjk, wj, t0, hx, cPy, d1, wk]
    refine ⟨l.length - (k + 1), by omega, ?_⟩
    rw [hI]
    exact ⟨k + 1, some p, by omega, rfl, hq, by omega, prev_at (f := some) hp, by simp -dsimp [-getElem?_pos, go_sem, t0], by simp -dsimp [-getElem?_pos, go_sem, t5], by simp -dsimp [-getElem?_pos, go_sem, t6], by simp -dsimp [-getElem?_pos, go_sem]⟩
   ·have c1 := cmpP_ge c
    have d1 : decide (0 ≤ cmpP x p) = true := decide_eq_true c1
    have cb : befB x p = false := by simpa [befB] using c
    rw [cb, Bool.false_and] at hq
    simp -dsimp -implicitDefEqProofs [-getElem?_pos, go_sem, hP, h1, t7, k0, hjk, wj, t0, hx, cPy, d1, hq]
 ·have hk : k = l.length := by simp at h; omega
  subst hk
  rw [List.drop_length, ordFrom] at hq
  simp -dsimp -implicitDefEqProofs [-getElem?_pos, go_sem, hP, hq]
theorem bknown_pf (l : List Int) (hl : l.length ≤ 1000000) : PFun Tryz.prog none none 111 [intsL l] (· = bv (knFrom none l)) := by
 refine pfun_intro Tryz.func111 rfl (by simp [Tryz.f111]) (by kernel_rfl) ?_
 intro E hP hr hs hW hN
 obtain ⟨R, hR⟩ : ∃ R, R = knFrom none l := ⟨_, rfl⟩
 rw [← hR]
 simp -dsimp -implicitDefEqProofs [-getElem?_pos, go_sem, hP, intsL]
 obtain ⟨I, hI⟩ : ∃ I : Nat → St → Prop, I = fun m s => ∃ (k : Nat) (o : Option Int), k ≤ l.length ∧ m = l.length - k ∧ R = knFrom o (l.drop k) ∧ (k = 0 → o = none) ∧ (∀ j x, k = j + 1 → l[j]? = some x → o = some x) ∧ s.t 0 = intsL l ∧ s.t 5 = intsL l ∧ s.t 6 = iv l.length ∧ s.t 7 = iv k := ⟨_, rfl⟩
 refine aloop0 I (l.length) (by rw [hN]; rfl) ?_ ?_
 ·rw [hI]
  exact ⟨0, none, by omega, by omega, by rw [hR]; rfl, by simp, by omega, by simp -dsimp [-getElem?_pos, go_sem, intsL], by simp -dsimp [-getElem?_pos, go_sem, intsL], by simp -dsimp [-getElem?_pos, go_sem], by simp -dsimp [-getElem?_pos, go_sem]⟩
 intro m s hs'
 rw [hI] at hs'
 obtain ⟨k, o, hk, hm, hq, ho0, ho1, t0, t5, t6, t7⟩ := hs'
 simp -dsimp -implicitDefEqProofs [-getElem?_pos, go_sem, hP, t6, t7]
 refine condP (fun h => ?_) (fun h => ?_)
 ·have hk : k < l.length := by simpa using h
  obtain ⟨p, hp⟩ : ∃ p, l[k]? = some p := ⟨_, List.getElem?_eq_getElem hk⟩
  have wk := wrap_in ((k : Int) + 1) (by omega)
  rw [drop_at hp, knFrom] at hq
  simp -dsimp -implicitDefEqProofs [-getElem?_pos, go_sem, hP, t5, t7, intsL, hp]
  refine callB_pure (bamong_pf p 1 1000000) hP en_157 (args_same (by simp -dsimp [-getElem?_pos, go_sem])) .sc ?_
  cases h1 : amg p 1 1000000
  ·rw [h1, Bool.false_and] at hq
   simp -dsimp -implicitDefEqProofs [-getElem?_pos, go_sem, hP, h1, hq]
  rw [h1, Bool.true_and] at hq
  rcases Nat.eq_zero_or_pos k with k0 | k0
  ·rw [ho0 k0, allO, Bool.true_and] at hq
   have k0' : ¬ 0 < k := by omega
   have hjk : decide ((0 : Int) < (k : Int)) = false := decide_eq_false (by omega)
   simp -dsimp -implicitDefEqProofs [-getElem?_pos, go_sem, hP, h1, t7, k0', hjk, wk]
   refine ⟨l.length - (k + 1), by omega, ?_⟩
   rw [hI]
   exact ⟨k + 1, some p, by omega, rfl, hq, by omega, prev_at (f := some) hp, by simp -dsimp [-getElem?_pos, go_sem, t0], by simp -dsimp [-getElem?_pos, go_sem, t5], by simp -dsimp [-getElem?_pos, go_sem, t6], by simp -dsimp [-getElem?_pos, go_sem]⟩
  ·obtain ⟨j, hj⟩ : ∃ j, k = j + 1 := ⟨k - 1, by omega⟩
   obtain ⟨x, hx⟩ : ∃ x, l[j]? = some x := ⟨_, List.getElem?_eq_getElem (by omega)⟩
   have hox := ho1 j x hj hx
   have hjk : decide ((0 : Int) < (k : Int)) = true := decide_eq_true (by omega)
   have wj : IntKind.i64.wrap ((k : Int) - 1) = (j : Int) := by rw [wrap_in _ (by omega)]; omega
   rw [hox, allO] at hq
   by_cases c : x < p
   ·have d1 : decide (p ≤ x) = false := decide_eq_false (by omega)
    rw [decide_eq_true c, Bool.true_and] at hq
    simp -dsimp -implicitDefEqProofs [-getElem?_pos, go_sem, hP, h1, t7, k0, hjk, wj, t0, intsL, hx, d1, wk]
    refine ⟨l.length - (k + 1), by omega, ?_⟩
    rw [hI]
    exact ⟨k + 1, some p, by omega, rfl, hq, by omega, prev_at (f := some) hp, by simp -dsimp [-getElem?_pos, go_sem, t0], by simp -dsimp [-getElem?_pos, go_sem, t5], by simp -dsimp [-getElem?_pos, go_sem, t6], by simp -dsimp [-getElem?_pos, go_sem]⟩
   ·have d1 : decide (p ≤ x) = true := decide_eq_true (by omega)
    rw [decide_eq_false c, Bool.false_and] at hq
    simp -dsimp -implicitDefEqProofs [-getElem?_pos, go_sem, hP, h1, t7, k0, hjk, wj, t0, intsL, hx, d1, hq]
 ·have hk : k = l.length := by simp at h; omega
  subst hk
  rw [List.drop_length, knFrom] at hq
  simp -dsimp -implicitDefEqProofs [-getElem?_pos, go_sem, hP, hq]
open Go.PA
open Go.RowKit
theorem strange1_pf (p : TPayment) (q : TQueue) (hl : q.Known.length ≤ 1000000) : PFun Tryz.prog none none 159 [.agg p.cells, .iref q.cells] (· = bv (!inK q.Known p)) := by
 refine pfun_intro Tryz.func159 rfl (by simp [Tryz.f159]) (by kernel_rfl) ?_
 intro E hP hr hs hW hN
 simp -dsimp -implicitDefEqProofs [-getElem?_pos, go_sem, hP, cPy, cQu]
 refine callB_is ((containsInt_pf q.Known p.Warrant hl).lift _ _) hP en_131 (by simp [imm_ints, imm_sc]) .sc ?_
 simp -dsimp -implicitDefEqProofs [-getElem?_pos, go_sem, hP, inK]
theorem bstrange_pf (q : TQueue) (l : List TPayment) (hq : q.Known.length ≤ 1000000) (hl : l.length ≤ 1000000) : PFun Tryz.prog none none 112 [.agg q.cells, paysL l] (· = bv (!l.all (inK q.Known))) := by
 refine pfun_intro Tryz.func112 rfl (by simp [Tryz.f112]) (by kernel_rfl) ?_
 intro E hP hr hs hW hN
 have iq := q.imm
 have ip := imm_pays l
 simp -dsimp -implicitDefEqProofs [-getElem?_pos, go_sem, hP, cQu, intsL]
 refine callB_pure (contains_pf_pay l 159 [.iref q.cells] (fun p => !inK q.Known p) hl en_159 (by simp [imm_iref]; exact q.imm) fun p _ => strange1_pf p q hq) hP en_158 (args_imm ip (args_fnc (cs := [.ref 0 0 0]) (by simp -dsimp [-getElem?_pos, go_sem, viewR_ref, cQu, intsL]) (by simp [imm_iref]; exact q.imm) (args_nil.2 trivial))) .sc ?_
 have e : l.any (fun p => !inK q.Known p) = !l.all (inK q.Known) := by rw [List.not_all_eq_any_not]
 simp -dsimp -implicitDefEqProofs [-getElem?_pos, go_sem, hP, e]
theorem waits1_pf (p : TPayment) (w : Int) : PFun Tryz.prog none none 178 [.agg p.cells, .iref [iv w]] (· = bv (decide (p.Warrant = w))) := by
 refine pfun_intro Tryz.func178 rfl (by simp [Tryz.f178]) (by kernel_rfl) ?_
 intro E hP hr hs hW hN
 simp -dsimp -implicitDefEqProofs [-getElem?_pos, go_sem, hP, cPy]
theorem bwaits_pf (q : TQueue) (w : Int) (hl : q.Waiting.length ≤ 1000000) : PFun Tryz.prog none none 143 [.agg q.cells, iv w] (· = iv (waitQ q w)) := by
 refine pfun_intro Tryz.func143 rfl (by simp [Tryz.f143]) (by kernel_rfl) ?_
 intro E hP hr hs hW hN
 have ip := imm_pays q.Waiting
 simp -dsimp -implicitDefEqProofs [-getElem?_pos, go_sem, hP, cQu, intsL]
 refine callB_pure (index_pf_pay q.Waiting 178 [.iref [iv w]] (fun p => decide (p.Warrant = w)) hl en_178 (by simp [imm_iref, imm_sc]) fun p _ => waits1_pf p w) hP en_165 (args_imm ip (args_fnc (cs := [.ref 1 0 0]) (by simp -dsimp [-getElem?_pos, go_sem, viewR_ref]) (by simp [imm_iref, imm_sc]) (args_nil.2 trivial))) .sc ?_
 simp -dsimp -implicitDefEqProofs [-getElem?_pos, go_sem, hP, waitQ]
theorem getM_put {β : Type} (l : List (Int × β)) (k a : Int) (v : β) : getM (putM l k v) a = if a = k then some v else getM l a := by
 induction l with
 | nil =>
  simp only [putM, getM]
  by_cases h : a = k
  ·subst h; simp
  ·rw [if_neg (fun e => h e.symm), if_neg h]
 | cons e l ih =>
  simp only [putM]
  by_cases h : e.1 = k
  ·rw [if_pos h]
   simp only [getM]
   by_cases h' : a = k
   ·subst h'; simp
   ·rw [if_neg (fun e => h' e.symm), if_neg h', if_neg (fun e' => h' (e'.symm.trans h))]
  ·rw [if_neg h]
   simp only [getM, ih]
   by_cases h' : e.1 = a
   ·rw [if_pos h', if_pos h', if_neg (fun e' => h (h'.trans e'))]
   ·rw [if_neg h', if_neg h']
def seenM (l : List TPayment) : List (Int × Bool) := l.foldl (fun m p => putM m p.Warrant true) []
theorem seen_from (w : Int) : ∀ (l : List TPayment) (m : List (Int × Bool)), (getM (l.foldl (fun m p => putM m p.Warrant true) m) w).getD false = ((getM m w).getD false || l.any fun x => decide (x.Warrant = w))
 | [], m => by simp
 | p :: l, m => by
  rw [List.foldl_cons, seen_from w l, getM_put, List.any_cons]
  by_cases h : w = p.Warrant
  ·simp [h]
  ·have h' : ¬ p.Warrant = w := fun e => h e.symm
   simp [h, h']
theorem seen_get (l : List TPayment) (w : Int) : (getM (seenM l) w).getD false = l.any fun x => decide (x.Warrant = w) := by
 rw [seenM, seen_from]
 simp [getM]
theorem seen_snoc (l : List TPayment) (p : TPayment) : putM (seenM l) p.Warrant true = seenM (l ++ [p]) := by
 rw [seenM, seenM, List.foldl_append]
 rfl
theorem btwice_pf (l : List TPayment) (hl : l.length ≤ 1000000) : PFun Tryz.prog none none 113 [paysL l] (· = bv (!distFrom [] l)) := by
 refine pfun_intro Tryz.func113 rfl (by simp [Tryz.f113]) (by kernel_rfl) ?_
 intro E hP hr hs hW hN
 obtain ⟨R, hR⟩ : ∃ R, R = distFrom [] l := ⟨_, rfl⟩
 rw [← hR]
 simp -dsimp -implicitDefEqProofs [-getElem?_pos, go_sem, hP]
 obtain ⟨I, hI⟩ : ∃ I : Nat → St → Prop, I = fun m s => ∃ k : Nat, k ≤ l.length ∧ m = l.length - k ∧ R = distFrom (l.take k) (l.drop k) ∧ s.t 3 = .mref 0 ∧ s.t 7 = paysL l ∧ s.t 8 = iv l.length ∧ s.t 9 = iv k ∧ s.H[0]? = some (some ⟨0, 2, encK valB (seenM (l.take k))⟩) := ⟨_, rfl⟩
 refine aloop0 I (l.length) (by rw [hN]; rfl) ?_ ?_
 ·rw [hI]
  exact ⟨0, by omega, by omega, by rw [hR]; rfl, by simp -dsimp [-getElem?_pos, go_sem], by simp -dsimp [-getElem?_pos, go_sem], by simp -dsimp [-getElem?_pos, go_sem], by simp -dsimp [-getElem?_pos, go_sem], by simp -dsimp [-getElem?_pos, go_sem]; rfl⟩
 intro m s hs'
 rw [hI] at hs'
 obtain ⟨k, hk, hm, hq, t3, t7, t8, t9, hH⟩ := hs'
 have lt0 := (gsI hH)
 simp -dsimp -implicitDefEqProofs [-getElem?_pos, go_sem, hP, t8, t9]
 refine condP (fun h => ?_) (fun h => ?_)
 ·have hk : k < l.length := by simpa using h
  obtain ⟨p, hp⟩ : ∃ p, l[k]? = some p := ⟨_, List.getElem?_eq_getElem hk⟩
  have wk := wrap_in ((k : Int) + 1) (by omega)
  rw [drop_at hp, distFrom] at hq
  have sg := seen_get (l.take k) p.Warrant
  have ss := seen_snoc (l.take k) p
  rw [← take_at hp] at ss hq
  generalize seenM (l.take k) = M at sg ss hH
  generalize (l.take k).any (fun x => decide (x.Warrant = p.Warrant)) = y at sg hq
  cases y
  ·rw [Bool.not_false, Bool.true_and] at hq
   simp -dsimp -implicitDefEqProofs [-getElem?_pos, go_sem, hP, t7, t9, hp, cPy, t3, lt0, hH, sg]
   simp -dsimp -implicitDefEqProofs [-getElem?_pos, go_sem, hP, t3, lt0, hH, wk, t9, ss]
   refine ⟨l.length - (k + 1), by omega, ?_⟩
   rw [hI]
   exact ⟨k + 1, by omega, rfl, hq, by simp -dsimp [-getElem?_pos, go_sem, t3], by simp -dsimp [-getElem?_pos, go_sem, t7], by simp -dsimp [-getElem?_pos, go_sem, t8], by simp -dsimp [-getElem?_pos, go_sem], by simp -dsimp [-getElem?_pos, go_sem, lt0]⟩
  ·rw [Bool.not_true, Bool.false_and] at hq
   simp -dsimp -implicitDefEqProofs [-getElem?_pos, go_sem, hP, t7, t9, hp, cPy, t3, lt0, hH, sg, hq]
 ·have hk : k = l.length := by simp at h; omega
  subst hk
  rw [List.drop_length, distFrom] at hq
  simp -dsimp -implicitDefEqProofs [-getElem?_pos, go_sem, hP, hq]
theorem cvalid_pf (d : Int) : PFun Tryz.prog none none 122 [iv d] (· = bv (amg d 0 36000)) := by
 refine pfun_intro Tryz.func122 rfl (by simp [Tryz.f122]) (by kernel_rfl) ?_
 intro E hP hr hs hW hN
 by_cases h1 : 0 ≤ d <;> by_cases h2 : d ≤ 36000 <;> simp -dsimp -implicitDefEqProofs [-getElem?_pos, go_sem, hP, h1, h2, amg]
theorem r02valid_pf (d : Int) : PFun Tryz.prog none none 151 [iv d] (· = bv (amg d 0 36000)) := by
 refine pfun_intro Tryz.func151 rfl (by simp [Tryz.f151]) (by kernel_rfl) ?_
 intro E hP hr hs hW hN
 by_cases h1 : 0 ≤ d <;> by_cases h2 : d ≤ 36000 <;> simp -dsimp -implicitDefEqProofs [-getElem?_pos, go_sem, hP, h1, h2, amg]
theorem cbusiness_pf (d : Int) : PFun Tryz.prog none none 58 [iv d] (· = bv (busB d)) := by
 refine pfun_intro Tryz.func58 rfl (by simp [Tryz.f58]) (by kernel_rfl) ?_
 intro E hP hr hs hW hN
 simp -dsimp -implicitDefEqProofs [-getElem?_pos, go_sem, hP]
 refine callB_pure (cvalid_pf d) hP en_122 (args_same (by simp -dsimp [-getElem?_pos, go_sem])) .sc ?_
 cases h : amg d 0 36000
 ·simp -dsimp -implicitDefEqProofs [-getElem?_pos, go_sem, hP, h, busB]
 have hd := amg_iff.1 h
 have e : d.tmod 7 = d % 7 := Int.tmod_eq_emod_of_nonneg (by omega)
 have w := wrap_in (d % 7) (by omega)
 simp -dsimp -implicitDefEqProofs [-getElem?_pos, go_sem, hP, h, busB, e, w]
theorem r02business_pf (d : Int) : PFun Tryz.prog none none 90 [iv d] (· = bv (busB d)) := by
 refine pfun_intro Tryz.func90 rfl (by simp [Tryz.f90]) (by kernel_rfl) ?_
 intro E hP hr hs hW hN
 simp -dsimp -implicitDefEqProofs [-getElem?_pos, go_sem, hP]
 refine callB_pure (r02valid_pf d) hP en_151 (args_same (by simp -dsimp [-getElem?_pos, go_sem])) .sc ?_
 cases h : amg d 0 36000
 ·simp -dsimp -implicitDefEqProofs [-getElem?_pos, go_sem, hP, h, busB]
 have hd := amg_iff.1 h
 have e : d.tmod 7 = d % 7 := Int.tmod_eq_emod_of_nonneg (by omega)
 have w := wrap_in (d % 7) (by omega)
 simp -dsimp -implicitDefEqProofs [-getElem?_pos, go_sem, hP, h, busB, e, w]
open Go.PA
open Go.RowKit
set_option maxHeartbeats 1000000 in
theorem bsent_pf (q : TQueue) (hf : FitQ q) : PFun Tryz.prog none none 114 [.agg q.cells] (· = bv (batsFrom q.Known 0 0 q.Batches)) := by
 refine pfun_intro Tryz.func114 rfl (by simp [Tryz.f114]) (by kernel_rfl) ?_
 intro E hP hr hs hW hN
 have iq := imm_que q
 obtain ⟨R, hR⟩ : ∃ R, R = batsFrom q.Known 0 0 q.Batches := ⟨_, rfl⟩
 rw [← hR]
 have str := bstrange_pf q
 rw [cQu] at iq str
 simp only [intsL] at iq str
 have hk9 := hf.k
 have hb9 := hf.b
 obtain ⟨l, hl⟩ : ∃ l, l = q.Batches := ⟨_, rfl⟩
 have each : ∀ b, b ∈ l → b.Payments.length ≤ 100000 := hl ▸ hf.each
 rw [← hl] at hR hb9 str iq
 simp -dsimp -implicitDefEqProofs [-getElem?_pos, go_sem, hP, cQu, intsL, ← hl]
 obtain ⟨I, hI⟩ : ∃ I : Nat → St → Prop, I = fun m s => ∃ (k : Nat) (d : Int), k ≤ l.length ∧ m = l.length - k ∧ R = batsFrom q.Known k d (l.drop k) ∧ s.t 1 = .ref 0 0 0 ∧ s.t 3 = iv d ∧ s.t 7 = batsL l ∧ s.t 8 = iv l.length ∧ s.t 9 = iv k ∧ s.H[0]? = some (some ⟨32, 3, [[paysL q.Waiting, .list 1 (q.Known.map fun x => [iv x]), batsL l]]⟩) := ⟨_, rfl⟩
 refine aloop0 I (l.length) (by rw [hN]; rfl) ?_ ?_
 ·rw [hI]
  exact ⟨0, 0, by omega, by omega, by rw [hR]; rfl, by simp -dsimp [-getElem?_pos, go_sem], by simp -dsimp [-getElem?_pos, go_sem], by simp -dsimp [-getElem?_pos, go_sem], by simp -dsimp [-getElem?_pos, go_sem], by simp -dsimp [-getElem?_pos, go_sem], by simp -dsimp [-getElem?_pos, go_sem]⟩
 intro m s hs'
 rw [hI] at hs'
 obtain ⟨k, d, hk, hm, hq, t1, t3, t7, t8, t9, h0⟩ := hs'
 have lt0 := (gsI h0)
 simp -dsimp -implicitDefEqProofs [-getElem?_pos, go_sem, hP, t8, t9]
 refine condP (fun h => ?_) (fun h => ?_)
 ·have hk : k < l.length := by simpa using h
  obtain ⟨b, hb⟩ : ∃ b, l[k]? = some b := ⟨_, List.getElem?_eq_getElem hk⟩
  have hbl := each b (List.mem_of_getElem? hb)
  have wk := wrap_in ((k : Int) + 1) (by omega)
  have ip := imm_pays b.Payments
  rw [drop_at hb, batsFrom, batB] at hq
  simp -dsimp -implicitDefEqProofs [-getElem?_pos, go_sem, hP, t7, t9, hb, cBt]
  by_cases c1 : b.Number = (k : Int) + 1
  rotate_left
  ·rw [decide_eq_false c1, Bool.false_and, Bool.false_and] at hq
   have d1 := decide_eq_false c1
   simp -dsimp -implicitDefEqProofs [-getElem?_pos, go_sem, hP, wk, c1, d1, hq]
  rw [decide_eq_true c1, Bool.true_and] at hq
  by_cases c2 : d ≤ b.Day
  rotate_left
  ·rw [decide_eq_false c2, Bool.false_and, Bool.false_and] at hq
   have d2 : decide (b.Day < d) = true := decide_eq_true (by omega)
   simp -dsimp -implicitDefEqProofs [-getElem?_pos, go_sem, hP, wk, c1, t3, d2, hq]
  rw [decide_eq_true c2, Bool.true_and] at hq
  have d2 : decide (b.Day < d) = false := decide_eq_false (by omega)
  simp -dsimp -implicitDefEqProofs [-getElem?_pos, go_sem, hP, wk, c1, t3, d2]
  refine callB_pure (cbusiness_pf b.Day) hP en_58 (args_same (by simp -dsimp [-getElem?_pos, go_sem])) .sc ?_
  cases c3 : busB b.Day
  ·rw [c3, Bool.false_and, Bool.false_and] at hq
   simp -dsimp -implicitDefEqProofs [-getElem?_pos, go_sem, hP, c3, hq]
  rw [c3, Bool.true_and] at hq
  simp -dsimp -implicitDefEqProofs [-getElem?_pos, go_sem, hP, c3]
  refine callB_pure (bamong_pf b.Payments.length 1 10) hP en_157 (args_same (by simp -dsimp [-getElem?_pos, go_sem])) .sc ?_
  cases c4 : amg b.Payments.length 1 10
  ·rw [c4, Bool.false_and, Bool.false_and] at hq
   simp -dsimp -implicitDefEqProofs [-getElem?_pos, go_sem, hP, c4, hq]
  rw [c4, Bool.true_and, ascB] at hq
  simp -dsimp -implicitDefEqProofs [-getElem?_pos, go_sem, hP, c4]
  refine callB_is ((bordered_pf b.Payments (by omega)).lift _ _) hP en_110 (by simpa using ip) .sc ?_
  cases c5 : ordFrom none b.Payments
  ·rw [c5, Bool.false_and, Bool.false_and] at hq
   simp -dsimp -implicitDefEqProofs [-getElem?_pos, go_sem, hP, c5, hq]
  rw [c5, Bool.true_and] at hq
  simp -dsimp -implicitDefEqProofs [-getElem?_pos, go_sem, hP, c5, t1, h0, lt0]
  refine callB_is ((str b.Payments (by omega) (by omega)).lift _ _) hP en_112 (by simpa using ⟨iq, ip⟩) .sc ?_
  cases c6 : b.Payments.all (inK q.Known)
  ·rw [c6, Bool.false_and, Bool.false_and] at hq
   simp -dsimp -implicitDefEqProofs [-getElem?_pos, go_sem, hP, c6, hq]
  rw [c6, Bool.true_and] at hq
  simp -dsimp -implicitDefEqProofs [-getElem?_pos, go_sem, hP, c6]
  refine callB_is ((btwice_pf b.Payments (by omega)).lift _ _) hP en_113 (by simpa using ip) .sc ?_
  cases c7 : distFrom [] b.Payments
  ·rw [c7, Bool.false_and] at hq
   simp -dsimp -implicitDefEqProofs [-getElem?_pos, go_sem, hP, c7, hq]
  rw [c7, Bool.true_and] at hq
  simp -dsimp -implicitDefEqProofs [-getElem?_pos, go_sem, hP, c7, t9, wk]
  refine ⟨l.length - (k + 1), by omega, ?_⟩
  rw [hI]
  exact ⟨k + 1, b.Day, by omega, rfl, hq, by simp -dsimp [-getElem?_pos, go_sem, t1], by simp -dsimp [-getElem?_pos, go_sem], by simp -dsimp [-getElem?_pos, go_sem, t7], by simp -dsimp [-getElem?_pos, go_sem, t8], by simp -dsimp [-getElem?_pos, go_sem], by simp -dsimp [-getElem?_pos, go_sem, lt0, h0]⟩
 ·have hk : k = l.length := by simp at h; omega
  subst hk
  rw [List.drop_length, batsFrom] at hq
  simp -dsimp -implicitDefEqProofs [-getElem?_pos, go_sem, hP, hq]
set_option maxHeartbeats 1000000 in
theorem bcheck_pf (q : TQueue) (hf : FitQ q) : PFun Tryz.prog none none 53 [.agg q.cells] (· = iv (checkQ q)) := by
 refine pfun_intro Tryz.func53 rfl (by simp [Tryz.f53]) (by kernel_rfl) ?_
 intro E hP hr hs hW hN
 have iq := imm_que q
 have iw := imm_pays q.Waiting
 have ik := imm_ints q.Known
 obtain ⟨R, hR⟩ : ∃ R, R = checkQ q := ⟨_, rfl⟩
 rw [← hR]
 have str := bstrange_pf q
 have sen := bsent_pf q hf
 have knn := bknown_pf q.Known (by have := hf.k; omega)
 rw [cQu] at iq str sen
 simp only [intsL] at iq str sen knn ik
 have hk9 := hf.k
 have hb9 := hf.b
 have hw9 := hf.w
 rw [checkQ] at hR
 by_cases c1 : 100 < q.Waiting.length
 ·have d1 : decide ((100 : Int) < (q.Waiting.length : Int)) = true := decide_eq_true (by omega)
  rw [if_pos (.inl c1)] at hR
  simp -dsimp -implicitDefEqProofs [-getElem?_pos, go_sem, hP, cQu, intsL, c1, d1, hR]
 have d1 : decide ((100 : Int) < (q.Waiting.length : Int)) = false := decide_eq_false (by omega)
 by_cases c2 : 200 < q.Known.length
 ·have d2 : decide ((200 : Int) < (q.Known.length : Int)) = true := decide_eq_true (by omega)
  rw [if_pos (.inr (.inl c2))] at hR
  simp -dsimp -implicitDefEqProofs [-getElem?_pos, go_sem, hP, cQu, intsL, c1, d1, c2, d2, hR]
 have d2 : decide ((200 : Int) < (q.Known.length : Int)) = false := decide_eq_false (by omega)
 by_cases c3 : 200 < q.Batches.length
 ·have d3 : decide ((200 : Int) < (q.Batches.length : Int)) = true := decide_eq_true (by omega)
  rw [if_pos (.inr (.inr c3))] at hR
  simp -dsimp -implicitDefEqProofs [-getElem?_pos, go_sem, hP, cQu, intsL, c1, d1, c2, d2, c3, d3, hR]
 have d3 : decide ((200 : Int) < (q.Batches.length : Int)) = false := decide_eq_false (by omega)
 rw [if_neg (by omega), ascB] at hR
 simp -dsimp -implicitDefEqProofs [-getElem?_pos, go_sem, hP, cQu, intsL, d1, d2, d3]
 refine callB_is ((bordered_pf q.Waiting (by omega)).lift _ _) hP en_110 (by simpa using iw) .sc ?_
 cases c5 : ordFrom none q.Waiting
 ·rw [c5, Bool.false_and, Bool.false_and, Bool.and_false, if_neg (by simp)] at hR
  simp -dsimp -implicitDefEqProofs [-getElem?_pos, go_sem, hP, c5, hR]
 rw [c5, Bool.true_and] at hR
 simp -dsimp -implicitDefEqProofs [-getElem?_pos, go_sem, hP, c5]
 refine callB_is (knn.lift _ _) hP en_111 (by simpa using ik) .sc ?_
 cases c4 : knFrom none q.Known
 ·rw [c4, Bool.false_and, if_neg (by simp)] at hR
  simp -dsimp -implicitDefEqProofs [-getElem?_pos, go_sem, hP, c4, hR]
 rw [c4, Bool.true_and] at hR
 simp -dsimp -implicitDefEqProofs [-getElem?_pos, go_sem, hP, c4]
 refine callB_is ((str q.Waiting (by omega) (by omega)).lift _ _) hP en_112 (by simpa using ⟨iq, iw⟩) .sc ?_
 cases c6 : q.Waiting.all (inK q.Known)
 ·rw [c6, Bool.false_and, Bool.false_and, if_neg (by simp)] at hR
  simp -dsimp -implicitDefEqProofs [-getElem?_pos, go_sem, hP, c6, hR]
 rw [c6, Bool.true_and] at hR
 simp -dsimp -implicitDefEqProofs [-getElem?_pos, go_sem, hP, c6]
 refine callB_is ((btwice_pf q.Waiting (by omega)).lift _ _) hP en_113 (by simpa using iw) .sc ?_
 cases c7 : distFrom [] q.Waiting
 ·rw [c7, Bool.false_and, if_neg (by simp)] at hR
  simp -dsimp -implicitDefEqProofs [-getElem?_pos, go_sem, hP, c7, hR]
 rw [c7, Bool.true_and] at hR
 simp -dsimp -implicitDefEqProofs [-getElem?_pos, go_sem, hP, c7]
 refine callB_is (sen.lift _ _) hP en_114 (by simpa using iq) .sc ?_
 cases c8 : batsFrom q.Known 0 0 q.Batches
 ·rw [c8, if_neg (by simp)] at hR
  simp -dsimp -implicitDefEqProofs [-getElem?_pos, go_sem, hP, c8, hR]
 rw [c8, if_pos rfl] at hR
 simp -dsimp -implicitDefEqProofs [-getElem?_pos, go_sem, hP, c8, hR]
open Go.PA
open Go.RowKit
theorem rpay_pf (p : TPayment) : PFun Tryz.prog none none 85 [.agg p.cells] (· = bv (payB p)) := by
 refine pfun_intro Tryz.func85 rfl (by simp [Tryz.f85]) (by kernel_rfl) ?_
 intro E hP hr hs hW hN
 obtain ⟨R, hR⟩ : ∃ R, R = payB p := ⟨_, rfl⟩
 rw [← hR]
 have hiff := payB_iff p
 rw [← hR] at hiff
 have no : ¬ PayOk p → R = false := fun h => Bool.eq_false_iff.2 fun e => h (hiff.1 e)
 have yes : PayOk p → R = true := hiff.2
 by_cases c1 : 1 ≤ p.Warrant
 rotate_left
 ·have := no fun h => c1 h.warrant.1
  simp -dsimp -implicitDefEqProofs [-getElem?_pos, go_sem, hP, cPy, c1, this]
 by_cases c2 : p.Warrant ≤ 1000000
 rotate_left
 ·have := no fun h => c2 h.warrant.2
  simp -dsimp -implicitDefEqProofs [-getElem?_pos, go_sem, hP, cPy, c1, c2, this]
 by_cases c3 : 1 ≤ p.Payee
 rotate_left
 ·have := no fun h => c3 h.payee.1
  simp -dsimp -implicitDefEqProofs [-getElem?_pos, go_sem, hP, cPy, c1, c2, c3, this]
 by_cases c4 : p.Payee ≤ 1000000
 rotate_left
 ·have := no fun h => c4 h.payee.2
  simp -dsimp -implicitDefEqProofs [-getElem?_pos, go_sem, hP, cPy, c1, c2, c3, c4, this]
 by_cases c5 : 1 ≤ p.Amount
 rotate_left
 ·have := no fun h => c5 h.amount.1
  simp -dsimp -implicitDefEqProofs [-getElem?_pos, go_sem, hP, cPy, c1, c2, c3, c4, c5, this]
 by_cases c6 : p.Amount ≤ 1000000000000
 rotate_left
 ·have := no fun h => c6 h.amount.2
  simp -dsimp -implicitDefEqProofs [-getElem?_pos, go_sem, hP, cPy, c1, c2, c3, c4, c5, c6, this]
 by_cases c7 : 0 ≤ p.Due
 rotate_left
 ·have := no fun h => c7 h.due.1
  simp -dsimp -implicitDefEqProofs [-getElem?_pos, go_sem, hP, cPy, c1, c2, c3, c4, c5, c6, c7, this]
 by_cases c8 : p.Due ≤ 35990
 rotate_left
 ·have := no fun h => c8 h.due.2
  simp -dsimp -implicitDefEqProofs [-getElem?_pos, go_sem, hP, cPy, c1, c2, c3, c4, c5, c6, c7, c8, this]
 by_cases c9 : 1 ≤ p.Sub
 rotate_left
 ·have := no fun h => c9 h.sub.1
  simp -dsimp -implicitDefEqProofs [-getElem?_pos, go_sem, hP, cPy, c1, c2, c3, c4, c5, c6, c7, c8, c9, this]
 by_cases c10 : p.Sub ≤ 1000
 rotate_left
 ·have := no fun h => c10 h.sub.2
  simp -dsimp -implicitDefEqProofs [-getElem?_pos, go_sem, hP, cPy, c1, c2, c3, c4, c5, c6, c7, c8, c9, c10, this]
 have := yes ⟨⟨c1, c2⟩, ⟨c3, c4⟩, ⟨c5, c6⟩, ⟨c7, c8⟩, c9, c10⟩
 simp -dsimp -implicitDefEqProofs [-getElem?_pos, go_sem, hP, cPy, c1, c2, c3, c4, c5, c6, c7, c8, c9, c10, this]
theorem rbefore_pf (a b : TPayment) : PFun Tryz.prog none none 170 [.agg a.cells, .agg b.cells] (· = bv (befB a b)) := by
 refine pfun_intro Tryz.func170 rfl (by simp [Tryz.f170]) (by kernel_rfl) ?_
 intro E hP hr hs hW hN
 by_cases c1 : a.Due < b.Due
 ·have : befB a b = true := befB_iff.2 (.inl c1)
  simp -dsimp -implicitDefEqProofs [-getElem?_pos, go_sem, hP, cPy, c1, this]
 by_cases c2 : a.Due = b.Due
 rotate_left
 ·have : befB a b = false := Bool.eq_false_iff.2 fun e => by have := befB_iff.1 e; unfold Bef at this; omega
  simp -dsimp -implicitDefEqProofs [-getElem?_pos, go_sem, hP, cPy, c1, c2, this]
 have d1 : decide (b.Due < b.Due) = false := decide_eq_false (by omega)
 by_cases c3 : a.Warrant < b.Warrant
 ·have : befB a b = true := befB_iff.2 (.inr ⟨c2, c3⟩)
  simp -dsimp -implicitDefEqProofs [-getElem?_pos, go_sem, hP, cPy, c1, c2, c3, d1, this]
 ·have : befB a b = false := Bool.eq_false_iff.2 fun e => by have := befB_iff.1 e; unfold Bef at this; omega
  simp -dsimp -implicitDefEqProofs [-getElem?_pos, go_sem, hP, cPy, c1, c2, c3, d1, this]
theorem rknown_pf (q : TQueue) (w : Int) (hl : q.Known.length ≤ 1000000) : PFun Tryz.prog none none 149 [.agg q.cells, iv w] (· = bv (decide (w ∈ q.Known))) := by
 refine pfun_intro Tryz.func149 rfl (by simp [Tryz.f149]) (by kernel_rfl) ?_
 intro E hP hr hs hW hN
 obtain ⟨R, hR⟩ : ∃ R, R = decide (w ∈ q.Known) := ⟨_, rfl⟩
 rw [← hR]
 obtain ⟨l, hll⟩ : ∃ l, l = q.Known := ⟨_, rfl⟩
 rw [← hll] at hR hl
 simp -dsimp -implicitDefEqProofs [-getElem?_pos, go_sem, hP, cQu, intsL, ← hll]
 obtain ⟨I, hI⟩ : ∃ I : Nat → St → Prop, I = fun m s => ∃ k : Nat, k ≤ l.length ∧ m = l.length - k ∧ R = decide (w ∈ l.drop k) ∧ s.t 1 = iv w ∧ s.t 8 = intsL l ∧ s.t 9 = iv l.length ∧ s.t 10 = iv k := ⟨_, rfl⟩
 refine aloop0 I (l.length) (by rw [hN]; rfl) ?_ ?_
 ·rw [hI]
  exact ⟨0, by omega, by omega, by rw [hR]; rfl, by simp -dsimp [-getElem?_pos, go_sem], by simp -dsimp [-getElem?_pos, go_sem, intsL], by simp -dsimp [-getElem?_pos, go_sem], by simp -dsimp [-getElem?_pos, go_sem]⟩
 intro m s hs'
 rw [hI] at hs'
 obtain ⟨k, hk, hm, hq, t1, t8, t9, t10⟩ := hs'
 simp -dsimp -implicitDefEqProofs [-getElem?_pos, go_sem, hP, t9, t10]
 refine condP (fun h => ?_) (fun h => ?_)
 ·have hk : k < l.length := by simpa using h
  obtain ⟨a, ha⟩ : ∃ a, l[k]? = some a := ⟨_, List.getElem?_eq_getElem hk⟩
  have wk := wrap_in ((k : Int) + 1) (by omega)
  rw [drop_at ha] at hq
  simp only [List.mem_cons] at hq
  by_cases c : a = w
  ·have : R = true := by rw [hq]; simp [c]
   simp -dsimp -implicitDefEqProofs [-getElem?_pos, go_sem, hP, t8, t10, intsL, ha, t1, c, this]
  ·have c' : ¬ w = a := fun e => c e.symm
   have d := decide_eq_false c
   simp only [c', false_or] at hq
   simp -dsimp -implicitDefEqProofs [-getElem?_pos, go_sem, hP, t8, t10, intsL, ha, t1, c, d, wk]
   refine ⟨l.length - (k + 1), by omega, ?_⟩
   rw [hI]
   exact ⟨k + 1, by omega, rfl, hq, by simp -dsimp [-getElem?_pos, go_sem, t1], by simp -dsimp [-getElem?_pos, go_sem, t8], by simp -dsimp [-getElem?_pos, go_sem, t9], by simp -dsimp [-getElem?_pos, go_sem]⟩
 ·have hk : k = l.length := by simp at h; omega
  subst hk
  rw [List.drop_length] at hq
  have : R = false := by rw [hq]; simp
  simp -dsimp -implicitDefEqProofs [-getElem?_pos, go_sem, hP, this]
theorem rwaits_pf (q : TQueue) (w : Int) (hl : q.Waiting.length ≤ 1000000) : PFun Tryz.prog none none 152 [.agg q.cells, iv w] (· = iv (waitQ q w)) := by
 refine pfun_intro Tryz.func152 rfl (by simp [Tryz.f152]) (by kernel_rfl) ?_
 intro E hP hr hs hW hN
 obtain ⟨R, hR⟩ : ∃ R, R = waitQ q w := ⟨_, rfl⟩
 rw [← hR]
 rw [waitQ] at hR
 obtain ⟨l, hll⟩ : ∃ l, l = q.Waiting := ⟨_, rfl⟩
 rw [← hll] at hR hl
 simp -dsimp -implicitDefEqProofs [-getElem?_pos, go_sem, hP, cQu, intsL, ← hll]
 obtain ⟨I, hI⟩ : ∃ I : Nat → St → Prop, I = fun m s => ∃ k : Nat, k ≤ l.length ∧ m = l.length - k ∧ R = idxFrom (fun p : TPayment => decide (p.Warrant = w)) k (l.drop k) ∧ s.t 1 = iv w ∧ s.t 8 = paysL l ∧ s.t 9 = iv l.length ∧ s.t 10 = iv k := ⟨_, rfl⟩
 refine aloop0 I (l.length) (by rw [hN]; rfl) ?_ ?_
 ·rw [hI]
  exact ⟨0, by omega, by omega, by rw [hR]; rfl, by simp -dsimp [-getElem?_pos, go_sem], by simp -dsimp [-getElem?_pos, go_sem], by simp -dsimp [-getElem?_pos, go_sem], by simp -dsimp [-getElem?_pos, go_sem]⟩
 intro m s hs'
 rw [hI] at hs'
 obtain ⟨k, hk, hm, hq, t1, t8, t9, t10⟩ := hs'
 simp -dsimp -implicitDefEqProofs [-getElem?_pos, go_sem, hP, t9, t10]
 refine condP (fun h => ?_) (fun h => ?_)
 ·have hk : k < l.length := by simpa using h
  obtain ⟨a, ha⟩ : ∃ a, l[k]? = some a := ⟨_, List.getElem?_eq_getElem hk⟩
  have wk := wrap_in ((k : Int) + 1) (by omega)
  rw [drop_at ha, idxFrom] at hq
  by_cases c : a.Warrant = w
  ·rw [if_pos (by simpa using c)] at hq
   simp -dsimp -implicitDefEqProofs [-getElem?_pos, go_sem, hP, t8, t10, ha, cPy, t1, c, hq]
  ·rw [if_neg (by simpa using c)] at hq
   have d := decide_eq_false c
   simp -dsimp -implicitDefEqProofs [-getElem?_pos, go_sem, hP, t8, t10, ha, cPy, t1, c, d, wk]
   refine ⟨l.length - (k + 1), by omega, ?_⟩
   rw [hI]
   exact ⟨k + 1, by omega, rfl, hq, by simp -dsimp [-getElem?_pos, go_sem, t1], by simp -dsimp [-getElem?_pos, go_sem, t8], by simp -dsimp [-getElem?_pos, go_sem, t9], by simp -dsimp [-getElem?_pos, go_sem]⟩
 ·have hk : k = l.length := by simp at h; omega
  subst hk
  rw [List.drop_length, idxFrom] at hq
  simp -dsimp -implicitDefEqProofs [-getElem?_pos, go_sem, hP, hq]
set_option maxHeartbeats 1000000 in
theorem rascending_pf (q : TQueue) (l : List TPayment) (hk9 : q.Known.length ≤ 1000000) (hl : l.length ≤ 1000000) : PFun Tryz.prog none none 133 [.agg q.cells, paysL l] (· = bv (ascB q.Known l)) := by
 refine pfun_intro Tryz.func133 rfl (by simp [Tryz.f133]) (by kernel_rfl) ?_
 intro E hP hr hs hW hN
 have iq := imm_que q
 have knn := fun w => rknown_pf q w hk9
 rw [cQu] at iq
 simp only [cQu] at knn
 simp only [intsL] at iq knn
 obtain ⟨R, hR⟩ : ∃ R, R = ascB q.Known l := ⟨_, rfl⟩
 rw [← hR]
 simp -dsimp -implicitDefEqProofs [-getElem?_pos, go_sem, hP, cQu, intsL]
 obtain ⟨I, hI⟩ : ∃ I : Nat → St → Prop, I = fun m s => ∃ (k : Nat) (o : Option TPayment), k ≤ l.length ∧ m = l.length - k ∧ R = (ordFrom o (l.drop k) && ((l.drop k).all (inK q.Known) && distFrom (l.take k) (l.drop k))) ∧ (k = 0 → o = none) ∧ (∀ j x, k = j + 1 → l[j]? = some x → o = some x) ∧ s.t 1 = paysL l ∧ s.t 2 = .ref 0 0 0 ∧ s.t 9 = paysL l ∧ s.t 10 = iv l.length ∧ s.t 11 = iv k ∧ s.H[0]? = some (some ⟨32, 3, [[paysL q.Waiting, .list 1 (q.Known.map fun x => [iv x]), batsL q.Batches]]⟩) := ⟨_, rfl⟩
 refine aloop0 I (l.length) (by rw [hN]; rfl) ?_ ?_
 ·rw [hI]
  exact ⟨0, none, by omega, by omega, by rw [hR]; rfl, by simp, by omega, by simp -dsimp [-getElem?_pos, go_sem], by simp -dsimp [-getElem?_pos, go_sem], by simp -dsimp [-getElem?_pos, go_sem], by simp -dsimp [-getElem?_pos, go_sem], by simp -dsimp [-getElem?_pos, go_sem], by simp -dsimp [-getElem?_pos, go_sem]⟩
 intro m s hs'
 rw [hI] at hs'
 obtain ⟨k, o, hk, hm, hq, ho0, ho1, t1, t2, t9, t10, t11, h0⟩ := hs'
 have lt0 := (gsI h0)
 simp -dsimp -implicitDefEqProofs [-getElem?_pos, go_sem, hP, t10, t11]
 refine condP (fun h => ?_) (fun h => ?_)
 rotate_left
 ·have hk : k = l.length := by simp at h; omega
  subst hk
  rw [List.drop_length, ordFrom, distFrom] at hq
  have : R = true := by rw [hq]; rfl
  simp -dsimp -implicitDefEqProofs [-getElem?_pos, go_sem, hP, this]
 have hk : k < l.length := by simpa using h
 obtain ⟨p, hp⟩ : ∃ p, l[k]? = some p := ⟨_, List.getElem?_eq_getElem hk⟩
 have wk := wrap_in ((k : Int) + 1) (by omega)
 have ip := imm_pay p
 have py := rpay_pf p
 rw [cPy] at py ip
 rw [drop_at hp, ordFrom, List.all_cons, distFrom, ← take_at hp] at hq
 have g0 : ∀ x : Option AObj, (s.H ++ [x])[0]? = some (some ⟨32, 3, [[paysL q.Waiting, .list 1 (q.Known.map fun x => [iv x]), batsL q.Batches]]⟩) := fun x => by rw [List.getElem?_append_left lt0]; exact h0
 obtain ⟨n, hn⟩ : ∃ n, n = s.H.length := ⟨_, rfl⟩
 obtain ⟨Inv, hInv⟩ : ∃ Inv : St → Prop, Inv = fun s' => (R = false ∧ s'.t 39 = bv true ∨ s'.t 39 = bv false ∧ R = (ordFrom (some p) (l.drop (k + 1)) && (((l.drop (k + 1)).all (inK q.Known)) && (!((l.take k).any fun x => decide (x.Warrant = p.Warrant)) && distFrom (l.take (k + 1)) (l.drop (k + 1)))))) ∧ s'.t 1 = paysL l ∧ s'.t 2 = .ref 0 0 0 ∧ s'.t 5 = iv k ∧ s'.t 6 = .ref n 0 0 ∧ s'.t 9 = paysL l ∧ s'.t 10 = iv l.length ∧ s'.t 11 = iv k ∧ s'.H[0]? = some (some ⟨32, 3, [[paysL q.Waiting, .list 1 (q.Known.map fun x => [iv x]), batsL q.Batches]]⟩) ∧ s'.H[n]? = some (some ⟨44, 5, [[iv p.Warrant, iv p.Payee, iv p.Amount, iv p.Due, iv p.Sub]]⟩) := ⟨_, rfl⟩
 have fin : ∀ s' : St, (R = false ∧ s'.t 39 = bv true ∨ s'.t 39 = bv false ∧ R = (ordFrom (some p) (l.drop (k + 1)) && (((l.drop (k + 1)).all (inK q.Known)) && (!((l.take k).any fun x => decide (x.Warrant = p.Warrant)) && distFrom (l.take (k + 1)) (l.drop (k + 1)))))) → s'.t 1 = paysL l → s'.t 2 = .ref 0 0 0 → s'.t 5 = iv k → s'.t 6 = .ref n 0 0 → s'.t 9 = paysL l → s'.t 10 = iv l.length → s'.t 11 = iv k → s'.H[0]? = some (some ⟨32, 3, [[paysL q.Waiting, .list 1 (q.Known.map fun x => [iv x]), batsL q.Batches]]⟩) → s'.H[n]? = some (some ⟨44, 5, [[iv p.Warrant, iv p.Payee, iv p.Amount, iv p.Due, iv p.Sub]]⟩) → Inv s' := fun s' a b c d e f g h i j => by
  rw [hInv]
  exact ⟨a, b, c, d, e, f, g, h, i, j⟩
 simp -dsimp -implicitDefEqProofs [-getElem?_pos, go_sem, hP, t9, t11, hp, cPy]
 refine adraw_cut Inv ?_ ?_
 ·refine adrawB (fun _ => true) [] hP (by kernel_rfl) (by kernel_rfl) ?_
  simp -dsimp -implicitDefEqProofs [-getElem?_pos, go_sem, hP]
  refine callB_is (py.lift _ _) hP en_85 (by simpa using ip) .sc ?_
  cases h1 : payB p
  ·rw [h1, Bool.false_and, Bool.false_and] at hq
   simp -dsimp -implicitDefEqProofs [-getElem?_pos, go_sem, hP, h1]
   exact fin _ (.inl ⟨hq, by simp -dsimp [-getElem?_pos, go_sem]⟩) (by simp -dsimp [-getElem?_pos, go_sem, t1]) (by simp -dsimp [-getElem?_pos, go_sem, t2]) (by simp -dsimp [-getElem?_pos, go_sem]) (by simp -dsimp [-getElem?_pos, go_sem, hn]) (by simp -dsimp [-getElem?_pos, go_sem, t9]) (by simp -dsimp [-getElem?_pos, go_sem, t10]) (by simp -dsimp [-getElem?_pos, go_sem, t11]) (by simp -dsimp [-getElem?_pos, go_sem, g0]) (by simp -dsimp [-getElem?_pos, go_sem, hn])
  rw [h1, Bool.true_and] at hq
  simp -dsimp -implicitDefEqProofs [-getElem?_pos, go_sem, hP, h1, t2, g0, lt0, h0]
  refine callB_is ((knn p.Warrant).lift _ _) hP en_149 (by simpa [imm_sc] using iq) .sc ?_
  cases h2 : decide (p.Warrant ∈ q.Known)
  ·have hq : R = false := by rw [hq, inK, h2, Bool.false_and, Bool.false_and, Bool.and_false]
   simp -dsimp -implicitDefEqProofs [-getElem?_pos, go_sem, hP, h2]
   exact fin _ (.inl ⟨hq, by simp -dsimp [-getElem?_pos, go_sem]⟩) (by simp -dsimp [-getElem?_pos, go_sem, t1]) (by simp -dsimp [-getElem?_pos, go_sem, t2]) (by simp -dsimp [-getElem?_pos, go_sem]) (by simp -dsimp [-getElem?_pos, go_sem, hn]) (by simp -dsimp [-getElem?_pos, go_sem, t9]) (by simp -dsimp [-getElem?_pos, go_sem, t10]) (by simp -dsimp [-getElem?_pos, go_sem, t11]) (by simp -dsimp [-getElem?_pos, go_sem, g0]) (by simp -dsimp [-getElem?_pos, go_sem, hn])
  rw [inK, h2, Bool.true_and] at hq
  rcases Nat.eq_zero_or_pos k with k0 | k0
  ·rw [ho0 k0, allO, Bool.true_and] at hq
   have k0' : ¬ 0 < k := by omega
   have hjk : decide ((0 : Int) < (k : Int)) = false := decide_eq_false (by omega)
   simp -dsimp -implicitDefEqProofs [-getElem?_pos, go_sem, hP, h2, k0', hjk]
   exact fin _ (.inr ⟨by simp -dsimp [-getElem?_pos, go_sem], hq⟩) (by simp -dsimp [-getElem?_pos, go_sem, t1]) (by simp -dsimp [-getElem?_pos, go_sem, t2]) (by simp -dsimp [-getElem?_pos, go_sem]) (by simp -dsimp [-getElem?_pos, go_sem, hn]) (by simp -dsimp [-getElem?_pos, go_sem, t9]) (by simp -dsimp [-getElem?_pos, go_sem, t10]) (by simp -dsimp [-getElem?_pos, go_sem, t11]) (by simp -dsimp [-getElem?_pos, go_sem, g0]) (by simp -dsimp [-getElem?_pos, go_sem, hn])
  obtain ⟨j, hj⟩ : ∃ j, k = j + 1 := ⟨k - 1, by omega⟩
  obtain ⟨x, hx⟩ : ∃ x, l[j]? = some x := ⟨_, List.getElem?_eq_getElem (by omega)⟩
  have hox := ho1 j x hj hx
  have hjk : decide ((0 : Int) < (k : Int)) = true := decide_eq_true (by omega)
  have wj : IntKind.i64.wrap ((k : Int) - 1) = (j : Int) := by rw [wrap_in _ (by omega)]; omega
  have cm := rbefore_pf x p
  have ix := imm_pay x
  rw [cPy, cPy] at cm
  rw [cPy] at ix
  rw [hox, allO] at hq
  simp -dsimp -implicitDefEqProofs [-getElem?_pos, go_sem, hP, h2, k0, hjk, wj, t1, hx, cPy]
  refine callB_is (cm.lift _ _) hP en_170 (by simpa using ⟨ix, ip⟩) .sc ?_
  cases c : befB x p
  ·rw [c, Bool.false_and, Bool.false_and] at hq
   simp -dsimp -implicitDefEqProofs [-getElem?_pos, go_sem, hP, c]
   exact fin _ (.inl ⟨hq, by simp -dsimp [-getElem?_pos, go_sem]⟩) (by simp -dsimp [-getElem?_pos, go_sem, t1]) (by simp -dsimp [-getElem?_pos, go_sem, t2]) (by simp -dsimp [-getElem?_pos, go_sem]) (by simp -dsimp [-getElem?_pos, go_sem, hn]) (by simp -dsimp [-getElem?_pos, go_sem, t9]) (by simp -dsimp [-getElem?_pos, go_sem, t10]) (by simp -dsimp [-getElem?_pos, go_sem, t11]) (by simp -dsimp [-getElem?_pos, go_sem, g0]) (by simp -dsimp [-getElem?_pos, go_sem, hn])
  ·rw [c, Bool.true_and] at hq
   simp -dsimp -implicitDefEqProofs [-getElem?_pos, go_sem, hP, c]
   exact fin _ (.inr ⟨by simp -dsimp [-getElem?_pos, go_sem], hq⟩) (by simp -dsimp [-getElem?_pos, go_sem, t1]) (by simp -dsimp [-getElem?_pos, go_sem, t2]) (by simp -dsimp [-getElem?_pos, go_sem]) (by simp -dsimp [-getElem?_pos, go_sem, hn]) (by simp -dsimp [-getElem?_pos, go_sem, t9]) (by simp -dsimp [-getElem?_pos, go_sem, t10]) (by simp -dsimp [-getElem?_pos, go_sem, t11]) (by simp -dsimp [-getElem?_pos, go_sem, g0]) (by simp -dsimp [-getElem?_pos, go_sem, hn])
 clear hq ho0 ho1 t1 t2 t9 t10 t11 h0 lt0 g0 fin
 rw [hInv]
 rintro s ⟨hR' | ⟨t39, hq⟩, t1, t2, t5, t6, t9, t10, t11, h0, hN'⟩
 ·simp -dsimp -implicitDefEqProofs [-getElem?_pos, go_sem, hP, hR'.1, hR'.2]
 have lt0 := (gsI h0)
 have ltn := (List.getElem?_eq_some_iff.1 hN').1
 have e1 : (encL TPayment.cells l).take k = encL TPayment.cells (l.take k) := encL_takeE _ _ _
 have e2 : (l.take k).length = k := by simp; omega
 obtain ⟨T, hT⟩ : ∃ T, T = l.take k := ⟨_, rfl⟩
 rw [← hT] at e1 e2 hq
 clear hT
 have c1 : (0 : Int) ≤ (k : Int) ∧ (k : Int) ≤ (l.length : Int) := by omega
 simp -dsimp -implicitDefEqProofs [-getElem?_pos, go_sem, hP, t39, t1, t5, asliceOp, bound, aslice, c1, e1]
 obtain ⟨J, hJ⟩ : ∃ I : Nat → St → Prop, I = fun m s => ∃ (j : Nat), j ≤ k ∧ m = k - j ∧ R = (ordFrom (some p) (l.drop (k + 1)) && (((l.drop (k + 1)).all (inK q.Known)) && (!((T.drop j).any fun x => decide (x.Warrant = p.Warrant)) && distFrom (l.take (k + 1)) (l.drop (k + 1))))) ∧ s.t 1 = paysL l ∧ s.t 2 = .ref 0 0 0 ∧ s.t 6 = .ref n 0 0 ∧ s.t 9 = paysL l ∧ s.t 10 = iv l.length ∧ s.t 11 = iv k ∧ s.t 42 = paysL T ∧ s.t 43 = iv k ∧ s.t 44 = iv j ∧ s.H[0]? = some (some ⟨32, 3, [[paysL q.Waiting, .list 1 (q.Known.map fun x => [iv x]), batsL q.Batches]]⟩) ∧ s.H[n]? = some (some ⟨44, 5, [[iv p.Warrant, iv p.Payee, iv p.Amount, iv p.Due, iv p.Sub]]⟩) := ⟨_, rfl⟩
 refine aloop0 J (k) (by rw [hN]; rfl) ?_ ?_
 ·rw [hJ]
  exact ⟨0, by omega, by omega, hq, by simp -dsimp [-getElem?_pos, go_sem, t1], by simp -dsimp [-getElem?_pos, go_sem, t2], by simp -dsimp [-getElem?_pos, go_sem, t6], by simp -dsimp [-getElem?_pos, go_sem, t9], by simp -dsimp [-getElem?_pos, go_sem, t10], by simp -dsimp [-getElem?_pos, go_sem, t11], by simp -dsimp [-getElem?_pos, go_sem], by simp -dsimp [-getElem?_pos, go_sem, e2], by simp -dsimp [-getElem?_pos, go_sem], by simp -dsimp [-getElem?_pos, go_sem, h0], by simp -dsimp [-getElem?_pos, go_sem, hN']⟩
 clear t1 t2 t5 t6 t9 t10 t11 t39 h0 lt0 hN' ltn hq hn
 intro m s hs'
 rw [hJ] at hs'
 obtain ⟨j, hj, hm2, hq, t1, t2, t6, t9, t10, t11, t42, t43, t44, h0, hN'⟩ := hs'
 have lt0 := (gsI h0)
 have ltn := (List.getElem?_eq_some_iff.1 hN').1
 simp -dsimp -implicitDefEqProofs [-getElem?_pos, go_sem, hP, t43, t44]
 refine condP (fun hh => ?_) (fun hh => ?_)
 ·have hj : j < k := by simpa using hh
  obtain ⟨x, hx⟩ : ∃ x, T[j]? = some x := ⟨_, List.getElem?_eq_getElem (by omega)⟩
  have wj := wrap_in ((j : Int) + 1) (by omega)
  have gn : ∀ x : Option AObj, (s.H ++ [x])[n]? = some (some ⟨44, 5, [[iv p.Warrant, iv p.Payee, iv p.Amount, iv p.Due, iv p.Sub]]⟩) := fun x => by rw [List.getElem?_append_left ltn]; exact hN'
  rw [drop_at hx, List.any_cons] at hq
  by_cases c : x.Warrant = p.Warrant
  ·have : R = false := by rw [hq, decide_eq_true c]; simp
   simp -dsimp -implicitDefEqProofs [-getElem?_pos, go_sem, hP, t42, t44, hx, cPy, t6, gn, ltn, hN', c, this]
  ·have d := decide_eq_false c
   rw [d, Bool.false_or] at hq
   simp -dsimp -implicitDefEqProofs [-getElem?_pos, go_sem, hP, t42, t44, hx, cPy, t6, gn, ltn, hN', d, wj]
   refine ⟨k - (j + 1), by omega, ?_⟩
   rw [hJ]
   exact ⟨j + 1, by omega, rfl, hq, by simp -dsimp [-getElem?_pos, go_sem, t1], by simp -dsimp [-getElem?_pos, go_sem, t2], by simp -dsimp [-getElem?_pos, go_sem, t6], by simp -dsimp [-getElem?_pos, go_sem, t9], by simp -dsimp [-getElem?_pos, go_sem, t10], by simp -dsimp [-getElem?_pos, go_sem, t11], by simp -dsimp [-getElem?_pos, go_sem, t42], by simp -dsimp [-getElem?_pos, go_sem, t43], by simp -dsimp [-getElem?_pos, go_sem], by simp -dsimp [-getElem?_pos, go_sem, lt0, h0], by simp -dsimp [-getElem?_pos, go_sem, gn]⟩
 ·have hj : j = k := by simp at hh; omega
  subst hj
  have e3 : T.drop j = [] := List.drop_eq_nil_of_le (by omega)
  rw [e3, List.any_nil, Bool.not_false, Bool.true_and] at hq
  simp -dsimp -implicitDefEqProofs [-getElem?_pos, go_sem, hP, t11, wk]
  refine ⟨l.length - (j + 1), by omega, ?_⟩
  rw [hI]
  exact ⟨j + 1, some p, by omega, rfl, hq, by omega, prev_at (f := some) hp, by simp -dsimp [-getElem?_pos, go_sem, t1], by simp -dsimp [-getElem?_pos, go_sem, t2], by simp -dsimp [-getElem?_pos, go_sem, t9], by simp -dsimp [-getElem?_pos, go_sem, t10], by simp -dsimp [-getElem?_pos, go_sem], by simp -dsimp [-getElem?_pos, go_sem, h0]⟩
set_option maxHeartbeats 2000000 in
theorem rcheck25_pf (q : TQueue) (hf : FitQ q) : PFun Tryz.prog none none 64 [.agg q.cells] (· = iv (checkQ q)) := by
 refine pfun_intro Tryz.func64 rfl (by simp [Tryz.f64]) (by kernel_rfl) ?_
 intro E hP hr hs hW hN
 have iq := imm_que q
 have iw := imm_pays q.Waiting
 obtain ⟨R, hR⟩ : ∃ R, R = checkQ q := ⟨_, rfl⟩
 rw [← hR]
 have hk9 := hf.k
 have hb9 := hf.b
 have hw9 := hf.w
 have asc := fun l hl => rascending_pf q l (by omega) hl
 rw [cQu] at iq
 simp only [cQu] at asc
 simp only [intsL] at iq asc
 rw [checkQ] at hR
 by_cases c1 : 100 < q.Waiting.length
 ·have d1 : decide ((100 : Int) < (q.Waiting.length : Int)) = true := decide_eq_true (by omega)
  rw [if_pos (.inl c1)] at hR
  simp -dsimp -implicitDefEqProofs [-getElem?_pos, go_sem, hP, cQu, intsL, c1, d1, hR]
 have d1 : decide ((100 : Int) < (q.Waiting.length : Int)) = false := decide_eq_false (by omega)
 by_cases c2 : 200 < q.Known.length
 ·have d2 : decide ((200 : Int) < (q.Known.length : Int)) = true := decide_eq_true (by omega)
  rw [if_pos (.inr (.inl c2))] at hR
  simp -dsimp -implicitDefEqProofs [-getElem?_pos, go_sem, hP, cQu, intsL, c1, d1, c2, d2, hR]
 have d2 : decide ((200 : Int) < (q.Known.length : Int)) = false := decide_eq_false (by omega)
 by_cases c3 : 200 < q.Batches.length
 ·have d3 : decide ((200 : Int) < (q.Batches.length : Int)) = true := decide_eq_true (by omega)
  rw [if_pos (.inr (.inr c3))] at hR
  simp -dsimp -implicitDefEqProofs [-getElem?_pos, go_sem, hP, cQu, intsL, c1, d1, c2, d2, c3, d3, hR]
 have d3 : decide ((200 : Int) < (q.Batches.length : Int)) = false := decide_eq_false (by omega)
 rw [if_neg (by omega)] at hR
 obtain ⟨K, hK⟩ : ∃ K, K = q.Known := ⟨_, rfl⟩
 obtain ⟨W, hWt⟩ : ∃ W, W = q.Waiting := ⟨_, rfl⟩
 obtain ⟨l, hl⟩ : ∃ l, l = q.Batches := ⟨_, rfl⟩
 have each : ∀ b, b ∈ l → b.Payments.length ≤ 100000 := hl ▸ hf.each
 rw [← hK, ← hWt, ← hl] at hR iq asc
 rw [← hK] at hk9 d2
 rw [← hWt] at hw9 d1 iw
 rw [← hl] at hb9 d3
 have h0I : ∀ (H : Heap), H[0]? = some (some ⟨32, 3, [[paysL W, .list 1 (K.map fun x => [iv x]), batsL l]]⟩) → 0 < H.length := fun H h => (gsI h)
 have bad : ∀ a b : Bool, R = (if (a && b) = true then 0 else 64) → (a = false ∨ b = false) → R = 64 := fun a b h e => by
  rw [h, if_neg]
  rcases e with e | e <;> simp [e]
 simp -dsimp -implicitDefEqProofs [-getElem?_pos, go_sem, hP, cQu, intsL, ← hK, ← hWt, ← hl, d1, d2, d3]
 obtain ⟨I, hI⟩ : ∃ I : Nat → St → Prop, I = fun m s => ∃ (k : Nat) (o : Option Int), k ≤ K.length ∧ m = K.length - k ∧ knFrom none K = knFrom o (K.drop k) ∧ (k = 0 → o = none) ∧ (∀ j x, k = j + 1 → K[j]? = some x → o = some x) ∧ s.t 1 = .ref 0 0 0 ∧ s.t 24 = intsL K ∧ s.t 25 = iv K.length ∧ s.t 26 = iv k ∧ s.H[0]? = some (some ⟨32, 3, [[paysL W, .list 1 (K.map fun x => [iv x]), batsL l]]⟩) := ⟨_, rfl⟩
 refine aloop0 I (K.length) (by rw [hN]; rfl) ?_ ?_
 ·rw [hI]
  exact ⟨0, none, by omega, by omega, by rfl, by simp, by omega, by simp -dsimp [-getElem?_pos, go_sem], by simp -dsimp [-getElem?_pos, go_sem, intsL], by simp -dsimp [-getElem?_pos, go_sem], by simp -dsimp [-getElem?_pos, go_sem], by simp -dsimp [-getElem?_pos, go_sem]⟩
 intro m s hs'
 rw [hI] at hs'
 obtain ⟨k, o, hk, hm, hq, ho0, ho1, t1, t24, t25, t26, h0⟩ := hs'
 have lt0 := h0I _ h0
 simp -dsimp -implicitDefEqProofs [-getElem?_pos, go_sem, hP, t25, t26]
 refine condP (fun hh => ?_) (fun hh => ?_)
 ·have hk : k < K.length := by simpa using hh
  obtain ⟨p, hp⟩ : ∃ p, K[k]? = some p := ⟨_, List.getElem?_eq_getElem hk⟩
  have wk := wrap_in ((k : Int) + 1) (by omega)
  rw [drop_at hp, knFrom] at hq
  by_cases e1 : p < 1
  ·rw [amg_no (by omega), Bool.false_and] at hq
   have := bad _ _ hR (.inl hq)
   simp -dsimp -implicitDefEqProofs [-getElem?_pos, go_sem, hP, t24, t26, intsL, hp, e1, this]
  have f1 : decide (p < 1) = false := decide_eq_false e1
  by_cases e2 : 1000000 < p
  ·rw [amg_no (by omega), Bool.false_and] at hq
   have := bad _ _ hR (.inl hq)
   simp -dsimp -implicitDefEqProofs [-getElem?_pos, go_sem, hP, t24, t26, intsL, hp, f1, e2, this]
  have f2 : decide (1000000 < p) = false := decide_eq_false e2
  rw [amg_iff.2 (by omega), Bool.true_and] at hq
  rcases Nat.eq_zero_or_pos k with k0 | k0
  ·rw [ho0 k0, allO, Bool.true_and] at hq
   have k0' : ¬ 0 < k := by omega
   have hjk : decide ((0 : Int) < (k : Int)) = false := decide_eq_false (by omega)
   simp -dsimp -implicitDefEqProofs [-getElem?_pos, go_sem, hP, t24, t26, intsL, hp, f1, f2, k0', hjk, wk]
   refine ⟨K.length - (k + 1), by omega, ?_⟩
   rw [hI]
   exact ⟨k + 1, some p, by omega, rfl, hq, by omega, prev_at (f := some) hp, by simp -dsimp [-getElem?_pos, go_sem, t1], by simp -dsimp [-getElem?_pos, go_sem, t24], by simp -dsimp [-getElem?_pos, go_sem, t25], by simp -dsimp [-getElem?_pos, go_sem], by simp -dsimp [-getElem?_pos, go_sem, h0]⟩
  ·obtain ⟨j, hj⟩ : ∃ j, k = j + 1 := ⟨k - 1, by omega⟩
   obtain ⟨x, hx⟩ : ∃ x, K[j]? = some x := ⟨_, List.getElem?_eq_getElem (by omega)⟩
   have hox := ho1 j x hj hx
   have hjk : decide ((0 : Int) < (k : Int)) = true := decide_eq_true (by omega)
   have wj : IntKind.i64.wrap ((k : Int) - 1) = (j : Int) := by rw [wrap_in _ (by omega)]; omega
   rw [hox, allO] at hq
   by_cases c : x < p
   ·have f3 : decide (p ≤ x) = false := decide_eq_false (by omega)
    rw [decide_eq_true c, Bool.true_and] at hq
    simp -dsimp -implicitDefEqProofs [-getElem?_pos, go_sem, hP, t24, t26, intsL, hp, f1, f2, k0, hjk, wj, t1, lt0, h0, hx, f3, wk]
    refine ⟨K.length - (k + 1), by omega, ?_⟩
    rw [hI]
    exact ⟨k + 1, some p, by omega, rfl, hq, by omega, prev_at (f := some) hp, by simp -dsimp [-getElem?_pos, go_sem, t1], by simp -dsimp [-getElem?_pos, go_sem, t24], by simp -dsimp [-getElem?_pos, go_sem, t25], by simp -dsimp [-getElem?_pos, go_sem], by simp -dsimp [-getElem?_pos, go_sem, h0]⟩
   ·have f3 : decide (p ≤ x) = true := decide_eq_true (by omega)
    rw [decide_eq_false c, Bool.false_and] at hq
    have := bad _ _ hR (.inl hq)
    simp -dsimp -implicitDefEqProofs [-getElem?_pos, go_sem, hP, t24, t26, intsL, hp, f1, f2, k0, hjk, wj, t1, lt0, h0, hx, f3, this]
 have hk : k = K.length := by simp at hh; omega
 subst hk
 rw [List.drop_length, knFrom] at hq
 rw [hq, Bool.true_and] at hR
 clear hq ho0 ho1 t24 t25 t26 hh hI
 simp -dsimp -implicitDefEqProofs [-getElem?_pos, go_sem, hP, t1, h0, lt0]
 refine callB_is ((asc W (by omega)).lift _ _) hP en_133 (by simpa using ⟨iq, iw⟩) .sc ?_
 cases b1 : ascB K W
 ·have := bad _ _ hR (.inl b1)
  simp -dsimp -implicitDefEqProofs [-getElem?_pos, go_sem, hP, b1, this]
 rw [b1, Bool.true_and] at hR
 have bad : batsFrom K 0 0 l = false → R = 64 := fun e => by rw [hR, e]; rfl
 simp -dsimp -implicitDefEqProofs [-getElem?_pos, go_sem, hP, b1, t1, h0, lt0]
 obtain ⟨J, hJ⟩ : ∃ I : Nat → St → Prop, I = fun m s => ∃ (k : Nat) (d : Int), k ≤ l.length ∧ m = l.length - k ∧ batsFrom K 0 0 l = batsFrom K k d (l.drop k) ∧ (k = 0 → d = 0) ∧ (∀ j x, k = j + 1 → l[j]? = some x → d = x.Day) ∧ s.t 1 = .ref 0 0 0 ∧ s.t 58 = batsL l ∧ s.t 59 = iv l.length ∧ s.t 60 = iv k ∧ s.H[0]? = some (some ⟨32, 3, [[paysL W, .list 1 (K.map fun x => [iv x]), batsL l]]⟩) := ⟨_, rfl⟩
 refine aloop0 J (l.length) (by rw [hN]; rfl) ?_ ?_
 ·rw [hJ]
  exact ⟨0, 0, by omega, by omega, by rfl, by simp, by omega, by simp -dsimp [-getElem?_pos, go_sem, t1], by simp -dsimp [-getElem?_pos, go_sem], by simp -dsimp [-getElem?_pos, go_sem], by simp -dsimp [-getElem?_pos, go_sem], by simp -dsimp [-getElem?_pos, go_sem, h0]⟩
 clear t1 h0 lt0 hk hm
 intro m s hs'
 rw [hJ] at hs'
 obtain ⟨k, d, hk, hm, hq, hd0, hd1, t1, t58, t59, t60, h0⟩ := hs'
 have lt0 := h0I _ h0
 simp -dsimp -implicitDefEqProofs [-getElem?_pos, go_sem, hP, t59, t60]
 refine condP (fun hh => ?_) (fun hh => ?_)
 rotate_left
 ·have hk : k = l.length := by simp at hh; omega
  subst hk
  rw [List.drop_length, batsFrom] at hq
  rw [hq, if_pos rfl] at hR
  simp -dsimp -implicitDefEqProofs [-getElem?_pos, go_sem, hP, hR]
 have hk : k < l.length := by simpa using hh
 obtain ⟨b, hb⟩ : ∃ b, l[k]? = some b := ⟨_, List.getElem?_eq_getElem hk⟩
 have hbl := each b (List.mem_of_getElem? hb)
 have wk := wrap_in ((k : Int) + 1) (by omega)
 have ip := imm_pays b.Payments
 have g0 : ∀ x : Option AObj, (s.H ++ [x])[0]? = some (some ⟨32, 3, [[paysL W, .list 1 (K.map fun x => [iv x]), batsL l]]⟩) := fun x => by rw [List.getElem?_append_left lt0]; exact h0
 rw [drop_at hb, batsFrom, batB] at hq
 simp -dsimp -implicitDefEqProofs [-getElem?_pos, go_sem, hP, t58, t60, hb, cBt]
 refine adrawB (fun _ => true) [] hP (by kernel_rfl) (by kernel_rfl) ?_
 by_cases e1 : b.Number = (k : Int) + 1
 rotate_left
 ·rw [decide_eq_false e1, Bool.false_and, Bool.false_and] at hq
  have f1 := decide_eq_false e1
  simp -dsimp -implicitDefEqProofs [-getElem?_pos, go_sem, hP, wk, e1, f1, bad hq]
 rw [decide_eq_true e1, Bool.true_and] at hq
 have f1 : decide (b.Number = (k : Int) + 1) = true := decide_eq_true e1
 by_cases e2 : b.Day < 0
 ·have : busB b.Day = false := by rw [busB, amg_no (by omega), Bool.false_and]
  rw [this, Bool.false_and, Bool.and_false, Bool.false_and] at hq
  simp -dsimp -implicitDefEqProofs [-getElem?_pos, go_sem, hP, wk, f1, e2, bad hq]
 have f2 : decide (b.Day < 0) = false := decide_eq_false e2
 by_cases e3 : 36000 < b.Day
 ·have : busB b.Day = false := by rw [busB, amg_no (by omega), Bool.false_and]
  rw [this, Bool.false_and, Bool.and_false, Bool.false_and] at hq
  simp -dsimp -implicitDefEqProofs [-getElem?_pos, go_sem, hP, wk, f1, f2, e3, bad hq]
 have f3 : decide (36000 < b.Day) = false := decide_eq_false e3
 simp -dsimp -implicitDefEqProofs [-getElem?_pos, go_sem, hP, wk, f1, f2, f3]
 refine callB_pure (r02business_pf b.Day) hP en_90 (args_same (by simp -dsimp [-getElem?_pos, go_sem])) .sc ?_
 cases c3 : busB b.Day
 ·rw [c3, Bool.false_and, Bool.and_false, Bool.false_and] at hq
  simp -dsimp -implicitDefEqProofs [-getElem?_pos, go_sem, hP, c3, bad hq]
 rw [c3, Bool.true_and] at hq
 have rest : d ≤ b.Day → batsFrom K 0 0 l = (amg b.Payments.length 1 10 && ascB K b.Payments && batsFrom K (k + 1) b.Day (l.drop (k + 1))) := fun h => by
  rw [hq, decide_eq_true h, Bool.true_and]
 have done : d ≤ b.Day → ∀ s' : St, (amg b.Payments.length 1 10 && ascB K b.Payments) = true → s'.t 1 = .ref 0 0 0 → s'.t 58 = batsL l → s'.t 59 = iv l.length → s'.t 60 = iv (k + 1) → s'.H[0]? = some (some ⟨32, 3, [[paysL W, .list 1 (K.map fun x => [iv x]), batsL l]]⟩) → ∃ m', m' < m ∧ J m' s' := fun h s' h1 h2 h3 h4 h5 h6 => by
  refine ⟨l.length - (k + 1), by omega, ?_⟩
  rw [hJ]
  exact ⟨k + 1, b.Day, by omega, rfl, by rw [rest h, h1, Bool.true_and]; rfl, by omega, prev_at (f := fun b : TBatch => b.Day) hb, h2, h3, h4, h5, h6⟩
 rcases Nat.eq_zero_or_pos k with k0 | k0
 ·have hdd : d ≤ b.Day := by rw [hd0 k0]; omega
  have k0' : ¬ 0 < k := by omega
  have hjk : decide ((0 : Int) < (k : Int)) = false := decide_eq_false (by omega)
  simp -dsimp -implicitDefEqProofs [-getElem?_pos, go_sem, hP, c3, k0', hjk]
  have rest' := rest hdd
  by_cases e4 : b.Payments.length < 1
  ·have f4 : decide ((b.Payments.length : Int) < 1) = true := decide_eq_true (by omega)
   rw [amg_no (n := (b.Payments.length : Int)) (by omega), Bool.false_and, Bool.false_and] at rest'
   simp -dsimp -implicitDefEqProofs [-getElem?_pos, go_sem, hP, k0', hjk, e4, f4, bad rest']
  have f4 : decide ((b.Payments.length : Int) < 1) = false := decide_eq_false (by omega)
  by_cases e5 : 10 < b.Payments.length
  ·have f5 : decide ((10 : Int) < (b.Payments.length : Int)) = true := decide_eq_true (by omega)
   rw [amg_no (n := (b.Payments.length : Int)) (by omega), Bool.false_and, Bool.false_and] at rest'
   simp -dsimp -implicitDefEqProofs [-getElem?_pos, go_sem, hP, k0', hjk, f4, f5, bad rest']
  have f5 : decide ((10 : Int) < (b.Payments.length : Int)) = false := decide_eq_false (by omega)
  have f45 : amg b.Payments.length 1 10 = true := amg_iff.2 (by omega)
  simp -dsimp -implicitDefEqProofs [-getElem?_pos, go_sem, hP, k0', hjk, f4, f5, t1, g0, lt0, h0]
  refine callB_is ((asc b.Payments (by omega)).lift _ _) hP en_133 (by simpa using ⟨iq, ip⟩) .sc ?_
  cases c6 : ascB K b.Payments
  ·rw [f45, c6, Bool.true_and, Bool.false_and] at rest'
   simp -dsimp -implicitDefEqProofs [-getElem?_pos, go_sem, hP, k0', hjk, c6, bad rest']
  simp -dsimp -implicitDefEqProofs [-getElem?_pos, go_sem, hP, k0', hjk, c6, t60, wk]
  exact done hdd _ (by rw [f45, c6]; rfl) (by simp -dsimp [-getElem?_pos, go_sem, t1]) (by simp -dsimp [-getElem?_pos, go_sem, t58]) (by simp -dsimp [-getElem?_pos, go_sem, t59]) (by simp -dsimp [-getElem?_pos, go_sem]) (by simp -dsimp [-getElem?_pos, go_sem, lt0, h0])
 ·obtain ⟨j, hj⟩ : ∃ j, k = j + 1 := ⟨k - 1, by omega⟩
  obtain ⟨x, hx⟩ : ∃ x, l[j]? = some x := ⟨_, List.getElem?_eq_getElem (by omega)⟩
  have hdx := hd1 j x hj hx
  have hjk : decide ((0 : Int) < (k : Int)) = true := decide_eq_true (by omega)
  have wj : IntKind.i64.wrap ((k : Int) - 1) = (j : Int) := by rw [wrap_in _ (by omega)]; omega
  by_cases c : x.Day ≤ b.Day
  rotate_left
  ·rw [decide_eq_false (show ¬ d ≤ b.Day by omega), Bool.false_and, Bool.false_and] at hq
   have f6 : decide (b.Day < x.Day) = true := decide_eq_true (by omega)
   simp -dsimp -implicitDefEqProofs [-getElem?_pos, go_sem, hP, c3, k0, hjk, wj, t1, g0, lt0, h0, hx, cBt, f6, bad hq]
  have hdd : d ≤ b.Day := by omega
  have f6 : decide (b.Day < x.Day) = false := decide_eq_false (by omega)
  simp -dsimp -implicitDefEqProofs [-getElem?_pos, go_sem, hP, c3, k0, hjk, wj, t1, g0, lt0, h0, hx, cBt, f6]
  have rest' := rest hdd
  by_cases e4 : b.Payments.length < 1
  ·have f4 : decide ((b.Payments.length : Int) < 1) = true := decide_eq_true (by omega)
   rw [amg_no (n := (b.Payments.length : Int)) (by omega), Bool.false_and, Bool.false_and] at rest'
   simp -dsimp -implicitDefEqProofs [-getElem?_pos, go_sem, hP, k0, hjk, f6, e4, f4, bad rest']
  have f4 : decide ((b.Payments.length : Int) < 1) = false := decide_eq_false (by omega)
  by_cases e5 : 10 < b.Payments.length
  ·have f5 : decide ((10 : Int) < (b.Payments.length : Int)) = true := decide_eq_true (by omega)
   rw [amg_no (n := (b.Payments.length : Int)) (by omega), Bool.false_and, Bool.false_and] at rest'
   simp -dsimp -implicitDefEqProofs [-getElem?_pos, go_sem, hP, k0, hjk, f6, f4, f5, bad rest']
  have f5 : decide ((10 : Int) < (b.Payments.length : Int)) = false := decide_eq_false (by omega)
  have f45 : amg b.Payments.length 1 10 = true := amg_iff.2 (by omega)
  simp -dsimp -implicitDefEqProofs [-getElem?_pos, go_sem, hP, k0, hjk, f6, f4, f5, t1, g0, lt0, h0]
  refine callB_is ((asc b.Payments (by omega)).lift _ _) hP en_133 (by simpa using ⟨iq, ip⟩) .sc ?_
  cases c6 : ascB K b.Payments
  ·rw [f45, c6, Bool.true_and, Bool.false_and] at rest'
   simp -dsimp -implicitDefEqProofs [-getElem?_pos, go_sem, hP, k0, hjk, f6, c6, bad rest']
  simp -dsimp -implicitDefEqProofs [-getElem?_pos, go_sem, hP, k0, hjk, f6, c6, t60, wk]
  exact done hdd _ (by rw [f45, c6]; rfl) (by simp -dsimp [-getElem?_pos, go_sem, t1]) (by simp -dsimp [-getElem?_pos, go_sem, t58]) (by simp -dsimp [-getElem?_pos, go_sem, t59]) (by simp -dsimp [-getElem?_pos, go_sem]) (by simp -dsimp [-getElem?_pos, go_sem, lt0, h0])
end Go.Proofs.YtmpncdlhmknkoaaGreat
