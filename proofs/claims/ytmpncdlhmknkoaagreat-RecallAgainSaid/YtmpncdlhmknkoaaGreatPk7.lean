/- Several texts of this claim, joined: BatGen AccGen Rec19 Rec20 Rec21 Rec8 RecSane RecAg Law26c. -/
import Derived.Test.YtmpncdlhmknkoaaGreatPk6
set_option linter.unusedSimpArgs false
set_option linter.unusedVariables false
namespace Go.Proofs.YtmpncdlhmknkoaaGreat
open Go.PA
open Go.RowKit
structure GenP (p : TPayment) : Prop where
  warrant : 1 ≤ p.Warrant ∧ p.Warrant ≤ 12
  payee : 1 ≤ p.Payee ∧ p.Payee ≤ 5
  amount : 1 ≤ p.Amount ∧ p.Amount ≤ 100
  due : 0 ≤ p.Due ∧ p.Due < 20
  sub : 1 ≤ p.Sub ∧ p.Sub ≤ 7
theorem GenP.ok {p : TPayment} (h : GenP p) : PayOk p := ⟨by have := h.warrant; omega, by have := h.payee; omega, by have := h.amount; omega, by have := h.due; omega, by have := h.sub; omega⟩
def busI (d : Int) : Int := if d % 7 = 5 then d + 2 else if d % 7 = 6 then d + 1 else d
theorem busI_ge (d : Int) : d ≤ busI d ∧ busI d ≤ d + 2 := by
  unfold busI
  repeat' split
  all_goals omega
theorem business_pf (d : Int) (h : 0 ≤ d ∧ d ≤ 30000) : PFun Tryz.prog none none 17 [iv d] (· = iv (busI d)) := by
  refine pfun_intro Tryz.func17 rfl (by simp [Tryz.f17]) (by kernel_rfl) ?_
  intro E hP hr hs hW hN
  simp -dsimp -implicitDefEqProofs [-getElem?_pos, go_sem, hP]
  obtain ⟨I, hI⟩ : ∃ I : Nat → St → Prop, I = fun m s => ∃ x : Int, d ≤ x ∧ busI d = busI x ∧ ((m : Nat) : Int) + x = d + 3 ∧ s.t 0 = iv x := ⟨_, rfl⟩
  refine aloop0 I (3) (by rw [hN]; rfl) ?_ ?_
  · rw [hI]
    exact ⟨d, by omega, rfl, by omega, by simp -dsimp -implicitDefEqProofs [-getElem?_pos, go_sem]⟩
  intro m s hs'
  rw [hI] at hs'
  obtain ⟨x, hx, hb, hm, t0⟩ := hs'
  have e : x.tmod 7 = x % 7 := Int.tmod_eq_emod_of_nonneg (by omega)
  have w := wrap_in (x % 7) (by omega)
  have w1 := wrap_in (x + 1) (by omega)
  by_cases c : 4 < x % 7
  · have d1 : decide (4 < x % 7) = true := decide_eq_true c
    have := busI_ge x
    have := busI_ge d
    have hne : busI x ≠ x := by
      unfold busI
      repeat' split
      all_goals omega
    have hb' : busI x = busI (x + 1) := by
      unfold busI
      repeat' split
      all_goals omega
    simp -dsimp -implicitDefEqProofs [-getElem?_pos, go_sem, hP, t0, e, w, d1, w1]
    refine ⟨m - 1, by omega, ?_⟩
    rw [hI]
    exact ⟨x + 1, by omega, hb.trans hb', by omega, by simp -dsimp -implicitDefEqProofs [-getElem?_pos, go_sem]⟩
  · have d1 : decide (4 < x % 7) = false := decide_eq_false c
    have hb' : busI x = x := by
      unfold busI
      repeat' split
      all_goals omega
    simp -dsimp -implicitDefEqProofs [-getElem?_pos, go_sem, hP, t0, e, w, d1]
    rw [hb, hb']
structure StepB (q : TQueue) (day : Int) (x : TQueue) (d : Int) : Prop where
  ok : QOk x
  kn : ∀ w, w ∈ q.Known → w ∈ x.Known
  len : x.Batches.length ≤ q.Batches.length + 1
  day : day ≤ d ∧ d ≤ day + 6
theorem StepB.same {q : TQueue} (h : QOk q) (day : Int) : StepB q day q day := ⟨h, fun _ h => h, by omega, by omega⟩
theorem StepB.add {q x : TQueue} {p : TPayment} (day : Int) (h : addQ q p = (x, 0)) : StepB q day x day := by
  obtain ⟨_, _, _, _, _, rfl, h7⟩ := addQ_ok h
  exact ⟨h7, fun w hw => mem_ins.2 (.inr hw), by simp, by omega⟩
theorem StepB.again {q x : TQueue} {p : TPayment} (day : Int) (h : againQ q p = (x, 0)) : StepB q day x day := by
  obtain ⟨_, _, _, _, _, rfl, h7⟩ := againQ_ok h
  exact ⟨h7, fun w hw => hw, by simp, by omega⟩
theorem StepB.drop {q x : TQueue} {w : Int} (day : Int) (h : dropQ q w = (x, 0)) : StepB q day x day := by
  obtain ⟨_, _, rfl, h7⟩ := dropQ_ok h
  exact ⟨h7, fun w hw => hw, by simp, by omega⟩
theorem StepB.take {q x : TQueue} {b : TBatch} {day d : Int} {ws : List Int} (hd : day ≤ d ∧ d ≤ day + 6) (h : takeQ q d ws = (x, b, 0)) : StepB q day x d := by
  obtain ⟨_, _, _, _, _, _, rfl, _, h7⟩ := takeQ_ok h
  exact ⟨h7, fun w hw => hw, by simp, hd⟩
open Go.PA
open Go.RowKit
open Go.PA
open Go.RowKit
structure GenD (n : Nat) (d : TDesk) (day : Int) : Prop where
  ok : DOk d
  ids : ids d.Account.Subs = [1, 2, 3, 7]
  small : ∀ e, e ∈ d.Account.Entries → e.Amount ≤ 500
  cred : d.Account.Credit ≤ 100
  pays : ∀ x, x ∈ d.Items → x.Payment.Warrant ≤ 12 ∧ x.Payment.Amount ≤ 100
  refs : ∀ e, e ∈ d.Account.Entries → e.Ref = 0 ∨ e.Ref ∈ d.Queue.Known
  len : d.Account.Entries.length ≤ 8 + 10 * n
  bl : d.Queue.Batches.length ≤ n
  lastA : lastDay d.Account ≤ day
  lastB : lastQ d.Queue ≤ day
  day : 0 ≤ day ∧ day ≤ 40 + 6 * (n : Int)
def Stay (d x : TDesk) : Prop := ∀ y z, y ∈ d.Items → z ∈ x.Items → y.Payment.Warrant = z.Payment.Warrant → y.State = 3 → z.State = 3
theorem GenD.mono {n : Nat} {d : TDesk} {day : Int} (h : GenD n d day) : GenD (n + 1) d day := ⟨h.ok, h.ids, h.small, h.cred, h.pays, h.refs, by have := h.len; omega, by have := h.bl; omega, h.lastA, h.lastB, by have := h.day; omega⟩
theorem Stay.same {d : TDesk} (h : DOk d) : Stay d d := fun y z hy hz e hs => by rw [← uniqI h.nd hy hz e]; exact hs
structure StepD (n : Nat) (d : TDesk) (x : TDesk) (day : Int) : Prop where
  gen : GenD (n + 1) x day
  stay : Stay d x
theorem StepD.same {n : Nat} {d : TDesk} {day : Int} (h : GenD n d day) : StepD n d d day := ⟨h.mono, .same h.ok⟩
theorem stay_set {d : TDesk} (hd : DOk d) {a : TAccount} {q : TQueue} {k : Nat} {y w : TItem} (hk : d.Items[k]? = some y) (hs : y.State ≠ 3) (hw : w.Payment.Warrant = y.Payment.Warrant) : Stay d ⟨a, q, d.Items.set k w⟩ := fun u z hu hz e h3 => by
  rcases mem_set_cases hd.nd hk hz with rfl | ⟨hz, hne⟩
  · have := uniqI hd.nd hu (List.mem_of_getElem? hk) (e.trans hw)
    rw [this] at h3
    exact absurd h3 hs
  · rw [← uniqI hd.nd hu hz e]; exact h3
theorem pays_set {d : TDesk} (hd : DOk d) (hp : ∀ x, x ∈ d.Items → x.Payment.Warrant ≤ 12 ∧ x.Payment.Amount ≤ 100) {k : Nat} {y w : TItem} (hk : d.Items[k]? = some y) (hw : w.Payment.Warrant = y.Payment.Warrant ∧ w.Payment.Amount = y.Payment.Amount) : ∀ x, x ∈ d.Items.set k w → x.Payment.Warrant ≤ 12 ∧ x.Payment.Amount ≤ 100 := fun x hx => by
  rcases mem_set_cases hd.nd hk hx with rfl | ⟨hx, _⟩
  · rw [hw.1, hw.2]
    exact hp y (List.mem_of_getElem? hk)
  · exact hp x hx
theorem StepD.again {n : Nat} {d x : TDesk} {day w due : Int} (h : GenD n d day) (hx : againD d w due = (x, 0)) : StepD n d x day := by
  obtain ⟨a1, ⟨k, y, b1, b2, b3, b4, rfl⟩, a5⟩ := againD_ok hx
  exact ⟨⟨a5, h.ids, h.small, h.cred, pays_set a1 h.pays b1 ⟨rfl, rfl⟩, h.refs, by have := h.len; dsimp only; omega, by have := h.bl; dsimp only; omega, h.lastA, h.lastB, by have := h.day; omega⟩, stay_set a1 b1 (by omega) rfl⟩
theorem item_known {d : TDesk} (hd : DOk d) {x : TItem} (hx : x ∈ d.Items) : x.Payment.Warrant ∈ d.Queue.Known := by rw [← hd.k]; exact List.mem_map.2 ⟨x, hx, rfl⟩
theorem StepD.ret {n : Nat} {d x : TDesk} {day w : Int} (h : GenD n d day) (hx : returnD d w (day + 1) = (x, 0)) : StepD n d x (day + 1) := by
  obtain ⟨a1, ⟨k, y, b1, b2, b3, b4, rfl⟩, a5⟩ := returnD_ok hx
  have hy := List.mem_of_getElem? b1
  have hl := lastE_post b4
  refine ⟨⟨a5, (post_ids b4).trans h.ids, fun e he => ?_, by dsimp only; rw [post_credit b4]; exact h.cred, pays_set a1 h.pays b1 ⟨rfl, rfl⟩, fun e he => ?_, ?_, by have := h.bl; dsimp only; omega, ?_, by have := h.lastB; dsimp only; omega, by have := h.day; omega⟩, stay_set a1 b1 (by omega) rfl⟩
  · dsimp only at he
    rw [post_ents b4] at he
    rcases List.mem_append.1 he with he | he
    · exact h.small e he
    · rw [List.mem_singleton] at he
      have := (h.pays y hy).2
      rw [he]
      show y.Payment.Amount ≤ 500
      omega
  · dsimp only at he
    rw [post_ents b4] at he
    rcases List.mem_append.1 he with he | he
    · exact h.refs e he
    · rw [List.mem_singleton] at he
      rw [he]
      exact .inr (b2 ▸ item_known a1 hy)
  · have := h.len
    dsimp only
    rw [post_ents b4, List.length_append, List.length_singleton]
    omega
  · dsimp only
    rw [lastDay, hl]
    exact Int.le_refl _
theorem DOk.fit {d : TDesk} (h : DOk d) : FitD d := ⟨(check_fit h.a).1, (check_fit h.a).2, h.q.fit, by
  have := h.q.lk
  rw [← h.k, List.length_map] at this
  omega⟩
open Go.PA
open Go.RowKit
open Go.PA
open Go.RowKit
open Go.PA
open Go.RowKit
set_option maxRecDepth 8000 in
set_option maxHeartbeats 2000000 in
theorem insert_m_item {row src : Option Nat} (es : List (List AV)) (e : List AV) (i id : Nat) (H : Heap) (hi : i ≤ es.length) (hl : es.length ≤ 100000) (ho : H[id]? = some (some ⟨46, 7, es⟩)) (he0 : e ≠ []) :
    MFun Tryz.prog row src 72 [.sref id 0 es.length, iv i, .list 7 [e]] H (fun r H' => ∃ jd, r = .sref jd 0 (es.length + 1) ∧ (jd = id ∨ H.length ≤ jd) ∧ H'[jd]? = some (some ⟨46, 7, es.take i ++ e :: es.drop i⟩) ∧ Kept [id] H H') := by
  obtain ⟨C, hC⟩ : ∃ C : AV → Heap → Prop, C = fun r H' => ∃ jd, r = .sref jd 0 (es.length + 1) ∧ (jd = id ∨ H.length ≤ jd) ∧ H'[jd]? = some (some ⟨46, 7, es.take i ++ e :: es.drop i⟩) ∧ Kept [id] H H' := ⟨_, rfl⟩
  rw [← hC]
  have ex : ∃ r H', C r H' := by
    rw [hC]
    exact ⟨.sref H.length 0 (es.length + 1), H ++ [some ⟨46, 7, es.take i ++ e :: es.drop i⟩], H.length, rfl, .inr (Nat.le_refl _), by simp, kept_app _ _ _⟩
  have lid := (List.getElem?_eq_some_iff.1 ho).1
  obtain ⟨n, hn⟩ : ∃ n, n = es.length := ⟨_, rfl⟩
  rw [← hn] at hi hl hC ⊢
  by_cases hin : i = n
  · subst hin
    refine mfun_intro Tryz.func72 rfl (by simp [Tryz.f72]) (by kernel_rfl) (ex) ?_
    intro E hP hr hs hN
    by_cases h0 : i = 0
    · subst h0
      simp -dsimp -implicitDefEqProofs [-getElem?_pos, go_sem, hP, ho, ← hn, asliceOp, bound, aslice]
      rw [hC]
      exact ⟨H.length, rfl, .inr (Nat.le_refl _), by simp -dsimp -implicitDefEqProofs [-getElem?_pos, go_sem, List.eq_nil_of_length_eq_zero hn.symm], (kept_set none (by simp) (kept_refl _ _)).trans (kept_app _ _ _)⟩
    · simp -dsimp -implicitDefEqProofs [-getElem?_pos, go_sem, hP, ho, ← hn, h0, asliceOp, bound, aslice]
      refine ⟨by omega, by omega, ?_⟩
      rw [hC]
      exact ⟨H.length, rfl, .inr (Nat.le_refl _), by simp -dsimp -implicitDefEqProofs [-getElem?_pos, go_sem, hn], (kept_set none (by simp) (kept_refl _ _)).trans (kept_app _ _ _)⟩
  · have hlt : i < n := by omega
    have hin' : ¬ (i : Int) = n := by omega
    have w1 := wrap_in ((n : Int) + 1) (by omega)
    have w2 := wrap_in ((i : Int) + 1) (by omega)
    have w3 := wrap_in ((n : Int) + 1 - i) (by omega)
    have hesne : es ≠ [] := by intro e0; simp [e0] at hn; omega
    refine mfun_unfull (C := fun r H' => C r H' ∨ ∃ N, r = .full id 0 (n + 1) N ∧ ∃ o, H'[id]? = some (some o) ∧ n + 1 ≤ o.es.length ∧ C (.sref id 0 (n + 1)) H') ?_ (fun r H' h => ?_)
    rotate_left
    · rcases h with h | ⟨N, h1, o, h2, h3, h4⟩
      · exact .inl h
      · exact .inr ⟨id, n + 1, N, o, h1, h2, h3, h4⟩
    refine mfun_full ho hesne (by dsimp only; omega) fun N hN0 => ?_
    dsimp only at hN0
    obtain ⟨D, hD⟩ : ∃ D : AV → Heap → Prop, D = fun r H' => C r H' ∨ ∃ N, r = .full id 0 (n + 1) N ∧ ∃ o, H'[id]? = some (some o) ∧ n + 1 ≤ o.es.length ∧ C (.sref id 0 (n + 1)) H' := ⟨_, rfl⟩
    rw [← hD]
    have exD : ∃ r H', D r H' := by
      obtain ⟨r, H', h⟩ := ex
      rw [hD]
      exact ⟨r, H', .inl h⟩
    have fx : ∀ (id n N : Nat), (if i = 0 then some (AV.full id 0 n N) else some (AV.full id i (n - i) N)) = some (.full id i (n - i) N) := fun id n N => by
      split
      · subst i; rfl
      · rfl
    have nN : n ≤ N := by omega
    have iN : i ≤ N := by omega
    have a1 : (0 : Int) ≤ (n : Int) + 1 := by omega
    have a3 : (0 : Int) ≤ (i : Int) + 1 := by omega
    have a4 : (i : Int) + 1 ≤ (n : Int) + 1 := by omega
    refine mfun_intro Tryz.func72 rfl (by simp [Tryz.f72]) (by kernel_rfl) (exD) ?_
    intro E hP hr hs hN
    by_cases hroom : N < n + 1
    · have dN : decide ((N : Int) < (n : Int) + 1) = true := decide_eq_true (by omega)
      obtain ⟨zs, hz⟩ := Option.isSome_iff_exists.1 (show (zeros Tryz.prog 46).isSome = true by kernel_rfl)
      have hbt : bytesOf Tryz.prog 46 = 56 := by kernel_rfl
      have hm : (n : Int) + 1 - i = ((n + 1 - i : Nat) : Int) := by omega
      have sx : ∀ (id n : Nat), (if i = 0 then some (AV.sref id 0 n) else some (AV.sref id i (n - i))) = some (.sref id i (n - i)) := fun id n => by
        split
        · subst i; rfl
        · rfl
      simp -dsimp -implicitDefEqProofs [-getElem?_pos, go_sem, hP, dN, ho, ← hn, hin, hin', asliceOp, bound, aslice, w1, w2, w3, hroom, hi, nN, iN, a1, a3, a4, fx]
      refine buiB_makeE (e := 46) (m := n + 1 - i) (L := n + 1) (kn := .i64) (zs := zs) ho (by rw [hP]; kernel_rfl) (by rw [hP]; kernel_rfl) (by rw [hP]; kernel_rfl) (by omega) rfl (by rw [hP]; exact hz) (by omega) hm (by omega) (by omega) hroom (by omega) (by rw [hP, hbt]; omega) ?_
      have ho2 : (H ++ [some (⟨46, 7, es.take i ++ List.replicate (n + 1 - i) zs⟩ : AObj)])[id]? = some (some ⟨46, 7, es⟩) := by rw [List.getElem?_append_left lid]; exact ho
      have hl1 : (es.take i ++ List.replicate (n + 1 - i) zs).length = n + 1 := by simp; omega
      have a7 : (i : Int) ≤ (n : Int) + 1 := by omega
      have a8 : ¬ ((i : Int) = (n : Int) + 1) := by omega
      have a9 : i ≤ n + 1 := by omega
      have a10 : ¬ i = n + 1 := by omega
      have hA : (es.take i).length = i := by simp; omega
      have d1 : (es.take i ++ List.replicate (n + 1 - i) zs).drop (i + 1) = List.replicate (n - i) zs := by
        rw [List.drop_append, List.drop_of_length_le (by omega), hA, List.nil_append, List.drop_replicate]
        congr 1
        omega
      simp -dsimp -implicitDefEqProofs [-getElem?_pos, go_sem, hP, ho2, asliceOp, bound, aslice, a7, a8, a9, a10, sx]
      refine buiB_copyE (e := 46) (ty := 46) (k := 7) (lo := i) (dn := n + 1 - i) (m := 1) (es := es.take i ++ List.replicate (n + 1 - i) zs) (news := [e]) (es' := es.take i ++ e :: List.replicate (n - i) zs) (by simp) (.inl rfl) (by rw [hP]; kernel_rfl) (by rw [hP]; kernel_rfl) (by omega) (by rw [hP]; kernel_rfl) ?_ rfl (by omega) (by omega) (by simp; omega) ?_ ?_
      · simp only [srcEs]
        rw [if_pos (by rw [hP]; kernel_rfl)]
      · rw [d1, List.take_append_of_le_length (by omega), List.take_of_length_le (by omega)]
        simp
      have ho3 : (H ++ [some (⟨46, 7, es.take i ++ e :: List.replicate (n - i) zs⟩ : AObj)])[id]? = some (some ⟨46, 7, es⟩) := by rw [List.getElem?_append_left lid]; exact ho
      have a5 : ¬ ((i : Int) + 1 = 0) := by omega
      have a6 : ((n : Int) + 1 - ((i : Int) + 1)).toNat = n - i := by omega
      have a11 : ¬ ((i : Int) + 1 = (n : Int) + 1) := by omega
      simp -dsimp -implicitDefEqProofs [-getElem?_pos, go_sem, hP]
      refine adrawB (fun _ => true) [8] hP (by kernel_rfl) (by kernel_rfl) ?_
      simp -dsimp -implicitDefEqProofs [-getElem?_pos, go_sem, hP, ho3, ← hn, hin, hin', asliceOp, bound, aslice, w1, w2, hi, nN, iN, a1, a3, a4, a5, a6, a7, a8, a11, fx, sx]
      refine buiB_copyE (e := 46) (ty := 46) (k := 7) (lo := i + 1) (dn := n - i) (m := n - i) (es := es.take i ++ e :: List.replicate (n - i) zs) (news := es.drop i) (es' := es.take i ++ e :: es.drop i) (by simp) (.inl rfl) (by rw [hP]; kernel_rfl) (by rw [hP]; kernel_rfl) (by omega) (by rw [hP]; kernel_rfl) ?_ (by simp [← hn]) (by omega) (by omega) (by simp; omega) ?_ ?_
      · simp only [srcEs, ho3]
        rw [if_pos ⟨by rw [hP]; kernel_rfl, by omega⟩, List.take_of_length_le (by simp; omega)]
      · rw [show es.take i ++ e :: List.replicate (n - i) zs = (es.take i ++ [e]) ++ List.replicate (n - i) zs from by simp, List.take_append_of_le_length (by simp; omega), List.take_of_length_le (by simp; omega), List.drop_of_length_le (show ((es.take i ++ [e]) ++ List.replicate (n - i) zs).length ≤ i + 1 + (n - i) by simp; omega)]
        simp
      simp -dsimp -implicitDefEqProofs [-getElem?_pos, go_sem, hP]
      rw [hD, hC]
      exact .inl ⟨H.length, rfl, .inr (Nat.le_refl _), by simp, kept_app _ _ _⟩
    · have dN : decide ((N : Int) < (n : Int) + 1) = false := decide_eq_false (by omega)
      have a2 : (n : Int) + 1 ≤ N := by omega
      have a5 : ¬ ((i : Int) + 1 = 0) := by omega
      have a6 : ((n : Int) + 1 - ((i : Int) + 1)).toNat = n - i := by omega
      have a7 : (i : Int) ≤ (n : Int) + 1 := by omega
      have a8 : ¬ ((i : Int) = (n : Int) + 1) := by omega
      simp -dsimp -implicitDefEqProofs [-getElem?_pos, go_sem, hP, dN, ho, ← hn, hin, hin', asliceOp, bound, aslice, w1, w2, w3, hroom, hi, nN, iN, a1, a2, a3, a4, a5, a6, a7, a8, fx]
      refine callB_overlapsL (t := 33) (e := 46) (tR := 4) (fn := Tryz.f141) (id' := id) (lo' := i + 1) (dn' := n - i) (by rw [hP]; exact Tryz.func141) (by kernel_rfl) (by kernel_rfl) (by kernel_rfl) (by kernel_rfl) (by rw [hP]; kernel_rfl) (by rw [hP]; kernel_rfl) he0 (.inr ⟨N, rfl⟩) ho (by omega) ?_
      simp -dsimp -implicitDefEqProofs [-getElem?_pos, go_sem, hP]
      refine adrawB (fun _ => true) [8] hP (by kernel_rfl) (by kernel_rfl) ?_
      simp -dsimp -implicitDefEqProofs [-getElem?_pos, go_sem, hP, dN, ho, ← hn, hin, hin', asliceOp, bound, aslice, w1, w2, w3, hroom, hi, nN, iN, a1, a2, a3, a4, a5, a6, a7, a8, fx]
      refine buiB_copyS (e := 46) (lo := i + 1) (dn := n - i) (news := es.drop i) (es' := es.take (i + 1) ++ es.drop i) ho (.inr ⟨N, rfl⟩) (by rw [hP]; kernel_rfl) (by rw [hP]; kernel_rfl) (by omega) (by rw [hP]; kernel_rfl) ?_ (by simp [← hn]) (by omega) (by omega) (by omega) (by rw [List.drop_of_length_le (show es.length ≤ i + 1 + (n - i) by omega), List.append_nil]) ?_
      · simp only [srcEs, ho]
        rw [if_pos ⟨by rw [hP]; kernel_rfl, by omega⟩, List.take_of_length_le (by simp; omega)]
      simp -dsimp -implicitDefEqProofs [-getElem?_pos, go_sem, hP, lid, ho, asliceOp, bound, aslice, a2, a7, a8, fx]
      refine buiB_copyE (e := 46) (ty := 46) (k := 7) (lo := i) (dn := n + 1 - i) (m := 1) (es := es.take (i + 1) ++ es.drop i) (news := [e]) (es' := es.take i ++ e :: es.drop i) (by simp [lid]) (.inr ⟨N, rfl⟩) (by rw [hP]; kernel_rfl) (by rw [hP]; kernel_rfl) (by omega) (by rw [hP]; kernel_rfl) ?_ rfl (by omega) (by omega) (by simp [← hn]; omega) ?_ ?_
      · simp only [srcEs]
        rw [if_pos (by rw [hP]; kernel_rfl)]
      · rw [List.take_append_of_le_length (by simp; omega), List.take_take, Nat.min_eq_left (by omega), List.drop_append_of_le_length (by simp; omega), List.drop_of_length_le (by simp; omega)]
        simp
      simp -dsimp -implicitDefEqProofs [-getElem?_pos, go_sem, hP, lid]
      rw [hD, hC]
      simp only [List.set_set]
      exact .inr ⟨N, rfl, ⟨46, 7, es.take i ++ e :: es.drop i⟩, by simp [lid], by simp [← hn]; omega, id, rfl, .inl rfl, by simp [lid], kept_set _ (by simp) (kept_refl _ _)⟩
theorem order1_pf (e : TEntry) (p : TPayment) : PFun Tryz.prog none none 71 [.agg e.cells, .iref p.cells] (· = bv (refB p.Warrant e)) := by
  refine pfun_intro Tryz.func71 rfl (by simp [Tryz.f71]) (by kernel_rfl) ?_
  intro E hP hr hs hW hN
  simp -dsimp -implicitDefEqProofs [-getElem?_pos, go_sem, hP, cE, cPy, refB]
theorem ltI_cut {l : List TItem} {y : TItem} {k : Nat} (hk : CutI l y.Payment.Warrant k) : ins ltI l y = l.take k ++ y :: l.drop k := by
  obtain ⟨A, B, h1, h2, h3, h4⟩ := ins_split ltI l y
  have : A.length = k := by
    refine CutI.uniq (l := l) (w := y.Payment.Warrant) ⟨by rw [h1]; simp, fun h x hx => ?_⟩ hk
    by_cases c : h < A.length
    · rw [h1, List.getElem?_append_left c] at hx
      exact ⟨fun _ => c, fun _ => by simpa [ltI] using h3 x (List.mem_of_getElem? hx)⟩
    · refine ⟨fun hb => ?_, fun hc => absurd hc c⟩
      have hAk := (hk.2 h x hx).1 hb
      have hlt : A.length < l.length := by have := hk.1; omega
      obtain ⟨z, hz⟩ : ∃ z, l[A.length]? = some z := ⟨_, List.getElem?_eq_getElem hlt⟩
      have hz1 := (hk.2 A.length z hz).2 (by omega)
      have hzB : B.head? = some z := by
        rw [h1, List.getElem?_append_right (Nat.le_refl _), Nat.sub_self] at hz
        rw [List.head?_eq_getElem?]
        exact hz
      have := h4 z hzB
      rw [ltI, decide_eq_true hz1] at this
      cases this
  subst this
  rw [h2, h1]
  simp
set_option maxHeartbeats 2000000 in
theorem rorder_pf (d : TDesk) (p : TPayment) (hf : FitD d) : PFun Tryz.prog none none 27 [.agg d.cells, .agg p.cells] (· = .tup [.agg (orderD d p).1.cells, iv (orderD d p).2]) := by
  refine pfun_introA Tryz.func27 rfl (by simp [Tryz.f27]) ?_
  intro E hP hr hs hW hN
  have li := hf.i
  have id' := imm_desk d
  have ia := imm_acc d.Account
  have ie := imm_ents d.Account.Entries
  have iq := imm_que d.Queue
  have ip := imm_pay p
  have ck := dcheck_pf d hf
  have ad := badd_pf d.Queue p hf.q
  have io := imm_que (addQ d.Queue p).1
  have bl := balance_pf d.Account p.Sub hf.s hf.e
  have ct := contains_pf_entry d.Account.Entries 71 [.iref p.cells] (refB p.Warrant) (by have := hf.e; omega) en_71 (by simp [imm_iref]; exact p.imm) fun e _ => order1_pf e p
  simp only [cDn] at id' ck
  simp only [cA] at ia bl
  simp only [cQn, cPy] at iq ip ad io ct
  refine awp_sound _ _ _ (by rw [hN]; kernel_rfl) ?_
  simp -dsimp -implicitDefEqProofs [-getElem?_pos, go_sem, hP, cDn, cPy]
  refine callB_is (ck.lift _ _) hP en_13 (by simpa using id') .sc ?_
  by_cases c1 : checkD d = 0
  rotate_left
  · have : orderD d p = (zeroD, checkD d) := by rw [orderD, if_neg c1]
    simp -dsimp -implicitDefEqProofs [-getElem?_pos, go_sem, hP, c1]
    refine done_zeroD ?_
    rw [this]
  have hd := checkD_iff.1 c1
  simp -dsimp -implicitDefEqProofs [-getElem?_pos, go_sem, hP, c1]
  refine callB_is (ad.lift _ _) hP en_69 (by simpa using ⟨iq, ip⟩) (imm_pair io .sc) ?_
  by_cases c2 : (addQ d.Queue p).2 = 0
  rotate_left
  · have : orderD d p = (zeroD, (addQ d.Queue p).2) := by rw [orderD, if_pos c1, if_neg c2]
    have d2 := decide_eq_false c2
    simp -dsimp -implicitDefEqProofs [-getElem?_pos, go_sem, hP, d2]
    refine done_zeroD ?_
    rw [this]
  simp -dsimp -implicitDefEqProofs [-getElem?_pos, go_sem, hP, c2]
  refine callB_is (bl.lift _ _) hP en_70 (by simpa [imm_sc] using ia) (imm_pair .sc .sc) ?_
  cases c3 : (balanceA d.Account p.Sub).2
  · have : orderD d p = (zeroD, 60) := by rw [orderD, if_pos c1, if_pos c2, if_neg (by simp [c3])]
    simp -dsimp -implicitDefEqProofs [-getElem?_pos, go_sem, hP, c3]
    refine done_zeroD ?_
    rw [this]
  simp -dsimp -implicitDefEqProofs [-getElem?_pos, go_sem, hP, c3]
  refine callB_pure ct hP en_66 (args_imm ie (args_fnc (cs := [.ref 1 0 0]) (by simp -dsimp -implicitDefEqProofs [-getElem?_pos, go_sem, viewR_ref]) (by simp [imm_iref, imm_sc]) (args_nil.2 trivial))) .sc ?_
  cases c4 : d.Account.Entries.any (refB p.Warrant)
  rotate_left
  · have : orderD d p = (zeroD, 65) := by rw [orderD, if_pos c1, if_pos c2, if_pos c3, if_pos c4]
    simp -dsimp -implicitDefEqProofs [-getElem?_pos, go_sem, hP, c4]
    refine done_zeroD ?_
    rw [this]
  have hor : orderD d p = (⟨d.Account, (addQ d.Queue p).1, ins ltI d.Items ⟨p, 1, 0⟩⟩, 0) := by rw [orderD, if_pos c1, if_pos c2, if_pos c3, if_neg (by simp [c4])]
  rw [hor]
  simp -dsimp -implicitDefEqProofs [-getElem?_pos, go_sem, hP, c4]
  have cm := fun {row src : Option Nat} (H : Heap) => copied26_m (row := row) (src := src) d H hf
  simp only [cDn] at cm
  refine callB_m (by rw [hr, hs]; exact cm _) hP en_59 ?_
  rintro r H2 ⟨id, rfl, hid, ho, hk'⟩
  have b0 := hk' 0 _ (by simp) rfl
  have b1 := hk' 1 _ (by simp) rfl
  have b2 := hk' 2 _ (by simp) rfl
  have b3 := hk' 3 _ (by simp) rfl
  have lt0 := (List.getElem?_eq_some_iff.1 b0).1
  have hid2 : 4 ≤ id := by simpa using hid
  have n0 : ¬ 0 = id := by omega
  have lt1 := (List.getElem?_eq_some_iff.1 b1).1
  simp -dsimp -implicitDefEqProofs [-getElem?_pos, go_sem, hP, b0, lt0, n0, b1, lt1]
  generalize hH3 : List.set H2 0 _ = H3
  have e0 : H3[0]? = some (some (ownO d.Account d.Queue id d.Items.length)) := by rw [← hH3, List.getElem?_set_self lt0]
  have e1 : H3[1]? = H2[1]? := by rw [← hH3, List.getElem?_set_ne (by omega)]
  have e2 : H3[2]? = H2[2]? := by rw [← hH3, List.getElem?_set_ne (by omega)]
  have e3 : H3[3]? = H2[3]? := by rw [← hH3, List.getElem?_set_ne (by omega)]
  have ei : H3[id]? = H2[id]? := by rw [← hH3, List.getElem?_set_ne (by omega)]
  rw [b1] at e1
  rw [b2] at e2
  rw [b3] at e3
  rw [ho] at ei
  clear hH3 b0 b1 b2 b3 lt0 lt1 hk'
  have g0 := (List.getElem?_eq_some_iff.1 e0).1
  have g1 := (List.getElem?_eq_some_iff.1 e1).1
  have g2 := (List.getElem?_eq_some_iff.1 e2).1
  have g3 := (List.getElem?_eq_some_iff.1 e3).1
  have pl := place_pf d p.Warrant (by omega)
  simp only [cDn] at pl
  have i1 := imm_subs d.Account.Subs
  have i2 := imm_pays d.Queue.Waiting
  have i3 := imm_nums d.Queue.Known
  have i4 := imm_bats d.Queue.Batches
  have i5 := imm_items d.Items
  have cw : CW H3 [iv d.Account.Credit, subsL d.Account.Subs, entsL d.Account.Entries, paysL d.Queue.Waiting, numsL d.Queue.Known, batsL d.Queue.Batches, .sref id 0 d.Items.length] [iv d.Account.Credit, subsL d.Account.Subs, entsL d.Account.Entries, paysL d.Queue.Waiting, numsL d.Queue.Known, batsL d.Queue.Batches, itemsL d.Items] := cw_sc (cw_imm i1 (cw_imm ie (cw_imm i2 (cw_imm i3 (cw_imm i4 (cw_sref ei (by rw [encL_len]) i5 .nil))))))
  refine callB_flat (pl.lift _ _) hP en_56 (args_agg cw (args_imm .sc (args_nil.2 trivial))) (by obtain ⟨r, h, _⟩ := placeQ_ex d.Items p.Warrant; exact ⟨r, h⟩) (fun r h => h.flat) ?_
  rintro r ⟨k, hk, rfl, hcut⟩
  obtain ⟨k', hk1, hk2⟩ := place_cut hd.ks p.Warrant
  have := hcut k' hk1
  subst this
  have hins := ltI_cut (y := ⟨p, 1, 0⟩) hk1
  generalize decide ((d.Items[k]?).map wrt = some p.Warrant) = bb
  simp -dsimp -implicitDefEqProofs [-getElem?_pos, go_sem, hP]
  refine adrawB (fun i => decide (i = 0) || decide (i = 1) || decide (i = 3)) [9, 11] hP (by kernel_rfl) (by kernel_rfl) ?_
  simp -dsimp -implicitDefEqProofs [-getElem?_pos, go_sem, hP, e0, g0, e1, g1, e3, g3]
  have insm := fun {row src : Option Nat} => insert_m_item (row := row) (src := src) (encL TItem.cells d.Items) [iv p.Warrant, iv p.Payee, iv p.Amount, iv p.Due, iv p.Sub, iv 1, iv 0] k id H3 (by rw [encL_len]; exact hk) (by rw [encL_len]; omega) ei (by simp)
  rw [encL_len] at insm
  refine callB_m (by rw [hr, hs]; exact insm) hP en_72 ?_
  rintro r H4 ⟨jd, rfl, hjd, hoj, hk4⟩
  have f0 := hk4 0 _ (by simp; omega) e0
  have f1 := hk4 1 _ (by simp; omega) e1
  have f2 := hk4 2 _ (by simp; omega) e2
  have f3 := hk4 3 _ (by simp; omega) e3
  have m0 := (List.getElem?_eq_some_iff.1 f0).1
  have m2 := (List.getElem?_eq_some_iff.1 f2).1
  have eIt : (encL TItem.cells d.Items).take k ++ [iv p.Warrant, iv p.Payee, iv p.Amount, iv p.Due, iv p.Sub, iv 1, iv 0] :: (encL TItem.cells d.Items).drop k = encL TItem.cells (ins ltI d.Items ⟨p, 1, 0⟩) := by
    rw [hins, encL_takeE, encL_dropE]
    simp [encL, cIt]
  rw [eIt] at hoj
  have hjd4 : 4 ≤ jd := by omega
  have nj0 : ¬ 0 = jd := by omega
  have nj2 : ¬ 2 = jd := by omega
  have n20 : ¬ 2 = 0 := by omega
  have aD : Agree (fun i => decide (i = 0) || decide (i = 1) || decide (i = 3)) H3 H4 := agree_live hk4 fun i hi => by
    simp only [Bool.or_eq_true, decide_eq_true_eq] at hi
    refine ⟨by simp; omega, ?_⟩
    rcases hi with (rfl | rfl) | rfl
    · exact ⟨_, e0⟩
    · exact ⟨_, e1⟩
    · exact ⟨_, e3⟩
  simp -dsimp -implicitDefEqProofs [-getElem?_pos, go_sem, hP, f0, m0]
  refine ⟨aD, ?_⟩
  simp -dsimp -implicitDefEqProofs [-getElem?_pos, go_sem, hP, f0, m0, f2, m2]
  refine done_agg2 (cs' := TDesk.cells ⟨d.Account, (addQ d.Queue p).1, ins ltI d.Items ⟨p, 1, 0⟩⟩) ?_ rfl
  refine cw_sc (cw_imm i1 (cw_imm ie (cw_imm (imm_pays _) (cw_imm (imm_nums _) (cw_imm (imm_bats _) (cw_sref (ty := 46) ?_ ?_ (imm_items _) .nil))))))
  · rw [List.getElem?_set_ne nj2, List.getElem?_set_ne nj0]
    exact hoj
  · rw [encL_len, ins_len]
open Go.PA
open Go.RowKit
def fA0 : TAccount := newA [1] 0
def fE : TEntry := ⟨1, 0, 0, 1, 100, 0⟩
def fA : TAccount := ⟨0, [⟨1, 100⟩], [fE]⟩
theorem f_open : openA [1] 0 = (fA0, 0) := by kernel_rfl
theorem f_next : nextE fA0 0 0 1 100 0 = fE := by kernel_rfl
theorem f_post : postA fA0 fE = (fA, 0) := by kernel_rfl
theorem funds_pf : PFun Tryz.prog none none 25 [] (· = .agg fA.cells) := by
  refine pfun_intro Tryz.func25 rfl (by simp [Tryz.f25]) (by kernel_rfl) ?_
  intro E hP hr hs hW hN
  have op := open23_pf [1] 0 (by simp)
  rw [f_open] at op
  have nx := next23_pf fA0 0 0 1 100 0 (by simp [fA0, newA])
  rw [f_next] at nx
  have po := post23_pf fA0 fE (by simp [fA0, newA, newS]) (by simp [fA0, newA])
  rw [f_post] at po
  have i0 := imm_acc fA0
  have i1 := imm_acc fA
  have ie := imm_ent fE
  simp only [cA] at op nx po i0 i1
  have op : PFun Tryz.prog none none 48 [.list 1 [[iv 1]], iv 0] (· = .tup [.agg [iv fA0.Credit, subsL fA0.Subs, entsL fA0.Entries], iv 0]) := op
  simp -dsimp -implicitDefEqProofs [-getElem?_pos, go_sem, hP]
  refine callB_is (op.lift _ _) hP en_48 (by simp [imm_sc, imm_list]) (imm_pair i0 .sc) ?_
  simp -dsimp -implicitDefEqProofs [-getElem?_pos, go_sem, hP]
  refine adrawQ (fun i => decide (i < 2)) [7] [2, 3] hP (by kernel_rfl) (by kernel_rfl) ?_
  simp -dsimp -implicitDefEqProofs [-getElem?_pos, go_sem, hP]
  refine callQ_is (nx.lift _ _) hP en_51 (by simpa [imm_sc] using i0) ie ?_
  simp -dsimp -implicitDefEqProofs [-getElem?_pos, go_sem, hP]
  refine callQ_is (po.lift _ _) hP en_50 (by simpa using ⟨i0, ie⟩) (imm_pair i1 .sc) ?_
  simp -dsimp -implicitDefEqProofs [-getElem?_pos, go_sem, hP]
  exact done_imm i1 rfl
def sPay : TPayment := ⟨5, 1, 60, 0, 1⟩
def sD0 : TDesk := (openD fA).1
def sD1 : TDesk := (orderD sD0 sPay).1
def sD2 : TDesk := (sendD sD1 0).1
def sD3 : TDesk := (returnD sD2 5 1).1
def sD4 : TDesk := (againD sD3 5 1).1
def sD5 : TDesk := (sendD sD4 2).1
theorem s_0 : (openD fA).2 = 0 := by kernel_rfl
theorem s_1 : (orderD sD0 sPay).2 = 0 := by kernel_rfl
theorem s_2 : (sendD sD1 0).2.2 = 0 := by kernel_rfl
theorem s_3 : (returnD sD2 5 1).2 = 0 := by kernel_rfl
theorem s_4 : (againD sD3 5 1).2 = 0 := by kernel_rfl
theorem s_5 : (sendD sD4 2).2.2 = 0 := by kernel_rfl
theorem s_len : sD5.Items.length = 1 := by kernel_rfl
theorem s_att : (sD5.Items[0]?).map (·.Attempts) = some 2 := by kernel_rfl
theorem s_ents : sD5.Account.Entries.length = 4 := by kernel_rfl
theorem s_state : stateD sD5 5 = 2 := by kernel_rfl
theorem s_ok0 : DOk sD0 := by
  have h := openD_ok s_0
  rw [sD0, h.1]
  exact h.2.2.2
theorem s_ok1 : DOk sD1 := (orderD_ok (x := sD1) (p := sPay) (d := sD0) (Prod.ext rfl s_1)).2.2.2.2
theorem send_DOk {d : TDesk} {day : Int} (h : (sendD d day).2.2 = 0) : DOk (sendD d day).1 := by
  obtain ⟨_, _, _, _, ps, a, _, _, _, _, _, _, _, _, h⟩ := sendD_ok (x := (sendD d day).1) (b := (sendD d day).2.1) (d := d) (day := day) (Prod.ext rfl (Prod.ext rfl h))
  exact h
theorem s_ok2 : DOk sD2 := send_DOk s_2
theorem s_ok3 : DOk sD3 := (returnD_ok (x := sD3) (d := sD2) (w := 5) (day := 1) (Prod.ext rfl s_3)).2.2
theorem s_ok4 : DOk sD4 := (againD_ok (x := sD4) (d := sD3) (w := 5) (due := 1) (Prod.ext rfl s_4)).2.2
theorem s_ok5 : DOk sD5 := send_DOk s_5
set_option maxHeartbeats 1000000 in
theorem sane26_pf : PFun Tryz.prog none none 15 [] (· = bv true) := by
  refine pfun_intro Tryz.func15 rfl (by simp [Tryz.f15]) (by kernel_rfl) ?_
  intro E hP hr hs hW hN
  have fu := funds_pf
  have op := ropen_pf fA (by simp [fA]) (by simp [fA])
  have o1 := rorder_pf sD0 sPay s_ok0.fit
  have o2 := rsend_pf sD1 0 s_ok1.fit
  have o3 := rreturn_pf sD2 5 1 s_ok2.fit
  have o4 := ragain_pf sD3 5 1 s_ok3.fit
  have o5 := rsend_pf sD4 2 s_ok4.fit
  have o6 := rstate_pf sD5 5 s_ok5.fit
  rw [s_0, ← sD0] at op
  rw [s_1, ← sD1] at o1
  rw [s_2, ← sD2] at o2
  rw [s_3, ← sD3] at o3
  rw [s_4, ← sD4] at o4
  rw [s_5, ← sD5] at o5
  rw [s_state] at o6
  have ifa := imm_acc fA
  have i0 := imm_desk sD0
  have i1 := imm_desk sD1
  have i2 := imm_desk sD2
  have i3 := imm_desk sD3
  have i4 := imm_desk sD4
  have i5 := imm_desk sD5
  have ip := imm_pay sPay
  have eP : sPay.cells = [iv 5, iv 1, iv 60, iv 0, iv 1] := rfl
  have ib2 := imm_bat (sendD sD1 0).2.1
  have ib5 := imm_bat (sendD sD4 2).2.1
  obtain ⟨b2, hb2⟩ : ∃ b, b = (sendD sD1 0).2.1 := ⟨_, rfl⟩
  obtain ⟨b5, hb5⟩ : ∃ b, b = (sendD sD4 2).2.1 := ⟨_, rfl⟩
  rw [← hb2] at o2 ib2
  rw [← hb5] at o5 ib5
  have sl := s_len
  have se := s_ents
  obtain ⟨x, hx, hxa⟩ : ∃ x, sD5.Items[0]? = some x ∧ x.Attempts = 2 := by
    have := s_att
    cases h : sD5.Items[0]? with
    | none => rw [h] at this; cases this
    | some x => rw [h] at this; exact ⟨x, rfl, Option.some.inj this⟩
  generalize sD0 = D0 at *
  generalize sD1 = D1 at *
  generalize sD2 = D2 at *
  generalize sD3 = D3 at *
  generalize sD4 = D4 at *
  generalize sD5 = D5 at *
  simp only [cA, cDn, cBt, eP] at fu op o1 o2 o3 o4 o5 o6 ifa i0 i1 i2 i3 i4 i5 ip ib2 ib5
  simp -dsimp -implicitDefEqProofs [-getElem?_pos, go_sem, hP]
  refine callB_is (fu.lift _ _) hP en_25 (by simp) ifa ?_
  simp -dsimp -implicitDefEqProofs [-getElem?_pos, go_sem, hP]
  refine callB_is (op.lift _ _) hP en_24 (by simpa using ifa) (imm_pair i0 .sc) ?_
  simp -dsimp -implicitDefEqProofs [-getElem?_pos, go_sem, hP]
  refine callB_is (o1.lift _ _) hP en_27 (by simpa using ⟨i0, ip⟩) (imm_pair i1 .sc) ?_
  simp -dsimp -implicitDefEqProofs [-getElem?_pos, go_sem, hP]
  refine callB_is (o2.lift _ _) hP en_19 (by simpa [imm_sc] using i1) (imm_trip i2 ib2 .sc) ?_
  simp -dsimp -implicitDefEqProofs [-getElem?_pos, go_sem, hP]
  refine callB_is (o3.lift _ _) hP en_28 (by simpa [imm_sc] using i2) (imm_pair i3 .sc) ?_
  simp -dsimp -implicitDefEqProofs [-getElem?_pos, go_sem, hP]
  refine callB_is (o4.lift _ _) hP en_29 (by simpa [imm_sc] using i3) (imm_pair i4 .sc) ?_
  simp -dsimp -implicitDefEqProofs [-getElem?_pos, go_sem, hP]
  refine callB_is (o5.lift _ _) hP en_19 (by simpa [imm_sc] using i4) (imm_trip i5 ib5 .sc) ?_
  simp -dsimp -implicitDefEqProofs [-getElem?_pos, go_sem, hP, sl, se, hx, cIt, hxa]
  refine callB_is (o6.lift _ _) hP en_14 (by simpa [imm_sc] using i5) .sc ?_
  simp -dsimp -implicitDefEqProofs [-getElem?_pos, go_sem, hP]
open Go.PA
open Go.RowKit
def againC (n : Int) : Nat → Int → Int → TDesk → Bool
  | 0, _, _, _ => true
  | f + 1, k, day, d => decide ((sendD d (busI day)).2.2 = 0) && (decide ((sendD d (busI day)).2.1.Payments.map (·.Amount) = [n]) && (decide ((sendD d (busI day)).2.1.Number = k) && (decide ((returnD (sendD d (busI day)).1 9 (busI day + 1)).2 = 0) && (decide (totalA (returnD (sendD d (busI day)).1 9 (busI day + 1)).1.Account = 100) &&
    (if k < 5 then decide ((againD (returnD (sendD d (busI day)).1 9 (busI day + 1)).1 9 (busI day + 1)).2 = 0) && againC n f (k + 1) (busI day + 1) (againD (returnD (sendD d (busI day)).1 9 (busI day + 1)).1 9 (busI day + 1)).1 else decide ((againD (returnD (sendD d (busI day)).1 9 (busI day + 1)).1 9 (busI day + 1)).2 = 3))))))
def agPay (n : Int) : TPayment := ⟨9, 2, n, 0, 1⟩
def agD (n : Int) : TDesk := (orderD sD0 (agPay n)).1
def agAll (n : Int) : Bool := decide ((orderD sD0 (agPay n)).2 = 0) && againC n 5 1 0 (agD n)
set_option maxRecDepth 100000 in
theorem ag_all : ((List.range 100).all fun i => agAll ((i : Int) + 1)) = true := by kernel_rfl
open Go.PA
open Go.RowKit
theorem ag_at {n : Int} (h : 1 ≤ n ∧ n ≤ 100) : (orderD sD0 (agPay n)).2 = 0 ∧ againC n 5 1 0 (agD n) = true := by
  have := List.all_eq_true.1 ag_all (n - 1).toNat (List.mem_range.2 (by omega))
  have e : (((n - 1).toNat : Nat) : Int) + 1 = n := by omega
  rw [e, agAll, Bool.and_eq_true, decide_eq_true_eq] at this
  exact this
theorem ag_ok {n : Int} (h : 1 ≤ n ∧ n ≤ 100) : DOk (agD n) := (orderD_ok (x := agD n) (p := agPay n) (d := sD0) (Prod.ext rfl (ag_at h).1)).2.2.2.2
theorem againC_step {n : Int} {f : Nat} {k day : Int} {d : TDesk} (h : againC n (f + 1) k day d = true) : ∃ (x : TDesk) (b : TBatch) (y : TDesk) (z : TDesk) (e : Int), sendD d (busI day) = (x, b, 0) ∧ b.Payments.map (·.Amount) = [n] ∧ b.Number = k ∧ returnD x 9 (busI day + 1) = (y, 0) ∧ totalA y.Account = 100 ∧ againD y 9 (busI day + 1) = (z, e) ∧ (k < 5 → e = 0 ∧ againC n f (k + 1) (busI day + 1) z = true) ∧ (¬ k < 5 → e = 3) := by
  rw [againC] at h
  simp only [Bool.and_eq_true, decide_eq_true_eq] at h
  obtain ⟨h1, h2, h3, h4, h5, h6⟩ := h
  refine ⟨_, _, _, _, _, Prod.ext rfl (Prod.ext rfl h1), h2, h3, Prod.ext rfl h4, h5, rfl, fun hk => ?_, fun hk => ?_⟩
  · rw [if_pos hk, Bool.and_eq_true, decide_eq_true_eq] at h6
    exact h6
  · rw [if_neg hk, decide_eq_true_eq] at h6
    exact h6
set_option maxHeartbeats 8000000 in
theorem again26_law (xs : List Int) (hx : Small xs) (hl : xs.length ≤ 9223372036854775807) : PFun Tryz.prog none none 5 [intsL xs] (· = bv true) := by
  refine pfun_introA Tryz.func5 rfl (by simp [Tryz.f5]) ?_
  intro E hP hr hs hW hN
  refine awp_cut (by rw [hN]; kernel_rfl) ?_
  simp [go_sem, hP]
  refine awp_cut (by rw [hN]; kernel_rfl) ?_
  simp [go_sem, hP]
  have hnew : POwn Tryz.prog E.row E.src 9 [intsL xs] 81 2 (· = [[intsL (xs.take 900), iv 0]]) := by rw [hr, hs]; exact new_pf xs hl
  refine callB_own hnew hP en_9 (args_same (by simp [go_sem, intsL])) (by simp [srefs_imm, go_sem, intsL]) ⟨_, rfl⟩ ?_
  rintro es rfl
  simp [go_sem, hP]
  refine awp_adopt 3 (ty := 81) (xs := xs.take 900) (at_ := 0) hr hs hW (by simp [go_sem]) (by simp [go_sem, intsL]) (by omega) (by simp; omega) (fun x hx' => hx x (List.mem_of_mem_take hx')) (by rw [hN]; kernel_rfl) ?_
  intro E' p hP' hr' hN' hW'
  rw [hP] at hP'
  rw [hN] at hN'
  clear hnew hP hr hs hW hN E
  rename Env => E
  rename E.P = _ => hP
  rename E.row = _ => hr
  rename E.N = _ => hN
  rename (∀ b, ¬ E.W b) => hW
  obtain ⟨src, hs⟩ : ∃ src, E.src = src := ⟨_, rfl⟩
  have up : ∀ {f : FuncId} {args : List AV} {Q : AV → Prop}, PFun Tryz.prog (some p) src f args Q → PFun Tryz.prog E.row E.src f args Q := fun h => hr ▸ hs ▸ h
  have saneB : ∀ {H : Heap} {C : AV → Heap → Prop} {b : Bx C}, C (bv true) H → CallB E 15 [] H C b := fun h => callB_pure sane26_pf hP en_15 (args_nil.2 trivial) .sc h
  have fp := funds_pf
  have op := ropen_pf fA (by simp [fA]) (by simp [fA])
  have e0 : openD fA = (sD0, 0) := Prod.ext rfl s_0
  rw [e0] at op
  have ia := imm_acc fA
  have i0 := imm_desk sD0
  simp only at op
  rw [cA] at fp op ia
  rw [cDn] at op i0
  simp -dsimp -implicitDefEqProofs [-getElem?_pos, go_sem, hP]
  refine callB_is (fp.lift _ _) hP en_25 (by simp) ia ?_
  simp -dsimp -implicitDefEqProofs [-getElem?_pos, go_sem, hP]
  refine callB_is (op.lift _ _) hP en_24 (by simpa using ia) (imm_pair i0 .sc) ?_
  simp -dsimp -implicitDefEqProofs [-getElem?_pos, go_sem, hP]
  refine callB_isQ (up (rangeQ_pf p src 1 100 (by omega) (by omega))) hP en_26 (by simp [go_sem]) (RQ_ex (by omega)) ?_
  rintro r ⟨n, rfl, hn⟩ _
  have ag := ag_at hn
  have ro := rorder_pf sD0 (agPay n) s_ok0.fit
  have e1 : orderD sD0 (agPay n) = (agD n, 0) := Prod.ext rfl ag.1
  have ip := imm_pay (agPay n)
  have i1 := imm_desk (agD n)
  rw [e1] at ro
  simp only at ro
  rw [cDn, cDn, cPy] at ro
  rw [cPy] at ip
  rw [cDn] at i1
  have ro : PFun Tryz.prog none none 27 [.agg [iv sD0.Account.Credit, subsL sD0.Account.Subs, entsL sD0.Account.Entries, paysL sD0.Queue.Waiting, numsL sD0.Queue.Known, batsL sD0.Queue.Batches, itemsL sD0.Items], .agg [iv 9, iv 2, iv n, iv 0, iv 1]] (· = .tup [.agg [iv (agD n).Account.Credit, subsL (agD n).Account.Subs, entsL (agD n).Account.Entries, paysL (agD n).Queue.Waiting, numsL (agD n).Queue.Known, batsL (agD n).Queue.Batches, itemsL (agD n).Items], iv 0]) := ro
  have ip : Imm (.agg [iv 9, iv 2, iv n, iv 0, iv 1]) := ip
  simp -dsimp -implicitDefEqProofs [-getElem?_pos, go_sem, hP]
  refine callB_is (ro.lift _ _) hP en_27 (by simpa using ⟨i0, ip⟩) (imm_pair i1 .sc) ?_
  simp -dsimp -implicitDefEqProofs [-getElem?_pos, go_sem, hP]
  obtain ⟨I, hI⟩ : ∃ I : Nat → St → Prop, I = fun m s => ∃ (k : Nat) (d : TDesk) (day : Int), (1 ≤ k ∧ k ≤ 6) ∧ m = 6 - k ∧ DOk d ∧ (k ≤ 5 → againC n (6 - k) k day d = true) ∧ (0 ≤ day ∧ day ≤ 100 * (k : Int)) ∧ s.t 4 = .ref 1 0 0 ∧ s.t 5 = iv 0 ∧ s.t 6 = iv n ∧ s.t 7 = iv day ∧ s.t 8 = iv k ∧ s.H[1]? = some (some (deskO d)) := ⟨_, rfl⟩
  refine aloop0 I (5) (by rw [hN]; rfl) ?_ ?_
  · rw [hI]
    exact ⟨1, agD n, 0, by omega, by omega, ag_ok hn, fun _ => ag.2, by omega, by simp -dsimp -implicitDefEqProofs [-getElem?_pos, go_sem], by simp -dsimp -implicitDefEqProofs [-getElem?_pos, go_sem], by simp -dsimp -implicitDefEqProofs [-getElem?_pos, go_sem], by simp -dsimp -implicitDefEqProofs [-getElem?_pos, go_sem], by simp -dsimp -implicitDefEqProofs [-getElem?_pos, go_sem], by simp -dsimp -implicitDefEqProofs [-getElem?_pos, go_sem]⟩
  clear e0 e1 op ro fp i0 i1 ia ip ag
  intro m s hs'
  rw [hI] at hs'
  obtain ⟨k, d, day, hk, hm, hd, hag, hday, t4, t5, t6, t7, t8, h1⟩ := hs'
  subst hm
  have lt1 := (List.getElem?_eq_some_iff.1 h1).1
  simp -dsimp -implicitDefEqProofs [-getElem?_pos, go_sem, hP, t8]
  refine condP (fun hh => ?_) (fun hh => ?_)
  rotate_left
  · simp -dsimp -implicitDefEqProofs [-getElem?_pos, go_sem, hP]
    refine saneB ?_
    simp -dsimp -implicitDefEqProofs [-getElem?_pos, go_sem, hP]
  have hk5 : k ≤ 5 := by
    simp at hh
    omega
  have hag := hag hk5
  rw [show 6 - k = (5 - k) + 1 by omega] at hag
  obtain ⟨x, b, y, z, e, g1, g2, g3, g4, g5, g6, g7, g8⟩ := againC_step hag
  have hdx : DOk x := by
    have := send_DOk (d := d) (day := busI day) (by rw [g1])
    rwa [g1] at this
  have hdy : DOk y := (returnD_ok g4).2.2
  have hdz : e = 0 → DOk z := fun h => (againD_ok (x := z) (h ▸ g6)).2.2
  have hb := busI_ge day
  have bp := business_pf day (by omega)
  have sd := rsend_pf d (busI day) hd.fit
  have rt := rreturn_pf x 9 (busI day + 1) hdx.fit
  have gn := ragain_pf y 9 (busI day + 1) hdy.fit
  have tt := total23_pf y.Account hdy.fit.s hdy.fit.e
  rw [g1] at sd
  rw [g4] at rt
  rw [g6] at gn
  rw [g5] at tt
  simp only at sd rt gn
  obtain ⟨bd, hbd⟩ : ∃ bd, bd = busI day := ⟨_, rfl⟩
  rw [← hbd] at hb bp sd rt gn g7
  have wb := wrap_in (bd + 1) (by omega)
  have wk := wrap_in ((k : Int) + 1) (by omega)
  have id' := imm_desk d
  have ix := imm_desk x
  have iy := imm_desk y
  have iz := imm_desk z
  have ib := imm_bat b
  have iya := imm_acc y.Account
  rw [cDn] at id' ix iy iz
  rw [cBt] at ib
  rw [cA] at tt iya
  rw [cDn, cDn, cBt] at sd
  rw [cDn, cDn] at rt gn
  obtain ⟨q, hq, hqa⟩ : ∃ q, b.Payments = [q] ∧ q.Amount = n := by
    match hb : b.Payments, g2 with
    | [], g2 => simp at g2
    | [q], g2 => exact ⟨q, rfl, by simpa using g2⟩
    | _ :: _ :: _, g2 => simp at g2
  obtain ⟨u, hu⟩ : ∃ u, u = s.H.length := ⟨_, rfl⟩
  simp -dsimp -implicitDefEqProofs [-getElem?_pos, go_sem, hP]
  obtain ⟨Inv, hInv⟩ : ∃ Inv : St → Prop, Inv = fun s' => ∃ (p q : Nat) (l : Heap), s'.t 4 = .ref 1 0 0 ∧ s'.t 5 = iv 0 ∧ s'.t 6 = iv n ∧ s'.t 7 = iv day ∧ s'.t 8 = iv k ∧ s'.t 9 = .ref p 0 0 ∧ s'.t 10 = .ref q 0 0 ∧ s'.t 11 = iv 0 ∧ s'.H = s.H ++ l ∧ s'.H[p]? = some (some (deskO x)) ∧ s'.H[q]? = some (some ⟨55, 3, [[iv b.Number, iv b.Day, paysL b.Payments]]⟩) := ⟨_, rfl⟩
  refine adraw_cut Inv ?_ ?_
  · refine adrawK (fun i => decide (i = 1)) [] [2, 3] 8 hP (by kernel_rfl) (by kernel_rfl) (by simp) ?_
    have aE : ∀ l l', Agree (fun i => decide (i = 1)) (s.H ++ l) (s.H ++ l') := fun l l' i hi => by
      have hi : i = 1 := by simpa using hi
      rw [List.getElem?_append_left (by omega), List.getElem?_append_left (by omega)]
    have aE0 : ∀ l, Agree (fun i => decide (i = 1)) s.H (s.H ++ l) := fun l => by
      have := aE [] l
      rwa [List.append_nil] at this
    simp -dsimp -implicitDefEqProofs [-getElem?_pos, go_sem, hP, List.take_succ_cons, List.take_zero, restr_get, t4, t7, h1, lt1]
    refine callQ_is (bp.lift _ _) hP en_17 (by simp [imm_sc]) .sc ?_
    simp -dsimp -implicitDefEqProofs [-getElem?_pos, go_sem, hP]
    refine callQ_is (sd.lift _ _) hP en_19 (by simpa [imm_sc] using id') (imm_trip ix ib .sc) ?_
    simp -dsimp -implicitDefEqProofs [-getElem?_pos, go_sem, hP]
    refine xany_two (i := 8) (j := 9) (by kernel_rfl) rfl rfl ?_ ?_
    · simp -dsimp -implicitDefEqProofs [-getElem?_pos, go_sem, hP]
      refine ⟨aE0 _, ?_⟩
      refine xany_one (i := 9) (by kernel_rfl) rfl ?_
      simp -dsimp -implicitDefEqProofs [-getElem?_pos, go_sem, hP]
      refine ⟨aE _ _, ?_⟩
      refine xany_one (i := 10) (by kernel_rfl) rfl ?_
      simp -dsimp -implicitDefEqProofs [-getElem?_pos, go_sem, hP]
      refine ⟨aE _ _, ?_⟩
      refine xany_one (i := 11) (by kernel_rfl) rfl ?_
      simp -dsimp -implicitDefEqProofs [-getElem?_pos, go_sem, hP]
      refine ⟨aE _ _, ?_⟩
      refine xany_one (i := 12) (by kernel_rfl) rfl ?_
      simp -dsimp -implicitDefEqProofs [-getElem?_pos, go_sem, hP]
      refine xany_nil (by kernel_rfl) ?_
      rw [hInv]
      exact ⟨s.H.length, s.H.length + 1, _, by simp -dsimp -implicitDefEqProofs [-getElem?_pos, go_sem, t4], by simp -dsimp -implicitDefEqProofs [-getElem?_pos, go_sem, t5], by simp -dsimp -implicitDefEqProofs [-getElem?_pos, go_sem, t6], by simp -dsimp -implicitDefEqProofs [-getElem?_pos, go_sem, t7], by simp -dsimp -implicitDefEqProofs [-getElem?_pos, go_sem, t8], by simp -dsimp -implicitDefEqProofs [-getElem?_pos, go_sem], by simp -dsimp -implicitDefEqProofs [-getElem?_pos, go_sem], by simp -dsimp -implicitDefEqProofs [-getElem?_pos, go_sem], rfl, by simp -dsimp -implicitDefEqProofs [-getElem?_pos, go_sem], by simp -dsimp -implicitDefEqProofs [-getElem?_pos, go_sem]⟩
    · simp -dsimp -implicitDefEqProofs [-getElem?_pos, go_sem, hP]
      refine ⟨aE0 _, ?_⟩
      refine xany_one (i := 8) (by kernel_rfl) rfl ?_
      simp -dsimp -implicitDefEqProofs [-getElem?_pos, go_sem, hP]
      refine ⟨aE _ _, ?_⟩
      refine xany_one (i := 10) (by kernel_rfl) rfl ?_
      simp -dsimp -implicitDefEqProofs [-getElem?_pos, go_sem, hP]
      refine ⟨aE _ _, ?_⟩
      refine xany_one (i := 11) (by kernel_rfl) rfl ?_
      simp -dsimp -implicitDefEqProofs [-getElem?_pos, go_sem, hP]
      refine ⟨aE _ _, ?_⟩
      refine xany_one (i := 12) (by kernel_rfl) rfl ?_
      simp -dsimp -implicitDefEqProofs [-getElem?_pos, go_sem, hP]
      refine xany_nil (by kernel_rfl) ?_
      rw [hInv]
      exact ⟨s.H.length + 1, s.H.length, _, by simp -dsimp -implicitDefEqProofs [-getElem?_pos, go_sem, t4], by simp -dsimp -implicitDefEqProofs [-getElem?_pos, go_sem, t5], by simp -dsimp -implicitDefEqProofs [-getElem?_pos, go_sem, t6], by simp -dsimp -implicitDefEqProofs [-getElem?_pos, go_sem, t7], by simp -dsimp -implicitDefEqProofs [-getElem?_pos, go_sem, t8], by simp -dsimp -implicitDefEqProofs [-getElem?_pos, go_sem], by simp -dsimp -implicitDefEqProofs [-getElem?_pos, go_sem], by simp -dsimp -implicitDefEqProofs [-getElem?_pos, go_sem], rfl, by simp -dsimp -implicitDefEqProofs [-getElem?_pos, go_sem], by simp -dsimp -implicitDefEqProofs [-getElem?_pos, go_sem]⟩
  rw [hInv]
  rintro s' ⟨p', q', l, t4, t5, t6, t7, t8, t9, t10, t11, hH, hp, hq'⟩
  have h1' : s'.H[1]? = some (some (deskO d)) := by rw [hH, List.getElem?_append_left lt1]; exact h1
  clear h1 lt1 hH hInv Inv
  have lt1 := (List.getElem?_eq_some_iff.1 h1').1
  have ltp := (List.getElem?_eq_some_iff.1 hp).1
  have ltq := (List.getElem?_eq_some_iff.1 hq').1
  simp -dsimp -implicitDefEqProofs [-getElem?_pos, go_sem, hP, t5, t11, t10, hq', ltq, hq, cPy, hqa, t6, g3, t8, t7]
  refine callB_is (bp.lift _ _) hP en_17 (by simp [imm_sc]) .sc ?_
  simp -dsimp -implicitDefEqProofs [-getElem?_pos, go_sem, hP, wb, t9, hp, ltp]
  refine callB_is (rt.lift _ _) hP en_28 (by simpa [imm_sc] using ix) (imm_pair iy .sc) ?_
  simp -dsimp -implicitDefEqProofs [-getElem?_pos, go_sem, hP]
  refine callB_is (gn.lift _ _) hP en_29 (by simpa [imm_sc] using iy) (imm_pair iz .sc) ?_
  by_cases c : k < 5
  · obtain ⟨ez, g9⟩ := g7 (by omega)
    subst ez
    have cd : decide ((k : Int) < 5) = true := decide_eq_true (by omega)
    have ci : (k : Int) < 5 := by omega
    simp -dsimp -implicitDefEqProofs [-getElem?_pos, go_sem, hP, cA]
    refine callB_is (tt.lift _ _) hP en_22 (by simpa using iya) .sc ?_
    simp -dsimp -implicitDefEqProofs [-getElem?_pos, go_sem, hP, t8, cd, ci, c, t4, h1', lt1, wk]
    refine ⟨6 - (k + 1), by omega, ?_⟩
    rw [hI]
    exact ⟨k + 1, z, bd + 1, by omega, rfl, hdz rfl, fun _ => by rw [show 6 - (k + 1) = 5 - k by omega, Int.natCast_add]; exact g9, by omega, by simp -dsimp -implicitDefEqProofs [-getElem?_pos, go_sem, t4], by simp -dsimp -implicitDefEqProofs [-getElem?_pos, go_sem, t5], by simp -dsimp -implicitDefEqProofs [-getElem?_pos, go_sem, t6], by simp -dsimp -implicitDefEqProofs [-getElem?_pos, go_sem], by simp -dsimp -implicitDefEqProofs [-getElem?_pos, go_sem], by simp -dsimp -implicitDefEqProofs [-getElem?_pos, go_sem, lt1]⟩
  · have e3 := g8 (by omega)
    subst e3
    have cd : decide ((k : Int) < 5) = false := decide_eq_false (by omega)
    have ci : ¬ (k : Int) < 5 := by omega
    have ci' : (5 : Int) ≤ k := by omega
    simp -dsimp -implicitDefEqProofs [-getElem?_pos, go_sem, hP, cA]
    refine callB_is (tt.lift _ _) hP en_22 (by simpa using iya) .sc ?_
    simp -dsimp -implicitDefEqProofs [-getElem?_pos, go_sem, hP, t8, cd, ci, ci', c, t4, lt1, wk]
    refine ⟨6 - (k + 1), by omega, ?_⟩
    rw [hI]
    exact ⟨k + 1, d, bd + 1, by omega, rfl, hd, fun h => by omega, by omega, by simp -dsimp -implicitDefEqProofs [-getElem?_pos, go_sem, t4], by simp -dsimp -implicitDefEqProofs [-getElem?_pos, go_sem, t5], by simp -dsimp -implicitDefEqProofs [-getElem?_pos, go_sem, t6], by simp -dsimp -implicitDefEqProofs [-getElem?_pos, go_sem], by simp -dsimp -implicitDefEqProofs [-getElem?_pos, go_sem], by simp -dsimp -implicitDefEqProofs [-getElem?_pos, go_sem, h1', lt1]⟩
end Go.Proofs.YtmpncdlhmknkoaaGreat
