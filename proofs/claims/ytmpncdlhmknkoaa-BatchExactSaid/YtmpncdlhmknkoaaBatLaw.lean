/- Queues: what their functions keep, no program in sight. -/
import Derived.Test.YtmpncdlhmknkoaaBat1
set_option linter.unusedSimpArgs false
set_option linter.unusedVariables false
namespace Go.Proofs.Ytmpncdlhmknkoaa
open Go.PA
open Go.RowKit

/-! ### Insertion -/
theorem ins_split {α : Type} (lt : α → α → Bool) (l : List α) (a : α) : ∃ A B, l = A ++ B ∧ ins lt l a = A ++ a :: B ∧ (∀ x, x ∈ A → lt x a = true) ∧ ∀ x, B.head? = some x → lt x a = false := by
  refine ⟨l.takeWhile fun x => lt x a, l.dropWhile fun x => lt x a, by rw [List.takeWhile_append_dropWhile], rfl, fun x hx => ?_, fun x hx => ?_⟩
  · exact List.all_eq_true.1 (List.all_takeWhile (p := fun x => lt x a) (l := l)) x hx
  · have := List.head?_dropWhile_not (p := fun x => lt x a) (l := l)
    rw [hx] at this
    simpa using this
theorem ins_perm {α : Type} (lt : α → α → Bool) (l : List α) (a : α) : (ins lt l a).Perm (a :: l) := by
  obtain ⟨A, B, h1, h2, _⟩ := ins_split lt l a
  rw [h2, h1]
  exact List.perm_middle
theorem ins_len {α : Type} (lt : α → α → Bool) (l : List α) (a : α) : (ins lt l a).length = l.length + 1 := by
  rw [(ins_perm lt l a).length_eq]; rfl
theorem mem_ins {α : Type} {lt : α → α → Bool} {l : List α} {a x : α} : x ∈ ins lt l a ↔ x = a ∨ x ∈ l := by
  rw [(ins_perm lt l a).mem_iff, List.mem_cons]
theorem ins_sorted {α : Type} {lt : α → α → Bool} {R : α → α → Prop} (hR : ∀ x y, lt x y = true ↔ R x y) (tr : ∀ {x y z}, R x y → R y z → R x z) {l : List α} {a : α} (hl : l.Pairwise R) (tot : ∀ x, x ∈ l → R x a ∨ R a x) : (ins lt l a).Pairwise R := by
  obtain ⟨A, B, rfl, h2, h3, h4⟩ := ins_split lt l a
  rw [h2]
  rw [List.pairwise_append] at hl ⊢
  obtain ⟨p1, p2, p3⟩ := hl
  have ha : ∀ x, x ∈ B → R a x := by
    cases B with
    | nil => simp
    | cons b B =>
      have hb : R a b := (tot b (by simp)).resolve_left fun h => by
        have := h4 b rfl
        rw [(hR _ _).2 h] at this
        cases this
      intro x hx
      rcases List.mem_cons.1 hx with rfl | hx
      · exact hb
      · exact tr hb (List.rel_of_pairwise_cons p2 hx)
  refine ⟨p1, List.pairwise_cons.2 ⟨ha, p2⟩, fun x hx y hy => ?_⟩
  rcases List.mem_cons.1 hy with rfl | hy
  · exact (hR _ _).1 (h3 x hx)
  · exact p3 x hx y hy
theorem sorted_uniq {α : Type} {R : α → α → Prop} (ir : ∀ x y, R x y → ¬ R y x) {l m : List α} (hl : l.Pairwise R) (hm : m.Pairwise R) (hp : l.Perm m) : l = m :=
  List.Perm.eq_of_pairwise (fun a b _ _ h1 h2 => absurd h2 (ir a b h1)) hl hm hp
theorem ins_comm {α : Type} {lt : α → α → Bool} {R : α → α → Prop} (ir : ∀ x y, R x y → ¬ R y x) {l : List α} {a b : α} (h1 : (ins lt (ins lt l a) b).Pairwise R) (h2 : (ins lt (ins lt l b) a).Pairwise R) : ins lt (ins lt l a) b = ins lt (ins lt l b) a :=
  sorted_uniq ir h1 h2 (((ins_perm _ _ _).trans ((ins_perm _ _ _).cons _)).trans ((List.Perm.swap _ _ _).trans (((ins_perm _ _ _).trans ((ins_perm _ _ _).cons _)).symm)))
theorem Bef.asymm {a b : TPayment} (h : Bef a b) : ¬ Bef b a := fun k => Bef.irrefl (h.trans k)
theorem befB_bef (a b : TPayment) : befB a b = true ↔ Bef a b := befB_iff
theorem ltB_lt (a b : Int) : ltB a b = true ↔ a < b := by simp [ltB]

/-! ### Where one waits -/
theorem waitQ_none {q : TQueue} {w : Int} : waitQ q w < 0 ↔ ∀ p, p ∈ q.Waiting → p.Warrant ≠ w := by
  unfold waitQ
  rcases idxI_spec (fun p : TPayment => decide (p.Warrant = w)) q.Waiting with ⟨h1, h2⟩ | ⟨i, a, h1, h2, h3, h4⟩
  · rw [h1]
    exact ⟨fun _ p hp => by simpa using h2 p hp, fun _ => by omega⟩
  · rw [h3]
    exact ⟨fun h => by omega, fun h => absurd (by simpa using h2) (h a (List.mem_of_getElem? h1))⟩
theorem waitQ_some {q : TQueue} {w : Int} (h : ¬ waitQ q w < 0) : ∃ (i : Nat) (p : TPayment), waitQ q w = i ∧ q.Waiting[i]? = some p ∧ p.Warrant = w ∧ i < q.Waiting.length := by
  unfold waitQ at *
  rcases idxI_spec (fun p : TPayment => decide (p.Warrant = w)) q.Waiting with ⟨h1, h2⟩ | ⟨i, a, h1, h2, h3, h4⟩
  · omega
  · exact ⟨i, a, h3, h1, by simpa using h2, (List.getElem?_eq_some_iff.1 h1).1⟩
theorem waitQ_mid {A B : List TPayment} {p : TPayment} {K : List Int} {b : List TBatch} (h : ∀ x, x ∈ A → x.Warrant ≠ p.Warrant) : waitQ ⟨A ++ p :: B, K, b⟩ p.Warrant = A.length := by
  unfold waitQ
  rcases idxI_spec (fun x : TPayment => decide (x.Warrant = p.Warrant)) (A ++ p :: B) with ⟨h1, h2⟩ | ⟨i, a, h1, h2, h3, h4⟩
  · have := h2 p (by simp)
    simp at this
  · rw [h3]
    have h2 : a.Warrant = p.Warrant := by simpa using h2
    rcases Nat.lt_trichotomy i A.length with hi | hi | hi
    · rw [List.getElem?_append_left hi] at h1
      exact absurd h2 (h a (List.mem_of_getElem? h1))
    · rw [hi]
    · have := h4 A.length p hi (by rw [List.getElem?_append_right (Nat.le_refl _)]; simp)
      simp at this

/-! ### What is kept -/
theorem AscOk.mono {K K' : List Int} {l : List TPayment} (h : AscOk K l) (hk : ∀ w, w ∈ K → w ∈ K') : AscOk K' l := ⟨h.pay, h.ord, fun p hp => hk _ (h.kn p hp), h.nd⟩
theorem AscOk.sub {K : List Int} {l l' : List TPayment} (h : AscOk K l) (hs : l'.Sublist l) : AscOk K l' := ⟨fun p hp => h.pay p (hs.subset hp), h.ord.sublist hs, fun p hp => h.kn p (hs.subset hp), h.nd.sublist (hs.map _)⟩
theorem batB_mono {K K' : List Int} (hk : ∀ w, w ∈ K → w ∈ K') {i d : Int} {b : TBatch} (h : batB K i d b = true) : batB K' i d b = true := by
  unfold batB at *
  simp only [Bool.and_eq_true, ascB_iff] at h ⊢
  exact ⟨h.1, h.2.1, h.2.2.1, h.2.2.2.1, h.2.2.2.2.mono hk⟩
theorem batsFrom_mono {K K' : List Int} (hk : ∀ w, w ∈ K → w ∈ K') : ∀ {l : List TBatch} {i d : Int}, batsFrom K i d l = true → batsFrom K' i d l = true
  | [], _, _, _ => rfl
  | b :: l, i, d, h => by
    rw [batsFrom, Bool.and_eq_true] at h ⊢
    exact ⟨batB_mono hk h.1, batsFrom_mono hk h.2⟩
def lastFrom (d : Int) (l : List TBatch) : Int := match l.getLast? with
  | none => d
  | some b => b.Day
theorem lastQ_eq (q : TQueue) : lastQ q = lastFrom 0 q.Batches := rfl
theorem lastFrom_cons (d : Int) (b : TBatch) (l : List TBatch) : lastFrom d (b :: l) = lastFrom b.Day l := by
  unfold lastFrom
  cases l with
  | nil => rfl
  | cons c l => rw [List.getLast?_cons_cons]; cases h : (c :: l).getLast? with
    | none => simp at h
    | some x => rfl
theorem batsFrom_snoc {K : List Int} {b : TBatch} : ∀ {l : List TBatch} {i d : Int}, batsFrom K i d l = true → batB K (i + l.length) (lastFrom d l) b = true → batsFrom K i d (l ++ [b]) = true
  | [], i, d, _, h => by
    have : batB K i d b = true := by simpa [lastFrom] using h
    simp [batsFrom, this]
  | c :: l, i, d, h, k => by
    rw [batsFrom, Bool.and_eq_true] at h
    rw [List.cons_append, batsFrom, Bool.and_eq_true]
    rw [lastFrom_cons, List.length_cons] at k
    exact ⟨h.1, batsFrom_snoc h.2 (by rw [show i + 1 + (l.length : Int) = i + ((l.length + 1 : Nat) : Int) by omega]; exact k)⟩

theorem zeroQ_ok : QOk zeroQ := checkQ_iff.1 (by decide)
theorem QOk.nod {q : TQueue} (h : QOk q) {w : Int} (hw : w ∉ q.Known) : ∀ p, p ∈ q.Waiting → p.Warrant ≠ w := fun p hp e => hw (e ▸ h.asc.kn p hp)
theorem AscOk.ins {K : List Int} {l : List TPayment} {p : TPayment} (h : AscOk K l) (hp : PayOk p) (hk : p.Warrant ∈ K) (hn : ∀ x, x ∈ l → x.Warrant ≠ p.Warrant) : AscOk K (ins befB l p) := by
  refine ⟨fun x hx => ?_, ins_sorted befB_bef Bef.trans h.ord fun x hx => Bef.tot (hn x hx), fun x hx => ?_, ?_⟩
  · rcases mem_ins.1 hx with rfl | hx
    · exact hp
    · exact h.pay x hx
  · rcases mem_ins.1 hx with rfl | hx
    · exact hk
    · exact h.kn x hx
  · refine (((ins_perm befB l p).map (·.Warrant)).nodup_iff).2 ?_
    rw [List.map_cons, List.nodup_cons]
    refine ⟨fun hm => ?_, h.nd⟩
    obtain ⟨x, hx, e⟩ := List.mem_map.1 hm
    exact hn x hx e
theorem addQ_ok {q x : TQueue} {p : TPayment} (h : addQ q p = (x, 0)) : QOk q ∧ PayOk p ∧ p.Warrant ∉ q.Known ∧ q.Waiting.length < 100 ∧ q.Known.length < 200 ∧ x = ⟨ins befB q.Waiting p, ins ltB q.Known p.Warrant, q.Batches⟩ ∧ QOk x := by
  unfold addQ at h
  split at h
  · rename_i c1
    split at h
    · rename_i c2
      split at h
      · simp at h
      · rename_i c3
        split at h
        · simp at h
        · rename_i c4
          have hq := checkQ_iff.1 c1
          have hp := (payB_iff p).1 c2
          have := hq.lw
          have := hq.lk
          have hm : ∀ w, w ∈ q.Known → w ∈ ins ltB q.Known p.Warrant := fun w hw => mem_ins.2 (.inr hw)
          simp only [Prod.mk.injEq, and_true] at h
          refine ⟨hq, hp, c3, by omega, by omega, h.symm, h ▸ ⟨?_, ?_, hq.lb, ?_, ?_, ?_, ?_⟩⟩
          · simp only [ins_len]; omega
          · simp only [ins_len]; omega
          · intro w hw
            rcases mem_ins.1 hw with rfl | hw
            · exact hp.warrant
            · exact hq.kn w hw
          · refine ins_sorted ltB_lt Int.lt_trans hq.ks fun x hx => ?_
            have : x ≠ p.Warrant := fun e => c3 (e ▸ hx)
            omega
          · exact (hq.asc.mono hm).ins hp (mem_ins.2 (.inl rfl)) (hq.nod c3)
          · exact batsFrom_mono hm hq.bats
    · simp at h
  · rename_i c1
    simp only [Prod.mk.injEq] at h
    exact absurd h.2 c1
theorem addQ_run {q : TQueue} {p : TPayment} (hq : QOk q) (hp : PayOk p) (hk : p.Warrant ∉ q.Known) (h1 : q.Waiting.length < 100) (h2 : q.Known.length < 200) : addQ q p = (⟨ins befB q.Waiting p, ins ltB q.Known p.Warrant, q.Batches⟩, 0) := by
  unfold addQ
  rw [if_pos (checkQ_iff.2 hq), if_pos ((payB_iff p).2 hp), if_neg hk, if_neg (by omega)]
theorem addQ_known {q : TQueue} {p : TPayment} (hq : QOk q) (hp : PayOk p) (hk : p.Warrant ∈ q.Known) : addQ q p = (zeroQ, 65) := by
  unfold addQ
  rw [if_pos (checkQ_iff.2 hq), if_pos ((payB_iff p).2 hp), if_pos hk]
theorem againQ_ok {q x : TQueue} {p : TPayment} (h : againQ q p = (x, 0)) : QOk q ∧ PayOk p ∧ p.Warrant ∈ q.Known ∧ (∀ y, y ∈ q.Waiting → y.Warrant ≠ p.Warrant) ∧ q.Waiting.length < 100 ∧ x = ⟨ins befB q.Waiting p, q.Known, q.Batches⟩ ∧ QOk x := by
  unfold againQ at h
  split at h
  · rename_i c1
    split at h
    · rename_i c2
      split at h
      · rename_i c3
        split at h
        · simp at h
        · rename_i c4
          split at h
          · simp at h
          · rename_i c5
            have hq := checkQ_iff.1 c1
            have hp := (payB_iff p).1 c2
            have := hq.lw
            have hn := waitQ_none.1 (show waitQ q p.Warrant < 0 by omega)
            simp only [Prod.mk.injEq, and_true] at h
            refine ⟨hq, hp, c3, hn, by omega, h.symm, h ▸ ⟨?_, hq.lk, hq.lb, hq.kn, hq.ks, ?_, hq.bats⟩⟩
            · simp only [ins_len]; omega
            · exact hq.asc.ins hp c3 hn
      · simp at h
    · simp at h
  · rename_i c1
    simp only [Prod.mk.injEq] at h
    exact absurd h.2 c1
theorem dropQ_ok {q x : TQueue} {w : Int} (h : dropQ q w = (x, 0)) : QOk q ∧ (∃ p, p ∈ q.Waiting ∧ p.Warrant = w) ∧ x = ⟨q.Waiting.eraseIdx (waitQ q w).toNat, q.Known, q.Batches⟩ ∧ QOk x := by
  unfold dropQ at h
  split at h
  · rename_i c1
    split at h
    · simp at h
    · rename_i c2
      have hq := checkQ_iff.1 c1
      obtain ⟨i, p, h1, h2, h3, h4⟩ := waitQ_some c2
      simp only [Prod.mk.injEq, and_true] at h
      refine ⟨hq, ⟨p, List.mem_of_getElem? h2, h3⟩, h.symm, h ▸ ⟨?_, hq.lk, hq.lb, hq.kn, hq.ks, hq.asc.sub (List.eraseIdx_sublist _ _), hq.bats⟩⟩
      have := (List.eraseIdx_sublist q.Waiting (waitQ q w).toNat).length_le
      have := hq.lw
      simp only
      omega
  · rename_i c1
    simp only [Prod.mk.injEq] at h
    exact absurd h.2 c1

/-! ### What is taken -/
theorem nodup_sub : ∀ (M ws : List Int), M.Nodup → (∀ x, x ∈ M → x ∈ ws) → M.length ≤ ws.length ∧ (M.length = ws.length → ws.Nodup ∧ ∀ x, x ∈ ws → x ∈ M)
  | [], ws, _, _ => ⟨by simp, fun h => by
      have : ws = [] := List.eq_nil_of_length_eq_zero h.symm
      subst this
      simp⟩
  | a :: M, ws, hn, hs => by
    have ha := hs a (by simp)
    have hp := List.perm_cons_erase ha
    rw [List.nodup_cons] at hn
    have hl : ws.length = (ws.erase a).length + 1 := hp.length_eq
    obtain ⟨i1, i2⟩ := nodup_sub M (ws.erase a) hn.2 fun x hx => (List.mem_erase_of_ne (fun e => hn.1 (by rw [← e]; exact hx))).2 (hs x (by simp [hx]))
    refine ⟨by simp only [List.length_cons]; omega, fun h => ?_⟩
    simp only [List.length_cons] at h
    obtain ⟨j1, j2⟩ := i2 (by omega)
    refine ⟨hp.nodup_iff.2 (List.nodup_cons.2 ⟨fun hm => hn.1 (j2 a hm), j1⟩), fun x hx => ?_⟩
    rcases List.mem_cons.1 (hp.mem_iff.1 hx) with rfl | hx
    · simp
    · exact List.mem_cons_of_mem _ (j2 x hx)
theorem uniqW {l : List TPayment} (h : (l.map (·.Warrant)).Nodup) {p p' : TPayment} (hp : p ∈ l) (hp' : p' ∈ l) (e : p.Warrant = p'.Warrant) : p = p' := by
  induction l with
  | nil => cases hp
  | cons a l ih =>
    rw [List.map_cons, List.nodup_cons] at h
    rcases List.mem_cons.1 hp with e1 | hp
    · rcases List.mem_cons.1 hp' with e2 | hp'
      · rw [e1, e2]
      · exact absurd (List.mem_map.2 ⟨p', hp', by rw [← e, e1]⟩) h.1
    · rcases List.mem_cons.1 hp' with e2 | hp'
      · exact absurd (List.mem_map.2 ⟨p, hp, by rw [e, e2]⟩) h.1
      · exact ih h.2 hp hp'
theorem dueB_iff {q : TQueue} {day : Int} {ws : List Int} : dueB q day ws = true ↔ ws.Nodup ∧ ∀ w, w ∈ ws → ∃ p, p ∈ q.Waiting ∧ p.Warrant = w ∧ p.Due ≤ day := by
  simp [dueB]
theorem dueB_filter {q : TQueue} {day : Int} {ws : List Int} (hn : (q.Waiting.map (·.Warrant)).Nodup) (h : dueB q day ws = true) : (q.Waiting.filter fun p => decide (p.Due ≤ day)).filter (takenB ws) = q.Waiting.filter (takenB ws) := by
  obtain ⟨_, h⟩ := dueB_iff.1 h
  rw [List.filter_filter]
  refine List.filter_congr fun p hp => ?_
  cases ht : takenB ws p
  · rfl
  · obtain ⟨p', h1, h2, h3⟩ := h p.Warrant (by simpa [takenB] using ht)
    have := uniqW hn h1 hp h2
    subst this
    simp [h3]
theorem dueB_len {q : TQueue} {day : Int} {ws : List Int} (hn : (q.Waiting.map (·.Warrant)).Nodup) : ((q.Waiting.filter fun p => decide (p.Due ≤ day)).filter (takenB ws)).length = ws.length ↔ dueB q day ws = true := by
  have hM := hn.sublist (((List.filter_sublist (p := takenB ws)).trans (List.filter_sublist (l := q.Waiting) (p := fun p => decide (p.Due ≤ day)))).map (·.Warrant))
  have hs : ∀ x, x ∈ ((q.Waiting.filter fun p => decide (p.Due ≤ day)).filter (takenB ws)).map (·.Warrant) → x ∈ ws := fun x hx => by
    obtain ⟨p, hp, rfl⟩ := List.mem_map.1 hx
    simpa [takenB] using (List.mem_filter.1 hp).2
  obtain ⟨h1, h2⟩ := nodup_sub _ ws hM hs
  rw [List.length_map] at h1 h2
  rw [dueB_iff]
  constructor
  · intro h
    obtain ⟨h3, h4⟩ := h2 h
    refine ⟨h3, fun w hw => ?_⟩
    obtain ⟨p, hp, e⟩ := List.mem_map.1 (h4 w hw)
    obtain ⟨hp, _⟩ := List.mem_filter.1 hp
    obtain ⟨hp, hd⟩ := List.mem_filter.1 hp
    exact ⟨p, hp, e, by simpa using hd⟩
  · rintro ⟨h3, h4⟩
    have := h3.length_le_of_subset (l₂ := ((q.Waiting.filter fun p => decide (p.Due ≤ day)).filter (takenB ws)).map (·.Warrant)) fun w hw => by
      obtain ⟨p, hp, e, hd⟩ := h4 w hw
      exact List.mem_map.2 ⟨p, List.mem_filter.2 ⟨List.mem_filter.2 ⟨hp, by simpa using hd⟩, by simpa [takenB, e] using hw⟩, e⟩
    rw [List.length_map] at this
    omega
theorem taken_len {q : TQueue} {day : Int} {ws : List Int} (hn : (q.Waiting.map (·.Warrant)).Nodup) (h : dueB q day ws = true) : (q.Waiting.filter (takenB ws)).length = ws.length := by
  rw [← dueB_filter hn h]
  exact (dueB_len hn).2 h
theorem takeQ_ok {q x : TQueue} {b : TBatch} {day : Int} {ws : List Int} (h : takeQ q day ws = (x, b, 0)) : QOk q ∧ busB day = true ∧ lastQ q ≤ day ∧ 1 ≤ ws.length ∧ ws.length ≤ 10 ∧ dueB q day ws = true ∧ x = ⟨q.Waiting.filter (fun p => !takenB ws p), q.Known, q.Batches ++ [takeB q day ws]⟩ ∧ b = takeB q day ws ∧ QOk x := by
  unfold takeQ at h
  split at h
  · rename_i c1
    split at h
    · rename_i c2
      split at h
      · simp at h
      · rename_i c3
        split at h
        · simp at h
        · rename_i c4
          split at h
          · simp at h
          · rename_i c5
            split at h
            · rename_i c6
              have hq := checkQ_iff.1 c1
              simp only [Prod.mk.injEq, and_true] at h
              refine ⟨hq, c2, by omega, by omega, by omega, c6, h.1.symm, h.2.symm, h.1 ▸ ⟨?_, hq.lk, ?_, hq.kn, hq.ks, hq.asc.sub List.filter_sublist, ?_⟩⟩
              · have := List.length_filter_le (fun p => !takenB ws p) q.Waiting
                have := hq.lw
                simp only
                omega
              · simp only [List.length_append, List.length_cons, List.length_nil]
                omega
              · refine batsFrom_snoc hq.bats ?_
                have := taken_len hq.asc.nd c6
                simp only [batB, takeB, Bool.and_eq_true, ascB_iff, amg_iff]
                refine ⟨decide_eq_true (by omega), decide_eq_true ?_, c2, by omega, hq.asc.sub List.filter_sublist⟩
                have : lastFrom 0 q.Batches = lastQ q := rfl
                omega
            · simp at h
    · simp at h
  · rename_i c1
    simp only [Prod.mk.injEq] at h
    exact absurd h.2.2 c1
theorem wrap_addL (a b : Int) : IntKind.i64.wrap (IntKind.i64.wrap a + b) = IntKind.i64.wrap (a + b) := by
  rw [IntKind.wrap_i64, IntKind.wrap_i64, IntKind.wrap_i64]
  omega
end Go.Proofs.Ytmpncdlhmknkoaa
