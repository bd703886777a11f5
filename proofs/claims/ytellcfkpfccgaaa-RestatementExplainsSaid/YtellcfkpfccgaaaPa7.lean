/- PA, part 7: make, composite values, append. -/
import Derived.Test.YtellcfkpfccgaaaPa6
namespace Go.PA
open Go.RowKit

def bytesOf (P : Program) (t : TypeId) : Nat := ((P.info? t).map (·.bytes)).getD 0

/-- The elements of a slice, as it is read. -/
def srcEs (P : Program) (e : TypeId) (H : Heap) : AV → Option (List (List AV))
  | .nil => some []
  | .sc (.slice _ 0 _) => some []
  | .list k es => if k = szOf P e then some es else none
  | .sref id lo n => match H[id]? with
    | some (some o) => if o.k = szOf P e then some ((o.es.drop lo).take n) else none
    | _ => none
  | _ => none

section
variable {E : Env} {w : World} {ρ : Places} {H : Heap} {ok : Nat → Prop}

theorem src_sound (g : Good E w ρ H ok) {P : Program} {e : TypeId} {v : Value} {x : AV} {es : List (List AV)} (r : Rep w ρ H ok v x) (h : srcEs P e H x = some es) :
    ∃ (A : Option Addr) (c : Nat) (f : Nat → Nat → Value), v = .slice A es.length c ∧ (∀ (e' : List AV), e' ∈ es → e'.length = szOf P e) ∧
      (es ≠ [] → ∃ ad, A = some ad ∧ ∀ (i : Nat) (e' : List AV) (j : Nat) (a : AV), es[i]? = some e' → e'[j]? = some a → w.cell? (ad.add (i * szOf P e + j)) = some (f i j) ∧ (f i j).oneCell' = true ∧ Rep w ρ H ok (f i j) a) := by
  cases r <;> simp only [srcEs, reduceCtorEq] at h
  case nil => simp only [Option.some.injEq] at h; subst h; exact ⟨none, 0, fun _ _ => undef, rfl, by simp, by simp⟩
  case sc =>
    split at h
    · rename_i heq; cases heq
    · rename_i a c heq
      simp only [AV.sc.injEq] at heq
      subst heq
      simp only [Option.some.injEq] at h
      subst h
      exact ⟨a, c, fun _ _ => undef, rfl, by simp, by simp⟩
    · rename_i heq; cases heq
    · rename_i heq; cases heq
    · cases h
  case listNil A c k =>
    split at h
    · simp only [Option.some.injEq] at h; subst h; exact ⟨A, c, fun _ _ => undef, rfl, by simp, by simp⟩
    · cases h
  case list ad n c k es' f hn hnc hok hk hc h1 hr =>
    split at h
    · rename_i hke
      simp only [Option.some.injEq] at h
      subst h; subst hn; subst hke
      exact ⟨some ad, c, f, rfl, hk, fun _ => ⟨ad, rfl, fun i e' j a hi hj => ⟨hc i e' j a hi hj, h1 i e' j a hi hj, hr i e' j a hi hj⟩⟩⟩
    · cases h
  case sref id lo n c o b cap ho hρ hn hc hnc hcap =>
    simp only [ho] at h
    split at h
    · rename_i hke
      simp only [Option.some.injEq] at h
      subst h
      have hl : ((o.es.drop lo).take n).length = n := by simp; omega
      have hobj := g.obj id o ho
      rw [hρ] at hobj
      obtain ⟨cur, hb, hs, hle, hm, hcell⟩ := hobj.cells hcap
      refine ⟨some ⟨b, lo * o.k, none⟩, c, fun i j => (cur[(lo + i) * o.k + j]?).getD undef, by rw [hl], fun e' he' => ?_, fun _ => ⟨_, rfl, fun i e' j a hi hj => ?_⟩⟩
      · rw [← hke]; exact g.len id o ho e' (List.mem_of_mem_drop (List.mem_of_mem_take he'))
      · rw [List.getElem?_take] at hi
        split at hi
        · rw [List.getElem?_drop] at hi
          obtain ⟨c', c1, c2, c3⟩ := hcell _ _ _ _ hi hj
          have e1 : (cur[(lo + i) * o.k + j]?).getD undef = c' := by rw [c1]; rfl
          rw [add_mk, cell_of_row w b _ cur o.ty (0, 0) hb, ← hke, show lo * o.k + (i * o.k + j) = (lo + i) * o.k + j from by rw [Nat.add_mul, Nat.add_assoc]]
          simp only [e1]
          exact ⟨c1, c2, c3⟩
        · cases hi
    · cases h
  case srefNil id o ho hρ =>
    simp only [ho] at h
    split at h
    · simp only [Option.some.injEq, List.drop_zero, List.take_zero] at h
      subst h
      exact ⟨none, 0, fun _ _ => undef, rfl, by simp, by simp⟩
    · cases h
  case srefDead id lo n hd h1 => simp [hd] at h

theorem run_append_src_none {P : Program} (base : Nat) (t ty e : TypeId) (i : TypeInfo) (ht : P.underlying t = some (.slice e)) (hi : P.info? e = some i)
    (v : Value) (n k : Nat) (xs : List Value) (hown : w.ownsRow base e k v n xs) (c : Nat) : (Builtin.append_ #[t, t] ty #[v, .slice none 0 c]).run P w = .ok v w := by
  rcases hown.2 with ⟨rfl, rfl⟩ | ⟨b, cap, cur, rfl, _, _, hnc, _⟩
  · simp [Builtin.append_, run_underlying ht, sizeOf, typeInfo, hi, Builtin.lenOf, Builtin.firstCells]
  · simp [Builtin.append_, run_underlying ht, sizeOf, typeInfo, hi, Builtin.lenOf, Builtin.firstCells, hnc, storeCells]

theorem divmod {k i j : Nat} (h : j < k) : (i * k + j) / k = i ∧ (i * k + j) % k = j := by
  constructor
  · rw [Nat.mul_comm, Nat.mul_add_div (by omega), Nat.div_eq_of_lt h]; simp
  · rw [Nat.mul_comm, Nat.mul_add_mod, Nat.mod_eq_of_lt h]

/-- What an append onto an owned row comes to. -/
theorem run_append_any {P : Program} {t ty e : TypeId} {i : TypeInfo} {z : Value} (ht : P.underlying t = some (.slice e)) (hi : P.info? e = some i) (hz : i.zero = some z) (hzs : z.cells.size = szOf P e) (hsz : 0 < szOf P e)
    {v : Value} {n : Nat} {xs : List Value} (hown : w.ownsRow 0 e (szOf P e) v n xs) {A : Option Addr} {m c : Nat} {f : Nat → Nat → Value}
    (hsrc : 0 < m → ∃ ad, A = some ad ∧ ∀ i j, i < m → j < szOf P e → w.cell? (ad.add (i * szOf P e + j)) = some (f i j) ∧ (f i j).oneCell' = true)
    (h63 : n + m ≤ maxLen) (hb : (n + m) * i.bytes ≤ 140737488355328) :
    ∃ v' w' ys, (Builtin.append_ #[t, t] ty #[v, .slice A m c]).run P w = .ok v' w' ∧ w'.ownsRow 0 e (szOf P e) v' (n + m) (xs ++ ys) ∧ w.grownBy w' v.ownBlock ∧ (v'.ownBlock = v.ownBlock ∨ v'.ownBlock = some w.heap.size) ∧
      ys.length = m * szOf P e ∧ ∀ i j, i < m → j < szOf P e → ys[i * szOf P e + j]? = some (f i j) := by
  have his : i.size = szOf P e := by simp [szOf, hi]
  rcases Nat.eq_zero_or_pos m with hm | hm
  · subst hm
    rcases A with _ | ad
    · exact ⟨v, w, [], run_append_src_none 0 t ty e i ht hi v n _ xs hown c, by simpa using hown, World.grownBy.refl w _, .inl rfl, by simp, by simp⟩
    · obtain ⟨v', w', h1, h2, h3, _, h5⟩ := run_append_own_at (P := P) w 0 t ty e i z (szOf P e) i.bytes ht hi hz his rfl hzs hsz v n xs hown ad 0 c [] (by simp) (by simp) (by simp) h63 hb (Nat.zero_le _)
      exact ⟨v', w', [], h1, h2, h3, h5, by simp, by simp⟩
  · obtain ⟨ad, rfl, hc⟩ := hsrc hm
    have hdm : ∀ p, p < m * szOf P e → p / szOf P e < m ∧ p % szOf P e < szOf P e := fun p hp => ⟨Nat.div_lt_of_lt_mul (by rw [Nat.mul_comm]; exact hp), Nat.mod_lt _ hsz⟩
    have heq : ∀ p, p / szOf P e * szOf P e + p % szOf P e = p := fun p => Nat.div_add_mod' p _
    obtain ⟨v', w', h1, h2, h3, _, h5⟩ := run_append_own_at (P := P) w 0 t ty e i z (szOf P e) i.bytes ht hi hz his rfl hzs hsz v n xs hown ad m c ((List.range (m * szOf P e)).map fun p => f (p / szOf P e) (p % szOf P e)) (by simp)
      (fun p u hp => by
        rw [List.getElem?_map, Option.map_eq_some_iff] at hp
        obtain ⟨q, hq, rfl⟩ := hp
        obtain ⟨hlt, rfl⟩ := List.getElem?_eq_some_iff.1 hq
        simp only [List.length_range, List.getElem_range] at hlt ⊢
        have := (hc _ _ (hdm p hlt).1 (hdm p hlt).2).1
        rwa [heq] at this)
      (fun u hu => by
        obtain ⟨p, hp, rfl⟩ := List.mem_map.1 hu
        have hlt := List.mem_range.1 hp
        exact (hc _ _ (hdm p hlt).1 (hdm p hlt).2).2) h63 hb (Nat.zero_le _)
    refine ⟨v', w', _, h1, h2, h3, h5, by simp, fun i j hi hj => ?_⟩
    have hlt : i * szOf P e + j < m * szOf P e := by
      have : i * szOf P e + szOf P e ≤ m * szOf P e := by rw [← Nat.succ_mul]; exact Nat.mul_le_mul_right _ hi
      omega
    simp [hlt, (divmod (i := i) hj).1, (divmod (i := i) hj).2]

def aappend (P : Program) (t : TypeId) (H : Heap) (s x : AV) : Option (AV × Heap × Nat × Nat) :=
  match elemOf P t with
  | none => none
  | some e => match zeros P e, srcEs P e H x with
    | some _, some news => if szOf P e = 0 then none else match s with
      | .nil => some (.sref H.length 0 news.length, H ++ [some ⟨e, szOf P e, news⟩], news.length, bytesOf P e)
      | .sref id 0 n => match H[id]? with
        | some (some o) => if o.ty = e ∧ o.k = szOf P e ∧ n = o.es.length then some (.sref H.length 0 (n + news.length), H.set id none ++ [some ⟨e, szOf P e, o.es ++ news⟩], n + news.length, bytesOf P e) else none
        | _ => none
      | _ => none
    | _, _ => none

theorem ownBlock_slice {b n c : Nat} : (Value.slice (some ⟨b, 0, none⟩) n c).ownBlock = some b := rfl

/-- The last step of an append: the new object. -/
theorem append_fin (g : Good E w ρ H ok) {w' : World} {ρ' : Places} {v v' : Value} {e : TypeId} {k n : Nat} {zs : List Value} {es : List (List AV)} (hlen : ∀ (e' : List AV), e' ∈ es → e'.length = k) (hn : es.length = n)
    (hrow : w'.ownsRow 0 e k v' n zs) (hg : w.grownBy w' v.ownBlock) (hat : v'.ownBlock = v.ownBlock ∨ v'.ownBlock = some w.heap.size)
    (hv : ∀ b, v.ownBlock = some b → b < w.heap.size ∧ ¬ ok b ∧ (∀ (id : Nat) (o : AObj) (c : Nat), H[id]? = some (some o) → ρ id ≠ some (b, c)) ∧ some b ≠ E.row ∧ (E.W b ∨ E.w0.heap.size ≤ b))
    (hcell : ∀ (i : Nat) (e' : List AV) (j : Nat) (a : AV), es[i]? = some e' → e'[j]? = some a → ∃ c, zs[i * k + j]? = some c ∧ c.oneCell' = true ∧ Rep w ρ H ok c a) (hρ' : ρ' = ρ) :
    ∃ ρ2, Good E w' ρ2 (H ++ [some ⟨e, k, es⟩]) ok ∧ Ext w ρ H ok w' ρ2 (H ++ [some ⟨e, k, es⟩]) ok ∧ Rep w' ρ2 (H ++ [some ⟨e, k, es⟩]) ok v' (.sref H.length 0 n) := by
  subst hρ'
  obtain ⟨g1, x1⟩ := g.step (ok' := ok) (fun b => v.ownBlock = some b) hg.os hg.tape hg.output hg.size (fun b hb hne => hg.block b hb (fun e => hne e.symm)) (fun b hb => (hv b hb).2) (fun _ h => h) (fun _ h => .inl h)
  rcases hrow.2 with ⟨rfl, h0⟩ | ⟨b, cap, cur, rfl, _, hb, hnc, hcm, hcs, htake⟩
  · have hes : es = [] := List.eq_nil_of_length_eq_zero (by omega)
    subst hes
    obtain ⟨g2, x2⟩ := g1.add ⟨e, k, []⟩ none rfl (by simp) (by simp)
    refine ⟨_, g2, x1.trans x2, ?_⟩
    rw [h0]
    exact .srefNil push_new (by simp [updP])
  · have hplace : ¬ ok b ∧ (∀ (id : Nat) (o : AObj) (c : Nat), H[id]? = some (some o) → ρ' id ≠ some (b, c)) ∧ some b ≠ E.row ∧ (E.W b ∨ E.w0.heap.size ≤ b) := by
      rcases hat with hat | hat
      · exact (hv b (by rw [← hat]; rfl)).2
      · rw [ownBlock_slice] at hat
        simp only [Option.some.injEq] at hat
        subst hat
        refine ⟨fun h => by have := (g.oks _ h).1; omega, fun id o c ho hρ => ?_, fun hr => by have := g.row_lt hr.symm; omega, .inr g.size⟩
        have hobj := g.obj id o ho
        rw [hρ] at hobj
        have := hobj.lt
        omega
    obtain ⟨g2, x2⟩ := g1.add ⟨e, k, es⟩ (some (b, cap)) (.inl ⟨cur, hb, hcs, by simpa [hn] using hnc, hcm, fun i e' j a hi hj => by
      obtain ⟨c, c1, c2, c3⟩ := hcell i e' j a hi hj
      refine ⟨c, ?_, c2, c3.ext x1⟩
      rw [← htake, List.getElem?_take] at c1
      split at c1
      · simpa using c1
      · cases c1⟩) hlen (fun b' c' hb' => by
        simp only [Option.some.injEq, Prod.mk.injEq] at hb'
        obtain ⟨rfl, rfl⟩ := hb'
        exact hplace)
    refine ⟨_, g2, x1.trans x2, ?_⟩
    have := Rep.sref (w := w') (ρ := updP ρ' H.length (some (b, cap))) (H := H ++ [some ⟨e, k, es⟩]) (ok := ok) (id := H.length) (lo := 0) (n := n) (c := cap) push_new (b := b) (cap := cap) (by simp [updP]) (by simp [hn]) (fun _ => rfl) hnc hcm
    simpa using this

theorem append_sound (g : Good E w ρ H ok) {t ty : TypeId} {vs vx : Value} {s x r : AV} {H' : Heap} {N B : Nat} (rs : Rep w ρ H ok vs s) (rx : Rep w ρ H ok vx x) (h : aappend E.P t H s x = some (r, H', N, B))
    (h63 : N ≤ maxLen) (hB : N * B ≤ 140737488355328) :
    ∃ v w' ρ', (Builtin.append_ #[t, t] ty #[vs, vx]).run E.P w = .ok v w' ∧ Good E w' ρ' H' ok ∧ Ext w ρ H ok w' ρ' H' ok ∧ Rep w' ρ' H' ok v r := by
  unfold aappend at h
  split at h
  · cases h
  · rename_i e he
    have ht := elemOf_sound he
    split at h
    · rename_i zz news hz hnews
      obtain ⟨i, z, hi, hz1, hzs, his, _, _⟩ := zeros_sound hz
      have hbytes : bytesOf E.P e = i.bytes := by simp [bytesOf, hi]
      obtain ⟨A, c, f, hvx, hnl, hsrc⟩ := src_sound g rx hnews
      subst hvx
      split at h
      · cases h
      · rename_i hk0
        have hk : 0 < szOf E.P e := by omega
        have hsrc' : 0 < news.length → ∃ ad, A = some ad ∧ ∀ i j, i < news.length → j < szOf E.P e → w.cell? (ad.add (i * szOf E.P e + j)) = some (f i j) ∧ (f i j).oneCell' = true := fun hp => by
          obtain ⟨ad, hA, hc⟩ := hsrc (by intro e; subst e; simp at hp)
          refine ⟨ad, hA, fun i j hi hj => ?_⟩
          have h1 := List.getElem?_eq_getElem hi
          have h2 : (news[i])[j]? = some ((news[i])[j]'(by rw [hnl _ (List.getElem_mem hi)]; exact hj)) := List.getElem?_eq_getElem _
          obtain ⟨q1, q2, _⟩ := hc i _ j _ h1 h2
          exact ⟨q1, q2⟩
        have hnewsR : ∀ (i : Nat) (e' : List AV) (j : Nat) (a : AV), news[i]? = some e' → e'[j]? = some a → (f i j).oneCell' = true ∧ Rep w ρ H ok (f i j) a := fun i e' j a hi hj => by
          obtain ⟨ad, _, hc⟩ := hsrc (by intro e; subst e; simp at hi)
          exact (hc i e' j a hi hj).2
        split at h
        · simp only [Option.some.injEq, Prod.mk.injEq] at h
          obtain ⟨rfl, rfl, rfl, rfl⟩ := h
          cases rs
          obtain ⟨v', w', ys, h1, h2, h3, h4, h5, h6⟩ := run_append_any (ty := ty) ht hi hz1 hzs hk (World.ownsRow_nil w 0 e (szOf E.P e)) (c := c) hsrc' (by simpa using h63) (by rw [← hbytes]; simpa using hB)
          simp only [List.nil_append, Nat.zero_add] at h2
          obtain ⟨ρ2, g2, x2, r2⟩ := append_fin (v := .slice none 0 0) (ρ' := ρ) g hnl rfl h2 h3 h4 (fun b hb => by simp [Value.ownBlock] at hb) (fun i e' j a hi' hj => by
            have hlt := (List.getElem?_eq_some_iff.1 hi').1
            have hjk : j < szOf E.P e := by rw [← hnl e' (List.mem_of_getElem? hi')]; exact (List.getElem?_eq_some_iff.1 hj).1
            obtain ⟨r1, r2⟩ := hnewsR i e' j a hi' hj
            exact ⟨_, h6 i j hlt hjk, r1, r2⟩) rfl
          exact ⟨v', w', ρ2, h1, g2, x2, r2⟩
        · rename_i id n
          split at h
          · rename_i o ho
            split at h
            · rename_i hc
              obtain ⟨hty, hok', hn⟩ := hc
              simp only [Option.some.injEq, Prod.mk.injEq] at h
              obtain ⟨rfl, rfl, rfl, rfl⟩ := h
              have hHl : (H.set id none).length = H.length := by simp
              obtain ⟨g1, x1⟩ := g.kill id ok (fun _ h => h) (fun _ h => .inl h)
              have hlen2 : ∀ (e' : List AV), e' ∈ o.es ++ news → e'.length = szOf E.P e := fun e' he' => by
                rcases List.mem_append.1 he' with h | h
                · rw [← hok']; exact g.len id o ho e' h
                · exact hnl e' h
              cases rs with
              | srefDead hd _ => rw [ho] at hd; cases hd
              | srefNil ho' hρ =>
                rename_i o'
                rw [ho] at ho'
                simp only [Option.some.injEq] at ho'
                subst ho'
                have hobj := g.obj id o ho
                rw [hρ] at hobj
                have hes : o.es = [] := hobj
                obtain ⟨v', w', ys, h1, h2, h3, h4, h5, h6⟩ := run_append_any (ty := ty) ht hi hz1 hzs hk (World.ownsRow_nil w 0 e (szOf E.P e)) (c := c) hsrc' (by simpa [hes] using h63) (by rw [← hbytes]; simpa [hes] using hB)
                simp only [List.nil_append, Nat.zero_add] at h2
                obtain ⟨ρ2, g2, x2, r2⟩ := append_fin (v := .slice none 0 0) (ρ' := ρ) (es := o.es ++ news) (n := news.length) g1 hlen2 (by simp [hes]) h2 h3 h4 (fun b hb => by simp [Value.ownBlock] at hb) (fun i e' j a hi' hj => by
                  rw [hes, List.nil_append] at hi'
                  have hlt := (List.getElem?_eq_some_iff.1 hi').1
                  have hjk : j < szOf E.P e := by rw [← hnl e' (List.mem_of_getElem? hi')]; exact (List.getElem?_eq_some_iff.1 hj).1
                  obtain ⟨r1, r2⟩ := hnewsR i e' j a hi' hj
                  exact ⟨_, h6 i j hlt hjk, r1, r2.ext x1⟩) rfl
                refine ⟨v', w', ρ2, h1, g2, x1.trans x2, ?_⟩
                rw [hHl] at r2
                simpa [hes] using r2
              | @sref _ _ _ c0 o' b cap ho' hρ hnn hcc hnc hcap' =>
                rw [ho] at ho'
                simp only [Option.some.injEq] at ho'
                subst ho'
                subst hn
                have hcap := hcc rfl
                subst hcap
                have hobj := g.obj id o ho
                rw [hρ] at hobj
                obtain ⟨cur, hb, hs, hle, hm, hcell⟩ := hobj.cells hcap'
                have hown : w.ownsRow 0 e (szOf E.P e) (.slice (some ⟨b, 0 * o.k, none⟩) o.es.length c0) o.es.length (cur.toList.take (o.es.length * szOf E.P e)) := by
                  refine ⟨?_, .inr ⟨b, c0, cur, by simp, Nat.zero_le _, by rw [hb, hty], hle, hm, by rw [hs, hok'], rfl⟩⟩
                  have : o.es.length * szOf E.P e ≤ c0 * szOf E.P e := Nat.mul_le_mul_right _ hle
                  rw [List.length_take, Array.length_toList, hs, hok']
                  exact Nat.min_eq_left this
                obtain ⟨v', w', ys, h1, h2, h3, h4, h5, h6⟩ := run_append_any (ty := ty) ht hi hz1 hzs hk hown (c := c) hsrc' h63 (by rw [← hbytes]; exact hB)
                obtain ⟨ρ2, g2, x2, r2⟩ := append_fin (ρ' := ρ) (es := o.es ++ news) (n := o.es.length + news.length) g1 hlen2 (by simp) h2 h3 h4 (fun b' hb' => by
                  simp only [Nat.zero_mul, ownBlock_slice, Option.some.injEq] at hb'
                  subst hb'
                  obtain ⟨a1, a2, a3⟩ := g.own id o b c0 ho hρ
                  refine ⟨(Array.getElem?_eq_some_iff.1 hb).1, a1, fun id' o' c' h' hρ' => ?_, a2, a3⟩
                  obtain ⟨hne, h'⟩ := set_live h'
                  exact hne (g.inj id' o' b c' id o c0 h' hρ' ho hρ)) (fun i e' j a hi' hj => by
                  have hjk : j < szOf E.P e := by rw [← hlen2 e' (List.mem_of_getElem? hi')]; exact (List.getElem?_eq_some_iff.1 hj).1
                  have hxl : (cur.toList.take (o.es.length * szOf E.P e)).length = o.es.length * szOf E.P e := hown.1
                  rcases Nat.lt_or_ge i o.es.length with hlt | hge
                  · rw [List.getElem?_append_left hlt] at hi'
                    obtain ⟨c', c1, c2, c3⟩ := hcell i e' j a hi' hj
                    have hp : i * szOf E.P e + j < o.es.length * szOf E.P e := by
                      have : i * szOf E.P e + szOf E.P e ≤ o.es.length * szOf E.P e := by rw [← Nat.succ_mul]; exact Nat.mul_le_mul_right _ hlt
                      omega
                    refine ⟨c', ?_, c2, c3.ext x1⟩
                    rw [List.getElem?_append_left (by omega), List.getElem?_take, if_pos hp]
                    rw [hok'] at c1
                    simpa using c1
                  · rw [List.getElem?_append_right hge] at hi'
                    have hlt := (List.getElem?_eq_some_iff.1 hi').1
                    obtain ⟨r1, r2⟩ := hnewsR _ e' j a hi' hj
                    have h7 := h6 (i - o.es.length) j hlt hjk
                    have hp : i * szOf E.P e = o.es.length * szOf E.P e + (i - o.es.length) * szOf E.P e := by rw [← Nat.add_mul]; congr 1; omega
                    refine ⟨_, ?_, r1, r2.ext x1⟩
                    rw [List.getElem?_append_right (by omega), hxl, ← h7]
                    congr 1
                    omega) rfl
                refine ⟨v', w', ρ2, h1, g2, x1.trans x2, ?_⟩
                rw [hHl] at r2
                exact r2
            · cases h
          · cases h
        · cases h
    · cases h

/-! ### make -/

def amake (P : Program) (t : TypeId) (H : Heap) (l c : AV) : Option (AV × Heap × Int × Nat) :=
  match elemOf P t, l, c with
  | some e, .sc (.int _ n), .sc (.int _ m) => match zeros P e with
    | some zs => if 0 ≤ n ∧ n ≤ m then some (.sref H.length 0 n.toNat, H ++ [some ⟨e, szOf P e, List.replicate n.toNat zs⟩], m, bytesOf P e) else none
    | none => none
  | _, _, _ => none

theorem make_sound (g : Good E w ρ H ok) {t : TypeId} {vl vc : Value} {l c r : AV} {H' : Heap} {m : Int} {B : Nat} (rl : Rep w ρ H ok vl l) (rc : Rep w ρ H ok vc c) (h : amake E.P t H l c = some (r, H', m, B))
    (hB : (B : Int) * m ≤ 281474976710656) (h63 : m ≤ 9223372036854775807) :
    ∃ v w' ρ', (Instr.makeSlice t vl vc).run E.P w = .ok v w' ∧ Good E w' ρ' H' ok ∧ Ext w ρ H ok w' ρ' H' ok ∧ Rep w' ρ' H' ok v r := by
  unfold amake at h
  split at h
  · rename_i e k1 n k2 m' he
    have ht := elemOf_sound he
    rw [rep_sc rl, rep_sc rc]
    split at h
    · rename_i zs hz
      obtain ⟨i, z, hi, hz1, hzs, his, hzz, h1⟩ := zeros_sound hz
      split at h
      · rename_i hc
        simp only [Option.some.injEq, Prod.mk.injEq] at h
        obtain ⟨rfl, rfl, rfl, rfl⟩ := h
        have hb : bytesOf E.P e = i.bytes := by simp [bytesOf, hi]
        have hrun := run_make (P := E.P) w t e i z ht hi hz1 k1 k2 n m' hc.1 hc.2 (by rw [← hb]; exact hB) h63
        have hzl : zs.length = szOf E.P e := by rw [hzz]; simpa using hzs
        obtain ⟨g', x'⟩ := g.newObj ⟨e, szOf E.P e, List.replicate n.toNat zs⟩ m'.toNat (madeCells z.cells (m'.toNat * i.size)) (by rw [size_madeCells, his]) (by simp; omega) (by unfold maxLen; omega)
          (fun e' he' => by rw [List.eq_of_mem_replicate he']; exact hzl) (fun i' e' j a hi' hj => by
            rw [List.getElem?_replicate] at hi'
            split at hi'
            · rename_i hlt
              simp only [Option.some.injEq] at hi'
              subst hi'
              have hjk : j < szOf E.P e := by rw [← hzl]; exact (List.getElem?_eq_some_iff.1 hj).1
              rw [hzz, List.getElem?_map, Option.map_eq_some_iff] at hj
              obtain ⟨c, hc', rfl⟩ := hj
              have hp : i' * szOf E.P e + j < m'.toNat * i.size := by
                rw [his]
                have : i' * szOf E.P e + szOf E.P e ≤ m'.toNat * szOf E.P e := by rw [← Nat.succ_mul]; exact Nat.mul_le_mul_right _ (by omega)
                omega
              refine ⟨c, ?_, h1 c (List.mem_of_getElem? hc'), ofCell_rep c⟩
              have hmod : (i' * szOf E.P e + j) % z.cells.size = j := by rw [hzs]; exact (divmod hjk).2
              simp only [madeCells, Array.getElem?_map, Array.getElem?_range, hp, if_true, Option.map_some, hmod, Option.some.injEq]
              rw [Array.getElem?_toList] at hc'
              rw [getElem!_def, hc']
            · cases hi')
        refine ⟨_, _, _, hrun, g', x', ?_⟩
        have := Rep.sref (w := w.alloc (.cells (madeCells z.cells (m'.toNat * i.size)) e)) (ρ := updP ρ H.length (some (w.heap.size, m'.toNat))) (H := H ++ [some ⟨e, szOf E.P e, List.replicate n.toNat zs⟩]) (ok := ok) (id := H.length) (lo := 0) (n := n.toNat) (c := m'.toNat) push_new
          (b := w.heap.size) (cap := m'.toNat) (by simp [updP]) (by simp) (fun _ => rfl) (by omega) (by unfold maxLen; omega)
        simpa using this
      · cases h
    · cases h
  · cases h

end
end Go.PA
