/- PA: slices in place: copy, clear, append where the capacity is known, slices.overlaps. -/
import Derived.Test.YtkcfmmpcpdlfeaaGreatDoorPaC
import Derived.Lib.AppendZerosOnto
import Derived.Lib.Overlaps
import Derived.Laws.Externs
set_option linter.unusedSimpArgs false
set_option linter.unusedVariables false
namespace Go.PA
open Go.RowKit

section
variable {E : Env} {w : World} {ρ : Places} {H : Heap} {ok : Nat → Prop}

theorem patch_get {α : Type} (es news : List α) (p i : Nat) (hp : p ≤ es.length) :
    (es.take p ++ news ++ es.drop (p + news.length))[i]? = if i < p then es[i]? else if i < p + news.length then news[i - p]? else es[i]? := by
  have h1 : (es.take p).length = p := by simp; omega
  split
  · rw [List.append_assoc, List.getElem?_append_left (by omega), List.getElem?_take, if_pos (by assumption)]
  · split
    · rw [List.append_assoc, List.getElem?_append_right (by omega), List.getElem?_append_left (by omega), h1]
    · rw [List.getElem?_append_right (by simp; omega), List.getElem?_drop]
      congr 1
      simp
      omega

/-- Rows are written, from the row p on, as far as the capacity goes. -/
theorem patch_sound (g : Good E w ρ H ok) {id b cap p : Nat} {o : AObj} (ho : H[id]? = some (some o)) (hρ : ρ id = some (b, cap)) (hcap : cap ≤ maxLen) (hp : p ≤ o.es.length) (news : List (List AV)) (hm : p + news.length ≤ cap)
    (hk : ∀ e, e ∈ news → e.length = o.k) (xs : List Value) (hxl : xs.length = news.length * o.k) (h1 : ∀ v ∈ xs, v.oneCell' = true)
    (hx : ∀ (i : Nat) (e : List AV) (j : Nat) (a : AV), news[i]? = some e → e[j]? = some a → ∃ c, xs[i * o.k + j]? = some c ∧ Rep w ρ H ok c a) :
    ∃ w', (storeCells ⟨b, p * o.k, none⟩ xs).run E.P w = .ok () w' ∧ Good E w' ρ (H.set id (some { o with es := o.es.take p ++ news ++ o.es.drop (p + news.length) })) ok ∧ Ext w ρ H ok w' ρ (H.set id (some { o with es := o.es.take p ++ news ++ o.es.drop (p + news.length) })) ok := by
  have hobj := g.obj id o ho
  rw [hρ] at hobj
  obtain ⟨cur, hb, hs, hl, hmx, hcell⟩ := hobj.cells hcap
  have hle : p * o.k + news.length * o.k ≤ cur.size := by
    rw [hs, ← Nat.add_mul]
    exact Nat.mul_le_mul_right _ hm
  have hst := run_storeCells_at E.P b (p * o.k) o.ty xs 0 cur w hb (by rw [hxl]; omega) h1
  simp only [Nat.add_zero] at hst
  generalize hnew : (cur.toList.take (p * o.k) ++ xs ++ cur.toList.drop (p * o.k + xs.length)).toArray = new at hst
  have hnewget : ∀ q, new[q]? = if q < p * o.k then cur[q]? else if q < p * o.k + news.length * o.k then xs[q - p * o.k]? else cur[q]? := fun q => by
    subst hnew
    have := splice_get cur.toList xs (p * o.k) q (by simp [hxl]; omega)
    rw [hxl] at this
    simpa [hxl] using this
  have hnewsize : new.size = cur.size := by
    subst hnew
    simp only [List.size_toArray, List.length_append, List.length_take, List.length_drop, Array.length_toList]
    rw [hxl]
    omega
  have hlen' : ∀ e ∈ o.es.take p ++ news ++ o.es.drop (p + news.length), e.length = o.k := fun e he => by
    rcases List.mem_append.1 he with he | he
    · rcases List.mem_append.1 he with he | he
      · exact g.len id o ho e (List.mem_of_mem_take he)
      · exact hk e he
    · exact g.len id o ho e (List.mem_of_mem_drop he)
  obtain ⟨g', x'⟩ := g.change (w' := w.setRow b new) ho hρ { o with es := o.es.take p ++ news ++ o.es.drop (p + news.length) } rfl (by simp; omega) hlen' rfl rfl rfl setRow_size (fun b' hb' => setRow_other hb') fun hxx => .inl ⟨new, setRow_block hb, hnewsize.trans hs, by simp; omega, hmx, fun i e j a hi hj => by
    simp only at hi
    have hjk : j < o.k := by
      have := hlen' e (List.mem_of_getElem? hi)
      have := (List.getElem?_eq_some_iff.1 hj).1
      omega
    rw [patch_get _ _ _ _ hp] at hi
    simp only
    rw [hnewget]
    split at hi
    · rename_i hip
      have : i * o.k + o.k ≤ p * o.k := by rw [← Nat.succ_mul]; exact Nat.mul_le_mul_right _ hip
      rw [if_pos (by omega)]
      obtain ⟨c, c1, c2, c3⟩ := hcell i e j a hi hj
      exact ⟨c, c1, c2, c3.ext hxx⟩
    · split at hi
      · rename_i hge hlt
        have h3 : p * o.k ≤ i * o.k := Nat.mul_le_mul_right _ (by omega)
        have h4 : i * o.k + o.k ≤ p * o.k + news.length * o.k := by rw [← Nat.succ_mul, ← Nat.add_mul]; exact Nat.mul_le_mul_right _ hlt
        rw [if_neg (by omega), if_pos (by omega)]
        obtain ⟨c, c1, c3⟩ := hx (i - p) e j a hi hj
        have e5 : i * o.k + j - p * o.k = (i - p) * o.k + j := by rw [Nat.sub_mul]; omega
        rw [e5]
        exact ⟨c, c1, h1 c (List.mem_of_getElem? c1), c3.ext hxx⟩
      · rename_i hge hge2
        have h4 : p * o.k + news.length * o.k ≤ i * o.k := by rw [← Nat.add_mul]; exact Nat.mul_le_mul_right _ (by omega)
        rw [if_neg (by omega), if_neg (by omega)]
        obtain ⟨c, c1, c2, c3⟩ := hcell i e j a hi hj
        exact ⟨c, c1, c2, c3.ext hxx⟩⟩
  exact ⟨_, hst, g', x'⟩

/-- A slice's elements, cell by cell. -/
theorem src_flat (g : Good E w ρ H ok) {P : Program} {e : TypeId} {v : Value} {x : AV} {es : List (List AV)} (r : Rep w ρ H ok v x) (h : srcEs P e H x = some es) (hne : es ≠ []) (hk : 0 < szOf P e) :
    ∃ (ad : Addr) (c : Nat) (xs : List Value), v = .slice (some ad) es.length c ∧ (∀ (e' : List AV), e' ∈ es → e'.length = szOf P e) ∧ xs.length = es.length * szOf P e ∧ (∀ (j : Nat) (u : Value), xs[j]? = some u → w.cell? (ad.add j) = some u) ∧ (∀ u ∈ xs, u.oneCell' = true) ∧
      ∀ (i : Nat) (e' : List AV) (j : Nat) (a : AV), es[i]? = some e' → e'[j]? = some a → ∃ c, xs[i * szOf P e + j]? = some c ∧ Rep w ρ H ok c a := by
  obtain ⟨A, c, f, hv, hlen, hc⟩ := src_sound g r h
  obtain ⟨ad, rfl, hcc⟩ := hc hne
  have hdm : ∀ p, p < es.length * szOf P e → p / szOf P e < es.length ∧ p % szOf P e < szOf P e := fun p hp => ⟨Nat.div_lt_of_lt_mul (by rw [Nat.mul_comm]; exact hp), Nat.mod_lt _ hk⟩
  have heq : ∀ p, p / szOf P e * szOf P e + p % szOf P e = p := fun p => Nat.div_add_mod' p _
  have get : ∀ i j, i < es.length → j < szOf P e → ∃ e' a, es[i]? = some e' ∧ e'[j]? = some a := fun i j hi hj => by
    have := hlen _ (List.getElem_mem hi)
    exact ⟨_, _, List.getElem?_eq_getElem hi, List.getElem?_eq_getElem (by omega)⟩
  refine ⟨ad, c, (List.range (es.length * szOf P e)).map fun p => f (p / szOf P e) (p % szOf P e), hv, hlen, by simp, fun p u hp => ?_, fun u hu => ?_, fun i e' j a hi hj => ?_⟩
  · rw [List.getElem?_map, Option.map_eq_some_iff] at hp
    obtain ⟨q, hq, rfl⟩ := hp
    obtain ⟨hlt, rfl⟩ := List.getElem?_eq_some_iff.1 hq
    simp only [List.length_range, List.getElem_range] at hlt ⊢
    obtain ⟨e', a, h1, h2⟩ := get _ _ (hdm p hlt).1 (hdm p hlt).2
    have := (hcc _ _ _ _ h1 h2).1
    rwa [heq] at this
  · obtain ⟨p, hp, rfl⟩ := List.mem_map.1 hu
    have hlt := List.mem_range.1 hp
    obtain ⟨e', a, h1, h2⟩ := get _ _ (hdm p hlt).1 (hdm p hlt).2
    exact (hcc _ _ _ _ h1 h2).2.1
  · have hil := (List.getElem?_eq_some_iff.1 hi).1
    have hjl : j < szOf P e := by rw [← hlen e' (List.mem_of_getElem? hi)]; exact (List.getElem?_eq_some_iff.1 hj).1
    have hlt : i * szOf P e + j < es.length * szOf P e := by
      have : i * szOf P e + szOf P e ≤ es.length * szOf P e := by rw [← Nat.succ_mul]; exact Nat.mul_le_mul_right _ hil
      omega
    refine ⟨f i j, ?_, (hcc i e' j a hi hj).2.2⟩
    simp [hlt, (divmod (i := i) hjl).1, (divmod (i := i) hjl).2]

/-- Where a slice of an object lies. -/
theorem dst_rep (g : Good E w ρ H ok) {v : Value} {x : AV} {id lo dn : Nat} {o : AObj} (hx : x = .sref id lo dn ∨ ∃ N, x = .full id lo dn N) (ho : H[id]? = some (some o)) (hpos : 0 < dn) (r : Rep w ρ H ok v x) :
    ∃ b cap c, v = .slice (some ⟨b, lo * o.k, none⟩) dn c ∧ ρ id = some (b, cap) ∧ lo + dn ≤ cap ∧ cap ≤ maxLen := by
  rcases hx with rfl | ⟨N, rfl⟩
  · cases r with
    | srefDead hd _ => rw [ho] at hd; cases hd
    | srefNil ho' hρ => omega
    | @sref _ _ _ c o' b cap ho' hρ hn hc hnc hcap =>
      rw [ho] at ho'
      simp only [Option.some.injEq] at ho'
      subst ho'
      have hobj := g.obj id o ho
      rw [hρ] at hobj
      obtain ⟨_, _, _, hl, _, _⟩ := hobj.cells hcap
      exact ⟨b, cap, c, rfl, hρ, by omega, hcap⟩
  · cases r with
    | fullDead hd _ => rw [ho] at hd; cases hd
    | @full _ _ _ _ o' b ho' hρ hn hN =>
      rw [ho] at ho'
      simp only [Option.some.injEq] at ho'
      subst ho'
      exact ⟨b, N, _, rfl, hρ, hn, hN⟩

theorem size2 {α : Type} {vs : Array α} (h : vs.size = 2) : ∃ a b, vs = #[a, b] := by
  obtain ⟨l⟩ := vs
  match l, h with
  | [a, b], _ => exact ⟨a, b, rfl⟩
theorem size1 {α : Type} {vs : Array α} (h : vs.size = 1) : ∃ a, vs = #[a] := by
  obtain ⟨l⟩ := vs
  match l, h with
  | [a], _ => exact ⟨a, rfl⟩

theorem buiB_copy {t t' e : TypeId} {x y : AV} {id lo dn : Nat} {o : AObj} {news : List (List AV)} {C : AV → Heap → Prop} {b : Bx C} (hx : x = .sref id lo dn ∨ ∃ N, x = .full id lo dn N) (ho : H[id]? = some (some o)) (he : elemOf E.P t = some e)
    (hk : o.k = szOf E.P e) (hk0 : 0 < o.k) (hkn : knownT E.P e = true) (hs : srcEs E.P e H y = some news) (hl : news.length ≤ dn) (hpos : 0 < news.length) (hp : lo ≤ o.es.length)
    (hC : C (.sc (goInt news.length)) (H.set id (some { o with es := o.es.take lo ++ news ++ o.es.drop (lo + news.length) }))) : BuiB E .copy #[t, t'] [x, y] H C b := by
  refine ⟨⟨_, _, hC⟩, fun w ρ ok ty vs g hsz hr => ?_⟩
  obtain ⟨vx, vy, rfl⟩ := size2 hsz
  have rx := hr 0 vx x rfl rfl
  have ry := hr 1 vy y rfl rfl
  obtain ⟨b', cap, c, rfl, hρ, hcap, hmx⟩ := dst_rep g hx ho (by omega) rx
  obtain ⟨ad, c', xs, rfl, hlen, hxl, hcell, h1, hrep⟩ := src_flat g ry hs (by intro e0; simp [e0] at hpos) (by omega)
  obtain ⟨w', hst, g', x'⟩ := patch_sound g ho hρ hmx hp news (by omega) (by rw [hk]; exact hlen) xs (by rw [hk]; exact hxl) h1 (by rw [hk]; exact hrep)
  refine ⟨.int .i64 news.length, w', _, _, ρ, ok, ?_, hC, g', x', .sc⟩
  have hmin : Nat.min news.length dn = news.length := Nat.min_eq_left hl
  have hld := run_firstCells_some (P := E.P) w (szOf E.P e) news.length ad news.length c' xs hxl hcell
  simp [buiRun, Builtin.copy_, run_underlying (elemOf_sound he), Builtin.lenOf, run_sizeOf' hkn, hmin, hld, hst, goInt]

/-- .. a source that is longer than the target, and than what is known of it. -/
theorem buiB_copy_short {t t' e : TypeId} {x : AV} {id lo dn id2 lo2 m2 N2 : Nat} {o : AObj} {news : List (List AV)} {C : AV → Heap → Prop} {b : Bx C} (hx : x = .sref id lo dn ∨ ∃ N, x = .full id lo dn N) (ho : H[id]? = some (some o)) (he : elemOf E.P t = some e)
    (hk : o.k = szOf E.P e) (hk0 : 0 < o.k) (hkn : knownT E.P e = true) (hs : srcEs E.P e H (.full id2 lo2 dn N2) = some news) (hnl : news.length = dn) (hm2 : dn ≤ m2) (hpos : 0 < news.length) (hp : lo ≤ o.es.length)
    (hC : C (.sc (goInt news.length)) (H.set id (some { o with es := o.es.take lo ++ news ++ o.es.drop (lo + news.length) }))) : BuiB E .copy #[t, t'] [x, .full id2 lo2 m2 N2] H C b := by
  refine ⟨⟨_, _, hC⟩, fun w ρ ok ty vs g hsz hr => ?_⟩
  obtain ⟨vx, vy, rfl⟩ := size2 hsz
  have rx := hr 0 vx x rfl rfl
  have ry := hr 1 vy _ rfl rfl
  obtain ⟨b', cap, c, rfl, hρ, hcap, hmx⟩ := dst_rep g hx ho (by omega) rx
  cases ry with
  | fullDead hd _ => simp [srcEs, hd] at hs
  | @full _ _ _ _ o2 b2 ho2 hρ2 hn2 hN2 =>
    have ry' : Rep w ρ H ok (.slice (some ⟨b2, lo2 * o2.k, none⟩) dn (N2 - lo2)) (.full id2 lo2 dn N2) := .full ho2 hρ2 (by omega) hN2
    obtain ⟨ad, c', xs, hv, hlen, hxl, hcell, h1, hrep⟩ := src_flat g ry' hs (by intro e0; simp [e0] at hpos) (by omega)
    simp only [Value.slice.injEq, Option.some.injEq] at hv
    obtain ⟨rfl, _, _⟩ := hv
    obtain ⟨w', hst, g', x'⟩ := patch_sound g ho hρ hmx hp news (by omega) (by rw [hk]; exact hlen) xs (by rw [hk]; exact hxl) h1 (by rw [hk]; exact hrep)
    refine ⟨.int .i64 news.length, w', _, _, ρ, ok, ?_, hC, g', x', .sc⟩
    have hmin : Nat.min m2 dn = news.length := by rw [hnl]; exact Nat.min_eq_right hm2
    have hld := run_firstCells_some (P := E.P) w (szOf E.P e) news.length ⟨b2, lo2 * o2.k, none⟩ m2 (N2 - lo2) xs hxl hcell
    simp [buiRun, Builtin.copy_, run_underlying (elemOf_sound he), Builtin.lenOf, run_sizeOf' hkn, hmin, hld, hst, goInt]

theorem zeroCells_get {z : Value} {k n i j : Nat} (hz : z.cells.size = k) (hi : i < n) (hj : j < k) : (Builtin.zeroCells z.cells n)[i * k + j]? = z.cells[j]? := by
  have hlt : i * k + j < n * k := by
    have : i * k + k ≤ n * k := by rw [← Nat.succ_mul]; exact Nat.mul_le_mul_right _ hi
    omega
  unfold Builtin.zeroCells
  rw [hz, Array.getElem?_map, Array.getElem?_range, if_pos hlt]
  simp only [Option.map_some, (divmod (i := i) hj).2]
  rw [getElem!_pos z.cells j (by omega), Array.getElem?_eq_getElem (by omega)]
theorem zeroCells_size {z : Value} {k n : Nat} (hz : z.cells.size = k) : (Builtin.zeroCells z.cells n).size = n * k := by simp [Builtin.zeroCells, hz]
theorem zeroCells_mem {z : Value} {k n : Nat} (hz : z.cells.size = k) (hk : 0 < k) {v : Value} (hv : v ∈ (Builtin.zeroCells z.cells n).toList) : v ∈ z.cells.toList := by
  obtain ⟨q, hq⟩ := List.getElem?_of_mem hv
  have hql : q < n * k := by have := (List.getElem?_eq_some_iff.1 hq).1; simpa [zeroCells_size (n := n) hz] using this
  have e := Nat.div_add_mod' q k
  have h1 : q / k < n := Nat.div_lt_of_lt_mul (by rw [Nat.mul_comm]; exact hql)
  have h2 : q % k < k := Nat.mod_lt _ hk
  have := zeroCells_get (n := n) hz h1 h2
  rw [e] at this
  rw [Array.getElem?_toList, this] at hq
  exact List.mem_of_getElem? (by simpa using hq)

theorem buiB_clear {t e : TypeId} {x : AV} {id lo dn : Nat} {o : AObj} {zs : List AV} {C : AV → Heap → Prop} {b : Bx C} (hx : x = .sref id lo dn ∨ ∃ N, x = .full id lo dn N) (ho : H[id]? = some (some o)) (he : elemOf E.P t = some e)
    (hk : o.k = szOf E.P e) (hk0 : 0 < o.k) (hz : zeros E.P e = some zs) (hpos : 0 < dn) (hp : lo ≤ o.es.length)
    (hC : C (.tup []) (H.set id (some { o with es := o.es.take lo ++ List.replicate dn zs ++ o.es.drop (lo + dn) }))) : BuiB E .clear #[t] [x] H C b := by
  refine ⟨⟨_, _, hC⟩, fun w ρ ok ty vs g hsz hr => ?_⟩
  obtain ⟨vx, rfl⟩ := size1 hsz
  have rx := hr 0 vx x rfl rfl
  obtain ⟨b', cap, c, rfl, hρ, hcap, hmx⟩ := dst_rep g hx ho hpos rx
  obtain ⟨i, z, hi, hzz, hzs, _, hzeq, h1⟩ := zeros_sound hz
  have hzl : zs.length = szOf E.P e := by rw [hzeq]; simpa using hzs
  obtain ⟨w', hst, g', x'⟩ := patch_sound g ho hρ hmx hp (List.replicate dn zs) (by simp; omega) (fun e' he' => by rw [List.eq_of_mem_replicate he', hk, hzl]) (Builtin.zeroCells z.cells dn).toList (by simp [zeroCells_size hzs, hk]) (fun v hv => h1 v (zeroCells_mem hzs (by omega) hv)) (fun i' e' j a hi' hj => by
    have hil : i' < dn := by have := (List.getElem?_eq_some_iff.1 hi').1; simpa using this
    rw [List.eq_of_mem_replicate (List.mem_of_getElem? hi')] at hj
    have hjl := (List.getElem?_eq_some_iff.1 hj).1
    rw [hzeq, List.getElem?_map, Option.map_eq_some_iff] at hj
    obtain ⟨c0, hc0, rfl⟩ := hj
    refine ⟨c0, ?_, ofCell_rep c0⟩
    rw [Array.getElem?_toList, hk, zeroCells_get hzs hil (by omega)]
    simpa using hc0)
  rw [List.length_replicate] at g' x'
  refine ⟨.tuple #[], w', _, _, ρ, ok, ?_, hC, g', x', .tup rfl (by simp)⟩
  obtain ⟨dn, rfl⟩ : ∃ m, dn = m + 1 := ⟨dn - 1, by omega⟩
  simp [buiRun, Builtin.clear_, run_underlying (elemOf_sound he), run_zeroValue' hi hzz, hst]
theorem buiB_clear_nil {t e : TypeId} {k : Nat} {C : AV → Heap → Prop} {b : Bx C} (he : elemOf E.P t = some e) (hC : C (.tup []) H) : BuiB E .clear #[t] [.list k []] H C b := by
  refine ⟨⟨_, _, hC⟩, fun w ρ ok ty vs g hsz hr => ?_⟩
  obtain ⟨vx, rfl⟩ := size1 hsz
  have rx := hr 0 vx _ rfl rfl
  have : ∃ A c, vx = .slice A 0 c := by
    cases rx with
    | listNil => exact ⟨_, _, rfl⟩
    | list f hn _ _ _ _ _ _ => subst hn; exact ⟨_, _, rfl⟩
  obtain ⟨A, c, rfl⟩ := this
  refine ⟨.tuple #[], w, _, _, ρ, ok, ?_, hC, g, Ext.refl _ _ _ _, .tup rfl (by simp)⟩
  cases A <;> simp [buiRun, Builtin.clear_, run_underlying (elemOf_sound he)]

/-- An append that has room: in place. -/
theorem buiB_append_in {t e : TypeId} {y : AV} {id n N : Nat} {o : AObj} {news : List (List AV)} {C : AV → Heap → Prop} {b : Bx C} (ho : H[id]? = some (some o)) (he : elemOf E.P t = some e)
    (hk : o.k = szOf E.P e) (hk0 : 0 < o.k) (hkn : knownT E.P e = true) (hs : srcEs E.P e H y = some news) (hl : n + news.length ≤ N) (hpos : 0 < news.length) (hp : n ≤ o.es.length)
    (hC : C (.full id 0 (n + news.length) N) (H.set id (some { o with es := o.es.take n ++ news ++ o.es.drop (n + news.length) }))) : BuiB E .append #[t, t] [.full id 0 n N, y] H C b := by
  refine ⟨⟨_, _, hC⟩, fun w ρ ok ty vs g hsz hr => ?_⟩
  obtain ⟨vx, vy, rfl⟩ := size2 hsz
  have rx := hr 0 vx _ rfl rfl
  have ry := hr 1 vy y rfl rfl
  cases rx with
  | fullDead hd _ => rw [ho] at hd; cases hd
  | @full _ _ _ _ o' b' ho' hρ hn hN =>
    rw [ho] at ho'
    simp only [Option.some.injEq] at ho'
    subst ho'
    obtain ⟨ad, c', xs, rfl, hlen, hxl, hcell, h1, hrep⟩ := src_flat g ry hs (by intro e0; simp [e0] at hpos) (by omega)
    obtain ⟨w', hst, g', x'⟩ := patch_sound g ho hρ hN hp news (by omega) (by rw [hk]; exact hlen) xs (by rw [hk]; exact hxl) h1 (by rw [hk]; exact hrep)
    refine ⟨.slice (some ⟨b', 0 * o.k, none⟩) (n + news.length) (N - 0), w', _, _, ρ, ok, ?_, hC, g', x', ?_⟩
    · have hld := run_firstCells_some (P := E.P) w (szOf E.P e) news.length ad news.length c' xs hxl hcell
      have hle : n + news.length ≤ N - 0 := by omega
      rw [hk] at hst
      simp [buiRun, Builtin.append_, run_underlying (elemOf_sound he), Builtin.lenOf, run_sizeOf' hkn, hl, hld, add_mk, hk, hst]
    · exact .full (o := { o with es := o.es.take n ++ news ++ o.es.drop (n + news.length) }) (by rw [List.getElem?_set]; simp [get_lt ho]) hρ (by omega) hN

theorem good_drew (g : Good E w ρ H ok) : Good E w.drew ρ H ok ∧ Ext w ρ H ok w.drew ρ H ok :=
  g.step (w' := w.drew) (fun _ => False) rfl rfl rfl (Nat.le_refl _) (fun _ _ _ => rfl) (fun _ h => h.elim) (fun _ h => h) (fun _ h => .inl h)

/-- append(s[:n], make([]T, m)...) where there is no room: a new row; the old one stays. -/
theorem buiB_append_make {t tn e : TypeId} {id n N m : Nat} {o : AObj} {zs : List AV} {kq kn : IntKind} {C : AV → Heap → Prop} {b : Bx C} (ho : H[id]? = some (some o)) (he : elemOf E.P t = some e) (htn : E.P.underlying tn = some (.int kn))
    (hk : o.k = szOf E.P e) (hk0 : 0 < o.k) (hty : o.ty = e) (hz : zeros E.P e = some zs) (hp : n ≤ o.es.length) (hpos : 0 < m) (hroom : N < n + m) (h63 : n + m ≤ 9223372036854775807) (hb : (n + m) * bytesOf E.P e ≤ 140737488355328)
    (hC : C (.sref H.length 0 (n + m)) (H ++ [some ⟨e, o.k, o.es.take n ++ List.replicate m zs⟩])) : BuiB E .append #[t, tn] [.full id 0 n N, .sc (.int kq m)] H C b := by
  refine ⟨⟨_, _, hC⟩, fun w ρ ok ty vs g hsz hr => ?_⟩
  obtain ⟨vx, vy, rfl⟩ := size2 hsz
  have rx := hr 0 vx _ rfl rfl
  have ry := rep_sc (hr 1 vy _ rfl rfl)
  subst ry
  cases rx with
  | fullDead hd _ => rw [ho] at hd; cases hd
  | @full _ _ _ _ o' b' ho' hρ hn hN =>
    rw [ho] at ho'
    simp only [Option.some.injEq] at ho'
    subst ho'
    obtain ⟨i, z, hi, hzz, hzs, his, hzeq, h1⟩ := zeros_sound hz
    have hzl : zs.length = szOf E.P e := by rw [hzeq]; simpa using hzs
    have hobj := g.obj id o ho
    rw [hρ] at hobj
    obtain ⟨cur, hbk, hs, hl, hmx, hcell⟩ := hobj.cells hN
    have hcur : n * o.k ≤ cur.size := by rw [hs]; exact Nat.mul_le_mul_right _ (by omega)
    obtain ⟨g0, x0⟩ := good_drew g
    have hold : (Builtin.firstCells i.size n (.slice (some ⟨b', 0 * o.k, none⟩) n (N - 0))).run E.P w.drew = .ok (cur.toList.take (n * o.k)).toArray w.drew := by
      refine run_firstCells_some (P := E.P) w.drew i.size n ⟨b', 0 * o.k, none⟩ n (N - 0) (cur.toList.take (n * o.k)) (by simp [his, ← hk]; omega) (fun j v hj => ?_)
      rw [add_mk, Nat.zero_mul, Nat.zero_add, cell_of_row w.drew b' _ cur o.ty (0, 0) hbk]
      rw [List.getElem?_take] at hj
      split at hj
      · simpa using hj
      · cases hj
    have hbi : bytesOf E.P e = i.bytes := by simp [bytesOf, hi]
    rw [hbi] at hb
    have hrun := Lib.run_append_grow_zeros w t tn ty e i z kq kn (elemOf_sound he) htn hi hzz (some ⟨b', 0 * o.k, none⟩) n (N - 0) _ hold m hpos (by rw [his]; omega) (by omega) (by omega) (by
      have := Nat.mul_le_mul_right i.bytes (show m ≤ n + m by omega)
      omega) (growslice_fits (by omega) hb)
    obtain ⟨G, hG⟩ : ∃ G, G = grownCap w (n + m) (N - 0) e := ⟨_, rfl⟩
    have hG1 : n + m ≤ G := by rw [hG]; exact grownCap_ge w _ _ _
    have hG2 : G ≤ maxLen := by rw [hG]; exact grownCap_le_maxLen w _ _ _ (by unfold maxLen; omega)
    rw [← hG] at hrun
    obtain ⟨ROW, hROW⟩ : ∃ ROW, ROW = (cur.toList.take (n * o.k)).toArray ++ Builtin.zeroCells z.cells m ++ Builtin.zeroCells z.cells (G - (n + m)) := ⟨_, rfl⟩
    rw [← hROW] at hrun
    have hl1 : (cur.toList.take (n * o.k)).toArray.size = n * o.k := by simp; omega
    have hl2 : (Builtin.zeroCells z.cells m).size = m * o.k := by rw [zeroCells_size hzs, hk]
    have hRs : ROW.size = G * o.k := by
      rw [hROW, Array.size_append, Array.size_append, hl1, hl2, zeroCells_size hzs, ← hk, ← Nat.add_mul, ← Nat.add_mul]
      congr 1
      omega
    have hlen' : ∀ e' ∈ o.es.take n ++ List.replicate m zs, e'.length = o.k := fun e' he' => by
      rcases List.mem_append.1 he' with he' | he'
      · exact g.len id o ho e' (List.mem_of_mem_take he')
      · rw [List.eq_of_mem_replicate he', hk, hzl]
    obtain ⟨g', x'⟩ := g0.newObj ⟨e, o.k, o.es.take n ++ List.replicate m zs⟩ G ROW hRs (by simp; omega) hG2 hlen' (fun i' e' j a hi' hj => by
      simp only at hi' ⊢
      have hjk : j < o.k := by
        have := hlen' e' (List.mem_of_getElem? hi')
        have := (List.getElem?_eq_some_iff.1 hj).1
        omega
      rw [hROW]
      rcases Nat.lt_or_ge i' n with hin | hin
      · rw [List.getElem?_append_left (by simp; omega), List.getElem?_take, if_pos hin] at hi'
        obtain ⟨c, c1, c2, c3⟩ := hcell i' e' j a hi' hj
        have hlt : i' * o.k + j < n * o.k := by
          have : i' * o.k + o.k ≤ n * o.k := by rw [← Nat.succ_mul]; exact Nat.mul_le_mul_right _ hin
          omega
        refine ⟨c, ?_, c2, c3.ext x0⟩
        rw [Array.append_assoc, Array.getElem?_append_left (by omega)]
        simp [hlt, c1]
      · rw [List.getElem?_append_right (by simp; omega)] at hi'
        have hil : i' - n < m := by
          have := (List.getElem?_eq_some_iff.1 hi').1
          simp at this
          omega
        rw [List.eq_of_mem_replicate (List.mem_of_getElem? hi')] at hj
        rw [hzeq, List.getElem?_map, Option.map_eq_some_iff] at hj
        obtain ⟨c0, hc0, rfl⟩ := hj
        refine ⟨c0, ?_, h1 c0 (List.mem_of_getElem? hc0), ofCell_rep c0⟩
        have h3 : n * o.k ≤ i' * o.k := Nat.mul_le_mul_right _ hin
        have h4 : (i' - n) * o.k + o.k ≤ m * o.k := by rw [← Nat.succ_mul]; exact Nat.mul_le_mul_right _ hil
        have h5 : i' * o.k + j - n * o.k = (i' - n) * o.k + j := by rw [Nat.sub_mul]; omega
        rw [Array.append_assoc, Array.getElem?_append_right (by omega), hl1, Array.getElem?_append_left (by omega), h5, hk, zeroCells_get hzs hil (by omega)]
        simpa using hc0)
    refine ⟨_, _, _, _, _, ok, by simpa [buiRun] using hrun, hC, g', x0.trans x', ?_⟩
    have := Rep.sref (w := w.drew.alloc (.cells ROW e)) (ρ := updP ρ H.length (some (w.drew.heap.size, G))) (H := H ++ [some ⟨e, o.k, o.es.take n ++ List.replicate m zs⟩]) (ok := ok) (id := H.length) (lo := 0) (n := n + m) (c := G) push_new (b := w.drew.heap.size) (cap := G) (by simp [updP]) (by simp; omega) (fun _ => rfl) hG1 hG2
    simpa using this

/-- slices.overlaps of slices of two objects: no. -/
theorem callB_overlaps {f : FuncId} {fn : Func} {t e tR : TypeId} {x y : AV} {id lo dn id' lo' dn' : Nat} {o o' : AObj} {C : AV → Heap → Prop} {b : Bx C} (hf : E.P.funcs[f]? = some fn) (hname : (fn.name == "runtime.NumGoroutine") = false) (hb : fn.body.isNone = true)
    (hn : Extern.findNext fn = none) (hfind : Extern.find fn = some (Extern.SlicesOverlaps.overlaps #[t, t] #[tR])) (he : elemOf E.P t = some e) (hkn : knownT E.P e = true)
    (hx : x = .sref id lo dn ∨ ∃ N, x = .full id lo dn N) (ho : H[id]? = some (some o)) (hy : y = .sref id' lo' dn' ∨ ∃ N, y = .full id' lo' dn' N) (ho' : H[id']? = some (some o')) (hne : id ≠ id') (hd : 0 < dn) (hd' : 0 < dn') (hk' : 0 < o'.k)
    (hC : C (.sc (.bool false)) H) : CallB E f [x, y] H C b := by
  refine .inr ⟨⟨_, _, hC⟩, fun w ρ ok vs g hsz hr => ?_⟩
  obtain ⟨vx, vy, rfl⟩ := size2 hsz
  obtain ⟨b1, cap, c, rfl, hρ, hcap, hmx⟩ := dst_rep g hx ho hd (hr 0 vx _ rfl rfl)
  obtain ⟨b2, cap', c', rfl, hρ', hcap', hmx'⟩ := dst_rep g hy ho' hd' (hr 1 vy _ rfl rfl)
  have hob := g.obj id o ho
  rw [hρ] at hob
  obtain ⟨cur, hb1, _, _, _, _⟩ := hob.cells hmx
  have hob' := g.obj id' o' ho'
  rw [hρ'] at hob'
  obtain ⟨cur', hb2, hs', _, _, _⟩ := hob'.cells hmx'
  have hbne : b1 ≠ b2 := fun e0 => hne (g.inj id o b1 cap id' o' cap' ho hρ ho' (e0 ▸ hρ'))
  have h1 := Lib.run_overlaps_apart (P := E.P) w t tR e (elemOf_sound he) (szOf E.P e) (fun w => run_sizeOf' hkn w) ⟨b1, lo * o.k, none⟩ ⟨b2, lo' * o'.k, none⟩ dn c dn' c' hbne o.ty o'.ty cur.size cur'.size (by simp [World.shape?, hb1]) (by simp [World.shape?, hb2])
    (by have := Nat.mul_pos (show 0 < cap' by omega) hk'; omega) (by simp [World.frozen?, hb1]) (by simp [World.frozen?, hb1])
  refine ⟨.bool false, w, _, _, ρ, ok, ?_, hC, g, Ext.refl _ _ _ _, .sc⟩
  rw [run_callFunc_extern hf hname hb hn hfind, h1]
  rfl
theorem lit0 {x y : Value} {h1 : #[x, y].size = 2} {h2 : 0 < 2} : (#[x, y] : Array Value).getLit 0 h1 h2 = x := rfl
theorem lit1 {x y : Value} {h1 : #[x, y].size = 2} {h2 : 1 < 2} : (#[x, y] : Array Value).getLit 1 h1 h2 = y := rfl
theorem run_overlaps_own {P : Program} (w : World) (tS tR e : TypeId) (ht : P.underlying tS = some (.slice e)) (size : Nat) (hz : ∀ w, (Go.sizeOf e).run P w = .ok size w)
    (a b : Addr) (la ca lb cb : Nat) (hne : a.block ≠ b.block) (tA tB : TypeId) (kA kB : Nat) (hsa : w.shape? a.block = some (tA, kA)) (hsb : w.shape? b.block = some (tB, kB)) (hkA : kA ≠ 0)
    (hfb : w.frozen? b = false) (hfe : w.frozen? ⟨b.block, kB, none⟩ = false) :
    (Extern.SlicesOverlaps.overlaps #[tS, tS] #[tR] #[.slice (some a) la ca, .slice (some b) lb cb]).run P w = .ok (.bool false) w := by
  have hnb : (a.block != b.block) = true := by simpa using hne
  have hnb' : (a.block == b.block) = false := by simpa using hne
  obtain ⟨kA, rfl⟩ : ∃ m, kA = m + 1 := ⟨kA - 1, by omega⟩
  delta Extern.SlicesOverlaps.overlaps Extern.SlicesOverlaps.overlaps.match_4 Extern.SlicesOverlaps.overlaps._sparseCasesOn_4
  simp only [List.size_toArray, List.length_cons, List.length_nil, dite_true]
  dsimp only [lit0, lit1]
  by_cases h0 : la = 0 ∨ lb = 0 ∨ size = 0
  · simp [run_underlying ht, hz, h0]
  · cases hfa : w.frozen? a <;> cases hfa' : w.frozen? { block := a.block, off := kA + 1 } <;> simp [run_underlying ht, hz, h0, hnb, hnb', frozen, noView, viewAt, mayBeOne, stringish, shape, Sem.run, hsa, hsb, hfa, hfb, hfe, hfa']

/-- slices.overlaps of a slice that nobody writes and one of an object: no. -/
theorem callB_overlapsL {f : FuncId} {fn : Func} {t e tR : TypeId} {y : AV} {e0 : List AV} {es : List (List AV)} {k id' lo' dn' : Nat} {o' : AObj} {C : AV → Heap → Prop} {b : Bx C} (hf : E.P.funcs[f]? = some fn) (hname : (fn.name == "runtime.NumGoroutine") = false) (hb : fn.body.isNone = true)
    (hn : Extern.findNext fn = none) (hfind : Extern.find fn = some (Extern.SlicesOverlaps.overlaps #[t, t] #[tR])) (he : elemOf E.P t = some e) (hkn : knownT E.P e = true)
    (hk0 : e0 ≠ []) (hy : y = .sref id' lo' dn' ∨ ∃ N, y = .full id' lo' dn' N) (ho' : H[id']? = some (some o')) (hd' : 0 < dn')
    (hC : C (.sc (.bool false)) H) : CallB E f [.list k (e0 :: es), y] H C b := by
  refine .inr ⟨⟨_, _, hC⟩, fun w ρ ok vs g hsz hr => ?_⟩
  obtain ⟨vx, vy, rfl⟩ := size2 hsz
  have rx := hr 0 vx _ rfl rfl
  obtain ⟨b2, cap', c', rfl, hρ', hcap', hmx'⟩ := dst_rep g hy ho' hd' (hr 1 vy _ rfl rfl)
  have hob' := g.obj id' o' ho'
  rw [hρ'] at hob'
  obtain ⟨cur', hb2, hs', _, _, _⟩ := hob'.cells hmx'
  cases rx with
  | @list ad n c _ _ fv hn' hnc hok hkk hcc h1 hh =>
    obtain ⟨a0, e1, rfl⟩ := List.exists_cons_of_ne_nil hk0
    have hc0 := hcc 0 (a0 :: e1) 0 a0 rfl rfl
    have hne : ad.block ≠ b2 := fun e' => (g.own id' o' b2 cap' ho' hρ').1 (e' ▸ hok)
    obtain ⟨tA, kA, hsa, hkA⟩ : ∃ tA kA, w.shape? ad.block = some (tA, kA) ∧ kA ≠ 0 := by
      unfold World.cell? at hc0
      rw [block_add] at hc0
      unfold World.shape?
      cases hb : w.heap[ad.block]? with
      | none => simp [hb] at hc0
      | some x =>
        cases x with
        | cells cs el fz =>
          simp only [hb] at hc0
          split at hc0
          · cases hc0
          · exact ⟨el, cs.size, rfl, fun h0 => by
              have := (Array.getElem?_eq_some_iff.1 hc0).1
              omega⟩
        | _ => simp [hb] at hc0
    have h1 := run_overlaps_own (P := E.P) w t tR e (elemOf_sound he) (szOf E.P e) (fun w => run_sizeOf' hkn w) ad ⟨b2, lo' * o'.k, none⟩ n c dn' c' hne tA o'.ty kA cur'.size hsa (by simp [World.shape?, hb2]) hkA (by simp [World.frozen?, hb2]) (by simp [World.frozen?, hb2])
    refine ⟨.bool false, w, _, _, ρ, ok, ?_, hC, g, Ext.refl _ _ _ _, .sc⟩
    rw [run_callFunc_extern hf hname hb hn hfind, h1]
    rfl
/-! The same, the object written out, what it becomes under a name. -/
theorem buiB_copyE {t t' e : TypeId} {x y : AV} {id lo dn ty k m : Nat} {es news es' : List (List AV)} {C : AV → Heap → Prop} {b : Bx C} (ho : H[id]? = some (some ⟨ty, k, es⟩)) (hx : x = .sref id lo dn ∨ ∃ N, x = .full id lo dn N) (he : elemOf E.P t = some e)
    (hk : k = szOf E.P e) (hk0 : 0 < k) (hkn : knownT E.P e = true) (hs : srcEs E.P e H y = some news) (hnl : news.length = m) (hl : m ≤ dn) (hpos : 0 < m) (hp : lo ≤ es.length) (hes : es.take lo ++ news ++ es.drop (lo + m) = es')
    (hC : C (.sc (goInt m)) (H.set id (some ⟨ty, k, es'⟩))) : BuiB E .copy #[t, t'] [x, y] H C b := by
  subst hes; subst hnl
  exact buiB_copy hx ho he hk hk0 hkn hs hl hpos hp hC
theorem buiB_copyS {t t' e : TypeId} {x : AV} {id lo dn id2 lo2 m2 N2 ty k : Nat} {es news es' : List (List AV)} {C : AV → Heap → Prop} {b : Bx C} (ho : H[id]? = some (some ⟨ty, k, es⟩)) (hx : x = .sref id lo dn ∨ ∃ N, x = .full id lo dn N) (he : elemOf E.P t = some e)
    (hk : k = szOf E.P e) (hk0 : 0 < k) (hkn : knownT E.P e = true) (hs : srcEs E.P e H (.full id2 lo2 dn N2) = some news) (hnl : news.length = dn) (hm2 : dn ≤ m2) (hpos : 0 < dn) (hp : lo ≤ es.length) (hes : es.take lo ++ news ++ es.drop (lo + dn) = es')
    (hC : C (.sc (goInt dn)) (H.set id (some ⟨ty, k, es'⟩))) : BuiB E .copy #[t, t'] [x, .full id2 lo2 m2 N2] H C b := by
  subst hes; subst hnl
  exact buiB_copy_short hx ho he hk hk0 hkn hs rfl hm2 hpos hp hC
theorem buiB_clearE {t e : TypeId} {x : AV} {id lo dn ty k : Nat} {es es' : List (List AV)} {zs : List AV} {C : AV → Heap → Prop} {b : Bx C} (ho : H[id]? = some (some ⟨ty, k, es⟩)) (hx : x = .sref id lo dn ∨ ∃ N, x = .full id lo dn N) (he : elemOf E.P t = some e)
    (hk : k = szOf E.P e) (hk0 : 0 < k) (hz : zeros E.P e = some zs) (hpos : 0 < dn) (hp : lo ≤ es.length) (hes : es.take lo ++ List.replicate dn zs ++ es.drop (lo + dn) = es') (hC : C (.tup []) (H.set id (some ⟨ty, k, es'⟩))) : BuiB E .clear #[t] [x] H C b := by
  subst hes
  exact buiB_clear hx ho he hk hk0 hz hpos hp hC
theorem buiB_appendE {t e : TypeId} {y : AV} {id n N ty k m L : Nat} {es news es' : List (List AV)} {C : AV → Heap → Prop} {b : Bx C} (ho : H[id]? = some (some ⟨ty, k, es⟩)) (he : elemOf E.P t = some e)
    (hk : k = szOf E.P e) (hk0 : 0 < k) (hkn : knownT E.P e = true) (hs : srcEs E.P e H y = some news) (hnl : news.length = m) (hl : n + m ≤ N) (hpos : 0 < m) (hp : n ≤ es.length) (hes : es.take n ++ news ++ es.drop L = es') (hL : n + m = L)
    (hC : C (.full id 0 L N) (H.set id (some ⟨ty, k, es'⟩))) : BuiB E .append #[t, t] [.full id 0 n N, y] H C b := by
  subst hL; subst hes; subst hnl
  exact buiB_append_in ho he hk hk0 hkn hs hl hpos hp hC
theorem buiB_appendN {t e : TypeId} {id n N k0 L : Nat} {o : AObj} {C : AV → Heap → Prop} {b : Bx C} (ho : H[id]? = some (some o)) (he : elemOf E.P t = some e) (hkn : knownT E.P e = true) (hl : n ≤ N) (hL : n = L)
    (hC : C (.full id 0 L N) H) : BuiB E .append #[t, t] [.full id 0 n N, .list k0 []] H C b := by
  subst hL
  refine ⟨⟨_, _, hC⟩, fun w ρ ok ty vs g hsz hr => ?_⟩
  obtain ⟨vx, vy, rfl⟩ := size2 hsz
  have rx := hr 0 vx _ rfl rfl
  have ry := hr 1 vy _ rfl rfl
  have : ∃ A c, vy = .slice A 0 c := by
    cases ry with
    | listNil => exact ⟨_, _, rfl⟩
    | list f hn _ _ _ _ _ _ => subst hn; exact ⟨_, _, rfl⟩
  obtain ⟨A, c, rfl⟩ := this
  cases rx with
  | fullDead hd _ => rw [ho] at hd; cases hd
  | @full _ _ _ _ o' b' ho' hρ hn hN =>
    refine ⟨.slice (some ⟨b', 0 * o'.k, none⟩) n (N - 0), w, _, _, ρ, ok, ?_, hC, g, Ext.refl _ _ _ _, .full ho' hρ (by omega) hN⟩
    cases A <;> simp [buiRun, Builtin.append_, run_underlying (elemOf_sound he), Builtin.lenOf, run_sizeOf' hkn, hl, Builtin.firstCells, loadCells, loadCellsFrom, storeCells]
theorem buiB_makeE {t tn e : TypeId} {id n N m ty k L : Nat} {es : List (List AV)} {zs : List AV} {x : Int} {kq kn : IntKind} {C : AV → Heap → Prop} {b : Bx C} (ho : H[id]? = some (some ⟨ty, k, es⟩)) (he : elemOf E.P t = some e) (htn : E.P.underlying tn = some (.int kn))
    (hk : k = szOf E.P e) (hk0 : 0 < k) (hty : ty = e) (hz : zeros E.P e = some zs) (hp : n ≤ es.length) (hx : x = (m : Int)) (hpos : 0 < m) (hL : n + m = L) (hroom : N < L) (h63 : L ≤ 9223372036854775807) (hb : L * bytesOf E.P e ≤ 140737488355328)
    (hC : C (.sref H.length 0 L) (H ++ [some ⟨ty, k, es.take n ++ List.replicate m zs⟩])) : BuiB E .append #[t, tn] [.full id 0 n N, .sc (.int kq x)] H C b := by
  subst hL; subst hx; subst hty
  exact buiB_append_make ho he htn hk hk0 rfl hz hp hpos hroom h63 hb hC
end

theorem args_fnc {H : Heap} {g : FuncId} {cs cs' xs ys : List AV} (h : cs.map (viewR H) = cs') (hi : ∀ c, c ∈ cs' → Imm c) (ht : Args H xs ys) : Args H (.fn g cs :: xs) (.fn g cs' :: ys) :=
  args_cons.2 ⟨⟨by rw [view_fn, h]; exact .refl _, by rw [view_fn, h]; exact imm_fn.2 hi⟩, ht⟩
theorem encL_takeE {α : Type} (enc : α → List AV) (l : List α) (i : Nat) : (encL enc l).take i = encL enc (l.take i) := by simp [encL, List.map_take]
theorem encL_dropE {α : Type} (enc : α → List AV) (l : List α) (i : Nat) : (encL enc l).drop i = encL enc (l.drop i) := by simp [encL, List.map_drop]
theorem encL_appE {α : Type} (enc : α → List AV) (l m : List α) : encL enc l ++ encL enc m = encL enc (l ++ m) := by simp [encL]
theorem encL_getE {α : Type} (enc : α → List AV) (l : List α) (i : Nat) : (encL enc l)[i]? = (l[i]?).map enc := by simp [encL]
/-- A slice that has elements: its capacity is some number. -/
theorem mfun_full {P : Program} {row src : Option Nat} {f : FuncId} {args : List AV} {id n : Nat} {o : AObj} {H : Heap} {C : AV → Heap → Prop} (ho : H[id]? = some (some o)) (hne : o.es ≠ []) (hn : n ≤ o.es.length)
    (h : ∀ N, o.es.length ≤ N → MFun P row src f (.full id 0 n N :: args) H C) : MFun P row src f (.sref id 0 n :: args) H C := by
  intro E hP hrow hsrc
  refine ⟨(h o.es.length (Nat.le_refl _) E hP hrow hsrc).1, fun w ρ ok vs g hs hr => ?_⟩
  have h0 : 0 < vs.size := by rw [hs]; simp
  have hv := hr 0 vs[0] (.sref id 0 n) (Array.getElem?_eq_getElem h0) rfl
  have key : ∃ N, o.es.length ≤ N ∧ Rep w ρ H ok vs[0] (.full id 0 n N) := by
    have hobj := g.obj id o ho
    generalize vs[0] = v at hv
    cases hv with
    | srefDead hd _ => rw [ho] at hd; cases hd
    | srefNil ho' hρ =>
      rw [hρ] at hobj
      exact absurd hobj hne
    | @sref _ _ _ c o' b cap ho' hρ hn' hc hnc hcap =>
      rw [ho] at ho'
      simp only [Option.some.injEq] at ho'
      subst ho'
      rw [hρ] at hobj
      obtain ⟨_, _, _, hl, _, _⟩ := hobj.cells hcap
      have := hc rfl
      subst this
      exact ⟨c, hl, .full ho hρ (by omega) hcap⟩
  obtain ⟨N, hN, hrep⟩ := key
  refine (h N hN E hP hrow hsrc).2 w ρ ok vs g hs fun i v a hv ha => ?_
  match i, hv, ha with
  | 0, hv, ha =>
    rw [Array.getElem?_eq_getElem h0] at hv
    simp only [Option.some.injEq] at hv
    subst hv
    simp only [List.getElem?_cons_zero, Option.some.injEq] at ha
    subst ha
    exact hrep
  | i + 1, hv, ha => exact hr (i + 1) v a hv ha
/-- .. and is forgotten again. -/
theorem mfun_unfull {P : Program} {row src : Option Nat} {f : FuncId} {args : List AV} {H : Heap} {C D : AV → Heap → Prop} (h : MFun P row src f args H C)
    (hd : ∀ r H', C r H' → D r H' ∨ ∃ id n N o, r = .full id 0 n N ∧ H'[id]? = some (some o) ∧ n ≤ o.es.length ∧ D (.sref id 0 n) H') : MFun P row src f args H D := by
  intro E hP hrow hsrc
  obtain ⟨⟨x0, H0, h0⟩, hw⟩ := h E hP hrow hsrc
  refine ⟨?_, fun w ρ ok vs g hs hr => (hw w ρ ok vs g hs hr).mono ?_⟩
  · rcases hd _ _ h0 with h1 | ⟨_, _, _, _, _, _, _, h1⟩ <;> exact ⟨_, _, h1⟩
  · rintro e w' ⟨v, x, H', ρ', ok', rfl, hc, g', x', r'⟩
    rcases hd _ _ hc with h1 | ⟨id, n, N, o, rfl, ho, hn, h1⟩
    · exact ⟨v, x, H', ρ', ok', rfl, h1, g', x', r'⟩
    · refine ⟨v, _, H', ρ', ok', rfl, h1, g', x', ?_⟩
      cases r' with
      | fullDead hd' _ => rw [ho] at hd'; cases hd'
      | @full _ _ _ _ o' b ho' hρ hn' hN =>
        rw [ho] at ho'
        simp only [Option.some.injEq] at ho'
        subst ho'
        exact .sref ho hρ (by omega) (fun _ => by omega) (by omega) hN

/-! ### An operation that may be taken first -/
def pickOk (ops : Array Oper) (S T : List Nat) (listed : Array Bool) (i : Nat) : Bool :=
  let A := ancs ops.toList []
  ((List.range ops.size).all fun j => match ops[j]? with
    | none => true
    | some o => !listed.getD j false || o.after.toList.all fun e => !Region.binds .any e || listed.getD e.on false) &&
  (decide (i ∈ Region.ready .any ops listed) && match ops[i]? with
    | none => false
    | some oi => (List.range ops.size).all fun j => match ops[j]? with
      | none => true
      | some oj => decide (j = i) || (listed.getD j true || ((A.getD j 0).testBit i || (oi.apart ops oj && swapOk S T i j oi oj))))
theorem xany_pick {E : Env} {ops : Array Oper} {D : Nat → Bool} {S T : List Nat} {K : St → Prop} {n : Nat} (i : Nat) {oi : Oper} {listed : Array Bool} {s : St} (hi : ops[i]? = some oi) (hc : pickOk ops S T listed i = true)
    (h : AXOps D E ops S T [oi] i s (fun s' => XAny D E ops S T K n (listed.setIfInBounds i true) s')) : XAny D E ops S T K (n + 1) listed s := by
  unfold pickOk at hc
  simp only [Bool.and_eq_true, decide_eq_true_eq] at hc
  obtain ⟨h1, h2, h3⟩ := hc
  rw [hi] at h3
  refine xany_first hi n listed s (fun j o ho hj e he hb => ?_) (fun j oj hoj hji hun hanc => ?_) h2 h
  · have := List.all_eq_true.1 h1 j (List.mem_range.2 (Array.getElem?_eq_some_iff.1 ho).1)
    simp only [ho, hj, Bool.not_true, Bool.false_or] at this
    have := List.all_eq_true.1 this e (by simpa using he)
    simpa [hb] using this
  · have := List.all_eq_true.1 h3 j (List.mem_range.2 (Array.getElem?_eq_some_iff.1 hoj).1)
    simp only [hoj, hji, hun, hanc, decide_false, Bool.false_or, Bool.and_eq_true] at this
    exact this

/-- Slices whose object may have more rows. -/
def SlIsT (H : Heap) (x : AV) (k : Nat) (es : List (List AV)) : Prop := x = .list k es ∨ (x = .nil ∧ es = []) ∨ ∃ id ty tl, x = .sref id 0 es.length ∧ H[id]? = some (some ⟨ty, k, es ++ tl⟩)
theorem SlIsT.kept {H H' : Heap} {x : AV} {k : Nat} {es : List (List AV)} (h : SlIsT H x k es) (hk : Kept [] H H') : SlIsT H' x k es := by
  rcases h with h | h | ⟨id, ty, tl, h1, h2⟩
  · exact .inl h
  · exact .inr (.inl h)
  · exact .inr (.inr ⟨id, ty, tl, h1, hk id _ (by simp) h2⟩)
theorem SlIsT.len {H : Heap} {x : AV} {k : Nat} {es : List (List AV)} (h : SlIsT H x k es) : alen H x = some (es.length : Int) := by
  rcases h with h | ⟨rfl, rfl⟩ | ⟨id, ty, tl, rfl, h2⟩
  · subst h; rfl
  · rfl
  · simp only [alen, h2]
theorem SlIsT.idx {P : Program} {t e : TypeId} {H : Heap} {x : AV} {k : Nat} {es : List (List AV)} (h : SlIsT H x k es) (ht : Go.PA.elemOf P t = some e) (hk : k = szOf P e) (hn : knownT P e = true) (i : Nat) (hi : i < es.length) :
    ∃ a, aindexAddr P t H x i = some a ∧ addrCells H a = some es[i] := by
  rcases h with h | ⟨rfl, rfl⟩ | ⟨id, ty, tl, rfl, h2⟩
  · subst h
    refine ⟨.iref es[i], ?_, rfl⟩
    rw [aix_list ht]
    simp [hk, hn, hi]
  · simp at hi
  · have hi' : i < es.length + tl.length := by omega
    refine ⟨.ref id i 0, ?_, ?_⟩
    · rw [aix_sref ht]
      simp [h2, hk, hn, hi, hi']
    · rw [addr_ref]
      simp [h2, List.getElem?_append_left hi, hi]
end Go.PA
