/- PA, part 3: the operations that only read: one function 'aval', and its soundness. -/
import Derived.Test.YtellcfkpfccgaaaPa2
namespace Go.PA
open Go.RowKit

def apart (P : Program) (t : TypeId) (cs : List AV) (off : Nat) : Option AV :=
  if (P.underlying t).isSome && knownT P t then
    (if aggOf P t then (if off + szOf P t ≤ cs.length then some (.agg ((cs.drop off).take (szOf P t))) else none) else cs[off]?)
  else none

def aindexAddr (P : Program) (t : TypeId) (H : Heap) (x : AV) (n : Int) : Option AV :=
  match elemOf P t, arrOf P t with
  | some e, _ => match x with
    | .list k es => if k = szOf P e ∧ knownT P e ∧ 0 ≤ n then (es[n.toNat]?).map .iref else none
    | .sref id lo m => match H[id]? with
      | some (some o) => if o.k = szOf P e ∧ knownT P e ∧ 0 ≤ n ∧ n < m then some (.ref id (lo + n.toNat) 0) else none
      | _ => none
    | _ => none
  | none, some (len, e) => if knownT P e ∧ 0 ≤ n ∧ n < len then match x with
      | .ref id i j => if (addrCells H (.ref id i j)).isSome then some (.ref id i (j + n.toNat * szOf P e)) else none
      | .iref cs => some (.iref (cs.drop (n.toNat * szOf P e)))
      | _ => none
    else none
  | none, none => none

def alen (H : Heap) : AV → Option Int
  | .nil => some 0
  | .list _ es => some es.length
  | .sref id _ n => match H[id]? with
    | some (some _) => some n
    | _ => none
  | _ => none

def amaxFrom (k : IntKind) : Int → List AV → Option AV
  | a, [] => some (.sc (.int k a))
  | a, .sc (.int k' b) :: r => if k = k' then amaxFrom k (max a b) r else none
  | _, _ => none
def aminFrom (k : IntKind) : Int → List AV → Option AV
  | a, [] => some (.sc (.int k a))
  | a, .sc (.int k' b) :: r => if k = k' then aminFrom k (min a b) r else none
  | _, _ => none
def amax : List AV → Option AV
  | .sc (.int k a) :: r => amaxFrom k a r
  | _ => none
def amin : List AV → Option AV
  | .sc (.int k a) :: r => aminFrom k a r
  | _ => none

def bound (ev : Operand → AV) (d : Int) : Option Operand → Option Int
  | none => some d
  | some x => match ev x with
    | .sc (.int _ n) => some n
    | _ => none

def aslice (P : Program) (t : TypeId) (H : Heap) (x : AV) (lo hi : Option Int) : Option AV :=
  match elemOf P t with
  | none => none
  | some e => if knownT P e = false then none else
    match x with
    | .nil => if lo.getD 0 = 0 ∧ hi.getD 0 = 0 then some .nil else none
    | .list k es =>
      let l := lo.getD 0
      let h := hi.getD es.length
      if k = szOf P e ∧ 0 ≤ l ∧ l ≤ h ∧ h ≤ es.length then some (.list k ((es.take h.toNat).drop l.toNat)) else none
    | .sref id b n =>
      match H[id]? with
      | some (some o) =>
        let l := lo.getD 0
        let h := hi.getD n
        if o.k = szOf P e ∧ 0 ≤ l ∧ l ≤ h ∧ h ≤ n then
          (if b = 0 ∧ l = 0 then some (.sref id 0 h.toNat) else if l = h then some (.list o.k []) else some (.sref id (b + l.toNat) (h - l).toNat))
        else none
      | _ => none
    | _ => none

def apick (x a b : AV) : Option AV := match x with
  | .sc (.bool t) => some (if t then a else b)
  | _ => none
def anil (H : Heap) : AV → Option AV
  | .fn f cs => some (.fn f cs)
  | .sc (.pointer (some a)) => some (.sc (.pointer (some a)))
  | y => if (addrCells H y).isSome then some y else none
def aun (op : UnOp) (x : AV) : Option AV := match op, x with
  | .not, .sc (.bool b) => some (.sc (.bool (!b)))
  | .neg, .sc (.int k n) => some (.sc (.int k (k.wrap (0 - n))))
  | _, _ => none
def aconv (P : Program) (src dst : TypeId) (x : AV) : Option AV := match P.underlying src, P.underlying dst, x with
  | some _, some (.int k), .sc (.int _ n) => some (.sc (.int k (k.wrap n)))
  | some .string, some .string, .sc (.string s) => some (.sc (.string s))
  | _, _, _ => none
def afield (P : Program) (H : Heap) (s : TypeId) (f : Nat) (x : AV) : Option AV := match fieldOf P s f with
  | none => none
  | some (off, _) => match x with
    | .ref id i j => if (addrCells H (.ref id i j)).isSome then some (.ref id i (j + off)) else none
    | .iref cs => some (.iref (cs.drop off))
    | _ => none
def afieldV (P : Program) (s : TypeId) (f : Nat) (x : AV) : Option AV := match fieldOf P s f, x with
  | some (off, ft), .agg cs => apart P ft cs off
  | _, _ => none
def aindex (P : Program) (t : TypeId) (H : Heap) (x ix : AV) : Option AV := match ix with
  | .sc (.int _ n) => aindexAddr P t H x n
  | _ => none
/-- An array's element, or a string's byte. -/
def aixV (P : Program) (t : TypeId) (x ix : AV) : Option AV := match ix with
  | .sc (.int _ n) => match x with
    | .agg cs => match arrOf P t with
      | some (len, e) => if knownT P e = true ∧ 0 ≤ n ∧ n < len then apart P e cs (n.toNat * szOf P e) else none
      | none => none
    | .sc (.string s) => match P.underlying t with
      | some .string => if 0 ≤ n then (s[n.toNat]?).map fun b => .sc (.int .u8 b.toNat) else none
      | _ => none
    | _ => none
  | _ => none
def aextract (x : AV) (i : Nat) : Option AV := match x with
  | .tup vs => vs[i]?
  | _ => none
def asliceOp (P : Program) (t : TypeId) (H : Heap) (x : AV) (lo hi : Option Operand) (ev : Operand → AV) : Option AV := match x with
  | .sc (.string s) => match P.underlying t, bound ev 0 lo, bound ev s.size hi with
    | some .string, some l, some h => if 0 ≤ l ∧ l ≤ h ∧ h ≤ s.size then some (.sc (.string (s.extract l.toNat h.toNat))) else none
    | _, _, _ => none
  | y => match lo.isSome, bound ev 0 lo, hi.isSome, bound ev 0 hi with
    | bl, some l, bh, some h => aslice P t H y (if bl then some l else none) (if bh then some h else none)
    | _, _, _, _ => none
def alenOp (P : Program) (t : TypeId) (H : Heap) (x : AV) : Option AV := match P.underlying t, x with
  | some (.slice _), y => (alen H y).map fun n => .sc (.int .i64 n)
  | some .string, .sc (.string s) => some (.sc (.int .i64 s.size))
  | _, _ => none

/-! ### Maps -/

def entsOf : List (List AV) → Option (List (Value × AV))
  | [] => some []
  | [.sc k, a] :: r => (entsOf r).map ((k, a) :: ·)
  | _ => none

/-- A map's entries. -/
def ents (H : Heap) : AV → Option (List (Value × AV))
  | .imap es => some (es.map fun e => (e.1, .sc e.2))
  | .mref id => match H[id]? with
    | some (some o) => entsOf o.es
    | _ => none
  | _ => none

def afind (d : TypeDesc) (k : Value) : List (Value × AV) → Option (Option AV)
  | [] => some none
  | e :: es => match Instr.sameNow d k e.1 with
    | some true => some (some e.2)
    | some false => afind d k es
    | none => none

def isKeyB : TypeDesc → Value → Bool
  | .bool, .bool _ => true
  | .int k, .int k' _ => decide (k' = k)
  | .string, .string _ => true
  | _, _ => false

def mapOf (P : Program) (t : TypeId) : Option (TypeId × TypeDesc × TypeId) := match P.underlying t with
  | some (.map kt et) => (P.underlying kt).map fun d => (kt, d, et)
  | _ => none

def azero1 (P : Program) (t : TypeId) : Option AV := match (P.info? t).bind (·.zero) with
  | some z => some (ofCell z)
  | none => none

def alookup (P : Program) (t : TypeId) (H : Heap) (x k : AV) (ok : Bool) : Option AV := match mapOf P t, k, ents H x with
  | some (_, d, et), .sc kv, some es => if isKeyB d kv then (match afind d kv es with
    | some (some a) => some (if ok then .tup [a, .sc (.bool true)] else a)
    | some none => (azero1 P et).map fun z => if ok then .tup [z, .sc (.bool false)] else z
    | none => none) else none
  | _, _, _ => none

def aentry (H : Heap) (x : AV) : Option AV := match x with
  | .miter id => match H[id]? with
    | some (some o) => match o.es with
      | [[.sc k, .sc v, _]] => some (.tup [.sc k, .sc v])
      | _ => none
    | _ => none
  | _ => none

def aval (P : Program) (op : Op) (ev : Operand → AV) (H : Heap) : Option AV :=
  match op with
  | .move x | .assign x => some (ev x)
  | .pick c a b => apick (ev c) (ev a) (ev b)
  | .load t a => (addrCells H (ev a)).bind (aload P t)
  | .nilCheck x => anil H (ev x)
  | .binOp op t x y _ => abin P op t (ev x) (ev y)
  | .unOp op _ x => aun op (ev x)
  | .convert src dst x => aconv P src dst (ev x)
  | .fieldAddr s x f => afield P H s f (ev x)
  | .field s x f => afieldV P s f (ev x)
  | .indexAddr t x ix => aindex P t H (ev x) (ev ix)
  | .index t x ix => aixV P t (ev x) (ev ix)
  | .extract x i => aextract (ev x) i
  | .lookup t x k ok => alookup P t H (ev x) (ev k) ok
  | .entry it => aentry H (ev it)
  | .makeFunc (.func f) first caps => if first.size = 0 then some (.fn f (caps.toList.map ev)) else none
  | .slice t x lo hi none => asliceOp P t H (ev x) lo hi ev
  | .call c => match c.callee with
    | .builtin .len => match c.args.toList, c.argTypes.toList with
      | [x], [t] => alenOp P t H (ev x)
      | _, _ => none
    | .builtin .max => amax (c.args.toList.map ev)
    | .builtin .min => amin (c.args.toList.map ev)
    | _ => none
  | _ => none

section
variable {E : Env} {w : World} {ρ : Places} {H : Heap} {ok : Nat → Prop}

theorem rep_sc {v u : Value} (h : Rep w ρ H ok v (.sc u)) : v = u := by cases h; rfl

theorem rep_live_ref {id i j : Nat} {v : Value} {as : List AV} (h : Rep w ρ H ok v (.ref id i j)) (hl : addrCells H (.ref id i j) = some as) :
    ∃ o b cap, H[id]? = some (some o) ∧ ρ id = some (b, cap) ∧ cap ≤ maxLen ∧ v = .pointer (some ⟨b, i * o.k + j, none⟩) := by
  cases h with
  | ref ho hρ hcap => exact ⟨_, _, _, ho, hρ, hcap, rfl⟩
  | refDead hd _ => simp [addrCells, hd] at hl

theorem fieldOf_sound {P : Program} {s : TypeId} {f off : Nat} {ft : TypeId} (h : fieldOf P s f = some (off, ft)) :
    ∃ fs x, P.underlying s = some (.struct fs) ∧ fs[f]? = some x ∧ x.offset = off ∧ x.type = ft ∧ szOf P ft ≠ 0 ∧ knownT P ft = true := by
  unfold fieldOf at h
  split at h
  · rename_i fs hs
    rw [Option.bind_eq_some_iff] at h
    obtain ⟨x, hx, h⟩ := h
    split at h
    · cases h
    · rename_i hz
      simp only [Option.some.injEq, Prod.mk.injEq] at h
      obtain ⟨rfl, rfl⟩ := h
      refine ⟨fs, x, hs, hx, rfl, rfl, hz, ?_⟩
      unfold knownT
      cases hi : P.info? x.type with
      | none => simp [szOf, hi] at hz
      | some i => rfl
  · cases h

theorem run_fieldAt {P : Program} {s : TypeId} {f off : Nat} {ft : TypeId} (h : fieldOf P s f = some (off, ft)) (ad : Addr) (w : World) :
    (Instr.fieldAt s (.pointer (some ad)) f).run P w = .ok (.pointer (some (ad.add off))) w := by
  obtain ⟨fs, x, hs, hx, rfl, rfl, hz, hk⟩ := fieldOf_sound h
  simp [Instr.fieldAt, run_underlying hs, hx, Instr.sureAddr, fieldPlace, run_sizeOf' hk, hz]

theorem apart_sound {P : Program} {t : TypeId} {cs : Array Value} {as : List AV} {off : Nat} {x : AV} (hn : cs.size = as.length)
    (hc : ∀ (i : Nat) (c : Value) (a : AV), cs[i]? = some c → as[i]? = some a → Rep w ρ H ok c a) (h : apart P t as off = some x) :
    ∃ v, (part t cs off).run P w = .ok v w ∧ Rep w ρ H ok v x := by
  unfold apart at h
  split at h
  · rename_i hk
    simp only [Bool.and_eq_true] at hk
    obtain ⟨d, hd⟩ := Option.isSome_iff_exists.1 hk.1
    split at h
    · rename_i hag
      split at h
      · rename_i hle
        simp only [Option.some.injEq] at h
        subst h
        refine ⟨.agg (cs.extract off (off + szOf P t)), ?_, .agg ?_ (fun i c a hi ha => ?_)⟩
        · simp [part, run_isAgg' hd, hag, run_sizeOf' hk.2]
        · simp; omega
        · rw [List.getElem?_take] at ha
          split at ha
          · rw [List.getElem?_drop] at ha
            rw [Array.getElem?_extract] at hi
            split at hi
            · exact hc _ _ _ hi ha
            · cases hi
          · cases ha
      · cases h
    · rename_i hag
      have hlt : off < as.length := (List.getElem?_eq_some_iff.1 h).1
      have hv : cs[off]? = some (cs[off]'(by omega)) := Array.getElem?_eq_getElem (by omega)
      refine ⟨cs[off]'(by omega), ?_, hc _ _ _ hv h⟩
      simp [part, run_isAgg' hd, hag, hv]
  · cases h

theorem elemOf_sound {P : Program} {t e : TypeId} (h : elemOf P t = some e) : P.underlying t = some (.slice e) := by
  unfold elemOf at h
  split at h
  · rename_i e' he
    simp only [Option.some.injEq] at h
    subst h; exact he
  · cases h
theorem arrOf_sound {P : Program} {t e : TypeId} {n : Nat} (h : arrOf P t = some (n, e)) : P.underlying t = some (.array n e) := by
  unfold arrOf at h
  split at h
  · rename_i n' e' he
    simp only [Option.some.injEq, Prod.mk.injEq] at h
    obtain ⟨rfl, rfl⟩ := h; exact he
  · cases h

theorem cells_iref {ad : Addr} {k : Nat} {es : List (List AV)} {f : Nat → Nat → Value} (hok : ok ad.block)
    (hc : ∀ (i : Nat) (e : List AV) (j : Nat) (a : AV), es[i]? = some e → e[j]? = some a → w.cell? (ad.add (i * k + j)) = some (f i j))
    (h1 : ∀ (i : Nat) (e : List AV) (j : Nat) (a : AV), es[i]? = some e → e[j]? = some a → (f i j).oneCell' = true)
    (h : ∀ (i : Nat) (e : List AV) (j : Nat) (a : AV), es[i]? = some e → e[j]? = some a → Rep w ρ H ok (f i j) a) {i : Nat} {e : List AV} (he : es[i]? = some e) :
    Rep w ρ H ok (.pointer (some (ad.add (i * k)))) (.iref e) := by
  refine .iref (f i) (by rw [block_add]; exact hok) (fun j a hj => ?_) (fun j a hj => h1 i e j a he hj) (fun j a hj => h i e j a he hj)
  rw [add_add]
  exact hc i e j a he hj

theorem rep_iref_drop {v : Value} {cs : List AV} (h : Rep w ρ H ok v (.iref cs)) (off : Nat) : ∃ ad, v = .pointer (some ad) ∧ Rep w ρ H ok (.pointer (some (ad.add off))) (.iref (cs.drop off)) := by
  cases h with
  | iref f hok hc h1 h =>
    refine ⟨_, rfl, .iref (fun j => f (off + j)) (by rw [block_add]; exact hok) (fun j a hj => ?_) (fun j a hj => ?_) (fun j a hj => ?_)⟩ <;> rw [List.getElem?_drop] at hj
    · rw [add_add]; exact hc _ _ hj
    · exact h1 _ _ hj
    · exact h _ _ hj

theorem rep_ref_add {v : Value} {id i j off : Nat} {as : List AV} (h : Rep w ρ H ok v (.ref id i j)) (hl : addrCells H (.ref id i j) = some as) :
    ∃ ad, v = .pointer (some ad) ∧ Rep w ρ H ok (.pointer (some (ad.add off))) (.ref id i (j + off)) := by
  obtain ⟨o, b, cap, ho, hρ, hcap, rfl⟩ := rep_live_ref h hl
  refine ⟨_, rfl, ?_⟩
  rw [add_mk, Nat.add_assoc]
  exact .ref ho hρ hcap

theorem run_indexSlice {P : Program} {t e : TypeId} (he : P.underlying t = some (.slice e)) (hk : knownT P e = true) (ad : Addr) (n c : Nat) (k : IntKind) (i : Int) (h0 : 0 ≤ i) (h1 : i < n) (w : World) :
    (Instr.indexAt t (.slice (some ad) n c) (.int k i)).run P w = .ok (.pointer (some (ad.add (i.toNat * szOf P e)))) w := by
  simp [Instr.indexAt, run_underlying he, asIntOf, h0, h1, run_sizeOf' hk]

theorem run_indexArr {P : Program} {t e : TypeId} {n : Nat} (he : P.underlying t = some (.array n e)) (hk : knownT P e = true) (ad : Addr) (k : IntKind) (i : Int) (h0 : 0 ≤ i) (h1 : i < n) (w : World) :
    (Instr.indexAt t (.pointer (some ad)) (.int k i)).run P w = .ok (.pointer (some (ad.add (i.toNat * szOf P e)))) w := by
  simp [Instr.indexAt, run_underlying he, asIntOf, h0, h1, Instr.sureAddr, run_sizeOf' hk]

theorem aindexAddr_sound {t : TypeId} {v : Value} {x y : AV} {k : IntKind} {n : Int} (hx : Rep w ρ H ok v x) (h : aindexAddr E.P t H x n = some y) :
    ∃ u, (Instr.indexAt t v (.int k n)).run E.P w = .ok u w ∧ Rep w ρ H ok u y := by
  unfold aindexAddr at h
  split at h
  · rename_i e he
    have he := elemOf_sound he
    split at h
    · rename_i k' es
      split at h
      · rename_i hc
        obtain ⟨rfl, hk, h0⟩ := hc
        rw [Option.map_eq_some_iff] at h
        obtain ⟨el, hel, rfl⟩ := h
        have hlt : n.toNat < es.length := (List.getElem?_eq_some_iff.1 hel).1
        cases hx with
        | listNil => simp at hlt
        | list f hn hnc hok hkk hcell h1 hr =>
          exact ⟨_, run_indexSlice he hk _ _ _ k n h0 (by omega) w, cells_iref hok hcell h1 hr hel⟩
      · cases h
    · rename_i id lo m
      split at h
      · rename_i o ho
        split at h
        · rename_i hc
          obtain ⟨hk', hk, h0, hm⟩ := hc
          simp only [Option.some.injEq] at h
          subst h
          cases hx with
          | srefDead hd _ => rw [ho] at hd; cases hd
          | srefNil _ _ => omega
          | sref ho' hρ hn hcc hnc hcap =>
            rw [ho] at ho'
            simp only [Option.some.injEq] at ho'
            subst ho'
            refine ⟨_, ?_, .ref ho hρ hcap⟩
            rw [run_indexSlice he hk _ _ _ k n h0 hm w, add_mk, ← hk', Nat.add_zero, Nat.add_mul]
        · cases h
      · cases h
    · cases h
  · rename_i len e _ he
    have he := arrOf_sound he
    split at h
    · rename_i hc
      obtain ⟨hk, h0, hlt⟩ := hc
      have hrun := fun ad => run_indexArr he hk ad k n h0 hlt w
      split at h
      · rename_i id i j
        split at h
        · rename_i hs
          obtain ⟨as, has⟩ := Option.isSome_iff_exists.1 hs
          simp only [Option.some.injEq] at h
          subst h
          obtain ⟨ad, rfl, hr⟩ := rep_ref_add hx has
          exact ⟨_, hrun ad, hr⟩
        · cases h
      · simp only [Option.some.injEq] at h
        subst h
        obtain ⟨ad, rfl, hr⟩ := rep_iref_drop hx (n.toNat * szOf E.P e)
        exact ⟨_, hrun ad, hr⟩
      · cases h
    · cases h
  · cases h

theorem run_slice {P : Program} {t e : TypeId} (he : P.underlying t = some (.slice e)) (hk : knownT P e = true) (A : Option Addr) (n c l h : Nat) (lo hi : Option Value)
    (hlo : lo = none ∧ l = 0 ∨ ∃ k, lo = some (.int k l)) (hhi : hi = none ∧ h = n ∨ ∃ k, hi = some (.int k h)) (hlh : l ≤ h) (hhc : h ≤ c) (w : World) :
    (Instr.sliceAt t (.slice A n c) lo hi none).run P w = .ok (.slice (if c = l then A else A.map (·.add (l * szOf P e))) (h - l) (c - l)) w := by
  have e1 : ((l : Int)).toNat = l := rfl
  have e2 : ((h : Int)).toNat = h := rfl
  have h3 : (l : Int) ≤ h := by omega
  have h4 : (h : Int) ≤ c := by omega
  have h5 : (0 : Int) ≤ (l : Int) := by omega
  have h6 : (0 : Int) ≤ (h : Int) := by omega
  rcases hlo with ⟨rfl, rfl⟩ | ⟨k1, rfl⟩ <;> rcases hhi with ⟨rfl, rfl⟩ | ⟨k2, rfl⟩ <;>
    simp [Instr.sliceAt, Instr.slice, run_underlying he, Instr.sliceBounds, Instr.sliceBound, asIntOf, run_sizeOf' hk, *]

theorem aslice_sound {t : TypeId} {v : Value} {x y : AV} {lo hi : Option Int} {vlo vhi : Option Value} (hx : Rep w ρ H ok v x)
    (hlo : vlo = none ∧ lo = none ∨ ∃ k l, vlo = some (.int k l) ∧ lo = some l) (hhi : vhi = none ∧ hi = none ∨ ∃ k l, vhi = some (.int k l) ∧ hi = some l)
    (h : aslice E.P t H x lo hi = some y) : ∃ u, (Instr.sliceAt t v vlo vhi none).run E.P w = .ok u w ∧ Rep w ρ H ok u y := by
  have conv : ∀ {o : Option Int} {vo : Option Value} (d : Nat), (vo = none ∧ o = none ∨ ∃ k l, vo = some (.int k l) ∧ o = some l) → 0 ≤ o.getD d →
      (vo = none ∧ (o.getD d).toNat = d ∨ ∃ k, vo = some (.int k (((o.getD d).toNat : Nat) : Int))) := by
    intro o vo d ho h0
    rcases ho with ⟨rfl, rfl⟩ | ⟨k, l, rfl, rfl⟩
    · exact .inl ⟨rfl, rfl⟩
    · refine .inr ⟨k, ?_⟩
      simp only [Option.getD_some] at h0 ⊢
      rw [Int.toNat_of_nonneg h0]
  unfold aslice at h
  split at h
  · cases h
  · rename_i e he
    have he := elemOf_sound he
    split at h
    · cases h
    · rename_i hk
      simp only [Bool.not_eq_false] at hk
      split at h
      · split at h
        · rename_i hc
          simp only [Option.some.injEq] at h
          subst h
          cases hx
          refine ⟨_, run_slice he hk none 0 0 0 0 vlo vhi ?_ ?_ (Nat.le_refl _) (Nat.le_refl _) w, by simpa using Rep.nil⟩
          · have := conv 0 hlo (by simp [hc.1])
            simpa [hc.1] using this
          · have := conv 0 hhi (by simp [hc.2])
            simpa [hc.2] using this
        · cases h
      · rename_i k es
        simp only [] at h
        split at h
        · rename_i hc
          obtain ⟨rfl, h0, hlh, hhn⟩ := hc
          simp only [Option.some.injEq] at h
          subst h
          have hl := conv 0 hlo (by simpa using h0)
          have hh := conv es.length hhi (by omega)
          simp only [Int.natCast_zero] at hl
          generalize hL : (lo.getD 0).toNat = L at *
          generalize hU : (hi.getD (es.length : Int)).toNat = U at *
          have hLU : L ≤ U := by omega
          have hUn : U ≤ es.length := by omega
          have hlen : ((es.take U).drop L).length = U - L := by simp; omega
          cases hx with
          | @listNil A c k =>
            simp only [List.length_nil, Nat.le_zero] at hUn
            subst hUn
            have : L = 0 := by omega
            subst this
            exact ⟨_, run_slice he hk A 0 c 0 0 vlo vhi hl hh (Nat.le_refl _) (Nat.zero_le _) w, by simpa using Rep.listNil⟩
          | @list ad n c k es f hn hnc hok hkk hcell h1 hr =>
            subst hn
            refine ⟨_, run_slice he hk (some ad) es.length c L U vlo vhi hl hh hLU (by omega) w, ?_⟩
            by_cases hz : U - L = 0
            · have : (es.take U).drop L = [] := List.eq_nil_of_length_eq_zero (by omega)
              rw [this, hz]
              exact .listNil
            · rw [if_neg (by omega)]
              refine .list (fun i j => f (L + i) j) hlen (by omega) (by rw [block_add]; exact hok) (fun e' he' => hkk e' (List.mem_of_mem_take (List.mem_of_mem_drop he'))) (fun i e' j a hi hj => ?_) (fun i e' j a hi hj => ?_) (fun i e' j a hi hj => ?_)
              all_goals
                rw [List.getElem?_drop, List.getElem?_take] at hi
                split at hi
                case isFalse => cases hi
              · rw [add_add, show L * szOf E.P e + (i * szOf E.P e + j) = (L + i) * szOf E.P e + j from by rw [Nat.add_mul, Nat.add_assoc]]
                exact hcell _ _ _ _ hi hj
              · exact h1 _ _ _ _ hi hj
              · exact hr _ _ _ _ hi hj
        · cases h
      · rename_i id b n
        split at h
        · rename_i o ho
          simp only [] at h
          split at h
          · rename_i hc
            obtain ⟨hk', h0, hlh, hhn⟩ := hc
            have hl := conv 0 hlo (by simpa using h0)
            have hh := conv n hhi (by omega)
            simp only [Int.natCast_zero] at hl
            generalize hL : (lo.getD 0).toNat = L at *
            generalize hU : (hi.getD (n : Int)).toNat = U at *
            have hLU : L ≤ U := by omega
            have hUn : U ≤ n := by omega
            cases hx with
            | srefDead hd _ => rw [ho] at hd; cases hd
            | srefNil ho' hρ =>
              have hU0 : U = 0 := by omega
              have hL0 : L = 0 := by omega
              subst hU0; subst hL0
              refine ⟨_, run_slice he hk none 0 0 0 0 vlo vhi hl hh (Nat.le_refl _) (Nat.le_refl _) w, ?_⟩
              rw [if_pos ⟨rfl, by omega⟩] at h
              simp only [Option.some.injEq] at h
              subst h
              exact .srefNil ho' hρ
            | @sref _ _ _ c o' blk cap ho' hρ hn hcc hnc hcap =>
              rw [ho] at ho'
              simp only [Option.some.injEq] at ho'
              subst ho'
              refine ⟨_, run_slice he hk (some ⟨blk, b * o.k, none⟩) n c L U vlo vhi hl hh hLU (by omega) w, ?_⟩
              split at h
              · rename_i hb
                obtain ⟨rfl, hl0⟩ := hb
                have hL0 : L = 0 := by omega
                subst hL0
                simp only [Option.some.injEq] at h
                subst h
                have e1 : (if c = 0 then some (⟨blk, 0 * o.k, none⟩ : Addr) else (some (⟨blk, 0 * o.k, none⟩ : Addr)).map (·.add (0 * szOf E.P e))) = some ⟨blk, 0 * o.k, none⟩ := by
                  split
                  · rfl
                  · simp [Addr.add]
                rw [e1]
                exact .sref ho hρ (by omega) (fun _ => by have := hcc rfl; omega) (by omega) hcap
              · rename_i hb
                split at h
                · rename_i hle
                  simp only [Option.some.injEq] at h
                  subst h
                  have : U - L = 0 := by omega
                  rw [this]
                  exact .listNil
                · rename_i hle
                  simp only [Option.some.injEq] at h
                  subst h
                  have hlt : L < U := by omega
                  rw [if_neg (by omega)]
                  have e2 : (hi.getD (n : Int) - lo.getD 0).toNat = U - L := by omega
                  rw [e2, Option.map_some, add_mk, ← hk', ← Nat.add_mul]
                  exact .sref ho hρ (by omega) (fun hz => absurd ⟨by omega, by omega⟩ hb) (by omega) hcap
          · cases h
        · cases h
      · cases h

theorem rep_ints {as : List AV} {vs : List Value} (h : ∀ (i : Nat) (c : Value) (a : AV), vs[i]? = some c → as[i]? = some a → Rep w ρ H ok c a) (hl : vs.length = as.length) {us : List Value} (hu : scs as = some us) : vs = us := by
  have e := scs_rep (w := w) (ρ := ρ) (H := H) (ok := ok) hu
  subst e
  apply List.ext_getElem?
  intro i
  by_cases hi : i < us.length
  · have h1 : us[i]? = some us[i] := List.getElem?_eq_getElem hi
    have h2 : vs[i]? = some (vs[i]'(by simp at hl; omega)) := List.getElem?_eq_getElem (by simp at hl; omega)
    have := rep_sc (h i _ (.sc us[i]) h2 (by simp [h1]))
    rw [h1, h2, this]
  · simp at hl
    rw [List.getElem?_eq_none (by omega), List.getElem?_eq_none (by omega)]

theorem eqFields_run {P : Program} {w : World} (d : Nat) (xs ys : Array Value) : ∀ (fs : List Field) (i : Nat) (ks : List Kd) (vs us : List Value) (b : Bool), flatSig P i fs = some ks → alikeT ks vs us = some b →
    (∀ (j : Nat) (v : Value), vs[j]? = some v → xs[i + j]? = some v) → (∀ (j : Nat) (v : Value), us[j]? = some v → ys[i + j]? = some v) → (Op.eqFields (d + 1) xs ys fs).run P w = .ok b w
  | [], i, ks, vs, us, b, hk, hb, hx, hy => by
    simp only [flatSig, Option.some.injEq] at hk
    subst hk
    match vs, us, hb with
    | [], [], hb => simp only [alikeT, Option.some.injEq] at hb; subst hb; rfl
  | f :: fs, i, ks, vs, us, b, hk, hb, hx, hy => by
    simp only [flatSig] at hk
    split at hk
    · rename_i hf
      split at hk
      · rename_i k ks' hkd hks
        simp only [Option.some.injEq] at hk
        subst hk
        match vs, us, hb with
        | v :: vs, u :: us, hb =>
          simp only [alikeT] at hb
          split at hb
          · rename_i b1 b2 hb1 hb2
            simp only [Option.some.injEq] at hb
            have hv := hx 0 v rfl
            have hu := hy 0 u rfl
            rw [Nat.add_zero] at hv hu
            have ih := eqFields_run (P := P) (w := w) d xs ys fs (i + 1) ks' vs us b2 hks hb2 (fun j v h => by rw [Nat.add_assoc, Nat.add_comm 1 j]; exact hx (j + 1) v h) (fun j v h => by rw [Nat.add_assoc, Nat.add_comm 1 j]; exact hy (j + 1) v h)
            have part_run : ∀ (cs : Array Value) (c : Value), cs[i]? = some c → (part f.type cs f.offset).run P w = .ok c w := fun cs c hc => by
              rw [hf.2]
              unfold kdOf at hkd
              cases hu : P.underlying f.type with
              | none => rw [hu] at hkd; cases hkd
              | some dsc =>
                have hag : aggOf P f.type = false := by
                  rw [hu] at hkd
                  cases dsc <;> simp_all [aggOf]
                simp [part, run_isAgg' hu, hag, hc]
            have eq_run : (Op.equalIn (d + 1) f.type v u).run P w = .ok b1 w := by
              unfold kdOf at hkd
              split at hkd
              · rename_i k0 hu0
                simp only [Option.some.injEq] at hkd
                subst hkd
                unfold alike1 at hb1
                split at hb1
                · rename_i k1 a1 k2 a2 _
                  split at hb1
                  · rename_i hkk
                    subst hkk
                    simp only [Option.some.injEq] at hb1
                    subst hb1
                    rw [run_equalIn_int w d f.type k1 k0 a1 a2 hu0]
                    rfl
                  · cases hb1
                · rename_i h1; cases h1
                · rename_i h1; cases h1
                · cases hb1
              · rename_i hu0
                simp only [Option.some.injEq] at hkd
                subst hkd
                unfold alike1 at hb1
                split at hb1
                · rename_i h1; cases h1
                · simp only [Option.some.injEq] at hb1
                  subst hb1
                  rw [run_equalIn_bool' w d f.type _ _ hu0]
                  rfl
                · rename_i h1; cases h1
                · cases hb1
              · rename_i hu0
                simp only [Option.some.injEq] at hkd
                subst hkd
                unfold alike1 at hb1
                split at hb1
                · rename_i h1; cases h1
                · rename_i h1; cases h1
                · simp only [Option.some.injEq] at hb1
                  subst hb1
                  rw [run_equalIn_string w d f.type _ _ hu0, bytes_eq]
                · cases hb1
              · cases hkd
            simp only [Op.eqFields, if_pos hf.1, Sem.run_bind, part_run xs v hv, part_run ys u hu, Result.andThen_ok, eq_run, Sem.run_ite]
            subst hb
            cases b1
            · simp
            · simpa using ih
          · cases hb
      · cases hk
    · cases hk

/-- The model's '==' and '!=' at such a struct type. -/
theorem eqFlat {P : Program} {t : TypeId} {sg : List Kd} {vs us : List Value} {b : Bool} (hsg : sigOf P t = some sg) (hb : alikeT sg vs us = some b) (x y : Operand) (w : World) :
    (eqGuard .eql t x y (.agg vs.toArray) (.agg us.toArray)).run P w = .ok () w ∧ (binOp .eql t (.agg vs.toArray) (.agg us.toArray)).run P w = .ok (.bool b) w ∧
    (eqGuard .neq t x y (.agg vs.toArray) (.agg us.toArray)).run P w = .ok () w ∧ (binOp .neq t (.agg vs.toArray) (.agg us.toArray)).run P w = .ok (.bool (!b)) w := by
  unfold sigOf at hsg
  split at hsg
  · rename_i hc
    split at hsg
    · rename_i fs hu
      have hfs : P.fieldsOf t = fs := by simp [Program.fieldsOf, hu]
      have hr : (Op.equalIn 10000 t (.agg vs.toArray) (.agg us.toArray)).run P w = .ok b w := by
        rw [run_equalIn_struct w 9999 t _ _ (by rw [hu, hfs]) hc.1, hfs]
        exact eqFields_run 9998 _ _ fs.toList 0 sg vs us b hsg hb (fun j v h => by simpa using h) (fun j v h => by simpa using h)
      refine ⟨run_eqGuard_agg w _ t x y _ _ hc.2, ?_, run_eqGuard_agg w _ t x y _ _ hc.2, ?_⟩
      · rw [run_eql_struct, hr]; rfl
      · rw [run_neq_struct, hr]; rfl
    · cases hsg
  · cases hsg

theorem abin_sound {op : BinOp} {t : TypeId} {v u : Value} {x y z : AV} (p q : Operand) (hx : Rep w ρ H ok v x) (hy : Rep w ρ H ok u y) (h : abin E.P op t x y = some z) :
    ∃ r, (eqGuard op t p q v u).run E.P w = .ok () w ∧ (binOp op t v u).run E.P w = .ok r w ∧ Rep w ρ H ok r z := by
  unfold abin at h
  split at h
  · rename_i k a k' b
    rw [rep_sc hx, rep_sc hy]
    split at h
    · rename_i hk
      subst hk
      obtain ⟨r, hr, rfl⟩ := aint_sound (P := E.P) (w := w) t h
      exact ⟨r, run_eqGuard_plain _ _ _ _ _ _ (.inl ⟨_, _, rfl⟩), hr, .sc⟩
    · cases h
  · rename_i a b
    rw [rep_sc hx, rep_sc hy]
    split at h
    · rename_i hu
      simp only [Option.some.injEq] at h
      subst h
      refine ⟨_, run_eqGuard_plain _ _ _ _ _ _ (.inr (.inl ⟨_, rfl⟩)), ?_, .sc⟩
      simp only [binOp, Op.equal, Op.maxDepth, Sem.run_bind, run_equalIn_bool w _ t a b hu, Result.andThen_ok, Sem.run_pure]
      rfl
    · rename_i hu
      simp only [Option.some.injEq] at h
      subst h
      refine ⟨_, run_eqGuard_plain _ _ _ _ _ _ (.inr (.inl ⟨_, rfl⟩)), ?_, .sc⟩
      simp only [binOp, Op.equal, Op.maxDepth, Sem.run_bind, run_equalIn_bool w _ t a b hu, Result.andThen_ok, Sem.run_pure]
      rfl
    · cases h
  · rename_i a b
    rw [rep_sc hx, rep_sc hy]
    split at h <;> simp only [Option.some.injEq, reduceCtorEq] at h <;> subst h <;>
      refine ⟨_, run_eqGuard_plain _ _ _ _ _ _ (.inr (.inr ⟨_, rfl⟩)), ?_, .sc⟩ <;> simp [binOp, Op.stringOp, bytes_eq]
  · rename_i xs ys
    unfold aagg at h
    split at h
    · rename_i sg vs us hsg hvs hus
      cases hx with
      | agg hn1 hr1 =>
      cases hy with
      | agg hn2 hr2 =>
      rename_i cs ds
      have e1 := rep_ints (vs := cs.toList) (by simpa using hr1) (by simpa using hn1) hvs
      have e2 := rep_ints (vs := ds.toList) (by simpa using hr2) (by simpa using hn2) hus
      have e1' : cs = vs.toArray := by rw [← e1]
      have e2' : ds = us.toArray := by rw [← e2]
      subst e1'; subst e2'
      split at h
      · rename_i b hb
        simp only [Option.some.injEq] at h
        subst h
        obtain ⟨h1, h2, _, _⟩ := eqFlat hsg hb p q w
        exact ⟨_, h1, h2, .sc⟩
      · rename_i b hb
        simp only [Option.some.injEq] at h
        subst h
        obtain ⟨_, _, h1, h2⟩ := eqFlat hsg hb p q w
        exact ⟨_, h1, h2, .sc⟩
      · cases h
    · cases h
  · have key : ∀ b, nilB x = some b → ∃ A l c, v = .slice A l c ∧ A.isNone = b := fun b hb => by
      unfold nilB at hb
      split at hb
      · simp only [Option.some.injEq] at hb
        subst hb
        cases hx
        exact ⟨none, 0, 0, rfl, rfl⟩
      · rename_i a l c
        simp only [Option.some.injEq] at hb
        exact ⟨a, l, c, rep_sc hx, hb⟩
      · simp only [Option.some.injEq] at hb
        subst hb
        cases hx with
        | list f hn hnc hok hk hc h1 hr => exact ⟨_, _, _, rfl, rfl⟩
      · cases hb
    cases hy
    split at h
    · rename_i e b he hb
      obtain ⟨A, l, c, rfl, hA⟩ := key b hb
      simp only [Option.some.injEq] at h
      subst h
      refine ⟨_, run_eqGuard_slice _ _ _ _ _ _ _ _, ?_, .sc⟩
      simp only [binOp]
      simp [run_equal_slice_nil w t e A l c (elemOf_sound he), hA]
    · rename_i e b he hb
      obtain ⟨A, l, c, rfl, hA⟩ := key b hb
      simp only [Option.some.injEq] at h
      subst h
      refine ⟨_, run_eqGuard_slice _ _ _ _ _ _ _ _, ?_, .sc⟩
      rw [run_neq_slice_nil w t e A l c (elemOf_sound he), hA]
    · cases h
  · cases h

theorem amaxFrom_sound {k : IntKind} : ∀ {as : List AV} {vs : List Value} {a : Int} {x : AV}, vs.length = as.length → (∀ (i : Nat) (c : Value) (a : AV), vs[i]? = some c → as[i]? = some a → Rep w ρ H ok c a) → amaxFrom k a as = some x →
    ∃ r, (vs.foldlM Builtin.max2 (.int k a)).run E.P w = .ok r w ∧ x = .sc r
  | [], vs, a, x, hl, _, h => by
    have : vs = [] := List.eq_nil_of_length_eq_zero hl
    subst this
    simp only [amaxFrom, Option.some.injEq] at h
    subst h
    exact ⟨_, rfl, rfl⟩
  | .sc (.int k' b) :: as, v :: vs, a, x, hl, hr, h => by
    have hv := rep_sc (hr 0 v _ rfl rfl)
    subst hv
    simp only [amaxFrom] at h
    split at h
    · rename_i hk
      subst hk
      obtain ⟨r, h1, h2⟩ := amaxFrom_sound (by simpa using hl) (fun i c a hi ha => hr (i + 1) c a hi ha) h
      refine ⟨r, ?_, h2⟩
      simp only [List.foldlM_cons, Sem.run_bind, Builtin.max2, Sem.run_pure, Result.andThen_ok]
      have e : (if b > a then b else a) = max a b := by omega
      rw [e]
      exact h1
    · cases h
  | .sc (.int k' b) :: as, [], a, x, hl, hr, h => by simp at hl
  | .sc (.bool _) :: _, _, _, _, _, _, h | .sc (.float _ _) :: _, _, _, _, _, _, h | .sc (.complex _ _ _) :: _, _, _, _, _, _, h | .sc (.string _) :: _, _, _, _, _, _, h | .sc (.pointer _) :: _, _, _, _, _, _, h
  | .sc (.slice _ _ _) :: _, _, _, _, _, _, h | .sc (.map _) :: _, _, _, _, _, _, h | .sc (.chan _) :: _, _, _, _, _, _, h | .sc (.func _ _ _) :: _, _, _, _, _, _, h | .sc .nilFunc :: _, _, _, _, _, _, h
  | .sc (.iface _ _) :: _, _, _, _, _, _, h | .sc .nilIface :: _, _, _, _, _, _, h | .sc (.agg _) :: _, _, _, _, _, _, h | .sc (.tuple _) :: _, _, _, _, _, _, h
  | .junk :: _, _, _, _, _, _, h | .agg _ :: _, _, _, _, _, _, h | .tup _ :: _, _, _, _, _, _, h | .nil :: _, _, _, _, _, _, h | .list _ _ :: _, _, _, _, _, _, h | .ref _ _ _ :: _, _, _, _, _, _, h | .sref _ _ _ :: _, _, _, _, _, _, h
  | .iref _ :: _, _, _, _, _, _, h | .fn _ _ :: _, _, _, _, _, _, h | .imap _ :: _, _, _, _, _, _, h | .mref _ :: _, _, _, _, _, _, h | .miter _ :: _, _, _, _, _, _, h => by simp [amaxFrom] at h

theorem aminFrom_sound {k : IntKind} : ∀ {as : List AV} {vs : List Value} {a : Int} {x : AV}, vs.length = as.length → (∀ (i : Nat) (c : Value) (a : AV), vs[i]? = some c → as[i]? = some a → Rep w ρ H ok c a) → aminFrom k a as = some x →
    ∃ r, (vs.foldlM Builtin.min2 (.int k a)).run E.P w = .ok r w ∧ x = .sc r
  | [], vs, a, x, hl, _, h => by
    have : vs = [] := List.eq_nil_of_length_eq_zero hl
    subst this
    simp only [aminFrom, Option.some.injEq] at h
    subst h
    exact ⟨_, rfl, rfl⟩
  | .sc (.int k' b) :: as, v :: vs, a, x, hl, hr, h => by
    have hv := rep_sc (hr 0 v _ rfl rfl)
    subst hv
    simp only [aminFrom] at h
    split at h
    · rename_i hk
      subst hk
      obtain ⟨r, h1, h2⟩ := aminFrom_sound (by simpa using hl) (fun i c a hi ha => hr (i + 1) c a hi ha) h
      refine ⟨r, ?_, h2⟩
      simp only [List.foldlM_cons, Sem.run_bind, Builtin.min2, Sem.run_pure, Result.andThen_ok]
      have e : (if b < a then b else a) = min a b := by omega
      rw [e]
      exact h1
    · cases h
  | .sc (.int k' b) :: as, [], a, x, hl, hr, h => by simp at hl
  | .sc (.bool _) :: _, _, _, _, _, _, h | .sc (.float _ _) :: _, _, _, _, _, _, h | .sc (.complex _ _ _) :: _, _, _, _, _, _, h | .sc (.string _) :: _, _, _, _, _, _, h | .sc (.pointer _) :: _, _, _, _, _, _, h
  | .sc (.slice _ _ _) :: _, _, _, _, _, _, h | .sc (.map _) :: _, _, _, _, _, _, h | .sc (.chan _) :: _, _, _, _, _, _, h | .sc (.func _ _ _) :: _, _, _, _, _, _, h | .sc .nilFunc :: _, _, _, _, _, _, h
  | .sc (.iface _ _) :: _, _, _, _, _, _, h | .sc .nilIface :: _, _, _, _, _, _, h | .sc (.agg _) :: _, _, _, _, _, _, h | .sc (.tuple _) :: _, _, _, _, _, _, h
  | .junk :: _, _, _, _, _, _, h | .agg _ :: _, _, _, _, _, _, h | .tup _ :: _, _, _, _, _, _, h | .nil :: _, _, _, _, _, _, h | .list _ _ :: _, _, _, _, _, _, h | .ref _ _ _ :: _, _, _, _, _, _, h | .sref _ _ _ :: _, _, _, _, _, _, h
  | .iref _ :: _, _, _, _, _, _, h | .fn _ _ :: _, _, _, _, _, _, h | .imap _ :: _, _, _, _, _, _, h | .mref _ :: _, _, _, _, _, _, h | .miter _ :: _, _, _, _, _, _, h => by simp [aminFrom] at h

theorem run_value {P : Program} {s : Sem Value} {v : Value} (h : s.run P w = .ok v w) : Sem.run P (do pure (Next.value (← s))) w = .ok (.value v) w := by
  simp [h]

theorem alen_sound {P : Program} {t e : TypeId} {v : Value} {x : AV} {n : Int} (ht : P.underlying t = some (.slice e)) (hx : Rep w ρ H ok v x) (h : alen H x = some n) (ty : TypeId) :
    (Builtin.len_ #[t] ty #[v]).run P w = .ok (.int .i64 n) w := by
  cases hx with
  | srefDead hd _ => simp [alen, hd] at h
  | sref ho _ _ _ _ => simp [alen, ho] at h; subst h; simp [Builtin.len_, run_underlying ht, goInt]
  | srefNil ho _ => simp [alen, ho] at h; subst h; simp [Builtin.len_, run_underlying ht, goInt]
  | list f hn _ _ _ _ _ _ => simp [alen] at h; subst h; subst hn; simp [Builtin.len_, run_underlying ht, goInt]
  | nil => simp [alen] at h; subst h; simp [Builtin.len_, run_underlying ht, goInt]
  | listNil => simp [alen] at h; subst h; simp [Builtin.len_, run_underlying ht, goInt]
  | _ => simp [alen] at h

end
end Go.PA
