/- PA, part 1: an abstract machine of one's own over the model's operations: values, what stands for what in memory, how that is kept. No program in sight. -/
import Derived.WalkKit
import Derived.Maps.AppendAt
import Derived.Deep.AppendLies
import Derived.Deep.Draws
import Derived.Laws.Cover3
import Derived.MapKept
namespace Go.PA
open Go.RowKit

/-- An abstract value. 'sc v': just v. 'agg', 'tup': of one-cell parts. 'list k es': a slice that nobody writes any more, its elements of k cells each. 'ref id i j': the address of cell j of element i of the object id. 'sref id lo n': a slice of the object id. 'iref cs': an address where these cells lie, which nobody writes. 'fn': a function value. 'imap': a map that nobody writes any more. 'mref id': the map id, its entries [key, value]. 'miter id': an iterator over a map that nobody writes any more: [key, value, what is left]. -/
inductive AV where
  | junk
  | sc (v : Value)
  | agg (cs : List AV)
  | tup (vs : List AV)
  | nil
  | list (k : Nat) (es : List (List AV))
  | ref (id i j : Nat)
  | sref (id lo n : Nat)
  | iref (cs : List AV)
  | fn (f : FuncId) (caps : List AV)
  | imap (es : List (Value × Value))
  | mref (id : Nat)
  | miter (id : Nat)

instance : Inhabited AV := ⟨.junk⟩

structure AObj where
  ty : TypeId
  k : Nat
  es : List (List AV)

abbrev Heap := List (Option AObj)
abbrev Places := Nat → Option (Nat × Nat)

inductive Rep (w : World) (ρ : Places) (H : Heap) (ok : Nat → Prop) : Value → AV → Prop
  | junk {v} : Rep w ρ H ok v .junk
  | sc {v} : Rep w ρ H ok v (.sc v)
  | agg {cs : Array Value} {as : List AV} (hn : cs.size = as.length) (h : ∀ (i : Nat) (c : Value) (a : AV), cs[i]? = some c → as[i]? = some a → Rep w ρ H ok c a) : Rep w ρ H ok (.agg cs) (.agg as)
  | tup {cs : Array Value} {as : List AV} (hn : cs.size = as.length) (h : ∀ (i : Nat) (c : Value) (a : AV), cs[i]? = some c → as[i]? = some a → Rep w ρ H ok c a) : Rep w ρ H ok (.tuple cs) (.tup as)
  | nil : Rep w ρ H ok (.slice none 0 0) .nil
  | listNil {A c k} : Rep w ρ H ok (.slice A 0 c) (.list k [])
  | list {ad : Addr} {n c k : Nat} {es : List (List AV)} (f : Nat → Nat → Value) (hn : es.length = n) (hnc : n ≤ c) (hok : ok ad.block) (hk : ∀ (e : List AV), e ∈ es → e.length = k)
      (hc : ∀ (i : Nat) (e : List AV) (j : Nat) (a : AV), es[i]? = some e → e[j]? = some a → w.cell? (ad.add (i * k + j)) = some (f i j))
      (h1 : ∀ (i : Nat) (e : List AV) (j : Nat) (a : AV), es[i]? = some e → e[j]? = some a → (f i j).oneCell' = true)
      (h : ∀ (i : Nat) (e : List AV) (j : Nat) (a : AV), es[i]? = some e → e[j]? = some a → Rep w ρ H ok (f i j) a) : Rep w ρ H ok (.slice (some ad) n c) (.list k es)
  | ref {id i j : Nat} {o : AObj} {b cap : Nat} (ho : H[id]? = some (some o)) (hρ : ρ id = some (b, cap)) (hcap : cap ≤ maxLen) : Rep w ρ H ok (.pointer (some ⟨b, i * o.k + j, none⟩)) (.ref id i j)
  | refDead {id i j : Nat} {v : Value} (hd : H[id]? = some none) (h1 : v.oneCell' = true) : Rep w ρ H ok v (.ref id i j)
  | sref {id lo n c : Nat} {o : AObj} {b cap : Nat} (ho : H[id]? = some (some o)) (hρ : ρ id = some (b, cap)) (hn : lo + n ≤ o.es.length) (hc : lo = 0 → c = cap) (hnc : n ≤ c) (hcap : cap ≤ maxLen) :
      Rep w ρ H ok (.slice (some ⟨b, lo * o.k, none⟩) n c) (.sref id lo n)
  | srefNil {id : Nat} {o : AObj} (ho : H[id]? = some (some o)) (hρ : ρ id = none) : Rep w ρ H ok (.slice none 0 0) (.sref id 0 0)
  | srefDead {id lo n : Nat} {v : Value} (hd : H[id]? = some none) (h1 : v.oneCell' = true) : Rep w ρ H ok v (.sref id lo n)
  | iref {ad : Addr} {cs : List AV} (f : Nat → Value) (hok : ok ad.block) (hc : ∀ (j : Nat) (a : AV), cs[j]? = some a → w.cell? (ad.add j) = some (f j)) (h1 : ∀ (j : Nat) (a : AV), cs[j]? = some a → (f j).oneCell' = true)
      (h : ∀ (j : Nat) (a : AV), cs[j]? = some a → Rep w ρ H ok (f j) a) : Rep w ρ H ok (.pointer (some ad)) (.iref cs)
  | fn {f : FuncId} {cs : Array Value} {as : List AV} (hn : cs.size = as.length) (h : ∀ (i : Nat) (c : Value) (a : AV), cs[i]? = some c → as[i]? = some a → Rep w ρ H ok c a) : Rep w ρ H ok (.func (.func f) #[] cs) (.fn f as)
  | imap {b clk : Nat} {ents : Array MapEntry} {es : List (Value × Value)} (hok : ok b) (hb : w.heap[b]? = some (.map ents clk)) (he : ents.toList.map (fun e => (e.key, e.val)) = es) (hw : MapKept.Stamped ents clk) : Rep w ρ H ok (.map (some b)) (.imap es)
  | imapNil : Rep w ρ H ok (.map none) (.imap [])
  | mref {id b : Nat} {o : AObj} (ho : H[id]? = some (some o)) (hρ : ρ id = some (b, maxLen + 1)) : Rep w ρ H ok (.map (some b)) (.mref id)
  | mrefDead {id : Nat} {v : Value} (hd : H[id]? = some none) (h1 : v.oneCell' = true) : Rep w ρ H ok v (.mref id)
  | miter {id b : Nat} {o : AObj} (ho : H[id]? = some (some o)) (hρ : ρ id = some (b, maxLen + 2)) : Rep w ρ H ok (.pointer (some ⟨b, 0, none⟩)) (.miter id)
  | miterDead {id : Nat} {v : Value} (hd : H[id]? = some none) (h1 : v.oneCell' = true) : Rep w ρ H ok v (.miter id)

/-- From one state to a later one: what stood for something stands for it still. -/
structure Ext (w : World) (ρ : Places) (H : Heap) (ok : Nat → Prop) (w' : World) (ρ' : Places) (H' : Heap) (ok' : Nat → Prop) : Prop where
  live : ∀ (id : Nat) (o : AObj), H[id]? = some (some o) → H'[id]? = some none ∨ ∃ o', H'[id]? = some (some o') ∧ ρ' id = ρ id ∧ o'.k = o.k ∧ o.es.length ≤ o'.es.length
  dead : ∀ (id : Nat), H[id]? = some none → H'[id]? = some none
  oks : ∀ b, ok b → ok' b
  blk : ∀ b, ok b → w'.heap[b]? = w.heap[b]?

theorem block_add (a : Addr) (n : Nat) : (a.add n).block = a.block := by unfold Addr.add; split <;> rfl
theorem add_add (a : Addr) (i j : Nat) : (a.add i).add j = a.add (i + j) := by
  unfold Addr.add
  by_cases hi : i = 0 <;> by_cases hj : j = 0 <;> simp [hi, hj, Nat.add_assoc]
theorem add_mk (b o n : Nat) : (⟨b, o, none⟩ : Addr).add n = ⟨b, o + n, none⟩ := by unfold Addr.add; split <;> simp_all

theorem Rep.ext {w w' : World} {ρ ρ' : Places} {H H' : Heap} {ok ok' : Nat → Prop} (h : Ext w ρ H ok w' ρ' H' ok') {v : Value} {a : AV} (r : Rep w ρ H ok v a) : Rep w' ρ' H' ok' v a := by
  induction r with
  | junk => exact .junk
  | sc => exact .sc
  | agg hn _ ih => exact .agg hn ih
  | tup hn _ ih => exact .tup hn ih
  | nil => exact .nil
  | listNil => exact .listNil
  | list f hn hnc hok hk hc h1 _ ih =>
    refine .list f hn hnc (h.oks _ hok) hk (fun i e j a he hj => ?_) h1 ih
    exact (World.cell?_of_block (w := w) (by rw [block_add]; exact h.blk _ hok)).trans (hc i e j a he hj)
  | ref ho hρ hcap =>
    rcases h.live _ _ ho with hd | ⟨o', ho', hρ', hk, _⟩
    · exact .refDead hd rfl
    · rw [← hk]; exact .ref ho' (hρ'.trans hρ) hcap
  | refDead hd h1 => exact .refDead (h.dead _ hd) h1
  | sref ho hρ hn hc hnc hcap =>
    rcases h.live _ _ ho with hd | ⟨o', ho', hρ', hk, hl⟩
    · exact .srefDead hd rfl
    · rw [← hk]; exact .sref ho' (hρ'.trans hρ) (Nat.le_trans hn hl) hc hnc hcap
  | srefNil ho hρ =>
    rcases h.live _ _ ho with hd | ⟨o', ho', hρ', hk, hl⟩
    · exact .srefDead hd rfl
    · exact .srefNil ho' (hρ'.trans hρ)
  | srefDead hd h1 => exact .srefDead (h.dead _ hd) h1
  | iref f hok hc h1 _ ih =>
    refine .iref f (h.oks _ hok) (fun j a hj => ?_) h1 ih
    exact (World.cell?_of_block (w := w) (by rw [block_add]; exact h.blk _ hok)).trans (hc j a hj)
  | fn hn _ ih => exact .fn hn ih
  | imap hok hb he hw => exact .imap (h.oks _ hok) ((h.blk _ hok).trans hb) he hw
  | imapNil => exact .imapNil
  | mref ho hρ =>
    rcases h.live _ _ ho with hd | ⟨o', ho', hρ', _, _⟩
    · exact .mrefDead hd rfl
    · exact .mref ho' (hρ'.trans hρ)
  | mrefDead hd h1 => exact .mrefDead (h.dead _ hd) h1
  | miter ho hρ =>
    rcases h.live _ _ ho with hd | ⟨o', ho', hρ', _, _⟩
    · exact .miterDead hd rfl
    · exact .miter ho' (hρ'.trans hρ)
  | miterDead hd h1 => exact .miterDead (h.dead _ hd) h1

theorem Ext.refl (w : World) (ρ : Places) (H : Heap) (ok : Nat → Prop) : Ext w ρ H ok w ρ H ok :=
  ⟨fun _ o h => .inr ⟨o, h, rfl, rfl, Nat.le_refl _⟩, fun _ h => h, fun _ h => h, fun _ _ => rfl⟩

theorem Ext.trans {w1 w2 w3 : World} {ρ1 ρ2 ρ3 : Places} {H1 H2 H3 : Heap} {ok1 ok2 ok3 : Nat → Prop} (h : Ext w1 ρ1 H1 ok1 w2 ρ2 H2 ok2) (k : Ext w2 ρ2 H2 ok2 w3 ρ3 H3 ok3) : Ext w1 ρ1 H1 ok1 w3 ρ3 H3 ok3 :=
  ⟨fun id o ho => by
    rcases h.live id o ho with hd | ⟨o2, ho2, hρ2, hk2, hl2⟩
    · exact .inl (k.dead _ hd)
    · rcases k.live id o2 ho2 with hd | ⟨o3, ho3, hρ3, hk3, hl3⟩
      · exact .inl hd
      · exact .inr ⟨o3, ho3, hρ3.trans hρ2, hk3.trans hk2, Nat.le_trans hl2 hl3⟩,
   fun id hd => k.dead _ (h.dead _ hd), fun b hb => k.oks _ (h.oks _ hb), fun b hb => (k.blk _ (h.oks _ hb)).trans (h.blk _ hb)⟩

/-- The source of numbers that all generators share: a block of two cells: a slice of ints that nobody writes, and where it stands. -/
def SrcOk (src : Option Nat) (w : World) (p : Nat) : Prop :=
  ∃ (cur : Array Value) (A : Option Addr) (len c : Nat) (at_ : Nat) (ty : TypeId), (w.heap[p]? = some (.cells cur ty (0, 0)) ∧ cur[0]? = some (.slice A len c) ∧ cur[1]? = some (.int .i64 at_)) ∧ at_ ≤ len ∧ len ≤ 900 ∧
    ∀ i, i < len → ∃ (ad : Addr) (x : Int), A = some ad ∧ src = some ad.block ∧ ad.block ≠ p ∧ w.cell? (ad.add i) = some (.int .i64 x) ∧ -9223372036854775808 ≤ x ∧ x ≤ 9223372036854775807

def Inv (row src : Option Nat) (ok : Nat → Prop) (w : World) : Prop := (∀ b, src = some b → ok b) ∧ ∀ p, row = some p → SrcOk src w p

def szOf (P : Program) (t : TypeId) : Nat := ((P.info? t).map (·.size)).getD 0

inductive Kd where
  | int
  | bool
  | str

def kdOf (P : Program) (t : TypeId) : Option Kd := match P.underlying t with
  | some (.int _) => some .int
  | some .bool => some .bool
  | some .string => some .str
  | _ => none

/-- A struct type whose parts are numbers, bools and strings, one behind the other. -/
def flatSig (P : Program) : Nat → List Field → Option (List Kd)
  | _, [] => some []
  | i, f :: fs => if f.name ≠ "_" ∧ f.offset = i then match kdOf P f.type, flatSig P (i + 1) fs with
    | some k, some ks => some (k :: ks)
    | _, _ => none
    else none
def sigOf (P : Program) (t : TypeId) : Option (List Kd) := if P.stoodInHeld t = false ∧ P.eqGuardType P.depth t = false then match P.underlying t with
    | some (.struct fs) => flatSig P 0 fs.toList
    | _ => none
  else none

def alike1 : Kd → Value → Value → Option Bool
  | .int, .int k a, .int k' b => if k = k' then some (decide (a = b)) else none
  | .bool, .bool a, .bool b => some (decide (a = b))
  | .str, .string a, .string b => some (decide (a = b))
  | _, _, _ => none

def alikeT : List Kd → List Value → List Value → Option Bool
  | [], [], [] => some true
  | k :: ks, v :: vs, u :: us => match alike1 k v u, alikeT ks vs us with
    | some b, some c => some (b && c)
    | _, _ => none
  | _, _, _ => none

structure Env where
  P : Program
  w0 : World
  okA : Nat → Prop
  row : Option Nat
  src : Option Nat
  N : Nat
  W : Nat → Prop
  ρ0 : Places
  H0 : Heap

def CellsOk (w : World) (ρ : Places) (H : Heap) (ok : Nat → Prop) (o : AObj) (b cap : Nat) : Prop :=
  ∃ cur : Array Value, w.heap[b]? = some (.cells cur o.ty (0, 0)) ∧ cur.size = cap * o.k ∧ o.es.length ≤ cap ∧ cap ≤ maxLen ∧
      ∀ (i : Nat) (e : List AV) (j : Nat) (a : AV), o.es[i]? = some e → e[j]? = some a → ∃ c, cur[i * o.k + j]? = some c ∧ c.oneCell' = true ∧ Rep w ρ H ok c a

/-- A map: its entries, in the order in which they came. -/
def MapOk (w : World) (ρ : Places) (H : Heap) (ok : Nat → Prop) (o : AObj) (b : Nat) : Prop :=
  o.k = 2 ∧ ∃ (ents : Array MapEntry) (clk : Nat), w.heap[b]? = some (.map ents clk) ∧ MapKept.Stamped ents clk ∧ ents.size = o.es.length ∧
      ∀ (i : Nat) (x : MapEntry) (e : List AV), ents[i]? = some x → o.es[i]? = some e → ∃ a, e = [.sc x.key, a] ∧ Rep w ρ H ok x.val a

/-- An iterator over a map that nobody writes any more. -/
def IterOk (w : World) (ok : Nat → Prop) (o : AObj) (b : Nat) : Prop :=
  o.k = 3 ∧ ((o.es = [[.junk, .junk, .imap []]] ∧ w.heap[b]? = some (.mapIter none 0 #[] 0)) ∨
    ∃ (m clk : Nat) (seen : Array Nat) (ents : Array MapEntry) (c1 c2 : AV), w.heap[b]? = some (.mapIter (some m) clk seen clk) ∧ ok m ∧ w.heap[m]? = some (.map ents clk) ∧ MapKept.Stamped ents clk ∧
      o.es = [[c1, c2, .imap ((ents.toList.filter fun e => !seen.contains e.born).map fun e => (e.key, e.val))]] ∧
      ((c1 = .junk ∧ c2 = .junk) ∨ ∃ x ∈ ents.toList, seen.back? = some x.born ∧ c1 = .sc x.key ∧ c2 = .sc x.val))

def ObjOk (w : World) (ρ : Places) (H : Heap) (ok : Nat → Prop) (o : AObj) : Option (Nat × Nat) → Prop
  | none => o.es = []
  | some (b, cap) => CellsOk w ρ H ok o b cap ∨ (cap = maxLen + 1 ∧ MapOk w ρ H ok o b) ∨ (cap = maxLen + 2 ∧ IterOk w ok o b)

theorem ObjOk.cells {w : World} {ρ : Places} {H : Heap} {ok : Nat → Prop} {o : AObj} {b cap : Nat} (h : ObjOk w ρ H ok o (some (b, cap))) (hc : cap ≤ maxLen) : CellsOk w ρ H ok o b cap := by
  rcases h with h | ⟨h, _⟩ | ⟨h, _⟩
  · exact h
  · omega
  · omega

theorem ObjOk.map {w : World} {ρ : Places} {H : Heap} {ok : Nat → Prop} {o : AObj} {b : Nat} (h : ObjOk w ρ H ok o (some (b, maxLen + 1))) : MapOk w ρ H ok o b := by
  rcases h with ⟨_, _, _, _, h, _⟩ | ⟨_, h⟩ | ⟨h, _⟩
  · omega
  · exact h
  · omega

theorem ObjOk.iter {w : World} {ρ : Places} {H : Heap} {ok : Nat → Prop} {o : AObj} {b : Nat} (h : ObjOk w ρ H ok o (some (b, maxLen + 2))) : IterOk w ok o b := by
  rcases h with ⟨_, _, _, _, h, _⟩ | ⟨h, _⟩ | ⟨_, h⟩
  · omega
  · omega
  · exact h

/-- A good state. -/
structure Good (E : Env) (w : World) (ρ : Places) (H : Heap) (ok : Nat → Prop) : Prop where
  os : w.os = E.w0.os
  tape : w.tape = E.w0.tape
  output : w.output = E.w0.output
  size : E.w0.heap.size ≤ w.heap.size
  blk : ∀ b, b < E.w0.heap.size → ¬ E.W b → some b ≠ E.row → w.heap[b]? = E.w0.heap[b]?
  inv : Inv E.row E.src ok w
  oks : ∀ b, ok b → b < w.heap.size ∧ some b ≠ E.row ∧ (E.okA b ∨ E.w0.heap.size ≤ b)
  own : ∀ (id : Nat) (o : AObj) (b c : Nat), H[id]? = some (some o) → ρ id = some (b, c) → ¬ ok b ∧ some b ≠ E.row ∧ (E.W b ∨ E.w0.heap.size ≤ b)
  inj : ∀ (id : Nat) (o : AObj) (b c id' : Nat) (o' : AObj) (c' : Nat), H[id]? = some (some o) → ρ id = some (b, c) → H[id']? = some (some o') → ρ id' = some (b, c') → id = id'
  len : ∀ (id : Nat) (o : AObj), H[id]? = some (some o) → ∀ (e : List AV), e ∈ o.es → e.length = o.k
  obj : ∀ (id : Nat) (o : AObj), H[id]? = some (some o) → ObjOk w ρ H ok o (ρ id)

structure St where
  t : Nat → AV
  H : Heap

def upd (t : Nat → AV) (i : Nat) (v : AV) : Nat → AV := fun j => if j = i then v else t j
def St.put (s : St) (d : Option Tmp) (v : AV) : St := match d with
  | some d => { s with t := upd s.t d v }
  | none => s

def Rel (E : Env) (s : St) (a : Act) (w : World) : Prop :=
  ∃ ρ ok, Good E w ρ s.H ok ∧ Ext E.w0 E.ρ0 E.H0 E.okA w ρ s.H ok ∧ a.defers = [] ∧ a.tmps.size = E.N ∧ ∀ i, Rep w ρ s.H ok (a.tmps.getD i undef) (s.t i)

/-- What an operand stands for. -/
def St.eval (s : St) : Operand → AV
  | .tmp t => s.t t
  | .const v => match v with
    | .slice none 0 0 => .nil
    | v => .sc v
  | .global g => .sc (.pointer (some ⟨g, 0, none⟩))
  | .func f => .fn f []

theorem rep_eval {w : World} {ρ : Places} {H : Heap} {ok : Nat → Prop} {a : Act} {s : St} (h : ∀ i, Rep w ρ H ok (a.tmps.getD i undef) (s.t i)) (x : Operand) : Rep w ρ H ok (a.eval x) (s.eval x) := by
  cases x with
  | tmp t => exact h t
  | const v =>
    show Rep w ρ H ok v (match v with | .slice none 0 0 => AV.nil | v => .sc v)
    split
    · exact .nil
    · exact .sc
  | global g => exact .sc
  | func f => exact .fn rfl (fun i c a h => by simp at h)

theorem put_rel {E : Env} {w : World} {ρ : Places} {ok : Nat → Prop} {a : Act} {s : St} {d : Option Tmp} {v : Value} {x : AV} {H : Heap} (hs : a.tmps.size = E.N)
    (hd : ∀ i, d = some i → i < E.N) (h : ∀ i, Rep w ρ H ok (a.tmps.getD i undef) (s.t i)) (hv : Rep w ρ H ok v x) :
    (a.put d v).tmps.size = E.N ∧ ∀ i, Rep w ρ H ok ((a.put d v).tmps.getD i undef) ((s.put d x).t i) := by
  cases d with
  | none => exact ⟨hs, h⟩
  | some d =>
    have hlt := hd d rfl
    refine ⟨by simp [Act.put, hs], fun i => ?_⟩
    simp only [Act.put, St.put, upd]
    by_cases hi : i = d
    · subst hi
      simp [hs, hlt]
      exact hv
    · have : d ≠ i := fun e => hi e.symm
      simp only [hi, if_false]
      have e : (a.tmps.setIfInBounds d v).getD i undef = a.tmps.getD i undef := by
        simp [Array.getElem?_setIfInBounds_ne this]
      rw [e]
      exact h i

end Go.PA
