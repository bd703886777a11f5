/- PA, part 2: what the operations that only read come to, and that the model's own operations come to it. -/
import Derived.Test.YtellcfkpfccgaaaPa1
import Derived.Laws.StructEq
namespace Go.PA
open Go.RowKit

def knownT (P : Program) (t : TypeId) : Bool := (P.info? t).isSome
def aggOf (P : Program) (t : TypeId) : Bool := match P.underlying t with | some (.struct _) | some (.array _ _) => true | _ => false
def fieldOf (P : Program) (s : TypeId) (f : Nat) : Option (Nat × TypeId) :=
  match P.underlying s with
  | some (.struct fs) => (fs[f]?).bind fun x => if szOf P x.type = 0 then none else some (x.offset, x.type)
  | _ => none
def elemOf (P : Program) (t : TypeId) : Option TypeId := match P.underlying t with | some (.slice e) => some e | _ => none
def arrOf (P : Program) (t : TypeId) : Option (Nat × TypeId) := match P.underlying t with | some (.array n e) => some (n, e) | _ => none
def zeroOf (P : Program) (t : TypeId) : Option (List Value) := ((P.info? t).bind (·.zero)).map (·.cells.toList)

def ofCell (v : Value) : AV := match v with | .slice none 0 0 => .nil | v => .sc v

def AV.cellish : AV → Bool
  | .sc v => v.oneCell'
  | .nil | .list _ _ | .ref _ _ _ | .sref _ _ _ | .iref _ | .fn _ _ | .imap _ | .mref _ | .miter _ => true
  | .junk | .agg _ | .tup _ => false

/-- The cells of a value that is stored. -/
def AV.cells? : AV → Option (List AV)
  | .agg cs => if cs.all AV.cellish then some cs else none
  | .junk | .tup _ => none
  | x => if x.cellish then some [x] else none

/-- The cells that lie at an address. -/
def addrCells (H : Heap) : AV → Option (List AV)
  | .ref id i j => match H[id]? with
    | some (some o) => (o.es[i]?).map (·.drop j)
    | _ => none
  | .iref cs => some cs
  | _ => none

def CellsAt (w : World) (ρ : Places) (H : Heap) (ok : Nat → Prop) (ad : Addr) (as : List AV) : Prop :=
  ∃ f : Nat → Value, ∀ (j : Nat) (a : AV), as[j]? = some a → w.cell? (ad.add j) = some (f j) ∧ (f j).oneCell' = true ∧ Rep w ρ H ok (f j) a

section
variable {E : Env} {w : World} {ρ : Places} {H : Heap} {ok : Nat → Prop}

theorem addr_sound (g : Good E w ρ H ok) {v : Value} {x : AV} (r : Rep w ρ H ok v x) {as : List AV} (h : addrCells H x = some as) : ∃ ad, v = .pointer (some ad) ∧ CellsAt w ρ H ok ad as := by
  cases r <;> simp only [addrCells, reduceCtorEq] at h
  case ref id i j o b cap ho hρ hcap =>
    simp only [ho, Option.map_eq_some_iff] at h
    obtain ⟨e, he, rfl⟩ := h
    have hobj := g.obj id o ho
    rw [hρ] at hobj
    obtain ⟨cur, hb, hs, hl, hm, hc⟩ := hobj.cells hcap
    refine ⟨_, rfl, fun j' => (cur[i * o.k + (j + j')]?).getD undef, fun j' a hj => ?_⟩
    rw [List.getElem?_drop] at hj
    obtain ⟨c, hc1, hc2, hc3⟩ := hc i e (j + j') a he hj
    have e1 : (cur[i * o.k + (j + j')]?).getD undef = c := by rw [hc1]; rfl
    rw [add_mk, cell_of_row w b _ cur o.ty (0, 0) hb, show i * o.k + j + j' = i * o.k + (j + j') from by omega]
    simp only [e1]
    exact ⟨hc1, hc2, hc3⟩
  case refDead id i j hd h1 => simp [hd] at h
  case iref ad cs f hok hc h1 hr =>
    simp only [Option.some.injEq] at h
    subst h
    exact ⟨ad, rfl, f, fun j a hj => ⟨hc j a hj, h1 j a hj, hr j a hj⟩⟩

theorem CellsAt.drop {ad : Addr} {as : List AV} (h : CellsAt w ρ H ok ad as) (n : Nat) : CellsAt w ρ H ok (ad.add n) (as.drop n) := by
  obtain ⟨f, hf⟩ := h
  refine ⟨fun j => f (n + j), fun j a hj => ?_⟩
  rw [List.getElem?_drop] at hj
  rw [add_add]
  exact hf _ _ hj

theorem run_typeInfo {P : Program} {t : TypeId} {i : TypeInfo} (h : P.info? t = some i) (w : World) : (typeInfo t).run P w = .ok i w := by
  simp [typeInfo, h]

theorem run_sizeOf' {P : Program} {t : TypeId} (h : knownT P t = true) (w : World) : (sizeOf t).run P w = .ok (szOf P t) w := by
  obtain ⟨i, hi⟩ := Option.isSome_iff_exists.1 h
  simp [sizeOf, run_typeInfo hi, szOf, hi]

theorem run_isAgg' {P : Program} {t : TypeId} {d : TypeDesc} (h : P.underlying t = some d) (w : World) : (isAgg t).run P w = .ok (aggOf P t) w := by
  simp only [isAgg, Sem.run_bind, run_underlying h, Result.andThen_ok, aggOf, h]
  cases d <;> rfl

def aload (P : Program) (t : TypeId) (as : List AV) : Option AV :=
  if (P.underlying t).isSome && knownT P t then
    (if aggOf P t then (if szOf P t ≤ as.length then some (.agg (as.take (szOf P t))) else none) else as.head?)
  else none

theorem aload_sound {t : TypeId} {ad : Addr} {as : List AV} {x : AV} (hc : CellsAt w ρ H ok ad as) (h : aload E.P t as = some x) :
    ∃ v, (loadVar t ad).run E.P w = .ok v w ∧ Rep w ρ H ok v x := by
  obtain ⟨f, hf⟩ := hc
  unfold aload at h
  split at h
  · rename_i hk
    simp only [Bool.and_eq_true] at hk
    obtain ⟨d, hd⟩ := Option.isSome_iff_exists.1 hk.1
    split at h
    · rename_i hag
      split at h
      · rename_i hle
        simp only [Option.some.injEq] at h
        subst h
        have hl : (as.take (szOf E.P t)).length = szOf E.P t := by simp; omega
        have hr := run_loadCells (P := E.P) w ad (szOf E.P t) f (fun j hj => by
          have : as[j]? = some (as[j]'(by omega)) := List.getElem?_eq_getElem (by omega)
          exact (hf j _ this).1)
        refine ⟨.agg ((List.range (szOf E.P t)).map f).toArray, ?_, .agg (by simp; omega) (fun i c a hi ha => ?_)⟩
        · simp [loadVar, run_isAgg' hd, hag, run_sizeOf' hk.2, hr]
        · rw [List.getElem?_take] at ha
          split at ha
          · rename_i hlt
            simp [hlt] at hi
            subst hi
            exact (hf i a ha).2.2
          · cases ha
      · cases h
    · rename_i hag
      cases as with
      | nil => simp at h
      | cons a0 rest =>
        simp only [List.head?_cons, Option.some.injEq] at h
        subst h
        obtain ⟨h0, _, h2⟩ := hf 0 a0 rfl
        have h0' : w.cell? ad = some (f 0) := by simpa [Addr.add] using h0
        refine ⟨f 0, ?_, h2⟩
        simp [loadVar, run_isAgg' hd, hag, h0']
  · cases h


/-! ### Numbers, bools, strings -/

def aint (op : BinOp) (k : IntKind) (a b : Int) : Option AV :=
  match op with
  | .add => some (.sc (.int k (k.wrap (a + b))))
  | .sub => some (.sc (.int k (k.wrap (a - b))))
  | .mul => some (.sc (.int k (k.wrap (a * b))))
  | .quo => if b = 0 then none else some (.sc (.int k (k.wrap (a.tdiv b))))
  | .rem => if b = 0 then none else some (.sc (.int k (a.tmod b)))
  | .eql => some (.sc (.bool (decide (a = b))))
  | .neq => some (.sc (.bool (!decide (a = b))))
  | .lss => some (.sc (.bool (decide (a < b))))
  | .leq => some (.sc (.bool (decide (a ≤ b))))
  | .gtr => some (.sc (.bool (decide (b < a))))
  | .geq => some (.sc (.bool (decide (b ≤ a))))
  | _ => none

def scs : List AV → Option (List Value)
  | [] => some []
  | .sc v :: as => match scs as with
    | some vs => some (v :: vs)
    | none => none
  | _ => none

def aagg (P : Program) (op : BinOp) (t : TypeId) (xs ys : List AV) : Option AV :=
  match sigOf P t, scs xs, scs ys with
  | some sg, some vs, some us => match op, alikeT sg vs us with
    | .eql, some b => some (.sc (.bool b))
    | .neq, some b => some (.sc (.bool (!b)))
    | _, _ => none
  | _, _, _ => none

/-- Is a slice nil? -/
def nilB : AV → Option Bool
  | .nil => some true
  | .sc (.slice a _ _) => some a.isNone
  | .list _ (_ :: _) => some false
  | _ => none

def abin (P : Program) (op : BinOp) (t : TypeId) (x y : AV) : Option AV :=
  match x, y with
  | .sc (.int k a), .sc (.int k' b) => if k = k' then aint op k a b else none
  | .sc (.bool a), .sc (.bool b) => match P.underlying t, op with
    | some .bool, .eql => some (.sc (.bool (decide (a = b))))
    | some .bool, .neq => some (.sc (.bool (!decide (a = b))))
    | _, _ => none
  | .sc (.string a), .sc (.string b) => match op with
    | .eql => some (.sc (.bool (decide (a = b))))
    | .neq => some (.sc (.bool (!decide (a = b))))
    | .lss => some (.sc (.bool (Op.bytesLess a.toList b.toList)))
    | _ => none
  | .agg xs, .agg ys => aagg P op t xs ys
  | x, .nil => match elemOf P t, nilB x, op with
    | some _, some b, .eql => some (.sc (.bool b))
    | some _, some b, .neq => some (.sc (.bool (!b)))
    | _, _, _ => none
  | _, _ => none

section
variable {P : Program} {w : World}

theorem run_eqGuard_plain (op : BinOp) (t : TypeId) (x y : Operand) (a b : Value) (h : (∃ k n, a = .int k n) ∨ (∃ c, a = .bool c) ∨ (∃ s, a = .string s)) : (eqGuard op t x y a b).run P w = .ok () w := by
  rcases h with ⟨k, n, rfl⟩ | ⟨c, rfl⟩ | ⟨s, rfl⟩ <;> (unfold eqGuard; cases op <;> simp)

theorem run_eqGuard_slice (op : BinOp) (t : TypeId) (x y : Operand) (A : Option Addr) (l c : Nat) (b : Value) : (eqGuard op t x y (.slice A l c) b).run P w = .ok () w := by
  unfold eqGuard
  cases op <;> simp

theorem bytes_eq (a b : ByteArray) : (a.toList == b.toList) = decide (a = b) := by
  rw [Bool.eq_iff_iff]
  simp only [beq_iff_eq, decide_eq_true_eq]
  refine ⟨fun h => ?_, fun h => by rw [h]⟩
  rw [ByteArray.toList_eq, ByteArray.toList_eq] at h
  obtain ⟨⟨x⟩⟩ := a
  obtain ⟨⟨y⟩⟩ := b
  simp at h
  simp [h]

theorem aint_sound {op : BinOp} {k : IntKind} {a b : Int} {x : AV} (t : TypeId) (h : aint op k a b = some x) : ∃ v, (binOp op t (.int k a) (.int k b)).run P w = .ok v w ∧ x = .sc v := by
  unfold aint at h
  cases op <;> simp only [Option.some.injEq, reduceCtorEq] at h <;> first
    | (subst h; refine ⟨_, ?_, rfl⟩; simp [binOp, Op.intArith, Op.intCmp]; done)
    | (split at h <;> simp only [Option.some.injEq, reduceCtorEq] at h; subst h; refine ⟨_, ?_, rfl⟩; simp [binOp, Op.intDiv, *]; done)
    | (subst h; refine ⟨_, ?_, rfl⟩; simp only [binOp, Op.intCmp, if_false, ne_eq, not_true_eq_false, Sem.run_pure]; rfl)
end

theorem scs_rep {w : World} {ρ : Places} {H : Heap} {ok : Nat → Prop} : ∀ {as : List AV} {vs : List Value}, scs as = some vs → as = vs.map .sc
  | [], vs, h => by simp [scs] at h; subst h; rfl
  | .sc v :: as, vs, h => by
    simp only [scs] at h
    split at h
    · rename_i us hu
      simp only [Option.some.injEq] at h
      subst h
      rw [scs_rep (w := w) (ρ := ρ) (H := H) (ok := ok) hu]
      rfl
    · cases h
  | .junk :: _, _, h | .agg _ :: _, _, h | .tup _ :: _, _, h | .nil :: _, _, h | .list _ _ :: _, _, h | .ref _ _ _ :: _, _, h | .sref _ _ _ :: _, _, h | .iref _ :: _, _, h | .fn _ _ :: _, _, h | .imap _ :: _, _, h | .mref _ :: _, _, h | .miter _ :: _, _, h => by simp [scs] at h

end
end Go.PA
