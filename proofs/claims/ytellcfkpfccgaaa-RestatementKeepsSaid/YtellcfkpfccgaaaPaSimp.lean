/- PA: the rules by which a walk is worked out: 'simp only [go_sem]' runs an abstract walk to its next test, call, loop or end. -/
import Derived.Test.YtellcfkpfccgaaaPa16
import Derived.IntWalk
namespace Go.PA
open Go.RowKit

/-- A lid: 'simp' does not look into what another argument's type names. -/
structure Bx.{u} {α : Sort u} (a : α) : Type where
  mk ::

/-- What follows a value, if there is one. -/
def OB {α : Type} (o : Option α) (k : α → Prop) (_ : Bx k) : Prop := match o with
  | some v => k v
  | none => False
theorem OB_some {α : Type} (v : α) (k : α → Prop) (b : Bx k) : OB (some v) k b = k v := rfl

/-- A value is worked out before the walk goes on. -/
def OV (x : AV) (k : AV → Prop) (_ : Bx k) : Prop := k x
theorem OV_eq (x : AV) (k : AV → Prop) (b : Bx k) : OV x k b = k x := rfl
def OV2 (x : AV) (H : Heap) (k : AV → Heap → Prop) (_ : Bx k) : Prop := k x H
theorem OV2_eq (x : AV) (H : Heap) (k : AV → Heap → Prop) (b : Bx k) : OV2 x H k b = k x H := rfl

/-- What follows a Bool of the walk's own. -/
def OI (b : Bool) (p q : Prop) (_ : Bx p) (_ : Bx q) : Prop := if b = true then p else q
theorem OI_true (p q : Prop) (bp : Bx p) (bq : Bx q) : OI true p q bp bq = p := rfl
theorem OI_false (p q : Prop) (bp : Bx p) (bq : Bx q) : OI false p q bp bq = q := rfl

/-- A test: both ways are to be walked. -/
def CondP (t : Bool) (p q : Prop) (_ : Bx p) (_ : Bx q) : Prop := (t = true → p) ∧ (t = false → q)
theorem CondP_true (p q : Prop) (bp : Bx p) (bq : Bx q) : CondP true p q bp bq = p := by simp [CondP]
theorem CondP_false (p q : Prop) (bp : Bx p) (bq : Bx q) : CondP false p q bp bq = q := by simp [CondP]
theorem CondP_not (t : Bool) (p q : Prop) (bp : Bx p) (bq : Bx q) : CondP (!t) p q bp bq = CondP t q p .mk .mk := by cases t <;> simp [CondP]
theorem condP {t : Bool} {p q : Prop} {bp : Bx p} {bq : Bx q} (h1 : t = true → p) (h2 : t = false → q) : CondP t p q bp bq := ⟨h1, h2⟩

def OBool (x : AV) (p q : Prop) (bp : Bx p) (bq : Bx q) : Prop := match x with
  | .sc (.bool t) => CondP t p q bp bq
  | _ => False
theorem OBool_sc (t : Bool) (p q : Prop) (bp : Bx p) (bq : Bx q) : OBool (.sc (.bool t)) p q bp bq = CondP t p q bp bq := rfl

/-- A loop that the walk has come to. -/
def ALoop (E : Env) (c : Code) (s : St) (Q : Exit → St → Prop) (_ : Bx (c, Q)) : Prop := AWp E (.loop c) s Q
/-- A region that draws, likewise. -/
def ADrawB (E : Env) (ops : Array Oper) (s : St) (K : St → Prop) (_ : Bx (ops, K)) : Prop := ADraw E ops s K
/-- A call, likewise. -/
def CallB (E : Env) (f : FuncId) (args : List AV) (H : Heap) (C : AV → Heap → Prop) (_ : Bx C) : Prop := enterable E.P f = true ∧ ACall E f args H C

section
variable {E : Env}

theorem awp_skip {s : St} {Q : Exit → St → Prop} : awp E .skip s Q = Q .normal s := rfl
theorem awp_reg {id : Nat} {l : List Oper} {s : St} {Q : Exit → St → Prop} : awp E (.region id l.toArray false) s Q = AOps E l.toArray l s (Q .normal) := rfl
theorem adops_toList {D : Nat → Bool} {S : List Nat} {l : List Oper} {k : Nat} {s : St} {K : St → Prop} : ADOps D E l.toArray S l.toArray.toList k s K = ADOps D E l.toArray S l k s K := rfl
theorem awp_drw {id : Nat} {ops : Array Oper} {s : St} {Q : Exit → St → Prop} : awp E (.region id ops true) s Q = ADrawB E ops s (Q .normal) .mk := rfl
theorem awp_seq {a b : Code} {s : St} {Q : Exit → St → Prop} : awp E (.seq a b) s Q = awp E a s (Athen (fun s' => awp E b s' Q) Q) := rfl
theorem awp_cond {c : Operand} {a b : Code} {s : St} {Q : Exit → St → Prop} : awp E (.cond c a b) s Q = OBool (s.eval c) (awp E a s Q) (awp E b s Q) .mk .mk := by
  show (match s.eval c with | .sc (.bool t) => (t = true → awp E a s Q) ∧ (t = false → awp E b s Q) | _ => False) = _
  generalize s.eval c = x
  unfold OBool CondP
  rfl
theorem awp_block {id : Nat} {c : Code} {s : St} {Q : Exit → St → Prop} : awp E (.block id c) s Q = awp E c s (Ablock id Q) := rfl
theorem awp_exit {id : Nat} {s : St} {Q : Exit → St → Prop} : awp E (.exit id) s Q = Q (.exit id) s := rfl
theorem awp_label {id : Nat} {s : St} {Q : Exit → St → Prop} : awp E (.label id) s Q = Q .normal s := rfl
theorem awp_ret {s : St} {Q : Exit → St → Prop} : awp E .ret s Q = Q .ret s := rfl
theorem awp_loop_eq {c : Code} {s : St} {Q : Exit → St → Prop} : awp E (.loop c) s Q = ALoop E c s Q .mk := rfl
theorem athen_normal {k : St → Prop} {Q : Exit → St → Prop} {s : St} : Athen k Q .normal s = k s := rfl
theorem athen_exit {k : St → Prop} {Q : Exit → St → Prop} {s : St} {i : Nat} : Athen k Q (.exit i) s = Q (.exit i) s := rfl
theorem athen_ret {k : St → Prop} {Q : Exit → St → Prop} {s : St} : Athen k Q .ret s = Q .ret s := rfl
theorem ablock_exit {id : Nat} {Q : Exit → St → Prop} {s : St} : Ablock id Q (.exit id) s = Q .normal s := by simp [Ablock]
theorem ablock_exit_ne {id i : Nat} {Q : Exit → St → Prop} {s : St} (h : (i == id) = false) : Ablock id Q (.exit i) s = Q (.exit i) s := by
  have : i ≠ id := by simpa using h
  simp [Ablock, this]
theorem ablock_normal {id : Nat} {Q : Exit → St → Prop} {s : St} : Ablock id Q .normal s = Q .normal s := rfl
theorem ablock_ret {id : Nat} {Q : Exit → St → Prop} {s : St} : Ablock id Q .ret s = Q .ret s := rfl

theorem aops_nil {ops : Array Oper} {s : St} {K : St → Prop} : AOps E ops [] s K = K s := rfl
theorem aops_cons {ops : Array Oper} {o : Oper} {l : List Oper} {s : St} {K : St → Prop} : AOps E ops (o :: l) s K = AStep E ops o s (fun s' => AOps E ops l s' K) := rfl
theorem adops_nil {D : Nat → Bool} {S : List Nat} {ops : Array Oper} {k : Nat} {s : St} {K : St → Prop} : ADOps D E ops S [] k s K = K s := rfl
theorem adops_cons {D : Nat → Bool} {S : List Nat} {ops : Array Oper} {o : Oper} {l : List Oper} {k : Nat} {s : St} {K : St → Prop} : ADOps D E ops S (o :: l) k s K = DStep (!S.contains k) D E ops o s (fun s' => ADOps D E ops S l (k + 1) s' K) := rfl

theorem astep_eq {ops : Array Oper} {dst : Option Tmp} {op : Op} {ty : TypeId} {pos : String} {after : Array Edge} {gd : Option (Nat × Bool)} {s : St} {K : St → Prop} :
    AStep E ops ⟨dst, op, ty, pos, after, gd⟩ s K = OB (aguard ops ⟨dst, op, ty, pos, after, gd⟩ s.t) (fun b => OI b (AEff E op s.eval s.H fun x H' => K ⟨putT s.t dst x, H'⟩) (K ⟨putT s.t dst (.sc undef), s.H⟩) .mk .mk) .mk := by
  unfold AStep OB
  cases h : aguard ops ⟨dst, op, ty, pos, after, gd⟩ s.t with
  | none => rfl
  | some b => cases b <;> rfl
theorem dstep_eq {strict : Bool} {D : Nat → Bool} {ops : Array Oper} {dst : Option Tmp} {op : Op} {ty : TypeId} {pos : String} {after : Array Edge} {gd : Option (Nat × Bool)} {s : St} {K : St → Prop} :
    DStep strict D E ops ⟨dst, op, ty, pos, after, gd⟩ s K = OB (aguard ops ⟨dst, op, ty, pos, after, gd⟩ s.t) (fun b => OI b (DEff strict D E op s.eval s.H fun x H' => K ⟨putT s.t dst x, H'⟩) (K ⟨putT s.t dst (.sc undef), s.H⟩) .mk .mk) .mk := by
  unfold DStep OB
  cases h : aguard ops ⟨dst, op, ty, pos, after, gd⟩ s.t with
  | none => rfl
  | some b => cases b <;> rfl

theorem astep_mk {ops : Array Oper} {dst : Option Tmp} {op : Op} {ty : TypeId} {pos : String} {after : Array Edge} {gd : Option (Nat × Bool)} {t : Nat → AV} {H : Heap} {K : St → Prop} :
    AStep E ops ⟨dst, op, ty, pos, after, gd⟩ ⟨t, H⟩ K = OB (aguard ops ⟨dst, op, ty, pos, after, gd⟩ t) (fun b => OI b (AEff E op (St.eval ⟨t, H⟩) H fun x H' => K ⟨putT t dst x, H'⟩) (K ⟨putT t dst (.sc undef), H⟩) .mk .mk) .mk := astep_eq
theorem dstep_mk {strict : Bool} {D : Nat → Bool} {ops : Array Oper} {dst : Option Tmp} {op : Op} {ty : TypeId} {pos : String} {after : Array Edge} {gd : Option (Nat × Bool)} {t : Nat → AV} {H : Heap} {K : St → Prop} :
    DStep strict D E ops ⟨dst, op, ty, pos, after, gd⟩ ⟨t, H⟩ K = OB (aguard ops ⟨dst, op, ty, pos, after, gd⟩ t) (fun b => OI b (DEff strict D E op (St.eval ⟨t, H⟩) H fun x H' => K ⟨putT t dst x, H'⟩) (K ⟨putT t dst (.sc undef), H⟩) .mk .mk) .mk := dstep_eq

def yieldOf (ops : Array Oper) (j : Nat) : Option Tmp := (ops[j]?).bind (·.dst)
def yieldL : List Oper → Nat → Option Tmp
  | [], _ => none
  | o :: _, 0 => o.dst
  | _ :: l, n + 1 => yieldL l n
theorem yieldL_eq : ∀ (l : List Oper) (j : Nat), yieldOf l.toArray j = yieldL l j
  | [], j => by simp [yieldOf, yieldL]
  | o :: l, 0 => by simp [yieldOf, yieldL]
  | o :: l, j + 1 => by
    have := yieldL_eq l j
    simp only [yieldOf, yieldL, List.getElem?_toArray, List.getElem?_cons_succ] at this ⊢
    exact this
def guardOf (want : Bool) : AV → Option Bool
  | .sc (.bool b) => some (b == want)
  | .sc _ => some false
  | _ => none
theorem guardOf_bool {want b : Bool} : guardOf want (.sc (.bool b)) = some (b == want) := rfl
theorem guardOf_undef {want : Bool} : guardOf want (.sc undef) = some false := rfl
theorem beq_true_b (b : Bool) : (b == true) = b := by cases b <;> rfl
theorem beq_false_b (b : Bool) : (b == false) = !b := by cases b <;> rfl
def guardAt (o : Option Tmp) (want : Bool) (t : Nat → AV) : Option Bool := match o with
  | some d => guardOf want (t d)
  | none => some false
theorem guardAt_some {d : Tmp} {want : Bool} {t : Nat → AV} : guardAt (some d) want t = guardOf want (t d) := rfl
theorem aguard_none {ops : Array Oper} {dst : Option Tmp} {op : Op} {ty : TypeId} {pos : String} {after : Array Edge} {t : Nat → AV} : aguard ops ⟨dst, op, ty, pos, after, none⟩ t = some true := rfl
theorem aguard_some {ops : Array Oper} {dst : Option Tmp} {op : Op} {ty : TypeId} {pos : String} {after : Array Edge} {t : Nat → AV} {j : Nat} {want : Bool} : aguard ops ⟨dst, op, ty, pos, after, some (j, want)⟩ t = guardAt (yieldOf ops j) want t := by
  unfold aguard guardAt yieldOf
  simp only
  cases (ops[j]?).bind (·.dst) with
  | none => rfl
  | some d =>
    simp only
    cases t d <;> first | rfl | (rename_i v; cases v <;> rfl)

theorem aeff_read {op : Op} {ev : Operand → AV} {H : Heap} {C : AV → Heap → Prop} (h : isRead op = true) : AEff E op ev H C = OB (aread E.P op ev H) (fun v => C v H) .mk := by
  have e1 : AEff E op ev H C = (match aread E.P op ev H with | some v => C v H | none => False) := by
    cases op <;> first
      | rfl
      | (simp only [isRead, Bool.false_eq_true] at h; done)
      | skip
    case buildSlice t n ps => cases n with
      | zero => simp [isRead] at h
      | succ n => rfl
    rename_i c
    obtain ⟨callee, args, tys⟩ := c
    cases callee with
    | value f => simp [isRead] at h
    | invoke r m => rfl
    | builtin b => cases b <;> first | rfl | (simp only [isRead, Bool.false_eq_true] at h; done)
  rw [e1]
  cases aread E.P op ev H <;> rfl

/-- The reads. -/
def ARd (E : Env) (op : Op) (ev : Operand → AV) (H : Heap) (k : AV → Prop) (b : Bx k) : Prop := OB (aread E.P op ev H) k b

theorem aeff_move {x : Operand} {ev : Operand → AV} {H : Heap} {C : AV → Heap → Prop} : AEff E (.move x) ev H C = OV (ev x) (fun v => C v H) .mk := aeff_read rfl
theorem aeff_assign {x : Operand} {ev : Operand → AV} {H : Heap} {C : AV → Heap → Prop} : AEff E (.assign x) ev H C = OV (ev x) (fun v => C v H) .mk := aeff_read rfl
theorem aeff_pick {c a b : Operand} {ev : Operand → AV} {H : Heap} {C : AV → Heap → Prop} : AEff E (.pick c a b) ev H C = OB (apick (ev c) (ev a) (ev b)) (fun v => C v H) .mk := aeff_read rfl
theorem apick_true {a b : AV} : apick (.sc (.bool true)) a b = some a := rfl
theorem apick_false {a b : AV} : apick (.sc (.bool false)) a b = some b := rfl
theorem apick_and {t u : Bool} : apick (.sc (.bool t)) (.sc (.bool u)) (.sc (.bool false)) = some (.sc (.bool (t && u))) := by cases t <;> rfl
theorem apick_or {t u : Bool} : apick (.sc (.bool t)) (.sc (.bool true)) (.sc (.bool u)) = some (.sc (.bool (t || u))) := by cases t <;> rfl
theorem aeff_load {t : TypeId} {a : Operand} {ev : Operand → AV} {H : Heap} {C : AV → Heap → Prop} : AEff E (.load t a) ev H C = OB (addrCells H (ev a)) (fun as => OB (aload E.P t as) (fun v => C v H) .mk) .mk := by
  rw [aeff_read rfl]
  show OB ((addrCells H (ev a)).bind (aload E.P t)) _ _ = _
  cases addrCells H (ev a) <;> rfl
theorem aeff_nilCheck {x : Operand} {ev : Operand → AV} {H : Heap} {C : AV → Heap → Prop} : AEff E (.nilCheck x) ev H C = OB (anil H (ev x)) (fun v => C v H) .mk := aeff_read rfl
theorem anil_fn {H : Heap} {f : FuncId} {cs : List AV} : anil H (.fn f cs) = some (.fn f cs) := rfl
theorem anil_ptr {H : Heap} {a : Addr} : anil H (.sc (.pointer (some a))) = some (.sc (.pointer (some a))) := rfl
theorem anil_ref {H : Heap} {id i j : Nat} : anil H (.ref id i j) = if (addrCells H (.ref id i j)).isSome then some (.ref id i j) else none := rfl
theorem anil_iref {H : Heap} {cs : List AV} : anil H (.iref cs) = some (.iref cs) := rfl
theorem aeff_binOp {op : BinOp} {t u : TypeId} {x y : Operand} {ev : Operand → AV} {H : Heap} {C : AV → Heap → Prop} : AEff E (.binOp op t x y u) ev H C = OB (abin E.P op t (ev x) (ev y)) (fun v => C v H) .mk := aeff_read rfl
theorem aeff_unOp {op : UnOp} {t : TypeId} {x : Operand} {ev : Operand → AV} {H : Heap} {C : AV → Heap → Prop} : AEff E (.unOp op t x) ev H C = OB (aun op (ev x)) (fun v => C v H) .mk := aeff_read rfl
theorem aun_not {b : Bool} : aun .not (.sc (.bool b)) = some (.sc (.bool (!b))) := rfl
theorem aun_neg {k : IntKind} {n : Int} : aun .neg (.sc (.int k n)) = some (.sc (.int k (k.wrap (0 - n)))) := rfl
theorem aeff_convert {src dst : TypeId} {x : Operand} {ev : Operand → AV} {H : Heap} {C : AV → Heap → Prop} : AEff E (.convert src dst x) ev H C = OB (aconv E.P src dst (ev x)) (fun v => C v H) .mk := aeff_read rfl
theorem aeff_fieldAddr {s : TypeId} {f : Nat} {x : Operand} {ev : Operand → AV} {H : Heap} {C : AV → Heap → Prop} : AEff E (.fieldAddr s x f) ev H C = OB (afield E.P H s f (ev x)) (fun v => C v H) .mk := aeff_read rfl
theorem aeff_field {s : TypeId} {f : Nat} {x : Operand} {ev : Operand → AV} {H : Heap} {C : AV → Heap → Prop} : AEff E (.field s x f) ev H C = OB (afieldV E.P s f (ev x)) (fun v => C v H) .mk := aeff_read rfl
theorem aeff_indexAddr {t : TypeId} {x ix : Operand} {ev : Operand → AV} {H : Heap} {C : AV → Heap → Prop} : AEff E (.indexAddr t x ix) ev H C = OB (aindex E.P t H (ev x) (ev ix)) (fun v => C v H) .mk := aeff_read rfl
theorem aindex_int {P : Program} {t : TypeId} {H : Heap} {x : AV} {k : IntKind} {n : Int} : aindex P t H x (.sc (.int k n)) = aindexAddr P t H x n := rfl
theorem aeff_index {t : TypeId} {x ix : Operand} {ev : Operand → AV} {H : Heap} {C : AV → Heap → Prop} : AEff E (.index t x ix) ev H C = OB (aixV E.P t (ev x) (ev ix)) (fun v => C v H) .mk := aeff_read rfl
theorem aixV_arr {P : Program} {t : TypeId} {cs : List AV} {k : IntKind} {n : Int} {len : Nat} {e : TypeId} (h : arrOf P t = some (len, e)) : aixV P t (.agg cs) (.sc (.int k n)) = if knownT P e = true ∧ 0 ≤ n ∧ n < len then apart P e cs (n.toNat * szOf P e) else none := by simp only [aixV, h]
theorem aeff_extract {x : Operand} {i : Nat} {ev : Operand → AV} {H : Heap} {C : AV → Heap → Prop} : AEff E (.extract x i) ev H C = OB (aextract (ev x) i) (fun v => C v H) .mk := aeff_read rfl
theorem aextract_0 {a : AV} {l : List AV} : aextract (.tup (a :: l)) 0 = some a := rfl
theorem aextract_1 {a b : AV} {l : List AV} : aextract (.tup (a :: b :: l)) 1 = some b := rfl
theorem aextract_2 {a b c : AV} {l : List AV} : aextract (.tup (a :: b :: c :: l)) 2 = some c := rfl
theorem aextract_3 {a b c d : AV} {l : List AV} : aextract (.tup (a :: b :: c :: d :: l)) 3 = some d := rfl
theorem aeff_makeFunc {f : FuncId} {caps : Array Operand} {ev : Operand → AV} {H : Heap} {C : AV → Heap → Prop} : AEff E (.makeFunc (.func f) #[] caps) ev H C = OV (.fn f (caps.toList.map ev)) (fun v => C v H) .mk := aeff_read rfl
theorem aeff_slice {t : TypeId} {x : Operand} {lo hi : Option Operand} {ev : Operand → AV} {H : Heap} {C : AV → Heap → Prop} : AEff E (.slice t x lo hi none) ev H C = OB (asliceOp E.P t H (ev x) lo hi ev) (fun v => C v H) .mk := aeff_read rfl
theorem aeff_build {t : TypeId} {parts : Array (Nat × Operand)} {ev : Operand → AV} {H : Heap} {C : AV → Heap → Prop} : AEff E (.build t parts) ev H C = OB (abuild E.P t (parts.toList.map fun p => (p.1, ev p.2))) (fun v => C v H) .mk := aeff_read rfl
theorem aeff_buildSlice {t : TypeId} {n : Nat} {parts : Array (Nat × Operand)} {ev : Operand → AV} {H : Heap} {C : AV → Heap → Prop} : AEff E (.buildSlice t (n + 1) parts) ev H C = OB (abuildSlice E.P t (n + 1) (parts.toList.map fun p => (p.1, ev p.2))) (fun v => C v H) .mk := aeff_read rfl
theorem aeff_buildSlice0 {t : TypeId} {ev : Operand → AV} {H : Heap} {C : AV → Heap → Prop} : AEff E (.buildSlice t 0 #[]) ev H C = OB (elemOf E.P t) (fun e => OB (if knownT E.P e = true then some () else none) (fun _ => OV2 (.sref H.length 0 0) (H ++ [some ⟨e, szOf E.P e, []⟩]) C .mk) .mk) .mk := by
  simp only [AEff]
  cases elemOf E.P t with
  | none => rfl
  | some e => simp only [OB, OV2, Array.size_empty, and_true]; split <;> simp_all
theorem aeff_store {t : TypeId} {a x : Operand} {ev : Operand → AV} {H : Heap} {C : AV → Heap → Prop} : AEff E (.store t a x) ev H C = OB (astore E.P t H (ev a) (ev x)) (fun H' => C (.sc undef) H') .mk := by
  simp only [AEff]
  cases astore E.P t H (ev a) (ev x) <;> rfl
theorem aeff_alloc {t : TypeId} {ev : Operand → AV} {H : Heap} {C : AV → Heap → Prop} : AEff E (.alloc t) ev H C = OB (zeros E.P t) (fun zs => OV2 (.ref H.length 0 0) (H ++ [some ⟨t, szOf E.P t, [zs]⟩]) C .mk) .mk := by
  simp only [AEff]
  cases zeros E.P t <;> rfl
theorem aeff_box {t : TypeId} {x : Operand} {ev : Operand → AV} {H : Heap} {C : AV → Heap → Prop} : AEff E (.box t x) ev H C = OB ((ev x).cells?) (fun xs => OV2 (.ref H.length 0 0) (H ++ [some ⟨t, xs.length, [xs]⟩]) C .mk) .mk := by
  simp only [AEff]
  cases (ev x).cells? <;> rfl
theorem aeff_makeSlice {t : TypeId} {l c : Operand} {ev : Operand → AV} {H : Heap} {C : AV → Heap → Prop} : AEff E (.makeSlice t l c) ev H C = OB (amake E.P t H (ev l) (ev c)) (fun r => (r.2.2.2 : Int) * r.2.2.1 ≤ 281474976710656 ∧ r.2.2.1 ≤ 9223372036854775807 ∧ C r.1 r.2.1) .mk := by
  simp only [AEff]
  cases amake E.P t H (ev l) (ev c) <;> rfl
theorem aeff_len {x : Operand} {t : TypeId} {ev : Operand → AV} {H : Heap} {C : AV → Heap → Prop} : AEff E (.call ⟨.builtin .len, #[x], #[t]⟩) ev H C = OB (alenOp E.P t H (ev x)) (fun v => C v H) .mk := aeff_read rfl
theorem aeff_max {args : Array Operand} {ts : Array TypeId} {ev : Operand → AV} {H : Heap} {C : AV → Heap → Prop} : AEff E (.call ⟨.builtin .max, args, ts⟩) ev H C = OB (amax (args.toList.map ev)) (fun v => C v H) .mk := aeff_read rfl
theorem aeff_min {args : Array Operand} {ts : Array TypeId} {ev : Operand → AV} {H : Heap} {C : AV → Heap → Prop} : AEff E (.call ⟨.builtin .min, args, ts⟩) ev H C = OB (amin (args.toList.map ev)) (fun v => C v H) .mk := aeff_read rfl
theorem aeff_append {s x : Operand} {t : TypeId} {ev : Operand → AV} {H : Heap} {C : AV → Heap → Prop} : AEff E (.call ⟨.builtin .append, #[s, x], #[t, t]⟩) ev H C = OB (aappend E.P t H (ev s) (ev x)) (fun r => r.2.2.1 ≤ 9223372036854775807 ∧ r.2.2.1 * r.2.2.2 ≤ 140737488355328 ∧ C r.1 r.2.1) .mk := by
  simp only [AEff, true_and]
  cases aappend E.P t H (ev s) (ev x) <;> rfl
def acallV (E : Env) (f : AV) (args : List AV) (H : Heap) (C : AV → Heap → Prop) (b : Bx C) : Prop := match f with
  | .fn g caps => CallB E g (args ++ caps) H C b
  | _ => False
theorem aeff_call {f : Operand} {args : Array Operand} {ts : Array TypeId} {ev : Operand → AV} {H : Heap} {C : AV → Heap → Prop} : AEff E (.call ⟨.value f, args, ts⟩) ev H C = acallV E (ev f) (args.toList.map ev) H C .mk := by
  simp only [AEff]
  cases ev f <;> rfl
theorem acallV_fn {g : FuncId} {caps args : List AV} {H : Heap} {C : AV → Heap → Prop} {b : Bx C} : acallV E (.fn g caps) args H C b = CallB E g (args ++ caps) H C .mk := rfl

theorem deff_eq {strict : Bool} {D : Nat → Bool} {op : Op} {ev : Operand → AV} {H : Heap} {C : AV → Heap → Prop} : DEff strict D E op ev H C = OI (isRead op) (ARd E op ev (rdH strict D H) (fun v => C v H) .mk) (AEff E op ev H fun x H' => (strict = true → Agree D H H') ∧ C x H') .mk .mk := by
  unfold DEff OI ARd
  split
  · cases aread E.P op ev (rdH strict D H) <;> rfl
  · rfl
theorem ard_aeff {op : Op} {ev : Operand → AV} {H : Heap} {k : AV → Prop} {b : Bx k} (h : isRead op = true) : ARd E op ev H k b = AEff E op ev H fun v _ => k v := by
  rw [aeff_read h]; rfl
theorem restr_all (H : Heap) : restr (fun _ => true) H = H := by
  apply List.ext_getElem?
  intro i
  simp [restr]
theorem rdH_true (D : Nat → Bool) (H : Heap) : rdH true D H = restr D H := rfl
theorem rdH_false (D : Nat → Bool) (H : Heap) : rdH false D H = H := rfl
theorem restr_get {D : Nat → Bool} {H : Heap} {i : Nat} : (restr D H)[i]? = (H[i]?).map fun x => if D i then x else none := by simp [restr, List.getElem?_mapIdx]
theorem agree_refl (D : Nat → Bool) (H : Heap) : Agree D H H := fun _ _ => rfl

end

attribute [go_sem] yieldL_eq yieldL
attribute [go_sem ↓ high] astep_mk dstep_mk
attribute [go_sem ↓] awp_skip awp_reg awp_drw awp_seq awp_cond awp_block awp_exit awp_label awp_ret awp_loop_eq athen_normal athen_exit athen_ret ablock_exit ablock_exit_ne ablock_normal ablock_ret
  aops_nil aops_cons adops_toList adops_nil adops_cons astep_eq dstep_eq deff_eq
  aeff_move aeff_assign aeff_pick aeff_load aeff_nilCheck aeff_binOp aeff_unOp aeff_convert aeff_fieldAddr aeff_field aeff_indexAddr aeff_index aeff_extract aeff_makeFunc aeff_slice aeff_build aeff_buildSlice aeff_buildSlice0 aeff_store aeff_alloc aeff_box aeff_makeSlice aeff_len aeff_max aeff_min aeff_append aeff_call
attribute [go_sem] OV_eq OV2_eq OB_some OI_true OI_false CondP_true CondP_false CondP_not OBool_sc guardOf_bool guardOf_undef beq_true_b beq_false_b guardAt_some aguard_none aguard_some apick_true apick_false anil_fn anil_ptr anil_ref anil_iref aun_not aun_neg aindex_int aixV_arr aextract_0 aextract_1 aextract_2 aextract_3 acallV_fn restr_all rdH_true rdH_false restr_get

theorem upd_get (t : Nat → AV) (i j : Nat) (v : AV) : upd t i v j = if j = i then v else t j := rfl
theorem putT_some (t : Nat → AV) (i : Nat) (v : AV) : putT t (some i) v = upd t i v := rfl
theorem putT_none (t : Nat → AV) (v : AV) : putT t none v = t := rfl
theorem eval_tmp (s : St) (i : Nat) : s.eval (.tmp i) = s.t i := rfl
theorem eval_int (s : St) (k : IntKind) (n : Int) : s.eval (.const (.int k n)) = .sc (.int k n) := rfl
theorem eval_bool (s : St) (b : Bool) : s.eval (.const (.bool b)) = .sc (.bool b) := rfl
theorem eval_string (s : St) (b : ByteArray) : s.eval (.const (.string b)) = .sc (.string b) := rfl
theorem eval_nilslice (s : St) : s.eval (.const (.slice none 0 0)) = .nil := rfl
theorem eval_nilptr (s : St) : s.eval (.const (.pointer none)) = .sc (.pointer none) := rfl
theorem eval_func (s : St) (f : FuncId) : s.eval (.func f) = .fn f [] := rfl

def initFrom : Nat → List AV → (Nat → AV)
  | _, [] => fun _ => .sc undef
  | k, a :: l => upd (initFrom (k + 1) l) k a
theorem initFrom_eq : ∀ (l : List AV) (k i : Nat), initFrom k l (k + i) = l.getD i (.sc undef)
  | [], _, _ => by simp [initFrom]
  | a :: l, k, 0 => by simp [initFrom, upd]
  | a :: l, k, i + 1 => by
    simp only [initFrom, upd]
    rw [if_neg (by omega), show k + (i + 1) = (k + 1) + i from by omega, initFrom_eq l (k + 1) i]
    simp
theorem initT_eq (l : List AV) : initT l = initFrom 0 l := by
  funext i
  have := initFrom_eq l 0 i
  rw [Nat.zero_add] at this
  rw [this]
  rfl

attribute [go_sem] upd_get putT_some putT_none eval_tmp eval_int eval_bool eval_string eval_nilslice eval_nilptr eval_func initT_eq initFrom

/-! ### What the parts come to -/

section
variable {P : Program} {H : Heap}
theorem abin_int {op : BinOp} {t : TypeId} {k : IntKind} {a b : Int} : abin P op t (.sc (.int k a)) (.sc (.int k b)) = aint op k a b := by simp [abin]
theorem abin_bool_eql {t : TypeId} {a b : Bool} (h : P.underlying t = some .bool) : abin P .eql t (.sc (.bool a)) (.sc (.bool b)) = some (.sc (.bool (decide (a = b)))) := by simp [abin, h]
theorem abin_bool_neq {t : TypeId} {a b : Bool} (h : P.underlying t = some .bool) : abin P .neq t (.sc (.bool a)) (.sc (.bool b)) = some (.sc (.bool (!decide (a = b)))) := by simp [abin, h]
theorem abin_str_eql {t : TypeId} {a b : ByteArray} : abin P .eql t (.sc (.string a)) (.sc (.string b)) = some (.sc (.bool (decide (a = b)))) := rfl
theorem abin_str_neq {t : TypeId} {a b : ByteArray} : abin P .neq t (.sc (.string a)) (.sc (.string b)) = some (.sc (.bool (!decide (a = b)))) := rfl
theorem abin_agg {op : BinOp} {t : TypeId} {xs ys : List AV} : abin P op t (.agg xs) (.agg ys) = aagg P op t xs ys := rfl
theorem abin_nil1_eql {t e : TypeId} (h : Go.PA.elemOf P t = some e) : abin P .eql t .nil .nil = some (.sc (.bool (true))) := by simp [abin, nilB, h]
theorem abin_nil2_eql {t e : TypeId} {a : Option Addr} {l c : Nat} (h : Go.PA.elemOf P t = some e) : abin P .eql t (.sc (.slice a l c)) .nil = some (.sc (.bool (a.isNone))) := by simp [abin, nilB, h]
theorem abin_nil3_eql {t e : TypeId} {k : Nat} {x : List AV} {es : List (List AV)} (h : Go.PA.elemOf P t = some e) : abin P .eql t (.list k (x :: es)) .nil = some (.sc (.bool (false))) := by simp [abin, nilB, h]
theorem abin_nil1_neq {t e : TypeId} (h : Go.PA.elemOf P t = some e) : abin P .neq t .nil .nil = some (.sc (.bool (!true))) := by simp [abin, nilB, h]
theorem abin_nil2_neq {t e : TypeId} {a : Option Addr} {l c : Nat} (h : Go.PA.elemOf P t = some e) : abin P .neq t (.sc (.slice a l c)) .nil = some (.sc (.bool (!a.isNone))) := by simp [abin, nilB, h]
theorem abin_nil3_neq {t e : TypeId} {k : Nat} {x : List AV} {es : List (List AV)} (h : Go.PA.elemOf P t = some e) : abin P .neq t (.list k (x :: es)) .nil = some (.sc (.bool (!false))) := by simp [abin, nilB, h]
theorem aint_add {k : IntKind} {a b : Int} : aint .add k a b = some (.sc (.int k (k.wrap (a + b)))) := rfl
theorem aint_sub {k : IntKind} {a b : Int} : aint .sub k a b = some (.sc (.int k (k.wrap (a - b)))) := rfl
theorem aint_mul {k : IntKind} {a b : Int} : aint .mul k a b = some (.sc (.int k (k.wrap (a * b)))) := rfl
theorem aint_quo {k : IntKind} {a b : Int} (h : ¬ b = 0) : aint .quo k a b = some (.sc (.int k (k.wrap (a.tdiv b)))) := by simp [aint, h]
theorem aint_rem {k : IntKind} {a b : Int} (h : ¬ b = 0) : aint .rem k a b = some (.sc (.int k (a.tmod b))) := by simp [aint, h]
theorem aint_eql {k : IntKind} {a b : Int} : aint .eql k a b = some (.sc (.bool (decide (a = b)))) := rfl
theorem aint_neq {k : IntKind} {a b : Int} : aint .neq k a b = some (.sc (.bool (!decide (a = b)))) := rfl
theorem aint_lss {k : IntKind} {a b : Int} : aint .lss k a b = some (.sc (.bool (decide (a < b)))) := rfl
theorem aint_leq {k : IntKind} {a b : Int} : aint .leq k a b = some (.sc (.bool (decide (a ≤ b)))) := rfl
theorem aint_gtr {k : IntKind} {a b : Int} : aint .gtr k a b = some (.sc (.bool (decide (b < a)))) := rfl
theorem aint_geq {k : IntKind} {a b : Int} : aint .geq k a b = some (.sc (.bool (decide (b ≤ a)))) := rfl
theorem wrap_in (x : Int) (h : -9223372036854775808 ≤ x ∧ x ≤ 9223372036854775807) : IntKind.i64.wrap x = x := by rw [IntKind.wrap_i64]; omega

theorem cel_sc (v : Value) : (AV.sc v).cellish = v.oneCell' := rfl
theorem clls_sc (v : Value) : (AV.sc v).cells? = if v.oneCell' = true then some [.sc v] else none := rfl
theorem cel_nil  : (AV.nil ).cellish = true := rfl
theorem clls_nil  : (AV.nil ).cells? = some [AV.nil ] := rfl
theorem cel_list (k : Nat) (es : List (List AV)) : (AV.list k es).cellish = true := rfl
theorem clls_list (k : Nat) (es : List (List AV)) : (AV.list k es).cells? = some [AV.list k es] := rfl
theorem cel_ref (i j k : Nat) : (AV.ref i j k).cellish = true := rfl
theorem clls_ref (i j k : Nat) : (AV.ref i j k).cells? = some [AV.ref i j k] := rfl
theorem cel_sref (i j k : Nat) : (AV.sref i j k).cellish = true := rfl
theorem clls_sref (i j k : Nat) : (AV.sref i j k).cells? = some [AV.sref i j k] := rfl
theorem cel_iref (cs : List AV) : (AV.iref cs).cellish = true := rfl
theorem clls_iref (cs : List AV) : (AV.iref cs).cells? = some [AV.iref cs] := rfl
theorem cel_fn (f : FuncId) (cs : List AV) : (AV.fn f cs).cellish = true := rfl
theorem clls_fn (f : FuncId) (cs : List AV) : (AV.fn f cs).cells? = some [AV.fn f cs] := rfl
theorem cel_mref (id : Nat) : (AV.mref id).cellish = true := rfl
theorem clls_mref (id : Nat) : (AV.mref id).cells? = some [AV.mref id] := rfl
theorem cel_imap (es : List (Value × Value)) : (AV.imap es).cellish = true := rfl
theorem clls_imap (es : List (Value × Value)) : (AV.imap es).cells? = some [AV.imap es] := rfl
theorem clls_agg (cs : List AV) : (AV.agg cs).cells? = if cs.all AV.cellish = true then some cs else none := rfl
theorem addr_ref {id i j : Nat} : addrCells H (.ref id i j) = match H[id]? with | some (some o) => (o.es[i]?).map (·.drop j) | _ => none := rfl
theorem alen_nil : alen H .nil = some 0 := rfl
theorem alen_list {k : Nat} {es : List (List AV)} : alen H (.list k es) = some (es.length : Int) := rfl
theorem alen_sref {id lo n : Nat} : alen H (.sref id lo n) = match H[id]? with | some (some _) => some (n : Int) | _ => none := rfl
theorem aix_list {t e : TypeId} {k : Nat} {es : List (List AV)} {n : Int} (h : Go.PA.elemOf P t = some e) : aindexAddr P t H (.list k es) n = if k = szOf P e ∧ knownT P e = true ∧ 0 ≤ n then (es[n.toNat]?).map .iref else none := by simp [aindexAddr, h]
theorem aix_sref {t e : TypeId} {id lo m : Nat} {n : Int} (h : Go.PA.elemOf P t = some e) : aindexAddr P t H (.sref id lo m) n = match H[id]? with
      | some (some o) => if o.k = szOf P e ∧ knownT P e = true ∧ 0 ≤ n ∧ n < m then some (.ref id (lo + n.toNat) 0) else none
      | _ => none := by
  simp only [aindexAddr, h]
  generalize H[id]? = y
  rcases y with _ | _ | o <;> rfl
theorem aix_aref {t e : TypeId} {len id i j : Nat} {n : Int} (h : Go.PA.elemOf P t = none) (h2 : arrOf P t = some (len, e)) : aindexAddr P t H (.ref id i j) n = if knownT P e = true ∧ 0 ≤ n ∧ n < len then (if (addrCells H (.ref id i j)).isSome then some (.ref id i (j + n.toNat * szOf P e)) else none) else none := by
  simp only [aindexAddr, h, h2]
theorem aix_airef {t e : TypeId} {len : Nat} {cs : List AV} {n : Int} (h : Go.PA.elemOf P t = none) (h2 : arrOf P t = some (len, e)) : aindexAddr P t H (.iref cs) n = if knownT P e = true ∧ 0 ≤ n ∧ n < len then some (.iref (cs.drop (n.toNat * szOf P e))) else none := by
  simp only [aindexAddr, h, h2]
theorem addr_iref {cs : List AV} : addrCells H (.iref cs) = some cs := rfl
end

attribute [go_sem] aagg scs alikeT alike1 abin_int abin_bool_eql abin_bool_neq abin_str_eql abin_str_neq abin_agg abin_nil1_eql abin_nil2_eql abin_nil3_eql abin_nil1_neq abin_nil2_neq abin_nil3_neq aint_add aint_sub aint_mul aint_quo aint_rem aint_eql aint_neq aint_lss aint_leq aint_gtr aint_geq addr_ref addr_iref aload cel_sc cel_nil cel_list cel_ref cel_sref cel_iref cel_fn cel_imap cel_mref clls_mref clls_agg clls_sc clls_nil clls_list clls_ref clls_sref clls_iref clls_fn clls_imap afield apart afieldV
  Value.oneCell' alen_nil alen_list alen_sref aix_list aix_sref aix_aref aix_airef alenOp abuild afill placeOf abuildSlice aparts astore amake aappend srcEs isRead

end Go.PA
