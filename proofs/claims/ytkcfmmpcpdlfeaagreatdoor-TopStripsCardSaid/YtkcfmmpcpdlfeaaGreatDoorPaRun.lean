/- PA: runs that can be reckoned out: a function called on values that are known is run by the kernel. -/
import Derived.Test.YtkcfmmpcpdlfeaaGreatDoorPaPf
import Derived.Test.YtkcfmmpcpdlfeaaGreatDoorPaIns
import Derived.Scope
namespace Go.PA
open Go.RowKit

/-- The temporaries and the objects. -/
abbrev CS := List AV × Heap
def setP : List AV → Nat → AV → List AV
  | [], 0, v => [v]
  | [], n + 1, v => .sc undef :: setP [] n v
  | _ :: l, 0, v => v :: l
  | a :: l, n + 1, v => a :: setP l n v
theorem initT_setP : ∀ (l : List AV) (i : Nat) (v : AV), initT (setP l i v) = upd (initT l) i v := by
  have key : ∀ (l : List AV) (i : Nat) (v : AV) (j : Nat), (setP l i v).getD j (.sc undef) = if j = i then v else l.getD j (.sc undef) := by
    intro l
    induction l with
    | nil =>
      intro i
      induction i with
      | zero => intro v j; cases j <;> simp [setP]
      | succ i ih => intro v j; cases j with
        | zero => simp [setP]
        | succ j => simpa [setP] using ih v j
    | cons a l ih =>
      intro i v j
      cases i with
      | zero => cases j <;> simp [setP]
      | succ i => cases j with
        | zero => simp [setP]
        | succ j => simpa [setP] using ih i v j
  intro l i v
  funext j
  exact key l i v j
def CS.st (s : CS) : St := ⟨initT s.1, s.2⟩
def putL (l : List AV) (d : Option Tmp) (x : AV) : List AV := match d with
  | some d => setP l d x
  | none => l
theorem putL_t (l : List AV) (d : Option Tmp) (x : AV) : initT (putL l d x) = putT (initT l) d x := by
  cases d
  · rfl
  · exact initT_setP _ _ _

def immB : Nat → AV → Bool
  | 0, _ => false
  | _, .sc _ => true
  | _, .nil => true
  | _, .imap _ => true
  | n + 1, .agg cs => cs.all (immB n)
  | n + 1, .tup cs => cs.all (immB n)
  | n + 1, .iref cs => cs.all (immB n)
  | n + 1, .fn _ cs => cs.all (immB n)
  | n + 1, .list _ es => es.all fun e => e.all (immB n)
  | _, _ => false
theorem immB_imm : ∀ (n : Nat) (a : AV), immB n a = true → Imm a
  | 0, _, h => by simp [immB] at h
  | n + 1, a, h => by
    cases a <;> simp only [immB, List.all_eq_true, reduceCtorEq] at h
    case sc => exact .sc
    case nil => exact .nil
    case imap => exact .imap
    case agg cs => exact .agg fun a ha => immB_imm n a (h a ha)
    case tup cs => exact .tup fun a ha => immB_imm n a (h a ha)
    case iref cs => exact .iref fun a ha => immB_imm n a (h a ha)
    case fn f cs => exact .fn fun a ha => immB_imm n a (h a ha)
    case list k es => exact .list fun e he a ha => immB_imm n a (h e he a ha)
def flatB : Nat → AV → Bool
  | 0, _ => false
  | _, .sc _ => true
  | _, .nil => true
  | n + 1, .agg cs => cs.all (flatB n)
  | n + 1, .tup cs => cs.all (flatB n)
  | _, _ => false
theorem flatB_flat : ∀ (n : Nat) (a : AV), flatB n a = true → Flat a
  | 0, _, h => by simp [flatB] at h
  | n + 1, a, h => by
    cases a <;> simp only [flatB, List.all_eq_true, reduceCtorEq] at h
    case sc => exact .sc
    case nil => exact .nil
    case agg cs => exact .agg fun a ha => flatB_flat n a (h a ha)
    case tup cs => exact .tup fun a ha => flatB_flat n a (h a ha)


def valEq : Value → Value → Bool
  | .int k a, .int k' b => decide (k = k') && decide (a = b)
  | .bool a, .bool b => decide (a = b)
  | .string a, .string b => decide (a = b)
  | _, _ => false
theorem valEq_eq {v u : Value} (h : valEq v u = true) : v = u := by
  cases v <;> cases u <;> simp_all [valEq]
def listEq {α : Type} (f : α → α → Bool) : List α → List α → Bool
  | [], [] => true
  | a :: l, b :: r => f a b && listEq f l r
  | _, _ => false
theorem listEq_eq {α : Type} {f : α → α → Bool} (hf : ∀ a b, f a b = true → a = b) : ∀ {l r : List α}, listEq f l r = true → l = r
  | [], [], _ => rfl
  | a :: l, b :: r, h => by
    simp only [listEq, Bool.and_eq_true] at h
    rw [hf _ _ h.1, listEq_eq hf h.2]
  | [], _ :: _, h => by simp [listEq] at h
  | _ :: _, [], h => by simp [listEq] at h
def avEq : Nat → AV → AV → Bool
  | 0, _, _ => false
  | _ + 1, .sc v, .sc u => valEq v u
  | _ + 1, .nil, .nil => true
  | n + 1, .agg xs, .agg ys => listEq (avEq n) xs ys
  | n + 1, .tup xs, .tup ys => listEq (avEq n) xs ys
  | n + 1, .list k xs, .list k' ys => decide (k = k') && listEq (listEq (avEq n)) xs ys
  | n + 1, .iref xs, .iref ys => listEq (avEq n) xs ys
  | n + 1, .fn f xs, .fn g ys => decide (f = g) && listEq (avEq n) xs ys
  | _ + 1, .ref i j k, .ref i' j' k' => decide (i = i') && decide (j = j') && decide (k = k')
  | _ + 1, .sref i j k, .sref i' j' k' => decide (i = i') && decide (j = j') && decide (k = k')
  | _ + 1, _, _ => false
theorem avEq_eq : ∀ (n : Nat) {a b : AV}, avEq n a b = true → a = b
  | 0, _, _, h => by simp [avEq] at h
  | n + 1, a, b, h => by
    have ih : ∀ x y, avEq n x y = true → x = y := fun x y => avEq_eq n
    cases a <;> cases b <;> simp only [avEq, reduceCtorEq, Bool.and_eq_true, decide_eq_true_eq] at h
    case sc v u => rw [valEq_eq h]
    case nil => rfl
    case agg xs ys => rw [listEq_eq ih h]
    case tup xs ys => rw [listEq_eq ih h]
    case list k xs k' ys =>
      obtain ⟨rfl, h⟩ := h
      rw [listEq_eq (fun _ _ => listEq_eq ih) h]
    case iref xs ys => rw [listEq_eq ih h]
    case fn f xs g ys =>
      obtain ⟨rfl, h⟩ := h
      rw [listEq_eq ih h]
    case ref i j k i' j' k' =>
      obtain ⟨⟨rfl, rfl⟩, rfl⟩ := h
      rfl
    case sref i j k i' j' k' =>
      obtain ⟨⟨rfl, rfl⟩, rfl⟩ := h
      rfl
def objEq : Option AObj → Option AObj → Bool
  | none, none => true
  | some o, some o' => decide (o.ty = o'.ty) && decide (o.k = o'.k) && listEq (listEq (avEq 6)) o.es o'.es
  | _, _ => false
theorem objEq_eq {a b : Option AObj} (h : objEq a b = true) : a = b := by
  cases a with
  | none => cases b with
    | none => rfl
    | some o => simp [objEq] at h
  | some o => cases b with
    | none => simp [objEq] at h
    | some o' =>
      obtain ⟨ty, k, es⟩ := o
      obtain ⟨ty', k', es'⟩ := o'
      simp only [objEq, Bool.and_eq_true, decide_eq_true_eq] at h
      obtain ⟨⟨rfl, rfl⟩, h⟩ := h
      rw [listEq_eq (fun _ _ => listEq_eq fun _ _ => avEq_eq 6) h]
/-- The objects that D names are as they were. -/
def agreeB (D : Nat → Bool) : Nat → Heap → Heap → Bool
  | _, [], _ => true
  | i, x :: l, r => match r with
    | y :: r => (!D i || objEq x y) && agreeB D (i + 1) l r
    | [] => false
theorem agreeB_get {D : Nat → Bool} : ∀ {H H' : Heap} {i : Nat}, agreeB D i H H' = true → ∀ j, j < H.length → D (i + j) = true → H'[j]? = H[j]?
  | [], _, _, _, j, hj, _ => by simp at hj
  | x :: l, [], i, h, _, _, _ => by simp [agreeB] at h
  | x :: l, y :: r, i, h, j, hj, hd => by
    simp only [agreeB, Bool.and_eq_true, Bool.or_eq_true, Bool.not_eq_true'] at h
    match j, hj, hd with
    | 0, _, hd =>
      have := h.1.resolve_left (by rw [Nat.add_zero] at hd; rw [hd]; simp)
      simp [objEq_eq this]
    | j + 1, hj, hd =>
      rw [List.getElem?_cons_succ, List.getElem?_cons_succ]
      exact agreeB_get h.2 j (by simpa using hj) (by rw [show i + 1 + j = i + (j + 1) by omega]; exact hd)
def bindL {α β : Type} (f : α → Option (List β)) : List α → Option (List β)
  | [] => some []
  | a :: l => match f a with
    | some xs => match bindL f l with
      | some ys => some (xs ++ ys)
      | none => none
    | none => none
theorem bindL_mem {α β : Type} {f : α → Option (List β)} : ∀ {l : List α} {ys : List β}, bindL f l = some ys → ∀ a, a ∈ l → ∃ xs, f a = some xs ∧ ∀ x, x ∈ xs → x ∈ ys
  | [], ys, h, a, ha => by cases ha
  | b :: l, ys, h, a, ha => by
    simp only [bindL] at h
    split at h
    · rename_i xs hx
      split at h
      · rename_i zs hz
        simp only [Option.some.injEq] at h
        subst h
        rcases List.mem_cons.1 ha with rfl | ha
        · exact ⟨xs, hx, fun x hx => by simp [hx]⟩
        · obtain ⟨us, h1, h2⟩ := bindL_mem hz a ha
          exact ⟨us, h1, fun x hx => by simp [h2 x hx]⟩
      · cases h
    · cases h

def xclear (P : Program) (t : TypeId) (H : Heap) (x : AV) : Option Heap := match x, elemOf P t with
  | .sref id lo dn, some e => match H[id]?, zeros P e with
    | some (some o), some zs => if o.k = szOf P e ∧ 0 < o.k ∧ 0 < dn ∧ lo ≤ o.es.length then some (H.set id (some { o with es := o.es.take lo ++ List.replicate dn zs ++ o.es.drop (lo + dn) })) else none
    | _, _ => none
  | .list _ [], some _ => some H
  | _, _ => none
abbrev Run := FuncId → List AV → Heap → Option (List (AV × Heap))
/-- What an operation does, reckoned out: all that may come of it. -/
def xeff (P : Program) (call : Run) (op : Op) (ev : Operand → AV) (H : Heap) : Option (List (AV × Heap)) :=
  match op with
  | .store t a x => (astore P t H (ev a) (ev x)).map fun H' => [(.sc undef, H')]
  | .alloc t => (zeros P t).map fun zs => [(.ref H.length 0 0, H ++ [some ⟨t, szOf P t, [zs]⟩])]
  | .box t x => ((ev x).cells?).map fun xs => [(.ref H.length 0 0, H ++ [some ⟨t, xs.length, [xs]⟩])]
  | .makeSlice t l c => match amake P t H (ev l) (ev c) with
    | some (r, H', m, B) => if (B : Int) * m ≤ 281474976710656 ∧ m ≤ 9223372036854775807 then some [(r, H')] else none
    | none => none
  | .buildSlice t 0 parts => match elemOf P t with
    | some e => if knownT P e = true ∧ parts.size = 0 then some [(.sref H.length 0 0, H ++ [some ⟨e, szOf P e, []⟩])] else none
    | none => none
  | .makeMap _ none => some [(.mref H.length, H ++ [some ⟨0, 2, []⟩])]
  | .mapUpdate t x k v => (aupdate P t H (ev x) (ev k) (ev v)).map fun H' => [(.sc undef, H')]
  | .range _ _ => none
  | .next _ _ => none
  | .call c => match c.callee with
    | .builtin .append => if fullBase (c.args.toList.map ev) = true then none else match c.args.toList, c.argTypes.toList with
      | [s, x], [t, t'] => if t = t' then match aappend P t H (ev s) (ev x) with
        | some (r, H', N, B) => if N ≤ 9223372036854775807 ∧ N * B ≤ 140737488355328 then some [(r, H')] else none
        | none => none else none
      | _, _ => none
    | .builtin .copy => none
    | .builtin .clear => match c.args.toList, c.argTypes.toList with
      | [x], [t] => (xclear P t H (ev x)).map fun H' => [(.tup [], H')]
      | _, _ => none
    | .value f => match ev f with
      | .fn g caps => if enterable P g = true then call g (c.args.toList.map ev ++ caps) H else none
      | _ => none
    | _ => (aread P (.call c) ev H).map fun v => [(v, H)]
  | op => (aread P op ev H).map fun v => [(v, H)]

section
variable {E : Env}
abbrev IsL (L : List (AV × Heap)) : AV → Heap → Prop := fun x K => (x, K) ∈ L
abbrev CallOk (E : Env) (call : Run) : Prop := ∀ g args H L, call g args H = some L → ACall E g args H (IsL L)
abbrev RunOk (P : Program) (run : Run) : Prop := ∀ g args H L, run g args H = some L → ∀ row src, MFun P row src g args H (IsL L)

theorem xeff_sound {call : Run} (hc : CallOk E call) {op : Op} {ev : Operand → AV} {H : Heap} {L : List (AV × Heap)}
    (h : xeff E.P call op ev H = some L) : AEff E op ev H (IsL L) := by
  have rd : ∀ {o : Option AV}, o.map (fun v => [(v, H)]) = some L → (match o with | some v => IsL L v H | none => False) := fun {o} h => by
    cases o with
    | none => simp at h
    | some v => simp only [Option.map_some, Option.some.injEq] at h; subst h; exact List.mem_singleton.2 rfl
  have one : ∀ {x : AV} {K : Heap}, some [(x, K)] = some L → IsL L x K := fun h => by
    simp only [Option.some.injEq] at h
    subst h
    exact List.mem_singleton.2 rfl
  unfold xeff at h
  unfold AEff
  split at h
  · simp only [Option.map_eq_some_iff] at h
    obtain ⟨K, hK, rfl⟩ := h
    simp only [hK]
    exact List.mem_singleton.2 rfl
  · simp only [Option.map_eq_some_iff] at h
    obtain ⟨K, hK, rfl⟩ := h
    simp only [hK]
    exact List.mem_singleton.2 rfl
  · simp only [Option.map_eq_some_iff] at h
    obtain ⟨K, hK, rfl⟩ := h
    simp only [hK]
    exact List.mem_singleton.2 rfl
  · split at h
    · rename_i hm
      split at h
      · rename_i hb
        simp only [hm]
        exact ⟨hb.1, hb.2, one h⟩
      · cases h
    · cases h
  · split at h
    · rename_i e he
      split at h
      · rename_i hb
        simp only [he, if_pos hb]
        exact one h
      · cases h
    · cases h
  · exact one h
  · simp only [Option.map_eq_some_iff] at h
    obtain ⟨K, hK, rfl⟩ := h
    simp only [hK]
    exact List.mem_singleton.2 rfl
  · cases h
  · cases h
  · rename_i c
    split at h
    · rename_i hcal
      simp only [hcal]
      split at h
      · cases h
      · rename_i hf
        rw [if_neg hf]
        split at h
        · rename_i s x t t' h1 h2
          split at h
          · rename_i htt
            split at h
            · rename_i ha
              split at h
              · rename_i hb
                simp only [h1, h2, ha]
                exact ⟨htt, hb.1, hb.2, one h⟩
              · cases h
            · cases h
          · cases h
        · cases h
    · cases h
    · rename_i hcal
      simp only [hcal]
      split at h
      · rename_i x t h1 h2
        simp only [Option.map_eq_some_iff] at h
        obtain ⟨K, hK, rfl⟩ := h
        have e2 : c.argTypes = #[t] := Array.toList_inj.1 h2
        rw [h1, e2]
        unfold xclear at hK
        split at hK
        · rename_i id lo dn e hx he
          split at hK
          · rename_i o zs ho hz
            split at hK
            · rename_i hc'
              simp only [Option.some.injEq] at hK
              subst hK
              rw [List.map_cons, List.map_nil, hx]
              exact buiB_clear (b := .mk) (.inl rfl) ho he hc'.1 hc'.2.1 hz hc'.2.2.1 hc'.2.2.2 (List.mem_singleton.2 rfl)
            · cases hK
          · cases hK
        · rename_i k e hx he
          simp only [Option.some.injEq] at hK
          subst hK
          rw [List.map_cons, List.map_nil, hx]
          exact buiB_clear_nil (b := .mk) he (List.mem_singleton.2 rfl)
        · cases hK
      · cases h
    · rename_i f hcal
      simp only [hcal]
      split at h
      · rename_i g caps hg
        split at h
        · rename_i hen
          simp only [hg]
          exact .inl ⟨hen, hc _ _ _ _ h⟩
        · cases h
      · cases h
    · rename_i h1 h2 h3 h4
      dsimp only
      split
      · rename_i hcal; exact (h1 hcal).elim
      · rename_i hcal; exact (h2 hcal).elim
      · rename_i hcal; exact (h3 hcal).elim
      · rename_i f hcal; exact (h4 f hcal).elim
      · exact rd h
  · rename_i h1 h2 h3 h4 h5 h6 h7 h8 h9 h10
    split
    · exact (h1 _ _ _ rfl).elim
    · exact (h2 _ rfl).elim
    · exact (h3 _ _ rfl).elim
    · exact (h4 _ _ _ rfl).elim
    · exact (h5 _ _ rfl).elim
    · exact (h6 _ rfl).elim
    · exact (h7 _ _ _ _ rfl).elim
    · exact (h8 _ _ rfl).elim
    · exact (h9 _ _ rfl).elim
    · exact (h10 _ rfl).elim
    · exact rd h

/-! ### Code -/
def xstep (P : Program) (call : Run) (ops : Array Oper) (o : Oper) (s : CS) : Option (List CS) :=
  match aguard ops o (initT s.1) with
  | some true => (xeff P call o.op (St.eval ⟨initT s.1, s.2⟩) s.2).map fun L => L.map fun y => (putL s.1 o.dst y.1, y.2)
  | some false => some [(putL s.1 o.dst (.sc undef), s.2)]
  | none => none
def xops (P : Program) (call : Run) (ops : Array Oper) : List Oper → CS → Option (List CS)
  | [], s => some [s]
  | o :: l, s => match xstep P call ops o s with
    | some ss => bindL (xops P call ops l) ss
    | none => none

/-- The objects that D names. -/
def xr (D : Nat → Bool) : Nat → Heap → Heap
  | _, [] => []
  | i, x :: l => (if D i then x else none) :: xr D (i + 1) l
theorem xr_get (D : Nat → Bool) : ∀ (H : Heap) (i j : Nat), (xr D i H)[j]? = H[j]?.map fun x => if D (i + j) then x else none
  | [], i, j => by simp [xr]
  | x :: l, i, 0 => by simp [xr]
  | x :: l, i, j + 1 => by rw [xr, List.getElem?_cons_succ, xr_get D l, List.getElem?_cons_succ, show i + 1 + j = i + (j + 1) by omega]
theorem xr_eq (D : Nat → Bool) (H : Heap) : xr D 0 H = restr D H := by
  apply List.ext_getElem?
  intro j
  rw [xr_get, restr, List.getElem?_mapIdx, Nat.zero_add]

/-- Which older object an operation may change. -/
def xtouch (op : Op) (ev : Operand → AV) : Option (List Nat) := match op with
  | .store _ a _ => match ev a with
    | .ref id _ _ => some [id]
    | _ => none
  | .alloc _ => some []
  | .box _ _ => some []
  | .makeSlice _ _ _ => some []
  | .call c => match c.callee with
    | .builtin .append => match c.args.toList.map ev with
      | .sref id _ _ :: _ => some [id]
      | .nil :: _ => some []
      | _ => none
    | _ => none
  | _ => none
theorem get_app {H : Heap} {x : Option AObj} {id : Nat} (h : id < H.length) : (H ++ [x])[id]? = H[id]? := List.getElem?_append_left h
theorem xtouch_sound {P : Program} {call : Run} {op : Op} {ev : Operand → AV} {H : Heap} {L : List (AV × Heap)} {X : List Nat}
    (h : xeff P call op ev H = some L) (ht : xtouch op ev = some X) (id : Nat) (hid : id < H.length) (hX : id ∉ X) {r : AV} {H' : Heap} (hL : (r, H') ∈ L) : H'[id]? = H[id]? := by
  unfold xtouch at ht
  split at ht
  · rename_i t a x
    simp only [xeff, Option.map_eq_some_iff] at h
    obtain ⟨K, hK, rfl⟩ := h
    simp only [List.mem_singleton, Prod.mk.injEq] at hL
    obtain ⟨_, rfl⟩ := hL
    split at ht
    · rename_i i j k ha
      simp only [Option.some.injEq] at ht
      subst ht
      rw [ha] at hK
      unfold astore at hK
      split at hK
      · rename_i i' _ _ _ _ heq _
        cases heq
        split at hK
        · split at hK
          · split at hK
            · simp only [Option.some.injEq] at hK
              subst hK
              rw [List.getElem?_set_ne (by simpa using Ne.symm (by simpa using hX))]
            · cases hK
          · cases hK
        · cases hK
      · cases hK
    · cases ht
  · simp only [xeff, Option.map_eq_some_iff] at h
    obtain ⟨K, hK, rfl⟩ := h
    simp only [List.mem_singleton, Prod.mk.injEq] at hL
    obtain ⟨_, rfl⟩ := hL
    exact get_app hid
  · simp only [xeff, Option.map_eq_some_iff] at h
    obtain ⟨K, hK, rfl⟩ := h
    simp only [List.mem_singleton, Prod.mk.injEq] at hL
    obtain ⟨_, rfl⟩ := hL
    exact get_app hid
  · simp only [xeff] at h
    split at h
    · rename_i hm
      split at h
      · simp only [Option.some.injEq] at h
        subst h
        simp only [List.mem_singleton, Prod.mk.injEq] at hL
        obtain ⟨_, rfl⟩ := hL
        unfold amake at hm
        split at hm
        · split at hm
          · split at hm
            · simp only [Option.some.injEq, Prod.mk.injEq] at hm
              obtain ⟨_, rfl, _⟩ := hm
              exact get_app hid
            · cases hm
          · cases hm
        · cases hm
      · cases h
    · cases h
  · rename_i c
    split at ht
    · rename_i hcal
      simp only [xeff, hcal] at h
      split at h
      · cases h
      · split at h
        · rename_i s x t t' h1 h2
          split at h
          · split at h
            · rename_i ha
              split at h
              · simp only [Option.some.injEq] at h
                subst h
                simp only [List.mem_singleton, Prod.mk.injEq] at hL
                obtain ⟨_, rfl⟩ := hL
                rw [h1] at ht
                unfold aappend at ha
                split at ha
                · cases ha
                · split at ha
                  · split at ha
                    · cases ha
                    · split at ha
                      · simp only [Option.some.injEq, Prod.mk.injEq] at ha
                        obtain ⟨_, rfl, _⟩ := ha
                        exact get_app hid
                      · rename_i hs
                        simp only [List.map_cons, hs, Option.some.injEq] at ht
                        subst ht
                        split at ha
                        · split at ha
                          · simp only [Option.some.injEq, Prod.mk.injEq] at ha
                            obtain ⟨_, rfl, _⟩ := ha
                            rw [get_app (by simpa using hid), List.getElem?_set_ne (by simpa using Ne.symm (by simpa using hX))]
                          · cases ha
                        · cases ha
                      · cases ha
                  · cases ha
              · cases h
            · cases h
          · cases h
        · cases h
    · cases ht
  · cases ht

/-- What runs hand back, where it is the same however they went. -/
def xsame : List (AV × Heap) → Option AV
  | [] => none
  | (r, H) :: L => if immB 6 (view H r) && L.all (fun y => avEq 6 (view H r) (view y.2 y.1)) then some (view H r) else none
theorem xsame_sound {L : List (AV × Heap)} {v : AV} (h : xsame L = some v) : Imm v ∧ ∀ y, y ∈ L → view y.2 y.1 = v := by
  unfold xsame at h
  split at h
  · cases h
  · rename_i r H L
    split at h
    · rename_i hc
      simp only [Bool.and_eq_true, List.all_eq_true] at hc
      simp only [Option.some.injEq] at h
      subst h
      refine ⟨immB_imm 6 _ hc.1, fun y hy => ?_⟩
      rcases List.mem_cons.1 hy with rfl | hy
      · rfl
      · exact (avEq_eq 6 (hc.2 y hy)).symm
    · cases h
/-- A call of a function on values that bear no objects of the walk's, in a walk of its own. -/
def xpure (run : Run) (g : FuncId) (args : List AV) : Option AV :=
  if args.all (immB 6) then match run g args [] with
    | some L => xsame L
    | none => none
  else none

/-- A step of a region that draws. -/
def xdstep (P : Program) (run call : Run) (D : Nat → Bool) (n : Nat) (S T : List Nat) (ops : Array Oper) (k : Nat) (o : Oper) (s : CS) : Option (List CS) :=
  match aguard ops o (initT s.1) with
  | some true =>
    if T.contains k then (match o.op with
      | .call c => match c.callee with
        | .value f => match St.eval ⟨initT s.1, s.2⟩ f with
          | .fn g caps => if enterable P g = true then (xpure run g (c.args.toList.map (St.eval ⟨initT s.1, s.2⟩) ++ caps)).map fun x => [(putL s.1 o.dst x, s.2)] else none
          | _ => none
        | _ => none
      | _ => none)
    else if isRead o.op then (aread P o.op (St.eval ⟨initT s.1, s.2⟩) (if S.contains k then s.2 else xr D 0 s.2)).map fun x => [(putL s.1 o.dst x, s.2)]
    else if S.contains k then (xeff P call o.op (St.eval ⟨initT s.1, s.2⟩) s.2).map fun L => L.map fun y => (putL s.1 o.dst y.1, y.2)
    else match xtouch o.op (St.eval ⟨initT s.1, s.2⟩) with
      | some X => if n ≤ s.2.length && X.all (fun i => !D i) then (xeff P call o.op (St.eval ⟨initT s.1, s.2⟩) s.2).map fun L => L.map fun y => (putL s.1 o.dst y.1, y.2) else none
      | none => match xeff P call o.op (St.eval ⟨initT s.1, s.2⟩) s.2 with
        | some L => if n ≤ s.2.length && L.all (fun y => agreeB D 0 s.2 y.2) then some (L.map fun y => (putL s.1 o.dst y.1, y.2)) else none
        | none => none
  | some false => some [(putL s.1 o.dst (.sc undef), s.2)]
  | none => none
def xdops (P : Program) (run call : Run) (D : Nat → Bool) (n : Nat) (S T : List Nat) (ops : Array Oper) : List Oper → Nat → CS → Option (List CS)
  | [], _, s => some [s]
  | o :: l, k, s => match xdstep P run call D n S T ops k o s with
    | some ss => bindL (xdops P run call D n S T ops l (k + 1)) ss
    | none => none
/-- Every order, but for what may change places. -/
def xorders (P : Program) (run call : Run) (D : Nat → Bool) (n : Nat) (S T : List Nat) (ops : Array Oper) : Nat → Array Bool → CS → Option (List CS)
  | 0, listed, s => if Region.ready .any ops listed = [] then some [s] else none
  | k + 1, listed, s => match Region.ready .any ops listed with
    | [] => none
    | R => let one := fun i => match ops[i]? with
        | some o => match xdstep P run call D n S T ops i o s with
          | some ss => bindL (xorders P run call D n S T ops k (listed.setIfInBounds i true)) ss
          | none => none
        | none => none
      match R.find? fun i => pickOk ops S T listed i with
      | some i => one i
      | none => bindL one R

/-- How a region that draws is to be run: S, T, and the slots whose objects change. -/
structure DH where
  S : List Nat
  T : List Nat
  X : List Nat
def idOf : AV → Option Nat
  | .ref id _ _ => some id
  | .sref id _ _ => some id
  | .mref id => some id
  | _ => none
def DH.D (d : DH) (s : CS) : Nat → Bool := fun i => decide (i < s.2.length) && d.X.all fun j => !(idOf (initT s.1 j) == some i)

def xregion (P : Program) (run call : Run) (d : DH) (ops : Array Oper) (s : CS) : Option (List CS) :=
  if regionX ops d.S d.T then xdops P run call (d.D s) s.2.length d.S d.T ops ops.toList 0 s
  else xorders P run call (d.D s) s.2.length d.S d.T ops ops.size (Array.replicate ops.size false) s

abbrev Outs := Option (List (Exit × CS))
def xcode (P : Program) (N : Nat) (hint : Nat → DH) (run : Run) (call : Nat → Run) : Nat → Code → CS → Outs
  | 0, _, _ => none
  | n + 1, c, s => match c with
    | .skip => some [(.normal, s)]
    | .region id ops d => if dstsOk N ops then (match (if d then xregion P run (call id) (hint id) ops s else xops P (call id) ops ops.toList s) with
      | some ss => some (ss.map fun s' => (.normal, s'))
      | none => none) else none
    | .seq a b => match xcode P N hint run call n a s with
      | some rs => bindL (fun r => match r.1 with
        | .normal => xcode P N hint run call n b r.2
        | e => some [(e, r.2)]) rs
      | none => none
    | .cond x a b => match St.eval ⟨initT s.1, s.2⟩ x with
      | .sc (.bool true) => xcode P N hint run call n a s
      | .sc (.bool false) => xcode P N hint run call n b s
      | _ => none
    | .block id c => match xcode P N hint run call n c s with
      | some rs => some (rs.map fun r => match r.1 with
        | .exit i => if i = id then (.normal, r.2) else (.exit i, r.2)
        | e => (e, r.2))
      | none => none
    | .exit id => some [(.exit id, s)]
    | .label _ => some [(.normal, s)]
    | .ret => some [(.ret, s)]
    | .loop c => match xcode P N hint run call n c s with
      | some rs => bindL (fun r => match r.1 with
        | .normal => xcode P N hint run call n (.loop c) r.2
        | e => some [(e, r.2)]) rs
      | none => none
    | _ => none

abbrev SL (L : List CS) : St → Prop := fun st => ∃ s, s ∈ L ∧ st = ⟨initT s.1, s.2⟩
theorem AStep.mono {ops : Array Oper} {o : Oper} {s : St} {K K' : St → Prop} (h : AStep E ops o s K) (hk : ∀ s', K s' → K' s') : AStep E ops o s K' := by
  unfold AStep at h ⊢
  split
  · rename_i hg; rw [hg] at h; exact AEff.mono h fun x H' hx => hk _ hx
  · rename_i hg; rw [hg] at h; exact hk _ h
  · rename_i hg; rw [hg] at h; exact h
variable {run call : Run}
theorem sl_of {L : List (AV × Heap)} {s : CS} {d : Option Tmp} {x : AV} {K : Heap} (h : (x, K) ∈ L) : SL (L.map fun y => (putL s.1 d y.1, y.2)) ⟨putT (initT s.1) d x, K⟩ :=
  ⟨_, List.mem_map_of_mem h, by rw [← putL_t]⟩
theorem sl_one {l : List AV} {d : Option Tmp} {x : AV} {H : Heap} : SL [(putL l d x, H)] ⟨putT (initT l) d x, H⟩ := ⟨_, List.mem_singleton.2 rfl, by rw [← putL_t]⟩
theorem xstep_sound (hc : CallOk E call) {ops : Array Oper} {o : Oper} {s : CS} {L : List CS} (h : xstep E.P call ops o s = some L) : AStep E ops o ⟨initT s.1, s.2⟩ (SL L) := by
  unfold xstep at h
  unfold AStep
  split at h
  · rename_i hg
    simp only [hg]
    simp only [Option.map_eq_some_iff] at h
    obtain ⟨M, hM, rfl⟩ := h
    exact (xeff_sound hc hM).mono fun x K hx => sl_of hx
  · rename_i hg
    simp only [hg]
    simp only [Option.some.injEq] at h
    subst h
    exact sl_one
  · cases h
theorem AOps.mono {ops : Array Oper} : ∀ (l : List Oper) {s : St} {K K' : St → Prop}, (∀ s, K s → K' s) → AOps E ops l s K → AOps E ops l s K'
  | [], _, _, _, hk, h => hk _ h
  | _ :: l, _, _, _, hk, h => AStep.mono h fun _ h1 => AOps.mono l hk h1
theorem AXOps.mono {D : Nat → Bool} {S T : List Nat} {ops : Array Oper} : ∀ (l : List Oper) (k : Nat) {s : St} {K K' : St → Prop}, (∀ s, K s → K' s) → AXOps D E ops S T l k s K → AXOps D E ops S T l k s K'
  | [], _, _, _, _, hk, h => hk _ h
  | _ :: l, k, _, _, _, hk, h => XStep.mono h fun _ h1 => AXOps.mono l (k + 1) hk h1
theorem xops_sound (hc : CallOk E call) {ops : Array Oper} : ∀ (l : List Oper) {s : CS} {L : List CS}, xops E.P call ops l s = some L → AOps E ops l ⟨initT s.1, s.2⟩ (SL L)
  | [], s, L, h => by simp only [xops, Option.some.injEq] at h; subst h; exact ⟨s, List.mem_singleton.2 rfl, rfl⟩
  | o :: l, s, L, h => by
    simp only [xops] at h
    split at h
    · rename_i ss h1
      refine (xstep_sound hc h1).mono ?_
      rintro _ ⟨s1, hm, rfl⟩
      obtain ⟨M, h2, h3⟩ := bindL_mem h s1 hm
      exact AOps.mono l (fun _ ⟨s2, h4, h5⟩ => ⟨s2, h3 s2 h4, h5⟩) (xops_sound hc l h2)
    · cases h

theorem xpure_sound {P : Program} (hr : RunOk P run) {g : FuncId} {args : List AV} {v : AV} (h : xpure run g args = some v) (row src : Option Nat) :
    PFun P row src g args (· = v) ∧ (∀ a, a ∈ args → Imm a) ∧ Imm v := by
  unfold xpure at h
  split at h
  · rename_i ha
    split at h
    · rename_i L h1
      obtain ⟨hi, hv⟩ := xsame_sound h
      refine ⟨pfun_of_mfun (hr _ _ _ _ h1 row src) ?_, fun a hx => immB_imm 6 a (List.all_eq_true.1 ha a hx), hi⟩
      intro r' K hm
      have := hv _ hm
      dsimp only at this
      exact ⟨v, by rw [this]; exact .refl _, by rw [this]; exact hi, hi, rfl⟩
    · cases h
  · cases h

theorem xdstep_sound (hr : RunOk E.P run) (hc : CallOk E call)
    {D : Nat → Bool} {n : Nat} (hD : ∀ i, D i = true → i < n) {S T : List Nat} {ops : Array Oper} {k : Nat} {o : Oper} {s : CS} {L : List CS} (h : xdstep E.P run call D n S T ops k o s = some L) : XStep D E ops S T k o ⟨initT s.1, s.2⟩ (SL L) := by
  unfold xdstep at h
  unfold XStep
  split at h
  · rename_i hg
    split at h
    · rename_i hT
      rw [if_pos hT]
      unfold QStep QOut
      simp only [hg]
      unfold QEff
      split at h
      · rename_i c hop
        split at h
        · rename_i f hcal
          split at h
          · rename_i g caps hf
            split at h
            · rename_i hen
              simp only [Option.map_eq_some_iff] at h
              obtain ⟨v, hv, rfl⟩ := h
              obtain ⟨h1, h2, h3⟩ := xpure_sound hr hv E.row E.src
              rw [eval_heap _ _ []] at hf
              simp only [hop, hcal, hf]
              have := callQ_is (E := E) (b := .mk) (k := fun x => SL [(putL s.1 o.dst v, s.2)] ⟨putT (initT s.1) o.dst x, s.2⟩) h1 rfl hen h2 h3 sl_one
              rw [eval_heap _ _ []] at this
              exact this
            · cases h
          · cases h
        · cases h
      · cases h
    · rename_i hT
      rw [if_neg hT]
      unfold DStep
      simp only [hg]
      unfold DEff
      split at h
      · rename_i hrd
        rw [if_pos hrd]
        simp only [Option.map_eq_some_iff] at h
        obtain ⟨v, hv, rfl⟩ := h
        have e : rdH (!S.contains k) D s.2 = (if S.contains k = true then s.2 else xr D 0 s.2) := by
          rw [xr_eq]
          cases S.contains k <;> rfl
        dsimp only
        rw [e]
        simp only [hv]
        exact sl_one
      · rename_i hrd
        rw [if_neg hrd]
        split at h
        · rename_i hS
          simp only [Option.map_eq_some_iff] at h
          obtain ⟨M, hv, rfl⟩ := h
          refine (xeff_sound hc hv).mono fun x K hx => ⟨fun hs => ?_, sl_of hx⟩
          rw [hS] at hs
          cases hs
        · split at h
          · rename_i X hX
            split at h
            · rename_i hb
              simp only [Bool.and_eq_true, decide_eq_true_eq, List.all_eq_true, Bool.not_eq_true'] at hb
              simp only [Option.map_eq_some_iff] at h
              obtain ⟨M, hv, rfl⟩ := h
              refine (xeff_sound hc hv).mono fun x K hx => ⟨fun _ id hid => xtouch_sound hv hX id (Nat.lt_of_lt_of_le (hD id hid) hb.1) (fun hm => ?_) hx, sl_of hx⟩
              rw [hb.2 id hm] at hid
              cases hid
            · cases h
          · split at h
            · rename_i M hv
              split at h
              · rename_i hb
                simp only [Bool.and_eq_true, decide_eq_true_eq, List.all_eq_true] at hb
                simp only [Option.some.injEq] at h
                subst h
                exact (xeff_sound hc hv).mono fun x K hx => ⟨fun _ id hid => agreeB_get (hb.2 _ hx) id (Nat.lt_of_lt_of_le (hD id hid) hb.1) (by rw [Nat.zero_add]; exact hid), sl_of hx⟩
              · cases h
            · cases h
  · rename_i hg
    simp only [Option.some.injEq] at h
    subst h
    split
    · unfold QStep QOut
      simp only [hg]
      exact sl_one
    · unfold DStep
      simp only [hg]
      exact sl_one
  · cases h
theorem xdops_sound (hr : RunOk E.P run) (hc : CallOk E call)
    {D : Nat → Bool} {n : Nat} (hD : ∀ i, D i = true → i < n) {S T : List Nat} {ops : Array Oper} : ∀ (l : List Oper) (k : Nat) {s : CS} {L : List CS}, xdops E.P run call D n S T ops l k s = some L → AXOps D E ops S T l k ⟨initT s.1, s.2⟩ (SL L)
  | [], k, s, L, h => by simp only [xdops, Option.some.injEq] at h; subst h; exact ⟨s, List.mem_singleton.2 rfl, rfl⟩
  | o :: l, k, s, L, h => by
    simp only [xdops] at h
    split at h
    · rename_i ss h1
      refine (xdstep_sound hr hc hD h1).mono ?_
      rintro _ ⟨s1, hm, rfl⟩
      obtain ⟨M, h2, h3⟩ := bindL_mem h s1 hm
      exact AXOps.mono l (k + 1) (fun _ ⟨s2, h4, h5⟩ => ⟨s2, h3 s2 h4, h5⟩) (xdops_sound hr hc hD l (k + 1) h2)
    · cases h
theorem xorders_sound (hr : RunOk E.P run) (hc : CallOk E call)
    {D : Nat → Bool} {n : Nat} (hD : ∀ i, D i = true → i < n) {S T : List Nat} {ops : Array Oper} : ∀ (k : Nat) (listed : Array Bool) {s : CS} {L : List CS}, xorders E.P run call D n S T ops k listed s = some L → XAny D E ops S T (SL L) k listed ⟨initT s.1, s.2⟩
  | 0, listed, s, L, h => by
    simp only [xorders] at h
    split at h
    · rename_i h0
      simp only [Option.some.injEq] at h
      subst h
      exact ⟨h0, s, List.mem_singleton.2 rfl, rfl⟩
    · cases h
  | k + 1, listed, s, L, h => by
    simp only [xorders] at h
    split at h
    · cases h
    · rename_i R hne
      have one : ∀ (i : Nat) (M : List CS), (match ops[i]? with
          | some o => match xdstep E.P run call D n S T ops i o s with
            | some ss => bindL (xorders E.P run call D n S T ops k (listed.setIfInBounds i true)) ss
            | none => none
          | none => none) = some M → (∀ x, x ∈ M → x ∈ L) → ∃ o, ops[i]? = some o ∧ XStep D E ops S T i o ⟨initT s.1, s.2⟩ (XAny D E ops S T (SL L) k (listed.setIfInBounds i true)) := fun i M hM hsub => by
        split at hM
        · rename_i o ho
          split at hM
          · rename_i ss h1
            refine ⟨o, ho, (xdstep_sound hr hc hD h1).mono ?_⟩
            rintro _ ⟨s1, hm, rfl⟩
            obtain ⟨M', h2, h3⟩ := bindL_mem hM s1 hm
            exact XAny.mono (fun _ ⟨s2, h4, h5⟩ => ⟨s2, hsub _ (h3 s2 h4), h5⟩) _ _ _ (xorders_sound hr hc hD k _ h2)
          · cases hM
        · cases hM
      split at h
      · rename_i i hi
        obtain ⟨o, ho, hx⟩ := one i L h fun _ h => h
        have hp := List.find?_some hi
        exact xany_pick i ho hp hx
      · refine ⟨fun h0 => (hne h0).elim, fun i hi o ho => ?_⟩
        obtain ⟨M, h1, h2⟩ := bindL_mem h i hi
        obtain ⟨o', ho', hx⟩ := one i M h1 h2
        rw [ho] at ho'
        cases ho'
        exact hx

theorem DH.D_lt (d : DH) (s : CS) : ∀ i, d.D s i = true → i < s.2.length := fun i h => by
  simp only [DH.D, Bool.and_eq_true, decide_eq_true_eq] at h
  exact h.1
theorem xregion_sound (hm : E.P.follows .mixedOrders = true) (hr : RunOk E.P run) (hc : CallOk E call) {d : DH} {ops : Array Oper} {s : CS} {L : List CS} {id : Nat} (hb : dstsOk E.N ops = true) (h : xregion E.P run call d ops s = some L) :
    AWp E (.region id ops true) ⟨initT s.1, s.2⟩ (fun x st => x = .normal ∧ SL L st) := by
  unfold xregion at h
  split at h
  · rename_i hx
    exact awp_drawA (d.D s) d.S d.T hm hb (XAny.mono (K := SL L) (fun st hs => ⟨rfl, hs⟩) _ _ _ (xany_all hx (xdops_sound hr hc (DH.D_lt d s) ops.toList 0 h)))
  · exact awp_drawA (d.D s) d.S d.T hm hb (XAny.mono (K := SL L) (fun st hs => ⟨rfl, hs⟩) _ _ _ (xorders_sound hr hc (DH.D_lt d s) ops.size _ h))

abbrev OL (L : List (Exit × CS)) : Exit → St → Prop := fun x st => ∃ s, (x, s) ∈ L ∧ st = ⟨initT s.1, s.2⟩
theorem xcode_sound (hm : E.P.follows .mixedOrders = true) (hint : Nat → DH) (hr : RunOk E.P run) {call : Nat → Run} (hc : ∀ id, CallOk E (call id)) :
    ∀ (n : Nat) (c : Code) (s : CS) (L : List (Exit × CS)), xcode E.P E.N hint run call n c s = some L → AWp E c ⟨initT s.1, s.2⟩ (OL L) := by
  intro n
  induction n using Nat.strongRecOn with
  | _ n ih =>
    intro c s L h
    cases n with
    | zero => simp [xcode] at h
    | succ n =>
      have ih1 := ih n (Nat.lt_succ_self n)
      have one : ∀ {e : Exit} {s : CS}, some [(e, s)] = some L → OL L e ⟨initT s.1, s.2⟩ := fun h => by
        simp only [Option.some.injEq] at h
        subst h
        exact ⟨_, List.mem_singleton.2 rfl, rfl⟩
      cases c
      case skip => simp only [xcode] at h; exact fun a w r => wp_skip ⟨_, one h, r⟩
      case region id ops d =>
        simp only [xcode] at h
        split at h
        · rename_i hb
          split at h
          · rename_i ss h1
            simp only [Option.some.injEq] at h
            subst h
            cases d
            · simp only [Bool.false_eq_true, if_false] at h1
              refine AWp.mono (awp_region (Q := fun x st => x = .normal ∧ SL ss st) hb (AOps.mono _ (fun s hs => ⟨rfl, hs⟩) (xops_sound (hc id) ops.toList h1))) ?_
              rintro x st ⟨rfl, s1, h2, rfl⟩
              exact ⟨s1, List.mem_map.2 ⟨s1, h2, rfl⟩, rfl⟩
            · simp only [if_true] at h1
              refine AWp.mono (xregion_sound (id := id) hm hr (hc id) hb h1) ?_
              rintro x st ⟨rfl, s1, h2, rfl⟩
              exact ⟨s1, List.mem_map.2 ⟨s1, h2, rfl⟩, rfl⟩
          · cases h
        · cases h
      case seq x y =>
        simp only [xcode] at h
        split at h
        · rename_i rs h1
          intro a w r
          refine wp_seq (wp_mono (ih1 x s _ h1 a w r) ?_)
          rintro e' a' w' ⟨st, ⟨s1, hs, rfl⟩, r'⟩
          obtain ⟨M, h2, h3⟩ := bindL_mem h _ hs
          dsimp only at h2
          cases e' with
          | normal => exact wp_mono (ih1 y s1 _ h2 a' w' r') fun e a w ⟨st, ⟨s2, h4, h5⟩, r2⟩ => ⟨st, ⟨s2, h3 _ h4, h5⟩, r2⟩
          | _ =>
            simp only [Option.some.injEq] at h2
            subst h2
            exact ⟨_, ⟨s1, h3 _ (List.mem_singleton.2 rfl), rfl⟩, r'⟩
        · cases h
      case cond x y z =>
        simp only [xcode] at h
        have he : ∀ {a : Act} {w : World} {v : Value}, Rel E ⟨initT s.1, s.2⟩ a w → St.eval ⟨initT s.1, s.2⟩ x = .sc v → a.eval x = v := fun {a w v} r hx => by
          obtain ⟨ρ, ok, g, _, _, _, hrr⟩ := r
          have := rep_eval hrr x
          rw [hx] at this
          exact rep_sc this
        intro a w r
        split at h
        · rename_i hx
          exact wp_cond_split (he r hx) (fun _ => ih1 y s _ h a w r) (fun e => by cases e)
        · rename_i hx
          exact wp_cond_split (he r hx) (fun e => by cases e) (fun _ => ih1 z s _ h a w r)
        · cases h
      case block id c =>
        simp only [xcode] at h
        split at h
        · rename_i rs h1
          simp only [Option.some.injEq] at h
          subst h
          intro a w r
          refine wp_block (wp_mono (ih1 c s _ h1 a w r) ?_)
          rintro e' a' w' ⟨st, ⟨s1, hs, rfl⟩, r'⟩
          cases e' with
          | exit i =>
            simp only [Exit.inBlock]
            split
            · rename_i hi
              exact ⟨_, ⟨s1, List.mem_map.2 ⟨_, hs, by dsimp only; rw [if_pos hi]⟩, rfl⟩, r'⟩
            · rename_i hi
              exact ⟨_, ⟨s1, List.mem_map.2 ⟨_, hs, by dsimp only; rw [if_neg hi]⟩, rfl⟩, r'⟩
          | _ => exact ⟨_, ⟨s1, List.mem_map.2 ⟨_, hs, rfl⟩, rfl⟩, r'⟩
        · cases h
      case exit id => simp only [xcode] at h; exact fun a w r => wp_exit ⟨_, one h, r⟩
      case label l => simp only [xcode] at h; exact fun a w r => wp_label ⟨_, one h, r⟩
      case ret => simp only [xcode] at h; exact fun a w r => wp_ret ⟨_, one h, r⟩
      case loop c =>
        intro a w r
        refine wp_loop_ghost (fun k a w => k ≤ n + 1 ∧ ∃ s1 M, xcode E.P E.N hint run call k (.loop c) s1 = some M ∧ (∀ x, x ∈ M → x ∈ L) ∧ Rel E ⟨initT s1.1, s1.2⟩ a w) (n + 1) ⟨Nat.le_refl _, s, L, h, fun _ h => h, r⟩ ?_
        rintro k a w ⟨hk, s1, M, h1, hsub, r1⟩
        match k, hk, h1 with
        | 0, _, h1 => simp [xcode] at h1
        | k + 1, hk, h1 =>
          simp only [xcode] at h1
          split at h1
          · rename_i rs h2
            refine wp_mono (ih k (by omega) c s1 _ h2 a w r1) ?_
            rintro e' a' w' ⟨st, ⟨s2, hs, rfl⟩, r'⟩
            obtain ⟨M', h3, h4⟩ := bindL_mem h1 _ hs
            dsimp only at h3
            cases e' with
            | normal => exact ⟨k, Nat.lt_succ_self k, by omega, s2, M', h3, fun x hx => hsub x (h4 x hx), r'⟩
            | _ =>
              simp only [Option.some.injEq] at h3
              subst h3
              exact ⟨_, ⟨s2, hsub _ (h4 _ (List.mem_singleton.2 rfl)), rfl⟩, r'⟩
          · cases h1
      all_goals simp [xcode] at h

end

/-! ### Functions -/
def xcall (mode : FuncId → Bool) (run : Run) (g : FuncId) (args : List AV) (H : Heap) : Option (List (AV × Heap)) :=
  if mode g then run g args H
  else if (args.map (view H)).all (immB 6) then match run g (args.map (view H)) [] with
    | some L => match xsame L with
      | some v => if flatB 6 v || args.all fun a => (srefs a).isEmpty then some [(v, H)] else run g args H
      | none => none
    | none => none
  else run g args H

def xres (P : Program) (rs : List ResultVar) : List (Exit × CS) → Option (List (AV × Heap)) := bindL fun r => match r.1 with
  | .normal => (ares P ⟨initT r.2.1, r.2.2⟩ rs).map fun v => [(v, r.2.2)]
  | .ret => (ares P ⟨initT r.2.1, r.2.2⟩ rs).map fun v => [(v, r.2.2)]
  | _ => none
def xrun (P : Program) (prim : Run) (hints : FuncId → Nat → DH) (mode : FuncId → Nat → FuncId → Bool) (F : Nat) : Nat → Run
  | 0, _, _, _ => none
  | n + 1, f, args, H => match prim f args H with
    | some L => some L
    | none => match P.funcs[f]? with
      | some fn => match fn.body with
        | some body => if args.length ≤ fn.ntmps then match xcode P fn.ntmps (hints f) (xrun P prim hints mode F n) (fun id => xcall (mode f id) (xrun P prim hints mode F n)) F body (args, H) with
          | some rs => match xres P fn.results.toList rs with
            | some (y :: L) => some (y :: L)
            | _ => none
          | none => none
          else none
        | none => none
      | none => none

theorem args_view {H : Heap} : ∀ (args : List AV), (∀ a, a ∈ args → Imm (view H a)) → Args H args (args.map (view H))
  | [], _ => .nil
  | a :: l, h => .cons (.refl _) (h a (by simp)) (args_view l fun x hx => h x (by simp [hx]))

theorem xcall_sound {E : Env} {mode : FuncId → Bool} {run : Run} (hr : RunOk E.P run) : CallOk E (xcall mode run) := by
  intro g args H L h
  unfold xcall at h
  split at h
  · exact hr _ _ _ _ h E.row E.src E rfl rfl rfl
  · split at h
    · rename_i ha
      split at h
      · rename_i L1 h1
        split at h
        · rename_i v hv
          obtain ⟨hi, hall⟩ := xsame_sound hv
          have hav : ∀ a, a ∈ args → Imm (view H a) := fun a hx => immB_imm 6 _ (List.all_eq_true.1 ha _ (List.mem_map_of_mem hx))
          have pf : PFun E.P E.row E.src g (args.map (view H)) (· = v) := pfun_of_mfun (hr _ _ _ _ h1 E.row E.src) (by
            intro r' K hm
            have := hall _ hm
            dsimp only at this
            exact ⟨v, by rw [this]; exact .refl _, by rw [this]; exact hi, hi, rfl⟩)
          split at h
          · rename_i hf
            simp only [Option.some.injEq] at h
            subst h
            simp only [Bool.or_eq_true] at hf
            rcases hf with hf | hf
            · exact acall_flat _ rfl pf (args_view args hav) ⟨_, rfl⟩ (by rintro x rfl; exact flatB_flat 6 _ hf) (by rintro x rfl; exact List.mem_singleton.2 rfl)
            · exact acall_imm _ rfl pf (args_view args hav) (fun a hx => by simpa using List.all_eq_true.1 hf a hx) (by rintro x rfl _; exact List.mem_singleton.2 rfl) ⟨_, rfl, hi⟩
          · exact hr _ _ _ _ h E.row E.src E rfl rfl rfl
        · cases h
      · cases h
    · exact hr _ _ _ _ h E.row E.src E rfl rfl rfl

theorem xrun_sound {P : Program} (hm : P.follows .mixedOrders = true) {prim : Run} (hp : RunOk P prim) (hints : FuncId → Nat → DH) (mode : FuncId → Nat → FuncId → Bool) (F : Nat) : ∀ (n : Nat), RunOk P (xrun P prim hints mode F n)
  | 0 => fun _ _ _ _ h => by simp [xrun] at h
  | n + 1 => by
    intro f args H L h row src
    have ih := xrun_sound hm hp hints mode F n
    simp only [xrun] at h
    split at h
    · rename_i L1 h1
      simp only [Option.some.injEq] at h
      subst h
      exact hp _ _ _ _ h1 row src
    split at h
    · rename_i fn hfn
      split at h
      · rename_i body hb
        split at h
        · rename_i hn
          split at h
          · rename_i rs hrs
            split at h
            · rename_i y L' hres
              simp only [Option.some.injEq] at h
              rw [h] at hres
              refine mfun_of_AWp hfn hb hn ⟨y.1, y.2, by rw [← h]; simp⟩ fun E hP _ _ hN => ?_
              subst hP
              rw [← hN] at hrs
              refine (xcode_sound (E := E) hm (hints f) ih (fun id => xcall_sound (mode := mode f id) ih) F body (args, H) _ hrs).mono ?_
              rintro x st ⟨s1, hs, rfl⟩
              obtain ⟨M, h2, h3⟩ := bindL_mem hres _ hs
              dsimp only at h2
              cases x <;> simp only [reduceCtorEq, Option.map_eq_some_iff] at h2 ⊢
              · obtain ⟨v, hv, rfl⟩ := h2
                simp only [AM, hv]
                exact h3 _ (List.mem_singleton.2 rfl)
              · obtain ⟨v, hv, rfl⟩ := h2
                simp only [AM, hv]
                exact h3 _ (List.mem_singleton.2 rfl)
            · cases h
          · cases h
        · cases h
      · cases h
    · cases h

/-- A function run on values that bear no objects. -/
theorem pfun_run {P : Program} {prim : Run} (hp : RunOk P prim) (hints : FuncId → Nat → DH) (mode : FuncId → Nat → FuncId → Bool) (F n : Nat) {f : FuncId} {args : List AV} {v : AV} (hm : P.follows .mixedOrders = true)
    (h : xpure (xrun P prim hints mode F n) f args = some v) (row src : Option Nat) : PFun P row src f args (· = v) := (xpure_sound (xrun_sound hm hp hints mode F n) h row src).1
/-- A new empty slice, in one of two ways. -/
def twoE (ty : TypeId) (k : Nat) (H : Heap) : List (AV × Heap) := [(.sref H.length 0 0, H ++ [some ⟨ty, k, []⟩]), (.sref (H.length + 1) 0 0, H ++ [none] ++ [some ⟨ty, k, []⟩])]
/-- A copy of an empty slice: the function's number, the elements' type and size. -/
def primE (l : List (FuncId × TypeId × Nat)) : Run := fun f args H => match l.find? (fun x => x.1 == f), args with
  | some (_, ty, k), [.list k' []] => if k' = k then some (twoE ty k H) else none
  | _, _ => none
theorem primE_ok {P : Program} {l : List (FuncId × TypeId × Nat)} (h : ∀ x, x ∈ l → ∀ (H : Heap) row src, MFun P row src x.1 [.list x.2.2 []] H (IsL (twoE x.2.1 x.2.2 H))) : RunOk P (primE l) := by
  intro g args H L hL row src
  unfold primE at hL
  split at hL
  · rename_i f ty k k' hf
    split at hL
    · rename_i hk
      subst hk
      simp only [Option.some.injEq] at hL
      subst hL
      have hm := List.mem_of_find?_eq_some hf
      have hg := List.find?_some hf
      simp only [beq_iff_eq] at hg
      subst hg
      exact h _ hm H row src
    · cases hL
  · cases hL
def modeOf (l : List (FuncId × Nat × FuncId)) (f : FuncId) (r : Nat) (g : FuncId) : Bool := l.any fun x => x.1 == f && x.2.1 == r && x.2.2 == g
def hintOf : List (Nat × Nat × DH) → FuncId → Nat → DH
  | [], _, _ => ⟨[], [], []⟩
  | (f, r, d) :: l, g, q => if f = g then (if r = q then d else hintOf l g q) else hintOf l g q

/-! ### Calls that are known -/
abbrev KL := List (FuncId × List AV × AV)
def primK (l : KL) : Run := fun f args H => match l.find? (fun x => x.1 == f && listEq (avEq 6) x.2.1 args) with
  | some x => if args.all (immB 6) && immB 6 x.2.2 then some [(x.2.2, H)] else none
  | none => none
def primOr (p q : Run) : Run := fun f args H => match p f args H with
  | some L => some L
  | none => q f args H
theorem primOr_ok {P : Program} {p q : Run} (hp : RunOk P p) (hq : RunOk P q) : RunOk P (primOr p q) := by
  intro g args H L h row src
  unfold primOr at h
  split at h
  · rename_i L1 h1
    simp only [Option.some.injEq] at h
    subst h
    exact hp _ _ _ _ h1 row src
  · exact hq _ _ _ _ h row src
abbrev KOk (P : Program) (l : KL) : Prop := ∀ x, x ∈ l → PFun P none none x.1 x.2.1 (· = x.2.2)
theorem primK_ok {P : Program} {l : KL} (h : KOk P l) : RunOk P (primK l) := by
  intro g args H L hL row src
  unfold primK at hL
  split at hL
  · rename_i x hx
    split at hL
    · rename_i hi
      simp only [Option.some.injEq] at hL
      subst hL
      simp only [Bool.and_eq_true] at hi
      have hf := List.find?_some hx
      simp only [Bool.and_eq_true, beq_iff_eq] at hf
      have ha := listEq_eq (fun _ _ => avEq_eq 6) hf.2
      have hg := hf.1
      have him : ∀ a, a ∈ args → Imm a := fun a ha => immB_imm 6 a (List.all_eq_true.1 hi.1 a ha)
      intro E hP hrow hsrc
      subst hrow; subst hsrc
      have pf := (h x (List.mem_of_find?_eq_some hx)).lift E.row E.src
      rw [ha, hg] at pf
      exact acall_imm args hP pf (args_same him) (fun a ha => srefs_imm (him a ha)) (fun r hr _ => by rw [hr]; exact List.mem_singleton.2 rfl) ⟨_, rfl, immB_imm 6 _ hi.2⟩
    · cases hL
  · cases hL
theorem kstep {P : Program} {pE : Run} (hE : RunOk P pE) {l : KL} (h : KOk P l) (hints : FuncId → Nat → DH) (mode : FuncId → Nat → FuncId → Bool) (hm : P.follows .mixedOrders = true) {f : FuncId} {args : List AV} {v : AV}
    (hr : xpure (xrun P (primOr pE (primK l)) hints mode 10000 60) f args = some v) : KOk P ((f, args, v) :: l) := by
  intro x hx
  rcases List.mem_cons.1 hx with rfl | hx
  · exact pfun_run (primOr_ok hE (primK_ok h)) hints mode 10000 60 hm hr none none
  · exact h x hx
theorem kOk_nil {P : Program} : KOk P [] := fun _ h => by cases h
end Go.PA
