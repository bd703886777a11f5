/- PA, part 11: a region that draws its order: one walk of the text's order serves every order. -/
import Derived.Test.YtellcfkpfccgaaaPa10
namespace Go.PA
open Go.RowKit

/-- Does an operation only read? -/
def isRead : Op → Bool
  | .store .. | .alloc _ | .box .. | .makeSlice .. | .buildSlice _ 0 _ | .makeMap .. | .mapUpdate .. | .range .. | .next .. => false
  | .call c => match c.callee with
    | .builtin .append | .value _ => false
    | _ => true
  | _ => true

def restr (D : Nat → Bool) (H : Heap) : Heap := H.mapIdx fun i x => if D i then x else none
def Agree (D : Nat → Bool) (H H' : Heap) : Prop := ∀ id, D id = true → H'[id]? = H[id]?
def Sub (H H' : Heap) : Prop := ∀ (id : Nat) (o : AObj), H[id]? = some (some o) → H'[id]? = some (some o)

/-- What an operation may look at: a strict one at the objects of D alone, another at all. -/
def rdH : Bool → (Nat → Bool) → Heap → Heap
  | true, D, H => restr D H
  | false, _, H => H

def DEff (strict : Bool) (D : Nat → Bool) (E : Env) (op : Op) (ev : Operand → AV) (H : Heap) (C : AV → Heap → Prop) : Prop :=
  if isRead op then match aread E.P op ev (rdH strict D H) with
    | some v => C v H
    | none => False
  else AEff E op ev H fun x H' => (strict = true → Agree D H H') ∧ C x H'

def DStep (strict : Bool) (D : Nat → Bool) (E : Env) (ops : Array Oper) (o : Oper) (s : St) (K : St → Prop) : Prop :=
  match aguard ops o s.t with
  | some true => DEff strict D E o.op s.eval s.H fun x H' => K ⟨putT s.t o.dst x, H'⟩
  | some false => K ⟨putT s.t o.dst (.sc undef), s.H⟩
  | none => False

theorem restr_sub (D : Nat → Bool) (H : Heap) : Sub (restr D H) H := by
  intro id o h
  simp only [restr, List.getElem?_mapIdx, Option.map_eq_some_iff] at h
  obtain ⟨x, hx, h⟩ := h
  split at h
  · rw [hx, h]
  · cases h

theorem rdH_sub (b : Bool) (D : Nat → Bool) (H : Heap) : Sub (rdH b D H) H := by
  cases b
  · exact fun _ _ h => h
  · exact restr_sub D H

theorem restr_agree {D : Nat → Bool} {H H' : Heap} (h : Agree D H H') : Sub (restr D H) (restr D H') := by
  intro id o hx
  simp only [restr, List.getElem?_mapIdx, Option.map_eq_some_iff] at hx ⊢
  obtain ⟨x, hx, hy⟩ := hx
  split at hy
  · rename_i hd
    exact ⟨x, by rw [h id hd]; exact hx, by rw [if_pos hd]; exact hy⟩
  · cases hy

theorem Agree.symm {D : Nat → Bool} {H H' : Heap} (h : Agree D H H') : Agree D H' H := fun id hd => (h id hd).symm

theorem addrCells_sub {H H' : Heap} (h : Sub H H') {x : AV} {as : List AV} (ha : addrCells H x = some as) : addrCells H' x = some as := by
  unfold addrCells at ha ⊢
  split at ha
  · split at ha
    · rename_i o ho
      rw [h _ _ ho]
      exact ha
    · cases ha
  · exact ha
  · cases ha

theorem addrSome_sub {H H' : Heap} (h : Sub H H') {x : AV} (ha : (addrCells H x).isSome = true) : (addrCells H' x).isSome = true := by
  obtain ⟨as, has⟩ := Option.isSome_iff_exists.1 ha
  rw [addrCells_sub h has]; rfl

theorem aindexAddr_sub {P : Program} {H H' : Heap} (h : Sub H H') {t : TypeId} {x y : AV} {n : Int} (ha : aindexAddr P t H x n = some y) : aindexAddr P t H' x n = some y := by
  unfold aindexAddr at ha ⊢
  split at ha
  · split at ha
    · exact ha
    · split at ha
      · rename_i o ho
        rw [h _ _ ho]
        exact ha
      · cases ha
    · cases ha
  · split at ha
    · rename_i hc
      rw [if_pos hc]
      split at ha
      · split at ha
        · rename_i hs
          rw [if_pos (addrSome_sub h hs)]
          exact ha
        · cases ha
      · exact ha
      · cases ha
    · cases ha
  · cases ha

theorem alen_sub {H H' : Heap} (h : Sub H H') {x : AV} {n : Int} (ha : alen H x = some n) : alen H' x = some n := by
  unfold alen at ha ⊢
  split at ha
  · exact ha
  · exact ha
  · split at ha
    · rename_i o ho
      rw [h _ _ ho]
      exact ha
    · cases ha
  · cases ha

theorem ents_sub {H H' : Heap} (h : Sub H H') {x : AV} {es : List (Value × AV)} (ha : ents H x = some es) : ents H' x = some es := by
  unfold ents at ha ⊢
  split at ha
  · exact ha
  · split at ha
    · rename_i o ho
      rw [h _ _ ho]
      exact ha
    · cases ha
  · cases ha

theorem aslice_sub {P : Program} {H H' : Heap} (h : Sub H H') {t : TypeId} {x y : AV} {lo hi : Option Int} (ha : aslice P t H x lo hi = some y) : aslice P t H' x lo hi = some y := by
  unfold aslice at ha ⊢
  split at ha
  · cases ha
  · split at ha
    · cases ha
    · rename_i hk
      rw [if_neg hk]
      split at ha
      · exact ha
      · exact ha
      · split at ha
        · rename_i o ho
          rw [h _ _ ho]
          exact ha
        · cases ha
      · cases ha

theorem aread_sub {P : Program} {H H' : Heap} (h : Sub H H') {op : Op} {ev : Operand → AV} {x : AV} (ha : aread P op ev H = some x) : aread P op ev H' = some x := by
  cases op with
  | load t a =>
    simp only [aread, aval, Option.bind_eq_some_iff] at ha ⊢
    obtain ⟨as, h1, h2⟩ := ha
    exact ⟨as, addrCells_sub h h1, h2⟩
  | nilCheck y =>
    simp only [aread, aval, anil] at ha ⊢
    split at ha
    · exact ha
    · exact ha
    · split at ha
      · rename_i hs
        rw [if_pos (addrSome_sub h hs)]
        exact ha
      · cases ha
  | fieldAddr s y f =>
    simp only [aread, aval, afield] at ha ⊢
    split at ha
    · cases ha
    · split at ha
      · split at ha
        · rename_i hs
          rw [if_pos (addrSome_sub h hs)]
          exact ha
        · cases ha
      · exact ha
      · cases ha
  | indexAddr t y i =>
    simp only [aread, aval, aindex] at ha ⊢
    split at ha
    · exact aindexAddr_sub h ha
    · cases ha
  | slice t y lo hi mx =>
    cases mx with
    | some m => exact ha
    | none =>
      simp only [aread, aval, asliceOp] at ha ⊢
      split at ha
      · exact ha
      · split at ha
        · exact aslice_sub h ha
        · cases ha
  | call c =>
    obtain ⟨callee, args, tys⟩ := c
    cases callee with
    | value f => exact ha
    | invoke r m => exact ha
    | builtin b =>
      cases b <;> first | exact ha | skip
      simp only [aread, aval] at ha ⊢
      split at ha
      · simp only [alenOp] at ha ⊢
        split at ha
        · rw [Option.map_eq_some_iff] at ha ⊢
          obtain ⟨n, h1, h2⟩ := ha
          exact ⟨n, alen_sub h h1, h2⟩
        · exact ha
        · cases ha
      · cases ha
  | lookup t y k c =>
    simp only [aread, aval, alookup] at ha ⊢
    split at ha
    · rename_i kt d et kv es h1 h2 h3
      rw [h1, h2, ents_sub h h3]
      exact ha
    · cases ha
  | entry y =>
    simp only [aread, aval, aentry] at ha ⊢
    split at ha
    · split at ha
      · rename_i o ho
        rw [h _ _ ho]
        exact ha
      · cases ha
    · cases ha
  | makeFunc fn first caps => cases fn <;> exact ha
  | _ => exact ha

theorem read_aeff {E : Env} {op : Op} {ev : Operand → AV} {H : Heap} {C : AV → Heap → Prop} {v : AV} (hr : isRead op = true) (h : aread E.P op ev H = some v) (hc : C v H) : AEff E op ev H C := by
  have fin : (match aread E.P op ev H with | some v => C v H | none => False) := by rw [h]; exact hc
  cases op <;> first
    | exact fin
    | (simp only [isRead, Bool.false_eq_true] at hr; done)
    | skip
  case buildSlice t n ps => cases n with
    | zero => simp [isRead] at hr
    | succ n => exact fin
  rename_i c
  obtain ⟨callee, args, tys⟩ := c
  cases callee with
  | value f => exact absurd hr (by simp [isRead])
  | invoke r m => exact fin
  | builtin b => cases b <;> first | exact fin | (simp only [isRead, Bool.false_eq_true] at hr; done)

/-- What an operation looks at. -/
theorem operands_congr {α : Type} {ev ev' : α → AV} {l : List α} (h : ∀ x ∈ l, ev x = ev' x) : l.map ev = l.map ev' := List.map_congr_left h

theorem eval_put {t : Nat → AV} {H H' : Heap} {d : Option Tmp} {v : AV} {x : Operand} (h : ∀ i, d = some i → x ≠ .tmp i) : St.eval ⟨putT t d v, H'⟩ x = St.eval ⟨t, H⟩ x := by
  cases x with
  | tmp j =>
    cases d with
    | none => rfl
    | some i =>
      have : i ≠ j := fun e => h i rfl (by rw [e])
      simp only [St.eval, putT, upd]
      rw [if_neg (fun e => this e.symm)]
  | const v => rfl
  | global g => rfl
  | func f => rfl

theorem mem_operands {ev ev' : Operand → AV} {op : Op} (h : ∀ x ∈ op.operands, ev x = ev' x) {x : Operand} (hx : x ∈ op.operands.toList) : ev x = ev' x := h x (by simpa using hx)

theorem parts_congr {ev ev' : Operand → AV} {parts : Array (Nat × Operand)} (h : ∀ x ∈ (parts.toList.map (·.2)).toArray, ev x = ev' x) : (parts.toList.map fun p => (p.1, ev p.2)) = parts.toList.map fun p => (p.1, ev' p.2) := by
  apply List.map_congr_left
  intro p hp
  rw [h p.2 (by simp; exact ⟨p.1, by simpa using hp⟩)]

theorem bound_congr {ev ev' : Operand → AV} {d : Int} {o : Option Operand} (h : ∀ x, o = some x → ev x = ev' x) : bound ev d o = bound ev' d o := by
  cases o with
  | none => rfl
  | some x => simp only [bound, h x rfl]

theorem aread_congr {P : Program} {op : Op} {ev ev' : Operand → AV} {H : Heap} (h : ∀ x ∈ op.operands, ev x = ev' x) : aread P op ev H = aread P op ev' H := by
  cases op with
  | build t parts => simp only [aread]; rw [parts_congr h]
  | buildSlice t n parts => simp only [aread]; rw [parts_congr h]
  | move x => simp only [aread, aval]; rw [h x (by simp [Op.operands])]
  | assign x => simp only [aread, aval]; rw [h x (by simp [Op.operands])]
  | pick c a b => simp only [aread, aval]; rw [h c (by simp [Op.operands]), h a (by simp [Op.operands]), h b (by simp [Op.operands])]
  | load t a => simp only [aread, aval]; rw [h a (by simp [Op.operands])]
  | nilCheck x => simp only [aread, aval]; rw [h x (by simp [Op.operands])]
  | binOp op t x y yt => simp only [aread, aval]; rw [h x (by simp [Op.operands]), h y (by simp [Op.operands])]
  | unOp op t x => simp only [aread, aval]; rw [h x (by simp [Op.operands])]
  | convert s d x => simp only [aread, aval]; rw [h x (by simp [Op.operands])]
  | fieldAddr s x f => simp only [aread, aval]; rw [h x (by simp [Op.operands])]
  | field s x f => simp only [aread, aval]; rw [h x (by simp [Op.operands])]
  | indexAddr t x i => simp only [aread, aval]; rw [h x (by simp [Op.operands]), h i (by simp [Op.operands])]
  | index t x i => simp only [aread, aval]; rw [h x (by simp [Op.operands]), h i (by simp [Op.operands])]
  | extract x i => simp only [aread, aval]; rw [h x (by simp [Op.operands])]
  | lookup t x k c => simp only [aread, aval]; rw [h x (by simp [Op.operands]), h k (by simp [Op.operands])]
  | entry x => simp only [aread, aval]; rw [h x (by simp [Op.operands])]
  | makeFunc fn first caps =>
    cases fn <;> simp only [aread, aval]
    have : caps.toList.map ev = caps.toList.map ev' := List.map_congr_left fun x hx => h x (by simp [Op.operands]; exact .inr (by simpa using hx))
    rw [this]
  | slice t x lo hi mx =>
    cases mx with
    | some m => rfl
    | none =>
      have e1 : ∀ d, bound ev d lo = bound ev' d lo := fun d => bound_congr fun y hy => h y (by simp [Op.operands, hy])
      have e2 : ∀ d, bound ev d hi = bound ev' d hi := fun d => bound_congr fun y hy => h y (by simp [Op.operands, hy])
      simp only [aread, aval]
      rw [h x (by simp [Op.operands])]
      simp only [asliceOp, e1, e2]
  | call c =>
    obtain ⟨callee, args, tys⟩ := c
    have e1 : args.toList.map ev = args.toList.map ev' := List.map_congr_left fun x hx => h x (by simp [Op.operands, Call.operands]; exact .inr (by simpa using hx))
    cases callee with
    | value f => rfl
    | invoke r m => rfl
    | builtin b =>
      cases b <;> first | rfl | skip
      · simp only [aread, aval]
        split
        · rename_i x t hx ht
          rw [h x (by simp [Op.operands, Call.operands]; have : x ∈ args.toList := by rw [hx]; simp
                      simpa using this)]
        · rfl
      · simp only [aread, aval, e1]
      · simp only [aread, aval, e1]
  | _ => rfl

theorem aeff_congr {E : Env} {op : Op} {ev ev' : Operand → AV} {H : Heap} {C : AV → Heap → Prop} (h : ∀ x ∈ op.operands, ev x = ev' x) : AEff E op ev H C = AEff E op ev' H C := by
  cases op with
  | store t a x => simp only [AEff]; rw [h a (by simp [Op.operands]), h x (by simp [Op.operands])]
  | alloc t => rfl
  | makeMap t r => cases r <;> rfl
  | mapUpdate t x k v => simp only [AEff]; rw [h x (by simp [Op.operands]), h k (by simp [Op.operands]), h v (by simp [Op.operands])]
  | range t x => simp only [AEff]; rw [h x (by simp [Op.operands])]
  | next x s => simp only [AEff]; rw [h x (by simp [Op.operands])]
  | box t x => simp only [AEff]; rw [h x (by simp [Op.operands])]
  | makeSlice t l c => simp only [AEff]; rw [h l (by simp [Op.operands]), h c (by simp [Op.operands])]
  | buildSlice t n parts =>
    have hcall := aread_congr (P := E.P) (H := H) h
    cases n with
    | zero => rfl
    | succ n => simp only [AEff]; rw [hcall]
  | call c =>
    have hcall := aread_congr (P := E.P) (H := H) h
    obtain ⟨callee, args, tys⟩ := c
    have e1 : args.toList.map ev = args.toList.map ev' := List.map_congr_left fun x hx => h x (by simp [Op.operands, Call.operands]; exact .inr (by simpa using hx))
    cases callee with
    | value f => simp only [AEff]; rw [e1, h f (by simp [Op.operands, Call.operands])]
    | invoke r m => simp only [AEff]; rw [hcall]
    | builtin b =>
      cases b <;> simp only [AEff] <;> first | (rw [hcall]; done) | skip
      split
      · rename_i s x t t' hx ht
        have hm : ∀ y, y ∈ args.toList → ev y = ev' y := fun y hy => h y (by simp [Op.operands, Call.operands]; simpa using hy)
        rw [hm s (by rw [hx]; simp), hm x (by rw [hx]; simp)]
      · rfl
  | _ =>
    have hcall := aread_congr (P := E.P) (H := H) h
    simp only [AEff]
    rw [hcall]

end Go.PA
