/- PA, part 12: two operations that do not look at each other may change places; so one order serves all. -/
import Derived.Test.YtellcfkpfccgaaaPa11
namespace Go.PA
open Go.RowKit

theorem putT_comm (t : Nat → AV) {d e : Option Tmp} (x y : AV) (h : ∀ i, d = some i → e ≠ some i) : putT (putT t d x) e y = putT (putT t e y) d x := by
  cases d with
  | none => rfl
  | some i =>
    cases e with
    | none => rfl
    | some j =>
      have hne : j ≠ i := fun e => h i rfl (by rw [e])
      funext k
      simp only [putT, upd]
      by_cases h1 : k = j
      · subst h1; simp [hne]
      · by_cases h2 : k = i
        · subst h2; simp [h1]
        · simp [h1, h2]

theorem aguard_put {ops : Array Oper} {o : Oper} {t : Nat → AV} {d : Option Tmp} {v : AV} (h : ∀ i, d = some i → i ∉ o.looksAt ops) : aguard ops o (putT t d v) = aguard ops o t := by
  unfold aguard
  split
  · rfl
  · rename_i j want hg
    split
    · rfl
    · rename_i e he
      have : putT t d v e = t e := by
        cases d with
        | none => rfl
        | some i =>
          have hni := h i rfl
          have hmem : e ∈ o.looksAt ops := by simp [Oper.looksAt, hg, he]
          simp only [putT, upd]
          rw [if_neg (fun (e' : e = i) => hni (e' ▸ hmem))]
      rw [this]

theorem looks_operand {ops : Array Oper} {o : Oper} {i : Nat} (h : i ∉ o.looksAt ops) : ∀ x ∈ o.op.operands, x ≠ .tmp i := by
  intro x hx e
  subst e
  apply h
  simp only [Oper.looksAt, List.mem_append, List.mem_filterMap]
  exact .inl ⟨.tmp i, by simpa using hx, rfl⟩

theorem eval_congr {ops : Array Oper} {o : Oper} {t : Nat → AV} {H H' : Heap} {d : Option Tmp} {v : AV} (h : ∀ i, d = some i → i ∉ o.looksAt ops) : ∀ x ∈ o.op.operands, St.eval ⟨putT t d v, H'⟩ x = St.eval ⟨t, H⟩ x :=
  fun x hx => eval_put fun i hi => looks_operand (h i hi) x hx

theorem deff_congr {strict : Bool} {D : Nat → Bool} {E : Env} {op : Op} {ev ev' : Operand → AV} {H : Heap} {C : AV → Heap → Prop} (h : ∀ x ∈ op.operands, ev x = ev' x) : DEff strict D E op ev H C = DEff strict D E op ev' H C := by
  unfold DEff
  rw [aread_congr h, aeff_congr h]

theorem DEff.mono {strict : Bool} {D : Nat → Bool} {E : Env} {op : Op} {ev : Operand → AV} {H : Heap} {C C' : AV → Heap → Prop} (h : DEff strict D E op ev H C) (hc : ∀ x H', C x H' → C' x H') : DEff strict D E op ev H C' := by
  unfold DEff at h ⊢
  split
  · rename_i hr
    rw [if_pos hr] at h
    split at h
    · rename_i v hv; exact hc _ _ h
    · exact h
  · rename_i hr
    rw [if_neg hr] at h
    exact h.mono fun x H' hx => ⟨hx.1, hc _ _ hx.2⟩

theorem DStep.mono {strict : Bool} {D : Nat → Bool} {E : Env} {ops : Array Oper} {o : Oper} {s : St} {K K' : St → Prop} (h : DStep strict D E ops o s K) (hk : ∀ s', K s' → K' s') : DStep strict D E ops o s K' := by
  unfold DStep at h ⊢
  split
  · rename_i hg
    rw [hg] at h
    exact h.mono fun x H' hx => hk _ hx
  · rename_i hg
    rw [hg] at h
    exact hk _ h
  · rename_i hg
    rw [hg] at h
    exact h

theorem deff_aeff {strict : Bool} {D : Nat → Bool} {E : Env} {op : Op} {ev : Operand → AV} {H : Heap} {C : AV → Heap → Prop} (h : DEff strict D E op ev H C) : AEff E op ev H C := by
  unfold DEff at h
  split at h
  · rename_i hr
    split at h
    · rename_i v hv
      exact read_aeff hr (aread_sub (rdH_sub _ D H) hv) h
    · exact h.elim
  · exact h.mono fun x H' hx => hx.2

theorem dstep_step {strict : Bool} {D : Nat → Bool} {E : Env} {ops : Array Oper} {o : Oper} {s : St} {K : St → Prop} (h : DStep strict D E ops o s K) : AStep E ops o s K := by
  unfold DStep at h
  unfold AStep
  split
  · rename_i hg
    rw [hg] at h
    exact deff_aeff h
  · rename_i hg
    rw [hg] at h
    exact h
  · rename_i hg
    rw [hg] at h
    exact h

/-- A reader's value does not hang on an agreeing heap. -/
theorem aread_agree {P : Program} {op : Op} {ev : Operand → AV} {D : Nat → Bool} {H H' : Heap} (h : Agree D H H') : aread P op ev (restr D H') = aread P op ev (restr D H) := by
  cases h1 : aread P op ev (restr D H) with
  | some v => exact aread_sub (restr_agree h) h1
  | none =>
    cases h2 : aread P op ev (restr D H') with
    | none => rfl
    | some v =>
      have := aread_sub (restr_agree h.symm) h2
      rw [h1] at this
      cases this

/-- What comes of an operation: its value and the heap. -/
def DOut (strict : Bool) (D : Nat → Bool) (E : Env) (ops : Array Oper) (o : Oper) (t : Nat → AV) (H : Heap) (C : AV → Heap → Prop) : Prop :=
  match aguard ops o t with
  | some true => DEff strict D E o.op (St.eval ⟨t, H⟩) H C
  | some false => C (.sc undef) H
  | none => False

theorem dstep_out {strict : Bool} {D : Nat → Bool} {E : Env} {ops : Array Oper} {o : Oper} {s : St} {K : St → Prop} : DStep strict D E ops o s K = DOut strict D E ops o s.t s.H fun x H' => K ⟨putT s.t o.dst x, H'⟩ := rfl

theorem dout_put {strict : Bool} {D : Nat → Bool} {E : Env} {ops : Array Oper} {o : Oper} {t : Nat → AV} {H : Heap} {C : AV → Heap → Prop} {d : Option Tmp} {v : AV} (h : ∀ i, d = some i → i ∉ o.looksAt ops) :
    DOut strict D E ops o (putT t d v) H C = DOut strict D E ops o t H C := by
  unfold DOut
  rw [aguard_put h, deff_congr (eval_congr (H := H) h)]

/-- An operation that leaves the heap alone has one value. -/
def still (b : Bool) (D : Nat → Bool) (E : Env) (ops : Array Oper) (o : Oper) (t : Nat → AV) (H : Heap) : Option AV :=
  match aguard ops o t with
  | some true => aread E.P o.op (St.eval ⟨t, H⟩) (rdH b D H)
  | some false => some (.sc undef)
  | none => none

theorem eval_heap (t : Nat → AV) (H H' : Heap) : St.eval ⟨t, H⟩ = St.eval ⟨t, H'⟩ := by funext x; cases x <;> rfl

theorem still_agree {D : Nat → Bool} {E : Env} {ops : Array Oper} {o : Oper} {t : Nat → AV} {H H' : Heap} (h : Agree D H H') : still true D E ops o t H' = still true D E ops o t H := by
  unfold still
  rw [eval_heap t H' H, rdH, rdH, aread_agree h]

theorem dout_still {strict : Bool} {D : Nat → Bool} {E : Env} {ops : Array Oper} {o : Oper} {t : Nat → AV} {H : Heap} {C : AV → Heap → Prop} (hr : isRead o.op = true ∨ aguard ops o t = some false) :
    DOut strict D E ops o t H C ↔ ∃ v, still strict D E ops o t H = some v ∧ C v H := by
  unfold DOut still
  rcases hr with hr | hg
  · split
    · unfold DEff
      rw [if_pos hr]
      constructor
      · intro h
        split at h
        · rename_i v hv; exact ⟨v, hv, h⟩
        · exact h.elim
      · rintro ⟨v, hv, h⟩
        rw [hv]; exact h
    · simp
    · simp
  · rw [hg]
    simp

theorem dout_mono {strict : Bool} {D : Nat → Bool} {E : Env} {ops : Array Oper} {o : Oper} {t : Nat → AV} {H : Heap} {C C' : AV → Heap → Prop} (hb : isRead o.op = false → strict = true) (h : DOut strict D E ops o t H C)
    (hc : ∀ x H', Agree D H H' → C x H' → C' x H') : DOut strict D E ops o t H C' := by
  unfold DOut at h ⊢
  split
  · rename_i hg
    rw [hg] at h
    simp only at h
    unfold DEff at h ⊢
    split
    · rename_i hr
      rw [if_pos hr] at h
      cases hx : aread E.P o.op (St.eval ⟨t, H⟩) (rdH strict D H) with
      | some v => rw [hx] at h; exact hc _ _ (fun _ _ => rfl) h
      | none => rw [hx] at h; exact h
    · rename_i hr
      rw [if_neg hr] at h
      exact h.mono fun x H' hx => ⟨hx.1, hc _ _ (hx.1 (hb (by simpa using hr))) hx.2⟩
  · rename_i hg
    rw [hg] at h
    exact hc _ _ (fun _ _ => rfl) h
  · rename_i hg
    rw [hg] at h
    exact h

theorem dout_some {strict : Bool} {D : Nat → Bool} {E : Env} {ops : Array Oper} {o : Oper} {t : Nat → AV} {H : Heap} {C : AV → Heap → Prop} (hb : isRead o.op = false → strict = true) (h : DOut strict D E ops o t H C) : ∃ x H', Agree D H H' ∧ C x H' := by
  unfold DOut at h
  split at h
  · unfold DEff at h
    split at h
    · split at h
      · exact ⟨_, _, fun _ _ => rfl, h⟩
      · exact h.elim
    · rename_i hr
      obtain ⟨x, H', h1, h2⟩ := AEff.has h
      exact ⟨x, H', h1 (hb (by simpa using hr)), h2⟩
  · exact ⟨_, _, fun _ _ => rfl, h⟩
  · exact h.elim

/-- Operations that do not look at the objects at all. -/
def noHeap : Op → Bool
  | .move _ | .assign _ | .pick .. | .binOp .. | .unOp .. | .convert .. | .field .. | .index .. | .extract .. | .build .. | .makeFunc .. => true
  | .buildSlice _ n _ => n != 0
  | .call c => match c.callee with
    | .builtin .max | .builtin .min => true
    | _ => false
  | _ => false

theorem noHeap_read {op : Op} (h : noHeap op = true) : isRead op = true := by
  cases op <;> first | rfl | (simp [noHeap] at h; done) | skip
  case buildSlice t n ps => cases n with
    | zero => simp [noHeap] at h
    | succ n => rfl
  rename_i c
  obtain ⟨callee, args, tys⟩ := c
  cases callee with
  | value f => simp [noHeap] at h
  | invoke r m => simp [noHeap] at h
  | builtin b => cases b <;> first | rfl | (simp [noHeap] at h; done)

theorem aread_noHeap {P : Program} {op : Op} {ev : Operand → AV} {H H' : Heap} (h : noHeap op = true) : aread P op ev H = aread P op ev H' := by
  cases op <;> first | rfl | (simp [noHeap] at h; done) | skip
  case call c =>
    obtain ⟨callee, args, tys⟩ := c
    cases callee with
    | value f => simp [noHeap] at h
    | invoke r m => simp [noHeap] at h
    | builtin b => cases b <;> first | rfl | (simp [noHeap] at h; done)
  case makeFunc fn first caps => cases fn <;> rfl

theorem still_noHeap {b : Bool} {D : Nat → Bool} {E : Env} {ops : Array Oper} {o : Oper} {t : Nat → AV} {H H' : Heap} (h : noHeap o.op = true) : still b D E ops o t H' = still b D E ops o t H := by
  unfold still
  rw [eval_heap t H' H, aread_noHeap h]

theorem dout_has {strict : Bool} {D : Nat → Bool} {E : Env} {ops : Array Oper} {o : Oper} {t : Nat → AV} {H : Heap} {C : AV → Heap → Prop} (h : DOut strict D E ops o t H C) : ∃ x H', C x H' := by
  unfold DOut at h
  split at h
  · unfold DEff at h
    split at h
    · split at h
      · exact ⟨_, _, h⟩
      · exact h.elim
    · obtain ⟨x, H', _, h2⟩ := AEff.has h
      exact ⟨x, H', h2⟩
  · exact ⟨_, _, h⟩
  · exact h.elim

theorem DOut.mono {strict : Bool} {D : Nat → Bool} {E : Env} {ops : Array Oper} {o : Oper} {t : Nat → AV} {H : Heap} {C C' : AV → Heap → Prop} (h : DOut strict D E ops o t H C) (hc : ∀ x H', C x H' → C' x H') : DOut strict D E ops o t H C' := by
  unfold DOut at h ⊢
  split
  · rename_i hg; rw [hg] at h; exact DEff.mono h hc
  · rename_i hg; rw [hg] at h; exact hc _ _ h
  · rename_i hg; rw [hg] at h; exact h

/-- One that does not look at the objects changes places with whatever. -/
theorem dstep_swap0 {D : Nat → Bool} {E : Env} {ops : Array Oper} {oi oj : Oper} (hap : oi.apart ops oj = true) (hno : noHeap oi.op = true ∨ noHeap oj.op = true) {bi bj : Bool}
    {s : St} {M : St → Prop} (h : DStep bi D E ops oi s fun s1 => DStep bj D E ops oj s1 M) : DStep bj D E ops oj s fun s2 => DStep bi D E ops oi s2 M := by
  obtain ⟨ha1, ha2, ha3⟩ := Oper.apart_spec hap
  simp only [dstep_out] at h ⊢
  simp only [dout_put (o := oj) (fun i hi => ha1 i hi)] at h
  simp only [dout_put (o := oi) (fun i hi => ha3 i hi)]
  have hcomm : ∀ x y, putT (putT s.t oj.dst y) oi.dst x = putT (putT s.t oi.dst x) oj.dst y := fun x y => putT_comm s.t y x fun i hi e => ha2 i e hi
  simp only [hcomm]
  by_cases hi : noHeap oi.op = true
  · have hr := noHeap_read hi
    rw [dout_still (.inl hr)] at h
    obtain ⟨v, hv, h⟩ := h
    refine DOut.mono h fun y H2 hm => ?_
    rw [dout_still (.inl hr)]
    exact ⟨v, by rw [still_noHeap hi]; exact hv, hm⟩
  · have hj : noHeap oj.op = true := hno.resolve_left hi
    have hr := noHeap_read hj
    obtain ⟨x0, H0, h0⟩ := dout_has h
    rw [dout_still (.inl hr)] at h0
    obtain ⟨v, hv, _⟩ := h0
    rw [still_noHeap hj] at hv
    rw [dout_still (.inl hr)]
    refine ⟨v, hv, ?_⟩
    refine DOut.mono h fun x H1 h1 => ?_
    rw [dout_still (.inl hr), still_noHeap hj, hv] at h1
    obtain ⟨v', hv', h1⟩ := h1
    simp only [Option.some.injEq] at hv'
    subst hv'
    exact h1

/-- Two operations change places. -/
theorem dstep_swap {D : Nat → Bool} {E : Env} {ops : Array Oper} {oi oj : Oper} (hap : oi.apart ops oj = true) {bi bj : Bool} (hread : (isRead oi.op = true ∧ isRead oj.op = true) ∨ (isRead oi.op = true ∨ isRead oj.op = true) ∧ bi = true ∧ bj = true)
    {s : St} {M : St → Prop} (h : DStep bi D E ops oi s fun s1 => DStep bj D E ops oj s1 M) : DStep bj D E ops oj s fun s2 => DStep bi D E ops oi s2 M := by
  obtain ⟨ha1, ha2, ha3⟩ := Oper.apart_spec hap
  simp only [dstep_out] at h ⊢
  simp only [dout_put (o := oj) (fun i hi => ha1 i hi)] at h
  simp only [dout_put (o := oi) (fun i hi => ha3 i hi)]
  have hcomm : ∀ x y, putT (putT s.t oj.dst y) oi.dst x = putT (putT s.t oi.dst x) oj.dst y := fun x y => putT_comm s.t y x fun i hi e => ha2 i e hi
  simp only [hcomm]
  rcases hread with ⟨hi, hj⟩ | ⟨hread, rfl, rfl⟩
  · rw [dout_still (.inl hi)] at h
    obtain ⟨v, hv, h⟩ := h
    rw [dout_still (.inl hj)] at h
    obtain ⟨v', hv', h⟩ := h
    rw [dout_still (.inl hj)]
    refine ⟨v', hv', ?_⟩
    rw [dout_still (.inl hi)]
    exact ⟨v, hv, h⟩
  by_cases hi : isRead oi.op = true
  · rw [dout_still (.inl hi)] at h
    obtain ⟨v, hv, h⟩ := h
    refine dout_mono (fun _ => rfl) h fun y H2 hag hm => ?_
    rw [dout_still (.inl hi)]
    exact ⟨v, by rw [still_agree hag]; exact hv, hm⟩
  · have hj : isRead oj.op = true := hread.resolve_left hi
    obtain ⟨x0, H0, hag0, h0⟩ := dout_some (fun _ => rfl) h
    rw [dout_still (.inl hj)] at h0
    obtain ⟨v, hv, _⟩ := h0
    rw [still_agree hag0] at hv
    rw [dout_still (.inl hj)]
    refine ⟨v, hv, ?_⟩
    refine dout_mono (fun _ => rfl) h fun x H1 hag h1 => ?_
    rw [dout_still (.inl hj), still_agree hag, hv] at h1
    obtain ⟨v', hv', h1⟩ := h1
    simp only [Option.some.injEq] at hv'
    subst hv'
    exact h1

end Go.PA
