/- PA, part 10: the regions, in the text's order and in whatever order their edges allow. -/
import Derived.Test.YtellcfkpfccgaaaPa9
namespace Go.PA
open Go.RowKit

/-- Is an operation wanted? -/
def aguard (ops : Array Oper) (o : Oper) (t : Nat → AV) : Option Bool :=
  match o.guard with
  | none => some true
  | some (j, want) => match (ops[j]?).bind (·.dst) with
    | none => some false
    | some d => match t d with
      | .sc (.bool b) => some (b == want)
      | .sc _ => some false
      | _ => none

def putT (t : Nat → AV) (d : Option Tmp) (x : AV) : Nat → AV := match d with
  | some d => upd t d x
  | none => t
theorem put_t (s : St) (d : Option Tmp) (x : AV) : (s.put d x).t = putT s.t d x := by cases d <;> rfl

def AStep (E : Env) (ops : Array Oper) (o : Oper) (s : St) (K : St → Prop) : Prop :=
  match aguard ops o s.t with
  | some true => AEff E o.op s.eval s.H fun x H' => K ⟨putT s.t o.dst x, H'⟩
  | some false => K ⟨putT s.t o.dst (.sc undef), s.H⟩
  | none => False

def AOps (E : Env) (ops : Array Oper) : List Oper → St → (St → Prop) → Prop
  | [], s, K => K s
  | o :: l, s, K => AStep E ops o s fun s' => AOps E ops l s' K

def dstOk (N : Nat) (o : Oper) : Bool := match o.dst with
  | some d => decide (d < N)
  | none => true

section
variable {E : Env} {ops : Array Oper}

theorem guard_sound {w : World} {ρ : Places} {H : Heap} {ok : Nat → Prop} {a : Act} {t : Nat → AV} (ht : ∀ i, Rep w ρ H ok (a.tmps.getD i undef) (t i)) {o : Oper} {b : Bool} (h : aguard ops o t = some b) :
    Region.wanted o (yielded ops a.tmps) = b := by
  unfold aguard at h
  unfold Region.wanted
  split at h
  · rename_i hg
    simp only [Option.some.injEq] at h
    simp [hg, h]
  · rename_i j want hg
    simp only [hg]
    split at h
    · rename_i hd
      simp only [Option.some.injEq] at h
      subst h
      simp [yielded, hd]
    · rename_i d hd
      have hr := ht d
      split at h
      · rename_i b' hb
        rw [hb] at hr
        have hv := rep_sc hr
        simp only [Option.some.injEq] at h
        subst h
        have hsome : a.tmps[d]? = some (.bool b') := by
          rcases Nat.lt_or_ge d a.tmps.size with hlt | hge
          · simp only [Array.getD_eq_getD_getElem?, Array.getElem?_eq_getElem hlt, Option.getD_some] at hv ⊢
            rw [hv]
          · simp only [Array.getD_eq_getD_getElem?, Array.getElem?_eq_none hge, Option.getD_none] at hv
            cases hv
        simp only [yielded, hd, Option.bind_some, hsome]
        cases b' <;> cases want <;> rfl
      · rename_i v hne hb
        rw [hb] at hr
        have hv := rep_sc hr
        simp only [Option.some.injEq] at h
        subst h
        simp only [yielded, hd, Option.bind_some]
        cases hs : a.tmps[d]? with
        | none => rfl
        | some u =>
          have : u = v := by
            rw [← hv]
            simp [Array.getD_eq_getD_getElem?, hs]
          subst this
          cases u <;> first | rfl | (rename_i b'; exact absurd rfl (hne b'))
      · cases h

theorem rel_put {s : St} {a : Act} {w w' : World} {ρ ρ' : Places} {H' : Heap} {ok ok' : Nat → Prop} {o : Oper} {v : Value} {x : AV} (hd : a.defers = []) (hs : a.tmps.size = E.N) (hb : dstOk E.N o = true)
    (hx : Ext E.w0 E.ρ0 E.H0 E.okA w ρ s.H ok) (hr : ∀ i, Rep w ρ s.H ok (a.tmps.getD i undef) (s.t i)) (g' : Good E w' ρ' H' ok') (x' : Ext w ρ s.H ok w' ρ' H' ok') (r' : Rep w' ρ' H' ok' v x) : Rel E ⟨putT s.t o.dst x, H'⟩ (a.put o.dst v) w' := by
  rw [← put_t]
  have := put_rel (s := s) (d := o.dst) (v := v) (x := x) hs (fun i hi => by simpa [dstOk, hi] using hb) (fun i => (hr i).ext x') r'
  refine ⟨ρ', ok', g', hx.trans x', ?_, this.1, this.2⟩
  cases h : o.dst <;> simpa [Act.put] using hd

theorem step_sound {i : Nat} {o : Oper} (hi : ops[i]? = some o) (hb : dstOk E.N o = true) {s : St} {a : Act} {w : World} {K : St → Prop} (h : AStep E ops o s K) (r : Rel E s a w) {K' : Act → World → Prop} {Q : Exit → Act → World → Prop}
    (hK : ∀ s' a' w', K s' → Rel E s' a' w' → K' a' w') : wpOp E.P ops Q i K' a w := by
  obtain ⟨ρ, ok, g, hx, hd, hs, hr⟩ := r
  unfold AStep at h
  unfold wpOp
  simp only [hi]
  split at h
  · rename_i hg
    rw [guard_sound hr hg]
    simp only [if_true]
    exact .inl (eff_sound g (rep_eval hr) h fun v w' x H' ρ' ok' hc g' x' r' => hK _ _ _ hc (rel_put hd hs hb hx hr g' x' r'))
  · rename_i hg
    rw [guard_sound hr hg]
    simp only [Bool.false_eq_true, if_false]
    exact hK _ _ _ h (rel_put (o := o) (v := undef) (x := .sc undef) hd hs hb hx hr g (Ext.refl _ _ _ _) .sc)
  · exact h.elim

theorem ops_sound : ∀ (l : List Oper) (k : Nat), (∀ j : Nat, l[j]? = ops[k + j]?) → (∀ o ∈ l, dstOk E.N o = true) → ∀ {s : St} {a : Act} {w : World} {K : St → Prop} {Q : Exit → Act → World → Prop},
    (∀ s' a' w', K s' → Rel E s' a' w' → Q .normal a' w') → AOps E ops l s K → Rel E s a w → wpOps E.P ops Q (List.range' k l.length) a w
  | [], k, _, _, s, a, w, K, Q, hQ, h, r => hQ _ _ _ h r
  | o :: l, k, hl, hb, s, a, w, K, Q, hQ, h, r => by
    have h0 : ops[k]? = some o := by simpa using (hl 0).symm
    rw [List.length_cons, List.range'_succ, wpOps_cons]
    refine step_sound h0 (hb o (by simp)) h r fun s' a' w' h' r' => ?_
    exact ops_sound l (k + 1) (fun j => by have := hl (j + 1); simpa [Nat.add_assoc, Nat.add_comm 1 j] using this) (fun o' ho => hb o' (by simp [ho])) hQ h' r'

end
end Go.PA
