/- PA, part 14: code; a function's contract; a call by its contract. -/
import Derived.Test.YtellcfkpfccgaaaPa13
import Derived.Deep.LoopGhost
namespace Go.PA
open Go.RowKit

/-! ### Code -/

def Athen (k : St → Prop) (Q : Exit → St → Prop) : Exit → St → Prop
  | .normal, s => k s
  | e, s => Q e s
def Ablock (id : Nat) (Q : Exit → St → Prop) : Exit → St → Prop
  | .exit i, s => if i = id then Q .normal s else Q (.exit i) s
  | e, s => Q e s

/-- A region that draws: to be walked by 'adraw'. -/
def ADraw (E : Env) (ops : Array Oper) (s : St) (K : St → Prop) : Prop :=
  ∃ (D : Nat → Bool) (S T : List Nat), E.P.follows .mixedOrders = true ∧ XAny D E ops S T K ops.size (Array.replicate ops.size false) s

def awp (E : Env) : Code → St → (Exit → St → Prop) → Prop
  | .skip, s, Q => Q .normal s
  | .region _ ops false, s, Q => AOps E ops ops.toList s (Q .normal)
  | .region _ ops true, s, Q => ADraw E ops s (Q .normal)
  | .seq a b, s, Q => awp E a s (Athen (fun s' => awp E b s' Q) Q)
  | .cond c a b, s, Q => match s.eval c with
    | .sc (.bool t) => (t = true → awp E a s Q) ∧ (t = false → awp E b s Q)
    | _ => False
  | .block id c, s, Q => awp E c s (Ablock id Q)
  | .exit id, s, Q => Q (.exit id) s
  | .label _, s, Q => Q .normal s
  | .ret, s, Q => Q .ret s
  | c, s, Q => AWp E c s Q

def codeOk (N : Nat) : Code → Bool
  | .region _ ops _ => dstsOk N ops
  | .seq a b => codeOk N a && codeOk N b
  | .cond _ a b => codeOk N a && codeOk N b
  | .block _ c => codeOk N c
  | _ => true

theorem AWp.mono {E : Env} {c : Code} {s : St} {Q Q' : Exit → St → Prop} (h : AWp E c s Q) (hq : ∀ x s, Q x s → Q' x s) : AWp E c s Q' :=
  fun a w r => wp_mono (h a w r) fun _ _ _ ⟨s', h1, h2⟩ => ⟨s', hq _ _ h1, h2⟩

theorem awp_sound {E : Env} : ∀ (c : Code) (s : St) (Q : Exit → St → Prop), codeOk E.N c = true → awp E c s Q → AWp E c s Q
  | .skip, s, Q, _, h => fun a w r => wp_skip ⟨s, h, r⟩
  | .region id ops false, s, Q, hc, h => awp_region hc h
  | .region id ops true, s, Q, hc, h => by
    obtain ⟨D, S, T, h1, h2⟩ := h
    exact awp_drawA D S T h1 hc h2
  | .seq x y, s, Q, hc, h => fun a w r => by
    simp only [codeOk, Bool.and_eq_true] at hc
    refine wp_seq (wp_mono (awp_sound x s _ hc.1 h a w r) fun e a' w' h' => ?_)
    obtain ⟨s', h1, h2⟩ := h'
    cases e with
    | normal => exact awp_sound y s' Q hc.2 h1 a' w' h2
    | _ => exact ⟨s', h1, h2⟩
  | .cond c x y, s, Q, hc, h => fun a w r => by
    simp only [codeOk, Bool.and_eq_true] at hc
    simp only [awp] at h
    split at h
    · rename_i t ht
      have hv : a.eval c = .bool t := by
        obtain ⟨ρ, ok, g, hx, hd, hs, hr⟩ := r
        have := rep_eval hr c
        rw [ht] at this
        exact rep_sc this
      refine wp_cond_split hv (fun e => ?_) (fun e => ?_)
      · exact awp_sound x s Q hc.1 (h.1 e) a w r
      · exact awp_sound y s Q hc.2 (h.2 e) a w r
    · exact h.elim
  | .block id c, s, Q, hc, h => fun a w r => by
    refine wp_block (wp_mono (awp_sound c s _ hc h a w r) fun e a' w' h' => ?_)
    obtain ⟨s', h1, h2⟩ := h'
    cases e with
    | exit i =>
      simp only [Exit.inBlock]
      simp only [Ablock] at h1
      split
      · rename_i hi; rw [if_pos hi] at h1; exact ⟨s', h1, h2⟩
      · rename_i hi; rw [if_neg hi] at h1; exact ⟨s', h1, h2⟩
    | _ => exact ⟨s', h1, h2⟩
  | .exit id, s, Q, _, h => fun a w r => wp_exit ⟨s, h, r⟩
  | .label l, s, Q, _, h => fun a w r => wp_label ⟨s, h, r⟩
  | .ret, s, Q, _, h => fun a w r => wp_ret ⟨s, h, r⟩
  | .loop c, s, Q, _, h => h
  | .rangeFunc f p x y, s, Q, _, h => h
  | .scope c, s, Q, _, h => h
  | .goto l, s, Q, _, h => h
  | .refuse m, s, Q, _, h => h

/-- A state may be looked at more weakly. -/
def Weaker (E : Env) (s s' : St) : Prop := ∀ a w, Rel E s a w → Rel E s' a w

theorem AWp.weaken {E : Env} {c : Code} {s s' : St} {Q : Exit → St → Prop} (hw : Weaker E s s') (h : AWp E c s' Q) : AWp E c s Q := fun a w r => h a w (hw a w r)

/-- No reference to an object from m on. -/
inductive NoRef (m : Nat) : AV → Prop
  | junk : NoRef m .junk
  | sc {v} : NoRef m (.sc v)
  | nil : NoRef m .nil
  | agg {cs : List AV} (h : ∀ a, a ∈ cs → NoRef m a) : NoRef m (.agg cs)
  | tup {cs : List AV} (h : ∀ a, a ∈ cs → NoRef m a) : NoRef m (.tup cs)
  | list {k : Nat} {es : List (List AV)} (h : ∀ e, e ∈ es → ∀ a, a ∈ e → NoRef m a) : NoRef m (.list k es)
  | iref {cs : List AV} (h : ∀ a, a ∈ cs → NoRef m a) : NoRef m (.iref cs)
  | fn {f : FuncId} {cs : List AV} (h : ∀ a, a ∈ cs → NoRef m a) : NoRef m (.fn f cs)
  | imap {es : List (Value × Value)} : NoRef m (.imap es)
  | ref {id i j : Nat} (h : id < m) : NoRef m (.ref id i j)
  | sref {id lo n : Nat} (h : id < m) : NoRef m (.sref id lo n)
  | mref {id : Nat} (h : id < m) : NoRef m (.mref id)
  | miter {id : Nat} (h : id < m) : NoRef m (.miter id)

theorem noRef_junk {m : Nat} : NoRef m .junk ↔ True := ⟨fun _ => trivial, fun _ => .junk⟩
theorem noRef_sc {m : Nat} {v : Value} : NoRef m (.sc v) ↔ True := ⟨fun _ => trivial, fun _ => .sc⟩
theorem noRef_nil {m : Nat} : NoRef m .nil ↔ True := ⟨fun _ => trivial, fun _ => .nil⟩
theorem noRef_agg {m : Nat} {cs : List AV} : NoRef m (.agg cs) ↔ ∀ a, a ∈ cs → NoRef m a := ⟨fun h => by cases h; assumption, .agg⟩
theorem noRef_tup {m : Nat} {cs : List AV} : NoRef m (.tup cs) ↔ ∀ a, a ∈ cs → NoRef m a := ⟨fun h => by cases h; assumption, .tup⟩
theorem noRef_list {m k : Nat} {es : List (List AV)} : NoRef m (.list k es) ↔ ∀ e, e ∈ es → ∀ a, a ∈ e → NoRef m a := ⟨fun h => by cases h; assumption, .list⟩
theorem noRef_iref {m : Nat} {cs : List AV} : NoRef m (.iref cs) ↔ ∀ a, a ∈ cs → NoRef m a := ⟨fun h => by cases h; assumption, .iref⟩
theorem noRef_fn {m : Nat} {f : FuncId} {cs : List AV} : NoRef m (.fn f cs) ↔ ∀ a, a ∈ cs → NoRef m a := ⟨fun h => by cases h; assumption, .fn⟩
theorem noRef_ref {m id i j : Nat} : NoRef m (.ref id i j) ↔ id < m := ⟨fun h => by cases h; assumption, .ref⟩
theorem noRef_mref {m id : Nat} : NoRef m (.mref id) ↔ id < m := ⟨fun h => by cases h; assumption, .mref⟩
theorem noRef_miter {m id : Nat} : NoRef m (.miter id) ↔ id < m := ⟨fun h => by cases h; assumption, .miter⟩
theorem noRef_sref {m id lo n : Nat} : NoRef m (.sref id lo n) ↔ id < m := ⟨fun h => by cases h; assumption, .sref⟩

section
variable {E : Env} {w : World} {ρ : Places} {H : Heap} {ok : Nat → Prop}

theorem Weaker.trans {s1 s2 s3 : St} (h : Weaker E s1 s2) (k : Weaker E s2 s3) : Weaker E s1 s3 := fun a w r => k a w (h a w r)

/-- A nil slice taken as an empty one of the call's own. -/
theorem weaker_own {s : St} (j : Nat) (ty : TypeId) (k : Nat) (h : s.t j = .nil) : Weaker E s ⟨upd s.t j (.sref s.H.length 0 0), s.H ++ [some ⟨ty, k, []⟩]⟩ := by
  rintro a w ⟨ρ, ok, g, hx, hd, hs, hr⟩
  obtain ⟨g', x'⟩ := g.add ⟨ty, k, []⟩ none rfl (by simp) (by simp)
  refine ⟨_, ok, g', hx.trans x', hd, hs, fun i => ?_⟩
  simp only [upd]
  split
  · rename_i hi
    subst hi
    have := hr i
    rw [h] at this
    generalize a.tmps.getD i undef = v at this
    cases this
    exact .srefNil push_new (by simp [updP])
  · exact (hr i).ext x'

end
end Go.PA
