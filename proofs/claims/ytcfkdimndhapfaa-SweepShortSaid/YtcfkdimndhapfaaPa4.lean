/- PA, part 4: soundness of 'aval'. -/
import Derived.Test.YtcfkdimndhapfaaPa3
namespace Go.PA
open Go.RowKit

section
variable {E : Env} {w : World} {ρ : Places} {H : Heap} {ok : Nat → Prop}

theorem rep_scE {v u : Value} {a : AV} (e : a = .sc u) (h : Rep w ρ H ok v a) : v = u := rep_sc (e ▸ h)

theorem bound_sound {ev : Operand → AV} {rho : Operand → Value} (hev : ∀ x, Rep w ρ H ok (rho x) (ev x)) {o : Option Operand} {d l : Int} (h : bound ev d o = some l) :
    (o.map rho = none ∧ (if o.isSome then some l else none) = none) ∨ ∃ k l', o.map rho = some (.int k l') ∧ (if o.isSome then some l else none) = some l' := by
  cases o with
  | none => exact .inl ⟨rfl, rfl⟩
  | some x =>
    refine .inr ?_
    simp only [bound] at h
    split at h
    · rename_i k n hx
      simp only [Option.some.injEq] at h
      subst h
      exact ⟨k, n, by rw [Option.map_some, rep_scE hx (hev x)], rfl⟩
    · cases h

set_option maxHeartbeats 1000000 in
theorem aval_sound (g : Good E w ρ H ok) {rho : Operand → Value} {ev : Operand → AV} (hev : ∀ x, Rep w ρ H ok (rho x) (ev x)) {o : Oper} {x : AV} (h : aval E.P o.op ev H = some x) :
    ∃ v, (execOp rho o).run E.P w = .ok (.value v) w ∧ Rep w ρ H ok v x := by
  obtain ⟨dst, op, ty, pos, after, gd⟩ := o
  simp only at h
  unfold execOp
  cases op <;> simp only [aval, apick, anil, aun, aconv, afield, afieldV, aindex, aextract, asliceOp, alenOp, reduceCtorEq] at h ⊢
  case move y => simp only [Option.some.injEq] at h; subst h; exact ⟨_, rfl, hev y⟩
  case assign y => simp only [Option.some.injEq] at h; subst h; exact ⟨_, rfl, hev y⟩
  case pick c a b =>
    split at h
    · rename_i t ht
      have hc := rep_scE ht (hev c)
      simp only [Option.some.injEq] at h
      subst h
      cases t
      · exact ⟨rho b, by simp [hc, asBool], hev b⟩
      · exact ⟨rho a, by simp [hc, asBool], hev a⟩
    · cases h
  case load t a =>
    rw [Option.bind_eq_some_iff] at h
    obtain ⟨as, has, hl⟩ := h
    obtain ⟨ad, hv, hc⟩ := addr_sound g (hev a) has
    obtain ⟨v, hrun, hr⟩ := aload_sound hc hl
    exact ⟨v, by rw [hv]; exact run_value (by simpa [Instr.loadAt, Instr.sureAddr] using hrun), hr⟩
  case nilCheck y =>
    split at h
    · rename_i f cs hy
      have hr := hev y
      rw [hy] at hr
      simp only [Option.some.injEq] at h
      subst h
      refine ⟨rho y, ?_, hr⟩
      generalize rho y = u at hr ⊢
      cases hr
      rfl
    · rename_i a hy
      simp only [Option.some.injEq] at h
      subst h
      refine ⟨_, ?_, .sc⟩
      rw [rep_scE hy (hev y)]
      rfl
    · split at h
      · rename_i hs
        obtain ⟨as, has⟩ := Option.isSome_iff_exists.1 hs
        simp only [Option.some.injEq] at h
        subst h
        obtain ⟨ad, hv, _⟩ := addr_sound g (hev y) has
        exact ⟨_, by rw [hv]; rfl, hv ▸ hev y⟩
      · cases h
  case binOp op t y z yt =>
    obtain ⟨r, h1, h2, h3⟩ := abin_sound y z (hev y) (hev z) h
    exact ⟨r, run_value (by simp only [Sem.run_bind, h1, Result.andThen_ok, h2]), h3⟩
  case unOp op t y =>
    split at h
    · rename_i b hy
      simp only [Option.some.injEq] at h
      subst h
      refine ⟨_, ?_, .sc⟩
      rw [rep_scE hy (hev y)]
      rfl
    · rename_i k n hy
      simp only [Option.some.injEq] at h
      subst h
      refine ⟨_, ?_, .sc⟩
      rw [rep_scE hy (hev y)]
      rfl
    · cases h
  case convert src dst y =>
    split at h
    · rename_i d k kk n hs hd hy
      simp only [Option.some.injEq] at h
      subst h
      refine ⟨_, run_value ?_, .sc⟩
      rw [rep_scE hy (hev y)]
      simp [convert, run_underlying hs, run_underlying hd, Conv.intToInt]
    · rename_i s hs hd hy
      simp only [Option.some.injEq] at h
      subst h
      refine ⟨_, run_value ?_, .sc⟩
      rw [rep_scE hy (hev y)]
      simp [convert, run_underlying hs, run_underlying hd]
    · cases h
  case fieldAddr s y f =>
    split at h
    · cases h
    · rename_i off ft hf
      split at h
      · rename_i id i j hy
        split at h
        · rename_i hs
          obtain ⟨as, has⟩ := Option.isSome_iff_exists.1 hs
          simp only [Option.some.injEq] at h
          subst h
          obtain ⟨ad, hv, hr⟩ := rep_ref_add (off := off) (hy ▸ hev y) has
          exact ⟨_, by rw [hv]; exact run_value (run_fieldAt hf ad w), hr⟩
        · cases h
      · rename_i cs hy
        simp only [Option.some.injEq] at h
        subst h
        obtain ⟨ad, hv, hr⟩ := rep_iref_drop (hy ▸ hev y) off
        exact ⟨_, by rw [hv]; exact run_value (run_fieldAt hf ad w), hr⟩
      · cases h
  case field s y f =>
    split at h
    · rename_i off ft cs hf hy
      obtain ⟨fs, fx, hs, hx, rfl, rfl, hz, hk⟩ := fieldOf_sound hf
      have hr := hev y
      rw [hy] at hr
      generalize rho y = u at hr ⊢
      cases hr with
      | agg hn hc =>
        obtain ⟨v, h1, h2⟩ := apart_sound hn hc h
        exact ⟨v, run_value (by simp [Instr.field, run_underlying hs, hx, asAgg, h1]), h2⟩
    · cases h
  case indexAddr t y ix =>
    split at h
    · rename_i k n hi
      obtain ⟨u, h1, h2⟩ := aindexAddr_sound (k := k) (hev y) h
      exact ⟨u, by rw [rep_scE hi (hev ix)]; exact run_value h1, h2⟩
    · cases h
  case index t y ix =>
    unfold aixV at h
    split at h
    · rename_i k n hi
      have hix := rep_scE hi (hev ix)
      split at h
      · rename_i cs hy
        split at h
        · rename_i len e harr
          split at h
          · rename_i hc
            obtain ⟨hk, h0, h1⟩ := hc
            have hu : E.P.underlying t = some (.array len e) := by
              unfold arrOf at harr
              split at harr
              · rename_i hu
                simp only [Option.some.injEq, Prod.mk.injEq] at harr
                obtain ⟨rfl, rfl⟩ := harr
                exact hu
              · cases harr
            have hr := hev y
            rw [hy] at hr
            generalize rho y = u at hr ⊢
            cases hr with
            | agg hn hc =>
              obtain ⟨v, h2, h3⟩ := apart_sound hn hc h
              exact ⟨v, run_value (by simp [Instr.index, hix, asIntOf, run_underlying hu, h0, h1, run_sizeOf' hk, h2]), h3⟩
          · cases h
        · cases h
      · rename_i s hy
        split at h
        · rename_i hu
          split at h
          · rename_i h0
            rw [Option.map_eq_some_iff] at h
            obtain ⟨b, hb, rfl⟩ := h
            have hs := rep_scE hy (hev y)
            exact ⟨_, run_value (by simp [Instr.index, hix, hs, asIntOf, run_underlying hu, h0, hb]), .sc⟩
          · cases h
        · cases h
      · cases h
    · cases h
  case extract y i =>
    split at h
    · rename_i vs hy
      have hr := hev y
      rw [hy] at hr
      generalize rho y = u at hr ⊢
      cases hr with
      | @tup cs _ hn hc =>
        have hlt : i < cs.size := by rw [hn]; exact (List.getElem?_eq_some_iff.1 h).1
        have hv : cs[i]? = some cs[i] := Array.getElem?_eq_getElem hlt
        refine ⟨cs[i], run_value ?_, hc _ _ _ hv h⟩
        simp only [Instr.extract, hv, Sem.run_pure]
    · cases h
  case makeFunc fn first caps =>
    cases fn <;> simp only [reduceCtorEq] at h
    split at h
    · rename_i hz
      simp only [Option.some.injEq] at h
      subst h
      have hf : first = #[] := Array.eq_empty_of_size_eq_zero hz
      subst hf
      rename_i f
      refine ⟨.func (.func f) #[] (caps.map rho), run_value (by simp [Instr.makeFunc]), .fn (by simp) (fun i c a hc ha => ?_)⟩
      rw [List.getElem?_map, Option.map_eq_some_iff] at ha
      obtain ⟨q, hq, rfl⟩ := ha
      rw [Array.getElem?_map, Option.map_eq_some_iff] at hc
      obtain ⟨q', hq', rfl⟩ := hc
      rw [Array.getElem?_toList] at hq
      rw [hq] at hq'
      simp only [Option.some.injEq] at hq'
      subst hq'
      exact hev _
    · cases h
  case slice t y lo hi mx =>
    cases mx <;> simp only [reduceCtorEq] at h
    split at h
    · rename_i s hy
      split at h
      · rename_i l hh ht hl hh'
        split at h
        · rename_i hc
          simp only [Option.some.injEq] at h
          subst h
          refine ⟨_, run_value ?_, .sc⟩
          rw [rep_scE hy (hev y)]
          have b1 := bound_sound hev hl
          have b2 := bound_sound hev hh'
          have c1 : (0 : Int) ≤ hh := by omega
          cases lo <;> cases hi <;> simp only [Option.map_none, Option.map_some, Option.isSome_none, Option.isSome_some, if_true, reduceCtorEq, false_and, exists_const, or_false, false_or, Option.some.injEq, bound, Bool.false_eq_true, if_false] at b1 b2 hl hh' ⊢
          · subst hl; subst hh'
            simp [Instr.sliceAt, Instr.slice, run_underlying ht, Instr.sliceBounds]
          · obtain ⟨k2, l2, e2, rfl⟩ := b2
            subst hl
            simp [Instr.sliceAt, Instr.slice, run_underlying ht, Instr.sliceBounds, e2, Instr.sliceBound, asIntOf, hc.2.2, c1]
          · obtain ⟨k1, l1, e1, rfl⟩ := b1
            subst hh'
            have c2 : l ≤ (s.size : Int) := by omega
            simp [Instr.sliceAt, Instr.slice, run_underlying ht, Instr.sliceBounds, e1, Instr.sliceBound, asIntOf, hc.1, c2]
          · obtain ⟨k1, l1, e1, rfl⟩ := b1
            obtain ⟨k2, l2, e2, rfl⟩ := b2
            have c3 : l ≤ max hh 0 := by omega
            simp [Instr.sliceAt, Instr.slice, run_underlying ht, Instr.sliceBounds, e1, e2, Instr.sliceBound, asIntOf, hc.1, hc.2.2, c1, c3]
        · cases h
      · cases h
    · split at h
      · rename_i hl hh'
        obtain ⟨u, h1, h2⟩ := aslice_sound (hev y) (bound_sound hev hl) (bound_sound hev hh') h
        exact ⟨u, run_value h1, h2⟩
      · cases h
  case call c =>
    obtain ⟨callee, args, argTypes⟩ := c
    simp only at h ⊢
    split at h
    · split at h
      · rename_i y t ha hT
        have ha' : args = #[y] := by rw [← Array.toList_inj, ha]
        have hT' : argTypes = #[t] := by rw [← Array.toList_inj, hT]
        subst ha'; subst hT'
        split at h
        · rename_i e ht
          rw [Option.map_eq_some_iff] at h
          obtain ⟨n, hn, rfl⟩ := h
          refine ⟨.int .i64 n, ?_, .sc⟩
          have := alen_sound (P := E.P) ht (hev y) hn ty
          simp [resolve, invoke, builtin, this]
        · rename_i s ht hy
          simp only [Option.some.injEq] at h
          subst h
          refine ⟨_, ?_, .sc⟩
          rw [show (Value.int IntKind.i64 (s.size : Int)) = goInt s.size from rfl]
          simp [resolve, invoke, builtin, Builtin.len_, run_underlying ht, rep_scE hy (hev y)]
        · cases h
      · cases h
    · have hmax : ∃ r, (Builtin.max_ argTypes ty (args.map rho)).run E.P w = .ok r w ∧ x = .sc r := by
        unfold amax at h
        split at h
        · rename_i k a r hr
          cases hl : args.toList with
          | nil => rw [hl] at hr; simp at hr
          | cons q qs =>
            rw [hl] at hr
            simp only [List.map_cons, List.cons.injEq] at hr
            obtain ⟨hq, rfl⟩ := hr
            obtain ⟨r, h1, h2⟩ := amaxFrom_sound (w := w) (ρ := ρ) (H := H) (ok := ok) (E := E) (vs := qs.map rho) (by simp) (fun i c a hi ha => by
              rw [List.getElem?_map, Option.map_eq_some_iff] at hi ha
              obtain ⟨p, hp, rfl⟩ := hi
              obtain ⟨p', hp', rfl⟩ := ha
              rw [hp] at hp'
              simp only [Option.some.injEq] at hp'
              subst hp'
              exact hev _) h
            refine ⟨r, ?_, h2⟩
            simp only [Builtin.max_, Array.toList_map, hl, List.map_cons, rep_scE hq (hev q)]
            exact h1
        · cases h
      obtain ⟨r, h1, rfl⟩ := hmax
      exact ⟨r, by simp [resolve, invoke, builtin, h1], .sc⟩
    · have hmin : ∃ r, (Builtin.min_ argTypes ty (args.map rho)).run E.P w = .ok r w ∧ x = .sc r := by
        unfold amin at h
        split at h
        · rename_i k a r hr
          cases hl : args.toList with
          | nil => rw [hl] at hr; simp at hr
          | cons q qs =>
            rw [hl] at hr
            simp only [List.map_cons, List.cons.injEq] at hr
            obtain ⟨hq, rfl⟩ := hr
            obtain ⟨r, h1, h2⟩ := aminFrom_sound (w := w) (ρ := ρ) (H := H) (ok := ok) (E := E) (vs := qs.map rho) (by simp) (fun i c a hi ha => by
              rw [List.getElem?_map, Option.map_eq_some_iff] at hi ha
              obtain ⟨p, hp, rfl⟩ := hi
              obtain ⟨p', hp', rfl⟩ := ha
              rw [hp] at hp'
              simp only [Option.some.injEq] at hp'
              subst hp'
              exact hev _) h
            refine ⟨r, ?_, h2⟩
            simp only [Builtin.min_, Array.toList_map, hl, List.map_cons, rep_scE hq (hev q)]
            exact h1
        · cases h
      obtain ⟨r, h1, rfl⟩ := hmin
      exact ⟨r, by simp [resolve, invoke, builtin, h1], .sc⟩
    · cases h

end
end Go.PA
