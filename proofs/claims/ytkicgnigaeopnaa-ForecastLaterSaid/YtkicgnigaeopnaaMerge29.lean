/- Forecast: Merge; the order of flows. -/
import Derived.Test.YtkicgnigaeopnaaOrder29
import Derived.Lib.AppendZerosOnto
import Derived.Lib.Walk
import Derived.Lib.SliceRun
set_option linter.unusedSimpArgs false
set_option linter.unusedVariables false
namespace Go.Proofs.Ytkicgnigaeopnaa
open Go.PA
open Go.RowKit
theorem grow0_flow (w : World) : Calls Try.prog 35 #[.slice none 0 0, .int .i64 0] w fun e w' => e = .returned (.slice none 0 0) ∧ w' = w := by
  go_enter Try.func35, Try.ntmps35
  go_wp2
  go_ret
  exact ⟨rfl, rfl⟩
set_option maxHeartbeats 1000000 in
theorem grow1_flow (n : Nat) (h1 : 1 ≤ n) (hb : n * 32 ≤ 140737488355328) (h63 : n ≤ 4611686018427387904) (i0 : TypeInfo) (z : Value) (hi0 : Try.prog.info? 38 = some i0) (hz0 : i0.zero = some z) (hs0 : 0 < i0.size) (hbytes : i0.bytes = 32) (w : World) :
    Calls Try.prog 35 #[.slice none 0 0, .int .i64 n] w fun e w' => e = .returned (.slice (some ⟨w.heap.size, 0, none⟩) 0 (grownCap w n 0 38)) ∧ w' = w.drew.alloc (.cells (([] : List Value).toArray ++ Builtin.zeroCells z.cells n ++ Builtin.zeroCells z.cells (grownCap w n 0 38 - n)) 38) := by
  have h1' : ¬ ((n : Int) < 0) := by omega
  have h2 : wrap64 (0 : Int) = 0 := by unfold wrap64; omega
  have h3 : wrap64 (n : Int) = (n : Int) := by unfold wrap64; omega
  have h4 : (n : Int) > 0 := by omega
  have hrz : ∀ ty, (Builtin.append_ #[25, 3] ty #[.slice none 0 0, .int .i64 n]).run Try.prog w =
      .ok (.slice (some ⟨w.heap.size, 0, none⟩) n (grownCap w n 0 38)) (w.drew.alloc (.cells (([] : List Value).toArray ++ Builtin.zeroCells z.cells n ++ Builtin.zeroCells z.cells (grownCap w n 0 38 - n)) 38)) := fun ty => by
    have h := Lib.run_append_grow_zeros w 25 3 ty 38 i0 z .i64 .i64 Try.underlying25 Try.underlying3 hi0 hz0 none 0 0 [] (run_firstCells_none w.drew i0.size 0 0 0) n (by omega) hs0 (by omega) (by omega) (by rw [hbytes]; omega) (by rw [hbytes, Nat.zero_add]; exact growslice_fits (by omega) (by omega))
    simp only [Nat.zero_add] at h
    exact h
  have hGn : n ≤ grownCap w n 0 38 := grownCap_ge w _ _ _
  obtain ⟨G, hG⟩ : ∃ G, G = grownCap w n 0 38 := ⟨_, rfl⟩
  rw [← hG] at hrz hGn ⊢
  have hG63 : G ≤ 9223372036854775807 := by
    have := grownCap_le_maxLen w n 0 38 (by unfold maxLen; omega)
    rw [← hG] at this
    unfold maxLen at this
    omega
  clear hG
  go_enter Try.func35, Try.ntmps35
  go_wp2_with (at_builtin; refine Lib.wpList_append_run _ rfl _ _ _ _ rfl _ _ rfl rfl _ _ (hrz _) ?_)
  all_goals (go_ret; exact ⟨rfl, rfl⟩)
theorem grow_m_flow {row src : Option Nat} (n : Nat) (hn : n ≤ 1000000) (H : Heap) : MFun Try.prog row src 35 [.nil, iv n] H (fun r H' => r = .sref H.length 0 0 ∧ H' = H ++ [some ⟨38, 4, []⟩]) := by
  obtain ⟨i0, hi0⟩ : ∃ i, Try.prog.info? 38 = some i := Option.isSome_iff_exists.1 (by kernel_rfl)
  have hz0' : (i0.zero).isSome = true := by
    have : ((Try.prog.info? 38).bind (·.zero)).isSome = true := by kernel_rfl
    rw [hi0] at this
    simpa using this
  obtain ⟨z, hz0⟩ := Option.isSome_iff_exists.1 hz0'
  have hsz : i0.size = 4 := by
    have : ((Try.prog.info? 38).map (·.size)) = some 4 := by kernel_rfl
    rw [hi0] at this
    simpa using this
  have hby : i0.bytes = 32 := by
    have : ((Try.prog.info? 38).map (·.bytes)) = some 32 := by kernel_rfl
    rw [hi0] at this
    simpa using this
  have hzc : z.cells.size = 4 := by
    have : (((Try.prog.info? 38).bind (·.zero)).map (·.cells.size)) = some 4 := by kernel_rfl
    rw [hi0] at this
    simp only [Option.bind_some, hz0, Option.map_some, Option.some.injEq] at this
    exact this
  refine MFun.mono (C := fun r H' => r = .sref H.length 0 0 ∧ H' = H ++ [some ⟨38, 4, []⟩]) ?_ (fun _ _ h => h)
  intro E hP hrow hsrc
  refine ⟨⟨_, _, rfl, rfl⟩, fun w ρ ok vs g hsz' hrep => ?_⟩
  rw [hP]
  have hv0 := hrep 0 (vs[0]'(by simp at hsz'; omega)) .nil (Array.getElem?_eq_getElem _) rfl
  have hv1 := hrep 1 (vs[1]'(by simp at hsz'; omega)) (iv n) (Array.getElem?_eq_getElem _) rfl
  have e1 := rep_sc hv1
  have e0 : vs[0]'(by simp at hsz'; omega) = .slice none 0 0 := by
    generalize vs[0]'(by simp at hsz'; omega) = v at hv0
    cases hv0
    rfl
  have hvs : vs = #[.slice none 0 0, .int .i64 n] := by
    apply Array.ext
    · simpa using hsz'
    · intro i h1 h2
      match i with
      | 0 => simpa using e0
      | 1 => simpa using e1
      | i + 2 => simp at h2; omega
  subst hvs
  rcases Nat.eq_zero_or_pos n with rfl | hpos
  · refine (grow0_flow w).mono ?_
    rintro e w' ⟨rfl, rfl⟩
    obtain ⟨g2, x2⟩ := g.add ⟨38, 4, []⟩ none rfl (by simp) (by simp)
    exact ⟨_, _, _, _, _, rfl, ⟨rfl, rfl⟩, g2, x2, .srefNil push_new (by simp [updP])⟩
  · refine (grow1_flow n hpos (by omega) (by omega) i0 z hi0 hz0 (by omega) hby w).mono ?_
    rintro e w' ⟨rfl, rfl⟩
    have hGn : n ≤ grownCap w n 0 38 := grownCap_ge w _ _ _
    have hG63 := grownCap_le_maxLen w n 0 38 (by unfold maxLen; omega)
    obtain ⟨G, hG⟩ : ∃ G, G = grownCap w n 0 38 := ⟨_, rfl⟩
    rw [← hG] at hGn hG63 ⊢
    obtain ⟨g1, x1⟩ := g.step (w' := w.drew) (ok' := ok) (fun _ => False) rfl rfl rfl (Nat.le_refl _) (fun _ _ _ => rfl) (fun _ h => h.elim) (fun _ h => h) (fun _ h => .inl h)
    obtain ⟨g2, x2⟩ := g1.newObj ⟨38, 4, []⟩ G (([] : List Value).toArray ++ Builtin.zeroCells z.cells n ++ Builtin.zeroCells z.cells (G - n)) (by
      simp only [Array.size_append, Builtin.zeroCells, Array.size_map, Array.size_range, hzc]
      simp
      omega) (by simp) hG63 (by simp) (by simp)
    refine ⟨_, .sref H.length 0 0, _, _, _, rfl, ⟨rfl, rfl⟩, g2, x1.trans x2, ?_⟩
    have := Rep.sref (w := w.drew.alloc (.cells (([] : List Value).toArray ++ Builtin.zeroCells z.cells n ++ Builtin.zeroCells z.cells (G - n)) 38)) (ρ := updP ρ H.length (some (w.drew.heap.size, G))) (H := H ++ [some ⟨38, 4, []⟩]) (ok := ok) (id := H.length) (lo := 0) (n := 0) (c := G) push_new (b := w.drew.heap.size) (cap := G) (by simp [updP]) (by simp) (fun _ => rfl) (Nat.zero_le _)
    simpa using this

theorem concat_m_flow {row src : Option Nat} (ls : List (List Flow)) (al : List Flow) (hal : al = ls.flatten) (hl : ls.length ≤ 1000) (hn : al.length ≤ 1000000) (H : Heap) :
    MFun Try.prog row src 24 [.list 1 (ls.map fun l => [.list 4 (encL Flow.cells l)])] H (fun r H' => ∃ id, r = .sref id 0 al.length ∧ H.length ≤ id ∧ H'[id]? = some (some ⟨38, 4, encL Flow.cells al⟩) ∧ Kept [] H H') := by
  subst hal
  refine mfun_intro Try.func24 rfl (by simp [Try.f24]) (by kernel_rfl) ⟨_, H ++ [some ⟨38, 4, encL Flow.cells ls.flatten⟩], H.length, rfl, Nat.le_refl _, by simp, kept_push _ (kept_refl _ _)⟩ ?_
  intro E hP hr hs hN
  simp -implicitDefEqProofs [-getElem?_pos, go_sem, hP]
  obtain ⟨I, hI⟩ : ∃ I : Nat → St → Prop, I = fun m s => ∃ k : Nat, k ≤ ls.length ∧ m = ls.length - k ∧ s.t 0 = .list 1 (ls.map fun l => [.list 4 (encL Flow.cells l)]) ∧ s.t 9 = .list 1 (ls.map fun l => [.list 4 (encL Flow.cells l)]) ∧ s.t 10 = iv ls.length ∧ s.t 11 = iv k ∧ s.t 3 = iv ((ls.take k).flatten.length : Nat) ∧ s.H = H := ⟨_, rfl⟩
  refine aloop0 I ls.length (by rw [hN]; rfl) ?_ ?_
  · rw [hI]
    exact ⟨0, by omega, by omega, by simp -implicitDefEqProofs [-getElem?_pos, go_sem], by simp -implicitDefEqProofs [-getElem?_pos, go_sem], by simp -implicitDefEqProofs [-getElem?_pos, go_sem], by simp -implicitDefEqProofs [-getElem?_pos, go_sem], by simp -implicitDefEqProofs [-getElem?_pos, go_sem], by simp -implicitDefEqProofs [-getElem?_pos, go_sem]⟩
  intro m s hs'
  rw [hI] at hs'
  obtain ⟨k, hk, hm, t0, t9, t10, t11, t3, sH⟩ := hs'
  simp -implicitDefEqProofs [-getElem?_pos, go_sem, hP, t11, t10]
  have flat : ∀ k, k ≤ ls.length → (ls.take k).flatten.length ≤ ls.flatten.length := fun k hk => by
    have := congrArg List.length (congrArg List.flatten (List.take_append_drop k ls))
    simp only [List.flatten_append, List.length_append] at this
    omega
  refine condP (fun h => ?_) (fun h => ?_)
  · have hk : k < ls.length := by simpa using h
    obtain ⟨l, hl'⟩ : ∃ l, ls[k]? = some l := ⟨_, List.getElem?_eq_getElem hk⟩
    have e1 : ls.take (k + 1) = ls.take k ++ [l] := by rw [List.take_add_one, hl']; rfl
    have e2 : (ls.take (k + 1)).flatten.length = (ls.take k).flatten.length + l.length := by rw [e1]; simp
    have := flat (k + 1) (by omega)
    have wk := wrap_in ((k : Int) + 1) (by omega)
    have w3 := wrap_in (((ls.take k).flatten.length : Int) + (l.length : Int)) (by omega)
    have hneg : decide (((ls.take k).flatten.length : Int) + (l.length : Int) < 0) = false := by simp; omega
    obtain ⟨m1, hm1⟩ : ∃ m1, m1 = (ls.take k).flatten.length := ⟨_, rfl⟩
    rw [← hm1] at w3 hneg t3 e2
    simp -implicitDefEqProofs [-getElem?_pos, go_sem, hP, t9, t11, hk, hl', t3, w3, hneg, wk]
    refine ⟨ls.length - (k + 1), by omega, ?_⟩
    rw [hI]
    exact ⟨k + 1, by omega, rfl, by simp -implicitDefEqProofs [-getElem?_pos, go_sem, t0], by simp -implicitDefEqProofs [-getElem?_pos, go_sem, t9], by simp -implicitDefEqProofs [-getElem?_pos, go_sem, t10], by simp -implicitDefEqProofs [-getElem?_pos, go_sem], by rw [e2]; simp -implicitDefEqProofs [-getElem?_pos, go_sem], by simp -implicitDefEqProofs [-getElem?_pos, go_sem, sH]⟩
  · have hk : k = ls.length := by simp at h; omega
    subst hk
    rw [List.take_length] at t3
    obtain ⟨n, hnn⟩ : ∃ n, n = ls.flatten.length := ⟨_, rfl⟩
    rw [← hnn] at t3
    simp -implicitDefEqProofs [-getElem?_pos, go_sem, hP, t3]
    refine callB_m (grow_m_flow n (by omega) s.H) hP (by kernel_rfl) ?_
    rintro r H' ⟨rfl, rfl⟩
    simp -implicitDefEqProofs [-getElem?_pos, go_sem, hP, t0]
    obtain ⟨J, hJ⟩ : ∃ J : Nat → St → Prop, J = fun m s => ∃ (k id : Nat), k ≤ ls.length ∧ m = ls.length - k ∧ s.t 25 = .list 1 (ls.map fun l => [.list 4 (encL Flow.cells l)]) ∧ s.t 26 = iv ls.length ∧ s.t 27 = iv k ∧ s.t 6 = .sref id 0 (ls.take k).flatten.length ∧ H.length ≤ id ∧ s.H[id]? = some (some ⟨38, 4, encL Flow.cells (ls.take k).flatten⟩) ∧ Kept [] H s.H := ⟨_, rfl⟩
    refine aloop0 J ls.length (by rw [hN]; rfl) ?_ ?_
    · rw [hJ]
      exact ⟨0, H.length, by omega, by omega, by simp -implicitDefEqProofs [-getElem?_pos, go_sem], by simp -implicitDefEqProofs [-getElem?_pos, go_sem], by simp -implicitDefEqProofs [-getElem?_pos, go_sem], by simp -implicitDefEqProofs [-getElem?_pos, go_sem, sH], Nat.le_refl _, by simp -implicitDefEqProofs [-getElem?_pos, go_sem, sH], by simp -implicitDefEqProofs [-getElem?_pos, go_sem, sH]; exact kept_push _ (kept_refl _ _)⟩
    clear t0 t9 t10 t11 t3 sH
    intro m s hs'
    rw [hJ] at hs'
    obtain ⟨k, id, hk, hm, t25, t26, t27, t6, hid, hH, hKp⟩ := hs'
    simp -implicitDefEqProofs [-getElem?_pos, go_sem, hP, t26, t27]
    refine condP (fun h => ?_) (fun h => ?_)
    · have hk : k < ls.length := by simpa using h
      obtain ⟨l, hl'⟩ : ∃ l, ls[k]? = some l := ⟨_, List.getElem?_eq_getElem hk⟩
      have e1 : ls.take (k + 1) = ls.take k ++ [l] := by rw [List.take_add_one, hl']; rfl
      have e2 : (ls.take (k + 1)).flatten = (ls.take k).flatten ++ l := by rw [e1]; simp
      have hle := flat (k + 1) (by omega)
      have wk := wrap_in ((k : Int) + 1) (by omega)
      rw [e2, List.length_append] at hle
      obtain ⟨fl, hfl⟩ : ∃ fl, fl = (ls.take k).flatten := ⟨_, rfl⟩
      rw [← hfl] at e2 t6 hH hle
      have hlt := (List.getElem?_eq_some_iff.1 hH).1
      simp -implicitDefEqProofs [-getElem?_pos, go_sem, hP, t25, t27, hk, hl', t6, hH, wk]
      refine ⟨by omega, by omega, ls.length - (k + 1), by omega, ?_⟩
      rw [hJ]
      refine ⟨k + 1, s.H.length, by omega, rfl, by simp -implicitDefEqProofs [-getElem?_pos, go_sem, t25], by simp -implicitDefEqProofs [-getElem?_pos, go_sem, t26], by simp -implicitDefEqProofs [-getElem?_pos, go_sem], by simp -implicitDefEqProofs [-getElem?_pos, go_sem, e2], by omega, ?_, ?_⟩
      · simp -implicitDefEqProofs [-getElem?_pos, go_sem, e2, encL_app]
      · simp -implicitDefEqProofs [-getElem?_pos, go_sem]
        exact kept_push _ (kept_new _ hid hKp)
    · have hk : k = ls.length := by simp at h; omega
      subst hk
      rw [List.take_length] at t6 hH
      simp -implicitDefEqProofs [-getElem?_pos, go_sem, hP, t6]
      exact ⟨hid, hH, hKp⟩


def mergeA (al : List Flow) : List Flow × Int := if checkI al = 0 then (isort befB al, 0) else ([], checkI al)

theorem merge_pf (ls : List (List Flow)) (al : List Flow) (hal : al = ls.flatten) (hl : ls.length ≤ 1000) (hn : al.length < 20) :
    PFun Try.prog none none 15 [.list 1 (ls.map fun l => [flowsL l])] (· = .tup [flowsL (mergeA al).1, iv (mergeA al).2]) := by
  refine pfun_intro Try.func15 rfl (by simp [Try.f15]) (by kernel_rfl) ?_
  intro E hP hr hs hW hN
  simp -implicitDefEqProofs [-getElem?_pos, go_sem, hP]
  refine callB_m (concat_m_flow (row := E.row) (src := E.src) ls al hal hl (by omega) _) hP (by kernel_rfl) ?_
  clear hal
  rintro r H' ⟨id, rfl, hid, hH, hKp⟩
  have hi := imm_encL Flow.cells (k := 4) imm_flow al
  simp -implicitDefEqProofs [-getElem?_pos, go_sem, hP]
  refine callB_pure (check_pf al (by omega)) hP en_18 (args_sref hH (by simp [encL]) hi (args_nil.2 trivial)) .sc ?_
  simp -implicitDefEqProofs [-getElem?_pos, go_sem, hP]
  refine condP (fun h0 => ?_) (fun h0 => ?_)
  rotate_left
  · simp -implicitDefEqProofs [-getElem?_pos, go_sem, hP]
    refine done_nil2 4 ?_
    have : ¬ checkI al = 0 := by simpa using h0
    simp [mergeA, this, flowsL]
  have h0 : checkI al = 0 := by simpa using h0
  simp -implicitDefEqProofs [-getElem?_pos, go_sem, hP]
  have ho := order_m (row := E.row) (src := E.src) al H' id (al.length) rfl (by omega) hH
  refine callB_m ho hP en_23 ?_
  rintro r H'' ⟨rfl, rfl⟩
  have hlt := (List.getElem?_eq_some_iff.1 hH).1
  simp -implicitDefEqProofs [-getElem?_pos, go_sem, hP]
  have e5 := encL_take Flow.cells (isort befB al) al.length (by rw [isort_len])
  refine done (x := .tup [flowsL (isort befB al), iv 0]) ?_ (by simp [mergeA, h0, flowsL]) ?_
  · simp -implicitDefEqProofs [-getElem?_pos, go_sem, hlt, e5]
    exact imm_list.1 (imm_encL Flow.cells (k := 4) imm_flow _)
  · simp -implicitDefEqProofs [-getElem?_pos, go_sem, hlt, e5]
    rfl

end Go.Proofs.Ytkicgnigaeopnaa
