/- Codes: the numbers of a code. -/
import Derived.Test.YtmkhcmiplleghaaGreatDoorSplit
import Derived.Laws.Rows
import Derived.RangeFuncCalls
set_option linter.unusedSimpArgs false
set_option linter.unusedVariables false
namespace Go.Proofs.YtmkhcmiplleghaaGreatDoor
open Go.RowKit Go.Shelf
attribute [local go_sem] Oper.semAt_some

/-- The number that a part of a code spells. -/
def partOf (l : List UInt8) : Option Int := match Lib.atoiAll l with
  | .ok n => if 1 ≤ n ∧ n ≤ 99 ∧ Lib.decDigits n.toNat = l then some n else none
  | _ => none
def partsD (s : ByteArray) : List Int := match (piecesF 46 s.size (bl s)).mapM partOf with
  | some ns => if ns.length ≤ 4 then ns else []
  | none => []

theorem pieces_len (c : UInt8) : ∀ (n : Nat) (l x : List UInt8), x ∈ piecesF c n l → x.length ≤ l.length
  | 0, l, x, h => by simp [piecesF] at h; simp [h]
  | n + 1, l, x, h => by
    unfold piecesF at h
    split at h
    · simp at h; simp [h]
    · rcases List.mem_cons.1 h with rfl | h
      · rw [List.length_take]; omega
      · have := pieces_len c n _ _ h
        rw [List.length_drop] at this
        omega
theorem pieces_count (c : UInt8) : ∀ (n : Nat) (l : List UInt8), (piecesF c n l).length ≤ n + 1
  | 0, l => by simp [piecesF]
  | n + 1, l => by
    unfold piecesF
    split
    · simp
    · have := pieces_count c n (l.drop ((Lib.indexByte l c).toNat + 1))
      simp
      omega
theorem mapM_len : ∀ {l : List (List UInt8)} {ns : List Int}, l.mapM partOf = some ns → ns.length = l.length
  | [], ns, h => by simp at h; simp [h]
  | x :: l, ns, h => by
    simp only [List.mapM_cons, Option.bind_eq_bind, Option.bind_eq_some_iff, Option.pure_def, Option.some.injEq] at h
    obtain ⟨a, _, b, hb, rfl⟩ := h
    simp [mapM_len hb]
theorem mapM_snoc {pre : List (List UInt8)} {ns : List Int} (x : List UInt8) (h : pre.mapM partOf = some ns) : (pre ++ [x]).mapM partOf = (partOf x).map (fun a => ns ++ [a]) := by
  rw [List.mapM_append, h]
  simp only [List.mapM_cons, List.mapM_nil, Option.bind_eq_bind, Option.pure_def, Option.bind_some]
  cases partOf x <;> rfl
theorem gOf {W W' : World} (hb : Below W.heap.size W W') : W.grownBy W' none := ⟨hb.os, hb.tape, hb.output, hb.size, fun k hk _ => hb.block k hk⟩
theorem owns_base {W : World} {b b' : Nat} {e : TypeId} {size k : Nat} {v : Value} {xs : List Value} (h : W.ownsRow b e size v k xs) (hb : b' ≤ b) : W.ownsRow b' e size v k xs := by
  refine ⟨h.1, ?_⟩
  rcases h.2 with ⟨rfl, h0⟩ | ⟨g, cap, cur, rfl, h1, h2⟩
  · exact .inl ⟨rfl, h0⟩
  · exact .inr ⟨g, cap, cur, rfl, by omega, h2⟩
theorem owns_far {W : World} {b : Nat} {e : TypeId} {size k : Nat} {v : Value} {xs : List Value} (h : W.ownsRow b e size v k xs) {j : Nat} (hj : j < b) : some j ≠ v.ownBlock := by
  rcases h.2 with ⟨rfl, h0⟩ | ⟨g, cap, cur, rfl, h1, h2⟩
  · simp [Value.ownBlock]
  · simp [Value.ownBlock]; omega
theorem bsOf_inj {a b : List UInt8} (h : bsOf a = bsOf b) : a = b := by
  have := congrArg bl h
  exact this
theorem atoi_ok_in (n : Nat) (s : ByteArray) (hlim : s.size ≤ 1000000) (v : Int) (h : Lib.atoiAll (bl s) = .ok v) (w : World) :
    CallsIn Fence.wide n Tryz.prog 66 #[.string s] w fun e w' => e = .returned (.tuple #[.int .i64 v, .nilIface]) ∧ Below w.heap.size w w' := by
  refine callsIn_wide.2 ((strconv_Atoi_ok s (by omega) v h w).mono ?_)
  rintro e w' ⟨rfl, hw⟩
  refine ⟨rfl, ?_⟩
  rcases hw with rfl | ⟨t, rfl⟩
  · exact Below.refl _ _
  · exact Lib.bytesWorld_below _ _ _
theorem atoi_bad_in (n : Nat) (s : ByteArray) (hlim : s.size ≤ 1000000) (h : ∀ v, Lib.atoiAll (bl s) ≠ .ok v) (w : World) (hv : ∀ g, g ∈ ([0, 1] : List Nat) → ∃ t p, w.cell? ⟨g, 0, none⟩ = some (.iface t p)) :
    CallsIn Fence.wide n Tryz.prog 66 #[.string s] w fun e w' => ∃ v t p, e = .returned (.tuple #[.int .i64 v, .iface t p]) ∧ Below w.heap.size w w' := by
  obtain ⟨t1, p1, e1⟩ := hv 0 (by simp)
  obtain ⟨t2, p2, e2⟩ := hv 1 (by simp)
  refine callsIn_wide.2 ?_
  rcases hh : Lib.atoiAll (bl s) with v | _ | _
  · exact absurd hh (h v)
  · refine (Any.strconv_Atoi_syntax laysC172 s (by omega) hh _ w e1 (.inr ⟨_, _, rfl⟩)).mono ?_
    rintro e w' ⟨N, rfl, _, _, hb⟩
    exact ⟨_, _, _, rfl, hb⟩
  · refine (Any.strconv_Atoi_range laysC172 s (by omega) hh _ w e2 (.inr ⟨_, _, rfl⟩)).mono ?_
    rintro e w' ⟨N, rfl, _, _, hb⟩
    exact ⟨_, _, _, rfl, hb⟩
theorem itoa_in (n : Nat) (i : Nat) (hi : i < 100) (w : World) : CallsIn Fence.wide n Tryz.prog 67 #[.int .i64 i] w fun e w' => e = .returned (.string (bsOf (Lib.decDigits i))) ∧ w' = w := callsIn_wide.2 (strconv_Itoa_small i hi w)

set_option maxHeartbeats 1000000 in
theorem splitSeqI_in (n : Nat) (s : ByteArray) (w : World) :
    CallsIn Fence.wide n Tryz.prog 116 #[.string s, .string dot, .int .i64 0] w fun e w' => e = .returned (.func (.func 155) #[] #[.pointer (some ⟨w.heap.size + 1, 0, none⟩), .pointer (some ⟨w.heap.size, 0, none⟩), .pointer (some ⟨w.heap.size + 2, 0, none⟩)]) ∧
      w' = ((w.alloc (.cells #[.string s] 9)).alloc (.cells #[.string dot] 9)).alloc (.cells #[.int .i64 0] 3) := by
  refine callsIn_of_wp Tryz.func116 rfl trivial ?_ rfl
  simp only [Tryz.ntmps116, List.size_toArray, List.length_cons, List.length_nil, Nat.reduceAdd, Nat.reduceSub, Array.replicate_succ, Array.replicate_zero, List.push_toArray, List.append_toArray, List.nil_append, List.cons_append]
  gi_wp2
  go_ret
  exact ⟨rfl, rfl⟩
set_option maxHeartbeats 1000000 in
theorem splitSeq_in (n : Nat) (s : ByteArray) (w : World) :
    CallsIn Fence.wide n Tryz.prog 65 #[.string s, .string dot] w fun e w' => e = .returned (.func (.func 155) #[] #[.pointer (some ⟨w.heap.size + 1, 0, none⟩), .pointer (some ⟨w.heap.size, 0, none⟩), .pointer (some ⟨w.heap.size + 2, 0, none⟩)]) ∧
      w' = ((w.alloc (.cells #[.string s] 9)).alloc (.cells #[.string dot] 9)).alloc (.cells #[.int .i64 0] 3) := by
  refine callsIn_of_wp Tryz.func65 rfl trivial ?_ rfl
  simp only [Tryz.ntmps65, List.size_toArray, List.length_cons, List.length_nil, Nat.reduceAdd, Nat.reduceSub, Array.replicate_succ, Array.replicate_zero, List.push_toArray, List.append_toArray, List.nil_append, List.cons_append]
  gi_wp2_with (refine ⟨trivial, fun h => (by cases h), ?_⟩; gi_at_call 116; refine (splitSeqI_in _ s _).mono ?_; rintro e w' ⟨rfl, rfl⟩)
  go_ret
  exact ⟨rfl, rfl⟩

theorem info_int : (Tryz.prog.info? 3).map (fun i => (i.zero, i.size, i.bytes)) = some (some (.int .i64 0), 1, 8) := by kernel_rfl

theorem res_cell {tmps : Array Value} {b : Nat} {W : World} {v : Value} (ht : tmps[2]?.getD undef = .pointer (some ⟨b, 0, none⟩)) (h : Boxed W b 22 v) : (results Tryz.f40 tmps).run Tryz.prog W = .ok v W := by
  simp [results, Tryz.f40, Sem.run_bind, ht, asAddr, loadVar, Tryz.isAgg22, h.cell, Result.andThen]
theorem parts_end {tmps : Array Value} {w W : World} {D : Nat} {v : Value} {s : ByteArray} (ht : tmps[2]?.getD undef = .pointer (some ⟨w.heap.size, 0, none⟩)) (h : Boxed W w.heap.size 22 v) (h6 : Below w.heap.size w W) (hd : W.heap[D]? = some (.deferred (some []))) (hD : w.heap.size < D)
    (ho : W.ownsRow w.heap.size 3 1 v (partsD s).length ((partsD s).map (Value.int .i64))) (hn : v = .slice none 0 0 ↔ partsD s = []) :
    bodyPostM Fence.wide 11 Tryz.prog Tryz.f40 (fun e W' => ∃ v, e = .returned v ∧ W'.ownsRow w.heap.size 3 1 v (partsD s).length ((partsD s).map (Value.int .i64)) ∧ (v = .slice none 0 0 ↔ partsD s = []) ∧ Below w.heap.size w W')
      .ret { tmps := tmps, defers := [{ target := .collected D, args := #[] }] } W := by
  refine ⟨by simp, .inl ⟨_, _, rfl, run_takeDeferred hd, ?_⟩⟩
  exact ⟨v, res_cell ht (h.kept (grownBy_putObj' _ _ _) (by simp; omega)), v, rfl, ownsRow_putObj ho _ hd rfl, hn, h6.grown (grownBy_putObj' _ _ _) (by have := h.lt; omega) (fun k e => by cases e; omega)⟩
set_option maxRecDepth 100000 in
set_option maxHeartbeats 4000000 in
theorem parts_in (s : ByteArray) (hlim : s.size ≤ 1000000) (w : World) (hv : ∀ g, g ∈ ([0, 1] : List Nat) → g < w.heap.size ∧ ∃ t p, w.cell? ⟨g, 0, none⟩ = some (.iface t p)) :
    CallsIn Fence.wide 11 Tryz.prog 40 #[.string s] w fun e W' => ∃ v, e = .returned v ∧ W'.ownsRow w.heap.size 3 1 v (partsD s).length ((partsD s).map (Value.int .i64)) ∧ (v = .slice none 0 0 ↔ partsD s = []) ∧ Below w.heap.size w W' := by
  obtain ⟨i0, hi, hz0, hz1, hz2⟩ := info_parts info_int
  refine callsIn_of_wp_marks Tryz.func40 rfl trivial ?_ rfl
  simp only [Tryz.ntmps40, List.size_toArray, List.length_cons, List.length_nil, Nat.reduceAdd, Nat.reduceSub, Array.replicate_succ, Array.replicate_zero, List.push_toArray, List.append_toArray, List.nil_append, List.cons_append]
  gi_wp2_with (refine ⟨trivial, ?_⟩; gi_at_call 65; refine (splitSeq_in _ s _).mono ?_; rintro e w' ⟨rfl, rfl⟩)
  obtain ⟨n0, hn0⟩ : ∃ n0, n0 = w.heap.size := ⟨_, rfl⟩
  obtain ⟨W0, hW0⟩ : ∃ W0, (((((w.alloc (Obj.cells #[Value.slice none 0 0] 22)).alloc (Obj.cells #[Value.slice none 0 0] 22)).alloc (Obj.cells #[Value.string s] 9)).alloc (Obj.cells #[Value.string dot] 9)).alloc (Obj.cells #[Value.int IntKind.i64 0] 3)) = W0 := ⟨_, rfl⟩
  have bR : Boxed W0 n0 22 (.slice none 0 0) := by
    rw [← hW0, hn0]
    exact ((((Boxed.new w _ _).alloc _).alloc _).alloc _).alloc _
  have bO : Boxed W0 (n0 + 1) 22 (.slice none 0 0) := by
    rw [← hW0, hn0]
    have := Boxed.new (w.alloc (Obj.cells #[Value.slice none 0 0] 22)) 22 (.slice none 0 0)
    rw [World.size_alloc] at this
    exact (((this).alloc _).alloc _).alloc _
  have b2 : Boxed W0 (n0 + 2) 9 (.string s) := by
    rw [← hW0, hn0]
    have := Boxed.new ((w.alloc (Obj.cells #[Value.slice none 0 0] 22)).alloc (Obj.cells #[Value.slice none 0 0] 22)) 9 (.string s)
    rw [World.size_alloc, World.size_alloc] at this
    exact ((this).alloc _).alloc _
  have b1 : Boxed W0 (n0 + 3) 9 (.string dot) := by
    rw [← hW0, hn0]
    have := Boxed.new (((w.alloc (Obj.cells #[Value.slice none 0 0] 22)).alloc (Obj.cells #[Value.slice none 0 0] 22)).alloc (Obj.cells #[Value.string s] 9)) 9 (.string dot)
    rw [World.size_alloc, World.size_alloc, World.size_alloc] at this
    exact this.alloc _
  have b3 : Boxed W0 (n0 + 4) 3 (.int .i64 0) := by
    rw [← hW0, hn0]
    have := Boxed.new ((((w.alloc (Obj.cells #[Value.slice none 0 0] 22)).alloc (Obj.cells #[Value.slice none 0 0] 22)).alloc (Obj.cells #[Value.string s] 9)).alloc (Obj.cells #[Value.string dot] 9)) 3 (.int .i64 0)
    rwa [World.size_alloc, World.size_alloc, World.size_alloc, World.size_alloc] at this
  have sz0 : W0.heap.size = n0 + 5 := by rw [← hW0, hn0]; simp [World.size_alloc]
  have hB0 : Below n0 w W0 := by
    rw [← hW0]
    exact (((((Below.refl n0 w).alloc (by omega) _).alloc (by simp; omega) _).alloc (by simp; omega) _).alloc (by simp; omega) _).alloc (by simp; omega) _
  rw [hW0]
  clear hW0
  subst hn0
  refine wp_split (B1 := w.heap.size + 3) (B2 := w.heap.size + 2) (B3 := w.heap.size + 4) s rfl hlim b1 b2 b3 (by omega) (by omega)
    (fun pre W => ∃ v ns, pre.mapM partOf = some ns ∧ Boxed W w.heap.size 22 (.slice none 0 0) ∧ Boxed W (w.heap.size + 1) 22 v ∧ W.ownsRow (w.heap.size + 5) 3 1 v ns.length (ns.map (Value.int .i64)) ∧ (v = .slice none 0 0 ↔ ns = []) ∧ Below w.heap.size w W)
    (fun pre W => pre.mapM partOf = none ∧ pre <+: piecesF 46 s.size (bl s) ∧ Boxed W w.heap.size 22 (.slice none 0 0) ∧ Below w.heap.size w W)
    ?hI ⟨_, [], rfl, bR, bO, World.ownsRow_nil _ _ _ _, by simp, hB0⟩ ?body ?done ?stop
  case hI =>
    rintro pre W W' b _ hg hb
    have h1 : some w.heap.size ≠ some b ∧ some (w.heap.size + 1) ≠ some b ∧ w.heap.size ≤ b := by
      rcases hb with ⟨rfl, _⟩ | ⟨h, _⟩
      · simp
      · simp; omega
    refine ⟨?_, ?_⟩
    · rintro ⟨v, ns, e1, e2, e3, e4, e5, e6⟩
      refine ⟨v, ns, e1, e2.kept hg h1.1, e3.kept hg h1.2.1, e4.kept hg ?_, e5, e6.grown hg (by have := e2.lt; omega) (fun k e => by cases e; exact h1.2.2)⟩
      rcases hb with ⟨rfl, s', hs'⟩ | ⟨_, h⟩
      · exact .inr (hs'.not_row (by decide) e4).symm
      · rcases e4.2 with ⟨rfl, _⟩ | ⟨g, cap, cur, rfl, _, hgb, _⟩
        · exact .inl rfl
        · refine .inr fun e' => ?_
          obtain rfl : g = b := by simpa [Value.ownBlock] using e'
          have := h _ hgb
          cases this
    · rintro ⟨e1, e2, e3, e4⟩
      exact ⟨e1, e2, e3.kept hg h1.1, e4.grown hg (by have := e3.lt; omega) (fun k e => by cases e; exact h1.2.2)⟩
  case body =>
    intro l pre x W hW hpre
    gi_wp2
    refine ⟨trivial, ?_⟩
    clear hW W
    rintro W ⟨v, ns, e1, e2, e3, e4, e5, e6⟩ hsz
    have c2 := e2.cell
    have f2 := e2.frozen
    have c3 := e3.cell
    have f3 := e3.frozen
    have hlx : (bsOf x).size ≤ 1000000 := by
      have := pieces_len 46 s.size (bl s) x (hpre.subset (by simp))
      have e : (bsOf x).size = x.length := rfl
      have e2 : s.size = (bl s).length := rfl
      omega
    have hcnt := pieces_count 46 s.size (bl s)
    have hpl := hpre.length_le
    rw [List.length_append, List.length_singleton] at hpl
    have hns := Nat.le_of_eq (mapM_len e1)
    have bad : partOf x = none → (Code.ret).wpIn (Fence.wide.inRound l) 9 Tryz.prog (fun e a3 W3 => True) { tmps := #[], defers := [] } W → True := fun _ _ => trivial
    clear bad
    by_cases hok : ∃ m, Lib.atoiAll x = .ok m
    · obtain ⟨m, hm⟩ := hok
      by_cases hm1 : 1 ≤ m ∧ m ≤ 99
      · obtain ⟨i, rfl⟩ : ∃ i : Nat, m = i := ⟨m.toNat, by omega⟩
        by_cases hd : Lib.decDigits i = x
        · have hp : partOf x = some (i : Int) := by simp [partOf, hm, hm1, hd]
          gi_wp2_with (first | (refine ⟨trivial, ?_⟩; first | (gi_at_call 66; refine (CallsIn.inRound l (atoi_ok_in _ _ hlx _ hm _)).mono ?_; rintro e W2 ⟨rfl, hb⟩; have g := gOf hb; have gs := g.size; have k0 := KeepsOthers.of_grownBy g (fun j o e => (by cases e)); have e6 := e6.grown g (by have := e2.lt; omega) (fun k e => (by cases e)); have e2 := e2.kept g (by simp); have e3 := e3.kept g (by simp); have e4 := e4.kept g (Classical.em _); have c2 := e2.cell; have f2 := e2.frozen; have c3 := e3.cell; have f3 := e3.frozen) | (gi_at_call 67; refine (CallsIn.inRound l (itoa_in _ i (by omega) _)).mono ?_; rintro e W3 ⟨rfl, rfl⟩)) | (gi_at_builtin; refine wpListIn_append_own _ rfl _ _ 22 rfl (w.heap.size + 5) 3 i0 (.int .i64 0) 1 8 Tryz.underlying22 hi hz0 hz1 hz2 rfl (by decide) _ _ _ rfl (e4.alloc _) ⟨W3.heap.size, 0, none⟩ 1 1 [.int .i64 i] rfl rfl (cell_one_new _ _ _) (by simp [Value.oneCell']) (by unfold maxLen; omega) (by omega) (by simp; omega) ?_; intro v' w1 hown' hgrow _; obtain ⟨g', cap', rfl⟩ := ownsRow_succ hown'; obtain ⟨hv1, hv2, hr2, hk2, hb2⟩ := e3.appended (n₀ := w.heap.size) (by decide) (owns_base e4 (by omega)) e6.size (by omega) (owns_base hown' (by omega)) hgrow; have hc1 := hv1.cell; have hf1 := hv1.frozen))
          have z1 := hgrow.size
          rw [World.size_alloc] at z1
          refine ⟨k0.trans hk2, fun b hb5 hb3 => ?_, ((e2.alloc _).kept hgrow (owns_far e4 (by omega))).kept (grownBy_setCell' _ _ _) (by simp), _, hv2, hown'.kept (grownBy_setCell' _ _ _) (.inr (hv1.not_row (by decide) hown').symm), by simp, e6.trans hb2⟩
          exact ((grownBy_setCell' _ _ _).block b (by omega) (by simp; omega)).trans ((hgrow.block b (by rw [World.size_alloc]; omega) (owns_far e4 (by omega))).trans ((Below.heap_alloc _ _ _ (by omega)).trans (g.block b (by omega) (by simp))))
        · have hp : partOf x = none := by simp [partOf, hm, hm1, hd]
          have d1 : decide ((i : Int) < 1) = false := decide_eq_false (by omega)
          have d2 : decide ((99 : Int) < i) = false := decide_eq_false (by omega)
          have hne : ((bsOf (Lib.decDigits i)).toList == (bsOf x).toList) = false := by
            rw [beq_eq_false_iff_ne, ByteArray.toList_eq, ByteArray.toList_eq]
            exact hd
          gi_wp2_with (refine ⟨trivial, ?_⟩; first | (gi_at_call 66; refine (CallsIn.inRound l (atoi_ok_in _ _ hlx _ hm _)).mono ?_; rintro e W2 ⟨rfl, hb⟩; have g := gOf hb; have gs := g.size; have k0 := KeepsOthers.of_grownBy g (fun j o e => (by cases e)); have e6 := e6.grown g (by have := e2.lt; omega) (fun k e => (by cases e)); have e2 := e2.kept g (by simp); have e3 := e3.kept g (by simp); have e4 := e4.kept g (Classical.em _); have c2 := e2.cell; have f2 := e2.frozen; have c3 := e3.cell; have f3 := e3.frozen) | (gi_at_call 67; refine (CallsIn.inRound l (itoa_in _ i (by omega) _)).mono ?_; rintro e W3 ⟨rfl, rfl⟩))
          exact ⟨k0.trans (KeepsOthers.setCell _ _ _), e2.set _, e6.setCell (p := ⟨w.heap.size, 0, none⟩) (Nat.le_refl _) _⟩
      · have hp : partOf x = none := by simp [partOf, hm]; intro h1 h2; exact absurd ⟨h1, h2⟩ hm1
        by_cases hlow : m < 1
        · have d1 : decide (m < 1) = true := decide_eq_true hlow
          gi_wp2_with (refine ⟨trivial, ?_⟩; gi_at_call 66; refine (CallsIn.inRound l (atoi_ok_in _ _ hlx _ hm _)).mono ?_; rintro e W2 ⟨rfl, hb⟩; have g := gOf hb; have gs := g.size; have k0 := KeepsOthers.of_grownBy g (fun j o e => (by cases e)); have e6 := e6.grown g (by have := e2.lt; omega) (fun k e => (by cases e)); have e2 := e2.kept g (by simp); have e3 := e3.kept g (by simp); have e4 := e4.kept g (Classical.em _); have c2 := e2.cell; have f2 := e2.frozen; have c3 := e3.cell; have f3 := e3.frozen)
          refine ⟨trivial, ?_⟩
          gi_wp2
          exact ⟨k0.trans (KeepsOthers.setCell _ _ _), e2.set _, e6.setCell (p := ⟨w.heap.size, 0, none⟩) (Nat.le_refl _) _⟩
        · have d1 : decide (m < 1) = false := decide_eq_false hlow
          have d2 : decide ((99 : Int) < m) = true := decide_eq_true (by omega)
          gi_wp2_with (refine ⟨trivial, ?_⟩; gi_at_call 66; refine (CallsIn.inRound l (atoi_ok_in _ _ hlx _ hm _)).mono ?_; rintro e W2 ⟨rfl, hb⟩; have g := gOf hb; have gs := g.size; have k0 := KeepsOthers.of_grownBy g (fun j o e => (by cases e)); have e6 := e6.grown g (by have := e2.lt; omega) (fun k e => (by cases e)); have e2 := e2.kept g (by simp); have e3 := e3.kept g (by simp); have e4 := e4.kept g (Classical.em _); have c2 := e2.cell; have f2 := e2.frozen; have c3 := e3.cell; have f3 := e3.frozen)
          refine ⟨trivial, ?_⟩
          gi_wp2
          exact ⟨k0.trans (KeepsOthers.setCell _ _ _), e2.set _, e6.setCell (p := ⟨w.heap.size, 0, none⟩) (Nat.le_refl _) _⟩
    · have hbad : ∀ v, Lib.atoiAll (bl (bsOf x)) ≠ .ok v := fun v h => hok ⟨v, h⟩
      have hp : partOf x = none := by
        unfold partOf
        split
        · rename_i n h; exact absurd ⟨n, h⟩ hok
        · rfl
      have hv' : ∀ g, g ∈ ([0, 1] : List Nat) → ∃ t p, W.cell? ⟨g, 0, none⟩ = some (.iface t p) := fun g hg => by
        obtain ⟨h1, t, p, h2⟩ := hv g hg
        exact ⟨t, p, (e6.cell (p := ⟨g, 0, none⟩) h1).trans h2⟩
      gi_wp2_with (refine ⟨trivial, ?_⟩; gi_at_call 66; refine (CallsIn.inRound l (atoi_bad_in _ _ hlx hbad _ hv')).mono ?_; rintro e W2 ⟨vv, tt, pp, rfl, hb⟩; have g := gOf hb; have gs := g.size; have k0 := KeepsOthers.of_grownBy g (fun j o e => (by cases e)); have e6 := e6.grown g (by have := e2.lt; omega) (fun k e => (by cases e)); have e2 := e2.kept g (by simp); have e3 := e3.kept g (by simp); have e4 := e4.kept g (Classical.em _); have c2 := e2.cell; have f2 := e2.frozen; have c3 := e3.cell; have f3 := e3.frozen)
      refine ⟨trivial, ?_⟩
      gi_wp2
      exact ⟨k0.trans (KeepsOthers.setCell _ _ _), e2.set _, e6.setCell (p := ⟨w.heap.size, 0, none⟩) (Nat.le_refl _) _⟩
  case done =>
    rintro D W hD ⟨v, ns, e1, e2, e3, e4, e5, e6⟩ hd
    have c2 := e2.cell
    have f2 := e2.frozen
    have c3 := e3.cell
    have f3 := e3.frozen
    obtain ⟨A, c, rfl⟩ : ∃ A c, v = .slice A ns.length c := by
      rcases e4.2 with ⟨rfl, h0⟩ | ⟨g, cap, cur, rfl, _⟩
      · exact ⟨none, 0, by rw [h0]⟩
      · exact ⟨_, _, rfl⟩
    by_cases h4 : ns.length ≤ 4
    · have hp : partsD s = ns := by rw [partsD, e1]; simp [h4]
      have d4 : decide ((4 : Int) < (ns.length : Int)) = false := decide_eq_false (by omega)
      gi_wp2
      refine parts_end rfl (e2.set _) (e6.setCell (p := ⟨w.heap.size, 0, none⟩) (Nat.le_refl _) _) ?_ (by omega) ?_ (by rw [hp]; exact e5)
      · exact ((grownBy_setCell' _ _ _).block D (Array.getElem?_eq_some_iff.1 hd).1 (by simp; omega)).trans hd
      · rw [hp]
        exact owns_base (e4.kept (grownBy_setCell' _ _ _) (.inr (e2.not_row (by decide) e4).symm)) (by omega)
    · have hp : partsD s = [] := by rw [partsD, e1]; simp [h4]
      have d4 : decide ((4 : Int) < (ns.length : Int)) = true := decide_eq_true (by omega)
      gi_wp2
      refine parts_end rfl (e2.set _) (e6.setCell (p := ⟨w.heap.size, 0, none⟩) (Nat.le_refl _) _) ?_ (by omega) ?_ (by rw [hp]; simp)
      · exact ((grownBy_setCell' _ _ _).block D (Array.getElem?_eq_some_iff.1 hd).1 (by simp; omega)).trans hd
      · rw [hp]
        exact World.ownsRow_nil _ _ _ _
  case stop =>
    rintro D pre W hD ⟨e1, e2, e3, e4⟩ hd
    have hp : partsD s = [] := by
      obtain ⟨t, ht⟩ := e2
      rw [partsD, ← ht, List.mapM_append, e1]
      rfl
    gi_wp2
    refine parts_end rfl e3 e4 hd (by omega) ?_ (by rw [hp]; simp)
    rw [hp]
    exact World.ownsRow_nil _ _ _ _
end Go.Proofs.YtmkhcmiplleghaaGreatDoor
