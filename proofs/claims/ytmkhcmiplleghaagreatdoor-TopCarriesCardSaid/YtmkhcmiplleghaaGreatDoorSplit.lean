/- Codes: the library's iterator over the parts of a text. -/
import Derived.RangeFuncBox
import Derived.RangeFuncLeaves
import Derived.Shelf.Abstract
import Derived.WalkKit
import Derived.OwnWalkIn
import Derived.TacticsInMore
import Derived.LoopNIn
import Derived.LoopIn
import Derived.Maps.AppendAt
import Derived.Lib.PathFns
import Derived.Lib.IndexLaws
import Derived.Test.YtmkhcmiplleghaaGreatDoorShelf
import Derived.Test.YtmkhcmiplleghaaGreatDoorTypes
set_option linter.unusedSimpArgs false
set_option linter.unusedVariables false
namespace Go.Proofs.YtmkhcmiplleghaaGreatDoor
open Go.RowKit Go.Shelf
attribute [local go_sem] Oper.semAt_some

/-- The parts of a text between the bytes c. -/
def piecesF (c : UInt8) : Nat → List UInt8 → List (List UInt8)
  | 0, l => [l]
  | n + 1, l => if Lib.indexByte l c < 0 then [l] else l.take (Lib.indexByte l c).toNat :: piecesF c n (l.drop ((Lib.indexByte l c).toNat + 1))
def dot : ByteArray := ⟨#[46]⟩
def bl (s : ByteArray) : List UInt8 := s.data.toList
def bsOf (l : List UInt8) : ByteArray := ⟨l.toArray⟩
def boxLen (W : World) (b : Nat) : Nat := match W.cell? ⟨b, 0, none⟩ with | some (.string s) => s.size | _ => 0

theorem bsOf_bl (s : ByteArray) : bsOf (bl s) = s := rfl
theorem cut_head (s : ByteArray) (k : Nat) : bsOf ((bl s).take k) = s.extract 0 k := (Lib.Pa.extract_upto s k).symm
theorem cut_tail (s : ByteArray) (k : Nat) : bl (s.extract k s.size) = (bl s).drop k := by rw [Lib.Pa.extract_from]; rfl
theorem size_tail (s : ByteArray) (k : Nat) : (s.extract k s.size).size = s.size - k := by
  have := congrArg List.length (cut_tail s k)
  rw [List.length_drop] at this
  exact this
theorem piecesF_last {c : UInt8} {n : Nat} {l : List UInt8} (h : Lib.indexByte l c < 0) : piecesF c n l = [l] := by cases n <;> simp [piecesF, h]
theorem boxLen_of {W : World} {b : Nat} {s : ByteArray} (h : Boxed W b 9 (.string s)) : boxLen W b = s.size := by rw [boxLen, h.cell]

theorem index_dot (s : ByteArray) (w : World) : CallsIn Fence.wide 9 Tryz.prog 157 #[.string s, .string dot] w fun e w' => e = .returned (.int .i64 (Lib.indexByte (bl s) 46)) ∧ w' = w := callsIn_wide.2 (strings_Index_one s 46 w)

set_option maxRecDepth 100000 in
set_option maxHeartbeats 1000000 in
theorem split1_in (l B1 B2 B3 : Nat) (s0 : ByteArray) (J Jx : List (List UInt8) → World → Prop)
    (hJ : ∀ pre W (s s' : ByteArray), J pre W → Boxed W B2 9 (.string s) → J pre (W.setCell ⟨B2, 0, none⟩ (.string s')))
    (hY : ∀ pre x W, J pre W → pre ++ [x] <+: piecesF 46 s0.size (bl s0) → YieldAt Fence.wide 9 Tryz.prog l #[.string (bsOf x)] W fun e W' =>
      (e = .returned (.bool true) ∧ J (pre ++ [x]) W' ∧ (∀ b, b = B1 ∨ b = B2 ∨ b = B3 → W'.heap[b]? = W.heap[b]?)) ∨ (e = .returned (.bool false) ∧ Jx (pre ++ [x]) W'))
    (W : World) (hlim : s0.size ≤ 1000000) (h1 : Boxed W B1 9 (.string dot)) (h2 : Boxed W B2 9 (.string s0)) (h3 : Boxed W B3 3 (.int .i64 0)) (d12 : B1 ≠ B2) (d32 : B3 ≠ B2) (h0 : J [] W) :
    CallsIn Fence.wide 10 Tryz.prog 155 #[.func (.yield l) #[] #[], .pointer (some ⟨B1, 0, none⟩), .pointer (some ⟨B2, 0, none⟩), .pointer (some ⟨B3, 0, none⟩)] W fun e W' => (∃ v, e = .returned v) ∧
      ((∃ ys, ys = piecesF 46 s0.size (bl s0) ∧ J ys W') ∨ (∃ pre, Jx pre W')) := by
  have hlen : s0.size = (bl s0).length := rfl
  refine callsIn_of_wp Tryz.func155 rfl trivial ?_ rfl
  simp only [Tryz.ntmps155, List.size_toArray, List.length_cons, List.length_nil, Nat.reduceAdd, Nat.reduceSub, Array.replicate_succ, Array.replicate_zero, List.push_toArray, List.append_toArray, List.nil_append, List.cons_append]
  have c1 := h1.cell
  have c2 := h2.cell
  have c3 := h3.cell
  gi_wp2
  gi_loopw [] (fun wr => ∃ (pre : List (List UInt8)) (rest : ByteArray) (n : Nat), piecesF 46 s0.size (bl s0) = pre ++ piecesF 46 n (bl rest) ∧ rest.size ≤ n ∧ rest.size ≤ 1000000 ∧ J pre wr ∧ Boxed wr B1 9 (.string dot) ∧ Boxed wr B2 9 (.string rest) ∧ Boxed wr B3 3 (.int .i64 0))
    (fun wr => boxLen wr B2)
  case atStart =>
    exact ⟨[], s0, s0.size, rfl, Nat.le_refl _, hlim, h0, h1, h2, h3⟩
  case round =>
    obtain ⟨pre, rest, n, hp, hn, hr, hj, b1, b2, b3⟩ := hrel
    clear c1 c2 c3
    have c1 := b1.cell
    have c2 := b2.cell
    have c3 := b3.cell
    have f2 := b2.frozen
    by_cases hneg : Lib.indexByte (bl rest) 46 < 0
    · obtain ⟨fn, tmps, assign, body, hy, hR⟩ := hY pre (bl rest) wr hj (by rw [hp, piecesF_last hneg]; exact List.prefix_rfl)
      rw [piecesF_last hneg] at hp
      rw [bsOf_bl] at hy
      gi_wp2_with (refine ⟨trivial, ?_⟩; gi_at_call 157; refine (index_dot rest _).mono ?_; rintro e w' ⟨rfl, rfl⟩)
      refine hR.mono ?_
      rintro e W3 (⟨rfl, hJ3, hk3⟩ | ⟨rfl, hJx3⟩)
      · gi_wp2
        go_end0
        exact ⟨⟨_, rfl⟩, .inl ⟨_, hp.symm, hJ3⟩⟩
      · gi_wp2
        go_end0
        exact ⟨⟨_, rfl⟩, .inr ⟨_, hJx3⟩⟩
    · obtain ⟨k, hk⟩ : ∃ k : Nat, Lib.indexByte (bl rest) 46 = k := ⟨(Lib.indexByte (bl rest) 46).toNat, by omega⟩
      rw [hk] at hneg
      have hkl : k < rest.size := by
        have := (Lib.indexByte_some hk).1
        exact (List.getElem?_eq_some_iff.1 this).1
      have w1 : wrap64 (k : Int) = k := by unfold wrap64; omega
      have w2 : wrap64 ((k : Int) + (dot.size : Nat)) = ((k + 1 : Nat) : Int) := by rw [show dot.size = 1 from rfl]; unfold wrap64; omega
      have hk1 : ((k + 1 : Nat) : Int) ≤ rest.size := by omega
      have hk0 : (0 : Int) ≤ ((k + 1 : Nat) : Int) := by omega
      have tn : (((k + 1 : Nat) : Int)).toNat = k + 1 := rfl
      obtain ⟨q, hq⟩ : ∃ q : Nat, k + 1 = q := ⟨_, rfl⟩
      rw [hq] at w2 hk1 hk0 tn
      obtain ⟨fn, tmps, assign, body, hy, hR⟩ := hY pre ((bl rest).take k) wr hj (by obtain ⟨n', rfl⟩ : ∃ n', n = n' + 1 := ⟨n - 1, by omega⟩; rw [hp]; simp [piecesF, hk, hneg])
      rw [cut_head] at hy
      gi_wp2_with (refine ⟨trivial, ?_⟩; gi_at_call 157; refine (index_dot rest _).mono ?_; rintro e w' ⟨rfl, rfl⟩; rw [hk])
      refine hR.mono ?_
      have b2 := b2
      rintro e W3 (⟨rfl, hJ3, hk3⟩ | ⟨rfl, hJx3⟩)
      · have b1' : Boxed W3 B1 9 (.string dot) := (hk3 B1 (.inl rfl)).trans b1
        have b2' : Boxed W3 B2 9 (.string rest) := (hk3 B2 (.inr (.inl rfl))).trans b2
        have b3' : Boxed W3 B3 3 (.int .i64 0) := (hk3 B3 (.inr (.inr rfl))).trans b3
        have c1 := b1'.cell
        have c2 := b2'.cell
        have f2 := b2'.frozen
        gi_wp2
        refine ⟨⟨_, _, _, _, _, _, _, _, _, _, _, _, _, _, _, _, _, _, _, _, _, _, ⟨pre ++ [(bl rest).take k], rest.extract q rest.size, n - 1, ?_, ?_, ?_, hJ _ _ _ _ hJ3 b2', b1'.kept (grownBy_setCell' _ _ _) (by simpa using d12), b2'.set _, b3'.kept (grownBy_setCell' _ _ _) (by simpa using d32)⟩, rfl⟩, ?_⟩
        · obtain ⟨n', rfl⟩ : ∃ n', n = n' + 1 := ⟨n - 1, by omega⟩
          rw [hp, cut_tail, ← hq]
          simp [piecesF, hk]
          omega
        · rw [size_tail]; omega
        · rw [size_tail]; omega
        · rw [boxLen_of b2, boxLen_of (b2'.set _), size_tail]
          omega
      · gi_wp2
        refine bodyPost_ret (results_none rfl _ _ _) rfl ?_
        exact ⟨⟨_, rfl⟩, .inr ⟨_, hJx3⟩⟩

/-- The loop over the parts: the caller's invariant, and one round of the body. -/
theorem wp_split {g : Operand} {p : Tmp} {assign body : Code} {Q : Exit → Act → World → Prop} {a : Act} {w : World} {B1 B2 B3 : Nat} (s0 : ByteArray)
    (hg : a.eval g = .func (.func 155) #[] #[.pointer (some ⟨B1, 0, none⟩), .pointer (some ⟨B2, 0, none⟩), .pointer (some ⟨B3, 0, none⟩)])
    (hlim : s0.size ≤ 1000000) (h1 : Boxed w B1 9 (.string dot)) (h2 : Boxed w B2 9 (.string s0)) (h3 : Boxed w B3 3 (.int .i64 0)) (d12 : B1 ≠ B2) (d32 : B3 ≠ B2)
    (I Ix : List (List UInt8) → World → Prop)
    (hI : ∀ pre W W' b, I pre W ∨ Ix pre W → W.grownBy W' (some b) → ((b = B2 ∧ ∃ s, Boxed W B2 9 (.string s)) ∨ (w.heap.size ≤ b ∧ ∀ o, W.heap[b]? = some o → o.isCells = false)) → (I pre W → I pre W') ∧ (Ix pre W → Ix pre W'))
    (h0 : I [] w)
    (hbody : ∀ l pre x W, I pre W → pre ++ [x] <+: piecesF 46 s0.size (bl s0) → assign.wpIn (Fence.wide.inRound l) 9 Tryz.prog (Exit.then (fun a₁ w₁ => w₁ = W ∧ ∀ W1, I pre W1 → w.heap.size ≤ W1.heap.size →
      body.wpIn (Fence.wide.inRound l) 9 Tryz.prog (fun e a3 W3 => match e with
        | .normal => KeepsOthers W1 W3 ∧ (∀ b, b < w.heap.size → b = B1 ∨ b = B2 ∨ b = B3 → W3.heap[b]? = W1.heap[b]?) ∧ I (pre ++ [x]) W3
        | .ret => KeepsOthers W1 W3 ∧ Ix (pre ++ [x]) W3
        | _ => False) a₁ W1) (fun _ _ _ => False)) { tmps := a.tmps.setIfInBounds p (.string (bsOf x)), defers := [] } W)
    (hdone : ∀ (D : Nat) (W : World), w.heap.size ≤ D → I (piecesF 46 s0.size (bl s0)) W → W.heap[D]? = some (.deferred (some [])) → Q .normal { a with defers := { target := .collected D, args := #[] } :: a.defers } W)
    (hstop : ∀ (D : Nat) (pre : List (List UInt8)) (W : World), w.heap.size ≤ D → Ix pre W → W.heap[D]? = some (.deferred (some [])) → Code.ret.wpIn Fence.wide 11 Tryz.prog Q { a with defers := { target := .collected D, args := #[] } :: a.defers } W) :
    (Code.rangeFunc g #[p] assign body).wpIn Fence.wide 11 Tryz.prog Q a w := by
  refine wpIn_rangeFunc ?_
  intro fn hfn
  obtain ⟨rec, hrec⟩ : ∃ rec : LoopState → Option Code → Loop, rec = fun st pe => { state := st, pending := pe, fn, tmps := a.tmps, params := #[p], assign, body, defers := w.heap.size } := ⟨_, rfl⟩
  obtain ⟨W1, hW1⟩ : ∃ W1, (w.alloc (.deferred (some []))).alloc (.loop (rec .ready none)) = W1 := ⟨_, rfl⟩
  obtain ⟨L, hL⟩ : ∃ L, L = w.heap.size + 1 := ⟨_, rfl⟩
  obtain ⟨D, hD⟩ : ∃ D, D = w.heap.size := ⟨_, rfl⟩
  have lt1 := h1.lt
  have lt2 := h2.lt
  have lt3 := h3.lt
  have hL1 : W1.heap[L]? = some (.loop (rec .ready none)) := by
    rw [← hW1, hL]; have := World.alloc_heap_new (w.alloc (.deferred (some []))) (.loop (rec .ready none)); rwa [World.size_alloc] at this
  have hD1 : W1.heap[D]? = some (.deferred (some [])) := by
    rw [← hW1, hD]; exact (Below.heap_alloc _ _ _ (by simp)).trans (World.alloc_heap_new w _)
  have hsz1 : w.heap.size ≤ W1.heap.size := by rw [← hW1, World.size_alloc, World.size_alloc]; omega
  have alloc1 : ∀ (W : World) (o : Obj), W.grownBy (W.alloc o) (some W.heap.size) := fun W o => ⟨rfl, rfl, rfl, by simp, fun k hk _ => Below.heap_alloc W o k hk⟩
  have hI1 : I [] W1 := by
    rw [← hW1]
    refine (hI _ _ _ _ (.inl ?_) (alloc1 _ _) (.inr ⟨by simp, fun o ho => by simp at ho⟩)).1 ?_ <;>
      exact (hI _ _ _ _ (.inl h0) (alloc1 _ _) (.inr ⟨Nat.le_refl _, fun o ho => by simp at ho⟩)).1 h0
  have old : ∀ b, b < w.heap.size → W1.heap[b]? = w.heap[b]? := fun b hb => by
    rw [← hW1]
    exact (Below.heap_alloc _ _ _ (by simp; omega)).trans (Below.heap_alloc _ _ _ hb)
  refine ⟨L, [{ target := .collected D, args := #[] }], W1, { target := .fn (.func 155) #[.pointer (some ⟨B1, 0, none⟩), .pointer (some ⟨B2, 0, none⟩), .pointer (some ⟨B3, 0, none⟩)], args := #[.func (.yield L) #[] #[]] }, W1, 155,
    #[.func (.yield L) #[] #[], .pointer (some ⟨B1, 0, none⟩), .pointer (some ⟨B2, 0, none⟩), .pointer (some ⟨B3, 0, none⟩)], W1, ?_, ?_, ?_, ?_, fun h => by simp, ?_⟩
  · rw [← hW1, hrec, hL, hD]; exact run_enterLoop_outer _ _ _ _ _
  · simp only [resolve, hg]
    simp [go_sem]
  · intro f' hf'; trivial
  · simp [invoke, go_sem, callFunc, Tryz.func155, Tryz.f155]
  · have turn : ∀ {pre W} (o o' : Obj) (b : Nat), I pre W ∨ Ix pre W → w.heap.size ≤ b → W.heap[b]? = some o → o.isCells = false → (I pre W → I pre (W.putObj b o')) ∧ (Ix pre W → Ix pre (W.putObj b o')) := fun {pre W} o o' b h hb ho hc =>
      hI pre W _ b h (grownBy_putObj' W b o') (.inr ⟨hb, fun o2 h2 => by rw [ho] at h2; cases h2; exact hc⟩)
    refine (split1_in L B1 B2 B3 s0 (fun pre W => I pre W ∧ w.heap.size ≤ W.heap.size ∧ W.heap[L]? = some (.loop (rec .ready none)) ∧ W.heap[D]? = some (.deferred (some [])))
      (fun pre W => Ix pre W ∧ W.heap[L]? = some (.loop (rec .done (some .ret))) ∧ W.heap[D]? = some (.deferred (some []))) ?_ ?_ W1 hlim ((old _ lt1).trans h1) ((old _ lt2).trans h2) ((old _ lt3).trans h3) d12 d32 ⟨hI1, hsz1, hL1, hD1⟩).mono ?_
    · rintro pre W s s' ⟨hi, hsz, hl, hd⟩ hb
      have hg' := grownBy_setCell' W B2 (.string s')
      refine ⟨(hI _ _ _ _ (.inl hi) hg' (.inl ⟨rfl, s, hb⟩)).1 hi, Nat.le_trans hsz hg'.size, (hg'.block L (Array.getElem?_eq_some_iff.1 hl).1 (by simp; omega)).trans hl, (hg'.block D (Array.getElem?_eq_some_iff.1 hd).1 (by simp; omega)).trans hd⟩
    · rintro pre x W ⟨hi, hsz, hl, hd⟩ hpre
      have hlt := (Array.getElem?_eq_some_iff.1 hl).1
      have hy := run_yield (P := Tryz.prog) (args := #[.string (bsOf x)]) hl (by rw [hrec]; rfl)
      rw [hrec] at hy
      have hy : (Instr.yield L #[.string (bsOf x)]).run Tryz.prog W = .ok (.round L fn (a.tmps.setIfInBounds p (.string (bsOf x))) assign body) W := by
        rw [hy, show (#[p].zip #[Value.string (bsOf x)]) = #[(p, Value.string (bsOf x))] from by simp]
        simp
      refine ⟨fn, _, assign, body, hy, roundIn_of_wpIn hfn (wpIn_mono (hbody L pre x W hi hpre) ?_)⟩
      intro e a₁ w₁ he
      cases e with
      | normal =>
        obtain ⟨rfl, hb⟩ := he
        have hl2 : (w₁.putObj L (.loop { rec .ready none with state := .busy })).heap[L]? = some (.loop { rec .ready none with state := .busy }) := World.putObj_heap_same hlt
        have hd2 : (w₁.putObj L (.loop { rec .ready none with state := .busy })).heap[D]? = some (.deferred (some [])) := (World.putObj_heap_other (by omega)).trans hd
        refine ⟨_, run_beginRound hl (by rw [hrec]), wpIn_mono (hb _ ((turn _ _ _ (.inl hi) (by omega) hl rfl).1 hi) (by simpa using hsz)) ?_⟩
        have fin : ∀ (jump : Option Code) (W3 : World), KeepsOthers (w₁.putObj L (.loop { rec .ready none with state := .busy })) W3 →
            (Instr.endRound L jump).run Tryz.prog W3 = .ok (.bool jump.isNone) (W3.putObj L (.loop (rec (if jump.isNone then .ready else .done) jump))) ∧
            W3.heap[L]? = some (.loop { rec .ready none with state := .busy }) ∧
            (W3.putObj L (.loop (rec (if jump.isNone then .ready else .done) jump))).heap[L]? = some (.loop (rec (if jump.isNone then .ready else .done) jump)) ∧
            (W3.putObj L (.loop (rec (if jump.isNone then .ready else .done) jump))).heap[D]? = some (.deferred (some [])) := fun jump W3 hk3 => by
          have hl3 := hk3.same _ _ hl2 rfl
          have := run_endRound (P := Tryz.prog) jump hl3
          rw [hrec] at this ⊢
          exact ⟨this, by rw [hrec] at hl3; exact hl3, World.putObj_heap_same (Array.getElem?_eq_some_iff.1 hl3).1, (World.putObj_heap_other (by omega)).trans (hk3.same _ _ hd2 rfl)⟩
        intro e3 a3 W3 hp
        cases e3 with
        | normal =>
          obtain ⟨hk3, hb3, hi3⟩ := hp
          obtain ⟨hr, hl3, hl4, hd4⟩ := fin none W3 hk3
          refine ⟨_, _, hr, .inl ⟨rfl, ⟨(turn _ _ _ (.inl hi3) (by omega) hl3 rfl).1 hi3, ?_, hl4, hd4⟩, fun b hb' => ?_⟩⟩
          · have := hk3.size
            simp at this ⊢
            omega
          · have hbl : b < w.heap.size := by rcases hb' with rfl | rfl | rfl <;> assumption
            exact ((World.putObj_heap_other (by omega)).trans (hb3 b hbl hb')).trans (World.putObj_heap_other (by omega))
        | ret =>
          obtain ⟨hk3, hi3⟩ := hp
          obtain ⟨hr, hl3, hl4, hd4⟩ := fin (some .ret) W3 hk3
          exact ⟨_, _, hr, .inr ⟨rfl, (turn _ _ _ (.inr hi3) (by omega) hl3 rfl).2 hi3, hl4, hd4⟩⟩
        | _ => exact hp.elim
      | _ => exact he.elim
    · rintro e W2 ⟨⟨v, rfl⟩, (⟨ys, rfl, hi, _, hl, hd⟩ | ⟨pre, hi, hl, hd⟩)⟩
      · exact ⟨none, _, by have := run_endLoop (P := Tryz.prog) hl (by rw [hrec]; simp); rw [hrec] at this; exact this, hdone D _ (by omega) ((turn _ _ _ (.inl hi) (by omega) hl rfl).1 hi) ((World.putObj_heap_other (by omega)).trans hd)⟩
      · exact ⟨some .ret, _, by have := run_endLoop (P := Tryz.prog) hl (by rw [hrec]; simp); rw [hrec] at this; exact this, hstop D pre _ (by omega) ((turn _ _ _ (.inr hi) (by omega) hl rfl).2 hi) ((World.putObj_heap_other (by omega)).trans hd)⟩
end Go.Proofs.YtmkhcmiplleghaaGreatDoor
