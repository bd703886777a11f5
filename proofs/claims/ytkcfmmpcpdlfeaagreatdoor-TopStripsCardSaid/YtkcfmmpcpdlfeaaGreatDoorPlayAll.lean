/- Several texts of the same kind, joined. -/
import Derived.Test.YtkcfmmpcpdlfeaaGreatDoorTypes
import Derived.Test.YtkcfmmpcpdlfeaaGreatDoorFacts
import Derived.WalkSpells
import Derived.WalkLawsBesides
import Derived.Deep.QuietTactic
import Derived.BigQuiet
import Derived.RegionTactic
import Derived.Lib.Hide
import Derived.Test.YtkcfmmpcpdlfeaaGreatDoorPaC
set_option linter.unusedSimpArgs false
set_option linter.unusedVariables false
/- The source of numbers: N. -/
namespace Go.Proofs.YtkcfmmpcpdlfeaaGreatDoor
open Go.RowKit
open Go.PA

abbrev sp (p : Nat) : AV := .sc (.pointer (some ⟨p, 0, none⟩))

set_option maxHeartbeats 400000 in
/-- N where the source has run out -/
theorem N_out (p : Nat) (A : Option Addr) (len c : Nat) (at_ : Int) (n : Int) (w : World)
    (h0 : w.cell? ⟨p, 0, none⟩ = some (.slice A len c)) (h1 : w.cell? ⟨p, 1, none⟩ = some (.int .i64 at_))
    (hge : (len : Int) ≤ at_) :
    Calls Tryz.prog 10 #[.pointer (some ⟨p, 0, none⟩), .int .i64 n] w fun e w' => e = .returned (.int .i64 0) ∧ ∃ k, w' = w.drewN k := by
  have hge' : decide ((len : Int) ≤ at_) = true := by simpa using hge
  go_enter Tryz.func10, Tryz.ntmps10
  go_wp2
  go_quiet (fail)
  go_wp2
  go_ret
  exact ⟨rfl, _, rfl⟩

set_option maxHeartbeats 400000 in
theorem N_low (p : Nat) (A : Option Addr) (len c : Nat) (at_ : Int) (n : Int) (w : World)
    (h0 : w.cell? ⟨p, 0, none⟩ = some (.slice A len c)) (h1 : w.cell? ⟨p, 1, none⟩ = some (.int .i64 at_))
    (hlt : at_ < len) (hn : n < 1) :
    Calls Tryz.prog 10 #[.pointer (some ⟨p, 0, none⟩), .int .i64 n] w fun e w' => e = .returned (.int .i64 0) ∧ ∃ k, w' = w.drewN k := by
  have hge' : decide ((len : Int) ≤ at_) = false := by simpa using hlt
  have hn' : decide (n < 1) = true := by simpa using hn
  go_enter Tryz.func10, Tryz.ntmps10
  go_wp2
  go_quiet (fail)
  go_wp2
  go_ret
  exact ⟨rfl, _, rfl⟩

set_option maxHeartbeats 400000 in
theorem N_in (p : Nat) (ad : Addr) (len c : Nat) (at_ : Nat) (n x : Int) (w : World)
    (h0 : w.cell? ⟨p, 0, none⟩ = some (.slice (some ad) len c)) (h1 : w.cell? ⟨p, 1, none⟩ = some (.int .i64 at_))
    (hf : w.frozen? ⟨p, 1, none⟩ = false)
    (hx : w.cell? (ad.add at_) = some (.int .i64 x)) (hp : ad.block ≠ p)
    (hlen : len ≤ 900)
    (hlt : (at_ : Int) < len) (hn : 1 ≤ n) (hn2 : n ≤ 4000000000000000000) :
    Calls Tryz.prog 10 #[.pointer (some ⟨p, 0, none⟩), .int .i64 n] w fun e w' => e = .returned (.int .i64 ((x.tmod n + n) % n)) ∧ ∃ j k, w' = ((w.drewN j).setCell ⟨p, 1, none⟩ (.int .i64 (at_ + 1))).drewN k := by
  have hge' : decide (len ≤ at_) = false := by simp; omega
  have hn' : decide (n < 1) = false := by simpa using hn
  have hw1 : IntKind.i64.wrap (at_ : Int) = at_ := by rw [IntKind.wrap_i64]; omega
  have hx' : ∀ nq : Nat, ((w.drewN nq).setCell ⟨p, 1, none⟩ (.int .i64 (at_ + 1))).cell? (ad.add at_) = some (.int .i64 x) := fun nq => by
    have h : (⟨p, 1, none⟩ : Addr) ≠ ad.add at_ := fun e => hp (by rw [← block_add ad at_, ← e])
    exact (World.cell?_setCell_other _ _ _ _ h).trans hx
  have hn0 : ¬ n = 0 := by omega
  have hb : -n < x.tmod n ∧ x.tmod n < n := by
    exact ⟨Int.lt_tmod_of_pos x (by omega), Int.tmod_lt_of_pos x (by omega)⟩
  have hw2 : IntKind.i64.wrap (x.tmod n + n) = x.tmod n + n := by rw [IntKind.wrap_i64]; omega
  go_enter Tryz.func10, Tryz.ntmps10
  go_wp2
  go_quiet (fail)
  go_wp2
  go_quiet (fail)
  go_wp2
  go_ret
  exact ⟨rfl, _, _, rfl⟩

/-- What N gives. -/
def NQ (n : Int) (x : AV) : Prop := ∃ m : Int, x = iv m ∧ (n < 1 → m = 0) ∧ (1 ≤ n → 0 ≤ m ∧ m < n)

theorem N_pf (p : Nat) (src : Option Nat) (n : Int) (hn2 : n ≤ 4000000000000000000) : PFun Tryz.prog (some p) src 10 [sp p, iv n] (NQ n) := by
  intro w ok vs hok hinv hsz hrep
  have hv0 := hrep 0 (vs[0]'(by simp at hsz; omega)) (sp p) (Array.getElem?_eq_getElem _) rfl
  have hv1 := hrep 1 (vs[1]'(by simp at hsz; omega)) (iv n) (Array.getElem?_eq_getElem _) rfl
  have e0 := rep_sc hv0
  have e1 := rep_sc hv1
  have hvs : vs = #[.pointer (some ⟨p, 0, none⟩), .int .i64 n] := by
    apply Array.ext
    · simpa using hsz
    · intro i h1 h2
      match i with
      | 0 => simpa using e0
      | 1 => simpa using e1
      | i + 2 => simp at h2; omega
  subst hvs
  obtain ⟨cur, A, len, c, at_, ty, ⟨hb, hc0, hc1⟩, ha, hl, hsrc⟩ := hinv.2 p rfl
  have h0 : w.cell? ⟨p, 0, none⟩ = some (.slice A len c) := by rw [cell_of_row w p _ _ ty (0, 0) hb]; exact hc0
  have h1 : w.cell? ⟨p, 1, none⟩ = some (.int .i64 at_) := by rw [cell_of_row w p _ _ ty (0, 0) hb]; exact hc1
  have hf : w.frozen? ⟨p, 1, none⟩ = false := by simp [World.frozen?, hb]
  have quiet : ∀ {e : Ending} {w' : World}, (e = .returned (.int .i64 0) ∧ ∃ k, w' = w.drewN k) → (NQ n (iv 0)) → ∃ (v : Value) (x : AV), e = .returned v ∧ NQ n x ∧ Imm x ∧ RepI w' (fun b => ok b ∨ (w.heap.size ≤ b ∧ b < w'.heap.size)) v x ∧ w.grownBy w' (some p) ∧ Inv (some p) src ok w' := by
    rintro e w' ⟨rfl, k, rfl⟩ hq
    exact ⟨_, iv 0, rfl, hq, .sc, .sc, ⟨rfl, rfl, rfl, Nat.le_refl _, fun _ _ _ => rfl⟩, hinv⟩
  by_cases hge : (len : Int) ≤ at_
  · refine (N_out p A len c at_ n w h0 h1 hge).mono fun e w' h => quiet h ⟨0, rfl, fun _ => rfl, fun h => ⟨Int.le_refl _, by omega⟩⟩
  by_cases hn : n < 1
  · refine (N_low p A len c at_ n w h0 h1 (by omega) hn).mono fun e w' h => quiet h ⟨0, rfl, fun _ => rfl, fun h => ⟨Int.le_refl _, by omega⟩⟩
  obtain ⟨ad, x, rfl, hs, hp, hx, hxb⟩ := hsrc at_ (by omega)
  refine (N_in p ad len c at_ n x w h0 h1 hf hx hp hl (by omega) (by omega) hn2).mono ?_
  rintro e w' ⟨rfl, j, k, rfl⟩
  refine ⟨_, iv ((x.tmod n + n) % n), rfl, ⟨_, rfl, fun h => by omega, fun h => ⟨Int.emod_nonneg _ (by omega), Int.emod_lt_of_pos _ (by omega)⟩⟩, .sc, .sc, ⟨rfl, rfl, rfl, by simp [World.setCell, World.drewN], fun q hq hne => ?_⟩, ⟨hinv.1.1, fun g hg => ⟨(hinv.1.2 g hg).1, ?_⟩⟩, fun q hq => ?_⟩
  · have : p ≠ q := fun e => hne (by rw [e])
    simp [World.setCell, World.drewN, Array.getElem?_modify, this]
  · obtain ⟨t, v, hc⟩ := (hinv.1.2 g hg).2
    have : p ≠ g := fun e => (hok g (hinv.1.2 g hg).1).2 (by rw [e])
    exact ⟨t, v, (World.cell?_of_block (w := w) (by simp [World.setCell, World.drewN, Array.getElem?_modify, this])).trans hc⟩
  · cases hq
    have hlt : 1 < cur.size := (Array.getElem?_eq_some_iff.1 hc1).1
    refine ⟨cur.setIfInBounds 1 (.int .i64 (at_ + 1)), some ad, len, c, at_ + 1, ty, ⟨?_, ?_, ?_⟩, by omega, hl, fun i hi => ?_⟩
    · simp [World.setCell, World.drewN, Array.getElem?_modify, hb]
    · rw [Array.getElem?_setIfInBounds_ne (by omega)]; exact hc0
    · rw [Array.getElem?_setIfInBounds]; simp [hlt]
    · obtain ⟨ad', x', h1', h2', h3', h4', h5'⟩ := hsrc i hi
      cases h1'
      refine ⟨ad, x', rfl, hs, hp, ?_, h5'⟩
      have h : (⟨p, 1, none⟩ : Addr) ≠ ad.add i := fun e => hp (by rw [← block_add ad i, ← e])
      exact (World.cell?_setCell_other _ _ _ _ h).trans h4'

end Go.Proofs.YtkcfmmpcpdlfeaaGreatDoor

/- The source of numbers: what draws from it. -/
set_option linter.unusedSimpArgs false
namespace Go.Proofs.YtkcfmmpcpdlfeaaGreatDoor
open Go.PA
open Go.RowKit

def intsL (xs : List Int) : AV := .list 1 (xs.map fun x => [iv x])
def Small (xs : List Int) : Prop := ∀ x, x ∈ xs → -9223372036854775808 ≤ x ∧ x ≤ 9223372036854775807

theorem new_pf (xs : List Int) (hl : xs.length ≤ 9223372036854775807) : POwn Tryz.prog none none 4 [intsL xs] 57 2 (· = [[intsL (xs.take 900), iv 0]]) := by
  refine pown_intro Tryz.func4 rfl (by simp [Tryz.f4]) (by kernel_rfl) ?_
  intro E hP hr hs hW hN
  simp [go_sem, hP, intsL, amin, aminFrom, asliceOp, bound, aslice]
  have c : 0 ≤ min (xs.length : Int) 900 ∧ min (xs.length : Int) 900 ≤ xs.length := ⟨by omega, by omega⟩
  have m : (min (xs.length : Int) 900).toNat = min 900 xs.length := by omega
  rw [if_pos c, m]
  simp [go_sem, hP, AOwn, Tryz.f4]
  intro e he a ha
  have := List.mem_of_mem_take he
  simp at this
  obtain ⟨x, _, rfl⟩ := this
  simp at ha
  subst ha
  exact .sc

theorem range_pf (p : Nat) (src : Option Nat) (lo hi : Int) (h1 : -1000000000000000000 ≤ lo ∧ lo ≤ 1000000000000000000) (h2 : -1000000000000000000 ≤ hi ∧ hi ≤ 1000000000000000000) :
    PFun Tryz.prog (some p) src 5 [sp p, iv lo, iv hi] (fun x => ∃ m : Int, x = iv m ∧ (lo ≤ hi → lo ≤ m ∧ m ≤ hi) ∧ (hi < lo → m = lo)) := by
  refine pfun_intro Tryz.func5 rfl (by simp [Tryz.f5]) (by kernel_rfl) ?_
  intro E hP hr hs hW hN
  have w1 := wrap_in (hi - lo) (by omega)
  have w2 := wrap_in (hi - lo + 1) (by omega)
  simp [go_sem, *]
  refine callB_flat (hr ▸ hs ▸ N_pf p src (hi - lo + 1) (by omega)) hP en_10 (by simp [go_sem]) ?_ ?_ ?_
  · by_cases h : hi - lo + 1 < 1
    · exact ⟨iv 0, 0, rfl, fun _ => rfl, fun h' => by omega⟩
    · exact ⟨iv 0, 0, rfl, fun _ => rfl, fun h' => by omega⟩
  · rintro r ⟨m, rfl, _⟩; exact .sc
  · rintro r ⟨m, rfl, a1, a2⟩
    have w3 := wrap_in (lo + m) (by omega)
    simp [go_sem, *, Tryz.f5]
    omega

theorem pick_pf (p : Nat) (src : Option Nat) (xs : List Int) (h : 1 ≤ xs.length ∧ xs.length ≤ 1000) :
    PFun Tryz.prog (some p) src 6 [sp p, intsL xs] (fun x => ∃ m : Int, x = iv m ∧ m ∈ xs) := by
  refine pfun_intro Tryz.func6 rfl (by simp [Tryz.f6]) (by kernel_rfl) ?_
  intro E hP hr hs hW hN
  simp [go_sem, hP, intsL]
  refine callB_flat (hr ▸ hs ▸ N_pf p src xs.length (by omega)) hP en_10 (by simp [go_sem]) ?_ ?_ ?_
  · exact ⟨iv 0, 0, rfl, fun _ => rfl, fun h' => by omega⟩
  · rintro r ⟨m, rfl, _⟩; exact .sc
  · rintro r ⟨m, rfl, a1, a2⟩
    obtain ⟨b1, b2⟩ := a2 (by omega)
    have b3 : m.toNat < xs.length := by omega
    simp [go_sem, *, Tryz.f6]

theorem NQ_ex (n : Int) : ∃ r, NQ n r := ⟨iv 0, 0, rfl, fun _ => rfl, fun h => by omega⟩
theorem NQ_flat (n : Int) : ∀ r, NQ n r → Flat r := by
  rintro r ⟨m, rfl, _⟩; exact .sc

end Go.Proofs.YtkcfmmpcpdlfeaaGreatDoor
