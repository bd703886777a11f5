/- PA: a contract on one's own objects, read as one on plain values. -/
import Derived.Test.YtkcfmmpcpdlfeaaGreatDoorPaC
import Derived.Test.YtkcfmmpcpdlfeaaGreatDoorPaFrz
namespace Go.PA
open Go.RowKit

theorem pfun_of_mfun {P : Program} {row src : Option Nat} {f : FuncId} {args : List AV} {C : AV → Heap → Prop} {Q : AV → Prop} (h : MFun P row src f args [] C)
    (hC : ∀ r H', C r H' → ∃ x, Weak (view H' r) x ∧ Imm (view H' r) ∧ Imm x ∧ Q x) : PFun P row src f args Q := by
  intro w ok vs h1 h2 h3 h4
  let E : Env := { P := P, w0 := w, okA := ok, row := row, src := src, N := 0, W := fun _ => False, ρ0 := fun _ => none, H0 := [] }
  have g : Good E w (fun _ => none) [] ok := ⟨rfl, rfl, rfl, Nat.le_refl _, fun _ _ _ _ => rfl, h2, fun b hb => ⟨(h1 b hb).1, (h1 b hb).2, .inl hb⟩, by simp, by simp, by simp, by simp⟩
  refine ((h E rfl rfl rfl).2 w (fun _ => none) ok vs g h3 h4).mono ?_
  rintro e w' ⟨v, r, H', ρ, ok', rfl, hc, g', _, hrep⟩
  obtain ⟨x, hwk, hi, hix, hx⟩ := hC r H' hc
  refine ⟨v, x, rfl, hx, hix, ?_, ⟨g'.os, g'.tape, g'.output, g'.size, fun k hk hne => g'.blk k hk (fun h => h) hne⟩, ?_⟩
  · refine Rep.weak hwk ((view_sound g' hrep hi).imm (fun b hb => ?_) hi)
    rcases hb with hb | ⟨_, _, _, ho, hρ⟩
    · obtain ⟨b1, _, b3⟩ := g'.oks b hb
      exact b3.imp id fun h => ⟨h, b1⟩
    · have hobj := g'.obj _ _ ho
      rw [hρ] at hobj
      obtain ⟨_, _, b3⟩ := g'.own _ _ b _ ho hρ
      exact .inr ⟨b3.resolve_left (fun h => h), hobj.lt⟩
  · refine ⟨⟨h2.1.1, h2.1.2.at g'.inv.1.2⟩, fun p hp => ?_⟩
    exact g'.inv.2 p hp
theorem pfun_of_mfun_agg {P : Program} {row src : Option Nat} {f : FuncId} {args : List AV} {C : AV → Heap → Prop} {cs : List AV} (h : MFun P row src f args [] C)
    (hi : Imm (.agg cs)) (hC : ∀ r H', C r H' → ∃ xs, r = .agg xs ∧ CW H' xs cs) : PFun P row src f args (· = .agg cs) :=
  pfun_of_mfun h fun r H' hc => by
    obtain ⟨xs, rfl, hw⟩ := hC r H' hc
    exact ⟨.agg cs, hw.weak, hw.imm, hi, rfl⟩
end Go.PA
