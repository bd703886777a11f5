/- ReceiptExact: the card. -/
import Derived.Test.YtgapbmaehfdkoaaGreatDoorFrame
import Derived.Test.YtgapbmaehfdkoaaGreatDoorArgsUse
import Derived.Stop.LaidErr
import Derived.LaidMore
import Derived.Lay
import Derived.SevenTiedAt
import Derived.Stop.Joined
import Derived.Test.YtgapbmaehfdkoaaGreatDoorCards
import Derived.Test.YtgapbmaehfdkoaaGreatDoorTie
import Derived.Test.YtgapbmaehfdkoaaGreatDoorLaw27f
set_option linter.unusedSimpArgs false
set_option linter.unusedVariables false
set_option maxRecDepth 100000
namespace Go.Proofs.YtgapbmaehfdkoaaGreatDoor
section
open Go.RowKit Go.WideShapes Go.ChangeShapes
open Go.PA (RepI PFun AV Rep GlobOk)

theorem gES : Tryz.prog.globalNamed "strconv.ErrSyntax" = some 0 := by kernel_rfl
theorem gER : Tryz.prog.globalNamed "strconv.ErrRange" = some 1 := by kernel_rfl
theorem gEST : (Tryz.prog.globals[0]?).map (·.type) = some 104 := by kernel_rfl
theorem gERT : (Tryz.prog.globals[1]?).map (·.type) = some 104 := by kernel_rfl
theorem cellsES : Tryz.prog.cellsOf 150 = 1 := by kernel_rfl
theorem cellsStr : Tryz.prog.cellsOf 9 = 1 := by kernel_rfl
theorem starES : "*" ++ "errors.errorString" = "*errors.errorString" := by decide
theorem rowES (u : TypeId) (h : Tryz.prog.typeName? 3 u = some "*errors.errorString") : u = 148 :=
  typeName_ptr_named (nm := "errors.errorString") (by rw [starES]; kernel_rfl) (by kernel_rfl) (by decide) u (by rw [starES]; exact h)
theorem lt_of_cell {W : World} {g : Nat} {v : Value} (h : W.cell? ⟨g, 0, none⟩ = some v) : g < W.heap.size := by
  rcases Nat.lt_or_ge g W.heap.size with h' | h'
  · exact h'
  · simp [World.cell?, Array.getElem?_eq_none h'] at h
theorem glob_ok {W : World} (h : laidMetH Tryz.prog Rows.receiptRefundsRow.laid W) : GlobOk (fun b => b < W.heap.size) W := by
  rw [MakeChecks.laidMetH_plain _ _ _ (by kernel_rfl)] at h
  have h4 := h.tail.tail.tail.tail
  obtain ⟨a0, s0, hv0, -, -, -⟩ := laid_sentinel h4 gER gERT Tryz.underlying104 rowES Tryz.underlying148 Tryz.underlying150 rfl rfl Tryz.underlying9 cellsES cellsStr
  obtain ⟨a1, s1, hv1, -, -, -⟩ := laid_sentinel h4.tail gES gEST Tryz.underlying104 rowES Tryz.underlying148 Tryz.underlying150 rfl rfl Tryz.underlying9 cellsES cellsStr
  have h0 : W.cell? ⟨1, 0, none⟩ = some (.iface 148 (.pointer (some a0))) := by simpa using World.var?_cell gER hv0 0
  have h1 : W.cell? ⟨0, 0, none⟩ = some (.iface 148 (.pointer (some a1))) := by simpa using World.var?_cell gES hv1 0
  intro g hg
  simp only [Go.PA.globs, List.mem_cons, List.not_mem_nil, or_false] at hg
  rcases hg with rfl | rfl
  · exact ⟨lt_of_cell h1, _, _, h1⟩
  · exact ⟨lt_of_cell h0, _, _, h0⟩

end
open Go.ChangeShapes Go.WideShapes Go.ChangeAt Go.RowKit
open Go.PA (RepI PFun AV Rep Sh ShsA)

def exact27_sh : List Sh := [.slice (.int .i64), .strct TCash.shF, .strct TClaim.shF, .strct TIncome.shF, .int .i64]
def exact27_wit : Array Value := #[.slice none 0 0, .agg #[.slice none 0 0, .slice none 0 0, .slice none 0 0, .slice none 0 0], .agg #[.int .i64 0, .int .i64 0, .int .i64 0, .int .i64 0, .int .i64 0, .string ⟨#[]⟩], .agg #[.int .i64 0, .int .i64 0, .int .i64 0, .int .i64 0, .int .i64 0], .int .i64 0]
set_option maxRecDepth 100000 in
theorem exact27_args (av : List AV) (h : ShsA exact27_sh av) : PFun Tryz.prog none none 6 av (· = bv true) := by
  unfold exact27_sh at h
  obtain ⟨a0, _, rfl, h0, h⟩ := Go.PA.shsA_cons h
  obtain ⟨a1, _, rfl, h1, h⟩ := Go.PA.shsA_cons h
  obtain ⟨a2, _, rfl, h2, h⟩ := Go.PA.shsA_cons h
  obtain ⟨a3, _, rfl, h3, h⟩ := Go.PA.shsA_cons h
  obtain ⟨a4, _, rfl, h4, h⟩ := Go.PA.shsA_cons h
  cases Go.PA.shsA_nil h
  obtain ⟨xs, rfl, hx, hl⟩ := arg_ints h0
  obtain ⟨_, rfl, h1⟩ := h1
  obtain ⟨raw, rfl, wf⟩ := TCash.of _ h1
  obtain ⟨_, rfl, h2⟩ := h2
  obtain ⟨x, rfl, _⟩ := TClaim.of _ h2
  obtain ⟨_, rfl, h3⟩ := h3
  obtain ⟨y, rfl, _⟩ := TIncome.of _ h3
  obtain ⟨n, rfl, _⟩ := arg_int h4
  have w1 := wf.1.1
  have w2 := wf.2.1.1
  have w3 := wf.2.2.1.1
  have w4 := wf.2.2.2.1
  exact exact27_pf xs raw x y n hx hl ⟨by simpa [maxLen] using w1, by simpa [maxLen] using w2, by simpa [maxLen] using w3, by simpa [maxLen] using w4⟩
set_option maxRecDepth 100000 in
theorem exact27_lifted (os : Os) (started : os.Started) (H : Type) (enc : TypeId × Value → H) :
    ReturnsInHanded {} Tryz.checked os 6 .any (fun w args => (Rows.receiptExactSpec.pre enc Tryz.prog Tryz.f6 Rows.receiptExactRow.domain false w args ∧ laidMetH Tryz.prog Rows.receiptExactRow.laid w) ∧ sizedMet enc Tryz.prog Tryz.f6 (OpenSpec.ofChange Rows.receiptExactSpec) false w args) (Rows.receiptExactSpec.post enc Tryz.prog Tryz.f6 false true false false) := by
  refine returnsInHanded_of_change_and (C := Tryz.checked) (X := fun w _ => laidMetH Tryz.prog Rows.receiptExactRow.laid w) (fun _ _ _ hh h => h.of_heap hh) Tryz.own started (by kernel_rfl) Tryz.func6
    (ChangeSpec.witness_shaped (enc := enc) (C := Tryz.checked) (os := os) (X := fun w _ => laidMetH Tryz.prog Rows.receiptExactRow.laid w) false (World.laidAll Tryz.prog os Rows.receiptExactRow.laid) exact27_wit 8 (World.laidAll_os _ _ _)
      (World.shaped_of_ZipB (by kernel_rfl) (by kernel_rfl)) (by kernel_rfl) (by kernel_rfl) (by kernel_rfl)
      (by rw [MakeChecks.laidMetH_plain _ _ _ (by kernel_rfl)]; exact laidMet_laidAll _ (by kernel_rfl) (by kernel_rfl))) ?_
  intro W base args ds gs before hval0 hW hcnd _ hL _
  have hval : ∀ (j : Nat) t v, Tryz.f6.params.toList[j]? = some t → args.toList[j]? = some v → Value.okWide Tryz.prog W .any base t v := fun j t v ht hv => hval0 j t v (by rw [← ht, Array.getElem?_toList]) (by rw [← hv, Array.getElem?_toList])
  have hW' := hW
  obtain ⟨p, q, hA0, hV, rfl, hfz, hnd⟩ := hW
  have hA : DataW.TrodAll enc Tryz.prog W 0 (fun _ => true) true Tryz.f6.params.toList args.toList ds p := hA0
  obtain ⟨rfl, rfl⟩ := trodVars_none hV
  have hlt := fun x hx => hW'.lt x hx
  obtain ⟨d0,d1,d2,d3,d4,rfl⟩ := Go.PA.list_len5 (Go.PA.trodAll_dlen _ _ _ _ hA : ds.length = 5)
  obtain ⟨av, hS, hlen, hrep⟩ := Go.PA.args_rep exact27_sh _ args.toList _ p (by kernel_rfl) hval hA
  clear hval0
  refine (exact27_args av hS W (fun b => b < W.heap.size) args (fun b hb => ⟨hb, by simp⟩) ⟨⟨by simp, glob_ok hL⟩, by simp⟩ (by rw [hlen, Array.length_toList]) (fun i v a hv ha => hrep i v a (by rw [← hv, Array.getElem?_toList]) ha)).mono ?_
  rintro e W' ⟨v, x, rfl, rfl, _, hrep, hg, _⟩
  have hv := Go.PA.rep_sc hrep
  subst hv
  have hb : Below W.heap.size W W' := ⟨hg.os, hg.tape, hg.output, hg.size, fun k hk => hg.block k hk (by simp)⟩
  refine ⟨_, rfl, post_of_below (ds := [d0,d1,d2,d3,d4]) (gs := []) (pa := p) (pv := []) (by simpa using hW') (fun _ _ _ => trodAll_mk1 (shut_bool Tryz.underlying4 true)) (fun sp hs => ?_) (fun _ _ => rfl) (by simp) hb (ok_one (by kernel_rfl) rfl (okWide_bool_mk Tryz.underlying4 true))⟩
  have := Go.PA.trodAll_stays (sp := sp) Tryz.laidOut exact27_sh _ args.toList _ p (by kernel_rfl) hA (fun x hx => hb.same (hlt x (by simp [hx]))) (fun x hx => hs x (by simp [hx]))
  exact this

theorem exact27_holds : Rows.ReceiptExactSaid :=
  OpenClaim.holds_of_wide 6 Tryz.f6 rfl rfl rfl rfl rfl rfl rfl ⟨rfl, rfl, rfl, rfl, rfl⟩ rfl rfl rfl rfl rfl (by kernel_rfl) Tryz.func6 (by kernel_rfl)
    (of_decide_eq_true (by kernel_rfl)) (by unfold Func.isWrapper; first | (rw [if_pos (by decide +kernel)]; kernel_rfl) | (rw [if_neg (by decide +kernel)]; exact ⟨rfl, rfl⟩))
    (fun os started H enc _ => exact27_lifted os started H enc)

theorem exact27_plain (f : FuncId) (fn : Func) (hf : Tryz.pinned.checked.prog.funcNamed "treasury/treasurylaw27.ReceiptExact" = some f) (hfn : Tryz.pinned.checked.prog.funcs[f]? = some fn) :
    true = Tryz.pinned.checked.prog.looks [] ∧ ∀ (j : Nat) t, fn.params[j]? = some t → Tryz.pinned.checked.prog.wantsStandIn t = false := by
  obtain rfl : f = 6 := Option.some.inj ((show Tryz.prog.funcNamed "treasury/treasurylaw27.ReceiptExact" = some 6 by kernel_rfl).symm.trans hf) |>.symm
  obtain rfl : fn = Tryz.f6 := (Option.some.inj (Tryz.func6.symm.trans hfn)).symm
  refine ⟨by kernel_rfl, fun j t ht => ?_⟩
  have hm : t ∈ Tryz.f6.params.toList := by simpa using Array.mem_of_getElem? ht
  have hall : (Tryz.f6.params.toList.all fun u => !Tryz.prog.wantsStandIn u) = true := by kernel_rfl
  exact (show Tryz.prog.wantsStandIn t = false by simpa using List.all_eq_true.1 hall t hm)
theorem exact27_card : Rows.ReceiptExactCardSaid :=
  Claim7.holds_tied_plain_at .later [] _ _ _ _ exact27_holds (fun _ h => by cases h) (by kernel_rfl) (fun _ h => by cases h) receiptExact_row_tie rfl ⟨rfl, rfl⟩ (by kernel_rfl) rfl exact27_plain (by kernel_rfl)

end Go.Proofs.YtgapbmaehfdkoaaGreatDoor
