/- Several texts of this claim, joined: PaArg Args ArgsUse CardLibP Cmp SortFlow PlayFlow Forecast Project Order29 Merge29 PaFrz PaIns Fc0 Acc1 AccLib Acc2 Acc3 Acc4 Grown. -/
import Derived.Test.YtpjecipdklcjbaaGreatDoorPk3
import Derived.ProofKit
import Derived.Below
import Derived.Carry
import Derived.ChangeSame
import Derived.ChangeMaps5
import Derived.ShutString
import Derived.Stop.LaidErr
import Derived.LaidMore
import Derived.Lay
import Derived.SevenTiedAt
import Derived.Stop.Joined
import Derived.Test.YtpjecipdklcjbaaGreatDoorCards
import Derived.Test.YtpjecipdklcjbaaGreatDoorTie
import Derived.Lib.AppendZerosOnto
import Derived.Lib.Walk
import Derived.Lib.SliceRun
import Derived.Lib.Overlaps
import Derived.Laws.Externs
set_option linter.unusedSimpArgs false
set_option linter.unusedVariables false
namespace Go.PA
open Go.RowKit Go.WideShapes Go.ChangeShapes
mutual
inductive Sh where
  | int (k : IntKind)
  | bool
  | str
  | slice (e : Sh)
  | strct (fs : Fs)
inductive Fs where
  | nil
  | cons (s : Sh) (fs : Fs)
end
mutual
def Sh.size : Sh → Nat
  | .int _ => 1
  | .bool => 1
  | .str => 1
  | .slice _ => 1
  | .strct fs => fs.size
def Fs.size : Fs → Nat
  | .nil => 0
  | .cons s fs => s.size + fs.size
end
mutual
def Sh.ok (P : Program) : Sh → TypeId → Bool
  | .int k, t => decide (P.cellsOf t = 1) && (match P.underlying t with | some (.int k') => decide (k' = k) | _ => false)
  | .bool, t => decide (P.cellsOf t = 1) && (match P.underlying t with | some .bool => true | _ => false)
  | .str, t => decide (P.cellsOf t = 1) && (match P.underlying t with | some .string => true | _ => false)
  | .slice e, t => decide (P.cellsOf t = 1) && decide (0 < e.size) && (match P.underlying t with | some (.slice te) => e.ok P te | _ => false)
  | .strct fs, t => decide (P.cellsOf t = fs.size) && (match P.underlying t with | some (.struct fields) => fs.ok P fields.toList 0 | _ => false)
def Fs.ok (P : Program) : Fs → List Field → Nat → Bool
  | .nil, [], _ => true
  | .cons s fs, f :: l, off => s.ok P f.type && decide (f.offset = off) && fs.ok P l (off + s.size)
  | _, _, _ => false
end
mutual
def Sh.V : Sh → List AV → Prop
  | .int k, as0 => ∃ n, as0 = [.sc (.int k n)] ∧ (Lit.int k n).wf = true
  | .bool, as0 => ∃ b, as0 = [.sc (.bool b)]
  | .str, as0 => ∃ s : ByteArray, as0 = [.sc (.string s)] ∧ s.size ≤ maxLen
  | .slice e, as0 => ∃ es : List (List AV), as0 = [.list e.size es] ∧ es.length ≤ maxLen ∧ ∀ x, x ∈ es → e.V x
  | .strct fs, as0 => fs.V as0
def Fs.V : Fs → List AV → Prop
  | .nil, as0 => as0 = []
  | .cons s fs, as0 => ∃ x y, as0 = x ++ y ∧ s.V x ∧ fs.V y
end
theorem Sh.ok_size (P : Program) (s : Sh) (t : TypeId) (h : s.ok P t = true) : P.cellsOf t = s.size := by
  cases s <;> simp only [Sh.ok, Bool.and_eq_true, decide_eq_true_eq] at h <;> simp only [Sh.size] <;> first | exact h.1 | exact h.1.1
def Reps (w : World) (cs : List Value) (as0 : List AV) : Prop := ∀ (i : Nat) (c : Value) (a : AV), cs[i]? = some c → as0[i]? = some a → RepI w (fun b => b < w.heap.size) c a ∧ c.oneCell' = true
theorem reps_one {w : World} {c : Value} {a : AV} (h : RepI w (fun b => b < w.heap.size) c a) (h1 : c.oneCell' = true) : Reps w [c] [a] := fun i c' a' hc ha => by
  rcases i with _ | i
  · simp at hc ha
    subst hc; subst ha
    exact ⟨h, h1⟩
  · simp at hc
theorem cell_in {w : World} {a : Addr} {v : Value} (h : w.cell? a = some v) : a.block < w.heap.size := by
  simp only [World.cell?] at h
  split at h
  · rename_i hb
    exact (Array.getElem?_eq_some_iff.1 hb).1
  · cases h
theorem list_choice {α : Type} (n : Nat) (p : Nat → α → Prop) (h : ∀ i, i < n → ∃ a, p i a) : ∃ l : List α, l.length = n ∧ ∀ i a, l[i]? = some a → p i a := by
  induction n with
  | zero => exact ⟨[], rfl, by simp⟩
  | succ n ih =>
    obtain ⟨l, h1, h2⟩ := ih fun i hi => h i (by omega)
    obtain ⟨a, ha⟩ := h n (by omega)
    refine ⟨l ++ [a], by simp [h1], fun i b hb => ?_⟩
    by_cases hi : i < n
    · rw [List.getElem?_append_left (by omega)] at hb
      exact h2 i b hb
    · have : i = n := by
        have := (List.getElem?_eq_some_iff.1 hb).1
        simp at this
        omega
      subst this
      rw [List.getElem?_append_right (by omega)] at hb
      simp [h1] at hb
      subst hb
      exact ha
section
variable {H : Type} {enc : TypeId × Value → H} {P : Program} {w : World} {base : Nat} {spare : Nat → Bool} {held : Bool}
mutual
theorem Sh.rep : ∀ (s : Sh) (t : TypeId) (fuel : Nat) (cs : List Value) (x : DataW H × List MemPlace), s.ok P t = true → DataW.trod enc P w base spare held fuel t cs = some x →
    ∃ as0, s.V as0 ∧ as0.length = s.size ∧ cs.length = s.size ∧ Reps w cs as0
  | .int k, t, fuel, cs, x, hs, h => by
    simp only [Sh.ok, Bool.and_eq_true, decide_eq_true_eq] at hs
    obtain ⟨_, hs⟩ := hs
    split at hs
    · rename_i k' hu
      have := of_decide_eq_true hs
      subst this
      obtain ⟨n, rfl, _, hw⟩ := DataW.trod_int hu h
      exact ⟨[.sc (.int k' n)], ⟨n, rfl, hw⟩, rfl, rfl, reps_one .sc rfl⟩
    · cases hs
  | .bool, t, fuel, cs, x, hs, h => by
    simp only [Sh.ok, Bool.and_eq_true, decide_eq_true_eq] at hs
    obtain ⟨_, hs⟩ := hs
    split at hs
    · rename_i hu
      obtain ⟨b, rfl, _⟩ := DataW.trod_bool hu h
      exact ⟨[.sc (.bool b)], ⟨b, rfl⟩, rfl, rfl, reps_one .sc rfl⟩
    · cases hs
  | .str, t, fuel, cs, x, hs, h => by
    simp only [Sh.ok, Bool.and_eq_true, decide_eq_true_eq] at hs
    obtain ⟨_, hs⟩ := hs
    split at hs
    · rename_i hu
      obtain ⟨b, rfl, _, hl⟩ := DataW.trod_string hu h
      exact ⟨[.sc (.string b)], ⟨b, rfl, hl⟩, rfl, rfl, reps_one .sc rfl⟩
    · cases hs
  | .slice e, t, fuel, cs, x, hs, h => by
    simp only [Sh.ok, Bool.and_eq_true, decide_eq_true_eq] at hs
    obtain ⟨⟨_, hpos⟩, hs⟩ := hs
    split at hs
    · rename_i te hu
      have hsz := Sh.ok_size P e te hs
      rcases DataW.trod_slice hu h with ⟨rfl, _⟩ | ⟨a, len, cap, elems, rest, n, _, rfl, _, hb, hl, hm, hlen, hel, _, _⟩
      · exact ⟨[.list e.size []], ⟨[], rfl, by simp, by simp⟩, rfl, rfl, reps_one .listNil rfl⟩
      rcases Nat.eq_zero_or_pos len with h0 | h0
      · subst h0
        exact ⟨[.list e.size []], ⟨[], rfl, by simp, by simp⟩, rfl, rfl, reps_one .listNil rfl⟩
      obtain ⟨es, hes, hp⟩ := list_choice len (fun i (as0 : List AV) => ∃ cs', w.cells? base (a.add (i * e.size)) e.size = some cs' ∧ e.V as0 ∧ as0.length = e.size ∧ Reps w cs' as0) fun i hi => by
        have hi' : i < elems.length := by omega
        have := hel i hi
        rw [List.getElem?_eq_getElem hi', Option.bind_eq_some_iff, hsz] at this
        obtain ⟨cs', h1, h2⟩ := this
        obtain ⟨as0, h3, h4, h5, h6⟩ := Sh.rep e te n cs' _ hs h2
        exact ⟨as0, cs', h1, h3, h4, h6⟩
      have cells : ∀ (i : Nat) (x : List AV) (j : Nat) (b : AV), es[i]? = some x → x[j]? = some b → ∃ c, w.cell? (a.add (i * e.size + j)) = some c ∧ RepI w (fun b => b < w.heap.size) c b ∧ c.oneCell' = true := fun i x j b hx hj => by
        obtain ⟨cs', h1, h3, h4, h6⟩ := hp i x hx
        obtain ⟨_, hl', hc⟩ := World.cells?_some h1
        have hj' := (List.getElem?_eq_some_iff.1 hj).1
        have hcj : cs'[j]? = some (cs'[j]'(by omega)) := List.getElem?_eq_getElem (by omega)
        obtain ⟨r1, r2⟩ := h6 j _ b hcj hj
        refine ⟨_, ?_, r1, r2⟩
        have := hc j (by omega)
        rw [add_add, hcj] at this
        exact this
      have hblk : a.block < w.heap.size := by
        obtain ⟨cs', h1, h3, h4, h6⟩ := hp 0 (es[0]'(by omega)) (List.getElem?_eq_getElem (by omega))
        obtain ⟨_, hl', hc⟩ := World.cells?_some h1
        have := hc 0 hpos
        rw [List.getElem?_eq_getElem (by omega)] at this
        have := cell_in this
        rw [block_add, block_add] at this
        exact this
      refine ⟨[.list e.size es], ⟨es, rfl, by omega, fun x hx => ?_⟩, rfl, rfl, reps_one ?_ rfl⟩
      · obtain ⟨i, hi⟩ := List.getElem?_of_mem hx
        obtain ⟨_, _, h3, _⟩ := hp i x hi
        exact h3
      · refine .list (fun i j => (w.cell? (a.add (i * e.size + j))).getD undef) hes hl hblk (fun x hx => ?_) ?_ ?_ ?_
        · obtain ⟨i, hi⟩ := List.getElem?_of_mem hx
          obtain ⟨_, _, _, h4, _⟩ := hp i x hi
          exact h4
        · intro i x j b hx hj
          obtain ⟨c, h1, _⟩ := cells i x j b hx hj
          rw [h1]; rfl
        · intro i x j b hx hj
          obtain ⟨c, h1, _, h3⟩ := cells i x j b hx hj
          rw [h1]; exact h3
        · intro i x j b hx hj
          obtain ⟨c, h1, h2, _⟩ := cells i x j b hx hj
          rw [h1]; exact h2
    · cases hs
  | .strct fs, t, fuel, cs, x, hs, h => by
    simp only [Sh.ok, Bool.and_eq_true, decide_eq_true_eq] at hs
    obtain ⟨hc, hs⟩ := hs
    split at hs
    · rename_i fields hu
      obtain ⟨xs, n, _, _, hl, hxl, hf⟩ := DataW.trod_struct hu h
      obtain ⟨as0, h1, h2, h3⟩ := Fs.rep fs fields.toList 0 n cs xs hs (by simp [hxl]) (by rw [hl, hc]; simp) fun i f hi => hf i f (by simpa using hi)
      refine ⟨as0, h1, h2, by rw [hl, hc]; rfl, fun i c a hci ha => h3 i c a (by simpa using hci) ha⟩
    · cases hs
theorem Fs.rep : ∀ (fs : Fs) (fields : List Field) (off n : Nat) (cs : List Value) (xs : List (DataW H × List MemPlace)), fs.ok P fields off = true → xs.length = fields.length → cs.length = off + fs.size →
    (∀ (i : Nat) (f : Field), fields[i]? = some f → DataW.trod enc P w base spare held n f.type ((cs.drop f.offset).take (P.cellsOf f.type)) = xs[i]?) →
    ∃ as0, fs.V as0 ∧ as0.length = fs.size ∧ ∀ (i : Nat) (c : Value) (a : AV), cs[off + i]? = some c → as0[i]? = some a → RepI w (fun b => b < w.heap.size) c a ∧ c.oneCell' = true
  | .nil, fields, off, n, cs, xs, hs, hxl, hcl, hf => ⟨[], rfl, rfl, fun i c a hc ha => by simp at ha⟩
  | .cons s fs, [], off, n, cs, xs, hs, hxl, hcl, hf => by simp [Fs.ok] at hs
  | .cons s fs, f :: l, off, n, cs, [], hs, hxl, hcl, hf => by simp at hxl
  | .cons s fs, f :: l, off, n, cs, y :: xs, hs, hxl, hcl, hf => by
    simp only [Fs.ok, Bool.and_eq_true, decide_eq_true_eq] at hs
    obtain ⟨⟨h1, h2⟩, h3⟩ := hs
    have hsz := Sh.ok_size P s f.type h1
    have h0 := hf 0 f rfl
    rw [h2, hsz] at h0
    simp only [List.getElem?_cons_zero] at h0
    obtain ⟨as0, a1, a2, a3, a4⟩ := Sh.rep s f.type n _ _ h1 h0
    simp only [Fs.size] at hcl
    obtain ⟨bs, b1, b2, b3⟩ := Fs.rep fs l (off + s.size) n cs xs h3 (by simpa using hxl) (by omega) fun i g hi => by
      have := hf (i + 1) g (by simpa using hi)
      simpa using this
    refine ⟨as0 ++ bs, ⟨as0, bs, rfl, a1, b1⟩, by simp [a2, b2, Fs.size], fun i c a hc ha => ?_⟩
    by_cases hi : i < s.size
    · rw [List.getElem?_append_left (by omega)] at ha
      refine a4 i c a ?_ ha
      rw [List.getElem?_take, if_pos hi, List.getElem?_drop]
      exact hc
    · rw [List.getElem?_append_right (by omega)] at ha
      refine b3 (i - s.size) c a ?_ (by rw [← a2]; exact ha)
      rw [← hc]
      congr 1
      omega
end
def Sh.A (s : Sh) (a : AV) : Prop := match s with
  | .strct fs => ∃ cs, a = .agg cs ∧ fs.V cs
  | s => s.V [a]
theorem arg_rep {s : Sh} {t : TypeId} {r : Reach} {b0 : Nat} {v : Value} {d : DataW H} {ps : List MemPlace} (hs : s.ok P t = true) (hval : Value.okWide P w r b0 t v) (h : DataW.Trod enc P w base spare held t v d ps) :
    ∃ a, s.A a ∧ RepI w (fun b => b < w.heap.size) v a := by
  have h' := h
  obtain ⟨fuel, hf⟩ := h
  obtain ⟨as0, h1, h2, h3, h4⟩ := Sh.rep s t fuel _ _ hs hf
  have scal : s.size = 1 → v.cells.toList = [v] → ∃ a, s.V [a] ∧ RepI w (fun b => b < w.heap.size) v a := fun e hv => by
    rw [e] at h2
    match as0, h2 with
    | [a], _ =>
      rw [hv] at h4
      exact ⟨a, h1, (h4 0 _ _ rfl rfl).1⟩
  cases s with
  | strct fs =>
    unfold Value.okWide at hval
    simp only [Sh.ok, Bool.and_eq_true, decide_eq_true_eq] at hs
    obtain ⟨_, hs⟩ := hs
    split at hs
    · rename_i fields hu
      rw [hu] at hval
      obtain ⟨cs, rfl, _⟩ := hval
      refine ⟨.agg as0, ⟨as0, rfl, h1⟩, .agg ?_ fun i c a hc ha => (h4 i c a ?_ ha).1⟩
      · simp only [Value.cells, Array.length_toList] at h3
        omega
      · simpa [Value.cells] using hc
    · cases hs
  | int k =>
    simp only [Sh.ok, Bool.and_eq_true, decide_eq_true_eq] at hs
    obtain ⟨_, hs⟩ := hs
    split at hs
    · rename_i hu
      obtain ⟨m, rfl, _⟩ := open_int hu hval h'
      exact scal rfl rfl
    · cases hs
  | bool =>
    simp only [Sh.ok, Bool.and_eq_true, decide_eq_true_eq] at hs
    obtain ⟨_, hs⟩ := hs
    split at hs
    · rename_i hu
      obtain ⟨m, rfl, _⟩ := open_bool hu hval h'
      exact scal rfl rfl
    · cases hs
  | str =>
    simp only [Sh.ok, Bool.and_eq_true, decide_eq_true_eq] at hs
    obtain ⟨_, hs⟩ := hs
    split at hs
    · rename_i hu
      obtain ⟨s, hv, _⟩ := DataW.trod_string hu hf
      refine scal rfl ?_
      obtain ⟨s', rfl⟩ := okWide_string hu hval
      rfl
    · cases hs
  | slice e =>
    simp only [Sh.ok, Bool.and_eq_true, decide_eq_true_eq] at hs
    obtain ⟨_, hs⟩ := hs
    split at hs
    · rename_i te hu
      obtain ⟨A, n, c, rfl⟩ := okWide_slice hu hval
      exact scal rfl rfl
    · cases hs
def ShsA : List Sh → List AV → Prop
  | [], [] => True
  | s :: ss, a :: as0 => s.A a ∧ ShsA ss as0
  | _, _ => False
theorem shsA_cons {s : Sh} {ss : List Sh} {l : List AV} (h : ShsA (s :: ss) l) : ∃ a l', l = a :: l' ∧ s.A a ∧ ShsA ss l' := by
  cases l with
  | nil => exact h.elim
  | cons a l => exact ⟨a, l, rfl, h.1, h.2⟩
theorem shsA_nil {l : List AV} (h : ShsA [] l) : l = [] := by
  cases l with
  | nil => rfl
  | cons a l => exact h.elim
def ShsOk (P : Program) : List Sh → List TypeId → Bool
  | [], [] => true
  | s :: ss, t :: ts => s.ok P t && (P.readableRec t && decide (t < P.types.size)) && ShsOk P ss ts
  | _, _ => false
theorem args_rep {r : Reach} {b0 : Nat} : ∀ (ss : List Sh) (ts : List TypeId) (vs : List Value) (ds : List (DataW H)) (ps : List MemPlace), ShsOk P ss ts = true → (∀ (j : Nat) (t : TypeId) (v : Value), ts[j]? = some t → vs[j]? = some v → Value.okWide P w r b0 t v) →
    DataW.TrodAll enc P w base spare held ts vs ds ps → ∃ as0, ShsA ss as0 ∧ as0.length = vs.length ∧ ∀ (i : Nat) (v : Value) (a : AV), vs[i]? = some v → as0[i]? = some a → RepI w (fun b => b < w.heap.size) v a
  | [], [], vs, ds, ps, _, _, h => by
    obtain ⟨rfl, _, _⟩ := trodAll_nil h
    exact ⟨[], trivial, rfl, fun i v a hv => by simp at hv⟩
  | [], t :: ts, vs, ds, ps, hs, _, h => by simp [ShsOk] at hs
  | s :: ss, [], vs, ds, ps, hs, _, h => by simp [ShsOk] at hs
  | s :: ss, t :: ts, vs, ds, ps, hs, hval, h => by
    simp only [ShsOk, Bool.and_eq_true, decide_eq_true_eq] at hs
    match vs, ds, h with
    | v :: vs, d :: ds, ⟨p, q, h1, h2, _⟩ =>
      obtain ⟨a, a1, a2⟩ := arg_rep hs.1.1 (hval 0 t v rfl rfl) h1
      obtain ⟨as0, b1, b2, b3⟩ := args_rep ss ts vs ds q hs.2 (fun j t v ht hv => hval (j + 1) t v (by simpa using ht) (by simpa using hv)) h2
      refine ⟨a :: as0, ⟨a1, b1⟩, by simp [b2], fun i v' a' hv ha => ?_⟩
      rcases i with _ | i
      · simp at hv ha
        subst hv; subst ha
        exact a2
      · exact b3 i v' a' (by simpa using hv) (by simpa using ha)
theorem trodAll_stays (hl : laidOutB P = true) {W W' : World} {sp : Nat → Bool} : ∀ (ss : List Sh) (ts : List TypeId) (vs : List Value) (ds : List (DataW H)) (ps : List MemPlace), ShsOk P ss ts = true → DataW.TrodAll enc P W 0 (fun _ => true) true ts vs ds ps →
    (∀ p ∈ ps, W.sameAt W' p) → (∀ p ∈ ps, sp p.block = true) → DataW.TrodAll enc P W' 0 sp true ts vs ds ps
  | [], [], vs, ds, ps, _, h, _, _ => by
    obtain ⟨rfl, rfl, rfl⟩ := trodAll_nil h
    exact rfl
  | [], t :: ts, vs, ds, ps, hs, h, _, _ => by simp [ShsOk] at hs
  | s :: ss, [], vs, ds, ps, hs, h, _, _ => by simp [ShsOk] at hs
  | s :: ss, t :: ts, vs, ds, ps, hs, h, hsame, hsp => by
    simp only [ShsOk, Bool.and_eq_true, decide_eq_true_eq] at hs
    match vs, ds, h with
    | v :: vs, d :: ds, ⟨p, q, h1, h2, hp⟩ =>
      subst hp
      exact ⟨p, q, WideElems.Trod_stays hl hs.1.2.1 hs.1.2.2 h1 (fun x hx => hsame x (by simp [hx])) (fun x hx => hsp x (by simp [hx])),
        trodAll_stays hl ss ts vs ds q hs.2 h2 (fun x hx => hsame x (by simp [hx])) (fun x hx => hsp x (by simp [hx])), rfl⟩
theorem trodAll_dlen : ∀ (ts : List TypeId) (vs : List Value) (ds : List (DataW H)) (ps : List MemPlace), DataW.TrodAll enc P w base spare held ts vs ds ps → ds.length = ts.length
  | [], vs, ds, ps, h => by
    obtain ⟨_, rfl, _⟩ := trodAll_nil h
    rfl
  | t :: ts, vs, ds, ps, h => by
    match vs, ds, h with
    | v :: vs, d :: ds, ⟨p, q, _, h2, _⟩ => simp [trodAll_dlen ts vs ds q h2]
theorem list_len1 {α : Type} {l : List α} (h : l.length = 1) : ∃ a0, l = [a0] := by
  match l, h with
  | [a0], _ => exact ⟨a0, rfl⟩
end
end Go.PA
namespace Go.Proofs.YtpjecipdklcjbaaGreatDoor
open Go.PA
open Go.RowKit
def fits (n : Int) : Prop := -9223372036854775808 ≤ n ∧ n ≤ 9223372036854775807
theorem fits_wf {n : Int} (h : (Lit.int .i64 n).wf = true) : fits n := by
  simp only [Lit.wf, Bool.and_eq_true, decide_eq_true_eq] at h
  exact h
theorem of_int (as0 : List AV) (h : (Sh.int .i64).V as0) : ∃ x : Int, as0 = encI x ∧ fits x := by
  obtain ⟨n, rfl, h⟩ := h
  exact ⟨n, rfl, fits_wf h⟩
theorem of_str (as0 : List AV) (h : Sh.str.V as0) : ∃ x : ByteArray, as0 = encS x ∧ x.size ≤ maxLen := by
  obtain ⟨n, rfl, h⟩ := h
  exact ⟨n, rfl, h⟩
theorem of_list {α : Type} {enc : α → List AV} {wf : α → Prop} {s : Sh} (h : ∀ as0, s.V as0 → ∃ x : α, as0 = enc x ∧ wf x) : ∀ es : List (List AV), (∀ x, x ∈ es → s.V x) → ∃ l : List α, es = encL enc l ∧ ∀ z, z ∈ l → wf z
  | [], _ => ⟨[], rfl, by simp⟩
  | e :: es, he => by
    obtain ⟨a, rfl, ha⟩ := h e (he e (by simp))
    obtain ⟨l, rfl, hl⟩ := of_list h es fun x hx => he x (List.mem_cons_of_mem _ hx)
    refine ⟨a :: l, rfl, fun z hz => ?_⟩
    rcases List.mem_cons.1 hz with rfl | hz
    · exact ha
    · exact hl z hz
theorem of_slice {α : Type} {enc : α → List AV} {wf : α → Prop} (s : Sh) (h : ∀ as0, s.V as0 → ∃ x : α, as0 = enc x ∧ wf x) (as0 : List AV) (hs : (Sh.slice s).V as0) : ∃ l : List α, as0 = [.list s.size (encL enc l)] ∧ (l.length ≤ maxLen ∧ ∀ z, z ∈ l → wf z) := by
  obtain ⟨es, rfl, hl, he⟩ := hs
  obtain ⟨l, rfl, hw⟩ := of_list h es he
  exact ⟨l, rfl, by simpa [encL] using hl, hw⟩
def TSub.shF : Fs := .cons (.int .i64) <| .cons (.int .i64) <|  .nil
def TSub.wf (x : TSub) : Prop := fits x.ID ∧ fits x.Balance
theorem TSub.of (as0 : List AV) (h : (Sh.strct TSub.shF).V as0) : ∃ x : TSub, as0 = x.cells ∧ x.wf := by
  obtain ⟨_, _, rfl, h0, _, _, rfl, h1, rfl⟩ := h
  obtain ⟨x0, rfl, w0⟩ := of_int _ h0
  obtain ⟨x1, rfl, w1⟩ := of_int _ h1
  exact ⟨⟨x0, x1⟩, rfl, w0, w1⟩
def TEntry.shF : Fs := .cons (.int .i64) <| .cons (.int .i64) <| .cons (.int .i64) <| .cons (.int .i64) <| .cons (.int .i64) <| .cons (.int .i64) <|  .nil
def TEntry.wf (x : TEntry) : Prop := fits x.Number ∧ fits x.Day ∧ fits x.From ∧ fits x.To ∧ fits x.Amount ∧ fits x.Ref
theorem TEntry.of (as0 : List AV) (h : (Sh.strct TEntry.shF).V as0) : ∃ x : TEntry, as0 = x.cells ∧ x.wf := by
  obtain ⟨_, _, rfl, h0, _, _, rfl, h1, _, _, rfl, h2, _, _, rfl, h3, _, _, rfl, h4, _, _, rfl, h5, rfl⟩ := h
  obtain ⟨x0, rfl, w0⟩ := of_int _ h0
  obtain ⟨x1, rfl, w1⟩ := of_int _ h1
  obtain ⟨x2, rfl, w2⟩ := of_int _ h2
  obtain ⟨x3, rfl, w3⟩ := of_int _ h3
  obtain ⟨x4, rfl, w4⟩ := of_int _ h4
  obtain ⟨x5, rfl, w5⟩ := of_int _ h5
  exact ⟨⟨x0, x1, x2, x3, x4, x5⟩, rfl, w0, w1, w2, w3, w4, w5⟩
def TAccount.shF : Fs := .cons (.int .i64) <| .cons (.slice (.strct TSub.shF)) <| .cons (.slice (.strct TEntry.shF)) <|  .nil
def TAccount.wf (x : TAccount) : Prop := fits x.Credit ∧ (x.Subs.length ≤ maxLen ∧ ∀ z, z ∈ x.Subs → z.wf) ∧ (x.Entries.length ≤ maxLen ∧ ∀ z, z ∈ x.Entries → z.wf)
theorem TAccount.of (as0 : List AV) (h : (Sh.strct TAccount.shF).V as0) : ∃ x : TAccount, as0 = x.cells ∧ x.wf := by
  obtain ⟨_, _, rfl, h0, _, _, rfl, h1, _, _, rfl, h2, rfl⟩ := h
  obtain ⟨x0, rfl, w0⟩ := of_int _ h0
  obtain ⟨x1, rfl, w1⟩ := (of_slice (.strct TSub.shF) TSub.of) _ h1
  obtain ⟨x2, rfl, w2⟩ := (of_slice (.strct TEntry.shF) TEntry.of) _ h2
  exact ⟨⟨x0, x1, x2⟩, rfl, w0, w1, w2⟩
def TPayment.shF : Fs := .cons (.int .i64) <| .cons (.int .i64) <| .cons (.int .i64) <| .cons (.int .i64) <| .cons (.int .i64) <|  .nil
def TPayment.wf (x : TPayment) : Prop := fits x.Warrant ∧ fits x.Payee ∧ fits x.Amount ∧ fits x.Due ∧ fits x.Sub
theorem TPayment.of (as0 : List AV) (h : (Sh.strct TPayment.shF).V as0) : ∃ x : TPayment, as0 = x.cells ∧ x.wf := by
  obtain ⟨_, _, rfl, h0, _, _, rfl, h1, _, _, rfl, h2, _, _, rfl, h3, _, _, rfl, h4, rfl⟩ := h
  obtain ⟨x0, rfl, w0⟩ := of_int _ h0
  obtain ⟨x1, rfl, w1⟩ := of_int _ h1
  obtain ⟨x2, rfl, w2⟩ := of_int _ h2
  obtain ⟨x3, rfl, w3⟩ := of_int _ h3
  obtain ⟨x4, rfl, w4⟩ := of_int _ h4
  exact ⟨⟨x0, x1, x2, x3, x4⟩, rfl, w0, w1, w2, w3, w4⟩
def TBatch.shF : Fs := .cons (.int .i64) <| .cons (.int .i64) <| .cons (.slice (.strct TPayment.shF)) <|  .nil
def TBatch.wf (x : TBatch) : Prop := fits x.Number ∧ fits x.Day ∧ (x.Payments.length ≤ maxLen ∧ ∀ z, z ∈ x.Payments → z.wf)
theorem TBatch.of (as0 : List AV) (h : (Sh.strct TBatch.shF).V as0) : ∃ x : TBatch, as0 = x.cells ∧ x.wf := by
  obtain ⟨_, _, rfl, h0, _, _, rfl, h1, _, _, rfl, h2, rfl⟩ := h
  obtain ⟨x0, rfl, w0⟩ := of_int _ h0
  obtain ⟨x1, rfl, w1⟩ := of_int _ h1
  obtain ⟨x2, rfl, w2⟩ := (of_slice (.strct TPayment.shF) TPayment.of) _ h2
  exact ⟨⟨x0, x1, x2⟩, rfl, w0, w1, w2⟩
def TQueue.shF : Fs := .cons (.slice (.strct TPayment.shF)) <| .cons (.slice (.int .i64)) <| .cons (.slice (.strct TBatch.shF)) <|  .nil
def TQueue.wf (x : TQueue) : Prop := (x.Waiting.length ≤ maxLen ∧ ∀ z, z ∈ x.Waiting → z.wf) ∧ (x.Known.length ≤ maxLen ∧ ∀ z, z ∈ x.Known → fits z) ∧ (x.Batches.length ≤ maxLen ∧ ∀ z, z ∈ x.Batches → z.wf)
theorem TQueue.of (as0 : List AV) (h : (Sh.strct TQueue.shF).V as0) : ∃ x : TQueue, as0 = x.cells ∧ x.wf := by
  obtain ⟨_, _, rfl, h0, _, _, rfl, h1, _, _, rfl, h2, rfl⟩ := h
  obtain ⟨x0, rfl, w0⟩ := (of_slice (.strct TPayment.shF) TPayment.of) _ h0
  obtain ⟨x1, rfl, w1⟩ := (of_slice (.int .i64) of_int) _ h1
  obtain ⟨x2, rfl, w2⟩ := (of_slice (.strct TBatch.shF) TBatch.of) _ h2
  exact ⟨⟨x0, x1, x2⟩, rfl, w0, w1, w2⟩
def TItem.shF : Fs := .cons (.strct TPayment.shF) <| .cons (.int .i64) <| .cons (.int .i64) <|  .nil
def TItem.wf (x : TItem) : Prop := x.Payment.wf ∧ fits x.State ∧ fits x.Attempts
theorem TItem.of (as0 : List AV) (h : (Sh.strct TItem.shF).V as0) : ∃ x : TItem, as0 = x.cells ∧ x.wf := by
  obtain ⟨_, _, rfl, h0, _, _, rfl, h1, _, _, rfl, h2, rfl⟩ := h
  obtain ⟨x0, rfl, w0⟩ := TPayment.of _ h0
  obtain ⟨x1, rfl, w1⟩ := of_int _ h1
  obtain ⟨x2, rfl, w2⟩ := of_int _ h2
  exact ⟨⟨x0, x1, x2⟩, rfl, w0, w1, w2⟩
def TDesk.shF : Fs := .cons (.strct TAccount.shF) <| .cons (.strct TQueue.shF) <| .cons (.slice (.strct TItem.shF)) <|  .nil
def TDesk.wf (x : TDesk) : Prop := x.Account.wf ∧ x.Queue.wf ∧ (x.Items.length ≤ maxLen ∧ ∀ z, z ∈ x.Items → z.wf)
theorem TDesk.of (as0 : List AV) (h : (Sh.strct TDesk.shF).V as0) : ∃ x : TDesk, as0 = x.cells ∧ x.wf := by
  obtain ⟨_, _, rfl, h0, _, _, rfl, h1, _, _, rfl, h2, rfl⟩ := h
  obtain ⟨x0, rfl, w0⟩ := TAccount.of _ h0
  obtain ⟨x1, rfl, w1⟩ := TQueue.of _ h1
  obtain ⟨x2, rfl, w2⟩ := (of_slice (.strct TItem.shF) TItem.of) _ h2
  exact ⟨⟨x0, x1, x2⟩, rfl, w0, w1, w2⟩
def TFlow.shF : Fs := .cons (.int .i64) <| .cons (.int .i64) <| .cons (.int .i64) <| .cons (.int .i64) <|  .nil
def TFlow.wf (x : TFlow) : Prop := fits x.Day ∧ fits x.Amount ∧ fits x.Kind ∧ fits x.Ref
theorem TFlow.of (as0 : List AV) (h : (Sh.strct TFlow.shF).V as0) : ∃ x : TFlow, as0 = x.cells ∧ x.wf := by
  obtain ⟨_, _, rfl, h0, _, _, rfl, h1, _, _, rfl, h2, _, _, rfl, h3, rfl⟩ := h
  obtain ⟨x0, rfl, w0⟩ := of_int _ h0
  obtain ⟨x1, rfl, w1⟩ := of_int _ h1
  obtain ⟨x2, rfl, w2⟩ := of_int _ h2
  obtain ⟨x3, rfl, w3⟩ := of_int _ h3
  exact ⟨⟨x0, x1, x2, x3⟩, rfl, w0, w1, w2, w3⟩
def TClaim.shF : Fs := .cons (.int .i64) <| .cons (.int .i64) <| .cons (.int .i64) <| .cons (.int .i64) <| .cons (.int .i64) <| .cons (.str) <|  .nil
def TClaim.wf (x : TClaim) : Prop := fits x.ID ∧ fits x.Payer ∧ fits x.Amount ∧ fits x.Open ∧ fits x.Day ∧ x.Code.size ≤ maxLen
theorem TClaim.of (as0 : List AV) (h : (Sh.strct TClaim.shF).V as0) : ∃ x : TClaim, as0 = x.cells ∧ x.wf := by
  obtain ⟨_, _, rfl, h0, _, _, rfl, h1, _, _, rfl, h2, _, _, rfl, h3, _, _, rfl, h4, _, _, rfl, h5, rfl⟩ := h
  obtain ⟨x0, rfl, w0⟩ := of_int _ h0
  obtain ⟨x1, rfl, w1⟩ := of_int _ h1
  obtain ⟨x2, rfl, w2⟩ := of_int _ h2
  obtain ⟨x3, rfl, w3⟩ := of_int _ h3
  obtain ⟨x4, rfl, w4⟩ := of_int _ h4
  obtain ⟨x5, rfl, w5⟩ := of_str _ h5
  exact ⟨⟨x0, x1, x2, x3, x4, x5⟩, rfl, w0, w1, w2, w3, w4, w5⟩
def TIncome.shF : Fs := .cons (.int .i64) <| .cons (.int .i64) <| .cons (.int .i64) <| .cons (.int .i64) <| .cons (.int .i64) <|  .nil
def TIncome.wf (x : TIncome) : Prop := fits x.Number ∧ fits x.Day ∧ fits x.Payer ∧ fits x.Amount ∧ fits x.Claim
theorem TIncome.of (as0 : List AV) (h : (Sh.strct TIncome.shF).V as0) : ∃ x : TIncome, as0 = x.cells ∧ x.wf := by
  obtain ⟨_, _, rfl, h0, _, _, rfl, h1, _, _, rfl, h2, _, _, rfl, h3, _, _, rfl, h4, rfl⟩ := h
  obtain ⟨x0, rfl, w0⟩ := of_int _ h0
  obtain ⟨x1, rfl, w1⟩ := of_int _ h1
  obtain ⟨x2, rfl, w2⟩ := of_int _ h2
  obtain ⟨x3, rfl, w3⟩ := of_int _ h3
  obtain ⟨x4, rfl, w4⟩ := of_int _ h4
  exact ⟨⟨x0, x1, x2, x3, x4⟩, rfl, w0, w1, w2, w3, w4⟩
def TMatch.shF : Fs := .cons (.int .i64) <| .cons (.int .i64) <| .cons (.int .i64) <|  .nil
def TMatch.wf (x : TMatch) : Prop := fits x.Income ∧ fits x.Claim ∧ fits x.Amount
theorem TMatch.of (as0 : List AV) (h : (Sh.strct TMatch.shF).V as0) : ∃ x : TMatch, as0 = x.cells ∧ x.wf := by
  obtain ⟨_, _, rfl, h0, _, _, rfl, h1, _, _, rfl, h2, rfl⟩ := h
  obtain ⟨x0, rfl, w0⟩ := of_int _ h0
  obtain ⟨x1, rfl, w1⟩ := of_int _ h1
  obtain ⟨x2, rfl, w2⟩ := of_int _ h2
  exact ⟨⟨x0, x1, x2⟩, rfl, w0, w1, w2⟩
def TCash.shF : Fs := .cons (.slice (.strct TClaim.shF)) <| .cons (.slice (.strct TIncome.shF)) <| .cons (.slice (.strct TMatch.shF)) <| .cons (.slice (.int .i64)) <|  .nil
def TCash.wf (x : TCash) : Prop := (x.Claims.length ≤ maxLen ∧ ∀ z, z ∈ x.Claims → z.wf) ∧ (x.Incomes.length ≤ maxLen ∧ ∀ z, z ∈ x.Incomes → z.wf) ∧ (x.Matches.length ≤ maxLen ∧ ∀ z, z ∈ x.Matches → z.wf) ∧ (x.Loose.length ≤ maxLen ∧ ∀ z, z ∈ x.Loose → fits z)
theorem TCash.of (as0 : List AV) (h : (Sh.strct TCash.shF).V as0) : ∃ x : TCash, as0 = x.cells ∧ x.wf := by
  obtain ⟨_, _, rfl, h0, _, _, rfl, h1, _, _, rfl, h2, _, _, rfl, h3, rfl⟩ := h
  obtain ⟨x0, rfl, w0⟩ := (of_slice (.strct TClaim.shF) TClaim.of) _ h0
  obtain ⟨x1, rfl, w1⟩ := (of_slice (.strct TIncome.shF) TIncome.of) _ h1
  obtain ⟨x2, rfl, w2⟩ := (of_slice (.strct TMatch.shF) TMatch.of) _ h2
  obtain ⟨x3, rfl, w3⟩ := (of_slice (.int .i64) of_int) _ h3
  exact ⟨⟨x0, x1, x2, x3⟩, rfl, w0, w1, w2, w3⟩
def TPosition.shF : Fs := .cons (.int .i64) <| .cons (.int .i64) <|  .nil
def TPosition.wf (x : TPosition) : Prop := fits x.Day ∧ fits x.Amount
theorem TPosition.of (as0 : List AV) (h : (Sh.strct TPosition.shF).V as0) : ∃ x : TPosition, as0 = x.cells ∧ x.wf := by
  obtain ⟨_, _, rfl, h0, _, _, rfl, h1, rfl⟩ := h
  obtain ⟨x0, rfl, w0⟩ := of_int _ h0
  obtain ⟨x1, rfl, w1⟩ := of_int _ h1
  exact ⟨⟨x0, x1⟩, rfl, w0, w1⟩
def TTax.shF : Fs := .cons (.str) <| .cons (.int .i64) <| .cons (.int .i64) <| .cons (.int .i64) <| .cons (.int .i64) <| .cons (.int .i64) <| .cons (.int .i64) <| .cons (.int .i64) <|  .nil
def TTax.wf (x : TTax) : Prop := x.Code.size ≤ maxLen ∧ fits x.Payer ∧ fits x.Base ∧ fits x.Num ∧ fits x.Den ∧ fits x.First ∧ fits x.Every ∧ fits x.Times
theorem TTax.of (as0 : List AV) (h : (Sh.strct TTax.shF).V as0) : ∃ x : TTax, as0 = x.cells ∧ x.wf := by
  obtain ⟨_, _, rfl, h0, _, _, rfl, h1, _, _, rfl, h2, _, _, rfl, h3, _, _, rfl, h4, _, _, rfl, h5, _, _, rfl, h6, _, _, rfl, h7, rfl⟩ := h
  obtain ⟨x0, rfl, w0⟩ := of_str _ h0
  obtain ⟨x1, rfl, w1⟩ := of_int _ h1
  obtain ⟨x2, rfl, w2⟩ := of_int _ h2
  obtain ⟨x3, rfl, w3⟩ := of_int _ h3
  obtain ⟨x4, rfl, w4⟩ := of_int _ h4
  obtain ⟨x5, rfl, w5⟩ := of_int _ h5
  obtain ⟨x6, rfl, w6⟩ := of_int _ h6
  obtain ⟨x7, rfl, w7⟩ := of_int _ h7
  exact ⟨⟨x0, x1, x2, x3, x4, x5, x6, x7⟩, rfl, w0, w1, w2, w3, w4, w5, w6, w7⟩
open Go.ChangeShapes Go.WideShapes Go.ChangeAt Go.RowKit
open Go.PA (RepI PFun AV Rep Sh ShsA Fs)
theorem arg_ints {a : AV} (h : (Sh.slice (.int .i64)).A a) : ∃ l : List Int, a = intsL l ∧ Small l ∧ l.length ≤ 9223372036854775807 := by
  obtain ⟨l, e, hl, hw⟩ := of_slice (.int .i64) of_int [a] h
  have hml : maxLen ≤ 9223372036854775807 := by decide
  simp only [List.cons.injEq, and_true] at e
  exact ⟨l, e, hw, by omega⟩
end Go.Proofs.YtpjecipdklcjbaaGreatDoor
set_option maxRecDepth 100000
namespace Go.Proofs.YtpjecipdklcjbaaGreatDoor
open Go.RowKit Go.WideShapes Go.ChangeShapes
open Go.PA (RepI PFun AV Rep GlobOk)
theorem gES : Tryz.prog.globalNamed "strconv.ErrSyntax" = some 0 := by kernel_rfl
theorem gER : Tryz.prog.globalNamed "strconv.ErrRange" = some 1 := by kernel_rfl
theorem gEST : (Tryz.prog.globals[0]?).map (·.type) = some 235 := by kernel_rfl
theorem gERT : (Tryz.prog.globals[1]?).map (·.type) = some 235 := by kernel_rfl
theorem cellsES : Tryz.prog.cellsOf 280 = 1 := by kernel_rfl
theorem cellsStr : Tryz.prog.cellsOf 9 = 1 := by kernel_rfl
theorem starES : "*" ++ "errors.errorString" = "*errors.errorString" := by decide
theorem rowES (u : TypeId) (h : Tryz.prog.typeName? 3 u = some "*errors.errorString") : u = 278 :=
  typeName_ptr_named (nm := "errors.errorString") (by rw [starES]; kernel_rfl) (by kernel_rfl) (by decide) u (by rw [starES]; exact h)
theorem lt_of_cell {W : World} {g : Nat} {v : Value} (h : W.cell? ⟨g, 0, none⟩ = some v) : g < W.heap.size := by
  rcases Nat.lt_or_ge g W.heap.size with h' | h'
  · exact h'
  · simp [World.cell?, Array.getElem?_eq_none h'] at h
theorem glob_ok {W : World} (h : laidMetH Tryz.prog Rows.forecastPaidRow.laid W) : GlobOk (fun b => b < W.heap.size) W := by
  rw [MakeChecks.laidMetH_plain _ _ _ (by kernel_rfl)] at h
  have h4 := h.tail.tail.tail.tail
  obtain ⟨a0, s0, hv0, -, -, -⟩ := laid_sentinel h4 gER gERT Tryz.underlying235 rowES Tryz.underlying278 Tryz.underlying280 rfl rfl Tryz.underlying9 cellsES cellsStr
  obtain ⟨a1, s1, hv1, -, -, -⟩ := laid_sentinel h4.tail gES gEST Tryz.underlying235 rowES Tryz.underlying278 Tryz.underlying280 rfl rfl Tryz.underlying9 cellsES cellsStr
  have h0 : W.cell? ⟨1, 0, none⟩ = some (.iface 278 (.pointer (some a0))) := by simpa using World.var?_cell gER hv0 0
  have h1 : W.cell? ⟨0, 0, none⟩ = some (.iface 278 (.pointer (some a1))) := by simpa using World.var?_cell gES hv1 0
  intro g hg
  simp only [Go.PA.globs, List.mem_cons, List.not_mem_nil, or_false] at hg
  rcases hg with rfl | rfl
  · exact ⟨lt_of_cell h1, _, _, h1⟩
  · exact ⟨lt_of_cell h0, _, _, h0⟩
open Go.PA
open Go.RowKit
theorem isNaN_pf (x : Int) : PFun Tryz.prog none none 119 [iv x] (· = bv false) := by
  refine pfun_intro Tryz.func119 rfl (by simp [Tryz.f119]) (by kernel_rfl) ?_
  intro E hP hr hs hW hN
  simp [go_sem, hP]
def cmpI (x y : Int) : Int := if x < y then -1 else if y < x then 1 else 0
theorem compare_pf (x y : Int) : PFun Tryz.prog none none 70 [iv x, iv y] (· = iv (cmpI x y)) := by
  refine pfun_intro Tryz.func70 rfl (by simp [Tryz.f70]) (by kernel_rfl) ?_
  intro E hP hr hs hW hN
  simp [go_sem, hP]
  refine callB_pure (isNaN_pf x) hP en_119 (args_same (by simp [go_sem])) .sc ?_
  simp [go_sem, hP]
  refine callB_pure (isNaN_pf y) hP en_119 (args_same (by simp [go_sem])) .sc ?_
  simp [go_sem, hP]
  refine condP (fun h => ?_) (fun h => ?_)
  · have h : x < y := by simpa using h
    simp [go_sem, hP, cmpI, h]
  · have h : ¬ x < y := by simpa using h
    simp [go_sem, hP]
    refine condP (fun h' => ?_) (fun h' => ?_)
    · have h' : y < x := by simpa using h'
      simp [go_sem, hP, cmpI, h, h']
    · have h' : ¬ y < x := by simpa using h'
      simp [go_sem, hP, cmpI, h, h']
def orI : List Int → Int
  | [] => 0
  | x :: l => if x = 0 then orI l else x
theorem orI_drop (l : List Int) (k : Nat) (h : k < l.length) : orI (l.drop k) = if l[k] = 0 then orI (l.drop (k + 1)) else l[k] := by
  rw [List.drop_eq_getElem_cons h]; rfl
theorem or_pf (l : List Int) (hl : l.length ≤ 1000) : PFun Tryz.prog none none 96 [intsL l] (· = iv (orI l)) := by
  refine pfun_intro Tryz.func96 rfl (by simp [Tryz.f96]) (by kernel_rfl) ?_
  intro E hP hr hs hW hN
  simp [go_sem, hP, intsL]
  refine aloop0 (fun m s => ∃ k : Nat, k ≤ l.length ∧ m = l.length - k ∧ orI l = orI (l.drop k) ∧ s.t 3 = iv 0 ∧ s.t 6 = intsL l ∧ s.t 7 = iv l.length ∧ s.t 8 = iv k) l.length (by rw [hN]; rfl) ?_ ?_
  · exact ⟨0, by omega, by omega, by simp, by simp [go_sem], by simp [go_sem, intsL], by simp [go_sem], by simp [go_sem]⟩
  rintro m s ⟨k, hk, hm, ho, t3, t6, t7, t8⟩
  simp [go_sem, hP, t7, t8]
  refine condP (fun h => ?_) (fun h => ?_)
  · have hk : k < l.length := by simpa using h
    rw [orI_drop l k hk] at ho
    have w := wrap_in ((k : Int) + 1) (by omega)
    simp [go_sem, hP, t3, t6, t7, t8, intsL, hk]
    by_cases h0 : l[k] = 0
    · simp [go_sem, hP, h0, t8, w]
      rw [if_pos h0] at ho
      exact ⟨l.length - (k + 1), by omega, k + 1, by omega, rfl, ho, t3, t6, t7, rfl⟩
    · simp [go_sem, hP, h0]
      rw [if_neg h0] at ho
      exact ho.symm
  · have hk : l.length ≤ k := by simpa using h
    simp [go_sem, hP, t3]
    rw [ho, List.drop_eq_nil_of_le hk]
    rfl
open Go.PA
open Go.RowKit
def rins {α : Type} (lt : α → α → Bool) (x : α) : List α → List α
  | [] => [x]
  | y :: ys => if lt x y then y :: rins lt x ys else x :: y :: ys
def rsort {α : Type} (lt : α → α → Bool) (l : List α) : List α := l.foldl (fun acc x => rins lt x acc) []
def isort {α : Type} (lt : α → α → Bool) (l : List α) : List α := (rsort lt l).reverse
theorem rins_len {α : Type} (lt : α → α → Bool) (x : α) : ∀ l : List α, (rins lt x l).length = l.length + 1
  | [] => rfl
  | y :: ys => by
    simp only [rins]
    split
    · simp [rins_len lt x ys]
    · simp
theorem rsort_snoc {α : Type} (lt : α → α → Bool) (l : List α) (x : α) : rsort lt (l ++ [x]) = rins lt x (rsort lt l) := by simp [rsort]
theorem foldl_rins_len {α : Type} (lt : α → α → Bool) : ∀ (l acc : List α), (l.foldl (fun acc x => rins lt x acc) acc).length = acc.length + l.length
  | [], acc => by simp
  | x :: l, acc => by rw [List.foldl_cons, foldl_rins_len lt l, rins_len]; simp; omega
theorem rsort_len {α : Type} (lt : α → α → Bool) (l : List α) : (rsort lt l).length = l.length := by simp [rsort, foldl_rins_len]
theorem isort_len {α : Type} (lt : α → α → Bool) (l : List α) : (isort lt l).length = l.length := by simp [isort, rsort_len]
theorem set_swap {β : Type} (L M : List β) (x y : β) (j : Nat) (hj : j = L.length + 1) : ((L ++ y :: x :: M).set j y).set (j - 1) x = L ++ x :: y :: M := by
  subst hj
  rw [List.set_append_right _ _ (by omega), List.set_append_right _ _ (by omega)]
  simp
section
variable {α : Type} (enc : α → List AV) (lt : α → α → Bool) (g : FuncId)
def CmpOk : Prop := (∀ a, (enc a).length = 4) ∧ (∀ a c, c ∈ enc a → Imm c ∧ c.cellish = true) ∧ enterable Tryz.prog g = true ∧ ∀ a b, PFun Tryz.prog none none g [.agg (enc a), .agg (enc b)] (fun r => ∃ i : Int, r = iv i ∧ decide (i < 0) = lt a b)
set_option maxRecDepth 4000 in
theorem insertion_m {row src : Option Nat} (hc : CmpOk enc lt g) (pre l post : List α) (H : Heap) (id a b n : Nat) (ha : a = pre.length) (hb : b = pre.length + l.length) (hn : n = pre.length + l.length + post.length) (hb9 : n ≤ 1000000000)
    (hH : H[id]? = some (some ⟨42, 4, encL enc (pre ++ l ++ post)⟩)) :
    MFun Tryz.prog row src 188 [.sref id 0 n, iv a, iv b, .fn g []] H (fun _ H' => H' = H.set id (some ⟨42, 4, encL enc (pre ++ isort lt l ++ post)⟩)) := by
  obtain ⟨hk, him, hen, hcmp⟩ := hc
  refine mfun_intro Tryz.func188 rfl (by simp [Tryz.f188]) (by kernel_rfl) ⟨.tup [], _, rfl⟩ ?_
  intro E hP hr hs hN
  have w1 := wrap_in ((a : Int) + 1) (by omega)
  have hlt : id < H.length := (List.getElem?_eq_some_iff.1 hH).1
  have hself : H.set id (some ⟨42, 4, encL enc (pre ++ l ++ post)⟩) = H := by
    apply List.ext_getElem?
    intro j
    rw [List.getElem?_set]
    split
    · rename_i h; subst h; rw [hH]
    · rfl
  simp [go_sem, hP, w1]
  obtain ⟨I, hI⟩ : ∃ I : Nat → St → Prop, I = fun m s => ∃ i : Nat, a + 1 ≤ i ∧ (i ≤ b ∨ l = [] ∧ i = a + 1) ∧ m = b - i ∧ s.t 0 = .sref id 0 n ∧ s.t 1 = iv a ∧ s.t 2 = iv b ∧ s.t 3 = .fn g [] ∧ s.t 8 = iv i ∧
    s.H = H.set id (some ⟨42, 4, encL enc (pre ++ ((rsort lt (l.take (i - a))).reverse ++ l.drop (i - a)) ++ post)⟩) := ⟨_, rfl⟩
  refine aloop0 I (b - (a + 1)) (by rw [hN]; rfl) ?_ ?_
  · rw [hI]
    refine ⟨a + 1, by omega, ?_, rfl, ?_⟩
    · cases l with
      | nil => exact .inr ⟨rfl, rfl⟩
      | cons x l => exact .inl (by simp at hb; omega)
    · refine ⟨by simp [go_sem], by simp [go_sem], by simp [go_sem], by simp [go_sem], by simp [go_sem], ?_⟩
      have e : (rsort lt (l.take 1)).reverse ++ l.drop 1 = l := by
        cases l with
        | nil => rfl
        | cons x l => simp [rsort, rins]
      rw [show a + 1 - a = 1 from by omega, e]
      exact hself.symm
  intro m s hs'
  rw [hI] at hs'
  obtain ⟨i, h1, h2, hm, t0, t1, t2, t3, t8, sH⟩ := hs'
  simp [go_sem, hP, t8, t2]
  refine condP (fun h => ?_) (fun h => ?_)
  · have hib : i < b := by simpa using h
    have hil : i - a < l.length := by omega
    simp [go_sem, hP, t8, t2]
    obtain ⟨x, hx⟩ : ∃ x, x = l[i - a] := ⟨_, rfl⟩
    obtain ⟨P, hPd⟩ : ∃ P, P = rsort lt (l.take (i - a)) := ⟨_, rfl⟩
    obtain ⟨R, hR⟩ : ∃ R, R = l.drop (i - a + 1) := ⟨_, rfl⟩
    have hPl : P.length = i - a := by rw [hPd, rsort_len]; simp; omega
    have hRl : R.length + (i - a) + 1 = l.length := by rw [hR]; simp; omega
    have w9 := wrap_in ((i : Int) + 1) (by omega)
    obtain ⟨J, hJ⟩ : ∃ J : Nat → St → Prop, J = fun m s => ∃ (A B : List α), m = A.length ∧ A.length + B.length = i - a ∧ rins lt x P = B.reverse ++ rins lt x A.reverse ∧ s.t 0 = .sref id 0 n ∧ s.t 1 = iv a ∧ s.t 2 = iv b ∧ s.t 3 = .fn g [] ∧ s.t 8 = iv i ∧ s.t 9 = iv (a + A.length : Nat) ∧
      s.H = H.set id (some ⟨42, 4, encL enc (pre ++ (A ++ x :: B ++ R) ++ post)⟩) := ⟨_, rfl⟩
    refine aloop0 J (i - a) (by rw [hN]; rfl) ?_ ?_
    · rw [hJ]
      refine ⟨P.reverse, [], by simp [hPl], by simp [hPl], by simp, by simp [go_sem, t0], by simp [go_sem, t1], by simp [go_sem, t2], by simp [go_sem, t3], by simp [go_sem, t8], ?_, ?_⟩
      · simp [go_sem, hPl]; omega
      simp only [sH, ← hPd]
      rw [List.drop_eq_getElem_cons hil, ← hx, ← hR]
      simp
    intro m s hs'
    rw [hJ] at hs'
    obtain ⟨A, B, hm', hAB, hins, t0, t1, t2, t3, t8, t9, sH⟩ := hs'
    simp [go_sem, hP]
    refine adrawB (fun _ => true) [] hP (by kernel_rfl) (by kernel_rfl) ?_
    have stop : rins lt x P = B.reverse ++ x :: A.reverse → s.H = H.set id (some ⟨42, 4, encL enc (pre ++ ((rsort lt (l.take (i + 1 - a))).reverse ++ l.drop (i + 1 - a)) ++ post)⟩) := fun h => by
      have e1 : l.take (i + 1 - a) = l.take (i - a) ++ [x] := by rw [show i + 1 - a = i - a + 1 from by omega, List.take_succ_eq_append_getElem hil, ← hx]
      have e2 : l.drop (i + 1 - a) = R := by rw [hR]; congr 1; omega
      rw [e1, e2, rsort_snoc, ← hPd, h, sH]
      simp
    rcases List.eq_nil_or_concat A with rfl | ⟨A', y, rfl⟩
    · have st := stop (by simpa [rins] using hins)
      simp only [List.length_nil, Nat.add_zero] at t9
      simp [go_sem, hP, t9, t1, t8, w9]
      rw [hI]
      exact ⟨b - (i + 1), by omega, i + 1, by omega, .inl (by omega), rfl, by simp [go_sem, t0], by simp [go_sem, t1], by simp [go_sem, t2], by simp [go_sem, t3], by simp [go_sem], st⟩
    · rw [List.concat_eq_append] at *
      obtain ⟨M, hM⟩ : ∃ M, M = encL enc (B ++ R ++ post) := ⟨_, rfl⟩
      obtain ⟨L, hL⟩ : ∃ L, L = encL enc (pre ++ A') := ⟨_, rfl⟩
      have ecs : encL enc (pre ++ ((A' ++ [y]) ++ x :: B ++ R) ++ post) = L ++ enc y :: enc x :: M := by rw [hM, hL]; simp [encL]
      have ecs2 : encL enc (pre ++ (A' ++ x :: y :: B ++ R) ++ post) = L ++ enc x :: enc y :: M := by rw [hM, hL]; simp [encL]
      rw [ecs] at sH
      obtain ⟨j, hj⟩ : ∃ j, j = L.length := ⟨_, rfl⟩
      have hj2 : j = pre.length + A'.length := by rw [hj, hL]; simp [encL]
      have t9 : s.t 9 = iv ((j : Int) + 1) := by rw [t9, hj2, ha]; simp; omega
      simp at hAB
      have hjN : j + 1 < n := by omega
      obtain ⟨cs, hcs⟩ : ∃ cs, cs = L ++ enc y :: enc x :: M := ⟨_, rfl⟩
      have hcl : cs.length = n := by rw [hcs, ← ecs]; simp [encL]; omega
      have hcy : ∀ h : j < cs.length, cs[j]'h = enc y := fun h => by subst hcs; subst hj; simp
      have hcx : ∀ h : j + 1 < cs.length, cs[j + 1]'h = enc x := fun h => by subst hcs; subst hj; simp
      have hk4 : ∀ z, (enc z).take 4 = enc z := fun z => List.take_of_length_le (by rw [hk]; omega)
      have ht : ((j : Int) + 1).toNat = j + 1 := by omega
      have hd : decide ((a : Int) < (j : Int) + 1) = true := by simp; omega
      have hjN' : (j : Int) + 1 < n := by omega
      have hj0 : (0 : Int) ≤ (j : Int) + 1 := by omega
      have hjn : j < n := by omega
      have w2 := wrap_in ((j : Int) + 1 - 1) (by omega)
      rw [Int.add_sub_cancel] at w2
      rw [← hcs] at sH
      have hHid : s.H[id]? = some (some ⟨42, 4, cs⟩) := by rw [sH]; simp [hlt]
      simp [go_sem, hP, t9, t1, t0, t3, hd, hHid, hcy, hcx, ht, w2, hk, hk4, hjN', hj0, hcl, hjn, hjN, Int.add_sub_cancel]
      refine callB_flat ((hcmp x y).lift _ _) hP hen (args_same (by simp [go_sem]; exact ⟨fun c h => (him x c h).1, fun c h => (him y c h).1⟩)) ⟨iv (if lt x y then -1 else 0), _, rfl, by cases lt x y <;> simp⟩ (by rintro r ⟨c, rfl, _⟩; exact .sc) ?_
      rintro r ⟨c, rfl, hlt⟩
      simp [go_sem, hP, hlt]
      refine condP (fun h => ?_) (fun h => ?_)
      · refine adrawB (fun _ => true) [15, 17] hP (by kernel_rfl) (by kernel_rfl) ?_
        have hcel : ∀ z c, c ∈ enc z → c.cellish = true := fun z c h => (him z c h).2
        have hltS : id < s.H.length := (List.getElem?_eq_some_iff.1 hHid).1
        have hset : ∀ o : Option AObj, (s.H.set id o)[id]? = some o := fun o => by simp [hltS]
        have hd4 : ∀ z, (enc z).drop 4 = [] := fun z => List.drop_eq_nil_of_le (by rw [hk]; omega)
        have hcely : (enc y).all AV.cellish = true := List.all_eq_true.2 (hcel y)
        have hcelx : (enc x).all AV.cellish = true := List.all_eq_true.2 (hcel x)
        simp [go_sem, hP, t9, t1, t0, t3, hd, hHid, hcy, hcx, ht, w2, hk, hk4, hjN', hj0, hcl, hjn, hjN, Int.add_sub_cancel, hcelx, hcely, hset, hd4]
        have w3 := wrap_in ((j : Int) + 1 - 1) (by omega)
        rw [Int.add_sub_cancel] at w3
        rw [hJ]
        refine ⟨A'.length, by simp at hm'; omega, A', y :: B, rfl, by simp; omega, ?_, by simp [go_sem, t0], by simp [go_sem, t1], by simp [go_sem, t2], by simp [go_sem, t3], by simp [go_sem, t8], ?_, ?_⟩
        · rw [hins]; simp [rins, h]
        · simp [go_sem]; omega
        · rw [ecs2, sH, List.set_set, hcs]
          have := set_swap L M (enc x) (enc y) (j + 1) (by omega)
          simp only [Nat.add_sub_cancel] at this
          simp [this]
      · have st := stop (by rw [hins]; simp [rins, h])
        simp [go_sem, hP, t9, t1, t8, w9]
        rw [hI]
        exact ⟨b - (i + 1), by omega, i + 1, by omega, .inl (by omega), rfl, by simp [go_sem, t0], by simp [go_sem, t1], by simp [go_sem, t2], by simp [go_sem, t3], by simp [go_sem], st⟩
  · have e : isort lt l = (rsort lt (l.take (i - a))).reverse ++ l.drop (i - a) := by
      have hge : l.length ≤ i - a := by simp at h; omega
      rw [List.take_of_length_le hge, List.drop_eq_nil_of_le hge]
      simp [isort]
    simp [go_sem, hP]
    rw [sH, e]
    simp
theorem stable_m {row src : Option Nat} (hc : CmpOk enc lt g) (l : List α) (H : Heap) (id n : Nat) (hn : n = l.length) (hb9 : n < 20)
    (hH : H[id]? = some (some ⟨42, 4, encL enc l⟩)) :
    MFun Tryz.prog row src 156 [.sref id 0 n, iv n, .fn g []] H (fun _ H' => H' = H.set id (some ⟨42, 4, encL enc (isort lt l)⟩)) := by
  refine mfun_intro Tryz.func156 rfl (by simp [Tryz.f156]) (by kernel_rfl) ⟨.tup [], _, rfl⟩ ?_
  intro E hP hr hs hN
  have hd : decide (20 ≤ (n : Int)) = false := by simp; omega
  have hd2 : decide (20 < (n : Int)) = false := by simp; omega
  simp [go_sem, hP]
  refine aloop0 (fun m s => s.t 0 = .sref id 0 n ∧ s.t 1 = iv n ∧ s.t 2 = .fn g [] ∧ s.t 6 = iv 20 ∧ s.t 7 = iv 0 ∧ s.t 8 = iv 20 ∧ s.H = H) 0 (by rw [hN]; rfl) ?_ ?_
  · simp [go_sem]
  rintro m s ⟨t0, t1, t2, t6, t7, t8, sH⟩
  simp [go_sem, hP, t8, t1, hd, t7, t0, t2]
  have hm := insertion_m (row := E.row) (src := E.src) enc lt g hc [] l [] s.H id 0 n n rfl (by simp [hn]) (by simp [hn]) (by omega) (by rw [sH]; simpa using hH)
  simp only [List.nil_append, List.append_nil] at hm
  refine callB_m hm hP (by kernel_rfl) ?_
  rintro r H' rfl
  refine aloop0 (fun m s' => s'.t 1 = iv n ∧ s'.t 6 = iv 20 ∧ s'.H = H.set id (some ⟨42, 4, encL enc (isort lt l)⟩)) 0 (by rw [hN]; rfl) ?_ ?_
  · simp [go_sem, t1, t6, sH]
  rintro m s' ⟨t1, t6, sH⟩
  simp [go_sem, hP, t6, t1, hd2, sH]
theorem sortStable_m {row src : Option Nat} (hc : CmpOk enc lt g) (l : List α) (H : Heap) (id n : Nat) (hn : n = l.length) (hb9 : n < 20)
    (hH : H[id]? = some (some ⟨42, 4, encL enc l⟩)) :
    MFun Tryz.prog row src 94 [.sref id 0 n, .fn g []] H (fun _ H' => H' = H.set id (some ⟨42, 4, encL enc (isort lt l)⟩)) := by
  refine mfun_intro Tryz.func94 rfl (by simp [Tryz.f94]) (by kernel_rfl) ⟨.tup [], _, rfl⟩ ?_
  intro E hP hr hs hN
  simp [go_sem, hP, hH]
  refine callB_m (stable_m enc lt g hc l H id n hn hb9 hH) hP (by kernel_rfl) ?_
  rintro r H' rfl
  simp [go_sem, hP]
end
open Go.PA
open Go.RowKit
structure Flow where
  d : Int
  a : Int
  k : Int
  n : Int
def Flow.cells (f : Flow) : List AV := [iv f.d, iv f.a, iv f.k, iv f.n]
def flowsL (fs : List Flow) : AV := .list 4 (fs.map Flow.cells)
theorem imm_flowsL (fs : List Flow) : Imm (flowsL fs) := by simp [go_sem, flowsL, Flow.cells]
open Go.PA
open Go.RowKit
def amongB29 (n lo hi : Int) : Bool := decide (lo ≤ n) && decide (n ≤ hi)
theorem among_pf29 (n lo hi : Int) : PFun Tryz.prog none none 42 [iv n, iv lo, iv hi] (· = bv (amongB29 n lo hi)) := by
  refine pfun_intro Tryz.func42 rfl (by simp [Tryz.f42]) (by kernel_rfl) ?_
  intro E hP hr hs hW hN
  by_cases h1 : lo ≤ n <;> by_cases h2 : n ≤ hi <;> simp [go_sem, hP, h1, h2, amongB29]
def totalB (n : Int) : Bool := amongB29 n (-1000000000000000) 1000000000000000
theorem total_pf29 (n : Int) : PFun Tryz.prog none none 65 [iv n] (· = bv (totalB n)) := by
  refine pfun_intro Tryz.func65 rfl (by simp [Tryz.f65]) (by kernel_rfl) ?_
  intro E hP hr hs hW hN
  by_cases h1 : -1000000000000000 ≤ n <;> by_cases h2 : n ≤ 1000000000000000 <;> simp [go_sem, hP, h1, h2, totalB, amongB29]
def dayB (n : Int) : Bool := amongB29 n 0 36000
theorem day_pf (n : Int) : PFun Tryz.prog none none 66 [iv n] (· = bv (dayB n)) := by
  refine pfun_intro Tryz.func66 rfl (by simp [Tryz.f66]) (by kernel_rfl) ?_
  intro E hP hr hs hW hN
  by_cases h1 : 0 ≤ n <;> by_cases h2 : n ≤ 36000 <;> simp [go_sem, hP, h1, h2, dayB, amongB29]
def validB (f : Flow) : Bool := dayB f.d && !decide (f.a = 0) && amongB29 f.a (-1000000000000) 1000000000000 && amongB29 f.k 1 5 && amongB29 f.n 0 1000000
theorem valid_pf29 (f : Flow) : PFun Tryz.prog none none 62 [.agg f.cells] (· = bv (validB f)) := by
  refine pfun_intro Tryz.func62 rfl (by simp [Tryz.f62]) (by kernel_rfl) ?_
  intro E hP hr hs hW hN
  simp [go_sem, hP, Flow.cells]
  refine callB_pure (day_pf f.d) hP en_66 (by simp [go_sem]) .sc ?_
  simp [go_sem, *]
  refine oi_split (fun h1 => ?_) (fun h1 => by simp [go_sem, validB, *])
  simp [go_sem, *]
  by_cases h2 : f.a = 0
  · simp [go_sem, validB, *]
  simp [go_sem, *]
  refine callB_pure (among_pf29 f.a (-1000000000000) 1000000000000) hP en_42 (by simp [go_sem]) .sc ?_
  simp [go_sem, *]
  refine oi_split (fun h3 => ?_) (fun h3 => by simp [go_sem, validB, *])
  simp [go_sem, *]
  refine callB_pure (among_pf29 f.k 1 5) hP en_42 (by simp [go_sem]) .sc ?_
  simp [go_sem, *]
  refine oi_split (fun h4 => ?_) (fun h4 => by simp [go_sem, validB, *])
  simp [go_sem, *]
  refine callB_pure (among_pf29 f.n 0 1000000) hP en_42 (by simp [go_sem]) .sc ?_
  simp [go_sem, validB, *]
theorem check1_pf (f : Flow) : PFun Tryz.prog none none 61 [.agg f.cells] (· = bv (!validB f)) := by
  refine pfun_intro Tryz.func61 rfl (by simp [Tryz.f61]) (by kernel_rfl) ?_
  intro E hP hr hs hW hN
  simp [go_sem, hP, Flow.cells]
  refine callB_pure (valid_pf29 f) hP en_62 (by simp [go_sem, Flow.cells]) .sc ?_
  simp [go_sem, *]
theorem index_pf (fs : List Flow) (hl : fs.length ≤ 100000) : PFun Tryz.prog none none 117 [flowsL fs, .fn 61 []] (fun x => ∃ i : Int, x = iv i ∧ decide (0 ≤ i) = fs.any (fun f => !validB f)) := by
  refine pfun_intro Tryz.func117 rfl (by simp [Tryz.f117]) (by kernel_rfl) ?_
  intro E hP hr hs hW hN
  simp [go_sem, hP, flowsL]
  refine aloop0 (fun n s => ∃ k, k ≤ fs.length ∧ n = fs.length - k ∧ (∀ f, f ∈ fs.take k → validB f = true) ∧ s.t 0 = flowsL fs ∧ s.t 1 = .fn 61 [] ∧ s.t 7 = iv fs.length ∧ s.t 8 = iv k) fs.length (by rw [hN]; rfl) ?_ ?_
  · refine ⟨0, by simp, by simp, by simp, ?_⟩
    simp [go_sem, flowsL]
  rintro n s ⟨k, hk, hn, hv, t0, t1, t7, t8⟩
  simp [go_sem, *, flowsL]
  refine condP (fun h => ?_) (fun h => ?_)
  · have hk' : k < fs.length := by simpa using h
    simp [go_sem, *, flowsL, Flow.cells]
    refine callB_pure (check1_pf fs[k]) hP en_61 (by simp [go_sem, Flow.cells]) .sc ?_
    simp [go_sem, *]
    refine condP (fun h => ?_) (fun h => ?_)
    · have hw : IntKind.i64.wrap (↑k + 1) = ((k + 1 : Nat) : Int) := by rw [wrap_in _ (by omega)]; rfl
      simp [go_sem, hP, hw, t0, t1, t7, t8, flowsL, Flow.cells]
      refine ⟨fs.length - (k + 1), by omega, k + 1, by omega, rfl, ?_, rfl⟩
      intro f hf
      rw [List.take_succ_eq_append_getElem hk', List.mem_append] at hf
      rcases hf with hf | hf
      · exact hv f hf
      · simp at hf; subst hf; exact h
    · simp [go_sem, *, Tryz.f117]
      refine ⟨fs[k], List.getElem_mem hk', h⟩
  · simp [go_sem, *, Tryz.f117]
    intro f hf
    refine hv f ?_
    rw [List.take_of_length_le (by simpa using h)]
    exact hf
theorem contains_pf (fs : List Flow) (hl : fs.length ≤ 100000) : PFun Tryz.prog none none 60 [flowsL fs, .fn 61 []] (· = bv (fs.any (fun f => !validB f))) := by
  refine pfun_intro Tryz.func60 rfl (by simp [Tryz.f60]) (by kernel_rfl) ?_
  intro E hP hr hs hW hN
  simp [go_sem, hP, flowsL]
  refine callB_flat ((index_pf fs hl).lift _ _) hP en_117 (args_same (by simp [go_sem, Flow.cells])) ⟨iv (if fs.any (fun f => !validB f) then 0 else -1), _, rfl, by cases fs.any (fun f => !validB f) <;> simp⟩ ?_ ?_
  · rintro r ⟨i, rfl, _⟩
    exact .sc
  · rintro r ⟨i, rfl, h⟩
    simp [go_sem, hP, Tryz.f60]
    simpa using h
def checkI (fs : List Flow) : Int := if 400 < fs.length then 3 else if fs.any (fun f => !validB f) then 72 else 0
theorem check_pf29 (fs : List Flow) (hl : fs.length ≤ 100000) : PFun Tryz.prog none none 20 [flowsL fs] (· = iv (checkI fs)) := by
  refine pfun_intro Tryz.func20 rfl (by simp [Tryz.f20]) (by kernel_rfl) ?_
  intro E hP hr hs hW hN
  simp [go_sem, hP, flowsL]
  refine condP (fun h => ?_) (fun h => ?_)
  · have h' : 400 < fs.length := by simp at h; omega
    simp [go_sem, hP, Tryz.f20]
    simp [checkI, h']
  have h' : ¬ 400 < fs.length := by simp at h; omega
  simp [go_sem, *]
  refine callB_pure (contains_pf fs hl) hP en_60 (args_same (by simp [go_sem, Flow.cells])) .sc ?_
  simp [go_sem, *]
  refine condP (fun h => ?_) (fun h => ?_)
  · simp [go_sem, hP, Tryz.f20]
    simp only [checkI, h, if_neg h', if_true]
  · simp [go_sem, hP, Tryz.f20]
    simp only [checkI, h, if_neg h']
    simp
open Go.PA
open Go.RowKit
structure Pos where
  d : Int
  a : Int
def Pos.cells (p : Pos) : List AV := [iv p.d, iv p.a]
def posL (l : List Pos) : AV := .list 2 (l.map Pos.cells)
def delta (fs : List Flow) (d : Int) : Int := ((fs.filter fun f => decide (f.d = d)).map (·.a)).sum
def run (fs : List Flow) (lo : Int) : Nat → Nat → Int → Option (List Pos)
  | _, 0, _ => some []
  | i, n + 1, o => if totalB (o + delta fs (lo + i)) then (run fs lo (i + 1) n (o + delta fs (lo + i))).map (⟨lo + i, o + delta fs (lo + i)⟩ :: ·) else none
def project (o : Int) (fs : List Flow) (lo hi : Int) : List Pos × Int :=
  if ¬ checkI fs = 0 then ([], checkI fs) else if (!totalB o || (!dayB lo || !dayB hi)) = true then ([], 2) else if 1000 < hi - lo + 1 then ([], 3) else
  match run fs lo 0 (hi - lo + 1).toNat o with
  | none => ([], 2)
  | some l => (l, 0)
theorem check_ok29 {fs : List Flow} (h : checkI fs = 0) : fs.length ≤ 400 ∧ ∀ f, f ∈ fs → (0 ≤ f.d ∧ f.d ≤ 36000) ∧ (-1000000000000 ≤ f.a ∧ f.a ≤ 1000000000000) := by
  unfold checkI at h
  split at h
  · cases h
  · rename_i hl
    split at h
    · cases h
    · rename_i ha
      refine ⟨by omega, fun f hf => ?_⟩
      have hv : validB f = true := by
        cases hv : validB f with
        | true => rfl
        | false => exact absurd (List.any_eq_true.2 ⟨f, hf, by simp [hv]⟩) ha
      simp [validB, dayB, amongB29] at hv
      omega
theorem delta_nil (d : Int) : delta [] d = 0 := rfl
theorem delta_app (xs ys : List Flow) (d : Int) : delta (xs ++ ys) d = delta xs d + delta ys d := by simp [delta, List.filter_append]
theorem delta_one (f : Flow) (d : Int) : delta [f] d = if f.d = d then f.a else 0 := by
  by_cases h : f.d = d <;> simp [delta, h]
theorem delta_bound (d : Int) : ∀ (fs : List Flow), (∀ f, f ∈ fs → -1000000000000 ≤ f.a ∧ f.a ≤ 1000000000000) → -1000000000000 * (fs.length : Int) ≤ delta fs d ∧ delta fs d ≤ 1000000000000 * (fs.length : Int)
  | [], _ => by simp [delta]
  | f :: fs, h => by
    have h1 := delta_bound d fs fun g hg => h g (List.mem_cons_of_mem _ hg)
    have h2 := h f (List.mem_cons_self ..)
    have e : delta (f :: fs) d = delta [f] d + delta fs d := delta_app [f] fs d
    rw [e, delta_one, List.length_cons]
    split <;> omega
def dl (lo : Int) (n : Nat) (fs : List Flow) : List (List AV) := (List.range n).map fun (i : Nat) => [iv (delta fs (lo + (i : Int)))]
theorem dl_len (lo : Int) (n : Nat) (fs : List Flow) : (dl lo n fs).length = n := by simp [dl]
theorem dl_getE (lo : Int) (n i : Nat) (fs : List Flow) (h : i < (dl lo n fs).length) : (dl lo n fs)[i] = [iv (delta fs (lo + (i : Int)))] := by simp [dl]
theorem dl_nil (lo : Int) (n : Nat) : dl lo n [] = List.replicate n [iv 0] := by simp [dl, delta_nil, List.eq_replicate_iff]
theorem dl_in (lo : Int) (n i : Nat) (fs : List Flow) (f : Flow) (hd : f.d = lo + (i : Int)) : (dl lo n fs).set i [iv (delta fs (lo + (i : Int)) + f.a)] = dl lo n (fs ++ [f]) := by
  apply List.ext_getElem
  · simp [dl]
  · intro j h1 h2
    simp only [dl, List.getElem_set, List.getElem_map, List.getElem_range, delta_app, delta_one]
    by_cases hj : i = j
    · subst hj; simp [hd]
    · have : ¬ f.d = lo + (j : Int) := by omega
      simp [hj, this]
theorem dl_out (lo : Int) (n : Nat) (fs : List Flow) (f : Flow) (hd : f.d < lo ∨ lo + (n : Int) ≤ f.d) : dl lo n (fs ++ [f]) = dl lo n fs := by
  apply List.map_congr_left
  intro j hj
  have := List.mem_range.1 hj
  rw [delta_app, delta_one, if_neg (by omega)]
  simp
theorem project_pf (o : Int) (fs : List Flow) (lo hi : Int) (hl : fs.length ≤ 100000) :
    PFun Tryz.prog none none 25 [iv o, flowsL fs, iv lo, iv hi] (· = .tup [posL (project o fs lo hi).1, iv (project o fs lo hi).2]) := by
  refine pfun_intro Tryz.func25 rfl (by simp [Tryz.f25]) (by kernel_rfl) ?_
  intro E hP hr hs hW hN
  simp [go_sem, hP]
  refine callB_pure (check_pf29 fs hl) hP en_20 (args_same (by simp [imm_flowsL])) .sc ?_
  simp [go_sem, hP]
  refine condP (fun h0 => ?_) (fun h0 => ?_)
  rotate_left
  · simp [go_sem, hP, Tryz.f25]
    refine done_nil2 2 ?_
    have : ¬ checkI fs = 0 := by simpa using h0
    simp [project, this, posL]
  have h0 : checkI fs = 0 := by simpa using h0
  simp [go_sem, hP, h0]
  refine callB_pure (total_pf29 o) hP en_65 (args_same (by simp [go_sem])) .sc ?_
  simp [go_sem, hP]
  have bad : (!totalB o || (!dayB lo || !dayB hi)) = true → ∀ (H : Heap) (b), Done H (.tup [.nil, iv 2]) (· = .tup [posL (project o fs lo hi).1, iv (project o fs lo hi).2]) b := fun hc H b => by
    refine done_nil2 2 ?_
    simp [project, h0, hc, posL]
  cases h1 : totalB o with
  | false =>
    simp [go_sem, hP, h1, Tryz.f25]
    exact bad (by simp [h1]) _ _
  | true =>
  simp [go_sem, hP, h1]
  refine callB_pure (day_pf lo) hP en_66 (args_same (by simp [go_sem])) .sc ?_
  simp [go_sem, hP]
  cases h2 : dayB lo with
  | false =>
    simp [go_sem, hP, h1, h2, Tryz.f25]
    exact bad (by simp [h2]) _ _
  | true =>
  simp [go_sem, hP, h1, h2]
  refine callB_pure (day_pf hi) hP en_66 (args_same (by simp [go_sem])) .sc ?_
  simp [go_sem, hP]
  cases h3 : dayB hi with
  | false =>
    simp [go_sem, hP, h1, h2, h3, Tryz.f25]
    exact bad (by simp [h3]) _ _
  | true =>
  have b1 : -1000000000000000 ≤ o ∧ o ≤ 1000000000000000 := by simpa [totalB, amongB29] using h1
  have b2 : 0 ≤ lo ∧ lo ≤ 36000 := by simpa [dayB, amongB29] using h2
  have b3 : 0 ≤ hi ∧ hi ≤ 36000 := by simpa [dayB, amongB29] using h3
  have w1 := wrap_in (hi - lo) (by omega)
  have w2 := wrap_in (hi - lo + 1) (by omega)
  simp [go_sem, hP, h1, h2, h3, w1, w2]
  refine condP (fun h4 => ?_) (fun h4 => ?_)
  · have h4 : 1000 < hi - lo + 1 := by simpa using h4
    simp [go_sem, hP, Tryz.f25]
    refine done_nil2 2 ?_
    simp [project, h0, h1, h2, h3, h4, posL]
  have h4 : ¬ 1000 < hi - lo + 1 := by simpa using h4
  simp [go_sem, hP, w1, w2, amax, amaxFrom]
  obtain ⟨n, hn⟩ : ∃ n : Nat, max (hi - lo + 1) 0 = n := ⟨(max (hi - lo + 1) 0).toNat, by omega⟩
  have hn1 : n ≤ 1000 := by omega
  simp [hn, go_sem, hP, flowsL]
  refine ⟨by omega, by omega, ?_⟩
  obtain ⟨k1, k2⟩ := check_ok29 h0
  refine aloop0 (fun m s => ∃ (k id : Nat), k ≤ fs.length ∧ m = fs.length - k ∧ s.t 0 = iv o ∧ s.t 2 = iv lo ∧ s.t 3 = iv hi ∧ s.t 46 = flowsL fs ∧ s.t 47 = iv fs.length ∧ s.t 48 = iv k ∧ s.t 11 = .sref id 0 n ∧ s.H[id]? = some (some ⟨3, 1, dl lo n (fs.take k)⟩)) fs.length (by rw [hN]; rfl) ?_ ?_
  · exact ⟨0, 0, by simp, by simp, by simp [go_sem], by simp [go_sem], by simp [go_sem], by simp [go_sem, flowsL], by simp [go_sem], by simp [go_sem], by simp [go_sem], by simp [dl_nil]⟩
  rintro m s ⟨k, id, hk, rfl, t0, t2, t3, t46, t47, t48, t11, hH⟩
  obtain ⟨hlt, hG⟩ := List.getElem?_eq_some_iff.1 hH
  simp [go_sem, hP, t46, t47, t48]
  refine condP (fun h => ?_) (fun h => ?_)
  · have hk' : k < fs.length := by simpa using h
    have tk : fs.take (k + 1) = fs.take k ++ [fs[k]] := List.take_succ_eq_append_getElem hk'
    have wk : IntKind.i64.wrap (↑k + 1) = ((k + 1 : Nat) : Int) := by rw [wrap_in _ (by omega)]; rfl
    simp [go_sem, hP, t46, t48, flowsL, hk', Flow.cells, t2, t3]
    refine callB_pure (among_pf29 fs[k].d lo hi) hP en_42 (args_same (by simp [go_sem])) .sc ?_
    simp [go_sem, hP]
    refine condP (fun h5 => ?_) (fun h5 => ?_)
    · have h5 : lo ≤ fs[k].d ∧ fs[k].d ≤ hi := by simpa [amongB29] using h5
      obtain ⟨b4, b5⟩ := k2 fs[k] (List.getElem_mem hk')
      obtain ⟨i, hi'⟩ : ∃ i : Nat, fs[k].d - lo = i := ⟨(fs[k].d - lo).toNat, by omega⟩
      have w5 := wrap_in (i : Int) (by omega)
      have hin : i < n := by omega
      have b6 := delta_bound (lo + i) (fs.take k) fun f hf => (k2 f (List.mem_of_mem_take hf)).2
      have b7 : (fs.take k).length ≤ 400 := by rw [List.length_take]; omega
      have w6 := wrap_in (delta (fs.take k) (lo + i) + fs[k].a) (by omega)
      refine adrawB (fun _ => true) [11] hP (by kernel_rfl) rfl ?_
      simp [go_sem, hP, t2, t11, t48, wk, w5, hi', hG, hlt, hin, dl_len, dl_getE, w6]
      refine ⟨fs.length - (k + 1), by omega, k + 1, by omega, rfl, t0, t3, by rw [t46]; rfl, t47, by omega, ?_⟩
      rw [tk]
      exact dl_in lo n i _ _ (by omega)
    · simp [go_sem, hP, t48, wk]
      have h5 : ¬ (lo ≤ fs[k].d ∧ fs[k].d ≤ hi) := by simpa [amongB29] using h5
      refine ⟨fs.length - (k + 1), by omega, k + 1, by omega, rfl, t0, t2, t3, t46, t47, by omega, id, ?_⟩
      rw [tk, dl_out lo n _ _ (by omega)]
      simp [go_sem, hlt, t11, hG]
  · have hk' : k = fs.length := by simp at h; omega
    subst hk'
    have hnn : n = (hi - lo + 1).toNat := by omega
    have hpr : project o fs lo hi = match run fs lo 0 n o with | none => ([], 2) | some l => (l, 0) := by
      rw [hnn]
      unfold project
      rw [if_neg (by simp [h0]), if_neg (by simp [h1, h2, h3]), if_neg h4]
    rw [List.take_length] at hH hG
    simp [go_sem, hP, t11, hG, hlt]
    refine aloop_own 14 59 2 (by simp [go_sem]) ?_
    refine aloop0 (fun m s => ∃ (i id id2 : Nat) (oi : Int) (l : List Pos), i + m = n ∧ l.length ≤ i ∧ s.t 2 = iv lo ∧ s.t 69 = .sref id 0 n ∧ s.t 70 = iv n ∧ s.t 71 = iv i ∧ s.t 0 = iv oi ∧ (-1000000000000000 ≤ oi ∧ oi ≤ 1000000000000000) ∧ s.t 14 = .sref id2 0 l.length ∧ ¬ id2 = id ∧
      s.H[id]? = some (some ⟨3, 1, dl lo n fs⟩) ∧ s.H[id2]? = some (some ⟨59, 2, l.map Pos.cells⟩) ∧ run fs lo 0 n o = (run fs lo i m oi).map (l ++ ·)) n (by rw [hN]; rfl) ?_ ?_
    · refine ⟨0, id, s.H.length, o, [], by simp, by simp, by simp [go_sem, t2], by simp [go_sem], by simp [go_sem], by simp [go_sem], by simp [go_sem, t0], b1, by simp [go_sem], by omega, by simp [go_sem, hlt, hG], by simp [go_sem], by simp⟩
    rintro m s ⟨i, id, id2, oi, l, him, hll, t2, t69, t70, t71, t0, ho, t14, hne, hH, hH2, hrun⟩
    obtain ⟨hlt, hG⟩ := List.getElem?_eq_some_iff.1 hH
    obtain ⟨hlt2, hG2⟩ := List.getElem?_eq_some_iff.1 hH2
    simp [go_sem, hP, t70, t71]
    refine condP (fun h => ?_) (fun h => ?_)
    · have hin : i < n := by simpa using h
      obtain ⟨m, rfl⟩ : ∃ m', m = m' + 1 := ⟨m - 1, by omega⟩
      have hD := delta_bound (lo + i) fs fun f hf => (k2 f hf).2
      have w7 := wrap_in (oi + delta fs (lo + i)) (by omega)
      have w8 := wrap_in (lo + i) (by omega)
      have w9 : IntKind.i64.wrap (↑i + 1) = ((i + 1 : Nat) : Int) := by rw [wrap_in _ (by omega)]; rfl
      simp [go_sem, hP, t70, t71, t0, t69, hlt, hG, hin, dl_len, dl_getE, w7]
      refine callB_pure (total_pf29 (oi + delta fs (lo + i))) hP en_65 (args_same (by simp [go_sem])) .sc ?_
      simp [go_sem, hP]
      refine condP (fun h6 => ?_) (fun h6 => ?_)
      · have b8 : -1000000000000000 ≤ oi + delta fs (lo + i) ∧ oi + delta fs (lo + i) ≤ 1000000000000000 := by simpa [totalB, amongB29] using h6
        simp [go_sem, hP, t2, t14, hlt, hlt2, hG, hG2, w8, t71, w9]
        refine ⟨by omega, by omega, m, by omega, i + 1, by omega, id, s.H.length, _, l ++ [⟨lo + i, oi + delta fs (lo + i)⟩], by simp; omega, t69, t70, by omega, rfl, b8, ⟨rfl, by simp⟩, by omega, ?_, ?_, ?_⟩
        · simp [go_sem, hlt, hne, hG]
        · simp [go_sem, Pos.cells]
        · rw [hrun, run, if_pos (by rw [h6])]
          cases run fs lo (i + 1) m (oi + delta fs (lo + i)) <;> simp
      · simp [go_sem, hP, Tryz.f25]
        refine done_nil2 2 ?_
        have : run fs lo 0 n o = none := by rw [hrun, run, if_neg (by rw [h6]; simp)]; rfl
        rw [hpr, this]
        rfl
    · have hin : m = 0 := by simp at h; omega
      subst hin
      simp [go_sem, hP, Tryz.f25, t14]
      have : run fs lo 0 n o = some l := by rw [hrun]; simp [run]
      refine done (x := .tup [posL l, iv 0]) ?_ ?_ ?_
      · simp [go_sem, hlt2, hG2, Pos.cells]
      · rw [hpr, this]
      · simp [go_sem, hlt2, hG2, posL]
open Go.PA
open Go.RowKit
def befB29 (a b : Flow) : Bool := decide (a.d < b.d) || (decide (a.d = b.d) && (decide (a.k < b.k) || (decide (a.k = b.k) && decide (a.n < b.n))))
theorem bef_or (a b : Flow) : decide (orI [cmpI a.d b.d, cmpI a.k b.k, cmpI a.n b.n] < 0) = befB29 a b := by
  grind [cmpI, orI, befB29]
theorem cmpFlow_pf (a b : Flow) : PFun Tryz.prog none none 95 [.agg a.cells, .agg b.cells] (fun r => ∃ i : Int, r = iv i ∧ decide (i < 0) = befB29 a b) := by
  refine pfun_intro Tryz.func95 rfl (by simp [Tryz.f95]) (by kernel_rfl) ?_
  intro E hP hr hs hW hN
  simp [go_sem, hP, Flow.cells]
  refine adrawB (fun _ => true) [] hP (by kernel_rfl) (by kernel_rfl) ?_
  simp [go_sem, hP]
  refine callB_pure (compare_pf a.d b.d) hP en_70 (args_same (by simp [go_sem])) .sc ?_
  simp [go_sem, hP]
  refine callB_pure (compare_pf a.k b.k) hP en_70 (args_same (by simp [go_sem])) .sc ?_
  simp [go_sem, hP]
  refine callB_pure (compare_pf a.n b.n) hP en_70 (args_same (by simp [go_sem])) .sc ?_
  simp [go_sem, hP]
  refine callB_pure (or_pf [cmpI a.d b.d, cmpI a.k b.k, cmpI a.n b.n] (by simp)) hP en_96 (args_same (by simp [go_sem])) .sc ?_
  simp [go_sem, hP]
  exact bef_or a b
theorem cmp_ok : CmpOk Flow.cells befB29 95 := by
  refine ⟨fun a => rfl, fun a c h => ?_, en_95, cmpFlow_pf⟩
  simp [Flow.cells] at h
  rcases h with rfl | rfl | rfl | rfl <;> exact ⟨.sc, rfl⟩
abbrev flowObj (fs : List Flow) : Option AObj := some ⟨42, 4, encL Flow.cells fs⟩
theorem order_m {row src : Option Nat} (l : List Flow) (H : Heap) (id n : Nat) (hn : n = l.length) (hb9 : n < 20) (hH : H[id]? = some (flowObj l)) :
    MFun Tryz.prog row src 44 [.sref id 0 n] H (fun r H' => r = .sref id 0 n ∧ H' = H.set id (flowObj (isort befB29 l))) := by
  refine mfun_intro Tryz.func44 rfl (by simp [Tryz.f44]) (by kernel_rfl) ⟨_, _, rfl, rfl⟩ ?_
  intro E hP hr hs hN
  simp [go_sem, hP]
  refine callB_m (sortStable_m Flow.cells befB29 _ cmp_ok l H id n hn hb9 hH) hP (by kernel_rfl) ?_
  rintro r H' rfl
  simp [go_sem, hP]
theorem imm_flow (a : Flow) (c : AV) (h : c ∈ a.cells) : Imm c := by
  simp [Flow.cells] at h
  rcases h with rfl | rfl | rfl | rfl <;> exact .sc
open Go.PA
open Go.RowKit
theorem grow0_flow (w : World) : Calls Tryz.prog 116 #[.slice none 0 0, .int .i64 0] w fun e w' => e = .returned (.slice none 0 0) ∧ w' = w := by
  go_enter Tryz.func116, Tryz.ntmps116
  go_wp2
  go_ret
  exact ⟨rfl, rfl⟩
set_option maxRecDepth 8000 in
set_option maxHeartbeats 1000000 in
theorem grow1_flow (n : Nat) (h1 : 1 ≤ n) (hb : n * 32 ≤ 140737488355328) (h63 : n ≤ 4611686018427387904) (i0 : TypeInfo) (z : Value) (hi0 : Tryz.prog.info? 42 = some i0) (hz0 : i0.zero = some z) (hs0 : 0 < i0.size) (hbytes : i0.bytes = 32) (w : World) :
    Calls Tryz.prog 116 #[.slice none 0 0, .int .i64 n] w fun e w' => e = .returned (.slice (some ⟨w.heap.size, 0, none⟩) 0 (grownCap w n 0 42)) ∧ w' = w.drew.alloc (.cells (([] : List Value).toArray ++ Builtin.zeroCells z.cells n ++ Builtin.zeroCells z.cells (grownCap w n 0 42 - n)) 42) := by
  have h1' : ¬ ((n : Int) < 0) := by omega
  have h2 : wrap64 (0 : Int) = 0 := by unfold wrap64; omega
  have h3 : wrap64 (n : Int) = (n : Int) := by unfold wrap64; omega
  have h4 : (n : Int) > 0 := by omega
  have hrz : ∀ ty, (Builtin.append_ #[38, 3] ty #[.slice none 0 0, .int .i64 n]).run Tryz.prog w =
      .ok (.slice (some ⟨w.heap.size, 0, none⟩) n (grownCap w n 0 42)) (w.drew.alloc (.cells (([] : List Value).toArray ++ Builtin.zeroCells z.cells n ++ Builtin.zeroCells z.cells (grownCap w n 0 42 - n)) 42)) := fun ty => by
    have h := Lib.run_append_grow_zeros w 38 3 ty 42 i0 z .i64 .i64 Tryz.underlying38 Tryz.underlying3 hi0 hz0 none 0 0 [] (run_firstCells_none w.drew i0.size 0 0 0) n (by omega) hs0 (by omega) (by omega) (by rw [hbytes]; omega) (by rw [hbytes, Nat.zero_add]; exact growslice_fits (by omega) (by omega))
    simp only [Nat.zero_add] at h
    exact h
  have hGn : n ≤ grownCap w n 0 42 := grownCap_ge w _ _ _
  obtain ⟨G, hG⟩ : ∃ G, G = grownCap w n 0 42 := ⟨_, rfl⟩
  rw [← hG] at hrz hGn ⊢
  have hG63 : G ≤ 9223372036854775807 := by
    have := grownCap_le_maxLen w n 0 42 (by unfold maxLen; omega)
    rw [← hG] at this
    unfold maxLen at this
    omega
  clear hG
  go_enter Tryz.func116, Tryz.ntmps116
  go_wp2_with (at_builtin; refine Lib.wpList_append_run _ rfl _ _ _ _ rfl _ _ rfl rfl _ _ (hrz _) ?_)
  all_goals (go_ret; exact ⟨rfl, rfl⟩)
theorem grow_m_flow {row src : Option Nat} (n : Nat) (hn : n ≤ 1000000) (H : Heap) : MFun Tryz.prog row src 116 [.nil, iv n] H (fun r H' => r = .sref H.length 0 0 ∧ H' = H ++ [some ⟨42, 4, []⟩]) := by
  obtain ⟨i0, hi0⟩ : ∃ i, Tryz.prog.info? 42 = some i := Option.isSome_iff_exists.1 (by kernel_rfl)
  have hz0' : (i0.zero).isSome = true := by
    have : ((Tryz.prog.info? 42).bind (·.zero)).isSome = true := by kernel_rfl
    rw [hi0] at this
    simpa using this
  obtain ⟨z, hz0⟩ := Option.isSome_iff_exists.1 hz0'
  have hsz : i0.size = 4 := by
    have : ((Tryz.prog.info? 42).map (·.size)) = some 4 := by kernel_rfl
    rw [hi0] at this
    simpa using this
  have hby : i0.bytes = 32 := by
    have : ((Tryz.prog.info? 42).map (·.bytes)) = some 32 := by kernel_rfl
    rw [hi0] at this
    simpa using this
  have hzc : z.cells.size = 4 := by
    have : (((Tryz.prog.info? 42).bind (·.zero)).map (·.cells.size)) = some 4 := by kernel_rfl
    rw [hi0] at this
    simp only [Option.bind_some, hz0, Option.map_some, Option.some.injEq] at this
    exact this
  refine MFun.mono (C := fun r H' => r = .sref H.length 0 0 ∧ H' = H ++ [some ⟨42, 4, []⟩]) ?_ (fun _ _ h => h)
  intro E hP hrow hsrc
  refine ⟨⟨_, _, rfl, rfl⟩, fun w ρ ok vs g hsz' hrep => ?_⟩
  rw [hP]
  have hv0 := hrep 0 (vs[0]'(by simp at hsz'; omega)) .nil (Array.getElem?_eq_getElem _) rfl
  have hv1 := hrep 1 (vs[1]'(by simp at hsz'; omega)) (iv n) (Array.getElem?_eq_getElem _) rfl
  have e1 := rep_sc hv1
  have e0 : vs[0]'(by simp at hsz'; omega) = .slice none 0 0 := by
    generalize vs[0]'(by simp at hsz'; omega) = v at hv0
    cases hv0
    rfl
  have hvs : vs = #[.slice none 0 0, .int .i64 n] := by
    apply Array.ext
    · simpa using hsz'
    · intro i h1 h2
      match i with
      | 0 => simpa using e0
      | 1 => simpa using e1
      | i + 2 => simp at h2; omega
  subst hvs
  rcases Nat.eq_zero_or_pos n with rfl | hpos
  · refine (grow0_flow w).mono ?_
    rintro e w' ⟨rfl, rfl⟩
    obtain ⟨g2, x2⟩ := g.add ⟨42, 4, []⟩ none rfl (by simp) (by simp)
    exact ⟨_, _, _, _, _, rfl, ⟨rfl, rfl⟩, g2, x2, .srefNil push_new (by simp [updP])⟩
  · refine (grow1_flow n hpos (by omega) (by omega) i0 z hi0 hz0 (by omega) hby w).mono ?_
    rintro e w' ⟨rfl, rfl⟩
    have hGn : n ≤ grownCap w n 0 42 := grownCap_ge w _ _ _
    have hG63 := grownCap_le_maxLen w n 0 42 (by unfold maxLen; omega)
    obtain ⟨G, hG⟩ : ∃ G, G = grownCap w n 0 42 := ⟨_, rfl⟩
    rw [← hG] at hGn hG63 ⊢
    obtain ⟨g1, x1⟩ := g.step (w' := w.drew) (ok' := ok) (fun _ => False) rfl rfl rfl (Nat.le_refl _) (fun _ _ _ => rfl) (fun _ h => h.elim) (fun _ h => h) (fun _ h => .inl h)
    obtain ⟨g2, x2⟩ := g1.newObj ⟨42, 4, []⟩ G (([] : List Value).toArray ++ Builtin.zeroCells z.cells n ++ Builtin.zeroCells z.cells (G - n)) (by
      simp only [Array.size_append, Builtin.zeroCells, Array.size_map, Array.size_range, hzc]
      simp
      omega) (by simp) hG63 (by simp) (by simp)
    refine ⟨_, .sref H.length 0 0, _, _, _, rfl, ⟨rfl, rfl⟩, g2, x1.trans x2, ?_⟩
    have := Rep.sref (w := w.drew.alloc (.cells (([] : List Value).toArray ++ Builtin.zeroCells z.cells n ++ Builtin.zeroCells z.cells (G - n)) 42)) (ρ := updP ρ H.length (some (w.drew.heap.size, G))) (H := H ++ [some ⟨42, 4, []⟩]) (ok := ok) (id := H.length) (lo := 0) (n := 0) (c := G) push_new (b := w.drew.heap.size) (cap := G) (by simp [updP]) (by simp) (fun _ => rfl) (Nat.zero_le _) hG63
    simpa using this
theorem concat_m_flow {row src : Option Nat} (ls : List (List Flow)) (al : List Flow) (hal : al = ls.flatten) (hl : ls.length ≤ 1000) (hn : al.length ≤ 1000000) (H : Heap) :
    MFun Tryz.prog row src 59 [.list 1 (ls.map fun l => [.list 4 (encL Flow.cells l)])] H (fun r H' => ∃ id, r = .sref id 0 al.length ∧ H.length ≤ id ∧ H'[id]? = some (some ⟨42, 4, encL Flow.cells al⟩) ∧ Kept [] H H') := by
  subst hal
  refine mfun_intro Tryz.func59 rfl (by simp [Tryz.f59]) (by kernel_rfl) ⟨_, H ++ [some ⟨42, 4, encL Flow.cells ls.flatten⟩], H.length, rfl, Nat.le_refl _, by simp, kept_push _ (kept_refl _ _)⟩ ?_
  intro E hP hr hs hN
  simp -dsimp -implicitDefEqProofs [-getElem?_pos, go_sem, hP]
  obtain ⟨I, hI⟩ : ∃ I : Nat → St → Prop, I = fun m s => ∃ k : Nat, k ≤ ls.length ∧ m = ls.length - k ∧ s.t 0 = .list 1 (ls.map fun l => [.list 4 (encL Flow.cells l)]) ∧ s.t 9 = .list 1 (ls.map fun l => [.list 4 (encL Flow.cells l)]) ∧ s.t 10 = iv ls.length ∧ s.t 11 = iv k ∧ s.t 3 = iv ((ls.take k).flatten.length : Nat) ∧ s.H = H := ⟨_, rfl⟩
  refine aloop0 I ls.length (by rw [hN]; rfl) ?_ ?_
  · rw [hI]
    exact ⟨0, by omega, by omega, by simp -dsimp -implicitDefEqProofs [-getElem?_pos, go_sem], by simp -dsimp -implicitDefEqProofs [-getElem?_pos, go_sem], by simp -dsimp -implicitDefEqProofs [-getElem?_pos, go_sem], by simp -dsimp -implicitDefEqProofs [-getElem?_pos, go_sem], by simp -dsimp -implicitDefEqProofs [-getElem?_pos, go_sem], by simp -dsimp -implicitDefEqProofs [-getElem?_pos, go_sem]⟩
  intro m s hs'
  rw [hI] at hs'
  obtain ⟨k, hk, hm, t0, t9, t10, t11, t3, sH⟩ := hs'
  simp -dsimp -implicitDefEqProofs [-getElem?_pos, go_sem, hP, t11, t10]
  have flat : ∀ k, k ≤ ls.length → (ls.take k).flatten.length ≤ ls.flatten.length := fun k hk => by
    have := congrArg List.length (congrArg List.flatten (List.take_append_drop k ls))
    simp only [List.flatten_append, List.length_append] at this
    omega
  refine condP (fun h => ?_) (fun h => ?_)
  · have hk : k < ls.length := by simpa using h
    obtain ⟨l, hl'⟩ : ∃ l, ls[k]? = some l := ⟨_, List.getElem?_eq_getElem hk⟩
    have e1 : ls.take (k + 1) = ls.take k ++ [l] := by rw [List.take_add_one, hl']; rfl
    have e2 : (ls.take (k + 1)).flatten.length = (ls.take k).flatten.length + l.length := by rw [e1]; simp
    have := flat (k + 1) (by omega)
    have wk := wrap_in ((k : Int) + 1) (by omega)
    have w3 := wrap_in (((ls.take k).flatten.length : Int) + (l.length : Int)) (by omega)
    have hneg : decide (((ls.take k).flatten.length : Int) + (l.length : Int) < 0) = false := by simp; omega
    obtain ⟨m1, hm1⟩ : ∃ m1, m1 = (ls.take k).flatten.length := ⟨_, rfl⟩
    rw [← hm1] at w3 hneg t3 e2
    simp -dsimp -implicitDefEqProofs [-getElem?_pos, go_sem, hP, t9, t11, hk, hl', t3, w3, hneg, wk]
    refine ⟨ls.length - (k + 1), by omega, ?_⟩
    rw [hI]
    exact ⟨k + 1, by omega, rfl, by simp -dsimp -implicitDefEqProofs [-getElem?_pos, go_sem, t0], by simp -dsimp -implicitDefEqProofs [-getElem?_pos, go_sem, t9], by simp -dsimp -implicitDefEqProofs [-getElem?_pos, go_sem, t10], by simp -dsimp -implicitDefEqProofs [-getElem?_pos, go_sem], by rw [e2]; simp -dsimp -implicitDefEqProofs [-getElem?_pos, go_sem], by simp -dsimp -implicitDefEqProofs [-getElem?_pos, go_sem, sH]⟩
  · have hk : k = ls.length := by simp at h; omega
    subst hk
    rw [List.take_length] at t3
    obtain ⟨n, hnn⟩ : ∃ n, n = ls.flatten.length := ⟨_, rfl⟩
    rw [← hnn] at t3
    simp -dsimp -implicitDefEqProofs [-getElem?_pos, go_sem, hP, t3]
    refine callB_m (grow_m_flow n (by omega) s.H) hP (by kernel_rfl) ?_
    rintro r H' ⟨rfl, rfl⟩
    simp -dsimp -implicitDefEqProofs [-getElem?_pos, go_sem, hP, t0]
    obtain ⟨J, hJ⟩ : ∃ J : Nat → St → Prop, J = fun m s => ∃ (k id : Nat), k ≤ ls.length ∧ m = ls.length - k ∧ s.t 25 = .list 1 (ls.map fun l => [.list 4 (encL Flow.cells l)]) ∧ s.t 26 = iv ls.length ∧ s.t 27 = iv k ∧ s.t 6 = .sref id 0 (ls.take k).flatten.length ∧ H.length ≤ id ∧ s.H[id]? = some (some ⟨42, 4, encL Flow.cells (ls.take k).flatten⟩) ∧ Kept [] H s.H := ⟨_, rfl⟩
    refine aloop0 J ls.length (by rw [hN]; rfl) ?_ ?_
    · rw [hJ]
      exact ⟨0, H.length, by omega, by omega, by simp -dsimp -implicitDefEqProofs [-getElem?_pos, go_sem], by simp -dsimp -implicitDefEqProofs [-getElem?_pos, go_sem], by simp -dsimp -implicitDefEqProofs [-getElem?_pos, go_sem], by simp -dsimp -implicitDefEqProofs [-getElem?_pos, go_sem, sH], Nat.le_refl _, by simp -dsimp -implicitDefEqProofs [-getElem?_pos, go_sem, sH], by simp -dsimp -implicitDefEqProofs [-getElem?_pos, go_sem, sH]; exact kept_push _ (kept_refl _ _)⟩
    clear t0 t9 t10 t11 t3 sH
    intro m s hs'
    rw [hJ] at hs'
    obtain ⟨k, id, hk, hm, t25, t26, t27, t6, hid, hH, hKp⟩ := hs'
    simp -dsimp -implicitDefEqProofs [-getElem?_pos, go_sem, hP, t26, t27]
    refine condP (fun h => ?_) (fun h => ?_)
    · have hk : k < ls.length := by simpa using h
      obtain ⟨l, hl'⟩ : ∃ l, ls[k]? = some l := ⟨_, List.getElem?_eq_getElem hk⟩
      have e1 : ls.take (k + 1) = ls.take k ++ [l] := by rw [List.take_add_one, hl']; rfl
      have e2 : (ls.take (k + 1)).flatten = (ls.take k).flatten ++ l := by rw [e1]; simp
      have hle := flat (k + 1) (by omega)
      have wk := wrap_in ((k : Int) + 1) (by omega)
      rw [e2, List.length_append] at hle
      obtain ⟨fl, hfl⟩ : ∃ fl, fl = (ls.take k).flatten := ⟨_, rfl⟩
      rw [← hfl] at e2 t6 hH hle
      have hlt := (List.getElem?_eq_some_iff.1 hH).1
      simp -dsimp -implicitDefEqProofs [-getElem?_pos, go_sem, hP, t25, t27, hk, hl', t6, hH, wk]
      refine ⟨by omega, by omega, ls.length - (k + 1), by omega, ?_⟩
      rw [hJ]
      refine ⟨k + 1, s.H.length, by omega, rfl, by simp -dsimp -implicitDefEqProofs [-getElem?_pos, go_sem, t25], by simp -dsimp -implicitDefEqProofs [-getElem?_pos, go_sem, t26], by simp -dsimp -implicitDefEqProofs [-getElem?_pos, go_sem], by simp -dsimp -implicitDefEqProofs [-getElem?_pos, go_sem, e2], by omega, ?_, ?_⟩
      · simp -dsimp -implicitDefEqProofs [-getElem?_pos, go_sem, e2, encL_app]
      · simp -dsimp -implicitDefEqProofs [-getElem?_pos, go_sem]
        exact kept_push _ (kept_new _ hid hKp)
    · have hk : k = ls.length := by simp at h; omega
      subst hk
      rw [List.take_length] at t6 hH
      simp -dsimp -implicitDefEqProofs [-getElem?_pos, go_sem, hP, t6]
      exact ⟨hid, hH, hKp⟩
def mergeA (al : List Flow) : List Flow × Int := if checkI al = 0 then (isort befB29 al, 0) else ([], checkI al)
theorem merge_pf (ls : List (List Flow)) (al : List Flow) (hal : al = ls.flatten) (hl : ls.length ≤ 1000) (hn : al.length < 20) :
    PFun Tryz.prog none none 19 [.list 1 (ls.map fun l => [flowsL l])] (· = .tup [flowsL (mergeA al).1, iv (mergeA al).2]) := by
  refine pfun_intro Tryz.func19 rfl (by simp [Tryz.f19]) (by kernel_rfl) ?_
  intro E hP hr hs hW hN
  simp -dsimp -implicitDefEqProofs [-getElem?_pos, go_sem, hP]
  refine callB_m (concat_m_flow (row := E.row) (src := E.src) ls al hal hl (by omega) _) hP (by kernel_rfl) ?_
  clear hal
  rintro r H' ⟨id, rfl, hid, hH, hKp⟩
  have hi := imm_encL Flow.cells (k := 4) imm_flow al
  simp -dsimp -implicitDefEqProofs [-getElem?_pos, go_sem, hP]
  refine callB_pure (check_pf29 al (by omega)) hP en_20 (args_sref hH (by simp [encL]) hi (args_nil.2 trivial)) .sc ?_
  simp -dsimp -implicitDefEqProofs [-getElem?_pos, go_sem, hP]
  refine condP (fun h0 => ?_) (fun h0 => ?_)
  rotate_left
  · simp -dsimp -implicitDefEqProofs [-getElem?_pos, go_sem, hP]
    refine done_nil2 4 ?_
    have : ¬ checkI al = 0 := by simpa using h0
    simp [mergeA, this, flowsL]
  have h0 : checkI al = 0 := by simpa using h0
  simp -dsimp -implicitDefEqProofs [-getElem?_pos, go_sem, hP]
  have ho := order_m (row := E.row) (src := E.src) al H' id (al.length) rfl (by omega) hH
  refine callB_m ho hP en_44 ?_
  rintro r H'' ⟨rfl, rfl⟩
  have hlt := (List.getElem?_eq_some_iff.1 hH).1
  simp -dsimp -implicitDefEqProofs [-getElem?_pos, go_sem, hP]
  have e5 := encL_take Flow.cells (isort befB29 al) al.length (by rw [isort_len])
  refine done (x := .tup [flowsL (isort befB29 al), iv 0]) ?_ (by simp [mergeA, h0, flowsL]) ?_
  · simp -dsimp -implicitDefEqProofs [-getElem?_pos, go_sem, hlt, e5]
    exact imm_list.1 (imm_encL Flow.cells (k := 4) imm_flow _)
  · simp -dsimp -implicitDefEqProofs [-getElem?_pos, go_sem, hlt, e5]
    rfl
end Go.Proofs.YtpjecipdklcjbaaGreatDoor
namespace Go.PA
open Go.RowKit
section
variable {E : Env}
theorem weaker_frzcell {s : St} {o id ty k ty' kk n r c : Nat} {es fs : List (List AV)} {e : List AV} (hW : ∀ b, ¬ E.W b) (ho : s.H[o]? = some (some ⟨ty, k, es⟩)) (hk : k ≠ 2) (he : es[r]? = some e) (hc : e[c]? = some (.sref id 0 n))
    (hid : s.H[id]? = some (some ⟨ty', kk, fs⟩)) (hn : n = fs.length) (hi : Imm (.list kk fs)) (hne : o ≠ id) : Weaker E s ⟨s.t, (s.H.set id none).set o (some ⟨ty, k, es.set r (e.set c (.list kk fs))⟩)⟩ := by
  rintro a w ⟨ρ, ok, g, hx, hd, hs, hr⟩
  obtain ⟨ok', g1, x1, hok⟩ := g.freeze [id] hW
  have g1 : Good E w ρ (s.H.set id none) ok' := g1
  have x1 : Ext w ρ s.H ok w ρ (s.H.set id none) ok' := x1
  have ho1 : (s.H.set id none)[o]? = some (some ⟨ty, k, es⟩) := by rw [List.getElem?_set_ne (Ne.symm hne)]; exact ho
  have hobj := g.obj o _ ho
  have hlen := g.len o _ ho
  have hmem := List.mem_of_getElem? he
  have hv : view1 s.H (.sref id 0 n) = .list kk fs := by
    simp only [view1, hid, List.drop_zero]
    rw [hn, List.take_length]
  cases hρ : ρ o with
  | none =>
    rw [hρ] at hobj
    have : es = [] := hobj
    rw [this] at he
    cases he
  | some bc =>
    obtain ⟨b, cap⟩ := bc
    rw [hρ] at hobj
    rcases hobj with ⟨cur, h1, h2, h3, h4, h5⟩ | ⟨_, hk', _⟩ | ⟨_, hk', hit⟩
    · obtain ⟨g', x'⟩ := g1.change (w' := w) ho1 hρ ⟨ty, k, es.set r (e.set c (.list kk fs))⟩ rfl (by simp) (fun e' he' => by
        rcases List.mem_or_eq_of_mem_set he' with he' | rfl
        · exact hlen e' he'
        · rw [List.length_set]; exact hlen e hmem) rfl rfl rfl rfl (fun _ _ => rfl) fun hx' => .inl ⟨cur, h1, h2, by simpa using h3, h4, fun i e' j a' hie hja => by
          by_cases hir : i = r
          · subst hir
            have hil := (List.getElem?_eq_some_iff.1 he).1
            rw [List.getElem?_set_self hil, Option.some.injEq] at hie
            subst hie
            by_cases hjc : j = c
            · subst hjc
              have hjl := (List.getElem?_eq_some_iff.1 hc).1
              rw [List.getElem?_set_self hjl, Option.some.injEq] at hja
              subst hja
              obtain ⟨v, v1, v2, v3⟩ := h5 i e j _ he hc
              refine ⟨v, v1, v2, ?_⟩
              have hri := view1_soundX (· ∈ [id]) g v3 (by rw [hv]; exact hi) (by simp [srefs1])
              rw [hv] at hri
              exact (Rep.imm hri hok hi).ext hx'
            · rw [List.getElem?_set_ne (Ne.symm hjc)] at hja
              obtain ⟨v, v1, v2, v3⟩ := h5 i e j _ he hja
              exact ⟨v, v1, v2, (v3.ext x1).ext hx'⟩
          · rw [List.getElem?_set_ne (Ne.symm hir)] at hie
            obtain ⟨v, v1, v2, v3⟩ := h5 i e' j _ hie hja
            exact ⟨v, v1, v2, (v3.ext x1).ext hx'⟩⟩
      exact ⟨ρ, ok', g', hx.trans (x1.trans x'), hd, hs, fun i => ((hr i).ext x1).ext x'⟩
    · exact absurd hk' hk
    · exfalso
      rcases hit with ⟨hes, _⟩ | ⟨m, clk, seen, ents, c1, c2, _, _, _, _, hes, hcc⟩
      · have hes : es = [[.junk, .junk, .imap []]] := hes
        subst hes
        have : e = [.junk, .junk, .imap []] := by
          rcases r with _ | r
          · simpa using he.symm
          · simp at he
        subst this
        rcases c with _ | _ | _ | c <;> simp at hc
      · have hes : es = [[c1, c2, .imap ((ents.toList.filter fun e => !seen.contains e.born).map fun e => (e.key, e.val))]] := hes
        subst hes
        have : e = [c1, c2, .imap ((ents.toList.filter fun e => !seen.contains e.born).map fun e => (e.key, e.val))] := by
          rcases r with _ | r
          · simpa using he.symm
          · simp at he
        subst this
        rcases hcc with ⟨rfl, rfl⟩ | ⟨x, _, _, rfl, rfl⟩ <;> rcases c with _ | _ | _ | c <;> simp at hc
def AInv (E : Env) (Inv : St → Prop) (s : St) : Prop := ∃ s', Weaker E s s' ∧ Inv s'
theorem Weaker.refl (s : St) : Weaker E s s := fun _ _ h => h
theorem awp_join {a b : Code} {s : St} {Q : Exit → St → Prop} (Inv : St → Prop) (hc : codeOk E.N a = true) (h : awp E a s (Athen (fun s' => AInv E Inv s') Q)) (hk : ∀ s', Inv s' → AWp E b s' Q) : AWp E (.seq a b) s Q := by
  intro x w r
  refine wp_seq (wp_mono (awp_sound a s _ hc h x w r) fun e a' w' h' => ?_)
  obtain ⟨s', h1, h2⟩ := h'
  cases e with
  | normal =>
    obtain ⟨s2, k1, k2⟩ := h1
    exact hk s2 k2 a' w' (k1 a' w' h2)
  | _ => exact ⟨s', h1, h2⟩
end
open Go.RowKit
section
variable {E : Env} {w : World} {ρ : Places} {H : Heap} {ok : Nat → Prop}
end
theorem args_fnc {H : Heap} {g : FuncId} {cs cs' xs ys : List AV} (h : cs.map (viewR H) = cs') (hi : ∀ c, c ∈ cs' → Imm c) (ht : Args H xs ys) : Args H (.fn g cs :: xs) (.fn g cs' :: ys) :=
  args_cons.2 ⟨⟨by rw [view_fn, h]; exact .refl _, by rw [view_fn, h]; exact imm_fn.2 hi⟩, ht⟩
theorem encL_takeE {α : Type} (enc : α → List AV) (l : List α) (i : Nat) : (encL enc l).take i = encL enc (l.take i) := by simp [encL, List.map_take]
theorem encL_dropE {α : Type} (enc : α → List AV) (l : List α) (i : Nat) : (encL enc l).drop i = encL enc (l.drop i) := by simp [encL, List.map_drop]
theorem encL_appE {α : Type} (enc : α → List AV) (l m : List α) : encL enc l ++ encL enc m = encL enc (l ++ m) := by simp [encL]
def pickOk (ops : Array Oper) (S T : List Nat) (listed : Array Bool) (i : Nat) : Bool :=
  let A := ancs ops.toList []
  ((List.range ops.size).all fun j => match ops[j]? with
    | none => true
    | some o => !listed.getD j false || o.after.toList.all fun e => !Region.binds .any e || listed.getD e.on false) &&
  (decide (i ∈ Region.ready .any ops listed) && match ops[i]? with
    | none => false
    | some oi => (List.range ops.size).all fun j => match ops[j]? with
      | none => true
      | some oj => decide (j = i) || (listed.getD j true || ((A.getD j 0).testBit i || (oi.apart ops oj && swapOk S T i j oi oj))))
theorem xany_pick {E : Env} {ops : Array Oper} {D : Nat → Bool} {S T : List Nat} {K : St → Prop} {n : Nat} (i : Nat) {oi : Oper} {listed : Array Bool} {s : St} (hi : ops[i]? = some oi) (hc : pickOk ops S T listed i = true)
    (h : AXOps D E ops S T [oi] i s (fun s' => XAny D E ops S T K n (listed.setIfInBounds i true) s')) : XAny D E ops S T K (n + 1) listed s := by
  unfold pickOk at hc
  simp only [Bool.and_eq_true, decide_eq_true_eq] at hc
  obtain ⟨h1, h2, h3⟩ := hc
  rw [hi] at h3
  refine xany_first hi n listed s (fun j o ho hj e he hb => ?_) (fun j oj hoj hji hun hanc => ?_) h2 h
  · have := List.all_eq_true.1 h1 j (List.mem_range.2 (Array.getElem?_eq_some_iff.1 ho).1)
    simp only [ho, hj, Bool.not_true, Bool.false_or] at this
    have := List.all_eq_true.1 this e (by simpa using he)
    simpa [hb] using this
  · have := List.all_eq_true.1 h3 j (List.mem_range.2 (Array.getElem?_eq_some_iff.1 hoj).1)
    simp only [hoj, hji, hun, hanc, decide_false, Bool.false_or, Bool.and_eq_true] at this
    exact this
def SlIsT (H : Heap) (x : AV) (k : Nat) (es : List (List AV)) : Prop := x = .list k es ∨ (x = .nil ∧ es = []) ∨ ∃ id ty tl, x = .sref id 0 es.length ∧ H[id]? = some (some ⟨ty, k, es ++ tl⟩)
theorem SlIsT.kept {H H' : Heap} {x : AV} {k : Nat} {es : List (List AV)} (h : SlIsT H x k es) (hk : Kept [] H H') : SlIsT H' x k es := by
  rcases h with h | h | ⟨id, ty, tl, h1, h2⟩
  · exact .inl h
  · exact .inr (.inl h)
  · exact .inr (.inr ⟨id, ty, tl, h1, hk id _ (by simp) h2⟩)
theorem SlIsT.len {H : Heap} {x : AV} {k : Nat} {es : List (List AV)} (h : SlIsT H x k es) : alen H x = some (es.length : Int) := by
  rcases h with h | ⟨rfl, rfl⟩ | ⟨id, ty, tl, rfl, h2⟩
  · subst h; rfl
  · rfl
  · simp only [alen, h2]
theorem SlIsT.idx {P : Program} {t e : TypeId} {H : Heap} {x : AV} {k : Nat} {es : List (List AV)} (h : SlIsT H x k es) (ht : Go.PA.elemOf P t = some e) (hk : k = szOf P e) (hn : knownT P e = true) (i : Nat) (hi : i < es.length) :
    ∃ a, aindexAddr P t H x i = some a ∧ addrCells H a = some es[i] := by
  rcases h with h | ⟨rfl, rfl⟩ | ⟨id, ty, tl, rfl, h2⟩
  · subst h
    refine ⟨.iref es[i], ?_, rfl⟩
    rw [aix_list ht]
    simp [hk, hn, hi]
  · simp at hi
  · have hi' : i < es.length + tl.length := by omega
    refine ⟨.ref id i 0, ?_, ?_⟩
    · rw [aix_sref ht]
      simp [h2, hk, hn, hi, hi']
    · rw [addr_ref]
      simp [h2, List.getElem?_append_left hi, hi]
end Go.PA
namespace Go.Proofs.YtpjecipdklcjbaaGreatDoor
open Go.PA
open Go.RowKit
theorem or3_pf (l : List Int) (hl : l.length ≤ 1000) : PFun Tryz.prog none none 53 [intsL l] (· = iv (orI l)) := by
  refine pfun_intro Tryz.func53 rfl (by simp [Tryz.f53]) (by kernel_rfl) ?_
  intro E hP hr hs hW hN
  simp [go_sem, hP, intsL]
  refine aloop0 (fun m s => ∃ k : Nat, k ≤ l.length ∧ m = l.length - k ∧ orI l = orI (l.drop k) ∧ s.t 3 = iv 0 ∧ s.t 6 = intsL l ∧ s.t 7 = iv l.length ∧ s.t 8 = iv k) l.length (by rw [hN]; rfl) ?_ ?_
  · exact ⟨0, by omega, by omega, by simp, by simp [go_sem], by simp [go_sem, intsL], by simp [go_sem], by simp [go_sem]⟩
  rintro m s ⟨k, hk, hm, ho, t3, t6, t7, t8⟩
  simp [go_sem, hP, t7, t8]
  refine condP (fun h => ?_) (fun h => ?_)
  · have hk : k < l.length := by simpa using h
    rw [orI_drop l k hk] at ho
    have w := wrap_in ((k : Int) + 1) (by omega)
    simp [go_sem, hP, t3, t6, t7, t8, intsL, hk]
    by_cases h0 : l[k] = 0
    · simp [go_sem, hP, h0, t8, w]
      rw [if_pos h0] at ho
      exact ⟨l.length - (k + 1), by omega, k + 1, by omega, rfl, ho, t3, t6, t7, rfl⟩
    · simp [go_sem, hP, h0]
      rw [if_neg h0] at ho
      exact ho.symm
  · have hk : l.length ≤ k := by simpa using h
    simp [go_sem, hP, t3]
    rw [ho, List.drop_eq_nil_of_le hk]
    rfl
theorem claims0_pf : PFun Tryz.prog none none 107 [.nil] (· = bv true) := by
  refine pfun_intro Tryz.func107 rfl (by simp [Tryz.f107]) (by kernel_rfl) ?_
  intro E hP hr hs hW hN
  simp -dsimp -implicitDefEqProofs [-getElem?_pos, go_sem, hP]
  refine aloop0 (fun _ s' => s' = _) 0 (by rw [hN]; rfl) rfl ?_
  rintro _ _ rfl
  simp -dsimp -implicitDefEqProofs [-getElem?_pos, go_sem, hP]
theorem incomes0_pf : PFun Tryz.prog none none 108 [.nil] (· = bv true) := by
  refine pfun_intro Tryz.func108 rfl (by simp [Tryz.f108]) (by kernel_rfl) ?_
  intro E hP hr hs hW hN
  simp -dsimp -implicitDefEqProofs [-getElem?_pos, go_sem, hP]
  refine aloop0 (fun _ s' => s' = _) 0 (by rw [hN]; rfl) rfl ?_
  rintro _ _ rfl
  simp -dsimp -implicitDefEqProofs [-getElem?_pos, go_sem, hP]
set_option maxHeartbeats 1000000 in
theorem matched0_pf : PFun Tryz.prog none none 109 [.agg [.nil, .nil, .nil, .nil]] (· = bv true) := by
  refine pfun_intro Tryz.func109 rfl (by simp [Tryz.f109]) (by kernel_rfl) ?_
  intro E hP hr hs hW hN
  obtain ⟨O, hO⟩ : ∃ O : AObj, O = ⟨57, 4, [[.nil, .nil, .nil, .nil]]⟩ := ⟨_, rfl⟩
  obtain ⟨Inv, hInv⟩ : ∃ Inv : St → Prop, Inv = fun s => s.t 1 = .ref 0 0 0 ∧ s.H[0]? = some (some O) := ⟨_, rfl⟩
  simp -dsimp -implicitDefEqProofs [-getElem?_pos, go_sem, hP, ← hO]
  refine adraw_cut Inv ?_ ?_
  · refine adrawK (fun id => decide (id = 0)) [] [] 3 hP (by kernel_rfl) (by kernel_rfl) (by simp) ?_
    simp -dsimp -implicitDefEqProofs [-getElem?_pos, go_sem, hP, List.take_succ_cons, List.take_zero, hO, restr_get]
    refine xany_pick 4 rfl (by kernel_rfl) ?_
    simp -dsimp -implicitDefEqProofs [-getElem?_pos, go_sem, hP, hO, restr_get]
    refine xany_pick 5 rfl (by kernel_rfl) ?_
    simp -dsimp -implicitDefEqProofs [-getElem?_pos, go_sem, hP, hO, restr_get]
    refine xany_pick 6 rfl (by kernel_rfl) ?_
    simp -dsimp -implicitDefEqProofs [-getElem?_pos, go_sem, hP, hO, restr_get]
    refine xany_two (i := 3) (j := 7) (by kernel_rfl) rfl rfl ?_ ?_
    · simp -dsimp -implicitDefEqProofs [-getElem?_pos, go_sem, hP, restr_get]
      refine ⟨agree_1, ?_⟩
      refine xany_pick 8 rfl (by kernel_rfl) ?_
      simp -dsimp -implicitDefEqProofs [-getElem?_pos, go_sem, hP, restr_get]
      refine xany_one (i := 7) (by kernel_rfl) rfl ?_
      simp -dsimp -implicitDefEqProofs [-getElem?_pos, go_sem, hP, restr_get]
      refine ⟨agree_1, ?_⟩
      refine xany_one (i := 9) (by kernel_rfl) rfl ?_
      simp -dsimp -implicitDefEqProofs [-getElem?_pos, go_sem, hP, restr_get]
      refine xany_nil (by kernel_rfl) ?_
      rw [hInv]
      exact ⟨by simp -dsimp -implicitDefEqProofs [-getElem?_pos, go_sem], by simp -dsimp -implicitDefEqProofs [-getElem?_pos, go_sem, hO]⟩
    · simp -dsimp -implicitDefEqProofs [-getElem?_pos, go_sem, hP, restr_get]
      refine ⟨agree_1, ?_⟩
      refine xany_one (i := 3) (by kernel_rfl) rfl ?_
      simp -dsimp -implicitDefEqProofs [-getElem?_pos, go_sem, hP, restr_get]
      refine ⟨agree_1, ?_⟩
      refine xany_one (i := 8) (by kernel_rfl) rfl ?_
      simp -dsimp -implicitDefEqProofs [-getElem?_pos, go_sem, hP, restr_get]
      refine xany_one (i := 9) (by kernel_rfl) rfl ?_
      simp -dsimp -implicitDefEqProofs [-getElem?_pos, go_sem, hP, restr_get]
      refine xany_nil (by kernel_rfl) ?_
      rw [hInv]
      exact ⟨by simp -dsimp -implicitDefEqProofs [-getElem?_pos, go_sem], by simp -dsimp -implicitDefEqProofs [-getElem?_pos, go_sem, hO]⟩
  rw [hInv]
  rintro s ⟨t1, h0⟩
  have lt0 := (List.getElem?_eq_some_iff.1 h0).1
  simp -dsimp -implicitDefEqProofs [-getElem?_pos, go_sem, hP, t1, h0, lt0, hO]
  refine aloop0 (fun _ s' => s' = _) 0 (by rw [hN]; rfl) rfl ?_
  rintro _ _ rfl
  simp -dsimp -implicitDefEqProofs [-getElem?_pos, go_sem, hP, t1, h0, lt0, hO]
  refine aloop0 (fun _ s' => s' = _) 0 (by rw [hN]; rfl) rfl ?_
  rintro _ _ rfl
  simp -dsimp -implicitDefEqProofs [-getElem?_pos, go_sem, hP, t1, h0, lt0, hO]
  refine aloop0 (fun _ s' => s' = _) 0 (by rw [hN]; rfl) rfl ?_
  rintro _ _ rfl
  simp -dsimp -implicitDefEqProofs [-getElem?_pos, go_sem, hP, t1, h0, lt0, hO]
  refine aloop0 (fun _ s' => s' = _) 0 (by rw [hN]; rfl) rfl ?_
  rintro _ _ rfl
  simp -dsimp -implicitDefEqProofs [-getElem?_pos, go_sem, hP, t1, h0, lt0, hO]
  refine aloop0 (fun _ s' => s' = _) 0 (by rw [hN]; rfl) rfl ?_
  rintro _ _ rfl
  simp -dsimp -implicitDefEqProofs [-getElem?_pos, go_sem, hP, t1, h0, lt0, hO]
theorem rcheck0_pf : PFun Tryz.prog none none 54 [.agg [.nil, .nil, .nil, .nil]] (· = iv 0) := by
  refine pfun_intro Tryz.func54 rfl (by simp [Tryz.f54]) (by kernel_rfl) ?_
  intro E hP hr hs hW hN
  simp -dsimp -implicitDefEqProofs [-getElem?_pos, go_sem, hP]
  refine callB_pure claims0_pf hP en_107 (args_same (by simp [go_sem])) .sc ?_
  simp -dsimp -implicitDefEqProofs [-getElem?_pos, go_sem, hP]
  refine callB_pure incomes0_pf hP en_108 (args_same (by simp [go_sem])) .sc ?_
  simp -dsimp -implicitDefEqProofs [-getElem?_pos, go_sem, hP]
  refine callB_pure matched0_pf hP en_109 (args_same (by simp [go_sem])) .sc ?_
  simp -dsimp -implicitDefEqProofs [-getElem?_pos, go_sem, hP]
theorem ins0_pf (g : FuncId) : PFun Tryz.prog none none 188 [.nil, iv 0, iv 0, .fn g []] (· = .tup []) := by
  refine pfun_intro Tryz.func188 rfl (by simp [Tryz.f188]) (by kernel_rfl) ?_
  intro E hP hr hs hW hN
  have w1 := wrap_in 1 (by omega)
  simp -dsimp -implicitDefEqProofs [-getElem?_pos, go_sem, hP, w1]
  refine aloop0 (fun _ s' => s' = _) 0 (by rw [hN]; rfl) rfl ?_
  rintro _ _ rfl
  simp -dsimp -implicitDefEqProofs [-getElem?_pos, go_sem, hP]
  exact done_imm (.tup (by simp)) rfl
theorem stab0_pf (g : FuncId) : PFun Tryz.prog none none 156 [.nil, iv 0, .fn g []] (· = .tup []) := by
  refine pfun_intro Tryz.func156 rfl (by simp [Tryz.f156]) (by kernel_rfl) ?_
  intro E hP hr hs hW hN
  simp -dsimp -implicitDefEqProofs [-getElem?_pos, go_sem, hP]
  refine aloop0 (fun _ s' => s' = _) 0 (by rw [hN]; rfl) rfl ?_
  rintro _ _ rfl
  simp -dsimp -implicitDefEqProofs [-getElem?_pos, go_sem, hP]
  refine callB_is ((ins0_pf g).lift _ _) hP en_188 (by simp [go_sem]) (.tup (by simp)) ?_
  simp -dsimp -implicitDefEqProofs [-getElem?_pos, go_sem, hP]
  refine aloop0 (fun _ s' => s' = _) 0 (by rw [hN]; rfl) rfl ?_
  rintro _ _ rfl
  simp -dsimp -implicitDefEqProofs [-getElem?_pos, go_sem, hP]
  exact done_imm (.tup (by simp)) rfl
theorem sort0_pf (g : FuncId) : PFun Tryz.prog none none 94 [.nil, .fn g []] (· = .tup []) := by
  refine pfun_intro Tryz.func94 rfl (by simp [Tryz.f94]) (by kernel_rfl) ?_
  intro E hP hr hs hW hN
  simp -dsimp -implicitDefEqProofs [-getElem?_pos, go_sem, hP]
  refine callB_is ((stab0_pf g).lift _ _) hP en_156 (by simp [go_sem]) (.tup (by simp)) ?_
  simp -dsimp -implicitDefEqProofs [-getElem?_pos, go_sem, hP]
  exact done_imm (.tup (by simp)) rfl
theorem order0_pf : PFun Tryz.prog none none 44 [.nil] (· = flowsL []) := by
  refine pfun_intro Tryz.func44 rfl (by simp [Tryz.f44]) (by kernel_rfl) ?_
  intro E hP hr hs hW hN
  simp -dsimp -implicitDefEqProofs [-getElem?_pos, go_sem, hP]
  refine callB_is ((sort0_pf _).lift _ _) hP en_94 (by simp [go_sem]) (.tup (by simp)) ?_
  simp -dsimp -implicitDefEqProofs [-getElem?_pos, go_sem, hP]
  exact done_weak .nil (imm_flowsL []) (.nil 4) rfl
theorem tindex0_pf : PFun Tryz.prog none none 163 [.nil, .fn 111 []] (· = iv (-1)) := by
  refine pfun_intro Tryz.func163 rfl (by simp [Tryz.f163]) (by kernel_rfl) ?_
  intro E hP hr hs hW hN
  simp -dsimp -implicitDefEqProofs [-getElem?_pos, go_sem, hP]
  refine aloop0 (fun _ s' => s' = _) 0 (by rw [hN]; rfl) rfl ?_
  rintro _ _ rfl
  simp -dsimp -implicitDefEqProofs [-getElem?_pos, go_sem, hP]
theorem tcont0_pf : PFun Tryz.prog none none 110 [.nil, .fn 111 []] (· = bv false) := by
  refine pfun_intro Tryz.func110 rfl (by simp [Tryz.f110]) (by kernel_rfl) ?_
  intro E hP hr hs hW hN
  simp -dsimp -implicitDefEqProofs [-getElem?_pos, go_sem, hP]
  refine callB_pure tindex0_pf hP en_163 (args_same (by simp [go_sem])) .sc ?_
  simp -dsimp -implicitDefEqProofs [-getElem?_pos, go_sem, hP]
theorem tcheck0_pf : PFun Tryz.prog none none 55 [.nil] (· = iv 0) := by
  refine pfun_intro Tryz.func55 rfl (by simp [Tryz.f55]) (by kernel_rfl) ?_
  intro E hP hr hs hW hN
  simp -dsimp -implicitDefEqProofs [-getElem?_pos, go_sem, hP]
  refine callB_pure tcont0_pf hP en_110 (args_same (by simp [go_sem])) .sc ?_
  simp -dsimp -implicitDefEqProofs [-getElem?_pos, go_sem, hP]
theorem tflows0_pf (f : AV) : PFun Tryz.prog none none 113 [.nil, f] (· = flowsL []) := by
  refine pfun_intro Tryz.func113 rfl (by simp [Tryz.f113]) (by kernel_rfl) ?_
  intro E hP hr hs hW hN
  simp -dsimp -implicitDefEqProofs [-getElem?_pos, go_sem, hP]
  refine aloop0 (fun _ s' => s' = _) 0 (by rw [hN]; rfl) rfl ?_
  rintro _ _ rfl
  simp -dsimp -implicitDefEqProofs [-getElem?_pos, go_sem, hP]
  refine callB_is ((sort0_pf _).lift _ _) hP en_94 (by simp [go_sem]) (.tup (by simp)) ?_
  simp -dsimp -implicitDefEqProofs [-getElem?_pos, go_sem, hP]
  exact done_weak .nil (imm_flowsL []) (.nil 4) rfl
theorem texp0_pf (a b : Int) : PFun Tryz.prog none none 56 [.nil, iv a, iv b] (· = .tup [flowsL [], iv 0]) := by
  refine pfun_intro Tryz.func56 rfl (by simp [Tryz.f56]) (by kernel_rfl) ?_
  intro E hP hr hs hW hN
  simp -dsimp -implicitDefEqProofs [-getElem?_pos, go_sem, hP]
  refine callB_pure tcheck0_pf hP en_55 (args_same (by simp [go_sem])) .sc ?_
  simp -dsimp -implicitDefEqProofs [-getElem?_pos, go_sem, hP]
  refine callB_frz ((tflows0_pf (.fn 114 [.iref [iv a], .iref [iv b]])).lift _ _) hP hW en_113 (args_imm .nil (args_fnc (cs := [.ref 0 0 0, .ref 1 0 0]) (by simp -dsimp -implicitDefEqProofs [-getElem?_pos, go_sem, viewR_ref]) (by simp [imm_iref, imm_sc]) (args_nil.2 trivial))) (imm_flowsL _) ?_
  simp -dsimp -implicitDefEqProofs [-getElem?_pos, go_sem, hP, flowsL]
  exact done_imm (imm_pair (imm_flowsL []) .sc) rfl
open Go.PA
def amongB (n lo hi : Int) : Bool := decide (lo ≤ n) && decide (n ≤ hi)
theorem amongB_iff {n lo hi : Int} : amongB n lo hi = true ↔ lo ≤ n ∧ n ≤ hi := by simp [amongB]
def vB (n : Int) : Bool := amongB n 0 1000000000000
def ascA : Int → List Int → Bool
  | _, [] => true
  | p, i :: l => amongB i 1 1000 && (decide (p < i) && ascA i l)
def numB (ids : List Int) : Bool := ascA 0 ids && decide (ids.head? = some 1)
def ids (l : List TSub) : List Int := l.map (·.ID)
theorem ids_len (l : List TSub) : (ids l).length = l.length := by simp [ids]
theorem ids_get (l : List TSub) (i : Nat) : (ids l)[i]? = (l[i]?).map (·.ID) := by simp [ids]
theorem ascA_gt : ∀ (l : List Int) (p : Int), ascA p l = true → ∀ i, i ∈ l → p < i ∧ 1 ≤ i ∧ i ≤ 1000
  | [], p, _, i, hi => by simp at hi
  | a :: l, p, h, i, hi => by
    simp only [ascA, Bool.and_eq_true, amongB_iff, decide_eq_true_eq] at h
    rcases List.mem_cons.1 hi with rfl | hi
    · exact ⟨h.2.1, h.1⟩
    · have := ascA_gt l a h.2.2 i hi
      omega
theorem ascA_nodup : ∀ (l : List Int) (p : Int), ascA p l = true → l.Nodup
  | [], p, _ => List.nodup_nil
  | a :: l, p, h => by
    simp only [ascA, Bool.and_eq_true, amongB_iff, decide_eq_true_eq] at h
    refine List.nodup_cons.2 ⟨fun hm => ?_, ascA_nodup l a h.2.2⟩
    have := ascA_gt l a h.2.2 a hm
    omega
def adj (l : List TSub) (id amt : Int) : List TSub := l.map fun s => if s.ID = id then ⟨s.ID, s.Balance + amt⟩ else s
theorem adj_len (l : List TSub) (id amt : Int) : (adj l id amt).length = l.length := by simp [adj]
theorem adj_ids (l : List TSub) (id amt : Int) : ids (adj l id amt) = ids l := by
  simp only [ids, adj, List.map_map]
  apply List.map_congr_left
  intro s _
  simp only [Function.comp]
  split <;> rfl
theorem adj_none {l : List TSub} {id amt : Int} (h : id ∉ ids l) : adj l id amt = l := by
  have : ∀ s, s ∈ l → (if s.ID = id then (⟨s.ID, s.Balance + amt⟩ : TSub) else s) = s := fun s hs => by
    rw [if_neg]
    intro e
    exact h (List.mem_map.2 ⟨s, hs, e⟩)
  unfold adj
  rw [List.map_congr_left this]
  simp
theorem adj_get (l : List TSub) (id amt : Int) (i : Nat) : (adj l id amt)[i]? = (l[i]?).map fun s => if s.ID = id then ⟨s.ID, s.Balance + amt⟩ else s := by simp [adj]
theorem nodup_get {l : List TSub} (h : (ids l).Nodup) {i j : Nat} {a b : TSub} (hi : l[i]? = some a) (hj : l[j]? = some b) (e : a.ID = b.ID) : i = j := by
  have h1 : (ids l)[i]? = some a.ID := by rw [ids_get, hi]; rfl
  have h2 : (ids l)[j]? = some a.ID := by rw [ids_get, hj, e]; rfl
  exact (List.getElem?_inj (List.getElem?_eq_some_iff.1 h1).1 h).1 (h1.trans h2.symm)
theorem set_adj {l : List TSub} (hn : (ids l).Nodup) {i : Nat} {a : TSub} (hi : l[i]? = some a) (amt : Int) : l.set i ⟨a.ID, a.Balance + amt⟩ = adj l a.ID amt := by
  apply List.ext_getElem?
  intro j
  rw [adj_get, List.getElem?_set]
  by_cases hij : i = j
  · subst hij
    have := (List.getElem?_eq_some_iff.1 hi).1
    simp [-getElem?_pos, this, hi]
  · rw [if_neg hij]
    cases hj : l[j]? with
    | none => rfl
    | some b =>
      have : ¬ b.ID = a.ID := fun e => hij (nodup_get hn hi hj e.symm)
      simp [this]
def placeI (l : List TSub) (id : Int) : Int := idxI (fun s => decide (s.ID = id)) l
theorem placeI_spec (l : List TSub) (id : Int) : (placeI l id = -1 ∧ id ∉ ids l) ∨ ∃ (i : Nat) (a : TSub), l[i]? = some a ∧ a.ID = id ∧ placeI l id = (i : Int) ∧ id ∈ ids l := by
  rcases idxI_spec (fun s : TSub => decide (s.ID = id)) l with ⟨h1, h2⟩ | ⟨i, a, h1, h2, h3, _⟩
  · refine .inl ⟨h1, fun hm => ?_⟩
    obtain ⟨s, hs, e⟩ := List.mem_map.1 hm
    have := h2 s hs
    simp [e] at this
  · exact .inr ⟨i, a, h1, by simpa using h2, h3, List.mem_map.2 ⟨a, List.mem_of_getElem? h1, by simpa using h2⟩⟩
def okSub (credit : Int) (s : TSub) : Bool := decide ((if s.ID = 1 then -credit else 0) ≤ s.Balance) && decide (s.Balance ≤ 1000000000000000)
def okAt (credit : Int) (l : List TSub) (id : Int) : Bool := l.all fun s => !decide (s.ID = id) || okSub credit s
def okAll (credit : Int) (l : List TSub) : Bool := l.all (okSub credit)
theorem okAt_none {credit : Int} {l : List TSub} {id : Int} (h : id ∉ ids l) : okAt credit l id = true := by
  refine List.all_eq_true.2 fun s hs => ?_
  have : ¬ s.ID = id := fun e => h (List.mem_map.2 ⟨s, hs, e⟩)
  simp [this]
theorem okAt_get {credit : Int} {l : List TSub} (hn : (ids l).Nodup) {i : Nat} {a : TSub} (hi : l[i]? = some a) : okAt credit l a.ID = okSub credit a := by
  rw [Bool.eq_iff_iff, okAt, List.all_eq_true]
  constructor
  · intro h
    have := h a (List.mem_of_getElem? hi)
    simpa using this
  · intro h s hs
    obtain ⟨j, hj⟩ := List.getElem?_of_mem hs
    by_cases e : s.ID = a.ID
    · have := nodup_get hn hi hj e.symm
      subst this
      rw [hi] at hj
      simp only [Option.some.injEq] at hj
      subst hj
      simp [h]
    · simp [e]
def badNum (n : Int) (e : TEntry) : Bool := !decide (e.Number = n + 1)
def badDay (d : Int) (e : TEntry) : Bool := !amongB e.Day d 36000
def badAmt (e : TEntry) : Bool := !(decide (0 < e.Amount) && vB e.Amount) || !amongB e.Ref 0 1000000
def knownB (l : List TSub) (id : Int) : Bool := decide (id = 0) || decide (0 ≤ placeI l id)
theorem knownB_iff (l : List TSub) (id : Int) : knownB l id = true ↔ id = 0 ∨ id ∈ ids l := by
  unfold knownB
  rcases placeI_spec l id with ⟨h1, h2⟩ | ⟨i, a, _, _, h3, h4⟩
  · simp [h1, h2]
  · simp [h3, h4]
def badSub (l : List TSub) (e : TEntry) : Bool := decide (e.From = e.To) || (!knownB l e.From || !knownB l e.To)
def postS (credit n d : Int) (l : List TSub) (e : TEntry) : Int × List TSub :=
  if badNum n e = true then (65, l) else if badDay d e = true then (8, l) else if badAmt e = true then (2, l) else if badSub l e = true then (60, l) else
  if okAt credit (adj l e.From (-e.Amount)) e.From = false then (61, adj l e.From (-e.Amount)) else
  if okAt credit (adj (adj l e.From (-e.Amount)) e.To e.Amount) e.To = false then (61, adj (adj l e.From (-e.Amount)) e.To e.Amount) else (0, adj (adj l e.From (-e.Amount)) e.To e.Amount)
def replayS (credit : Int) : Int → Int → List TSub → List TEntry → Option (Int × Int × List TSub)
  | n, d, l, [] => some (n, d, l)
  | n, d, l, e :: es => if (postS credit n d l e).1 = 0 then replayS credit e.Number e.Day (postS credit n d l e).2 es else none
def zeroS (l : List TSub) : List TSub := l.map fun s => ⟨s.ID, 0⟩
theorem zeroS_ids (l : List TSub) : ids (zeroS l) = ids l := by simp [ids, zeroS]
theorem zeroS_len (l : List TSub) : (zeroS l).length = l.length := by simp [zeroS]
def checkA (a : TAccount) : Int :=
  if 20 < a.Subs.length ∨ 400 < a.Entries.length then 3 else if (!vB a.Credit || !numB (ids a.Subs)) = true then 62 else
  match replayS a.Credit 0 0 (zeroS a.Subs) a.Entries with
  | none => 62
  | some r => if r.2.2 = a.Subs then 0 else 62
theorem postS_ids (credit n d : Int) (l : List TSub) (e : TEntry) : ids (postS credit n d l e).2 = ids l := by
  unfold postS
  repeat' split
  all_goals simp [adj_ids]
theorem okAll_adj {credit : Int} {l : List TSub} {id amt : Int} (h : okAll credit l = true) (ha : okAt credit (adj l id amt) id = true) : okAll credit (adj l id amt) = true := by
  refine List.all_eq_true.2 fun s hs => ?_
  by_cases e : s.ID = id
  · have := List.all_eq_true.1 ha s hs
    simpa [e] using this
  · obtain ⟨t, ht, hst⟩ := List.mem_map.1 hs
    split at hst
    · rename_i h'
      subst hst
      exact absurd h' e
    · subst hst
      exact List.all_eq_true.1 h t ht
theorem postS_ok {credit n d : Int} {l : List TSub} {e : TEntry} (h : (postS credit n d l e).1 = 0) :
    e.Number = n + 1 ∧ d ≤ e.Day ∧ e.Day ≤ 36000 ∧ 0 < e.Amount ∧ e.Amount ≤ 1000000000000 ∧ 0 ≤ e.Ref ∧ e.Ref ≤ 1000000 ∧ e.From ≠ e.To ∧ (e.From = 0 ∨ e.From ∈ ids l) ∧ (e.To = 0 ∨ e.To ∈ ids l) ∧
      okAt credit (adj l e.From (-e.Amount)) e.From = true ∧ okAt credit (adj (adj l e.From (-e.Amount)) e.To e.Amount) e.To = true ∧ (postS credit n d l e).2 = adj (adj l e.From (-e.Amount)) e.To e.Amount := by
  unfold postS at h ⊢
  split at h
  · simp at h
  rename_i h1
  rw [if_neg h1]
  split at h
  · simp at h
  rename_i h2
  rw [if_neg h2]
  split at h
  · simp at h
  rename_i h3
  rw [if_neg h3]
  split at h
  · simp at h
  rename_i h4
  rw [if_neg h4]
  split at h
  · simp at h
  rename_i h5
  rw [if_neg h5]
  split at h
  · simp at h
  rename_i h6
  rw [if_neg h6]
  have h1 : e.Number = n + 1 := by simpa [badNum] using h1
  have h2 : d ≤ e.Day ∧ e.Day ≤ 36000 := by simpa [badDay, amongB] using h2
  have h3 : (0 < e.Amount ∧ (0 ≤ e.Amount ∧ e.Amount ≤ 1000000000000)) ∧ (0 ≤ e.Ref ∧ e.Ref ≤ 1000000) := by simpa [badAmt, vB, amongB] using h3
  have h4 : ¬ e.From = e.To ∧ (knownB l e.From = true ∧ knownB l e.To = true) := by simpa [badSub] using h4
  rw [knownB_iff, knownB_iff] at h4
  exact ⟨h1, h2.1, h2.2, h3.1.1, h3.1.2.2, h3.2.1, h3.2.2, h4.1, h4.2.1, h4.2.2, by simpa using h5, by simpa using h6, rfl⟩
theorem postS_all {credit n d : Int} {l : List TSub} {e : TEntry} (h : (postS credit n d l e).1 = 0) (hl : okAll credit l = true) : okAll credit (postS credit n d l e).2 = true := by
  obtain ⟨_, _, _, _, _, _, _, _, _, _, h1, h2, h3⟩ := postS_ok h
  rw [h3]
  exact okAll_adj (okAll_adj hl h1) h2
theorem zeroS_all {credit : Int} (hc : 0 ≤ credit) (l : List TSub) : okAll credit (zeroS l) = true := by
  refine List.all_eq_true.2 fun s hs => ?_
  obtain ⟨t, _, rfl⟩ := List.mem_map.1 hs
  simp [okSub]
  split <;> omega
theorem replayS_app (credit : Int) : ∀ (es es' : List TEntry) (n d : Int) (l : List TSub), replayS credit n d l (es ++ es') = (replayS credit n d l es).bind fun r => replayS credit r.1 r.2.1 r.2.2 es'
  | [], es', n, d, l => rfl
  | e :: es, es', n, d, l => by
    rw [List.cons_append, replayS, replayS]
    split
    · exact replayS_app credit es es' _ _ _
    · rfl
theorem replayS_keeps (credit : Int) : ∀ (es : List TEntry) (n d : Int) (l : List TSub) (r : Int × Int × List TSub), okAll credit l = true → replayS credit n d l es = some r →
    okAll credit r.2.2 = true ∧ ids r.2.2 = ids l ∧ r.1 = n + es.length ∧ d ≤ r.2.1 ∧ (d ≤ 36000 → r.2.1 ≤ 36000)
  | [], n, d, l, r, hl, h => by
    simp only [replayS, Option.some.injEq] at h
    subst h
    exact ⟨hl, rfl, by simp, Int.le_refl _, fun h => h⟩
  | e :: es, n, d, l, r, hl, h => by
    rw [replayS] at h
    split at h
    · rename_i hp
      obtain ⟨h1, h2, h3, _⟩ := postS_ok hp
      obtain ⟨a1, a2, a3, a4, a5⟩ := replayS_keeps credit es _ _ _ r (postS_all hp hl) h
      refine ⟨a1, a2.trans (postS_ids _ _ _ _ _), by rw [a3, h1, List.length_cons]; omega, by omega, fun _ => a5 h3⟩
    · cases h
open Go.PA
open Go.RowKit
theorem index_m_sub {row src : Option Nat} (l : List TSub) (x : AV) (H : Heap) (g : FuncId) (caps : List AV) (p : TSub → Bool) (hx : SlIs H x 2 (encL TSub.cells l)) (hl : l.length ≤ 1000000) (hen : enterable Tryz.prog g = true)
    (hg : ∀ a, a ∈ l → ∀ H', Kept [] H H' → MFun Tryz.prog row src g (.agg (TSub.cells a) :: caps) H' (fun r H'' => r = bv (p a) ∧ Kept [] H' H'')) :
    MFun Tryz.prog row src 184 [x, .fn g caps] H (fun r H' => r = iv (idxI p l) ∧ Kept [] H H') := by
  refine mfun_intro Tryz.func184 rfl (by simp [Tryz.f184]) (by kernel_rfl) ⟨_, H, rfl, kept_refl _ _⟩ ?_
  intro E hP hr hs hN
  have hlen := hx.len
  rw [encL_len] at hlen
  simp -dsimp -implicitDefEqProofs [-getElem?_pos, go_sem, hP, hlen]
  obtain ⟨I, hI⟩ : ∃ I : Nat → St → Prop, I = fun m s => ∃ k : Nat, k ≤ l.length ∧ m = l.length - k ∧ idxI p l = idxFrom p k (l.drop k) ∧ s.t 0 = x ∧ s.t 1 = .fn g caps ∧ s.t 7 = iv l.length ∧ s.t 8 = iv k ∧ Kept [] H s.H := ⟨_, rfl⟩
  refine aloop0 I l.length (by rw [hN]; rfl) ?_ ?_
  · rw [hI]
    exact ⟨0, by omega, by omega, by simp [idxI], by simp -dsimp -implicitDefEqProofs [-getElem?_pos, go_sem], by simp -dsimp -implicitDefEqProofs [-getElem?_pos, go_sem], by simp -dsimp -implicitDefEqProofs [-getElem?_pos, go_sem], by simp -dsimp -implicitDefEqProofs [-getElem?_pos, go_sem], by simp -dsimp -implicitDefEqProofs [-getElem?_pos, go_sem]; exact kept_refl _ _⟩
  intro m s hs'
  rw [hI] at hs'
  obtain ⟨k, hk, hm, hi, t0, t1, t7, t8, hKp⟩ := hs'
  simp -dsimp -implicitDefEqProofs [-getElem?_pos, go_sem, hP, t7, t8]
  refine condP (fun h => ?_) (fun h => ?_)
  · have hk : k < l.length := by simpa using h
    obtain ⟨a, ha⟩ : ∃ a, l[k]? = some a := ⟨_, List.getElem?_eq_getElem hk⟩
    have wk := wrap_in ((k : Int) + 1) (by omega)
    obtain ⟨ad, h1, h2⟩ := (hx.kept hKp).idx (P := Tryz.prog) (t := 25) (e := 170) el_25 (by rw [sz_170]) kn_170 k (by rw [encL_len]; exact hk)
    have h2' : addrCells s.H ad = some (TSub.cells a) := by
      rw [h2]
      have := encL_get TSub.cells l k
      rw [ha, List.getElem?_eq_getElem (by rw [encL_len]; exact hk)] at this
      exact this
    have hz : (TSub.cells a).take 2 = TSub.cells a := List.take_of_length_le (by rw [TSub.len]; omega)
    simp -dsimp -implicitDefEqProofs [-getElem?_pos, go_sem, hP, t8, t1, t0, h1, h2', TSub.len, hz]
    have hd : l.drop k = a :: l.drop (k + 1) := by
      rw [List.getElem?_eq_getElem hk] at ha
      rw [List.drop_eq_getElem_cons hk, Option.some.inj ha]
    refine callB_m (by rw [hr, hs]; exact hg a (List.mem_of_getElem? ha) s.H hKp) hP hen ?_
    rintro r H' ⟨rfl, hK2⟩
    rw [hd] at hi
    simp only [idxFrom] at hi
    simp -dsimp -implicitDefEqProofs [-getElem?_pos, go_sem, hP]
    refine condP (fun hp => ?_) (fun hp => ?_)
    · rw [if_pos hp] at hi
      simp -dsimp -implicitDefEqProofs [-getElem?_pos, go_sem, hP]
      exact ⟨hi.symm, hKp.trans hK2⟩
    · rw [hp, if_neg (by simp)] at hi
      simp -dsimp -implicitDefEqProofs [-getElem?_pos, go_sem, hP, t8, wk]
      refine ⟨l.length - (k + 1), by omega, ?_⟩
      rw [hI]
      exact ⟨k + 1, by omega, rfl, hi, by simp -dsimp -implicitDefEqProofs [-getElem?_pos, go_sem, t0], by simp -dsimp -implicitDefEqProofs [-getElem?_pos, go_sem, t1], by simp -dsimp -implicitDefEqProofs [-getElem?_pos, go_sem, t7], by simp -dsimp -implicitDefEqProofs [-getElem?_pos, go_sem], by simp -dsimp -implicitDefEqProofs [-getElem?_pos, go_sem]; exact hKp.trans hK2⟩
  · have hk : k = l.length := by simp at h; omega
    subst hk
    rw [List.drop_length] at hi
    simp -dsimp -implicitDefEqProofs [-getElem?_pos, go_sem, hP]
    exact ⟨hi.symm, hKp⟩
open Go.PA
open Go.RowKit
abbrev subsL (l : List TSub) : AV := .list 2 (encL TSub.cells l)
abbrev entsL (l : List TEntry) : AV := .list 6 (encL TEntry.cells l)
theorem imm_subs (l : List TSub) : Imm (subsL l) := imm_encL _ TSub.imm l
theorem imm_ents (l : List TEntry) : Imm (entsL l) := imm_encL _ TEntry.imm l
theorem imm_acc (a : TAccount) : Imm (.agg a.cells) := .agg fun c hc => a.imm c hc
theorem imm_ent (e : TEntry) : Imm (.agg e.cells) := .agg fun c hc => e.imm c hc
theorem valid01_pf (n : Int) : PFun Tryz.prog none none 131 [iv n] (· = bv (vB n)) := by
  refine pfun_intro Tryz.func131 rfl (by simp [Tryz.f131]) (by kernel_rfl) ?_
  intro E hP hr hs hW hN
  by_cases h1 : 0 ≤ n <;> by_cases h2 : n ≤ 1000000000000 <;> simp -dsimp -implicitDefEqProofs [-getElem?_pos, go_sem, hP, h1, h2, vB, amongB]
theorem day23_pf (n : Int) : PFun Tryz.prog none none 133 [iv n] (· = bv (amongB n 0 36000)) := by
  refine pfun_intro Tryz.func133 rfl (by simp [Tryz.f133]) (by kernel_rfl) ?_
  intro E hP hr hs hW hN
  by_cases h1 : 0 ≤ n <;> by_cases h2 : n ≤ 36000 <;> simp -dsimp -implicitDefEqProofs [-getElem?_pos, go_sem, hP, h1, h2, amongB]
theorem at_pf (l : List TSub) (id : Int) (hl : l.length ≤ 100000) : PFun Tryz.prog none none 158 [subsL l, iv id] (· = iv (placeI l id)) := by
  refine pfun_intro Tryz.func158 rfl (by simp [Tryz.f158]) (by kernel_rfl) ?_
  intro E hP hr hs hW hN
  simp -dsimp -implicitDefEqProofs [-getElem?_pos, go_sem, hP]
  obtain ⟨I, hI⟩ : ∃ I : Nat → St → Prop, I = fun m s => ∃ k : Nat, k ≤ l.length ∧ m = l.length - k ∧ placeI l id = idxFrom (fun s => decide (s.ID = id)) k (l.drop k) ∧ s.t 1 = iv id ∧ s.t 7 = subsL l ∧ s.t 8 = iv l.length ∧ s.t 9 = iv k := ⟨_, rfl⟩
  refine aloop0 I (l.length) (by rw [hN]; rfl) ?_ ?_
  · rw [hI]
    exact ⟨0, by omega, by omega, by simp [placeI, idxI], by simp -dsimp -implicitDefEqProofs [-getElem?_pos, go_sem], by simp -dsimp -implicitDefEqProofs [-getElem?_pos, go_sem], by simp -dsimp -implicitDefEqProofs [-getElem?_pos, go_sem], by simp -dsimp -implicitDefEqProofs [-getElem?_pos, go_sem]⟩
  intro m s hs'
  rw [hI] at hs'
  obtain ⟨k, hk, hm, hi, t1, t7, t8, t9⟩ := hs'
  simp -dsimp -implicitDefEqProofs [-getElem?_pos, go_sem, hP, t8, t9]
  refine condP (fun h => ?_) (fun h => ?_)
  · have hk : k < l.length := by simpa using h
    obtain ⟨a, ha⟩ : ∃ a, l[k]? = some a := ⟨_, List.getElem?_eq_getElem hk⟩
    have wk := wrap_in ((k : Int) + 1) (by omega)
    have hd : l.drop k = a :: l.drop (k + 1) := by
      rw [List.getElem?_eq_getElem hk] at ha
      rw [List.drop_eq_getElem_cons hk, Option.some.inj ha]
    rw [hd] at hi
    simp only [idxFrom] at hi
    simp -dsimp -implicitDefEqProofs [-getElem?_pos, go_sem, hP, t9, t7, t1, ha, TSub.cells]
    refine condP (fun hp => ?_) (fun hp => ?_)
    · rw [if_pos hp] at hi
      simp -dsimp -implicitDefEqProofs [-getElem?_pos, go_sem, hP]
      exact hi.symm
    · rw [if_neg (by simpa using hp)] at hi
      simp -dsimp -implicitDefEqProofs [-getElem?_pos, go_sem, hP, t9, wk]
      refine ⟨l.length - (k + 1), by omega, ?_⟩
      rw [hI]
      exact ⟨k + 1, by omega, rfl, hi, by simp -dsimp -implicitDefEqProofs [-getElem?_pos, go_sem, t1], by simp -dsimp -implicitDefEqProofs [-getElem?_pos, go_sem, t7], by simp -dsimp -implicitDefEqProofs [-getElem?_pos, go_sem, t8], by simp -dsimp -implicitDefEqProofs [-getElem?_pos, go_sem]⟩
  · have hk : k = l.length := by simp at h; omega
    subst hk
    rw [List.drop_length] at hi
    simp -dsimp -implicitDefEqProofs [-getElem?_pos, go_sem, hP]
    exact hi.symm
theorem empty_pf (l : List TSub) (hl : l.length ≤ 100000) : PFun Tryz.prog none none 172 [subsL l] (· = subsL (zeroS l)) := by
  refine pfun_intro Tryz.func172 rfl (by simp [Tryz.f172]) (by kernel_rfl) ?_
  intro E hP hr hs hW hN
  simp -dsimp -implicitDefEqProofs [-getElem?_pos, go_sem, hP]
  refine aloop_own 3 170 2 (by simp -dsimp -implicitDefEqProofs [-getElem?_pos, go_sem]) ?_
  obtain ⟨I, hI⟩ : ∃ I : Nat → St → Prop, I = fun m s => ∃ k id : Nat, k ≤ l.length ∧ m = l.length - k ∧ s.t 6 = subsL l ∧ s.t 7 = iv l.length ∧ s.t 8 = iv k ∧ s.t 3 = .sref id 0 k ∧ s.H[id]? = some (some ⟨170, 2, encL TSub.cells (zeroS (l.take k))⟩) := ⟨_, rfl⟩
  refine aloopF 3 hW I (l.length) (by rw [hN]; rfl) ?_ ?_
  · rw [hI]
    exact ⟨0, 0, by omega, by omega, by simp -dsimp -implicitDefEqProofs [-getElem?_pos, go_sem], by simp -dsimp -implicitDefEqProofs [-getElem?_pos, go_sem], by simp -dsimp -implicitDefEqProofs [-getElem?_pos, go_sem], by simp -dsimp -implicitDefEqProofs [-getElem?_pos, go_sem], by simp -dsimp -implicitDefEqProofs [-getElem?_pos, go_sem, zeroS]⟩
  intro m s hs'
  rw [hI] at hs'
  obtain ⟨k, id, hk, hm, t6, t7, t8, t3, hH⟩ := hs'
  have hlt := (List.getElem?_eq_some_iff.1 hH).1
  simp -dsimp -implicitDefEqProofs [-getElem?_pos, go_sem, hP, t7, t8]
  refine condP (fun h => ?_) (fun h => ?_)
  · have hk : k < l.length := by simpa using h
    obtain ⟨a, ha⟩ : ∃ a, l[k]? = some a := ⟨_, List.getElem?_eq_getElem hk⟩
    have wk := wrap_in ((k : Int) + 1) (by omega)
    have e1 : l.take (k + 1) = l.take k ++ [a] := by rw [List.take_add_one, ha]; rfl
    have hz : (zeroS (l.take k)).length = k := by rw [zeroS_len]; simp; omega
    have e2 := encL_take TSub.cells (zeroS (l.take k)) k hz.symm
    simp -dsimp -implicitDefEqProofs [-getElem?_pos, go_sem, hP, t8, t6, ha, TSub.cells, t3, hH, hlt, e2, hz, wk]
    refine ⟨by omega, by omega, l.length - (k + 1), by omega, ?_⟩
    rw [hI]
    refine ⟨k + 1, s.H.length + 1, by omega, rfl, by simp -dsimp -implicitDefEqProofs [-getElem?_pos, go_sem, t6], by simp -dsimp -implicitDefEqProofs [-getElem?_pos, go_sem, t7], by simp -dsimp -implicitDefEqProofs [-getElem?_pos, go_sem], by simp -dsimp -implicitDefEqProofs [-getElem?_pos, go_sem], ?_⟩
    simp -dsimp -implicitDefEqProofs [-getElem?_pos, go_sem, e1, zeroS, encL, TSub.cells]
  · have hk : k = l.length := by simp at h; omega
    subst hk
    rw [List.take_length] at hH
    simp -dsimp -implicitDefEqProofs [-getElem?_pos, go_sem, hP]
    refine frz id l.length 170 2 (encL TSub.cells (zeroS l)) (by simp -dsimp -implicitDefEqProofs [-getElem?_pos, go_sem, t3]) (by simp -dsimp -implicitDefEqProofs [-getElem?_pos, go_sem, hH]) (by simp [encL, zeroS]) (imm_subs _) ?_
    simp -dsimp -implicitDefEqProofs [-getElem?_pos, go_sem, hP]
    exact done_imm (imm_subs _) rfl
def addR (credit : Int) (l : List TSub) (last e : TEntry) : List TSub × Int := if (postS credit last.Number last.Day l e).1 = 0 then ((postS credit last.Number last.Day l e).2, 0) else ([], (postS credit last.Number last.Day l e).1)
theorem okSub_iff (credit : Int) (s : TSub) : okSub credit s = true ↔ (if s.ID = 1 then -credit else 0) ≤ s.Balance ∧ s.Balance ≤ 1000000000000000 := by simp [okSub]
theorem placeI_of {l : List TSub} (hn : (ids l).Nodup) {i : Nat} {a : TSub} (hi : l[i]? = some a) : placeI l a.ID = (i : Int) := by
  rcases placeI_spec l a.ID with ⟨_, h2⟩ | ⟨j, b, h1, h2, h3, _⟩
  · exact absurd (List.mem_map.2 ⟨a, List.mem_of_getElem? hi, rfl⟩) h2
  · rw [h3, nodup_get hn hi h1 h2.symm]
set_option maxHeartbeats 1000000 in
theorem add_pf (credit : Int) (l : List TSub) (last e : TEntry) (hl : l.length ≤ 100000) (hc : 0 ≤ credit ∧ credit ≤ 1000000000000) (hn : (ids l).Nodup) (h0 : 0 ∉ ids l) (hok : okAll credit l = true) (hln : -1000000000 ≤ last.Number ∧ last.Number ≤ 1000000000) (hld : 0 ≤ last.Day) :
    PFun Tryz.prog none none 104 [iv credit, subsL l, .agg last.cells, .agg e.cells] (· = .tup [subsL (addR credit l last e).1, iv (addR credit l last e).2]) := by
  refine pfun_intro Tryz.func104 rfl (by simp [Tryz.f104]) (by kernel_rfl) ?_
  intro E hP hr hs hW hN
  have w1 := wrap_in (last.Number + 1) (by omega)
  have fin : ∀ (n : Int) (H : Heap) (b), ¬ n = 0 → (postS credit last.Number last.Day l e).1 = n → Done H (.tup [.nil, iv n]) (· = .tup [subsL (addR credit l last e).1, iv (addR credit l last e).2]) b := fun n H b hn0 hp => by
    refine done_nil2 2 ?_
    unfold addR
    rw [if_neg (by rw [hp]; exact hn0), hp]
    simp [encL]
  by_cases h1 : e.Number = last.Number + 1
  rotate_left
  · have h1' : badNum last.Number e = true := by simpa [badNum] using h1
    simp -dsimp -implicitDefEqProofs [-getElem?_pos, go_sem, hP, TEntry.cells, w1, h1]
    exact fin 65 _ _ (by omega) (by rw [postS, if_pos h1'])
  have h1' : ¬ badNum last.Number e = true := by simpa [badNum] using h1
  by_cases h2 : e.Day < last.Day
  · have h2' : badDay last.Day e = true := by simp [badDay, amongB]; omega
    simp -dsimp -implicitDefEqProofs [-getElem?_pos, go_sem, hP, TEntry.cells, w1, h1, h2]
    exact fin 8 _ _ (by omega) (by rw [postS, if_neg h1', if_pos h2'])
  simp -dsimp -implicitDefEqProofs [-getElem?_pos, go_sem, hP, TEntry.cells, w1, h1, h2]
  refine callB_pure (day23_pf e.Day) hP en_133 (args_same (by simp -dsimp -implicitDefEqProofs [-getElem?_pos, go_sem])) .sc ?_
  by_cases h3 : amongB e.Day 0 36000 = true
  rotate_left
  · have h2' : badDay last.Day e = true := by simp [amongB] at h3; simp [badDay, amongB]; omega
    simp -dsimp -implicitDefEqProofs [-getElem?_pos, go_sem, hP, h3]
    exact fin 8 _ _ (by omega) (by rw [postS, if_neg h1', if_pos h2'])
  have h2' : ¬ badDay last.Day e = true := by simp [amongB] at h3; simp [badDay, amongB]; omega
  simp -dsimp -implicitDefEqProofs [-getElem?_pos, go_sem, hP, h3]
  refine callB_pure (valid01_pf e.Amount) hP en_131 (args_same (by simp -dsimp -implicitDefEqProofs [-getElem?_pos, go_sem])) .sc ?_
  have b3 : badAmt e = true ↔ ¬ (vB e.Amount = true ∧ ¬ e.Amount = 0 ∧ ¬ e.Ref < 0 ∧ ¬ 1000000 < e.Ref) := by
    simp [badAmt, vB, amongB]
    omega
  by_cases h4 : badAmt e = true
  · have f4 : ∀ (H : Heap) (b), Done H (.tup [.nil, iv 2]) (· = .tup [subsL (addR credit l last e).1, iv (addR credit l last e).2]) b := fun H b => fin 2 _ _ (by omega) (by rw [postS, if_neg h1', if_neg h2', if_pos h4])
    by_cases a1 : vB e.Amount = true
    rotate_left
    · simp -dsimp -implicitDefEqProofs [-getElem?_pos, go_sem, hP, a1]
      exact f4 _ _
    by_cases a2 : e.Amount = 0
    · have d2 : decide (e.Amount = 0) = true := by simpa using a2
      simp -dsimp -implicitDefEqProofs [-getElem?_pos, go_sem, hP, a1, d2]
      exact f4 _ _
    by_cases a3 : e.Ref < 0
    · simp -dsimp -implicitDefEqProofs [-getElem?_pos, go_sem, hP, a1, a2, a3]
      exact f4 _ _
    by_cases a4 : 1000000 < e.Ref
    · simp -dsimp -implicitDefEqProofs [-getElem?_pos, go_sem, hP, a1, a2, a3, a4]
      exact f4 _ _
    · exact absurd ⟨a1, a2, a3, a4⟩ (b3.1 h4)
  have h4' := h4
  rw [b3, Classical.not_not] at h4'
  have a1 := h4'.1
  have a2 := h4'.2.1
  have a3 := h4'.2.2.1
  have a4 := h4'.2.2.2
  clear h4'
  simp -dsimp -implicitDefEqProofs [-getElem?_pos, go_sem, hP, a1, a2, a3, a4]
  have b5 : badSub l e = true ↔ ¬ (¬ e.From = e.To ∧ (e.From = 0 ∨ 0 ≤ placeI l e.From) ∧ (e.To = 0 ∨ 0 ≤ placeI l e.To)) := by
    simp [badSub, knownB]
    grind
  by_cases a5 : e.From = e.To
  · have h5 : badSub l e = true := b5.2 fun h => h.1 a5
    have d5 : decide (e.From = e.To) = true := by simpa using a5
    simp -dsimp -implicitDefEqProofs [-getElem?_pos, go_sem, hP, d5]
    exact fin 60 _ _ (by omega) (by rw [postS, if_neg h1', if_neg h2', if_neg h4, if_pos h5])
  have f5 : ∀ (H : Heap) (b), badSub l e = true → Done H (.tup [.nil, iv 60]) (· = .tup [subsL (addR credit l last e).1, iv (addR credit l last e).2]) b := fun H b h5 => fin 60 _ _ (by omega) (by rw [postS, if_neg h1', if_neg h2', if_neg h4, if_pos h5])
  have iS := imm_subs l
  have two : ∀ (From : Int), From = 0 ∧ placeI l From = -1 ∨ ¬ From = 0 ∧ placeI l From = -1 ∨ ∃ (i : Nat) (a : TSub), ¬ From = 0 ∧ l[i]? = some a ∧ a.ID = From ∧ placeI l From = (i : Int) := fun From => by
    rcases placeI_spec l From with ⟨p1, p2⟩ | ⟨i, a, p1, p2, p3, p4⟩
    · by_cases hz : From = 0
      · exact .inl ⟨hz, p1⟩
      · exact .inr (.inl ⟨hz, p1⟩)
    · exact .inr (.inr ⟨i, a, fun hz => h0 (hz ▸ p4), p1, p2, p3⟩)
  have e0 := encL_take TSub.cells l l.length rfl
  have pS : postS credit last.Number last.Day l e = if badSub l e = true then (60, l) else if okAt credit (adj l e.From (-e.Amount)) e.From = false then (61, adj l e.From (-e.Amount)) else
      if okAt credit (adj (adj l e.From (-e.Amount)) e.To e.Amount) e.To = false then (61, adj (adj l e.From (-e.Amount)) e.To e.Amount) else (0, adj (adj l e.From (-e.Amount)) e.To e.Amount) := by
    rw [postS, if_neg h1', if_neg h2', if_neg h4]
  have okR : ∀ L, postS credit last.Number last.Day l e = (0, L) → addR credit l last e = (L, 0) := fun L h => by unfold addR; rw [h]; rfl
  have hamt : 0 ≤ e.Amount ∧ e.Amount ≤ 1000000000000 := by simpa [vB, amongB] using a1
  have okg : ∀ (i : Nat) (a : TSub), l[i]? = some a → okSub credit a = true := fun i a hi => List.all_eq_true.1 hok a (List.mem_of_getElem? hi)
  have bnd : ∀ (i : Nat) (a : TSub), l[i]? = some a → -1000000000000 ≤ a.Balance ∧ a.Balance ≤ 1000000000000000 := fun i a hi => by
    have := (okSub_iff _ _).1 (okg i a hi)
    split at this <;> omega
  have wneg := wrap_in (0 - credit) (by omega)
  rw [Int.zero_sub] at wneg
  rcases two e.From with ⟨z1, p1⟩ | ⟨z1, p1⟩ | ⟨i, a, z1, i1, ea, p1⟩
  · have d1 : decide (e.From = 0) = true := by simpa using z1
    have nf : adj l e.From (-e.Amount) = l := adj_none (z1 ▸ h0)
    have of : okAt credit l e.From = true := okAt_none (z1 ▸ h0)
    rcases two e.To with ⟨z2, p2⟩ | ⟨z2, p2⟩ | ⟨j, b, z2, jL, eb, p2⟩
    · exact absurd (z1.trans z2.symm) a5
    · have h5 : badSub l e = true := b5.2 fun h => by have := h.2.2; omega
      simp -dsimp -implicitDefEqProofs [-getElem?_pos, go_sem, hP, a5, d1, z2]
      refine callB_pure (at_pf l e.To hl) hP en_158 (args_imm iS (args_imm .sc (args_nil.2 trivial))) .sc ?_
      simp -dsimp -implicitDefEqProofs [-getElem?_pos, go_sem, hP, a5, d1, z2, p2]
      exact f5 _ _ h5
    · have h5 : badSub l e = false := by simpa using fun h => b5.1 h ⟨a5, .inl z1, .inr (by omega)⟩
      have ok1 : (if badSub l e = true then ((60 : Int), l) else if okAt credit (adj l e.From (-e.Amount)) e.From = false then (61, adj l e.From (-e.Amount)) else
          if okAt credit (adj (adj l e.From (-e.Amount)) e.To e.Amount) e.To = false then (61, adj (adj l e.From (-e.Amount)) e.To e.Amount) else (0, adj (adj l e.From (-e.Amount)) e.To e.Amount)) =
          if okAt credit (adj l e.To e.Amount) e.To = false then (61, adj l e.To e.Amount) else (0, adj l e.To e.Amount) := by
        rw [nf, of, h5]; simp
      have okb := okg j b jL
      have hb := bnd j b jL
      have wb := wrap_in (b.Balance + e.Amount) (by omega)
      have nL := hn
      have q2 := p2
      simp -dsimp -implicitDefEqProofs [-getElem?_pos, go_sem, hP, a5, d1, z2]
      refine callB_pure (at_pf l e.To hl) hP en_158 (args_imm iS (args_imm .sc (args_nil.2 trivial))) .sc ?_
      have d2 : decide ((j : Int) < 0) = false := by simp
      simp -dsimp -implicitDefEqProofs [-getElem?_pos, go_sem, hP, a5, d1, z2, p2, d2]
      refine ⟨by omega, by omega, ?_⟩
      refine callB_pure (at_pf l e.From (by (try simp only [adj_len]); omega)) hP en_158 (args_sref rfl (by simp [encL, adj]) (imm_subs _) (args_imm .sc (args_nil.2 trivial))) .sc ?_
      simp -dsimp -implicitDefEqProofs [-getElem?_pos, go_sem, hP, p1]
      have hj : j < l.length := (List.getElem?_eq_some_iff.1 jL).1
      have hjl : j < l.length := by (try simp only [adj_len] at hj); omega
      refine callB_pure (at_pf l e.To (by (try simp only [adj_len]); omega)) hP en_158 (args_sref rfl (by simp [encL, adj]) (imm_subs _) (args_imm .sc (args_nil.2 trivial))) .sc ?_
      simp -dsimp -implicitDefEqProofs [-getElem?_pos, go_sem, hP, q2]
      refine adrawB (fun _ => true) [10] hP (by kernel_rfl) (by kernel_rfl) ?_
      have set2 : (encL TSub.cells l).set j [iv b.ID, iv (b.Balance + e.Amount)] = encL TSub.cells (adj l e.To e.Amount) := by
        rw [← eb, ← set_adj nL jL, ← encL_set]
        rfl
      have g2 : (adj l e.To e.Amount)[j]? = some ⟨b.ID, b.Balance + e.Amount⟩ := by rw [adj_get, jL, ← eb]; simp
      have len2 : (adj l e.To e.Amount).length = l.length := by simp [adj_len]
      have o2 : okAt credit (adj l e.To e.Amount) e.To = okSub credit ⟨b.ID, b.Balance + e.Amount⟩ := by
        rw [← eb] at g2 ⊢
        exact okAt_get (by rw [adj_ids]; exact nL) g2
      have lt2 : (j : Int) < (l.length : Int) := by omega
      simp -dsimp -implicitDefEqProofs [-getElem?_pos, go_sem, hP, adj_len, jL, TSub.cells, hjl, lt2, wb, set2, g2]
      by_cases c4 : 1000000000000000 < b.Balance + e.Amount
      · have o2' : okAt credit (adj l e.To e.Amount) e.To = false := by rw [o2]; simp [okSub]; omega
        simp -dsimp -implicitDefEqProofs [-getElem?_pos, go_sem, hP, adj_len, g2, TSub.cells, hjl, lt2, c4]
        exact fin 61 _ _ (by omega) (by rw [pS, ok1]; simp [nf, z1, o2'])
      · have o2' : okAt credit (adj l e.To e.Amount) e.To = true := by
          rw [o2]
          have := (okSub_iff _ _).1 okb
          rw [okSub_iff]
          dsimp only
          omega
        simp -dsimp -implicitDefEqProofs [-getElem?_pos, go_sem, hP, adj_len, g2, TSub.cells, hjl, lt2, c4]
        have e2 := encL_take TSub.cells (adj l e.To e.Amount) l.length (by simp [adj_len])
        refine done (x := .tup [subsL (adj l e.To e.Amount), iv 0]) ?_ ?_ ?_
        · simp -dsimp -implicitDefEqProofs [-getElem?_pos, go_sem, e2]
          exact imm_list.1 (imm_subs _)
        · rw [okR (adj l e.To e.Amount) (by rw [pS, ok1]; simp [nf, z1, o2'])]
        · simp -dsimp -implicitDefEqProofs [-getElem?_pos, go_sem, e2]
  · have h5 : badSub l e = true := b5.2 fun h => by have := h.2.1; omega
    simp -dsimp -implicitDefEqProofs [-getElem?_pos, go_sem, hP, a5, z1]
    refine callB_pure (at_pf l e.From hl) hP en_158 (args_imm iS (args_imm .sc (args_nil.2 trivial))) .sc ?_
    simp -dsimp -implicitDefEqProofs [-getElem?_pos, go_sem, hP, a5, z1, p1]
    exact f5 _ _ h5
  · have d2 : decide ((i : Int) < 0) = false := by simp
    simp -dsimp -implicitDefEqProofs [-getElem?_pos, go_sem, hP, a5, z1]
    refine callB_pure (at_pf l e.From hl) hP en_158 (args_imm iS (args_imm .sc (args_nil.2 trivial))) .sc ?_
    simp -dsimp -implicitDefEqProofs [-getElem?_pos, go_sem, hP, a5, z1, p1, d2]
    have hi : i < l.length := (List.getElem?_eq_some_iff.1 i1).1
    have hia := bnd i a i1
    have oka := (okSub_iff _ _).1 (okg i a i1)
    have wa := wrap_in (a.Balance - e.Amount) (by omega)
    have set1 : (encL TSub.cells l).set i [iv a.ID, iv (a.Balance - e.Amount)] = encL TSub.cells (adj l e.From (-e.Amount)) := by
      rw [← ea, ← set_adj hn i1, ← encL_set]
      rfl
    have g1 : (adj l e.From (-e.Amount))[i]? = some ⟨a.ID, a.Balance - e.Amount⟩ := by rw [adj_get, i1, ← ea]; simp; omega
    have nL1 : (ids (adj l e.From (-e.Amount))).Nodup := by rw [adj_ids]; exact hn
    have o1 : okAt credit (adj l e.From (-e.Amount)) e.From = okSub credit ⟨a.ID, a.Balance - e.Amount⟩ := by
      rw [← ea] at g1 nL1 ⊢
      exact okAt_get nL1 g1
    have e1 := encL_take TSub.cells (adj l e.From (-e.Amount)) l.length (by simp [adj_len])
    have len1 : (adj l e.From (-e.Amount)).length = l.length := by simp [adj_len]
    have lt1 : (i : Int) < (l.length : Int) := by omega
    have stepF : badSub l e = false → ∀ (P : Prop), (okSub credit ⟨a.ID, a.Balance - e.Amount⟩ = false → P) → (okSub credit ⟨a.ID, a.Balance - e.Amount⟩ = true → P) → P := fun _ P h k => by
      cases hh : okSub credit ⟨a.ID, a.Balance - e.Amount⟩
      · exact h hh
      · exact k hh
    rcases two e.To with ⟨z2, p2⟩ | ⟨z2, p2⟩ | ⟨j, b, z2, j1, eb, p2⟩
    rotate_left
    · have h5 : badSub l e = true := b5.2 fun h => by have := h.2.2; omega
      simp -dsimp -implicitDefEqProofs [-getElem?_pos, go_sem, hP, a5, z1, z2, p1, d2]
      refine callB_pure (at_pf l e.To hl) hP en_158 (args_imm iS (args_imm .sc (args_nil.2 trivial))) .sc ?_
      simp -dsimp -implicitDefEqProofs [-getElem?_pos, go_sem, hP, a5, z1, z2, p1, p2, d2]
      exact f5 _ _ h5
    · have h5 : badSub l e = false := by simpa using fun h => b5.1 h ⟨a5, .inr (by omega), .inr (by omega)⟩
      have d4 : decide ((j : Int) < 0) = false := by simp
      have okb := okg j b j1
      have hb := bnd j b j1
      have wb := wrap_in (b.Balance + e.Amount) (by omega)
      have q2 : placeI (adj l e.From (-e.Amount)) e.To = (j : Int) := by
        have hne : ¬ b.ID = e.From := fun h => a5 (h.symm.trans eb)
        have : (adj l e.From (-e.Amount))[j]? = some b := by rw [adj_get, j1]; simp [hne]
        rw [← eb]
        exact placeI_of nL1 this
      simp -dsimp -implicitDefEqProofs [-getElem?_pos, go_sem, hP, a5, z1, z2, p1, d2]
      refine callB_pure (at_pf l e.To hl) hP en_158 (args_imm iS (args_imm .sc (args_nil.2 trivial))) .sc ?_
      simp -dsimp -implicitDefEqProofs [-getElem?_pos, go_sem, hP, a5, z1, z2, p1, p2, d2, d4]
      refine ⟨by omega, by omega, ?_⟩
      refine callB_pure (at_pf l e.From (by (try simp only [adj_len]); omega)) hP en_158 (args_sref rfl (by simp [encL, adj]) (imm_subs _) (args_imm .sc (args_nil.2 trivial))) .sc ?_
      simp -dsimp -implicitDefEqProofs [-getElem?_pos, go_sem, hP, p1]
      refine adrawB (fun _ => true) [10] hP (by kernel_rfl) (by kernel_rfl) ?_
      simp -dsimp -implicitDefEqProofs [-getElem?_pos, go_sem, hP, adj_len, i1, TSub.cells, hi, lt1, wa, set1, g1]
      have nok : okSub credit ⟨a.ID, a.Balance - e.Amount⟩ = false ↔ (a.Balance - e.Amount < 0 ∧ (¬ a.ID = 1 ∨ a.Balance - e.Amount < -credit)) := by
        rw [← Bool.not_eq_true, okSub_iff]
        dsimp only
        by_cases hid : a.ID = 1
        · rw [if_pos hid]; omega
        · rw [if_neg hid]; simp [hid]; omega
      by_cases hno : okSub credit ⟨a.ID, a.Balance - e.Amount⟩ = false
      · have r61 : ∀ (H : Heap) (b), Done H (.tup [.nil, iv 61]) (· = .tup [subsL (addR credit l last e).1, iv (addR credit l last e).2]) b := fun H b => fin 61 _ _ (by omega) (by rw [pS, h5, o1, hno]; simp)
        obtain ⟨c1, c2⟩ := nok.1 hno
        by_cases c3 : a.ID = 1
        · have c4 : a.Balance - e.Amount < -credit := c2.resolve_left (fun h => h c3)
          have d3 : decide (a.ID = 1) = true := by simpa using c3
          simp -dsimp -implicitDefEqProofs [-getElem?_pos, go_sem, hP, adj_len, g1, TSub.cells, hi, lt1, c1, d3, c4, wneg]
          exact r61 _ _
        · simp -dsimp -implicitDefEqProofs [-getElem?_pos, go_sem, hP, adj_len, g1, TSub.cells, hi, lt1, c1, c3]
          exact r61 _ _
      have hyes : okSub credit ⟨a.ID, a.Balance - e.Amount⟩ = true := by simpa using hno
      have f1 : okAt credit (adj l e.From (-e.Amount)) e.From = true := by rw [o1, hyes]
      have ok1 : (if badSub l e = true then ((60 : Int), l) else if okAt credit (adj l e.From (-e.Amount)) e.From = false then (61, adj l e.From (-e.Amount)) else
          if okAt credit (adj (adj l e.From (-e.Amount)) e.To e.Amount) e.To = false then (61, adj (adj l e.From (-e.Amount)) e.To e.Amount) else (0, adj (adj l e.From (-e.Amount)) e.To e.Amount)) =
          if okAt credit (adj (adj l e.From (-e.Amount)) e.To e.Amount) e.To = false then (61, adj (adj l e.From (-e.Amount)) e.To e.Amount) else (0, adj (adj l e.From (-e.Amount)) e.To e.Amount) := by
        rw [f1, h5]; simp
      have go : ∀ {p : Prop}, (a.Balance - e.Amount < 0 → a.ID = 1 → ¬ a.Balance - e.Amount < -credit → p) → (¬ a.Balance - e.Amount < 0 → p) → p := fun h k => by
        by_cases c1 : a.Balance - e.Amount < 0
        · have c3 : a.ID = 1 := Classical.byContradiction fun h3 => hno (nok.2 ⟨c1, .inl h3⟩)
          exact h c1 c3 fun h4 => hno (nok.2 ⟨c1, .inr h4⟩)
        · exact k c1
      refine go (fun c1 c3 c4 => ?_) (fun c1 => ?_)
      · have d3 : decide (a.ID = 1) = true := by simpa using c3
        simp -dsimp -implicitDefEqProofs [-getElem?_pos, go_sem, hP, adj_len, g1, TSub.cells, hi, lt1, c1, d3, c4, wneg]
        have hj : j < l.length := (List.getElem?_eq_some_iff.1 j1).1
        have hne : ¬ b.ID = e.From := fun h => a5 (h.symm.trans eb)
        have jL : (adj l e.From (-e.Amount))[j]? = some b := by rw [adj_get, j1]; simp [hne]
        refine callB_pure (at_pf (adj l e.From (-e.Amount)) e.To (by (try simp only [adj_len]); omega)) hP en_158 (args_sref rfl (by simp [encL, adj]) (imm_subs _) (args_imm .sc (args_nil.2 trivial))) .sc ?_
        simp -dsimp -implicitDefEqProofs [-getElem?_pos, go_sem, hP, q2]
        refine adrawB (fun _ => true) [10] hP (by kernel_rfl) (by kernel_rfl) ?_
        have set2 : (encL TSub.cells (adj l e.From (-e.Amount))).set j [iv b.ID, iv (b.Balance + e.Amount)] = encL TSub.cells (adj (adj l e.From (-e.Amount)) e.To e.Amount) := by
          rw [← eb, ← set_adj nL1 jL, ← encL_set]
          rfl
        have g2 : (adj (adj l e.From (-e.Amount)) e.To e.Amount)[j]? = some ⟨b.ID, b.Balance + e.Amount⟩ := by rw [adj_get, jL, ← eb]; simp
        have o2 : okAt credit (adj (adj l e.From (-e.Amount)) e.To e.Amount) e.To = okSub credit ⟨b.ID, b.Balance + e.Amount⟩ := by
          rw [← eb] at g2 ⊢
          exact okAt_get (by rw [adj_ids]; exact nL1) g2
        have lt2 : (j : Int) < (l.length : Int) := by omega
        simp -dsimp -implicitDefEqProofs [-getElem?_pos, go_sem, hP, adj_len, jL, TSub.cells, hj, lt2, wb, set2, g2]
        by_cases c4 : 1000000000000000 < b.Balance + e.Amount
        · have o2' : okAt credit (adj (adj l e.From (-e.Amount)) e.To e.Amount) e.To = false := by rw [o2]; simp [okSub]; omega
          simp -dsimp -implicitDefEqProofs [-getElem?_pos, go_sem, hP, adj_len, g2, TSub.cells, hj, lt2, c4]
          exact fin 61 _ _ (by omega) (by rw [pS, ok1]; simp [o2'])
        · have o2' : okAt credit (adj (adj l e.From (-e.Amount)) e.To e.Amount) e.To = true := by
            rw [o2]
            have := (okSub_iff _ _).1 okb
            rw [okSub_iff]
            dsimp only
            omega
          simp -dsimp -implicitDefEqProofs [-getElem?_pos, go_sem, hP, adj_len, g2, TSub.cells, hj, lt2, c4]
          have e2 := encL_take TSub.cells (adj (adj l e.From (-e.Amount)) e.To e.Amount) l.length (by simp [adj_len])
          refine done (x := .tup [subsL (adj (adj l e.From (-e.Amount)) e.To e.Amount), iv 0]) ?_ ?_ ?_
          · simp -dsimp -implicitDefEqProofs [-getElem?_pos, go_sem, e2]
            exact imm_list.1 (imm_subs _)
          · rw [okR (adj (adj l e.From (-e.Amount)) e.To e.Amount) (by rw [pS, ok1]; simp [o2'])]
          · simp -dsimp -implicitDefEqProofs [-getElem?_pos, go_sem, e2]
      · simp -dsimp -implicitDefEqProofs [-getElem?_pos, go_sem, hP, adj_len, g1, TSub.cells, hi, lt1, c1]
        have hj : j < l.length := (List.getElem?_eq_some_iff.1 j1).1
        have hne : ¬ b.ID = e.From := fun h => a5 (h.symm.trans eb)
        have jL : (adj l e.From (-e.Amount))[j]? = some b := by rw [adj_get, j1]; simp [hne]
        refine callB_pure (at_pf (adj l e.From (-e.Amount)) e.To (by (try simp only [adj_len]); omega)) hP en_158 (args_sref rfl (by simp [encL, adj]) (imm_subs _) (args_imm .sc (args_nil.2 trivial))) .sc ?_
        simp -dsimp -implicitDefEqProofs [-getElem?_pos, go_sem, hP, q2]
        refine adrawB (fun _ => true) [10] hP (by kernel_rfl) (by kernel_rfl) ?_
        have set2 : (encL TSub.cells (adj l e.From (-e.Amount))).set j [iv b.ID, iv (b.Balance + e.Amount)] = encL TSub.cells (adj (adj l e.From (-e.Amount)) e.To e.Amount) := by
          rw [← eb, ← set_adj nL1 jL, ← encL_set]
          rfl
        have g2 : (adj (adj l e.From (-e.Amount)) e.To e.Amount)[j]? = some ⟨b.ID, b.Balance + e.Amount⟩ := by rw [adj_get, jL, ← eb]; simp
        have o2 : okAt credit (adj (adj l e.From (-e.Amount)) e.To e.Amount) e.To = okSub credit ⟨b.ID, b.Balance + e.Amount⟩ := by
          rw [← eb] at g2 ⊢
          exact okAt_get (by rw [adj_ids]; exact nL1) g2
        have lt2 : (j : Int) < (l.length : Int) := by omega
        simp -dsimp -implicitDefEqProofs [-getElem?_pos, go_sem, hP, adj_len, jL, TSub.cells, hj, lt2, wb, set2, g2]
        by_cases c4 : 1000000000000000 < b.Balance + e.Amount
        · have o2' : okAt credit (adj (adj l e.From (-e.Amount)) e.To e.Amount) e.To = false := by rw [o2]; simp [okSub]; omega
          simp -dsimp -implicitDefEqProofs [-getElem?_pos, go_sem, hP, adj_len, g2, TSub.cells, hj, lt2, c4]
          exact fin 61 _ _ (by omega) (by rw [pS, ok1]; simp [o2'])
        · have o2' : okAt credit (adj (adj l e.From (-e.Amount)) e.To e.Amount) e.To = true := by
            rw [o2]
            have := (okSub_iff _ _).1 okb
            rw [okSub_iff]
            dsimp only
            omega
          simp -dsimp -implicitDefEqProofs [-getElem?_pos, go_sem, hP, adj_len, g2, TSub.cells, hj, lt2, c4]
          have e2 := encL_take TSub.cells (adj (adj l e.From (-e.Amount)) e.To e.Amount) l.length (by simp [adj_len])
          refine done (x := .tup [subsL (adj (adj l e.From (-e.Amount)) e.To e.Amount), iv 0]) ?_ ?_ ?_
          · simp -dsimp -implicitDefEqProofs [-getElem?_pos, go_sem, e2]
            exact imm_list.1 (imm_subs _)
          · rw [okR (adj (adj l e.From (-e.Amount)) e.To e.Amount) (by rw [pS, ok1]; simp [o2'])]
          · simp -dsimp -implicitDefEqProofs [-getElem?_pos, go_sem, e2]
    · have h5 : badSub l e = false := by simpa using fun h => b5.1 h ⟨a5, .inr (by omega), .inl z2⟩
      have d5 : decide (e.To = 0) = true := by simpa using z2
      have q2 : placeI (adj l e.From (-e.Amount)) e.To = -1 := by
        rcases placeI_spec (adj l e.From (-e.Amount)) e.To with ⟨h, _⟩ | ⟨_, _, _, _, _, h⟩
        · exact h
        · rw [adj_ids, z2] at h; exact absurd h h0
      simp -dsimp -implicitDefEqProofs [-getElem?_pos, go_sem, hP, a5, z1, p1, d2, d5]
      refine ⟨by omega, by omega, ?_⟩
      refine callB_pure (at_pf l e.From (by (try simp only [adj_len]); omega)) hP en_158 (args_sref rfl (by simp [encL, adj]) (imm_subs _) (args_imm .sc (args_nil.2 trivial))) .sc ?_
      simp -dsimp -implicitDefEqProofs [-getElem?_pos, go_sem, hP, p1]
      refine adrawB (fun _ => true) [10] hP (by kernel_rfl) (by kernel_rfl) ?_
      simp -dsimp -implicitDefEqProofs [-getElem?_pos, go_sem, hP, adj_len, i1, TSub.cells, hi, lt1, wa, set1, g1]
      have nok : okSub credit ⟨a.ID, a.Balance - e.Amount⟩ = false ↔ (a.Balance - e.Amount < 0 ∧ (¬ a.ID = 1 ∨ a.Balance - e.Amount < -credit)) := by
        rw [← Bool.not_eq_true, okSub_iff]
        dsimp only
        by_cases hid : a.ID = 1
        · rw [if_pos hid]; omega
        · rw [if_neg hid]; simp [hid]; omega
      by_cases hno : okSub credit ⟨a.ID, a.Balance - e.Amount⟩ = false
      · have r61 : ∀ (H : Heap) (b), Done H (.tup [.nil, iv 61]) (· = .tup [subsL (addR credit l last e).1, iv (addR credit l last e).2]) b := fun H b => fin 61 _ _ (by omega) (by rw [pS, h5, o1, hno]; simp)
        obtain ⟨c1, c2⟩ := nok.1 hno
        by_cases c3 : a.ID = 1
        · have c4 : a.Balance - e.Amount < -credit := c2.resolve_left (fun h => h c3)
          have d3 : decide (a.ID = 1) = true := by simpa using c3
          simp -dsimp -implicitDefEqProofs [-getElem?_pos, go_sem, hP, adj_len, g1, TSub.cells, hi, lt1, c1, d3, c4, wneg]
          exact r61 _ _
        · simp -dsimp -implicitDefEqProofs [-getElem?_pos, go_sem, hP, adj_len, g1, TSub.cells, hi, lt1, c1, c3]
          exact r61 _ _
      have hyes : okSub credit ⟨a.ID, a.Balance - e.Amount⟩ = true := by simpa using hno
      have f1 : okAt credit (adj l e.From (-e.Amount)) e.From = true := by rw [o1, hyes]
      have ok1 : (if badSub l e = true then ((60 : Int), l) else if okAt credit (adj l e.From (-e.Amount)) e.From = false then (61, adj l e.From (-e.Amount)) else
          if okAt credit (adj (adj l e.From (-e.Amount)) e.To e.Amount) e.To = false then (61, adj (adj l e.From (-e.Amount)) e.To e.Amount) else (0, adj (adj l e.From (-e.Amount)) e.To e.Amount)) =
          if okAt credit (adj (adj l e.From (-e.Amount)) e.To e.Amount) e.To = false then (61, adj (adj l e.From (-e.Amount)) e.To e.Amount) else (0, adj (adj l e.From (-e.Amount)) e.To e.Amount) := by
        rw [f1, h5]; simp
      have go : ∀ {p : Prop}, (a.Balance - e.Amount < 0 → a.ID = 1 → ¬ a.Balance - e.Amount < -credit → p) → (¬ a.Balance - e.Amount < 0 → p) → p := fun h k => by
        by_cases c1 : a.Balance - e.Amount < 0
        · have c3 : a.ID = 1 := Classical.byContradiction fun h3 => hno (nok.2 ⟨c1, .inl h3⟩)
          exact h c1 c3 fun h4 => hno (nok.2 ⟨c1, .inr h4⟩)
        · exact k c1
      refine go (fun c1 c3 c4 => ?_) (fun c1 => ?_)
      · have d3 : decide (a.ID = 1) = true := by simpa using c3
        simp -dsimp -implicitDefEqProofs [-getElem?_pos, go_sem, hP, adj_len, g1, TSub.cells, hi, lt1, c1, d3, c4, wneg]
        refine callB_pure (at_pf (adj l e.From (-e.Amount)) e.To (by (try simp only [adj_len]); omega)) hP en_158 (args_sref rfl (by simp [encL, adj]) (imm_subs _) (args_imm .sc (args_nil.2 trivial))) .sc ?_
        simp -dsimp -implicitDefEqProofs [-getElem?_pos, go_sem, hP, q2]
        refine done (x := .tup [subsL (adj l e.From (-e.Amount)), iv 0]) ?_ ?_ ?_
        · simp -dsimp -implicitDefEqProofs [-getElem?_pos, go_sem, e1]
          exact imm_list.1 (imm_subs _)
        · have nt : adj (adj l e.From (-e.Amount)) e.To e.Amount = (adj l e.From (-e.Amount)) := adj_none (by rw [adj_ids, z2]; exact h0)
          have ot : okAt credit (adj l e.From (-e.Amount)) e.To = true := okAt_none (by rw [adj_ids, z2]; exact h0)
          rw [okR (adj l e.From (-e.Amount)) (by rw [pS, ok1, nt, ot]; simp)]
        · simp -dsimp -implicitDefEqProofs [-getElem?_pos, go_sem, e1]
      · simp -dsimp -implicitDefEqProofs [-getElem?_pos, go_sem, hP, adj_len, g1, TSub.cells, hi, lt1, c1]
        refine callB_pure (at_pf (adj l e.From (-e.Amount)) e.To (by (try simp only [adj_len]); omega)) hP en_158 (args_sref rfl (by simp [encL, adj]) (imm_subs _) (args_imm .sc (args_nil.2 trivial))) .sc ?_
        simp -dsimp -implicitDefEqProofs [-getElem?_pos, go_sem, hP, q2]
        refine done (x := .tup [subsL (adj l e.From (-e.Amount)), iv 0]) ?_ ?_ ?_
        · simp -dsimp -implicitDefEqProofs [-getElem?_pos, go_sem, e1]
          exact imm_list.1 (imm_subs _)
        · have nt : adj (adj l e.From (-e.Amount)) e.To e.Amount = (adj l e.From (-e.Amount)) := adj_none (by rw [adj_ids, z2]; exact h0)
          have ot : okAt credit (adj l e.From (-e.Amount)) e.To = true := okAt_none (by rw [adj_ids, z2]; exact h0)
          rw [okR (adj l e.From (-e.Amount)) (by rw [pS, ok1, nt, ot]; simp)]
        · simp -dsimp -implicitDefEqProofs [-getElem?_pos, go_sem, e1]
open Go.PA
open Go.RowKit
def runE (credit : Int) : TEntry → List TSub → List TEntry → List TSub × Int
  | _, l, [] => (l, 0)
  | last, l, e :: es => if (postS credit last.Number last.Day l e).1 = 0 then runE credit e (postS credit last.Number last.Day l e).2 es else ([], (postS credit last.Number last.Day l e).1)
theorem runE_replay (credit : Int) : ∀ (es : List TEntry) (last : TEntry) (l : List TSub), (∃ r, replayS credit last.Number last.Day l es = some r ∧ runE credit last l es = (r.2.2, 0)) ∨ (replayS credit last.Number last.Day l es = none ∧ (runE credit last l es).1 = [] ∧ ¬ (runE credit last l es).2 = 0)
  | [], last, l => .inl ⟨_, rfl, rfl⟩
  | e :: es, last, l => by
    rw [replayS, runE]
    by_cases h : (postS credit last.Number last.Day l e).1 = 0
    · rw [if_pos h, if_pos h]
      exact runE_replay credit es e _
    · rw [if_neg h, if_neg h]
      exact .inr ⟨rfl, rfl, h⟩
abbrev zeroE : TEntry := ⟨0, 0, 0, 0, 0, 0⟩
def early (day : Int) (e : TEntry) : Bool := decide (e.Day ≤ day)
def untilR (a : TAccount) (day : Int) : List TSub × Int := runE a.Credit zeroE (zeroS a.Subs) (a.Entries.takeWhile (early day))
theorem addR_ok {credit : Int} {l : List TSub} {last e : TEntry} (h : (postS credit last.Number last.Day l e).1 = 0) : addR credit l last e = ((postS credit last.Number last.Day l e).2, 0) := by rw [addR, if_pos h]
theorem addR_bad {credit : Int} {l : List TSub} {last e : TEntry} (h : ¬ (postS credit last.Number last.Day l e).1 = 0) : addR credit l last e = ([], (postS credit last.Number last.Day l e).1) := by rw [addR, if_neg h]
set_option maxHeartbeats 1000000 in
theorem until_pf (a : TAccount) (day : Int) (hl : a.Subs.length ≤ 100000) (he : a.Entries.length ≤ 100000) (hc : 0 ≤ a.Credit ∧ a.Credit ≤ 1000000000000) (hn : (ids a.Subs).Nodup) (h0 : 0 ∉ ids a.Subs) :
    PFun Tryz.prog none none 134 [.agg a.cells, iv day] (· = .tup [subsL (untilR a day).1, iv (untilR a day).2]) := by
  refine pfun_intro Tryz.func134 rfl (by simp [Tryz.f134]) (by kernel_rfl) ?_
  intro E hP hr hs hW hN
  simp -dsimp -implicitDefEqProofs [-getElem?_pos, go_sem, hP, TAccount.cells]
  refine callB_is ((empty_pf a.Subs hl).lift _ _) hP en_172 (by simp [imm_subs]) (imm_subs _) ?_
  simp -dsimp -implicitDefEqProofs [-getElem?_pos, go_sem, hP]
  obtain ⟨I, hI⟩ : ∃ I : Nat → St → Prop, I = fun m s => ∃ (k id : Nat) (last : TEntry) (l : List TSub), k ≤ a.Entries.length ∧ 1 ≤ id ∧ m = a.Entries.length - k ∧ untilR a day = runE a.Credit last l ((a.Entries.drop k).takeWhile (early day)) ∧ last.Number = k ∧ 0 ≤ last.Day ∧ okAll a.Credit l = true ∧ ids l = ids a.Subs ∧ s.t 1 = iv day ∧ s.t 2 = .ref 0 0 0 ∧ s.t 6 = subsL l ∧ s.t 7 = .ref id 0 0 ∧ s.t 17 = entsL a.Entries ∧ s.t 18 = iv a.Entries.length ∧ s.t 19 = iv k ∧ s.H[0]? = some (some ⟨28, 3, [a.cells]⟩) ∧ s.H[id]? = some (some ⟨94, 6, [last.cells]⟩) := ⟨_, rfl⟩
  refine aloop0 I (a.Entries.length) (by rw [hN]; rfl) ?_ ?_
  · rw [hI]
    exact ⟨0, 1, zeroE, zeroS a.Subs, by omega, by omega, by omega, by simp [untilR], rfl, Int.le_refl _, zeroS_all hc.1 _, zeroS_ids _, by simp -dsimp -implicitDefEqProofs [-getElem?_pos, go_sem], by simp -dsimp -implicitDefEqProofs [-getElem?_pos, go_sem], by simp -dsimp -implicitDefEqProofs [-getElem?_pos, go_sem], by simp -dsimp -implicitDefEqProofs [-getElem?_pos, go_sem], by simp -dsimp -implicitDefEqProofs [-getElem?_pos, go_sem], by simp -dsimp -implicitDefEqProofs [-getElem?_pos, go_sem], by simp -dsimp -implicitDefEqProofs [-getElem?_pos, go_sem], by simp -dsimp -implicitDefEqProofs [-getElem?_pos, go_sem, TAccount.cells], by simp -dsimp -implicitDefEqProofs [-getElem?_pos, go_sem, TEntry.cells]⟩
  intro m s hs'
  rw [hI] at hs'
  obtain ⟨k, id, last, l, hk, hid, hm, hu, hnum, hday, hok, hids, t1, t2, t6, t7, t17, t18, t19, hA, hL⟩ := hs'
  have hll : l.length = a.Subs.length := by rw [← ids_len l, hids, ids_len]
  simp -dsimp -implicitDefEqProofs [-getElem?_pos, go_sem, hP, t18, t19]
  refine condP (fun h => ?_) (fun h => ?_)
  · have hk : k < a.Entries.length := by simpa using h
    obtain ⟨e, hee⟩ : ∃ e, a.Entries[k]? = some e := ⟨_, List.getElem?_eq_getElem hk⟩
    have wk := wrap_in ((k : Int) + 1) (by omega)
    have hd : a.Entries.drop k = e :: a.Entries.drop (k + 1) := by
      rw [List.getElem?_eq_getElem hk] at hee
      rw [List.drop_eq_getElem_cons hk, Option.some.inj hee]
    rw [hd] at hu
    have hlt0 := (List.getElem?_eq_some_iff.1 hA).1
    have hne0 : ¬ id = 0 := by omega
    have hlt := (List.getElem?_eq_some_iff.1 hL).1
    have tkE : e.cells.take 6 = e.cells := List.take_of_length_le (by rw [TEntry.len]; omega)
    have tkL : last.cells.take 6 = last.cells := List.take_of_length_le (by rw [TEntry.len]; omega)
    have drE : e.cells.drop 6 = [] := List.drop_eq_nil_of_le (by rw [TEntry.len]; omega)
    have drL : last.cells.drop 6 = [] := List.drop_eq_nil_of_le (by rw [TEntry.len]; omega)
    by_cases hearly : e.Day ≤ day
    · have h2 : decide (day < e.Day) = false := by simp; omega
      have hu2 : untilR a day = if (postS a.Credit last.Number last.Day l e).1 = 0 then runE a.Credit e (postS a.Credit last.Number last.Day l e).2 ((a.Entries.drop (k + 1)).takeWhile (early day)) else ([], (postS a.Credit last.Number last.Day l e).1) := by
        rw [hu, List.takeWhile_cons_of_pos (by simpa [early] using hearly)]
        rfl
      have ap := add_pf a.Credit l last e (by omega) hc (hids ▸ hn) (hids ▸ h0) hok (by omega) hday
      have cE : e.cells = [iv e.Number, iv e.Day, iv e.From, iv e.To, iv e.Amount, iv e.Ref] := rfl
      simp -dsimp -implicitDefEqProofs [-getElem?_pos, go_sem, hP, t17, t19, hee, t1, cE, h2, t2, hA, hlt0, hlt, TAccount.cells, t6, t7, hL, TEntry.len, tkL]
      refine callB_is (ap.lift _ _) hP en_104 (by simp [imm_subs, imm_sc]; exact ⟨imm_ent last, imm_ent e⟩) (imm_pair (imm_subs _) .sc) ?_
      by_cases hp : (postS a.Credit last.Number last.Day l e).1 = 0
      · rw [addR_ok hp]
        rw [if_pos hp] at hu2
        obtain ⟨q1, q2, q3, _⟩ := postS_ok hp
        simp -dsimp -implicitDefEqProofs [-getElem?_pos, go_sem, hP]
        refine adrawB (fun _ => true) [3] hP (by kernel_rfl) (by kernel_rfl) ?_
        simp -dsimp -implicitDefEqProofs [-getElem?_pos, go_sem, hP, t7, hL, hlt, t19, wk, drL, TEntry.len]
        refine ⟨a.Entries.length - (k + 1), by omega, ?_⟩
        rw [hI]
        refine ⟨k + 1, id, e, (postS a.Credit last.Number last.Day l e).2, by omega, hid, rfl, hu2, by rw [q1, hnum]; simp, by omega, postS_all hp hok, (postS_ids _ _ _ _ _).trans hids, by simp -dsimp -implicitDefEqProofs [-getElem?_pos, go_sem, t1], by simp -dsimp -implicitDefEqProofs [-getElem?_pos, go_sem, t2], by simp -dsimp -implicitDefEqProofs [-getElem?_pos, go_sem], by simp -dsimp -implicitDefEqProofs [-getElem?_pos, go_sem, t7], by simp -dsimp -implicitDefEqProofs [-getElem?_pos, go_sem, t17], by simp -dsimp -implicitDefEqProofs [-getElem?_pos, go_sem, t18], by simp -dsimp -implicitDefEqProofs [-getElem?_pos, go_sem], ?_, ?_⟩
        · simp -dsimp -implicitDefEqProofs [-getElem?_pos, go_sem, hne0, hlt0, hA]
        · simp -dsimp -implicitDefEqProofs [-getElem?_pos, go_sem, hlt, TEntry.cells]
      · rw [addR_bad hp]
        rw [if_neg hp] at hu2
        simp -dsimp -implicitDefEqProofs [-getElem?_pos, go_sem, hP, hp]
        refine done_nil2 2 ?_
        rw [hu2]
        simp [encL]
    · have h2 : decide (day < e.Day) = true := by simp; omega
      have hu2 : untilR a day = (l, 0) := by
        rw [hu, List.takeWhile_cons_of_neg (by simpa [early] using hearly)]
        rfl
      have cE : e.cells = [iv e.Number, iv e.Day, iv e.From, iv e.To, iv e.Amount, iv e.Ref] := rfl
      simp -dsimp -implicitDefEqProofs [-getElem?_pos, go_sem, hP, t17, t19, hee, t1, cE, h2, t6]
      refine done_imm (imm_pair (imm_subs _) .sc) ?_
      rw [hu2]
  · have hk : k = a.Entries.length := by simp at h; omega
    subst hk
    rw [List.drop_length] at hu
    have hu2 : untilR a day = (l, 0) := hu
    simp -dsimp -implicitDefEqProofs [-getElem?_pos, go_sem, hP, t6]
    refine done_imm (imm_pair (imm_subs _) .sc) ?_
    rw [hu2]
theorem listEq_pf_subs (a b : List TSub) (ha : a.length ≤ 100000) (hb : b.length ≤ 100000) :
    PFun Tryz.prog none none 144 [.list 2 (encL TSub.cells a), .list 2 (encL TSub.cells b)] (· = bv (decide (a = b))) := by
  refine pfun_intro Tryz.func144 rfl (by simp [Tryz.f144]) (by kernel_rfl) ?_
  intro E hP hr hs hW hN
  by_cases hlen : a.length = b.length
  rotate_left
  · have hne : ¬ a = b := fun h => hlen (by rw [h])
    have hl : decide ((a.length : Int) = (b.length : Int)) = false := by simp; omega
    simp -dsimp -implicitDefEqProofs [-getElem?_pos, go_sem, hP, hl, hne]
  have hl : decide ((a.length : Int) = (b.length : Int)) = true := by simp; omega
  simp -dsimp -implicitDefEqProofs [-getElem?_pos, go_sem, hP, hl]
  obtain ⟨I, hI⟩ : ∃ I : Nat → St → Prop, I = fun m s => ∃ k : Nat, k ≤ a.length ∧ m = a.length - k ∧ s.t 0 = .list 2 (encL TSub.cells a) ∧ s.t 1 = .list 2 (encL TSub.cells b) ∧ s.t 12 = iv a.length ∧ s.t 13 = iv k ∧ a.take k = b.take k := ⟨_, rfl⟩
  refine aloop0 I (a.length) (by rw [hN]; rfl) ?_ ?_
  · rw [hI]
    exact ⟨0, by omega, by omega, by simp -dsimp -implicitDefEqProofs [-getElem?_pos, go_sem], by simp -dsimp -implicitDefEqProofs [-getElem?_pos, go_sem], by simp -dsimp -implicitDefEqProofs [-getElem?_pos, go_sem], by simp -dsimp -implicitDefEqProofs [-getElem?_pos, go_sem], by simp⟩
  intro m s hs'
  rw [hI] at hs'
  obtain ⟨k, hk, hm, t0, t1, t12, t13, heq⟩ := hs'
  simp -dsimp -implicitDefEqProofs [-getElem?_pos, go_sem, hP, t12, t13]
  refine condP (fun h => ?_) (fun h => ?_)
  · have hk : k < a.length := by simpa using h
    obtain ⟨x, hx⟩ : ∃ x, a[k]? = some x := ⟨_, List.getElem?_eq_getElem hk⟩
    obtain ⟨y, hy⟩ : ∃ y, b[k]? = some y := ⟨_, List.getElem?_eq_getElem (by omega)⟩
    have wk := wrap_in ((k : Int) + 1) (by omega)
    have tx : a.take (k + 1) = a.take k ++ [x] := by rw [List.take_add_one, hx]; rfl
    have ty : b.take (k + 1) = b.take k ++ [y] := by rw [List.take_add_one, hy]; rfl
    simp -dsimp -implicitDefEqProofs [-getElem?_pos, go_sem, hP, t13]
    refine adrawB (fun _ => true) [] hP (by kernel_rfl) (by kernel_rfl) ?_
    by_cases hxy : x = y
    · subst hxy
      simp -dsimp -implicitDefEqProofs [-getElem?_pos, go_sem, hP, t0, t1, hx, hy, TSub.cells, t13, wk]
      refine ⟨a.length - (k + 1), by omega, ?_⟩
      rw [hI]
      exact ⟨k + 1, by omega, rfl, by simp -dsimp -implicitDefEqProofs [-getElem?_pos, go_sem, t0], by simp -dsimp -implicitDefEqProofs [-getElem?_pos, go_sem, t1], by simp -dsimp -implicitDefEqProofs [-getElem?_pos, go_sem, t12], by simp -dsimp -implicitDefEqProofs [-getElem?_pos, go_sem], by rw [tx, ty, heq]⟩
    · have hne : ¬ a = b := fun h => by
        subst h
        rw [hx] at hy
        exact hxy (Option.some.inj hy)
      simp -dsimp -implicitDefEqProofs [-getElem?_pos, go_sem, hP, t0, t1, hx, hy, TSub.cells, t13, wk]
      refine condP (fun h => ?_) (fun h => ?_)
      · simp -dsimp -implicitDefEqProofs [-getElem?_pos, go_sem, hP, hne]
      · exact absurd (by cases x; cases y; simp at h; simp [h]) hxy
  · have hk : k = a.length := by simp at h; omega
    subst hk
    rw [List.take_length] at heq
    rw [hlen, List.take_length] at heq
    simp -dsimp -implicitDefEqProofs [-getElem?_pos, go_sem, hP, heq]
theorem plain_pf (a : TAccount) (hl : a.Subs.length ≤ 100000) : PFun Tryz.prog none none 132 [.agg a.cells] (· = bv (vB a.Credit && numB (ids a.Subs))) := by
  refine pfun_intro Tryz.func132 rfl (by simp [Tryz.f132]) (by kernel_rfl) ?_
  intro E hP hr hs hW hN
  simp -dsimp -implicitDefEqProofs [-getElem?_pos, go_sem, hP, TAccount.cells]
  refine callB_pure (valid01_pf a.Credit) hP en_131 (args_same (by simp -dsimp -implicitDefEqProofs [-getElem?_pos, go_sem])) .sc ?_
  by_cases hv : vB a.Credit = true
  rotate_left
  · simp -dsimp -implicitDefEqProofs [-getElem?_pos, go_sem, hP, hv]
  by_cases hz : a.Subs.length < 1
  · have hnil : a.Subs = [] := List.eq_nil_of_length_eq_zero (by omega)
    have hd : decide ((a.Subs.length : Int) < 1) = true := by simp; omega
    simp -dsimp -implicitDefEqProofs [-getElem?_pos, go_sem, hP, hv, hd]
    simp [hnil, numB, ids]
  have hd : decide ((a.Subs.length : Int) < 1) = false := by simp; omega
  simp -dsimp -implicitDefEqProofs [-getElem?_pos, go_sem, hP, hv, hd]
  obtain ⟨I, hI⟩ : ∃ I : Nat → St → Prop, I = fun m s => ∃ (k : Nat) (p : Int), k ≤ a.Subs.length ∧ m = a.Subs.length - k ∧ numB (ids a.Subs) = (ascA p ((ids a.Subs).drop k) && (decide (k = 0 → (ids a.Subs).head? = some 1))) ∧ (k = 0 → p = 0) ∧ (∀ j x, k = j + 1 → a.Subs[j]? = some x → p = x.ID) ∧ s.t 1 = .ref 0 0 0 ∧ s.t 16 = subsL a.Subs ∧ s.t 17 = iv a.Subs.length ∧ s.t 18 = iv k ∧ s.H[0]? = some (some ⟨28, 3, [a.cells]⟩) := ⟨_, rfl⟩
  refine aloop0 I (a.Subs.length) (by rw [hN]; rfl) ?_ ?_
  · rw [hI]
    exact ⟨0, 0, by omega, by omega, by simp [numB], by simp, by omega, by simp -dsimp -implicitDefEqProofs [-getElem?_pos, go_sem], by simp -dsimp -implicitDefEqProofs [-getElem?_pos, go_sem], by simp -dsimp -implicitDefEqProofs [-getElem?_pos, go_sem], by simp -dsimp -implicitDefEqProofs [-getElem?_pos, go_sem], by simp -dsimp -implicitDefEqProofs [-getElem?_pos, go_sem, TAccount.cells]⟩
  intro m s hs'
  rw [hI] at hs'
  obtain ⟨k, p, hk, hm, hnum, hp0, hp1, t1, t16, t17, t18, hA⟩ := hs'
  have hlt0 := (List.getElem?_eq_some_iff.1 hA).1
  simp -dsimp -implicitDefEqProofs [-getElem?_pos, go_sem, hP, t17, t18]
  refine condP (fun h => ?_) (fun h => ?_)
  · have hk : k < a.Subs.length := by simpa using h
    obtain ⟨x, hx⟩ : ∃ x, a.Subs[k]? = some x := ⟨_, List.getElem?_eq_getElem hk⟩
    have wk := wrap_in ((k : Int) + 1) (by omega)
    have hdr : (ids a.Subs).drop k = x.ID :: (ids a.Subs).drop (k + 1) := by
      have h1 : (ids a.Subs)[k]? = some x.ID := by rw [ids_get, hx]; rfl
      obtain ⟨h2, h3⟩ := List.getElem?_eq_some_iff.1 h1
      rw [List.drop_eq_getElem_cons h2, h3]
    rw [hdr, ascA] at hnum
    have hhead : k = 0 → (ids a.Subs).head? = some x.ID := fun h => by
      subst h
      rw [List.drop_zero] at hdr
      rw [hdr]
      rfl
    have fin : ∀ s' : St, (amongB x.ID 1 1000 && decide (p < x.ID)) = true → (k = 0 → x.ID = 1) → s'.t 1 = s.t 1 → s'.t 16 = s.t 16 → s'.t 17 = s.t 17 → s'.t 18 = iv ((k : Int) + 1) → s'.H[0]? = s.H[0]? → ∃ n', n' < m ∧ I n' s' := fun s' hc h1 e1 e16 e17 e18 eH => by
      refine ⟨a.Subs.length - (k + 1), by omega, ?_⟩
      rw [hI]
      simp only [Bool.and_eq_true] at hc
      refine ⟨k + 1, x.ID, by omega, rfl, ?_, by omega, fun j y hj hy => ?_, by rw [e1, t1], by rw [e16, t16], by rw [e17, t17], by rw [e18]; simp, by rw [eH, hA]⟩
      · rw [hnum, hc.1, hc.2]
        have : decide (k = 0 → (ids a.Subs).head? = some 1) = true := by
          simp only [decide_eq_true_eq]
          exact fun h => by rw [hhead h, h1 h]
        rw [this]
        simp
      · have : j = k := by omega
        subst this
        rw [hx] at hy
        rw [Option.some.inj hy]
    have bad : (amongB x.ID 1 1000 && decide (p < x.ID)) = false ∨ (k = 0 ∧ ¬ x.ID = 1) → numB (ids a.Subs) = false := fun h => by
      rcases h with h | ⟨h1, h2⟩
      · rw [hnum, ← Bool.and_assoc (amongB _ _ _), h]; simp
      · rw [hnum]
        have : decide (k = 0 → (ids a.Subs).head? = some 1) = false := by
          simp only [decide_eq_false_iff_not]
          intro h
          have := h h1
          rw [hhead h1] at this
          exact h2 (Option.some.inj this)
        rw [this]; simp
    simp -dsimp -implicitDefEqProofs [-getElem?_pos, go_sem, hP, t16, t18, hx, TSub.cells]
    refine adrawB (fun _ => true) [] hP (by kernel_rfl) (by kernel_rfl) ?_
    by_cases c1 : x.ID < 1
    · have := bad (.inl (by simp [amongB]; omega))
      simp -dsimp -implicitDefEqProofs [-getElem?_pos, go_sem, hP, c1, this]
    by_cases c2 : 1000 < x.ID
    · have := bad (.inl (by simp [amongB]; omega))
      simp -dsimp -implicitDefEqProofs [-getElem?_pos, go_sem, hP, c1, c2, this]
    rcases Nat.eq_zero_or_pos k with hk0 | hkp
    · have d0 : decide (k = 0) = true := by simp; omega
      have d1 : decide (0 < k) = false := by simp; omega
      by_cases c3 : x.ID = 1
      · have d3 : decide (x.ID = 1) = true := by simpa using c3
        simp -dsimp -implicitDefEqProofs [-getElem?_pos, go_sem, hP, c1, c2, d0, d1, d3, t18, wk]
        exact fin _ (by have := hp0 hk0; simp [amongB]; omega) (fun _ => c3) (by simp -dsimp -implicitDefEqProofs [-getElem?_pos, go_sem]) (by simp -dsimp -implicitDefEqProofs [-getElem?_pos, go_sem]) (by simp -dsimp -implicitDefEqProofs [-getElem?_pos, go_sem]) (by simp -dsimp -implicitDefEqProofs [-getElem?_pos, go_sem]) (by simp -dsimp -implicitDefEqProofs [-getElem?_pos, go_sem, hlt0])
      · have := bad (.inr ⟨hk0, c3⟩)
        simp -dsimp -implicitDefEqProofs [-getElem?_pos, go_sem, hP, c1, c2, d0, d1, c3, this]
    · obtain ⟨j, rfl⟩ : ∃ j, k = j + 1 := ⟨k - 1, by omega⟩
      obtain ⟨y, hy⟩ : ∃ y, a.Subs[j]? = some y := ⟨_, List.getElem?_eq_getElem (by omega)⟩
      have d0 : decide (((j : Int) + 1) = 0) = false := by simp <;> omega
      have d1 : decide ((0 : Int) < (j : Int) + 1) = true := by simp <;> omega
      have wj := wrap_in ((j : Int) + 1 - 1) (by omega)
      rw [Int.add_sub_cancel] at wj
      have hpy := hp1 j y rfl hy
      have wk' := wrap_in ((j : Int) + 1 + 1) (by omega)
      by_cases c3 : x.ID ≤ y.ID
      · have := bad (.inl (by simp [amongB]; omega))
        simp -dsimp -implicitDefEqProofs [-getElem?_pos, go_sem, hP, c1, c2, d0, d1, Int.add_sub_cancel, wj, t1, hA, hlt0, TAccount.cells, hy, TSub.cells, c3, this]
      · simp -dsimp -implicitDefEqProofs [-getElem?_pos, go_sem, hP, c1, c2, d0, d1, Int.add_sub_cancel, wj, t1, hA, hlt0, TAccount.cells, hy, TSub.cells, c3, t18, wk']
        exact fin _ (by simp [amongB]; omega) (by omega) (by simp -dsimp -implicitDefEqProofs [-getElem?_pos, go_sem]) (by simp -dsimp -implicitDefEqProofs [-getElem?_pos, go_sem]) (by simp -dsimp -implicitDefEqProofs [-getElem?_pos, go_sem]) (by simp -dsimp -implicitDefEqProofs [-getElem?_pos, go_sem]) (by simp -dsimp -implicitDefEqProofs [-getElem?_pos, go_sem, hlt0])
  · have hk : k = a.Subs.length := by simp at h; omega
    subst hk
    have hdn : (ids a.Subs).drop a.Subs.length = [] := List.drop_eq_nil_of_le (by rw [ids_len]; omega)
    have hh : decide (a.Subs.length = 0 → (ids a.Subs).head? = some 1) = true := by
      simp only [decide_eq_true_eq]
      intro h
      omega
    rw [hdn, hh] at hnum
    have hnum : numB (ids a.Subs) = true := hnum
    simp -dsimp -implicitDefEqProofs [-getElem?_pos, go_sem, hP, hnum, hv]
open Go.PA
open Go.RowKit
theorem replayS_days (credit : Int) : ∀ (es : List TEntry) (n d : Int) (l : List TSub) (r : Int × Int × List TSub), 0 ≤ d → replayS credit n d l es = some r → ∀ e, e ∈ es → d ≤ e.Day ∧ e.Day ≤ 36000
  | [], n, d, l, r, hd, h, e, he => by simp at he
  | x :: es, n, d, l, r, hd, h, e, he => by
    rw [replayS] at h
    split at h
    · rename_i hp
      obtain ⟨_, h2, h3, _⟩ := postS_ok hp
      rcases List.mem_cons.1 he with rfl | he
      · exact ⟨h2, h3⟩
      · have := replayS_days credit es _ _ _ r (by omega) h e he
        exact ⟨by omega, this.2⟩
    · cases h
theorem replayS_last (credit : Int) : ∀ (es : List TEntry) (last : TEntry) (l : List TSub) (r : Int × Int × List TSub), replayS credit last.Number last.Day l es = some r → r.1 = ((es.getLast?).getD last).Number ∧ r.2.1 = ((es.getLast?).getD last).Day
  | [], last, l, r, h => by
    simp only [replayS, Option.some.injEq] at h
    subst h
    exact ⟨rfl, rfl⟩
  | e :: es, last, l, r, h => by
    rw [replayS] at h
    split at h
    · have := replayS_last credit es e _ r h
      cases es with
      | nil => exact this
      | cons x es =>
        have e1 : (e :: x :: es).getLast? = (x :: es).getLast? := by rw [List.getLast?_cons_cons]
        rw [e1]
        have e2 : ∀ y, ((x :: es).getLast?).getD y = ((x :: es).getLast?).getD e := fun y => by
          rw [List.getLast?_eq_some_getLast (by simp)]; rfl
        rw [e2 last]
        exact this
    · cases h
theorem takeWhile_all {α : Type} (p : α → Bool) : ∀ l : List α, (∀ x, x ∈ l → p x = true) → l.takeWhile p = l
  | [], _ => rfl
  | a :: l, h => by
    rw [List.takeWhile_cons_of_pos (h a (by simp)), takeWhile_all p l fun x hx => h x (List.mem_cons_of_mem _ hx)]
def lastE (a : TAccount) : TEntry := (a.Entries.getLast?).getD zeroE
theorem check_ok {a : TAccount} (h : checkA a = 0) : a.Subs.length ≤ 20 ∧ a.Entries.length ≤ 400 ∧ (0 ≤ a.Credit ∧ a.Credit ≤ 1000000000000) ∧ numB (ids a.Subs) = true ∧ replayS a.Credit 0 0 (zeroS a.Subs) a.Entries = some ((lastE a).Number, (lastE a).Day, a.Subs) := by
  unfold checkA at h
  split at h
  · simp at h
  rename_i h1
  split at h
  · simp at h
  rename_i h2
  split at h
  · simp at h
  rename_i r hr
  split at h
  · rename_i he
    have h2 : vB a.Credit = true ∧ numB (ids a.Subs) = true := by simpa using h2
    have h3 : 0 ≤ a.Credit ∧ a.Credit ≤ 1000000000000 := by simpa [vB, amongB] using h2.1
    have := replayS_last a.Credit a.Entries zeroE (zeroS a.Subs) r hr
    refine ⟨by omega, by omega, h3, h2.2, ?_⟩
    rw [hr]
    congr 1
    exact Prod.ext this.1 (Prod.ext this.2 he)
  · simp at h
theorem check_mk {a : TAccount} (h1 : a.Subs.length ≤ 20) (h2 : a.Entries.length ≤ 400) (h3 : 0 ≤ a.Credit ∧ a.Credit ≤ 1000000000000) (h4 : numB (ids a.Subs) = true) {n d : Int} (h5 : replayS a.Credit 0 0 (zeroS a.Subs) a.Entries = some (n, d, a.Subs)) : checkA a = 0 := by
  unfold checkA
  have hv : vB a.Credit = true := by simpa [vB, amongB] using h3
  rw [if_neg (by omega), if_neg (by simp [hv, h4]), h5]
  simp
theorem numB_facts {l : List Int} (h : numB l = true) : l.Nodup ∧ 0 ∉ l ∧ l.head? = some 1 := by
  simp only [numB, Bool.and_eq_true, decide_eq_true_eq] at h
  refine ⟨ascA_nodup l 0 h.1, fun h0 => ?_, h.2⟩
  have := ascA_gt l 0 h.1 0 h0
  omega
theorem check_keeps {a : TAccount} (h : checkA a = 0) : okAll a.Credit a.Subs = true ∧ (lastE a).Number = a.Entries.length ∧ 0 ≤ (lastE a).Day ∧ (lastE a).Day ≤ 36000 := by
  obtain ⟨_, _, h3, _, h5⟩ := check_ok h
  obtain ⟨a1, _, a3, a4, a5⟩ := replayS_keeps a.Credit a.Entries 0 0 (zeroS a.Subs) _ (zeroS_all h3.1 _) h5
  exact ⟨a1, by simpa using a3, a4, a5 (by omega)⟩
set_option maxHeartbeats 1000000 in
theorem check23_pf (a : TAccount) (hl : a.Subs.length ≤ 100000) (he : a.Entries.length ≤ 100000) : PFun Tryz.prog none none 82 [.agg a.cells] (· = iv (checkA a)) := by
  refine pfun_intro Tryz.func82 rfl (by simp [Tryz.f82]) (by kernel_rfl) ?_
  intro E hP hr hs hW hN
  have cA : a.cells = [iv a.Credit, subsL a.Subs, entsL a.Entries] := rfl
  by_cases c1 : 20 < a.Subs.length
  · have d1 : decide ((20 : Int) < a.Subs.length) = true := by simp; omega
    have : checkA a = 3 := by rw [checkA, if_pos (.inl c1)]
    simp -dsimp -implicitDefEqProofs [-getElem?_pos, go_sem, hP, cA, d1, this]
  have d1 : decide ((20 : Int) < a.Subs.length) = false := by simp; omega
  by_cases c2 : 400 < a.Entries.length
  · have d2 : decide ((400 : Int) < a.Entries.length) = true := by simp; omega
    have : checkA a = 3 := by rw [checkA, if_pos (.inr c2)]
    simp -dsimp -implicitDefEqProofs [-getElem?_pos, go_sem, hP, cA, d1, d2, this]
  have d2 : decide ((400 : Int) < a.Entries.length) = false := by simp; omega
  simp -dsimp -implicitDefEqProofs [-getElem?_pos, go_sem, hP, cA, d1, d2]
  have pl := plain_pf a hl
  rw [cA] at pl
  refine callB_is (pl.lift _ _) hP en_132 (by simp only [List.mem_singleton, forall_eq]; rw [← cA]; exact imm_acc a) .sc ?_
  by_cases c3 : (vB a.Credit && numB (ids a.Subs)) = true
  rotate_left
  · have : checkA a = 62 := by
      rw [checkA, if_neg (by omega), if_pos]
      cases h1 : vB a.Credit <;> cases h2 : numB (ids a.Subs) <;> simp [h1, h2] at c3 ⊢
    have c3 : (vB a.Credit && numB (ids a.Subs)) = false := by simpa using c3
    simp -dsimp -implicitDefEqProofs [-getElem?_pos, go_sem, hP, c3, this]
  simp only [Bool.and_eq_true] at c3
  obtain ⟨c3, c4⟩ := c3
  have hcr : 0 ≤ a.Credit ∧ a.Credit ≤ 1000000000000 := by simpa [vB, amongB] using c3
  obtain ⟨hnd, hz0, hhd⟩ := numB_facts c4
  have hchk : checkA a = (replayS a.Credit 0 0 (zeroS a.Subs) a.Entries).elim 62 (fun r => if r.2.2 = a.Subs then 0 else 62) := by
    rw [checkA, if_neg (by omega), if_neg (by simp [c3, c4])]
    cases replayS a.Credit 0 0 (zeroS a.Subs) a.Entries <;> rfl
  simp -dsimp -implicitDefEqProofs [-getElem?_pos, go_sem, hP, c3, c4]
  obtain ⟨I, hI⟩ : ∃ I : Nat → St → Prop, I = fun m s => ∃ (k : Nat), k ≤ a.Entries.length ∧ m = a.Entries.length - k ∧ (∀ e, e ∈ a.Entries.take k → amongB e.Day 0 36000 = true) ∧ s.t 1 = .ref 0 0 0 ∧ s.t 23 = entsL a.Entries ∧ s.t 24 = iv a.Entries.length ∧ s.t 25 = iv k ∧ s.H[0]? = some (some ⟨28, 3, [a.cells]⟩) := ⟨_, rfl⟩
  refine aloop0 I (a.Entries.length) (by rw [hN]; rfl) ?_ ?_
  · rw [hI]
    exact ⟨0, by omega, by omega, by simp, by simp -dsimp -implicitDefEqProofs [-getElem?_pos, go_sem], by simp -dsimp -implicitDefEqProofs [-getElem?_pos, go_sem], by simp -dsimp -implicitDefEqProofs [-getElem?_pos, go_sem], by simp -dsimp -implicitDefEqProofs [-getElem?_pos, go_sem], by simp -dsimp -implicitDefEqProofs [-getElem?_pos, go_sem, cA]⟩
  intro m s hs'
  rw [hI] at hs'
  obtain ⟨k, hk, hm, hdays, t1, t23, t24, t25, hA⟩ := hs'
  have hlt0 := (List.getElem?_eq_some_iff.1 hA).1
  simp -dsimp -implicitDefEqProofs [-getElem?_pos, go_sem, hP, t24, t25]
  refine condP (fun h => ?_) (fun h => ?_)
  · have hk : k < a.Entries.length := by simpa using h
    obtain ⟨e, hee⟩ : ∃ e, a.Entries[k]? = some e := ⟨_, List.getElem?_eq_getElem hk⟩
    have wk := wrap_in ((k : Int) + 1) (by omega)
    have e1 : a.Entries.take (k + 1) = a.Entries.take k ++ [e] := by rw [List.take_add_one, hee]; rfl
    simp -dsimp -implicitDefEqProofs [-getElem?_pos, go_sem, hP, t23, t25, hee, TEntry.cells]
    refine callB_pure (day23_pf e.Day) hP en_133 (args_same (by simp -dsimp -implicitDefEqProofs [-getElem?_pos, go_sem])) .sc ?_
    by_cases c5 : amongB e.Day 0 36000 = true
    · simp -dsimp -implicitDefEqProofs [-getElem?_pos, go_sem, hP, c5, t25, wk]
      refine ⟨a.Entries.length - (k + 1), by omega, ?_⟩
      rw [hI]
      refine ⟨k + 1, by omega, rfl, fun x hx => ?_, by simp -dsimp -implicitDefEqProofs [-getElem?_pos, go_sem, t1], by simp -dsimp -implicitDefEqProofs [-getElem?_pos, go_sem, t23], by simp -dsimp -implicitDefEqProofs [-getElem?_pos, go_sem, t24], by simp -dsimp -implicitDefEqProofs [-getElem?_pos, go_sem], by simp -dsimp -implicitDefEqProofs [-getElem?_pos, go_sem, hlt0, hA]⟩
      rw [e1, List.mem_append] at hx
      rcases hx with hx | hx
      · exact hdays x hx
      · simp at hx; subst hx; exact c5
    · have : checkA a = 62 := by
        rw [hchk]
        cases hr : replayS a.Credit 0 0 (zeroS a.Subs) a.Entries with
        | none => rfl
        | some r => exact absurd (amongB_iff.2 (replayS_days _ _ _ _ _ _ (Int.le_refl _) hr e (List.mem_of_getElem? hee))) c5
      simp -dsimp -implicitDefEqProofs [-getElem?_pos, go_sem, hP, c5, this]
  have hk : k = a.Entries.length := by simp at h; omega
  subst hk
  rw [List.take_length] at hdays
  have htw : a.Entries.takeWhile (early 36000) = a.Entries := by
    refine takeWhile_all _ _ fun e he => ?_
    have := amongB_iff.1 (hdays e he)
    simpa [early] using this.2
  have up := until_pf a 36000 hl he hcr hnd hz0
  rw [untilR, htw, cA] at up
  have tk : ([iv a.Credit, subsL a.Subs, entsL a.Entries] : List AV).take 3 = [iv a.Credit, subsL a.Subs, entsL a.Entries] := rfl
  simp -dsimp -implicitDefEqProofs [-getElem?_pos, go_sem, hP, t1, hA, cA]
  refine callB_is (up.lift _ _) hP en_134 (by simp only [List.mem_cons, List.not_mem_nil, or_false, forall_eq_or_imp, forall_eq]; rw [← cA]; exact ⟨imm_acc a, .sc⟩) (imm_pair (imm_subs _) .sc) ?_
  rcases runE_replay a.Credit a.Entries zeroE (zeroS a.Subs) with ⟨r, hr, hrun⟩ | ⟨hr, hrun1, hrun2⟩
  rotate_left
  · rw [show zeroE.Number = 0 from rfl, show zeroE.Day = 0 from rfl] at hr
    have : checkA a = 62 := by rw [hchk, hr]; rfl
    simp -dsimp -implicitDefEqProofs [-getElem?_pos, go_sem, hP, hrun2, this]
  rw [show zeroE.Number = 0 from rfl, show zeroE.Day = 0 from rfl] at hr
  have hids := (replayS_keeps a.Credit a.Entries 0 0 (zeroS a.Subs) r (zeroS_all hcr.1 _) hr).2.1
  rw [zeroS_ids] at hids
  rw [hr] at hchk
  obtain ⟨l, hlr⟩ : ∃ l, l = r.2.2 := ⟨_, rfl⟩
  rw [← hlr] at hids
  have hll : l.length = a.Subs.length := by rw [← ids_len l, hids, ids_len]
  have hchk : checkA a = if l = a.Subs then 0 else 62 := by rw [hchk, hlr]; rfl
  rw [hrun, ← hlr]
  simp -dsimp -implicitDefEqProofs [-getElem?_pos, go_sem, hP, hlt0, hA, t1, cA]
  obtain ⟨J, hJ⟩ : ∃ I : Nat → St → Prop, I = fun m s => ∃ (k : Nat), k ≤ a.Subs.length ∧ m = a.Subs.length - k ∧ l.take k = a.Subs.take k ∧ s.t 5 = subsL l ∧ s.t 42 = subsL a.Subs ∧ s.t 43 = iv a.Subs.length ∧ s.t 44 = iv k := ⟨_, rfl⟩
  refine aloop0 J (a.Subs.length) (by rw [hN]; rfl) ?_ ?_
  · rw [hJ]
    exact ⟨0, by omega, by omega, by simp, by simp -dsimp -implicitDefEqProofs [-getElem?_pos, go_sem], by simp -dsimp -implicitDefEqProofs [-getElem?_pos, go_sem], by simp -dsimp -implicitDefEqProofs [-getElem?_pos, go_sem], by simp -dsimp -implicitDefEqProofs [-getElem?_pos, go_sem]⟩
  clear t1 t23 t24 t25 hA hlt0
  intro m s hs'
  rw [hJ] at hs'
  obtain ⟨k, hk, hm, htk, t5, t42, t43, t44⟩ := hs'
  simp -dsimp -implicitDefEqProofs [-getElem?_pos, go_sem, hP, t43, t44]
  refine condP (fun h => ?_) (fun h => ?_)
  · have hk : k < a.Subs.length := by simpa using h
    obtain ⟨x, hx⟩ : ∃ x, a.Subs[k]? = some x := ⟨_, List.getElem?_eq_getElem hk⟩
    obtain ⟨y, hy⟩ : ∃ y, l[k]? = some y := ⟨_, List.getElem?_eq_getElem (by omega)⟩
    have wk := wrap_in ((k : Int) + 1) (by omega)
    have e1 : a.Subs.take (k + 1) = a.Subs.take k ++ [x] := by rw [List.take_add_one, hx]; rfl
    have e2 : l.take (k + 1) = l.take k ++ [y] := by rw [List.take_add_one, hy]; rfl
    simp -dsimp -implicitDefEqProofs [-getElem?_pos, go_sem, hP, t42, t44, hx, TSub.cells]
    refine adrawB (fun _ => true) [] hP (by kernel_rfl) (by kernel_rfl) ?_
    by_cases hxy : y = x
    · subst hxy
      simp -dsimp -implicitDefEqProofs [-getElem?_pos, go_sem, hP, t5, hy, TSub.cells, t44, wk]
      refine ⟨a.Subs.length - (k + 1), by omega, ?_⟩
      rw [hJ]
      exact ⟨k + 1, by omega, rfl, by rw [e1, e2, htk], by simp -dsimp -implicitDefEqProofs [-getElem?_pos, go_sem, t5], by simp -dsimp -implicitDefEqProofs [-getElem?_pos, go_sem, t42], by simp -dsimp -implicitDefEqProofs [-getElem?_pos, go_sem, t43], by simp -dsimp -implicitDefEqProofs [-getElem?_pos, go_sem]⟩
    · have hne : ¬ l = a.Subs := fun h => by
        rw [h, hx] at hy
        exact hxy (Option.some.inj hy).symm
      rw [if_neg hne] at hchk
      simp -dsimp -implicitDefEqProofs [-getElem?_pos, go_sem, hP, t5, hy, TSub.cells]
      refine condP (fun h => ?_) (fun h => ?_)
      · simp -dsimp -implicitDefEqProofs [-getElem?_pos, go_sem, hP, hchk]
      · exact absurd (by cases x; cases y; simp at h; simp [h]) hxy
  · have hk : k = a.Subs.length := by simp at h; omega
    subst hk
    rw [List.take_length, ← hll, List.take_length] at htk
    rw [if_pos htk] at hchk
    simp -dsimp -implicitDefEqProofs [-getElem?_pos, go_sem, hP, hchk]
open Go.PA
open Go.RowKit
def Grown (n : Nat) (H : Heap) (x : AV) (ty : TypeId) (k : Nat) (es : List (List AV)) : Prop := (x = .nil ∧ es = []) ∨ ∃ id, n ≤ id ∧ x = .sref id 0 es.length ∧ H[id]? = some (some ⟨ty, k, es⟩)
theorem Grown.cw {n : Nat} {H : Heap} {x : AV} {ty : TypeId} {k : Nat} {es : List (List AV)} {xs ys : List AV} (h : Grown n H x ty k es) (hi : Imm (.list k es)) (t : CW H xs ys) : CW H (x :: xs) (.list k es :: ys) := by
  rcases h with ⟨rfl, rfl⟩ | ⟨id, _, rfl, h⟩
  · exact cw_nil t
  · exact cw_sref h rfl hi t
theorem Grown.cellish {n : Nat} {H : Heap} {x : AV} {ty : TypeId} {k : Nat} {es : List (List AV)} (h : Grown n H x ty k es) : x.cellish = true := by
  rcases h with ⟨rfl, rfl⟩ | ⟨id, _, rfl, h⟩ <;> rfl
theorem Grown.kept {n : Nat} {H H' : Heap} {x : AV} {ty : TypeId} {k : Nat} {es : List (List AV)} {X : List Nat} (h : Grown n H x ty k es) (hk : Kept X H H') (hX : ∀ i, i ∈ X → i < n) : Grown n H' x ty k es := by
  rcases h with ⟨rfl, rfl⟩ | ⟨id, hn, rfl, h⟩
  · exact .inl ⟨rfl, rfl⟩
  · refine .inr ⟨id, hn, rfl, hk _ _ (fun hi => ?_) h⟩
    have := hX id hi
    omega
end Go.Proofs.YtpjecipdklcjbaaGreatDoor
