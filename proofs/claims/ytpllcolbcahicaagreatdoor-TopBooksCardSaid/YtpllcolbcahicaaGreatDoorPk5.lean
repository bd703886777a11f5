/- Several texts of this claim, joined: PaArg Args ArgsUse CardLibTb Led1 Led2 Led3 LedOf LedP LedNet Acc1 AccLib Acc2 Acc3 Acc4 Grown Acc5. -/
import Derived.Test.YtpllcolbcahicaaGreatDoorPk4
import Derived.ProofKit
import Derived.Below
import Derived.Carry
import Derived.ChangeSame
import Derived.ChangeMaps5
import Derived.ShutString
import Derived.Stop.LaidErr
import Derived.LaidMore
import Derived.Lay
import Derived.SevenTiedAt
import Derived.Stop.Joined
import Derived.Test.YtpllcolbcahicaaGreatDoorCards
import Derived.Test.YtpllcolbcahicaaGreatDoorTie
set_option linter.unusedSimpArgs false
set_option linter.unusedVariables false
namespace Go.PA
open Go.RowKit Go.WideShapes Go.ChangeShapes
mutual
inductive Sh where
  | int (k : IntKind)
  | bool
  | str
  | slice (e : Sh)
  | strct (fs : Fs)
inductive Fs where
  | nil
  | cons (s : Sh) (fs : Fs)
end
mutual
def Sh.size : Sh → Nat
  | .int _ => 1
  | .bool => 1
  | .str => 1
  | .slice _ => 1
  | .strct fs => fs.size
def Fs.size : Fs → Nat
  | .nil => 0
  | .cons s fs => s.size + fs.size
end
mutual
def Sh.ok (P : Program) : Sh → TypeId → Bool
  | .int k, t => decide (P.cellsOf t = 1) && (match P.underlying t with | some (.int k') => decide (k' = k) | _ => false)
  | .bool, t => decide (P.cellsOf t = 1) && (match P.underlying t with | some .bool => true | _ => false)
  | .str, t => decide (P.cellsOf t = 1) && (match P.underlying t with | some .string => true | _ => false)
  | .slice e, t => decide (P.cellsOf t = 1) && decide (0 < e.size) && (match P.underlying t with | some (.slice te) => e.ok P te | _ => false)
  | .strct fs, t => decide (P.cellsOf t = fs.size) && (match P.underlying t with | some (.struct fields) => fs.ok P fields.toList 0 | _ => false)
def Fs.ok (P : Program) : Fs → List Field → Nat → Bool
  | .nil, [], _ => true
  | .cons s fs, f :: l, off => s.ok P f.type && decide (f.offset = off) && fs.ok P l (off + s.size)
  | _, _, _ => false
end
mutual
def Sh.V : Sh → List AV → Prop
  | .int k, as0 => ∃ n, as0 = [.sc (.int k n)] ∧ (Lit.int k n).wf = true
  | .bool, as0 => ∃ b, as0 = [.sc (.bool b)]
  | .str, as0 => ∃ s : ByteArray, as0 = [.sc (.string s)] ∧ s.size ≤ maxLen
  | .slice e, as0 => ∃ es : List (List AV), as0 = [.list e.size es] ∧ es.length ≤ maxLen ∧ ∀ x, x ∈ es → e.V x
  | .strct fs, as0 => fs.V as0
def Fs.V : Fs → List AV → Prop
  | .nil, as0 => as0 = []
  | .cons s fs, as0 => ∃ x y, as0 = x ++ y ∧ s.V x ∧ fs.V y
end
theorem Sh.ok_size (P : Program) (s : Sh) (t : TypeId) (h : s.ok P t = true) : P.cellsOf t = s.size := by
  cases s <;> simp only [Sh.ok, Bool.and_eq_true, decide_eq_true_eq] at h <;> simp only [Sh.size] <;> first | exact h.1 | exact h.1.1
def Reps (w : World) (cs : List Value) (as0 : List AV) : Prop := ∀ (i : Nat) (c : Value) (a : AV), cs[i]? = some c → as0[i]? = some a → RepI w (fun b => b < w.heap.size) c a ∧ c.oneCell' = true
theorem reps_one {w : World} {c : Value} {a : AV} (h : RepI w (fun b => b < w.heap.size) c a) (h1 : c.oneCell' = true) : Reps w [c] [a] := fun i c' a' hc ha => by
  rcases i with _ | i
  · simp at hc ha
    subst hc; subst ha
    exact ⟨h, h1⟩
  · simp at hc
theorem cell_in {w : World} {a : Addr} {v : Value} (h : w.cell? a = some v) : a.block < w.heap.size := by
  simp only [World.cell?] at h
  split at h
  · rename_i hb
    exact (Array.getElem?_eq_some_iff.1 hb).1
  · cases h
theorem list_choice {α : Type} (n : Nat) (p : Nat → α → Prop) (h : ∀ i, i < n → ∃ a, p i a) : ∃ l : List α, l.length = n ∧ ∀ i a, l[i]? = some a → p i a := by
  induction n with
  | zero => exact ⟨[], rfl, by simp⟩
  | succ n ih =>
    obtain ⟨l, h1, h2⟩ := ih fun i hi => h i (by omega)
    obtain ⟨a, ha⟩ := h n (by omega)
    refine ⟨l ++ [a], by simp [h1], fun i b hb => ?_⟩
    by_cases hi : i < n
    · rw [List.getElem?_append_left (by omega)] at hb
      exact h2 i b hb
    · have : i = n := by
        have := (List.getElem?_eq_some_iff.1 hb).1
        simp at this
        omega
      subst this
      rw [List.getElem?_append_right (by omega)] at hb
      simp [h1] at hb
      subst hb
      exact ha
section
variable {H : Type} {enc : TypeId × Value → H} {P : Program} {w : World} {base : Nat} {spare : Nat → Bool} {held : Bool}
mutual
theorem Sh.rep : ∀ (s : Sh) (t : TypeId) (fuel : Nat) (cs : List Value) (x : DataW H × List MemPlace), s.ok P t = true → DataW.trod enc P w base spare held fuel t cs = some x →
    ∃ as0, s.V as0 ∧ as0.length = s.size ∧ cs.length = s.size ∧ Reps w cs as0
  | .int k, t, fuel, cs, x, hs, h => by
    simp only [Sh.ok, Bool.and_eq_true, decide_eq_true_eq] at hs
    obtain ⟨_, hs⟩ := hs
    split at hs
    · rename_i k' hu
      have := of_decide_eq_true hs
      subst this
      obtain ⟨n, rfl, _, hw⟩ := DataW.trod_int hu h
      exact ⟨[.sc (.int k' n)], ⟨n, rfl, hw⟩, rfl, rfl, reps_one .sc rfl⟩
    · cases hs
  | .bool, t, fuel, cs, x, hs, h => by
    simp only [Sh.ok, Bool.and_eq_true, decide_eq_true_eq] at hs
    obtain ⟨_, hs⟩ := hs
    split at hs
    · rename_i hu
      obtain ⟨b, rfl, _⟩ := DataW.trod_bool hu h
      exact ⟨[.sc (.bool b)], ⟨b, rfl⟩, rfl, rfl, reps_one .sc rfl⟩
    · cases hs
  | .str, t, fuel, cs, x, hs, h => by
    simp only [Sh.ok, Bool.and_eq_true, decide_eq_true_eq] at hs
    obtain ⟨_, hs⟩ := hs
    split at hs
    · rename_i hu
      obtain ⟨b, rfl, _, hl⟩ := DataW.trod_string hu h
      exact ⟨[.sc (.string b)], ⟨b, rfl, hl⟩, rfl, rfl, reps_one .sc rfl⟩
    · cases hs
  | .slice e, t, fuel, cs, x, hs, h => by
    simp only [Sh.ok, Bool.and_eq_true, decide_eq_true_eq] at hs
    obtain ⟨⟨_, hpos⟩, hs⟩ := hs
    split at hs
    · rename_i te hu
      have hsz := Sh.ok_size P e te hs
      rcases DataW.trod_slice hu h with ⟨rfl, _⟩ | ⟨a, len, cap, elems, rest, n, _, rfl, _, hb, hl, hm, hlen, hel, _, _⟩
      · exact ⟨[.list e.size []], ⟨[], rfl, by simp, by simp⟩, rfl, rfl, reps_one .listNil rfl⟩
      rcases Nat.eq_zero_or_pos len with h0 | h0
      · subst h0
        exact ⟨[.list e.size []], ⟨[], rfl, by simp, by simp⟩, rfl, rfl, reps_one .listNil rfl⟩
      obtain ⟨es, hes, hp⟩ := list_choice len (fun i (as0 : List AV) => ∃ cs', w.cells? base (a.add (i * e.size)) e.size = some cs' ∧ e.V as0 ∧ as0.length = e.size ∧ Reps w cs' as0) fun i hi => by
        have hi' : i < elems.length := by omega
        have := hel i hi
        rw [List.getElem?_eq_getElem hi', Option.bind_eq_some_iff, hsz] at this
        obtain ⟨cs', h1, h2⟩ := this
        obtain ⟨as0, h3, h4, h5, h6⟩ := Sh.rep e te n cs' _ hs h2
        exact ⟨as0, cs', h1, h3, h4, h6⟩
      have cells : ∀ (i : Nat) (x : List AV) (j : Nat) (b : AV), es[i]? = some x → x[j]? = some b → ∃ c, w.cell? (a.add (i * e.size + j)) = some c ∧ RepI w (fun b => b < w.heap.size) c b ∧ c.oneCell' = true := fun i x j b hx hj => by
        obtain ⟨cs', h1, h3, h4, h6⟩ := hp i x hx
        obtain ⟨_, hl', hc⟩ := World.cells?_some h1
        have hj' := (List.getElem?_eq_some_iff.1 hj).1
        have hcj : cs'[j]? = some (cs'[j]'(by omega)) := List.getElem?_eq_getElem (by omega)
        obtain ⟨r1, r2⟩ := h6 j _ b hcj hj
        refine ⟨_, ?_, r1, r2⟩
        have := hc j (by omega)
        rw [add_add, hcj] at this
        exact this
      have hblk : a.block < w.heap.size := by
        obtain ⟨cs', h1, h3, h4, h6⟩ := hp 0 (es[0]'(by omega)) (List.getElem?_eq_getElem (by omega))
        obtain ⟨_, hl', hc⟩ := World.cells?_some h1
        have := hc 0 hpos
        rw [List.getElem?_eq_getElem (by omega)] at this
        have := cell_in this
        rw [block_add, block_add] at this
        exact this
      refine ⟨[.list e.size es], ⟨es, rfl, by omega, fun x hx => ?_⟩, rfl, rfl, reps_one ?_ rfl⟩
      · obtain ⟨i, hi⟩ := List.getElem?_of_mem hx
        obtain ⟨_, _, h3, _⟩ := hp i x hi
        exact h3
      · refine .list (fun i j => (w.cell? (a.add (i * e.size + j))).getD undef) hes hl hblk (fun x hx => ?_) ?_ ?_ ?_
        · obtain ⟨i, hi⟩ := List.getElem?_of_mem hx
          obtain ⟨_, _, _, h4, _⟩ := hp i x hi
          exact h4
        · intro i x j b hx hj
          obtain ⟨c, h1, _⟩ := cells i x j b hx hj
          rw [h1]; rfl
        · intro i x j b hx hj
          obtain ⟨c, h1, _, h3⟩ := cells i x j b hx hj
          rw [h1]; exact h3
        · intro i x j b hx hj
          obtain ⟨c, h1, h2, _⟩ := cells i x j b hx hj
          rw [h1]; exact h2
    · cases hs
  | .strct fs, t, fuel, cs, x, hs, h => by
    simp only [Sh.ok, Bool.and_eq_true, decide_eq_true_eq] at hs
    obtain ⟨hc, hs⟩ := hs
    split at hs
    · rename_i fields hu
      obtain ⟨xs, n, _, _, hl, hxl, hf⟩ := DataW.trod_struct hu h
      obtain ⟨as0, h1, h2, h3⟩ := Fs.rep fs fields.toList 0 n cs xs hs (by simp [hxl]) (by rw [hl, hc]; simp) fun i f hi => hf i f (by simpa using hi)
      refine ⟨as0, h1, h2, by rw [hl, hc]; rfl, fun i c a hci ha => h3 i c a (by simpa using hci) ha⟩
    · cases hs
theorem Fs.rep : ∀ (fs : Fs) (fields : List Field) (off n : Nat) (cs : List Value) (xs : List (DataW H × List MemPlace)), fs.ok P fields off = true → xs.length = fields.length → cs.length = off + fs.size →
    (∀ (i : Nat) (f : Field), fields[i]? = some f → DataW.trod enc P w base spare held n f.type ((cs.drop f.offset).take (P.cellsOf f.type)) = xs[i]?) →
    ∃ as0, fs.V as0 ∧ as0.length = fs.size ∧ ∀ (i : Nat) (c : Value) (a : AV), cs[off + i]? = some c → as0[i]? = some a → RepI w (fun b => b < w.heap.size) c a ∧ c.oneCell' = true
  | .nil, fields, off, n, cs, xs, hs, hxl, hcl, hf => ⟨[], rfl, rfl, fun i c a hc ha => by simp at ha⟩
  | .cons s fs, [], off, n, cs, xs, hs, hxl, hcl, hf => by simp [Fs.ok] at hs
  | .cons s fs, f :: l, off, n, cs, [], hs, hxl, hcl, hf => by simp at hxl
  | .cons s fs, f :: l, off, n, cs, y :: xs, hs, hxl, hcl, hf => by
    simp only [Fs.ok, Bool.and_eq_true, decide_eq_true_eq] at hs
    obtain ⟨⟨h1, h2⟩, h3⟩ := hs
    have hsz := Sh.ok_size P s f.type h1
    have h0 := hf 0 f rfl
    rw [h2, hsz] at h0
    simp only [List.getElem?_cons_zero] at h0
    obtain ⟨as0, a1, a2, a3, a4⟩ := Sh.rep s f.type n _ _ h1 h0
    simp only [Fs.size] at hcl
    obtain ⟨bs, b1, b2, b3⟩ := Fs.rep fs l (off + s.size) n cs xs h3 (by simpa using hxl) (by omega) fun i g hi => by
      have := hf (i + 1) g (by simpa using hi)
      simpa using this
    refine ⟨as0 ++ bs, ⟨as0, bs, rfl, a1, b1⟩, by simp [a2, b2, Fs.size], fun i c a hc ha => ?_⟩
    by_cases hi : i < s.size
    · rw [List.getElem?_append_left (by omega)] at ha
      refine a4 i c a ?_ ha
      rw [List.getElem?_take, if_pos hi, List.getElem?_drop]
      exact hc
    · rw [List.getElem?_append_right (by omega)] at ha
      refine b3 (i - s.size) c a ?_ (by rw [← a2]; exact ha)
      rw [← hc]
      congr 1
      omega
end
def Sh.A (s : Sh) (a : AV) : Prop := match s with
  | .strct fs => ∃ cs, a = .agg cs ∧ fs.V cs
  | s => s.V [a]
theorem arg_rep {s : Sh} {t : TypeId} {r : Reach} {b0 : Nat} {v : Value} {d : DataW H} {ps : List MemPlace} (hs : s.ok P t = true) (hval : Value.okWide P w r b0 t v) (h : DataW.Trod enc P w base spare held t v d ps) :
    ∃ a, s.A a ∧ RepI w (fun b => b < w.heap.size) v a := by
  have h' := h
  obtain ⟨fuel, hf⟩ := h
  obtain ⟨as0, h1, h2, h3, h4⟩ := Sh.rep s t fuel _ _ hs hf
  have scal : s.size = 1 → v.cells.toList = [v] → ∃ a, s.V [a] ∧ RepI w (fun b => b < w.heap.size) v a := fun e hv => by
    rw [e] at h2
    match as0, h2 with
    | [a], _ =>
      rw [hv] at h4
      exact ⟨a, h1, (h4 0 _ _ rfl rfl).1⟩
  cases s with
  | strct fs =>
    unfold Value.okWide at hval
    simp only [Sh.ok, Bool.and_eq_true, decide_eq_true_eq] at hs
    obtain ⟨_, hs⟩ := hs
    split at hs
    · rename_i fields hu
      rw [hu] at hval
      obtain ⟨cs, rfl, _⟩ := hval
      refine ⟨.agg as0, ⟨as0, rfl, h1⟩, .agg ?_ fun i c a hc ha => (h4 i c a ?_ ha).1⟩
      · simp only [Value.cells, Array.length_toList] at h3
        omega
      · simpa [Value.cells] using hc
    · cases hs
  | int k =>
    simp only [Sh.ok, Bool.and_eq_true, decide_eq_true_eq] at hs
    obtain ⟨_, hs⟩ := hs
    split at hs
    · rename_i hu
      obtain ⟨m, rfl, _⟩ := open_int hu hval h'
      exact scal rfl rfl
    · cases hs
  | bool =>
    simp only [Sh.ok, Bool.and_eq_true, decide_eq_true_eq] at hs
    obtain ⟨_, hs⟩ := hs
    split at hs
    · rename_i hu
      obtain ⟨m, rfl, _⟩ := open_bool hu hval h'
      exact scal rfl rfl
    · cases hs
  | str =>
    simp only [Sh.ok, Bool.and_eq_true, decide_eq_true_eq] at hs
    obtain ⟨_, hs⟩ := hs
    split at hs
    · rename_i hu
      obtain ⟨s, hv, _⟩ := DataW.trod_string hu hf
      refine scal rfl ?_
      obtain ⟨s', rfl⟩ := okWide_string hu hval
      rfl
    · cases hs
  | slice e =>
    simp only [Sh.ok, Bool.and_eq_true, decide_eq_true_eq] at hs
    obtain ⟨_, hs⟩ := hs
    split at hs
    · rename_i te hu
      obtain ⟨A, n, c, rfl⟩ := okWide_slice hu hval
      exact scal rfl rfl
    · cases hs
def ShsA : List Sh → List AV → Prop
  | [], [] => True
  | s :: ss, a :: as0 => s.A a ∧ ShsA ss as0
  | _, _ => False
theorem shsA_cons {s : Sh} {ss : List Sh} {l : List AV} (h : ShsA (s :: ss) l) : ∃ a l', l = a :: l' ∧ s.A a ∧ ShsA ss l' := by
  cases l with
  | nil => exact h.elim
  | cons a l => exact ⟨a, l, rfl, h.1, h.2⟩
theorem shsA_nil {l : List AV} (h : ShsA [] l) : l = [] := by
  cases l with
  | nil => rfl
  | cons a l => exact h.elim
def ShsOk (P : Program) : List Sh → List TypeId → Bool
  | [], [] => true
  | s :: ss, t :: ts => s.ok P t && (P.readableRec t && decide (t < P.types.size)) && ShsOk P ss ts
  | _, _ => false
theorem args_rep {r : Reach} {b0 : Nat} : ∀ (ss : List Sh) (ts : List TypeId) (vs : List Value) (ds : List (DataW H)) (ps : List MemPlace), ShsOk P ss ts = true → (∀ (j : Nat) (t : TypeId) (v : Value), ts[j]? = some t → vs[j]? = some v → Value.okWide P w r b0 t v) →
    DataW.TrodAll enc P w base spare held ts vs ds ps → ∃ as0, ShsA ss as0 ∧ as0.length = vs.length ∧ ∀ (i : Nat) (v : Value) (a : AV), vs[i]? = some v → as0[i]? = some a → RepI w (fun b => b < w.heap.size) v a
  | [], [], vs, ds, ps, _, _, h => by
    obtain ⟨rfl, _, _⟩ := trodAll_nil h
    exact ⟨[], trivial, rfl, fun i v a hv => by simp at hv⟩
  | [], t :: ts, vs, ds, ps, hs, _, h => by simp [ShsOk] at hs
  | s :: ss, [], vs, ds, ps, hs, _, h => by simp [ShsOk] at hs
  | s :: ss, t :: ts, vs, ds, ps, hs, hval, h => by
    simp only [ShsOk, Bool.and_eq_true, decide_eq_true_eq] at hs
    match vs, ds, h with
    | v :: vs, d :: ds, ⟨p, q, h1, h2, _⟩ =>
      obtain ⟨a, a1, a2⟩ := arg_rep hs.1.1 (hval 0 t v rfl rfl) h1
      obtain ⟨as0, b1, b2, b3⟩ := args_rep ss ts vs ds q hs.2 (fun j t v ht hv => hval (j + 1) t v (by simpa using ht) (by simpa using hv)) h2
      refine ⟨a :: as0, ⟨a1, b1⟩, by simp [b2], fun i v' a' hv ha => ?_⟩
      rcases i with _ | i
      · simp at hv ha
        subst hv; subst ha
        exact a2
      · exact b3 i v' a' (by simpa using hv) (by simpa using ha)
theorem trodAll_stays (hl : laidOutB P = true) {W W' : World} {sp : Nat → Bool} : ∀ (ss : List Sh) (ts : List TypeId) (vs : List Value) (ds : List (DataW H)) (ps : List MemPlace), ShsOk P ss ts = true → DataW.TrodAll enc P W 0 (fun _ => true) true ts vs ds ps →
    (∀ p ∈ ps, W.sameAt W' p) → (∀ p ∈ ps, sp p.block = true) → DataW.TrodAll enc P W' 0 sp true ts vs ds ps
  | [], [], vs, ds, ps, _, h, _, _ => by
    obtain ⟨rfl, rfl, rfl⟩ := trodAll_nil h
    exact rfl
  | [], t :: ts, vs, ds, ps, hs, h, _, _ => by simp [ShsOk] at hs
  | s :: ss, [], vs, ds, ps, hs, h, _, _ => by simp [ShsOk] at hs
  | s :: ss, t :: ts, vs, ds, ps, hs, h, hsame, hsp => by
    simp only [ShsOk, Bool.and_eq_true, decide_eq_true_eq] at hs
    match vs, ds, h with
    | v :: vs, d :: ds, ⟨p, q, h1, h2, hp⟩ =>
      subst hp
      exact ⟨p, q, WideElems.Trod_stays hl hs.1.2.1 hs.1.2.2 h1 (fun x hx => hsame x (by simp [hx])) (fun x hx => hsp x (by simp [hx])),
        trodAll_stays hl ss ts vs ds q hs.2 h2 (fun x hx => hsame x (by simp [hx])) (fun x hx => hsp x (by simp [hx])), rfl⟩
theorem trodAll_dlen : ∀ (ts : List TypeId) (vs : List Value) (ds : List (DataW H)) (ps : List MemPlace), DataW.TrodAll enc P w base spare held ts vs ds ps → ds.length = ts.length
  | [], vs, ds, ps, h => by
    obtain ⟨_, rfl, _⟩ := trodAll_nil h
    rfl
  | t :: ts, vs, ds, ps, h => by
    match vs, ds, h with
    | v :: vs, d :: ds, ⟨p, q, _, h2, _⟩ => simp [trodAll_dlen ts vs ds q h2]
theorem list_len1 {α : Type} {l : List α} (h : l.length = 1) : ∃ a0, l = [a0] := by
  match l, h with
  | [a0], _ => exact ⟨a0, rfl⟩
end
end Go.PA
namespace Go.Proofs.YtpllcolbcahicaaGreatDoor
open Go.PA
open Go.RowKit
def fits (n : Int) : Prop := -9223372036854775808 ≤ n ∧ n ≤ 9223372036854775807
theorem fits_wf {n : Int} (h : (Lit.int .i64 n).wf = true) : fits n := by
  simp only [Lit.wf, Bool.and_eq_true, decide_eq_true_eq] at h
  exact h
theorem of_int (as0 : List AV) (h : (Sh.int .i64).V as0) : ∃ x : Int, as0 = encI x ∧ fits x := by
  obtain ⟨n, rfl, h⟩ := h
  exact ⟨n, rfl, fits_wf h⟩
theorem of_bool (as0 : List AV) (h : Sh.bool.V as0) : ∃ x : Bool, as0 = [bv x] ∧ True := by
  obtain ⟨n, rfl⟩ := h
  exact ⟨n, rfl, trivial⟩
theorem of_str (as0 : List AV) (h : Sh.str.V as0) : ∃ x : ByteArray, as0 = encS x ∧ x.size ≤ maxLen := by
  obtain ⟨n, rfl, h⟩ := h
  exact ⟨n, rfl, h⟩
theorem of_list {α : Type} {enc : α → List AV} {wf : α → Prop} {s : Sh} (h : ∀ as0, s.V as0 → ∃ x : α, as0 = enc x ∧ wf x) : ∀ es : List (List AV), (∀ x, x ∈ es → s.V x) → ∃ l : List α, es = encL enc l ∧ ∀ z, z ∈ l → wf z
  | [], _ => ⟨[], rfl, by simp⟩
  | e :: es, he => by
    obtain ⟨a, rfl, ha⟩ := h e (he e (by simp))
    obtain ⟨l, rfl, hl⟩ := of_list h es fun x hx => he x (List.mem_cons_of_mem _ hx)
    refine ⟨a :: l, rfl, fun z hz => ?_⟩
    rcases List.mem_cons.1 hz with rfl | hz
    · exact ha
    · exact hl z hz
theorem of_slice {α : Type} {enc : α → List AV} {wf : α → Prop} (s : Sh) (h : ∀ as0, s.V as0 → ∃ x : α, as0 = enc x ∧ wf x) (as0 : List AV) (hs : (Sh.slice s).V as0) : ∃ l : List α, as0 = [.list s.size (encL enc l)] ∧ (l.length ≤ maxLen ∧ ∀ z, z ∈ l → wf z) := by
  obtain ⟨es, rfl, hl, he⟩ := hs
  obtain ⟨l, rfl, hw⟩ := of_list h es he
  exact ⟨l, rfl, by simpa [encL] using hl, hw⟩
def TSub.shF : Fs := .cons (.int .i64) <| .cons (.int .i64) <|  .nil
def TSub.wf (x : TSub) : Prop := fits x.ID ∧ fits x.Balance
theorem TSub.of (as0 : List AV) (h : (Sh.strct TSub.shF).V as0) : ∃ x : TSub, as0 = x.cells ∧ x.wf := by
  obtain ⟨_, _, rfl, h0, _, _, rfl, h1, rfl⟩ := h
  obtain ⟨x0, rfl, w0⟩ := of_int _ h0
  obtain ⟨x1, rfl, w1⟩ := of_int _ h1
  exact ⟨⟨x0, x1⟩, rfl, w0, w1⟩
def TEntry.shF : Fs := .cons (.int .i64) <| .cons (.int .i64) <| .cons (.int .i64) <| .cons (.int .i64) <| .cons (.int .i64) <| .cons (.int .i64) <|  .nil
def TEntry.wf (x : TEntry) : Prop := fits x.Number ∧ fits x.Day ∧ fits x.From ∧ fits x.To ∧ fits x.Amount ∧ fits x.Ref
theorem TEntry.of (as0 : List AV) (h : (Sh.strct TEntry.shF).V as0) : ∃ x : TEntry, as0 = x.cells ∧ x.wf := by
  obtain ⟨_, _, rfl, h0, _, _, rfl, h1, _, _, rfl, h2, _, _, rfl, h3, _, _, rfl, h4, _, _, rfl, h5, rfl⟩ := h
  obtain ⟨x0, rfl, w0⟩ := of_int _ h0
  obtain ⟨x1, rfl, w1⟩ := of_int _ h1
  obtain ⟨x2, rfl, w2⟩ := of_int _ h2
  obtain ⟨x3, rfl, w3⟩ := of_int _ h3
  obtain ⟨x4, rfl, w4⟩ := of_int _ h4
  obtain ⟨x5, rfl, w5⟩ := of_int _ h5
  exact ⟨⟨x0, x1, x2, x3, x4, x5⟩, rfl, w0, w1, w2, w3, w4, w5⟩
def TAccount.shF : Fs := .cons (.int .i64) <| .cons (.slice (.strct TSub.shF)) <| .cons (.slice (.strct TEntry.shF)) <|  .nil
def TAccount.wf (x : TAccount) : Prop := fits x.Credit ∧ (x.Subs.length ≤ maxLen ∧ ∀ z, z ∈ x.Subs → z.wf) ∧ (x.Entries.length ≤ maxLen ∧ ∀ z, z ∈ x.Entries → z.wf)
theorem TAccount.of (as0 : List AV) (h : (Sh.strct TAccount.shF).V as0) : ∃ x : TAccount, as0 = x.cells ∧ x.wf := by
  obtain ⟨_, _, rfl, h0, _, _, rfl, h1, _, _, rfl, h2, rfl⟩ := h
  obtain ⟨x0, rfl, w0⟩ := of_int _ h0
  obtain ⟨x1, rfl, w1⟩ := (of_slice (.strct TSub.shF) TSub.of) _ h1
  obtain ⟨x2, rfl, w2⟩ := (of_slice (.strct TEntry.shF) TEntry.of) _ h2
  exact ⟨⟨x0, x1, x2⟩, rfl, w0, w1, w2⟩
def TPosting.shF : Fs := .cons (.int .i64) <| .cons (.int .i64) <| .cons (.int .i64) <| .cons (.int .i64) <| .cons (.int .i64) <| .cons (.int .i64) <| .cons (.int .i64) <| .cons (.int .i64) <|  .nil
def TPosting.wf (x : TPosting) : Prop := fits x.Number ∧ fits x.Day ∧ fits x.Entity ∧ fits x.Debit ∧ fits x.Credit ∧ fits x.Amount ∧ fits x.Partner ∧ fits x.Ref
theorem TPosting.of (as0 : List AV) (h : (Sh.strct TPosting.shF).V as0) : ∃ x : TPosting, as0 = x.cells ∧ x.wf := by
  obtain ⟨_, _, rfl, h0, _, _, rfl, h1, _, _, rfl, h2, _, _, rfl, h3, _, _, rfl, h4, _, _, rfl, h5, _, _, rfl, h6, _, _, rfl, h7, rfl⟩ := h
  obtain ⟨x0, rfl, w0⟩ := of_int _ h0
  obtain ⟨x1, rfl, w1⟩ := of_int _ h1
  obtain ⟨x2, rfl, w2⟩ := of_int _ h2
  obtain ⟨x3, rfl, w3⟩ := of_int _ h3
  obtain ⟨x4, rfl, w4⟩ := of_int _ h4
  obtain ⟨x5, rfl, w5⟩ := of_int _ h5
  obtain ⟨x6, rfl, w6⟩ := of_int _ h6
  obtain ⟨x7, rfl, w7⟩ := of_int _ h7
  exact ⟨⟨x0, x1, x2, x3, x4, x5, x6, x7⟩, rfl, w0, w1, w2, w3, w4, w5, w6, w7⟩
def TLedger.shF : Fs := .cons (.slice (.strct TPosting.shF)) <|  .nil
def TLedger.wf (x : TLedger) : Prop := (x.Postings.length ≤ maxLen ∧ ∀ z, z ∈ x.Postings → z.wf)
theorem TLedger.of (as0 : List AV) (h : (Sh.strct TLedger.shF).V as0) : ∃ x : TLedger, as0 = x.cells ∧ x.wf := by
  obtain ⟨_, _, rfl, h0, rfl⟩ := h
  obtain ⟨x0, rfl, w0⟩ := (of_slice (.strct TPosting.shF) TPosting.of) _ h0
  exact ⟨⟨x0⟩, rfl, w0⟩
def TClaim.shF : Fs := .cons (.int .i64) <| .cons (.int .i64) <| .cons (.int .i64) <| .cons (.int .i64) <| .cons (.int .i64) <| .cons (.str) <|  .nil
def TClaim.wf (x : TClaim) : Prop := fits x.ID ∧ fits x.Payer ∧ fits x.Amount ∧ fits x.Open ∧ fits x.Day ∧ x.Code.size ≤ maxLen
theorem TClaim.of (as0 : List AV) (h : (Sh.strct TClaim.shF).V as0) : ∃ x : TClaim, as0 = x.cells ∧ x.wf := by
  obtain ⟨_, _, rfl, h0, _, _, rfl, h1, _, _, rfl, h2, _, _, rfl, h3, _, _, rfl, h4, _, _, rfl, h5, rfl⟩ := h
  obtain ⟨x0, rfl, w0⟩ := of_int _ h0
  obtain ⟨x1, rfl, w1⟩ := of_int _ h1
  obtain ⟨x2, rfl, w2⟩ := of_int _ h2
  obtain ⟨x3, rfl, w3⟩ := of_int _ h3
  obtain ⟨x4, rfl, w4⟩ := of_int _ h4
  obtain ⟨x5, rfl, w5⟩ := of_str _ h5
  exact ⟨⟨x0, x1, x2, x3, x4, x5⟩, rfl, w0, w1, w2, w3, w4, w5⟩
def TClosing.shF : Fs := .cons (.int .i64) <| .cons (.int .i64) <| .cons (.int .i64) <| .cons (.slice (.strct TClaim.shF)) <|  .nil
def TClosing.wf (x : TClosing) : Prop := fits x.Interest ∧ fits x.Unpaid ∧ fits x.Prepaid ∧ (x.Claims.length ≤ maxLen ∧ ∀ z, z ∈ x.Claims → z.wf)
theorem TClosing.of (as0 : List AV) (h : (Sh.strct TClosing.shF).V as0) : ∃ x : TClosing, as0 = x.cells ∧ x.wf := by
  obtain ⟨_, _, rfl, h0, _, _, rfl, h1, _, _, rfl, h2, _, _, rfl, h3, rfl⟩ := h
  obtain ⟨x0, rfl, w0⟩ := of_int _ h0
  obtain ⟨x1, rfl, w1⟩ := of_int _ h1
  obtain ⟨x2, rfl, w2⟩ := of_int _ h2
  obtain ⟨x3, rfl, w3⟩ := (of_slice (.strct TClaim.shF) TClaim.of) _ h3
  exact ⟨⟨x0, x1, x2, x3⟩, rfl, w0, w1, w2, w3⟩
def TBalance.shF : Fs := .cons (.int .i64) <| .cons (.int .i64) <|  .nil
def TBalance.wf (x : TBalance) : Prop := fits x.Account ∧ fits x.Amount
theorem TBalance.of (as0 : List AV) (h : (Sh.strct TBalance.shF).V as0) : ∃ x : TBalance, as0 = x.cells ∧ x.wf := by
  obtain ⟨_, _, rfl, h0, _, _, rfl, h1, rfl⟩ := h
  obtain ⟨x0, rfl, w0⟩ := of_int _ h0
  obtain ⟨x1, rfl, w1⟩ := of_int _ h1
  exact ⟨⟨x0, x1⟩, rfl, w0, w1⟩
def TDifference.shF : Fs := .cons (.int .i64) <| .cons (.int .i64) <| .cons (.int .i64) <| .cons (.int .i64) <| .cons (.int .i64) <|  .nil
def TDifference.wf (x : TDifference) : Prop := fits x.Kind ∧ fits x.A ∧ fits x.B ∧ fits x.Ref ∧ fits x.Amount
theorem TDifference.of (as0 : List AV) (h : (Sh.strct TDifference.shF).V as0) : ∃ x : TDifference, as0 = x.cells ∧ x.wf := by
  obtain ⟨_, _, rfl, h0, _, _, rfl, h1, _, _, rfl, h2, _, _, rfl, h3, _, _, rfl, h4, rfl⟩ := h
  obtain ⟨x0, rfl, w0⟩ := of_int _ h0
  obtain ⟨x1, rfl, w1⟩ := of_int _ h1
  obtain ⟨x2, rfl, w2⟩ := of_int _ h2
  obtain ⟨x3, rfl, w3⟩ := of_int _ h3
  obtain ⟨x4, rfl, w4⟩ := of_int _ h4
  exact ⟨⟨x0, x1, x2, x3, x4⟩, rfl, w0, w1, w2, w3, w4⟩
def TWhole.shF : Fs := .cons (.slice (.strct TBalance.shF)) <| .cons (.int .i64) <| .cons (.slice (.strct TDifference.shF)) <|  .nil
def TWhole.wf (x : TWhole) : Prop := (x.Balances.length ≤ maxLen ∧ ∀ z, z ∈ x.Balances → z.wf) ∧ fits x.Eliminated ∧ (x.Differences.length ≤ maxLen ∧ ∀ z, z ∈ x.Differences → z.wf)
theorem TWhole.of (as0 : List AV) (h : (Sh.strct TWhole.shF).V as0) : ∃ x : TWhole, as0 = x.cells ∧ x.wf := by
  obtain ⟨_, _, rfl, h0, _, _, rfl, h1, _, _, rfl, h2, rfl⟩ := h
  obtain ⟨x0, rfl, w0⟩ := (of_slice (.strct TBalance.shF) TBalance.of) _ h0
  obtain ⟨x1, rfl, w1⟩ := of_int _ h1
  obtain ⟨x2, rfl, w2⟩ := (of_slice (.strct TDifference.shF) TDifference.of) _ h2
  exact ⟨⟨x0, x1, x2⟩, rfl, w0, w1, w2⟩
def TPayment.shF : Fs := .cons (.int .i64) <| .cons (.int .i64) <| .cons (.int .i64) <| .cons (.int .i64) <| .cons (.int .i64) <|  .nil
def TPayment.wf (x : TPayment) : Prop := fits x.Warrant ∧ fits x.Payee ∧ fits x.Amount ∧ fits x.Due ∧ fits x.Sub
theorem TPayment.of (as0 : List AV) (h : (Sh.strct TPayment.shF).V as0) : ∃ x : TPayment, as0 = x.cells ∧ x.wf := by
  obtain ⟨_, _, rfl, h0, _, _, rfl, h1, _, _, rfl, h2, _, _, rfl, h3, _, _, rfl, h4, rfl⟩ := h
  obtain ⟨x0, rfl, w0⟩ := of_int _ h0
  obtain ⟨x1, rfl, w1⟩ := of_int _ h1
  obtain ⟨x2, rfl, w2⟩ := of_int _ h2
  obtain ⟨x3, rfl, w3⟩ := of_int _ h3
  obtain ⟨x4, rfl, w4⟩ := of_int _ h4
  exact ⟨⟨x0, x1, x2, x3, x4⟩, rfl, w0, w1, w2, w3, w4⟩
def TBatch.shF : Fs := .cons (.int .i64) <| .cons (.int .i64) <| .cons (.slice (.strct TPayment.shF)) <|  .nil
def TBatch.wf (x : TBatch) : Prop := fits x.Number ∧ fits x.Day ∧ (x.Payments.length ≤ maxLen ∧ ∀ z, z ∈ x.Payments → z.wf)
theorem TBatch.of (as0 : List AV) (h : (Sh.strct TBatch.shF).V as0) : ∃ x : TBatch, as0 = x.cells ∧ x.wf := by
  obtain ⟨_, _, rfl, h0, _, _, rfl, h1, _, _, rfl, h2, rfl⟩ := h
  obtain ⟨x0, rfl, w0⟩ := of_int _ h0
  obtain ⟨x1, rfl, w1⟩ := of_int _ h1
  obtain ⟨x2, rfl, w2⟩ := (of_slice (.strct TPayment.shF) TPayment.of) _ h2
  exact ⟨⟨x0, x1, x2⟩, rfl, w0, w1, w2⟩
def TQueue.shF : Fs := .cons (.slice (.strct TPayment.shF)) <| .cons (.slice (.int .i64)) <| .cons (.slice (.strct TBatch.shF)) <|  .nil
def TQueue.wf (x : TQueue) : Prop := (x.Waiting.length ≤ maxLen ∧ ∀ z, z ∈ x.Waiting → z.wf) ∧ (x.Known.length ≤ maxLen ∧ ∀ z, z ∈ x.Known → fits z) ∧ (x.Batches.length ≤ maxLen ∧ ∀ z, z ∈ x.Batches → z.wf)
theorem TQueue.of (as0 : List AV) (h : (Sh.strct TQueue.shF).V as0) : ∃ x : TQueue, as0 = x.cells ∧ x.wf := by
  obtain ⟨_, _, rfl, h0, _, _, rfl, h1, _, _, rfl, h2, rfl⟩ := h
  obtain ⟨x0, rfl, w0⟩ := (of_slice (.strct TPayment.shF) TPayment.of) _ h0
  obtain ⟨x1, rfl, w1⟩ := (of_slice (.int .i64) of_int) _ h1
  obtain ⟨x2, rfl, w2⟩ := (of_slice (.strct TBatch.shF) TBatch.of) _ h2
  exact ⟨⟨x0, x1, x2⟩, rfl, w0, w1, w2⟩
def TItem.shF : Fs := .cons (.strct TPayment.shF) <| .cons (.int .i64) <| .cons (.int .i64) <|  .nil
def TItem.wf (x : TItem) : Prop := x.Payment.wf ∧ fits x.State ∧ fits x.Attempts
theorem TItem.of (as0 : List AV) (h : (Sh.strct TItem.shF).V as0) : ∃ x : TItem, as0 = x.cells ∧ x.wf := by
  obtain ⟨_, _, rfl, h0, _, _, rfl, h1, _, _, rfl, h2, rfl⟩ := h
  obtain ⟨x0, rfl, w0⟩ := TPayment.of _ h0
  obtain ⟨x1, rfl, w1⟩ := of_int _ h1
  obtain ⟨x2, rfl, w2⟩ := of_int _ h2
  exact ⟨⟨x0, x1, x2⟩, rfl, w0, w1, w2⟩
def TDesk.shF : Fs := .cons (.strct TAccount.shF) <| .cons (.strct TQueue.shF) <| .cons (.slice (.strct TItem.shF)) <|  .nil
def TDesk.wf (x : TDesk) : Prop := x.Account.wf ∧ x.Queue.wf ∧ (x.Items.length ≤ maxLen ∧ ∀ z, z ∈ x.Items → z.wf)
theorem TDesk.of (as0 : List AV) (h : (Sh.strct TDesk.shF).V as0) : ∃ x : TDesk, as0 = x.cells ∧ x.wf := by
  obtain ⟨_, _, rfl, h0, _, _, rfl, h1, _, _, rfl, h2, rfl⟩ := h
  obtain ⟨x0, rfl, w0⟩ := TAccount.of _ h0
  obtain ⟨x1, rfl, w1⟩ := TQueue.of _ h1
  obtain ⟨x2, rfl, w2⟩ := (of_slice (.strct TItem.shF) TItem.of) _ h2
  exact ⟨⟨x0, x1, x2⟩, rfl, w0, w1, w2⟩
def TIncome.shF : Fs := .cons (.int .i64) <| .cons (.int .i64) <| .cons (.int .i64) <| .cons (.int .i64) <| .cons (.int .i64) <|  .nil
def TIncome.wf (x : TIncome) : Prop := fits x.Number ∧ fits x.Day ∧ fits x.Payer ∧ fits x.Amount ∧ fits x.Claim
theorem TIncome.of (as0 : List AV) (h : (Sh.strct TIncome.shF).V as0) : ∃ x : TIncome, as0 = x.cells ∧ x.wf := by
  obtain ⟨_, _, rfl, h0, _, _, rfl, h1, _, _, rfl, h2, _, _, rfl, h3, _, _, rfl, h4, rfl⟩ := h
  obtain ⟨x0, rfl, w0⟩ := of_int _ h0
  obtain ⟨x1, rfl, w1⟩ := of_int _ h1
  obtain ⟨x2, rfl, w2⟩ := of_int _ h2
  obtain ⟨x3, rfl, w3⟩ := of_int _ h3
  obtain ⟨x4, rfl, w4⟩ := of_int _ h4
  exact ⟨⟨x0, x1, x2, x3, x4⟩, rfl, w0, w1, w2, w3, w4⟩
def TMatch.shF : Fs := .cons (.int .i64) <| .cons (.int .i64) <| .cons (.int .i64) <|  .nil
def TMatch.wf (x : TMatch) : Prop := fits x.Income ∧ fits x.Claim ∧ fits x.Amount
theorem TMatch.of (as0 : List AV) (h : (Sh.strct TMatch.shF).V as0) : ∃ x : TMatch, as0 = x.cells ∧ x.wf := by
  obtain ⟨_, _, rfl, h0, _, _, rfl, h1, _, _, rfl, h2, rfl⟩ := h
  obtain ⟨x0, rfl, w0⟩ := of_int _ h0
  obtain ⟨x1, rfl, w1⟩ := of_int _ h1
  obtain ⟨x2, rfl, w2⟩ := of_int _ h2
  exact ⟨⟨x0, x1, x2⟩, rfl, w0, w1, w2⟩
def TCash.shF : Fs := .cons (.slice (.strct TClaim.shF)) <| .cons (.slice (.strct TIncome.shF)) <| .cons (.slice (.strct TMatch.shF)) <| .cons (.slice (.int .i64)) <|  .nil
def TCash.wf (x : TCash) : Prop := (x.Claims.length ≤ maxLen ∧ ∀ z, z ∈ x.Claims → z.wf) ∧ (x.Incomes.length ≤ maxLen ∧ ∀ z, z ∈ x.Incomes → z.wf) ∧ (x.Matches.length ≤ maxLen ∧ ∀ z, z ∈ x.Matches → z.wf) ∧ (x.Loose.length ≤ maxLen ∧ ∀ z, z ∈ x.Loose → fits z)
theorem TCash.of (as0 : List AV) (h : (Sh.strct TCash.shF).V as0) : ∃ x : TCash, as0 = x.cells ∧ x.wf := by
  obtain ⟨_, _, rfl, h0, _, _, rfl, h1, _, _, rfl, h2, _, _, rfl, h3, rfl⟩ := h
  obtain ⟨x0, rfl, w0⟩ := (of_slice (.strct TClaim.shF) TClaim.of) _ h0
  obtain ⟨x1, rfl, w1⟩ := (of_slice (.strct TIncome.shF) TIncome.of) _ h1
  obtain ⟨x2, rfl, w2⟩ := (of_slice (.strct TMatch.shF) TMatch.of) _ h2
  obtain ⟨x3, rfl, w3⟩ := (of_slice (.int .i64) of_int) _ h3
  exact ⟨⟨x0, x1, x2, x3⟩, rfl, w0, w1, w2, w3⟩
def TSecurity.shF : Fs := .cons (.int .i64) <| .cons (.int .i64) <| .cons (.int .i64) <| .cons (.int .i64) <| .cons (.int .i64) <| .cons (.int .i64) <| .cons (.bool) <|  .nil
def TSecurity.wf (x : TSecurity) : Prop := fits x.ID ∧ fits x.Unit ∧ fits x.Issued ∧ fits x.Maturity ∧ fits x.Rate ∧ fits x.Every ∧ True
theorem TSecurity.of (as0 : List AV) (h : (Sh.strct TSecurity.shF).V as0) : ∃ x : TSecurity, as0 = x.cells ∧ x.wf := by
  obtain ⟨_, _, rfl, h0, _, _, rfl, h1, _, _, rfl, h2, _, _, rfl, h3, _, _, rfl, h4, _, _, rfl, h5, _, _, rfl, h6, rfl⟩ := h
  obtain ⟨x0, rfl, w0⟩ := of_int _ h0
  obtain ⟨x1, rfl, w1⟩ := of_int _ h1
  obtain ⟨x2, rfl, w2⟩ := of_int _ h2
  obtain ⟨x3, rfl, w3⟩ := of_int _ h3
  obtain ⟨x4, rfl, w4⟩ := of_int _ h4
  obtain ⟨x5, rfl, w5⟩ := of_int _ h5
  obtain ⟨x6, rfl, w6⟩ := of_bool _ h6
  exact ⟨⟨x0, x1, x2, x3, x4, x5, x6⟩, rfl, w0, w1, w2, w3, w4, w5, w6⟩
def THolding.shF : Fs := .cons (.int .i64) <| .cons (.int .i64) <| .cons (.int .i64) <|  .nil
def THolding.wf (x : THolding) : Prop := fits x.Security ∧ fits x.Holder ∧ fits x.Amount
theorem THolding.of (as0 : List AV) (h : (Sh.strct THolding.shF).V as0) : ∃ x : THolding, as0 = x.cells ∧ x.wf := by
  obtain ⟨_, _, rfl, h0, _, _, rfl, h1, _, _, rfl, h2, rfl⟩ := h
  obtain ⟨x0, rfl, w0⟩ := of_int _ h0
  obtain ⟨x1, rfl, w1⟩ := of_int _ h1
  obtain ⟨x2, rfl, w2⟩ := of_int _ h2
  exact ⟨⟨x0, x1, x2⟩, rfl, w0, w1, w2⟩
def TMove.shF : Fs := .cons (.int .i64) <| .cons (.int .i64) <| .cons (.int .i64) <| .cons (.int .i64) <| .cons (.int .i64) <| .cons (.int .i64) <| .cons (.int .i64) <|  .nil
def TMove.wf (x : TMove) : Prop := fits x.Number ∧ fits x.Day ∧ fits x.Kind ∧ fits x.Security ∧ fits x.From ∧ fits x.To ∧ fits x.Amount
theorem TMove.of (as0 : List AV) (h : (Sh.strct TMove.shF).V as0) : ∃ x : TMove, as0 = x.cells ∧ x.wf := by
  obtain ⟨_, _, rfl, h0, _, _, rfl, h1, _, _, rfl, h2, _, _, rfl, h3, _, _, rfl, h4, _, _, rfl, h5, _, _, rfl, h6, rfl⟩ := h
  obtain ⟨x0, rfl, w0⟩ := of_int _ h0
  obtain ⟨x1, rfl, w1⟩ := of_int _ h1
  obtain ⟨x2, rfl, w2⟩ := of_int _ h2
  obtain ⟨x3, rfl, w3⟩ := of_int _ h3
  obtain ⟨x4, rfl, w4⟩ := of_int _ h4
  obtain ⟨x5, rfl, w5⟩ := of_int _ h5
  obtain ⟨x6, rfl, w6⟩ := of_int _ h6
  exact ⟨⟨x0, x1, x2, x3, x4, x5, x6⟩, rfl, w0, w1, w2, w3, w4, w5, w6⟩
def TRegister.shF : Fs := .cons (.slice (.strct TSecurity.shF)) <| .cons (.slice (.strct THolding.shF)) <| .cons (.slice (.strct TMove.shF)) <|  .nil
def TRegister.wf (x : TRegister) : Prop := (x.Securities.length ≤ maxLen ∧ ∀ z, z ∈ x.Securities → z.wf) ∧ (x.Holdings.length ≤ maxLen ∧ ∀ z, z ∈ x.Holdings → z.wf) ∧ (x.Moves.length ≤ maxLen ∧ ∀ z, z ∈ x.Moves → z.wf)
theorem TRegister.of (as0 : List AV) (h : (Sh.strct TRegister.shF).V as0) : ∃ x : TRegister, as0 = x.cells ∧ x.wf := by
  obtain ⟨_, _, rfl, h0, _, _, rfl, h1, _, _, rfl, h2, rfl⟩ := h
  obtain ⟨x0, rfl, w0⟩ := (of_slice (.strct TSecurity.shF) TSecurity.of) _ h0
  obtain ⟨x1, rfl, w1⟩ := (of_slice (.strct THolding.shF) THolding.of) _ h1
  obtain ⟨x2, rfl, w2⟩ := (of_slice (.strct TMove.shF) TMove.of) _ h2
  exact ⟨⟨x0, x1, x2⟩, rfl, w0, w1, w2⟩
def TState.shF : Fs := .cons (.strct TDesk.shF) <| .cons (.strct TCash.shF) <| .cons (.strct TRegister.shF) <| .cons (.strct TLedger.shF) <|  .nil
def TState.wf (x : TState) : Prop := x.Desk.wf ∧ x.Cash.wf ∧ x.Register.wf ∧ x.Ledger.wf
theorem TState.of (as0 : List AV) (h : (Sh.strct TState.shF).V as0) : ∃ x : TState, as0 = x.cells ∧ x.wf := by
  obtain ⟨_, _, rfl, h0, _, _, rfl, h1, _, _, rfl, h2, _, _, rfl, h3, rfl⟩ := h
  obtain ⟨x0, rfl, w0⟩ := TDesk.of _ h0
  obtain ⟨x1, rfl, w1⟩ := TCash.of _ h1
  obtain ⟨x2, rfl, w2⟩ := TRegister.of _ h2
  obtain ⟨x3, rfl, w3⟩ := TLedger.of _ h3
  exact ⟨⟨x0, x1, x2, x3⟩, rfl, w0, w1, w2, w3⟩
def TDeed.shF : Fs := .cons (.int .i64) <| .cons (.int .i64) <| .cons (.int .i64) <| .cons (.int .i64) <| .cons (.int .i64) <| .cons (.int .i64) <| .cons (.int .i64) <|  .nil
def TDeed.wf (x : TDeed) : Prop := fits x.Kind ∧ fits x.Day ∧ fits x.Sub ∧ fits x.Who ∧ fits x.Ref ∧ fits x.Amount ∧ fits x.Due
theorem TDeed.of (as0 : List AV) (h : (Sh.strct TDeed.shF).V as0) : ∃ x : TDeed, as0 = x.cells ∧ x.wf := by
  obtain ⟨_, _, rfl, h0, _, _, rfl, h1, _, _, rfl, h2, _, _, rfl, h3, _, _, rfl, h4, _, _, rfl, h5, _, _, rfl, h6, rfl⟩ := h
  obtain ⟨x0, rfl, w0⟩ := of_int _ h0
  obtain ⟨x1, rfl, w1⟩ := of_int _ h1
  obtain ⟨x2, rfl, w2⟩ := of_int _ h2
  obtain ⟨x3, rfl, w3⟩ := of_int _ h3
  obtain ⟨x4, rfl, w4⟩ := of_int _ h4
  obtain ⟨x5, rfl, w5⟩ := of_int _ h5
  obtain ⟨x6, rfl, w6⟩ := of_int _ h6
  exact ⟨⟨x0, x1, x2, x3, x4, x5, x6⟩, rfl, w0, w1, w2, w3, w4, w5, w6⟩
def TFinding.shF : Fs := .cons (.int .i64) <| .cons (.int .i64) <|  .nil
def TFinding.wf (x : TFinding) : Prop := fits x.Layer ∧ fits x.Number
theorem TFinding.of (as0 : List AV) (h : (Sh.strct TFinding.shF).V as0) : ∃ x : TFinding, as0 = x.cells ∧ x.wf := by
  obtain ⟨_, _, rfl, h0, _, _, rfl, h1, rfl⟩ := h
  obtain ⟨x0, rfl, w0⟩ := of_int _ h0
  obtain ⟨x1, rfl, w1⟩ := of_int _ h1
  exact ⟨⟨x0, x1⟩, rfl, w0, w1⟩
open Go.ChangeShapes Go.WideShapes Go.ChangeAt Go.RowKit
open Go.PA (RepI PFun AV Rep Sh ShsA Fs)
theorem arg_ints {a : AV} (h : (Sh.slice (.int .i64)).A a) : ∃ l : List Int, a = intsL l ∧ Small l ∧ l.length ≤ 9223372036854775807 := by
  obtain ⟨l, e, hl, hw⟩ := of_slice (.int .i64) of_int [a] h
  have hml : maxLen ≤ 9223372036854775807 := by decide
  simp only [List.cons.injEq, and_true] at e
  exact ⟨l, e, hw, by omega⟩
end Go.Proofs.YtpllcolbcahicaaGreatDoor
set_option maxRecDepth 100000
namespace Go.Proofs.YtpllcolbcahicaaGreatDoor
open Go.RowKit Go.WideShapes Go.ChangeShapes
open Go.PA (RepI PFun AV Rep GlobOk)
theorem gES : Tryz.prog.globalNamed "strconv.ErrSyntax" = some 0 := by kernel_rfl
theorem gER : Tryz.prog.globalNamed "strconv.ErrRange" = some 1 := by kernel_rfl
theorem gEST : (Tryz.prog.globals[0]?).map (·.type) = some 310 := by kernel_rfl
theorem gERT : (Tryz.prog.globals[1]?).map (·.type) = some 310 := by kernel_rfl
theorem cellsES : Tryz.prog.cellsOf 414 = 1 := by kernel_rfl
theorem cellsStr : Tryz.prog.cellsOf 9 = 1 := by kernel_rfl
theorem starES : "*" ++ "errors.errorString" = "*errors.errorString" := by decide
theorem rowES (u : TypeId) (h : Tryz.prog.typeName? 3 u = some "*errors.errorString") : u = 412 :=
  typeName_ptr_named (nm := "errors.errorString") (by rw [starES]; kernel_rfl) (by kernel_rfl) (by decide) u (by rw [starES]; exact h)
theorem lt_of_cell {W : World} {g : Nat} {v : Value} (h : W.cell? ⟨g, 0, none⟩ = some v) : g < W.heap.size := by
  rcases Nat.lt_or_ge g W.heap.size with h' | h'
  · exact h'
  · simp [World.cell?, Array.getElem?_eq_none h'] at h
theorem glob_ok {W : World} (h : laidMetH Tryz.prog Rows.topBooksRow.laid W) : GlobOk (fun b => b < W.heap.size) W := by
  rw [MakeChecks.laidMetH_plain _ _ _ (by kernel_rfl)] at h
  have h4 := h.tail.tail.tail.tail
  obtain ⟨a0, s0, hv0, -, -, -⟩ := laid_sentinel h4 gER gERT Tryz.underlying310 rowES Tryz.underlying412 Tryz.underlying414 rfl rfl Tryz.underlying9 cellsES cellsStr
  obtain ⟨a1, s1, hv1, -, -, -⟩ := laid_sentinel h4.tail gES gEST Tryz.underlying310 rowES Tryz.underlying412 Tryz.underlying414 rfl rfl Tryz.underlying9 cellsES cellsStr
  have h0 : W.cell? ⟨1, 0, none⟩ = some (.iface 412 (.pointer (some a0))) := by simpa using World.var?_cell gER hv0 0
  have h1 : W.cell? ⟨0, 0, none⟩ = some (.iface 412 (.pointer (some a1))) := by simpa using World.var?_cell gES hv1 0
  intro g hg
  simp only [Go.PA.globs, List.mem_cons, List.not_mem_nil, or_false] at hg
  rcases hg with rfl | rfl
  · exact ⟨lt_of_cell h1, _, _, h1⟩
  · exact ⟨lt_of_cell h0, _, _, h0⟩
open Go.PA
abbrev postsL (l : List TPosting) : AV := .list 8 (encL TPosting.cells l)
theorem cP (p : TPosting) : p.cells = [iv p.Number, iv p.Day, iv p.Entity, iv p.Debit, iv p.Credit, iv p.Amount, iv p.Partner, iv p.Ref] := rfl
theorem imm_posts (l : List TPosting) : Imm (postsL l) := imm_encL _ TPosting.imm _
def betw (n lo hi : Int) : Bool := decide (lo ≤ n) && decide (n ≤ hi)
theorem betw_iff {n lo hi : Int} : betw n lo hi = true ↔ lo ≤ n ∧ n ≤ hi := by simp [betw]
def classI (a : Int) : Int := if 100 ≤ a ∧ a ≤ 599 then a / 100 else 0
theorem classI_pos (a : Int) : 0 < classI a ↔ 100 ≤ a ∧ a ≤ 599 := by
  unfold classI
  split <;> omega
def postB (p : TPosting) : Bool :=
  betw p.Number 1 1000000 && betw p.Day 0 36000 && betw p.Entity 1 10 && betw p.Debit 100 599 && betw p.Credit 100 599 && !decide (p.Debit = p.Credit) && betw p.Amount 1 1000000000000 && betw p.Partner 0 10 && !decide (p.Partner = p.Entity) && betw p.Ref 0 1000000
structure PostOk (p : TPosting) : Prop where
  num : 1 ≤ p.Number ∧ p.Number ≤ 1000000
  day : 0 ≤ p.Day ∧ p.Day ≤ 36000
  ent : 1 ≤ p.Entity ∧ p.Entity ≤ 10
  deb : 100 ≤ p.Debit ∧ p.Debit ≤ 599
  cre : 100 ≤ p.Credit ∧ p.Credit ≤ 599
  ne : p.Debit ≠ p.Credit
  amt : 1 ≤ p.Amount ∧ p.Amount ≤ 1000000000000
  par : 0 ≤ p.Partner ∧ p.Partner ≤ 10
  pne : p.Partner ≠ p.Entity
  ref : 0 ≤ p.Ref ∧ p.Ref ≤ 1000000
theorem postB_iff (p : TPosting) : postB p = true ↔ PostOk p := by
  simp only [postB, Bool.and_eq_true, betw_iff, Bool.not_eq_true', decide_eq_false_iff_not]
  constructor
  · rintro ⟨⟨⟨⟨⟨⟨⟨⟨⟨h1, h2⟩, h3⟩, h4⟩, h5⟩, h6⟩, h7⟩, h8⟩, h9⟩, h10⟩
    exact ⟨h1, h2, h3, h4, h5, h6, h7, h8, h9, h10⟩
  · rintro ⟨h1, h2, h3, h4, h5, h6, h7, h8, h9, h10⟩
    exact ⟨⟨⟨⟨⟨⟨⟨⟨⟨h1, h2⟩, h3⟩, h4⟩, h5⟩, h6⟩, h7⟩, h8⟩, h9⟩, h10⟩
structure Fine (p : TPosting) : Prop where
  deb : 100 ≤ p.Debit ∧ p.Debit ≤ 599
  cre : 100 ≤ p.Credit ∧ p.Credit ≤ 599
  amt : 1 ≤ p.Amount ∧ p.Amount ≤ 1000000000000
theorem PostOk.fine {p : TPosting} (h : PostOk p) : Fine p := ⟨h.deb, h.cre, h.amt⟩
def FineL (l : List TPosting) : Prop := (∀ p, p ∈ l → Fine p) ∧ l.length ≤ 9000
def ofB (e from_ to : Int) (p : TPosting) : Bool := (decide (e = 0) || decide (p.Entity = e)) && (decide (from_ ≤ p.Day) && decide (p.Day ≤ to))
def addP (q : Int → Bool) (p : TPosting) : Int := (if q p.Debit = true then p.Amount else 0) - (if q p.Credit = true then p.Amount else 0)
def netP (q : Int → Bool) (f : TPosting → Bool) : List TPosting → Int
  | [] => 0
  | p :: l => (if f p = true then addP q p else 0) + netP q f l
theorem netP_app (q : Int → Bool) (f : TPosting → Bool) (l m : List TPosting) : netP q f (l ++ m) = netP q f l + netP q f m := by
  induction l with
  | nil => simp [netP]
  | cons p l ih => simp only [List.cons_append, netP, ih]; omega
theorem netP_snoc (q : Int → Bool) (f : TPosting → Bool) (l : List TPosting) (p : TPosting) : netP q f (l ++ [p]) = netP q f l + (if f p = true then addP q p else 0) := by
  rw [netP_app]; simp [netP]
abbrev bal (f : TPosting → Bool) (l : List TPosting) (a : Int) : Int := netP (fun b => decide (b = a)) f l
theorem addP_bound (q : Int → Bool) {p : TPosting} (h : Fine p) : -1000000000000 ≤ addP q p ∧ addP q p ≤ 1000000000000 := by
  have := h.amt
  unfold addP
  split <;> split <;> omega
theorem netP_bound (q : Int → Bool) (f : TPosting → Bool) : ∀ (l : List TPosting), (∀ p, p ∈ l → Fine p) → -(1000000000000 * (l.length : Int)) ≤ netP q f l ∧ netP q f l ≤ 1000000000000 * (l.length : Int)
  | [], _ => by simp [netP]
  | p :: l, h => by
    have h1 := addP_bound q (h p (by simp))
    have h2 := netP_bound q f l fun p hp => h p (by simp [hp])
    simp only [netP, List.length_cons]
    split <;> omega
theorem getM_putM {β : Type} (l : List (Int × β)) (k a : Int) (v : β) : getM (putM l k v) a = if a = k then some v else getM l a := by
  induction l with
  | nil =>
    simp only [putM, getM]
    by_cases h : a = k
    · subst h; simp
    · rw [if_neg (fun e => h e.symm), if_neg h]
  | cons e l ih =>
    simp only [putM]
    by_cases h : e.1 = k
    · rw [if_pos h]
      simp only [getM]
      by_cases h' : a = k
      · subst h'; simp
      · rw [if_neg (fun e => h' e.symm), if_neg h', if_neg (fun e' => h' (e'.symm.trans h))]
    · rw [if_neg h]
      simp only [getM, ih]
      by_cases h' : e.1 = a
      · rw [if_pos h', if_pos h', if_neg (fun e' => h (h'.trans e'))]
      · rw [if_neg h', if_neg h']
abbrev getZ (m : List (Int × Int)) (a : Int) : Int := (getM m a).getD 0
theorem getZ_putM (l : List (Int × Int)) (k a v : Int) : getZ (putM l k v) a = if a = k then v else getZ l a := by
  unfold getZ
  rw [getM_putM]
  split <;> rfl
def absM : List (Int × Int) → Int
  | [] => 0
  | e :: m => (if e.2 < 0 then -e.2 else e.2) + absM m
theorem absM_nonneg : ∀ m : List (Int × Int), 0 ≤ absM m
  | [] => by simp [absM]
  | e :: m => by
    have := absM_nonneg m
    unfold absM
    split <;> omega
theorem getZ_abs : ∀ (m : List (Int × Int)) (a : Int), -absM m ≤ getZ m a ∧ getZ m a ≤ absM m
  | [], a => by simp [getZ, getM, absM]
  | e :: m, a => by
    have h1 := getZ_abs m a
    have h2 := absM_nonneg m
    simp only [getZ, getM, absM] at h1 ⊢
    by_cases h : e.1 = a
    · rw [if_pos h, Option.getD_some]
      split <;> omega
    · rw [if_neg h]
      split <;> omega
theorem absM_put (k x : Int) : ∀ m : List (Int × Int), absM (putM m k (getZ m k + x)) ≤ absM m + (if x < 0 then -x else x)
  | [] => by simp [putM, absM, getZ, getM]
  | e :: m => by
    simp only [putM, getZ, getM]
    by_cases h : e.1 = k
    · subst h
      simp only [if_true, Option.getD_some, absM]
      repeat' split
      all_goals omega
    · have ih := absM_put k x m
      simp only [if_neg h, absM]
      simp only [getZ] at ih
      omega
def bookP (m : List (Int × Int)) (p : TPosting) : List (Int × Int) := putM (putM m p.Debit (getZ m p.Debit + p.Amount)) p.Credit (getZ (putM m p.Debit (getZ m p.Debit + p.Amount)) p.Credit + -p.Amount)
def books (f : TPosting → Bool) (l : List TPosting) : List (Int × Int) := l.foldl (fun m p => if f p = true then bookP m p else m) []
theorem books_snoc (f : TPosting → Bool) (l : List TPosting) (p : TPosting) : books f (l ++ [p]) = if f p = true then bookP (books f l) p else books f l := by
  simp [books]
theorem getZ_book (m : List (Int × Int)) (p : TPosting) (a : Int) : getZ (bookP m p) a = getZ m a + addP (fun b => decide (b = a)) p := by
  unfold bookP addP
  rw [getZ_putM, getZ_putM, getZ_putM]
  by_cases h1 : p.Debit = a <;> by_cases h2 : p.Credit = a
  · subst h1; simp [h2]; omega
  · subst h1
    have h2' : ¬ p.Debit = p.Credit := fun e => h2 e.symm
    simp [h2, h2']
  · subst h2
    have h1' : ¬ p.Credit = p.Debit := fun e => h1 e.symm
    simp [h1, h1']
  · have h1' : ¬ a = p.Debit := fun e => h1 e.symm
    have h2' : ¬ a = p.Credit := fun e => h2 e.symm
    simp [h1, h2, h1', h2']
theorem absM_book (m : List (Int × Int)) {p : TPosting} (h : Fine p) : absM (bookP m p) ≤ absM m + 2000000000000 := by
  have := h.amt
  unfold bookP
  have h1 := absM_put p.Credit (-p.Amount) (putM m p.Debit (getZ m p.Debit + p.Amount))
  have h2 := absM_put p.Debit p.Amount m
  rw [if_pos (by omega)] at h1
  rw [if_neg (by omega)] at h2
  omega
theorem snoc_ind {α : Type} {P : List α → Prop} (h0 : P []) (h1 : ∀ l a, P l → P (l ++ [a])) (l : List α) : P l := by
  have : ∀ l : List α, P l.reverse := fun l => by
    induction l with
    | nil => exact h0
    | cons a l ih => rw [List.reverse_cons]; exact h1 _ _ ih
  simpa using this l.reverse
theorem books_get (f : TPosting → Bool) (l : List TPosting) (a : Int) : getZ (books f l) a = bal f l a := by
  induction l using snoc_ind with
  | h0 => rfl
  | h1 l p ih =>
    rw [books_snoc, bal, netP_snoc]
    split
    · rw [getZ_book, ih]
    · rw [ih]; simp
theorem books_abs (f : TPosting → Bool) (l : List TPosting) (h : ∀ p, p ∈ l → Fine p) : absM (books f l) ≤ 2000000000000 * (l.length : Int) := by
  induction l using snoc_ind with
  | h0 => simp [books, absM]
  | h1 l p ih =>
    have ih := ih fun p hp => h p (by simp [hp])
    have := absM_book (books f l) (h p (by simp))
    rw [books_snoc, List.length_append, List.length_singleton]
    split <;> omega
open Go.PA
open Go.RowKit
theorem ramong_pf (n lo hi : Int) : PFun Tryz.prog none none 21 [iv n, iv lo, iv hi] (· = bv (betw n lo hi)) := by
  refine pfun_intro Tryz.func21 rfl (by simp [Tryz.f21]) (by kernel_rfl) ?_
  intro E hP hr hs hW hN
  by_cases h1 : lo ≤ n <;> by_cases h2 : n ≤ hi <;> simp -dsimp -implicitDefEqProofs [-getElem?_pos, go_sem, hP, h1, h2, betw]
theorem entity_pf (n : Int) : PFun Tryz.prog none none 20 [iv n] (· = bv (betw n 1 10)) := by
  refine pfun_intro Tryz.func20 rfl (by simp [Tryz.f20]) (by kernel_rfl) ?_
  intro E hP hr hs hW hN
  simp -dsimp -implicitDefEqProofs [-getElem?_pos, go_sem, hP]
  refine callB_pure (ramong_pf n 1 10) hP en_21 (args_same (by simp -dsimp -implicitDefEqProofs [-getElem?_pos, go_sem])) .sc ?_
  simp -dsimp -implicitDefEqProofs [-getElem?_pos, go_sem, hP]
theorem tdiv100 {a : Int} (h : 100 ≤ a ∧ a ≤ 599) : IntKind.i64.wrap (a.tdiv 100) = a / 100 := by
  rw [Int.tdiv_eq_ediv_of_nonneg (by omega)]
  exact wrap_in _ (by omega)
theorem class_pf (n : Int) : PFun Tryz.prog none none 56 [iv n] (· = iv (classI n)) := by
  refine pfun_intro Tryz.func56 rfl (by simp [Tryz.f56]) (by kernel_rfl) ?_
  intro E hP hr hs hW hN
  simp -dsimp -implicitDefEqProofs [-getElem?_pos, go_sem, hP]
  refine callB_pure (ramong_pf n 100 599) hP en_21 (args_same (by simp -dsimp -implicitDefEqProofs [-getElem?_pos, go_sem])) .sc ?_
  by_cases h : 100 ≤ n ∧ n ≤ 599
  · have h1 : betw n 100 599 = true := betw_iff.2 h
    have h2 : classI n = n / 100 := if_pos h
    simp -dsimp -implicitDefEqProofs [-getElem?_pos, go_sem, hP, h1, tdiv100 h, h2]
  · have h1 : betw n 100 599 = false := by
      rw [Bool.eq_false_iff]
      exact fun e => h (betw_iff.1 e)
    have h2 : classI n = 0 := if_neg h
    simp -dsimp -implicitDefEqProofs [-getElem?_pos, go_sem, hP, h1, h2]
theorem class_betw (n : Int) : decide (0 < classI n) = betw n 100 599 := by
  rw [Bool.eq_iff_iff, decide_eq_true_eq, betw_iff, classI_pos]
set_option maxHeartbeats 2000000 in
theorem posting_pf (p : TPosting) : PFun Tryz.prog none none 23 [.agg p.cells] (· = bv (postB p)) := by
  refine pfun_intro Tryz.func23 rfl (by simp [Tryz.f23]) (by kernel_rfl) ?_
  intro E hP hr hs hW hN
  have i1 := ramong_pf p.Number 1 1000000
  have i2 := ramong_pf p.Day 0 36000
  have i3 := entity_pf p.Entity
  have i4 := class_betw p.Debit
  have i5 := class_betw p.Credit
  have i7 := ramong_pf p.Amount 1 1000000000000
  have i8 := ramong_pf p.Partner 0 10
  have i10 := ramong_pf p.Ref 0 1000000
  have pb : postB p = (betw p.Number 1 1000000 && betw p.Day 0 36000 && betw p.Entity 1 10 && betw p.Debit 100 599 && betw p.Credit 100 599 && !decide (p.Debit = p.Credit) && betw p.Amount 1 1000000000000 && betw p.Partner 0 10 && !decide (p.Partner = p.Entity) && betw p.Ref 0 1000000) := rfl
  generalize betw p.Number 1 1000000 = b1 at i1 pb
  generalize betw p.Day 0 36000 = b2 at i2 pb
  generalize betw p.Entity 1 10 = b3 at i3 pb
  generalize betw p.Debit 100 599 = b4 at i4 pb
  generalize betw p.Credit 100 599 = b5 at i5 pb
  generalize betw p.Amount 1 1000000000000 = b7 at i7 pb
  generalize betw p.Partner 0 10 = b8 at i8 pb
  generalize betw p.Ref 0 1000000 = b10 at i10 pb
  rw [pb]
  simp -dsimp -implicitDefEqProofs [-getElem?_pos, go_sem, hP, cP]
  refine callB_pure i1 hP en_21 (args_same (by simp -dsimp -implicitDefEqProofs [-getElem?_pos, go_sem])) .sc ?_
  cases b1
  · simp -dsimp -implicitDefEqProofs [-getElem?_pos, go_sem, hP, Bool.false_and]
  simp -dsimp -implicitDefEqProofs [-getElem?_pos, go_sem, hP]
  refine callB_pure i2 hP en_21 (args_same (by simp -dsimp -implicitDefEqProofs [-getElem?_pos, go_sem])) .sc ?_
  cases b2
  · simp -dsimp -implicitDefEqProofs [-getElem?_pos, go_sem, hP, Bool.false_and, Bool.true_and]
  simp -dsimp -implicitDefEqProofs [-getElem?_pos, go_sem, hP]
  refine callB_pure i3 hP en_20 (args_same (by simp -dsimp -implicitDefEqProofs [-getElem?_pos, go_sem])) .sc ?_
  cases b3
  · simp -dsimp -implicitDefEqProofs [-getElem?_pos, go_sem, hP, Bool.false_and, Bool.true_and]
  simp -dsimp -implicitDefEqProofs [-getElem?_pos, go_sem, hP]
  refine callB_pure (class_pf p.Debit) hP en_56 (args_same (by simp -dsimp -implicitDefEqProofs [-getElem?_pos, go_sem])) .sc ?_
  cases b4
  · simp -dsimp -implicitDefEqProofs [-getElem?_pos, go_sem, hP, i4, Bool.false_and, Bool.true_and]
  simp -dsimp -implicitDefEqProofs [-getElem?_pos, go_sem, hP, i4]
  refine callB_pure (class_pf p.Credit) hP en_56 (args_same (by simp -dsimp -implicitDefEqProofs [-getElem?_pos, go_sem])) .sc ?_
  cases b5
  · simp -dsimp -implicitDefEqProofs [-getElem?_pos, go_sem, hP, i5, Bool.false_and, Bool.true_and]
  by_cases h6 : p.Debit = p.Credit
  · simp -dsimp -implicitDefEqProofs [-getElem?_pos, go_sem, hP, i5, h6, decide_true, Bool.not_true, Bool.and_false, Bool.false_and, Bool.true_and]
  have d6 : decide (p.Debit = p.Credit) = false := decide_eq_false h6
  simp -dsimp -implicitDefEqProofs [-getElem?_pos, go_sem, hP, i5, d6]
  refine callB_pure i7 hP en_21 (args_same (by simp -dsimp -implicitDefEqProofs [-getElem?_pos, go_sem])) .sc ?_
  cases b7
  · simp -dsimp -implicitDefEqProofs [-getElem?_pos, go_sem, hP, Bool.false_and, Bool.true_and, Bool.and_false]
  simp -dsimp -implicitDefEqProofs [-getElem?_pos, go_sem, hP]
  refine callB_pure i8 hP en_21 (args_same (by simp -dsimp -implicitDefEqProofs [-getElem?_pos, go_sem])) .sc ?_
  cases b8
  · simp -dsimp -implicitDefEqProofs [-getElem?_pos, go_sem, hP, Bool.false_and, Bool.true_and, Bool.and_false]
  by_cases h9 : p.Partner = p.Entity
  · simp -dsimp -implicitDefEqProofs [-getElem?_pos, go_sem, hP, h9, decide_true, Bool.not_true, Bool.and_false, Bool.false_and, Bool.true_and]
  have d9 : decide (p.Partner = p.Entity) = false := decide_eq_false h9
  simp -dsimp -implicitDefEqProofs [-getElem?_pos, go_sem, hP, d9]
  refine callB_pure i10 hP en_21 (args_same (by simp -dsimp -implicitDefEqProofs [-getElem?_pos, go_sem])) .sc ?_
  simp -dsimp -implicitDefEqProofs [-getElem?_pos, go_sem, hP, d6, d9, Bool.not_false, Bool.true_and]
theorem badp_pf (p : TPosting) : PFun Tryz.prog none none 55 [.agg p.cells] (· = bv (!postB p)) := by
  refine pfun_intro Tryz.func55 rfl (by simp [Tryz.f55]) (by kernel_rfl) ?_
  intro E hP hr hs hW hN
  have hi := posting_pf p
  rw [cP] at hi
  simp -dsimp -implicitDefEqProofs [-getElem?_pos, go_sem, hP, cP]
  refine callB_pure hi hP en_23 (args_same (by simp -dsimp -implicitDefEqProofs [-getElem?_pos, go_sem])) .sc ?_
  simp -dsimp -implicitDefEqProofs [-getElem?_pos, go_sem, hP]
theorem index_pf_posting (l : List TPosting) (g : FuncId) (caps : List AV) (p : TPosting → Bool) (hl : l.length ≤ 1000000) (hen : enterable Tryz.prog g = true) (hcap : ∀ a, a ∈ caps → Imm a)
    (hg : ∀ a, a ∈ l → PFun Tryz.prog none none g (.agg (TPosting.cells a) :: caps) (· = bv (p a))) :
    PFun Tryz.prog none none 83 [.list 8 (encL TPosting.cells l), .fn g caps] (· = iv (idxI p l)) := by
  refine pfun_intro Tryz.func83 rfl (by simp [Tryz.f83]) (by kernel_rfl) ?_
  intro E hP hr hs hW hN
  simp -dsimp -implicitDefEqProofs [-getElem?_pos, go_sem, hP]
  obtain ⟨I, hI⟩ : ∃ I : Nat → St → Prop, I = fun m s => ∃ k : Nat, k ≤ l.length ∧ m = l.length - k ∧ idxI p l = idxFrom p k (l.drop k) ∧ s.t 0 = .list 8 (encL TPosting.cells l) ∧ s.t 1 = .fn g caps ∧ s.t 7 = iv l.length ∧ s.t 8 = iv k := ⟨_, rfl⟩
  refine aloop0 I (l.length) (by rw [hN]; rfl) ?_ ?_
  · rw [hI]
    exact ⟨0, by omega, by omega, by simp [idxI], by simp -dsimp -implicitDefEqProofs [-getElem?_pos, go_sem], by simp -dsimp -implicitDefEqProofs [-getElem?_pos, go_sem], by simp -dsimp -implicitDefEqProofs [-getElem?_pos, go_sem], by simp -dsimp -implicitDefEqProofs [-getElem?_pos, go_sem]⟩
  intro m s hs'
  rw [hI] at hs'
  obtain ⟨k, hk, hm, hi, t0, t1, t7, t8⟩ := hs'
  simp -dsimp -implicitDefEqProofs [-getElem?_pos, go_sem, hP, t7, t8]
  refine condP (fun h => ?_) (fun h => ?_)
  · have hk : k < l.length := by simpa using h
    obtain ⟨a, ha⟩ : ∃ a, l[k]? = some a := ⟨_, List.getElem?_eq_getElem hk⟩
    have wk := wrap_in ((k : Int) + 1) (by omega)
    have hz : (TPosting.cells a).take 8 = TPosting.cells a := List.take_of_length_le (by rw [TPosting.len]; omega)
    have hd : l.drop k = a :: l.drop (k + 1) := by
      rw [List.getElem?_eq_getElem hk] at ha
      rw [List.drop_eq_getElem_cons hk, Option.some.inj ha]
    simp -dsimp -implicitDefEqProofs [-getElem?_pos, go_sem, hP, t8, t1, t0, ha, TPosting.len, hz]
    refine callB_is ((hg a (List.mem_of_getElem? ha)).lift _ _) hP hen (fun x hx => ?_) .sc ?_
    · rcases List.mem_cons.1 hx with rfl | hx
      · exact imm_agg.2 (TPosting.imm a)
      · exact hcap x hx
    rw [hd] at hi
    simp only [idxFrom] at hi
    simp -dsimp -implicitDefEqProofs [-getElem?_pos, go_sem, hP]
    refine condP (fun hp => ?_) (fun hp => ?_)
    · rw [if_pos hp] at hi
      simp -dsimp -implicitDefEqProofs [-getElem?_pos, go_sem, hP]
      exact hi.symm
    · rw [hp, if_neg (by simp)] at hi
      simp -dsimp -implicitDefEqProofs [-getElem?_pos, go_sem, hP, t8, wk]
      refine ⟨l.length - (k + 1), by omega, ?_⟩
      rw [hI]
      exact ⟨k + 1, by omega, rfl, hi, by simp -dsimp -implicitDefEqProofs [-getElem?_pos, go_sem, t0], by simp -dsimp -implicitDefEqProofs [-getElem?_pos, go_sem, t1], by simp -dsimp -implicitDefEqProofs [-getElem?_pos, go_sem, t7], by simp -dsimp -implicitDefEqProofs [-getElem?_pos, go_sem]⟩
  · have hk : k = l.length := by simp at h; omega
    subst hk
    rw [List.drop_length] at hi
    simp -dsimp -implicitDefEqProofs [-getElem?_pos, go_sem, hP]
    exact hi.symm
theorem contains_pf_posting (l : List TPosting) (g : FuncId) (caps : List AV) (p : TPosting → Bool) (hl : l.length ≤ 1000000) (hen : enterable Tryz.prog g = true) (hcap : ∀ a, a ∈ caps → Imm a)
    (hg : ∀ a, a ∈ l → PFun Tryz.prog none none g (.agg (TPosting.cells a) :: caps) (· = bv (p a))) :
    PFun Tryz.prog none none 54 [.list 8 (encL TPosting.cells l), .fn g caps] (· = bv (l.any p)) := by
  refine pfun_intro Tryz.func54 rfl (by simp [Tryz.f54]) (by kernel_rfl) ?_
  intro E hP hr hs hW hN
  obtain ⟨w, hw⟩ : ∃ w, w = l.any p := ⟨_, rfl⟩
  rw [← hw]
  have hi : ∀ a, a ∈ [AV.list 8 (encL TPosting.cells l), .fn g caps] → Imm a := fun a ha => by
    simp only [List.mem_cons, List.not_mem_nil, or_false] at ha
    rcases ha with rfl | rfl
    · exact imm_encL _ TPosting.imm _
    · exact imm_fn.2 hcap
  simp -dsimp -implicitDefEqProofs [-getElem?_pos, go_sem, hP]
  refine callB_is ((index_pf_posting l g caps p hl hen hcap hg).lift _ _) hP en_83 hi .sc ?_
  rcases idxI_spec p l with ⟨h1, h2⟩ | ⟨i, a, h1, h2, h3, _⟩
  · have : w = false := by rw [hw]; exact List.any_eq_false.2 fun a ha => by simp [h2 a ha]
    simp -dsimp -implicitDefEqProofs [-getElem?_pos, go_sem, hP, h1, this]
  · have d : decide ((0 : Int) ≤ (i : Int)) = true := decide_eq_true (by omega)
    have : w = true := by rw [hw]; exact List.any_eq_true.2 ⟨a, List.mem_of_getElem? h1, h2⟩
    simp -dsimp -implicitDefEqProofs [-getElem?_pos, go_sem, hP, h3, d, this]
theorem clone_m_posting {row src : Option Nat} (l : List TPosting) (H : Heap) (hl : l.length ≤ 1000000) : MFun Tryz.prog row src 25 [.list 8 (encL TPosting.cells l)] H (fun r H' => ∃ id, r = .sref id 0 l.length ∧ H.length ≤ id ∧ H'[id]? = some (some ⟨36, 8, encL TPosting.cells l⟩) ∧ Kept [] H H') := by
  have own : MFun Tryz.prog row src 25 [.list 8 (encL TPosting.cells l)] H (fun r H' => (r = .nil ∧ l = [] ∧ H' = H) ∨ ∃ id, r = .sref id 0 l.length ∧ H.length ≤ id ∧ H'[id]? = some (some ⟨36, 8, encL TPosting.cells l⟩) ∧ Kept [] H H') := by
    cases l with
    | nil =>
      refine mfun_list_nil fun A c => ?_
      refine mfun_intro Tryz.func25 rfl (by simp [Tryz.f25]) (by kernel_rfl) ⟨.nil, H, .inl ⟨rfl, rfl, rfl⟩⟩ ?_
      intro E hP hr hs hN
      cases A with
      | none => simp -dsimp -implicitDefEqProofs [-getElem?_pos, go_sem, hP]
      | some a =>
        simp -dsimp -implicitDefEqProofs [-getElem?_pos, go_sem, hP]
        exact kept_app _ _ _
    | cons a l =>
      refine mfun_intro Tryz.func25 rfl (by simp [Tryz.f25]) (by kernel_rfl) ⟨_, H ++ [some ⟨36, 8, encL TPosting.cells (a :: l)⟩], .inr ⟨H.length, rfl, Nat.le_refl _, by simp, kept_push _ (kept_refl _ _)⟩⟩ ?_
      intro E hP hr hs hN
      simp only [List.length_cons] at hl
      have e : encL TPosting.cells (a :: l) = TPosting.cells a :: encL TPosting.cells l := rfl
      simp -dsimp -implicitDefEqProofs [-getElem?_pos, go_sem, hP, e]
      refine ⟨by omega, by omega, ?_⟩
      exact kept_app _ _ _
  refine (own.ownNil 36 8).mono ?_
  rintro r H' (⟨H0, h0, rfl, rfl⟩ | ⟨hne, h⟩)
  · rcases h0 with ⟨_, rfl, rfl⟩ | ⟨id, h, _⟩
    · exact ⟨_, rfl, Nat.le_refl _, by simp [encL], kept_push _ (kept_refl _ _)⟩
    · cases h
  · rcases h with ⟨h, _⟩ | h
    · exact absurd h hne
    · exact h
open Go.PA
open Go.RowKit
def seqFrom : Nat → Int → List TPosting → Bool
  | _, _, [] => true
  | k, d, p :: l => decide (p.Number = (k : Int) + 1) && (decide (d ≤ p.Day) && seqFrom (k + 1) p.Day l)
def checkL (l : List TPosting) : Int := if 400 < l.length then 3 else if l.any (fun p => !postB p) = true then 85 else if seqFrom 0 0 l = true then 0 else 86
def lastP (l : List TPosting) : Int := (l.getLast?.map (·.Day)).getD 0
theorem checkL_ok {l : List TPosting} (h : checkL l = 0) : l.length ≤ 400 ∧ (∀ p, p ∈ l → PostOk p) ∧ seqFrom 0 0 l = true := by
  unfold checkL at h
  split at h
  · cases h
  split at h
  · cases h
  split at h
  · rename_i h1 h2 h3
    refine ⟨by omega, fun p hp => (postB_iff p).1 ?_, h3⟩
    cases hb : postB p with
    | true => rfl
    | false => exact absurd (List.any_eq_true.2 ⟨p, hp, by simp [hb]⟩) h2
  · cases h
theorem checkL_fine {l : List TPosting} (h : checkL l = 0) : FineL l := ⟨fun p hp => ((checkL_ok h).2.1 p hp).fine, by have := (checkL_ok h).1; omega⟩
theorem prev_day {l : List TPosting} {k : Nat} {p : TPosting} (hp : l[k]? = some p) : ∀ (j : Nat) (x : TPosting), k + 1 = j + 1 → l[j]? = some x → p.Day = x.Day := fun j x h hx => by
  have : j = k := by omega
  subst this
  rw [hp] at hx
  rw [Option.some.inj hx]
abbrev cL (l : TLedger) : l.cells = [postsL l.Postings] := rfl
set_option maxHeartbeats 1000000 in
theorem lcheck_pf (l : TLedger) (hl : l.Postings.length ≤ 100000) : PFun Tryz.prog none none 22 [.agg l.cells] (· = iv (checkL l.Postings)) := by
  refine pfun_intro Tryz.func22 rfl (by simp [Tryz.f22]) (by kernel_rfl) ?_
  intro E hP hr hs hW hN
  obtain ⟨l⟩ := l
  simp only at hl
  have ip := imm_posts l
  simp -dsimp -implicitDefEqProofs [-getElem?_pos, go_sem, hP, cL]
  refine condP (fun h => ?_) (fun h => ?_)
  · have h' : 400 < l.length := by simp at h; omega
    have : checkL l = 3 := if_pos h'
    simp -dsimp -implicitDefEqProofs [-getElem?_pos, go_sem, hP, this]
  have h0 : ¬ 400 < l.length := by simp at h; omega
  simp -dsimp -implicitDefEqProofs [-getElem?_pos, go_sem, hP]
  refine callB_is ((contains_pf_posting l 55 [] (fun p => !postB p) (by omega) en_55 (by simp) fun p _ => badp_pf p).lift _ _) hP en_54 (by simp [ip, imm_fn]) .sc ?_
  by_cases h1 : l.any (fun p => !postB p) = true
  · have : checkL l = 85 := by rw [checkL, if_neg h0, if_pos h1]
    simp -dsimp -implicitDefEqProofs [-getElem?_pos, go_sem, hP, h1, this]
  have h1' : (l.any fun p => !postB p) = false := by simpa using h1
  have hv : ∀ p, p ∈ l → PostOk p := fun p hp => (postB_iff p).1 (by have := List.any_eq_false.1 h1' p hp; simpa using this)
  have tc : checkL l = if seqFrom 0 0 l = true then 0 else 86 := by rw [checkL, if_neg h0, if_neg h1]
  simp -dsimp -implicitDefEqProofs [-getElem?_pos, go_sem, hP, h1']
  obtain ⟨I, hI⟩ : ∃ I : Nat → St → Prop, I = fun m s => ∃ (k : Nat) (d : Int), k ≤ l.length ∧ m = l.length - k ∧ seqFrom 0 0 l = seqFrom k d (l.drop k) ∧ (k = 0 → d = 0) ∧ (∀ j x, k = j + 1 → l[j]? = some x → d = x.Day) ∧ s.t 1 = .ref 0 0 0 ∧ s.t 15 = postsL l ∧ s.t 16 = iv l.length ∧ s.t 17 = iv k ∧ s.H[0]? = some (some ⟨33, 1, [[postsL l]]⟩) := ⟨_, rfl⟩
  refine aloop0 I (l.length) (by rw [hN]; rfl) ?_ ?_
  · rw [hI]
    exact ⟨0, 0, by omega, by omega, by simp, by simp, by omega, by simp -dsimp -implicitDefEqProofs [-getElem?_pos, go_sem], by simp -dsimp -implicitDefEqProofs [-getElem?_pos, go_sem], by simp -dsimp -implicitDefEqProofs [-getElem?_pos, go_sem], by simp -dsimp -implicitDefEqProofs [-getElem?_pos, go_sem], by simp -dsimp -implicitDefEqProofs [-getElem?_pos, go_sem]⟩
  intro m s hs'
  rw [hI] at hs'
  obtain ⟨k, d, hk, hm, hq, hd0, hd1, t1, t15, t16, t17, hH⟩ := hs'
  have hlt := (List.getElem?_eq_some_iff.1 hH).1
  simp -dsimp -implicitDefEqProofs [-getElem?_pos, go_sem, hP, t16, t17]
  refine condP (fun h => ?_) (fun h => ?_)
  · have hk : k < l.length := by simpa using h
    obtain ⟨p, hp⟩ : ∃ p, l[k]? = some p := ⟨_, List.getElem?_eq_getElem hk⟩
    have hpo := hv p (List.mem_of_getElem? hp)
    have wk := wrap_in ((k : Int) + 1) (by omega)
    have hdr : l.drop k = p :: l.drop (k + 1) := by
      rw [List.getElem?_eq_getElem hk] at hp
      rw [List.drop_eq_getElem_cons hk, Option.some.inj hp]
    rw [hdr, seqFrom] at hq
    have nx : IntKind.i64.wrap ((k : Int) + 1) = ((k + 1 : Nat) : Int) := by rw [wk]; omega
    have g0 : ∀ x : Option AObj, (s.H ++ [x])[0]? = some (some ⟨33, 1, [[postsL l]]⟩) := fun x => by rw [List.getElem?_append_left hlt]; exact hH
    simp -dsimp -implicitDefEqProofs [-getElem?_pos, go_sem, hP, t17, t15, hp, cP]
    refine adrawB (fun _ => true) [] hP (by kernel_rfl) (by kernel_rfl) ?_
    by_cases c1 : p.Number = (k : Int) + 1
    · have d1 : decide (p.Number = (k : Int) + 1) = true := decide_eq_true c1
      rcases Nat.eq_zero_or_pos k with k0 | k0
      · have hdd : d ≤ p.Day := by rw [hd0 k0]; exact hpo.day.1
        rw [d1, decide_eq_true hdd, Bool.true_and, Bool.true_and] at hq
        have k0' : ¬ 0 < k := by omega
        have hjk : decide ((0 : Int) < (k : Int)) = false := decide_eq_false (by omega)
        simp -dsimp -implicitDefEqProofs [-getElem?_pos, go_sem, hP, wk, d1, t1, t17, k0', hjk]
        refine ⟨l.length - (k + 1), by omega, ?_⟩
        rw [hI]
        exact ⟨k + 1, p.Day, by omega, rfl, hq, by omega, prev_day hp, by simp -dsimp -implicitDefEqProofs [-getElem?_pos, go_sem, t1], by simp -dsimp -implicitDefEqProofs [-getElem?_pos, go_sem, t15], by simp -dsimp -implicitDefEqProofs [-getElem?_pos, go_sem, t16], by simp -dsimp -implicitDefEqProofs [-getElem?_pos, go_sem], by simp -dsimp -implicitDefEqProofs [-getElem?_pos, go_sem, g0]⟩
      · obtain ⟨j, hj⟩ : ∃ j, k = j + 1 := ⟨k - 1, by omega⟩
        obtain ⟨x, hx⟩ : ∃ x, l[j]? = some x := ⟨_, List.getElem?_eq_getElem (by omega)⟩
        have hdx := hd1 j x hj hx
        have hjk : decide ((0 : Int) < (k : Int)) = true := decide_eq_true (by omega)
        have wj : IntKind.i64.wrap ((k : Int) - 1) = (j : Int) := by rw [wrap_in _ (by omega)]; omega
        have s1 := g0 (some ⟨36, 8, [[iv p.Number, iv p.Day, iv p.Entity, iv p.Debit, iv p.Credit, iv p.Amount, iv p.Partner, iv p.Ref]]⟩)
        rw [hdx, d1, Bool.true_and] at hq
        by_cases c2 : x.Day ≤ p.Day
        · have d2 : decide (p.Day < x.Day) = false := decide_eq_false (by omega)
          rw [decide_eq_true c2, Bool.true_and] at hq
          simp -dsimp -implicitDefEqProofs [-getElem?_pos, go_sem, hP, wk, d1, t1, t17, k0, hjk, wj, s1, hx, cP, d2]
          refine ⟨l.length - (k + 1), by omega, ?_⟩
          rw [hI]
          exact ⟨k + 1, p.Day, by omega, rfl, hq, by omega, prev_day hp, by simp -dsimp -implicitDefEqProofs [-getElem?_pos, go_sem, t1], by simp -dsimp -implicitDefEqProofs [-getElem?_pos, go_sem, t15], by simp -dsimp -implicitDefEqProofs [-getElem?_pos, go_sem, t16], by simp -dsimp -implicitDefEqProofs [-getElem?_pos, go_sem], by simp -dsimp -implicitDefEqProofs [-getElem?_pos, go_sem, g0]⟩
        · have d2 : decide (p.Day < x.Day) = true := decide_eq_true (by omega)
          rw [decide_eq_false c2, Bool.false_and] at hq
          have : checkL l = 86 := by rw [tc, hq]; rfl
          simp -dsimp -implicitDefEqProofs [-getElem?_pos, go_sem, hP, wk, d1, t1, k0, hjk, wj, s1, hx, cP, d2, this]
    · have d1 : decide (p.Number = (k : Int) + 1) = false := decide_eq_false c1
      rw [d1, Bool.false_and] at hq
      have : checkL l = 86 := by rw [tc, hq]; rfl
      simp -dsimp -implicitDefEqProofs [-getElem?_pos, go_sem, hP, wk, d1, this]
  · have hk : k = l.length := by simp at h; omega
    subst hk
    rw [List.drop_length, seqFrom] at hq
    have : checkL l = 0 := by rw [tc, hq]; rfl
    simp -dsimp -implicitDefEqProofs [-getElem?_pos, go_sem, hP, this]
theorem lastD_nil : lastP [] = 0 := rfl
theorem lastD_get {l : List TPosting} {k : Nat} {p : TPosting} (h : l.length = k + 1) (hp : l[k]? = some p) : lastP l = p.Day := by
  rw [lastP, List.getLast?_eq_getElem?, h]
  simp [hp]
theorem llast_pf (l : TLedger) (hl : l.Postings.length ≤ 100000) : PFun Tryz.prog none none 24 [.agg l.cells] (· = iv (lastP l.Postings)) := by
  refine pfun_intro Tryz.func24 rfl (by simp [Tryz.f24]) (by kernel_rfl) ?_
  intro E hP hr hs hW hN
  obtain ⟨l⟩ := l
  simp only at hl
  by_cases h0 : l.length = 0
  · have : l = [] := List.eq_nil_of_length_eq_zero h0
    subst this
    simp -dsimp -implicitDefEqProofs [-getElem?_pos, go_sem, hP, cL, lastD_nil]
  · obtain ⟨k, hk⟩ : ∃ k, l.length = k + 1 := ⟨l.length - 1, by omega⟩
    obtain ⟨p, hp⟩ : ∃ p, l[k]? = some p := ⟨_, List.getElem?_eq_getElem (by omega)⟩
    have d0 : decide ((0 : Int) < (k : Int) + 1) = true := by simp
    have d1 : (0 : Int) < (k : Int) + 1 := by omega
    have wk := wrap_in ((k : Int) + 1 - 1) (by omega)
    rw [Int.add_sub_cancel] at wk
    have := lastD_get hk hp
    simp -dsimp -implicitDefEqProofs [-getElem?_pos, go_sem, hP, cL, hk, d0, d1, Int.add_sub_cancel, wk, hp, cP, this]
abbrev zeroL : TLedger := ⟨[]⟩
def postL (l : List TPosting) (p : TPosting) : List TPosting × Int :=
  if checkL l = 0 then
    if postB p = false then ([], 85) else if l.length = 400 then ([], 3) else if ¬ p.Number = (l.length : Int) + 1 then ([], 65) else if p.Day < lastP l then ([], 8) else (l ++ [p], 0)
  else ([], checkL l)
theorem done_zeroL {H : Heap} {n : Int} {Q : AV → Prop} {b : Bx Q} (h : Q (.tup [.agg zeroL.cells, iv n])) : Done H (.tup [.agg [.nil], iv n]) Q b :=
  done_agg2 (cw_nil .nil) h
set_option maxHeartbeats 1000000 in
theorem lpost_pf (l : TLedger) (p : TPosting) (hl : l.Postings.length ≤ 100000) : PFun Tryz.prog none none 8 [.agg l.cells, .agg p.cells] (· = .tup [.agg (TLedger.mk (postL l.Postings p).1).cells, iv (postL l.Postings p).2]) := by
  refine pfun_intro Tryz.func8 rfl (by simp [Tryz.f8]) (by kernel_rfl) ?_
  intro E hP hr hs hW hN
  have ck := lcheck_pf l hl
  have la := llast_pf l hl
  have po := posting_pf p
  obtain ⟨l⟩ := l
  simp only at hl ck la
  rw [cL] at ck la
  rw [cP] at po
  have ip := imm_posts l
  have ipp : Imm (.agg [iv p.Number, iv p.Day, iv p.Entity, iv p.Debit, iv p.Credit, iv p.Amount, iv p.Partner, iv p.Ref]) := imm_agg.2 p.imm
  simp -dsimp -implicitDefEqProofs [-getElem?_pos, go_sem, hP, cL, cP]
  refine callB_is (ck.lift _ _) hP en_22 (by simp [ip, imm_agg]) .sc ?_
  by_cases c1 : checkL l = 0
  rotate_left
  · have : postL l p = ([], checkL l) := by rw [postL, if_neg c1]
    simp -dsimp -implicitDefEqProofs [-getElem?_pos, go_sem, hP, c1]
    refine done_zeroL ?_
    rw [this]
  obtain ⟨k1, k2, k3⟩ := checkL_ok c1
  simp -dsimp -implicitDefEqProofs [-getElem?_pos, go_sem, hP, c1]
  refine callB_is (po.lift _ _) hP en_23 (by simp [ipp]) .sc ?_
  cases c2 : postB p
  · have : postL l p = ([], 85) := by rw [postL, if_pos c1, if_pos c2]
    simp -dsimp -implicitDefEqProofs [-getElem?_pos, go_sem, hP, c2]
    refine done_zeroL ?_
    rw [this]
  have c2' : ¬ postB p = false := by simp [c2]
  by_cases c3 : l.length = 400
  · have : postL l p = ([], 3) := by rw [postL, if_pos c1, if_neg c2', if_pos c3]
    simp -dsimp -implicitDefEqProofs [-getElem?_pos, go_sem, hP, c2, c3]
    refine done_zeroL ?_
    rw [this]
  have d3 : decide ((l.length : Int) = 400) = false := by simp; omega
  have wk := wrap_in ((l.length : Int) + 1) (by omega)
  by_cases c4 : p.Number = (l.length : Int) + 1
  rotate_left
  · have : postL l p = ([], 65) := by rw [postL, if_pos c1, if_neg c2', if_neg c3, if_pos c4]
    have d4 : decide (p.Number = (l.length : Int) + 1) = false := decide_eq_false c4
    simp -dsimp -implicitDefEqProofs [-getElem?_pos, go_sem, hP, c2, d3, wk, d4]
    refine done_zeroL ?_
    rw [this]
  have d4 : decide (p.Number = (l.length : Int) + 1) = true := decide_eq_true c4
  simp -dsimp -implicitDefEqProofs [-getElem?_pos, go_sem, hP, c2, d3, wk, d4]
  refine adrawB (fun _ => true) [] hP (by kernel_rfl) (by kernel_rfl) ?_
  simp -dsimp -implicitDefEqProofs [-getElem?_pos, go_sem, hP]
  refine callB_is (la.lift _ _) hP en_24 (by simp [ip, imm_agg]) .sc ?_
  by_cases c5 : p.Day < lastP l
  · have : postL l p = ([], 8) := by rw [postL, if_pos c1, if_neg c2', if_neg c3, if_neg (by simp [c4]), if_pos c5]
    have d5 : decide (p.Day < lastP l) = true := decide_eq_true c5
    simp -dsimp -implicitDefEqProofs [-getElem?_pos, go_sem, hP, d5]
    refine done_zeroL ?_
    rw [this]
  have pA : postL l p = (l ++ [p], 0) := by rw [postL, if_pos c1, if_neg c2', if_neg c3, if_neg (by simp [c4]), if_neg c5]
  have d5 : decide (p.Day < lastP l) = false := decide_eq_false c5
  simp -dsimp -implicitDefEqProofs [-getElem?_pos, go_sem, hP, d5]
  refine adrawB (fun i => decide (i < 2)) [7] hP (by kernel_rfl) (by kernel_rfl) ?_
  simp -dsimp -implicitDefEqProofs [-getElem?_pos, go_sem, hP]
  obtain ⟨H2, hH2⟩ : ∃ H2 : Heap, H2 = [some ⟨33, 1, [[postsL l]]⟩, some ⟨36, 8, [[iv p.Number, iv p.Day, iv p.Entity, iv p.Debit, iv p.Credit, iv p.Amount, iv p.Partner, iv p.Ref]]⟩, some ⟨33, 1, [[.nil]]⟩] := ⟨_, rfl⟩
  have b0 : H2[0]? = some (some ⟨33, 1, [[postsL l]]⟩) := by rw [hH2]; rfl
  have b1 : H2[1]? = some (some ⟨36, 8, [[iv p.Number, iv p.Day, iv p.Entity, iv p.Debit, iv p.Credit, iv p.Amount, iv p.Partner, iv p.Ref]]⟩) := by rw [hH2]; rfl
  have b2 : H2[2]? = some (some ⟨33, 1, [[.nil]]⟩) := by rw [hH2]; rfl
  simp only [← hH2]
  refine callB_m (by rw [hr, hs]; exact clone_m_posting l H2 (by omega)) hP en_25 ?_
  rintro r H3 ⟨id, rfl, hid, ho3, hk3⟩
  have l2 : H2.length = 3 := by rw [hH2]; rfl
  have e0 := hk3 _ _ (by simp) b0
  have e1 := hk3 _ _ (by simp) b1
  have e2 := hk3 _ _ (by simp) b2
  have n1 := (List.getElem?_eq_some_iff.1 e1).1
  have n2 := (List.getElem?_eq_some_iff.1 e2).1
  have n3 := (List.getElem?_eq_some_iff.1 ho3).1
  have ne2 : ¬ id = 2 := by omega
  simp -dsimp -implicitDefEqProofs [-getElem?_pos, go_sem, hP, e1, n1, ho3, n3, e2, n2, ne2]
  have en : encL TPosting.cells l ++ [[iv p.Number, iv p.Day, iv p.Entity, iv p.Debit, iv p.Credit, iv p.Amount, iv p.Partner, iv p.Ref]] = encL TPosting.cells (l ++ [p]) := encL_snoc TPosting.cells l p
  have D : ∀ i, decide (i < 2) = true → i < H2.length ∧ i ≠ id := fun i hi => by
    simp only [decide_eq_true_eq] at hi
    omega
  refine ⟨hH2 ▸ agree_live hk3 fun i hi => ⟨by simp, ?_⟩, by omega, by omega, fun i hi => ?_, ?_⟩
  · simp only [decide_eq_true_eq] at hi
    rcases i with _ | _ | i
    · exact ⟨_, b0⟩
    · exact ⟨_, b1⟩
    · omega
  · obtain ⟨h1, h2⟩ := D i hi
    rw [List.getElem?_append_left (by simp; omega), List.getElem?_set_ne (Ne.symm h2)]
  refine done_agg2 (cs' := [postsL (l ++ [p])]) (cw_sref (ty := 36) ?_ (by simp [encL]) (imm_posts _) .nil) ?_
  · rw [List.getElem?_append_right (by simp)]
    simp [en]
  · rw [pA]
    rfl
def turnP (p : TPosting) (number day : Int) : TPosting := { p with Number := number, Day := day, Debit := p.Credit, Credit := p.Debit }
theorem turn_pf (p : TPosting) (number day : Int) : PFun Tryz.prog none none 31 [.agg p.cells, iv number, iv day] (· = .agg (turnP p number day).cells) := by
  refine pfun_intro Tryz.func31 rfl (by simp [Tryz.f31]) (by kernel_rfl) ?_
  intro E hP hr hs hW hN
  simp -dsimp -implicitDefEqProofs [-getElem?_pos, go_sem, hP, cP]
  exact done_imm (imm_agg.2 (turnP p number day).imm) rfl
open Go.PA
open Go.RowKit
abbrev ofF (e from_ to : Int) : AV := .fn 110 [.iref [iv e], .iref [iv from_], .iref [iv to]]
theorem imm_of (e from_ to : Int) : Imm (ofF e from_ to) := by simp [imm_fn, imm_iref, imm_sc]
theorem of_pf (e from_ to : Int) : PFun Tryz.prog none none 75 [iv e, iv from_, iv to] (· = ofF e from_ to) := by
  refine pfun_intro Tryz.func75 rfl (by simp [Tryz.f75]) (by kernel_rfl) ?_
  intro E hP hr hs hW hN
  simp -dsimp -implicitDefEqProofs [-getElem?_pos, go_sem, hP]
  exact done (by simp -dsimp -implicitDefEqProofs [-getElem?_pos, go_sem]) rfl (by simp -dsimp -implicitDefEqProofs [-getElem?_pos, go_sem])
theorem counts_pf (p : TPosting) (e from_ to : Int) : PFun Tryz.prog none none 110 [.agg p.cells, .iref [iv e], .iref [iv from_], .iref [iv to]] (· = bv (ofB e from_ to p)) := by
  refine pfun_intro Tryz.func110 rfl (by simp [Tryz.f110]) (by kernel_rfl) ?_
  intro E hP hr hs hW hN
  have hb : ofB e from_ to p = ((decide (e = 0) || decide (p.Entity = e)) && betw p.Day from_ to) := rfl
  rw [hb]
  by_cases h1 : e = 0
  · subst h1
    simp -dsimp -implicitDefEqProofs [-getElem?_pos, go_sem, hP, cP]
    refine callB_pure (ramong_pf p.Day from_ to) hP en_21 (args_same (by simp -dsimp -implicitDefEqProofs [-getElem?_pos, go_sem])) .sc ?_
    simp -dsimp -implicitDefEqProofs [-getElem?_pos, go_sem, hP]
  by_cases h2 : p.Entity = e
  · have d1 : decide (e = 0) = false := decide_eq_false h1
    have d2 : decide (p.Entity = e) = true := decide_eq_true h2
    rw [d1, d2]
    simp -dsimp -implicitDefEqProofs [-getElem?_pos, go_sem, hP, cP, d1, d2]
    refine callB_pure (ramong_pf p.Day from_ to) hP en_21 (args_same (by simp -dsimp -implicitDefEqProofs [-getElem?_pos, go_sem])) .sc ?_
    simp -dsimp -implicitDefEqProofs [-getElem?_pos, go_sem, hP]
  · have d1 : decide (e = 0) = false := decide_eq_false h1
    have d2 : decide (p.Entity = e) = false := decide_eq_false h2
    rw [d1, d2]
    simp -dsimp -implicitDefEqProofs [-getElem?_pos, go_sem, hP, cP, d1, d2]
set_option maxHeartbeats 1000000 in
theorem books_pf (l : List TPosting) (e from_ to : Int) (hl : FineL l) : PFun Tryz.prog none none 33 [postsL l, ofF e from_ to] (· = .imap (imK valI (books ((ofB e from_ to)) l))) := by
  refine pfun_intro Tryz.func33 rfl (by simp [Tryz.f33]) (by kernel_rfl) ?_
  intro E hP hr hs hW hN
  have ip := imm_posts l
  obtain ⟨f, hf⟩ : ∃ f, f = (ofB e from_ to) := ⟨_, rfl⟩
  obtain ⟨h1, h2⟩ := hl
  rw [← hf]
  simp -dsimp -implicitDefEqProofs [-getElem?_pos, go_sem, hP]
  obtain ⟨I, hI⟩ : ∃ I : Nat → St → Prop, I = fun m s => ∃ k : Nat, k ≤ l.length ∧ m = l.length - k ∧ s.t 1 = ofF e from_ to ∧ s.t 5 = .mref 0 ∧ s.t 9 = postsL l ∧ s.t 10 = iv l.length ∧ s.t 11 = iv k ∧ s.H[0]? = some (some ⟨0, 2, encK valI (books f (l.take k))⟩) := ⟨_, rfl⟩
  refine aloop0 I (l.length) (by rw [hN]; rfl) ?_ ?_
  · rw [hI]
    exact ⟨0, by omega, by omega, by simp -dsimp -implicitDefEqProofs [-getElem?_pos, go_sem], by simp -dsimp -implicitDefEqProofs [-getElem?_pos, go_sem], by simp -dsimp -implicitDefEqProofs [-getElem?_pos, go_sem], by simp -dsimp -implicitDefEqProofs [-getElem?_pos, go_sem], by simp -dsimp -implicitDefEqProofs [-getElem?_pos, go_sem], by simp -dsimp -implicitDefEqProofs [-getElem?_pos, go_sem, List.take_zero]; rfl⟩
  intro m s hs'
  rw [hI] at hs'
  obtain ⟨k, hk, hm, t1, t5, t9, t10, t11, hH⟩ := hs'
  have hlt := (List.getElem?_eq_some_iff.1 hH).1
  simp -dsimp -implicitDefEqProofs [-getElem?_pos, go_sem, hP, t10, t11]
  refine condP (fun h => ?_) (fun h => ?_)
  · have hk : k < l.length := by simpa using h
    obtain ⟨p, hp⟩ : ∃ p, l[k]? = some p := ⟨_, List.getElem?_eq_getElem hk⟩
    have hfp := h1 p (List.mem_of_getElem? hp)
    have wk := wrap_in ((k : Int) + 1) (by omega)
    have nx : books f (l.take (k + 1)) = if f p = true then bookP (books f (l.take k)) p else books f (l.take k) := by rw [List.take_add_one, hp]; exact books_snoc _ _ _
    have hab := books_abs f (l.take k) fun q hq => h1 q (List.mem_of_mem_take hq)
    have hlen : (l.take k).length = k := by simp; omega
    rw [hlen] at hab
    generalize books f (l.take k) = M at nx hab hH
    have hamt := hfp.amt
    have b1 := getZ_abs M p.Debit
    have b2 := absM_put p.Debit p.Amount M
    rw [if_neg (by omega)] at b2
    have w1 := wrap_in (getZ M p.Debit + p.Amount) (by omega)
    obtain ⟨M1, hM1⟩ : ∃ M1, M1 = putM M p.Debit (getZ M p.Debit + p.Amount) := ⟨_, rfl⟩
    have b3 := getZ_abs M1 p.Credit
    rw [← hM1] at b2
    have w2 : IntKind.i64.wrap (getZ M1 p.Credit - p.Amount) = getZ M1 p.Credit + -p.Amount := by rw [wrap_in _ (by omega)]; omega
    have nx1 : bookP M p = putM M1 p.Credit (getZ M1 p.Credit + -p.Amount) := by rw [bookP, ← hM1]
    have g0 : ∀ x : Option AObj, (s.H ++ [x])[0]? = some (some ⟨0, 2, encK valI M⟩) := fun x => by rw [List.getElem?_append_left hlt]; exact hH
    simp -dsimp -implicitDefEqProofs [-getElem?_pos, go_sem, hP, t9, t11, t1, hp, cP]
    refine callB_is ((counts_pf p e from_ to).lift _ _) hP en_110 (by simp [imm_iref, imm_sc, imm_agg]) .sc ?_
    rw [← hf]
    cases hc : f p
    · rw [hc, if_neg (by simp)] at nx
      simp -dsimp -implicitDefEqProofs [-getElem?_pos, go_sem, hP, t11, wk]
      refine ⟨l.length - (k + 1), by omega, ?_⟩
      rw [hI]
      exact ⟨k + 1, by omega, rfl, by simp -dsimp -implicitDefEqProofs [-getElem?_pos, go_sem, t1], by simp -dsimp -implicitDefEqProofs [-getElem?_pos, go_sem, t5], by simp -dsimp -implicitDefEqProofs [-getElem?_pos, go_sem, t9], by simp -dsimp -implicitDefEqProofs [-getElem?_pos, go_sem, t10], by simp -dsimp -implicitDefEqProofs [-getElem?_pos, go_sem], by rw [nx]; simp -dsimp -implicitDefEqProofs [-getElem?_pos, go_sem, g0]⟩
    · rw [hc, if_pos rfl, nx1] at nx
      have r1 := fun x => @heap_set_at s.H x 0 hlt
      have r0 := fun x => @heap_set_self s.H x 0 hlt
      simp -dsimp -implicitDefEqProofs [-getElem?_pos, go_sem, hP, t11, t5, wk, g0, w1, ← hM1, r1, r0, w2]
      refine ⟨l.length - (k + 1), by omega, ?_⟩
      rw [hI]
      exact ⟨k + 1, by omega, rfl, by simp -dsimp -implicitDefEqProofs [-getElem?_pos, go_sem, t1], by simp -dsimp -implicitDefEqProofs [-getElem?_pos, go_sem, t5], by simp -dsimp -implicitDefEqProofs [-getElem?_pos, go_sem, t9], by simp -dsimp -implicitDefEqProofs [-getElem?_pos, go_sem, t10], by simp -dsimp -implicitDefEqProofs [-getElem?_pos, go_sem], by rw [nx]; simp -dsimp -implicitDefEqProofs [-getElem?_pos, go_sem, r0]⟩
  · have hk : k = l.length := by simp at h; omega
    subst hk
    rw [List.take_length] at hH
    simp -dsimp -implicitDefEqProofs [-getElem?_pos, go_sem, hP, t5]
    refine done (by simp -dsimp -implicitDefEqProofs [-getElem?_pos, go_sem, hH]) rfl (by simp -dsimp -implicitDefEqProofs [-getElem?_pos, go_sem, hH])
def ofL (l : List TPosting) (e a day : Int) : Int := if checkL l = 0 then bal (ofB e 0 day) l a else 0
theorem of2_pf (l : TLedger) (e a day : Int) (hl : l.Postings.length ≤ 100000) : PFun Tryz.prog none none 41 [.agg l.cells, iv e, iv a, iv day] (· = iv (ofL l.Postings e a day)) := by
  refine pfun_intro Tryz.func41 rfl (by simp [Tryz.f41]) (by kernel_rfl) ?_
  intro E hP hr hs hW hN
  have ck := lcheck_pf l hl
  obtain ⟨l⟩ := l
  simp only at hl ck
  rw [cL] at ck
  have ip := imm_posts l
  simp -dsimp -implicitDefEqProofs [-getElem?_pos, go_sem, hP, cL]
  refine callB_is (ck.lift _ _) hP en_22 (by simp [ip, imm_agg]) .sc ?_
  by_cases c1 : checkL l = 0
  rotate_left
  · have : ofL l e a day = 0 := if_neg c1
    simp -dsimp -implicitDefEqProofs [-getElem?_pos, go_sem, hP, c1, this]
  have fl := checkL_fine c1
  have hof : (getM (books (ofB e 0 day) l) a).getD 0 = ofL l e a day := by rw [ofL, if_pos c1]; exact books_get _ _ _
  simp -dsimp -implicitDefEqProofs [-getElem?_pos, go_sem, hP, c1]
  refine adrawB (fun _ => true) [] hP (by kernel_rfl) (by kernel_rfl) ?_
  simp -dsimp -implicitDefEqProofs [-getElem?_pos, go_sem, hP]
  refine callB_is ((of_pf e 0 day).lift _ _) hP en_75 (by simp [imm_sc]) (imm_of _ _ _) ?_
  simp -dsimp -implicitDefEqProofs [-getElem?_pos, go_sem, hP]
  refine callB_is ((books_pf l e 0 day fl).lift _ _) hP en_33 (by simp [ip, imm_fn, imm_iref, imm_sc]) .imap ?_
  simp -dsimp -implicitDefEqProofs [-getElem?_pos, go_sem, hP, hof]
open Go.PA
open Go.RowKit
theorem seqFrom_snoc (q : TPosting) : ∀ (l : List TPosting) (k : Nat) (d : Int), seqFrom k d (l ++ [q]) = (seqFrom k d l && (decide (q.Number = ((k + l.length : Nat) : Int) + 1) && decide ((l.getLast?.map (·.Day)).getD d ≤ q.Day)))
  | [], k, d => by simp [seqFrom]; rfl
  | p :: l, k, d => by
    have ih := seqFrom_snoc q l (k + 1) p.Day
    have e1 : (((p :: l).getLast?.map (·.Day)).getD d) = (l.getLast?.map (·.Day)).getD p.Day := by
      cases l with
      | nil => rfl
      | cons b l =>
        rw [List.getLast?_cons_cons]
        rw [List.getLast?_eq_some_getLast (by simp)]
        rfl
    rw [List.cons_append, seqFrom, ih, seqFrom, e1, List.length_cons, show k + 1 + l.length = k + (l.length + 1) from by omega]
    simp only [Bool.and_assoc]
theorem postL_ok {l : List TPosting} {q : TPosting} (h : (postL l q).2 = 0) : checkL l = 0 ∧ PostOk q ∧ q.Number = (l.length : Int) + 1 ∧ lastP l ≤ q.Day ∧ l.length < 400 ∧ (postL l q).1 = l ++ [q] ∧ checkL (l ++ [q]) = 0 := by
  unfold postL at h ⊢
  by_cases c1 : checkL l = 0
  rotate_left
  · rw [if_neg c1] at h; exact absurd h c1
  rw [if_pos c1] at h ⊢
  split at h
  · cases h
  rename_i c2
  split at h
  · cases h
  rename_i c3
  split at h
  · cases h
  rename_i c4
  split at h
  · cases h
  rename_i c5
  rw [if_neg c2, if_neg c3, if_neg c4, if_neg c5]
  obtain ⟨k1, k2, k3⟩ := checkL_ok c1
  have hq : PostOk q := (postB_iff q).1 (by simpa using c2)
  have c4' : q.Number = (l.length : Int) + 1 := by omega
  refine ⟨c1, hq, c4', by omega, by omega, rfl, ?_⟩
  have hl : (l ++ [q]).length = l.length + 1 := by simp
  rw [checkL, if_neg (by omega), if_neg, if_pos]
  · rw [seqFrom_snoc, k3, Bool.true_and, decide_eq_true (by rw [c4']; simp), Bool.true_and]
    exact decide_eq_true (by have : lastP l ≤ q.Day := by omega
                             exact this)
  · intro h
    obtain ⟨p, hp, hb⟩ := List.any_eq_true.1 h
    rcases List.mem_append.1 hp with hp | hp
    · rw [(postB_iff p).2 (k2 p hp)] at hb; cases hb
    · simp at hp; subst hp
      rw [(postB_iff p).2 hq] at hb; cases hb
theorem postL_good {l : List TPosting} {q : TPosting} (h : checkL l = 0) (hq : PostOk q) (hn : q.Number = (l.length : Int) + 1) (hd : lastP l ≤ q.Day) (hl : l.length < 400) : postL l q = (l ++ [q], 0) := by
  rw [postL, if_pos h, if_neg (by rw [(postB_iff q).2 hq]; simp), if_neg (by omega), if_neg (by omega), if_neg (by omega)]
open Go.PA
open Go.RowKit
theorem netP_congr {q : Int → Bool} {f g : TPosting → Bool} : ∀ {l : List TPosting}, (∀ p, p ∈ l → f p = g p) → netP q f l = netP q g l
  | [], _ => rfl
  | p :: l, h => by
    have ih := netP_congr (q := q) (f := f) (g := g) (l := l) fun p hp => h p (by simp [hp])
    simp only [netP, ih, h p (by simp)]
theorem drop_get {α : Type} {l : List α} {k : Nat} {e : α} (h : l[k]? = some e) : l.drop k = e :: l.drop (k + 1) := by
  obtain ⟨hk, he⟩ := List.getElem?_eq_some_iff.1 h
  rw [List.drop_eq_getElem_cons hk, he]
open Go.PA
def amongB (n lo hi : Int) : Bool := decide (lo ≤ n) && decide (n ≤ hi)
theorem amongB_iff {n lo hi : Int} : amongB n lo hi = true ↔ lo ≤ n ∧ n ≤ hi := by simp [amongB]
def vB (n : Int) : Bool := amongB n 0 1000000000000
def ascA : Int → List Int → Bool
  | _, [] => true
  | p, i :: l => amongB i 1 1000 && (decide (p < i) && ascA i l)
def numB (ids : List Int) : Bool := ascA 0 ids && decide (ids.head? = some 1)
def ids (l : List TSub) : List Int := l.map (·.ID)
theorem ids_len (l : List TSub) : (ids l).length = l.length := by simp [ids]
theorem ids_get (l : List TSub) (i : Nat) : (ids l)[i]? = (l[i]?).map (·.ID) := by simp [ids]
theorem ascA_gt : ∀ (l : List Int) (p : Int), ascA p l = true → ∀ i, i ∈ l → p < i ∧ 1 ≤ i ∧ i ≤ 1000
  | [], p, _, i, hi => by simp at hi
  | a :: l, p, h, i, hi => by
    simp only [ascA, Bool.and_eq_true, amongB_iff, decide_eq_true_eq] at h
    rcases List.mem_cons.1 hi with rfl | hi
    · exact ⟨h.2.1, h.1⟩
    · have := ascA_gt l a h.2.2 i hi
      omega
theorem ascA_nodup : ∀ (l : List Int) (p : Int), ascA p l = true → l.Nodup
  | [], p, _ => List.nodup_nil
  | a :: l, p, h => by
    simp only [ascA, Bool.and_eq_true, amongB_iff, decide_eq_true_eq] at h
    refine List.nodup_cons.2 ⟨fun hm => ?_, ascA_nodup l a h.2.2⟩
    have := ascA_gt l a h.2.2 a hm
    omega
def adj (l : List TSub) (id amt : Int) : List TSub := l.map fun s => if s.ID = id then ⟨s.ID, s.Balance + amt⟩ else s
theorem adj_len (l : List TSub) (id amt : Int) : (adj l id amt).length = l.length := by simp [adj]
theorem adj_ids (l : List TSub) (id amt : Int) : ids (adj l id amt) = ids l := by
  simp only [ids, adj, List.map_map]
  apply List.map_congr_left
  intro s _
  simp only [Function.comp]
  split <;> rfl
theorem adj_none {l : List TSub} {id amt : Int} (h : id ∉ ids l) : adj l id amt = l := by
  have : ∀ s, s ∈ l → (if s.ID = id then (⟨s.ID, s.Balance + amt⟩ : TSub) else s) = s := fun s hs => by
    rw [if_neg]
    intro e
    exact h (List.mem_map.2 ⟨s, hs, e⟩)
  unfold adj
  rw [List.map_congr_left this]
  simp
theorem adj_get (l : List TSub) (id amt : Int) (i : Nat) : (adj l id amt)[i]? = (l[i]?).map fun s => if s.ID = id then ⟨s.ID, s.Balance + amt⟩ else s := by simp [adj]
theorem nodup_get {l : List TSub} (h : (ids l).Nodup) {i j : Nat} {a b : TSub} (hi : l[i]? = some a) (hj : l[j]? = some b) (e : a.ID = b.ID) : i = j := by
  have h1 : (ids l)[i]? = some a.ID := by rw [ids_get, hi]; rfl
  have h2 : (ids l)[j]? = some a.ID := by rw [ids_get, hj, e]; rfl
  exact (List.getElem?_inj (List.getElem?_eq_some_iff.1 h1).1 h).1 (h1.trans h2.symm)
theorem set_adj {l : List TSub} (hn : (ids l).Nodup) {i : Nat} {a : TSub} (hi : l[i]? = some a) (amt : Int) : l.set i ⟨a.ID, a.Balance + amt⟩ = adj l a.ID amt := by
  apply List.ext_getElem?
  intro j
  rw [adj_get, List.getElem?_set]
  by_cases hij : i = j
  · subst hij
    have := (List.getElem?_eq_some_iff.1 hi).1
    simp [-getElem?_pos, this, hi]
  · rw [if_neg hij]
    cases hj : l[j]? with
    | none => rfl
    | some b =>
      have : ¬ b.ID = a.ID := fun e => hij (nodup_get hn hi hj e.symm)
      simp [this]
def placeI (l : List TSub) (id : Int) : Int := idxI (fun s => decide (s.ID = id)) l
theorem placeI_spec (l : List TSub) (id : Int) : (placeI l id = -1 ∧ id ∉ ids l) ∨ ∃ (i : Nat) (a : TSub), l[i]? = some a ∧ a.ID = id ∧ placeI l id = (i : Int) ∧ id ∈ ids l := by
  rcases idxI_spec (fun s : TSub => decide (s.ID = id)) l with ⟨h1, h2⟩ | ⟨i, a, h1, h2, h3, _⟩
  · refine .inl ⟨h1, fun hm => ?_⟩
    obtain ⟨s, hs, e⟩ := List.mem_map.1 hm
    have := h2 s hs
    simp [e] at this
  · exact .inr ⟨i, a, h1, by simpa using h2, h3, List.mem_map.2 ⟨a, List.mem_of_getElem? h1, by simpa using h2⟩⟩
def okSub (credit : Int) (s : TSub) : Bool := decide ((if s.ID = 1 then -credit else 0) ≤ s.Balance) && decide (s.Balance ≤ 1000000000000000)
def okAt (credit : Int) (l : List TSub) (id : Int) : Bool := l.all fun s => !decide (s.ID = id) || okSub credit s
def okAll (credit : Int) (l : List TSub) : Bool := l.all (okSub credit)
theorem okAt_none {credit : Int} {l : List TSub} {id : Int} (h : id ∉ ids l) : okAt credit l id = true := by
  refine List.all_eq_true.2 fun s hs => ?_
  have : ¬ s.ID = id := fun e => h (List.mem_map.2 ⟨s, hs, e⟩)
  simp [this]
theorem okAt_get {credit : Int} {l : List TSub} (hn : (ids l).Nodup) {i : Nat} {a : TSub} (hi : l[i]? = some a) : okAt credit l a.ID = okSub credit a := by
  rw [Bool.eq_iff_iff, okAt, List.all_eq_true]
  constructor
  · intro h
    have := h a (List.mem_of_getElem? hi)
    simpa using this
  · intro h s hs
    obtain ⟨j, hj⟩ := List.getElem?_of_mem hs
    by_cases e : s.ID = a.ID
    · have := nodup_get hn hi hj e.symm
      subst this
      rw [hi] at hj
      simp only [Option.some.injEq] at hj
      subst hj
      simp [h]
    · simp [e]
def badNum (n : Int) (e : TEntry) : Bool := !decide (e.Number = n + 1)
def badDay (d : Int) (e : TEntry) : Bool := !amongB e.Day d 36000
def badAmt (e : TEntry) : Bool := !(decide (0 < e.Amount) && vB e.Amount) || !amongB e.Ref 0 1000000
def knownB (l : List TSub) (id : Int) : Bool := decide (id = 0) || decide (0 ≤ placeI l id)
theorem knownB_iff (l : List TSub) (id : Int) : knownB l id = true ↔ id = 0 ∨ id ∈ ids l := by
  unfold knownB
  rcases placeI_spec l id with ⟨h1, h2⟩ | ⟨i, a, _, _, h3, h4⟩
  · simp [h1, h2]
  · simp [h3, h4]
def badSub (l : List TSub) (e : TEntry) : Bool := decide (e.From = e.To) || (!knownB l e.From || !knownB l e.To)
def postS (credit n d : Int) (l : List TSub) (e : TEntry) : Int × List TSub :=
  if badNum n e = true then (65, l) else if badDay d e = true then (8, l) else if badAmt e = true then (2, l) else if badSub l e = true then (60, l) else
  if okAt credit (adj l e.From (-e.Amount)) e.From = false then (61, adj l e.From (-e.Amount)) else
  if okAt credit (adj (adj l e.From (-e.Amount)) e.To e.Amount) e.To = false then (61, adj (adj l e.From (-e.Amount)) e.To e.Amount) else (0, adj (adj l e.From (-e.Amount)) e.To e.Amount)
def replayS (credit : Int) : Int → Int → List TSub → List TEntry → Option (Int × Int × List TSub)
  | n, d, l, [] => some (n, d, l)
  | n, d, l, e :: es => if (postS credit n d l e).1 = 0 then replayS credit e.Number e.Day (postS credit n d l e).2 es else none
def zeroS (l : List TSub) : List TSub := l.map fun s => ⟨s.ID, 0⟩
theorem zeroS_ids (l : List TSub) : ids (zeroS l) = ids l := by simp [ids, zeroS]
theorem zeroS_len (l : List TSub) : (zeroS l).length = l.length := by simp [zeroS]
def checkA (a : TAccount) : Int :=
  if 20 < a.Subs.length ∨ 400 < a.Entries.length then 3 else if (!vB a.Credit || !numB (ids a.Subs)) = true then 62 else
  match replayS a.Credit 0 0 (zeroS a.Subs) a.Entries with
  | none => 62
  | some r => if r.2.2 = a.Subs then 0 else 62
theorem postS_ids (credit n d : Int) (l : List TSub) (e : TEntry) : ids (postS credit n d l e).2 = ids l := by
  unfold postS
  repeat' split
  all_goals simp [adj_ids]
theorem okAll_adj {credit : Int} {l : List TSub} {id amt : Int} (h : okAll credit l = true) (ha : okAt credit (adj l id amt) id = true) : okAll credit (adj l id amt) = true := by
  refine List.all_eq_true.2 fun s hs => ?_
  by_cases e : s.ID = id
  · have := List.all_eq_true.1 ha s hs
    simpa [e] using this
  · obtain ⟨t, ht, hst⟩ := List.mem_map.1 hs
    split at hst
    · rename_i h'
      subst hst
      exact absurd h' e
    · subst hst
      exact List.all_eq_true.1 h t ht
theorem postS_ok {credit n d : Int} {l : List TSub} {e : TEntry} (h : (postS credit n d l e).1 = 0) :
    e.Number = n + 1 ∧ d ≤ e.Day ∧ e.Day ≤ 36000 ∧ 0 < e.Amount ∧ e.Amount ≤ 1000000000000 ∧ 0 ≤ e.Ref ∧ e.Ref ≤ 1000000 ∧ e.From ≠ e.To ∧ (e.From = 0 ∨ e.From ∈ ids l) ∧ (e.To = 0 ∨ e.To ∈ ids l) ∧
      okAt credit (adj l e.From (-e.Amount)) e.From = true ∧ okAt credit (adj (adj l e.From (-e.Amount)) e.To e.Amount) e.To = true ∧ (postS credit n d l e).2 = adj (adj l e.From (-e.Amount)) e.To e.Amount := by
  unfold postS at h ⊢
  split at h
  · simp at h
  rename_i h1
  rw [if_neg h1]
  split at h
  · simp at h
  rename_i h2
  rw [if_neg h2]
  split at h
  · simp at h
  rename_i h3
  rw [if_neg h3]
  split at h
  · simp at h
  rename_i h4
  rw [if_neg h4]
  split at h
  · simp at h
  rename_i h5
  rw [if_neg h5]
  split at h
  · simp at h
  rename_i h6
  rw [if_neg h6]
  have h1 : e.Number = n + 1 := by simpa [badNum] using h1
  have h2 : d ≤ e.Day ∧ e.Day ≤ 36000 := by simpa [badDay, amongB] using h2
  have h3 : (0 < e.Amount ∧ (0 ≤ e.Amount ∧ e.Amount ≤ 1000000000000)) ∧ (0 ≤ e.Ref ∧ e.Ref ≤ 1000000) := by simpa [badAmt, vB, amongB] using h3
  have h4 : ¬ e.From = e.To ∧ (knownB l e.From = true ∧ knownB l e.To = true) := by simpa [badSub] using h4
  rw [knownB_iff, knownB_iff] at h4
  exact ⟨h1, h2.1, h2.2, h3.1.1, h3.1.2.2, h3.2.1, h3.2.2, h4.1, h4.2.1, h4.2.2, by simpa using h5, by simpa using h6, rfl⟩
theorem postS_all {credit n d : Int} {l : List TSub} {e : TEntry} (h : (postS credit n d l e).1 = 0) (hl : okAll credit l = true) : okAll credit (postS credit n d l e).2 = true := by
  obtain ⟨_, _, _, _, _, _, _, _, _, _, h1, h2, h3⟩ := postS_ok h
  rw [h3]
  exact okAll_adj (okAll_adj hl h1) h2
theorem zeroS_all {credit : Int} (hc : 0 ≤ credit) (l : List TSub) : okAll credit (zeroS l) = true := by
  refine List.all_eq_true.2 fun s hs => ?_
  obtain ⟨t, _, rfl⟩ := List.mem_map.1 hs
  simp [okSub]
  split <;> omega
theorem replayS_app (credit : Int) : ∀ (es es' : List TEntry) (n d : Int) (l : List TSub), replayS credit n d l (es ++ es') = (replayS credit n d l es).bind fun r => replayS credit r.1 r.2.1 r.2.2 es'
  | [], es', n, d, l => rfl
  | e :: es, es', n, d, l => by
    rw [List.cons_append, replayS, replayS]
    split
    · exact replayS_app credit es es' _ _ _
    · rfl
theorem replayS_keeps (credit : Int) : ∀ (es : List TEntry) (n d : Int) (l : List TSub) (r : Int × Int × List TSub), okAll credit l = true → replayS credit n d l es = some r →
    okAll credit r.2.2 = true ∧ ids r.2.2 = ids l ∧ r.1 = n + es.length ∧ d ≤ r.2.1 ∧ (d ≤ 36000 → r.2.1 ≤ 36000)
  | [], n, d, l, r, hl, h => by
    simp only [replayS, Option.some.injEq] at h
    subst h
    exact ⟨hl, rfl, by simp, Int.le_refl _, fun h => h⟩
  | e :: es, n, d, l, r, hl, h => by
    rw [replayS] at h
    split at h
    · rename_i hp
      obtain ⟨h1, h2, h3, _⟩ := postS_ok hp
      obtain ⟨a1, a2, a3, a4, a5⟩ := replayS_keeps credit es _ _ _ r (postS_all hp hl) h
      refine ⟨a1, a2.trans (postS_ids _ _ _ _ _), by rw [a3, h1, List.length_cons]; omega, by omega, fun _ => a5 h3⟩
    · cases h
open Go.PA
open Go.RowKit
theorem index_m_sub {row src : Option Nat} (l : List TSub) (x : AV) (H : Heap) (g : FuncId) (caps : List AV) (p : TSub → Bool) (hx : SlIs H x 2 (encL TSub.cells l)) (hl : l.length ≤ 1000000) (hen : enterable Tryz.prog g = true)
    (hg : ∀ a, a ∈ l → ∀ H', Kept [] H H' → MFun Tryz.prog row src g (.agg (TSub.cells a) :: caps) H' (fun r H'' => r = bv (p a) ∧ Kept [] H' H'')) :
    MFun Tryz.prog row src 207 [x, .fn g caps] H (fun r H' => r = iv (idxI p l) ∧ Kept [] H H') := by
  refine mfun_intro Tryz.func207 rfl (by simp [Tryz.f207]) (by kernel_rfl) ⟨_, H, rfl, kept_refl _ _⟩ ?_
  intro E hP hr hs hN
  have hlen := hx.len
  rw [encL_len] at hlen
  simp -dsimp -implicitDefEqProofs [-getElem?_pos, go_sem, hP, hlen]
  obtain ⟨I, hI⟩ : ∃ I : Nat → St → Prop, I = fun m s => ∃ k : Nat, k ≤ l.length ∧ m = l.length - k ∧ idxI p l = idxFrom p k (l.drop k) ∧ s.t 0 = x ∧ s.t 1 = .fn g caps ∧ s.t 7 = iv l.length ∧ s.t 8 = iv k ∧ Kept [] H s.H := ⟨_, rfl⟩
  refine aloop0 I l.length (by rw [hN]; rfl) ?_ ?_
  · rw [hI]
    exact ⟨0, by omega, by omega, by simp [idxI], by simp -dsimp -implicitDefEqProofs [-getElem?_pos, go_sem], by simp -dsimp -implicitDefEqProofs [-getElem?_pos, go_sem], by simp -dsimp -implicitDefEqProofs [-getElem?_pos, go_sem], by simp -dsimp -implicitDefEqProofs [-getElem?_pos, go_sem], by simp -dsimp -implicitDefEqProofs [-getElem?_pos, go_sem]; exact kept_refl _ _⟩
  intro m s hs'
  rw [hI] at hs'
  obtain ⟨k, hk, hm, hi, t0, t1, t7, t8, hKp⟩ := hs'
  simp -dsimp -implicitDefEqProofs [-getElem?_pos, go_sem, hP, t7, t8]
  refine condP (fun h => ?_) (fun h => ?_)
  · have hk : k < l.length := by simpa using h
    obtain ⟨a, ha⟩ : ∃ a, l[k]? = some a := ⟨_, List.getElem?_eq_getElem hk⟩
    have wk := wrap_in ((k : Int) + 1) (by omega)
    obtain ⟨ad, h1, h2⟩ := (hx.kept hKp).idx (P := Tryz.prog) (t := 25) (e := 96) el_25 (by rw [sz_96]) kn_96 k (by rw [encL_len]; exact hk)
    have h2' : addrCells s.H ad = some (TSub.cells a) := by
      rw [h2]
      have := encL_get TSub.cells l k
      rw [ha, List.getElem?_eq_getElem (by rw [encL_len]; exact hk)] at this
      exact this
    have hz : (TSub.cells a).take 2 = TSub.cells a := List.take_of_length_le (by rw [TSub.len]; omega)
    simp -dsimp -implicitDefEqProofs [-getElem?_pos, go_sem, hP, t8, t1, t0, h1, h2', TSub.len, hz]
    have hd : l.drop k = a :: l.drop (k + 1) := by
      rw [List.getElem?_eq_getElem hk] at ha
      rw [List.drop_eq_getElem_cons hk, Option.some.inj ha]
    refine callB_m (by rw [hr, hs]; exact hg a (List.mem_of_getElem? ha) s.H hKp) hP hen ?_
    rintro r H' ⟨rfl, hK2⟩
    rw [hd] at hi
    simp only [idxFrom] at hi
    simp -dsimp -implicitDefEqProofs [-getElem?_pos, go_sem, hP]
    refine condP (fun hp => ?_) (fun hp => ?_)
    · rw [if_pos hp] at hi
      simp -dsimp -implicitDefEqProofs [-getElem?_pos, go_sem, hP]
      exact ⟨hi.symm, hKp.trans hK2⟩
    · rw [hp, if_neg (by simp)] at hi
      simp -dsimp -implicitDefEqProofs [-getElem?_pos, go_sem, hP, t8, wk]
      refine ⟨l.length - (k + 1), by omega, ?_⟩
      rw [hI]
      exact ⟨k + 1, by omega, rfl, hi, by simp -dsimp -implicitDefEqProofs [-getElem?_pos, go_sem, t0], by simp -dsimp -implicitDefEqProofs [-getElem?_pos, go_sem, t1], by simp -dsimp -implicitDefEqProofs [-getElem?_pos, go_sem, t7], by simp -dsimp -implicitDefEqProofs [-getElem?_pos, go_sem], by simp -dsimp -implicitDefEqProofs [-getElem?_pos, go_sem]; exact hKp.trans hK2⟩
  · have hk : k = l.length := by simp at h; omega
    subst hk
    rw [List.drop_length] at hi
    simp -dsimp -implicitDefEqProofs [-getElem?_pos, go_sem, hP]
    exact ⟨hi.symm, hKp⟩
open Go.PA
open Go.RowKit
abbrev subsL (l : List TSub) : AV := .list 2 (encL TSub.cells l)
abbrev entsL (l : List TEntry) : AV := .list 6 (encL TEntry.cells l)
theorem imm_subs (l : List TSub) : Imm (subsL l) := imm_encL _ TSub.imm l
theorem imm_ents (l : List TEntry) : Imm (entsL l) := imm_encL _ TEntry.imm l
theorem imm_acc (a : TAccount) : Imm (.agg a.cells) := .agg fun c hc => a.imm c hc
theorem imm_ent (e : TEntry) : Imm (.agg e.cells) := .agg fun c hc => e.imm c hc
theorem valid01_pf (n : Int) : PFun Tryz.prog none none 43 [iv n] (· = bv (vB n)) := by
  refine pfun_intro Tryz.func43 rfl (by simp [Tryz.f43]) (by kernel_rfl) ?_
  intro E hP hr hs hW hN
  by_cases h1 : 0 ≤ n <;> by_cases h2 : n ≤ 1000000000000 <;> simp -dsimp -implicitDefEqProofs [-getElem?_pos, go_sem, hP, h1, h2, vB, amongB]
theorem day23_pf (n : Int) : PFun Tryz.prog none none 77 [iv n] (· = bv (amongB n 0 36000)) := by
  refine pfun_intro Tryz.func77 rfl (by simp [Tryz.f77]) (by kernel_rfl) ?_
  intro E hP hr hs hW hN
  by_cases h1 : 0 ≤ n <;> by_cases h2 : n ≤ 36000 <;> simp -dsimp -implicitDefEqProofs [-getElem?_pos, go_sem, hP, h1, h2, amongB]
theorem at_pf (l : List TSub) (id : Int) (hl : l.length ≤ 100000) : PFun Tryz.prog none none 79 [subsL l, iv id] (· = iv (placeI l id)) := by
  refine pfun_intro Tryz.func79 rfl (by simp [Tryz.f79]) (by kernel_rfl) ?_
  intro E hP hr hs hW hN
  simp -dsimp -implicitDefEqProofs [-getElem?_pos, go_sem, hP]
  obtain ⟨I, hI⟩ : ∃ I : Nat → St → Prop, I = fun m s => ∃ k : Nat, k ≤ l.length ∧ m = l.length - k ∧ placeI l id = idxFrom (fun s => decide (s.ID = id)) k (l.drop k) ∧ s.t 1 = iv id ∧ s.t 7 = subsL l ∧ s.t 8 = iv l.length ∧ s.t 9 = iv k := ⟨_, rfl⟩
  refine aloop0 I (l.length) (by rw [hN]; rfl) ?_ ?_
  · rw [hI]
    exact ⟨0, by omega, by omega, by simp [placeI, idxI], by simp -dsimp -implicitDefEqProofs [-getElem?_pos, go_sem], by simp -dsimp -implicitDefEqProofs [-getElem?_pos, go_sem], by simp -dsimp -implicitDefEqProofs [-getElem?_pos, go_sem], by simp -dsimp -implicitDefEqProofs [-getElem?_pos, go_sem]⟩
  intro m s hs'
  rw [hI] at hs'
  obtain ⟨k, hk, hm, hi, t1, t7, t8, t9⟩ := hs'
  simp -dsimp -implicitDefEqProofs [-getElem?_pos, go_sem, hP, t8, t9]
  refine condP (fun h => ?_) (fun h => ?_)
  · have hk : k < l.length := by simpa using h
    obtain ⟨a, ha⟩ : ∃ a, l[k]? = some a := ⟨_, List.getElem?_eq_getElem hk⟩
    have wk := wrap_in ((k : Int) + 1) (by omega)
    have hd : l.drop k = a :: l.drop (k + 1) := by
      rw [List.getElem?_eq_getElem hk] at ha
      rw [List.drop_eq_getElem_cons hk, Option.some.inj ha]
    rw [hd] at hi
    simp only [idxFrom] at hi
    simp -dsimp -implicitDefEqProofs [-getElem?_pos, go_sem, hP, t9, t7, t1, ha, TSub.cells]
    refine condP (fun hp => ?_) (fun hp => ?_)
    · rw [if_pos hp] at hi
      simp -dsimp -implicitDefEqProofs [-getElem?_pos, go_sem, hP]
      exact hi.symm
    · rw [if_neg (by simpa using hp)] at hi
      simp -dsimp -implicitDefEqProofs [-getElem?_pos, go_sem, hP, t9, wk]
      refine ⟨l.length - (k + 1), by omega, ?_⟩
      rw [hI]
      exact ⟨k + 1, by omega, rfl, hi, by simp -dsimp -implicitDefEqProofs [-getElem?_pos, go_sem, t1], by simp -dsimp -implicitDefEqProofs [-getElem?_pos, go_sem, t7], by simp -dsimp -implicitDefEqProofs [-getElem?_pos, go_sem, t8], by simp -dsimp -implicitDefEqProofs [-getElem?_pos, go_sem]⟩
  · have hk : k = l.length := by simp at h; omega
    subst hk
    rw [List.drop_length] at hi
    simp -dsimp -implicitDefEqProofs [-getElem?_pos, go_sem, hP]
    exact hi.symm
theorem empty_pf (l : List TSub) (hl : l.length ≤ 100000) : PFun Tryz.prog none none 125 [subsL l] (· = subsL (zeroS l)) := by
  refine pfun_intro Tryz.func125 rfl (by simp [Tryz.f125]) (by kernel_rfl) ?_
  intro E hP hr hs hW hN
  simp -dsimp -implicitDefEqProofs [-getElem?_pos, go_sem, hP]
  refine aloop_own 3 96 2 (by simp -dsimp -implicitDefEqProofs [-getElem?_pos, go_sem]) ?_
  obtain ⟨I, hI⟩ : ∃ I : Nat → St → Prop, I = fun m s => ∃ k id : Nat, k ≤ l.length ∧ m = l.length - k ∧ s.t 6 = subsL l ∧ s.t 7 = iv l.length ∧ s.t 8 = iv k ∧ s.t 3 = .sref id 0 k ∧ s.H[id]? = some (some ⟨96, 2, encL TSub.cells (zeroS (l.take k))⟩) := ⟨_, rfl⟩
  refine aloopF 3 hW I (l.length) (by rw [hN]; rfl) ?_ ?_
  · rw [hI]
    exact ⟨0, 0, by omega, by omega, by simp -dsimp -implicitDefEqProofs [-getElem?_pos, go_sem], by simp -dsimp -implicitDefEqProofs [-getElem?_pos, go_sem], by simp -dsimp -implicitDefEqProofs [-getElem?_pos, go_sem], by simp -dsimp -implicitDefEqProofs [-getElem?_pos, go_sem], by simp -dsimp -implicitDefEqProofs [-getElem?_pos, go_sem, zeroS]⟩
  intro m s hs'
  rw [hI] at hs'
  obtain ⟨k, id, hk, hm, t6, t7, t8, t3, hH⟩ := hs'
  have hlt := (List.getElem?_eq_some_iff.1 hH).1
  simp -dsimp -implicitDefEqProofs [-getElem?_pos, go_sem, hP, t7, t8]
  refine condP (fun h => ?_) (fun h => ?_)
  · have hk : k < l.length := by simpa using h
    obtain ⟨a, ha⟩ : ∃ a, l[k]? = some a := ⟨_, List.getElem?_eq_getElem hk⟩
    have wk := wrap_in ((k : Int) + 1) (by omega)
    have e1 : l.take (k + 1) = l.take k ++ [a] := by rw [List.take_add_one, ha]; rfl
    have hz : (zeroS (l.take k)).length = k := by rw [zeroS_len]; simp; omega
    have e2 := encL_take TSub.cells (zeroS (l.take k)) k hz.symm
    simp -dsimp -implicitDefEqProofs [-getElem?_pos, go_sem, hP, t8, t6, ha, TSub.cells, t3, hH, hlt, e2, hz, wk]
    refine ⟨by omega, by omega, l.length - (k + 1), by omega, ?_⟩
    rw [hI]
    refine ⟨k + 1, s.H.length + 1, by omega, rfl, by simp -dsimp -implicitDefEqProofs [-getElem?_pos, go_sem, t6], by simp -dsimp -implicitDefEqProofs [-getElem?_pos, go_sem, t7], by simp -dsimp -implicitDefEqProofs [-getElem?_pos, go_sem], by simp -dsimp -implicitDefEqProofs [-getElem?_pos, go_sem], ?_⟩
    simp -dsimp -implicitDefEqProofs [-getElem?_pos, go_sem, e1, zeroS, encL, TSub.cells]
  · have hk : k = l.length := by simp at h; omega
    subst hk
    rw [List.take_length] at hH
    simp -dsimp -implicitDefEqProofs [-getElem?_pos, go_sem, hP]
    refine frz id l.length 96 2 (encL TSub.cells (zeroS l)) (by simp -dsimp -implicitDefEqProofs [-getElem?_pos, go_sem, t3]) (by simp -dsimp -implicitDefEqProofs [-getElem?_pos, go_sem, hH]) (by simp [encL, zeroS]) (imm_subs _) ?_
    simp -dsimp -implicitDefEqProofs [-getElem?_pos, go_sem, hP]
    exact done_imm (imm_subs _) rfl
def addR (credit : Int) (l : List TSub) (last e : TEntry) : List TSub × Int := if (postS credit last.Number last.Day l e).1 = 0 then ((postS credit last.Number last.Day l e).2, 0) else ([], (postS credit last.Number last.Day l e).1)
theorem okSub_iff (credit : Int) (s : TSub) : okSub credit s = true ↔ (if s.ID = 1 then -credit else 0) ≤ s.Balance ∧ s.Balance ≤ 1000000000000000 := by simp [okSub]
theorem placeI_of {l : List TSub} (hn : (ids l).Nodup) {i : Nat} {a : TSub} (hi : l[i]? = some a) : placeI l a.ID = (i : Int) := by
  rcases placeI_spec l a.ID with ⟨_, h2⟩ | ⟨j, b, h1, h2, h3, _⟩
  · exact absurd (List.mem_map.2 ⟨a, List.mem_of_getElem? hi, rfl⟩) h2
  · rw [h3, nodup_get hn hi h1 h2.symm]
set_option maxHeartbeats 1000000 in
theorem add_pf (credit : Int) (l : List TSub) (last e : TEntry) (hl : l.length ≤ 100000) (hc : 0 ≤ credit ∧ credit ≤ 1000000000000) (hn : (ids l).Nodup) (h0 : 0 ∉ ids l) (hok : okAll credit l = true) (hln : -1000000000 ≤ last.Number ∧ last.Number ≤ 1000000000) (hld : 0 ≤ last.Day) :
    PFun Tryz.prog none none 46 [iv credit, subsL l, .agg last.cells, .agg e.cells] (· = .tup [subsL (addR credit l last e).1, iv (addR credit l last e).2]) := by
  refine pfun_intro Tryz.func46 rfl (by simp [Tryz.f46]) (by kernel_rfl) ?_
  intro E hP hr hs hW hN
  have w1 := wrap_in (last.Number + 1) (by omega)
  have fin : ∀ (n : Int) (H : Heap) (b), ¬ n = 0 → (postS credit last.Number last.Day l e).1 = n → Done H (.tup [.nil, iv n]) (· = .tup [subsL (addR credit l last e).1, iv (addR credit l last e).2]) b := fun n H b hn0 hp => by
    refine done_nil2 2 ?_
    unfold addR
    rw [if_neg (by rw [hp]; exact hn0), hp]
    simp [encL]
  by_cases h1 : e.Number = last.Number + 1
  rotate_left
  · have h1' : badNum last.Number e = true := by simpa [badNum] using h1
    simp -dsimp -implicitDefEqProofs [-getElem?_pos, go_sem, hP, TEntry.cells, w1, h1]
    exact fin 65 _ _ (by omega) (by rw [postS, if_pos h1'])
  have h1' : ¬ badNum last.Number e = true := by simpa [badNum] using h1
  by_cases h2 : e.Day < last.Day
  · have h2' : badDay last.Day e = true := by simp [badDay, amongB]; omega
    simp -dsimp -implicitDefEqProofs [-getElem?_pos, go_sem, hP, TEntry.cells, w1, h1, h2]
    exact fin 8 _ _ (by omega) (by rw [postS, if_neg h1', if_pos h2'])
  simp -dsimp -implicitDefEqProofs [-getElem?_pos, go_sem, hP, TEntry.cells, w1, h1, h2]
  refine callB_pure (day23_pf e.Day) hP en_77 (args_same (by simp -dsimp -implicitDefEqProofs [-getElem?_pos, go_sem])) .sc ?_
  by_cases h3 : amongB e.Day 0 36000 = true
  rotate_left
  · have h2' : badDay last.Day e = true := by simp [amongB] at h3; simp [badDay, amongB]; omega
    simp -dsimp -implicitDefEqProofs [-getElem?_pos, go_sem, hP, h3]
    exact fin 8 _ _ (by omega) (by rw [postS, if_neg h1', if_pos h2'])
  have h2' : ¬ badDay last.Day e = true := by simp [amongB] at h3; simp [badDay, amongB]; omega
  simp -dsimp -implicitDefEqProofs [-getElem?_pos, go_sem, hP, h3]
  refine callB_pure (valid01_pf e.Amount) hP en_43 (args_same (by simp -dsimp -implicitDefEqProofs [-getElem?_pos, go_sem])) .sc ?_
  have b3 : badAmt e = true ↔ ¬ (vB e.Amount = true ∧ ¬ e.Amount = 0 ∧ ¬ e.Ref < 0 ∧ ¬ 1000000 < e.Ref) := by
    simp [badAmt, vB, amongB]
    omega
  by_cases h4 : badAmt e = true
  · have f4 : ∀ (H : Heap) (b), Done H (.tup [.nil, iv 2]) (· = .tup [subsL (addR credit l last e).1, iv (addR credit l last e).2]) b := fun H b => fin 2 _ _ (by omega) (by rw [postS, if_neg h1', if_neg h2', if_pos h4])
    by_cases a1 : vB e.Amount = true
    rotate_left
    · simp -dsimp -implicitDefEqProofs [-getElem?_pos, go_sem, hP, a1]
      exact f4 _ _
    by_cases a2 : e.Amount = 0
    · have d2 : decide (e.Amount = 0) = true := by simpa using a2
      simp -dsimp -implicitDefEqProofs [-getElem?_pos, go_sem, hP, a1, d2]
      exact f4 _ _
    by_cases a3 : e.Ref < 0
    · simp -dsimp -implicitDefEqProofs [-getElem?_pos, go_sem, hP, a1, a2, a3]
      exact f4 _ _
    by_cases a4 : 1000000 < e.Ref
    · simp -dsimp -implicitDefEqProofs [-getElem?_pos, go_sem, hP, a1, a2, a3, a4]
      exact f4 _ _
    · exact absurd ⟨a1, a2, a3, a4⟩ (b3.1 h4)
  have h4' := h4
  rw [b3, Classical.not_not] at h4'
  have a1 := h4'.1
  have a2 := h4'.2.1
  have a3 := h4'.2.2.1
  have a4 := h4'.2.2.2
  clear h4'
  simp -dsimp -implicitDefEqProofs [-getElem?_pos, go_sem, hP, a1, a2, a3, a4]
  have b5 : badSub l e = true ↔ ¬ (¬ e.From = e.To ∧ (e.From = 0 ∨ 0 ≤ placeI l e.From) ∧ (e.To = 0 ∨ 0 ≤ placeI l e.To)) := by
    simp [badSub, knownB]
    grind
  by_cases a5 : e.From = e.To
  · have h5 : badSub l e = true := b5.2 fun h => h.1 a5
    have d5 : decide (e.From = e.To) = true := by simpa using a5
    simp -dsimp -implicitDefEqProofs [-getElem?_pos, go_sem, hP, d5]
    exact fin 60 _ _ (by omega) (by rw [postS, if_neg h1', if_neg h2', if_neg h4, if_pos h5])
  have f5 : ∀ (H : Heap) (b), badSub l e = true → Done H (.tup [.nil, iv 60]) (· = .tup [subsL (addR credit l last e).1, iv (addR credit l last e).2]) b := fun H b h5 => fin 60 _ _ (by omega) (by rw [postS, if_neg h1', if_neg h2', if_neg h4, if_pos h5])
  have iS := imm_subs l
  have two : ∀ (From : Int), From = 0 ∧ placeI l From = -1 ∨ ¬ From = 0 ∧ placeI l From = -1 ∨ ∃ (i : Nat) (a : TSub), ¬ From = 0 ∧ l[i]? = some a ∧ a.ID = From ∧ placeI l From = (i : Int) := fun From => by
    rcases placeI_spec l From with ⟨p1, p2⟩ | ⟨i, a, p1, p2, p3, p4⟩
    · by_cases hz : From = 0
      · exact .inl ⟨hz, p1⟩
      · exact .inr (.inl ⟨hz, p1⟩)
    · exact .inr (.inr ⟨i, a, fun hz => h0 (hz ▸ p4), p1, p2, p3⟩)
  have e0 := encL_take TSub.cells l l.length rfl
  have pS : postS credit last.Number last.Day l e = if badSub l e = true then (60, l) else if okAt credit (adj l e.From (-e.Amount)) e.From = false then (61, adj l e.From (-e.Amount)) else
      if okAt credit (adj (adj l e.From (-e.Amount)) e.To e.Amount) e.To = false then (61, adj (adj l e.From (-e.Amount)) e.To e.Amount) else (0, adj (adj l e.From (-e.Amount)) e.To e.Amount) := by
    rw [postS, if_neg h1', if_neg h2', if_neg h4]
  have okR : ∀ L, postS credit last.Number last.Day l e = (0, L) → addR credit l last e = (L, 0) := fun L h => by unfold addR; rw [h]; rfl
  have hamt : 0 ≤ e.Amount ∧ e.Amount ≤ 1000000000000 := by simpa [vB, amongB] using a1
  have okg : ∀ (i : Nat) (a : TSub), l[i]? = some a → okSub credit a = true := fun i a hi => List.all_eq_true.1 hok a (List.mem_of_getElem? hi)
  have bnd : ∀ (i : Nat) (a : TSub), l[i]? = some a → -1000000000000 ≤ a.Balance ∧ a.Balance ≤ 1000000000000000 := fun i a hi => by
    have := (okSub_iff _ _).1 (okg i a hi)
    split at this <;> omega
  have wneg := wrap_in (0 - credit) (by omega)
  rw [Int.zero_sub] at wneg
  rcases two e.From with ⟨z1, p1⟩ | ⟨z1, p1⟩ | ⟨i, a, z1, i1, ea, p1⟩
  · have d1 : decide (e.From = 0) = true := by simpa using z1
    have nf : adj l e.From (-e.Amount) = l := adj_none (z1 ▸ h0)
    have of : okAt credit l e.From = true := okAt_none (z1 ▸ h0)
    rcases two e.To with ⟨z2, p2⟩ | ⟨z2, p2⟩ | ⟨j, b, z2, jL, eb, p2⟩
    · exact absurd (z1.trans z2.symm) a5
    · have h5 : badSub l e = true := b5.2 fun h => by have := h.2.2; omega
      simp -dsimp -implicitDefEqProofs [-getElem?_pos, go_sem, hP, a5, d1, z2]
      refine callB_pure (at_pf l e.To hl) hP en_79 (args_imm iS (args_imm .sc (args_nil.2 trivial))) .sc ?_
      simp -dsimp -implicitDefEqProofs [-getElem?_pos, go_sem, hP, a5, d1, z2, p2]
      exact f5 _ _ h5
    · have h5 : badSub l e = false := by simpa using fun h => b5.1 h ⟨a5, .inl z1, .inr (by omega)⟩
      have ok1 : (if badSub l e = true then ((60 : Int), l) else if okAt credit (adj l e.From (-e.Amount)) e.From = false then (61, adj l e.From (-e.Amount)) else
          if okAt credit (adj (adj l e.From (-e.Amount)) e.To e.Amount) e.To = false then (61, adj (adj l e.From (-e.Amount)) e.To e.Amount) else (0, adj (adj l e.From (-e.Amount)) e.To e.Amount)) =
          if okAt credit (adj l e.To e.Amount) e.To = false then (61, adj l e.To e.Amount) else (0, adj l e.To e.Amount) := by
        rw [nf, of, h5]; simp
      have okb := okg j b jL
      have hb := bnd j b jL
      have wb := wrap_in (b.Balance + e.Amount) (by omega)
      have nL := hn
      have q2 := p2
      simp -dsimp -implicitDefEqProofs [-getElem?_pos, go_sem, hP, a5, d1, z2]
      refine callB_pure (at_pf l e.To hl) hP en_79 (args_imm iS (args_imm .sc (args_nil.2 trivial))) .sc ?_
      have d2 : decide ((j : Int) < 0) = false := by simp
      simp -dsimp -implicitDefEqProofs [-getElem?_pos, go_sem, hP, a5, d1, z2, p2, d2]
      refine ⟨by omega, by omega, ?_⟩
      refine callB_pure (at_pf l e.From (by (try simp only [adj_len]); omega)) hP en_79 (args_sref rfl (by simp [encL, adj]) (imm_subs _) (args_imm .sc (args_nil.2 trivial))) .sc ?_
      simp -dsimp -implicitDefEqProofs [-getElem?_pos, go_sem, hP, p1]
      have hj : j < l.length := (List.getElem?_eq_some_iff.1 jL).1
      have hjl : j < l.length := by (try simp only [adj_len] at hj); omega
      refine callB_pure (at_pf l e.To (by (try simp only [adj_len]); omega)) hP en_79 (args_sref rfl (by simp [encL, adj]) (imm_subs _) (args_imm .sc (args_nil.2 trivial))) .sc ?_
      simp -dsimp -implicitDefEqProofs [-getElem?_pos, go_sem, hP, q2]
      refine adrawB (fun _ => true) [10] hP (by kernel_rfl) (by kernel_rfl) ?_
      have set2 : (encL TSub.cells l).set j [iv b.ID, iv (b.Balance + e.Amount)] = encL TSub.cells (adj l e.To e.Amount) := by
        rw [← eb, ← set_adj nL jL, ← encL_set]
        rfl
      have g2 : (adj l e.To e.Amount)[j]? = some ⟨b.ID, b.Balance + e.Amount⟩ := by rw [adj_get, jL, ← eb]; simp
      have len2 : (adj l e.To e.Amount).length = l.length := by simp [adj_len]
      have o2 : okAt credit (adj l e.To e.Amount) e.To = okSub credit ⟨b.ID, b.Balance + e.Amount⟩ := by
        rw [← eb] at g2 ⊢
        exact okAt_get (by rw [adj_ids]; exact nL) g2
      have lt2 : (j : Int) < (l.length : Int) := by omega
      simp -dsimp -implicitDefEqProofs [-getElem?_pos, go_sem, hP, adj_len, jL, TSub.cells, hjl, lt2, wb, set2, g2]
      by_cases c4 : 1000000000000000 < b.Balance + e.Amount
      · have o2' : okAt credit (adj l e.To e.Amount) e.To = false := by rw [o2]; simp [okSub]; omega
        simp -dsimp -implicitDefEqProofs [-getElem?_pos, go_sem, hP, adj_len, g2, TSub.cells, hjl, lt2, c4]
        exact fin 61 _ _ (by omega) (by rw [pS, ok1]; simp [nf, z1, o2'])
      · have o2' : okAt credit (adj l e.To e.Amount) e.To = true := by
          rw [o2]
          have := (okSub_iff _ _).1 okb
          rw [okSub_iff]
          dsimp only
          omega
        simp -dsimp -implicitDefEqProofs [-getElem?_pos, go_sem, hP, adj_len, g2, TSub.cells, hjl, lt2, c4]
        have e2 := encL_take TSub.cells (adj l e.To e.Amount) l.length (by simp [adj_len])
        refine done (x := .tup [subsL (adj l e.To e.Amount), iv 0]) ?_ ?_ ?_
        · simp -dsimp -implicitDefEqProofs [-getElem?_pos, go_sem, e2]
          exact imm_list.1 (imm_subs _)
        · rw [okR (adj l e.To e.Amount) (by rw [pS, ok1]; simp [nf, z1, o2'])]
        · simp -dsimp -implicitDefEqProofs [-getElem?_pos, go_sem, e2]
  · have h5 : badSub l e = true := b5.2 fun h => by have := h.2.1; omega
    simp -dsimp -implicitDefEqProofs [-getElem?_pos, go_sem, hP, a5, z1]
    refine callB_pure (at_pf l e.From hl) hP en_79 (args_imm iS (args_imm .sc (args_nil.2 trivial))) .sc ?_
    simp -dsimp -implicitDefEqProofs [-getElem?_pos, go_sem, hP, a5, z1, p1]
    exact f5 _ _ h5
  · have d2 : decide ((i : Int) < 0) = false := by simp
    simp -dsimp -implicitDefEqProofs [-getElem?_pos, go_sem, hP, a5, z1]
    refine callB_pure (at_pf l e.From hl) hP en_79 (args_imm iS (args_imm .sc (args_nil.2 trivial))) .sc ?_
    simp -dsimp -implicitDefEqProofs [-getElem?_pos, go_sem, hP, a5, z1, p1, d2]
    have hi : i < l.length := (List.getElem?_eq_some_iff.1 i1).1
    have hia := bnd i a i1
    have oka := (okSub_iff _ _).1 (okg i a i1)
    have wa := wrap_in (a.Balance - e.Amount) (by omega)
    have set1 : (encL TSub.cells l).set i [iv a.ID, iv (a.Balance - e.Amount)] = encL TSub.cells (adj l e.From (-e.Amount)) := by
      rw [← ea, ← set_adj hn i1, ← encL_set]
      rfl
    have g1 : (adj l e.From (-e.Amount))[i]? = some ⟨a.ID, a.Balance - e.Amount⟩ := by rw [adj_get, i1, ← ea]; simp; omega
    have nL1 : (ids (adj l e.From (-e.Amount))).Nodup := by rw [adj_ids]; exact hn
    have o1 : okAt credit (adj l e.From (-e.Amount)) e.From = okSub credit ⟨a.ID, a.Balance - e.Amount⟩ := by
      rw [← ea] at g1 nL1 ⊢
      exact okAt_get nL1 g1
    have e1 := encL_take TSub.cells (adj l e.From (-e.Amount)) l.length (by simp [adj_len])
    have len1 : (adj l e.From (-e.Amount)).length = l.length := by simp [adj_len]
    have lt1 : (i : Int) < (l.length : Int) := by omega
    have stepF : badSub l e = false → ∀ (P : Prop), (okSub credit ⟨a.ID, a.Balance - e.Amount⟩ = false → P) → (okSub credit ⟨a.ID, a.Balance - e.Amount⟩ = true → P) → P := fun _ P h k => by
      cases hh : okSub credit ⟨a.ID, a.Balance - e.Amount⟩
      · exact h hh
      · exact k hh
    rcases two e.To with ⟨z2, p2⟩ | ⟨z2, p2⟩ | ⟨j, b, z2, j1, eb, p2⟩
    rotate_left
    · have h5 : badSub l e = true := b5.2 fun h => by have := h.2.2; omega
      simp -dsimp -implicitDefEqProofs [-getElem?_pos, go_sem, hP, a5, z1, z2, p1, d2]
      refine callB_pure (at_pf l e.To hl) hP en_79 (args_imm iS (args_imm .sc (args_nil.2 trivial))) .sc ?_
      simp -dsimp -implicitDefEqProofs [-getElem?_pos, go_sem, hP, a5, z1, z2, p1, p2, d2]
      exact f5 _ _ h5
    · have h5 : badSub l e = false := by simpa using fun h => b5.1 h ⟨a5, .inr (by omega), .inr (by omega)⟩
      have d4 : decide ((j : Int) < 0) = false := by simp
      have okb := okg j b j1
      have hb := bnd j b j1
      have wb := wrap_in (b.Balance + e.Amount) (by omega)
      have q2 : placeI (adj l e.From (-e.Amount)) e.To = (j : Int) := by
        have hne : ¬ b.ID = e.From := fun h => a5 (h.symm.trans eb)
        have : (adj l e.From (-e.Amount))[j]? = some b := by rw [adj_get, j1]; simp [hne]
        rw [← eb]
        exact placeI_of nL1 this
      simp -dsimp -implicitDefEqProofs [-getElem?_pos, go_sem, hP, a5, z1, z2, p1, d2]
      refine callB_pure (at_pf l e.To hl) hP en_79 (args_imm iS (args_imm .sc (args_nil.2 trivial))) .sc ?_
      simp -dsimp -implicitDefEqProofs [-getElem?_pos, go_sem, hP, a5, z1, z2, p1, p2, d2, d4]
      refine ⟨by omega, by omega, ?_⟩
      refine callB_pure (at_pf l e.From (by (try simp only [adj_len]); omega)) hP en_79 (args_sref rfl (by simp [encL, adj]) (imm_subs _) (args_imm .sc (args_nil.2 trivial))) .sc ?_
      simp -dsimp -implicitDefEqProofs [-getElem?_pos, go_sem, hP, p1]
      refine adrawB (fun _ => true) [10] hP (by kernel_rfl) (by kernel_rfl) ?_
      simp -dsimp -implicitDefEqProofs [-getElem?_pos, go_sem, hP, adj_len, i1, TSub.cells, hi, lt1, wa, set1, g1]
      have nok : okSub credit ⟨a.ID, a.Balance - e.Amount⟩ = false ↔ (a.Balance - e.Amount < 0 ∧ (¬ a.ID = 1 ∨ a.Balance - e.Amount < -credit)) := by
        rw [← Bool.not_eq_true, okSub_iff]
        dsimp only
        by_cases hid : a.ID = 1
        · rw [if_pos hid]; omega
        · rw [if_neg hid]; simp [hid]; omega
      by_cases hno : okSub credit ⟨a.ID, a.Balance - e.Amount⟩ = false
      · have r61 : ∀ (H : Heap) (b), Done H (.tup [.nil, iv 61]) (· = .tup [subsL (addR credit l last e).1, iv (addR credit l last e).2]) b := fun H b => fin 61 _ _ (by omega) (by rw [pS, h5, o1, hno]; simp)
        obtain ⟨c1, c2⟩ := nok.1 hno
        by_cases c3 : a.ID = 1
        · have c4 : a.Balance - e.Amount < -credit := c2.resolve_left (fun h => h c3)
          have d3 : decide (a.ID = 1) = true := by simpa using c3
          simp -dsimp -implicitDefEqProofs [-getElem?_pos, go_sem, hP, adj_len, g1, TSub.cells, hi, lt1, c1, d3, c4, wneg]
          exact r61 _ _
        · simp -dsimp -implicitDefEqProofs [-getElem?_pos, go_sem, hP, adj_len, g1, TSub.cells, hi, lt1, c1, c3]
          exact r61 _ _
      have hyes : okSub credit ⟨a.ID, a.Balance - e.Amount⟩ = true := by simpa using hno
      have f1 : okAt credit (adj l e.From (-e.Amount)) e.From = true := by rw [o1, hyes]
      have ok1 : (if badSub l e = true then ((60 : Int), l) else if okAt credit (adj l e.From (-e.Amount)) e.From = false then (61, adj l e.From (-e.Amount)) else
          if okAt credit (adj (adj l e.From (-e.Amount)) e.To e.Amount) e.To = false then (61, adj (adj l e.From (-e.Amount)) e.To e.Amount) else (0, adj (adj l e.From (-e.Amount)) e.To e.Amount)) =
          if okAt credit (adj (adj l e.From (-e.Amount)) e.To e.Amount) e.To = false then (61, adj (adj l e.From (-e.Amount)) e.To e.Amount) else (0, adj (adj l e.From (-e.Amount)) e.To e.Amount) := by
        rw [f1, h5]; simp
      have go : ∀ {p : Prop}, (a.Balance - e.Amount < 0 → a.ID = 1 → ¬ a.Balance - e.Amount < -credit → p) → (¬ a.Balance - e.Amount < 0 → p) → p := fun h k => by
        by_cases c1 : a.Balance - e.Amount < 0
        · have c3 : a.ID = 1 := Classical.byContradiction fun h3 => hno (nok.2 ⟨c1, .inl h3⟩)
          exact h c1 c3 fun h4 => hno (nok.2 ⟨c1, .inr h4⟩)
        · exact k c1
      refine go (fun c1 c3 c4 => ?_) (fun c1 => ?_)
      · have d3 : decide (a.ID = 1) = true := by simpa using c3
        simp -dsimp -implicitDefEqProofs [-getElem?_pos, go_sem, hP, adj_len, g1, TSub.cells, hi, lt1, c1, d3, c4, wneg]
        have hj : j < l.length := (List.getElem?_eq_some_iff.1 j1).1
        have hne : ¬ b.ID = e.From := fun h => a5 (h.symm.trans eb)
        have jL : (adj l e.From (-e.Amount))[j]? = some b := by rw [adj_get, j1]; simp [hne]
        refine callB_pure (at_pf (adj l e.From (-e.Amount)) e.To (by (try simp only [adj_len]); omega)) hP en_79 (args_sref rfl (by simp [encL, adj]) (imm_subs _) (args_imm .sc (args_nil.2 trivial))) .sc ?_
        simp -dsimp -implicitDefEqProofs [-getElem?_pos, go_sem, hP, q2]
        refine adrawB (fun _ => true) [10] hP (by kernel_rfl) (by kernel_rfl) ?_
        have set2 : (encL TSub.cells (adj l e.From (-e.Amount))).set j [iv b.ID, iv (b.Balance + e.Amount)] = encL TSub.cells (adj (adj l e.From (-e.Amount)) e.To e.Amount) := by
          rw [← eb, ← set_adj nL1 jL, ← encL_set]
          rfl
        have g2 : (adj (adj l e.From (-e.Amount)) e.To e.Amount)[j]? = some ⟨b.ID, b.Balance + e.Amount⟩ := by rw [adj_get, jL, ← eb]; simp
        have o2 : okAt credit (adj (adj l e.From (-e.Amount)) e.To e.Amount) e.To = okSub credit ⟨b.ID, b.Balance + e.Amount⟩ := by
          rw [← eb] at g2 ⊢
          exact okAt_get (by rw [adj_ids]; exact nL1) g2
        have lt2 : (j : Int) < (l.length : Int) := by omega
        simp -dsimp -implicitDefEqProofs [-getElem?_pos, go_sem, hP, adj_len, jL, TSub.cells, hj, lt2, wb, set2, g2]
        by_cases c4 : 1000000000000000 < b.Balance + e.Amount
        · have o2' : okAt credit (adj (adj l e.From (-e.Amount)) e.To e.Amount) e.To = false := by rw [o2]; simp [okSub]; omega
          simp -dsimp -implicitDefEqProofs [-getElem?_pos, go_sem, hP, adj_len, g2, TSub.cells, hj, lt2, c4]
          exact fin 61 _ _ (by omega) (by rw [pS, ok1]; simp [o2'])
        · have o2' : okAt credit (adj (adj l e.From (-e.Amount)) e.To e.Amount) e.To = true := by
            rw [o2]
            have := (okSub_iff _ _).1 okb
            rw [okSub_iff]
            dsimp only
            omega
          simp -dsimp -implicitDefEqProofs [-getElem?_pos, go_sem, hP, adj_len, g2, TSub.cells, hj, lt2, c4]
          have e2 := encL_take TSub.cells (adj (adj l e.From (-e.Amount)) e.To e.Amount) l.length (by simp [adj_len])
          refine done (x := .tup [subsL (adj (adj l e.From (-e.Amount)) e.To e.Amount), iv 0]) ?_ ?_ ?_
          · simp -dsimp -implicitDefEqProofs [-getElem?_pos, go_sem, e2]
            exact imm_list.1 (imm_subs _)
          · rw [okR (adj (adj l e.From (-e.Amount)) e.To e.Amount) (by rw [pS, ok1]; simp [o2'])]
          · simp -dsimp -implicitDefEqProofs [-getElem?_pos, go_sem, e2]
      · simp -dsimp -implicitDefEqProofs [-getElem?_pos, go_sem, hP, adj_len, g1, TSub.cells, hi, lt1, c1]
        have hj : j < l.length := (List.getElem?_eq_some_iff.1 j1).1
        have hne : ¬ b.ID = e.From := fun h => a5 (h.symm.trans eb)
        have jL : (adj l e.From (-e.Amount))[j]? = some b := by rw [adj_get, j1]; simp [hne]
        refine callB_pure (at_pf (adj l e.From (-e.Amount)) e.To (by (try simp only [adj_len]); omega)) hP en_79 (args_sref rfl (by simp [encL, adj]) (imm_subs _) (args_imm .sc (args_nil.2 trivial))) .sc ?_
        simp -dsimp -implicitDefEqProofs [-getElem?_pos, go_sem, hP, q2]
        refine adrawB (fun _ => true) [10] hP (by kernel_rfl) (by kernel_rfl) ?_
        have set2 : (encL TSub.cells (adj l e.From (-e.Amount))).set j [iv b.ID, iv (b.Balance + e.Amount)] = encL TSub.cells (adj (adj l e.From (-e.Amount)) e.To e.Amount) := by
          rw [← eb, ← set_adj nL1 jL, ← encL_set]
          rfl
        have g2 : (adj (adj l e.From (-e.Amount)) e.To e.Amount)[j]? = some ⟨b.ID, b.Balance + e.Amount⟩ := by rw [adj_get, jL, ← eb]; simp
        have o2 : okAt credit (adj (adj l e.From (-e.Amount)) e.To e.Amount) e.To = okSub credit ⟨b.ID, b.Balance + e.Amount⟩ := by
          rw [← eb] at g2 ⊢
          exact okAt_get (by rw [adj_ids]; exact nL1) g2
        have lt2 : (j : Int) < (l.length : Int) := by omega
        simp -dsimp -implicitDefEqProofs [-getElem?_pos, go_sem, hP, adj_len, jL, TSub.cells, hj, lt2, wb, set2, g2]
        by_cases c4 : 1000000000000000 < b.Balance + e.Amount
        · have o2' : okAt credit (adj (adj l e.From (-e.Amount)) e.To e.Amount) e.To = false := by rw [o2]; simp [okSub]; omega
          simp -dsimp -implicitDefEqProofs [-getElem?_pos, go_sem, hP, adj_len, g2, TSub.cells, hj, lt2, c4]
          exact fin 61 _ _ (by omega) (by rw [pS, ok1]; simp [o2'])
        · have o2' : okAt credit (adj (adj l e.From (-e.Amount)) e.To e.Amount) e.To = true := by
            rw [o2]
            have := (okSub_iff _ _).1 okb
            rw [okSub_iff]
            dsimp only
            omega
          simp -dsimp -implicitDefEqProofs [-getElem?_pos, go_sem, hP, adj_len, g2, TSub.cells, hj, lt2, c4]
          have e2 := encL_take TSub.cells (adj (adj l e.From (-e.Amount)) e.To e.Amount) l.length (by simp [adj_len])
          refine done (x := .tup [subsL (adj (adj l e.From (-e.Amount)) e.To e.Amount), iv 0]) ?_ ?_ ?_
          · simp -dsimp -implicitDefEqProofs [-getElem?_pos, go_sem, e2]
            exact imm_list.1 (imm_subs _)
          · rw [okR (adj (adj l e.From (-e.Amount)) e.To e.Amount) (by rw [pS, ok1]; simp [o2'])]
          · simp -dsimp -implicitDefEqProofs [-getElem?_pos, go_sem, e2]
    · have h5 : badSub l e = false := by simpa using fun h => b5.1 h ⟨a5, .inr (by omega), .inl z2⟩
      have d5 : decide (e.To = 0) = true := by simpa using z2
      have q2 : placeI (adj l e.From (-e.Amount)) e.To = -1 := by
        rcases placeI_spec (adj l e.From (-e.Amount)) e.To with ⟨h, _⟩ | ⟨_, _, _, _, _, h⟩
        · exact h
        · rw [adj_ids, z2] at h; exact absurd h h0
      simp -dsimp -implicitDefEqProofs [-getElem?_pos, go_sem, hP, a5, z1, p1, d2, d5]
      refine ⟨by omega, by omega, ?_⟩
      refine callB_pure (at_pf l e.From (by (try simp only [adj_len]); omega)) hP en_79 (args_sref rfl (by simp [encL, adj]) (imm_subs _) (args_imm .sc (args_nil.2 trivial))) .sc ?_
      simp -dsimp -implicitDefEqProofs [-getElem?_pos, go_sem, hP, p1]
      refine adrawB (fun _ => true) [10] hP (by kernel_rfl) (by kernel_rfl) ?_
      simp -dsimp -implicitDefEqProofs [-getElem?_pos, go_sem, hP, adj_len, i1, TSub.cells, hi, lt1, wa, set1, g1]
      have nok : okSub credit ⟨a.ID, a.Balance - e.Amount⟩ = false ↔ (a.Balance - e.Amount < 0 ∧ (¬ a.ID = 1 ∨ a.Balance - e.Amount < -credit)) := by
        rw [← Bool.not_eq_true, okSub_iff]
        dsimp only
        by_cases hid : a.ID = 1
        · rw [if_pos hid]; omega
        · rw [if_neg hid]; simp [hid]; omega
      by_cases hno : okSub credit ⟨a.ID, a.Balance - e.Amount⟩ = false
      · have r61 : ∀ (H : Heap) (b), Done H (.tup [.nil, iv 61]) (· = .tup [subsL (addR credit l last e).1, iv (addR credit l last e).2]) b := fun H b => fin 61 _ _ (by omega) (by rw [pS, h5, o1, hno]; simp)
        obtain ⟨c1, c2⟩ := nok.1 hno
        by_cases c3 : a.ID = 1
        · have c4 : a.Balance - e.Amount < -credit := c2.resolve_left (fun h => h c3)
          have d3 : decide (a.ID = 1) = true := by simpa using c3
          simp -dsimp -implicitDefEqProofs [-getElem?_pos, go_sem, hP, adj_len, g1, TSub.cells, hi, lt1, c1, d3, c4, wneg]
          exact r61 _ _
        · simp -dsimp -implicitDefEqProofs [-getElem?_pos, go_sem, hP, adj_len, g1, TSub.cells, hi, lt1, c1, c3]
          exact r61 _ _
      have hyes : okSub credit ⟨a.ID, a.Balance - e.Amount⟩ = true := by simpa using hno
      have f1 : okAt credit (adj l e.From (-e.Amount)) e.From = true := by rw [o1, hyes]
      have ok1 : (if badSub l e = true then ((60 : Int), l) else if okAt credit (adj l e.From (-e.Amount)) e.From = false then (61, adj l e.From (-e.Amount)) else
          if okAt credit (adj (adj l e.From (-e.Amount)) e.To e.Amount) e.To = false then (61, adj (adj l e.From (-e.Amount)) e.To e.Amount) else (0, adj (adj l e.From (-e.Amount)) e.To e.Amount)) =
          if okAt credit (adj (adj l e.From (-e.Amount)) e.To e.Amount) e.To = false then (61, adj (adj l e.From (-e.Amount)) e.To e.Amount) else (0, adj (adj l e.From (-e.Amount)) e.To e.Amount) := by
        rw [f1, h5]; simp
      have go : ∀ {p : Prop}, (a.Balance - e.Amount < 0 → a.ID = 1 → ¬ a.Balance - e.Amount < -credit → p) → (¬ a.Balance - e.Amount < 0 → p) → p := fun h k => by
        by_cases c1 : a.Balance - e.Amount < 0
        · have c3 : a.ID = 1 := Classical.byContradiction fun h3 => hno (nok.2 ⟨c1, .inl h3⟩)
          exact h c1 c3 fun h4 => hno (nok.2 ⟨c1, .inr h4⟩)
        · exact k c1
      refine go (fun c1 c3 c4 => ?_) (fun c1 => ?_)
      · have d3 : decide (a.ID = 1) = true := by simpa using c3
        simp -dsimp -implicitDefEqProofs [-getElem?_pos, go_sem, hP, adj_len, g1, TSub.cells, hi, lt1, c1, d3, c4, wneg]
        refine callB_pure (at_pf (adj l e.From (-e.Amount)) e.To (by (try simp only [adj_len]); omega)) hP en_79 (args_sref rfl (by simp [encL, adj]) (imm_subs _) (args_imm .sc (args_nil.2 trivial))) .sc ?_
        simp -dsimp -implicitDefEqProofs [-getElem?_pos, go_sem, hP, q2]
        refine done (x := .tup [subsL (adj l e.From (-e.Amount)), iv 0]) ?_ ?_ ?_
        · simp -dsimp -implicitDefEqProofs [-getElem?_pos, go_sem, e1]
          exact imm_list.1 (imm_subs _)
        · have nt : adj (adj l e.From (-e.Amount)) e.To e.Amount = (adj l e.From (-e.Amount)) := adj_none (by rw [adj_ids, z2]; exact h0)
          have ot : okAt credit (adj l e.From (-e.Amount)) e.To = true := okAt_none (by rw [adj_ids, z2]; exact h0)
          rw [okR (adj l e.From (-e.Amount)) (by rw [pS, ok1, nt, ot]; simp)]
        · simp -dsimp -implicitDefEqProofs [-getElem?_pos, go_sem, e1]
      · simp -dsimp -implicitDefEqProofs [-getElem?_pos, go_sem, hP, adj_len, g1, TSub.cells, hi, lt1, c1]
        refine callB_pure (at_pf (adj l e.From (-e.Amount)) e.To (by (try simp only [adj_len]); omega)) hP en_79 (args_sref rfl (by simp [encL, adj]) (imm_subs _) (args_imm .sc (args_nil.2 trivial))) .sc ?_
        simp -dsimp -implicitDefEqProofs [-getElem?_pos, go_sem, hP, q2]
        refine done (x := .tup [subsL (adj l e.From (-e.Amount)), iv 0]) ?_ ?_ ?_
        · simp -dsimp -implicitDefEqProofs [-getElem?_pos, go_sem, e1]
          exact imm_list.1 (imm_subs _)
        · have nt : adj (adj l e.From (-e.Amount)) e.To e.Amount = (adj l e.From (-e.Amount)) := adj_none (by rw [adj_ids, z2]; exact h0)
          have ot : okAt credit (adj l e.From (-e.Amount)) e.To = true := okAt_none (by rw [adj_ids, z2]; exact h0)
          rw [okR (adj l e.From (-e.Amount)) (by rw [pS, ok1, nt, ot]; simp)]
        · simp -dsimp -implicitDefEqProofs [-getElem?_pos, go_sem, e1]
open Go.PA
open Go.RowKit
def runE (credit : Int) : TEntry → List TSub → List TEntry → List TSub × Int
  | _, l, [] => (l, 0)
  | last, l, e :: es => if (postS credit last.Number last.Day l e).1 = 0 then runE credit e (postS credit last.Number last.Day l e).2 es else ([], (postS credit last.Number last.Day l e).1)
theorem runE_replay (credit : Int) : ∀ (es : List TEntry) (last : TEntry) (l : List TSub), (∃ r, replayS credit last.Number last.Day l es = some r ∧ runE credit last l es = (r.2.2, 0)) ∨ (replayS credit last.Number last.Day l es = none ∧ (runE credit last l es).1 = [] ∧ ¬ (runE credit last l es).2 = 0)
  | [], last, l => .inl ⟨_, rfl, rfl⟩
  | e :: es, last, l => by
    rw [replayS, runE]
    by_cases h : (postS credit last.Number last.Day l e).1 = 0
    · rw [if_pos h, if_pos h]
      exact runE_replay credit es e _
    · rw [if_neg h, if_neg h]
      exact .inr ⟨rfl, rfl, h⟩
abbrev zeroE : TEntry := ⟨0, 0, 0, 0, 0, 0⟩
def early (day : Int) (e : TEntry) : Bool := decide (e.Day ≤ day)
def untilR (a : TAccount) (day : Int) : List TSub × Int := runE a.Credit zeroE (zeroS a.Subs) (a.Entries.takeWhile (early day))
theorem addR_ok {credit : Int} {l : List TSub} {last e : TEntry} (h : (postS credit last.Number last.Day l e).1 = 0) : addR credit l last e = ((postS credit last.Number last.Day l e).2, 0) := by rw [addR, if_pos h]
theorem addR_bad {credit : Int} {l : List TSub} {last e : TEntry} (h : ¬ (postS credit last.Number last.Day l e).1 = 0) : addR credit l last e = ([], (postS credit last.Number last.Day l e).1) := by rw [addR, if_neg h]
set_option maxHeartbeats 1000000 in
theorem until_pf (a : TAccount) (day : Int) (hl : a.Subs.length ≤ 100000) (he : a.Entries.length ≤ 100000) (hc : 0 ≤ a.Credit ∧ a.Credit ≤ 1000000000000) (hn : (ids a.Subs).Nodup) (h0 : 0 ∉ ids a.Subs) :
    PFun Tryz.prog none none 78 [.agg a.cells, iv day] (· = .tup [subsL (untilR a day).1, iv (untilR a day).2]) := by
  refine pfun_intro Tryz.func78 rfl (by simp [Tryz.f78]) (by kernel_rfl) ?_
  intro E hP hr hs hW hN
  simp -dsimp -implicitDefEqProofs [-getElem?_pos, go_sem, hP, TAccount.cells]
  refine callB_is ((empty_pf a.Subs hl).lift _ _) hP en_125 (by simp [imm_subs]) (imm_subs _) ?_
  simp -dsimp -implicitDefEqProofs [-getElem?_pos, go_sem, hP]
  obtain ⟨I, hI⟩ : ∃ I : Nat → St → Prop, I = fun m s => ∃ (k id : Nat) (last : TEntry) (l : List TSub), k ≤ a.Entries.length ∧ 1 ≤ id ∧ m = a.Entries.length - k ∧ untilR a day = runE a.Credit last l ((a.Entries.drop k).takeWhile (early day)) ∧ last.Number = k ∧ 0 ≤ last.Day ∧ okAll a.Credit l = true ∧ ids l = ids a.Subs ∧ s.t 1 = iv day ∧ s.t 2 = .ref 0 0 0 ∧ s.t 6 = subsL l ∧ s.t 7 = .ref id 0 0 ∧ s.t 17 = entsL a.Entries ∧ s.t 18 = iv a.Entries.length ∧ s.t 19 = iv k ∧ s.H[0]? = some (some ⟨28, 3, [a.cells]⟩) ∧ s.H[id]? = some (some ⟨66, 6, [last.cells]⟩) := ⟨_, rfl⟩
  refine aloop0 I (a.Entries.length) (by rw [hN]; rfl) ?_ ?_
  · rw [hI]
    exact ⟨0, 1, zeroE, zeroS a.Subs, by omega, by omega, by omega, by simp [untilR], rfl, Int.le_refl _, zeroS_all hc.1 _, zeroS_ids _, by simp -dsimp -implicitDefEqProofs [-getElem?_pos, go_sem], by simp -dsimp -implicitDefEqProofs [-getElem?_pos, go_sem], by simp -dsimp -implicitDefEqProofs [-getElem?_pos, go_sem], by simp -dsimp -implicitDefEqProofs [-getElem?_pos, go_sem], by simp -dsimp -implicitDefEqProofs [-getElem?_pos, go_sem], by simp -dsimp -implicitDefEqProofs [-getElem?_pos, go_sem], by simp -dsimp -implicitDefEqProofs [-getElem?_pos, go_sem], by simp -dsimp -implicitDefEqProofs [-getElem?_pos, go_sem, TAccount.cells], by simp -dsimp -implicitDefEqProofs [-getElem?_pos, go_sem, TEntry.cells]⟩
  intro m s hs'
  rw [hI] at hs'
  obtain ⟨k, id, last, l, hk, hid, hm, hu, hnum, hday, hok, hids, t1, t2, t6, t7, t17, t18, t19, hA, hL⟩ := hs'
  have hll : l.length = a.Subs.length := by rw [← ids_len l, hids, ids_len]
  simp -dsimp -implicitDefEqProofs [-getElem?_pos, go_sem, hP, t18, t19]
  refine condP (fun h => ?_) (fun h => ?_)
  · have hk : k < a.Entries.length := by simpa using h
    obtain ⟨e, hee⟩ : ∃ e, a.Entries[k]? = some e := ⟨_, List.getElem?_eq_getElem hk⟩
    have wk := wrap_in ((k : Int) + 1) (by omega)
    have hd : a.Entries.drop k = e :: a.Entries.drop (k + 1) := by
      rw [List.getElem?_eq_getElem hk] at hee
      rw [List.drop_eq_getElem_cons hk, Option.some.inj hee]
    rw [hd] at hu
    have hlt0 := (List.getElem?_eq_some_iff.1 hA).1
    have hne0 : ¬ id = 0 := by omega
    have hlt := (List.getElem?_eq_some_iff.1 hL).1
    have tkE : e.cells.take 6 = e.cells := List.take_of_length_le (by rw [TEntry.len]; omega)
    have tkL : last.cells.take 6 = last.cells := List.take_of_length_le (by rw [TEntry.len]; omega)
    have drE : e.cells.drop 6 = [] := List.drop_eq_nil_of_le (by rw [TEntry.len]; omega)
    have drL : last.cells.drop 6 = [] := List.drop_eq_nil_of_le (by rw [TEntry.len]; omega)
    by_cases hearly : e.Day ≤ day
    · have h2 : decide (day < e.Day) = false := by simp; omega
      have hu2 : untilR a day = if (postS a.Credit last.Number last.Day l e).1 = 0 then runE a.Credit e (postS a.Credit last.Number last.Day l e).2 ((a.Entries.drop (k + 1)).takeWhile (early day)) else ([], (postS a.Credit last.Number last.Day l e).1) := by
        rw [hu, List.takeWhile_cons_of_pos (by simpa [early] using hearly)]
        rfl
      have ap := add_pf a.Credit l last e (by omega) hc (hids ▸ hn) (hids ▸ h0) hok (by omega) hday
      have cE : e.cells = [iv e.Number, iv e.Day, iv e.From, iv e.To, iv e.Amount, iv e.Ref] := rfl
      simp -dsimp -implicitDefEqProofs [-getElem?_pos, go_sem, hP, t17, t19, hee, t1, cE, h2, t2, hA, hlt0, hlt, TAccount.cells, t6, t7, hL, TEntry.len, tkL]
      refine callB_is (ap.lift _ _) hP en_46 (by simp [imm_subs, imm_sc]; exact ⟨imm_ent last, imm_ent e⟩) (imm_pair (imm_subs _) .sc) ?_
      by_cases hp : (postS a.Credit last.Number last.Day l e).1 = 0
      · rw [addR_ok hp]
        rw [if_pos hp] at hu2
        obtain ⟨q1, q2, q3, _⟩ := postS_ok hp
        simp -dsimp -implicitDefEqProofs [-getElem?_pos, go_sem, hP]
        refine adrawB (fun _ => true) [3] hP (by kernel_rfl) (by kernel_rfl) ?_
        simp -dsimp -implicitDefEqProofs [-getElem?_pos, go_sem, hP, t7, hL, hlt, t19, wk, drL, TEntry.len]
        refine ⟨a.Entries.length - (k + 1), by omega, ?_⟩
        rw [hI]
        refine ⟨k + 1, id, e, (postS a.Credit last.Number last.Day l e).2, by omega, hid, rfl, hu2, by rw [q1, hnum]; simp, by omega, postS_all hp hok, (postS_ids _ _ _ _ _).trans hids, by simp -dsimp -implicitDefEqProofs [-getElem?_pos, go_sem, t1], by simp -dsimp -implicitDefEqProofs [-getElem?_pos, go_sem, t2], by simp -dsimp -implicitDefEqProofs [-getElem?_pos, go_sem], by simp -dsimp -implicitDefEqProofs [-getElem?_pos, go_sem, t7], by simp -dsimp -implicitDefEqProofs [-getElem?_pos, go_sem, t17], by simp -dsimp -implicitDefEqProofs [-getElem?_pos, go_sem, t18], by simp -dsimp -implicitDefEqProofs [-getElem?_pos, go_sem], ?_, ?_⟩
        · simp -dsimp -implicitDefEqProofs [-getElem?_pos, go_sem, hne0, hlt0, hA]
        · simp -dsimp -implicitDefEqProofs [-getElem?_pos, go_sem, hlt, TEntry.cells]
      · rw [addR_bad hp]
        rw [if_neg hp] at hu2
        simp -dsimp -implicitDefEqProofs [-getElem?_pos, go_sem, hP, hp]
        refine done_nil2 2 ?_
        rw [hu2]
        simp [encL]
    · have h2 : decide (day < e.Day) = true := by simp; omega
      have hu2 : untilR a day = (l, 0) := by
        rw [hu, List.takeWhile_cons_of_neg (by simpa [early] using hearly)]
        rfl
      have cE : e.cells = [iv e.Number, iv e.Day, iv e.From, iv e.To, iv e.Amount, iv e.Ref] := rfl
      simp -dsimp -implicitDefEqProofs [-getElem?_pos, go_sem, hP, t17, t19, hee, t1, cE, h2, t6]
      refine done_imm (imm_pair (imm_subs _) .sc) ?_
      rw [hu2]
  · have hk : k = a.Entries.length := by simp at h; omega
    subst hk
    rw [List.drop_length] at hu
    have hu2 : untilR a day = (l, 0) := hu
    simp -dsimp -implicitDefEqProofs [-getElem?_pos, go_sem, hP, t6]
    refine done_imm (imm_pair (imm_subs _) .sc) ?_
    rw [hu2]
theorem listEq_pf_subs (a b : List TSub) (ha : a.length ≤ 100000) (hb : b.length ≤ 100000) :
    PFun Tryz.prog none none 53 [.list 2 (encL TSub.cells a), .list 2 (encL TSub.cells b)] (· = bv (decide (a = b))) := by
  refine pfun_intro Tryz.func53 rfl (by simp [Tryz.f53]) (by kernel_rfl) ?_
  intro E hP hr hs hW hN
  by_cases hlen : a.length = b.length
  rotate_left
  · have hne : ¬ a = b := fun h => hlen (by rw [h])
    have hl : decide ((a.length : Int) = (b.length : Int)) = false := by simp; omega
    simp -dsimp -implicitDefEqProofs [-getElem?_pos, go_sem, hP, hl, hne]
  have hl : decide ((a.length : Int) = (b.length : Int)) = true := by simp; omega
  simp -dsimp -implicitDefEqProofs [-getElem?_pos, go_sem, hP, hl]
  obtain ⟨I, hI⟩ : ∃ I : Nat → St → Prop, I = fun m s => ∃ k : Nat, k ≤ a.length ∧ m = a.length - k ∧ s.t 0 = .list 2 (encL TSub.cells a) ∧ s.t 1 = .list 2 (encL TSub.cells b) ∧ s.t 12 = iv a.length ∧ s.t 13 = iv k ∧ a.take k = b.take k := ⟨_, rfl⟩
  refine aloop0 I (a.length) (by rw [hN]; rfl) ?_ ?_
  · rw [hI]
    exact ⟨0, by omega, by omega, by simp -dsimp -implicitDefEqProofs [-getElem?_pos, go_sem], by simp -dsimp -implicitDefEqProofs [-getElem?_pos, go_sem], by simp -dsimp -implicitDefEqProofs [-getElem?_pos, go_sem], by simp -dsimp -implicitDefEqProofs [-getElem?_pos, go_sem], by simp⟩
  intro m s hs'
  rw [hI] at hs'
  obtain ⟨k, hk, hm, t0, t1, t12, t13, heq⟩ := hs'
  simp -dsimp -implicitDefEqProofs [-getElem?_pos, go_sem, hP, t12, t13]
  refine condP (fun h => ?_) (fun h => ?_)
  · have hk : k < a.length := by simpa using h
    obtain ⟨x, hx⟩ : ∃ x, a[k]? = some x := ⟨_, List.getElem?_eq_getElem hk⟩
    obtain ⟨y, hy⟩ : ∃ y, b[k]? = some y := ⟨_, List.getElem?_eq_getElem (by omega)⟩
    have wk := wrap_in ((k : Int) + 1) (by omega)
    have tx : a.take (k + 1) = a.take k ++ [x] := by rw [List.take_add_one, hx]; rfl
    have ty : b.take (k + 1) = b.take k ++ [y] := by rw [List.take_add_one, hy]; rfl
    simp -dsimp -implicitDefEqProofs [-getElem?_pos, go_sem, hP, t13]
    refine adrawB (fun _ => true) [] hP (by kernel_rfl) (by kernel_rfl) ?_
    by_cases hxy : x = y
    · subst hxy
      simp -dsimp -implicitDefEqProofs [-getElem?_pos, go_sem, hP, t0, t1, hx, hy, TSub.cells, t13, wk]
      refine ⟨a.length - (k + 1), by omega, ?_⟩
      rw [hI]
      exact ⟨k + 1, by omega, rfl, by simp -dsimp -implicitDefEqProofs [-getElem?_pos, go_sem, t0], by simp -dsimp -implicitDefEqProofs [-getElem?_pos, go_sem, t1], by simp -dsimp -implicitDefEqProofs [-getElem?_pos, go_sem, t12], by simp -dsimp -implicitDefEqProofs [-getElem?_pos, go_sem], by rw [tx, ty, heq]⟩
    · have hne : ¬ a = b := fun h => by
        subst h
        rw [hx] at hy
        exact hxy (Option.some.inj hy)
      simp -dsimp -implicitDefEqProofs [-getElem?_pos, go_sem, hP, t0, t1, hx, hy, TSub.cells, t13, wk]
      refine condP (fun h => ?_) (fun h => ?_)
      · simp -dsimp -implicitDefEqProofs [-getElem?_pos, go_sem, hP, hne]
      · exact absurd (by cases x; cases y; simp at h; simp [h]) hxy
  · have hk : k = a.length := by simp at h; omega
    subst hk
    rw [List.take_length] at heq
    rw [hlen, List.take_length] at heq
    simp -dsimp -implicitDefEqProofs [-getElem?_pos, go_sem, hP, heq]
theorem plain_pf (a : TAccount) (hl : a.Subs.length ≤ 100000) : PFun Tryz.prog none none 44 [.agg a.cells] (· = bv (vB a.Credit && numB (ids a.Subs))) := by
  refine pfun_intro Tryz.func44 rfl (by simp [Tryz.f44]) (by kernel_rfl) ?_
  intro E hP hr hs hW hN
  simp -dsimp -implicitDefEqProofs [-getElem?_pos, go_sem, hP, TAccount.cells]
  refine callB_pure (valid01_pf a.Credit) hP en_43 (args_same (by simp -dsimp -implicitDefEqProofs [-getElem?_pos, go_sem])) .sc ?_
  by_cases hv : vB a.Credit = true
  rotate_left
  · simp -dsimp -implicitDefEqProofs [-getElem?_pos, go_sem, hP, hv]
  by_cases hz : a.Subs.length < 1
  · have hnil : a.Subs = [] := List.eq_nil_of_length_eq_zero (by omega)
    have hd : decide ((a.Subs.length : Int) < 1) = true := by simp; omega
    simp -dsimp -implicitDefEqProofs [-getElem?_pos, go_sem, hP, hv, hd]
    simp [hnil, numB, ids]
  have hd : decide ((a.Subs.length : Int) < 1) = false := by simp; omega
  simp -dsimp -implicitDefEqProofs [-getElem?_pos, go_sem, hP, hv, hd]
  obtain ⟨I, hI⟩ : ∃ I : Nat → St → Prop, I = fun m s => ∃ (k : Nat) (p : Int), k ≤ a.Subs.length ∧ m = a.Subs.length - k ∧ numB (ids a.Subs) = (ascA p ((ids a.Subs).drop k) && (decide (k = 0 → (ids a.Subs).head? = some 1))) ∧ (k = 0 → p = 0) ∧ (∀ j x, k = j + 1 → a.Subs[j]? = some x → p = x.ID) ∧ s.t 1 = .ref 0 0 0 ∧ s.t 16 = subsL a.Subs ∧ s.t 17 = iv a.Subs.length ∧ s.t 18 = iv k ∧ s.H[0]? = some (some ⟨28, 3, [a.cells]⟩) := ⟨_, rfl⟩
  refine aloop0 I (a.Subs.length) (by rw [hN]; rfl) ?_ ?_
  · rw [hI]
    exact ⟨0, 0, by omega, by omega, by simp [numB], by simp, by omega, by simp -dsimp -implicitDefEqProofs [-getElem?_pos, go_sem], by simp -dsimp -implicitDefEqProofs [-getElem?_pos, go_sem], by simp -dsimp -implicitDefEqProofs [-getElem?_pos, go_sem], by simp -dsimp -implicitDefEqProofs [-getElem?_pos, go_sem], by simp -dsimp -implicitDefEqProofs [-getElem?_pos, go_sem, TAccount.cells]⟩
  intro m s hs'
  rw [hI] at hs'
  obtain ⟨k, p, hk, hm, hnum, hp0, hp1, t1, t16, t17, t18, hA⟩ := hs'
  have hlt0 := (List.getElem?_eq_some_iff.1 hA).1
  simp -dsimp -implicitDefEqProofs [-getElem?_pos, go_sem, hP, t17, t18]
  refine condP (fun h => ?_) (fun h => ?_)
  · have hk : k < a.Subs.length := by simpa using h
    obtain ⟨x, hx⟩ : ∃ x, a.Subs[k]? = some x := ⟨_, List.getElem?_eq_getElem hk⟩
    have wk := wrap_in ((k : Int) + 1) (by omega)
    have hdr : (ids a.Subs).drop k = x.ID :: (ids a.Subs).drop (k + 1) := by
      have h1 : (ids a.Subs)[k]? = some x.ID := by rw [ids_get, hx]; rfl
      obtain ⟨h2, h3⟩ := List.getElem?_eq_some_iff.1 h1
      rw [List.drop_eq_getElem_cons h2, h3]
    rw [hdr, ascA] at hnum
    have hhead : k = 0 → (ids a.Subs).head? = some x.ID := fun h => by
      subst h
      rw [List.drop_zero] at hdr
      rw [hdr]
      rfl
    have fin : ∀ s' : St, (amongB x.ID 1 1000 && decide (p < x.ID)) = true → (k = 0 → x.ID = 1) → s'.t 1 = s.t 1 → s'.t 16 = s.t 16 → s'.t 17 = s.t 17 → s'.t 18 = iv ((k : Int) + 1) → s'.H[0]? = s.H[0]? → ∃ n', n' < m ∧ I n' s' := fun s' hc h1 e1 e16 e17 e18 eH => by
      refine ⟨a.Subs.length - (k + 1), by omega, ?_⟩
      rw [hI]
      simp only [Bool.and_eq_true] at hc
      refine ⟨k + 1, x.ID, by omega, rfl, ?_, by omega, fun j y hj hy => ?_, by rw [e1, t1], by rw [e16, t16], by rw [e17, t17], by rw [e18]; simp, by rw [eH, hA]⟩
      · rw [hnum, hc.1, hc.2]
        have : decide (k = 0 → (ids a.Subs).head? = some 1) = true := by
          simp only [decide_eq_true_eq]
          exact fun h => by rw [hhead h, h1 h]
        rw [this]
        simp
      · have : j = k := by omega
        subst this
        rw [hx] at hy
        rw [Option.some.inj hy]
    have bad : (amongB x.ID 1 1000 && decide (p < x.ID)) = false ∨ (k = 0 ∧ ¬ x.ID = 1) → numB (ids a.Subs) = false := fun h => by
      rcases h with h | ⟨h1, h2⟩
      · rw [hnum, ← Bool.and_assoc (amongB _ _ _), h]; simp
      · rw [hnum]
        have : decide (k = 0 → (ids a.Subs).head? = some 1) = false := by
          simp only [decide_eq_false_iff_not]
          intro h
          have := h h1
          rw [hhead h1] at this
          exact h2 (Option.some.inj this)
        rw [this]; simp
    simp -dsimp -implicitDefEqProofs [-getElem?_pos, go_sem, hP, t16, t18, hx, TSub.cells]
    refine adrawB (fun _ => true) [] hP (by kernel_rfl) (by kernel_rfl) ?_
    by_cases c1 : x.ID < 1
    · have := bad (.inl (by simp [amongB]; omega))
      simp -dsimp -implicitDefEqProofs [-getElem?_pos, go_sem, hP, c1, this]
    by_cases c2 : 1000 < x.ID
    · have := bad (.inl (by simp [amongB]; omega))
      simp -dsimp -implicitDefEqProofs [-getElem?_pos, go_sem, hP, c1, c2, this]
    rcases Nat.eq_zero_or_pos k with hk0 | hkp
    · have d0 : decide (k = 0) = true := by simp; omega
      have d1 : decide (0 < k) = false := by simp; omega
      by_cases c3 : x.ID = 1
      · have d3 : decide (x.ID = 1) = true := by simpa using c3
        simp -dsimp -implicitDefEqProofs [-getElem?_pos, go_sem, hP, c1, c2, d0, d1, d3, t18, wk]
        exact fin _ (by have := hp0 hk0; simp [amongB]; omega) (fun _ => c3) (by simp -dsimp -implicitDefEqProofs [-getElem?_pos, go_sem]) (by simp -dsimp -implicitDefEqProofs [-getElem?_pos, go_sem]) (by simp -dsimp -implicitDefEqProofs [-getElem?_pos, go_sem]) (by simp -dsimp -implicitDefEqProofs [-getElem?_pos, go_sem]) (by simp -dsimp -implicitDefEqProofs [-getElem?_pos, go_sem, hlt0])
      · have := bad (.inr ⟨hk0, c3⟩)
        simp -dsimp -implicitDefEqProofs [-getElem?_pos, go_sem, hP, c1, c2, d0, d1, c3, this]
    · obtain ⟨j, rfl⟩ : ∃ j, k = j + 1 := ⟨k - 1, by omega⟩
      obtain ⟨y, hy⟩ : ∃ y, a.Subs[j]? = some y := ⟨_, List.getElem?_eq_getElem (by omega)⟩
      have d0 : decide (((j : Int) + 1) = 0) = false := by simp <;> omega
      have d1 : decide ((0 : Int) < (j : Int) + 1) = true := by simp <;> omega
      have wj := wrap_in ((j : Int) + 1 - 1) (by omega)
      rw [Int.add_sub_cancel] at wj
      have hpy := hp1 j y rfl hy
      have wk' := wrap_in ((j : Int) + 1 + 1) (by omega)
      by_cases c3 : x.ID ≤ y.ID
      · have := bad (.inl (by simp [amongB]; omega))
        simp -dsimp -implicitDefEqProofs [-getElem?_pos, go_sem, hP, c1, c2, d0, d1, Int.add_sub_cancel, wj, t1, hA, hlt0, TAccount.cells, hy, TSub.cells, c3, this]
      · simp -dsimp -implicitDefEqProofs [-getElem?_pos, go_sem, hP, c1, c2, d0, d1, Int.add_sub_cancel, wj, t1, hA, hlt0, TAccount.cells, hy, TSub.cells, c3, t18, wk']
        exact fin _ (by simp [amongB]; omega) (by omega) (by simp -dsimp -implicitDefEqProofs [-getElem?_pos, go_sem]) (by simp -dsimp -implicitDefEqProofs [-getElem?_pos, go_sem]) (by simp -dsimp -implicitDefEqProofs [-getElem?_pos, go_sem]) (by simp -dsimp -implicitDefEqProofs [-getElem?_pos, go_sem]) (by simp -dsimp -implicitDefEqProofs [-getElem?_pos, go_sem, hlt0])
  · have hk : k = a.Subs.length := by simp at h; omega
    subst hk
    have hdn : (ids a.Subs).drop a.Subs.length = [] := List.drop_eq_nil_of_le (by rw [ids_len]; omega)
    have hh : decide (a.Subs.length = 0 → (ids a.Subs).head? = some 1) = true := by
      simp only [decide_eq_true_eq]
      intro h
      omega
    rw [hdn, hh] at hnum
    have hnum : numB (ids a.Subs) = true := hnum
    simp -dsimp -implicitDefEqProofs [-getElem?_pos, go_sem, hP, hnum, hv]
open Go.PA
open Go.RowKit
theorem replayS_days (credit : Int) : ∀ (es : List TEntry) (n d : Int) (l : List TSub) (r : Int × Int × List TSub), 0 ≤ d → replayS credit n d l es = some r → ∀ e, e ∈ es → d ≤ e.Day ∧ e.Day ≤ 36000
  | [], n, d, l, r, hd, h, e, he => by simp at he
  | x :: es, n, d, l, r, hd, h, e, he => by
    rw [replayS] at h
    split at h
    · rename_i hp
      obtain ⟨_, h2, h3, _⟩ := postS_ok hp
      rcases List.mem_cons.1 he with rfl | he
      · exact ⟨h2, h3⟩
      · have := replayS_days credit es _ _ _ r (by omega) h e he
        exact ⟨by omega, this.2⟩
    · cases h
theorem replayS_last (credit : Int) : ∀ (es : List TEntry) (last : TEntry) (l : List TSub) (r : Int × Int × List TSub), replayS credit last.Number last.Day l es = some r → r.1 = ((es.getLast?).getD last).Number ∧ r.2.1 = ((es.getLast?).getD last).Day
  | [], last, l, r, h => by
    simp only [replayS, Option.some.injEq] at h
    subst h
    exact ⟨rfl, rfl⟩
  | e :: es, last, l, r, h => by
    rw [replayS] at h
    split at h
    · have := replayS_last credit es e _ r h
      cases es with
      | nil => exact this
      | cons x es =>
        have e1 : (e :: x :: es).getLast? = (x :: es).getLast? := by rw [List.getLast?_cons_cons]
        rw [e1]
        have e2 : ∀ y, ((x :: es).getLast?).getD y = ((x :: es).getLast?).getD e := fun y => by
          rw [List.getLast?_eq_some_getLast (by simp)]; rfl
        rw [e2 last]
        exact this
    · cases h
theorem takeWhile_all {α : Type} (p : α → Bool) : ∀ l : List α, (∀ x, x ∈ l → p x = true) → l.takeWhile p = l
  | [], _ => rfl
  | a :: l, h => by
    rw [List.takeWhile_cons_of_pos (h a (by simp)), takeWhile_all p l fun x hx => h x (List.mem_cons_of_mem _ hx)]
def lastE (a : TAccount) : TEntry := (a.Entries.getLast?).getD zeroE
theorem check_ok {a : TAccount} (h : checkA a = 0) : a.Subs.length ≤ 20 ∧ a.Entries.length ≤ 400 ∧ (0 ≤ a.Credit ∧ a.Credit ≤ 1000000000000) ∧ numB (ids a.Subs) = true ∧ replayS a.Credit 0 0 (zeroS a.Subs) a.Entries = some ((lastE a).Number, (lastE a).Day, a.Subs) := by
  unfold checkA at h
  split at h
  · simp at h
  rename_i h1
  split at h
  · simp at h
  rename_i h2
  split at h
  · simp at h
  rename_i r hr
  split at h
  · rename_i he
    have h2 : vB a.Credit = true ∧ numB (ids a.Subs) = true := by simpa using h2
    have h3 : 0 ≤ a.Credit ∧ a.Credit ≤ 1000000000000 := by simpa [vB, amongB] using h2.1
    have := replayS_last a.Credit a.Entries zeroE (zeroS a.Subs) r hr
    refine ⟨by omega, by omega, h3, h2.2, ?_⟩
    rw [hr]
    congr 1
    exact Prod.ext this.1 (Prod.ext this.2 he)
  · simp at h
theorem check_mk {a : TAccount} (h1 : a.Subs.length ≤ 20) (h2 : a.Entries.length ≤ 400) (h3 : 0 ≤ a.Credit ∧ a.Credit ≤ 1000000000000) (h4 : numB (ids a.Subs) = true) {n d : Int} (h5 : replayS a.Credit 0 0 (zeroS a.Subs) a.Entries = some (n, d, a.Subs)) : checkA a = 0 := by
  unfold checkA
  have hv : vB a.Credit = true := by simpa [vB, amongB] using h3
  rw [if_neg (by omega), if_neg (by simp [hv, h4]), h5]
  simp
theorem numB_facts {l : List Int} (h : numB l = true) : l.Nodup ∧ 0 ∉ l ∧ l.head? = some 1 := by
  simp only [numB, Bool.and_eq_true, decide_eq_true_eq] at h
  refine ⟨ascA_nodup l 0 h.1, fun h0 => ?_, h.2⟩
  have := ascA_gt l 0 h.1 0 h0
  omega
theorem check_keeps {a : TAccount} (h : checkA a = 0) : okAll a.Credit a.Subs = true ∧ (lastE a).Number = a.Entries.length ∧ 0 ≤ (lastE a).Day ∧ (lastE a).Day ≤ 36000 := by
  obtain ⟨_, _, h3, _, h5⟩ := check_ok h
  obtain ⟨a1, _, a3, a4, a5⟩ := replayS_keeps a.Credit a.Entries 0 0 (zeroS a.Subs) _ (zeroS_all h3.1 _) h5
  exact ⟨a1, by simpa using a3, a4, a5 (by omega)⟩
set_option maxHeartbeats 1000000 in
theorem check23_pf (a : TAccount) (hl : a.Subs.length ≤ 100000) (he : a.Entries.length ≤ 100000) : PFun Tryz.prog none none 45 [.agg a.cells] (· = iv (checkA a)) := by
  refine pfun_intro Tryz.func45 rfl (by simp [Tryz.f45]) (by kernel_rfl) ?_
  intro E hP hr hs hW hN
  have cA : a.cells = [iv a.Credit, subsL a.Subs, entsL a.Entries] := rfl
  by_cases c1 : 20 < a.Subs.length
  · have d1 : decide ((20 : Int) < a.Subs.length) = true := by simp; omega
    have : checkA a = 3 := by rw [checkA, if_pos (.inl c1)]
    simp -dsimp -implicitDefEqProofs [-getElem?_pos, go_sem, hP, cA, d1, this]
  have d1 : decide ((20 : Int) < a.Subs.length) = false := by simp; omega
  by_cases c2 : 400 < a.Entries.length
  · have d2 : decide ((400 : Int) < a.Entries.length) = true := by simp; omega
    have : checkA a = 3 := by rw [checkA, if_pos (.inr c2)]
    simp -dsimp -implicitDefEqProofs [-getElem?_pos, go_sem, hP, cA, d1, d2, this]
  have d2 : decide ((400 : Int) < a.Entries.length) = false := by simp; omega
  simp -dsimp -implicitDefEqProofs [-getElem?_pos, go_sem, hP, cA, d1, d2]
  have pl := plain_pf a hl
  rw [cA] at pl
  refine callB_is (pl.lift _ _) hP en_44 (by simp only [List.mem_singleton, forall_eq]; rw [← cA]; exact imm_acc a) .sc ?_
  by_cases c3 : (vB a.Credit && numB (ids a.Subs)) = true
  rotate_left
  · have : checkA a = 62 := by
      rw [checkA, if_neg (by omega), if_pos]
      cases h1 : vB a.Credit <;> cases h2 : numB (ids a.Subs) <;> simp [h1, h2] at c3 ⊢
    have c3 : (vB a.Credit && numB (ids a.Subs)) = false := by simpa using c3
    simp -dsimp -implicitDefEqProofs [-getElem?_pos, go_sem, hP, c3, this]
  simp only [Bool.and_eq_true] at c3
  obtain ⟨c3, c4⟩ := c3
  have hcr : 0 ≤ a.Credit ∧ a.Credit ≤ 1000000000000 := by simpa [vB, amongB] using c3
  obtain ⟨hnd, hz0, hhd⟩ := numB_facts c4
  have hchk : checkA a = (replayS a.Credit 0 0 (zeroS a.Subs) a.Entries).elim 62 (fun r => if r.2.2 = a.Subs then 0 else 62) := by
    rw [checkA, if_neg (by omega), if_neg (by simp [c3, c4])]
    cases replayS a.Credit 0 0 (zeroS a.Subs) a.Entries <;> rfl
  simp -dsimp -implicitDefEqProofs [-getElem?_pos, go_sem, hP, c3, c4]
  obtain ⟨I, hI⟩ : ∃ I : Nat → St → Prop, I = fun m s => ∃ (k : Nat), k ≤ a.Entries.length ∧ m = a.Entries.length - k ∧ (∀ e, e ∈ a.Entries.take k → amongB e.Day 0 36000 = true) ∧ s.t 1 = .ref 0 0 0 ∧ s.t 23 = entsL a.Entries ∧ s.t 24 = iv a.Entries.length ∧ s.t 25 = iv k ∧ s.H[0]? = some (some ⟨28, 3, [a.cells]⟩) := ⟨_, rfl⟩
  refine aloop0 I (a.Entries.length) (by rw [hN]; rfl) ?_ ?_
  · rw [hI]
    exact ⟨0, by omega, by omega, by simp, by simp -dsimp -implicitDefEqProofs [-getElem?_pos, go_sem], by simp -dsimp -implicitDefEqProofs [-getElem?_pos, go_sem], by simp -dsimp -implicitDefEqProofs [-getElem?_pos, go_sem], by simp -dsimp -implicitDefEqProofs [-getElem?_pos, go_sem], by simp -dsimp -implicitDefEqProofs [-getElem?_pos, go_sem, cA]⟩
  intro m s hs'
  rw [hI] at hs'
  obtain ⟨k, hk, hm, hdays, t1, t23, t24, t25, hA⟩ := hs'
  have hlt0 := (List.getElem?_eq_some_iff.1 hA).1
  simp -dsimp -implicitDefEqProofs [-getElem?_pos, go_sem, hP, t24, t25]
  refine condP (fun h => ?_) (fun h => ?_)
  · have hk : k < a.Entries.length := by simpa using h
    obtain ⟨e, hee⟩ : ∃ e, a.Entries[k]? = some e := ⟨_, List.getElem?_eq_getElem hk⟩
    have wk := wrap_in ((k : Int) + 1) (by omega)
    have e1 : a.Entries.take (k + 1) = a.Entries.take k ++ [e] := by rw [List.take_add_one, hee]; rfl
    simp -dsimp -implicitDefEqProofs [-getElem?_pos, go_sem, hP, t23, t25, hee, TEntry.cells]
    refine callB_pure (day23_pf e.Day) hP en_77 (args_same (by simp -dsimp -implicitDefEqProofs [-getElem?_pos, go_sem])) .sc ?_
    by_cases c5 : amongB e.Day 0 36000 = true
    · simp -dsimp -implicitDefEqProofs [-getElem?_pos, go_sem, hP, c5, t25, wk]
      refine ⟨a.Entries.length - (k + 1), by omega, ?_⟩
      rw [hI]
      refine ⟨k + 1, by omega, rfl, fun x hx => ?_, by simp -dsimp -implicitDefEqProofs [-getElem?_pos, go_sem, t1], by simp -dsimp -implicitDefEqProofs [-getElem?_pos, go_sem, t23], by simp -dsimp -implicitDefEqProofs [-getElem?_pos, go_sem, t24], by simp -dsimp -implicitDefEqProofs [-getElem?_pos, go_sem], by simp -dsimp -implicitDefEqProofs [-getElem?_pos, go_sem, hlt0, hA]⟩
      rw [e1, List.mem_append] at hx
      rcases hx with hx | hx
      · exact hdays x hx
      · simp at hx; subst hx; exact c5
    · have : checkA a = 62 := by
        rw [hchk]
        cases hr : replayS a.Credit 0 0 (zeroS a.Subs) a.Entries with
        | none => rfl
        | some r => exact absurd (amongB_iff.2 (replayS_days _ _ _ _ _ _ (Int.le_refl _) hr e (List.mem_of_getElem? hee))) c5
      simp -dsimp -implicitDefEqProofs [-getElem?_pos, go_sem, hP, c5, this]
  have hk : k = a.Entries.length := by simp at h; omega
  subst hk
  rw [List.take_length] at hdays
  have htw : a.Entries.takeWhile (early 36000) = a.Entries := by
    refine takeWhile_all _ _ fun e he => ?_
    have := amongB_iff.1 (hdays e he)
    simpa [early] using this.2
  have up := until_pf a 36000 hl he hcr hnd hz0
  rw [untilR, htw, cA] at up
  have tk : ([iv a.Credit, subsL a.Subs, entsL a.Entries] : List AV).take 3 = [iv a.Credit, subsL a.Subs, entsL a.Entries] := rfl
  simp -dsimp -implicitDefEqProofs [-getElem?_pos, go_sem, hP, t1, hA, cA]
  refine callB_is (up.lift _ _) hP en_78 (by simp only [List.mem_cons, List.not_mem_nil, or_false, forall_eq_or_imp, forall_eq]; rw [← cA]; exact ⟨imm_acc a, .sc⟩) (imm_pair (imm_subs _) .sc) ?_
  rcases runE_replay a.Credit a.Entries zeroE (zeroS a.Subs) with ⟨r, hr, hrun⟩ | ⟨hr, hrun1, hrun2⟩
  rotate_left
  · rw [show zeroE.Number = 0 from rfl, show zeroE.Day = 0 from rfl] at hr
    have : checkA a = 62 := by rw [hchk, hr]; rfl
    simp -dsimp -implicitDefEqProofs [-getElem?_pos, go_sem, hP, hrun2, this]
  rw [show zeroE.Number = 0 from rfl, show zeroE.Day = 0 from rfl] at hr
  have hids := (replayS_keeps a.Credit a.Entries 0 0 (zeroS a.Subs) r (zeroS_all hcr.1 _) hr).2.1
  rw [zeroS_ids] at hids
  rw [hr] at hchk
  obtain ⟨l, hlr⟩ : ∃ l, l = r.2.2 := ⟨_, rfl⟩
  rw [← hlr] at hids
  have hll : l.length = a.Subs.length := by rw [← ids_len l, hids, ids_len]
  have hchk : checkA a = if l = a.Subs then 0 else 62 := by rw [hchk, hlr]; rfl
  rw [hrun, ← hlr]
  simp -dsimp -implicitDefEqProofs [-getElem?_pos, go_sem, hP, hlt0, hA, t1, cA]
  obtain ⟨J, hJ⟩ : ∃ I : Nat → St → Prop, I = fun m s => ∃ (k : Nat), k ≤ a.Subs.length ∧ m = a.Subs.length - k ∧ l.take k = a.Subs.take k ∧ s.t 5 = subsL l ∧ s.t 42 = subsL a.Subs ∧ s.t 43 = iv a.Subs.length ∧ s.t 44 = iv k := ⟨_, rfl⟩
  refine aloop0 J (a.Subs.length) (by rw [hN]; rfl) ?_ ?_
  · rw [hJ]
    exact ⟨0, by omega, by omega, by simp, by simp -dsimp -implicitDefEqProofs [-getElem?_pos, go_sem], by simp -dsimp -implicitDefEqProofs [-getElem?_pos, go_sem], by simp -dsimp -implicitDefEqProofs [-getElem?_pos, go_sem], by simp -dsimp -implicitDefEqProofs [-getElem?_pos, go_sem]⟩
  clear t1 t23 t24 t25 hA hlt0
  intro m s hs'
  rw [hJ] at hs'
  obtain ⟨k, hk, hm, htk, t5, t42, t43, t44⟩ := hs'
  simp -dsimp -implicitDefEqProofs [-getElem?_pos, go_sem, hP, t43, t44]
  refine condP (fun h => ?_) (fun h => ?_)
  · have hk : k < a.Subs.length := by simpa using h
    obtain ⟨x, hx⟩ : ∃ x, a.Subs[k]? = some x := ⟨_, List.getElem?_eq_getElem hk⟩
    obtain ⟨y, hy⟩ : ∃ y, l[k]? = some y := ⟨_, List.getElem?_eq_getElem (by omega)⟩
    have wk := wrap_in ((k : Int) + 1) (by omega)
    have e1 : a.Subs.take (k + 1) = a.Subs.take k ++ [x] := by rw [List.take_add_one, hx]; rfl
    have e2 : l.take (k + 1) = l.take k ++ [y] := by rw [List.take_add_one, hy]; rfl
    simp -dsimp -implicitDefEqProofs [-getElem?_pos, go_sem, hP, t42, t44, hx, TSub.cells]
    refine adrawB (fun _ => true) [] hP (by kernel_rfl) (by kernel_rfl) ?_
    by_cases hxy : y = x
    · subst hxy
      simp -dsimp -implicitDefEqProofs [-getElem?_pos, go_sem, hP, t5, hy, TSub.cells, t44, wk]
      refine ⟨a.Subs.length - (k + 1), by omega, ?_⟩
      rw [hJ]
      exact ⟨k + 1, by omega, rfl, by rw [e1, e2, htk], by simp -dsimp -implicitDefEqProofs [-getElem?_pos, go_sem, t5], by simp -dsimp -implicitDefEqProofs [-getElem?_pos, go_sem, t42], by simp -dsimp -implicitDefEqProofs [-getElem?_pos, go_sem, t43], by simp -dsimp -implicitDefEqProofs [-getElem?_pos, go_sem]⟩
    · have hne : ¬ l = a.Subs := fun h => by
        rw [h, hx] at hy
        exact hxy (Option.some.inj hy).symm
      rw [if_neg hne] at hchk
      simp -dsimp -implicitDefEqProofs [-getElem?_pos, go_sem, hP, t5, hy, TSub.cells]
      refine condP (fun h => ?_) (fun h => ?_)
      · simp -dsimp -implicitDefEqProofs [-getElem?_pos, go_sem, hP, hchk]
      · exact absurd (by cases x; cases y; simp at h; simp [h]) hxy
  · have hk : k = a.Subs.length := by simp at h; omega
    subst hk
    rw [List.take_length, ← hll, List.take_length] at htk
    rw [if_pos htk] at hchk
    simp -dsimp -implicitDefEqProofs [-getElem?_pos, go_sem, hP, hchk]
open Go.PA
open Go.RowKit
def Grown (n : Nat) (H : Heap) (x : AV) (ty : TypeId) (k : Nat) (es : List (List AV)) : Prop := (x = .nil ∧ es = []) ∨ ∃ id, n ≤ id ∧ x = .sref id 0 es.length ∧ H[id]? = some (some ⟨ty, k, es⟩)
theorem Grown.cw {n : Nat} {H : Heap} {x : AV} {ty : TypeId} {k : Nat} {es : List (List AV)} {xs ys : List AV} (h : Grown n H x ty k es) (hi : Imm (.list k es)) (t : CW H xs ys) : CW H (x :: xs) (.list k es :: ys) := by
  rcases h with ⟨rfl, rfl⟩ | ⟨id, _, rfl, h⟩
  · exact cw_nil t
  · exact cw_sref h rfl hi t
theorem Grown.cellish {n : Nat} {H : Heap} {x : AV} {ty : TypeId} {k : Nat} {es : List (List AV)} (h : Grown n H x ty k es) : x.cellish = true := by
  rcases h with ⟨rfl, rfl⟩ | ⟨id, _, rfl, h⟩ <;> rfl
theorem Grown.kept {n : Nat} {H H' : Heap} {x : AV} {ty : TypeId} {k : Nat} {es : List (List AV)} {X : List Nat} (h : Grown n H x ty k es) (hk : Kept X H H') (hX : ∀ i, i ∈ X → i < n) : Grown n H' x ty k es := by
  rcases h with ⟨rfl, rfl⟩ | ⟨id, hn, rfl, h⟩
  · exact .inl ⟨rfl, rfl⟩
  · refine .inr ⟨id, hn, rfl, hk _ _ (fun hi => ?_) h⟩
    have := hX id hi
    omega
open Go.PA
open Go.RowKit
theorem agree_push {n : Nat} {H l : Heap} (h : n ≤ H.length) : Agree (fun id => decide (id < n)) H (H ++ l) := fun id hid => List.getElem?_append_left (by simp at hid; omega)
theorem agree_3 {a b c : Option AObj} {l l' : Heap} : Agree (fun id => decide (id < 3)) (a :: b :: c :: l) (a :: b :: c :: l') := fun id hid => by
  have : id < 3 := by simpa using hid
  rcases id with _ | _ | _ | id
  · rfl
  · rfl
  · rfl
  · omega
abbrev zeroA : TAccount := ⟨0, [], []⟩
def postA (a : TAccount) (e : TEntry) : TAccount × Int :=
  if checkA a = 0 then
    if a.Entries.length = 400 then (zeroA, 3) else
    if (postS a.Credit (lastE a).Number (lastE a).Day a.Subs e).1 = 0 then (⟨a.Credit, (postS a.Credit (lastE a).Number (lastE a).Day a.Subs e).2, a.Entries ++ [e]⟩, 0) else (zeroA, (postS a.Credit (lastE a).Number (lastE a).Day a.Subs e).1)
  else (zeroA, checkA a)
theorem lastE_nil {a : TAccount} (h : a.Entries.length = 0) : lastE a = zeroE := by
  rw [lastE, List.eq_nil_of_length_eq_zero h]
  rfl
theorem lastE_get {a : TAccount} {k : Nat} {e : TEntry} (h : a.Entries.length = k + 1) (he : a.Entries[k]? = some e) : lastE a = e := by
  rw [lastE, List.getLast?_eq_getElem?, h]
  simp [he]
theorem cA (a : TAccount) : a.cells = [iv a.Credit, subsL a.Subs, entsL a.Entries] := rfl
theorem cE (e : TEntry) : e.cells = [iv e.Number, iv e.Day, iv e.From, iv e.To, iv e.Amount, iv e.Ref] := rfl
theorem done_zeroA {H : Heap} {n : Int} {Q : AV → Prop} {b : Bx Q} (h : Q (.tup [.agg zeroA.cells, iv n])) : Done H (.tup [.agg [iv 0, .nil, .nil], iv n]) Q b :=
  done_agg2 (cw_sc (cw_nil (cw_nil .nil))) h
theorem last23_pf (a : TAccount) (he : a.Entries.length ≤ 100000) : PFun Tryz.prog none none 47 [.agg a.cells] (· = .agg (lastE a).cells) := by
  refine pfun_intro Tryz.func47 rfl (by simp [Tryz.f47]) (by kernel_rfl) ?_
  intro E hP hr hs hW hN
  by_cases h0 : a.Entries.length = 0
  · have d0 : decide (0 < a.Entries.length) = false := decide_eq_false (by omega)
    have : lastE a = zeroE := lastE_nil h0
    simp -dsimp -implicitDefEqProofs [-getElem?_pos, go_sem, hP, cA, d0]
    refine done_imm (imm_ent zeroE) ?_
    rw [this]
    rfl
  · obtain ⟨k, hk⟩ : ∃ k, a.Entries.length = k + 1 := ⟨a.Entries.length - 1, by omega⟩
    obtain ⟨e, hee⟩ : ∃ e, a.Entries[k]? = some e := ⟨_, List.getElem?_eq_getElem (by omega)⟩
    have d0 : decide ((0 : Int) < (k : Int) + 1) = true := by simp
    have wk := wrap_in ((k : Int) + 1 - 1) (by omega)
    rw [Int.add_sub_cancel] at wk
    have : lastE a = e := lastE_get hk hee
    simp -dsimp -implicitDefEqProofs [-getElem?_pos, go_sem, hP, cA, hk, d0, Int.add_sub_cancel, wk, hee, cE]
    refine done_imm (imm_ent e) ?_
    rw [this]
    rfl
set_option maxHeartbeats 1000000 in
theorem post23_pf (a : TAccount) (e : TEntry) (hl : a.Subs.length ≤ 100000) (he : a.Entries.length ≤ 100000) : PFun Tryz.prog none none 17 [.agg a.cells, .agg e.cells] (· = .tup [.agg (postA a e).1.cells, iv (postA a e).2]) := by
  refine pfun_intro Tryz.func17 rfl (by simp [Tryz.f17]) (by kernel_rfl) ?_
  intro E hP hr hs hW hN
  have ck := check23_pf a hl he
  have la := last23_pf a he
  rw [cA] at ck la
  have ia : Imm (.agg [iv a.Credit, subsL a.Subs, entsL a.Entries]) := imm_acc a
  have ie : Imm (.agg [iv e.Number, iv e.Day, iv e.From, iv e.To, iv e.Amount, iv e.Ref]) := imm_ent e
  simp -dsimp -implicitDefEqProofs [-getElem?_pos, go_sem, hP, cA, cE]
  refine callB_is (ck.lift _ _) hP en_45 (by simp [ia]) .sc ?_
  by_cases c1 : checkA a = 0
  rotate_left
  · have : postA a e = (zeroA, checkA a) := by rw [postA, if_neg c1]
    simp -dsimp -implicitDefEqProofs [-getElem?_pos, go_sem, hP, c1]
    refine done_zeroA ?_
    rw [this]
  obtain ⟨k1, k2, k3, k4, k5⟩ := check_ok c1
  by_cases c2 : a.Entries.length = 400
  · have : postA a e = (zeroA, 3) := by rw [postA, if_pos c1, if_pos c2]
    simp -dsimp -implicitDefEqProofs [-getElem?_pos, go_sem, hP, c1, c2]
    refine done_zeroA ?_
    rw [this]
  have d2 : decide ((a.Entries.length : Int) = 400) = false := by simp; omega
  obtain ⟨hnd, hz0, hhd⟩ := numB_facts k4
  obtain ⟨q1, q2, q3, q4⟩ := check_keeps c1
  have ap := add_pf a.Credit a.Subs (lastE a) e (by omega) k3 hnd hz0 q1 (by omega) q3
  rw [cE, cE] at ap
  simp -dsimp -implicitDefEqProofs [-getElem?_pos, go_sem, hP, c1, d2]
  refine adrawB (fun _ => true) [] hP (by kernel_rfl) (by kernel_rfl) ?_
  simp -dsimp -implicitDefEqProofs [-getElem?_pos, go_sem, hP]
  refine callB_is (la.lift _ _) hP en_47 (by simp [ia]) (imm_ent _) ?_
  simp -dsimp -implicitDefEqProofs [-getElem?_pos, go_sem, hP, cE]
  refine callB_is (ap.lift _ _) hP en_46 (by simp [imm_subs, imm_sc, ie]; exact imm_ent (lastE a)) (imm_pair (imm_subs _) .sc) ?_
  by_cases c3 : (postS a.Credit (lastE a).Number (lastE a).Day a.Subs e).1 = 0
  · have pA : postA a e = (⟨a.Credit, (postS a.Credit (lastE a).Number (lastE a).Day a.Subs e).2, a.Entries ++ [e]⟩, 0) := by rw [postA, if_pos c1, if_neg c2, if_pos c3]
    rw [addR_ok c3]
    simp -dsimp -implicitDefEqProofs [-getElem?_pos, go_sem, hP]
    refine adrawB (fun id => decide (id < 3)) [7] hP (by kernel_rfl) (by kernel_rfl) ?_
    simp -dsimp -implicitDefEqProofs [-getElem?_pos, go_sem, hP, restr_get]
    refine ⟨by omega, by omega, agree_3, by omega, by omega, agree_3, ?_⟩
    have en : encL TEntry.cells a.Entries ++ [[iv e.Number, iv e.Day, iv e.From, iv e.To, iv e.Amount, iv e.Ref]] = encL TEntry.cells (a.Entries ++ [e]) := encL_snoc TEntry.cells a.Entries e
    refine done_agg2 (cw_sc (cw_imm (imm_subs _) (cw_sref rfl (by simp [encL]) (by rw [en]; exact imm_ents _) .nil))) ?_
    rw [pA, en]
    rfl
  · have pA : postA a e = (zeroA, (postS a.Credit (lastE a).Number (lastE a).Day a.Subs e).1) := by rw [postA, if_pos c1, if_neg c2, if_neg c3]
    rw [addR_bad c3]
    simp -dsimp -implicitDefEqProofs [-getElem?_pos, go_sem, hP, c3]
    refine done_zeroA ?_
    rw [pA]
def nextE (a : TAccount) (day from_ to amount ref : Int) : TEntry := ⟨IntKind.i64.wrap ((lastE a).Number + 1), day, from_, to, amount, ref⟩
theorem next23_pf (a : TAccount) (day from_ to amount ref : Int) (he : a.Entries.length ≤ 100000) : PFun Tryz.prog none none 18 [.agg a.cells, iv day, iv from_, iv to, iv amount, iv ref] (· = .agg (nextE a day from_ to amount ref).cells) := by
  refine pfun_intro Tryz.func18 rfl (by simp [Tryz.f18]) (by kernel_rfl) ?_
  intro E hP hr hs hW hN
  have la := last23_pf a he
  rw [cA, cE] at la
  have ia : Imm (.agg [iv a.Credit, subsL a.Subs, entsL a.Entries]) := imm_acc a
  simp -dsimp -implicitDefEqProofs [-getElem?_pos, go_sem, hP, cA]
  refine callB_is (la.lift _ _) hP en_47 (by simp [ia]) (imm_ent (lastE a)) ?_
  simp -dsimp -implicitDefEqProofs [-getElem?_pos, go_sem, hP]
  refine done_imm (imm_ent (nextE a day from_ to amount ref)) ?_
  rfl
def sumB (l : List TSub) : Int := (l.map (·.Balance)).sum
theorem sumB_snoc (l : List TSub) (s : TSub) : sumB (l ++ [s]) = sumB l + s.Balance := by simp [sumB]
def totalA (a : TAccount) : Int := if checkA a = 0 then sumB a.Subs else 0
theorem okSub_bounds {credit : Int} {s : TSub} (hc : 0 ≤ credit ∧ credit ≤ 1000000000000) (h : okSub credit s = true) : -1000000000000 ≤ s.Balance ∧ s.Balance ≤ 1000000000000000 := by
  have := (okSub_iff _ _).1 h
  split at this <;> omega
theorem sumB_bound {credit : Int} (hc : 0 ≤ credit ∧ credit ≤ 1000000000000) : ∀ l : List TSub, okAll credit l = true → -(1000000000000 * (l.length : Int)) ≤ sumB l ∧ sumB l ≤ 1000000000000000 * (l.length : Int)
  | [], _ => by simp [sumB]
  | s :: l, h => by
    simp only [okAll, List.all_cons, Bool.and_eq_true] at h
    have h1 := okSub_bounds hc h.1
    have h2 := sumB_bound hc l h.2
    have : sumB (s :: l) = s.Balance + sumB l := by simp [sumB]
    rw [this, List.length_cons]
    omega
theorem okAll_take {credit : Int} {l : List TSub} (h : okAll credit l = true) (k : Nat) : okAll credit (l.take k) = true := List.all_eq_true.2 fun s hs => List.all_eq_true.1 h s (List.mem_of_mem_take hs)
def sumE (f : TEntry → Int) (l : List TEntry) : Int := (l.map f).sum
theorem replayS_mem (credit : Int) : ∀ (es : List TEntry) (n d : Int) (l : List TSub) (r : Int × Int × List TSub), replayS credit n d l es = some r → ∀ e, e ∈ es → 0 < e.Amount ∧ e.Amount ≤ 1000000000000 ∧ 0 ≤ e.Ref ∧ e.Ref ≤ 1000000 ∧ e.From ≠ e.To ∧ (e.From = 0 ∨ e.From ∈ ids l) ∧ (e.To = 0 ∨ e.To ∈ ids l)
  | [], n, d, l, r, h, e, he => by simp at he
  | x :: es, n, d, l, r, h, e, he => by
    rw [replayS] at h
    split at h
    · rename_i hp
      obtain ⟨_, _, _, h4, h5, h6, h7, h8, h9, h10, _⟩ := postS_ok hp
      rcases List.mem_cons.1 he with rfl | he
      · exact ⟨h4, h5, h6, h7, h8, h9, h10⟩
      · have := replayS_mem credit es _ _ _ r h e he
        rw [postS_ids] at this
        exact this
    · cases h
theorem check_mem {a : TAccount} (h : checkA a = 0) : ∀ e, e ∈ a.Entries → 0 < e.Amount ∧ e.Amount ≤ 1000000000000 ∧ 0 ≤ e.Ref ∧ e.Ref ≤ 1000000 ∧ e.From ≠ e.To ∧ (e.From = 0 ∨ e.From ∈ ids a.Subs) ∧ (e.To = 0 ∨ e.To ∈ ids a.Subs) := by
  obtain ⟨_, _, _, _, h5⟩ := check_ok h
  have := replayS_mem _ _ _ _ _ _ h5
  rw [zeroS_ids] at this
  exact this
abbrev numsL (l : List Int) : AV := .list 1 (encL encI l)
theorem imm_nums (l : List Int) : Imm (numsL l) := imm_encL _ imm_encI l
def newS (l : List Int) : List TSub := l.map fun i => ⟨i, 0⟩
theorem newS_len (l : List Int) : (newS l).length = l.length := by simp [newS]
def newA (l : List Int) (credit : Int) : TAccount := ⟨credit, newS l, []⟩
theorem newS_ids (l : List Int) : ids (newS l) = l := by simp [ids, newS, Function.comp_def]
def openA (ids : List Int) (credit : Int) : TAccount × Int :=
  if vB credit = true then if 20 < ids.length then (zeroA, 3) else if numB ids = true then (newA ids credit, 0) else (zeroA, 60) else (zeroA, 2)
set_option maxHeartbeats 1000000 in
theorem open23_pf (l : List Int) (credit : Int) (hl : l.length ≤ 100000) : PFun Tryz.prog none none 15 [numsL l, iv credit] (· = .tup [.agg (openA l credit).1.cells, iv (openA l credit).2]) := by
  refine pfun_intro Tryz.func15 rfl (by simp [Tryz.f15]) (by kernel_rfl) ?_
  intro E hP hr hs hW hN
  simp -dsimp -implicitDefEqProofs [-getElem?_pos, go_sem, hP]
  refine callB_pure (valid01_pf credit) hP en_43 (args_same (by simp -dsimp -implicitDefEqProofs [-getElem?_pos, go_sem])) .sc ?_
  by_cases c1 : vB credit = true
  rotate_left
  · have : openA l credit = (zeroA, 2) := by rw [openA, if_neg c1]
    simp -dsimp -implicitDefEqProofs [-getElem?_pos, go_sem, hP, c1]
    refine done_zeroA ?_
    rw [this]
  by_cases c2 : 20 < l.length
  · have d2 : decide ((20 : Int) < l.length) = true := decide_eq_true (by omega)
    have : openA l credit = (zeroA, 3) := by rw [openA, if_pos c1, if_pos c2]
    simp -dsimp -implicitDefEqProofs [-getElem?_pos, go_sem, hP, c1, d2]
    refine done_zeroA ?_
    rw [this]
  have d2 : decide ((20 : Int) < l.length) = false := decide_eq_false (by omega)
  simp -dsimp -implicitDefEqProofs [-getElem?_pos, go_sem, hP, c1, d2]
  obtain ⟨I, hI⟩ : ∃ I : Nat → St → Prop, I = fun m s => ∃ (k : Nat) (x : AV), k ≤ l.length ∧ m = l.length - k ∧ s.t 4 = .ref 0 0 0 ∧ s.t 6 = .ref 1 0 0 ∧ s.t 19 = numsL l ∧ s.t 20 = iv l.length ∧ s.t 21 = iv k ∧ s.H[0]? = some (some ⟨28, 3, [[iv 0, .nil, .nil]]⟩) ∧ s.H[1]? = some (some ⟨28, 3, [[iv credit, x, .nil]]⟩) ∧ Grown 2 s.H x 96 2 (encL TSub.cells (newS (l.take k))) := ⟨_, rfl⟩
  refine aloop0 I (l.length) (by rw [hN]; rfl) ?_ ?_
  · rw [hI]
    exact ⟨0, .nil, by omega, by omega, by simp -dsimp -implicitDefEqProofs [-getElem?_pos, go_sem], by simp -dsimp -implicitDefEqProofs [-getElem?_pos, go_sem], by simp -dsimp -implicitDefEqProofs [-getElem?_pos, go_sem], by simp -dsimp -implicitDefEqProofs [-getElem?_pos, go_sem], by simp -dsimp -implicitDefEqProofs [-getElem?_pos, go_sem], by simp -dsimp -implicitDefEqProofs [-getElem?_pos, go_sem], by simp -dsimp -implicitDefEqProofs [-getElem?_pos, go_sem], .inl ⟨rfl, rfl⟩⟩
  intro m s hs'
  rw [hI] at hs'
  obtain ⟨k, x, hk, hm, t4, t6, t19, t20, t21, h0, h1, hg⟩ := hs'
  have lt0 := (List.getElem?_eq_some_iff.1 h0).1
  have lt1 := (List.getElem?_eq_some_iff.1 h1).1
  simp -dsimp -implicitDefEqProofs [-getElem?_pos, go_sem, hP, t20, t21]
  refine condP (fun h => ?_) (fun h => ?_)
  · have hk : k < l.length := by simpa using h
    obtain ⟨n, hn⟩ : ∃ n, l[k]? = some n := ⟨_, List.getElem?_eq_getElem hk⟩
    have wk := wrap_in ((k : Int) + 1) (by omega)
    have e1 : newS (l.take (k + 1)) = newS (l.take k) ++ [⟨n, 0⟩] := by rw [List.take_add_one, hn]; simp [newS]
    have nl : (newS (l.take k)).length = k := by rw [newS_len, List.length_take]; omega
    rcases hg with ⟨rfl, hg⟩ | ⟨id, h2, rfl, hg⟩
    · simp -dsimp -implicitDefEqProofs [-getElem?_pos, go_sem, hP, t19, t21, hn, encI, t6, h1, lt1, wk]
      refine ⟨l.length - (k + 1), by omega, ?_⟩
      rw [hI]
      refine ⟨k + 1, .sref s.H.length 0 1, by omega, rfl, by simp -dsimp -implicitDefEqProofs [-getElem?_pos, go_sem, t4], by simp -dsimp -implicitDefEqProofs [-getElem?_pos, go_sem, t6], by simp -dsimp -implicitDefEqProofs [-getElem?_pos, go_sem, t19], by simp -dsimp -implicitDefEqProofs [-getElem?_pos, go_sem, t20], by simp -dsimp -implicitDefEqProofs [-getElem?_pos, go_sem], by simp -dsimp -implicitDefEqProofs [-getElem?_pos, go_sem, lt0, h0], by simp -dsimp -implicitDefEqProofs [-getElem?_pos, go_sem, lt1], .inr ⟨s.H.length, by omega, ?_, ?_⟩⟩
      · rw [e1, ← encL_snoc, hg]; rfl
      · rw [e1, ← encL_snoc, hg]
        simp -dsimp -implicitDefEqProofs [-getElem?_pos, go_sem, TSub.cells]
    · have ne0 : ¬ id = 0 := by omega
      have ne1 : ¬ id = 1 := by omega
      have lti := (List.getElem?_eq_some_iff.1 hg).1
      simp -dsimp -implicitDefEqProofs [-getElem?_pos, go_sem, hP, t19, t21, hn, encI, t6, h1, lt1, hg, ne1, nl, wk]
      refine ⟨by omega, by omega, ?_⟩
      refine ⟨l.length - (k + 1), by omega, ?_⟩
      rw [hI]
      refine ⟨k + 1, .sref s.H.length 0 (k + 1), by omega, rfl, by simp -dsimp -implicitDefEqProofs [-getElem?_pos, go_sem, t4], by simp -dsimp -implicitDefEqProofs [-getElem?_pos, go_sem, t6], by simp -dsimp -implicitDefEqProofs [-getElem?_pos, go_sem, t19], by simp -dsimp -implicitDefEqProofs [-getElem?_pos, go_sem, t20], by simp -dsimp -implicitDefEqProofs [-getElem?_pos, go_sem], by simp -dsimp -implicitDefEqProofs [-getElem?_pos, go_sem, ne0, lt0, h0], by simp -dsimp -implicitDefEqProofs [-getElem?_pos, go_sem, ne1, lt1], .inr ⟨s.H.length, by omega, ?_, ?_⟩⟩
      · rw [encL_len, newS_len, List.length_take]
        congr 1
        omega
      · rw [e1, ← encL_snoc]
        simp -dsimp -implicitDefEqProofs [-getElem?_pos, go_sem, TSub.cells]
  · have hk : k = l.length := by simp at h; omega
    subst hk
    rw [List.take_length] at hg
    have pl := plain_pf ⟨credit, newS l, []⟩ (by rw [newS_len]; omega)
    have cw : CW s.H [iv credit, x, .nil] [iv credit, subsL (newS l), .list 6 []] := cw_sc (hg.cw (imm_subs _) (cw_nil .nil))
    simp -dsimp -implicitDefEqProofs [-getElem?_pos, go_sem, hP, t6, h1, lt1]
    refine callB_pure pl hP en_44 (args_agg cw (args_nil.2 trivial)) .sc ?_
    rw [newS_ids, c1]
    by_cases c3 : numB l = true
    · have : openA l credit = (newA l credit, 0) := by rw [openA, if_pos c1, if_neg c2, if_pos c3]
      have hc := hg.cellish
      simp -dsimp -implicitDefEqProofs [-getElem?_pos, go_sem, hP, c3, t6, h1, lt1, t4, lt0, h0, hc]
      refine done_agg2 (cs' := (newA l credit).cells) (cw_sc ((hg.kept (X := [0]) (kept_set _ (by simp) (kept_refl _ _)) (by simp)).cw (imm_subs _) (cw_nil .nil))) ?_
      rw [this]
    · have : openA l credit = (zeroA, 60) := by rw [openA, if_pos c1, if_neg c2, if_neg c3]
      simp -dsimp -implicitDefEqProofs [-getElem?_pos, go_sem, hP, c3, t4, lt0, h0]
      refine done_zeroA ?_
      rw [this]
end Go.Proofs.YtpllcolbcahicaaGreatDoor
