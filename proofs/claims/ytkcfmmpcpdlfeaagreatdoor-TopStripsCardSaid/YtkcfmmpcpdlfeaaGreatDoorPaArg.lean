/- PA: arguments of a law: what a row's reading says of them, as abstract values. -/
import Derived.Test.YtkcfmmpcpdlfeaaGreatDoorPaB
import Derived.ProofKit
import Derived.Below
import Derived.Carry
import Derived.ChangeSame
import Derived.ChangeMaps5
import Derived.ShutString
set_option linter.unusedSimpArgs false
set_option linter.unusedVariables false
namespace Go.PA
open Go.RowKit Go.WideShapes Go.ChangeShapes

mutual
/-- The shape of a type without pointers. -/
inductive Sh where
  | int (k : IntKind)
  | bool
  | str
  | slice (e : Sh)
  | strct (fs : Fs)
inductive Fs where
  | nil
  | cons (s : Sh) (fs : Fs)
end
mutual
def Sh.size : Sh → Nat
  | .int _ => 1
  | .bool => 1
  | .str => 1
  | .slice _ => 1
  | .strct fs => fs.size
def Fs.size : Fs → Nat
  | .nil => 0
  | .cons s fs => s.size + fs.size
end
mutual
def Sh.ok (P : Program) : Sh → TypeId → Bool
  | .int k, t => decide (P.cellsOf t = 1) && (match P.underlying t with | some (.int k') => decide (k' = k) | _ => false)
  | .bool, t => decide (P.cellsOf t = 1) && (match P.underlying t with | some .bool => true | _ => false)
  | .str, t => decide (P.cellsOf t = 1) && (match P.underlying t with | some .string => true | _ => false)
  | .slice e, t => decide (P.cellsOf t = 1) && decide (0 < e.size) && (match P.underlying t with | some (.slice te) => e.ok P te | _ => false)
  | .strct fs, t => decide (P.cellsOf t = fs.size) && (match P.underlying t with | some (.struct fields) => fs.ok P fields.toList 0 | _ => false)
def Fs.ok (P : Program) : Fs → List Field → Nat → Bool
  | .nil, [], _ => true
  | .cons s fs, f :: l, off => s.ok P f.type && decide (f.offset = off) && fs.ok P l (off + s.size)
  | _, _, _ => false
end
mutual
def Sh.V : Sh → List AV → Prop
  | .int k, as => ∃ n, as = [.sc (.int k n)] ∧ (Lit.int k n).wf = true
  | .bool, as => ∃ b, as = [.sc (.bool b)]
  | .str, as => ∃ s : ByteArray, as = [.sc (.string s)] ∧ s.size ≤ maxLen
  | .slice e, as => ∃ es : List (List AV), as = [.list e.size es] ∧ es.length ≤ maxLen ∧ ∀ x, x ∈ es → e.V x
  | .strct fs, as => fs.V as
def Fs.V : Fs → List AV → Prop
  | .nil, as => as = []
  | .cons s fs, as => ∃ x y, as = x ++ y ∧ s.V x ∧ fs.V y
end
theorem Sh.ok_size (P : Program) (s : Sh) (t : TypeId) (h : s.ok P t = true) : P.cellsOf t = s.size := by
  cases s <;> simp only [Sh.ok, Bool.and_eq_true, decide_eq_true_eq] at h <;> simp only [Sh.size] <;> first | exact h.1 | exact h.1.1

def Reps (w : World) (cs : List Value) (as : List AV) : Prop := ∀ (i : Nat) (c : Value) (a : AV), cs[i]? = some c → as[i]? = some a → RepI w (fun b => b < w.heap.size) c a ∧ c.oneCell' = true
theorem reps_one {w : World} {c : Value} {a : AV} (h : RepI w (fun b => b < w.heap.size) c a) (h1 : c.oneCell' = true) : Reps w [c] [a] := fun i c' a' hc ha => by
  rcases i with _ | i
  · simp at hc ha
    subst hc; subst ha
    exact ⟨h, h1⟩
  · simp at hc

theorem cell_in {w : World} {a : Addr} {v : Value} (h : w.cell? a = some v) : a.block < w.heap.size := by
  simp only [World.cell?] at h
  split at h
  · rename_i hb
    exact (Array.getElem?_eq_some_iff.1 hb).1
  · cases h

theorem list_choice {α : Type} (n : Nat) (p : Nat → α → Prop) (h : ∀ i, i < n → ∃ a, p i a) : ∃ l : List α, l.length = n ∧ ∀ i a, l[i]? = some a → p i a := by
  induction n with
  | zero => exact ⟨[], rfl, by simp⟩
  | succ n ih =>
    obtain ⟨l, h1, h2⟩ := ih fun i hi => h i (by omega)
    obtain ⟨a, ha⟩ := h n (by omega)
    refine ⟨l ++ [a], by simp [h1], fun i b hb => ?_⟩
    by_cases hi : i < n
    · rw [List.getElem?_append_left (by omega)] at hb
      exact h2 i b hb
    · have : i = n := by
        have := (List.getElem?_eq_some_iff.1 hb).1
        simp at this
        omega
      subst this
      rw [List.getElem?_append_right (by omega)] at hb
      simp [h1] at hb
      subst hb
      exact ha

section
variable {H : Type} {enc : TypeId × Value → H} {P : Program} {w : World} {base : Nat} {spare : Nat → Bool} {held : Bool}
mutual
theorem Sh.rep : ∀ (s : Sh) (t : TypeId) (fuel : Nat) (cs : List Value) (x : DataW H × List MemPlace), s.ok P t = true → DataW.trod enc P w base spare held fuel t cs = some x →
    ∃ as, s.V as ∧ as.length = s.size ∧ cs.length = s.size ∧ Reps w cs as
  | .int k, t, fuel, cs, x, hs, h => by
    simp only [Sh.ok, Bool.and_eq_true, decide_eq_true_eq] at hs
    obtain ⟨_, hs⟩ := hs
    split at hs
    · rename_i k' hu
      have := of_decide_eq_true hs
      subst this
      obtain ⟨n, rfl, _, hw⟩ := DataW.trod_int hu h
      exact ⟨[.sc (.int k' n)], ⟨n, rfl, hw⟩, rfl, rfl, reps_one .sc rfl⟩
    · cases hs
  | .bool, t, fuel, cs, x, hs, h => by
    simp only [Sh.ok, Bool.and_eq_true, decide_eq_true_eq] at hs
    obtain ⟨_, hs⟩ := hs
    split at hs
    · rename_i hu
      obtain ⟨b, rfl, _⟩ := DataW.trod_bool hu h
      exact ⟨[.sc (.bool b)], ⟨b, rfl⟩, rfl, rfl, reps_one .sc rfl⟩
    · cases hs
  | .str, t, fuel, cs, x, hs, h => by
    simp only [Sh.ok, Bool.and_eq_true, decide_eq_true_eq] at hs
    obtain ⟨_, hs⟩ := hs
    split at hs
    · rename_i hu
      obtain ⟨b, rfl, _, hl⟩ := DataW.trod_string hu h
      exact ⟨[.sc (.string b)], ⟨b, rfl, hl⟩, rfl, rfl, reps_one .sc rfl⟩
    · cases hs
  | .slice e, t, fuel, cs, x, hs, h => by
    simp only [Sh.ok, Bool.and_eq_true, decide_eq_true_eq] at hs
    obtain ⟨⟨_, hpos⟩, hs⟩ := hs
    split at hs
    · rename_i te hu
      have hsz := Sh.ok_size P e te hs
      rcases DataW.trod_slice hu h with ⟨rfl, _⟩ | ⟨a, len, cap, elems, rest, n, _, rfl, _, hb, hl, hm, hlen, hel, _, _⟩
      · exact ⟨[.list e.size []], ⟨[], rfl, by simp, by simp⟩, rfl, rfl, reps_one .listNil rfl⟩
      rcases Nat.eq_zero_or_pos len with h0 | h0
      · subst h0
        exact ⟨[.list e.size []], ⟨[], rfl, by simp, by simp⟩, rfl, rfl, reps_one .listNil rfl⟩
      obtain ⟨es, hes, hp⟩ := list_choice len (fun i (as : List AV) => ∃ cs', w.cells? base (a.add (i * e.size)) e.size = some cs' ∧ e.V as ∧ as.length = e.size ∧ Reps w cs' as) fun i hi => by
        have hi' : i < elems.length := by omega
        have := hel i hi
        rw [List.getElem?_eq_getElem hi', Option.bind_eq_some_iff, hsz] at this
        obtain ⟨cs', h1, h2⟩ := this
        obtain ⟨as, h3, h4, h5, h6⟩ := Sh.rep e te n cs' _ hs h2
        exact ⟨as, cs', h1, h3, h4, h6⟩
      have cells : ∀ (i : Nat) (x : List AV) (j : Nat) (b : AV), es[i]? = some x → x[j]? = some b → ∃ c, w.cell? (a.add (i * e.size + j)) = some c ∧ RepI w (fun b => b < w.heap.size) c b ∧ c.oneCell' = true := fun i x j b hx hj => by
        obtain ⟨cs', h1, h3, h4, h6⟩ := hp i x hx
        obtain ⟨_, hl', hc⟩ := World.cells?_some h1
        have hj' := (List.getElem?_eq_some_iff.1 hj).1
        have hcj : cs'[j]? = some (cs'[j]'(by omega)) := List.getElem?_eq_getElem (by omega)
        obtain ⟨r1, r2⟩ := h6 j _ b hcj hj
        refine ⟨_, ?_, r1, r2⟩
        have := hc j (by omega)
        rw [add_add, hcj] at this
        exact this
      have hblk : a.block < w.heap.size := by
        obtain ⟨cs', h1, h3, h4, h6⟩ := hp 0 (es[0]'(by omega)) (List.getElem?_eq_getElem (by omega))
        obtain ⟨_, hl', hc⟩ := World.cells?_some h1
        have := hc 0 hpos
        rw [List.getElem?_eq_getElem (by omega)] at this
        have := cell_in this
        rw [block_add, block_add] at this
        exact this
      refine ⟨[.list e.size es], ⟨es, rfl, by omega, fun x hx => ?_⟩, rfl, rfl, reps_one ?_ rfl⟩
      · obtain ⟨i, hi⟩ := List.getElem?_of_mem hx
        obtain ⟨_, _, h3, _⟩ := hp i x hi
        exact h3
      · refine .list (fun i j => (w.cell? (a.add (i * e.size + j))).getD undef) hes hl hblk (fun x hx => ?_) ?_ ?_ ?_
        · obtain ⟨i, hi⟩ := List.getElem?_of_mem hx
          obtain ⟨_, _, _, h4, _⟩ := hp i x hi
          exact h4
        · intro i x j b hx hj
          obtain ⟨c, h1, _⟩ := cells i x j b hx hj
          rw [h1]; rfl
        · intro i x j b hx hj
          obtain ⟨c, h1, _, h3⟩ := cells i x j b hx hj
          rw [h1]; exact h3
        · intro i x j b hx hj
          obtain ⟨c, h1, h2, _⟩ := cells i x j b hx hj
          rw [h1]; exact h2
    · cases hs
  | .strct fs, t, fuel, cs, x, hs, h => by
    simp only [Sh.ok, Bool.and_eq_true, decide_eq_true_eq] at hs
    obtain ⟨hc, hs⟩ := hs
    split at hs
    · rename_i fields hu
      obtain ⟨xs, n, _, _, hl, hxl, hf⟩ := DataW.trod_struct hu h
      obtain ⟨as, h1, h2, h3⟩ := Fs.rep fs fields.toList 0 n cs xs hs (by simp [hxl]) (by rw [hl, hc]; simp) fun i f hi => hf i f (by simpa using hi)
      refine ⟨as, h1, h2, by rw [hl, hc]; rfl, fun i c a hci ha => h3 i c a (by simpa using hci) ha⟩
    · cases hs
theorem Fs.rep : ∀ (fs : Fs) (fields : List Field) (off n : Nat) (cs : List Value) (xs : List (DataW H × List MemPlace)), fs.ok P fields off = true → xs.length = fields.length → cs.length = off + fs.size →
    (∀ (i : Nat) (f : Field), fields[i]? = some f → DataW.trod enc P w base spare held n f.type ((cs.drop f.offset).take (P.cellsOf f.type)) = xs[i]?) →
    ∃ as, fs.V as ∧ as.length = fs.size ∧ ∀ (i : Nat) (c : Value) (a : AV), cs[off + i]? = some c → as[i]? = some a → RepI w (fun b => b < w.heap.size) c a ∧ c.oneCell' = true
  | .nil, fields, off, n, cs, xs, hs, hxl, hcl, hf => ⟨[], rfl, rfl, fun i c a hc ha => by simp at ha⟩
  | .cons s fs, [], off, n, cs, xs, hs, hxl, hcl, hf => by simp [Fs.ok] at hs
  | .cons s fs, f :: l, off, n, cs, [], hs, hxl, hcl, hf => by simp at hxl
  | .cons s fs, f :: l, off, n, cs, y :: xs, hs, hxl, hcl, hf => by
    simp only [Fs.ok, Bool.and_eq_true, decide_eq_true_eq] at hs
    obtain ⟨⟨h1, h2⟩, h3⟩ := hs
    have hsz := Sh.ok_size P s f.type h1
    have h0 := hf 0 f rfl
    rw [h2, hsz] at h0
    simp only [List.getElem?_cons_zero] at h0
    obtain ⟨as, a1, a2, a3, a4⟩ := Sh.rep s f.type n _ _ h1 h0
    simp only [Fs.size] at hcl
    obtain ⟨bs, b1, b2, b3⟩ := Fs.rep fs l (off + s.size) n cs xs h3 (by simpa using hxl) (by omega) fun i g hi => by
      have := hf (i + 1) g (by simpa using hi)
      simpa using this
    refine ⟨as ++ bs, ⟨as, bs, rfl, a1, b1⟩, by simp [a2, b2, Fs.size], fun i c a hc ha => ?_⟩
    by_cases hi : i < s.size
    · rw [List.getElem?_append_left (by omega)] at ha
      refine a4 i c a ?_ ha
      rw [List.getElem?_take, if_pos hi, List.getElem?_drop]
      exact hc
    · rw [List.getElem?_append_right (by omega)] at ha
      refine b3 (i - s.size) c a ?_ (by rw [← a2]; exact ha)
      rw [← hc]
      congr 1
      omega
end

/-- An argument, whole. -/
def Sh.A (s : Sh) (a : AV) : Prop := match s with
  | .strct fs => ∃ cs, a = .agg cs ∧ fs.V cs
  | s => s.V [a]
theorem arg_rep {s : Sh} {t : TypeId} {r : Reach} {b0 : Nat} {v : Value} {d : DataW H} {ps : List MemPlace} (hs : s.ok P t = true) (hval : Value.okWide P w r b0 t v) (h : DataW.Trod enc P w base spare held t v d ps) :
    ∃ a, s.A a ∧ RepI w (fun b => b < w.heap.size) v a := by
  have h' := h
  obtain ⟨fuel, hf⟩ := h
  obtain ⟨as, h1, h2, h3, h4⟩ := Sh.rep s t fuel _ _ hs hf
  have scal : s.size = 1 → v.cells.toList = [v] → ∃ a, s.V [a] ∧ RepI w (fun b => b < w.heap.size) v a := fun e hv => by
    rw [e] at h2
    match as, h2 with
    | [a], _ =>
      rw [hv] at h4
      exact ⟨a, h1, (h4 0 _ _ rfl rfl).1⟩
  cases s with
  | strct fs =>
    unfold Value.okWide at hval
    simp only [Sh.ok, Bool.and_eq_true, decide_eq_true_eq] at hs
    obtain ⟨_, hs⟩ := hs
    split at hs
    · rename_i fields hu
      rw [hu] at hval
      obtain ⟨cs, rfl, _⟩ := hval
      refine ⟨.agg as, ⟨as, rfl, h1⟩, .agg ?_ fun i c a hc ha => (h4 i c a ?_ ha).1⟩
      · simp only [Value.cells, Array.length_toList] at h3
        omega
      · simpa [Value.cells] using hc
    · cases hs
  | int k =>
    simp only [Sh.ok, Bool.and_eq_true, decide_eq_true_eq] at hs
    obtain ⟨_, hs⟩ := hs
    split at hs
    · rename_i hu
      obtain ⟨m, rfl, _⟩ := open_int hu hval h'
      exact scal rfl rfl
    · cases hs
  | bool =>
    simp only [Sh.ok, Bool.and_eq_true, decide_eq_true_eq] at hs
    obtain ⟨_, hs⟩ := hs
    split at hs
    · rename_i hu
      obtain ⟨m, rfl, _⟩ := open_bool hu hval h'
      exact scal rfl rfl
    · cases hs
  | str =>
    simp only [Sh.ok, Bool.and_eq_true, decide_eq_true_eq] at hs
    obtain ⟨_, hs⟩ := hs
    split at hs
    · rename_i hu
      obtain ⟨s, hv, _⟩ := DataW.trod_string hu hf
      refine scal rfl ?_
      obtain ⟨s', rfl⟩ := okWide_string hu hval
      rfl
    · cases hs
  | slice e =>
    simp only [Sh.ok, Bool.and_eq_true, decide_eq_true_eq] at hs
    obtain ⟨_, hs⟩ := hs
    split at hs
    · rename_i te hu
      obtain ⟨A, n, c, rfl⟩ := okWide_slice hu hval
      exact scal rfl rfl
    · cases hs

def ShsA : List Sh → List AV → Prop
  | [], [] => True
  | s :: ss, a :: as => s.A a ∧ ShsA ss as
  | _, _ => False
theorem shsA_cons {s : Sh} {ss : List Sh} {l : List AV} (h : ShsA (s :: ss) l) : ∃ a l', l = a :: l' ∧ s.A a ∧ ShsA ss l' := by
  cases l with
  | nil => exact h.elim
  | cons a l => exact ⟨a, l, rfl, h.1, h.2⟩
theorem shsA_nil {l : List AV} (h : ShsA [] l) : l = [] := by
  cases l with
  | nil => rfl
  | cons a l => exact h.elim
def ShsOk (P : Program) : List Sh → List TypeId → Bool
  | [], [] => true
  | s :: ss, t :: ts => s.ok P t && (P.readableRec t && decide (t < P.types.size)) && ShsOk P ss ts
  | _, _ => false
theorem args_rep {r : Reach} {b0 : Nat} : ∀ (ss : List Sh) (ts : List TypeId) (vs : List Value) (ds : List (DataW H)) (ps : List MemPlace), ShsOk P ss ts = true → (∀ (j : Nat) (t : TypeId) (v : Value), ts[j]? = some t → vs[j]? = some v → Value.okWide P w r b0 t v) →
    DataW.TrodAll enc P w base spare held ts vs ds ps → ∃ as, ShsA ss as ∧ as.length = vs.length ∧ ∀ (i : Nat) (v : Value) (a : AV), vs[i]? = some v → as[i]? = some a → RepI w (fun b => b < w.heap.size) v a
  | [], [], vs, ds, ps, _, _, h => by
    obtain ⟨rfl, _, _⟩ := trodAll_nil h
    exact ⟨[], trivial, rfl, fun i v a hv => by simp at hv⟩
  | [], t :: ts, vs, ds, ps, hs, _, h => by simp [ShsOk] at hs
  | s :: ss, [], vs, ds, ps, hs, _, h => by simp [ShsOk] at hs
  | s :: ss, t :: ts, vs, ds, ps, hs, hval, h => by
    simp only [ShsOk, Bool.and_eq_true, decide_eq_true_eq] at hs
    match vs, ds, h with
    | v :: vs, d :: ds, ⟨p, q, h1, h2, _⟩ =>
      obtain ⟨a, a1, a2⟩ := arg_rep hs.1.1 (hval 0 t v rfl rfl) h1
      obtain ⟨as, b1, b2, b3⟩ := args_rep ss ts vs ds q hs.2 (fun j t v ht hv => hval (j + 1) t v (by simpa using ht) (by simpa using hv)) h2
      refine ⟨a :: as, ⟨a1, b1⟩, by simp [b2], fun i v' a' hv ha => ?_⟩
      rcases i with _ | i
      · simp at hv ha
        subst hv; subst ha
        exact a2
      · exact b3 i v' a' (by simpa using hv) (by simpa using ha)
theorem trodAll_stays (hl : laidOutB P = true) {W W' : World} {sp : Nat → Bool} : ∀ (ss : List Sh) (ts : List TypeId) (vs : List Value) (ds : List (DataW H)) (ps : List MemPlace), ShsOk P ss ts = true → DataW.TrodAll enc P W 0 (fun _ => true) true ts vs ds ps →
    (∀ p ∈ ps, W.sameAt W' p) → (∀ p ∈ ps, sp p.block = true) → DataW.TrodAll enc P W' 0 sp true ts vs ds ps
  | [], [], vs, ds, ps, _, h, _, _ => by
    obtain ⟨rfl, rfl, rfl⟩ := trodAll_nil h
    exact rfl
  | [], t :: ts, vs, ds, ps, hs, h, _, _ => by simp [ShsOk] at hs
  | s :: ss, [], vs, ds, ps, hs, h, _, _ => by simp [ShsOk] at hs
  | s :: ss, t :: ts, vs, ds, ps, hs, h, hsame, hsp => by
    simp only [ShsOk, Bool.and_eq_true, decide_eq_true_eq] at hs
    match vs, ds, h with
    | v :: vs, d :: ds, ⟨p, q, h1, h2, hp⟩ =>
      subst hp
      exact ⟨p, q, WideElems.Trod_stays hl hs.1.2.1 hs.1.2.2 h1 (fun x hx => hsame x (by simp [hx])) (fun x hx => hsp x (by simp [hx])),
        trodAll_stays hl ss ts vs ds q hs.2 h2 (fun x hx => hsame x (by simp [hx])) (fun x hx => hsp x (by simp [hx])), rfl⟩
theorem trodAll_dlen : ∀ (ts : List TypeId) (vs : List Value) (ds : List (DataW H)) (ps : List MemPlace), DataW.TrodAll enc P w base spare held ts vs ds ps → ds.length = ts.length
  | [], vs, ds, ps, h => by
    obtain ⟨_, rfl, _⟩ := trodAll_nil h
    rfl
  | t :: ts, vs, ds, ps, h => by
    match vs, ds, h with
    | v :: vs, d :: ds, ⟨p, q, _, h2, _⟩ => simp [trodAll_dlen ts vs ds q h2]
theorem list_len1 {α : Type} {l : List α} (h : l.length = 1) : ∃ a0, l = [a0] := by
  match l, h with
  | [a0], _ => exact ⟨a0, rfl⟩
theorem list_len2 {α : Type} {l : List α} (h : l.length = 2) : ∃ a0 a1, l = [a0, a1] := by
  match l, h with
  | [a0, a1], _ => exact ⟨a0, a1, rfl⟩
theorem list_len3 {α : Type} {l : List α} (h : l.length = 3) : ∃ a0 a1 a2, l = [a0, a1, a2] := by
  match l, h with
  | [a0, a1, a2], _ => exact ⟨a0, a1, a2, rfl⟩
theorem list_len4 {α : Type} {l : List α} (h : l.length = 4) : ∃ a0 a1 a2 a3, l = [a0, a1, a2, a3] := by
  match l, h with
  | [a0, a1, a2, a3], _ => exact ⟨a0, a1, a2, a3, rfl⟩
theorem list_len5 {α : Type} {l : List α} (h : l.length = 5) : ∃ a0 a1 a2 a3 a4, l = [a0, a1, a2, a3, a4] := by
  match l, h with
  | [a0, a1, a2, a3, a4], _ => exact ⟨a0, a1, a2, a3, a4, rfl⟩
theorem list_len6 {α : Type} {l : List α} (h : l.length = 6) : ∃ a0 a1 a2 a3 a4 a5, l = [a0, a1, a2, a3, a4, a5] := by
  match l, h with
  | [a0, a1, a2, a3, a4, a5], _ => exact ⟨a0, a1, a2, a3, a4, a5, rfl⟩
theorem list_len7 {α : Type} {l : List α} (h : l.length = 7) : ∃ a0 a1 a2 a3 a4 a5 a6, l = [a0, a1, a2, a3, a4, a5, a6] := by
  match l, h with
  | [a0, a1, a2, a3, a4, a5, a6], _ => exact ⟨a0, a1, a2, a3, a4, a5, a6, rfl⟩
theorem list_len8 {α : Type} {l : List α} (h : l.length = 8) : ∃ a0 a1 a2 a3 a4 a5 a6 a7, l = [a0, a1, a2, a3, a4, a5, a6, a7] := by
  match l, h with
  | [a0, a1, a2, a3, a4, a5, a6, a7], _ => exact ⟨a0, a1, a2, a3, a4, a5, a6, a7, rfl⟩
theorem list_len9 {α : Type} {l : List α} (h : l.length = 9) : ∃ a0 a1 a2 a3 a4 a5 a6 a7 a8, l = [a0, a1, a2, a3, a4, a5, a6, a7, a8] := by
  match l, h with
  | [a0, a1, a2, a3, a4, a5, a6, a7, a8], _ => exact ⟨a0, a1, a2, a3, a4, a5, a6, a7, a8, rfl⟩
theorem list_len10 {α : Type} {l : List α} (h : l.length = 10) : ∃ a0 a1 a2 a3 a4 a5 a6 a7 a8 a9, l = [a0, a1, a2, a3, a4, a5, a6, a7, a8, a9] := by
  match l, h with
  | [a0, a1, a2, a3, a4, a5, a6, a7, a8, a9], _ => exact ⟨a0, a1, a2, a3, a4, a5, a6, a7, a8, a9, rfl⟩
theorem list_len11 {α : Type} {l : List α} (h : l.length = 11) : ∃ a0 a1 a2 a3 a4 a5 a6 a7 a8 a9 a10, l = [a0, a1, a2, a3, a4, a5, a6, a7, a8, a9, a10] := by
  match l, h with
  | [a0, a1, a2, a3, a4, a5, a6, a7, a8, a9, a10], _ => exact ⟨a0, a1, a2, a3, a4, a5, a6, a7, a8, a9, a10, rfl⟩
theorem list_len12 {α : Type} {l : List α} (h : l.length = 12) : ∃ a0 a1 a2 a3 a4 a5 a6 a7 a8 a9 a10 a11, l = [a0, a1, a2, a3, a4, a5, a6, a7, a8, a9, a10, a11] := by
  match l, h with
  | [a0, a1, a2, a3, a4, a5, a6, a7, a8, a9, a10, a11], _ => exact ⟨a0, a1, a2, a3, a4, a5, a6, a7, a8, a9, a10, a11, rfl⟩
end
end Go.PA
