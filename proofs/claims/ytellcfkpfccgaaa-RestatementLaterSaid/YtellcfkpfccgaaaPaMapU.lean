/- PA: maps in use: numbers by numbers, bools by numbers; rows of numbers. -/
import Derived.Test.YtellcfkpfccgaaaPaM
namespace Go.PA
open Go.RowKit

def valI : Int → Value := Value.int .i64
def valB : Bool → Value := Value.bool

/-- A map by numbers. -/
def encK {β : Type} (f : β → Value) (l : List (Int × β)) : List (List AV) := l.map fun e => [.sc (.int .i64 e.1), .sc (f e.2)]
def imK {β : Type} (f : β → Value) (l : List (Int × β)) : List (Value × Value) := l.map fun e => (.int .i64 e.1, f e.2)

def getM {β : Type} : List (Int × β) → Int → Option β
  | [], _ => none
  | e :: l, k => if e.1 = k then some e.2 else getM l k
def putM {β : Type} : List (Int × β) → Int → β → List (Int × β)
  | [], k, v => [(k, v)]
  | e :: l, k, v => if e.1 = k then (k, v) :: l else e :: putM l k v

section
variable {β : Type} {f : β → Value}

theorem encK_nil : encK f [] = [] := rfl
theorem entsOf_encK (l : List (Int × β)) : entsOf (encK f l) = some (l.map fun e => (.int .i64 e.1, .sc (f e.2))) := by
  induction l with
  | nil => rfl
  | cons e l ih =>
    simp only [encK, List.map_cons, entsOf] at ih ⊢
    rw [ih]
    rfl
theorem ents1_encK (l : List (Int × β)) : ents1 (encK f l) = some (imK f l) := by
  induction l with
  | nil => rfl
  | cons e l ih =>
    simp only [encK, List.map_cons, ents1] at ih ⊢
    rw [ih]
    rfl

theorem afind_map (l : List (Int × β)) (n : Int) : afind (.int .i64) (.int .i64 n) (l.map fun e => (.int .i64 e.1, .sc (f e.2))) = some ((getM l n).map fun b => .sc (f b)) := by
  induction l with
  | nil => rfl
  | cons e l ih =>
    simp only [List.map_cons, afind, Instr.sameNow, getM, if_true]
    by_cases h : n = e.1
    · subst h; simp
    · rw [if_neg (fun q => h q.symm)]
      have hb : (n == e.1) = false := by simpa using h
      rw [hb]
      simp only [ih]

theorem aput_encK (l : List (Int × β)) (n : Int) (b : β) : aput (.int .i64) (.int .i64 n) (.sc (f b)) (encK f l) = some (encK f (putM l n b)) := by
  induction l with
  | nil => rfl
  | cons e l ih =>
    simp only [encK, List.map_cons, aput, Instr.sameNow, putM, if_true] at ih ⊢
    by_cases h : n = e.1
    · subst h; simp
    · rw [if_neg (fun q => h q.symm)]
      have hb : (n == e.1) = false := by simpa using h
      rw [hb]
      simp only [ih, Option.map_some, List.map_cons]
end

/-! ### The rules -/
section
variable {E : Env} {P : Program} {H : Heap}

theorem aeff_makeMap {t : TypeId} {ev : Operand → AV} {C : AV → Heap → Prop} : AEff E (.makeMap t none) ev H C = OV2 (.mref H.length) (H ++ [some ⟨0, 2, []⟩]) C .mk := rfl
theorem aeff_mapUpdate {t : TypeId} {x k v : Operand} {ev : Operand → AV} {C : AV → Heap → Prop} : AEff E (.mapUpdate t x k v) ev H C = OB (aupdate E.P t H (ev x) (ev k) (ev v)) (fun H' => C (.sc undef) H') .mk := by
  simp only [AEff]
  cases aupdate E.P t H (ev x) (ev k) (ev v) <;> rfl
theorem aeff_lookup {t : TypeId} {x k : Operand} {c : Bool} {ev : Operand → AV} {C : AV → Heap → Prop} : AEff E (.lookup t x k c) ev H C = OB (alookup E.P t H (ev x) (ev k) c) (fun v => C v H) .mk := aeff_read rfl
theorem aeff_entry {x : Operand} {ev : Operand → AV} {C : AV → Heap → Prop} : AEff E (.entry x) ev H C = OB (aentry H (ev x)) (fun v => C v H) .mk := aeff_read rfl

def rangeV (E : Env) (t : TypeId) (x : AV) (H : Heap) (C : AV → Heap → Prop) (_ : Bx C) : Prop := match x with
  | .imap es => if isMapT E.P t then C (.miter H.length) (H ++ [some ⟨0, 3, [[.junk, .junk, .imap es]]⟩]) else False
  | _ => False
theorem aeff_range {t : TypeId} {x : Operand} {ev : Operand → AV} {C : AV → Heap → Prop} : AEff E (.range t x) ev H C = rangeV E t (ev x) H C .mk := by
  simp only [AEff, rangeV]
  rfl
theorem rangeV_imap {t : TypeId} {es : List (Value × Value)} {C : AV → Heap → Prop} {b : Bx C} (h : isMapT E.P t = true) : rangeV E t (.imap es) H C b = OV2 (.miter H.length) (H ++ [some ⟨0, 3, [[.junk, .junk, .imap es]]⟩]) C .mk := by
  simp only [rangeV, h, if_true, OV2]

/-- The next entry: both ways are to be walked. -/
def ANext (left : List (Value × Value)) (id : Nat) (o : AObj) (H : Heap) (C : AV → Heap → Prop) (_ : Bx C) : Prop :=
  (left = [] → C (.tup [.sc (.bool false)]) H) ∧ ∀ (i : Nat) (e : Value × Value), left[i]? = some e → C (.tup [.sc (.bool true), .sc e.1, .sc e.2]) (H.set id (some { o with es := [[.sc e.1, .sc e.2, .imap (left.eraseIdx i)]] }))
def nextV (x : AV) (s : Bool) (H : Heap) (C : AV → Heap → Prop) (b : Bx C) : Prop := match x with
  | .miter id => match H[id]? with
    | some (some o) => match o.es with
      | [[_, _, .imap left]] => s = false ∧ ANext left id o H C b
      | _ => False
    | _ => False
  | _ => False
def nextO (y : Option (Option AObj)) (id : Nat) (H : Heap) (C : AV → Heap → Prop) (b : Bx C) : Prop := match y with
  | some (some o) => match o.es with
    | [[_, _, .imap left]] => ANext left id o H C b
    | _ => False
  | _ => False
theorem aeff_next {x : Operand} {ev : Operand → AV} {C : AV → Heap → Prop} : AEff E (.next x false) ev H C = nextV (ev x) false H C .mk := by
  simp only [AEff, nextV, ANext]
  rfl
theorem nextV_it {id : Nat} {C : AV → Heap → Prop} {b : Bx C} : nextV (.miter id) false H C b = nextO H[id]? id H C .mk := by
  simp only [nextV, nextO, true_and]
theorem nextO_some {id ty k : Nat} {a1 a2 : AV} {left : List (Value × Value)} {C : AV → Heap → Prop} {b : Bx C} : nextO (some (some ⟨ty, k, [[a1, a2, .imap left]]⟩)) id H C b = ANext left id ⟨ty, k, [[a1, a2, .imap left]]⟩ H C .mk := rfl
theorem anext {β : Type} {f : β → Value} {l : List (Int × β)} {id ty k : Nat} {es : List (List AV)} {C : AV → Heap → Prop} {b : Bx C} (h1 : l = [] → C (.tup [.sc (.bool false)]) H)
    (h2 : ∀ (i : Nat) (n : Int) (v : β), l[i]? = some (n, v) → C (.tup [.sc (.bool true), .sc (.int .i64 n), .sc (f v)]) (H.set id (some ⟨ty, k, [[.sc (.int .i64 n), .sc (f v), .imap (imK f (l.eraseIdx i))]]⟩))) : ANext (imK f l) id ⟨ty, k, es⟩ H C b := by
  refine ⟨fun h => h1 (by simpa [imK] using h), fun i e he => ?_⟩
  rw [imK, List.getElem?_map, Option.map_eq_some_iff] at he
  obtain ⟨⟨n, v⟩, hp, rfl⟩ := he
  have := h2 i n v hp
  rw [imK, eraseIdx_map']
  exact this

def alookO (P : Program) (t : TypeId) (y : Option (Option AObj)) (k : AV) (c : Bool) : Option AV := match mapOf P t, k, (match y with | some (some o) => entsOf o.es | _ => none) with
  | some (_, d, et), .sc kv, some es => if isKeyB d kv then (match afind d kv es with
    | some (some a) => some (if c then .tup [a, .sc (.bool true)] else a)
    | some none => (azero1 P et).map fun z => if c then .tup [z, .sc (.bool false)] else z
    | none => none) else none
  | _, _, _ => none
theorem alook_mref {t : TypeId} {id : Nat} {k : AV} {c : Bool} : alookup P t H (.mref id) k c = alookO P t H[id]? k c := rfl

theorem look_core {β : Type} {f : β → Value} {d : β} {et : TypeId} (hz : azero1 P et = some (.sc (f d))) (l : List (Int × β)) (n : Int) (c : Bool) :
    (match afind (.int .i64) (.int .i64 n) (l.map fun e => (.int .i64 e.1, .sc (f e.2))) with
    | some (some a) => some (if c then .tup [a, .sc (.bool true)] else a)
    | some none => (azero1 P et).map fun z => if c then .tup [z, .sc (.bool false)] else z
    | none => none) = some (if c then .tup [.sc (f ((getM l n).getD d)), .sc (.bool (getM l n).isSome)] else .sc (f ((getM l n).getD d))) := by
  rw [afind_map]
  cases getM l n with
  | none => simp [hz]
  | some b => simp
theorem alookO_enc {β : Type} {f : β → Value} {d : β} {t kt et : TypeId} (hm : mapOf P t = some (kt, .int .i64, et)) (hz : azero1 P et = some (.sc (f d))) {ty k : Nat} {l : List (Int × β)} {n : Int} {c : Bool} :
    alookO P t (some (some ⟨ty, k, encK f l⟩)) (.sc (.int .i64 n)) c = some (if c then .tup [.sc (f ((getM l n).getD d)), .sc (.bool (getM l n).isSome)] else .sc (f ((getM l n).getD d))) := by
  rw [← look_core hz l n c]
  simp only [alookO, hm, entsOf_encK, isKeyB, decide_true, if_true]
theorem alook_imap {β : Type} {f : β → Value} {d : β} {t kt et : TypeId} (hm : mapOf P t = some (kt, .int .i64, et)) (hz : azero1 P et = some (.sc (f d))) {l : List (Int × β)} {n : Int} {c : Bool} :
    alookup P t H (.imap (imK f l)) (.sc (.int .i64 n)) c = some (if c then .tup [.sc (f ((getM l n).getD d)), .sc (.bool (getM l n).isSome)] else .sc (f ((getM l n).getD d))) := by
  rw [← look_core hz l n c]
  simp only [alookup, hm, ents, imK, List.map_map, isKeyB, decide_true, if_true]
  rfl
theorem alookO_I {t : TypeId} (h : IMap P t (.sc (.int .i64 0))) {ty k : Nat} {l : List (Int × Int)} {n : Int} :
    alookO P t (some (some ⟨ty, k, encK valI l⟩)) (.sc (.int .i64 n)) false = some (.sc (.int .i64 ((getM l n).getD 0))) := by
  obtain ⟨kt, et, hm, hz⟩ := h
  exact (alookO_enc (f := valI) (d := 0) hm hz).trans rfl
theorem alook_I {t : TypeId} (h : IMap P t (.sc (.int .i64 0))) {l : List (Int × Int)} {n : Int} :
    alookup P t H (.imap (imK valI l)) (.sc (.int .i64 n)) false = some (.sc (.int .i64 ((getM l n).getD 0))) := by
  obtain ⟨kt, et, hm, hz⟩ := h
  exact (alook_imap (f := valI) (d := 0) hm hz).trans rfl
theorem alookO_B {t : TypeId} (h : IMap P t (.sc (.bool false))) {ty k : Nat} {l : List (Int × Bool)} {n : Int} :
    alookO P t (some (some ⟨ty, k, encK valB l⟩)) (.sc (.int .i64 n)) false = some (.sc (.bool ((getM l n).getD false))) := by
  obtain ⟨kt, et, hm, hz⟩ := h
  exact (alookO_enc (f := valB) (d := false) hm hz).trans rfl

def aupdO (P : Program) (t : TypeId) (id : Nat) (H : Heap) (y : Option (Option AObj)) (k v : AV) : Option Heap := match mapOf P t, k, y with
  | some (_, d, _), .sc kv, some (some o) => if isKeyB d kv then (aput d kv v o.es).map fun es => H.set id (some { o with es := es }) else none
  | _, _, _ => none
theorem aupd_mref {t : TypeId} {id : Nat} {k v : AV} : aupdate P t H (.mref id) k v = aupdO P t id H H[id]? k v := by
  unfold aupdate aupdO
  cases mapOf P t with
  | none => rfl
  | some m =>
    cases k <;> first | rfl | skip
    rename_i kv
    obtain ⟨kt, d, et⟩ := m
    simp only
    generalize H[id]? = y
    cases y with
    | none => simp
    | some y => cases y with
      | none => simp
      | some o => rfl
theorem aupdO_enc {β : Type} {f : β → Value} {t kt et : TypeId} (hm : mapOf P t = some (kt, .int .i64, et)) {id ty k : Nat} {l : List (Int × β)} {n : Int} {b : β} :
    aupdO P t id H (some (some ⟨ty, k, encK f l⟩)) (.sc (.int .i64 n)) (.sc (f b)) = some (H.set id (some ⟨ty, k, encK f (putM l n b)⟩)) := by
  simp only [aupdO, hm, isKeyB, decide_true, if_true, aput_encK, Option.map_some]
theorem aupdO_I {t : TypeId} (h : IMap P t (.sc (.int .i64 0))) {id ty k : Nat} {l : List (Int × Int)} {n b : Int} :
    aupdO P t id H (some (some ⟨ty, k, encK valI l⟩)) (.sc (.int .i64 n)) (.sc (.int .i64 b)) = some (H.set id (some ⟨ty, k, encK valI (putM l n b)⟩)) := by
  obtain ⟨kt, et, hm, hz⟩ := h
  exact aupdO_enc (f := valI) hm
theorem aupdO_B {t : TypeId} (h : IMap P t (.sc (.bool false))) {id ty k : Nat} {l : List (Int × Bool)} {n : Int} {b : Bool} :
    aupdO P t id H (some (some ⟨ty, k, encK valB l⟩)) (.sc (.int .i64 n)) (.sc (.bool b)) = some (H.set id (some ⟨ty, k, encK valB (putM l n b)⟩)) := by
  obtain ⟨kt, et, hm, hz⟩ := h
  exact aupdO_enc (f := valB) hm

def aentryO (y : Option (Option AObj)) : Option AV := match y with
  | some (some o) => match o.es with
    | [[.sc k, .sc v, _]] => some (.tup [.sc k, .sc v])
    | _ => none
  | _ => none
theorem aentry_it {id : Nat} : aentry H (.miter id) = aentryO H[id]? := rfl
theorem aentryO_some {ty k : Nat} {a b : Value} {c : AV} : aentryO (some (some ⟨ty, k, [[.sc a, .sc b, c]]⟩)) = some (.tup [.sc a, .sc b]) := rfl

def viewM (y : Option (Option AObj)) : AV := match y with
  | some (some o) => match ents1 o.es with
    | some es => .imap es
    | none => .junk
  | _ => .junk
theorem view_mref {id : Nat} : view H (.mref id) = viewM H[id]? := rfl
theorem view1_mref {id : Nat} : view1 H (.mref id) = viewM H[id]? := rfl
theorem view2_mref {id : Nat} : view2 H (.mref id) = viewM H[id]? := rfl
theorem viewM_enc {β : Type} {f : β → Value} {ty k : Nat} {l : List (Int × β)} : viewM (some (some ⟨ty, k, encK f l⟩)) = .imap (imK f l) := by simp only [viewM, ents1_encK]
end

section
variable {E : Env} {ev : Operand → AV} {H : Heap} {k : AV → Prop} {b : Bx k}
theorem ard_lookup {t : TypeId} {x y : Operand} {c : Bool} : ARd E (.lookup t x y c) ev H k b = AEff E (.lookup t x y c) ev H fun v _ => k v := ard_aeff rfl
theorem ard_entry {x : Operand} : ARd E (.entry x) ev H k b = AEff E (.entry x) ev H fun v _ => k v := ard_aeff rfl
end
attribute [go_sem ↓] ard_lookup ard_entry
attribute [go_sem ↓] aeff_makeMap aeff_mapUpdate aeff_lookup aeff_entry aeff_range aeff_next
attribute [go_sem] rangeV_imap nextV_it nextO_some alook_mref alookO_I alookO_B alook_I aupd_mref aupdO_I aupdO_B aentry_it aentryO_some view_mref view1_mref view2_mref viewM_enc

/-! ### An empty list, whatever it is in the machine -/
theorem pfun_list_nil {P : Program} {row src : Option Nat} {f : FuncId} {args : List AV} {k : Nat} {Q : AV → Prop} (h : ∀ A c, PFun P row src f (.sc (.slice A 0 c) :: args) Q) : PFun P row src f (.list k [] :: args) Q := by
  intro w ok vs h1 h2 h3 h4
  have h0 : 0 < vs.size := by rw [h3]; simp
  have hv := h4 0 vs[0] (.list k []) (Array.getElem?_eq_getElem h0) rfl
  have key : ∃ A c, vs[0] = .slice A 0 c := by
    generalize vs[0] = v at hv
    cases hv with
    | listNil => exact ⟨_, _, rfl⟩
    | list f hn _ _ _ _ _ _ => subst hn; exact ⟨_, _, rfl⟩
  obtain ⟨A, c, hA⟩ := key
  refine h A c w ok vs h1 h2 (by simpa using h3) fun i v a hv ha => ?_
  match i, hv, ha with
  | 0, hv, ha =>
    rw [Array.getElem?_eq_getElem h0, hA] at hv
    simp at hv ha
    subst hv; subst ha
    exact .sc
  | i + 1, hv, ha => exact h4 (i + 1) v a hv ha

/-- A struct of one slice that is nil. -/
theorem weak_nil1 {H : Heap} (k : Nat) : Weak (view H (.agg [.nil])) (.agg [.list k []]) := .agg rfl fun i a b ha hb => by
  match i, ha, hb with
  | 0, ha, hb =>
    simp [view_agg, view1_nil] at ha hb
    subst ha; subst hb
    exact .nil k
  | i + 1, ha, hb => simp at hb
/-! ### A nil slice in a variable is taken as an empty list -/
section
variable {E : Env}
theorem weaker_nilcell {s : St} {id ty : Nat} (k : Nat) (h : s.H[id]? = some (some ⟨ty, 1, [[.nil]]⟩)) : Weaker E s ⟨s.t, s.H.set id (some ⟨ty, 1, [[.list k []]]⟩)⟩ := by
  rintro a w ⟨ρ, ok, g, hx, hd, hs, hr⟩
  have hobj := g.obj id _ h
  cases hρ : ρ id with
  | none => rw [hρ] at hobj; cases hobj
  | some bc =>
    obtain ⟨b, cap⟩ := bc
    rw [hρ] at hobj
    obtain ⟨g', x'⟩ := g.change (w' := w) h hρ ⟨ty, 1, [[.list k []]]⟩ rfl (Nat.le_refl _) (by simp) rfl rfl rfl rfl (fun _ _ => rfl) fun hx' => by
      rcases hobj with ⟨cur, h1, h2, h3, h4, h5⟩ | ⟨_, hk, _⟩ | ⟨_, hk, _⟩
      · refine .inl ⟨cur, h1, h2, h3, h4, fun i e j a he ha => ?_⟩
        obtain ⟨c, c1, c2, c3⟩ := h5 0 [.nil] 0 .nil rfl rfl
        match i, he with
        | 0, he =>
          simp only [List.getElem?_cons_zero, Option.some.injEq] at he
          subst he
          match j, ha with
          | 0, ha =>
            simp only [List.getElem?_cons_zero, Option.some.injEq] at ha
            subst ha
            refine ⟨c, c1, c2, ?_⟩
            cases c3
            exact .listNil
      · cases hk
      · cases hk
    exact ⟨ρ, ok, g', hx.trans x', hd, hs, fun i => (hr i).ext x'⟩
theorem aloop_nilcell {c : Code} {s : St} {Q : Exit → St → Prop} {b : Bx (c, Q)} (id ty k : Nat) (h : s.H[id]? = some (some ⟨ty, 1, [[.nil]]⟩)) (hl : ALoop E c ⟨s.t, s.H.set id (some ⟨ty, 1, [[.list k []]]⟩)⟩ Q .mk) : ALoop E c s Q b :=
  AWp.weaken (weaker_nilcell k h) hl
/-- A variable of several cells: each nil may be taken as an empty list. -/
theorem weaker_cells {s : St} {id ty k : Nat} {cs cs' : List AV} (h : s.H[id]? = some (some ⟨ty, k, [cs]⟩)) (hk : k ≠ 2) (hi : ∀ es, cs[2]? ≠ some (.imap es)) (hl : cs'.length = cs.length) (hw : ∀ (j : Nat) (a b : AV), cs[j]? = some a → cs'[j]? = some b → Weak a b) : Weaker E s ⟨s.t, s.H.set id (some ⟨ty, k, [cs']⟩)⟩ := by
  rintro a w ⟨ρ, ok, g, hx, hd, hs, hr⟩
  have hobj := g.obj id _ h
  have hlen := g.len id _ h cs (by simp)
  cases hρ : ρ id with
  | none => rw [hρ] at hobj; cases hobj
  | some bc =>
    obtain ⟨b, cap⟩ := bc
    rw [hρ] at hobj
    obtain ⟨g', x'⟩ := g.change (w' := w) h hρ ⟨ty, k, [cs']⟩ rfl (Nat.le_refl _) (by simpa [hl] using hlen) rfl rfl rfl rfl (fun _ _ => rfl) fun hx' => by
      rcases hobj with ⟨cur, h1, h2, h3, h4, h5⟩ | ⟨_, hk', _⟩ | ⟨_, hk', he⟩
      · refine .inl ⟨cur, h1, h2, h3, h4, fun i e j a he ha => ?_⟩
        match i, he with
        | 0, he =>
          simp only [List.getElem?_cons_zero, Option.some.injEq] at he
          subst he
          have hj := (List.getElem?_eq_some_iff.1 ha).1
          obtain ⟨a0, ha0⟩ : ∃ a0, cs[j]? = some a0 := ⟨_, List.getElem?_eq_getElem (by omega)⟩
          obtain ⟨c, c1, c2, c3⟩ := h5 0 cs j a0 rfl ha0
          exact ⟨c, c1, c2, (c3.ext hx').weak (hw j a0 a ha0 ha)⟩
      · exact absurd hk' hk
      · exfalso
        rcases he with ⟨he, _⟩ | ⟨m, clk, seen, ents, c1, c2, _, _, _, _, he, _⟩
        · simp only [List.cons.injEq, and_true] at he
          exact hi [] (by rw [he]; rfl)
        · simp only [List.cons.injEq, and_true] at he
          exact hi _ (by rw [he]; rfl)
    exact ⟨ρ, ok, g', hx.trans x', hd, hs, fun i => (hr i).ext x'⟩
theorem aloop_cells {c : Code} {s : St} {Q : Exit → St → Prop} {b : Bx (c, Q)} (id : Nat) {ty k : Nat} (cs cs' : List AV) (h : s.H[id]? = some (some ⟨ty, k, [cs]⟩)) (hk : k ≠ 2) (hi : ∀ es, cs[2]? ≠ some (.imap es)) (hl : cs'.length = cs.length) (hw : ∀ (j : Nat) (a b : AV), cs[j]? = some a → cs'[j]? = some b → Weak a b) (hll : ALoop E c ⟨s.t, s.H.set id (some ⟨ty, k, [cs']⟩)⟩ Q .mk) : ALoop E c s Q b :=
  AWp.weaken (weaker_cells h hk hi hl hw) hll
end
/-! ### Heaps that agree -/
theorem agree_push {n : Nat} {H l : Heap} (h : n ≤ H.length) : Agree (fun id => decide (id < n)) H (H ++ l) := fun id hid => List.getElem?_append_left (by simp at hid; omega)
theorem agree_3 {a b c : Option AObj} {l l' : Heap} : Agree (fun id => decide (id < 3)) (a :: b :: c :: l) (a :: b :: c :: l') := fun id hid => by
  have : id < 3 := by simpa using hid
  rcases id with _ | _ | _ | id
  · rfl
  · rfl
  · rfl
  · omega

theorem agree_two {H H' : Heap} {X : List Nat} {p q : Nat} {o o' : AObj} (hk : Kept X H H') (hp : H[p]? = some (some o)) (hq : H[q]? = some (some o')) (np : p ∉ X) (nq : q ∉ X) : Agree (fun i => decide (i = p) || decide (i = q)) H H' := fun i hi => by
  simp only [Bool.or_eq_true, decide_eq_true_eq] at hi
  rcases hi with rfl | rfl
  · rw [hp, hk _ _ np hp]
  · rw [hq, hk _ _ nq hq]

theorem agree_live {D : Nat → Bool} {X : List Nat} {H H' : Heap} (hk : Kept X H H') (hD : ∀ i, D i = true → i ∉ X ∧ ∃ o, H[i]? = some (some o)) : Agree D H H' := fun i hi => by
  obtain ⟨h1, o, ho⟩ := hD i hi
  rw [ho, hk i o h1 ho]

theorem agree_one {H l : Heap} {n : Nat} (h : n < H.length) : Agree (fun id => decide (id = n)) H (H ++ l) := fun id hid => by
  have : id = n := by simpa using hid
  subst this
  exact List.getElem?_append_left h

theorem agree_1 {a : Option AObj} {l l' : Heap} : Agree (fun id => decide (id = 0)) (a :: l) (a :: l') := fun id hid => by
  have : id = 0 := by simpa using hid
  rcases id with _ | id
  · rfl
  · omega
theorem agree_2 {a b : Option AObj} {l l' : Heap} : Agree (fun id => decide (id < 2)) (a :: b :: l) (a :: b :: l') := fun id hid => by
  have : id < 2 := by simpa using hid
  rcases id with _ | _ | id
  · rfl
  · rfl
  · omega
theorem agree_2' {a b : Option AObj} {l l' : Heap} : Agree (fun id => decide (id = 1)) (a :: b :: l) (a :: b :: l') := fun id hid => by
  have : id = 1 := by simpa using hid
  subst this
  rfl

theorem heap_set_at {H : Heap} {x : Option AObj} {i : Nat} (h : i < H.length) (y : Option AObj) : ((H ++ [x]).set i y)[H.length]? = some x := by
  rw [List.getElem?_set_ne (by omega)]; simp
theorem heap_set_self {H : Heap} {x : Option AObj} {i : Nat} (h : i < H.length) (y : Option AObj) : ((H ++ [x]).set i y)[i]? = some y := List.getElem?_set_self (by simp; omega)
/-! ### Rows of numbers -/

theorem valI_eq (v : Int) : valI v = Value.int .i64 v := rfl
theorem valB_eq (v : Bool) : valB v = Value.bool v := rfl
def aixA (P : Program) (H : Heap) (a : Option (Nat × TypeId)) (id i j : Nat) (n : Int) : Option AV := match a with
  | some (len, e) => if knownT P e = true ∧ 0 ≤ n ∧ n < len then (if (addrCells H (.ref id i j)).isSome then some (.ref id i (j + n.toNat * szOf P e)) else none) else none
  | none => none
theorem aix_ref {P : Program} {t : TypeId} {H : Heap} {id i j : Nat} {n : Int} (h : Go.PA.elemOf P t = none) : aindexAddr P t H (.ref id i j) n = aixA P H (arrOf P t) id i j n := by
  simp only [aindexAddr, h, aixA]
  cases arrOf P t <;> rfl
theorem aixA_some {P : Program} {H : Heap} {len : Nat} {e : TypeId} {id i j : Nat} {n : Int} : aixA P H (some (len, e)) id i j n = if knownT P e = true ∧ 0 ≤ n ∧ n < len then (if (addrCells H (.ref id i j)).isSome then some (.ref id i (j + n.toNat * szOf P e)) else none) else none := rfl
def aixVA (P : Program) (cs : List AV) (n : Int) (a : Option (Nat × TypeId)) : Option AV := match a with
  | some (len, e) => if knownT P e = true ∧ 0 ≤ n ∧ n < len then apart P e cs (n.toNat * szOf P e) else none
  | none => none
theorem aixV_agg {P : Program} {t : TypeId} {cs : List AV} {k : IntKind} {n : Int} : aixV P t (.agg cs) (.sc (.int k n)) = aixVA P cs n (arrOf P t) := by
  simp only [aixV, aixVA]
  cases arrOf P t <;> rfl
theorem aixVA_some {P : Program} {cs : List AV} {n : Int} {len : Nat} {e : TypeId} : aixVA P cs n (some (len, e)) = if knownT P e = true ∧ 0 ≤ n ∧ n < len then apart P e cs (n.toNat * szOf P e) else none := rfl
attribute [go_sem] aix_ref aixA_some aixV_agg aixVA_some valI_eq valB_eq

def arI (xs : List Int) : List AV := xs.map fun x => .sc (.int .i64 x)
theorem arI_len (xs : List Int) : (arI xs).length = xs.length := by simp [arI]
theorem arI_at (xs : List Int) (j : Nat) : ((arI xs).drop j).head? = (xs[j]?).map fun x => .sc (.int .i64 x) := by simp [arI]
theorem arI_dropLen (xs : List Int) (j : Nat) : ((arI xs).drop j).length = xs.length - j := by simp [arI]
theorem arI_get (xs : List Int) (j : Nat) : (arI xs)[j]? = (xs[j]?).map fun x => .sc (.int .i64 x) := by simp [arI]
theorem arI_put {xs : List Int} {j : Nat} (v : Int) (h : j < xs.length) : (arI xs).take j ++ .sc (.int .i64 v) :: (arI xs).drop (j + 1) = arI (xs.set j v) := by
  simp only [arI, List.map_set]
  rw [List.set_eq_take_append_cons_drop, if_pos (by simpa using h)]
theorem arI_put' {xs : List Int} {j : Nat} (v : Int) (h : j < xs.length) : (arI xs).take j ++ [.sc (.int .i64 v)] ++ (arI xs).drop (j + 1) = arI (xs.set j v) := by
  rw [← arI_put v h]; simp
theorem arI_all (xs : List Int) : (arI xs).all AV.cellish = true := by simp [arI, AV.cellish, Value.oneCell']
theorem arI_take {xs : List Int} {n : Nat} (h : n = xs.length) : (arI xs).take n = arI xs := by subst h; rw [← arI_len, List.take_length]
theorem arI_rep (n : Nat) : List.replicate n (AV.sc (.int .i64 0)) = arI (List.replicate n 0) := by simp [arI]
theorem arI_view1 (H : Heap) (xs : List Int) : (arI xs).map (view1 H) = arI xs := by simp [arI, view1]
theorem arI_imm (xs : List Int) : ∀ a, a ∈ arI xs → Imm a := fun a ha => by
  obtain ⟨x, _, rfl⟩ := List.mem_map.1 ha
  exact .sc
theorem arI_drop {xs : List Int} {n : Nat} (h : xs.length ≤ n) : (arI xs).drop n = [] := List.drop_of_length_le (by rw [arI_len]; exact h)
attribute [go_sem] arI_len arI_at arI_dropLen arI_get arI_all arI_view1


/-! ### Calls of functions on objects, with lists of the walk's own (frozen) or empty ones -/
section
variable {E : Env} {H : Heap}
theorem acall_frzM {P : Program} {f : FuncId} {args : List AV} (args' : List AV) {C : AV → Heap → Prop} (hP : E.P = P) (hW : ∀ b, ¬ E.W b) (h : MFun P E.row E.src f args' (killAll (args.flatMap srefs) H) C) (ha : Args H args args') : ACall E f args H C := by
  have hc := h E hP rfl rfl
  refine ⟨hc.1, fun w ρ ok vs g hs hr => ?_⟩
  obtain ⟨ok', g2, x2, h2⟩ := g.freeze (args.flatMap srefs) hW
  refine (hc.2 w ρ ok' vs g2 (hs.trans ha.len) fun i v a' hv ha' => ?_).mono ?_
  · obtain ⟨a, h1, h3, h4⟩ := ha.get i a' ha'
    have hrep := view_soundX (· ∈ args.flatMap srefs) g (hr i v a hv h1) h4 fun id hid => List.mem_flatMap.2 ⟨a, List.mem_of_getElem? h1, hid⟩
    exact (Rep.imm hrep h2 h4).weak h3
  · rintro e w' ⟨v, x, H', ρ', ok'', rfl, hcc, g3, x3, hrep⟩
    exact ⟨v, x, H', ρ', ok'', rfl, hcc, g3, x2.trans x3, hrep⟩
theorem callB_frzM {P : Program} {f : FuncId} {args args' : List AV} {C C' : AV → Heap → Prop} {b : Bx C} (h : MFun P E.row E.src f args' (killAll (args.flatMap srefs) H) C') (hP : E.P = P) (hW : ∀ b, ¬ E.W b) (hen : enterable P f = true) (ha : Args H args args') (hC : ∀ r H', C' r H' → C r H') : CallB E f args H C b :=
  ⟨hP ▸ hen, (acall_frzM args' hP hW h ha).mono hC⟩
end

end Go.PA
