/- PA: maps by texts and by structs of numbers. -/
import Derived.Test.YtmkhcmiplleghaaGreatDoorPaC
namespace Go.PA
open Go.RowKit

section
variable {κ β : Type} [DecidableEq κ]
def getG : List (κ × β) → κ → Option β
  | [], _ => none
  | e :: l, k => if e.1 = k then some e.2 else getG l k
def putG : List (κ × β) → κ → β → List (κ × β)
  | [], k, v => [(k, v)]
  | e :: l, k, v => if e.1 = k then (k, v) :: l else e :: putG l k v
theorem get_putG (l : List (κ × β)) (k k' : κ) (v : β) : getG (putG l k v) k' = if k = k' then some v else getG l k' := by
  induction l with
  | nil => simp [getG, putG]
  | cons e l ih =>
    simp only [putG, getG]
    by_cases h : e.1 = k
    · subst h
      rw [if_pos rfl]
      simp only [getG]
      by_cases h' : e.1 = k'
      · simp [h']
      · simp [h']
    · rw [if_neg h]
      simp only [getG]
      rw [ih]
      by_cases h' : e.1 = k'
      · subst h'
        rw [if_pos rfl, if_pos rfl, if_neg (fun q => h q.symm)]
      · rw [if_neg h', if_neg h']
theorem putG_mem {l : List (κ × β)} {k : κ} {v : β} {e : κ × β} (h : e ∈ putG l k v) : e = (k, v) ∨ e ∈ l := by
  induction l with
  | nil => simp [putG] at h; exact .inl h
  | cons a l ih =>
    simp only [putG] at h
    split at h
    · rcases List.mem_cons.1 h with h | h
      · exact .inl h
      · exact .inr (by simp [h])
    · rcases List.mem_cons.1 h with h | h
      · exact .inr (by simp [h])
      · exact (ih h).imp id fun h => by simp [h]
end
section
variable {κ β : Type}
/-- A map whose keys are the values kv, and its values f. -/
def encG (kv : κ → Value) (f : β → Value) (l : List (κ × β)) : List (List AV) := l.map fun e => [.sc (kv e.1), .sc (f e.2)]
def imG (kv : κ → Value) (f : β → Value) (l : List (κ × β)) : List (Value × Value) := l.map fun e => (kv e.1, f e.2)
theorem entsOf_encG (kv : κ → Value) (f : β → Value) (l : List (κ × β)) : entsOf (encG kv f l) = some (l.map fun e => (kv e.1, .sc (f e.2))) := by
  induction l with
  | nil => rfl
  | cons e l ih =>
    simp only [encG, List.map_cons, entsOf] at ih ⊢
    rw [ih]
    rfl
theorem ents1_encG (kv : κ → Value) (f : β → Value) (l : List (κ × β)) : ents1 (encG kv f l) = some (imG kv f l) := by
  induction l with
  | nil => rfl
  | cons e l ih =>
    simp only [encG, List.map_cons, ents1] at ih ⊢
    rw [ih]
    rfl
end

/-! ### Texts -/
section
variable {β : Type} {f : β → Value} {P : Program} {H : Heap}
abbrev kS (b : ByteArray) : Value := .string b
theorem beq_bytes (a b : ByteArray) : (a == b) = decide (a = b) := by
  rw [Bool.eq_iff_iff, MapKept.bytes_beq]
  simp
theorem afind_S (l : List (ByteArray × β)) (n : ByteArray) : afind .string (.string n) (l.map fun e => (kS e.1, .sc (f e.2))) = some ((getG l n).map fun b => .sc (f b)) := by
  induction l with
  | nil => rfl
  | cons e l ih =>
    simp only [List.map_cons, afind, Instr.sameNow, getG, kS, beq_bytes]
    by_cases h : n = e.1
    · subst h; simp
    · rw [if_neg (fun q => h q.symm), decide_eq_false h]
      exact ih
theorem aput_S (l : List (ByteArray × β)) (n : ByteArray) (b : β) : aput .string (.string n) (.sc (f b)) (encG kS f l) = some (encG kS f (putG l n b)) := by
  induction l with
  | nil => rfl
  | cons e l ih =>
    simp only [encG, List.map_cons, aput, Instr.sameNow, putG, kS, beq_bytes] at ih ⊢
    by_cases h : n = e.1
    · subst h; simp
    · rw [if_neg (fun q => h q.symm), decide_eq_false h]
      simp only [ih, Option.map_some, List.map_cons]
/-- A map by texts, with the value of what is not there. -/
def SMap (P : Program) (t : TypeId) (z : AV) : Prop := ∃ kt et, mapOf P t = some (kt, .string, et) ∧ azero1 P et = some z
theorem alookO_S {t : TypeId} {d : β} (h : SMap P t (.sc (f d))) {ty k : Nat} {l : List (ByteArray × β)} {n : ByteArray} :
    alookO P t (some (some ⟨ty, k, encG kS f l⟩)) (.sc (.string n)) false = some (.sc (f ((getG l n).getD d))) := by
  obtain ⟨kt, et, hm, hz⟩ := h
  simp only [alookO, hm, entsOf_encG, isKeyB, if_true, afind_S, lkR]
  cases getG l n with
  | none => simp [hz]
  | some b => simp
theorem aupdO_S {t : TypeId} {d : β} (h : SMap P t (.sc (f d))) {id ty k : Nat} {l : List (ByteArray × β)} {n : ByteArray} {b : β} :
    aupdO P t id H (some (some ⟨ty, k, encG kS f l⟩)) (.sc (.string n)) (.sc (f b)) = some (H.set id (some ⟨ty, k, encG kS f (putG l n b)⟩)) := by
  obtain ⟨kt, et, hm, hz⟩ := h
  simp only [aupdO, hm, isKeyB, if_true, aput_S, Option.map_some]
end

/-! ### Structs of numbers -/
section
variable {β : Type} {f : β → Value} {P : Program} {H : Heap}
abbrev kJ (ns : List Int) : Value := .agg (ns.map (Value.int .i64)).toArray
theorem alikeT_J : ∀ (m : Nat) (ns ms : List Int), ns.length = m → ms.length = m → alikeT (List.replicate m .int) (ns.map (Value.int .i64)) (ms.map (Value.int .i64)) = some (decide (ns = ms))
  | 0, [], [], _, _ => rfl
  | m + 1, a :: ns, b :: ms, h1, h2 => by
    simp only [List.replicate_succ, List.map_cons, alikeT, alike1, if_true, alikeT_J m ns ms (by simpa using h1) (by simpa using h2)]
    rw [← Bool.decide_and]
    simp
theorem afind_J {m : Nat} (l : List (List Int × β)) (hl : ∀ e ∈ l, e.1.length = m) (ns : List Int) (hn : ns.length = m) : afindA (List.replicate m .int) (ns.map (Value.int .i64)) (l.map fun e => (kJ e.1, .sc (f e.2))) = some ((getG l ns).map fun b => .sc (f b)) := by
  induction l with
  | nil => rfl
  | cons e l ih =>
    have ih := ih fun x hx => hl x (by simp [hx])
    simp only [List.map_cons, afindA, getG, kJ, alikeT_J m ns e.1 hn (hl e (by simp))]
    by_cases h : ns = e.1
    · subst h; simp
    · rw [if_neg (fun q => h q.symm), decide_eq_false h]
      exact ih
theorem aput_J {m : Nat} (l : List (List Int × β)) (hl : ∀ e ∈ l, e.1.length = m) (ns : List Int) (hn : ns.length = m) (b : β) : aputA (List.replicate m .int) (ns.map (Value.int .i64)) (.sc (f b)) (encG kJ f l) = some (encG kJ f (putG l ns b)) := by
  induction l with
  | nil => rfl
  | cons e l ih =>
    have ih := ih fun x hx => hl x (by simp [hx])
    simp only [encG, List.map_cons, aputA, putG, kJ, alikeT_J m ns e.1 hn (hl e (by simp))] at ih ⊢
    by_cases h : ns = e.1
    · subst h; simp
    · rw [if_neg (fun q => h q.symm), decide_eq_false h]
      simp only [ih, Option.map_some, List.map_cons]
theorem scs_ints (ns : List Int) : scs (ns.map fun n => AV.sc (Value.int .i64 n)) = some (ns.map (Value.int .i64)) := by
  induction ns with
  | nil => rfl
  | cons a l ih => simp only [List.map_cons, scs, ih]
theorem keyVs_J {m : Nat} (ns : List Int) (hn : ns.length = m) : keyVs (List.replicate m .int) (ns.map fun n => AV.sc (Value.int .i64 n)) = some (ns.map (Value.int .i64)) := by
  unfold keyVs
  rw [scs_ints]
  dsimp only
  rw [if_pos ⟨by simp [hn], by simp⟩]
/-- A map by m numbers, with the value of what is not there. -/
def JMap (P : Program) (t : TypeId) (m : Nat) (z : AV) : Prop := ∃ kt d et, mapOf P t = some (kt, d, et) ∧ azero1 P et = some z ∧ keySig P kt = some (List.replicate m .int)
theorem jmap_mk {t kt et : TypeId} {m : Nat} {z : AV} (h1 : (mapOf P t).map (fun x => (x.1, x.2.2)) = some (kt, et)) (h2 : azero1 P et = some z) (h3 : keySig P kt = some (List.replicate m .int)) : JMap P t m z := by
  rw [Option.map_eq_some_iff] at h1
  obtain ⟨⟨kt', d, et'⟩, h, e⟩ := h1
  simp only [Prod.mk.injEq] at e
  obtain ⟨rfl, rfl⟩ := e
  exact ⟨_, d, _, h, h2, h3⟩
theorem alookO_J {t : TypeId} {d : β} {m : Nat} (h : JMap P t m (.sc (f d))) {ty k : Nat} {l : List (List Int × β)} (hl : ∀ e ∈ l, e.1.length = m) (ns : List Int) (hn : ns.length = m) :
    alookO P t (some (some ⟨ty, k, encG kJ f l⟩)) (.agg (ns.map fun n => .sc (.int .i64 n))) false = some (.sc (f ((getG l ns).getD d))) := by
  obtain ⟨kt, dd, et, hm, hz, hk⟩ := h
  simp only [alookO, hm, entsOf_encG, hk, keyVs_J ns hn, afind_J l hl ns hn, lkR]
  cases getG l ns with
  | none => simp [hz]
  | some b => simp
theorem alook_imJ {t : TypeId} {d : β} {m : Nat} (h : JMap P t m (.sc (f d))) {l : List (List Int × β)} (hl : ∀ e ∈ l, e.1.length = m) (ns : List Int) (hn : ns.length = m) :
    alookup P t H (.imap (imG kJ f l)) (.agg (ns.map fun n => .sc (.int .i64 n))) false = some (.sc (f ((getG l ns).getD d))) := by
  obtain ⟨kt, dd, et, hm, hz, hk⟩ := h
  have e : ents H (.imap (imG kJ f l)) = some (l.map fun e => (kJ e.1, .sc (f e.2))) := by simp [ents, imG]
  simp only [alookup, hm, e, hk, keyVs_J ns hn, afind_J l hl ns hn, lkR]
  cases getG l ns with
  | none => simp [hz]
  | some b => simp
theorem aupdO_J {t : TypeId} {d : β} {m : Nat} (h : JMap P t m (.sc (f d))) {id ty k : Nat} {l : List (List Int × β)} (hl : ∀ e ∈ l, e.1.length = m) (ns : List Int) (hn : ns.length = m) (b : β) :
    aupdO P t id H (some (some ⟨ty, k, encG kJ f l⟩)) (.agg (ns.map fun n => .sc (.int .i64 n))) (.sc (f b)) = some (H.set id (some ⟨ty, k, encG kJ f (putG l ns b)⟩)) := by
  obtain ⟨kt, dd, et, hm, hz, hk⟩ := h
  simp only [aupdO, hm, hk, keyVs_J ns hn, aput_J l hl ns hn b, Option.map_some]
end
end Go.PA
