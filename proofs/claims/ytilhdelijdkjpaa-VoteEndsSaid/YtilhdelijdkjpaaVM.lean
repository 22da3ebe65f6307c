/-
  Maps with integer keys: as sorted lists of entries; a block of the heap that holds one. No program in sight.
-/
import Derived.Test.YtilhdelijdkjpaaBase
import Derived.Maps.Own
import Derived.Maps.Views
import Derived.Maps.RangeWalk
import Derived.Lib.SlKeysI
set_option linter.unusedVariables false
set_option linter.unusedSimpArgs false
namespace Sac
open Go Go.RowKit Go.Maps Go.Proofs

section
variable {α : Type}

/-- What stands at a key. -/
def lookM (l : List (Int × α)) (k : Int) : Option α := (l.find? (fun p => p.1 == k)).map (·.2)
/-- A key set. -/
def putM (k : Int) (a : α) : List (Int × α) → List (Int × α)
  | [] => [(k, a)]
  | p :: r => if k < p.1 then (k, a) :: p :: r else if k = p.1 then (k, a) :: r else p :: putM k a r
/-- The keys rise. -/
def Srt (l : List (Int × α)) : Prop := l.Pairwise (fun p q => p.1 < q.1)

theorem lookM_nil (k : Int) : lookM ([] : List (Int × α)) k = none := rfl
theorem lookM_cons (p : Int × α) (l : List (Int × α)) (k : Int) : lookM (p :: l) k = if p.1 = k then some p.2 else lookM l k := by
  unfold lookM
  by_cases h : p.1 = k
  · simp [List.find?, h]
  · simp [List.find?, h, show (p.1 == k) = false from by simpa using h]
theorem mem_putM (k : Int) (a : α) (l : List (Int × α)) {p : Int × α} (h : p ∈ putM k a l) : p = (k, a) ∨ p ∈ l := by
  induction l with
  | nil => simp [putM] at h; exact .inl h
  | cons q r ih =>
    unfold putM at h
    split at h
    · rcases List.mem_cons.1 h with h | h
      · exact .inl h
      · exact .inr h
    · split at h
      · rcases List.mem_cons.1 h with h | h
        · exact .inl h
        · exact .inr (by simp [h])
      · rcases List.mem_cons.1 h with h | h
        · exact .inr (by simp [h])
        · rcases ih h with h | h
          · exact .inl h
          · exact .inr (by simp [h])
theorem srt_putM (k : Int) (a : α) (l : List (Int × α)) (h : Srt l) : Srt (putM k a l) := by
  induction l with
  | nil => simp [putM, Srt]
  | cons q r ih =>
    have h' := List.pairwise_cons.1 h
    unfold putM
    split
    · refine List.pairwise_cons.2 ⟨fun p hp => ?_, h⟩
      rcases List.mem_cons.1 hp with rfl | hp
      · assumption
      · have := h'.1 p hp
        show k < p.1
        omega
    · split
      · rename_i h1 h2
        exact List.pairwise_cons.2 ⟨fun p hp => by have := h'.1 p hp; show k < p.1; omega, h'.2⟩
      · rename_i h1 h2
        refine List.pairwise_cons.2 ⟨fun p hp => ?_, ih h'.2⟩
        rcases mem_putM k a r hp with rfl | hp
        · show q.1 < k; omega
        · exact h'.1 p hp
theorem lookM_putM (k : Int) (a : α) (l : List (Int × α)) (h : Srt l) (j : Int) : lookM (putM k a l) j = if k = j then some a else lookM l j := by
  induction l with
  | nil => simp [putM, lookM_cons, lookM_nil]
  | cons q r ih =>
    have h' := List.pairwise_cons.1 h
    unfold putM
    split
    · rw [lookM_cons]
    · split
      · rename_i h1 h2
        rw [lookM_cons, lookM_cons]
        by_cases e : k = j
        · simp [e]
        · simp [e, ← h2]
      · rename_i h1 h2
        rw [lookM_cons, lookM_cons, ih h'.2]
        by_cases e : q.1 = j
        · simp [e, show ¬ k = j from by omega]
        · simp [e]
theorem lookM_mem {l : List (Int × α)} {k : Int} {a : α} (h : lookM l k = some a) : (k, a) ∈ l := by
  unfold lookM at h
  obtain ⟨p, hp, rfl⟩ := Option.map_eq_some_iff.1 h
  have h1 := List.find?_some hp
  have h2 := List.mem_of_find?_eq_some hp
  simp at h1
  subst h1
  exact h2
theorem lookM_of_mem {l : List (Int × α)} (hs : Srt l) {k : Int} {a : α} (h : (k, a) ∈ l) : lookM l k = some a := by
  induction l with
  | nil => cases h
  | cons q r ih =>
    have h' := List.pairwise_cons.1 hs
    rw [lookM_cons]
    rcases List.mem_cons.1 h with rfl | h
    · simp
    · have := h'.1 _ h
      rw [if_neg (by show ¬ q.1 = k; simp at this; omega)]
      exact ih h'.2 h
theorem lookM_none {l : List (Int × α)} {k : Int} (h : lookM l k = none) : ∀ p ∈ l, p.1 ≠ k := by
  unfold lookM at h
  rw [Option.map_eq_none_iff, List.find?_eq_none] at h
  intro p hp e
  exact h p hp (by simpa using e)
theorem length_putM (k : Int) (a : α) (l : List (Int × α)) : (putM k a l).length ≤ l.length + 1 := by
  induction l with
  | nil => simp [putM]
  | cons q r ih =>
    unfold putM
    split
    · simp
    · split
      · simp
      · simp; omega
theorem lookM_map {β : Type} (f : α → β) (l : List (Int × α)) (k : Int) : lookM (l.map fun p => (p.1, f p.2)) k = (lookM l k).map f := by
  induction l with
  | nil => rfl
  | cons q r ih =>
    rw [List.map_cons, lookM_cons, lookM_cons, ih]
    split <;> rfl
end

/-- A map's entries as the kit's datum: each value as it is. -/
def datM (l : List (Int × Value)) : DataW Value := .map (l.map fun p => (.int .i64 p.1, .held p.2))
def raw (v : Value) : Option (DataW Value × List MemPlace) := some (.held v, [])

theorem datM_put (k : Int) (v : Value) (l : List (Int × Value)) (hs : Srt l) : (datM l).put (.int .i64 k) (.held v) = datM (putM k v l) := by
  unfold datM DataW.put
  dsimp only
  congr 1
  induction l with
  | nil => rfl
  | cons q r ih =>
    have h' := List.pairwise_cons.1 hs
    have hfil : k ≤ q.1 → (r.map fun p => ((Lit.int .i64 p.1, DataW.held p.2) : Lit × DataW Value)).filter (fun p => !p.1.sameKey (.int .i64 k)) = r.map fun p => (Lit.int .i64 p.1, DataW.held p.2) := fun hk => by
      rw [List.filter_eq_self]
      intro a ha
      obtain ⟨p, hp, rfl⟩ := List.mem_map.1 ha
      have := h'.1 p hp
      simp [Lit.sameKey]
      omega
    unfold putM
    by_cases h1 : k < q.1
    · rw [if_pos h1, List.map_cons, List.filter_cons_of_pos (by simp [Lit.sameKey]; omega), hfil (by omega), DataW.insert, if_pos (by simp [Lit.before]; exact h1)]
      rfl
    · rw [if_neg h1]
      by_cases h2 : k = q.1
      · rw [if_pos h2, List.map_cons, List.filter_cons_of_neg (by simp [Lit.sameKey]; omega), hfil (by omega)]
        cases r with
        | nil => rfl
        | cons p r =>
          have := h'.1 p (by simp)
          rw [List.map_cons, DataW.insert, if_pos (by simp [Lit.before]; omega)]
          rfl
      · rw [if_neg h2, List.map_cons, List.filter_cons_of_pos (by simp [Lit.sameKey]; omega), DataW.insert, if_neg (by simp [Lit.before]; omega), ih h'.2]
        rfl

theorem datM_atKey (k : Int) (l : List (Int × Value)) (z : DataW Value) : (datM l).atKey (.int .i64 k) z = match lookM l k with | some v => .held v | none => z := by
  unfold datM DataW.atKey
  dsimp only
  induction l with
  | nil => rfl
  | cons q r ih =>
    rw [lookM_cons]
    by_cases h : q.1 = k
    · simp [List.find?, Lit.sameKey, h]
    · simp only [List.map_cons, List.find?, Lit.sameKey, if_neg h]
      simp only [h, and_false, decide_false]
      exact ih
theorem size_datM (l : List (Int × Value)) : Maps.size (datM l) = l.length := by simp [datM, Maps.size]
theorem has_datM (l : List (Int × Value)) (k : Int) : Maps.has (datM l) (.int .i64 k) = (lookM l k).isSome := by
  unfold datM Maps.has
  dsimp only
  induction l with
  | nil => rfl
  | cons q r ih =>
    rw [lookM_cons]
    by_cases h : q.1 = k
    · simp [Lit.sameKey, h]
    · simp only [List.map_cons, List.any_cons, Lit.sameKey, if_neg h]
      simp only [h, and_false, decide_false, Bool.false_or]
      exact ih
theorem intKeys_datM (l : List (Int × Value)) : intKeys (datM l) = l.map (·.1) := by
  unfold datM intKeys
  dsimp only
  rw [List.map_map]
  rfl

/-- Keys that an int holds. -/
def KeysOk {α : Type} (l : List (Int × α)) : Prop := ∀ p ∈ l, (Lit.int .i64 p.1).wf = true

/-- Block b is a map with just these entries. -/
structure MapAt (P : Program) (kt : TypeId) (w : World) (b : Nat) (l : List (Int × Value)) : Prop where
  own : w.ownsMap P kt raw b l.length (datM l)
  srt : Srt l
  keys : KeysOk l

section
variable {P : Program} {kt : TypeId} {w w' : World} {b : Nat} {l : List (Int × Value)}

/-- The bound on the entries is their number. -/
theorem ownsMap_len {n : Nat} (h : w.ownsMap P kt raw b n (datM l)) : w.ownsMap P kt raw b l.length (datM l) := by
  obtain ⟨es, clock, hb, F, _, hD⟩ := h
  refine ⟨es, clock, hb, F, ?_, hD⟩
  have h1 : Maps.size (datM l) = es.size := by
    rw [hD]
    show (List.foldr DataW.insert [] (es.toList.map (WideElems.rg P kt raw))).length = _
    rw [length_sorted]; simp
  rw [size_datM] at h1
  omega

theorem MapAt.lt (h : MapAt P kt w b l) : b < w.heap.size := h.own.lt
theorem MapAt.same (h : MapAt P kt w b l) (hs : w'.heap[b]? = w.heap[b]?) : MapAt P kt w' b l := by
  refine ⟨?_, h.srt, h.keys⟩
  obtain ⟨es, clock, hb, F, hn, hD⟩ := h.own
  exact ⟨es, clock, hs.trans hb, F, hn, hD⟩
theorem MapAt.only {F : Nat → Prop} (h : MapAt P kt w b l) (ho : Only F w w') (hf : ¬ F b) : MapAt P kt w' b l := h.same (ho.block b h.lt hf)
theorem MapAt.below {B : Nat} (h : MapAt P kt w b l) (ho : Below B w w') (hf : b < B) : MapAt P kt w' b l := h.same (ho.block b hf)
theorem MapAt.made (w : World) : MapAt P kt (w.alloc (.map #[] 0)) w.heap.size [] := ⟨World.ownsMap_made w P kt raw, List.Pairwise.nil, fun p hp => by cases hp⟩

variable {t e : TypeId}
theorem wf64_mk {x : Int} (h1 : -9223372036854775808 ≤ x) (h2 : x ≤ 9223372036854775807) : (Lit.int .i64 x).wf = true := by
  simp [Lit.wf, IntKind.min, IntKind.max, IntKind.signed, IntKind.bits]; omega
theorem keyOf64 (hk : P.underlying kt = some (.int .i64)) {x : Int} (hx : (Lit.int .i64 x).wf = true) : keyOf P kt (.int .i64 x) = some (.int .i64 x) := by
  simp [keyOf, hk, mapKey, hx]

/-- 'v, ok := m[k]'. -/
theorem MapAt.lookTwo (h : MapAt P kt w b l) (hk : P.underlying kt = some (.int .i64)) (ht : P.underlying t = some (.map kt e)) {z : Value} (hz : (zeroValue e).run P w = .ok z w) {x : Int} (hx : (Lit.int .i64 x).wf = true) :
    (Instr.lookup t (.map (some b)) (.int .i64 x) true).run P w = .ok (match lookM l x with | some v => .tuple #[v, .bool true] | none => .tuple #[z, .bool false]) w := by
  obtain ⟨es, clock, hb, F, _, hD⟩ := h.own
  rcases Maps.fit_look true (int_keyed hk) ht hz hb F (keyOf64 hk hx) with ⟨hrun, _, hat⟩ | ⟨e0, y, _, _, hrun, hRv, hat, _⟩
  · rw [hrun]
    have h1 := hat (.held (.bool true))
    have h2 := hat (.held (.bool false))
    rw [← hD, datM_atKey] at h1 h2
    cases hl : lookM l x with
    | none => rfl
    | some v => rw [hl] at h1 h2; rw [h1] at h2; simp at h2
  · rw [hrun]
    have h1 := hat (.lit (.bool true))
    rw [← hD, datM_atKey] at h1
    simp only [raw, Option.some.injEq] at hRv
    subst hRv
    cases hl : lookM l x with
    | none => rw [hl] at h1; simp at h1
    | some v =>
      rw [hl] at h1
      simp at h1
      subst h1
      rfl
/-- 'm[k]'. -/
theorem MapAt.lookOne (h : MapAt P kt w b l) (hk : P.underlying kt = some (.int .i64)) (ht : P.underlying t = some (.map kt e)) {z : Value} (hz : (zeroValue e).run P w = .ok z w) {x : Int} (hx : (Lit.int .i64 x).wf = true) :
    (Instr.lookup t (.map (some b)) (.int .i64 x) false).run P w = .ok ((lookM l x).getD z) w := by
  obtain ⟨es, clock, hb, F, _, hD⟩ := h.own
  rcases Maps.fit_look false (int_keyed hk) ht hz hb F (keyOf64 hk hx) with ⟨hrun, _, hat⟩ | ⟨e0, y, _, _, hrun, hRv, hat, _⟩
  · rw [hrun]
    have h1 := hat (.held (.bool true))
    have h2 := hat (.held (.bool false))
    rw [← hD, datM_atKey] at h1 h2
    cases hl : lookM l x with
    | none => rfl
    | some v => rw [hl] at h1 h2; rw [h1] at h2; simp at h2
  · rw [hrun]
    have h1 := hat (.lit (.bool true))
    rw [← hD, datM_atKey] at h1
    simp only [raw, Option.some.injEq] at hRv
    subst hRv
    cases hl : lookM l x with
    | none => rw [hl] at h1; simp at h1
    | some v =>
      rw [hl] at h1
      simp at h1
      subst h1
      rfl

/-- 'm[k] = v'. -/
theorem MapAt.put (h : MapAt P kt w b l) (hk : P.underlying kt = some (.int .i64)) (ht : P.underlying t = some (.map kt e)) (hn : l.length < maxLen) {x : Int} (hx : (Lit.int .i64 x).wf = true) (v : Value) :
    ∃ w', (Instr.mapUpdate t (.map (some b)) (.int .i64 x) v).run P w = .ok () w' ∧ MapAt P kt w' b (putM x v l) ∧ w.grownBy w' (some b) := by
  obtain ⟨w', hrun, hown, hg⟩ := h.own.update (int_keyed hk) ht hn (keyOf64 hk hx) (show raw v = some (.held v, []) from rfl)
  rw [datM_put x v l h.srt] at hown
  refine ⟨w', hrun, ⟨ownsMap_len hown, srt_putM _ _ _ h.srt, fun p hp => ?_⟩, hg⟩
  rcases mem_putM _ _ _ hp with rfl | hp
  · exact hx
  · exact h.keys p hp
end
end Sac
