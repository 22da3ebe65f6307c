/-
  A map from (peer, kind, view) to strings, plainly: what VoteOnce notes.
-/
import Derived.Test.YtilhdelijdkjpaaOn
import Derived.DeepKeys4
import Derived.Maps.Views
import Derived.Maps.Own
set_option linter.unusedVariables false
set_option linter.unusedSimpArgs false
namespace Go.Proofs.Ytilhdelijdkjpaa
open Go Go.RowKit Go.Maps Sac

theorem place_law : Keyed Try.prog 66 := Keyed.of_law (deep_law_laid (m := 3) (by kernel_rfl) (by decide) (of_decide_eq_true (by kernel_rfl)) (by kernel_rfl) (by kernel_rfl))
def placeV (i k v : Int) : Value := .agg #[.int .i64 i, .int .i64 k, .int .i64 v]
set_option maxRecDepth 100000 in
/-- Each place is a key. -/
theorem place_key {i k v : Int} (hi : (Lit.int .i64 i).wf = true) (hk : (Lit.int .i64 k).wf = true) (hv : (Lit.int .i64 v).wf = true) : ∃ kl, keyOf Try.prog 66 (placeV i k v) = some kl := by
  have hkt : Try.prog.keyType 66 = true := by kernel_rfl
  obtain ⟨m, hm⟩ : ∃ m, Try.prog.types.size = m + 1 := ⟨Try.prog.types.size - 1, by kernel_rfl⟩
  have c3 : Try.prog.cellsOf 66 = 3 := by kernel_rfl
  have hf : (placeV i k v).formed Try.prog 66 = true := by
    unfold placeV Value.formed
    rw [Try.underlying66, c3]
    rfl
  have c1 : Try.prog.cellsOf 3 = 1 := by kernel_rfl
  have hint : ∀ x : Int, (Lit.int .i64 x).wf = true → Try.prog.keyLits (m + 1) 3 [.int .i64 x] = some [.int .i64 x] := fun x hx => by
    unfold Program.keyLits
    rw [Try.underlying3]
    simp [hx]
  unfold keyOf
  rw [Try.underlying66]
  dsimp only
  rw [hkt, hf, hm]
  unfold Program.keyLits
  rw [Try.underlying66]
  simp [c3, c1, placeV, Value.cells, hint _ hi, hint _ hk, hint _ hv]
theorem place_inj {i k v i' k' v' : Int} (h : placeV i k v = placeV i' k' v') : i = i' ∧ k = k' ∧ v = v' := by
  unfold placeV at h
  simpa using h

/-- Block b is the map of what was noted. -/
def NoteAt (w : World) (b n : Nat) (S : Int → Int → Int → Option Bs) : Prop :=
  ∃ D : DataW Value, w.ownsMap Try.prog 66 raw b n D ∧ (∀ i k v kl, keyOf Try.prog 66 (placeV i k v) = some kl → ∀ zd, D.atKey kl zd = match S i k v with | some s => .held (.string (strB s)) | none => zd) ∧ ∀ i k v s, S i k v = some s → ∀ x ∈ s, x < 256
theorem NoteAt.made (w : World) : NoteAt (w.alloc (.map #[] 0)) w.heap.size 0 (fun _ _ _ => none) := ⟨.map [], World.ownsMap_made w _ _ _, fun _ _ _ _ _ _ => rfl, fun _ _ _ _ e => by cases e⟩
theorem NoteAt.lt {w : World} {b n : Nat} {S : Int → Int → Int → Option Bs} (h : NoteAt w b n S) : b < w.heap.size := by
  obtain ⟨D, h1, _⟩ := h
  exact h1.lt
theorem NoteAt.same {w w' : World} {b n : Nat} {S : Int → Int → Int → Option Bs} (h : NoteAt w b n S) (hs : w'.heap[b]? = w.heap[b]?) : NoteAt w' b n S := by
  obtain ⟨D, ⟨es, clock, hb, F, hn, hD⟩, h2⟩ := h
  exact ⟨D, ⟨es, clock, hs.trans hb, F, hn, hD⟩, h2⟩
theorem NoteAt.below {w w' : World} {b n : Nat} {S : Int → Int → Int → Option Bs} (h : NoteAt w b n S) (hb : Below w.heap.size w w') : NoteAt w' b n S := h.same (hb.block b h.lt)
/-- 'was, there := said[at]'. -/
theorem NoteAt.look {w : World} {b n : Nat} {S : Int → Int → Int → Option Bs} (h : NoteAt w b n S) {i k v : Int} (hi : (Lit.int .i64 i).wf = true) (hk : (Lit.int .i64 k).wf = true) (hv : (Lit.int .i64 v).wf = true) :
    (Instr.lookup 60 (.map (some b)) (.agg #[.int .i64 i, .int .i64 k, .int .i64 v]) true).run Try.prog w = .ok (match S i k v with | some s => .tuple #[.string (strB s), .bool true] | none => .tuple #[.string ⟨#[]⟩, .bool false]) w := by
  obtain ⟨D, ⟨es, clock, hb, F, _, hD⟩, h2, _⟩ := h
  obtain ⟨kl, hkl⟩ := place_key hi hk hv
  have h3 := h2 i k v kl hkl
  have hz : (zeroValue 9).run Try.prog w = .ok (.string ⟨#[]⟩) w := Try.zeroValue9 w
  rcases Maps.fit_look true place_law Try.underlying60 hz hb F hkl with ⟨hrun, _, hat⟩ | ⟨e0, y, _, _, hrun, hRv, hat, _⟩
  · show (Instr.lookup _ _ (placeV i k v) true).run _ _ = _
    rw [hrun]
    have h4 := hat (.held (.bool true))
    have h5 := hat (.held (.bool false))
    rw [← hD, h3] at h4 h5
    cases hS : S i k v with
    | none => rfl
    | some s => rw [hS] at h4 h5; rw [h4] at h5; simp at h5
  · show (Instr.lookup _ _ (placeV i k v) true).run _ _ = _
    rw [hrun]
    have h4 := hat (.lit (.bool true))
    rw [← hD, h3] at h4
    simp only [raw, Option.some.injEq] at hRv
    subst hRv
    cases hS : S i k v with
    | none => rw [hS] at h4; simp at h4
    | some s =>
      rw [hS] at h4
      simp at h4
      rw [← h4]
      rfl
/-- 'said[at] = string(v.Value)'. -/
theorem NoteAt.put {w : World} {b n : Nat} {S : Int → Int → Int → Option Bs} (h : NoteAt w b n S) (hn : n < maxLen) {i k v : Int} (hi : (Lit.int .i64 i).wf = true) (hk : (Lit.int .i64 k).wf = true) (hv : (Lit.int .i64 v).wf = true) {s : Bs} (hs : ∀ x ∈ s, x < 256) :
    ∃ w', (Instr.mapUpdate 60 (.map (some b)) (.agg #[.int .i64 i, .int .i64 k, .int .i64 v]) (.string (strB s))).run Try.prog w = .ok () w' ∧ NoteAt w' b (n + 1) (note S i k v s) ∧ w.grownBy w' (some b) := by
  obtain ⟨D, hown, h2, h3⟩ := h
  obtain ⟨kl, hkl⟩ := place_key hi hk hv
  have hD : IsMap D := by
    obtain ⟨es, clock, _, _, _, hD⟩ := hown
    exact ⟨_, hD⟩
  obtain ⟨w', hrun, hown', hg⟩ := hown.update place_law Try.underlying60 hn hkl (show raw (.string (strB s)) = some (.held (.string (strB s)), []) from rfl)
  refine ⟨w', hrun, ⟨_, hown', fun i' k' v' kl' hkl' zd => ?_, fun i' k' v' s' e => ?_⟩, hg⟩
  · unfold note
    by_cases e : kl' = kl
    · subst e
      have := place_inj (place_law.inj hkl' hkl)
      rw [if_pos this, atKey_put_same hD (place_law.key hkl)]
    · rw [atKey_put_other e, h2 i' k' v' kl' hkl', if_neg]
      rintro ⟨rfl, rfl, rfl⟩
      rw [hkl] at hkl'
      exact e (Option.some.inj hkl').symm
  · unfold note at e
    split at e
    · injection e with e
      subst e
      exact hs
    · exact h3 i' k' v' s' e
end Go.Proofs.Ytilhdelijdkjpaa
