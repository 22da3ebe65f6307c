/-
  New: a core.
-/
import Derived.Test.YtilhdelijdkjpaaVE
set_option linter.unusedVariables false
set_option linter.unusedSimpArgs false
namespace Go.Proofs.Ytilhdelijdkjpaa
open Go Go.RowKit Go.Maps Sac

theorem eq_nofunc (f : Nat) (w : World) : (binOp .eql 28 (.func (.func f) #[] #[]) .nilFunc).run Try.prog w = .ok (.bool false) w := by kernel_rfl

theorem heap_get (w : World) (o : Obj) (j : Nat) : (w.alloc o).heap[j]? = if j = w.heap.size then some o else w.heap[j]? := by
  by_cases h : j = w.heap.size
  · rw [h, heap_alloc_new, if_pos rfl]
  · rw [if_neg h]
    by_cases h2 : j < w.heap.size
    · exact Below.heap_alloc w o j h2
    · rw [Array.getElem?_eq_none (by simp; omega), Array.getElem?_eq_none (by omega)]

/-- The colours of a core that is laid at k .. k + 6. -/
def newCol (col : Colour) (ci k : Nat) : Colour := fun i => if k ≤ i ∧ i < k + 6 then some (ci, i - k + 1) else if i = k + 6 then some (ci, 0) else col i

theorem mapAt_new {w : World} {k : Nat} (h : w.heap[k]? = some (.map #[] 0)) : MapAt Try.prog 3 w k [] := by
  have hk := (Array.getElem?_eq_some_iff.1 h).1
  obtain ⟨w0, hw0⟩ : ∃ w0 : World, w0 = { w with heap := w.heap.extract 0 k } := ⟨_, rfl⟩
  have hs : w0.heap.size = k := by
    rw [hw0]
    show (w.heap.extract 0 k).size = k
    rw [Array.size_extract]; omega
  have h1 : MapAt Try.prog 3 (w0.alloc (.map #[] 0)) w0.heap.size [] := MapAt.made w0
  have h2 := heap_alloc_new w0 (.map #[] 0)
  rw [hs] at h1 h2
  exact h1.same (h.trans h2.symm)

/-- A core that was just laid: its six maps, and its block. -/
theorem core_laid {acc : Bs → Bool} {col : Colour} (ci : Nat) {w W : World} {n me slot : Int} {fv : Value} (k : Nat) (hk : w.heap.size = k) (ht : Tinted col w) (ha : AccAt fv acc) (hB : Below k w W) (hsz : W.heap.size = k + 7) (hm : ∀ j, j < 6 → W.heap[k + j]? = some (.map #[] 0))
    (hb : Blk W (k + 6) 110 [.int .i64 n, .int .i64 me, .int .i64 slot, fv, .int .i64 0, .slice none 0 0, .bool false, .map (some k), .map (some (k + 1)), .map (some (k + 2)), .map (some (k + 3)), .map (some (k + 4)), .map (some (k + 5)), .int .i64 (-1), .slice none 0 0, .bool false, .slice none 0 0]) :
    Ext (fun q => q.1 = ci) col w (newCol col ci k) W ∧ CoreAt acc (newCol col ci k) ci W (k + 6) (newCore n me slot) := by
  have hc : ∀ j, j < 6 → newCol col ci k (k + j) = some (ci, j + 1) := fun j hj => by
    unfold newCol
    rw [if_pos (by omega)]
    congr 2
    omega
  have hc6 : newCol col ci k (k + 6) = some (ci, 0) := by
    unfold newCol
    rw [if_neg (by omega), if_pos rfl]
  refine ⟨⟨fun i hi => ?_, Only.below (hk ▸ hB), fun i q hi e => ?_, ⟨fun i q e => ?_, fun i q e hE => ?_⟩⟩, fv, _, _, _, k, k + 1, k + 2, k + 3, k + 4, k + 5, hb, hc6, ha, RB.nil _, RB.nil _, RB.nil _, ⟨hc 0 (by decide), [], mapAt_new (hm 0 (by decide)), RelM.nil⟩, ⟨hc 1 (by decide), [], mapAt_new (hm 1 (by decide)), RelM.nil, fun x y v h => by cases h⟩, ⟨hc 2 (by decide), [], mapAt_new (hm 2 (by decide)), RelM.nil, fun x y v h => by cases h⟩, ⟨hc 3 (by decide), [], mapAt_new (hm 3 (by decide)), RelM.nil, fun x y v h => by cases h⟩, ⟨hc 4 (by decide), [], mapAt_new (hm 4 (by decide)), RelM.nil⟩, ⟨hc 5 (by decide), [], mapAt_new (hm 5 (by decide)), RelM.nil⟩⟩
  · unfold newCol
    rw [if_neg (by omega), if_neg (by omega)]
  · unfold newCol at e
    split at e
    · cases e; rfl
    · split at e
      · cases e; rfl
      · have := ht.lo i q e; omega
  · unfold newCol at e
    split at e
    · omega
    · split at e
      · omega
      · have := ht.lo i q e
        have := hB.size
        omega
  · obtain ⟨cs, fr, he⟩ := hE
    unfold newCol at e
    split at e
    · rename_i h1
      have := hm (i - k) (by omega)
      rw [show k + (i - k) = i by omega, he] at this
      cases this
    · split at e
      · rename_i h1
        exact (show Ety W i 5 from ⟨cs, fr, he⟩).ne hb (by decide) h1
      · have := ht.lo i q e
        exact ht.nb i q e ⟨cs, fr, (hB.block i (by omega)).symm.trans he⟩

set_option maxRecDepth 100000 in
set_option maxHeartbeats 4000000 in
theorem new_any {acc : Bs → Bool} {col : Colour} (ci : Nat) {w : World} {n me slot : Int} {fv : Value} (ht : Tinted col w) (ha : AccAt fv acc) (hn : 4 ≤ n ∧ n ≤ 64) (hm : 1 ≤ me ∧ me ≤ n) (hs : 0 ≤ slot ∧ slot ≤ 256) :
    Calls Try.prog 14 #[.int .i64 n, .int .i64 me, .int .i64 slot, fv] w fun e w' => ∃ b col', e = .returned (.pointer (some ⟨b, 0, none⟩)) ∧ w.heap.size ≤ b ∧ Ext (fun q => q.1 = ci) col w col' w' ∧ CoreAt acc col' ci w' b (newCore n me slot) := by
  obtain ⟨⟨f, rfl, hf1, hf2⟩⟩ := id ha
  have e1 : decide (n < 4) = false := decide_eq_false (by omega)
  have e2 : decide (64 < n) = false := decide_eq_false (by omega)
  have e3 : decide (me < 1) = false := decide_eq_false (by omega)
  have e4 : decide (n < me) = false := decide_eq_false (by omega)
  have e5 : decide (slot < 0) = false := decide_eq_false (by omega)
  have e6 : decide (256 < slot) = false := decide_eq_false (by omega)
  have e7 := eq_nofunc f
  have hmm := @run_makeMap Try.prog
  have HT := Lib.hid ht
  have HA := Lib.hid ha
  have HN := Lib.hid hn
  have HM := Lib.hid hm
  have HS := Lib.hid hs
  clear ht ha hn hm hs hf1 hf2
  go_enter Try.func14, Try.ntmps14
  go_wp2_with fail
  go_ret
  obtain ⟨W, hW⟩ : ∃ W, W = (((((((w.alloc (.map #[] 0)).alloc (.map #[] 0)).alloc (.map #[] 0)).alloc (.map #[] 0)).alloc (.map #[] 0)).alloc (.map #[] 0)).alloc (.cells #[.int .i64 n, .int .i64 me, .int .i64 slot, .func (.func f) #[] #[], .int .i64 0, .slice none 0 0, .bool false, .map (some w.heap.size), .map (some (w.heap.size + 1)), .map (some (w.heap.size + 2)), .map (some (w.heap.size + 3)), .map (some (w.heap.size + 4)), .map (some (w.heap.size + 5)), .int .i64 (-1), .slice none 0 0, .bool false, .slice none 0 0] 110)) := ⟨_, rfl⟩
  have h := core_laid (W := W) (n := n) (me := me) (slot := slot) ci w.heap.size rfl HT.out HA.out (by rw [hW]; exact (((((((Below.refl _ w).alloc (by simp) _).alloc (by simp) _).alloc (by simp; omega) _).alloc (by simp; omega) _).alloc (by simp; omega) _).alloc (by simp; omega) _).alloc (by simp; omega) _) (by rw [hW]; simp) (fun j hj => by
      have : j = 0 ∨ j = 1 ∨ j = 2 ∨ j = 3 ∨ j = 4 ∨ j = 5 := by omega
      rw [hW]
      rcases this with rfl | rfl | rfl | rfl | rfl | rfl <;> simp only [heap_get, World.size_alloc] <;> repeat (first | rw [if_pos trivial] | rw [if_pos (by omega)] | rw [if_neg (by omega)])) (by
      rw [hW]
      exact Blk.new' _ _ _ _ (by simp))
  rw [hW] at h
  exact ⟨w.heap.size + 6, _, rfl, by omega, h.1, h.2⟩
end Go.Proofs.Ytilhdelijdkjpaa
