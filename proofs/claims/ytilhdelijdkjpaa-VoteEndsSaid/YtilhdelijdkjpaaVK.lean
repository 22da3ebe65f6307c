/-
  slices.Sorted(maps.Keys(m)): the keys, rising.
-/
import Derived.Test.YtilhdelijdkjpaaVS
import Derived.Test.YtilhdelijdkjpaaLayK
set_option linter.unusedVariables false
set_option linter.unusedSimpArgs false
namespace Go.Proofs.Ytilhdelijdkjpaa
open Go Go.RowKit Go.Maps Go.Sort Go.Shelf Sac

/-- A row of ints of the walk's own. -/
abbrev IOwn (w : World) (base : Nat) (v : Value) (xs : List Int) : Prop := w.ownsRow base 3 1 v xs.length (xs.map (Value.int .i64))

theorem IOwn.form {w : World} {base : Nat} {v : Value} {xs : List Int} (h : IOwn w base v xs) : ∃ a cap, v = .slice a xs.length cap ∧ (xs.length : Int) ≤ cap ∧ ∀ i, i < xs.length → ∃ g, a = some ⟨g, 0, none⟩ ∧ base ≤ g ∧ g < w.heap.size ∧ w.cell? ⟨g, i, none⟩ = some (.int .i64 (xs.getD i 0)) := by
  obtain ⟨_, ⟨rfl, h0, _⟩ | ⟨g, cap, rest, rfl, hg, hB, hc, _⟩⟩ := own_elim h
  · exact ⟨none, 0, by rw [h0], by omega, fun i hi => by omega⟩
  · refine ⟨_, cap, rfl, by omega, fun i hi => ⟨g, rfl, hg, hB.lt, ?_⟩⟩
    rw [hB.cell, List.getElem?_append_left (by rw [List.length_map]; exact hi), List.getElem?_map, List.getD_eq_getElem?_getD, List.getElem?_eq_getElem hi]
    rfl
theorem IOwn.below {w w' : World} {base : Nat} {v : Value} {xs : List Int} (h : IOwn w base v xs) (hb : Below w.heap.size w w') : IOwn w' base v xs := own_only h (Only.below (F := fun _ => False) hb) (fun _ _ h => h)

theorem sorts_any (m : Nat) : AnyZI.SortsIn Try.prog Try.sortedK_ren Fence.wide m :=
  ⟨fun blk off cap ss W hH hblk hsz => callsIn_wide.2 (AnyM.slices_Sort_int Try.sortK blk off cap ss W hH hblk hsz),
   fun p cap W => callsIn_wide.2 (AnyM.slices_Sort_int_none Try.sortK p cap W)⟩

theorem sortI_of_srt {α : Type} {l : List (Int × α)} (h : Srt l) : sortI (l.map (·.1)) = l.map (·.1) :=
  sorted_unique (perm_sortI _) (sorted_sortI _) (List.pairwise_map.2 (h.imp (fun h => Int.le_of_lt h)))

theorem own_base {w : World} {base b2 e size n : Nat} {v : Value} {xs : List Value} (h : w.ownsRow base e size v n xs) (hb : b2 ≤ base) : w.ownsRow b2 e size v n xs := by
  obtain ⟨h1, h2⟩ := h
  refine ⟨h1, ?_⟩
  rcases h2 with h2 | ⟨g, cap, cur, hv, hg, r⟩
  · exact .inl h2
  · exact .inr ⟨g, cap, cur, hv, Nat.le_trans hb hg, r⟩

/-- maps.Keys. -/
theorem toldk_any (mb : Option Nat) (w : World) : Calls Try.prog 126 #[.map mb] w fun e w' => e = .returned (.func (.func 139) #[] #[.pointer (some ⟨w.heap.size, 0, none⟩)]) ∧ w' = w.alloc (.cells #[.map mb] 108) :=
  (callsIn_wide (n := 5)).1 (AnyZI.keys_in Try.keysT Fence.wide 5 trivial rfl mb w)

set_option maxHeartbeats 1000000 in
/-- slices.Sorted of them. -/
theorem tolds_any (b : Nat) (l : List (Int × Value)) (w : World) (hm : MapAt Try.prog 3 w b l) (hlen : l.length ≤ 10000000000) :
    Calls Try.prog 69 #[.func (.func 139) #[] #[.pointer (some ⟨w.heap.size, 0, none⟩)]] (w.alloc (.cells #[.map (some b)] 108)) fun e w' => ∃ v, e = .returned v ∧ IOwn w' w.heap.size v (l.map (·.1)) ∧ Below w.heap.size w w' := by
  refine (callsIn_wide (n := 5)).1 ?_
  have hbl := hm.own.lt
  have hseq : SeqGives Fence.wide 2 Try.prog 139 #[.pointer (some ⟨w.heap.size, 0, none⟩)] encZ (fun ss => ss.Perm (intKeys (datM l))) (Maps.size (datM l)) (w.alloc (.cells #[.map (some b)] 108)) :=
    AnyZI.keys_gives (ρ := Try.keysT_ren) { Try.keysT with } Fence.wide _ trivial rfl (by omega) w.heap.size b l.length (datM l) _ (by simp) (by simp) (by
      obtain ⟨es, clock, hb, Ft, hs, hD⟩ := hm.own
      exact ⟨es, clock, (Below.heap_alloc _ _ b hbl).trans hb, Ft, hs, hD⟩)
  have cS := AnyZI.sorted_in Try.sortedK Fence.wide 5 trivial trivial trivial trivial rfl (by omega) (sorts_any _) (enters_of Try.func94 (by kernel_rfl) rfl) 139 #[.pointer (some ⟨w.heap.size, 0, none⟩)] trivial (enters_of Try.func139 (by kernel_rfl) rfl) _ _ (by rw [size_datM]; unfold maxLen; omega) (by rw [size_datM]; omega) _ hseq
  refine cS.mono ?_
  rintro e w' ⟨v, ss, rfl, hS, hrow, _, hb⟩
  rw [intKeys_datM] at hS
  have hss : ss.mergeSort (fun x y => decide (x ≤ y)) = l.map (·.1) := (mergeSort_sortI hS).trans (sortI_of_srt hm.srt)
  have hlen2 : ss.length = (l.map (·.1)).length := hS.length_eq
  rw [hss, hlen2] at hrow
  refine ⟨v, rfl, ?_, ((Below.refl _ w).alloc (Nat.le_refl _) _).trans (hb.mono (by simp))⟩
  exact own_base hrow (by simp)

set_option maxHeartbeats 1000000 in
/-- .. of the keys of no map. -/
theorem toldn_any (w : World) :
    Calls Try.prog 69 #[.func (.func 139) #[] #[.pointer (some ⟨w.heap.size, 0, none⟩)]] (w.alloc (.cells #[.map none] 108)) fun e w' => e = .returned (.slice none 0 0) ∧ Below w.heap.size w w' := by
  refine (callsIn_wide (n := 5)).1 ?_
  have hseq : SeqGives Fence.wide 2 Try.prog 139 #[.pointer (some ⟨w.heap.size, 0, none⟩)] encZ (fun ss : List Int => ss = []) 0 (w.alloc (.cells #[.map none] 108)) :=
    AnyZI.keys_gives_nil (ρ := Try.keysT_ren) { Try.keysT with } Fence.wide _ trivial rfl w.heap.size _ (by simp) (by simp)
  have cS := AnyZI.sorted_in Try.sortedK Fence.wide 5 trivial trivial trivial trivial rfl (by omega) (sorts_any _) (enters_of Try.func94 (by kernel_rfl) rfl) 139 #[.pointer (some ⟨w.heap.size, 0, none⟩)] trivial (enters_of Try.func139 (by kernel_rfl) rfl) _ 0 (Nat.zero_le _) (by omega) _ hseq
  refine cS.mono ?_
  rintro e w' ⟨v, ss, rfl, rfl, hrow, hnil, hb⟩
  obtain rfl : v = .slice none 0 0 := hnil.2 rfl
  exact ⟨rfl, ((Below.refl _ w).alloc (Nat.le_refl _) _).trans (hb.mono (by simp))⟩

/-- maps.Keys. -/
theorem viewsk_any (mb : Option Nat) (w : World) : Calls Try.prog 70 #[.map mb] w fun e w' => e = .returned (.func (.func 95) #[] #[.pointer (some ⟨w.heap.size, 0, none⟩)]) ∧ w' = w.alloc (.cells #[.map mb] 105) :=
  (callsIn_wide (n := 5)).1 (AnyZI.keys_in Try.keysV Fence.wide 5 trivial rfl mb w)

set_option maxHeartbeats 1000000 in
/-- slices.Sorted of them. -/
theorem viewss_any (b : Nat) (l : List (Int × Value)) (w : World) (hm : MapAt Try.prog 3 w b l) (hlen : l.length ≤ 10000000000) :
    Calls Try.prog 69 #[.func (.func 95) #[] #[.pointer (some ⟨w.heap.size, 0, none⟩)]] (w.alloc (.cells #[.map (some b)] 105)) fun e w' => ∃ v, e = .returned v ∧ IOwn w' w.heap.size v (l.map (·.1)) ∧ Below w.heap.size w w' := by
  refine (callsIn_wide (n := 5)).1 ?_
  have hbl := hm.own.lt
  have hseq : SeqGives Fence.wide 2 Try.prog 95 #[.pointer (some ⟨w.heap.size, 0, none⟩)] encZ (fun ss => ss.Perm (intKeys (datM l))) (Maps.size (datM l)) (w.alloc (.cells #[.map (some b)] 105)) :=
    AnyZI.keys_gives (ρ := Try.keysV_ren) { Try.keysV with } Fence.wide _ trivial rfl (by omega) w.heap.size b l.length (datM l) _ (by simp) (by simp) (by
      obtain ⟨es, clock, hb, Ft, hs, hD⟩ := hm.own
      exact ⟨es, clock, (Below.heap_alloc _ _ b hbl).trans hb, Ft, hs, hD⟩)
  have cS := AnyZI.sorted_in Try.sortedK Fence.wide 5 trivial trivial trivial trivial rfl (by omega) (sorts_any _) (enters_of Try.func94 (by kernel_rfl) rfl) 95 #[.pointer (some ⟨w.heap.size, 0, none⟩)] trivial (enters_of Try.func95 (by kernel_rfl) rfl) _ _ (by rw [size_datM]; unfold maxLen; omega) (by rw [size_datM]; omega) _ hseq
  refine cS.mono ?_
  rintro e w' ⟨v, ss, rfl, hS, hrow, _, hb⟩
  rw [intKeys_datM] at hS
  have hss : ss.mergeSort (fun x y => decide (x ≤ y)) = l.map (·.1) := (mergeSort_sortI hS).trans (sortI_of_srt hm.srt)
  have hlen2 : ss.length = (l.map (·.1)).length := hS.length_eq
  rw [hss, hlen2] at hrow
  refine ⟨v, rfl, ?_, ((Below.refl _ w).alloc (Nat.le_refl _) _).trans (hb.mono (by simp))⟩
  exact own_base hrow (by simp)

set_option maxHeartbeats 1000000 in
/-- .. of the keys of no map. -/
theorem viewsn_any (w : World) :
    Calls Try.prog 69 #[.func (.func 95) #[] #[.pointer (some ⟨w.heap.size, 0, none⟩)]] (w.alloc (.cells #[.map none] 105)) fun e w' => e = .returned (.slice none 0 0) ∧ Below w.heap.size w w' := by
  refine (callsIn_wide (n := 5)).1 ?_
  have hseq : SeqGives Fence.wide 2 Try.prog 95 #[.pointer (some ⟨w.heap.size, 0, none⟩)] encZ (fun ss : List Int => ss = []) 0 (w.alloc (.cells #[.map none] 105)) :=
    AnyZI.keys_gives_nil (ρ := Try.keysV_ren) { Try.keysV with } Fence.wide _ trivial rfl w.heap.size _ (by simp) (by simp)
  have cS := AnyZI.sorted_in Try.sortedK Fence.wide 5 trivial trivial trivial trivial rfl (by omega) (sorts_any _) (enters_of Try.func94 (by kernel_rfl) rfl) 95 #[.pointer (some ⟨w.heap.size, 0, none⟩)] trivial (enters_of Try.func95 (by kernel_rfl) rfl) _ 0 (Nat.zero_le _) (by omega) _ hseq
  refine cS.mono ?_
  rintro e w' ⟨v, ss, rfl, rfl, hrow, hnil, hb⟩
  obtain rfl : v = .slice none 0 0 := hnil.2 rfl
  exact ⟨rfl, ((Below.refl _ w).alloc (Nat.le_refl _) _).trans (hb.mono (by simp))⟩

end Go.Proofs.Ytilhdelijdkjpaa
