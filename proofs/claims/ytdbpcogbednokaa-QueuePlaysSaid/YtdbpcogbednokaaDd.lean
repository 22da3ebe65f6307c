/-
  (*Queue).Drop: what slices.DeleteFunc does to the items, and heap.Init behind it.
-/
import Derived.Test.YtdbpcogbednokaaDm
import Derived.Test.YtdbpcogbednokaaOrders
import Derived.Lib.SliceRun
set_option linter.unusedVariables false
set_option linter.unusedSimpArgs false
namespace Go.Proofs.Ytdbpcogbednokaa
open Go.RowKit

/-- Does a thing fall to the same rest by 4? -/
def same4 (x y : Int) : Bool := (IntKind.u64.wrap x).tmod 4 == (IntKind.u64.wrap y).tmod 4

set_option maxHeartbeats 400000 in
theorem which_any (ba : Nat) (x ax : Int) (w : World) (hc : w.cell? ⟨ba, 2, none⟩ = some (.int .i64 ax)) :
    Calls Try.prog 18 #[.int .i64 x, .pointer (some ⟨ba, 0, none⟩)] w fun e w' => e = .returned (.bool (same4 x ax)) ∧ w' = w := by
  go_enter Try.func18, Try.ntmps18
  go_wp2_with fail
  go_ret
  exact ⟨rfl, rfl⟩

/-- Where the closure's captures lie. -/
structure Clo (W : World) (bf ba : Nat) (ax : Int) : Prop where
  fn : W.cell? ⟨bf, 0, none⟩ = some (.func (.func 18) #[] #[.pointer (some ⟨ba, 0, none⟩)])
  arg : W.cell? ⟨ba, 2, none⟩ = some (.int .i64 ax)
  lf : bf < W.heap.size
  la : ba < W.heap.size

theorem Clo.below {W W' : World} {bf ba : Nat} {ax : Int} (h : Clo W bf ba ax) (hb : Below W.heap.size W W') : Clo W' bf ba ax :=
  ⟨(hb.cell (p := ⟨bf, 0, none⟩) h.lf).trans h.fn, (hb.cell (p := ⟨ba, 2, none⟩) h.la).trans h.arg, Nat.lt_of_lt_of_le h.lf hb.size, Nat.lt_of_lt_of_le h.la hb.size⟩
theorem Clo.only {W W' : World} {F : Nat → Prop} {bf ba : Nat} {ax : Int} (h : Clo W bf ba ax) (hb : Only F W W') (h1 : ¬ F bf) (h2 : ¬ F ba) : Clo W' bf ba ax :=
  ⟨(World.cell?_of_block (a := ⟨bf, 0, none⟩) (hb.block bf h.lf h1)).trans h.fn, (World.cell?_of_block (a := ⟨ba, 2, none⟩) (hb.block ba h.la h2)).trans h.arg, Nat.lt_of_lt_of_le h.lf hb.size, Nat.lt_of_lt_of_le h.la hb.size⟩

set_option maxHeartbeats 400000 in
theorem drop1_any (bf ba : Nat) (ax d n x : Int) (w : World) (h : Clo w bf ba ax) :
    Calls Try.prog 33 #[.agg #[.int .i64 d, .int .i64 n, .int .i64 x], .pointer (some ⟨bf, 0, none⟩)] w fun e w' => e = .returned (.bool (same4 x ax)) ∧ Below w.heap.size w w' := by
  obtain ⟨h1, h2, h3, h4⟩ := h
  have k1 := Lib.cell?_alloc_some (.cells #[.int .i64 d, .int .i64 n, .int .i64 x] 58) h1
  have hw := which_any ba x ax (w.alloc (.cells #[.int .i64 d, .int .i64 n, .int .i64 x] 58)) (Lib.cell?_alloc_some _ h2)
  clear h1 h2
  go_enter Try.func33, Try.ntmps33
  go_wp2_with fail
  refine hw.mono ?_
  rintro e w1 ⟨rfl, rfl⟩
  go_wp2_with fail
  go_ret
  exact ⟨rfl, (Below.refl _ w).alloc (Nat.le_refl _) _⟩

/-- The first of the items that falls to it; none. -/
def Found (L : List Item) (ax : Int) (r : Int) : Prop := (r = -1 ∧ ∀ j, j < L.length → same4 (at0 L j).x ax = false) ∨ ∃ k : Nat, r = k ∧ k < L.length ∧ same4 (at0 L k).x ax = true ∧ ∀ j, j < k → same4 (at0 L j).x ax = false

set_option maxRecDepth 100000 in
set_option maxHeartbeats 1000000 in
theorem index_any (bf ba g n cap : Nat) (ax : Int) (L : List Item) (rest : List Value) (w : World) (hn : L.length = n) (hlen : (n : Int) ≤ 100000) (hB : Blk w g 58 (flat L ++ rest)) (hC : Clo w bf ba ax) :
    Calls Try.prog 42 #[.slice (some ⟨g, 0, none⟩) n cap, .func (.func 33) #[] #[.pointer (some ⟨bf, 0, none⟩)]] w fun e w' => ∃ r, e = .returned (.int .i64 r) ∧ Found L ax r ∧ Below w.heap.size w w' := by
  have HN := Lib.hid hn
  have HB := Lib.hid hB
  have HC := Lib.hid hC
  clear hn hB hC
  go_enter Try.func42, Try.ntmps42
  go_wp2_with fail
  go_loopw [8] (fun u wr => ∃ k : Nat, k ≤ n ∧ u = .int .i64 k ∧ Hid (∀ j, j < k → same4 (at0 L j).x ax = false) ∧ Hid (Below w.heap.size w wr)) (fun u _ => n - (intOf u).toNat)
  case atStart => exact ⟨0, Nat.zero_le _, rfl, fun j hj => by omega, Below.refl _ _⟩
  case round =>
    obtain ⟨k, hk, rfl, HA, HW⟩ := hrel
    by_cases hlt : (k : Int) < (n : Int)
    · obtain ⟨p0, p1, p2⟩ := flat_get L rest k _ (some_at0 (by rw [HN.out]; omega))
      have HBr := Lib.hid (HB.out.below HW.out HB.out.lt)
      have hCr := Lib.hid (HC.out.below HW.out)
      rw [← HBr.out.cell] at p0 p1 p2
      obtain ⟨⟨d, nu, x⟩, hx⟩ : ∃ x, at0 L k = x := ⟨_, rfl⟩
      rw [hx] at p0 p1 p2
      dsimp only at p0 p1 p2
      have HX := Lib.hid hx
      clear hx
      go_wp2_with fail
      refine (drop1_any bf ba ax d nu x wr hCr.out).mono ?_
      rintro e w2 ⟨rfl, hb⟩
      have HB2 := Lib.hid (HW.out.trans (hb.mono HW.out.size))
      clear p0 p1 p2 hb
      cases hs : same4 x ax
      · have HS := Lib.hid hs
        clear hs
        go_wp2_with fail
        go_roundw
        case rel => exact ⟨k + 1, by omega, by go_num, fun j hj => by
          rcases Nat.lt_or_ge j k with h | h
          · exact HA.out j h
          · obtain rfl : j = k := by omega
            rw [HX.out]; exact HS.out, HB2.out⟩
        case measure => simp [intOf]; omega
      · have HS := Lib.hid hs
        clear hs
        go_wp2_with fail
        go_ret
        exact ⟨_, rfl, .inr ⟨k, rfl, by rw [HN.out]; omega, by rw [HX.out]; exact HS.out, HA.out⟩, HB2.out⟩
    · obtain rfl : k = n := by omega
      go_wp2_with fail
      go_ret
      exact ⟨_, rfl, .inl ⟨rfl, fun j hj => HA.out j (by rw [← HN.out]; exact hj)⟩, HW.out⟩

def zItem : Item := ⟨0, 0, 0⟩
theorem flat_zeros (n : Nat) : (Builtin.zeroCells (Value.agg #[.int .i64 0, .int .i64 0, .int .i64 0]).cells n).toList = flat (List.replicate n zItem) := by
  have h : ∀ m, flat (List.replicate m zItem) = List.replicate (m * 3) (Value.int .i64 0) := by
    intro m
    induction m with
    | zero => rfl
    | succ m ih => rw [List.replicate_succ, flat_cons, ih, show (m + 1) * 3 = m * 3 + 1 + 1 + 1 by omega, List.replicate_succ, List.replicate_succ, List.replicate_succ]; rfl
  rw [h]
  apply List.ext_getElem
  · simp [Builtin.zeroCells, Value.cells]
  · intro i h1 h2
    simp only [Builtin.zeroCells, Value.cells, Array.toList_map, List.getElem_map, List.getElem_replicate]
    have : i % 3 = 0 ∨ i % 3 = 1 ∨ i % 3 = 2 := by omega
    simp
    rcases this with h | h | h <;> simp [h]

theorem Blk.setCells {g : Nat} {e : TypeId} {post : List Value} : ∀ (vs old pre : List Value) (w : World), Blk w g e (pre ++ old ++ post) → old.length = vs.length → Blk (w.setCells g pre.length vs) g e (pre ++ vs ++ post) := by
  intro vs
  induction vs with
  | nil => intro old pre w h hl; obtain rfl : old = [] := List.eq_nil_of_length_eq_zero hl; exact h
  | cons v vs ih =>
    intro old pre w h hl
    match old, hl with
    | o :: old, hl =>
      have h1 := h.set pre.length v
      rw [show (pre ++ o :: old ++ post).set pre.length v = (pre ++ [v]) ++ old ++ post by simp] at h1
      have h2 := ih old (pre ++ [v]) _ h1 (by simpa using hl)
      rw [List.length_append] at h2
      rw [show pre ++ v :: vs ++ post = pre ++ [v] ++ vs ++ post by simp]
      exact h2

theorem run_clear_items (w : World) (ty : TypeId) (g o n c : Nat) (hn : 0 < n) (pre old post : List Value) (hB : Blk w g 58 (pre ++ old ++ post)) (ho : pre.length = o) (hl : old.length = n * 3) :
    (Builtin.clear_ #[52] ty #[.slice (some ⟨g, o, none⟩) n c]).run Try.prog w = .ok (.tuple #[]) (w.setCells g o (flat (List.replicate n zItem))) := by
  have hlf : (flat (List.replicate n zItem)).length = n * 3 := by rw [length_flat, List.length_replicate]
  have hst := run_storeCells_cells (P := Try.prog) g o (flat (List.replicate n zItem)) 0 w
    (fun j hj => by
      rw [hB.cell, List.append_assoc, List.getElem?_append_right (by omega), List.getElem?_append_left (by omega), List.getElem?_eq_getElem (by omega)]; rfl)
    (fun j hj => hB.frozen _)
    (fun v hv => by
      have : ∀ m, ∀ v ∈ flat (List.replicate m zItem), v.oneCell' = true := by
        intro m
        induction m with
        | zero => intro v h; cases h
        | succ m ih =>
          intro v h
          rw [List.replicate_succ, flat_cons] at h
          simp only [List.mem_cons] at h
          rcases h with rfl | rfl | rfl | h
          · rfl
          · rfl
          · rfl
          · exact ih v h
      exact this n v hv)
  simp only [Nat.add_zero] at hst
  obtain ⟨m, rfl⟩ : ∃ m, n = m + 1 := ⟨n - 1, by omega⟩
  have hz : ∀ w, (zeroValue 58).run Try.prog w = .ok (.agg #[.int .i64 0, .int .i64 0, .int .i64 0]) w := fun w => by kernel_rfl
  rw [← flat_zeros] at hst ⊢
  simp [Builtin.clear_, run_underlying Try.underlying52, hz, hst]

end Go.Proofs.Ytdbpcogbednokaa
