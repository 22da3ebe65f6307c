/-
  The law VoteViews, walked.
-/
import Derived.Test.YtilhdelijdkjpaaVw
import Derived.Deep.DeepCutAuto
import Derived.Deep.CutBlock
import Derived.Deep.RegionWith
set_option linter.unusedVariables false
set_option linter.unusedSimpArgs false
namespace Go.Proofs.Ytilhdelijdkjpaa
open Go Go.RowKit Go.Maps Sac

theorem arr_zero (w : World) : (Op.equal 35 (.agg #[.int .i64 0, .int .i64 0, .int .i64 0]) (.agg #[.int .i64 0, .int .i64 0, .int .i64 0])).run Try.prog w = .ok true w := by
  have h := arr_eq (a := 0) (b := 0) (c := 0) (d := 0) (e := 0) (f := 0) w (by decide) (by decide) (by decide) (by decide) (by decide) (by decide)
  exact h
theorem tmod_nat2 (x : Int) {n : Nat} (hn : 0 < n) : ∃ r : Nat, (IntKind.u64.wrap x).tmod (n : Int) = (r : Int) ∧ r < n := by
  refine ⟨((IntKind.u64.wrap x).tmod (n : Int)).toNat, ?_⟩
  rw [IntKind.wrap_u64, Int.tmod_eq_emod_of_nonneg (by omega)]
  have h1 := Int.emod_nonneg (x % 18446744073709551616) (show (n : Int) ≠ 0 by omega)
  have h2 := Int.emod_lt_of_pos (x % 18446744073709551616) (show (0 : Int) < (n : Int) by omega)
  omega
theorem vblk_ext {G : Nat × Nat → Prop} {col col' : Colour} {w w' : World} {k : Nat} {e : TypeId} {cs : List Value} (h : Blk w k e cs) (hE : Ext G col w col' w') (hc : col k = none) : Blk w' k e cs :=
  h.only hE.only (fun ⟨q, e, _⟩ => by rw [hc] at e; cases e)
theorem wf_bd2 {x : Int} (h : (Lit.int .i64 x).wf = true) : -9223372036854775808 ≤ x ∧ x ≤ 9223372036854775807 := by
  simp only [Lit.wf, Bool.and_eq_true, decide_eq_true_eq] at h
  have e1 : IntKind.i64.min = -9223372036854775808 := rfl
  have e2 : IntKind.i64.max = 9223372036854775807 := rfl
  omega
theorem Loc.grown_in {n me slot : Int} {c : Core} (h : Loc n me slot c) : 0 ≤ c.view ∧ c.view ≤ 4294967295 ∧ (c.prepares.countP fun p => (lookM p.2 c.me).isSome) ≤ 1048577 ∧ (c.commits.countP fun p => (lookM p.2 c.me).isSome) ≤ 1048577 := by
  have h1 := h.own_len
  rw [mine_len, mine_len] at h1
  exact ⟨h.ok.inn.view.1, h.ok.inn.view.2, h1.1, h1.2⟩
def ViewLoop (n me slot : Int) (w0 : World) (b : Nat) (c : Core) (wr : World) : Prop := ∃ col, VwAt n me slot w0 b c col wr
/-- Behind an act. -/
def ViewNext (n me slot : Int) (w0 : World) (b : Nat) (c : Core) (kb : Nat) (cs : List Value) (wx : World) : Prop := ∃ col c2, Keep c c2 ∧ VwAt n me slot w0 b c2 col wx ∧ Blk wx kb 35 cs ∧ col kb = none
def tabV1 (b : Nat) (bs : Bs) (gv : Value) (dn : Bool) : List (Fk KpR) := [.val (.pointer (some ⟨b, 0, none⟩)), Fk.rb bs, .val (.string (strB bs)), .val (.pointer (some ⟨b, 0, none⟩)), .val gv, .val (.bool dn), .any, .val (.string (strB bs)), .any, .val (.bool dn)]
def dstV1 : List (Option Tmp) := [some 61, some 62, some 63, some 64, some 65, some 66, some 17, some 16, none, some 18]
def preV1 : List (List Nat) := [[], [0], [0, 1], [], [0, 1, 3], [], [], [0, 1, 2, 3, 4, 6], [0, 1, 2, 3, 4, 6, 7], [0, 1, 2, 3, 4, 5, 6, 7, 8]]
def maskV1 : List Bool := [false, false, false, false, false, false, false, false, false, false, false, false, false, false, false, false, true, true, true, false, false, false, false, false, false, false, false, false, false, false, false, false, false, false, false, false, false, false, false, false, false, false, false, false, false, false, false, false, false, false, false, false, false, false, false, false, false, false, false, false, false, true, true, true, true, true, true, false, false, false, false, false, false, false, false, false, false, false, false, false, false, false, false, false, false, false, false, false, false, false, false, false, false, false, false, false, false, false, false, false, false, false, false, false, false, false, false, false, false, false, false, false, false, false, false, false, false, false, false, false, false, false, false, false, false, false, false, false, false, false, false, false, false, false, false, false, false, false, false, false, false, false, false, false, false, false, false, false, false, false, false, false, false, false, false, false, false, false, false, false, false, false, false, false, false, false, false, false, false, false, false, false, false]
def tabV3 (v0 : Value) (v1 : Value) (v2 : Value) (v3 : Value) (v4 : Value) (v5 : Value) (v6 : Value) (v7 : Value) (v8 : Value) (v9 : Value) (v10 : Value) (v11 : Value) (v12 : Value) (v13 : Value) (v14 : Value) (v15 : Value) (v16 : Value) (v17 : Value) (v18 : Value) (v19 : Value) (v20 : Value) (v21 : Value) (v22 : Value) (p23 : Fk KpR) (v24 : Value) (v25 : Value) (v26 : Value) (v27 : Value) (v28 : Value) : List (Fk KpR) := [.val v0, .val v1, .val v2, .val v3, .val v4, .val v5, .val v6, .val v7, .val v8, .val v9, .val v10, .val v11, .val v12, .val v13, .val v14, .val v15, .val v16, .val v17, .val v18, .val v19, .val v20, .val v21, .val v22, p23, .val v24, .val v25, .val v26, .val v27, .val v28]
def dstV3 : List (Option Tmp) := [some 112, some 113, some 114, some 115, some 116, some 117, some 118, some 119, some 120, some 121, some 122, some 123, some 124, some 125, some 126, some 127, some 128, some 129, some 130, some 131, some 132, some 133, some 134, some 135, some 136, some 137, some 138, some 139, some 140]
def preV3 : List (List Nat) := [[], [0], [], [0, 1, 2], [0, 1, 2, 3], [0, 1, 2, 3, 4], [0, 1, 2, 3, 4, 5], [0, 1, 2, 3, 4, 5, 6], [0, 1, 2, 3, 4], [0, 1, 2, 3, 4, 5, 6, 7, 8], [0, 1, 2, 3, 4, 5, 6, 7, 8, 9], [0, 1, 2, 3, 4, 5, 6, 7, 8, 9, 10], [0, 1, 2, 3, 4, 5, 6, 7, 8, 9, 10, 11], [0, 1, 2, 3, 4, 5, 6, 7, 8, 9, 10, 11, 12], [0, 1, 2, 3, 4, 5, 6, 7, 8, 9, 10, 11], [0, 1, 2, 3, 4, 5, 6, 7, 8, 9, 10, 11, 12, 13, 14], [0, 1, 2, 3, 4, 5, 6, 7, 8, 9, 10, 11, 12, 13, 14, 15], [0, 1, 2, 3, 4, 5, 6, 7, 8, 9, 10, 11, 12, 13, 14, 15, 16], [0, 1, 2, 3, 4, 5, 6, 7, 8, 9, 10, 11, 12, 13, 14, 15, 16], [0, 1, 2, 3, 4, 5, 6, 7, 8, 9, 10, 11, 12, 13, 14, 15, 16, 17, 18], [0, 1, 2, 3, 4, 5, 6, 7, 8, 9, 10, 11, 12, 13, 14, 15, 16, 17, 18, 19], [0, 1, 2, 3, 4, 5, 6, 7, 8, 9, 10, 11, 12, 13, 14, 15, 16, 17, 18, 19, 20], [0, 1, 2, 3, 4, 5, 6, 7, 8, 9, 10, 11, 12, 13, 14, 15, 16, 17, 18, 19, 20, 21], [0, 1, 2, 3, 4, 5, 6, 7, 8, 9, 10, 11, 12, 13, 14, 15, 16, 17, 18, 19, 20, 21, 22], [0, 1, 2, 3, 4, 5, 6, 7, 8, 9, 10, 11, 12, 13, 14, 15, 16, 17, 18, 19, 20, 21, 22, 23], [0, 1, 2, 3, 4, 5, 6, 7, 8, 9, 10, 11, 12, 13, 14, 15, 16, 17, 18, 19, 20, 21], [0, 1, 2, 3, 4, 5, 6, 7, 8, 9, 10, 11, 12, 13, 14, 15, 16, 17, 18, 19, 20, 21, 22, 23, 24, 25], [0, 1, 2, 3, 4, 5, 6, 7, 8, 9, 10, 11, 12, 13, 14, 15, 16, 17, 18, 19, 20, 21, 22, 23, 24, 25, 26], [0, 1, 2, 3, 4, 5, 6, 7, 8, 9, 10, 11, 12, 13, 14, 15, 16, 17, 18, 19, 20, 21, 22, 23, 24, 25, 26, 27]]
def maskV3 : List Bool := [false, false, false, false, false, false, false, false, false, false, false, false, false, false, false, false, false, false, false, false, false, false, false, false, false, false, false, false, false, false, false, false, false, false, false, false, false, false, false, false, false, false, false, false, false, false, false, false, false, false, false, false, false, false, false, false, false, false, false, false, false, false, false, false, false, false, false, false, false, false, false, false, false, false, false, false, false, false, false, false, false, false, false, false, false, false, false, false, false, false, false, false, false, false, false, false, false, false, false, false, false, false, false, false, false, false, false, false, false, false, false, false, true, true, true, true, true, true, true, true, true, true, true, true, true, true, true, true, true, true, true, true, true, true, true, true, true, true, true, true, true, false, false, false, false, false, false, false, false, false, false, false, false, false, false, false, false, false, false, false, false, false, false, false, false, false, false, false, false, false, false, false, false]
def tabV4 (v0 : Value) (v1 : Value) (v2 : Value) (v3 : Value) (v4 : Value) (v5 : Value) (v6 : Value) (v7 : Value) (v8 : Value) (v9 : Value) (v10 : Value) (v11 : Value) (v12 : Value) (v13 : Value) (v14 : Value) (v15 : Value) (v16 : Value) (v17 : Value) (v18 : Value) (v19 : Value) (v20 : Value) (v21 : Value) (v22 : Value) (v23 : Value) (v24 : Value) (v25 : Value) (v26 : Value) (v27 : Value) (v28 : Value) : List (Fk KpR) := [.val v0, .val v1, .val v2, .val v3, .val v4, .val v5, .val v6, .val v7, .val v8, .val v9, .val v10, .val v11, .val v12, .val v13, .val v14, .val v15, .val v16, .val v17, .val v18, .val v19, .val v20, .val v21, .val v22, .val v23, .val v24, .val v25, .val v26, .val v27, .val v28]
def dstV4 : List (Option Tmp) := [some 112, some 113, some 114, some 115, some 116, some 117, some 118, some 119, some 120, some 121, some 122, some 123, some 124, some 125, some 126, some 127, some 128, some 129, some 130, some 131, some 132, some 133, some 134, some 135, some 136, some 137, some 138, some 139, some 140]
def preV4 : List (List Nat) := [[], [0], [], [0, 1, 2], [0, 1, 2, 3], [0, 1, 2, 3, 4], [0, 1, 2, 3, 4, 5], [0, 1, 2, 3, 4, 5, 6], [0, 1, 2, 3, 4], [0, 1, 2, 3, 4, 5, 6, 7, 8], [0, 1, 2, 3, 4, 5, 6, 7, 8, 9], [0, 1, 2, 3, 4, 5, 6, 7, 8, 9, 10], [0, 1, 2, 3, 4, 5, 6, 7, 8, 9, 10, 11], [0, 1, 2, 3, 4, 5, 6, 7, 8, 9, 10, 11, 12], [0, 1, 2, 3, 4, 5, 6, 7, 8, 9, 10, 11], [0, 1, 2, 3, 4, 5, 6, 7, 8, 9, 10, 11, 12, 13, 14], [0, 1, 2, 3, 4, 5, 6, 7, 8, 9, 10, 11, 12, 13, 14, 15], [0, 1, 2, 3, 4, 5, 6, 7, 8, 9, 10, 11, 12, 13, 14, 15, 16], [0, 1, 2, 3, 4, 5, 6, 7, 8, 9, 10, 11, 12, 13, 14, 15, 16], [0, 1, 2, 3, 4, 5, 6, 7, 8, 9, 10, 11, 12, 13, 14, 15, 16, 17, 18], [0, 1, 2, 3, 4, 5, 6, 7, 8, 9, 10, 11, 12, 13, 14, 15, 16, 17, 18, 19], [0, 1, 2, 3, 4, 5, 6, 7, 8, 9, 10, 11, 12, 13, 14, 15, 16, 17, 18, 19, 20], [0, 1, 2, 3, 4, 5, 6, 7, 8, 9, 10, 11, 12, 13, 14, 15, 16, 17, 18, 19, 20, 21], [0, 1, 2, 3, 4, 5, 6, 7, 8, 9, 10, 11, 12, 13, 14, 15, 16, 17, 18, 19, 20, 21, 22], [0, 1, 2, 3, 4, 5, 6, 7, 8, 9, 10, 11, 12, 13, 14, 15, 16, 17, 18, 19, 20, 21, 22, 23], [0, 1, 2, 3, 4, 5, 6, 7, 8, 9, 10, 11, 12, 13, 14, 15, 16, 17, 18, 19, 20, 21], [0, 1, 2, 3, 4, 5, 6, 7, 8, 9, 10, 11, 12, 13, 14, 15, 16, 17, 18, 19, 20, 21, 22, 23, 24, 25], [0, 1, 2, 3, 4, 5, 6, 7, 8, 9, 10, 11, 12, 13, 14, 15, 16, 17, 18, 19, 20, 21, 22, 23, 24, 25, 26], [0, 1, 2, 3, 4, 5, 6, 7, 8, 9, 10, 11, 12, 13, 14, 15, 16, 17, 18, 19, 20, 21, 22, 23, 24, 25, 26, 27]]
def maskV4 : List Bool := [false, false, false, false, false, false, false, false, false, false, false, false, false, false, false, false, false, false, false, false, false, false, false, false, false, false, false, false, false, false, false, false, false, false, false, false, false, false, false, false, false, false, false, false, false, false, false, false, false, false, false, false, false, false, false, false, false, false, false, false, false, false, false, false, false, false, false, false, false, false, false, false, false, false, false, false, false, false, false, false, false, false, false, false, false, false, false, false, false, false, false, false, false, false, false, false, false, false, false, false, false, false, false, false, false, false, false, false, false, false, false, false, true, true, true, true, true, true, true, true, true, true, true, true, true, true, true, true, true, true, true, true, true, true, true, true, true, true, true, true, true, false, false, false, false, false, false, false, false, false, false, false, false, false, false, false, false, false, false, false, false, false, false, false, false, false, false, false, false, false, false, false, false]
def tabV5 (v0 : Value) (v1 : Value) (v2 : Value) (v3 : Value) (v4 : Value) (v5 : Value) (v6 : Value) (v7 : Value) (v8 : Value) (v9 : Value) (v10 : Value) (v11 : Value) (v12 : Value) (v13 : Value) (v14 : Value) (v15 : Value) (v16 : Value) (v17 : Value) (v18 : Value) (v19 : Value) (v20 : Value) (v21 : Value) (v22 : Value) (v23 : Value) (v24 : Value) (v25 : Value) (v26 : Value) (v27 : Value) (v28 : Value) : List (Fk KpR) := [.val v0, .val v1, .val v2, .val v3, .val v4, .val v5, .val v6, .val v7, .val v8, .val v9, .val v10, .val v11, .val v12, .val v13, .val v14, .val v15, .val v16, .val v17, .val v18, .val v19, .val v20, .val v21, .val v22, .val v23, .val v24, .val v25, .val v26, .val v27, .val v28]
def dstV5 : List (Option Tmp) := [some 112, some 113, some 114, some 115, some 116, some 117, some 118, some 119, some 120, some 121, some 122, some 123, some 124, some 125, some 126, some 127, some 128, some 129, some 130, some 131, some 132, some 133, some 134, some 135, some 136, some 137, some 138, some 139, some 140]
def preV5 : List (List Nat) := [[], [0], [], [0, 1, 2], [0, 1, 2, 3], [0, 1, 2, 3, 4], [0, 1, 2, 3, 4, 5], [0, 1, 2, 3, 4, 5, 6], [0, 1, 2, 3, 4], [0, 1, 2, 3, 4, 5, 6, 7, 8], [0, 1, 2, 3, 4, 5, 6, 7, 8, 9], [0, 1, 2, 3, 4, 5, 6, 7, 8, 9, 10], [0, 1, 2, 3, 4, 5, 6, 7, 8, 9, 10, 11], [0, 1, 2, 3, 4, 5, 6, 7, 8, 9, 10, 11, 12], [0, 1, 2, 3, 4, 5, 6, 7, 8, 9, 10, 11], [0, 1, 2, 3, 4, 5, 6, 7, 8, 9, 10, 11, 12, 13, 14], [0, 1, 2, 3, 4, 5, 6, 7, 8, 9, 10, 11, 12, 13, 14, 15], [0, 1, 2, 3, 4, 5, 6, 7, 8, 9, 10, 11, 12, 13, 14, 15, 16], [0, 1, 2, 3, 4, 5, 6, 7, 8, 9, 10, 11, 12, 13, 14, 15, 16], [0, 1, 2, 3, 4, 5, 6, 7, 8, 9, 10, 11, 12, 13, 14, 15, 16, 17, 18], [0, 1, 2, 3, 4, 5, 6, 7, 8, 9, 10, 11, 12, 13, 14, 15, 16, 17, 18, 19], [0, 1, 2, 3, 4, 5, 6, 7, 8, 9, 10, 11, 12, 13, 14, 15, 16, 17, 18, 19, 20], [0, 1, 2, 3, 4, 5, 6, 7, 8, 9, 10, 11, 12, 13, 14, 15, 16, 17, 18, 19, 20, 21], [0, 1, 2, 3, 4, 5, 6, 7, 8, 9, 10, 11, 12, 13, 14, 15, 16, 17, 18, 19, 20, 21, 22], [0, 1, 2, 3, 4, 5, 6, 7, 8, 9, 10, 11, 12, 13, 14, 15, 16, 17, 18, 19, 20, 21, 22, 23], [0, 1, 2, 3, 4, 5, 6, 7, 8, 9, 10, 11, 12, 13, 14, 15, 16, 17, 18, 19, 20, 21], [0, 1, 2, 3, 4, 5, 6, 7, 8, 9, 10, 11, 12, 13, 14, 15, 16, 17, 18, 19, 20, 21, 22, 23, 24, 25], [0, 1, 2, 3, 4, 5, 6, 7, 8, 9, 10, 11, 12, 13, 14, 15, 16, 17, 18, 19, 20, 21, 22, 23, 24, 25, 26], [0, 1, 2, 3, 4, 5, 6, 7, 8, 9, 10, 11, 12, 13, 14, 15, 16, 17, 18, 19, 20, 21, 22, 23, 24, 25, 26, 27]]
def maskV5 : List Bool := [false, false, false, false, false, false, false, false, false, false, false, false, false, false, false, false, false, false, false, false, false, false, false, false, false, false, false, false, false, false, false, false, false, false, false, false, false, false, false, false, false, false, false, false, false, false, false, false, false, false, false, false, false, false, false, false, false, false, false, false, false, false, false, false, false, false, false, false, false, false, false, false, false, false, false, false, false, false, false, false, false, false, false, false, false, false, false, false, false, false, false, false, false, false, false, false, false, false, false, false, false, false, false, false, false, false, false, false, false, false, false, false, true, true, true, true, true, true, true, true, true, true, true, true, true, true, true, true, true, true, true, true, true, true, true, true, true, true, true, true, true, false, false, false, false, false, false, false, false, false, false, false, false, false, false, false, false, false, false, false, false, false, false, false, false, false, false, false, false, false, false, false, false]
def tabV2 (v0 : Value) (v1 : Value) (v2 : Value) (v3 : Value) (v4 : Value) (v5 : Value) (v6 : Value) (v7 : Value) : List (Fk KpR) := [.val v0, .val v1, .val v2, .val v3, .val v4, .val v5, .val v6, .val v7]
def dstV2 : List (Option Tmp) := [some 107, some 108, some 109, some 110, some 111, some 10, some 11, some 12]
def preV2 : List (List Nat) := [[], [0], [], [2], [], [0, 1], [0, 1, 2, 3, 5], [0, 1, 2, 3, 4, 5, 6]]
def maskV2 : List Bool := [false, false, false, false, false, false, false, false, false, false, true, true, true, false, false, false, false, false, false, false, false, false, false, false, false, false, false, false, false, false, false, false, false, false, false, false, false, false, false, false, false, false, false, false, false, false, false, false, false, false, false, false, false, false, false, false, false, false, false, false, false, false, false, false, false, false, false, false, false, false, false, false, false, false, false, false, false, false, false, false, false, false, false, false, false, false, false, false, false, false, false, false, false, false, false, false, false, false, false, false, false, false, false, false, false, false, false, true, true, true, true, true, false, false, false, false, false, false, false, false, false, false, false, false, false, false, false, false, false, false, false, false, false, false, false, false, false, false, false, false, false, false, false, false, false, false, false, false, false, false, false, false, false, false, false, false, false, false, false, false, false, false, false, false, false, false, false, false, false, false, false, false, false]

set_option linter.all false in
set_option maxRecDepth 100000 in
set_option maxHeartbeats 8000000 in
theorem views_walk (a0 a1 a2 : Int) (a3 : Option Addr) (len3 cap3 : Nat) (F : Nat → ActP) (w : World) (h3 : ActsAt w a3 len3 cap3 F) :
    Calls Try.prog 3 #[.int .i64 a0, .int .i64 a1, .int .i64 a2, .slice a3 len3 cap3] w fun e w' => e = .returned (.bool true) ∧ Below w.heap.size w w' := by
  obtain ⟨r0, hr0, hr0l⟩ := tmod_nat2 a0 (show 0 < 9 by omega)
  obtain ⟨r2, hr2, hr2l⟩ := tmod_nat2 a2 (show 0 < 257 by omega)
  have hr0 : (IntKind.u64.wrap a0).tmod 9 = (r0 : Int) := hr0
  have hr2 : (IntKind.u64.wrap a2).tmod 257 = (r2 : Int) := hr2
  obtain ⟨n0, hn0⟩ : ∃ n0 : Nat, 4 + r0 = n0 := ⟨_, rfl⟩
  have hn4 : 4 ≤ n0 ∧ n0 ≤ 12 := by omega
  obtain ⟨r1, hr1, hr1l⟩ := tmod_nat2 a1 (show 0 < n0 by omega)
  obtain ⟨m0, hm0⟩ : ∃ m0 : Nat, 1 + r1 = m0 := ⟨_, rfl⟩
  have hm1 : 1 ≤ m0 ∧ m0 ≤ n0 := by omega
  have x1 : IntKind.u64.wrap (r0 : Int) = (r0 : Int) := by rw [IntKind.wrap_u64]; omega
  have x2 : IntKind.i64.wrap (r0 : Int) = (r0 : Int) := by rw [IntKind.wrap_i64]; omega
  have x3 : IntKind.i64.wrap (4 + (r0 : Int)) = (n0 : Int) := by rw [IntKind.wrap_i64]; omega
  have x4 : IntKind.u64.wrap (r2 : Int) = (r2 : Int) := by rw [IntKind.wrap_u64]; omega
  have x5 : IntKind.i64.wrap (r2 : Int) = (r2 : Int) := by rw [IntKind.wrap_i64]; omega
  have x6 : IntKind.u64.wrap (n0 : Int) = (n0 : Int) := by rw [IntKind.wrap_u64]; omega
  have x7 : IntKind.u64.wrap (r1 : Int) = (r1 : Int) := by rw [IntKind.wrap_u64]; omega
  have x8 : IntKind.i64.wrap (r1 : Int) = (r1 : Int) := by rw [IntKind.wrap_i64]; omega
  have x9 : IntKind.i64.wrap (1 + (r1 : Int)) = (m0 : Int) := by rw [IntKind.wrap_i64]; omega
  have y1 : (n0 : Int) ≠ 0 := by omega
  have y2 : ((n0 : Int) == 0) = false := by simp; omega
  have y3 : n0 ≠ 0 := by omega
  have H3 := Lib.hid h3
  clear h3 hn0 hm0
  have hlv := Lib.hid (lives_any w)
  go_enter Try.func3, Try.ntmps3
  go_wp2_with fail
  refine hlv.out.mono ?_
  rintro e wA ⟨rfl, hbA⟩
  have HBA := Lib.hid hbA
  have HFS := Lib.hid (few_any a3 len3 cap3 F wA (H3.out.moved hbA))
  clear hbA
  go_wp2_with fail
  refine HFS.out.mono ?_
  rintro e wB ⟨r, rfl, hbB, hfew⟩
  have HBB := Lib.hid (HBA.out.trans (hbB.mono HBA.out.size))
  have HLB := Lib.hid (lives_any wB)
  clear hbB
  have hend : ∀ wC, Below wB.heap.size wB wC → Below w.heap.size w wC := fun wC h => HBB.out.trans (h.mono HBB.out.size)
  have HEND := Lib.hid hend
  clear hend
  cases r with
  | false =>
    go_wp2_with fail
    refine HLB.out.mono ?_
    rintro e wC ⟨rfl, hbC⟩
    have HC := Lib.hid (HEND.out wC hbC)
    clear hbC
    go_wp2_with fail
    go_ret
    exact ⟨rfl, HC.out⟩
  | true =>
    have hl3 : len3 ≤ 100 := (hfew rfl).1
    have HNW := Lib.hid (new_any (acc := notV) 0 (tint_none wB) not_acc (n := (n0 : Int)) (me := (m0 : Int)) (slot := (r2 : Int)) (by omega) (by omega) (by omega))
    clear hfew
    go_wp2_with fail
    refine HNW.out.mono ?_
    rintro e wC ⟨b, col, rfl, hbb0, hE, hC⟩
    have HVA : Hid (ViewLoop (n0 : Int) (m0 : Int) (r2 : Int) wB b (newCore (n0 : Int) (m0 : Int) (r2 : Int)) wC) :=
      ⟨col, hE.tint, hC, newCore_loc (by omega) (by omega) (by omega), (fun p hp => by cases hp), (⟨Below.refl _ _, fun _ _ => rfl⟩ : Fresh0 wB (fun _ => none) wB).step hE⟩
    clear hbb0 hE hC
    go_wp2_with fail
    go_loopw [10, 11, 12, 57] (fun t10 t11 t12 u wr => ∃ (i : Nat) (c : Core), i ≤ len3 ∧ u = .int .i64 (i : Int) ∧ t10 = .int .i64 c.view ∧ t11 = .string (strB (if c.decided then c.value else [])) ∧ t12 = .bool c.decided ∧ Hid (ViewLoop (n0 : Int) (m0 : Int) (r2 : Int) wB b c wr)) (fun _ _ _ u _ => len3 - (intOf u).toNat)
    case atStart => exact ⟨0, _, Nat.zero_le _, rfl, rfl, rfl, rfl, HVA⟩
    case round =>
      obtain ⟨i, c, hi, rfl, rfl, rfl, rfl, HB⟩ := hrel
      rename World => wr
      clear HVA
      obtain ⟨vw, hvw⟩ : ∃ x, c.view = x := ⟨_, rfl⟩
      obtain ⟨dn, hdn⟩ : ∃ x, c.decided = x := ⟨_, rfl⟩
      obtain ⟨bv, hbv⟩ : ∃ x, (if c.decided then c.value else []) = x := ⟨_, rfl⟩
      rw [hvw, hbv, hdn]
      have HVW := Lib.hid hvw
      have HDN := Lib.hid hdn
      have HBVV := Lib.hid hbv
      clear hvw hdn hbv
      by_cases hlt : (i : Int) < (len3 : Int)
      · have hz1 : IntKind.i64.wrap ((i : Int) + 1) = (i : Int) + 1 := by rw [IntKind.wrap_i64]; omega
        obtain ⟨col, hV⟩ := HB.out
        obtain ⟨ad, rfl⟩ : ∃ ad, a3 = some ad := by
          cases a3 with
          | none => have := H3.out.2.2.1 rfl; omega
          | some ad => exact ⟨ad, rfl⟩
        have hat := (H3.out.2.2.2 ad rfl i (by omega)).moved (HEND.out wr hV.fresh.below)
        obtain ⟨⟨kd, ⟨vk, vfr, vsl, vvw, vvd, vval⟩, sval⟩, hs⟩ : ∃ s, F i = s := ⟨_, rfl⟩
        rw [hs] at hat
        clear hs
        have hwv := hat.wfv
        obtain ⟨vs, ss, ⟨c0, c1, c2, c3, c4, c5, c6, c7⟩, hvs, hss⟩ := hat.cells
        obtain ⟨va, vl, vc, rfl⟩ := IB.form hvs
        obtain ⟨sa, sl, sc, rfl⟩ := IB.form hss
        dsimp only at c0 c1 c2 c3 c4 c5 c6 c7 hvs hss hwv
        have HV := Lib.hid hV
        have HVS := Lib.hid hvs
        have HSS := Lib.hid hss
        have HWV := Lib.hid hwv
        obtain ⟨bs, hbs⟩ : ∃ x, bytesC c = x := ⟨_, rfl⟩
        have HBS := Lib.hid hbs
        obtain ⟨p1, hp1⟩ : ∃ x, (c.prepares.countP fun p => (lookM p.2 c.me).isSome) = x := ⟨_, rfl⟩
        obtain ⟨q1, hq1⟩ : ∃ x, (c.commits.countP fun p => (lookM p.2 c.me).isSome) = x := ⟨_, rfl⟩
        have HGV : Hid (grownV c = .agg #[.int .i64 vw, .int .i64 (p1 : Int), .int .i64 (q1 : Int)]) := by
          show grownV c = _
          unfold grownV
          rw [HVW.out, hp1, hq1]
        have HPQ := Lib.hid (And.intro hp1 hq1)
        have HLOC := Lib.hid HV.out.loc
        clear hat hwv hvs hss hV HB hbs hp1 hq1
        go_upto_region 14 with (fail)
        obtain ⟨W2, hW2⟩ : ∃ W2, wr.alloc (.cells #[.int .i64 kd, .int .i64 vk, .int .i64 vfr, .int .i64 vsl, .int .i64 vvw, .int .i64 vvd, .slice va vl vc, .slice sa sl sc] 33) = W2 := ⟨_, rfl⟩
        have hbV : Below wr.heap.size wr W2 := hW2 ▸ (Below.refl _ wr).alloc (Nat.le_refl _) _
        have hkV : Blk W2 wr.heap.size 33 [.int .i64 kd, .int .i64 vk, .int .i64 vfr, .int .i64 vsl, .int .i64 vvw, .int .i64 vvd, .slice va vl vc, .slice sa sl sc] := hW2 ▸ Blk.new wr _ _
        obtain ⟨G, hG⟩ : ∃ G, wr.heap.size = G := ⟨_, rfl⟩
        rw [hW2, hG]
        rw [hG] at hkV
        have HV2 := Lib.hid (HV.out.moved hbV)
        have HVS2 := Lib.hid (HVS.out.below hbV)
        have HSS2 := Lib.hid (HSS.out.below hbV)
        have HKV := Lib.hid hkV
        clear hW2 hG hbV hkV c0 c1 c2 c3 c4 c5 c6 c7 HVS HSS HV
        refine wp_region_mixB (B14 W2 [.int .i64 vw, .int .i64 (p1 : Int), .int .i64 (q1 : Int)]) (GF (tabV1 b bs (.agg #[.int .i64 vw, .int .i64 (p1 : Int), .int .i64 (q1 : Int)]) dn)) maskV1 dstV1 preV1 (by kernel_rfl) (by kernel_rfl) rfl (by kernel_rfl) (by kernel_rfl) (by kernel_rfl) (by kernel_rfl) ⟨Below.drew (Below.refl _ W2), fun h => by cases h⟩ ?_ ?_
        · refine StepsMB.cons (fun l g' wu hB hl hn hp K hK => ?_) ?_
          · simp only [mkM, maskV1, mixM, Nat.reduceAdd] at hK ⊢; simp only [Act.put, List.setIfInBounds_toArray, List.set_cons_zero, List.set_cons_succ] at hK; go_simp; exact hK.out _ _ (hB.keep (Below.refl _ _) (by decide) (by decide) (by decide) _) GF.same rfl
          refine StepsMB.cons (fun l g' wu hB hl hn hp K hK => ?_) ?_
          · have e0 : g' 61 = .pointer (some ⟨b, 0, none⟩) := (hp 0 (by decide)).2; simp only [mkM, maskV1, mixM, Nat.reduceAdd, e0] at hK ⊢; clear e0; simp only [Act.put, List.setIfInBounds_toArray, List.set_cons_zero, List.set_cons_succ] at hK; go_simp; go_at_call 16; refine ((HV2.out.moved hB.1).bytes).mono ?_; rintro e w7 ⟨v, rfl, hrb, hb⟩; rw [HBS.out] at hrb; go_wp2_with fail; exact hK.out _ _ (hB.keep hb (by decide) (by decide) (by decide) _) (GF.below hb) hrb
          refine StepsMB.cons (fun l g' wu hB hl hn hp K hK => ?_) ?_
          · have h1 : RB wu (g' 62) bs := (hp 1 (by decide)).2; have hst := rb_str h1; simp only [mkM, maskV1, mixM, Nat.reduceAdd] at hK ⊢; simp only [Act.put, List.setIfInBounds_toArray, List.set_cons_zero, List.set_cons_succ] at hK; go_simp; exact hK.out _ _ (hB.keep (Below.refl _ _) (by decide) (by decide) (by decide) _) GF.same rfl
          refine StepsMB.cons (fun l g' wu hB hl hn hp K hK => ?_) ?_
          · simp only [mkM, maskV1, mixM, Nat.reduceAdd] at hK ⊢; simp only [Act.put, List.setIfInBounds_toArray, List.set_cons_zero, List.set_cons_succ] at hK; go_simp; exact hK.out _ _ (hB.keep (Below.refl _ _) (by decide) (by decide) (by decide) _) GF.same rfl
          refine StepsMB.cons (fun l g' wu hB hl hn hp K hK => ?_) ?_
          · have e3 : g' 64 = .pointer (some ⟨b, 0, none⟩) := (hp 3 (by decide)).2; simp only [mkM, maskV1, mixM, Nat.reduceAdd, e3] at hK ⊢; clear e3; simp only [Act.put, List.setIfInBounds_toArray, List.set_cons_zero, List.set_cons_succ] at hK; go_simp; go_at_call 17; refine ((HV2.out.moved hB.1).grown).mono ?_; rintro e w7 ⟨rfl, hb⟩; rw [HGV.out]; go_wp2_with fail; exact hK.out _ _ (hB.keep hb (by decide) (by decide) (by decide) _) (GF.below hb) rfl
          refine StepsMB.cons (fun l g' wu hB hl hn hp K hK => ?_) ?_
          · simp only [mkM, maskV1, mixM, Nat.reduceAdd] at hK ⊢; simp only [Act.put, List.setIfInBounds_toArray, List.set_cons_zero, List.set_cons_succ] at hK; go_simp; exact hK.out _ _ (hB.keep (Below.refl _ _) (by decide) (by decide) (by decide) _) GF.same rfl
          refine StepsMB.cons (fun l g' wu hB hl hn hp K hK => ?_) ?_
          · simp only [mkM, maskV1, mixM, Nat.reduceAdd] at hK ⊢; simp only [Act.put, List.setIfInBounds_toArray, List.set_cons_zero, List.set_cons_succ] at hK; go_simp; exact hK.out _ _ (hB.alloc (hn 8 (by decide))) GF.alloc trivial
          refine StepsMB.cons (fun l g' wu hB hl hn hp K hK => ?_) ?_
          · have e2 : g' 63 = .string (strB bs) := (hp 2 (by decide)).2; simp only [mkM, maskV1, mixM, Nat.reduceAdd, e2] at hK ⊢; clear e2; simp only [Act.put, List.setIfInBounds_toArray, List.set_cons_zero, List.set_cons_succ] at hK; go_simp; exact hK.out _ _ (hB.keep (Below.refl _ _) (by decide) (by decide) (by decide) _) GF.same rfl
          refine StepsMB.cons (fun l g' wu hB hl hn hp K hK => ?_) ?_
          · obtain ⟨k, ks, e17, hBk, hks, hBs⟩ := hB.store (hp 6 (by decide)).1; match ks, hks with | [x0, x1, x2], _ => (have z0 := hBk.frozen 0; have z1 := hBk.frozen 1; have z2 := hBk.frozen 2; have f0 := hBk.cell 0; have f1 := hBk.cell 1; have f2 := hBk.cell 2; simp only [List.getElem?_cons_succ, List.getElem?_cons_zero] at f0 f1 f2; have e4 : g' 65 = .agg #[.int .i64 vw, .int .i64 (p1 : Int), .int .i64 (q1 : Int)] := (hp 4 (by decide)).2; simp only [mkM, maskV1, mixM, Nat.reduceAdd, e17, e4] at hK ⊢; clear e17 e4; simp only [Act.put, List.setIfInBounds_toArray, List.set_cons_zero, List.set_cons_succ] at hK; go_simp; exact hK.out undef _ hBs (GF.kept rfl (KpR.store hBk _ _ _)) trivial)
          refine StepsMB.cons (fun l g' wu hB hl hn hp K hK => ?_) ?_
          · have e5 : g' 66 = .bool dn := (hp 5 (by decide)).2; simp only [mkM, maskV1, mixM, Nat.reduceAdd, e5] at hK ⊢; clear e5; simp only [Act.put, List.setIfInBounds_toArray, List.set_cons_zero, List.set_cons_succ] at hK; go_simp; exact hK.out _ _ (hB.keep (Below.refl _ _) (by decide) (by decide) (by decide) _) GF.same rfl
          exact StepsMB.nil
        · intro l g' wu hall hB hG
          obtain ⟨kb, ks, e17, hk1, hk2, _, hk4⟩ := hB.2 (hall 6 (by decide))
          obtain rfl := hk4 (hall 8 (by decide))
          have e16 : g' 16 = .string (strB bs) := hG 7 (by decide)
          have e18 : g' 18 = .bool dn := hG 9 (by decide)
          have hb3 : Below W2.heap.size W2 wu := hB.1
          have hck : col kb = none := by
            cases hc : col kb with
            | none => rfl
            | some q => have := HV2.out.tint.lo kb q hc; omega
          simp only [mkM, maskV1, mixM, Nat.reduceAdd, e16, e17, e18]
          have HV3 := Lib.hid (HV2.out.moved hb3)
          have HVS3 := Lib.hid (HVS2.out.below hb3)
          have HSS3 := Lib.hid (HSS2.out.below hb3)
          have HKB := Lib.hid hk2
          have HCK := Lib.hid hck
          have hkV := HKV.out.below hb3 HKV.out.lt
          have b0 := hkV.cell 0
          have b1 := hkV.cell 1
          have b2 := hkV.cell 2
          have b3 := hkV.cell 3
          have b4 := hkV.cell 4
          have b5 := hkV.cell 5
          have b6 := hkV.cell 6
          have b7 := hkV.cell 7
          simp only [List.getElem?_cons_succ, List.getElem?_cons_zero] at b0 b1 b2 b3 b4 b5 b6 b7
          clear hG hall hB e16 e17 e18 hk1 hk2 hk4 hb3 hck hkV HV2 HVS2 HSS2 HKV
          go_upto_block 2 with (fail)
          go_cut [] (fun wx => Hid (ViewNext (n0 : Int) (m0 : Int) (r2 : Int) wB b c kb [.int .i64 vw, .int .i64 (p1 : Int), .int .i64 (q1 : Int)] wx))
          case first =>
            by_cases k0 : kd = 0
            · subst k0
              have HTK := Lib.hid (take_any (⟨vk, vfr, vsl, vvw, vvd, vval⟩ : Vt) (.slice va vl vc) HV3.out.tint HV3.out.core HV3.out.loc.ok (vtWf_of (wf_bd2 HWV.out.1) (wf_bd2 HWV.out.2.1) (wf_bd2 HWV.out.2.2.1) (wf_bd2 HWV.out.2.2.2.1) (wf_bd2 HWV.out.2.2.2.2)) HVS3.out)
              go_wp2_with fail
              refine HTK.out.mono ?_
              rintro e w4 ⟨rfl, hok2, col2, hE2, hC2⟩
              have HX : Hid (ViewNext (n0 : Int) (m0 : Int) (r2 : Int) wB b c kb [.int .i64 vw, .int .i64 (p1 : Int), .int .i64 (q1 : Int)] w4) := ⟨col2, _, HV3.out.loc.keep_take _, HV3.out.step hE2 hC2 (HV3.out.loc.take _) ((HV3.out.loc.keep_take _).pv HV3.out.pv), vblk_ext HKB.out hE2 HCK.out, (hE2.old kb HKB.out.lt).trans HCK.out⟩
              clear hok2 hE2 hC2
              go_wp2_with fail
              go_meet
              exact HX
            by_cases k1 : kd = 1
            · subst k1
              have HWI := Lib.hid (wish_any (.slice sa sl sc) sval HV3.out.tint HV3.out.core HV3.out.loc.ok HSS3.out)
              go_wp2_with fail
              refine HWI.out.mono ?_
              rintro e w4 ⟨⟨ev, rfl⟩, hok2, col2, hE2, hC2⟩
              have HX : Hid (ViewNext (n0 : Int) (m0 : Int) (r2 : Int) wB b c kb [.int .i64 vw, .int .i64 (p1 : Int), .int .i64 (q1 : Int)] w4) := ⟨col2, _, HV3.out.loc.keep_wish _, HV3.out.step hE2 hC2 (HV3.out.loc.wishes _) ((HV3.out.loc.keep_wish _).pv HV3.out.pv), vblk_ext HKB.out hE2 HCK.out, (hE2.old kb HKB.out.lt).trans HCK.out⟩
              clear hok2 hE2 hC2
              go_wp2_with fail
              go_meet
              exact HX
            by_cases k2 : kd = 2
            · subst k2
              have HLA := Lib.hid (late_any HV3.out.tint HV3.out.core HV3.out.loc.ok)
              go_wp2_with fail
              refine HLA.out.mono ?_
              rintro e w4 ⟨⟨ev, rfl⟩, hok2, col2, hE2, hC2⟩
              have HX : Hid (ViewNext (n0 : Int) (m0 : Int) (r2 : Int) wB b c kb [.int .i64 vw, .int .i64 (p1 : Int), .int .i64 (q1 : Int)] w4) := ⟨col2, _, HV3.out.loc.keep_late, HV3.out.step hE2 hC2 HV3.out.loc.late (HV3.out.loc.keep_late.pv HV3.out.pv), vblk_ext HKB.out hE2 HCK.out, (hE2.old kb HKB.out.lt).trans HCK.out⟩
              clear hok2 hE2 hC2
              go_wp2_with fail
              go_meet
              exact HX
            have e0 : (kd == 0) = false := by simp; omega
            have e1 : (kd == 1) = false := by simp; omega
            have e2 : (kd == 2) = false := by simp; omega
            go_wp2_with fail
            go_meet
            exact ⟨col, c, Keep.refl c, HV3.out, HKB.out, HCK.out⟩
          case rest =>
            rename_i Kc hKc
            obtain ⟨col2, c2, hkeep, hV4, hkb, hck⟩ := hcut
            rename World => w4
            clear HV3 HVS3 HSS3 HKB HCK HWV b0 b1 b2 b3 b4 b5 b6 b7
            obtain ⟨vw2, hvw2⟩ : ∃ x, c2.view = x := ⟨_, rfl⟩
            obtain ⟨ok2, hok2⟩ : ∃ x, c2.decided = x := ⟨_, rfl⟩
            obtain ⟨bv2, hbv2⟩ : ∃ x, (if c2.decided then c2.value else []) = x := ⟨_, rfl⟩
            obtain ⟨p2, hp2⟩ : ∃ x, (c2.prepares.countP fun p => (lookM p.2 c2.me).isSome) = x := ⟨_, rfl⟩
            obtain ⟨q2, hq2⟩ : ∃ x, (c2.commits.countP fun p => (lookM p.2 c2.me).isSome) = x := ⟨_, rfl⟩
            have HGV2 : Hid (grownV c2 = .agg #[.int .i64 vw2, .int .i64 (p2 : Int), .int .i64 (q2 : Int)]) := by
              show grownV c2 = _
              unfold grownV
              rw [hvw2, hp2, hq2]
            have hle : vw ≤ vw2 := by rw [← HVW.out, ← hvw2]; exact hkeep.view
            have hdec : dn = true → ok2 = true ∧ bv2 = bv := fun e => by
              have h1 := HDN.out.trans e
              have h2 := hkeep.dec h1
              refine ⟨hok2.symm.trans h2.1, ?_⟩
              rw [← hbv2, ← HBVV.out, if_pos h2.1, if_pos h1, h2.2]
            have hsm : vw2 = vw → p2 = p1 → q2 = q1 → ok2 = dn → bytesC c2 = bs := fun e1 e2 e3 e4 => by
              rw [← HBS.out]
              refine grown_same HLOC.out hV4.loc hkeep ?_ (by rw [hok2, HDN.out, e4])
              unfold grownC
              rw [hvw2, hp2, hq2, HVW.out, HPQ.out.1, HPQ.out.2, e1, e2, e3]
            have HBD2 : Hid (0 ≤ vw2 ∧ vw2 ≤ 4294967295 ∧ p2 ≤ 1048577 ∧ q2 ≤ 1048577) := by rw [← hvw2, ← hp2, ← hq2]; exact hV4.loc.grown_in
            have HBD1 : Hid (0 ≤ vw ∧ vw ≤ 4294967295 ∧ p1 ≤ 1048577 ∧ q1 ≤ 1048577) := by rw [← HVW.out, ← HPQ.out.1, ← HPQ.out.2]; exact HLOC.out.grown_in
            have HDE := Lib.hid (decided_any hV4.tint hV4.core hV4.loc.ok)
            have HV4 := Lib.hid hV4
            have HKB4 := Lib.hid hkb
            have HVW2 := Lib.hid hvw2
            have HOK2 := Lib.hid hok2
            have HBV2 := Lib.hid hbv2
            have HSM := Lib.hid hsm
            have HDEC := Lib.hid hdec
            have HKEEP := Lib.hid hkeep
            have HC2 := Lib.hid (And.intro hp2 hq2)
            clear hkeep hV4 hkb hck hvw2 hok2 hbv2 hp2 hq2 hdec hsm
            refine hKc _ _ ?_
            go_wp2_with fail
            refine HDE.out.mono ?_
            rintro e w5 ⟨hb5, rv, rfl, hrb⟩
            rw [HOK2.out]
            rw [HBV2.out] at hrb
            obtain ⟨ra, rn, rc, rfl⟩ := RB.form hrb
            have HV5 := Lib.hid (HV4.out.moved hb5)
            have HRB := Lib.hid hrb
            have HKB5 := Lib.hid (HKB4.out.below hb5 HKB4.out.lt)
            clear hb5 hrb HV4 HKB4 HDE
            go_upto_region 23 with (fail)
            go_cut [106] (fun t106 wx => t106 = .bool false ∧ wx = w5)
            case first =>
              have hlt2 : decide (vw2 < vw) = false := decide_eq_false (by omega)
              have hst : (convert 29 9 (.slice ra rn rc)).run Try.prog w5 = .ok (.string (strB bv2)) w5 := rb_str HRB.out
              have HVI := Lib.hid (view_any HV5.out.core)
              cases dn with
              | false =>
                go_wp2_with fail
                refine HVI.out.mono ?_
                rintro e w6 ⟨rfl, rfl⟩
                rw [HVW2.out]
                go_wp2_with fail
                go_meet
                exact ⟨rfl, rfl⟩
              | true =>
                obtain ⟨hx1, hx2⟩ := HDEC.out rfl
                subst hx1 hx2
                go_wp2_with fail
                refine HVI.out.mono ?_
                rintro e w6 ⟨rfl, rfl⟩
                rw [HVW2.out]
                go_wp2_with fail
                go_meet
                exact ⟨rfl, rfl⟩
            case rest =>
              rename_i Kd hKd
              obtain ⟨rfl, rfl⟩ := hcut
              refine hKd _ _ ?_
              go_upto_region 25 with (fail)
              refine wp_region_mix (fun _ w' => BB wc w') (GF (tabV2 (.pointer (some ⟨b, 0, none⟩)) (.int .i64 vw2) (.slice ra rn rc) (.string (strB bv2)) (.bool ok2) (.int .i64 vw2) (.string (strB bv2)) (.bool ok2))) maskV2 dstV2 preV2 (by kernel_rfl) (by kernel_rfl) rfl (by kernel_rfl) (by kernel_rfl) (by kernel_rfl) (by kernel_rfl) (BB.drew (BB.refl _)) ?_ ?_
              · refine StepsM.cons (fun l g' wu hB hl hn hp K hK => ?_) ?_
                · simp only [mkM, maskV2, mixM, Nat.reduceAdd] at hK ⊢; simp only [Act.put, List.setIfInBounds_toArray, List.set_cons_zero, List.set_cons_succ] at hK; go_simp; exact hK.out _ _ hB GF.same rfl
                refine StepsM.cons (fun l g' wu hB hl hn hp K hK => ?_) ?_
                · have hbb := hB; have e0 : g' 107 = .pointer (some ⟨b, 0, none⟩) := (hp 0 (by decide)).2; simp only [mkM, maskV2, mixM, Nat.reduceAdd, e0] at hK ⊢; clear e0; simp only [Act.put, List.setIfInBounds_toArray, List.set_cons_zero, List.set_cons_succ] at hK; go_simp; go_at_call 22; refine (view_any (HV5.out.moved hbb).core).mono ?_; rintro e w7 ⟨rfl, rfl⟩; rw [HVW2.out]; go_wp2_with fail; exact hK.out _ _ hB GF.same rfl
                refine StepsM.cons (fun l g' wu hB hl hn hp K hK => ?_) ?_
                · simp only [mkM, maskV2, mixM, Nat.reduceAdd] at hK ⊢; simp only [Act.put, List.setIfInBounds_toArray, List.set_cons_zero, List.set_cons_succ] at hK; go_simp; exact hK.out _ _ hB GF.same rfl
                refine StepsM.cons (fun l g' wu hB hl hn hp K hK => ?_) ?_
                · have hbb := hB; have e2 : g' 109 = .slice ra rn rc := (hp 2 (by decide)).2; have hst : (convert 29 9 (.slice ra rn rc)).run Try.prog wu = .ok (.string (strB bv2)) wu := rb_str (HRB.out.below hbb); simp only [mkM, maskV2, mixM, Nat.reduceAdd, e2] at hK ⊢; clear e2; simp only [Act.put, List.setIfInBounds_toArray, List.set_cons_zero, List.set_cons_succ] at hK; go_simp; exact hK.out _ _ hB GF.same rfl
                refine StepsM.cons (fun l g' wu hB hl hn hp K hK => ?_) ?_
                · simp only [mkM, maskV2, mixM, Nat.reduceAdd] at hK ⊢; simp only [Act.put, List.setIfInBounds_toArray, List.set_cons_zero, List.set_cons_succ] at hK; go_simp; exact hK.out _ _ hB GF.same rfl
                refine StepsM.cons (fun l g' wu hB hl hn hp K hK => ?_) ?_
                · have e1 : g' 108 = .int .i64 vw2 := (hp 1 (by decide)).2; simp only [mkM, maskV2, mixM, Nat.reduceAdd, e1] at hK ⊢; clear e1; simp only [Act.put, List.setIfInBounds_toArray, List.set_cons_zero, List.set_cons_succ] at hK; go_simp; exact hK.out _ _ hB GF.same rfl
                refine StepsM.cons (fun l g' wu hB hl hn hp K hK => ?_) ?_
                · have e3 : g' 110 = .string (strB bv2) := (hp 3 (by decide)).2; simp only [mkM, maskV2, mixM, Nat.reduceAdd, e3] at hK ⊢; clear e3; simp only [Act.put, List.setIfInBounds_toArray, List.set_cons_zero, List.set_cons_succ] at hK; go_simp; exact hK.out _ _ hB GF.same rfl
                refine StepsM.cons (fun l g' wu hB hl hn hp K hK => ?_) ?_
                · have e4 : g' 111 = .bool ok2 := (hp 4 (by decide)).2; simp only [mkM, maskV2, mixM, Nat.reduceAdd, e4] at hK ⊢; clear e4; simp only [Act.put, List.setIfInBounds_toArray, List.set_cons_zero, List.set_cons_succ] at hK; go_simp; exact hK.out _ _ hB GF.same rfl
                exact StepsM.nil
              · intro l g' wu hall hB hG
                have e10 : g' 10 = .int .i64 vw2 := hG 5 (by decide)
                have e11 : g' 11 = .string (strB bv2) := hG 6 (by decide)
                have e12 : g' 12 = .bool ok2 := hG 7 (by decide)
                simp only [mkM, maskV2, mixM, Nat.reduceAdd, e10, e11, e12]
                have hb6 : Below wc.heap.size wc wu := hB
                have HV6 := Lib.hid (HV5.out.moved hb6)
                have HKB := Lib.hid (HKB5.out.below hb6 HKB5.out.lt)
                clear hG hall hB e10 e11 e12 hb6 HV5 HKB5 HRB
                go_upto_region 26 with (fail)
                go_cut [140] (fun t140 wx => t140 = .bool false ∧ Hid (Below wu.heap.size wu wx))
                case first =>
                  have hwf1 : (Lit.int .i64 vw2).wf = true := wf64_mk (by have := HBD2.out; omega) (by have := HBD2.out; omega)
                  have hwf2 : (Lit.int .i64 (p2 : Int)).wf = true := wf64_mk (by omega) (by have := HBD2.out; omega)
                  have hwf3 : (Lit.int .i64 (q2 : Int)).wf = true := wf64_mk (by omega) (by have := HBD2.out; omega)
                  have hwf4 : (Lit.int .i64 vw).wf = true := wf64_mk (by have := HBD1.out; omega) (by have := HBD1.out; omega)
                  have hwf5 : (Lit.int .i64 (p1 : Int)).wf = true := wf64_mk (by omega) (by have := HBD1.out; omega)
                  have hwf6 : (Lit.int .i64 (q1 : Int)).wf = true := wf64_mk (by omega) (by have := HBD1.out; omega)
                  by_cases heq : vw2 = vw ∧ p2 = p1 ∧ q2 = q1
                  · have hEQ : ∀ w1 : World, (Op.equal 35 (.agg #[.int .i64 vw2, .int .i64 (p2 : Int), .int .i64 (q2 : Int)]) (.agg #[.int .i64 vw, .int .i64 (p1 : Int), .int .i64 (q1 : Int)])).run Try.prog w1 = .ok true w1 := fun w1 => by
                      have h := arr_eq (a := vw2) (b := (p2 : Int)) (c := (q2 : Int)) (d := vw) (e := (p1 : Int)) (f := (q1 : Int)) w1 hwf1 hwf2 hwf3 hwf4 hwf5 hwf6
                      rw [decide_eq_true (by omega)] at h
                      exact h
                    have HEQ := Lib.hid hEQ
                    clear hEQ hwf1 hwf2 hwf3 hwf4 hwf5 hwf6
                    by_cases hod : ok2 = dn
                    · have HBS2 := Lib.hid (HSM.out heq.1 heq.2.1 heq.2.2 hod)
                      clear heq
                      subst hod
                      refine wp_region_mix (fun _ w' => BB wu w') (GF (tabV3 (.pointer none) (.agg #[.int .i64 0, .int .i64 0, .int .i64 0]) (.agg #[.int .i64 0, .int .i64 0, .int .i64 0]) (.bool false) (.bool false) (.pointer (some ⟨b, 0, none⟩)) (.agg #[.int .i64 vw2, .int .i64 (p2 : Int), .int .i64 (q2 : Int)]) (.int .i64 vw2) (.int .i64 vw2) (.bool false) (.bool false) (.bool false) (.pointer (some ⟨b, 0, none⟩)) (.agg #[.int .i64 vw2, .int .i64 (p2 : Int), .int .i64 (q2 : Int)]) (.agg #[.int .i64 vw, .int .i64 (p1 : Int), .int .i64 (q1 : Int)]) (.bool true) (.bool true) (.bool ok2) (.bool ok2) (.bool true) (.bool true) (.bool true) (.pointer (some ⟨b, 0, none⟩)) (Fk.rel (fun v w => RB w v bs) (fun _ _ _ hb h => h.below hb)) (.string (strB bs)) (.string (strB bs)) (.bool false) (.bool false) (.bool false))) maskV3 dstV3 preV3 (by kernel_rfl) (by kernel_rfl) rfl (by kernel_rfl) (by kernel_rfl) (by kernel_rfl) (by kernel_rfl) (BB.drew (BB.refl _)) ?_ ?_
                      · refine StepsM.cons (fun l g' wu hB hl hn hp K hK => ?_) ?_
                        · simp only [mkM, maskV3, mixM, Nat.reduceAdd] at hK ⊢; simp only [Act.put, List.setIfInBounds_toArray, List.set_cons_zero, List.set_cons_succ] at hK; go_simp; exact hK.out _ _ hB GF.same rfl
                        refine StepsM.cons (fun l g' wu hB hl hn hp K hK => ?_) ?_
                        · have hbb := hB; have e0 : g' 112 = .pointer none := (hp 0 (by decide)).2; simp only [mkM, maskV3, mixM, Nat.reduceAdd, e0] at hK ⊢; clear e0; simp only [Act.put, List.setIfInBounds_toArray, List.set_cons_zero, List.set_cons_succ] at hK; go_simp; go_at_call 17; refine (grown_nil wu).mono ?_; rintro e w7 ⟨rfl, hb⟩; go_wp2_with fail; exact hK.out _ _ (BB.step hbb hb) (GF.below hb) rfl
                        refine StepsM.cons (fun l g' wu hB hl hn hp K hK => ?_) ?_
                        · simp only [mkM, maskV3, mixM, Nat.reduceAdd] at hK ⊢; simp only [Act.put, List.setIfInBounds_toArray, List.set_cons_zero, List.set_cons_succ] at hK; go_simp; exact hK.out _ _ hB GF.same rfl
                        refine StepsM.cons (fun l g' wu hB hl hn hp K hK => ?_) ?_
                        · have e1 : g' 113 = .agg #[.int .i64 0, .int .i64 0, .int .i64 0] := (hp 1 (by decide)).2; have e2 : g' 114 = .agg #[.int .i64 0, .int .i64 0, .int .i64 0] := (hp 2 (by decide)).2; have haq : (Op.equalIn 10000 35 (.agg #[.int .i64 0, .int .i64 0, .int .i64 0]) (.agg #[.int .i64 0, .int .i64 0, .int .i64 0])).run Try.prog wu = .ok true wu := arr_zero wu; simp only [mkM, maskV3, mixM, Nat.reduceAdd, e1, e2] at hK ⊢; clear e1 e2; simp only [Act.put, List.setIfInBounds_toArray, List.set_cons_zero, List.set_cons_succ] at hK; go_simp; exact hK.out _ _ hB GF.same rfl
                        refine StepsM.cons (fun l g' wu hB hl hn hp K hK => ?_) ?_
                        · have e3 : g' 115 = .bool false := (hp 3 (by decide)).2; simp only [mkM, maskV3, mixM, Nat.reduceAdd, e3] at hK ⊢; clear e3; simp only [Act.put, List.setIfInBounds_toArray, List.set_cons_zero, List.set_cons_succ] at hK; go_simp; exact hK.out _ _ hB GF.same rfl
                        refine StepsM.cons (fun l g' wu hB hl hn hp K hK => ?_) ?_
                        · have e4 : g' 116 = .bool false := (hp 4 (by decide)).2; simp only [mkM, maskV3, mixM, Nat.reduceAdd, e4] at hK ⊢; clear e4; simp only [Act.put, List.setIfInBounds_toArray, List.set_cons_zero, List.set_cons_succ] at hK; go_simp; exact hK.out _ _ hB GF.same rfl
                        refine StepsM.cons (fun l g' wu hB hl hn hp K hK => ?_) ?_
                        · have hbb := hB; have e5 : g' 117 = .pointer (some ⟨b, 0, none⟩) := (hp 5 (by decide)).2; have e4 : g' 116 = .bool false := (hp 4 (by decide)).2; simp only [mkM, maskV3, mixM, Nat.reduceAdd, e5, e4] at hK ⊢; clear e5 e4; simp only [Act.put, List.setIfInBounds_toArray, List.set_cons_zero, List.set_cons_succ] at hK; go_simp; go_at_call 17; refine ((HV6.out.moved hbb).grown).mono ?_; rintro e w7 ⟨rfl, hb⟩; rw [HGV2.out]; go_wp2_with fail; exact hK.out _ _ (BB.step hbb hb) (GF.below hb) rfl
                        refine StepsM.cons (fun l g' wu hB hl hn hp K hK => ?_) ?_
                        · have e6 : g' 118 = .agg #[.int .i64 vw2, .int .i64 (p2 : Int), .int .i64 (q2 : Int)] := (hp 6 (by decide)).2; have e4 : g' 116 = .bool false := (hp 4 (by decide)).2; simp only [mkM, maskV3, mixM, Nat.reduceAdd, e6, e4] at hK ⊢; clear e6 e4; simp only [Act.put, List.setIfInBounds_toArray, List.set_cons_zero, List.set_cons_succ] at hK; go_simp; exact hK.out _ _ hB GF.same rfl
                        refine StepsM.cons (fun l g' wu hB hl hn hp K hK => ?_) ?_
                        · have e4 : g' 116 = .bool false := (hp 4 (by decide)).2; simp only [mkM, maskV3, mixM, Nat.reduceAdd, e4] at hK ⊢; clear e4; simp only [Act.put, List.setIfInBounds_toArray, List.set_cons_zero, List.set_cons_succ] at hK; go_simp; exact hK.out _ _ hB GF.same rfl
                        refine StepsM.cons (fun l g' wu hB hl hn hp K hK => ?_) ?_
                        · have e7 : g' 119 = .int .i64 vw2 := (hp 7 (by decide)).2; have e8 : g' 120 = .int .i64 vw2 := (hp 8 (by decide)).2; have e4 : g' 116 = .bool false := (hp 4 (by decide)).2; simp only [mkM, maskV3, mixM, Nat.reduceAdd, e7, e8, e4] at hK ⊢; clear e7 e8 e4; simp only [Act.put, List.setIfInBounds_toArray, List.set_cons_zero, List.set_cons_succ] at hK; go_simp; exact hK.out _ _ hB GF.same rfl
                        refine StepsM.cons (fun l g' wu hB hl hn hp K hK => ?_) ?_
                        · have e4 : g' 116 = .bool false := (hp 4 (by decide)).2; have e9 : g' 121 = .bool false := (hp 9 (by decide)).2; simp only [mkM, maskV3, mixM, Nat.reduceAdd, e4, e9] at hK ⊢; clear e4 e9; simp only [Act.put, List.setIfInBounds_toArray, List.set_cons_zero, List.set_cons_succ] at hK; go_simp; exact hK.out _ _ hB GF.same rfl
                        refine StepsM.cons (fun l g' wu hB hl hn hp K hK => ?_) ?_
                        · have e10 : g' 122 = .bool false := (hp 10 (by decide)).2; simp only [mkM, maskV3, mixM, Nat.reduceAdd, e10] at hK ⊢; clear e10; simp only [Act.put, List.setIfInBounds_toArray, List.set_cons_zero, List.set_cons_succ] at hK; go_simp; exact hK.out _ _ hB GF.same rfl
                        refine StepsM.cons (fun l g' wu hB hl hn hp K hK => ?_) ?_
                        · have e11 : g' 123 = .bool false := (hp 11 (by decide)).2; simp only [mkM, maskV3, mixM, Nat.reduceAdd, e11] at hK ⊢; clear e11; simp only [Act.put, List.setIfInBounds_toArray, List.set_cons_zero, List.set_cons_succ] at hK; go_simp; exact hK.out _ _ hB GF.same rfl
                        refine StepsM.cons (fun l g' wu hB hl hn hp K hK => ?_) ?_
                        · have hbb := hB; have e12 : g' 124 = .pointer (some ⟨b, 0, none⟩) := (hp 12 (by decide)).2; have e11 : g' 123 = .bool false := (hp 11 (by decide)).2; simp only [mkM, maskV3, mixM, Nat.reduceAdd, e12, e11] at hK ⊢; clear e12 e11; simp only [Act.put, List.setIfInBounds_toArray, List.set_cons_zero, List.set_cons_succ] at hK; go_simp; go_at_call 17; refine ((HV6.out.moved hbb).grown).mono ?_; rintro e w7 ⟨rfl, hb⟩; rw [HGV2.out]; go_wp2_with fail; exact hK.out _ _ (BB.step hbb hb) (GF.below hb) rfl
                        refine StepsM.cons (fun l g' wu hB hl hn hp K hK => ?_) ?_
                        · have hbb := hB; have e11 : g' 123 = .bool false := (hp 11 (by decide)).2; have hk := HKB.out.below hbb HKB.out.lt; have k0 := hk.cell 0; have k1 := hk.cell 1; have k2 := hk.cell 2; simp only [List.getElem?_cons_succ, List.getElem?_cons_zero] at k0 k1 k2; clear hk; simp only [mkM, maskV3, mixM, Nat.reduceAdd, e11] at hK ⊢; clear e11; simp only [Act.put, List.setIfInBounds_toArray, List.set_cons_zero, List.set_cons_succ] at hK; go_simp; exact hK.out _ _ hB GF.same rfl
                        refine StepsM.cons (fun l g' wu hB hl hn hp K hK => ?_) ?_
                        · have e13 : g' 125 = .agg #[.int .i64 vw2, .int .i64 (p2 : Int), .int .i64 (q2 : Int)] := (hp 13 (by decide)).2; have e14 : g' 126 = .agg #[.int .i64 vw, .int .i64 (p1 : Int), .int .i64 (q1 : Int)] := (hp 14 (by decide)).2; have e11 : g' 123 = .bool false := (hp 11 (by decide)).2; have haq : (Op.equalIn 10000 35 (.agg #[.int .i64 vw2, .int .i64 (p2 : Int), .int .i64 (q2 : Int)]) (.agg #[.int .i64 vw, .int .i64 (p1 : Int), .int .i64 (q1 : Int)])).run Try.prog wu = .ok true wu := HEQ.out wu; simp only [mkM, maskV3, mixM, Nat.reduceAdd, e13, e14, e11] at hK ⊢; clear e13 e14 e11; simp only [Act.put, List.setIfInBounds_toArray, List.set_cons_zero, List.set_cons_succ] at hK; go_simp; exact hK.out _ _ hB GF.same rfl
                        refine StepsM.cons (fun l g' wu hB hl hn hp K hK => ?_) ?_
                        · have e15 : g' 127 = .bool true := (hp 15 (by decide)).2; have e11 : g' 123 = .bool false := (hp 11 (by decide)).2; simp only [mkM, maskV3, mixM, Nat.reduceAdd, e15, e11] at hK ⊢; clear e15 e11; simp only [Act.put, List.setIfInBounds_toArray, List.set_cons_zero, List.set_cons_succ] at hK; go_simp; exact hK.out _ _ hB GF.same rfl
                        refine StepsM.cons (fun l g' wu hB hl hn hp K hK => ?_) ?_
                        · have e16 : g' 128 = .bool true := (hp 16 (by decide)).2; simp only [mkM, maskV3, mixM, Nat.reduceAdd, e16] at hK ⊢; clear e16; simp only [Act.put, List.setIfInBounds_toArray, List.set_cons_zero, List.set_cons_succ] at hK; go_simp; exact hK.out _ _ hB GF.same rfl
                        refine StepsM.cons (fun l g' wu hB hl hn hp K hK => ?_) ?_
                        · have e16 : g' 128 = .bool true := (hp 16 (by decide)).2; simp only [mkM, maskV3, mixM, Nat.reduceAdd, e16] at hK ⊢; clear e16; simp only [Act.put, List.setIfInBounds_toArray, List.set_cons_zero, List.set_cons_succ] at hK; go_simp; exact hK.out _ _ hB GF.same rfl
                        refine StepsM.cons (fun l g' wu hB hl hn hp K hK => ?_) ?_
                        · have e17 : g' 129 = .bool ok2 := (hp 17 (by decide)).2; have e18 : g' 130 = .bool ok2 := (hp 18 (by decide)).2; have e16 : g' 128 = .bool true := (hp 16 (by decide)).2; simp only [mkM, maskV3, mixM, Nat.reduceAdd, e17, e18, e16] at hK ⊢; clear e17 e18 e16; simp only [Act.put, List.setIfInBounds_toArray, List.set_cons_zero, List.set_cons_succ] at hK; go_simp; exact hK.out _ _ hB GF.same rfl
                        refine StepsM.cons (fun l g' wu hB hl hn hp K hK => ?_) ?_
                        · have e16 : g' 128 = .bool true := (hp 16 (by decide)).2; have e19 : g' 131 = .bool true := (hp 19 (by decide)).2; have e11 : g' 123 = .bool false := (hp 11 (by decide)).2; simp only [mkM, maskV3, mixM, Nat.reduceAdd, e16, e19, e11] at hK ⊢; clear e16 e19 e11; simp only [Act.put, List.setIfInBounds_toArray, List.set_cons_zero, List.set_cons_succ] at hK; go_simp; exact hK.out _ _ hB GF.same rfl
                        refine StepsM.cons (fun l g' wu hB hl hn hp K hK => ?_) ?_
                        · have e20 : g' 132 = .bool true := (hp 20 (by decide)).2; have e11 : g' 123 = .bool false := (hp 11 (by decide)).2; simp only [mkM, maskV3, mixM, Nat.reduceAdd, e20, e11] at hK ⊢; clear e20 e11; simp only [Act.put, List.setIfInBounds_toArray, List.set_cons_zero, List.set_cons_succ] at hK; go_simp; exact hK.out _ _ hB GF.same rfl
                        refine StepsM.cons (fun l g' wu hB hl hn hp K hK => ?_) ?_
                        · have e21 : g' 133 = .bool true := (hp 21 (by decide)).2; simp only [mkM, maskV3, mixM, Nat.reduceAdd, e21] at hK ⊢; clear e21; simp only [Act.put, List.setIfInBounds_toArray, List.set_cons_zero, List.set_cons_succ] at hK; go_simp; exact hK.out _ _ hB GF.same rfl
                        refine StepsM.cons (fun l g' wu hB hl hn hp K hK => ?_) ?_
                        · have hbb := hB; have e22 : g' 134 = .pointer (some ⟨b, 0, none⟩) := (hp 22 (by decide)).2; have e21 : g' 133 = .bool true := (hp 21 (by decide)).2; simp only [mkM, maskV3, mixM, Nat.reduceAdd, e22, e21] at hK ⊢; clear e22 e21; simp only [Act.put, List.setIfInBounds_toArray, List.set_cons_zero, List.set_cons_succ] at hK; go_simp; go_at_call 16; refine ((HV6.out.moved hbb).bytes).mono ?_; rintro e w7 ⟨z, rfl, hz, hb⟩; rw [HBS2.out] at hz; go_wp2_with fail; exact hK.out _ _ (BB.step hbb hb) (GF.below hb) hz
                        refine StepsM.cons (fun l g' wu hB hl hn hp K hK => ?_) ?_
                        · have h23 : RB wu (g' 135) bs := (hp 23 (by decide)).2; have e21 : g' 133 = .bool true := (hp 21 (by decide)).2; have hst := rb_str h23; simp only [mkM, maskV3, mixM, Nat.reduceAdd, e21] at hK ⊢; clear e21; simp only [Act.put, List.setIfInBounds_toArray, List.set_cons_zero, List.set_cons_succ] at hK; go_simp; exact hK.out _ _ hB GF.same rfl
                        refine StepsM.cons (fun l g' wu hB hl hn hp K hK => ?_) ?_
                        · have e21 : g' 133 = .bool true := (hp 21 (by decide)).2; simp only [mkM, maskV3, mixM, Nat.reduceAdd, e21] at hK ⊢; clear e21; simp only [Act.put, List.setIfInBounds_toArray, List.set_cons_zero, List.set_cons_succ] at hK; go_simp; exact hK.out _ _ hB GF.same rfl
                        refine StepsM.cons (fun l g' wu hB hl hn hp K hK => ?_) ?_
                        · have e24 : g' 136 = .string (strB bs) := (hp 24 (by decide)).2; have e25 : g' 137 = .string (strB bs) := (hp 25 (by decide)).2; have e21 : g' 133 = .bool true := (hp 21 (by decide)).2; simp only [mkM, maskV3, mixM, Nat.reduceAdd, e24, e25, e21] at hK ⊢; clear e24 e25 e21; simp only [Act.put, List.setIfInBounds_toArray, List.set_cons_zero, List.set_cons_succ] at hK; go_simp; exact hK.out _ _ hB GF.same rfl
                        refine StepsM.cons (fun l g' wu hB hl hn hp K hK => ?_) ?_
                        · have e21 : g' 133 = .bool true := (hp 21 (by decide)).2; have e26 : g' 138 = .bool false := (hp 26 (by decide)).2; have e11 : g' 123 = .bool false := (hp 11 (by decide)).2; simp only [mkM, maskV3, mixM, Nat.reduceAdd, e21, e26, e11] at hK ⊢; clear e21 e26 e11; simp only [Act.put, List.setIfInBounds_toArray, List.set_cons_zero, List.set_cons_succ] at hK; go_simp; exact hK.out _ _ hB GF.same rfl
                        refine StepsM.cons (fun l g' wu hB hl hn hp K hK => ?_) ?_
                        · have e11 : g' 123 = .bool false := (hp 11 (by decide)).2; have e27 : g' 139 = .bool false := (hp 27 (by decide)).2; simp only [mkM, maskV3, mixM, Nat.reduceAdd, e11, e27] at hK ⊢; clear e11 e27; simp only [Act.put, List.setIfInBounds_toArray, List.set_cons_zero, List.set_cons_succ] at hK; go_simp; exact hK.out _ _ hB GF.same rfl
                        exact StepsM.nil
                      · intro l g' wu hall hB hG
                        have e140 : g' 140 = .bool false := hG 28 (by decide)
                        simp only [mkM, maskV3, mixM, Nat.reduceAdd, e140]
                        go_wp2_with fail
                        go_meet
                        exact ⟨rfl, hB⟩
                    · have hod2 : (ok2 == dn) = false := by simpa using hod
                      clear heq
                      refine wp_region_mix (fun _ w' => BB wu w') (GF (tabV4 (.pointer none) (.agg #[.int .i64 0, .int .i64 0, .int .i64 0]) (.agg #[.int .i64 0, .int .i64 0, .int .i64 0]) (.bool false) (.bool false) (.pointer (some ⟨b, 0, none⟩)) (.agg #[.int .i64 vw2, .int .i64 (p2 : Int), .int .i64 (q2 : Int)]) (.int .i64 vw2) (.int .i64 vw2) (.bool false) (.bool false) (.bool false) (.pointer (some ⟨b, 0, none⟩)) (.agg #[.int .i64 vw2, .int .i64 (p2 : Int), .int .i64 (q2 : Int)]) (.agg #[.int .i64 vw, .int .i64 (p1 : Int), .int .i64 (q1 : Int)]) (.bool true) (.bool true) (.bool ok2) (.bool dn) (.bool false) (.bool false) (.bool false) (undef) (undef) (undef) (undef) (undef) (.bool false) (.bool false))) maskV4 dstV4 preV4 (by kernel_rfl) (by kernel_rfl) rfl (by kernel_rfl) (by kernel_rfl) (by kernel_rfl) (by kernel_rfl) (BB.drew (BB.refl _)) ?_ ?_
                      · refine StepsM.cons (fun l g' wu hB hl hn hp K hK => ?_) ?_
                        · simp only [mkM, maskV4, mixM, Nat.reduceAdd] at hK ⊢; simp only [Act.put, List.setIfInBounds_toArray, List.set_cons_zero, List.set_cons_succ] at hK; go_simp; exact hK.out _ _ hB GF.same rfl
                        refine StepsM.cons (fun l g' wu hB hl hn hp K hK => ?_) ?_
                        · have hbb := hB; have e0 : g' 112 = .pointer none := (hp 0 (by decide)).2; simp only [mkM, maskV4, mixM, Nat.reduceAdd, e0] at hK ⊢; clear e0; simp only [Act.put, List.setIfInBounds_toArray, List.set_cons_zero, List.set_cons_succ] at hK; go_simp; go_at_call 17; refine (grown_nil wu).mono ?_; rintro e w7 ⟨rfl, hb⟩; go_wp2_with fail; exact hK.out _ _ (BB.step hbb hb) (GF.below hb) rfl
                        refine StepsM.cons (fun l g' wu hB hl hn hp K hK => ?_) ?_
                        · simp only [mkM, maskV4, mixM, Nat.reduceAdd] at hK ⊢; simp only [Act.put, List.setIfInBounds_toArray, List.set_cons_zero, List.set_cons_succ] at hK; go_simp; exact hK.out _ _ hB GF.same rfl
                        refine StepsM.cons (fun l g' wu hB hl hn hp K hK => ?_) ?_
                        · have e1 : g' 113 = .agg #[.int .i64 0, .int .i64 0, .int .i64 0] := (hp 1 (by decide)).2; have e2 : g' 114 = .agg #[.int .i64 0, .int .i64 0, .int .i64 0] := (hp 2 (by decide)).2; have haq : (Op.equalIn 10000 35 (.agg #[.int .i64 0, .int .i64 0, .int .i64 0]) (.agg #[.int .i64 0, .int .i64 0, .int .i64 0])).run Try.prog wu = .ok true wu := arr_zero wu; simp only [mkM, maskV4, mixM, Nat.reduceAdd, e1, e2] at hK ⊢; clear e1 e2; simp only [Act.put, List.setIfInBounds_toArray, List.set_cons_zero, List.set_cons_succ] at hK; go_simp; exact hK.out _ _ hB GF.same rfl
                        refine StepsM.cons (fun l g' wu hB hl hn hp K hK => ?_) ?_
                        · have e3 : g' 115 = .bool false := (hp 3 (by decide)).2; simp only [mkM, maskV4, mixM, Nat.reduceAdd, e3] at hK ⊢; clear e3; simp only [Act.put, List.setIfInBounds_toArray, List.set_cons_zero, List.set_cons_succ] at hK; go_simp; exact hK.out _ _ hB GF.same rfl
                        refine StepsM.cons (fun l g' wu hB hl hn hp K hK => ?_) ?_
                        · have e4 : g' 116 = .bool false := (hp 4 (by decide)).2; simp only [mkM, maskV4, mixM, Nat.reduceAdd, e4] at hK ⊢; clear e4; simp only [Act.put, List.setIfInBounds_toArray, List.set_cons_zero, List.set_cons_succ] at hK; go_simp; exact hK.out _ _ hB GF.same rfl
                        refine StepsM.cons (fun l g' wu hB hl hn hp K hK => ?_) ?_
                        · have hbb := hB; have e5 : g' 117 = .pointer (some ⟨b, 0, none⟩) := (hp 5 (by decide)).2; have e4 : g' 116 = .bool false := (hp 4 (by decide)).2; simp only [mkM, maskV4, mixM, Nat.reduceAdd, e5, e4] at hK ⊢; clear e5 e4; simp only [Act.put, List.setIfInBounds_toArray, List.set_cons_zero, List.set_cons_succ] at hK; go_simp; go_at_call 17; refine ((HV6.out.moved hbb).grown).mono ?_; rintro e w7 ⟨rfl, hb⟩; rw [HGV2.out]; go_wp2_with fail; exact hK.out _ _ (BB.step hbb hb) (GF.below hb) rfl
                        refine StepsM.cons (fun l g' wu hB hl hn hp K hK => ?_) ?_
                        · have e6 : g' 118 = .agg #[.int .i64 vw2, .int .i64 (p2 : Int), .int .i64 (q2 : Int)] := (hp 6 (by decide)).2; have e4 : g' 116 = .bool false := (hp 4 (by decide)).2; simp only [mkM, maskV4, mixM, Nat.reduceAdd, e6, e4] at hK ⊢; clear e6 e4; simp only [Act.put, List.setIfInBounds_toArray, List.set_cons_zero, List.set_cons_succ] at hK; go_simp; exact hK.out _ _ hB GF.same rfl
                        refine StepsM.cons (fun l g' wu hB hl hn hp K hK => ?_) ?_
                        · have e4 : g' 116 = .bool false := (hp 4 (by decide)).2; simp only [mkM, maskV4, mixM, Nat.reduceAdd, e4] at hK ⊢; clear e4; simp only [Act.put, List.setIfInBounds_toArray, List.set_cons_zero, List.set_cons_succ] at hK; go_simp; exact hK.out _ _ hB GF.same rfl
                        refine StepsM.cons (fun l g' wu hB hl hn hp K hK => ?_) ?_
                        · have e7 : g' 119 = .int .i64 vw2 := (hp 7 (by decide)).2; have e8 : g' 120 = .int .i64 vw2 := (hp 8 (by decide)).2; have e4 : g' 116 = .bool false := (hp 4 (by decide)).2; simp only [mkM, maskV4, mixM, Nat.reduceAdd, e7, e8, e4] at hK ⊢; clear e7 e8 e4; simp only [Act.put, List.setIfInBounds_toArray, List.set_cons_zero, List.set_cons_succ] at hK; go_simp; exact hK.out _ _ hB GF.same rfl
                        refine StepsM.cons (fun l g' wu hB hl hn hp K hK => ?_) ?_
                        · have e4 : g' 116 = .bool false := (hp 4 (by decide)).2; have e9 : g' 121 = .bool false := (hp 9 (by decide)).2; simp only [mkM, maskV4, mixM, Nat.reduceAdd, e4, e9] at hK ⊢; clear e4 e9; simp only [Act.put, List.setIfInBounds_toArray, List.set_cons_zero, List.set_cons_succ] at hK; go_simp; exact hK.out _ _ hB GF.same rfl
                        refine StepsM.cons (fun l g' wu hB hl hn hp K hK => ?_) ?_
                        · have e10 : g' 122 = .bool false := (hp 10 (by decide)).2; simp only [mkM, maskV4, mixM, Nat.reduceAdd, e10] at hK ⊢; clear e10; simp only [Act.put, List.setIfInBounds_toArray, List.set_cons_zero, List.set_cons_succ] at hK; go_simp; exact hK.out _ _ hB GF.same rfl
                        refine StepsM.cons (fun l g' wu hB hl hn hp K hK => ?_) ?_
                        · have e11 : g' 123 = .bool false := (hp 11 (by decide)).2; simp only [mkM, maskV4, mixM, Nat.reduceAdd, e11] at hK ⊢; clear e11; simp only [Act.put, List.setIfInBounds_toArray, List.set_cons_zero, List.set_cons_succ] at hK; go_simp; exact hK.out _ _ hB GF.same rfl
                        refine StepsM.cons (fun l g' wu hB hl hn hp K hK => ?_) ?_
                        · have hbb := hB; have e12 : g' 124 = .pointer (some ⟨b, 0, none⟩) := (hp 12 (by decide)).2; have e11 : g' 123 = .bool false := (hp 11 (by decide)).2; simp only [mkM, maskV4, mixM, Nat.reduceAdd, e12, e11] at hK ⊢; clear e12 e11; simp only [Act.put, List.setIfInBounds_toArray, List.set_cons_zero, List.set_cons_succ] at hK; go_simp; go_at_call 17; refine ((HV6.out.moved hbb).grown).mono ?_; rintro e w7 ⟨rfl, hb⟩; rw [HGV2.out]; go_wp2_with fail; exact hK.out _ _ (BB.step hbb hb) (GF.below hb) rfl
                        refine StepsM.cons (fun l g' wu hB hl hn hp K hK => ?_) ?_
                        · have hbb := hB; have e11 : g' 123 = .bool false := (hp 11 (by decide)).2; have hk := HKB.out.below hbb HKB.out.lt; have k0 := hk.cell 0; have k1 := hk.cell 1; have k2 := hk.cell 2; simp only [List.getElem?_cons_succ, List.getElem?_cons_zero] at k0 k1 k2; clear hk; simp only [mkM, maskV4, mixM, Nat.reduceAdd, e11] at hK ⊢; clear e11; simp only [Act.put, List.setIfInBounds_toArray, List.set_cons_zero, List.set_cons_succ] at hK; go_simp; exact hK.out _ _ hB GF.same rfl
                        refine StepsM.cons (fun l g' wu hB hl hn hp K hK => ?_) ?_
                        · have e13 : g' 125 = .agg #[.int .i64 vw2, .int .i64 (p2 : Int), .int .i64 (q2 : Int)] := (hp 13 (by decide)).2; have e14 : g' 126 = .agg #[.int .i64 vw, .int .i64 (p1 : Int), .int .i64 (q1 : Int)] := (hp 14 (by decide)).2; have e11 : g' 123 = .bool false := (hp 11 (by decide)).2; have haq : (Op.equalIn 10000 35 (.agg #[.int .i64 vw2, .int .i64 (p2 : Int), .int .i64 (q2 : Int)]) (.agg #[.int .i64 vw, .int .i64 (p1 : Int), .int .i64 (q1 : Int)])).run Try.prog wu = .ok true wu := HEQ.out wu; simp only [mkM, maskV4, mixM, Nat.reduceAdd, e13, e14, e11] at hK ⊢; clear e13 e14 e11; simp only [Act.put, List.setIfInBounds_toArray, List.set_cons_zero, List.set_cons_succ] at hK; go_simp; exact hK.out _ _ hB GF.same rfl
                        refine StepsM.cons (fun l g' wu hB hl hn hp K hK => ?_) ?_
                        · have e15 : g' 127 = .bool true := (hp 15 (by decide)).2; have e11 : g' 123 = .bool false := (hp 11 (by decide)).2; simp only [mkM, maskV4, mixM, Nat.reduceAdd, e15, e11] at hK ⊢; clear e15 e11; simp only [Act.put, List.setIfInBounds_toArray, List.set_cons_zero, List.set_cons_succ] at hK; go_simp; exact hK.out _ _ hB GF.same rfl
                        refine StepsM.cons (fun l g' wu hB hl hn hp K hK => ?_) ?_
                        · have e16 : g' 128 = .bool true := (hp 16 (by decide)).2; simp only [mkM, maskV4, mixM, Nat.reduceAdd, e16] at hK ⊢; clear e16; simp only [Act.put, List.setIfInBounds_toArray, List.set_cons_zero, List.set_cons_succ] at hK; go_simp; exact hK.out _ _ hB GF.same rfl
                        refine StepsM.cons (fun l g' wu hB hl hn hp K hK => ?_) ?_
                        · have e16 : g' 128 = .bool true := (hp 16 (by decide)).2; simp only [mkM, maskV4, mixM, Nat.reduceAdd, e16] at hK ⊢; clear e16; simp only [Act.put, List.setIfInBounds_toArray, List.set_cons_zero, List.set_cons_succ] at hK; go_simp; exact hK.out _ _ hB GF.same rfl
                        refine StepsM.cons (fun l g' wu hB hl hn hp K hK => ?_) ?_
                        · have e17 : g' 129 = .bool ok2 := (hp 17 (by decide)).2; have e18 : g' 130 = .bool dn := (hp 18 (by decide)).2; have e16 : g' 128 = .bool true := (hp 16 (by decide)).2; simp only [mkM, maskV4, mixM, Nat.reduceAdd, e17, e18, e16] at hK ⊢; clear e17 e18 e16; simp only [Act.put, List.setIfInBounds_toArray, List.set_cons_zero, List.set_cons_succ] at hK; go_simp; exact hK.out _ _ hB GF.same rfl
                        refine StepsM.cons (fun l g' wu hB hl hn hp K hK => ?_) ?_
                        · have e16 : g' 128 = .bool true := (hp 16 (by decide)).2; have e19 : g' 131 = .bool false := (hp 19 (by decide)).2; have e11 : g' 123 = .bool false := (hp 11 (by decide)).2; simp only [mkM, maskV4, mixM, Nat.reduceAdd, e16, e19, e11] at hK ⊢; clear e16 e19 e11; simp only [Act.put, List.setIfInBounds_toArray, List.set_cons_zero, List.set_cons_succ] at hK; go_simp; exact hK.out _ _ hB GF.same rfl
                        refine StepsM.cons (fun l g' wu hB hl hn hp K hK => ?_) ?_
                        · have e20 : g' 132 = .bool false := (hp 20 (by decide)).2; have e11 : g' 123 = .bool false := (hp 11 (by decide)).2; simp only [mkM, maskV4, mixM, Nat.reduceAdd, e20, e11] at hK ⊢; clear e20 e11; simp only [Act.put, List.setIfInBounds_toArray, List.set_cons_zero, List.set_cons_succ] at hK; go_simp; exact hK.out _ _ hB GF.same rfl
                        refine StepsM.cons (fun l g' wu hB hl hn hp K hK => ?_) ?_
                        · have e21 : g' 133 = .bool false := (hp 21 (by decide)).2; simp only [mkM, maskV4, mixM, Nat.reduceAdd, e21] at hK ⊢; clear e21; simp only [Act.put, List.setIfInBounds_toArray, List.set_cons_zero, List.set_cons_succ] at hK; go_simp; exact hK.out _ _ hB GF.same rfl
                        refine StepsM.cons (fun l g' wu hB hl hn hp K hK => ?_) ?_
                        · have e21 : g' 133 = .bool false := (hp 21 (by decide)).2; simp only [mkM, maskV4, mixM, Nat.reduceAdd, e21] at hK ⊢; clear e21; simp only [Act.put, List.setIfInBounds_toArray, List.set_cons_zero, List.set_cons_succ] at hK; go_simp; exact hK.out _ _ hB GF.same rfl
                        refine StepsM.cons (fun l g' wu hB hl hn hp K hK => ?_) ?_
                        · have e21 : g' 133 = .bool false := (hp 21 (by decide)).2; simp only [mkM, maskV4, mixM, Nat.reduceAdd, e21] at hK ⊢; clear e21; simp only [Act.put, List.setIfInBounds_toArray, List.set_cons_zero, List.set_cons_succ] at hK; go_simp; exact hK.out _ _ hB GF.same rfl
                        refine StepsM.cons (fun l g' wu hB hl hn hp K hK => ?_) ?_
                        · have e21 : g' 133 = .bool false := (hp 21 (by decide)).2; simp only [mkM, maskV4, mixM, Nat.reduceAdd, e21] at hK ⊢; clear e21; simp only [Act.put, List.setIfInBounds_toArray, List.set_cons_zero, List.set_cons_succ] at hK; go_simp; exact hK.out _ _ hB GF.same rfl
                        refine StepsM.cons (fun l g' wu hB hl hn hp K hK => ?_) ?_
                        · have e21 : g' 133 = .bool false := (hp 21 (by decide)).2; simp only [mkM, maskV4, mixM, Nat.reduceAdd, e21] at hK ⊢; clear e21; simp only [Act.put, List.setIfInBounds_toArray, List.set_cons_zero, List.set_cons_succ] at hK; go_simp; exact hK.out _ _ hB GF.same rfl
                        refine StepsM.cons (fun l g' wu hB hl hn hp K hK => ?_) ?_
                        · have e21 : g' 133 = .bool false := (hp 21 (by decide)).2; have e11 : g' 123 = .bool false := (hp 11 (by decide)).2; simp only [mkM, maskV4, mixM, Nat.reduceAdd, e21, e11] at hK ⊢; clear e21 e11; simp only [Act.put, List.setIfInBounds_toArray, List.set_cons_zero, List.set_cons_succ] at hK; go_simp; exact hK.out _ _ hB GF.same rfl
                        refine StepsM.cons (fun l g' wu hB hl hn hp K hK => ?_) ?_
                        · have e11 : g' 123 = .bool false := (hp 11 (by decide)).2; have e27 : g' 139 = .bool false := (hp 27 (by decide)).2; simp only [mkM, maskV4, mixM, Nat.reduceAdd, e11, e27] at hK ⊢; clear e11 e27; simp only [Act.put, List.setIfInBounds_toArray, List.set_cons_zero, List.set_cons_succ] at hK; go_simp; exact hK.out _ _ hB GF.same rfl
                        exact StepsM.nil
                      · intro l g' wu hall hB hG
                        have e140 : g' 140 = .bool false := hG 28 (by decide)
                        simp only [mkM, maskV4, mixM, Nat.reduceAdd, e140]
                        go_wp2_with fail
                        go_meet
                        exact ⟨rfl, hB⟩
                  · have hEQ : ∀ w1 : World, (Op.equal 35 (.agg #[.int .i64 vw2, .int .i64 (p2 : Int), .int .i64 (q2 : Int)]) (.agg #[.int .i64 vw, .int .i64 (p1 : Int), .int .i64 (q1 : Int)])).run Try.prog w1 = .ok false w1 := fun w1 => by
                      have h := arr_eq (a := vw2) (b := (p2 : Int)) (c := (q2 : Int)) (d := vw) (e := (p1 : Int)) (f := (q1 : Int)) w1 hwf1 hwf2 hwf3 hwf4 hwf5 hwf6
                      rw [decide_eq_false (by omega)] at h
                      exact h
                    have HEQ := Lib.hid hEQ
                    clear hEQ heq hwf1 hwf2 hwf3 hwf4 hwf5 hwf6
                    refine wp_region_mix (fun _ w' => BB wu w') (GF (tabV5 (.pointer none) (.agg #[.int .i64 0, .int .i64 0, .int .i64 0]) (.agg #[.int .i64 0, .int .i64 0, .int .i64 0]) (.bool false) (.bool false) (.pointer (some ⟨b, 0, none⟩)) (.agg #[.int .i64 vw2, .int .i64 (p2 : Int), .int .i64 (q2 : Int)]) (.int .i64 vw2) (.int .i64 vw2) (.bool false) (.bool false) (.bool false) (.pointer (some ⟨b, 0, none⟩)) (.agg #[.int .i64 vw2, .int .i64 (p2 : Int), .int .i64 (q2 : Int)]) (.agg #[.int .i64 vw, .int .i64 (p1 : Int), .int .i64 (q1 : Int)]) (.bool false) (.bool false) (undef) (undef) (undef) (.bool false) (.bool false) (undef) (undef) (undef) (undef) (undef) (.bool false) (.bool false))) maskV5 dstV5 preV5 (by kernel_rfl) (by kernel_rfl) rfl (by kernel_rfl) (by kernel_rfl) (by kernel_rfl) (by kernel_rfl) (BB.drew (BB.refl _)) ?_ ?_
                    · refine StepsM.cons (fun l g' wu hB hl hn hp K hK => ?_) ?_
                      · simp only [mkM, maskV5, mixM, Nat.reduceAdd] at hK ⊢; simp only [Act.put, List.setIfInBounds_toArray, List.set_cons_zero, List.set_cons_succ] at hK; go_simp; exact hK.out _ _ hB GF.same rfl
                      refine StepsM.cons (fun l g' wu hB hl hn hp K hK => ?_) ?_
                      · have hbb := hB; have e0 : g' 112 = .pointer none := (hp 0 (by decide)).2; simp only [mkM, maskV5, mixM, Nat.reduceAdd, e0] at hK ⊢; clear e0; simp only [Act.put, List.setIfInBounds_toArray, List.set_cons_zero, List.set_cons_succ] at hK; go_simp; go_at_call 17; refine (grown_nil wu).mono ?_; rintro e w7 ⟨rfl, hb⟩; go_wp2_with fail; exact hK.out _ _ (BB.step hbb hb) (GF.below hb) rfl
                      refine StepsM.cons (fun l g' wu hB hl hn hp K hK => ?_) ?_
                      · simp only [mkM, maskV5, mixM, Nat.reduceAdd] at hK ⊢; simp only [Act.put, List.setIfInBounds_toArray, List.set_cons_zero, List.set_cons_succ] at hK; go_simp; exact hK.out _ _ hB GF.same rfl
                      refine StepsM.cons (fun l g' wu hB hl hn hp K hK => ?_) ?_
                      · have e1 : g' 113 = .agg #[.int .i64 0, .int .i64 0, .int .i64 0] := (hp 1 (by decide)).2; have e2 : g' 114 = .agg #[.int .i64 0, .int .i64 0, .int .i64 0] := (hp 2 (by decide)).2; have haq : (Op.equalIn 10000 35 (.agg #[.int .i64 0, .int .i64 0, .int .i64 0]) (.agg #[.int .i64 0, .int .i64 0, .int .i64 0])).run Try.prog wu = .ok true wu := arr_zero wu; simp only [mkM, maskV5, mixM, Nat.reduceAdd, e1, e2] at hK ⊢; clear e1 e2; simp only [Act.put, List.setIfInBounds_toArray, List.set_cons_zero, List.set_cons_succ] at hK; go_simp; exact hK.out _ _ hB GF.same rfl
                      refine StepsM.cons (fun l g' wu hB hl hn hp K hK => ?_) ?_
                      · have e3 : g' 115 = .bool false := (hp 3 (by decide)).2; simp only [mkM, maskV5, mixM, Nat.reduceAdd, e3] at hK ⊢; clear e3; simp only [Act.put, List.setIfInBounds_toArray, List.set_cons_zero, List.set_cons_succ] at hK; go_simp; exact hK.out _ _ hB GF.same rfl
                      refine StepsM.cons (fun l g' wu hB hl hn hp K hK => ?_) ?_
                      · have e4 : g' 116 = .bool false := (hp 4 (by decide)).2; simp only [mkM, maskV5, mixM, Nat.reduceAdd, e4] at hK ⊢; clear e4; simp only [Act.put, List.setIfInBounds_toArray, List.set_cons_zero, List.set_cons_succ] at hK; go_simp; exact hK.out _ _ hB GF.same rfl
                      refine StepsM.cons (fun l g' wu hB hl hn hp K hK => ?_) ?_
                      · have hbb := hB; have e5 : g' 117 = .pointer (some ⟨b, 0, none⟩) := (hp 5 (by decide)).2; have e4 : g' 116 = .bool false := (hp 4 (by decide)).2; simp only [mkM, maskV5, mixM, Nat.reduceAdd, e5, e4] at hK ⊢; clear e5 e4; simp only [Act.put, List.setIfInBounds_toArray, List.set_cons_zero, List.set_cons_succ] at hK; go_simp; go_at_call 17; refine ((HV6.out.moved hbb).grown).mono ?_; rintro e w7 ⟨rfl, hb⟩; rw [HGV2.out]; go_wp2_with fail; exact hK.out _ _ (BB.step hbb hb) (GF.below hb) rfl
                      refine StepsM.cons (fun l g' wu hB hl hn hp K hK => ?_) ?_
                      · have e6 : g' 118 = .agg #[.int .i64 vw2, .int .i64 (p2 : Int), .int .i64 (q2 : Int)] := (hp 6 (by decide)).2; have e4 : g' 116 = .bool false := (hp 4 (by decide)).2; simp only [mkM, maskV5, mixM, Nat.reduceAdd, e6, e4] at hK ⊢; clear e6 e4; simp only [Act.put, List.setIfInBounds_toArray, List.set_cons_zero, List.set_cons_succ] at hK; go_simp; exact hK.out _ _ hB GF.same rfl
                      refine StepsM.cons (fun l g' wu hB hl hn hp K hK => ?_) ?_
                      · have e4 : g' 116 = .bool false := (hp 4 (by decide)).2; simp only [mkM, maskV5, mixM, Nat.reduceAdd, e4] at hK ⊢; clear e4; simp only [Act.put, List.setIfInBounds_toArray, List.set_cons_zero, List.set_cons_succ] at hK; go_simp; exact hK.out _ _ hB GF.same rfl
                      refine StepsM.cons (fun l g' wu hB hl hn hp K hK => ?_) ?_
                      · have e7 : g' 119 = .int .i64 vw2 := (hp 7 (by decide)).2; have e8 : g' 120 = .int .i64 vw2 := (hp 8 (by decide)).2; have e4 : g' 116 = .bool false := (hp 4 (by decide)).2; simp only [mkM, maskV5, mixM, Nat.reduceAdd, e7, e8, e4] at hK ⊢; clear e7 e8 e4; simp only [Act.put, List.setIfInBounds_toArray, List.set_cons_zero, List.set_cons_succ] at hK; go_simp; exact hK.out _ _ hB GF.same rfl
                      refine StepsM.cons (fun l g' wu hB hl hn hp K hK => ?_) ?_
                      · have e4 : g' 116 = .bool false := (hp 4 (by decide)).2; have e9 : g' 121 = .bool false := (hp 9 (by decide)).2; simp only [mkM, maskV5, mixM, Nat.reduceAdd, e4, e9] at hK ⊢; clear e4 e9; simp only [Act.put, List.setIfInBounds_toArray, List.set_cons_zero, List.set_cons_succ] at hK; go_simp; exact hK.out _ _ hB GF.same rfl
                      refine StepsM.cons (fun l g' wu hB hl hn hp K hK => ?_) ?_
                      · have e10 : g' 122 = .bool false := (hp 10 (by decide)).2; simp only [mkM, maskV5, mixM, Nat.reduceAdd, e10] at hK ⊢; clear e10; simp only [Act.put, List.setIfInBounds_toArray, List.set_cons_zero, List.set_cons_succ] at hK; go_simp; exact hK.out _ _ hB GF.same rfl
                      refine StepsM.cons (fun l g' wu hB hl hn hp K hK => ?_) ?_
                      · have e11 : g' 123 = .bool false := (hp 11 (by decide)).2; simp only [mkM, maskV5, mixM, Nat.reduceAdd, e11] at hK ⊢; clear e11; simp only [Act.put, List.setIfInBounds_toArray, List.set_cons_zero, List.set_cons_succ] at hK; go_simp; exact hK.out _ _ hB GF.same rfl
                      refine StepsM.cons (fun l g' wu hB hl hn hp K hK => ?_) ?_
                      · have hbb := hB; have e12 : g' 124 = .pointer (some ⟨b, 0, none⟩) := (hp 12 (by decide)).2; have e11 : g' 123 = .bool false := (hp 11 (by decide)).2; simp only [mkM, maskV5, mixM, Nat.reduceAdd, e12, e11] at hK ⊢; clear e12 e11; simp only [Act.put, List.setIfInBounds_toArray, List.set_cons_zero, List.set_cons_succ] at hK; go_simp; go_at_call 17; refine ((HV6.out.moved hbb).grown).mono ?_; rintro e w7 ⟨rfl, hb⟩; rw [HGV2.out]; go_wp2_with fail; exact hK.out _ _ (BB.step hbb hb) (GF.below hb) rfl
                      refine StepsM.cons (fun l g' wu hB hl hn hp K hK => ?_) ?_
                      · have hbb := hB; have e11 : g' 123 = .bool false := (hp 11 (by decide)).2; have hk := HKB.out.below hbb HKB.out.lt; have k0 := hk.cell 0; have k1 := hk.cell 1; have k2 := hk.cell 2; simp only [List.getElem?_cons_succ, List.getElem?_cons_zero] at k0 k1 k2; clear hk; simp only [mkM, maskV5, mixM, Nat.reduceAdd, e11] at hK ⊢; clear e11; simp only [Act.put, List.setIfInBounds_toArray, List.set_cons_zero, List.set_cons_succ] at hK; go_simp; exact hK.out _ _ hB GF.same rfl
                      refine StepsM.cons (fun l g' wu hB hl hn hp K hK => ?_) ?_
                      · have e13 : g' 125 = .agg #[.int .i64 vw2, .int .i64 (p2 : Int), .int .i64 (q2 : Int)] := (hp 13 (by decide)).2; have e14 : g' 126 = .agg #[.int .i64 vw, .int .i64 (p1 : Int), .int .i64 (q1 : Int)] := (hp 14 (by decide)).2; have e11 : g' 123 = .bool false := (hp 11 (by decide)).2; have haq : (Op.equalIn 10000 35 (.agg #[.int .i64 vw2, .int .i64 (p2 : Int), .int .i64 (q2 : Int)]) (.agg #[.int .i64 vw, .int .i64 (p1 : Int), .int .i64 (q1 : Int)])).run Try.prog wu = .ok false wu := HEQ.out wu; simp only [mkM, maskV5, mixM, Nat.reduceAdd, e13, e14, e11] at hK ⊢; clear e13 e14 e11; simp only [Act.put, List.setIfInBounds_toArray, List.set_cons_zero, List.set_cons_succ] at hK; go_simp; exact hK.out _ _ hB GF.same rfl
                      refine StepsM.cons (fun l g' wu hB hl hn hp K hK => ?_) ?_
                      · have e15 : g' 127 = .bool false := (hp 15 (by decide)).2; have e11 : g' 123 = .bool false := (hp 11 (by decide)).2; simp only [mkM, maskV5, mixM, Nat.reduceAdd, e15, e11] at hK ⊢; clear e15 e11; simp only [Act.put, List.setIfInBounds_toArray, List.set_cons_zero, List.set_cons_succ] at hK; go_simp; exact hK.out _ _ hB GF.same rfl
                      refine StepsM.cons (fun l g' wu hB hl hn hp K hK => ?_) ?_
                      · have e16 : g' 128 = .bool false := (hp 16 (by decide)).2; simp only [mkM, maskV5, mixM, Nat.reduceAdd, e16] at hK ⊢; clear e16; simp only [Act.put, List.setIfInBounds_toArray, List.set_cons_zero, List.set_cons_succ] at hK; go_simp; exact hK.out _ _ hB GF.same rfl
                      refine StepsM.cons (fun l g' wu hB hl hn hp K hK => ?_) ?_
                      · have e16 : g' 128 = .bool false := (hp 16 (by decide)).2; simp only [mkM, maskV5, mixM, Nat.reduceAdd, e16] at hK ⊢; clear e16; simp only [Act.put, List.setIfInBounds_toArray, List.set_cons_zero, List.set_cons_succ] at hK; go_simp; exact hK.out _ _ hB GF.same rfl
                      refine StepsM.cons (fun l g' wu hB hl hn hp K hK => ?_) ?_
                      · have e16 : g' 128 = .bool false := (hp 16 (by decide)).2; simp only [mkM, maskV5, mixM, Nat.reduceAdd, e16] at hK ⊢; clear e16; simp only [Act.put, List.setIfInBounds_toArray, List.set_cons_zero, List.set_cons_succ] at hK; go_simp; exact hK.out _ _ hB GF.same rfl
                      refine StepsM.cons (fun l g' wu hB hl hn hp K hK => ?_) ?_
                      · have e16 : g' 128 = .bool false := (hp 16 (by decide)).2; have e11 : g' 123 = .bool false := (hp 11 (by decide)).2; simp only [mkM, maskV5, mixM, Nat.reduceAdd, e16, e11] at hK ⊢; clear e16 e11; simp only [Act.put, List.setIfInBounds_toArray, List.set_cons_zero, List.set_cons_succ] at hK; go_simp; exact hK.out _ _ hB GF.same rfl
                      refine StepsM.cons (fun l g' wu hB hl hn hp K hK => ?_) ?_
                      · have e20 : g' 132 = .bool false := (hp 20 (by decide)).2; have e11 : g' 123 = .bool false := (hp 11 (by decide)).2; simp only [mkM, maskV5, mixM, Nat.reduceAdd, e20, e11] at hK ⊢; clear e20 e11; simp only [Act.put, List.setIfInBounds_toArray, List.set_cons_zero, List.set_cons_succ] at hK; go_simp; exact hK.out _ _ hB GF.same rfl
                      refine StepsM.cons (fun l g' wu hB hl hn hp K hK => ?_) ?_
                      · have e21 : g' 133 = .bool false := (hp 21 (by decide)).2; simp only [mkM, maskV5, mixM, Nat.reduceAdd, e21] at hK ⊢; clear e21; simp only [Act.put, List.setIfInBounds_toArray, List.set_cons_zero, List.set_cons_succ] at hK; go_simp; exact hK.out _ _ hB GF.same rfl
                      refine StepsM.cons (fun l g' wu hB hl hn hp K hK => ?_) ?_
                      · have e21 : g' 133 = .bool false := (hp 21 (by decide)).2; simp only [mkM, maskV5, mixM, Nat.reduceAdd, e21] at hK ⊢; clear e21; simp only [Act.put, List.setIfInBounds_toArray, List.set_cons_zero, List.set_cons_succ] at hK; go_simp; exact hK.out _ _ hB GF.same rfl
                      refine StepsM.cons (fun l g' wu hB hl hn hp K hK => ?_) ?_
                      · have e21 : g' 133 = .bool false := (hp 21 (by decide)).2; simp only [mkM, maskV5, mixM, Nat.reduceAdd, e21] at hK ⊢; clear e21; simp only [Act.put, List.setIfInBounds_toArray, List.set_cons_zero, List.set_cons_succ] at hK; go_simp; exact hK.out _ _ hB GF.same rfl
                      refine StepsM.cons (fun l g' wu hB hl hn hp K hK => ?_) ?_
                      · have e21 : g' 133 = .bool false := (hp 21 (by decide)).2; simp only [mkM, maskV5, mixM, Nat.reduceAdd, e21] at hK ⊢; clear e21; simp only [Act.put, List.setIfInBounds_toArray, List.set_cons_zero, List.set_cons_succ] at hK; go_simp; exact hK.out _ _ hB GF.same rfl
                      refine StepsM.cons (fun l g' wu hB hl hn hp K hK => ?_) ?_
                      · have e21 : g' 133 = .bool false := (hp 21 (by decide)).2; simp only [mkM, maskV5, mixM, Nat.reduceAdd, e21] at hK ⊢; clear e21; simp only [Act.put, List.setIfInBounds_toArray, List.set_cons_zero, List.set_cons_succ] at hK; go_simp; exact hK.out _ _ hB GF.same rfl
                      refine StepsM.cons (fun l g' wu hB hl hn hp K hK => ?_) ?_
                      · have e21 : g' 133 = .bool false := (hp 21 (by decide)).2; have e11 : g' 123 = .bool false := (hp 11 (by decide)).2; simp only [mkM, maskV5, mixM, Nat.reduceAdd, e21, e11] at hK ⊢; clear e21 e11; simp only [Act.put, List.setIfInBounds_toArray, List.set_cons_zero, List.set_cons_succ] at hK; go_simp; exact hK.out _ _ hB GF.same rfl
                      refine StepsM.cons (fun l g' wu hB hl hn hp K hK => ?_) ?_
                      · have e11 : g' 123 = .bool false := (hp 11 (by decide)).2; have e27 : g' 139 = .bool false := (hp 27 (by decide)).2; simp only [mkM, maskV5, mixM, Nat.reduceAdd, e11, e27] at hK ⊢; clear e11 e27; simp only [Act.put, List.setIfInBounds_toArray, List.set_cons_zero, List.set_cons_succ] at hK; go_simp; exact hK.out _ _ hB GF.same rfl
                      exact StepsM.nil
                    · intro l g' wu hall hB hG
                      have e140 : g' 140 = .bool false := hG 28 (by decide)
                      simp only [mkM, maskV5, mixM, Nat.reduceAdd, e140]
                      go_wp2_with fail
                      go_meet
                      exact ⟨rfl, hB⟩
                case rest =>
                  rename_i Ke hKe
                  obtain ⟨rfl, HB7⟩ := hcut
                  rename World => w7
                  have HV7 := Lib.hid (HV6.out.moved HB7.out)
                  clear HB7 HKB HSM HDEC HC2 HPQ HGV2
                  have HSY := Lib.hid (says_any HV7.out.tint HV7.out.core HV7.out.loc.ok)
                  have HSL := Lib.hid (says_len HV7.out.loc.ok HV7.out.loc.srt)
                  refine hKe _ _ ?_
                  go_wp2_with fail
                  refine HSY.out.mono ?_
                  rintro e w8 ⟨rv, rfl, hrow⟩
                  have hb8 : Below w7.heap.size w7 w8 := hrow.below
                  have HTO := Lib.hid (Told.of hrow HV7.out.tint)
                  obtain ⟨ta, tc, rfl, htc⟩ := HTO.out.form
                  obtain ⟨N, hN⟩ : ∃ N, (Sac.says c2).length = N := ⟨_, rfl⟩
                  rw [hN] at HTO htc HSL
                  rw [hN]
                  have hNl : N ≤ 30000000000 := HSL.out
                  have HN := Lib.hid hN
                  have HV8 := Lib.hid (HV7.out.moved hb8)
                  clear hrow hb8 hN HSY HV7
                  go_wp2_with fail
                  go_loopw [144] (fun u wx => ∃ j : Nat, j ≤ N ∧ u = .int .i64 (j : Int) ∧ Hid (Below w8.heap.size w8 wx)) (fun u _ => N - (intOf u).toNat)
                  case atStart => exact ⟨0, Nat.zero_le _, rfl, Below.refl _ _⟩
                  case round =>
                    obtain ⟨j, hj, rfl, HJ⟩ := hrel
                    rename World => wx
                    by_cases hltj : (j : Int) < (N : Int)
                    · have hz2 : IntKind.i64.wrap ((j : Int) + 1) = (j : Int) + 1 := by rw [IntKind.wrap_i64]; omega
                      have hTx := Told.ext HTO.out (Ext.below (G := fun _ => False) HV8.out.tint HJ.out) HV8.out.tint
                      obtain ⟨g', cap', p, hv', hvi, hcs, hrb⟩ := hTx.at_ (i := j) (by rw [HN.out]; omega)
                      rw [HN.out] at hv'
                      injection hv' with e1 e2 e3
                      subst e1 e3
                      clear e2
                      obtain ⟨⟨qk, qf, qs, qv, qd, ql⟩, ya, yn, yc⟩ := p
                      have v0 : wx.cell? ⟨g', j * 6, none⟩ = some (.int .i64 qk) := hcs 0 (by omega)
                      have v1 : wx.cell? ⟨g', j * 6 + 1, none⟩ = some (.int .i64 qf) := hcs 1 (by omega)
                      have v2 : wx.cell? ⟨g', j * 6 + 2, none⟩ = some (.int .i64 qs) := hcs 2 (by omega)
                      have v3 : wx.cell? ⟨g', j * 6 + 3, none⟩ = some (.int .i64 qv) := hcs 3 (by omega)
                      have v4 : wx.cell? ⟨g', j * 6 + 4, none⟩ = some (.int .i64 qd) := hcs 4 (by omega)
                      have v5 : wx.cell? ⟨g', j * 6 + 5, none⟩ = some (.slice ya yn yc) := hcs 5 (by omega)
                      have hmem : (⟨qk, qf, qs, qv, qd, ql⟩ : Vt) ∈ Sac.says c2 := List.mem_of_getElem? hvi
                      obtain ⟨h1, h2, h3, h4⟩ := HV8.out.loc.says_own HV8.out.pv hmem
                      have h1 : qf = (m0 : Int) := h1
                      have h2 : qs = (r2 : Int) := h2
                      have h3 : qv ≤ vw2 := by rw [← HVW2.out]; exact h3
                      subst h1 h2
                      have hwfv := says_wf HV8.out.loc.ok hmem
                      have HRQ := Lib.hid hrb
                      have HWQ := Lib.hid hwfv
                      have HEN := Lib.hid h4
                      clear hcs hmem hvi hrb hTx hwfv h4
                      have hd3 : decide (vw2 < qv) = false := decide_eq_false (by omega)
                      go_upto_region 31 with (fail)
                      obtain ⟨W9, hW9⟩ : ∃ W9, wx.alloc (.cells #[.int .i64 qk, .int .i64 (m0 : Int), .int .i64 (r2 : Int), .int .i64 qv, .int .i64 qd, .slice ya yn yc] 31) = W9 := ⟨_, rfl⟩
                      have hbV : Below wx.heap.size wx W9 := hW9 ▸ (Below.refl _ wx).alloc (Nat.le_refl _) _
                      have hkV : Blk W9 wx.heap.size 31 [.int .i64 qk, .int .i64 (m0 : Int), .int .i64 (r2 : Int), .int .i64 qv, .int .i64 qd, .slice ya yn yc] := hW9 ▸ Blk.new wx _ _
                      obtain ⟨vb, hvb⟩ : ∃ x, wx.heap.size = x := ⟨_, rfl⟩
                      rw [hW9, hvb]
                      have HEC := Lib.hid (encodeVote_any (⟨qk, (m0 : Int), (r2 : Int), qv, qd, ql⟩ : Vt) (.slice ya yn yc) W9 HWQ.out (IB.below HRQ.out.ib hbV))
                      have HB9 := Lib.hid (HJ.out.trans (hbV.mono HJ.out.size))
                      rw [hvb] at hkV
                      rw [HEN.out] at HEC
                      clear hW9 hvb v0 v1 v2 v3 v4 v5 hbV HRQ HWQ HJ
                      have v0 := hkV.cell 0
                      have v1 := hkV.cell 1
                      have v2 := hkV.cell 2
                      have v3 := hkV.cell 3
                      have v4 := hkV.cell 4
                      have v5 := hkV.cell 5
                      simp only [List.getElem?_cons_succ, List.getElem?_cons_zero] at v0 v1 v2 v3 v4 v5
                      clear hkV
                      go_wp2_with fail
                      refine HEC.out.mono ?_
                      rintro e w10 ⟨⟨xe, rfl⟩, hb10⟩
                      have HB10 := Lib.hid (HB9.out.trans (hb10.mono HB9.out.size))
                      clear hb10
                      go_wp2_with fail
                      go_roundw
                      case rel => exact ⟨j + 1, by omega, by push_cast; rfl, HB10⟩
                      case measure => simp [intOf]; omega
                    · obtain rfl : N = j := by omega
                      have HX : Hid (ViewLoop (n0 : Int) (m0 : Int) (r2 : Int) wB b c2 wx) := ⟨col2, HV8.out.moved HJ.out⟩
                      go_wp2_with fail
                      go_roundw
                      case rel => exact ⟨i + 1, c2, by omega, by push_cast; rfl, by rw [HVW2.out], by rw [HBV2.out], by rw [HOK2.out], HX⟩
                      case measure => simp [intOf]; omega
      · obtain rfl : i = len3 := by omega
        go_wp2_with fail
        go_ret
        obtain ⟨col, hV⟩ := HB.out
        exact ⟨rfl, HEND.out _ hV.fresh.below⟩
end Go.Proofs.Ytilhdelijdkjpaa
