/-
  The law QueueFull: its walk.
-/
import Derived.Test.YtdbpcogbednokaaLv
namespace Go.Proofs.Ytdbpcogbednokaa
open Go.RowKit

theorem ins_same (d x : Int) (S : List (Int × Int)) (h : ∀ e ∈ S, e.1 ≤ d) : ins d x S = S ++ [(d, x)] := by
  induction S with
  | nil => rfl
  | cons e r ih =>
    unfold ins
    rw [if_pos (h e (by simp)), ih fun c hc => h c (by simp [hc])]
    rfl

/-- k things of one tick, 0 to k - 1. -/
def run (d : Int) (k : Nat) : List (Int × Int) := (List.range k).map fun i : Nat => (d, (i : Int))
theorem run_succ (d : Int) (k : Nat) : ins d k (run d k) = run d (k + 1) := by
  rw [ins_same]
  · simp [run, List.range_succ]
  · intro e he
    simp only [run, List.mem_map] at he
    obtain ⟨i, _, rfl⟩ := he
    exact Int.le_refl _
theorem length_run (d : Int) (k : Nat) : (run d k).length = k := by simp [run]
theorem run_head (d : Int) (k : Nat) : ∃ r, run d (k + 1) = (d, 0) :: r ∧ r.length = k := by
  refine ⟨(List.range k).map fun i : Nat => (d, ((i + 1 : Nat) : Int)), ?_, by simp⟩
  unfold run
  rw [List.range_succ_eq_map]
  simp

set_option maxHeartbeats 1000000 in
theorem full_any (due : Int) (w : World) : Calls Try.prog 5 #[.int .i64 due] w (Gives (.bool true) fun w' => Below w.heap.size w w') := by
  by_cases hd0 : due < 0
  · go_enter Try.func5, Try.ntmps5
    go_wp2_with (go_at_call 8; refine (lives_any _).mono ?_; rintro e w1 ⟨rfl, hb1⟩)
    go_ret
    rename_i wa hba
    exact ⟨rfl, hba.trans (hb1.mono hba.size)⟩
  by_cases hd1 : 1099511627776 < due
  · go_enter Try.func5, Try.ntmps5
    go_wp2_with (go_at_call 8; refine (lives_any _).mono ?_; rintro e w1 ⟨rfl, hb1⟩)
    go_ret
    rename_i wa hba
    exact ⟨rfl, hba.trans (hb1.mono hba.size)⟩
  have hd0' : 0 ≤ due := by omega
  have hd1' : due ≤ 1099511627776 := by omega
  go_enter Try.func5, Try.ntmps5
  go_wp2_with fail
  refine (lives_any _).mono ?_
  rintro e w1 ⟨rfl, hb1⟩
  go_wp2_with fail
  refine (new_b w1).mono ?_
  rintro e w2 ⟨rfl, hb2, hQ2⟩
  obtain ⟨B, hB⟩ : ∃ B, w1.heap.size = B := ⟨_, rfl⟩
  rw [hB] at hQ2 hb2 ⊢
  have HQ2 := Lib.hid hQ2
  have HB := Lib.hid hB
  have HB1 := Lib.hid hb1
  have HB2 := Lib.hid hb2
  clear hQ2 hB hb1 hb2
  go_wp2_with fail
  go_loopw [19] (fun v wr => ∃ k : Nat, (k : Int) ≤ 4096 ∧ v = .int .i64 k ∧ Hid (QB B B (run due k) k wr) ∧ Hid (Below B w2 wr)) (fun v _ => 4096 - (intOf v).toNat)
  case atStart => exact ⟨0, by omega, rfl, HQ2.out, Below.refl _ _⟩
  case round =>
    obtain ⟨k, hk, rfl, HQ, HW⟩ := hrel
    by_cases hlt : (k : Int) < 4096
    · go_wp2_with fail
      refine (put_b due k hd0' hd1' HQ.out (by rw [length_run]; omega) (by omega)).mono ?_
      rintro e w3 ⟨rfl, hb3, hQ3⟩
      rw [run_succ] at hQ3
      have HQ3 := Lib.hid hQ3
      have HB3 := Lib.hid hb3
      clear hQ3 hb3
      go_wp2_with fail
      go_roundw
      case rel => exact ⟨k + 1, by omega, by go_num, HQ3.out, HW.out.trans HB3.out⟩
      case measure => simp [intOf]; omega
    · obtain rfl : k = 4096 := by omega
      clear hk
      go_wp2_with fail
      refine (put_full due 1 hd0' hd1' HQ.out.1 (length_run _ _)).mono ?_
      rintro e w3 ⟨rfl, rfl⟩
      go_wp2_with fail
      refine (qlen_any HQ.out.1).mono ?_
      rintro e w3 ⟨rfl, rfl⟩
      rw [length_run]
      go_wp2_with fail
      obtain ⟨r, hr, hrl⟩ := run_head due 4095
      have hQ3 := HQ.out
      rw [hr] at hQ3
      refine (next_b due (Int.le_refl _) hQ3).mono ?_
      rintro e w4 ⟨rfl, hb4, hQ4⟩
      have HQ4 := Lib.hid hQ4
      have HR := Lib.hid hr
      have HL := Lib.hid hrl
      clear hQ3 hQ4 hr hrl
      go_wp2_with fail
      refine (put_b due 1 hd0' hd1' HQ4.out (by rw [HL.out]; omega) (by omega)).mono ?_
      rintro e w5 ⟨rfl, hb5, hQ5⟩
      clear hQ5
      go_wp2_with fail
      go_ret
      have h1 := HB1.out
      have hs : w.heap.size ≤ B := by rw [← HB.out]; exact h1.size
      exact ⟨rfl, h1.trans ((((HB2.out.trans HW.out).trans hb4).trans hb5).mono hs)⟩

end Go.Proofs.Ytdbpcogbednokaa
