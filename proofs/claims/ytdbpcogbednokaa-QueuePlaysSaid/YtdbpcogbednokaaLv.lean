/-
  The queue's contracts for a law that owns all from block B on; and 'lives'.
-/
import Derived.Test.YtdbpcogbednokaaG
namespace Go.Proofs.Ytdbpcogbednokaa
open Go.RowKit

theorem QAt.mono {F G : Nat → Prop} {bq : Nat} {S : List (Int × Int)} {m : Nat} {w : World} (h : QAt F bq S m w) (hg : ∀ k, F k → G k) : QAt G bq S m w := by
  obtain ⟨v, L, last, T, ⟨r1, r2, r3, r4, r5⟩, r⟩ := h
  exact ⟨v, L, last, T, ⟨r1, r2, r3, ⟨hg _ r4.1, fun k hk => hg _ (r4.2 k hk)⟩, r5⟩, r⟩

theorem QAt.only {F G : Nat → Prop} {bq : Nat} {S : List (Int × Int)} {m : Nat} {w w' : World} (h : QAt F bq S m w) (ho : Only G w w') (hg : ∀ k, F k → ¬ G k) : QAt F bq S m w' := by
  obtain ⟨v, L, last, T, ⟨r1, r2, r3, r4, r5⟩, r⟩ := h
  exact ⟨v, L, last, T, ⟨r1.only ho (hg _ r4.1), own_only r2 ho (fun k hk => hg _ (r4.2 k hk)), r3, r4, r5⟩, r⟩

/-- A queue of blocks from B on. -/
def QB (B bq : Nat) (S : List (Int × Int)) (m : Nat) (w : World) : Prop := QAt (fun k => B ≤ k) bq S m w ∧ B ≤ w.heap.size

theorem new_b (w : World) : Calls Try.prog 9 #[] w (Gives (.pointer (some ⟨w.heap.size, 0, none⟩)) fun w' => Below w.heap.size w w' ∧ QB w.heap.size w.heap.size [] 0 w') :=
  (new_any w).mono fun _ _ ⟨h1, h2, h3⟩ => ⟨h1, h2, h3, h2.size⟩

theorem put_b {B bq : Nat} {S : List (Int × Int)} {m : Nat} {w : World} (d x : Int) (hd0 : 0 ≤ d) (hd1 : d ≤ 1099511627776) (hQ : QB B bq S m w) (hroom : S.length < 4096) (hm0 : m < 1000000) :
    Calls Try.prog 10 #[.pointer (some ⟨bq, 0, none⟩), .int .i64 d, .int .i64 x] w (Gives (.int .i64 0) fun w' => Below B w w' ∧ QB B bq (ins d x S) (m + 1) w') :=
  (put_ok d x hd0 hd1 hQ.1 hroom hm0).mono fun _ _ ⟨h1, h2, h3⟩ =>
    ⟨h1, h2.toBelow hQ.2 (fun _ h => h), h3.mono (fun k hk => by rcases hk with h | h; exact h; have := hQ.2; omega), Nat.le_trans hQ.2 h2.size⟩

theorem next_b {B bq : Nat} {d x : Int} {S : List (Int × Int)} {m : Nat} {w : World} (now : Int) (hnow : d ≤ now) (hQ : QB B bq ((d, x) :: S) m w) :
    Calls Try.prog 11 #[.pointer (some ⟨bq, 0, none⟩), .int .i64 now] w (Gives (.tuple #[.int .i64 x, .bool true]) fun w' => Below B w w' ∧ QB B bq S m w') :=
  (next_some now hnow hQ.1).mono fun _ _ ⟨h1, h2, h3⟩ => ⟨h1, h2.toBelow hQ.2 (fun _ h => h), h3, Nat.le_trans hQ.2 h2.size⟩

theorem QB.below {B bq : Nat} {S : List (Int × Int)} {m : Nat} {w w' : World} (h : QB B bq S m w) (hb : Below w.heap.size w w') : QB B bq S m w' :=
  ⟨h.1.only (Only.below (F := fun _ => False) hb) (fun _ _ h => h), Nat.le_trans h.2 hb.size⟩

set_option maxHeartbeats 1000000 in
theorem lives_any (w : World) : Calls Try.prog 8 #[] w (Gives (.bool true) fun w' => Below w.heap.size w w') := by
  obtain ⟨B, hB⟩ : ∃ B, w.heap.size = B := ⟨_, rfl⟩
  have HB := Lib.hid hB
  clear hB
  go_enter Try.func8, Try.ntmps8
  go_wp2_with fail
  refine (new_b w).mono ?_
  rintro e w1 ⟨rfl, hb1, hQ1⟩
  rw [HB.out] at hb1 hQ1 ⊢
  have HQ1 := Lib.hid hQ1
  clear hQ1
  go_wp2_with fail
  refine (put_b 5 1 (by omega) (by omega) HQ1.out (by simp) (by omega)).mono ?_
  rintro e w2 ⟨rfl, hb2, hQ2⟩
  have HQ2 := Lib.hid hQ2
  clear hQ2
  go_wp2_with fail
  refine (put_b 3 2 (by omega) (by omega) HQ2.out (by simp [ins]) (by omega)).mono ?_
  rintro e w3 ⟨rfl, hb3, hQ3⟩
  have HQ3 : Hid (QB B B [(3, 2), (5, 1)] 2 w3) := hQ3
  clear hQ3
  go_wp2_with fail
  refine (next_b 4 (by omega) HQ3.out).mono ?_
  rintro e w4 ⟨rfl, hb4, hQ4⟩
  have HQ4 := Lib.hid hQ4
  clear hQ4
  go_wp2_with fail
  refine (next_early 4 (by omega) HQ4.out.1).mono ?_
  rintro e w5 ⟨rfl, rfl⟩
  go_wp2_with fail
  go_ret
  rw [← HB.out] at hb1 hb2 hb3 hb4
  exact ⟨rfl, ((hb1.trans hb2).trans hb3).trans hb4⟩

end Go.Proofs.Ytdbpcogbednokaa
