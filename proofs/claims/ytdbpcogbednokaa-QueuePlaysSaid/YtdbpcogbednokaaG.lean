/-
  The queue's own functions.
-/
import Derived.Test.YtdbpcogbednokaaQs
namespace Go.Proofs.Ytdbpcogbednokaa
open Go.RowKit

/-- The queue behind block bq has just these things, in this order; at most m were put so far; its blocks are of the set F. -/
def QAt (F : Nat → Prop) (bq : Nat) (S : List (Int × Int)) (m : Nat) (w : World) : Prop :=
  ∃ v L last T, QRaw F bq v L last w ∧ L.Perm T ∧ Sorted T ∧ T.map Item.key = S ∧ (∀ a ∈ T, 0 ≤ a.due ∧ a.due ≤ 1099511627776 ∧ 0 < a.num ∧ a.num ≤ last) ∧ 0 ≤ last ∧ last ≤ m ∧ S.length ≤ 4096

def Gives (v : Value) (R : World → Prop) (e : Ending) (w : World) : Prop := e = .returned v ∧ R w

set_option maxHeartbeats 400000 in
theorem new_any (w : World) : Calls Try.prog 9 #[] w (Gives (.pointer (some ⟨w.heap.size, 0, none⟩)) fun w' => Below w.heap.size w w' ∧ QAt (fun k => w.heap.size ≤ k) w.heap.size [] 0 w') := by
  go_enter Try.func9, Try.ntmps9
  go_wp2_with fail
  go_ret
  refine ⟨rfl, (Below.refl _ _).alloc (Nat.le_refl _) _, .slice none 0 0, [], 0, [], ⟨Blk.new w _ _, World.ownsRow_nil _ _ _ _, ?_, ?_, ?_⟩, List.Perm.refl _, List.Pairwise.nil, rfl, ?_, Int.le_refl _, Int.le_refl _, by simp⟩
  · intro k hk; cases hk
  · exact ⟨Nat.le_refl _, fun k hk => by cases hk⟩
  · intro i h1 h2; simp at h2
  · intro a ha; cases ha

set_option maxHeartbeats 400000 in
theorem put_nil (d x : Int) (w : World) : Calls Try.prog 10 #[.pointer none, .int .i64 d, .int .i64 x] w fun e w' => e = .returned (.int .i64 1) ∧ w = w' := by
  go_enter Try.func10, Try.ntmps10
  go_wp2_with fail
  go_ret
  exact ⟨rfl, rfl⟩

set_option maxHeartbeats 400000 in
theorem put_range (bq : Nat) (d x : Int) (w : World) (h : d < 0 ∨ 1099511627776 < d) : Calls Try.prog 10 #[.pointer (some ⟨bq, 0, none⟩), .int .i64 d, .int .i64 x] w fun e w' => e = .returned (.int .i64 2) ∧ w = w' := by
  rcases h with h | h
  · go_enter Try.func10, Try.ntmps10
    go_wp2_with fail
    go_ret
    exact ⟨rfl, rfl⟩
  · have h' : ¬ d < 0 := by omega
    go_enter Try.func10, Try.ntmps10
    go_wp2_with fail
    go_ret
    exact ⟨rfl, rfl⟩


/-- What the receiver's slice is: a form that the walk can read. -/
theorem slice_form {F : Nat → Prop} {bq : Nat} {v : Value} {L : List Item} {last : Int} {w : World} (h : QRaw F bq v L last w) : ∃ p cap, v = .slice p L.length cap := by
  obtain ⟨_, ⟨rfl, h0, _⟩ | ⟨g, cap, rest, rfl, _⟩⟩ := own_elim h.own
  · exact ⟨none, 0, by rw [h0]⟩
  · exact ⟨_, cap, rfl⟩

theorem len_S {L T : List Item} {S : List (Int × Int)} (hp : L.Perm T) (hS : T.map Item.key = S) : L.length = S.length := by
  rw [hp.length_eq, ← hS, List.length_map]

set_option maxHeartbeats 400000 in
theorem put_full {F : Nat → Prop} {bq : Nat} {S : List (Int × Int)} {m : Nat} {w : World} (d x : Int) (hd0 : 0 ≤ d) (hd1 : d ≤ 1099511627776) (hQ : QAt F bq S m w) (hfull : S.length = 4096) :
    Calls Try.prog 10 #[.pointer (some ⟨bq, 0, none⟩), .int .i64 d, .int .i64 x] w fun e w' => e = .returned (.int .i64 4) ∧ w = w' := by
  obtain ⟨v, L, last, T, hR, hp, hs, hS, ha, h0, hm, hl⟩ := hQ
  obtain ⟨p, cap, rfl⟩ := slice_form hR
  have q0 : w.cell? ⟨bq, 0, none⟩ = some (.slice p L.length cap) := hR.blk.cell 0
  have hl : (L.length : Int) = 4096 := by rw [len_S hp hS, hfull]; rfl
  have hl2 : (4096 : Int) ≤ (L.length : Int) := by omega
  clear hR hp hs hS ha hfull hl
  go_enter Try.func10, Try.ntmps10
  go_wp2_with fail
  go_ret
  exact ⟨rfl, rfl⟩

def PutOk (F : Nat → Prop) (bq : Nat) (S : List (Int × Int)) (m : Nat) (d x : Int) (w : World) (w' : World) : Prop :=
  Only F w w' ∧ QAt (fun k => F k ∨ w.heap.size ≤ k) bq (ins d x S) (m + 1) w'

theorem putOk_mk {F : Nat → Prop} {bq : Nat} {L T : List Item} {last : Int} {w w1 w2 : World} {m : Nat} {S : List (Int × Int)} (d x : Int) (hd0 : 0 ≤ d) (hd1 : d ≤ 1099511627776)
    (hp : L.Perm T) (hs : Sorted T) (hS : T.map Item.key = S) (ha : ∀ a ∈ T, 0 ≤ a.due ∧ a.due ≤ 1099511627776 ∧ 0 < a.num ∧ a.num ≤ last) (h0 : 0 ≤ last) (hm : last ≤ m) (hl : S.length < 4096)
    (ho1 : Only F w w1) (hsz : w1.heap.size = w.heap.size)
    {e : Ending} (hpush : HeapPushed F bq L (last + 1) ⟨d, last + 1, x⟩ w1 e w2) : PutOk F bq S m d x w w2 := by
  obtain ⟨_, ho2, v', L', hp', hR'⟩ := hpush
  refine ⟨ho1.trans ho2, v', L', last + 1, insT ⟨d, last + 1, x⟩ T, ?_, ?_, ?_, ?_, ?_, by omega, by omega, ?_⟩
  · rw [← hsz]; exact hR'
  · refine hp'.trans ?_
    refine (List.perm_append_comm.trans ?_).trans (perm_insT _ _).symm
    exact hp.cons _
  · exact sorted_insT _ _ hs fun b hb => by have := ha b hb; show _ < last + 1; omega
  · rw [map_insT, hS]
  · intro a hA
    rcases (mem_insT _ _ _).1 hA with rfl | hA
    · exact ⟨hd0, hd1, by show 0 < last + 1; omega, Int.le_refl _⟩
    · have := ha a hA; omega
  · have : (ins d x S).length = S.length + 1 := by
      rw [← hS, ← map_insT ⟨d, last + 1, x⟩, List.length_map, (perm_insT _ _).length_eq]; simp
    omega

set_option maxRecDepth 100000 in
set_option maxHeartbeats 1000000 in
theorem put_ok {F : Nat → Prop} {bq : Nat} {S : List (Int × Int)} {m : Nat} {w : World} (d x : Int) (hd0 : 0 ≤ d) (hd1 : d ≤ 1099511627776) (hQ : QAt F bq S m w) (hroom : S.length < 4096) (hm0 : m < 1000000) :
    Calls Try.prog 10 #[.pointer (some ⟨bq, 0, none⟩), .int .i64 d, .int .i64 x] w (Gives (.int .i64 0) (PutOk F bq S m d x w)) := by
  obtain ⟨v, L, last, T, hR, hp, hs, hS, ha, h0, hm, hl⟩ := hQ
  obtain ⟨p, cap, rfl⟩ := slice_form hR
  have q0 : w.cell? ⟨bq, 0, none⟩ = some (.slice p L.length cap) := hR.blk.cell 0
  have q1 : w.cell? ⟨bq, 1, none⟩ = some (.int .i64 last) := hR.blk.cell 1
  have f1 := hR.blk.frozen 1
  have hlL : L.length = S.length := len_S hp hS
  have hl1 : ¬ (4096 : Int) ≤ (L.length : Int) := by omega
  have hl2 : (L.length : Int) ≤ 99999 := by omega
  have hlast : last ≤ 1000000 := by omega
  have HR := Lib.hid hR
  have HH := Lib.hid (And.intro hp (And.intro hs (And.intro hS (And.intro ha hm))))
  clear hR hp hs hS ha hm hl hlL
  go_enter Try.func10, Try.ntmps10
  go_wp2_with fail
  generalize hw1 : w.setCell ⟨bq, 1, none⟩ (.int .i64 (last + 1)) = w1
  have hb1 : Blk w1 bq 54 [.slice p L.length cap, .int .i64 (last + 1)] := hw1 ▸ HR.out.blk.set 1 _
  have c1 : w1.cell? ⟨bq, 1, none⟩ = some (.int .i64 (last + 1)) := hb1.cell 1
  have HW := Lib.hid hw1
  have HB := Lib.hid hb1
  clear hw1 hb1 q0 q1 f1
  go_still_tail 12, (by kernel_rfl)
  change wpList _ _ _ _ _ w1.drew
  go_wp2_with fail
  have hR1 : QRaw F bq (.slice p L.length cap) L (last + 1) w1.drew := by
    refine ⟨HB.out, ?_, HR.out.ne, HR.out.mine, HR.out.heap⟩
    have hown := HR.out.own
    have ho : Only (· = bq) w w1 := by rw [← HW.out]; exact (Only.refl (· = bq) w).setCell (fun _ => rfl) _
    exact own_only hown ho.drew (fun k hk => HR.out.ne k hk)
  refine (heap_push F bq _ L (last + 1) ⟨d, last + 1, x⟩ w1.drew hR1 hl2).mono ?_
  rintro e w2 hpush
  obtain rfl := hpush.1
  have HP := Lib.hid hpush
  clear hpush hR1
  go_wp2_with fail
  go_ret
  obtain ⟨hp, hs, hS, ha, hm⟩ := HH.out
  have ho : Only F w w1.drew := by
    rw [← HW.out]; exact ((Only.refl F w).setCell (fun _ => HR.out.mine.1) _).drew
  have hsz : w1.drew.heap.size = w.heap.size := by rw [← HW.out]; simp [World.setCell]
  exact ⟨rfl, putOk_mk d x hd0 hd1 hp hs hS ha h0 hm hroom ho hsz HP.out⟩


set_option maxHeartbeats 400000 in
theorem qlen_nil (w : World) : Calls Try.prog 12 #[.pointer none] w fun e w' => e = .returned (.int .i64 0) ∧ w = w' := by
  go_enter Try.func12, Try.ntmps12
  go_wp2_with fail
  go_ret
  exact ⟨rfl, rfl⟩

set_option maxHeartbeats 400000 in
theorem qlen_raw (bq n cap : Nat) (p : Option Addr) (w : World) (q0 : w.cell? ⟨bq, 0, none⟩ = some (.slice p n cap)) : Calls Try.prog 12 #[.pointer (some ⟨bq, 0, none⟩)] w fun e w' => e = .returned (.int .i64 n) ∧ w = w' := by
  go_enter Try.func12, Try.ntmps12
  go_wp2_with fail
  go_ret
  exact ⟨rfl, rfl⟩

theorem qlen_any {F : Nat → Prop} {bq : Nat} {S : List (Int × Int)} {m : Nat} {w : World} (hQ : QAt F bq S m w) : Calls Try.prog 12 #[.pointer (some ⟨bq, 0, none⟩)] w fun e w' => e = .returned (.int .i64 S.length) ∧ w = w' := by
  obtain ⟨v, L, last, T, hR, hp, hs, hS, ha, h0, hm, hl⟩ := hQ
  obtain ⟨p, cap, rfl⟩ := slice_form hR
  rw [← len_S hp hS]
  exact qlen_raw bq L.length cap p w (hR.blk.cell 0)

set_option maxHeartbeats 400000 in
theorem due_nil (w : World) : Calls Try.prog 19 #[.pointer none] w fun e w' => e = .returned (.tuple #[.int .i64 0, .bool false]) ∧ w = w' := by
  go_enter Try.func19, Try.ntmps19
  go_wp2_with (go_at_call 12; refine (qlen_nil _).mono ?_; rintro e w ⟨rfl, rfl⟩)
  go_ret2
  exact ⟨rfl, rfl⟩

set_option maxHeartbeats 400000 in
theorem due_zero (bq cap : Nat) (p : Option Addr) (w : World) (q0 : w.cell? ⟨bq, 0, none⟩ = some (.slice p (0 : Nat) cap)) : Calls Try.prog 19 #[.pointer (some ⟨bq, 0, none⟩)] w fun e w' => e = .returned (.tuple #[.int .i64 0, .bool false]) ∧ w = w' := by
  go_enter Try.func19, Try.ntmps19
  go_wp2_with (go_at_call 12; refine (qlen_raw bq 0 cap p _ q0).mono ?_; rintro e w ⟨rfl, rfl⟩)
  go_ret2
  exact ⟨rfl, rfl⟩

set_option maxHeartbeats 400000 in
theorem due_some (bq g n cap : Nat) (d : Int) (w : World) (q0 : w.cell? ⟨bq, 0, none⟩ = some (.slice (some ⟨g, 0, none⟩) n cap)) (hn : 0 < (n : Int)) (hd : w.cell? ⟨g, 0, none⟩ = some (.int .i64 d)) :
    Calls Try.prog 19 #[.pointer (some ⟨bq, 0, none⟩)] w fun e w' => e = .returned (.tuple #[.int .i64 d, .bool true]) ∧ w = w' := by
  have hne : ((n : Int) == 0) = false := by rw [beq_eq_false_iff_ne]; omega
  go_enter Try.func19, Try.ntmps19
  go_wp2_with (go_at_call 12; refine (qlen_raw bq n cap _ _ q0).mono ?_; rintro e w ⟨rfl, rfl⟩)
  go_ret2
  exact ⟨rfl, rfl⟩

/-- The first item's cells. -/
theorem first_cells {F : Nat → Prop} {bq : Nat} {v : Value} {L T : List Item} {t : Item} {last : Int} {w : World} (hR : QRaw F bq v L last w) (hp : L.Perm (t :: T)) (hs : Sorted (t :: T)) :
    ∃ g cap, v = .slice (some ⟨g, 0, none⟩) L.length cap ∧ w.cell? ⟨g, 0, none⟩ = some (.int .i64 t.due) ∧ w.cell? ⟨g, 2, none⟩ = some (.int .i64 t.x) := by
  have hl : L.length = T.length + 1 := by rw [hp.length_eq]; rfl
  obtain ⟨_, ⟨rfl, h0, _⟩ | ⟨g, cap, rest, rfl, _, hB, _⟩⟩ := own_elim hR.own
  · omega
  · have hr := root_first hR.heap hp hs
    have h1 := flat_get L rest 0 t (by rw [← hr]; exact some_at0 (by omega))
    exact ⟨g, cap, rfl, by rw [hB.cell]; exact h1.1, by rw [hB.cell]; exact h1.2.2⟩

theorem qdue_nil {F : Nat → Prop} {bq : Nat} {m : Nat} {w : World} (hQ : QAt F bq [] m w) : Calls Try.prog 19 #[.pointer (some ⟨bq, 0, none⟩)] w fun e w' => e = .returned (.tuple #[.int .i64 0, .bool false]) ∧ w = w' := by
  obtain ⟨v, L, last, T, hR, hp, hs, hS, ha, h0, hm, hl⟩ := hQ
  obtain ⟨p, cap, rfl⟩ := slice_form hR
  have h := hR.blk.cell 0
  rw [len_S hp hS] at h
  exact due_zero bq cap p w h

theorem qdue_cons {F : Nat → Prop} {bq : Nat} {d x : Int} {S : List (Int × Int)} {m : Nat} {w : World} (hQ : QAt F bq ((d, x) :: S) m w) : Calls Try.prog 19 #[.pointer (some ⟨bq, 0, none⟩)] w fun e w' => e = .returned (.tuple #[.int .i64 d, .bool true]) ∧ w = w' := by
  obtain ⟨v, L, last, T, hR, hp, hs, hS, ha, h0, hm, hl⟩ := hQ
  match T, hS with
  | t :: T, hS =>
    simp only [List.map_cons, List.cons.injEq] at hS
    obtain ⟨hk, hS⟩ := hS
    obtain ⟨g, cap, rfl, c0, c2⟩ := first_cells hR hp hs
    have hd : t.due = d := congrArg Prod.fst hk
    rw [hd] at c0
    have hlen : L.length = T.length + 1 := by rw [hp.length_eq]; rfl
    exact due_some bq g L.length cap d w (hR.blk.cell 0) (by omega) c0

set_option maxHeartbeats 400000 in
theorem next_nil (now : Int) (w : World) : Calls Try.prog 11 #[.pointer none, .int .i64 now] w fun e w' => e = .returned (.tuple #[.int .i64 0, .bool false]) ∧ w = w' := by
  go_enter Try.func11, Try.ntmps11
  go_wp2_with (go_at_call 19; refine (due_nil _).mono ?_; rintro e w ⟨rfl, rfl⟩)
  go_ret2
  exact ⟨rfl, rfl⟩

set_option maxHeartbeats 400000 in
theorem next_none {F : Nat → Prop} {bq : Nat} {m : Nat} {w : World} (now : Int) (hQ : QAt F bq [] m w) : Calls Try.prog 11 #[.pointer (some ⟨bq, 0, none⟩), .int .i64 now] w fun e w' => e = .returned (.tuple #[.int .i64 0, .bool false]) ∧ w = w' := by
  have HQ := Lib.hid hQ
  clear hQ
  go_enter Try.func11, Try.ntmps11
  go_wp2_with (go_at_call 19; refine (qdue_nil HQ.out).mono ?_; rintro e w ⟨rfl, rfl⟩)
  go_ret2
  exact ⟨rfl, rfl⟩

set_option maxHeartbeats 400000 in
theorem next_early {F : Nat → Prop} {bq : Nat} {d x : Int} {S : List (Int × Int)} {m : Nat} {w : World} (now : Int) (hnow : now < d) (hQ : QAt F bq ((d, x) :: S) m w) : Calls Try.prog 11 #[.pointer (some ⟨bq, 0, none⟩), .int .i64 now] w fun e w' => e = .returned (.tuple #[.int .i64 0, .bool false]) ∧ w = w' := by
  have HQ := Lib.hid hQ
  clear hQ
  go_enter Try.func11, Try.ntmps11
  go_wp2_with (go_at_call 19; refine (qdue_cons HQ.out).mono ?_; rintro e w ⟨rfl, rfl⟩)
  go_ret2
  exact ⟨rfl, rfl⟩

set_option maxHeartbeats 1000000 in
theorem next_some {F : Nat → Prop} {bq : Nat} {d x : Int} {S : List (Int × Int)} {m : Nat} {w : World} (now : Int) (hnow : d ≤ now) (hQ : QAt F bq ((d, x) :: S) m w) :
    Calls Try.prog 11 #[.pointer (some ⟨bq, 0, none⟩), .int .i64 now] w (Gives (.tuple #[.int .i64 x, .bool true]) fun w' => Only F w w' ∧ QAt F bq S m w') := by
  have HQ := Lib.hid hQ
  obtain ⟨v, L, last, T0, hR, hp, hs, hS, ha, h0, hm, hl⟩ := hQ
  obtain ⟨t, T, rfl⟩ : ∃ t T, T0 = t :: T := by
    cases T0 with
    | nil => simp at hS
    | cons t T => exact ⟨t, T, rfl⟩
  obtain ⟨g, cap, rfl, c0, c2⟩ := first_cells hR hp hs
  have hr := root_first hR.heap hp hs
  simp only [List.map_cons, List.cons.injEq] at hS
  obtain ⟨hk, hS⟩ := hS
  obtain rfl : t.due = d := congrArg Prod.fst hk
  obtain rfl : t.x = x := congrArg Prod.snd hk
  have q0 : w.cell? ⟨bq, 0, none⟩ = some (.slice (some ⟨g, 0, none⟩) L.length cap) := hR.blk.cell 0
  have hpos : (0 : Int) < (L.length : Int) := by have := hp.length_eq; simp at this; omega
  have hlen : (L.length : Int) ≤ 4096 := by have := hp.length_eq; rw [← hS] at hl; simp at this hl; omega
  have HR := Lib.hid hR
  have HH := Lib.hid (And.intro hr (And.intro hp (And.intro hs (And.intro hS (And.intro ha (And.intro hm hl))))))
  clear hR hr hp hs hS ha hm hl hk c0
  go_enter Try.func11, Try.ntmps11
  go_wp2_with fail
  refine (qdue_cons HQ.out).mono ?_
  rintro e w ⟨rfl, rfl⟩
  go_wp2_with fail
  refine (heap_pop F bq _ L last w HR.out (by omega) (by omega)).mono ?_
  rintro e w1 hpost
  obtain ⟨⟨xx, hxx⟩, _⟩ := id hpost
  subst hxx
  have HP := Lib.hid hpost
  clear hpost
  go_wp2_with fail
  go_ret2
  obtain ⟨_, ho, v', L', hpL, hR'⟩ := HP.out
  obtain ⟨hr, hp, hs, hS, ha, hm, hl⟩ := HH.out
  refine ⟨rfl, ho, v', L', last, T, hR', ?_, (List.pairwise_cons.1 hs).2, hS, fun a h => ha a (List.mem_cons_of_mem _ h), h0, hm, ?_⟩
  · rw [hr] at hpL
    exact ((hpL.symm.trans hp).cons_inv)
  · simp at hl; omega

end Go.Proofs.Ytdbpcogbednokaa
