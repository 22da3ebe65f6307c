/-
  slices.Sorted(maps.Values(seen)): the views seen, rising.
-/
import Derived.Test.YtilhdelijdkjpaaVQ
import Derived.RangeFuncNested
import Derived.RangeFuncBound
import Derived.RangeFuncCalls
import Derived.RangeFuncLeaves
import Derived.RangeFuncGives
import Derived.OwnWalkIn
import Derived.TacticsInMore
import Derived.LoopNIn
import Derived.LoopIn
set_option linter.unusedVariables false
set_option linter.unusedSimpArgs false
namespace Go.Proofs.Ytilhdelijdkjpaa
open Go Go.RowKit Go.Maps Go.Sort Go.Shelf Sac

/-- The values at these keys. -/
def valsAt (m : List (Int × Int)) (ss : List Int) : List Int := ss.map fun k => (lookM m k).getD 0
theorem valsAt_keys {m : List (Int × Int)} (hs : Srt m) : valsAt m (m.map (·.1)) = m.map (·.2) := by
  unfold valsAt
  rw [List.map_map]
  refine List.map_congr_left fun p hp => ?_
  show (lookM m p.1).getD 0 = p.2
  rw [lookM_of_mem hs (show (p.1, p.2) ∈ m from hp)]; rfl

set_option maxRecDepth 100000 in
set_option maxHeartbeats 2000000 in
theorem vals1_in (F : Fence) (n : Nat) (h10 : F.fn 124) (hro : F.round = none) (hn : 1 ≤ n) (l Bm b : Nat) (L : List (Int × Value)) (m : List (Int × Int)) (J : List Int → World → Prop)
    (hY : ∀ pre x W, J pre W → pre.length < m.length → YieldAt F (n - 1) Try.prog l #[encZ x] W fun e W' => e = .returned (.bool true) ∧ J (pre ++ [x]) W' ∧ KeepsWalks W W')
    (W : World) (hJ : AbidesFrom W.heap.size J) (hm : W.cell? ⟨Bm, 0, none⟩ = some (.map (some b))) (hown : MapAt Try.prog 3 W b L) (hr : RelM (fun v y => v = .int .i64 y ∧ (Lit.int .i64 y).wf = true) L m) (h0 : J [] W) :
    CallsIn F n Try.prog 124 #[.func (.yield l) #[] #[], .pointer (some ⟨Bm, 0, none⟩)] W fun e W' => (∃ v, e = .returned v) ∧ ∃ xs : List Int, xs.Perm (m.map (·.2)) ∧ J xs W' := by
  have hsm := hr.srt hown.srt
  have hkeys := hr.keys
  have hlen := hr.length
  have HR := Lib.hid hr
  have HSM := Lib.hid hsm
  have HK := Lib.hid hkeys
  have HLN := Lib.hid hlen
  have HO := Lib.hid hown
  have HY := Lib.hid hY
  clear hr hsm hkeys hlen hown hY
  refine callsIn_of_wp Try.func124 rfl h10 ?_ hro
  simp only [Try.ntmps124, List.size_toArray, List.length_cons, List.length_nil, Nat.reduceAdd, Nat.reduceSub, Array.replicate_succ, Array.replicate_zero, List.push_toArray, List.append_toArray, List.nil_append, List.cons_append]
  gi_wp2_with (first
    | (gi_at_range; refine wpListIn_range_own _ rfl _ 106 rfl 3 3 keyedI Try.underlying106 raw b L.length _ rfl HO.out.own ?_; intro w0 hrg0 hg0 hs0)
    | gi_in)
  go_frame
  gi_loopw [4] (fun _ wr => ∃ (left : Lit → Bool) (cnt : Nat) (ss : List Int), wr.ranges Try.prog 3 raw b W.heap.size L.length (datM L) left cnt ∧ ss.length + cnt ≤ Maps.size (datM L) ∧ CollectedI (datM L) left ss ∧ J (valsAt m ss) wr)
    (fun _ wr => wr.rangeLeft b W.heap.size)
  case atStart =>
    exact ⟨_, _, [], hrg0, by simp, CollectedI.start _, hJ [] W w0 none h0 hg0 (fun r e => by cases e)⟩
  case round =>
    obtain ⟨left, cnt, ss, hrg, hcs, hC, hJs⟩ := hrel
    gi_wp2_with (first
      | (gi_at_next; refine wpListIn_next_ranges _ rfl _ rfl 3 keyedI raw encZ id (fun key kl hk => by obtain ⟨x, hx, _⟩ := Maps.keyOf_i64 Try.underlying3 hk; exact ⟨x, hx⟩) (fun v _ _ => ⟨v, rfl⟩) b W.heap.size L.length _ _ _ rfl hrg ?_ ?_)
      | gi_in)
    · intro hc0 hl0
      gi_wp2
      go_end0
      have hp := hC.perm HO.out.own keyedI Try.underlying3 hl0
      rw [intKeys_datM, HK.out] at hp
      refine ⟨⟨_, rfl⟩, _, ?_, hJs⟩
      have h2 : (valsAt m ss).Perm (valsAt m (m.map (·.1))) := hp.map _
      rw [valsAt_keys HSM.out] at h2
      exact h2
    · intro x c kl yd yp w2 cnt2 hkey hlk hv hat hrg2 hlt hg2 hs2 hen
      obtain ⟨x', ex, rfl, _⟩ := Maps.keyOf_i64 Try.underlying3 hkey
      obtain rfl : x = x' := encZ_inj ex
      simp only [raw, Option.some.injEq, id, Prod.mk.injEq] at hv
      obtain ⟨rfl, rfl⟩ := hv
      have hat2 := hat (.lit (.bool true))
      rw [datM_atKey] at hat2
      have hlx : lookM L x = some c := by
        cases hl : lookM L x with
        | none => rw [hl] at hat2; simp at hat2
        | some v => rw [hl] at hat2; simp at hat2; rw [hat2]
      have hJ2 : J (valsAt m ss) w2 := hJ _ wr w2 (some W.heap.size) hJs hg2 (fun r e => by cases e; exact ⟨Nat.le_refl _, hrg.iter_walk⟩)
      rcases HR.out.lookM x with ⟨g1, _⟩ | ⟨v2, y, g1, g2, rfl, hy⟩
      · rw [hlx] at g1; cases g1
      · obtain rfl : c = .int .i64 y := by rw [hlx] at g1; exact Option.some.inj g1
        have hcs2 : (valsAt m ss).length < m.length := by
          unfold valsAt
          rw [List.length_map]
          rw [size_datM, HLN.out] at hcs
          omega
        have hva : valsAt m (ss ++ [x]) = valsAt m ss ++ [y] := by unfold valsAt; rw [List.map_append]; simp [g2]
        obtain ⟨fn, tmps, assign, body, hyy, hR⟩ := HY.out (valsAt m ss) y w2 hJ2 hcs2
        have hen2 : (Instr.entry (.pointer (some ⟨W.heap.size, 0, none⟩))).run Try.prog w2 = .ok (.tuple #[.int .i64 x, .int .i64 y]) w2 := hen
        have hC2 := hC.step hlk hat
        clear hs2 hat hat2 hlx g1 g2 hen hlk hkey ex
        gi_wp2
        refine hR.mono ?_
        rintro e W3 ⟨rfl, hJ3, hk3⟩
        gi_wp2
        have hrg3 := hrg2.of_walks hk3
        go_roundw
        case rel => exact ⟨_, cnt2, ss ++ [x], hrg3, by simp; omega, hC2, by rw [hva]; exact hJ3⟩
        case measure => rw [hrg3.left_eq, hrg.left_eq]; exact hlt

theorem vals_any (mb : Option Nat) (w : World) : Calls Try.prog 108 #[.map mb] w fun e w' => e = .returned (.func (.func 124) #[] #[.pointer (some ⟨w.heap.size, 0, none⟩)]) ∧ w' = w.alloc (.cells #[.map mb] 106) := by
  go_enter Try.func108, Try.ntmps108
  go_wp2_with fail
  go_ret
  exact ⟨rfl, rfl⟩

set_option maxHeartbeats 1000000 in
theorem valss_any (b : Nat) (L : List (Int × Value)) (m : List (Int × Int)) (w : World) (hm : MapAt Try.prog 3 w b L) (hr : RelM (fun v y => v = .int .i64 y ∧ (Lit.int .i64 y).wf = true) L m) (hlen : L.length ≤ 100000) :
    Calls Try.prog 69 #[.func (.func 124) #[] #[.pointer (some ⟨w.heap.size, 0, none⟩)]] (w.alloc (.cells #[.map (some b)] 106)) fun e w' => ∃ v, e = .returned v ∧ IOwn w' w.heap.size v (sortI (m.map (·.2))) ∧ Below w.heap.size w w' := by
  refine (callsIn_wide (n := 5)).1 ?_
  have hbl := hm.lt
  have hbox : (w.alloc (.cells #[.map (some b)] 106)).cell? ⟨w.heap.size, 0, none⟩ = some (.map (some b)) := (Blk.new w [.map (some b)] 106).cell 0
  have hsz : w.heap.size < (w.alloc (.cells #[.map (some b)] 106)).heap.size := by simp
  have hm1 : MapAt Try.prog 3 (w.alloc (.cells #[.map (some b)] 106)) b L := hm.same (Below.heap_alloc _ _ b hbl)
  have hseq : SeqGives Fence.wide 2 Try.prog 124 #[.pointer (some ⟨w.heap.size, 0, none⟩)] encZ (fun ss => ss.Perm (m.map (·.2))) m.length (w.alloc (.cells #[.map (some b)] 106)) := fun l J W hW hJ hY h0 =>
    vals1_in Fence.wide 2 trivial rfl (by omega) l w.heap.size b L m J hY W hJ ((hW.cell (p := ⟨w.heap.size, 0, none⟩) hsz).trans hbox) (hm1.below hW hm1.lt) hr h0
  have cS := AnyZI.sorted_in Try.sortedK Fence.wide 5 trivial trivial trivial trivial rfl (by omega) (sorts_any _) (enters_of Try.func94 (by kernel_rfl) rfl) 124 #[.pointer (some ⟨w.heap.size, 0, none⟩)] trivial (enters_of Try.func124 (by kernel_rfl) rfl) _ _ (by rw [← hr.length]; unfold maxLen; omega) (by rw [← hr.length]; omega) _ hseq
  refine cS.mono ?_
  rintro e w' ⟨v, ss, rfl, hS, hrow, _, hb⟩
  have hlen2 : ss.length = (sortI (m.map (·.2))).length := by rw [hS.length_eq, (perm_sortI _).length_eq]
  rw [mergeSort_sortI hS, hlen2] at hrow
  exact ⟨v, rfl, own_base hrow (by simp), ((Below.refl _ w).alloc (Nat.le_refl _) _).trans (hb.mono (by simp))⟩

end Go.Proofs.Ytilhdelijdkjpaa
