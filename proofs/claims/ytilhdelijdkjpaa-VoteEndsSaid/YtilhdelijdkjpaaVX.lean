/-
  slices.Backward over a row of ints: what its closure hands to a loop's body.
-/
import Derived.Test.YtilhdelijdkjpaaVV
import Derived.RangeFuncBox
import Derived.Shelf.Abstract
import Derived.Shelf.RegionOpen
set_option linter.unusedVariables false
set_option linter.unusedSimpArgs false
namespace Go.Proofs.Ytilhdelijdkjpaa
open Go Go.RowKit Go.Shelf Sac

attribute [local go_sem] Oper.semAt_some

/-- A place of a row of len words. -/
abbrev Pl (len : Nat) := { j : Nat // j < len }
/-- The first k places from the end. -/
def dn (len k : Nat) : List Nat := (List.range k).map fun j => len - 1 - j
theorem dn_succ (len k : Nat) : dn len (k + 1) = dn len k ++ [len - 1 - k] := by simp [dn, List.range_succ]
theorem dn_length (len k : Nat) : (dn len k).length = k := by simp [dn]

/-- What a round keeps: all below n₀, and the block Bs. -/
def KB (n₀ Bs : Nat) (W W' : World) : Prop := Below n₀ W W' ∧ W'.heap[Bs]? = W.heap[Bs]?
theorem KB.t {n₀ Bs : Nat} {A B C : World} (h : KB n₀ Bs A B) (k : KB n₀ Bs B C) : KB n₀ Bs A C := ⟨h.1.trans k.1, k.2.trans h.2⟩
theorem KB.b {n₀ Bs : Nat} {w : World} (hn : n₀ ≤ w.heap.size) (hb : Bs < w.heap.size) (W : World) (l : Nat) (o o' : Obj) (hl : w.heap.size ≤ l) (h : W.heap[l]? = some o) (h1 : o.isCells = false) (h2 : o.isWalk = false) : KB n₀ Bs W (W.putObj l o') :=
  ⟨belowK_b hn W l o o' hl h h1 h2, (belowK_b (n₀ := Bs + 1) (w := w) (by omega) W l o o' hl h h1 h2).block Bs (by omega)⟩
theorem KB.refl (n₀ Bs : Nat) (W : World) : KB n₀ Bs W W := ⟨Below.refl _ _, rfl⟩

set_option maxRecDepth 100000 in
set_option maxHeartbeats 2000000 in
theorem backward1_in (F : Fence) (n : Nat) (hf : F.fn 138) (hro : F.round = none) (hn : 1 ≤ n) (l Bs n₀ : Nat) (a : Option Addr) (cap : Nat) (zs : List Int) (hreach : (zs.length : Int) ≤ 10000000000)
    (J Jx : List (Pl zs.length) → World → Prop)
    (hY : ∀ pre x W, J pre W → pre.length < zs.length → YieldAt F (n - 1) Try.prog l #[.int .i64 (x.1 : Int), Value.int .i64 (zs.getD x.1 0)] W fun e W' =>
      (e = .returned (.bool true) ∧ J (pre ++ [x]) W' ∧ KB n₀ Bs W W') ∨ (e = .returned (.bool false) ∧ Jx (pre ++ [x]) W'))
    (W : World) (hBs : W.cell? ⟨Bs, 0, none⟩ = some (.slice a zs.length cap)) (hBn : Bs < W.heap.size) (hR : ∀ i, i < zs.length → ∃ g, a = some ⟨g, 0, none⟩ ∧ g < n₀ ∧ W.cell? ⟨g, i, none⟩ = some (.int .i64 (zs.getD i 0))) (h0 : J [] W) :
    CallsIn F n Try.prog 138 #[.func (.yield l) #[] #[], .pointer (some ⟨Bs, 0, none⟩)] W fun e W' => (∃ v, e = .returned v) ∧
      ((∃ ys : List (Pl zs.length), ys.map (·.1) = dn zs.length zs.length ∧ J ys W') ∨ (∃ pre : List (Pl zs.length), (∃ k, k ≤ zs.length ∧ pre.map (·.1) = dn zs.length k) ∧ Jx pre W')) := by
  refine callsIn_of_wp Try.func138 rfl hf ?_ hro
  simp only [Try.ntmps138, List.size_toArray, List.length_cons, List.length_nil, Nat.reduceAdd, Nat.reduceSub, Array.replicate_succ, Array.replicate_zero, List.push_toArray, List.append_toArray, List.nil_append, List.cons_append]
  gi_wp2
  gi_loopw [3] (fun i wr => ∃ (m : Nat) (pre : List (Pl zs.length)), m ≤ zs.length ∧ i = .int .i64 ((m : Int) - 1) ∧ Hid (pre.map (·.1) = dn zs.length (zs.length - m)) ∧ J pre wr ∧ Hid (KB n₀ Bs W wr))
    (fun i _ => (intOf i + 1).toNat)
  case atStart => exact ⟨zs.length, [], Nat.le_refl _, rfl, (by show _ = _; rw [Nat.sub_self]; rfl), h0, KB.refl _ _ _⟩
  case round =>
    obtain ⟨m, pre, hm, rfl, HP, hJs, HK⟩ := hrel
    have hBw : wr.cell? ⟨Bs, 0, none⟩ = some (.slice a zs.length cap) := by rw [← hBs]; exact World.cell?_of_block HK.out.2
    have HY := Lib.hid hY
    have HR := Lib.hid hR
    clear hBs hY hR h0
    by_cases hm0 : m = 0
    · subst hm0
      gi_wp2
      go_end0
      exact ⟨⟨_, rfl⟩, .inl ⟨pre, HP.out, hJs⟩⟩
    · obtain ⟨j, rfl⟩ : ∃ j, m = j + 1 := ⟨m - 1, by omega⟩
      have hj : j < zs.length := by omega
      have hlen : pre.length < zs.length := by
        have := congrArg List.length HP.out
        rw [List.length_map, dn_length] at this
        omega
      obtain ⟨fn, tmps, assign, body, hy, hRo⟩ := HY.out pre ⟨j, hj⟩ wr hJs hlen
      obtain ⟨g, rfl, hlt, hcell⟩ := HR.out j hj
      obtain ⟨x, hx⟩ : ∃ x, zs.getD j 0 = x := ⟨_, rfl⟩
      rw [hx] at hcell
      have hcw : wr.cell? ⟨g, j, none⟩ = some (.int .i64 x) := by
        rw [← hcell]; exact HK.out.1.cell (p := ⟨g, j, none⟩) hlt
      dsimp only at hy
      rw [hx] at hy
      change (Instr.yield l #[.int .i64 (j : Int), .int .i64 x]).run Try.prog wr = _ at hy
      clear hcell hx hlt
      gi_wp2
      have hn1 : (pre ++ [(⟨j, hj⟩ : Pl zs.length)]).map (·.1) = dn zs.length (zs.length - j) := by
        rw [List.map_append, HP.out, show zs.length - j = (zs.length - (j + 1)) + 1 by omega, dn_succ]
        congr 1
        simp
        omega
      have HN := Lib.hid hn1
      clear hn1
      refine hRo.mono ?_
      rintro e W3 (⟨rfl, hJ3, hk3⟩ | ⟨rfl, hJx3⟩)
      · have HK3 := Lib.hid hk3
        clear hk3
        gi_wp2
        go_roundw
        case rel => exact ⟨j, _, by omega, (by simp), HN.out, hJ3, HK.out.t HK3.out⟩
        case measure => simp [intOf]
      · gi_wp2
        refine bodyPost_ret (results_none rfl _ _ _) rfl ?_
        exact ⟨⟨_, rfl⟩, .inr ⟨_, ⟨zs.length - j, by omega, HN.out⟩, hJx3⟩⟩

set_option maxHeartbeats 1000000 in
theorem backward_in (F : Fence) (n : Nat) (hf : F.fn 125) (hro : F.round = none) (a : Option Addr) (len cap : Nat) (w : World) :
    CallsIn F n Try.prog 125 #[.slice a len cap] w fun e w' => e = .returned (.func (.func 138) #[] #[.pointer (some ⟨w.heap.size, 0, none⟩)]) ∧ w' = w.alloc (.cells #[.slice a len cap] 51) := by
  refine callsIn_of_wp Try.func125 rfl hf ?_ hro
  simp only [Try.ntmps125, List.size_toArray, List.length_cons, List.length_nil, Nat.reduceAdd, Nat.reduceSub, Array.replicate_succ, Array.replicate_zero, List.push_toArray, List.append_toArray, List.nil_append, List.cons_append]
  gi_wp2
  go_ret
  exact ⟨rfl, rfl⟩

/-- slices.Backward(s) hands over the row's places, from the end. -/
theorem backward_stops (F : Fence) (n : Nat) (hf : F.fn 138) (hro : F.round = none) (hn : 1 ≤ n) (Bs n₀ : Nat) (a : Option Addr) (cap : Nat) (zs : List Int) (hreach : (zs.length : Int) ≤ 10000000000) (w : World) (hBs : Bs < w.heap.size) (hn₀ : n₀ ≤ w.heap.size)
    (hc : w.cell? ⟨Bs, 0, none⟩ = some (.slice a zs.length cap)) (hR : ∀ i, i < zs.length → ∃ g, a = some ⟨g, 0, none⟩ ∧ g < n₀ ∧ w.cell? ⟨g, i, none⟩ = some (.int .i64 (zs.getD i 0))) :
    SeqStopsK F n Try.prog 138 #[.pointer (some ⟨Bs, 0, none⟩)] (fun x : Pl zs.length => #[Value.int .i64 (x.1 : Int), Value.int .i64 (zs.getD x.1 0)]) (KB n₀ Bs) (fun ys => ys.map (·.1) = dn zs.length zs.length)
      (fun pre => ∃ k, k ≤ zs.length ∧ pre.map (·.1) = dn zs.length k) zs.length w := fun l J Jx W hW _ _ hY h0 =>
  backward1_in F n hf hro hn l Bs n₀ a cap zs hreach J Jx hY W ((hW.cell (p := ⟨Bs, 0, none⟩) hBs).trans hc) (Nat.lt_of_lt_of_le hBs hW.size) (fun i hi => by obtain ⟨g, e1, e2, e3⟩ := hR i hi; exact ⟨g, e1, e2, (hW.cell (p := ⟨g, i, none⟩) (show g < w.heap.size by omega)).trans e3⟩) h0

end Go.Proofs.Ytilhdelijdkjpaa
