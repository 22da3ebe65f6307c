/-
  slices.Values over a row of items: what its closure hands to a loop's body.
-/
import Derived.RangeFuncNested
import Derived.RangeFuncBound
import Derived.RangeFuncCalls
import Derived.RangeFuncLeaves
import Derived.RangeFuncBox
import Derived.Shelf.Abstract
import Derived.Shelf.RegionOpen
import Derived.OwnWalkIn
import Derived.TacticsInMore
import Derived.LoopNIn
import Derived.LoopIn
import Derived.Test.YtdbpcogbednokaaSrt
namespace Go.Proofs.Ytdbpcogbednokaa
open Go.RowKit Go.Shelf

attribute [local go_sem] Oper.semAt_some

/-- An item as one value. -/
def Item.val (a : Item) : Value := .agg #[.int .i64 a.due, .int .i64 a.num, .int .i64 a.x]
/-- The items that a slice's address leads to, in a block below n₀. -/
def IRd (n₀ : Nat) (w : World) (a : Option Addr) (L : List Item) : Prop := ∀ i, i < L.length → ∃ g, a = some ⟨g, 0, none⟩ ∧ g < n₀ ∧ w.cell? ⟨g, i * 3, none⟩ = some (.int .i64 (L.getD i default).due) ∧ w.cell? ⟨g, i * 3 + 1, none⟩ = some (.int .i64 (L.getD i default).num) ∧ w.cell? ⟨g, i * 3 + 2, none⟩ = some (.int .i64 (L.getD i default).x)
theorem IRd.below {n₀ : Nat} {w w' : World} {a : Option Addr} {L : List Item} (h : IRd n₀ w a L) (hb : Below n₀ w w') : IRd n₀ w' a L := fun i hi => by
  obtain ⟨g, e, hg, c0, c1, c2⟩ := h i hi
  exact ⟨g, e, hg, (hb.cell (p := ⟨g, _, none⟩) hg).trans c0, (hb.cell (p := ⟨g, _, none⟩) hg).trans c1, (hb.cell (p := ⟨g, _, none⟩) hg).trans c2⟩
theorem take_succ_getD {L : List Item} {k : Nat} (h : k < L.length) : L.take (k + 1) = L.take k ++ [L.getD k default] := by
  rw [List.take_add_one, iget h]; rfl
theorem grown_alloc (w : World) (o : Obj) : w.grownBy (w.alloc o) none := ⟨rfl, rfl, rfl, by simp, fun k hk _ => Below.heap_alloc w o k hk⟩

set_option maxRecDepth 100000 in
set_option maxHeartbeats 2000000 in
theorem values1_in (F : Fence) (n : Nat) (hf : F.fn 40) (hro : F.round = none) (hn : 1 ≤ n) (l Bs n₀ B : Nat) (a : Option Addr) (cap : Nat) (L : List Item) (hreach : (L.length : Int) ≤ 100000)
    (J Jx : List Item → World → Prop) (hAb : AbidesFrom B J)
    (hY : ∀ pre x W, J pre W → pre.length < L.length → YieldAt F (n - 1) Try.prog l #[Item.val x] W fun e W' =>
      (e = .returned (.bool true) ∧ J (pre ++ [x]) W' ∧ Below n₀ W W') ∨ (e = .returned (.bool false) ∧ Jx (pre ++ [x]) W'))
    (W : World) (hn₀ : n₀ ≤ W.heap.size) (hBs : W.cell? ⟨Bs, 0, none⟩ = some (.slice a L.length cap)) (hR : IRd n₀ W a L) (h0 : J [] W) :
    CallsIn F n Try.prog 40 #[.func (.yield l) #[] #[], .pointer (some ⟨Bs, 0, none⟩)] W fun e W' => (∃ v, e = .returned v) ∧
      ((∃ ys : List Item, ys = L ∧ J ys W') ∨ (∃ pre : List Item, (∃ k, k ≤ L.length ∧ pre = L.take k) ∧ Jx pre W')) := by
  refine callsIn_of_wp Try.func40 rfl hf ?_ hro
  simp only [Try.ntmps40, List.size_toArray, List.length_cons, List.length_nil, Nat.reduceAdd, Nat.reduceSub, Array.replicate_succ, Array.replicate_zero, List.push_toArray, List.append_toArray, List.nil_append, List.cons_append]
  obtain ⟨m, hm⟩ : ∃ m, L.length = m := ⟨_, rfl⟩
  have HM := Lib.hid hm
  have HY := Lib.hid hY
  have HR := Lib.hid hR
  have HAb := Lib.hid hAb
  rw [hm] at hBs hreach
  clear hY hR hAb hm
  gi_wp2
  gi_loopw [7] (fun i wr => ∃ k : Nat, k ≤ m ∧ i = .int .i64 (k : Int) ∧ Hid (J (L.take k) wr) ∧ Hid (Below n₀ W wr)) (fun i _ => m - (intOf i).toNat)
  case atStart => exact ⟨0, Nat.zero_le _, rfl, h0, Below.refl _ _⟩
  case round =>
    obtain ⟨k, hk, rfl, HJ, HB⟩ := hrel
    clear hBs h0
    by_cases hlt : (k : Int) < (m : Int)
    · obtain ⟨g, rfl, hg, c0, c1, c2⟩ := (HR.out.below HB.out) k (by rw [HM.out]; omega)
      obtain ⟨x, hx⟩ : ∃ x, L.getD k default = x := ⟨_, rfl⟩
      rw [hx] at c0 c1 c2
      have HX := Lib.hid hx
      clear hx
      obtain ⟨d, nu, xx⟩ := x
      dsimp only at c0 c1 c2
      have HJ1 : Hid (J (L.take k) (wr.alloc (.cells #[.int .i64 d, .int .i64 nu, .int .i64 xx] 58))) := HAb.out _ _ _ none HJ.out (grown_alloc _ _) (fun r e => by cases e)
      obtain ⟨fn, tmps, assign, body, hy, hRo⟩ := HY.out _ ⟨d, nu, xx⟩ _ HJ1.out (by rw [List.length_take, HM.out]; omega)
      change (Instr.yield l #[.agg #[.int .i64 d, .int .i64 nu, .int .i64 xx]]).run Try.prog _ = _ at hy
      gi_wp2
      have hs : L.take k ++ [⟨d, nu, xx⟩] = L.take (k + 1) := by rw [take_succ_getD (by rw [HM.out]; omega), HX.out]
      rw [hs] at hRo
      have HB1 : Hid (Below n₀ W (wr.alloc (.cells #[.int .i64 d, .int .i64 nu, .int .i64 xx] 58))) := HB.out.trans ((Below.refl n₀ wr).alloc (Nat.le_trans hn₀ HB.out.size) _)
      clear hs hy HJ HJ1 HB c0 c1 c2
      refine hRo.mono ?_
      rintro e W3 (⟨rfl, hJ3, hk3⟩ | ⟨rfl, hJx3⟩)
      · have HK3 := Lib.hid hk3
        have HJ3 := Lib.hid hJ3
        clear hk3 hJ3
        gi_wp2
        go_roundw
        case rel => exact ⟨k + 1, by omega, (by go_num), HJ3.out, HB1.out.trans HK3.out⟩
        case measure => simp [intOf]; omega
      · gi_wp2
        refine bodyPost_ret (results_none rfl _ _ _) rfl ?_
        exact ⟨⟨_, rfl⟩, .inr ⟨_, ⟨k + 1, by rw [HM.out]; omega, rfl⟩, hJx3⟩⟩
    · gi_wp2
      go_end0
      exact ⟨⟨_, rfl⟩, .inl (by
        have h := HJ.out
        rwa [List.take_of_length_le (by rw [HM.out]; omega)] at h)⟩

set_option maxHeartbeats 1000000 in
theorem values_in (F : Fence) (n : Nat) (hf : F.fn 27) (hro : F.round = none) (a : Option Addr) (len cap : Nat) (w : World) :
    CallsIn F n Try.prog 27 #[.slice a len cap] w fun e w' => e = .returned (.func (.func 40) #[] #[.pointer (some ⟨w.heap.size, 0, none⟩)]) ∧ w' = w.alloc (.cells #[.slice a len cap] 52) := by
  refine callsIn_of_wp Try.func27 rfl hf ?_ hro
  simp only [Try.ntmps27, List.size_toArray, List.length_cons, List.length_nil, Nat.reduceAdd, Nat.reduceSub, Array.replicate_succ, Array.replicate_zero, List.push_toArray, List.append_toArray, List.nil_append, List.cons_append]
  gi_wp2
  go_ret
  exact ⟨rfl, rfl⟩

/-- slices.Values(s) hands over the row's items, in order. -/
theorem values_stops (F : Fence) (n : Nat) (hf : F.fn 40) (hro : F.round = none) (hn : 1 ≤ n) (Bs n₀ : Nat) (a : Option Addr) (cap : Nat) (L : List Item) (hreach : (L.length : Int) ≤ 100000) (w : World) (hBs : Bs < w.heap.size) (hn₀ : n₀ ≤ w.heap.size)
    (hc : w.cell? ⟨Bs, 0, none⟩ = some (.slice a L.length cap)) (hR : IRd n₀ w a L) :
    SeqStopsK F n Try.prog 40 #[.pointer (some ⟨Bs, 0, none⟩)] (fun x : Item => #[Item.val x]) (Below n₀) (fun ys => ys = L)
      (fun pre => ∃ k, k ≤ L.length ∧ pre = L.take k) L.length w := fun l J Jx W hW hAb _ hY h0 =>
  values1_in F n hf hro hn l Bs n₀ _ a cap L hreach J Jx hAb hY W (Nat.le_trans hn₀ hW.size) ((hW.cell (p := ⟨Bs, 0, none⟩) hBs).trans hc) (hR.below (hW.mono hn₀)) h0
end Go.Proofs.Ytdbpcogbednokaa
