/-
  slices.AppendSeq(nil, slices.Values(s)), slices.Collect of it: a row of the call's own with the same items.
-/
import Derived.Maps.AppendAt
import Derived.Test.YtdbpcogbednokaaVal
namespace Go.Proofs.Ytdbpcogbednokaa
open Go.RowKit Go.Shelf

attribute [local go_sem] Oper.semAt_some

/-- The box of a round's item. -/
def IBox (W : World) (B : Nat) (x : Item) : Prop := W.heap[B]? = some (.cells #[.int .i64 x.due, .int .i64 x.num, .int .i64 x.x] 58 (0, 0))
theorem IBox.blk {W : World} {B : Nat} {x : Item} (h : IBox W B x) : Blk W B 58 [.int .i64 x.due, .int .i64 x.num, .int .i64 x.x] := h
theorem seqNew (w : World) (d nu xx : Int) : ∀ j u, [Value.int .i64 d, .int .i64 nu, .int .i64 xx][j]? = some u → (w.alloc (.cells #[.int .i64 d, .int .i64 nu, .int .i64 xx] 58)).cell? ((⟨w.heap.size, 0, none⟩ : Addr).add j) = some u :=
  (Blk.new w [Value.int .i64 d, .int .i64 nu, .int .i64 xx] 58).news

set_option maxRecDepth 100000 in
set_option maxHeartbeats 4000000 in
theorem appendSeq_in (F : Fence) (n : Nat) (hf : F.fn 43) (hf2 : F.fn 40) (hro : F.round = none) (hn : 2 ≤ n) (Bs : Nat) (a : Option Addr) (cap : Nat) (L : List Item) (hreach : (L.length : Int) ≤ 100000) (w : World) (hBs : Bs < w.heap.size)
    (hc : w.cell? ⟨Bs, 0, none⟩ = some (.slice a L.length cap)) (hR : IRd w.heap.size w a L) :
    CallsIn F n Try.prog 43 #[.slice none 0 0, .func (.func 40) #[] #[.pointer (some ⟨Bs, 0, none⟩)]] w fun e w' => ∃ v, e = .returned v ∧ IOwn w' w.heap.size v L ∧ Below w.heap.size w w' := by
  have h1 : 1 ≤ n := by omega
  obtain ⟨i0, hi, hz0, hz1, hz2⟩ := info_parts info58
  refine callsIn_of_wp_marks Try.func43 rfl hf ?_ hro
  simp only [Try.ntmps43, List.size_toArray, List.length_cons, List.length_nil, Nat.reduceAdd, Nat.reduceSub, Array.replicate_succ, Array.replicate_zero, List.push_toArray, List.append_toArray, List.nil_append, List.cons_append]
  have HC := Lib.hid hc
  have HR := Lib.hid hR
  clear hc hR
  gi_wp2
  have hB0 : Below w.heap.size w (w.alloc (.cells #[.slice none 0 0] 51)) := (Below.refl _ w).alloc (Nat.le_refl _) _
  have bS := Boxed.new w 51 (.slice none 0 0)
  have hsz : (w.alloc (.cells #[.slice none 0 0] 51)).heap.size = w.heap.size + 1 := by simp
  have hcc : (w.alloc (.cells #[.slice none 0 0] 51)).cell? ⟨Bs, 0, none⟩ = some (.slice a L.length cap) := (hB0.cell (p := ⟨Bs, 0, none⟩) hBs).trans HC.out
  have hRR := HR.out.below hB0
  obtain ⟨W0, hW0⟩ : ∃ W0, w.alloc (.cells #[.slice none 0 0] 51) = W0 := ⟨_, rfl⟩
  rw [hW0] at bS hB0 hsz hcc hRR ⊢
  clear hW0
  refine wpIn_rangeFunc_ownH hro h1 (gf := 40) (lb := #[.pointer (some ⟨Bs, 0, none⟩)]) rfl hf2 (enters_of Try.func40 (by kernel_rfl) rfl)
    (values_stops F (n - 1) hf2 hro (by omega) Bs w.heap.size a cap L hreach W0 (by omega) (by omega) hcc hRR) belowK_t (belowK_b (by omega)) (Below.refl _ _) (fun _ => rfl)
    (fun pre W => (∃ v, Boxed W w.heap.size 51 v ∧ W.ownsRow w.heap.size 58 3 v pre.length (flat pre) ∧ True) ∧ Below w.heap.size w W)
    (fun _ _ _ => False)
    (OwnFrom.and (Own.from (holdsRow_own w.heap.size w.heap.size 51 58 3 (fun pre : List Item => pre.length) (fun pre => flat pre) (fun _ _ => True)) _) (ownFrom_below (Nat.le_refl _) (by omega)))
    (fun _ _ _ _ _ hs _ _ => hs)
    ⟨⟨_, bS, World.ownsRow_nil _ _ _ _, trivial⟩, hB0⟩
    (fun x a' W => ∃ Bx, w.heap.size < Bx ∧ IBox W Bx x ∧ a' = { tmps := #[.slice none 0 0, .func (.func 40) #[] #[.pointer (some ⟨Bs, 0, none⟩)], .pointer (some ⟨w.heap.size, 0, none⟩), undef, .slice none 0 0, .pointer (some ⟨Bx, 0, none⟩), .func (.func 40) #[] #[.pointer (some ⟨Bs, 0, none⟩)], Item.val x, undef, undef, undef, undef, undef], defers := [] })
    (fun x a' _ X Y row hs hg hr => by
      obtain ⟨Bx, h1, h2, h3⟩ := hs
      refine ⟨Bx, h1, ?_, h3⟩
      have hlt := h2.blk.lt
      refine (hg.block Bx hlt fun e => ?_).trans h2
      obtain ⟨_, o, ho, hcs⟩ := hr Bx e.symm
      rw [show X.heap[Bx]? = _ from h2] at ho
      cases ho
      cases hcs)
    ?assign ?body ?done ?stop
  case assign =>
    rintro l pre ⟨d, nu, xx⟩ W K ⟨⟨v, hv, hrow, _⟩, hB⟩ hK
    show Code.wpIn _ _ _ _ _ { tmps := _, defers := [] } W
    simp only [Item.val]
    gi_wp2
    exact hK _ _ ((KeepsOthers.alloc _ _).from _) ((Below.refl _ W).alloc hB.size _) ⟨⟨_, hv.alloc _, hrow.alloc _, trivial⟩, hB.alloc hB.size _⟩ ⟨W.heap.size, hv.lt, Blk.new W [.int .i64 d, .int .i64 nu, .int .i64 xx] 58, rfl⟩
  case body =>
    rintro l pre ⟨d, nu, xx⟩ a' W hl ⟨r, hr⟩ ⟨⟨v, hv, hrow, _⟩, hB⟩ ⟨Bx, hBx, bX, rfl⟩ hlt
    have hc := hv.cell
    have x0 := bX.blk.cell 0
    have x1 := bX.blk.cell 1
    have x2 := bX.blk.cell 2
    simp only [List.getElem?_cons_zero, List.getElem?_cons_succ] at x0 x1 x2
    clear hl hr bX
    gi_wp2_with (gi_at_builtin; refine wpListIn_append_own _ rfl _ _ 51 rfl w.heap.size 58 i0 (.agg #[.int .i64 0, .int .i64 0, .int .i64 0]) 3 24 Try.underlying51 hi hz0 hz1 hz2 rfl (by decide) _ _ _ rfl (hrow.alloc _) ⟨W.heap.size, 0, none⟩ 1 1 [.int .i64 d, .int .i64 nu, .int .i64 xx] rfl rfl (seqNew _ _ _ _) (enc_one ⟨d, nu, xx⟩) (by unfold maxLen; omega) (by omega) (by have := hB.size; simp; omega) ?_; intro v' w1 hown' hgrow _; obtain ⟨g', cap', rfl⟩ := ownsRow_succ hown'; obtain ⟨hv1, hv2, hr2, hk2, hb2⟩ := hv.appended (by decide) hrow hB.size (Nat.le_refl _) hown' hgrow; have hc1 := hv1.cell; have hf1 := hv1.frozen)
    exact ⟨hk2.from _, hb2, ⟨_, hv2, by rw [List.length_append, flat_append]; exact hr2, trivial⟩, hB.trans hb2⟩
  case done =>
    rintro D ys W hD rfl ⟨⟨v, hv, hrow, _⟩, hB⟩ hK
    have hc := hv.cell
    gi_wp2
    refine ⟨by simp, .inl ⟨_, _, rfl, run_takeDeferred hK, ?_⟩⟩
    exact ⟨_, results_tmp rfl _ _ _, v, rfl, ownsRow_putObj hrow _ hK rfl, hB.trans (belowK_b (w := w) (Nat.le_refl _) W D _ _ (by omega) hK rfl rfl)⟩
  case stop =>
    rintro D c pre W _ _ h _
    exact h.elim

set_option maxHeartbeats 1000000 in
theorem collect_in (F : Fence) (n : Nat) (hf0 : F.fn 38) (hf : F.fn 43) (hf2 : F.fn 40) (hro : F.round = none) (hn : 3 ≤ n) (Bs : Nat) (a : Option Addr) (cap : Nat) (L : List Item) (hreach : (L.length : Int) ≤ 100000) (w : World) (hBs : Bs < w.heap.size)
    (hc : w.cell? ⟨Bs, 0, none⟩ = some (.slice a L.length cap)) (hR : IRd w.heap.size w a L) :
    CallsIn F n Try.prog 38 #[.func (.func 40) #[] #[.pointer (some ⟨Bs, 0, none⟩)]] w fun e w' => ∃ v, e = .returned v ∧ IOwn w' w.heap.size v L ∧ Below w.heap.size w w' := by
  have h1 : 1 ≤ n := by omega
  have hA := appendSeq_in F (n - 1) hf hf2 hro (by omega) Bs a cap L hreach w hBs hc hR
  refine callsIn_of_wp Try.func38 rfl hf0 ?_ hro
  simp only [Try.ntmps38, List.size_toArray, List.length_cons, List.length_nil, Nat.reduceAdd, Nat.reduceSub, Array.replicate_succ, Array.replicate_zero, List.push_toArray, List.append_toArray, List.nil_append, List.cons_append]
  gi_wp2_with (gi_at_call 43; refine hA.mono ?_; rintro e w' ⟨v, rfl, hrow, hb⟩)
  go_ret
  exact ⟨v, rfl, hrow, hb⟩
theorem collect_any (Bs : Nat) (a : Option Addr) (cap : Nat) (L : List Item) (hreach : (L.length : Int) ≤ 100000) (w : World) (hBs : Bs < w.heap.size)
    (hc : w.cell? ⟨Bs, 0, none⟩ = some (.slice a L.length cap)) (hR : IRd w.heap.size w a L) :
    Calls Try.prog 38 #[.func (.func 40) #[] #[.pointer (some ⟨Bs, 0, none⟩)]] w fun e w' => ∃ v, e = .returned v ∧ IOwn w' w.heap.size v L ∧ Below w.heap.size w w' :=
  callsIn_wide.1 (collect_in Fence.wide 5 trivial trivial trivial rfl (by decide) Bs a cap L hreach w hBs hc hR)
theorem values_any (a : Option Addr) (len cap : Nat) (w : World) :
    Calls Try.prog 27 #[.slice a len cap] w fun e w' => e = .returned (.func (.func 40) #[] #[.pointer (some ⟨w.heap.size, 0, none⟩)]) ∧ w' = w.alloc (.cells #[.slice a len cap] 52) :=
  callsIn_wide.1 (values_in Fence.wide 5 trivial rfl a len cap w)
end Go.Proofs.Ytdbpcogbednokaa
