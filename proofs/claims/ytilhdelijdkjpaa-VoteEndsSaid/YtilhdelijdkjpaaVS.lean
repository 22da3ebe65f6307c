/-
  bytes.Equal, slices.Clone at bytes, quorum.
-/
import Derived.Test.YtilhdelijdkjpaaVC
import Derived.Lib.SliceRun
import Derived.Lib.SlicesS
set_option linter.unusedVariables false
set_option linter.unusedSimpArgs false
namespace Go.Proofs.Ytilhdelijdkjpaa
open Go Go.RowKit Sac

theorem RB.lt {w : World} {v : Value} {bs : List Nat} (h : RB w v bs) : ∀ x ∈ bs, x < 256 := by
  obtain ⟨_, _, _, _, _, _, _, h6⟩ := h
  exact h6
theorem strB_beq {l m : List Nat} (hl : ∀ x ∈ l, x < 256) (hm : ∀ x ∈ m, x < 256) : decide (strB l = strB m) = (l == m) := by
  by_cases h : l = m
  · subst h; simp
  · rw [show (l == m) = false from by simpa using h, decide_eq_false_iff_not]
    exact fun e => h (strB_inj hl hm e)

set_option maxHeartbeats 400000 in
theorem equal_any (x y : Value) (a b : Bs) (w : World) (hx : RB w x a) (hy : RB w y b) :
    Calls Try.prog 71 #[x, y] w fun e w' => e = .returned (.bool (a == b)) ∧ w' = w := by
  have h1 := rb_str hx
  have h2 := rb_str hy
  have he := strB_beq hx.lt hy.lt
  go_enter Try.func71, Try.ntmps71
  go_wp2_with fail
  go_ret
  refine ⟨ret_bool ?_, rfl⟩
  rw [← he]
  cases hb : ((strB a).toList == (strB b).toList)
  · exact (decide_eq_false (fun e => by rw [(Go.Lib.bytes_beq_iff _ _).2 e] at hb; cases hb)).symm
  · exact (decide_eq_true ((Go.Lib.bytes_beq_iff _ _).1 hb)).symm

set_option maxRecDepth 100000 in
set_option maxHeartbeats 400000 in
theorem clone_in (x : Value) (a : Bs) (w : World) (hx : IB w x a) (hlen : a.length ≤ 10000000000000) :
    Calls Try.prog 62 #[x] w fun e w' => ∃ v, e = .returned v ∧ Buf w' w.heap.size v a ∧ Below w.heap.size w w' := by
  have hx0 := hx
  obtain ⟨ad, cap, rfl, h2, h3, h4, h5, h6⟩ := hx0
  rcases ad with _ | ad
  · obtain rfl := h4 rfl
    have hE : (binOp .eql 29 (.slice none 0 cap) (.slice none 0 0)).run Try.prog w = .ok (.bool true) w := Lib.run_eql_slice_nil (P := Try.prog) w _ 5 none 0 cap 0 0 Try.underlying29
    go_enter Try.func62, Try.ntmps62
    go_wp2_with fail
    go_ret
    exact ⟨_, rfl, Buf.nil w _, Below.refl _ w⟩
  · have HX := Lib.hid (hx.below ((Below.refl _ w).alloc (Nat.le_refl _) (.cells #[] 5)))
    have hB : Buf (w.alloc (.cells #[] 5)) w.heap.size (.slice (some ⟨w.heap.size, 0, none⟩) 0 0) [] := ⟨fun x hx => (by cases hx), .inr ⟨w.heap.size, 0, 0, [], [], rfl, Nat.le_refl _, Blk.new w [] 5, rfl, ⟨Nat.le_refl _, Nat.le_refl _⟩, by decide⟩⟩
    have HB := Lib.hid hB
    have hE : (binOp .eql 29 (.slice (some ad) a.length cap) (.slice none 0 0)).run Try.prog w = .ok (.bool false) w := Lib.run_eql_slice_nil (P := Try.prog) w _ 5 (some ad) a.length cap 0 0 Try.underlying29
    obtain ⟨n, hn⟩ : ∃ n, a.length = n := ⟨_, rfl⟩
    rw [hn] at hE HX ⊢
    have HN := Lib.hid hn
    have hn7 : n ≤ 10000000000000 := by omega
    clear hn hB hx h5 h6
    go_enter Try.func62, Try.ntmps62
    go_wp2_with (first | fail | refine wpList_append_in _ rfl (.tmp 5) (.tmp 6) rfl w.heap.size _ [] rfl HB.out _ a rfl HX.out (by have := HN.out; simp; omega) (by simp) ?_; intro v' w' hbuf hg hf)
    go_ret
    refine ⟨_, rfl, hbuf, ?_⟩
    exact ((Only.refl (fun k => w.heap.size ≤ k) w).alloc _ |>.grown hg (fun k e _ => by cases e; exact Nat.le_refl _)).toBelow (Nat.le_refl _) (fun _ h => h)

theorem clone_any (x : Value) (a : Bs) (w : World) (hx : RB w x a) (hlen : a.length ≤ 10000000000000) :
    Calls Try.prog 62 #[x] w fun e w' => ∃ v, e = .returned v ∧ Buf w' w.heap.size v a ∧ Below w.heap.size w w' := clone_in x a w hx.ib hlen

end Go.Proofs.Ytilhdelijdkjpaa
