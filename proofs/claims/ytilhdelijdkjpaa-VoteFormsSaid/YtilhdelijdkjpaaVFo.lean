/-
  four: a number as four bytes.
-/
import Derived.Test.YtilhdelijdkjpaaVL
set_option linter.unusedVariables false
set_option linter.unusedSimpArgs false
namespace Go.Proofs.Ytilhdelijdkjpaa
open Go Go.RowKit Go.Maps Sac

theorem rb_four (w : World) (n : Nat) (hn : n < 4294967296) : RB (w.alloc (.cells #[.int .u8 ((n : Int) / 16777216), .int .u8 ((n : Int) / 65536 % 256), .int .u8 ((n : Int) / 256 % 256), .int .u8 ((n : Int) % 256)] 5)) (.slice (some ⟨w.heap.size, 0, none⟩) 4 4) (four n) := by
  refine ⟨some ⟨w.heap.size, 0, none⟩, 4, rfl, Nat.le_refl _, by decide, (fun h => by cases h), ?_, fun x hx => ?_⟩
  · have hb : ∀ l : List Value, l = [.int .u8 ((n : Int) / 16777216), .int .u8 ((n : Int) / 65536 % 256), .int .u8 ((n : Int) / 256 % 256), .int .u8 ((n : Int) % 256)] → Blk (w.alloc (.cells #[.int .u8 ((n : Int) / 16777216), .int .u8 ((n : Int) / 65536 % 256), .int .u8 ((n : Int) / 256 % 256), .int .u8 ((n : Int) % 256)] 5)) w.heap.size 5 l := fun l h => by rw [h]; exact Blk.new w _ _
    have e : (four n).map by8 ++ [] = [.int .u8 ((n : Int) / 16777216), .int .u8 ((n : Int) / 65536 % 256), .int .u8 ((n : Int) / 256 % 256), .int .u8 ((n : Int) % 256)] := by
      have e1 : ((n / 16777216 % 256 : Nat) : Int) = (n : Int) / 16777216 := by omega
      have e2 : ((n / 65536 % 256 : Nat) : Int) = (n : Int) / 65536 % 256 := by omega
      have e3 : ((n / 256 % 256 : Nat) : Int) = (n : Int) / 256 % 256 := by omega
      have e4 : ((n % 256 : Nat) : Int) = (n : Int) % 256 := by omega
      simp only [four, List.map_cons, List.map_nil, by8, e1, e2, e3, e4, List.append_nil]
    exact (hb _ e).rd
  · simp only [four, List.mem_cons, List.not_mem_nil, or_false] at hx
    omega

set_option maxRecDepth 100000 in
set_option maxHeartbeats 2000000 in
theorem four_own (base : Nat) (v : Value) (bs : Bs) (n : Nat) (w : World) (h : Buf w base v bs) (hn : n < 4294967296) (hlen : bs.length ≤ 10000000000000) (hbase : base ≤ w.heap.size) :
    Calls Try.prog 58 #[v, .int .i64 (n : Int)] w fun e w' => ∃ v', e = .returned v' ∧ Buf w' base v' (bs ++ four n) ∧ Only (fun k => v.ownBlock = some k) w w' ∧ (∀ k, v'.ownBlock = some k → v.ownBlock = some k ∨ w.heap.size ≤ k) := by
  have H := Lib.hid h
  have HN := Lib.hid hn
  clear h
  go_enter Try.func58, Try.ntmps58
  have HBW : Hid (Below w.heap.size w (w.alloc (.cells #[.int .u8 ((n : Int) / 16777216), .int .u8 ((n : Int) / 65536 % 256), .int .u8 ((n : Int) / 256 % 256), .int .u8 ((n : Int) % 256)] 5))) := (Below.refl _ w).alloc (Nat.le_refl _) _
  have HR := Lib.hid (rb_four w n hn)
  go_wp2_with (first | (refine wpList_append_buf _ rfl (.tmp 5) (.tmp 17) rfl base _ bs rfl (H.out.below HBW.out) _ (four n) rfl HR.out (by simp only [four, List.length_cons, List.length_nil]; omega) (Nat.le_trans hbase HBW.out.size) ?_; intro v' w' hbuf hgr hown; have HBF := Lib.hid hbuf; have HGR := Lib.hid hgr; have HOWN := Lib.hid hown; clear hbuf hgr hown))
  go_ret
  exact ⟨_, rfl, HBF.out, (Only.below HBW.out).grown HGR.out (fun k e _ => e), fun k hk => (HOWN.out k hk).imp id (fun h => Nat.le_trans HBW.out.size h)⟩

theorem four_any (base : Nat) (v : Value) (bs : Bs) (n : Nat) (w : World) (h : Buf w base v bs) (hn : n < 4294967296) (hlen : bs.length ≤ 10000000000000) (hbase : base ≤ w.heap.size) :
    Calls Try.prog 58 #[v, .int .i64 (n : Int)] w fun e w' => ∃ v', e = .returned v' ∧ Buf w' base v' (bs ++ four n) ∧ Only (fun k => v.ownBlock = some k) w w' :=
  (four_own base v bs n w h hn hlen hbase).mono fun e w' ⟨v', a, b, c, _⟩ => ⟨v', a, b, c⟩

end Go.Proofs.Ytilhdelijdkjpaa
