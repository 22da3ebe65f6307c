/-
  The law's field; the chapter's example.
-/
import Derived.Test.YthefednendgclaaLaw9e
import Derived.Test.YthefednendgclaaNums
import Derived.Test.YthefednendgclaaCurve2
set_option linter.unusedVariables false
set_option linter.unusedSimpArgs false
namespace Go.Proofs.Ythefednendgclaa
open Go Go.RowKit Sac NT

set_option maxRecDepth 100000 in
set_option maxHeartbeats 4000000 in
theorem field_any (n : Int) (w : World) :
    Calls Try.prog 30 #[.int .i64 n] w fun e w' => ∃ r, e = .returned (.pointer (some ⟨r, 0, none⟩)) ∧ RingAt w' r (gQ (kOf n)) ∧ Below w.heap.size w w' := by
  go_enter Try.func30, Try.ntmps30
  go_wp2_with fail
  refine (group_any n w).mono ?_
  rintro e w2 ⟨g, rfl, hg, hb2⟩
  have HG := Lib.hid hg
  have HB2 := Lib.hid hb2
  clear hg hb2
  go_wp2_with fail
  refine (gfield_any g _ _ _ _ _ w2 HG.out).mono ?_
  rintro e w3 ⟨r, rfl, hr, hb3⟩
  have HR := Lib.hid hr
  have HB3 := Lib.hid (HB2.out.trans (hb3.mono HB2.out.size))
  clear hr hb3
  go_wp2_with fail
  go_ret
  exact ⟨r, rfl, HR.out, HB3.out⟩

set_option maxRecDepth 100000 in
set_option maxHeartbeats 4000000 in
theorem lives_any (w : World) : Calls Try.prog 16 #[] w fun e w' => e = .returned (.bool true) ∧ Below w.heap.size w w' := by
  go_enter Try.func16, Try.ntmps16
  go_wp2_with fail
  refine (field_any 0 w).mono ?_
  rintro e w2 ⟨r, rfl, hr, hb2⟩
  have HR2 := Lib.hid hr
  have HB2 := Lib.hid hb2
  have HBX : Hid (Blk (w2.alloc (Obj.cells #[.int .u64 3, .int .u64 2, .int .u64 1] 23)) w2.heap.size 23 [.int .u64 3, .int .u64 2, .int .u64 1]) := Blk.new w2 _ _
  have HB3 := Lib.hid ((Below.refl _ w2).alloc (Nat.le_refl _) (Obj.cells #[Value.int .u64 3, Value.int .u64 2, Value.int .u64 1] 23))
  clear hr hb2
  go_wp2_with fail
  obtain ⟨wx, hwx⟩ : ∃ wx, w2.alloc (Obj.cells #[Value.int .u64 3, Value.int .u64 2, Value.int .u64 1] 23) = wx := ⟨_, rfl⟩
  obtain ⟨B, hB⟩ : ∃ B, B = w2.heap.size := ⟨_, rfl⟩
  rw [hwx, ← hB]
  rw [hwx, ← hB] at HBX
  rw [hwx] at HB3
  have HRX := Lib.hid (HR2.out.below HB3.out)
  have HB0 := Lib.hid (HB2.out.trans (HB3.out.mono HB2.out.size))
  clear hwx hB HB3 HB2 HR2
  refine (nums_any (some ⟨B, 0, none⟩) 3 3 [3, 2, 1] wx (RdC.of_blk HBX.out) rfl (by decide) (by decide) (by decide)).mono ?_
  rintro e w3 ⟨v, rfl, hrow, hb3⟩
  obtain ⟨pa, pc, rfl, hp1, hp2, hat, _⟩ := hrow.form
  have HAT3 := Lib.hid hat
  have HR3 := Lib.hid (HRX.out.below hb3)
  have HB4 := Lib.hid (HB0.out.trans (hb3.mono HB0.out.size))
  clear hrow hb3 hat hp1 hp2 HRX HB0 HBX
  go_wp2_with fail
  refine (new_s 2 w3 (by decide)).mono ?_
  rintro e w4 ⟨xa, xl, xc, rfl, hx, hb4⟩
  have HX4 := Lib.hid hx
  have HR4 := Lib.hid (HR3.out.below hb4)
  have HAT4 := Lib.hid (HAT3.out.below hb4)
  have HB5 := Lib.hid (HB4.out.trans (hb4.mono HB4.out.size))
  clear hx hb4 HR3 HAT3 HB4
  go_wp2_with fail
  refine (eval_any r _ pa 3 pc [3, 2, 1] xa xl xc 2 w4 HR4.out HAT4.out rfl (by decide) HX4.out).mono ?_
  rintro e w5 ⟨ya, yl, yc, rfl, hy, hb5⟩
  have hv : evalm (gQ (kOf 0)) [3, 2, 1] (2 % gQ (kOf 0)) = 11 := by
    have : kOf 0 = 0 := by decide
    rw [this]; decide
  rw [hv] at hy
  have HY5 := Lib.hid hy
  have HB6 := Lib.hid (HB5.out.trans (hb5.mono HB5.out.size))
  clear hy hb5 HB5 HX4 HR4 HAT4
  go_wp2_with fail
  refine (new_s 11 w5 (by decide)).mono ?_
  rintro e w6 ⟨za, zl, zc, rfl, hz, hb6⟩
  have HZ6 := Lib.hid hz
  have HY6 := Lib.hid (HY5.out.below hb6)
  have HB7 := Lib.hid (HB6.out.trans (hb6.mono HB6.out.size))
  clear hz hb6 HB6 HY5
  go_wp2_with fail
  refine (cmp_s ya za yl yc zl zc 11 11 w6 HY6.out HZ6.out).mono ?_
  rw [cmp_self]
  rintro e w7 ⟨rfl, hb7⟩
  have HB8 := Lib.hid (HB7.out.trans (hb7.mono HB7.out.size))
  clear hb7 HB7
  go_wp2_with fail
  go_ret
  exact ⟨rfl, HB8.out⟩
end Go.Proofs.Ythefednendgclaa
