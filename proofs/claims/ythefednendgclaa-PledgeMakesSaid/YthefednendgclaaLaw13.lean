/-
  The law's example of pledges.
-/
import Derived.Test.YthefednendgclaaLaw10
import Derived.Test.YthefednendgclaaPledge1
set_option linter.unusedVariables false
set_option linter.unusedSimpArgs false
namespace Go.Proofs.Ythefednendgclaa
open Go Go.RowKit Sac NT

set_option maxRecDepth 100000 in
set_option maxHeartbeats 4000000 in
theorem lives13_any (w : World) : Calls Try.prog 40 #[] w fun e w' => e = .returned (.bool true) ∧ Below w.heap.size w w' := by
  have hk : kOf 0 = 0 := by decide
  have h1 : multi (gP 0) [gG 0, gH 0] [0, 0] = 1 := by decide +kernel
  have h2 : multi (gP 0) [gG 0, gH 0] [1, 0] = 64 := by decide +kernel
  have H1 := Lib.hid h1
  have H2 := Lib.hid h2
  have HK := Lib.hid hk
  clear hk h1 h2
  go_enter Try.func40, Try.ntmps40
  go_wp2_with fail
  refine (group_any 0 w).mono ?_
  rintro e w2 ⟨g, rfl, hg, hb2⟩
  rw [HK.out] at hg
  have HG2 := Lib.hid hg
  have HB2 := Lib.hid hb2
  clear hg hb2
  go_wp2_with fail
  refine (pof_any g _ _ _ _ _ none 0 0 0 none 0 0 0 w2 HG2.out (gP_one 0) (natS_nil _) (natS_nil _) (two_pos 1000) (two_pos 1000)).mono ?_
  rw [H1.out]
  rintro e w3 ⟨xa, xl, xc, rfl, hx, hb3⟩
  have HX3 := Lib.hid hx
  have HG3 := Lib.hid (GroupAt.below HG2.out hb3)
  have HB3 := Lib.hid (HB2.out.trans (hb3.mono HB2.out.size))
  clear hx hb3 HB2 HG2
  go_wp2_with fail
  refine (new_s 1 w3 (by decide)).mono ?_
  rintro e w4 ⟨ya, yl, yc, rfl, hy, hb4⟩
  have HY4 := Lib.hid hy
  have HX4 := Lib.hid (HX3.out.below hb4)
  have HG4 := Lib.hid (HG3.out.below hb4)
  have HB4 := Lib.hid (HB3.out.trans (hb4.mono HB3.out.size))
  clear hy hb4 HB3 HG3 HX3
  go_wp2_with fail
  refine (cmp_s xa ya xl xc yl yc 1 1 w4 HX4.out HY4.out).mono ?_
  rw [cmp_self]
  rintro e w5 ⟨rfl, hb5⟩
  have HG5 := Lib.hid (HG4.out.below hb5)
  have HB5 := Lib.hid (HB4.out.trans (hb5.mono HB4.out.size))
  clear hb5 HB4 HG4 HX4 HY4
  go_wp2_with fail
  refine (new_s 1 w5 (by decide)).mono ?_
  rintro e w6 ⟨ya, yl, yc, rfl, hy, hb6⟩
  have HY6 := Lib.hid hy
  have HG6 := Lib.hid (HG5.out.below hb6)
  have HB6 := Lib.hid (HB5.out.trans (hb6.mono HB5.out.size))
  clear hy hb6 HB5 HG5
  go_wp2_with fail
  refine (pof_any g _ _ _ _ _ ya yl yc 1 none 0 0 0 w6 HG6.out (gP_one 0) HY6.out (natS_nil _) (@one_two 1000 (by decide)) (two_pos 1000)).mono ?_
  rw [H2.out]
  rintro e w7 ⟨xa, xl, xc, rfl, hx, hb7⟩
  have HX7 := Lib.hid hx
  have HG7 := Lib.hid (HG6.out.below hb7)
  have HB7 := Lib.hid (HB6.out.trans (hb7.mono HB6.out.size))
  clear hx hb7 HB6 HG6 HY6
  go_wp2_with fail
  refine (gg_any g _ _ _ _ _ w7 HG7.out).mono ?_
  rintro e w8 ⟨ya, yl, yc, rfl, hy, hb8⟩
  have HY8 := Lib.hid hy
  have HX8 := Lib.hid (HX7.out.below hb8)
  have HB8 := Lib.hid (HB7.out.trans (hb8.mono HB7.out.size))
  clear hy hb8 HB7 HG7 HX7
  go_wp2_with fail
  refine (cmp_s xa ya xl xc yl yc 64 64 w8 HX8.out HY8.out).mono ?_
  rw [cmp_self]
  rintro e w9 ⟨rfl, hb9⟩
  have HB9 := Lib.hid (HB8.out.trans (hb9.mono HB8.out.size))
  clear hb9 HB8 HX8 HY8
  go_wp2_with fail
  go_ret
  exact ⟨rfl, HB9.out⟩
end Go.Proofs.Ythefednendgclaa
