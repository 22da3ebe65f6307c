/-
  The law's example of dealings.
-/
import Derived.Test.YthefednendgclaaGreatLaw10
import Derived.Test.YthefednendgclaaGreatDealT
set_option linter.unusedVariables false
set_option linter.unusedSimpArgs false
namespace Go.Proofs.YthefednendgclaaGreat
open Go Go.RowKit Sac NT

set_option maxRecDepth 100000 in
set_option maxHeartbeats 4000000 in
theorem lives14_any (w : World) : Calls Tryz.prog 23 #[] w fun e w' => e = .returned (.bool true) ∧ Below w.heap.size w w' := by
  go_enter Tryz.func23, Tryz.ntmps23
  go_wp2_with fail
  refine (group_any 0 w).mono ?_
  rintro e w2 ⟨g, rfl, hg, hb2⟩
  have HG2 := Lib.hid hg
  have HB2 := Lib.hid hb2
  clear hg hb2
  go_wp2_with fail
  refine (new_s 3 w2 (by decide)).mono ?_
  rintro e w3 ⟨xa, xl, xc, rfl, hx, hb3⟩
  have HX3 := Lib.hid hx
  have HG3 := Lib.hid (GroupAt.below HG2.out hb3)
  have HB3 := Lib.hid (HB2.out.trans (hb3.mono HB2.out.size))
  clear hx hb3 HB2 HG2
  go_wp2_with fail
  refine (new_s 5 w3 (by decide)).mono ?_
  rintro e w4 ⟨ya, yl, yc, rfl, hy, hb4⟩
  have HY4 := Lib.hid hy
  have HX4 := Lib.hid (HX3.out.below hb4)
  have HG4 := Lib.hid (GroupAt.below HG3.out hb4)
  have HB4 := Lib.hid (HB3.out.trans (hb4.mono HB3.out.size))
  clear hy hb4 HB3 HG3 HX3
  have HBX : Hid (Blk (w4.alloc (Obj.cells #[.int .u64 2, .int .u64 7] 23)) w4.heap.size 23 [.int .u64 2, .int .u64 7]) := Blk.new w4 _ _
  have HBY := Lib.hid ((Below.refl _ w4).alloc (Nat.le_refl _) (Obj.cells #[Value.int .u64 2, Value.int .u64 7] 23))
  go_wp2_with fail
  obtain ⟨wx, hwx⟩ : ∃ wx, w4.alloc (Obj.cells #[Value.int .u64 2, Value.int .u64 7] 23) = wx := ⟨_, rfl⟩
  obtain ⟨B, hB⟩ : ∃ B, B = w4.heap.size := ⟨_, rfl⟩
  rw [hwx, ← hB]
  rw [hwx, ← hB] at HBX
  rw [hwx] at HBY
  have HXX := Lib.hid (HX4.out.below HBY.out)
  have HYX := Lib.hid (HY4.out.below HBY.out)
  have HGX := Lib.hid (GroupAt.below HG4.out HBY.out)
  have HB0 := Lib.hid (HB4.out.trans (HBY.out.mono HB4.out.size))
  clear hwx hB HBY HB4 HX4 HY4 HG4
  refine (nums_any (some ⟨B, 0, none⟩) 2 2 [2, 7] wx (RdC.of_blk HBX.out) rfl (by decide) (by decide) (by decide)).mono ?_
  rintro e w5 ⟨v, rfl, hrow, hb5⟩
  obtain ⟨pa, pc, rfl, hp1, hp2, hat, _⟩ := hrow.form
  have HAT5 := Lib.hid hat
  have HX5 := Lib.hid (HXX.out.below hb5)
  have HY5 := Lib.hid (HYX.out.below hb5)
  have HG5 := Lib.hid (GroupAt.below HGX.out hb5)
  have HB5 := Lib.hid (HB0.out.trans (hb5.mono HB0.out.size))
  have hpc : ((2 : Nat) : Int) ≤ pc := by have : [2, 7].length = 2 := rfl; omega
  clear hrow hb5 hat hp1 hp2 HXX HYX HGX HB0 HBX
  go_wp2_with fail
  refine (dnew_any g _ _ _ _ _ 2 xa xl xc 3 ya yl yc 5 pa 2 pc [2, 7] w5 HG5.out (by decide) (by decide) HX5.out HY5.out HAT5.out rfl hpc (by decide) (by decide)).mono ?_
  rintro e w6 ⟨va, ca, vb, cb, rfl, hva, hvb, hV, hM, hb6⟩
  have HV6 := Lib.hid hV
  have HM6 := Lib.hid hM
  have HG6 := Lib.hid (GroupAt.below HG5.out hb6)
  have HB6 := Lib.hid (HB5.out.trans (hb6.mono HB5.out.size))
  clear hV hM hva hvb hb6 hpc HX5 HY5 HAT5 HG5 HB5
  go_wp2_with fail
  have HBD := Lib.hid ((Below.refl _ w6).alloc (Nat.le_refl _) (Obj.cells #[Value.slice va 2 ca, Value.slice vb 2 cb] 56))
  generalize w6.alloc (Obj.cells #[Value.slice va 2 ca, Value.slice vb 2 cb] 56) = w7 at HBD ⊢
  have HV7 := Lib.hid (HV6.out.below HBD.out)
  have HM7 := Lib.hid (HM6.out.below HBD.out)
  have HG7 := Lib.hid (GroupAt.below HG6.out HBD.out)
  have HB7 := Lib.hid (HB6.out.trans (HBD.out.mono HB6.out.size))
  clear HBD HV6 HM6 HG6 HB6
  refine (dshare_any g _ _ _ _ _ va 2 ca (dvF (gQ (kOf 0)) 3 [2, 7] (2 - 1)) vb 2 cb (dvF (gQ (kOf 0)) 5 (List.drop (2 - 1) [2, 7]) (2 - 1)) 4 w7 HG7.out (by decide) (by decide) HV7.out rfl (by decide) HM7.out rfl (by decide)).mono ?_
  have hv : evalm (gQ (kOf 0)) (dvF (gQ (kOf 0)) 3 [2, 7] (2 - 1)) (4 % gQ (kOf 0)) = 11 := by
    have : kOf 0 = 0 := by decide
    rw [this]; decide
  have hm : evalm (gQ (kOf 0)) (dvF (gQ (kOf 0)) 5 (List.drop (2 - 1) [2, 7]) (2 - 1)) (4 % gQ (kOf 0)) = 33 := by
    have : kOf 0 = 0 := by decide
    rw [this]; decide
  rw [hv, hm]
  clear hv hm HV7 HM7 HG7
  rintro e w8 ⟨sa, sl, sc, ra, rl, rc, rfl, hS, hR, hb8⟩
  have HS8 := Lib.hid hS
  have HR8 := Lib.hid hR
  have HB8 := Lib.hid (HB7.out.trans (hb8.mono HB7.out.size))
  clear hS hR hb8 HB7
  go_wp2_with fail
  have hBZ : Blk (w8.alloc (Obj.cells #[Value.slice sa sl sc, Value.slice ra rl rc] 64)) w8.heap.size 64 [.slice sa sl sc, .slice ra rl rc] := Blk.new w8 _ _
  have hBS := (Below.refl _ w8).alloc (Nat.le_refl _) (Obj.cells #[Value.slice sa sl sc, Value.slice ra rl rc] 64)
  have HS9 := Lib.hid (HS8.out.below hBS)
  have HR9 := Lib.hid (HR8.out.below hBS)
  have HB9 := Lib.hid (HB8.out.trans (hBS.mono HB8.out.size))
  clear hBS HS8 HR8 HB8
  generalize w8.alloc (Obj.cells #[Value.slice sa sl sc, Value.slice ra rl rc] 64) = w9 at hBZ HS9 HR9 HB9 ⊢
  generalize w8.heap.size = Z at hBZ ⊢
  have g0 : ∀ w', BB w9 w' → w'.cell? ⟨Z, 0, none⟩ = some (.slice sa sl sc) := fun w' hb => (BB.cell hb hBZ.lt).trans (hBZ.cell 0)
  have g1 : ∀ w', BB w9 w' → w'.cell? ⟨Z, 1, none⟩ = some (.slice ra rl rc) := fun w' hb => (BB.cell hb hBZ.lt).trans (hBZ.cell 1)
  clear hBZ
  have q0 := g0 w9.drew (BB.drew (BB.refl _))
  go_region_held3 (fun w' => BB w9 w') (first | assumption | exact BB.drew (BB.refl _))
    (first
      | (go_at_call 31; refine (cmp_s ra ua rl rc ul uc 33 33 w12 (HR9.out.below hbb12) HU12.out).mono ?_; rw [cmp_self]; rintro e w13 ⟨rfl, hb13⟩; have hbb13 : BB w9 w13 := BB.step hbb12 hb13; clear hb13)
      | (go_at_call 13; refine (new_s 33 w11 (by decide)).mono ?_; rintro e w12 ⟨ua, ul, uc, rfl, hu, hb12⟩; have hbb12 : BB w9 w12 := BB.step hbb11 hb12; have HU12 := Lib.hid hu; have q12 := g1 _ hbb12; clear hu hb12)
      | (go_at_call 31; refine (cmp_s sa za sl sc zl zc 11 11 w10 (HS9.out.below hbb10) HZ10.out).mono ?_; rw [cmp_self]; rintro e w11 ⟨rfl, hb11⟩; have hbb11 : BB w9 w11 := BB.step hbb10 hb11; have q11 := g1 _ hbb11; clear hb11)
      | (go_at_call 13; refine (new_s 11 w9.drew (by decide)).mono ?_; rintro e w10 ⟨za, zl, zc, rfl, hz, hb10⟩; have hbb10 : BB w9 w10 := BB.step (BB.drew (BB.refl w9)) hb10; have HZ10 := Lib.hid hz; have q10 := g0 _ hbb10; clear hz hb10))
  all_goals (
    go_wp2_with fail
    go_ret
    exact ⟨rfl, HB9.out.trans (hbb13.mono HB9.out.size)⟩)
end Go.Proofs.YthefednendgclaaGreat
