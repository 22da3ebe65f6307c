/-
  Pledges: whether a value opens or fits them.
-/
import Derived.Test.YthefednendgclaaPledge3
import Derived.Test.YthefednendgclaaGrp3
set_option linter.unusedVariables false
set_option linter.unusedSimpArgs false
namespace Go.Proofs.Ythefednendgclaa
open Go Go.RowKit Sac

set_option maxRecDepth 100000 in
set_option maxHeartbeats 4000000 in
theorem pfits_any (g P Q G H sz : Nat) (a : Option Addr) (len cap : Nat) (p : List Nat) (xa : Option Addr) (xl xc x : Nat) (ya : Option Addr) (yl yc y : Nat) (w : World) (hr : GroupAt w g P Q G H sz) (h : NatsAt w a p) (hl : p.length = len) (hc : (len : Int) ≤ 10000) (hx : NatS w xa xl x) (hy : NatS w ya yl y) :
    Calls Try.prog 52 #[.pointer (some ⟨g, 0, none⟩), .slice a len cap, .agg #[.slice xa xl xc], .agg #[.slice ya yl yc]] w fun e w' => e = .returned (.bool (decide (evalx P p (x % Q) = G ^ y % P))) ∧ Below w.heap.size w w' := by
  obtain ⟨s, hs⟩ : ∃ s, s = w.heap.size := ⟨_, rfl⟩
  have hbA := (Below.refl _ w).alloc (Nat.le_refl _) (Obj.cells #[Value.slice xa xl xc] 33)
  have hbB : BB (w.alloc (Obj.cells #[Value.slice xa xl xc] 33)) ((w.alloc (Obj.cells #[Value.slice xa xl xc] 33)).alloc (Obj.cells #[Value.slice ya yl yc] 33)) := BB.alloc (BB.refl _)
  have E1 := (NE.init w s hs).alloc s hs hx (c := xc)
  have HE2 := Lib.hid (E1.alloc (s + 1) (by rw [hs]; simp) (hy.below hbA) (c := yc))
  have hbAB : BB w ((w.alloc (Obj.cells #[Value.slice xa xl xc] 33)).alloc (Obj.cells #[Value.slice ya yl yc] 33)) := BB.step hbA hbB
  have HR := Lib.hid (hr.below hbAB)
  have HP := Lib.hid (h.below hbAB)
  have HL := Lib.hid hl
  have HS := Lib.hid hs
  clear hr h hl hx hy E1 hbA hbB hbAB
  go_enter Try.func52, Try.ntmps52
  go_wp2_with fail
  rw [← hs]
  clear hs
  generalize (w.alloc (Obj.cells #[Value.slice xa xl xc] 33)).alloc (Obj.cells #[Value.slice ya yl yc] 33) = w1 at HE2 HR HP ⊢
  obtain ⟨xa, xl, xc, gX, NX⟩ := HE2.out.get 0 rfl
  obtain ⟨ya, yl, yc, gY, NY⟩ := HE2.out.get 1 rfl
  have HX := Lib.hid NX
  have HY := Lib.hid NY
  clear NX NY
  go_region_held3 (fun w' => BB w1 w') (first | assumption | exact BB.drew (BB.refl _))
    (first
      | (go_at_call 25; refine (cmp_s ta ua tl uc' ul ud _ _ w5 (HT2.out.below hb25) HU5.out).mono ?_; rintro e w6 ⟨rfl, hb6⟩; have hbb6 : BB w1 w6 := BB.step hbb5 hb6; clear hb6)
      | (go_at_call 21; refine (gexp_any g P Q G H sz oa ya ol oc yl yc _ _ w3 (HR.out.below hbb3) HO3.out (HY.out.below hbb3)).mono ?_; rintro e w5 ⟨ua, ul, ud, rfl, hu, hb5⟩; have hbb5 : BB w1 w5 := BB.step hbb3 hb5; have hb25 : BB w2 w5 := BB.step hb3 hb5; have HU5 := Lib.hid hu; clear hu hb5)
      | (go_at_call 22; refine (gg_any g P Q G H sz w2 (HR.out.below hbb2)).mono ?_; rintro e w3 ⟨oa, ol, oc, rfl, ho, hb3⟩; have hbb3 : BB w1 w3 := BB.step hbb2 hb3; have HO3 := Lib.hid ho; clear ho)
      | (go_at_call 46; refine (patx_any g P Q G H sz a len cap p xa xl xc x w1.drew HR.out.drew (HP.out.below (BB.drew (BB.refl _))) HL.out hc HX.out.drew).mono ?_; rintro e w2 ⟨ta, tl, uc', rfl, ht, hb2⟩; have hbb2 : BB w1 w2 := BB.step (BB.drew (BB.refl w1)) hb2; have HT2 := Lib.hid ht; clear ht hb2))
  go_wp2_with fail
  go_ret
  exact ⟨ret_bool (cmp_eq_dec _ _), HS.out ▸ HE2.out.bel.trans (Below.mono hbb6 HE2.out.base)⟩

set_option maxRecDepth 100000 in
set_option maxHeartbeats 4000000 in
theorem popens_any (g P Q G H sz : Nat) (hP1 : 1 < P) (a : Option Addr) (len cap : Nat) (p : List Nat) (xa : Option Addr) (xl xc x : Nat) (ya : Option Addr) (yl yc y : Nat) (za : Option Addr) (zl zc z : Nat) (w : World) (hr : GroupAt w g P Q G H sz) (h : NatsAt w a p) (hl : p.length = len) (hc : (len : Int) ≤ 10000) (hx : NatS w xa xl x) (hy : NatS w ya yl y) (hz : NatS w za zl z) (hys : y < 2 ^ 1000) (hzs : z < 2 ^ 1000) :
    Calls Try.prog 51 #[.pointer (some ⟨g, 0, none⟩), .slice a len cap, .agg #[.slice xa xl xc], .agg #[.slice ya yl yc], .agg #[.slice za zl zc]] w fun e w' => e = .returned (.bool (decide (evalx P p (x % Q) = multi P [G, H] [y, z]))) ∧ Below w.heap.size w w' := by
  obtain ⟨s, hs⟩ : ∃ s, s = w.heap.size := ⟨_, rfl⟩
  have hbA := (Below.refl _ w).alloc (Nat.le_refl _) (Obj.cells #[Value.slice xa xl xc] 33)
  have hbB : BB (w.alloc (Obj.cells #[Value.slice xa xl xc] 33)) ((w.alloc (Obj.cells #[Value.slice xa xl xc] 33)).alloc (Obj.cells #[Value.slice ya yl yc] 33)) := BB.alloc (BB.refl _)
  have hbC : BB ((w.alloc (Obj.cells #[Value.slice xa xl xc] 33)).alloc (Obj.cells #[Value.slice ya yl yc] 33)) (((w.alloc (Obj.cells #[Value.slice xa xl xc] 33)).alloc (Obj.cells #[Value.slice ya yl yc] 33)).alloc (Obj.cells #[Value.slice za zl zc] 33)) := BB.alloc (BB.refl _)
  have E1 := (NE.init w s hs).alloc s hs hx (c := xc)
  have E2 := E1.alloc (s + 1) (by rw [hs]; simp) (hy.below hbA) (c := yc)
  have HE2 := Lib.hid (E2.alloc (s + 1 + 1) (by rw [hs]; simp) ((hz.below hbA).below hbB) (c := zc))
  have hbAB : BB w (((w.alloc (Obj.cells #[Value.slice xa xl xc] 33)).alloc (Obj.cells #[Value.slice ya yl yc] 33)).alloc (Obj.cells #[Value.slice za zl zc] 33)) := BB.step (BB.step hbA hbB) hbC
  have HR := Lib.hid (hr.below hbAB)
  have HP := Lib.hid (h.below hbAB)
  have HL := Lib.hid hl
  have HS := Lib.hid hs
  have HC := Lib.hid (And.intro hP1 (And.intro hys hzs))
  clear hr h hl hx hy hz E1 E2 hbA hbB hbC hbAB hP1 hys hzs
  go_enter Try.func51, Try.ntmps51
  go_wp2_with fail
  rw [← hs]
  clear hs
  generalize ((w.alloc (Obj.cells #[Value.slice xa xl xc] 33)).alloc (Obj.cells #[Value.slice ya yl yc] 33)).alloc (Obj.cells #[Value.slice za zl zc] 33) = w1 at HE2 HR HP ⊢
  obtain ⟨xa, xl, xc, gX, NX⟩ := HE2.out.get 0 rfl
  obtain ⟨ya, yl, yc, gY, NY⟩ := HE2.out.get 1 rfl
  obtain ⟨za, zl, zc, gZ, NZ⟩ := HE2.out.get 2 rfl
  have HX := Lib.hid NX
  have HY := Lib.hid NY
  have HZ := Lib.hid NZ
  clear NX NY NZ
  go_region_held3 (fun w' => BB w1 w') (first | assumption | exact BB.drew (BB.refl _))
    (first
      | (go_at_call 25; refine (cmp_s ta ua tl uc' ul ud _ _ w5 (HT2.out.below hb5) HU5.out).mono ?_; rintro e w6 ⟨rfl, hb6⟩; have hbb6 : BB w1 w6 := BB.step hbb5 hb6; clear hb6)
      | (go_at_call 79; refine (pof_any g P Q G H sz ya yl yc y za zl zc z w2 (HR.out.below hbb2) HC.out.1 (HY.out.below hbb2) (HZ.out.below hbb2) HC.out.2.1 HC.out.2.2).mono ?_; rintro e w5 ⟨ua, ul, ud, rfl, hu, hb5⟩; have hbb5 : BB w1 w5 := BB.step hbb2 hb5; have HU5 := Lib.hid hu; clear hu)
      | (go_at_call 46; refine (patx_any g P Q G H sz a len cap p xa xl xc x w1.drew HR.out.drew (HP.out.below (BB.drew (BB.refl _))) HL.out hc HX.out.drew).mono ?_; rintro e w2 ⟨ta, tl, uc', rfl, ht, hb2⟩; have hbb2 : BB w1 w2 := BB.step (BB.drew (BB.refl w1)) hb2; have HT2 := Lib.hid ht; clear ht hb2))
  go_wp2_with fail
  go_ret
  exact ⟨ret_bool (cmp_eq_dec _ _), HS.out ▸ HE2.out.bel.trans (Below.mono hbb6 HE2.out.base)⟩
end Go.Proofs.Ythefednendgclaa
