import Derived.Test.YthefednendgclaaGreatDealT
import Derived.Test.YthefednendgclaaGreatPledge2
import Derived.Test.YthefednendgclaaGreatGrpA
set_option linter.unusedVariables false
set_option linter.unusedSimpArgs false
/-
  Deal and sign: how many bytes a number needs; are a share's numbers of the field?
-/
namespace Go.Proofs.YthefednendgclaaGreat
open Go Go.RowKit Sac

theorem cmp_neg_iff (n m : Nat) : cmpNat n m < 0 ↔ n < m := by unfold cmpNat; split <;> (try split) <;> omega

set_option maxRecDepth 100000 in
set_option maxHeartbeats 2000000 in
theorem dbelow_any (g P Q G H sz : Nat) (sa : Option Addr) (sl sc x : Nat) (ra : Option Addr) (rl rc y : Nat) (w : World) (hg : GroupAt w g P Q G H sz) (hs : NatS w sa sl x) (hr : NatS w ra rl y) :
    Calls Tryz.prog 72 #[.pointer (some ⟨g, 0, none⟩), .agg #[.slice sa sl sc, .slice ra rl rc]] w fun e w' => e = .returned (.bool (decide (x < Q ∧ y < Q))) ∧ Below w.heap.size w w' := by
  have hbA := (Below.refl _ w).alloc (Nat.le_refl _) (Obj.cells #[Value.slice sa sl sc, Value.slice ra rl rc] 64)
  have hB1 : Blk (w.alloc (Obj.cells #[Value.slice sa sl sc, Value.slice ra rl rc] 64)) w.heap.size 64 [.slice sa sl sc, .slice ra rl rc] := Blk.new w _ _
  have HG := Lib.hid (hg.below hbA)
  have HS := Lib.hid (hs.below hbA)
  have HR := Lib.hid (hr.below hbA)
  have HB := Lib.hid hbA
  clear hg hs hr hbA
  go_enter Tryz.func72, Tryz.ntmps72
  go_wp2_with fail
  generalize w.alloc (Obj.cells #[Value.slice sa sl sc, Value.slice ra rl rc] 64) = w1 at hB1 HG HS HR HB ⊢
  have g0 : ∀ w', BB w1 w' → w'.cell? ⟨w.heap.size, 0, none⟩ = some (.slice sa sl sc) := fun w' hb => (BB.cell hb hB1.lt).trans (hB1.cell 0)
  have g1 : ∀ w', BB w1 w' → w'.cell? ⟨w.heap.size, 1, none⟩ = some (.slice ra rl rc) := fun w' hb => (BB.cell hb hB1.lt).trans (hB1.cell 1)
  clear hB1
  refine (gfield_any g P Q G H sz w1 HG.out).mono ?_
  rintro e w2 ⟨r, rfl, hq, hb2⟩
  have HQ2 := Lib.hid hq
  have hbb2 : BB w1 w2 := hb2
  clear hq hb2
  go_wp2_with fail
  refine (modulus_any r Q w2 HQ2.out).mono ?_
  rintro e w3 ⟨qa, ql, qc, rfl, hq, hb3⟩
  have HQ3 := Lib.hid hq
  have hbb3 : BB w1 w3 := BB.step hbb2 hb3
  have hbA := (Below.refl _ w3).alloc (Nat.le_refl _) (Obj.cells #[Value.slice qa ql qc] 36)
  obtain ⟨q, hqs⟩ : ∃ q, q = w3.heap.size := ⟨_, rfl⟩
  have hBq : Blk (w3.alloc (Obj.cells #[Value.slice qa ql qc] 36)) q 36 [.slice qa ql qc] := Blk.new' w3 _ _ q hqs
  obtain ⟨w4, hw4⟩ : ∃ w4, w3.alloc (Obj.cells #[Value.slice qa ql qc] 36) = w4 := ⟨_, rfl⟩
  rw [hw4] at hbA hBq
  have hbb4 : BB w1 w4 := BB.step hbb3 hbA
  have HQ4 := Lib.hid (hq.below hbA)
  have gq : ∀ w', BB w4 w' → w'.cell? ⟨q, 0, none⟩ = some (.slice qa ql qc) := fun w' hb => (BB.cell hb hBq.lt).trans (hBq.cell 0)
  have c0 := g0 w4 hbb4
  have cq := gq w4 (BB.refl _)
  have hqs2 := hqs.symm
  clear hq hb3 HQ2 hbA hBq HQ3 hqs
  go_wp2_with fail
  refine (cmp_s sa qa sl sc ql qc x Q w4 (HS.out.below hbb4) HQ4.out).mono ?_
  rintro e w5 ⟨rfl, hb5⟩
  have hbb5 : BB w1 w5 := BB.step hbb4 hb5
  have c1 := g1 w5 hbb5
  have cq5 := gq w5 hb5
  have HQ5 := Lib.hid (HQ4.out.below hb5)
  have HR5 := Lib.hid (HR.out.below hbb5)
  have HB5 := Lib.hid (HB.out.trans (Below.mono hbb5 HB.out.size))
  clear g0 g1 gq hb5 c0 cq hbb5 HQ4 HS HR HB
  by_cases h1 : x < Q
  · have d1 : decide (cmpNat x Q < 0) = true := decide_eq_true ((cmp_neg_iff x Q).2 h1)
    go_wp2_with fail
    refine (cmp_s ra qa rl rc ql qc y Q w5 HR5.out HQ5.out).mono ?_
    rintro e w6 ⟨rfl, hb6⟩
    have HB6 := Lib.hid (HB5.out.trans (hb6.mono HB5.out.size))
    have HD : Hid (decide (cmpNat y Q < 0) = decide (x < Q ∧ y < Q)) := decide_eq_decide.2 ⟨fun h => ⟨h1, (cmp_neg_iff y Q).1 h⟩, fun h => (cmp_neg_iff y Q).2 h.2⟩
    clear hb6
    go_wp2_with fail
    go_ret
    exact ⟨by rw [← HD.out]; rfl, HB6.out⟩
  · have d1 : decide (cmpNat x Q < 0) = false := decide_eq_false fun h => h1 ((cmp_neg_iff x Q).1 h)
    have HD : Hid (decide (x < Q ∧ y < Q) = false) := decide_eq_false fun h => h1 h.1
    clear h1
    go_wp2_with fail
    go_ret
    exact ⟨by rw [HD.out]; rfl, HB5.out⟩
end Go.Proofs.YthefednendgclaaGreat
/-
  Pledges: whether a value opens or fits them.
-/
namespace Go.Proofs.YthefednendgclaaGreat
open Go Go.RowKit Sac

set_option maxRecDepth 100000 in
set_option maxHeartbeats 4000000 in
theorem popens_any (g P Q G H sz : Nat) (hP1 : 1 < P) (a : Option Addr) (len cap : Nat) (p : List Nat) (xa : Option Addr) (xl xc x : Nat) (ya : Option Addr) (yl yc y : Nat) (za : Option Addr) (zl zc z : Nat) (w : World) (hr : GroupAt w g P Q G H sz) (h : NatsAt w a p) (hl : p.length = len) (hc : (len : Int) ≤ 10000) (hx : NatS w xa xl x) (hy : NatS w ya yl y) (hz : NatS w za zl z) (hys : y < 2 ^ 1000) (hzs : z < 2 ^ 1000) :
    Calls Tryz.prog 73 #[.pointer (some ⟨g, 0, none⟩), .slice a len cap, .agg #[.slice xa xl xc], .agg #[.slice ya yl yc], .agg #[.slice za zl zc]] w fun e w' => e = .returned (.bool (decide (evalx P p (x % Q) = multi P [G, H] [y, z]))) ∧ Below w.heap.size w w' := by
  obtain ⟨s, hs⟩ : ∃ s, s = w.heap.size := ⟨_, rfl⟩
  have hbA := (Below.refl _ w).alloc (Nat.le_refl _) (Obj.cells #[Value.slice xa xl xc] 36)
  have hbB : BB (w.alloc (Obj.cells #[Value.slice xa xl xc] 36)) ((w.alloc (Obj.cells #[Value.slice xa xl xc] 36)).alloc (Obj.cells #[Value.slice ya yl yc] 36)) := BB.alloc (BB.refl _)
  have hbC : BB ((w.alloc (Obj.cells #[Value.slice xa xl xc] 36)).alloc (Obj.cells #[Value.slice ya yl yc] 36)) (((w.alloc (Obj.cells #[Value.slice xa xl xc] 36)).alloc (Obj.cells #[Value.slice ya yl yc] 36)).alloc (Obj.cells #[Value.slice za zl zc] 36)) := BB.alloc (BB.refl _)
  have E1 := (NE.init w s hs).alloc s hs hx (c := xc)
  have E2 := E1.alloc (s + 1) (by rw [hs]; simp) (hy.below hbA) (c := yc)
  have HE2 := Lib.hid (E2.alloc (s + 1 + 1) (by rw [hs]; simp) ((hz.below hbA).below hbB) (c := zc))
  have hbAB : BB w (((w.alloc (Obj.cells #[Value.slice xa xl xc] 36)).alloc (Obj.cells #[Value.slice ya yl yc] 36)).alloc (Obj.cells #[Value.slice za zl zc] 36)) := BB.step (BB.step hbA hbB) hbC
  have HR := Lib.hid (hr.below hbAB)
  have HP := Lib.hid (h.below hbAB)
  have HL := Lib.hid hl
  have HS := Lib.hid hs
  have HC := Lib.hid (And.intro hP1 (And.intro hys hzs))
  clear hr h hl hx hy hz E1 E2 hbA hbB hbC hbAB hP1 hys hzs
  go_enter Tryz.func73, Tryz.ntmps73
  go_wp2_with fail
  rw [← hs]
  clear hs
  generalize ((w.alloc (Obj.cells #[Value.slice xa xl xc] 36)).alloc (Obj.cells #[Value.slice ya yl yc] 36)).alloc (Obj.cells #[Value.slice za zl zc] 36) = w1 at HE2 HR HP ⊢
  obtain ⟨xa, xl, xc, gX, NX⟩ := HE2.out.get 0 rfl
  obtain ⟨ya, yl, yc, gY, NY⟩ := HE2.out.get 1 rfl
  obtain ⟨za, zl, zc, gZ, NZ⟩ := HE2.out.get 2 rfl
  have HX := Lib.hid NX
  have HY := Lib.hid NY
  have HZ := Lib.hid NZ
  clear NX NY NZ
  go_region_held3 (fun w' => BB w1 w') (first | assumption | exact BB.drew (BB.refl _))
    (first
      | (go_at_call 31; refine (cmp_s ta ua tl uc' ul ud _ _ w5 (HT2.out.below hb5) HU5.out).mono ?_; rintro e w6 ⟨rfl, hb6⟩; have hbb6 : BB w1 w6 := BB.step hbb5 hb6; clear hb6)
      | (go_at_call 110; refine (pof_any g P Q G H sz ya yl yc y za zl zc z w2 (HR.out.below hbb2) HC.out.1 (HY.out.below hbb2) (HZ.out.below hbb2) HC.out.2.1 HC.out.2.2).mono ?_; rintro e w5 ⟨ua, ul, ud, rfl, hu, hb5⟩; have hbb5 : BB w1 w5 := BB.step hbb2 hb5; have HU5 := Lib.hid hu; clear hu)
      | (go_at_call 109; refine (patx_any g P Q G H sz a len cap p xa xl xc x w1.drew HR.out.drew (HP.out.below (BB.drew (BB.refl _))) HL.out hc HX.out.drew).mono ?_; rintro e w2 ⟨ta, tl, uc', rfl, ht, hb2⟩; have hbb2 : BB w1 w2 := BB.step (BB.drew (BB.refl w1)) hb2; have HT2 := Lib.hid ht; clear ht hb2))
  go_wp2_with fail
  go_ret
  exact ⟨ret_bool (cmp_eq_dec _ _), HS.out ▸ HE2.out.bel.trans (Below.mono hbb6 HE2.out.base)⟩
end Go.Proofs.YthefednendgclaaGreat
