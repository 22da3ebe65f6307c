/-
  Polynomials: the value, in the field and in the exponent.
-/
import Derived.Test.YthefednendgclaaGreatCurve1
import Derived.Deep.RegionLaw
import Derived.Test.YthefednendgclaaGreatGrpA
import Derived.Test.YthefednendgclaaGreatCurveG
set_option linter.unusedVariables false
set_option linter.unusedSimpArgs false
namespace Go.Proofs.YthefednendgclaaGreat
open Go Go.RowKit Sac

theorem GroupAt.drew {w : World} {g P Q G H sz : Nat} (h : GroupAt w g P Q G H sz) : GroupAt w.drew g P Q G H sz := h

set_option maxRecDepth 100000 in
set_option maxHeartbeats 4000000 in
theorem horner_field (r q : Nat) (a : Option Addr) (len cap : Nat) (p : List Nat) (xa : Option Addr) (xl xc x : Nat) (na : Option Addr) (nl nc : Nat) (w : World) (hr : RingAt w r q) (h : NatsAt w a p) (hl : p.length = len) (hc : (len : Int) ≤ 10000) (hx : NatS w xa xl x) (hn : NatS w na nl 0) :
    Calls Tryz.prog 83 #[.slice a len cap, .agg #[.slice xa xl xc], .agg #[.slice na nl nc], .func (.func 49) #[.pointer (some ⟨r, 0, none⟩)] #[], .func (.func 33) #[.pointer (some ⟨r, 0, none⟩)] #[]] w (RetS (evalm q p x) w) := by
  obtain ⟨s, hs⟩ : ∃ s, s = w.heap.size := ⟨_, rfl⟩
  have hbA := (Below.refl _ w).alloc (Nat.le_refl _) (Obj.cells #[Value.slice xa xl xc] 36)
  have hbB : BB (w.alloc (Obj.cells #[Value.slice xa xl xc] 36)) ((w.alloc (Obj.cells #[Value.slice xa xl xc] 36)).alloc (Obj.cells #[Value.slice na nl nc] 36)) := BB.alloc (BB.refl _)
  have hbC : BB ((w.alloc (Obj.cells #[Value.slice xa xl xc] 36)).alloc (Obj.cells #[Value.slice na nl nc] 36)) (((w.alloc (Obj.cells #[Value.slice xa xl xc] 36)).alloc (Obj.cells #[Value.slice na nl nc] 36)).alloc (Obj.cells #[Value.slice none 0 0] 36)) := BB.alloc (BB.refl _)
  have E1 := (NE.init w s hs).alloc s hs hx (c := xc)
  have E2 := E1.alloc (s + 1) (by rw [hs]; simp) (hn.below hbA) (c := nc)
  have E3 := E2.alloc (s + 1 + 1) (by rw [hs]; simp) (natS_nil _) (c := 0)
  have HE4 := Lib.hid (E3.alloc (s + 1 + 1 + 1) (by rw [hs]; simp) (((hn.below hbA).below hbB).below hbC) (c := nc))
  have HR := Lib.hid hr
  have HP := Lib.hid h
  have HL := Lib.hid hl
  have HS := Lib.hid hs
  clear hr h hl hx hn E1 E2 E3 hbA hbB hbC
  go_enter Tryz.func83, Tryz.ntmps83
  go_wp2_with fail
  rw [← hs]
  clear hs
  generalize (((w.alloc (Obj.cells #[Value.slice xa xl xc] 36)).alloc (Obj.cells #[Value.slice na nl nc] 36)).alloc (Obj.cells #[Value.slice none 0 0] 36)).alloc (Obj.cells #[Value.slice na nl nc] 36) = w1 at HE4 ⊢
  go_loopw [12] (fun iv wr => ∃ k : Nat, (k : Int) ≤ len ∧ iv = .int .i64 ((k : Int) - 1) ∧ Hid (NE w wr s [(s, x), (s + 1, 0), (s + 1 + 1, 0), (s + 1 + 1 + 1, evalm q (p.drop k) x)] [])) (fun iv _ => (intOf iv + 1).toNat)
  case atStart => exact ⟨len, by omega, rfl, by rw [List.drop_of_length_le (by rw [HL.out]; exact Nat.le_refl _)]; exact HE4.out⟩
  case round =>
    clear HE4
    obtain ⟨k, hk, rfl, HE⟩ := hrel
    have hb0 : BB w wr := by have := HE.out.bel; rw [HS.out] at this; exact this
    by_cases hk0 : k = 0
    · subst hk0
      rw [List.drop_zero] at HE
      obtain ⟨oa, ol, oc, co, _, No⟩ := HE.out.box 3 rfl
      obtain ⟨_, _, _, cr, fr, _⟩ := HE.out.box 2 rfl
      have HNo := Lib.hid No
      clear No hb0
      go_wp2_with fail
      exact (HE.out.set 2 rfl HNo.out (c := oc)).ret HS.out (i := 2) rfl rfl rfl
    · obtain ⟨j, rfl⟩ : ∃ j, k = j + 1 := ⟨k - 1, by omega⟩
      have hil : j < p.length := by rw [HL.out]; omega
      have hj : (((j + 1 : Nat) : Int) - 1) = (j : Int) := by omega
      rw [hj]
      obtain ⟨y, hy⟩ : ∃ y, p.getD j 0 = y := ⟨_, rfl⟩
      have hev : evalm q (p.drop j) x = (evalm q (p.drop (j + 1)) x * x % q + y) % q := by
        have e : p.drop j = y :: p.drop (j + 1) := by rw [List.drop_eq_getElem_cons hil, ← hy, List.getD_eq_getElem?_getD, List.getElem?_eq_getElem hil]; rfl
        rw [e]; rfl
      obtain ⟨ad, ya, yl, yc, hadr, _, cy, Ny⟩ := (HP.out.below hb0).get hil
      subst hadr
      rw [hy] at Ny
      have HEV := Lib.hid hev
      obtain ⟨o, ho⟩ : ∃ o, evalm q (p.drop (j + 1)) x = o := ⟨_, rfl⟩
      rw [ho] at HE
      have HO := Lib.hid ho
      obtain ⟨oa, ol, oc, gO, No⟩ := HE.out.get 3 rfl
      obtain ⟨za, zl, zc, gX, Nx⟩ := HE.out.get 0 rfl
      have gY : ∀ w', BB wr w' → w'.cell? (ad.add j) = some (.slice ya yl yc) := fun w' h => (h.cell (World.block_lt_of_cell? _ _ cy)).trans cy
      have HNo := Lib.hid No
      have HNx := Lib.hid Nx
      have HNy := Lib.hid Ny
      have hR0 := Lib.hid (HR.out.below hb0)
      have hjl : (j : Int) < len := by omega
      have hadO : (ad.add j).block ≠ s + 1 + 1 + 1 := by
        have h1 : ad.block < w.heap.size := by
          obtain ⟨ad', _, _, _, e, he, _, _⟩ := HP.out.get hil
          obtain rfl := Option.some.inj e
          exact he.lt
        rw [block_add]
        rw [← HS.out] at h1
        omega
      have cO := gO wr.drew (BB.drew (BB.refl _))
      clear No Nx Ny hy hev ho hil cy
      go_wp2_with fail
      have cX1 := gX wr.drew (BB.drew (BB.refl _))
      have cY1 := gY wr.drew (BB.drew (BB.refl _))
      go_region_law
        (first
          | (go_simp; go_at_call 33; refine (radd_any r q ta ya tl tc yl yc _ _ w2 (hR0.out.below hbb2) HT2.out (HNy.out.below hbb2)).mono ?_; rintro e w3 ⟨ua, ul, uc, rfl, hu, hb3⟩; have hbb3 : BB wr w3 := BB.step hbb2 hb3; have HU3 := Lib.hid hu; have HE3 := Lib.hid (HE.out.below hbb3); have cO3 := gO _ hbb3; obtain ⟨_, _, _, _, fO3, _⟩ := HE3.out.box 3 rfl; have hS3 : w3.cell? ⟨s, 0, none⟩ = some (.slice za zl zc) ∧ w3.cell? (ad.add j) = some (.slice ya yl yc) := ⟨gX _ hbb3, gY _ hbb3⟩; have hst : ∀ v, (w3.setCell ⟨s + 1 + 1 + 1, 0, none⟩ v).cell? ⟨s, 0, none⟩ = some (.slice za zl zc) ∧ (w3.setCell ⟨s + 1 + 1 + 1, 0, none⟩ v).cell? (ad.add j) = some (.slice ya yl yc) := fun v => ⟨(cell_other v (show s ≠ s + 1 + 1 + 1 by omega)).trans hS3.1, (cell_other v hadO).trans hS3.2⟩; clear hu hb3)
          | (go_simp; go_at_call 49; refine (rmul_any r q oa za ol oc zl zc _ _ wr.drew hR0.out.drew HNo.out.drew HNx.out.drew).mono ?_; rintro e w2 ⟨ta, tl, tc, rfl, ht, hb2⟩; have hbb2 : BB wr w2 := BB.step (BB.drew (BB.refl wr)) hb2; have HT2 := Lib.hid ht; have cY2 := gY _ hbb2; have hS2 : w2.cell? ⟨s, 0, none⟩ = some (.slice za zl zc) ∧ w2.cell? (ad.add j) = some (.slice ya yl yc) := ⟨gX _ hbb2, gY _ hbb2⟩; clear ht hb2))
      all_goals (
        have HE4 := Lib.hid (HE3.out.set 3 rfl HU3.out (c := uc))
        go_wp2_with fail
        go_roundw
        case rel => exact ⟨j, by omega, by rfl, by rw [HEV.out, HO.out]; exact HE4.out⟩
        case measure => first | (simp [intOf]; done) | (simp [intOf]; omega))

set_option maxRecDepth 100000 in
set_option maxHeartbeats 4000000 in
theorem horner_exp (g P Q G H sz : Nat) (a : Option Addr) (len cap : Nat) (p : List Nat) (xa : Option Addr) (xl xc x : Nat) (na : Option Addr) (nl nc : Nat) (w : World) (hr : GroupAt w g P Q G H sz) (h : NatsAt w a p) (hl : p.length = len) (hc : (len : Int) ≤ 10000) (hx : NatS w xa xl x) (hn : NatS w na nl 1) :
    Calls Tryz.prog 83 #[.slice a len cap, .agg #[.slice xa xl xc], .agg #[.slice na nl nc], .func (.func 51) #[.pointer (some ⟨g, 0, none⟩)] #[], .func (.func 52) #[.pointer (some ⟨g, 0, none⟩)] #[]] w (RetS (evalx P p x) w) := by
  obtain ⟨s, hs⟩ : ∃ s, s = w.heap.size := ⟨_, rfl⟩
  have hbA := (Below.refl _ w).alloc (Nat.le_refl _) (Obj.cells #[Value.slice xa xl xc] 36)
  have hbB : BB (w.alloc (Obj.cells #[Value.slice xa xl xc] 36)) ((w.alloc (Obj.cells #[Value.slice xa xl xc] 36)).alloc (Obj.cells #[Value.slice na nl nc] 36)) := BB.alloc (BB.refl _)
  have hbC : BB ((w.alloc (Obj.cells #[Value.slice xa xl xc] 36)).alloc (Obj.cells #[Value.slice na nl nc] 36)) (((w.alloc (Obj.cells #[Value.slice xa xl xc] 36)).alloc (Obj.cells #[Value.slice na nl nc] 36)).alloc (Obj.cells #[Value.slice none 0 0] 36)) := BB.alloc (BB.refl _)
  have E1 := (NE.init w s hs).alloc s hs hx (c := xc)
  have E2 := E1.alloc (s + 1) (by rw [hs]; simp) (hn.below hbA) (c := nc)
  have E3 := E2.alloc (s + 1 + 1) (by rw [hs]; simp) (natS_nil _) (c := 0)
  have HE4 := Lib.hid (E3.alloc (s + 1 + 1 + 1) (by rw [hs]; simp) (((hn.below hbA).below hbB).below hbC) (c := nc))
  have HR := Lib.hid hr
  have HP := Lib.hid h
  have HL := Lib.hid hl
  have HS := Lib.hid hs
  clear hr h hl hx hn E1 E2 E3 hbA hbB hbC
  go_enter Tryz.func83, Tryz.ntmps83
  go_wp2_with fail
  rw [← hs]
  clear hs
  generalize (((w.alloc (Obj.cells #[Value.slice xa xl xc] 36)).alloc (Obj.cells #[Value.slice na nl nc] 36)).alloc (Obj.cells #[Value.slice none 0 0] 36)).alloc (Obj.cells #[Value.slice na nl nc] 36) = w1 at HE4 ⊢
  go_loopw [12] (fun iv wr => ∃ k : Nat, (k : Int) ≤ len ∧ iv = .int .i64 ((k : Int) - 1) ∧ Hid (NE w wr s [(s, x), (s + 1, 1), (s + 1 + 1, 0), (s + 1 + 1 + 1, evalx P (p.drop k) x)] [])) (fun iv _ => (intOf iv + 1).toNat)
  case atStart => exact ⟨len, by omega, rfl, by rw [List.drop_of_length_le (by rw [HL.out]; exact Nat.le_refl _)]; exact HE4.out⟩
  case round =>
    clear HE4
    obtain ⟨k, hk, rfl, HE⟩ := hrel
    have hb0 : BB w wr := by have := HE.out.bel; rw [HS.out] at this; exact this
    by_cases hk0 : k = 0
    · subst hk0
      rw [List.drop_zero] at HE
      obtain ⟨oa, ol, oc, co, _, No⟩ := HE.out.box 3 rfl
      obtain ⟨_, _, _, cr, fr, _⟩ := HE.out.box 2 rfl
      have HNo := Lib.hid No
      clear No hb0
      go_wp2_with fail
      exact (HE.out.set 2 rfl HNo.out (c := oc)).ret HS.out (i := 2) rfl rfl rfl
    · obtain ⟨j, rfl⟩ : ∃ j, k = j + 1 := ⟨k - 1, by omega⟩
      have hil : j < p.length := by rw [HL.out]; omega
      have hj : (((j + 1 : Nat) : Int) - 1) = (j : Int) := by omega
      rw [hj]
      obtain ⟨y, hy⟩ : ∃ y, p.getD j 0 = y := ⟨_, rfl⟩
      have hev : evalx P (p.drop j) x = (evalx P (p.drop (j + 1)) x) ^ x % P * y % P := by
        have e : p.drop j = y :: p.drop (j + 1) := by rw [List.drop_eq_getElem_cons hil, ← hy, List.getD_eq_getElem?_getD, List.getElem?_eq_getElem hil]; rfl
        rw [e]; rfl
      obtain ⟨ad, ya, yl, yc, hadr, _, cy, Ny⟩ := (HP.out.below hb0).get hil
      subst hadr
      rw [hy] at Ny
      have HEV := Lib.hid hev
      obtain ⟨o, ho⟩ : ∃ o, evalx P (p.drop (j + 1)) x = o := ⟨_, rfl⟩
      rw [ho] at HE
      have HO := Lib.hid ho
      obtain ⟨oa, ol, oc, gO, No⟩ := HE.out.get 3 rfl
      obtain ⟨za, zl, zc, gX, Nx⟩ := HE.out.get 0 rfl
      have gY : ∀ w', BB wr w' → w'.cell? (ad.add j) = some (.slice ya yl yc) := fun w' h => (h.cell (World.block_lt_of_cell? _ _ cy)).trans cy
      have HNo := Lib.hid No
      have HNx := Lib.hid Nx
      have HNy := Lib.hid Ny
      have hR0 := Lib.hid (HR.out.below hb0)
      have hjl : (j : Int) < len := by omega
      have hadO : (ad.add j).block ≠ s + 1 + 1 + 1 := by
        have h1 : ad.block < w.heap.size := by
          obtain ⟨ad', _, _, _, e, he, _, _⟩ := HP.out.get hil
          obtain rfl := Option.some.inj e
          exact he.lt
        rw [block_add]
        rw [← HS.out] at h1
        omega
      have cO := gO wr.drew (BB.drew (BB.refl _))
      clear No Nx Ny hy hev ho hil cy
      go_wp2_with fail
      have cX1 := gX wr.drew (BB.drew (BB.refl _))
      have cY1 := gY wr.drew (BB.drew (BB.refl _))
      go_region_law
        (first
          | (go_simp; go_at_call 52; refine (gmul_any g P Q G H sz ta ya tl tc yl yc _ _ w2 (hR0.out.below hbb2) HT2.out (HNy.out.below hbb2)).mono ?_; rintro e w3 ⟨ua, ul, uc, rfl, hu, hb3⟩; have hbb3 : BB wr w3 := BB.step hbb2 hb3; have HU3 := Lib.hid hu; have HE3 := Lib.hid (HE.out.below hbb3); have cO3 := gO _ hbb3; obtain ⟨_, _, _, _, fO3, _⟩ := HE3.out.box 3 rfl; have hS3 : w3.cell? ⟨s, 0, none⟩ = some (.slice za zl zc) ∧ w3.cell? (ad.add j) = some (.slice ya yl yc) := ⟨gX _ hbb3, gY _ hbb3⟩; have hst : ∀ v, (w3.setCell ⟨s + 1 + 1 + 1, 0, none⟩ v).cell? ⟨s, 0, none⟩ = some (.slice za zl zc) ∧ (w3.setCell ⟨s + 1 + 1 + 1, 0, none⟩ v).cell? (ad.add j) = some (.slice ya yl yc) := fun v => ⟨(cell_other v (show s ≠ s + 1 + 1 + 1 by omega)).trans hS3.1, (cell_other v hadO).trans hS3.2⟩; clear hu hb3)
          | (go_simp; go_at_call 51; refine (gexp_any g P Q G H sz oa za ol oc zl zc _ _ wr.drew hR0.out.drew HNo.out.drew HNx.out.drew).mono ?_; rintro e w2 ⟨ta, tl, tc, rfl, ht, hb2⟩; have hbb2 : BB wr w2 := BB.step (BB.drew (BB.refl wr)) hb2; have HT2 := Lib.hid ht; have cY2 := gY _ hbb2; have hS2 : w2.cell? ⟨s, 0, none⟩ = some (.slice za zl zc) ∧ w2.cell? (ad.add j) = some (.slice ya yl yc) := ⟨gX _ hbb2, gY _ hbb2⟩; clear ht hb2))
      all_goals (
        have HE4 := Lib.hid (HE3.out.set 3 rfl HU3.out (c := uc))
        go_wp2_with fail
        go_roundw
        case rel => exact ⟨j, by omega, by rfl, by rw [HEV.out, HO.out]; exact HE4.out⟩
        case measure => first | (simp [intOf]; done) | (simp [intOf]; omega))

set_option maxRecDepth 100000 in
set_option maxHeartbeats 4000000 in
theorem eval_any (r q : Nat) (a : Option Addr) (len cap : Nat) (p : List Nat) (xa : Option Addr) (xl xc x : Nat) (w : World) (hr : RingAt w r q) (h : NatsAt w a p) (hl : p.length = len) (hc : (len : Int) ≤ 10000) (hx : NatS w xa xl x) :
    Calls Tryz.prog 39 #[.pointer (some ⟨r, 0, none⟩), .slice a len cap, .agg #[.slice xa xl xc]] w (RetS (evalm q p (x % q)) w) := by
  obtain ⟨s, hs⟩ : ∃ s, s = w.heap.size := ⟨_, rfl⟩
  have hbA := (Below.refl _ w).alloc (Nat.le_refl _) (Obj.cells #[Value.slice xa xl xc] 36)
  have hbB : BB (w.alloc (Obj.cells #[Value.slice xa xl xc] 36)) ((w.alloc (Obj.cells #[Value.slice xa xl xc] 36)).alloc (Obj.cells #[Value.slice none 0 0] 36)) := BB.alloc (BB.refl _)
  have E1 := (NE.init w s hs).alloc s hs hx (c := xc)
  have HE2 := Lib.hid (E1.alloc (s + 1) (by rw [hs]; simp) (natS_nil _) (c := 0))
  have hbAB : BB w ((w.alloc (Obj.cells #[Value.slice xa xl xc] 36)).alloc (Obj.cells #[Value.slice none 0 0] 36)) := BB.step hbA hbB
  have HX := Lib.hid (hx.below hbAB)
  have HR := Lib.hid (hr.below hbAB)
  have HP := Lib.hid (h.below hbAB)
  have HL := Lib.hid hl
  have HS := Lib.hid hs
  clear hr h hl hx E1 hbA hbB hbAB
  go_enter Tryz.func39, Tryz.ntmps39
  go_wp2_with fail
  rw [← hs]
  clear hs
  generalize (w.alloc (Obj.cells #[Value.slice xa xl xc] 36)).alloc (Obj.cells #[Value.slice none 0 0] 36) = w1 at HE2 HX HR HP ⊢
  refine (of_s r q xa xl xc x w1 HR.out HX.out).mono ?_
  rintro e w2 ⟨ya, yl, yc, rfl, hy, hb2⟩
  have HE3 := Lib.hid (HE2.out.below hb2)
  have HR3 := Lib.hid (HR.out.below hb2)
  have HP3 := Lib.hid (HP.out.below hb2)
  have HY3 := Lib.hid hy
  clear hy hb2 HE2 HR HP HX
  go_wp2_with fail
  refine (horner_field r q a len cap p ya yl yc (x % q) none 0 0 w2 HR3.out HP3.out HL.out hc HY3.out (natS_nil _)).mono ?_
  rintro e w3 ⟨za, zl, zc, rfl, hz, hb3⟩
  have HE4 := Lib.hid (HE3.out.below hb3)
  have HZ := Lib.hid hz
  obtain ⟨_, _, _, c1, f1, _⟩ := HE4.out.box 1 rfl
  clear hz hb3
  go_wp2_with fail
  exact (HE4.out.set 1 rfl HZ.out (c := zc)).ret HS.out (i := 1) rfl rfl rfl

set_option maxRecDepth 100000 in
set_option maxHeartbeats 4000000 in
theorem evalexp_any (g P Q G H sz : Nat) (a : Option Addr) (len cap : Nat) (p : List Nat) (xa : Option Addr) (xl xc x : Nat) (w : World) (hr : GroupAt w g P Q G H sz) (h : NatsAt w a p) (hl : p.length = len) (hc : (len : Int) ≤ 10000) (hx : NatS w xa xl x) :
    Calls Tryz.prog 132 #[.pointer (some ⟨g, 0, none⟩), .slice a len cap, .agg #[.slice xa xl xc]] w (RetS (evalx P p (x % Q)) w) := by
  obtain ⟨s, hs⟩ : ∃ s, s = w.heap.size := ⟨_, rfl⟩
  have hbA := (Below.refl _ w).alloc (Nat.le_refl _) (Obj.cells #[Value.slice xa xl xc] 36)
  have hbB : BB (w.alloc (Obj.cells #[Value.slice xa xl xc] 36)) ((w.alloc (Obj.cells #[Value.slice xa xl xc] 36)).alloc (Obj.cells #[Value.slice none 0 0] 36)) := BB.alloc (BB.refl _)
  have E1 := (NE.init w s hs).alloc s hs hx (c := xc)
  have HE2 := Lib.hid (E1.alloc (s + 1) (by rw [hs]; simp) (natS_nil _) (c := 0))
  have hbAB : BB w ((w.alloc (Obj.cells #[Value.slice xa xl xc] 36)).alloc (Obj.cells #[Value.slice none 0 0] 36)) := BB.step hbA hbB
  have HX := Lib.hid (hx.below hbAB)
  have HR := Lib.hid (hr.below hbAB)
  have HP := Lib.hid (h.below hbAB)
  have HL := Lib.hid hl
  have HS := Lib.hid hs
  clear hr h hl hx E1 hbA hbB hbAB
  go_enter Tryz.func132, Tryz.ntmps132
  go_wp2_with fail
  rw [← hs]
  clear hs
  generalize (w.alloc (Obj.cells #[Value.slice xa xl xc] 36)).alloc (Obj.cells #[Value.slice none 0 0] 36) = w1 at HE2 HX HR HP ⊢
  obtain ⟨xa, xl, xc, gX, Nx⟩ := HE2.out.get 0 rfl
  have HNx := Lib.hid Nx
  clear Nx HX
  have cX := gX w1.drew (BB.drew (BB.refl _))
  go_region_held3 (fun w' => w'.cell? ⟨s, 0, none⟩ = some (.slice xa xl xc)) (first | assumption | exact hst _)
    (first
      | (go_at_call 83; refine (horner_exp g P Q G H sz a len cap p ya yl yc (x % Q) oa ol oc w4 (HR.out.below hbb4) (HP.out.below hbb4) HL.out hc HY4.out HO4.out).mono ?_; rintro e w5 ⟨za, zl, zc, rfl, hz, hb5⟩; have hbb5 : BB w1 w5 := BB.step hbb4 hb5; have HZ5 := Lib.hid hz; have HE5 := Lib.hid (HE2.out.below hbb5); obtain ⟨_, _, _, c1, f1, _⟩ := HE5.out.box 1 rfl; have cX5 := gX _ hbb5; have hst : ∀ v, (w5.setCell ⟨s + 1, 0, none⟩ v).cell? ⟨s, 0, none⟩ = some (.slice xa xl xc) := fun v => (cell_other v (show s ≠ s + 1 by omega)).trans cX5; clear hz hb5)
      | (go_at_call 13; refine (new_s 1 w3 (by decide)).mono ?_; rintro e w4 ⟨oa, ol, oc, rfl, ho, hb4⟩; have hbb4 : BB w1 w4 := BB.step hbb3 hb4; have HO4 := Lib.hid ho; have HY4 := Lib.hid (HY3.out.below hb4); have cX4 := gX _ hbb4; clear ho hb4)
      | (go_at_call 25; refine (of_s rq Q xa xl xc x w2 HQ2.out (HNx.out.below hbb2)).mono ?_; rintro e w3 ⟨ya, yl, yc, rfl, hy, hb3⟩; have hbb3 : BB w1 w3 := BB.step hbb2 hb3; have HY3 := Lib.hid hy; have cX3 := gX _ hbb3; clear hy hb3)
      | (go_at_call 12; refine (gfield_any g P Q G H sz w1.drew HR.out.drew).mono ?_; rintro e w2 ⟨rq, rfl, hq, hb2⟩; have hbb2 : BB w1 w2 := BB.step (BB.drew (BB.refl w1)) hb2; have HQ2 := Lib.hid hq; have cX2 := gX _ hbb2; clear hq hb2))
  all_goals (
    go_wp2_with fail
    exact (HE5.out.set 1 rfl HZ5.out (c := zc)).ret HS.out (i := 1) rfl rfl rfl)
end Go.Proofs.YthefednendgclaaGreat
