import Derived.Test.YthefednendgclaaGreatCertA
import Derived.Test.YthefednendgclaaGreatNGE
import Derived.Deep.RegionLaw
set_option linter.unusedVariables false
set_option linter.unusedSimpArgs false
/-
  Chains of primes: power, long.
-/
namespace Go.Proofs.YthefednendgclaaGreat
open Go Go.RowKit Sac

set_option maxRecDepth 100000 in
set_option maxHeartbeats 1000000 in
theorem clong_no (a : Option Addr) (len cap n : Nat) (w : World) (h : NatS w a len n) (hs : n < 2 ^ 250) :
    Calls Tryz.prog 143 #[.agg #[.slice a len cap]] w fun e w' => e = .returned (.bool false) ∧ Below w.heap.size w w' := by
  have HN := Lib.hid h
  have hl := h.2
  have hbl : blen n ≤ 250 := blen_le hs
  have hbl' : ((blen n : Nat) : Int) ≤ 250 := by omega
  have e1 : (decide ((1024 : Int) < ((blen n : Nat) : Int))) = false := by simp; omega
  clear h hs hbl
  go_enter Tryz.func143, Tryz.ntmps143
  go_wp2_with fail
  have hb0 : Below w.heap.size w (w.alloc (Obj.cells #[Value.slice a len cap] 36)) := (Below.refl _ w).alloc (Nat.le_refl _) _
  refine (bits_any a len cap n _ (HN.out.1.below hb0) (by omega)).mono ?_
  rintro e w1 ⟨rfl, hb1⟩
  have HB := Lib.hid (hb0.trans (hb1.mono hb0.size))
  clear hb0 hb1
  go_wp2_with fail
  go_ret
  exact ⟨rfl, HB.out⟩

theorem pow_le_of {p j k m : Nat} (hp : 2 ≤ p) (hm : 0 < m) (hj : j ≤ k) : p ^ j ≤ p ^ k * m :=
  Nat.le_trans (Nat.pow_le_pow_right (by omega) hj) (Nat.le_mul_of_pos_right _ hm)

theorem pow_div {p j m : Nat} (hp : 2 ≤ p) : p ^ (j + 1) * m / p = p ^ j * m := by
  rw [Nat.pow_succ, Nat.mul_right_comm, Nat.mul_div_cancel _ (by omega)]
theorem pow_mod0 {p j m : Nat} : p ^ (j + 1) * m % p = 0 := by
  rw [Nat.pow_succ, Nat.mul_right_comm, Nat.mul_mod_left]

set_option maxRecDepth 100000 in
set_option maxHeartbeats 4000000 in
theorem power_yes (a : Option Addr) (len cap n : Nat) (b : Option Addr) (lenb capb p : Nat) (k m : Nat) (w : World) (h : NatS w a len n) (hb : NatS w b lenb p) (hp : 2 ≤ p) (hn : n = p ^ (k + 1) * m) (hm : m % p ≠ 0) (hlt : p ^ (k + 1) < W ^ 1000) :
    Calls Tryz.prog 152 #[.agg #[.slice a len cap], .agg #[.slice b lenb capb]] w (RetS (p ^ (k + 1)) w) := by
  obtain ⟨s, hsz⟩ : ∃ s, s = w.heap.size := ⟨_, rfl⟩
  have hb1 := (Below.refl _ w).alloc (Nat.le_refl _) (Obj.cells #[Value.slice a len cap] 36)
  have E1 := (NE.init w s hsz).alloc s hsz h (c := cap)
  have E2 := E1.alloc (s + 1) (by rw [hsz]; simp) (hb.below hb1) (c := capb)
  have HE1 := Lib.hid (E2.alloc (s + 1 + 1) (by rw [hsz]; simp) (natS_nil _) (c := 0))
  have HP := Lib.hid hp
  have HN := Lib.hid hn
  have HM := Lib.hid hm
  have HL := Lib.hid hlt
  have HSZ := Lib.hid hsz
  clear h hb hn hm hlt hb1 E1 E2
  go_enter Tryz.func152, Tryz.ntmps152
  go_wp2_with fail
  rw [← hsz]
  clear hsz
  generalize (((w.alloc (Obj.cells #[Value.slice a len cap] 36)).alloc (Obj.cells #[Value.slice b lenb capb] 36)).alloc (Obj.cells #[Value.slice none 0 0] 36)) = w1 at HE1 ⊢
  refine (new_s 1 w1 (by omega)).mono ?_
  rintro e w2 ⟨oa, ol, oc, rfl, hO, hb2⟩
  obtain ⟨O, hOs⟩ : ∃ O, O = w2.heap.size := ⟨_, rfl⟩
  have HE3 := Lib.hid ((HE1.out.below hb2).alloc O hOs hO (c := oc))
  clear HE1 hb2 hO
  go_wp2_with fail
  rw [← hOs]
  generalize w2.alloc (Obj.cells #[Value.slice oa ol oc] 36) = w3 at HE3 ⊢
  clear hOs
  go_loopg [8] (k + 2) (fun gk v wr => ∃ j n' : Nat, (j : Int) ≤ k + 1 ∧ (k : Int) + 2 - j ≤ gk ∧ Hid (NE w wr s [(s, n'), (s + 1, p), (s + 1 + 1, 0), (O, p ^ j)] []) ∧ Hid (n' = p ^ (k + 1 - j) * m))
  case atStart => exact ⟨0, n, by omega, by omega, HE3.out, by rw [Nat.sub_zero]; exact HN.out⟩
  case round =>
    obtain ⟨j, n', hj, hgk, HE, HG⟩ := hrel
    clear HE3
    obtain ⟨xa, xl, xc, cx, _, Nx⟩ := HE.out.box 0 rfl
    obtain ⟨pa, pl, pc, cp, _, Np⟩ := HE.out.box 1 rfl
    have HNx := Lib.hid Nx
    have HNp := Lib.hid Np
    clear Nx Np
    go_wp2_with fail
    refine (div_s xa pa xl xc pl pc n' p wr HNx.out HNp.out (by omega)).mono ?_
    rintro e w4 ⟨qa, ql, qc, ra, rl, rc, rfl, hq, hr, hb4⟩
    have HE4 := Lib.hid (HE.out.below hb4)
    obtain ⟨Z, hZ⟩ : ∃ Z, Z = w4.heap.size := ⟨_, rfl⟩
    have hbq := (Below.refl _ w4).alloc (Nat.le_refl _) (Obj.cells #[Value.slice qa ql qc] 36)
    have HE5 := Lib.hid ((HE4.out.alloc Z hZ hq (c := qc)).alloc (Z + 1) (by rw [hZ]; simp) (hr.below hbq) (c := rc))
    have HQ5 := Lib.hid (hq.below (hbq.alloc hbq.size (Obj.cells #[Value.slice ra rl rc] 36)))
    have HR5 := Lib.hid (hr.below (hbq.alloc hbq.size (Obj.cells #[Value.slice ra rl rc] 36)))
    clear HE HE4 HNx HNp cx cp hb4 hbq hq hr
    go_wp2_with fail
    rw [← hZ]
    clear hZ
    generalize ((w4.alloc (Obj.cells #[Value.slice qa ql qc] 36)).alloc (Obj.cells #[Value.slice ra rl rc] 36)) = w5 at HE5 HQ5 HR5 ⊢
    refine (zero_s ra rl rc _ w5 HR5.out).mono ?_
    rintro e w6 ⟨rfl, hb6⟩
    have HE6 := Lib.hid (HE5.out.below hb6)
    clear HE5 HQ5 HR5 hb6
    by_cases hjk : j < k + 1
    · have hn1 : n' = p ^ (k + 1 - (j + 1) + 1) * m := by rw [show k + 1 - (j + 1) + 1 = k + 1 - j by omega]; exact HG.out
      have hz : (n' % p == 0) = true := by rw [hn1, pow_mod0]; rfl
      rw [hz]
      obtain ⟨ya, yl, yc, gy, Ny⟩ := HE6.out.get 3 rfl
      obtain ⟨pa, pl, pc, gp, Np⟩ := HE6.out.get 1 rfl
      obtain ⟨ua, ul, uc, gu, Nu⟩ := HE6.out.get 4 rfl
      have HNy := Lib.hid Ny
      have HNp := Lib.hid Np
      have HNu := Lib.hid Nu
      have d1 := HE6.out.ne 1 3 rfl rfl (by decide)
      have d2 := HE6.out.ne 1 0 rfl rfl (by decide)
      have d3 := HE6.out.ne 4 3 rfl rfl (by decide)
      have d4 := HE6.out.ne 4 0 rfl rfl (by decide)
      have d5 := HE6.out.ne 3 0 rfl rfl (by decide)
      have cy : w6.cell? ⟨O, 0, none⟩ = some (.slice ya yl yc) := gy _ (BB.refl _)
      have hmlt : p ^ j * p < W ^ 1000 := Nat.lt_of_le_of_lt (by rw [← Nat.pow_succ]; exact Nat.pow_le_pow_right (by omega) (by omega)) HL.out
      have HML := Lib.hid hmlt
      clear Ny Np Nu hmlt
      go_wp2_with fail
      have cp6 := gp w6.drew (BB.drew (BB.refl _))
      have cu6 := gu w6.drew (BB.drew (BB.refl _))
      go_region_law
        (first
          | (go_simp; go_at_call 91; refine (mul_s ya pa yl yc pl pc (p ^ j) p w6.drew HNy.out.drew HNp.out.drew HML.out).mono ?_; rintro e w7 ⟨ta, tl, tc, rfl, hT, hb7⟩
             have hbb := BB.step (BB.drew (BB.refl w6)) hb7
             have HE7 := Lib.hid (HE6.out.below hbb)
             have HT7 := Lib.hid hT
             have HU7 := Lib.hid (HNu.out.below hbb)
             have cpu7 : w7.cell? ⟨s + 1, 0, none⟩ = some (.slice pa pl pc) ∧ w7.cell? ⟨Z, 0, none⟩ = some (.slice ua ul uc) := ⟨gp _ hbb, gu _ hbb⟩
             have cO7 := gy _ hbb
             obtain ⟨_, _, _, _, fO7, _⟩ := HE7.out.box 3 rfl
             obtain ⟨_, _, _, cs7, fs7, _⟩ := HE7.out.box 0 rfl
             have hst1 : ∀ v, (w7.setCell ⟨O, 0, none⟩ v).cell? ⟨s + 1, 0, none⟩ = some (.slice pa pl pc) ∧ (w7.setCell ⟨O, 0, none⟩ v).cell? ⟨Z, 0, none⟩ = some (.slice ua ul uc) := fun v => ⟨(cell_other v (show s + 1 ≠ O by omega)).trans cpu7.1, (cell_other v (show Z ≠ O by omega)).trans cpu7.2⟩
             have hst3 : ∀ v, (w7.setCell ⟨s, 0, none⟩ v).cell? ⟨s + 1, 0, none⟩ = some (.slice pa pl pc) ∧ (w7.setCell ⟨s, 0, none⟩ v).cell? ⟨Z, 0, none⟩ = some (.slice ua ul uc) := fun v => ⟨(cell_other v (show s + 1 ≠ s by omega)).trans cpu7.1, (cell_other v (show Z ≠ s by omega)).trans cpu7.2⟩
             have hst2 : ∀ v v', ((w7.setCell ⟨O, 0, none⟩ v).setCell ⟨s, 0, none⟩ v').cell? ⟨s + 1, 0, none⟩ = some (.slice pa pl pc) ∧ ((w7.setCell ⟨O, 0, none⟩ v).setCell ⟨s, 0, none⟩ v').cell? ⟨Z, 0, none⟩ = some (.slice ua ul uc) := fun v v' => ⟨(cell_other v' (show s + 1 ≠ s by omega)).trans (hst1 v).1, (cell_other v' (show Z ≠ s by omega)).trans (hst1 v).2⟩
             have hst4 : ∀ v v', ((w7.setCell ⟨s, 0, none⟩ v).setCell ⟨O, 0, none⟩ v').cell? ⟨s + 1, 0, none⟩ = some (.slice pa pl pc) ∧ ((w7.setCell ⟨s, 0, none⟩ v).setCell ⟨O, 0, none⟩ v').cell? ⟨Z, 0, none⟩ = some (.slice ua ul uc) := fun v v' => ⟨(cell_other v' (show s + 1 ≠ O by omega)).trans (hst3 v).1, (cell_other v' (show Z ≠ O by omega)).trans (hst3 v).2⟩
             clear hT hb7))
      all_goals go_wp2_with fail
      all_goals (
        have hUs : ∀ v, NatS (w7.setCell ⟨O, 0, none⟩ v) ua ul (n' / p) := fun v => HE7.out.natSet 3 rfl HU7.out v
        go_roundg (k + 1 - j)
        case measure => omega
        case rel =>
          refine ⟨j + 1, n' / p, by omega, by omega, (((HE7.out.set 3 rfl HT7.out (c := tc)).set 0 rfl (hUs _) (c := uc)).take 4), ?_⟩
          show n' / p = _
          rw [hn1, pow_div HP.out])
    · have hj' : j = k + 1 := by omega
      subst hj'
      have hn1 : n' = m := by have := HG.out; rw [this, Nat.sub_self, Nat.pow_zero, Nat.one_mul]
      have hz : (n' % p == 0) = false := by rw [hn1, beq_eq_false_iff_ne]; exact HM.out
      rw [hz]
      obtain ⟨ya, yl, yc, gy, Ny⟩ := HE6.out.get 3 rfl
      have HNy := Lib.hid Ny
      have hne : (cmpNat (p ^ (k + 1)) 1 == 0) = false := cmp_ne (by
        have : 2 ^ (k + 1) ≤ p ^ (k + 1) := Nat.pow_le_pow_left hp _
        have : 2 ^ 1 ≤ 2 ^ (k + 1) := Nat.pow_le_pow_right (by decide) (by omega)
        omega)
      clear Ny
      go_wp2_with fail
      go_region_held3 (fun w' => BB w6 w') (first | assumption | exact BB.drew (BB.refl _))
        (first
          | (go_at_call 13; refine (new_s 1 w6.drew (by decide)).mono ?_; rintro e w7 ⟨ta, tl, tc, rfl, hT, hb7⟩; have hbb7 : BB w6 w7 := BB.step (BB.drew (BB.refl w6)) hb7; have HT7 := Lib.hid hT; clear hT hb7)
          | (go_at_call 31; refine (cmp_s ya ta yl yc tl tc (p ^ (k + 1)) 1 w7 (HNy.out.below hbb7) HT7.out).mono ?_; rintro e w8 ⟨rfl, hb8⟩; have hbb8 : BB w6 w8 := BB.step hbb7 hb8; clear hb8))
      all_goals (
        have HE8 := Lib.hid (HE6.out.below hbb8)
        have cy8 := gy _ hbb8
        obtain ⟨_, _, _, cr8, fr8, _⟩ := HE8.out.box 2 rfl
        have HNy8 := Lib.hid (HNy.out.below hbb8)
        go_wp2_with fail
        exact (HE8.out.set 2 rfl HNy8.out (c := yc)).ret HSZ.out (i := 2) rfl rfl rfl)
end Go.Proofs.YthefednendgclaaGreat
/-
  Chains of primes: Holds, where all is right.
-/
namespace Go.Proofs.YthefednendgclaaGreat
open Go Go.RowKit Sac

theorem blk_stays {B : Nat} {T e : TypeId} {k : Nat} {cs : List Value} (hne : e ≠ T) : Stays B T (fun w => Blk w k e cs) := fun _ _ h hb => h.blk hne hb

theorem two250 : 2 ^ 250 ≤ W ^ 1000 := Nat.le_trans (m := W ^ 8) (by decide) (@wpow_le 8 1000 (by decide))
theorem cmp_ge {n m : Nat} (h : m ≤ n) : decide (cmpNat n m < 0) = false := by
  rw [decide_eq_false_iff_not]; unfold cmpNat; rw [if_neg (by omega)]; split <;> decide

set_option maxRecDepth 100000 in
set_option maxHeartbeats 8000000 in
theorem holds_yes (na : Option Addr) (nl nc N : Nat) (ba : Option Addr) (bl bc base : Nat) (pa : Option Addr) (pl pc : Nat) (ps ws : List Nat) (da : Option Addr) (dl dc : Nat) (behind : List Nat) (w : World)
    (hN : NatS w na nl N) (hB : NatS w ba bl base) (hP : NatsAt w pa ps) (hpl : ps.length = pl) (hpc : (pl : Int) ≤ pc) (hD : NatsAt w da behind) (hdl : behind.length = dl) (hdm : (dl : Int) ≤ 1000) (hdc : (dl : Int) ≤ dc) (hS : StepOk N base ps ws behind) :
    Calls Tryz.prog 144 #[.agg #[.slice na nl nc, .slice ba bl bc, .slice pa pl pc], .slice da dl dc] w fun e w' => e = .returned (.bool true) ∧ Below w.heap.size w w' := by
  obtain ⟨s, hsz⟩ : ∃ s, s = w.heap.size := ⟨_, rfl⟩
  obtain ⟨ad, _, _, _, rfl, _, _, _⟩ := hP.get (k := 0) (by have := hS.ne; omega)
  have hb1 := (Below.refl _ w).alloc (Nat.le_refl _) (Obj.cells #[Value.slice na nl nc, Value.slice ba bl bc, Value.slice (some ad) pl pc] 150)
  have E1 := ((((((NE.init w s hsz).add (natS_stays (by decide)) hN).add (natS_stays (by decide)) hB).add (natsLow_stays (by decide)) (hsz ▸ hP.toLow)).add (natsLow_stays (by decide)) (hsz ▸ hD.toLow)).below hb1).add (blk_stays (by decide)) (Blk.new' w _ _ s hsz)
  have HE1 := Lib.hid E1
  have HS := Lib.hid hS
  have HPL := Lib.hid hpl
  have HDL := Lib.hid hdl
  have HSZ := Lib.hid hsz
  have hpl1 : (1 : Int) ≤ pl := by have := hS.ne; omega
  have hpl2 : (pl : Int) ≤ 32 := by have := hS.le; omega
  have e1 : decide ((pl : Int) < 1) = false := decide_eq_false (by omega)
  have e2 : decide ((32 : Int) < (pl : Int)) = false := decide_eq_false (by omega)
  have hN2 : decide (cmpNat N 2 < 0) = false := cmp_ge hS.two
  clear hN hB hP hD hS hb1 E1 hpl hdl
  go_enter Tryz.func144, Tryz.ntmps144
  go_wp2_with fail
  rw [← hsz]
  clear hsz
  generalize (w.alloc (Obj.cells #[Value.slice na nl nc, Value.slice ba bl bc, Value.slice (some ad) pl pc] 150)) = w1 at HE1 ⊢
  refine (new_s 1 w1 (by omega)).mono ?_
  rintro e w2 ⟨oa, ol, oc, rfl, hO, hb2⟩
  obtain ⟨O, hOs⟩ : ∃ O, O = w2.heap.size := ⟨_, rfl⟩
  have HE3 := Lib.hid ((HE1.out.below hb2).alloc O hOs hO (c := oc))
  clear HE1 hb2 hO
  go_wp2_with fail
  rw [← hOs]
  generalize w2.alloc (Obj.cells #[Value.slice oa ol oc] 36) = w3 at HE3 ⊢
  clear hOs
  have bs := HE3.out.has 4 rfl
  have gs0 : ∀ w', BB w3 w' → w'.cell? ⟨s, 0, none⟩ = some (.slice na nl nc) := fun w' h => (h.cell bs.lt).trans (bs.cell 0)
  have gs2 : ∀ w', BB w3 w' → w'.cell? ⟨s, 2, none⟩ = some (.slice (some ad) pl pc) := fun w' h => (h.cell bs.lt).trans (bs.cell 2)
  have HNN := Lib.hid (HE3.out.has 0 rfl)
  clear bs
  go_region_held3 (fun w' => BB w3 w') (first | assumption | exact BB.drew (BB.refl _))
    (first
      | (go_at_call 13; refine (new_s 2 w3.drew (by decide)).mono ?_; rintro e w4 ⟨ta, tl, tc, rfl, hT, hb4⟩; have hbb4 : BB w3 w4 := BB.step (BB.drew (BB.refl w3)) hb4; have HT4 := Lib.hid hT; clear hT hb4)
      | (go_at_call 31; refine (cmp_s na ta nl nc tl tc N 2 w4 (HNN.out.below hbb4) HT4.out).mono ?_; rintro e w5 ⟨rfl, hb5⟩; have hbb5 : BB w3 w5 := BB.step hbb4 hb5; clear hb5))
  have HE5 := Lib.hid (HE3.out.below hbb5)
  have gs0' : ∀ w', BB w5 w' → w'.cell? ⟨s, 0, none⟩ = some (.slice na nl nc) := fun w' h => gs0 w' (BB.step hbb5 h)
  have gs1 : ∀ w', BB w5 w' → w'.cell? ⟨s, 1, none⟩ = some (.slice ba bl bc) := fun w' h => (h.cell (HE5.out.has 4 rfl).lt).trans ((HE5.out.has 4 rfl).cell 1)
  have gs2' : ∀ w', BB w5 w' → w'.cell? ⟨s, 2, none⟩ = some (.slice (some ad) pl pc) := fun w' h => gs2 w' (BB.step hbb5 h)
  obtain ⟨oa, ol, oc, gO, No⟩ := HE5.out.get 0 rfl
  have HO5 := Lib.hid No
  have HN5 := Lib.hid (HE5.out.has 0 rfl)
  have HB5 := Lib.hid (HE5.out.has 1 rfl)
  have s0 := gs0' w5 (BB.refl _)
  have cO := gO w5 (BB.refl _)
  clear gs0 gs2 HE3 HNN No hbb4 hbb5 HT4 hN2
  go_wp2_with fail
  refine (sub_s na oa nl nc ol oc N 1 w5 HN5.out HO5.out).mono ?_
  rintro e w6 ⟨la, ll, lc, rfl, hL, hb6⟩
  obtain ⟨L, hLs⟩ : ∃ L, L = w6.heap.size := ⟨_, rfl⟩
  have HE7 := Lib.hid ((HE5.out.below hb6).alloc L hLs hL (c := lc))
  have gs0 := fun w' h => gs0' w' (BB.step (BB.step (BB.refl _) hb6) h)
  clear hL s0 cO HE5 HN5 HB5 HO5 gs0'
  have s0 : ∀ o, (w6.alloc o).cell? ⟨s, 0, none⟩ = some (.slice na nl nc) := fun o => gs0 _ (BB.alloc (BB.refl _))
  go_wp2_with fail
  rw [← hLs]
  have hb7 : BB w5 (w6.alloc (Obj.cells #[Value.slice la ll lc] 36)) := BB.alloc (BB.step (BB.refl _) hb6)
  clear s0 gs0 hb6
  generalize w6.alloc (Obj.cells #[Value.slice la ll lc] 36) = w7 at HE7 hb7 ⊢
  clear hLs
  refine (modnew_any na nl nc N w7 (HE7.out.has 0 rfl) HS.out.two).mono ?_
  rintro e w8 ⟨r, rfl, hR, hb8⟩
  have hbb8 : BB w5 w8 := BB.step hb7 hb8
  have HE8 := Lib.hid ((HE7.out.below hb8).add (ringAt_stays (by decide) (by decide)) hR)
  have gs0 : ∀ w', BB w8 w' → w'.cell? ⟨s, 0, none⟩ = some (.slice na nl nc) := fun w' h => (h.cell (HE8.out.has 4 rfl).lt).trans ((HE8.out.has 4 rfl).cell 0)
  have gs1' : ∀ w', BB w8 w' → w'.cell? ⟨s, 1, none⟩ = some (.slice ba bl bc) := fun w' h => gs1 w' (BB.step hbb8 h)
  have gs2 : ∀ w', BB w8 w' → w'.cell? ⟨s, 2, none⟩ = some (.slice (some ad) pl pc) := fun w' h => gs2' w' (BB.step hbb8 h)
  clear gs1 gs2' gO hR hb8 hb7 HE7 hbb8
  obtain ⟨oa, ol, oc, gO, No⟩ := HE8.out.get 0 rfl
  obtain ⟨la, ll, lc, gL, Nl⟩ := HE8.out.get 1 rfl
  have HO8 := Lib.hid No
  have HL8 := Lib.hid Nl
  clear No Nl
  go_wp2_with fail
  have h1N : 1 % N = 1 := Nat.mod_eq_of_lt (by have := HS.out.two; omega)
  have hone : Hid (base ^ (N - 1) % N = 1) := HS.out.one
  go_region_held3 (fun w' => BB w8 w') (first | assumption | exact BB.drew (BB.refl _))
    (first
      | (go_at_call 92; refine (rexp_any r N ba la bl bc ll lc base (N - 1) w8.drew (HE8.out.has 5 rfl).drew (HE8.out.has 1 rfl).drew HL8.out.drew).mono ?_; rintro e w9 ⟨ta, tl, tc, rfl, hT, hb9⟩; have hbb9 : BB w8 w9 := BB.step (BB.drew (BB.refl w8)) hb9; have HT9 := Lib.hid hT; clear hT hb9)
      | (go_at_call 31; refine (cmp_s ta oa tl tc ol oc _ 1 w9 HT9.out (HO8.out.below hbb9)).mono ?_; rw [hone.out, cmp_self]; rintro e w10 ⟨rfl, hb10⟩; have hbb10 : BB w8 w10 := BB.step hbb9 hb10; clear hb10))
  have HE10 := Lib.hid (HE8.out.below hbb10)
  have cO := gO w10 hbb10
  have c2 := gs2 w10 hbb10
  have c2' : ∀ o, (w10.alloc o).cell? ⟨s, 2, none⟩ = some (.slice (some ad) pl pc) := fun o => gs2 _ (BB.alloc hbb10)
  obtain ⟨f, hf⟩ : ∃ f, f = w10.heap.size := ⟨_, rfl⟩
  have HE11 := Lib.hid (HE10.out.alloc f hf (HO8.out.below hbb10) (c := oc))
  clear hbb9 hbb10 HT9 HE10
  go_wp2_with fail
  rw [← hf]
  generalize w10.alloc (Obj.cells #[Value.slice oa ol oc] 36) = w11 at HE11 ⊢
  obtain ⟨F, hF⟩ : ∃ F : List (World → Prop), F = [fun w => NatS w na nl N, fun w => NatS w ba bl base, fun w => NatsLow s w (some ad) ps, fun w => NatsLow s w da behind, fun w => Blk w s 150 [.slice na nl nc, .slice ba bl bc, .slice (some ad) pl pc], fun w => RingAt w r N] := ⟨_, rfl⟩
  have HE12 : Hid (NE w w11 s [(O, 1), (L, N - 1), (f, prodl (ws.take 0))] F) := by rw [hF]; exact HE11.out
  have f0 : Hid (F[0]? = some (fun w => NatS w na nl N)) := by show _ = _; rw [hF]; rfl
  have f1 : Hid (F[1]? = some (fun w => NatS w ba bl base)) := by show _ = _; rw [hF]; rfl
  have f2 : Hid (F[2]? = some (fun w => NatsLow s w (some ad) ps)) := by show _ = _; rw [hF]; rfl
  have f3 : Hid (F[3]? = some (fun w => NatsLow s w da behind)) := by show _ = _; rw [hF]; rfl
  have f4 : Hid (F[4]? = some (fun w => Blk w s 150 [.slice na nl nc, .slice ba bl bc, .slice (some ad) pl pc])) := by show _ = _; rw [hF]; rfl
  have f5 : Hid (F[5]? = some (fun w => RingAt w r N)) := by show _ = _; rw [hF]; rfl
  clear hF HE11 hf HE8 gs0 gs1' gs2 gO gL HO8 HL8 h1N hone cO c2 c2'
  go_loopw [66] (fun iv wr => ∃ i : Nat, (i : Int) ≤ pl ∧ iv = .int .i64 (i : Int) ∧ Hid (NE w wr s [(O, 1), (L, N - 1), (f, prodl (ws.take i))] F)) (fun iv _ => pl - (intOf iv).toNat)
  case atStart => exact ⟨0, by omega, rfl, HE12.out⟩
  case round =>
    clear HE12
    obtain ⟨i, hi, rfl, HE⟩ := hrel
    by_cases hlt : (i : Int) < pl
    · have hil : i < ps.length := by rw [HPL.out]; omega
      obtain ⟨p, hp⟩ : ∃ p, ps.getD i 0 = p := ⟨_, rfl⟩
      obtain ⟨_, xa, xl, xc, he, _, cp, Np⟩ := (HE.out.has 2 f2.out).1.get hil
      injection he with he
      subst he
      rw [hp] at Np
      have HPr : Hid (PrOk N base behind p (ws.getD i 0)) := by have := HS.out.each i hil; rw [hp] at this; exact this
      have HNp := Lib.hid Np
      have HPI := Lib.hid hp
      have bs := HE.out.has 4 f4.out
      have c2' : ∀ o, (wr.alloc o).cell? ⟨s, 2, none⟩ = some (.slice (some ad) pl pc) := fun o => (bs.alloc o).cell 2
      have hcap : (i : Int) ≤ pc := by omega
      obtain ⟨Z, hZ⟩ : ∃ Z, Z = wr.heap.size := ⟨_, rfl⟩
      have HE2 := Lib.hid (HE.out.alloc Z hZ Np (c := xc))
      have HNp2 : Hid (NatS (wr.alloc (Obj.cells #[Value.slice xa xl xc] 36)) xa xl p) := Np.below ((Below.refl _ wr).alloc (Nat.le_refl _) _)
      clear Np bs hp hil HE
      go_wp2_with fail
      rw [← hZ]
      clear hZ c2' cp HNp
      generalize wr.alloc (Obj.cells #[Value.slice xa xl xc] 36) = w12 at HE2 HNp2 ⊢
      go_loopw [76] (fun iv wr => ∃ j : Nat, (j : Int) ≤ i ∧ iv = .int .i64 (j : Int) ∧ Hid (NE w wr s ([(O, 1), (L, N - 1), (f, prodl (ws.take i))] ++ [(Z, p)]) F)) (fun iv _ => i - (intOf iv).toNat)
      case atStart => exact ⟨0, by omega, rfl, HE2.out⟩
      case round =>
        clear HE2 HNp2
        obtain ⟨j, hj, rfl, HE⟩ := hrel
        by_cases hlj : (j : Int) < i
        · have hjl : j < ps.length := by rw [HPL.out]; omega
          obtain ⟨q, hq⟩ : ∃ q, ps.getD j 0 = q := ⟨_, rfl⟩
          obtain ⟨_, ya, yl, yc, he, _, cq, Nq⟩ := (HE.out.has 2 f2.out).1.get hjl
          injection he with he
          subst he
          rw [hq] at Nq
          have hqp : (cmpNat q p == 0) = false := cmp_ne (by rw [← hq, ← HPI.out]; exact HS.out.nd j i (by omega) (by rw [HPL.out]; omega))
          obtain ⟨xa, xl, xc, gp, Np⟩ := HE.out.get 3 rfl
          have cp' : ∀ o, (wr.alloc o).cell? ⟨Z, 0, none⟩ = some (.slice xa xl xc) := fun o => gp _ (BB.alloc (BB.refl _))
          have hjlen : (j : Int) < pl := by omega
          obtain ⟨Y, hY⟩ : ∃ Y, Y = wr.heap.size := ⟨_, rfl⟩
          have hb := (Below.refl _ wr).alloc (Nat.le_refl _) (Obj.cells #[Value.slice ya yl yc] 36)
          have HE3 := Lib.hid (HE.out.alloc Y hY Nq (c := yc))
          have HNp := Lib.hid (Np.below hb)
          have HNq := Lib.hid (Nq.below hb)
          clear Nq Np hq hjl HE gp hb
          go_wp2_with fail
          clear cp' cq hY
          generalize wr.alloc (Obj.cells #[Value.slice ya yl yc] 36) = w13 at HE3 HNp HNq ⊢
          refine (cmp_s ya xa yl yc xl xc q p w13 HNq.out HNp.out).mono ?_
          rintro e w14 ⟨rfl, hb14⟩
          have HE4 := Lib.hid (HE3.out.below hb14)
          clear hb14 HE3 HNq HNp
          go_wp2_with fail
          go_roundw
          case rel => exact ⟨j + 1, by omega, by go_num, HE4.out.pop⟩
          case measure => simp [intOf]; omega
        · have hj' : j = i := by omega
          subst hj'
          obtain ⟨xa, xl, xc, gp, Np⟩ := HE.out.get 3 rfl
          have HNp := Lib.hid Np
          have hp2 : decide (cmpNat p 2 < 0) = false := cmp_ge HPr.out.two
          clear Np
          go_wp2_with fail
          go_region_held3 (fun w' => BB wr w') (first | assumption | exact BB.drew (BB.refl _))
            (first
              | (go_at_call 151; refine (known_yes xa xl xc p da dl dc behind wr.drew HNp.out.drew (HE.out.has 3 f3.out).1 HDL.out hdm hdc HPr.out.small).mono ?_; rintro e w13 ⟨rfl, hb13⟩; have hbb13 : BB wr w13 := BB.step (BB.drew (BB.refl wr)) hb13; clear hb13)
              | (go_at_call 13; refine (new_s 2 w13 (by decide)).mono ?_; rintro e w14 ⟨ta, tl, tc, rfl, hT, hb14⟩; have hbb14 : BB wr w14 := BB.step hbb13 hb14; have HT14 := Lib.hid hT; clear hT hb14)
              | (go_at_call 31; refine (cmp_s xa ta xl xc tl tc p 2 w14 (HNp.out.below hbb14) HT14.out).mono ?_; rintro e w15 ⟨rfl, hb15⟩; have hbb15 : BB wr w15 := BB.step hbb14 hb15; clear hb15))
          obtain ⟨k, m, hk1, hk2, hk3⟩ := HPr.out.pw
          have HE15 := Lib.hid (HE.out.below hbb15)
          have HNp15 := Lib.hid (HNp.out.below hbb15)
          have cp15 := gp w15 hbb15
          obtain ⟨la, ll, lc, gL, Nl⟩ := HE15.out.get 1 rfl
          have cL15 := gL w15 (BB.refl _)
          have HL15 := Lib.hid Nl
          have hm0 : 0 < m := by rcases Nat.eq_zero_or_pos m with h | h; · rw [h, Nat.zero_mod] at hk2; exact absurd rfl hk2
                                 · exact h
          have hN1000 : N < W ^ 1000 := @lt_wpow _ _ 1000 (HE15.out.has 0 f0.out).1.lt (by have := (HE15.out.has 0 f0.out).2; omega)
          have hpw : p ^ (k + 1) < W ^ 1000 := by
            have h1 : p ^ (k + 1) ≤ p ^ (k + 1) * m := Nat.le_mul_of_pos_right _ hm0
            rw [← hk1] at h1
            omega
          have HK := Lib.hid (show N - 1 = p ^ (k + 1) * m ∧ m % p ≠ 0 ∧ ws.getD j 0 = p ^ (k + 1) ∧ p ^ (k + 1) < W ^ 1000 from ⟨hk1, hk2, hk3, hpw⟩)
          obtain ⟨v, hv⟩ : ∃ v, p ^ (k + 1) = v := ⟨_, rfl⟩
          have hv0 : (v == 0) = false := by
            rw [beq_eq_false_iff_ne, ← hv]
            have : 0 < p ^ (k + 1) := Nat.pow_pos (by have := HPr.out.two; omega)
            omega
          have HV : Hid (prodl (ws.take j) * v = prodl (ws.take (j + 1)) ∧ prodl (ws.take j) * v < W ^ 1000) := by
            have hjl : j < ws.length := by rw [HS.out.len, HPL.out]; omega
            have h1 : prodl (ws.take j) * v = prodl (ws.take (j + 1)) := by
              rw [List.take_succ_eq_append_getElem hjl, prodl_snoc, ← hv, ← hk3, List.getD_eq_getElem?_getD, List.getElem?_eq_getElem hjl]; rfl
            exact ⟨h1, by rw [h1]; exact Nat.lt_of_lt_of_le (HS.out.size (j + 1)) two250⟩
          clear hbb15 hbb14 hbb13 gp hp2 HT14 hk1 hk2 hk3 hm0 hN1000 hpw HE HNp Nl
          go_wp2_with fail
          refine (power_yes la ll lc (N - 1) xa xl xc p k m w15 HL15.out HNp15.out HPr.out.two HK.out.1 HK.out.2.1 HK.out.2.2.2).mono ?_
          rw [hv]
          rintro e w16 ⟨va, vl, vc, rfl, hV, hb16⟩
          obtain ⟨V, hVs⟩ : ∃ V, V = w16.heap.size := ⟨_, rfl⟩
          have HE17 := Lib.hid ((HE15.out.below hb16).alloc V hVs hV (c := vc))
          have HV17 : Hid (NatS (w16.alloc (Obj.cells #[Value.slice va vl vc] 36)) va vl v) := hV.below ((Below.refl _ w16).alloc (Nat.le_refl _) _)
          clear hV hb16 cp15 cL15 gL HE15 HNp15 HL15
          go_wp2_with fail
          rw [← hVs]
          clear hVs
          generalize w16.alloc (Obj.cells #[Value.slice va vl vc] 36) = w17 at HE17 HV17 ⊢
          refine (zero_s va vl vc v w17 HV17.out).mono ?_
          rintro e w18 ⟨rfl, hb18⟩
          have HE18 := Lib.hid (HE17.out.below hb18)
          clear hb18 HE17 HV17
          obtain ⟨fa, fl, fc, cf, ff, Nf⟩ := HE18.out.box 2 rfl
          obtain ⟨va, vl, vc, cv, _, Nv⟩ := HE18.out.box 4 rfl
          have HNf := Lib.hid Nf
          have HNv := Lib.hid Nv
          clear Nf Nv
          go_wp2_with fail
          refine (mul_s fa va fl fc vl vc _ v w18 HNf.out HNv.out HV.out.2).mono ?_
          rw [HV.out.1]
          rintro e w19 ⟨ya, yl, yc, rfl, hY, hb19⟩
          have HE19 := Lib.hid (HE18.out.below hb19)
          have HY19 := Lib.hid hY
          clear hb19 hY HNf HNv cf ff cv HE18
          obtain ⟨_, _, _, cf, ff, _⟩ := HE19.out.box 2 rfl
          obtain ⟨la, ll, lc, gL, Nl⟩ := HE19.out.get 1 rfl
          obtain ⟨xa, xl, xc, gp, Np⟩ := HE19.out.get 3 rfl
          have cL19 := gL w19 (BB.refl _)
          have cp19 := gp w19 (BB.refl _)
          have cL19' : ∀ v, (w19.setCell ⟨f, 0, none⟩ v).cell? ⟨L, 0, none⟩ = some (.slice la ll lc) := fun v => (cell_other v (show L ≠ f from HE19.out.ne 1 2 rfl rfl (by decide))).trans cL19
          have cp19' : ∀ v, (w19.setCell ⟨f, 0, none⟩ v).cell? ⟨Z, 0, none⟩ = some (.slice xa xl xc) := fun v => (cell_other v (show Z ≠ f from HE19.out.ne 3 2 rfl rfl (by decide))).trans cp19
          have HE20 := Lib.hid ((HE19.out.set 2 rfl HY19.out (c := yc)).take 4)
          have HL20 := Lib.hid (HE19.out.natSet 2 rfl Nl (.slice ya yl yc))
          have HP20 := Lib.hid (HE19.out.natSet 2 rfl Np (.slice ya yl yc))
          clear HE19 HY19 Nl Np gL gp cL19 cp19
          go_wp2_with fail
          clear cL19' cp19' cf ff
          generalize w19.setCell ⟨f, 0, none⟩ (.slice ya yl yc) = w20 at HE20 HL20 HP20 ⊢
          refine (div_s la xa ll lc xl xc (N - 1) p w20 HL20.out HP20.out (by have := HPr.out.two; omega)).mono ?_
          rintro e w21 ⟨qa, ql, qc, ra, rl, rc, rfl, hq, hr, hb21⟩
          have hbq := (Below.refl _ w21).alloc (Nat.le_refl _) (Obj.cells #[Value.slice qa ql qc] 36)
          obtain ⟨T, hT⟩ : ∃ T, T = w21.heap.size := ⟨_, rfl⟩
          have HE22 := Lib.hid (((HE20.out.below hb21).alloc T hT hq (c := qc)).alloc (T + 1) (by rw [hT]; simp) (hr.below hbq) (c := rc))
          clear HE20 HL20 HP20 hb21 hbq hq hr
          go_wp2_with fail
          rw [← hT]
          clear hT
          generalize ((w21.alloc (Obj.cells #[Value.slice qa ql qc] 36)).alloc (Obj.cells #[Value.slice ra rl rc] 36)) = w22 at HE22 ⊢
          obtain ⟨oa, ol, oc, gO, No⟩ := HE22.out.get 0 rfl
          obtain ⟨ta, tl, tc, gT, Nt⟩ := HE22.out.get 4 rfl
          have bs := HE22.out.has 4 f4.out
          have gs0 : ∀ w', BB w22 w' → w'.cell? ⟨s, 0, none⟩ = some (.slice na nl nc) := fun w' h => (h.cell bs.lt).trans (bs.cell 0)
          have gs1 : ∀ w', BB w22 w' → w'.cell? ⟨s, 1, none⟩ = some (.slice ba bl bc) := fun w' h => (h.cell bs.lt).trans (bs.cell 1)
          have HNo := Lib.hid No
          have HNt := Lib.hid Nt
          have HNN := Lib.hid (HE22.out.has 0 f0.out)
          have HNB := Lib.hid (HE22.out.has 1 f1.out)
          have HRR := Lib.hid (HE22.out.has 5 f5.out)
          have hgc := Lib.hid HPr.out.gc
          have hN0 : 0 < N := by have := HS.out.two; omega
          clear No Nt bs
          go_region_held3 (fun w' => BB w22 w') (first | assumption | exact BB.drew (BB.refl _))
            (first
              | (go_at_call 92; refine (rexp_any r N ba ta bl bc tl tc base ((N - 1) / p) w22.drew HRR.out.drew HNB.out.drew HNt.out.drew).mono ?_; rintro e w23 ⟨ya, yl, yc, rfl, hY, hb23⟩; have hbb23 : BB w22 w23 := BB.step (BB.drew (BB.refl w22)) hb23; have HY23 := Lib.hid hY; clear hY hb23)
              | (go_at_call 54; refine (rsub_any r N ya oa yl yc ol oc _ 1 w23 (HRR.out.below hbb23) HY23.out (HNo.out.below hbb23)).mono ?_; rintro e w24 ⟨za, zl, zc, rfl, hZ, hb24⟩; have hbb24 : BB w22 w24 := BB.step hbb23 hb24; have HZ24 := Lib.hid hZ; clear hZ hb24)
              | (go_at_call 153; refine (gcd_s za na zl zc nl nc _ N w24 HZ24.out (HNN.out.below hbb24) hN0).mono ?_; rw [hgc.out]; rintro e w25 ⟨ga, gl, gc, rfl, hG, hb25⟩; have hbb25 : BB w22 w25 := BB.step hbb24 hb25; have HG25 := Lib.hid hG; clear hG hb25)
              | (go_at_call 31; refine (cmp_s ga oa gl gc ol oc 1 1 w25 HG25.out (HNo.out.below hbb25)).mono ?_; rw [cmp_self]; rintro e w26 ⟨rfl, hb26⟩; have hbb26 : BB w22 w26 := BB.step hbb25 hb26; clear hb26))
          have HE26 := Lib.hid (HE22.out.below hbb26)
          clear hbb23 hbb24 hbb25 hbb26 HNo HNt HNN HNB HRR gs0 gs1 gO gT HE22 HY23 HZ24 HG25
          go_wp2_with fail
          go_roundw
          case rel => exact ⟨j + 1, by omega, by go_num, HE26.out.take 3⟩
          case measure => simp [intOf]; omega
    · have hi' : i = pl := by omega
      subst hi'
      obtain ⟨fa, fl, fc, gF, Nf⟩ := HE.out.get 2 rfl
      have hpr : prodl (ws.take i) = prodl ws := by rw [List.take_of_length_le (by rw [HS.out.len, HPL.out]; exact Nat.le_refl _)]
      have hpl2 : prodl ws < 2 ^ 250 := by have := HS.out.size i; rwa [hpr] at this
      have hmul : prodl ws * prodl ws < W ^ 1000 := @lt_wpow _ 16 1000 (Nat.lt_of_lt_of_le (Nat.mul_lt_mul'' hpl2 hpl2) (by decide)) (by decide)
      rw [hpr] at Nf
      have HNf := Lib.hid Nf
      have HNN := Lib.hid (HE.out.has 0 f0.out)
      have HML := Lib.hid hmul
      have bs := HE.out.has 4 f4.out
      have gs0 : ∀ w', BB wr w' → w'.cell? ⟨s, 0, none⟩ = some (.slice na nl nc) := fun w' h => (h.cell bs.lt).trans (bs.cell 0)
      have hgt : cmpNat (prodl ws * prodl ws) N = 1 := by
        have := HS.out.big
        unfold cmpNat
        rw [if_neg (by omega), if_pos this]
      have HGT := Lib.hid hgt
      clear Nf hpl2 hmul hpr bs hgt
      go_wp2_with fail
      go_region_held3 (fun w' => BB wr w') (first | assumption | exact BB.drew (BB.refl _))
        (first
          | (go_at_call 91; refine (mul_s fa fa fl fc fl fc _ _ wr.drew HNf.out.drew HNf.out.drew HML.out).mono ?_; rintro e w13 ⟨ta, tl, tc, rfl, hT, hb13⟩; have hbb13 : BB wr w13 := BB.step (BB.drew (BB.refl wr)) hb13; have HT13 := Lib.hid hT; clear hT hb13)
          | (go_at_call 31; refine (cmp_s ta na tl tc nl nc _ N w13 HT13.out (HNN.out.below hbb13)).mono ?_; rw [HGT.out]; rintro e w14 ⟨rfl, hb14⟩; have hbb14 : BB wr w14 := BB.step hbb13 hb14; clear hb14))
      have HE14 := Lib.hid (HE.out.below hbb14)
      clear hbb13 hbb14 HT13
      go_wp2_with fail
      go_ret
      exact ⟨rfl, HSZ.out ▸ HE14.out.bel⟩
end Go.Proofs.YthefednendgclaaGreat
/-
  Chains of primes: Check and Prime, where all is right.
-/
namespace Go.Proofs.YthefednendgclaaGreat
open Go Go.RowKit Sac

/-- A step of a chain: its number, its base, its primes, and their powers. -/
structure Stp where
  N : Nat
  base : Nat
  ps : List Nat
  ws : List Nat
/-- A chain whose steps all hold, of numbers that aren't long. -/
structure ChainOk (st : List Stp) : Prop where
  le : st.length ≤ 64
  ok : ∀ i (h : i < st.length), StepOk st[i].N st[i].base st[i].ps st[i].ws ((st.take i).map Stp.N)
  small : ∀ t ∈ st, t.N < 2 ^ 250 ∧ t.base < 2 ^ 250 ∧ ∀ p ∈ t.ps, p < 2 ^ 250

/-- Block g holds a chain; what it points to lies below block s. -/
def StepsAt (w : World) (s g : Nat) (st : List Stp) : Prop := Ety w g 150 ∧ ∀ i (h : i < st.length), ∃ (na : Option Addr) (nl nc : Nat) (ba : Option Addr) (bl bc : Nat) (pa : Option Addr) (pc : Nat),
  w.cell? ⟨g, i * 3, none⟩ = some (.slice na nl nc) ∧ w.cell? ⟨g, i * 3 + 1, none⟩ = some (.slice ba bl bc) ∧ w.cell? ⟨g, i * 3 + 2, none⟩ = some (.slice pa st[i].ps.length pc) ∧
  NatS w na nl st[i].N ∧ NatS w ba bl st[i].base ∧ NatsLow s w pa st[i].ps ∧ (st[i].ps.length : Int) ≤ pc
theorem StepsAt.kt {B s : Nat} {T : TypeId} {w w' : World} {g : Nat} {st : List Stp} (hT : 106 ≠ T) (hT2 : 150 ≠ T) (h : StepsAt w s g st) (hB : s ≤ B) (k : KT B T w w') : StepsAt w' s g st := by
  obtain ⟨h1, h2⟩ := h
  have hs := k.ety hT2 h1
  refine ⟨h1.same hs, fun i hi => ?_⟩
  obtain ⟨na, nl, nc, ba, bl, bc, pa, pc, c0, c1, c2, n0, n1, n2, n3⟩ := h2 i hi
  have hc : ∀ o, w'.cell? ⟨g, o, none⟩ = w.cell? ⟨g, o, none⟩ := fun o => World.cell?_of_block hs
  exact ⟨na, nl, nc, ba, bl, bc, pa, pc, (hc _).trans c0, (hc _).trans c1, (hc _).trans c2, n0.kt hT k, n1.kt hT k, n2.kt hT hB k, n3⟩
theorem stepsAt_stays {B : Nat} {T : TypeId} {g : Nat} {st : List Stp} (hT : 106 ≠ T) (hT2 : 150 ≠ T) : Stays B T (fun w => StepsAt w B g st) := fun _ _ k h => h.kt hT hT2 (Nat.le_refl _) k

set_option maxRecDepth 100000 in
set_option maxHeartbeats 8000000 in
theorem check_yes (g cap : Nat) (len : Nat) (st : List Stp) (w : World) (hst : StepsAt w w.heap.size g st) (hlen : st.length = len) (hcap : (len : Int) ≤ cap) (hok : ChainOk st) :
    Calls Tryz.prog 121 #[.slice (some ⟨g, 0, none⟩) len cap] w fun e w' => e = .returned (.int .i64 0) ∧ Below w.heap.size w w' := by
  obtain ⟨s, hsz⟩ : ∃ s, s = w.heap.size := ⟨_, rfl⟩
  have HE0 := Lib.hid (((GE.init w s hsz).pushNil).add (stepsAt_stays (by decide) (by decide)) (hsz ▸ hst))
  have HOK := Lib.hid hok
  have HL := Lib.hid hlen
  have HSZ := Lib.hid hsz
  have hl64 : (len : Int) ≤ 64 := by have := hok.le; omega
  have e1 : decide ((64 : Int) < (len : Int)) = false := decide_eq_false (by omega)
  clear hst hok hlen hsz
  go_enter Tryz.func121, Tryz.ntmps121
  go_wp2_with fail
  go_loopw [15] (fun iv wr => ∃ i : Nat, (i : Int) ≤ len ∧ iv = .int .i64 (i : Int) ∧ Hid (GE w wr s [rowI s (.slice none 0 0) []] [fun w => StepsAt w s g st])) (fun iv _ => len - (intOf iv).toNat)
  case atStart => exact ⟨0, by omega, rfl, HE0.out⟩
  case round =>
    clear HE0
    obtain ⟨i, hi, rfl, HE⟩ := hrel
    by_cases hlt : (i : Int) < len
    · have hil : i < st.length := by rw [HL.out]; omega
      obtain ⟨t, ht⟩ : ∃ t, st[i] = t := ⟨_, rfl⟩
      obtain ⟨na, nl, nc, ba, bl, bc, pa, pc, c0, c1, c2, n0, n1, n2, n3⟩ := (HE.out.has 0 rfl).2 i hil
      rw [ht] at c2 n0 n1 n2 n3
      have HT : Hid (∃ h : i < st.length, st[i] = t) := ⟨hil, ht⟩
      have hso := HOK.out.ok i hil
      rw [ht] at hso
      obtain ⟨pad, _, _, _, rfl, _, _, _⟩ := n2.1.get (k := 0) (by have := hso.ne; omega)
      obtain ⟨pl, hpl⟩ : ∃ pl, t.ps.length = pl := ⟨_, rfl⟩
      have hp32 : pl ≤ 32 := by have := hso.le; omega
      have HPL := Lib.hid hpl
      rw [hpl] at c2 n3
      obtain ⟨B, hBs⟩ : ∃ B, B = wr.heap.size := ⟨_, rfl⟩
      obtain ⟨w1, hw1⟩ : ∃ w1, wr.alloc (Obj.cells #[Value.slice na nl nc, Value.slice ba bl bc, Value.slice (some pad) pl pc] 150) = w1 := ⟨_, rfl⟩
      have hb1 : BB wr w1 := hw1 ▸ BB.alloc (BB.refl _)
      have hB1 : B + 1 = w1.heap.size := by rw [← hw1, hBs]; simp
      have hO := NatsOwn.lit2 (c := nc) (c' := bc) (B + 1) (B + 1) hB1 (Nat.le_refl _) (n0.below hb1) (n1.below hb1)
      have hb2 : BB w1 (w1.alloc (Obj.cells #[Value.slice na nl nc, Value.slice ba bl bc] 36)) := BB.alloc (BB.refl _)
      have hA := n2.1.below (BB.step (BB.step (BB.refl _) hb1) hb2)
      have HO := Lib.hid hO
      have HA := Lib.hid hA
      have HEB := Lib.hid (HE.out.below (BB.step hb1 hb2))
      have HSM := Lib.hid (HOK.out.small t (ht ▸ List.getElem_mem hil))
      have hsz2 : B + 1 ≤ (w1.alloc (Obj.cells #[Value.slice na nl nc, Value.slice ba bl bc] 36)).heap.size := by rw [hB1]; exact hb2.size
      subst hw1
      subst hBs
      clear ht hil hO hA hso hpl n0 n1 n2 hb1 hb2 hB1
      go_wp2_with (first | (refine wpList_append_nats _ rfl (.tmp 23) (.tmp 25) rfl (wr.heap.size + 1) _ [t.N, t.base] rfl HO.out pad pl pc t.ps rfl HPL.out HA.out (by show 2 + pl ≤ 100000; omega) hsz2 ?_; intro v' w3 hown hgr hf; obtain ⟨ra, rc, hv', hrc1, hrc2, hrat, hrg⟩ := hown.form; obtain ⟨ms, hms⟩ : ∃ ms, [t.N, t.base] ++ t.ps = ms := ⟨_, rfl⟩; obtain ⟨M, hM⟩ : ∃ M, ms.length = M := ⟨_, rfl⟩; rw [hms, hM] at hv'; rw [hms] at hrat hrc1 hrg; rw [hM] at hrc1; subst hv'; have HMS := Lib.hid hms; have HML := Lib.hid hM; have HRA := Lib.hid hrat; have HGR := Lib.hid hgr; have hM34 : M ≤ 34 := (by rw [← hM, ← hms]; show t.ps.length + 1 + 1 ≤ 34; rw [HPL.out]; omega); have hrc : (M : Int) ≤ rc := (by omega); clear hown hgr hf hms hM hrat hrg hrc1 hrc2))
      have HB3 : Hid (Below wr.heap.size wr w3) := by
        refine ⟨HGR.out.os, HGR.out.tape, HGR.out.output, Nat.le_trans (by simp; omega) HGR.out.size, fun k hk => ?_⟩
        rw [HGR.out.block k (by simp; omega) (by intro e; injection e with e; simp at e; omega)]
        exact ((BB.refl wr).alloc.alloc : BB wr _).block k hk
      clear HGR HO HA HEB
      go_loopw [28] (fun iv wr' => ∃ j : Nat, (j : Int) ≤ M ∧ iv = .int .i64 (j : Int) ∧ Hid (BB w3 wr')) (fun iv _ => M - (intOf iv).toNat)
      case atStart => exact ⟨0, by omega, rfl, BB.refl _⟩
      case round =>
        obtain ⟨j, hj, rfl, HJ⟩ := hrel
        by_cases hlj : (j : Int) < M
        · have hjl : j < ms.length := by rw [HML.out]; omega
          obtain ⟨x, hx⟩ : ∃ x, ms.getD j 0 = x := ⟨_, rfl⟩
          obtain ⟨ad', xa, xl, xc, rfl, _, cx, Nx⟩ := (HRA.out.below HJ.out).get hjl
          have hxs : x < 2 ^ 250 := by
            have hmem : x ∈ ms := by rw [← hx, List.getD_eq_getElem?_getD, List.getElem?_eq_getElem hjl]; exact List.getElem_mem hjl
            rw [← HMS.out] at hmem
            have := HSM.out
            simp only [List.cons_append, List.nil_append, List.mem_cons] at hmem
            rcases hmem with h | h | h
            · rw [h]; exact this.1
            · rw [h]; exact this.2.1
            · exact this.2.2 _ h
          rw [hx] at Nx
          have HX := Lib.hid hxs
          have HNx := Lib.hid (Nx.below ((Below.refl _ _).alloc (Nat.le_refl _) (Obj.cells #[Value.slice xa xl xc] 36)))
          clear Nx hxs hx hjl
          go_wp2_with fail
          refine (clong_no xa xl xc x _ HNx.out HX.out).mono ?_
          rintro e w4 ⟨rfl, hb4⟩
          have HJ4 : Hid (BB w3 w4) := BB.step (BB.alloc HJ.out) hb4
          clear hb4 HJ HNx cx
          go_wp2_with fail
          go_roundw
          case rel => exact ⟨j + 1, by omega, by go_num, HJ4.out⟩
          case measure => simp [intOf]; omega
        · have hj' : j = M := by omega
          subst hj'
          have HE3 := Lib.hid (HE.out.below (HB3.out.trans (HJ.out.mono HB3.out.size)))
          clear HE HJ HB3
          go_wp2_with fail
          go_roundw
          case rel => exact ⟨i + 1, by omega, by go_num, HE3.out⟩
          case measure => simp [intOf]; omega
    · have hi' : i = len := by omega
      rw [hi']
      clear hi' hlt hi i
      go_wp2_with fail
      go_loopw [7, 38] (fun bv iv wr => ∃ i : Nat, (i : Int) ≤ len ∧ iv = .int .i64 (i : Int) ∧ Hid (GE w wr s [rowI s bv ((st.take i).map Stp.N)] [fun w => StepsAt w s g st])) (fun _ iv _ => len - (intOf iv).toNat)
      case atStart => exact ⟨0, by omega, rfl, HE.out⟩
      case round =>
        clear HE
        obtain ⟨i, hi, rfl, HE⟩ := hrel
        by_cases hlt : (i : Int) < len
        · have hil : i < st.length := by rw [HL.out]; omega
          obtain ⟨t, ht⟩ : ∃ t, st[i] = t := ⟨_, rfl⟩
          obtain ⟨na, nl, nc, ba, bl, bc, pa, pc, c0, c1, c2, n0, n1, n2, n3⟩ := (HE.out.has 0 rfl).2 i hil
          rw [ht] at c2 n0 n1 n2 n3
          obtain ⟨pl, hpl⟩ : ∃ pl, t.ps.length = pl := ⟨_, rfl⟩
          have hso := HOK.out.ok i hil
          rw [ht] at hso
          obtain ⟨D, hD⟩ : ∃ D, (st.take i).map Stp.N = D := ⟨_, rfl⟩
          have hDn : D ++ [t.N] = (st.take (i + 1)).map Stp.N := by
            rw [List.take_succ_eq_append_getElem hil, List.map_append, ← hD, ht]; rfl
          obtain ⟨dl, hdl⟩ : ∃ dl, D.length = dl := ⟨_, rfl⟩
          have hdi : dl ≤ i := by rw [← hdl, ← hD, List.length_map, List.length_take]; omega
          rw [hD] at HE hso
          rw [hpl] at c2 n3
          obtain ⟨da, dc, rfl, hd1, hd2, hat, hdg⟩ := (HE.out.row 0 rfl).form
          rw [hdl] at HE hd1
          rw [hdl]
          obtain ⟨w1, hw1⟩ : ∃ w1, wr.alloc (Obj.cells #[Value.slice na nl nc, Value.slice ba bl bc, Value.slice pa pl pc] 150) = w1 := ⟨_, rfl⟩
          have hb1 : BB wr w1 := hw1 ▸ BB.alloc (BB.refl _)
          have HE1 := Lib.hid (HE.out.below hb1)
          have hholds := holds_yes na nl nc t.N ba bl bc t.base pa pl pc t.ps t.ws da dl dc D w1 (n0.below hb1) (n1.below hb1) (n2.1.below hb1) hpl n3 (hat.below hb1) hdl (by omega) (by omega) hso
          have HH := Lib.hid hholds
          have HN0 := Lib.hid (n0.below hb1)
          have HDN := Lib.hid hDn
          have HDL := Lib.hid hdl
          have hbs : Blk w1 wr.heap.size 150 [Value.slice na nl nc, Value.slice ba bl bc, Value.slice pa pl pc] := hw1 ▸ Blk.new' wr [Value.slice na nl nc, Value.slice ba bl bc, Value.slice pa pl pc] 150 wr.heap.size rfl
          have HB1 := Lib.hid hbs
          have d0 := hbs.cell 0
          have d1 := hbs.cell 1
          have d2 := hbs.cell 2
          simp only [List.getElem?_cons_zero, List.getElem?_cons_succ] at d0 d1 d2
          clear hholds hso n0 n1 n2 hat hb1 hdg ht hil hDn HE hD hpl hbs
          go_wp2_with fail
          refine HH.out.mono ?_
          rintro e w2 ⟨rfl, hb2⟩
          have HE2 := Lib.hid (HE1.out.below hb2)
          have HN2 := Lib.hid (HN0.out.below hb2)
          have HB2 := Lib.hid (HB1.out.below hb2 HB1.out.lt)
          have cs2 := HB2.out.cell 0
          simp only [List.getElem?_cons_zero] at cs2
          obtain ⟨R, hR⟩ : ∃ R, R = w2.heap.size := ⟨_, rfl⟩
          have HE3 := Lib.hid (HE2.out.below ((Below.refl _ w2).alloc (Nat.le_refl _) (Obj.cells #[Value.slice na nl nc] 36)))
          have HN3 : Hid (NatS (w2.alloc (Obj.cells #[Value.slice na nl nc] 36)) na nl t.N) := HN2.out.below ((Below.refl _ w2).alloc (Nat.le_refl _) _)
          have cR := (Blk.new w2 [Value.slice na nl nc] 36).cell 0
          simp only [List.getElem?_cons_zero] at cR
          clear HH HE1 HN0 HB1 hb2 HE2 HN2 hw1 d0 d1 d2
          go_wp2_with (first | (refine wpList_append_nat _ rfl (.tmp 46) (.tmp 49) rfl s _ D rfl (HE3.out.row 0 rfl) ⟨w2.heap.size, 0, none⟩ 1 t.N na nl nc rfl cR HN3.out (by rw [HDL.out]; omega) HE3.out.base ?_; intro v' w3 hown hgr hf; have HE4 := Lib.hid (HE3.out.append 0 rfl hgr hf hown); clear hown hgr hf))
          go_roundw
          case rel => exact ⟨i + 1, by omega, by go_num, HDN.out ▸ HE4.out⟩
          case measure => simp [intOf]; omega
        · go_wp2_with fail
          go_ret
          exact ⟨rfl, HSZ.out ▸ HE.out.bel⟩
end Go.Proofs.YthefednendgclaaGreat
/-
  Chains of primes: Prime, where all is right.
-/
namespace Go.Proofs.YthefednendgclaaGreat
open Go Go.RowKit Sac

set_option maxRecDepth 100000 in
set_option maxHeartbeats 4000000 in
theorem prime_small (a : Option Addr) (len cap n : Nat) (v : Value) (w : World) (h : NatS w a len n) (hs : SmallP n) :
    Calls Tryz.prog 85 #[.agg #[.slice a len cap], v] w fun e w' => e = .returned (.bool true) ∧ Below w.heap.size w w' := by
  have hb := (Below.refl _ w).alloc (Nat.le_refl _) (Obj.cells #[Value.slice a len cap] 36)
  have HN := Lib.hid (h.below hb)
  have HB := Lib.hid hb
  have HS := Lib.hid hs
  clear h hb hs
  go_enter Tryz.func85, Tryz.ntmps85
  go_wp2_with fail
  refine (small_yes a len cap n _ HN.out HS.out).mono ?_
  rintro e w2 ⟨rfl, hb2⟩
  have HB2 := Lib.hid (HB.out.trans (hb2.mono HB.out.size))
  clear hb2
  go_wp2_with fail
  go_ret
  exact ⟨rfl, HB2.out⟩

set_option maxRecDepth 100000 in
set_option maxHeartbeats 4000000 in
theorem prime_chain (a : Option Addr) (nlen ncap n : Nat) (g cap len : Nat) (st : List Stp) (w : World) (h : NatS w a nlen n) (hbig : 65536 ≤ n) (hst : StepsAt w w.heap.size g st) (hlen : st.length = len) (hcap : (len : Int) ≤ cap) (hok : ChainOk st) (hmem : ∃ t ∈ st, t.N = n) :
    Calls Tryz.prog 85 #[.agg #[.slice a nlen ncap], .slice (some ⟨g, 0, none⟩) len cap] w fun e w' => e = .returned (.bool true) ∧ Below w.heap.size w w' := by
  obtain ⟨s, hsz⟩ : ∃ s, s = w.heap.size := ⟨_, rfl⟩
  have HE0 := Lib.hid (((GE.init w s hsz).add (stepsAt_stays (by decide) (by decide)) (hsz ▸ hst)).alloc s hsz h (c := ncap))
  have HN0 := Lib.hid (h.below ((Below.refl _ w).alloc (Nat.le_refl _) (Obj.cells #[Value.slice a nlen ncap] 36)))
  have hl64 : (len : Int) ≤ 64 := by have := hok.le; omega
  have HL := Lib.hid hlen
  have HSZ := Lib.hid hsz
  have HOK := Lib.hid hok
  have HM := Lib.hid hmem
  have HBG := Lib.hid hbig
  have hST : ∀ w', Below w.heap.size w w' → StepsAt w' w'.heap.size g st := fun w' hb => by
    have h1 := hst.kt (B := w.heap.size) (T := 36) (by decide) (by decide) (Nat.le_refl _) (KT.below (Nat.le_refl _) hb)
    refine ⟨h1.1, fun i hi => ?_⟩
    obtain ⟨na, nl, nc, ba, bl, bc, pa, pc, c0, c1, c2, n0, n1, n2, n3⟩ := h1.2 i hi
    exact ⟨na, nl, nc, ba, bl, bc, pa, pc, c0, c1, c2, n0, n1, ⟨n2.1, fun ad h1 h2 => Nat.lt_of_lt_of_le (n2.2 ad h1 h2) hb.size⟩, n3⟩
  have HST := Lib.hid hST
  clear h hst hlen hok hmem hbig hST
  go_enter Tryz.func85, Tryz.ntmps85
  go_wp2_with fail
  refine (small_big a nlen ncap n _ HN0.out HBG.out).mono ?_
  rintro e w2 ⟨rfl, hb2⟩
  have HE2 := Lib.hid (HE0.out.below hb2)
  clear hb2 HE0 HN0
  go_wp2_with fail
  refine (check_yes g cap len st w2 (HST.out w2 (HSZ.out ▸ HE2.out.bel)) HL.out hcap HOK.out).mono ?_
  rintro e w3 ⟨rfl, hb3⟩
  have HE3 := Lib.hid (HE2.out.below hb3)
  clear hb3 HE2
  rw [← hsz]
  clear hsz
  go_wp2_with fail
  go_loopw [14] (fun iv wr => ∃ i : Nat, (i : Int) ≤ len ∧ iv = .int .i64 (i : Int) ∧ Hid (GE w wr s [boxI s n] [fun w => StepsAt w s g st]) ∧ Hid (∀ j (h : j < st.length), j < i → st[j].N ≠ n)) (fun iv _ => len - (intOf iv).toNat)
  case atStart => exact ⟨0, by omega, rfl, HE3.out, fun j _ h => by omega⟩
  case round =>
    clear HE3
    obtain ⟨i, hi, rfl, HE, HNE⟩ := hrel
    by_cases hlt : (i : Int) < len
    · have hil : i < st.length := by rw [HL.out]; omega
      obtain ⟨na, nl, nc, ba, bl, bc, pa, pc, c0, c1, c2, n0, n1, n2, n3⟩ := (HE.out.has 0 rfl).2 i hil
      obtain ⟨m, hm⟩ : ∃ m, st[i].N = m := ⟨_, rfl⟩
      obtain ⟨pl, hpl⟩ : ∃ pl, st[i].ps.length = pl := ⟨_, rfl⟩
      rw [hm] at n0
      rw [hpl] at c2
      obtain ⟨xa, xl, xc, gx, Nx⟩ := HE.out.get 0 rfl
      have cx : ∀ o, (wr.alloc o).cell? ⟨s, 0, none⟩ = some (.slice xa xl xc) := fun o => gx _ (BB.alloc (BB.refl _))
      have hb : BB wr (wr.alloc (Obj.cells #[Value.slice na nl nc, Value.slice ba bl bc, Value.slice pa pl pc] 150)) := BB.alloc (BB.refl _)
      have HE1 := Lib.hid (HE.out.below hb)
      have HNm := Lib.hid (n0.below hb)
      have HNx := Lib.hid (Nx.below hb)
      have HIM : Hid (∃ h : i < st.length, st[i].N = m) := ⟨hil, hm⟩
      clear n0 n1 n2 n3 hm hpl hil Nx gx hb HE
      go_wp2_with fail
      refine (cmp_s na xa nl nc xl xc m n _ HNm.out HNx.out).mono ?_
      rintro e w4 ⟨rfl, hb4⟩
      have HE4 := Lib.hid (HE1.out.below hb4)
      clear hb4 HE1 HNm HNx cx c0 c1 c2
      by_cases hmn : m = n
      · subst hmn
        rw [cmp_self]
        go_wp2_with fail
        go_ret
        exact ⟨rfl, HSZ.out ▸ HE4.out.bel⟩
      · have hcx := cmp_ne hmn
        have HX := Lib.hid hmn
        clear hmn
        go_wp2_with fail
        go_roundw
        case rel =>
          refine ⟨i + 1, by omega, by go_num, HE4.out, fun j hj hji => ?_⟩
          rcases Nat.lt_or_ge j i with h | h
          · exact HNE.out j hj h
          · obtain rfl : j = i := by omega
            obtain ⟨_, h2⟩ := HIM.out
            rw [h2]; exact HX.out
        case measure => simp [intOf]; omega
    · exfalso
      obtain ⟨t, ht, htn⟩ := HM.out
      obtain ⟨j, hj, rfl⟩ := List.getElem_of_mem ht
      exact HNE.out j hj (by rw [HL.out] at hj; omega) htn
end Go.Proofs.YthefednendgclaaGreat
