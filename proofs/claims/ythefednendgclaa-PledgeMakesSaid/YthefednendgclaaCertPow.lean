/-
  Chains of primes: power, long.
-/
import Derived.Test.YthefednendgclaaCertA
import Derived.Test.YthefednendgclaaNGE
import Derived.Deep.RegionLaw
set_option linter.unusedVariables false
set_option linter.unusedSimpArgs false
namespace Go.Proofs.Ythefednendgclaa
open Go Go.RowKit Sac

set_option maxRecDepth 100000 in
set_option maxHeartbeats 1000000 in
theorem clong_no (a : Option Addr) (len cap n : Nat) (w : World) (h : NatS w a len n) (hs : n < 2 ^ 250) :
    Calls Try.prog 148 #[.agg #[.slice a len cap]] w fun e w' => e = .returned (.bool false) ∧ Below w.heap.size w w' := by
  have HN := Lib.hid h
  have hl := h.2
  have hbl : blen n ≤ 250 := blen_le hs
  have hbl' : ((blen n : Nat) : Int) ≤ 250 := by omega
  have e1 : (decide ((1024 : Int) < ((blen n : Nat) : Int))) = false := by simp; omega
  clear h hs hbl
  go_enter Try.func148, Try.ntmps148
  go_wp2_with fail
  have hb0 : Below w.heap.size w (w.alloc (Obj.cells #[Value.slice a len cap] 33)) := (Below.refl _ w).alloc (Nat.le_refl _) _
  refine (bits_any a len cap n _ (HN.out.1.below hb0) (by omega)).mono ?_
  rintro e w1 ⟨rfl, hb1⟩
  have HB := Lib.hid (hb0.trans (hb1.mono hb0.size))
  clear hb0 hb1
  go_wp2_with fail
  go_ret
  exact ⟨rfl, HB.out⟩

theorem pow_le_of {p j k m : Nat} (hp : 2 ≤ p) (hm : 0 < m) (hj : j ≤ k) : p ^ j ≤ p ^ k * m :=
  Nat.le_trans (Nat.pow_le_pow_right (by omega) hj) (Nat.le_mul_of_pos_right _ hm)

theorem pow_div {p j m : Nat} (hp : 2 ≤ p) : p ^ (j + 1) * m / p = p ^ j * m := by
  rw [Nat.pow_succ, Nat.mul_right_comm, Nat.mul_div_cancel _ (by omega)]
theorem pow_mod0 {p j m : Nat} : p ^ (j + 1) * m % p = 0 := by
  rw [Nat.pow_succ, Nat.mul_right_comm, Nat.mul_mod_left]

set_option maxRecDepth 100000 in
set_option maxHeartbeats 4000000 in
theorem power_yes (a : Option Addr) (len cap n : Nat) (b : Option Addr) (lenb capb p : Nat) (k m : Nat) (w : World) (h : NatS w a len n) (hb : NatS w b lenb p) (hp : 2 ≤ p) (hn : n = p ^ (k + 1) * m) (hm : m % p ≠ 0) (hlt : p ^ (k + 1) < W ^ 1000) :
    Calls Try.prog 152 #[.agg #[.slice a len cap], .agg #[.slice b lenb capb]] w (RetS (p ^ (k + 1)) w) := by
  obtain ⟨s, hsz⟩ : ∃ s, s = w.heap.size := ⟨_, rfl⟩
  have hb1 := (Below.refl _ w).alloc (Nat.le_refl _) (Obj.cells #[Value.slice a len cap] 33)
  have E1 := (NE.init w s hsz).alloc s hsz h (c := cap)
  have E2 := E1.alloc (s + 1) (by rw [hsz]; simp) (hb.below hb1) (c := capb)
  have HE1 := Lib.hid (E2.alloc (s + 1 + 1) (by rw [hsz]; simp) (natS_nil _) (c := 0))
  have HP := Lib.hid hp
  have HN := Lib.hid hn
  have HM := Lib.hid hm
  have HL := Lib.hid hlt
  have HSZ := Lib.hid hsz
  clear h hb hn hm hlt hb1 E1 E2
  go_enter Try.func152, Try.ntmps152
  go_wp2_with fail
  rw [← hsz]
  clear hsz
  generalize (((w.alloc (Obj.cells #[Value.slice a len cap] 33)).alloc (Obj.cells #[Value.slice b lenb capb] 33)).alloc (Obj.cells #[Value.slice none 0 0] 33)) = w1 at HE1 ⊢
  refine (new_s 1 w1 (by omega)).mono ?_
  rintro e w2 ⟨oa, ol, oc, rfl, hO, hb2⟩
  obtain ⟨O, hOs⟩ : ∃ O, O = w2.heap.size := ⟨_, rfl⟩
  have HE3 := Lib.hid ((HE1.out.below hb2).alloc O hOs hO (c := oc))
  clear HE1 hb2 hO
  go_wp2_with fail
  rw [← hOs]
  generalize w2.alloc (Obj.cells #[Value.slice oa ol oc] 33) = w3 at HE3 ⊢
  clear hOs
  go_loopg [8] (k + 2) (fun gk v wr => ∃ j n' : Nat, (j : Int) ≤ k + 1 ∧ (k : Int) + 2 - j ≤ gk ∧ Hid (NE w wr s [(s, n'), (s + 1, p), (s + 1 + 1, 0), (O, p ^ j)] []) ∧ Hid (n' = p ^ (k + 1 - j) * m))
  case atStart => exact ⟨0, n, by omega, by omega, HE3.out, by rw [Nat.sub_zero]; exact HN.out⟩
  case round =>
    obtain ⟨j, n', hj, hgk, HE, HG⟩ := hrel
    clear HE3
    obtain ⟨xa, xl, xc, cx, _, Nx⟩ := HE.out.box 0 rfl
    obtain ⟨pa, pl, pc, cp, _, Np⟩ := HE.out.box 1 rfl
    have HNx := Lib.hid Nx
    have HNp := Lib.hid Np
    clear Nx Np
    go_wp2_with fail
    refine (div_s xa pa xl xc pl pc n' p wr HNx.out HNp.out (by omega)).mono ?_
    rintro e w4 ⟨qa, ql, qc, ra, rl, rc, rfl, hq, hr, hb4⟩
    have HE4 := Lib.hid (HE.out.below hb4)
    obtain ⟨Z, hZ⟩ : ∃ Z, Z = w4.heap.size := ⟨_, rfl⟩
    have hbq := (Below.refl _ w4).alloc (Nat.le_refl _) (Obj.cells #[Value.slice qa ql qc] 33)
    have HE5 := Lib.hid ((HE4.out.alloc Z hZ hq (c := qc)).alloc (Z + 1) (by rw [hZ]; simp) (hr.below hbq) (c := rc))
    have HQ5 := Lib.hid (hq.below (hbq.alloc hbq.size (Obj.cells #[Value.slice ra rl rc] 33)))
    have HR5 := Lib.hid (hr.below (hbq.alloc hbq.size (Obj.cells #[Value.slice ra rl rc] 33)))
    clear HE HE4 HNx HNp cx cp hb4 hbq hq hr
    go_wp2_with fail
    rw [← hZ]
    clear hZ
    generalize ((w4.alloc (Obj.cells #[Value.slice qa ql qc] 33)).alloc (Obj.cells #[Value.slice ra rl rc] 33)) = w5 at HE5 HQ5 HR5 ⊢
    refine (zero_s ra rl rc _ w5 HR5.out).mono ?_
    rintro e w6 ⟨rfl, hb6⟩
    have HE6 := Lib.hid (HE5.out.below hb6)
    clear HE5 HQ5 HR5 hb6
    by_cases hjk : j < k + 1
    · have hn1 : n' = p ^ (k + 1 - (j + 1) + 1) * m := by rw [show k + 1 - (j + 1) + 1 = k + 1 - j by omega]; exact HG.out
      have hz : (n' % p == 0) = true := by rw [hn1, pow_mod0]; rfl
      rw [hz]
      obtain ⟨ya, yl, yc, gy, Ny⟩ := HE6.out.get 3 rfl
      obtain ⟨pa, pl, pc, gp, Np⟩ := HE6.out.get 1 rfl
      obtain ⟨ua, ul, uc, gu, Nu⟩ := HE6.out.get 4 rfl
      have HNy := Lib.hid Ny
      have HNp := Lib.hid Np
      have HNu := Lib.hid Nu
      have d1 := HE6.out.ne 1 3 rfl rfl (by decide)
      have d2 := HE6.out.ne 1 0 rfl rfl (by decide)
      have d3 := HE6.out.ne 4 3 rfl rfl (by decide)
      have d4 := HE6.out.ne 4 0 rfl rfl (by decide)
      have d5 := HE6.out.ne 3 0 rfl rfl (by decide)
      have cy : w6.cell? ⟨O, 0, none⟩ = some (.slice ya yl yc) := gy _ (BB.refl _)
      have hmlt : p ^ j * p < W ^ 1000 := Nat.lt_of_le_of_lt (by rw [← Nat.pow_succ]; exact Nat.pow_le_pow_right (by omega) (by omega)) HL.out
      have HML := Lib.hid hmlt
      clear Ny Np Nu hmlt
      go_wp2_with fail
      have cp6 := gp w6.drew (BB.drew (BB.refl _))
      have cu6 := gu w6.drew (BB.drew (BB.refl _))
      go_region_law
        (first
          | (go_simp; go_at_call 92; refine (mul_s ya pa yl yc pl pc (p ^ j) p w6.drew HNy.out.drew HNp.out.drew HML.out).mono ?_; rintro e w7 ⟨ta, tl, tc, rfl, hT, hb7⟩
             have hbb := BB.step (BB.drew (BB.refl w6)) hb7
             have HE7 := Lib.hid (HE6.out.below hbb)
             have HT7 := Lib.hid hT
             have HU7 := Lib.hid (HNu.out.below hbb)
             have cpu7 : w7.cell? ⟨s + 1, 0, none⟩ = some (.slice pa pl pc) ∧ w7.cell? ⟨Z, 0, none⟩ = some (.slice ua ul uc) := ⟨gp _ hbb, gu _ hbb⟩
             have cO7 := gy _ hbb
             obtain ⟨_, _, _, _, fO7, _⟩ := HE7.out.box 3 rfl
             obtain ⟨_, _, _, cs7, fs7, _⟩ := HE7.out.box 0 rfl
             have hst1 : ∀ v, (w7.setCell ⟨O, 0, none⟩ v).cell? ⟨s + 1, 0, none⟩ = some (.slice pa pl pc) ∧ (w7.setCell ⟨O, 0, none⟩ v).cell? ⟨Z, 0, none⟩ = some (.slice ua ul uc) := fun v => ⟨(cell_other v (show s + 1 ≠ O by omega)).trans cpu7.1, (cell_other v (show Z ≠ O by omega)).trans cpu7.2⟩
             have hst3 : ∀ v, (w7.setCell ⟨s, 0, none⟩ v).cell? ⟨s + 1, 0, none⟩ = some (.slice pa pl pc) ∧ (w7.setCell ⟨s, 0, none⟩ v).cell? ⟨Z, 0, none⟩ = some (.slice ua ul uc) := fun v => ⟨(cell_other v (show s + 1 ≠ s by omega)).trans cpu7.1, (cell_other v (show Z ≠ s by omega)).trans cpu7.2⟩
             have hst2 : ∀ v v', ((w7.setCell ⟨O, 0, none⟩ v).setCell ⟨s, 0, none⟩ v').cell? ⟨s + 1, 0, none⟩ = some (.slice pa pl pc) ∧ ((w7.setCell ⟨O, 0, none⟩ v).setCell ⟨s, 0, none⟩ v').cell? ⟨Z, 0, none⟩ = some (.slice ua ul uc) := fun v v' => ⟨(cell_other v' (show s + 1 ≠ s by omega)).trans (hst1 v).1, (cell_other v' (show Z ≠ s by omega)).trans (hst1 v).2⟩
             have hst4 : ∀ v v', ((w7.setCell ⟨s, 0, none⟩ v).setCell ⟨O, 0, none⟩ v').cell? ⟨s + 1, 0, none⟩ = some (.slice pa pl pc) ∧ ((w7.setCell ⟨s, 0, none⟩ v).setCell ⟨O, 0, none⟩ v').cell? ⟨Z, 0, none⟩ = some (.slice ua ul uc) := fun v v' => ⟨(cell_other v' (show s + 1 ≠ O by omega)).trans (hst3 v).1, (cell_other v' (show Z ≠ O by omega)).trans (hst3 v).2⟩
             clear hT hb7))
      all_goals go_wp2_with fail
      all_goals (
        have hUs : ∀ v, NatS (w7.setCell ⟨O, 0, none⟩ v) ua ul (n' / p) := fun v => HE7.out.natSet 3 rfl HU7.out v
        go_roundg (k + 1 - j)
        case measure => omega
        case rel =>
          refine ⟨j + 1, n' / p, by omega, by omega, (((HE7.out.set 3 rfl HT7.out (c := tc)).set 0 rfl (hUs _) (c := uc)).take 4), ?_⟩
          show n' / p = _
          rw [hn1, pow_div HP.out])
    · have hj' : j = k + 1 := by omega
      subst hj'
      have hn1 : n' = m := by have := HG.out; rw [this, Nat.sub_self, Nat.pow_zero, Nat.one_mul]
      have hz : (n' % p == 0) = false := by rw [hn1, beq_eq_false_iff_ne]; exact HM.out
      rw [hz]
      obtain ⟨ya, yl, yc, gy, Ny⟩ := HE6.out.get 3 rfl
      have HNy := Lib.hid Ny
      have hne : (cmpNat (p ^ (k + 1)) 1 == 0) = false := cmp_ne (by
        have : 2 ^ (k + 1) ≤ p ^ (k + 1) := Nat.pow_le_pow_left hp _
        have : 2 ^ 1 ≤ 2 ^ (k + 1) := Nat.pow_le_pow_right (by decide) (by omega)
        omega)
      clear Ny
      go_wp2_with fail
      go_region_held3 (fun w' => BB w6 w') (first | assumption | exact BB.drew (BB.refl _))
        (first
          | (go_at_call 20; refine (new_s 1 w6.drew (by decide)).mono ?_; rintro e w7 ⟨ta, tl, tc, rfl, hT, hb7⟩; have hbb7 : BB w6 w7 := BB.step (BB.drew (BB.refl w6)) hb7; have HT7 := Lib.hid hT; clear hT hb7)
          | (go_at_call 25; refine (cmp_s ya ta yl yc tl tc (p ^ (k + 1)) 1 w7 (HNy.out.below hbb7) HT7.out).mono ?_; rintro e w8 ⟨rfl, hb8⟩; have hbb8 : BB w6 w8 := BB.step hbb7 hb8; clear hb8))
      all_goals (
        have HE8 := Lib.hid (HE6.out.below hbb8)
        have cy8 := gy _ hbb8
        obtain ⟨_, _, _, cr8, fr8, _⟩ := HE8.out.box 2 rfl
        have HNy8 := Lib.hid (HNy.out.below hbb8)
        go_wp2_with fail
        exact (HE8.out.set 2 rfl HNy8.out (c := yc)).ret HSZ.out (i := 2) rfl rfl rfl)
end Go.Proofs.Ythefednendgclaa
