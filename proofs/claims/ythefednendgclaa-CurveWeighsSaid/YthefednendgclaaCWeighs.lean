/-
  The law CurveWeighs: it returns true.
-/
import Derived.Test.YthefednendgclaaLaw10
import Derived.Test.YthefednendgclaaWeights
import Derived.Test.YthefednendgclaaRefW
set_option linter.unusedVariables false
set_option linter.unusedSimpArgs false
namespace Go.Proofs.Ythefednendgclaa
open Go Go.RowKit Sac NT

theorem subm_self (q a : Nat) : subm q a a = 0 := by unfold subm; rw [if_pos (Nat.le_refl _), Nat.sub_self]
theorem upF_zero {q : Nat} {xs : List Nat} {i t : Nat} (hti : t ≠ i) : ∀ k, t < k → upF q (xs.getD t 0) xs i k = 0
  | 0, h => by omega
  | k + 1, h => by
    unfold upF
    by_cases hki : k = i
    · rw [if_pos hki]; exact upF_zero hti k (by omega)
    · rw [if_neg hki]
      by_cases htk : t = k
      · rw [htk, subm_self, Nat.mul_zero, Nat.zero_mod]
      · rw [upF_zero hti k (by omega), Nat.zero_mul, Nat.zero_mod]
theorem wt_at {q : Nat} (hq : Prime q) {xs : List Nat} (hd : Dis q xs) {i t : Nat} (hi : i < xs.length) (ht : t < xs.length) : wt q xs (xs.getD t 0) i = if i = t then 1 else 0 := by
  have hq1 : 1 < q := by have := hq.1; omega
  by_cases h : i = t
  · rw [if_pos h, ← h]
    unfold wt
    have h2 := invq_cg (by omega) (down_unit hq hd hi)
    have h3 := Mo.uniq (Mo.of (by omega) _) (Mo.lt hq1) h2
    rw [Nat.mul_comm]; exact h3
  · rw [if_neg h]
    unfold wt
    rw [upF_zero (fun e => h e.symm) _ ht, Nat.zero_mul, Nat.zero_mod]
theorem gQ_len (k : Nat) : Bt.len (gQ k) ≤ 400 := Nat.le_trans (Bt.len_le (k := 64) (Nat.lt_of_lt_of_le (gQ_lt k) (by decide))) (by decide)
theorem nbytes_64 {x : Nat} (h : x < 18446744073709551616) : nbytes x ≤ 120 := Nat.le_trans ((nbytes_le x 8).2 h) (by decide)
def tabCW (v0 : Value) (v1 : Value) (v2 : Value) (v3 : Value) (v4 : Value) (v5 : Value) (p6 : Fk KpN) (v7 : Value) (v8 : Value) (p9 : Fk KpN) (p10 : Fk KpN) (v11 : Value) (v12 : Value) : List (Fk KpN) := [.val v0, .val v1, .val v2, .val v3, .val v4, .val v5, p6, .val v7, .val v8, p9, p10, .val v11, .val v12]
def dstCW : List (Option Tmp) := [some 70, some 71, some 72, some 73, some 74, some 75, some 76, some 77, some 78, some 79, some 80, some 81, some 82]
def preCW : List (List Nat) := [[], [], [0, 1], [0, 1, 2], [], [], [5], [], [], [5, 6, 8], [4, 5, 6, 7, 8, 9], [0, 1, 2, 3, 4, 5, 6, 7, 8, 9, 10], [0, 1, 2, 3, 4, 5, 6, 7, 8, 9, 10, 11]]
def maskCW : List Bool := [false, false, false, false, false, false, false, false, false, false, false, false, false, false, false, false, false, false, false, false, false, false, false, false, false, false, false, false, false, false, false, false, false, false, false, false, false, false, false, false, false, false, false, false, false, false, false, false, false, false, false, false, false, false, false, false, false, false, false, false, false, false, false, false, false, false, false, false, false, false, true, true, true, true, true, true, true, true, true, true, true, true, true, false, false, false, false, false, false, false, false, false, false, false, false, false, false, false, false, false, false, false, false, false, false, false, false, false, false, false, false, false, false, false, false, false, false, false, false, false, false, false, false, false, false, false, false, false, false, false, false, false, false, false, false, false, false, false, false]
def tabCWA (v0 : Value) (v1 : Value) (v2 : Value) (v3 : Value) (v4 : Value) (v5 : Value) (v6 : Value) (v7 : Value) (v8 : Value) (v9 : Value) (v10 : Value) (v11 : Value) (v12 : Value) (v13 : Value) (v14 : Value) (v15 : Value) (v16 : Value) (v17 : Value) (n18 : Nat) (v19 : Value) (v20 : Value) (v21 : Value) (v22 : Value) : List (Fk KpN) := [.val v0, .val v1, .val v2, .val v3, .val v4, .val v5, .val v6, .val v7, .val v8, .val v9, .val v10, .val v11, .val v12, .val v13, .val v14, .val v15, .val v16, .val v17, Fk.nat (fun _ _ h => h) n18, .val v19, .val v20, .val v21, .val v22]
def dstCWA : List (Option Tmp) := [some 106, some 107, some 108, some 109, some 110, some 111, some 112, some 113, some 114, some 115, some 116, some 117, some 118, some 119, some 120, some 121, some 122, some 123, some 124, some 125, some 126, some 127, some 128]
def preCWA : List (List Nat) := [[], [], [0, 1], [0, 1, 2], [0, 1, 2, 3], [], [], [5, 6], [0, 1, 2, 3, 4, 5, 6, 7], [0, 1, 2, 3, 4, 5, 6, 7, 8], [0, 1, 2, 3, 4, 5, 6, 7, 8, 9], [0, 1, 2, 3, 4, 5, 6, 7, 8, 9], [0, 1, 2, 3, 4, 5, 6, 7, 8, 9, 10, 11], [0, 1, 2, 3, 4, 5, 6, 7, 8, 9, 10, 11, 12], [0, 1, 2, 3, 4, 5, 6, 7, 8, 9, 10, 11, 12, 13], [0, 1, 2, 3, 4, 5, 6, 7, 8, 9, 10, 11, 12, 13], [0, 1, 2, 3, 4, 5, 6, 7, 8, 9, 10, 11, 12, 13, 14, 15], [0, 1, 2, 3, 4, 5, 6, 7, 8, 9, 10, 11, 12, 13, 14, 15, 16], [0, 1, 2, 3, 4, 5, 6, 7, 8, 9, 10, 11, 12, 13], [0, 1, 2, 3, 4, 5, 6, 7, 8, 9, 10, 11, 12, 13, 14, 15, 16, 17, 18], [0, 1, 2, 3, 4, 5, 6, 7, 8, 9, 10, 11, 12, 13, 14, 15, 16, 17, 18, 19], [0, 1, 2, 3, 4, 5, 6, 7, 8, 9, 10, 11, 12, 13, 14, 15, 16, 17, 18, 19, 20], [0, 1, 2, 3, 4, 5, 6, 7, 8, 9, 10, 11, 12, 13, 14, 15, 16, 17, 18, 19, 20, 21]]
def maskCWA : List Bool := [false, false, false, false, false, false, false, false, false, false, false, false, false, false, false, false, false, false, false, false, false, false, false, false, false, false, false, false, false, false, false, false, false, false, false, false, false, false, false, false, false, false, false, false, false, false, false, false, false, false, false, false, false, false, false, false, false, false, false, false, false, false, false, false, false, false, false, false, false, false, false, false, false, false, false, false, false, false, false, false, false, false, false, false, false, false, false, false, false, false, false, false, false, false, false, false, false, false, false, false, false, false, false, false, false, false, true, true, true, true, true, true, true, true, true, true, true, true, true, true, true, true, true, true, true, true, true, true, true, false, false, false, false, false, false, false, false, false, false]
def tabCWB (v0 : Value) (v1 : Value) (v2 : Value) (v3 : Value) (v4 : Value) (v5 : Value) (v6 : Value) (v7 : Value) (v8 : Value) (v9 : Value) (v10 : Value) (v11 : Value) (v12 : Value) (v13 : Value) (v14 : Value) (v15 : Value) (v16 : Value) (v17 : Value) (v18 : Value) (v19 : Value) (v20 : Value) (v21 : Value) (v22 : Value) : List (Fk KpN) := [.val v0, .val v1, .val v2, .val v3, .val v4, .val v5, .val v6, .val v7, .val v8, .val v9, .val v10, .val v11, .val v12, .val v13, .val v14, .val v15, .val v16, .val v17, .val v18, .val v19, .val v20, .val v21, .val v22]
def dstCWB : List (Option Tmp) := [some 106, some 107, some 108, some 109, some 110, some 111, some 112, some 113, some 114, some 115, some 116, some 117, some 118, some 119, some 120, some 121, some 122, some 123, some 124, some 125, some 126, some 127, some 128]
def preCWB : List (List Nat) := [[], [], [0, 1], [0, 1, 2], [0, 1, 2, 3], [], [], [5, 6], [0, 1, 2, 3, 4, 5, 6, 7], [0, 1, 2, 3, 4, 5, 6, 7, 8], [0, 1, 2, 3, 4, 5, 6, 7, 8, 9], [0, 1, 2, 3, 4, 5, 6, 7, 8, 9], [0, 1, 2, 3, 4, 5, 6, 7, 8, 9, 10, 11], [0, 1, 2, 3, 4, 5, 6, 7, 8, 9, 10, 11, 12], [0, 1, 2, 3, 4, 5, 6, 7, 8, 9, 10, 11, 12, 13], [0, 1, 2, 3, 4, 5, 6, 7, 8, 9, 10, 11, 12, 13], [0, 1, 2, 3, 4, 5, 6, 7, 8, 9, 10, 11, 12, 13, 14, 15], [0, 1, 2, 3, 4, 5, 6, 7, 8, 9, 10, 11, 12, 13, 14, 15, 16], [0, 1, 2, 3, 4, 5, 6, 7, 8, 9, 10, 11, 12, 13], [0, 1, 2, 3, 4, 5, 6, 7, 8, 9, 10, 11, 12, 13, 14, 15, 16, 17, 18], [0, 1, 2, 3, 4, 5, 6, 7, 8, 9, 10, 11, 12, 13, 14, 15, 16, 17, 18, 19], [0, 1, 2, 3, 4, 5, 6, 7, 8, 9, 10, 11, 12, 13, 14, 15, 16, 17, 18, 19, 20], [0, 1, 2, 3, 4, 5, 6, 7, 8, 9, 10, 11, 12, 13, 14, 15, 16, 17, 18, 19, 20, 21]]
def maskCWB : List Bool := [false, false, false, false, false, false, false, false, false, false, false, false, false, false, false, false, false, false, false, false, false, false, false, false, false, false, false, false, false, false, false, false, false, false, false, false, false, false, false, false, false, false, false, false, false, false, false, false, false, false, false, false, false, false, false, false, false, false, false, false, false, false, false, false, false, false, false, false, false, false, false, false, false, false, false, false, false, false, false, false, false, false, false, false, false, false, false, false, false, false, false, false, false, false, false, false, false, false, false, false, false, false, false, false, false, false, true, true, true, true, true, true, true, true, true, true, true, true, true, true, true, true, true, true, true, true, true, true, true, false, false, false, false, false, false, false, false, false, false]

set_option maxRecDepth 100000 in
set_option maxHeartbeats 8000000 in
theorem cweighs_any (n : Int) (a : Option Addr) (len cap : Nat) (xs : List Nat) (x : Nat) (at_ : Int) (w : World)
    (ha : RdC w a (xs.map w64)) (hl : xs.length = len) (hc : (len : Int) ≤ cap) (hx : ∀ y ∈ xs, y < 18446744073709551616) (hxx : x < 18446744073709551616) :
    Calls Try.prog 5 #[.int .i64 n, .slice a len cap, .int .u64 (x : Int), .int .i64 at_] w fun e w' => e = .returned (.bool true) ∧ Below w.heap.size w w' := by
  have HA := Lib.hid (And.intro ha (And.intro hl (And.intro hc hx)))
  have HXX := Lib.hid hxx
  have HNB : Hid (∀ y ∈ xs, nbytes y ≤ 120) := fun y hy => nbytes_64 (hx y hy)
  clear ha hl hc hx hxx
  by_cases h8 : (6 : Int) < (len : Int)
  · go_enter Try.func5, Try.ntmps5
    go_wp2_with fail
    refine (lives_any w).mono ?_
    rintro e w2 ⟨rfl, hb2⟩
    have HB2 := Lib.hid hb2
    clear hb2
    go_wp2_with fail
    refine (lives_any w2).mono ?_
    rintro e w3 ⟨rfl, hb3⟩
    have HB3 := Lib.hid (HB2.out.trans (hb3.mono HB2.out.size))
    clear hb3
    go_wp2_with fail
    go_ret
    exact ⟨rfl, HB3.out⟩
  obtain ⟨k, hk⟩ : ∃ k, kOf n = k := ⟨_, rfl⟩
  have HK := Lib.hid hk
  clear hk
  go_enter Try.func5, Try.ntmps5
  go_wp2_with fail
  refine (lives_any w).mono ?_
  rintro e w2 ⟨rfl, hb2⟩
  have HB2 := Lib.hid hb2
  clear hb2
  go_wp2_with fail
  refine (field_any n w2).mono ?_
  rintro e w3 ⟨r, rfl, hr, hb3⟩
  rw [HK.out] at hr
  have HB3 := Lib.hid (HB2.out.trans (hb3.mono HB2.out.size))
  have HR3 := Lib.hid hr
  clear hb3 hr HB2
  go_wp2_with fail
  refine (modulus_any r (gQ k) w3 HR3.out).mono ?_
  rintro e w4 ⟨ma, ml, mc, rfl, hm, hb4⟩
  have HM4 := Lib.hid hm
  have HR4 := Lib.hid (HR3.out.below hb4)
  have HB4 := Lib.hid (HB3.out.trans (hb4.mono HB3.out.size))
  clear hm hb4 HB3 HR3
  go_wp2_with fail
  refine (num_any ma ml mc (gQ k) w4 HM4.out (nbytes_64 (gQ_lt k))).mono ?_
  rintro e w5 ⟨qv, rfl, hq, hb5⟩
  have HQ5 := Lib.hid hq
  have HR5 := Lib.hid (HR4.out.below hb5)
  have HB5 := Lib.hid (HB4.out.trans (hb5.mono HB4.out.size))
  clear hq hb5 HB4 HR4 HM4
  go_wp2_with fail
  refine (nums_any a len cap xs w5 (HA.out.1.below HB5.out) HA.out.2.1 HA.out.2.2.1 (by omega) HA.out.2.2.2).mono ?_
  rintro e w6 ⟨v, rfl, hrow, hb6⟩
  obtain ⟨pa, pc, rfl, hp1, _, hat, _⟩ := hrow.form
  rw [HA.out.2.1] at hp1 ⊢
  have HN6 := Lib.hid hat
  have HQ6 := Lib.hid (HQ5.out.below hb6)
  have HR6 := Lib.hid (HR5.out.below hb6)
  have HB6 := Lib.hid (HB5.out.trans (hb6.mono HB5.out.size))
  have hpc : (len : Int) ≤ pc := by omega
  clear hrow hat hb6 HB5 HR5 HQ5 hp1
  go_wp2_with fail
  refine (new_s x w6 HXX.out).mono ?_
  rintro e w7 ⟨ya, yl, yc, rfl, hY, hb7⟩
  have HY7 := Lib.hid hY
  have HN7 := Lib.hid (HN6.out.below hb7)
  have HQ7 := Lib.hid (HQ6.out.below hb7)
  have HR7 := Lib.hid (HR6.out.below hb7)
  have HB7 := Lib.hid (HB6.out.trans (hb7.mono HB6.out.size))
  clear hb7 hY HN6 HQ6 HR6 HB6
  go_wp2_with fail
  refine (weights_any r (gQ k) pa len pc xs ya yl yc x w7 (gQ_prime k) HR7.out HN7.out HA.out.2.1 hpc (by omega) HY7.out).mono ?_
  rintro e w8 ⟨v, c, rfl, hb8, hcs⟩
  have HN8 := Lib.hid (HN7.out.below hb8)
  have HQ8 := Lib.hid (HQ7.out.below hb8)
  have HR8 := Lib.hid (HR7.out.below hb8)
  have HB8 := Lib.hid (HB7.out.trans (hb8.mono HB7.out.size))
  have HCS := Lib.hid hcs
  clear hb8 hcs HY7 HN7 HQ7 HR7
  go_wp2_with fail
  refine (refs10_any pa len pc xs w8 HN8.out HA.out.2.1 hpc (by omega) HNB.out).mono ?_
  rintro e w9 ⟨rv, rfl, hrv, hb9⟩
  have HRV := Lib.hid hrv
  have HB9 := Lib.hid (HB8.out.trans (hb9.mono HB8.out.size))
  have HQ9 := Lib.hid (HQ8.out.below hb9)
  have HX9 := Lib.hid hb9
  clear hrv hb9 HB8
  go_wp2_with fail
  refine (asked_any qv rv (gQ k) xs len w9 HQ9.out HRV.out (by have := (gQ_prime k).1; omega) (Nat.le_trans (gQ_len k) (by decide)) (by have := HA.out.2.1; omega)).mono ?_
  rintro e w10 ⟨c', rfl, hb10, hcs'⟩
  have HB10 := Lib.hid (HB9.out.trans (hb10.mono HB9.out.size))
  have HX10 := Lib.hid (HX9.out.trans (hb10.mono HX9.out.size))
  have hl := HA.out.2.1
  have hcc : (c = 10 ∧ c' = 10 ∧ v = .slice none 0 0) ∨ (c = 11 ∧ c' = 11 ∧ v = .slice none 0 0) ∨ (0 < len ∧ Dis (gQ k) xs ∧ c = 0 ∧ c' = 0 ∧ NatsOwn w8 w7.heap.size v (wts (gQ k) xs x)) := by
    rcases HCS.out with ⟨h0, h1, h2⟩ | ⟨h0, h1, h2, h3⟩ | ⟨h0, h1, h2, h3⟩ <;> rcases hcs' with ⟨g0, g1⟩ | ⟨g0, g1, g2⟩ | ⟨g0, g1, g2, g3⟩ | ⟨g0, g1, g2, g3⟩ <;> first | (exfalso; omega) | (exact absurd g2 h1) | (exact absurd h1 g2) | skip
    · exact .inl ⟨h1, g1, h2⟩
    · exact .inr (.inl ⟨h2, g3, h3⟩)
    · exact .inr (.inr ⟨by omega, h1, h2, g3, h3⟩)
  clear hb10 hcs' HCS HRV HQ9 HX9 HB9 hl
  rcases hcc with ⟨rfl, rfl, rfl⟩ | ⟨rfl, rfl, rfl⟩ | ⟨hlen0, hd, rfl, rfl, hrow⟩
  · go_wp2_with fail
    go_ret
    exact ⟨rfl, HB10.out⟩
  · go_wp2_with fail
    go_ret
    exact ⟨rfl, HB10.out⟩
  have HD := Lib.hid hd
  have hrl : (wts (gQ k) xs x).length = len := by rw [wts_length]; exact HA.out.2.1
  obtain ⟨wa, wc, rfl, hw1, _, hwa, _⟩ := hrow.form
  rw [hrl] at hw1 ⊢
  have HW10 := Lib.hid (hwa.below HX10.out)
  have HN10 := Lib.hid (HN8.out.below HX10.out)
  have HQ10 := Lib.hid (HQ8.out.below HX10.out)
  have HR10 := Lib.hid (HR8.out.below HX10.out)
  have hwc : (len : Int) ≤ wc := by omega
  have HRL := Lib.hid hrl
  obtain ⟨wad, _, _, _, rfl, _, _, _⟩ := hwa.get (k := 0) (by rw [hrl]; exact hlen0)
  have hl0 : (len : Int) ≠ 0 := by omega
  have hlp : (0 : Int) < (len : Int) := by omega
  clear hd hrow hwa hw1 hrl HN8 HQ8 HR8 HX10 HB7
  go_wp2_with fail
  go_loopw [67] (fun iv wr => ∃ i : Nat, (i : Int) ≤ len ∧ iv = .int .i64 (i : Int) ∧ Hid (Below w10.heap.size w10 wr)) (fun iv _ => len - (intOf iv).toNat)
  case atStart => exact ⟨0, by omega, rfl, Below.refl _ _⟩
  case round =>
    obtain ⟨i, hi, rfl, HB⟩ := hrel
    by_cases hlt : (i : Int) < len
    · have NA2 := Lib.hid (HN10.out.below HB.out)
      have NQ2 := Lib.hid (HQ10.out.below HB.out)
      have hiw : i < (wts (gQ k) xs x).length := by rw [HRL.out]; omega
      have HIL : Hid (i < xs.length) := by show _ < _; rw [HA.out.2.1]; omega
      obtain ⟨_, ya, yl, yc, e1, he, cy, ny⟩ := (HW10.out.below HB.out).get hiw
      obtain rfl := Option.some.inj e1
      rw [wts_get _ _ _ _ HIL.out] at ny
      have gY : ∀ w', BB wr w' → w'.cell? (wad.add i) = some (.slice ya yl yc) := fun w' hb => (BB.cell hb (by rw [block_add]; exact he.lt)).trans cy
      have NY := Lib.hid ny
      have b0 : (0 : Int) ≤ (i : Int) := by omega
      have b2 : (i : Int) ≤ (wc : Int) := by omega
      clear ny cy he e1 hiw
      go_wp2_with fail
      refine wp_region_mix (fun _ w' => BB wr w') (GF (tabCW (.slice (some wad) len wc) (.int .i64 (i : Int)) (.pointer (some (wad.add i))) (.agg #[.slice ya yl yc]) (qv) (.slice pa len pc) (Fk.rel (fun v w => BRow w v xs) (fun _ _ _ hb h => h.below hb)) (.int .i64 (i : Int)) (.int .u64 (x : Int)) (Fk.rel (fun v w => BN w v (x)) (fun _ _ _ hb h => h.below hb)) (Fk.rel (fun v w => BN w v (wt (gQ k) xs x i)) (fun _ _ _ hb h => h.below hb)) (.bool true) (.bool false))) maskCW dstCW preCW (by kernel_rfl) (by kernel_rfl) rfl (by kernel_rfl) (by kernel_rfl) (by kernel_rfl) (by kernel_rfl) (BB.drew (BB.refl _)) ?_ ?_
      · refine StepsM.cons (fun l g' wu hB hl hn hp K hK => ?_) ?_
        · simp only [mkM, maskCW, mixM, Nat.reduceAdd] at hK ⊢; simp only [Act.put, List.setIfInBounds_toArray, List.set_cons_zero, List.set_cons_succ] at hK; go_simp; exact hK.out _ _ hB GF.same rfl
        refine StepsM.cons (fun l g' wu hB hl hn hp K hK => ?_) ?_
        · simp only [mkM, maskCW, mixM, Nat.reduceAdd] at hK ⊢; simp only [Act.put, List.setIfInBounds_toArray, List.set_cons_zero, List.set_cons_succ] at hK; go_simp; exact hK.out _ _ hB GF.same rfl
        refine StepsM.cons (fun l g' wu hB hl hn hp K hK => ?_) ?_
        · have e0 : g' 70 = .slice (some wad) len wc := (hp 0 (by decide)).2; have e1 : g' 71 = .int .i64 (i : Int) := (hp 1 (by decide)).2; simp only [mkM, maskCW, mixM, Nat.reduceAdd, e0, e1] at hK ⊢; clear e0 e1; simp only [Act.put, List.setIfInBounds_toArray, List.set_cons_zero, List.set_cons_succ] at hK; go_simp; exact hK.out _ _ hB GF.same rfl
        refine StepsM.cons (fun l g' wu hB hl hn hp K hK => ?_) ?_
        · have hbb := hB; have e2 : g' 72 = .pointer (some (wad.add i)) := (hp 2 (by decide)).2; have hc := gY _ hbb; simp only [mkM, maskCW, mixM, Nat.reduceAdd, e2] at hK ⊢; clear e2; simp only [Act.put, List.setIfInBounds_toArray, List.set_cons_zero, List.set_cons_succ] at hK; go_simp; exact hK.out _ _ hB GF.same rfl
        refine StepsM.cons (fun l g' wu hB hl hn hp K hK => ?_) ?_
        · simp only [mkM, maskCW, mixM, Nat.reduceAdd] at hK ⊢; simp only [Act.put, List.setIfInBounds_toArray, List.set_cons_zero, List.set_cons_succ] at hK; go_simp; exact hK.out _ _ hB GF.same rfl
        refine StepsM.cons (fun l g' wu hB hl hn hp K hK => ?_) ?_
        · simp only [mkM, maskCW, mixM, Nat.reduceAdd] at hK ⊢; simp only [Act.put, List.setIfInBounds_toArray, List.set_cons_zero, List.set_cons_succ] at hK; go_simp; exact hK.out _ _ hB GF.same rfl
        refine StepsM.cons (fun l g' wu hB hl hn hp K hK => ?_) ?_
        · have hbb := hB; have e5 : g' 75 = .slice pa len pc := (hp 5 (by decide)).2; simp only [mkM, maskCW, mixM, Nat.reduceAdd, e5] at hK ⊢; clear e5; simp only [Act.put, List.setIfInBounds_toArray, List.set_cons_zero, List.set_cons_succ] at hK; go_simp; go_at_call 35; refine (refs10_any pa len pc xs _ (NA2.out.below hbb) HA.out.2.1 hpc (by omega) HNB.out).mono ?_; rintro e w7 ⟨z, rfl, hz, hb⟩; go_wp2_with fail; exact hK.out _ _ (BB.step hbb hb) (GF.below hb) hz
        refine StepsM.cons (fun l g' wu hB hl hn hp K hK => ?_) ?_
        · simp only [mkM, maskCW, mixM, Nat.reduceAdd] at hK ⊢; simp only [Act.put, List.setIfInBounds_toArray, List.set_cons_zero, List.set_cons_succ] at hK; go_simp; exact hK.out _ _ hB GF.same rfl
        refine StepsM.cons (fun l g' wu hB hl hn hp K hK => ?_) ?_
        · simp only [mkM, maskCW, mixM, Nat.reduceAdd] at hK ⊢; simp only [Act.put, List.setIfInBounds_toArray, List.set_cons_zero, List.set_cons_succ] at hK; go_simp; exact hK.out _ _ hB GF.same rfl
        refine StepsM.cons (fun l g' wu hB hl hn hp K hK => ?_) ?_
        · have hbb := hB; have e8 : g' 78 = .int .u64 (x : Int) := (hp 8 (by decide)).2; simp only [mkM, maskCW, mixM, Nat.reduceAdd, e8] at hK ⊢; clear e8; simp only [Act.put, List.setIfInBounds_toArray, List.set_cons_zero, List.set_cons_succ] at hK; go_simp; go_at_call 38; refine (bsmall_any x _ HXX.out).mono ?_; rintro e w7 ⟨z, rfl, hz, hb⟩; go_wp2_with fail; exact hK.out _ _ (BB.step hbb hb) (GF.below hb) hz
        refine StepsM.cons (fun l g' wu hB hl hn hp K hK => ?_) ?_
        · have hbb := hB; have e4 : g' 74 = qv := (hp 4 (by decide)).2; have h6 : BRow wu (g' 76) xs := (hp 6 (by decide)).2; have e7 : g' 77 = .int .i64 (i : Int) := (hp 7 (by decide)).2; have h9 : BN wu (g' 79) (x) := (hp 9 (by decide)).2; simp only [mkM, maskCW, mixM, Nat.reduceAdd, e4, e7] at hK ⊢; clear e4 e7; simp only [Act.put, List.setIfInBounds_toArray, List.set_cons_zero, List.set_cons_succ] at hK; go_simp; go_at_call 37; refine (bweight_any _ _ _ (gQ k) xs i x _ (NQ2.out.below hbb) h6 h9 (gQ_prime k) (gQ_len k) HD.out HIL.out (by have := HA.out.2.1; omega)).mono ?_; rintro e w7 ⟨z, rfl, hz, hb⟩; go_wp2_with fail; exact hK.out _ _ (BB.step hbb hb) (GF.below hb) hz
        refine StepsM.cons (fun l g' wu hB hl hn hp K hK => ?_) ?_
        · have hbb := hB; have e3 : g' 73 = .agg #[.slice ya yl yc] := (hp 3 (by decide)).2; have h10 : BN wu (g' 80) (wt (gQ k) xs x i) := (hp 10 (by decide)).2; simp only [mkM, maskCW, mixM, Nat.reduceAdd, e3] at hK ⊢; clear e3; simp only [Act.put, List.setIfInBounds_toArray, List.set_cons_zero, List.set_cons_succ] at hK; go_simp; go_at_call 36; refine (same_any ya yl yc (wt (gQ k) xs x i) _ _ _ (NY.out.below hbb) h10).mono ?_; rw [decide_eq_true rfl]; rintro e w7 ⟨rfl, hb⟩; go_wp2_with fail; exact hK.out _ _ (BB.step hbb hb) (GF.below hb) rfl
        refine StepsM.cons (fun l g' wu hB hl hn hp K hK => ?_) ?_
        · have e11 : g' 81 = .bool true := (hp 11 (by decide)).2; simp only [mkM, maskCW, mixM, Nat.reduceAdd, e11] at hK ⊢; clear e11; simp only [Act.put, List.setIfInBounds_toArray, List.set_cons_zero, List.set_cons_succ] at hK; go_simp; exact hK.out _ _ hB GF.same rfl
        exact StepsM.nil
      · intro l g' wu hall hB hG
        have e12 : g' 82 = .bool false := hG 12 (by decide)
        have HBU := Lib.hid (HB.out.trans (Below.mono hB HB.out.size))
        simp only [mkM, maskCW, mixM, Nat.reduceAdd, e12]
        clear hG hall e12
        go_wp2_with fail
        go_roundw
        case rel => exact ⟨i + 1, by omega, by go_num, HBU.out⟩
        case measure => simp [intOf]; omega
    · have hi' : i = len := by omega
      obtain rfl : len = i := hi'.symm
      obtain ⟨t, ht⟩ : ∃ t : Nat, (IntKind.u64.wrap at_).tmod (len : Int) = (t : Int) := by
        have h0 : 0 ≤ IntKind.u64.wrap at_ := by show 0 ≤ at_ % 18446744073709551616; omega
        refine ⟨((IntKind.u64.wrap at_).tmod (len : Int)).toNat, ?_⟩
        rw [Int.tmod_eq_emod_of_nonneg h0]
        have := Int.emod_nonneg (IntKind.u64.wrap at_) hl0
        omega
      have ht1 : t < len := by
        have h0 : 0 ≤ IntKind.u64.wrap at_ := by show 0 ≤ at_ % 18446744073709551616; omega
        rw [Int.tmod_eq_emod_of_nonneg h0] at ht
        have := Int.emod_lt_of_pos (IntKind.u64.wrap at_) hlp
        omega
      have hw1 : IntKind.u64.wrap (len : Int) = (len : Int) := wraps_u64 _ (by omega) (by omega)
      have hw2 : IntKind.i64.wrap (t : Int) = (t : Int) := i64_small _ (by omega) (by omega)
      have htI : (t : Int) < (len : Int) := by omega
      have ht0 : (0 : Int) ≤ (t : Int) := by omega
      have htc : (t : Int) ≤ (pc : Int) := by omega
      have HTL : Hid (t < xs.length) := by show _ < _; rw [HA.out.2.1]; exact ht1
      obtain ⟨pad, xa, xl, xc, rfl, _, cx, nx⟩ := (HN10.out.below HB.out).get HTL.out
      have NXT := Lib.hid nx
      have NA2 := Lib.hid (HN10.out.below HB.out)
      have HR2 := Lib.hid (HR10.out.below HB.out)
      clear nx ht1
      go_wp2_with fail
      refine (weights_any r (gQ k) (some pad) len pc xs xa xl xc _ wr (gQ_prime k) HR2.out NA2.out HA.out.2.1 hpc (by omega) NXT.out).mono ?_
      rintro e w11 ⟨v, c, rfl, hb11, hcs⟩
      have HB11 := Lib.hid (HB10.out.trans ((HB.out.trans (hb11.mono HB.out.size)).mono HB10.out.size))
      have hll := HA.out.2.1
      rcases hcs with ⟨h0, _, _⟩ | ⟨h0, h1, _, _⟩ | ⟨h0, h1, rfl, hrow⟩
      · exfalso; omega
      · exact absurd HD.out h1
      have hrl : (wts (gQ k) xs (xs.getD t 0)).length = len := by rw [wts_length]; exact HA.out.2.1
      have HRL2 := Lib.hid hrl
      obtain ⟨va, vc, rfl, hv1, _, hva, _⟩ := hrow.form
      rw [hrl] at hv1 ⊢
      have HV11 := Lib.hid hva
      have hvc : (len : Int) ≤ vc := by omega
      obtain ⟨vad, _, _, _, rfl, _, _, _⟩ := hva.get (k := 0) (by rw [hrl]; exact hlen0)
      clear hb11 h0 h1 hrow hva hv1 hrl hll HB NA2 HR2 NXT cx ht hw1 hw2
      go_wp2_with fail
      go_loopw [103] (fun iv wr => ∃ i : Nat, (i : Int) ≤ len ∧ iv = .int .i64 (i : Int) ∧ Hid (Below w11.heap.size w11 wr)) (fun iv _ => len - (intOf iv).toNat)
      case atStart => exact ⟨0, by omega, rfl, Below.refl _ _⟩
      case round =>
        obtain ⟨i, hi, rfl, HB⟩ := hrel
        by_cases hlt : (i : Int) < len
        · have hiw : i < (wts (gQ k) xs (xs.getD t 0)).length := by rw [HRL2.out]; omega
          have hil : i < xs.length := by rw [HA.out.2.1]; omega
          obtain ⟨_, ya, yl, yc, e1, he, cy, ny⟩ := (HV11.out.below HB.out).get hiw
          obtain rfl := Option.some.inj e1
          rw [wts_get _ _ _ _ hil, wt_at (gQ_prime k) HD.out hil HTL.out] at ny
          have gY : ∀ w', BB wr w' → w'.cell? (vad.add i) = some (.slice ya yl yc) := fun w' hb => (BB.cell hb (by rw [block_add]; exact he.lt)).trans cy
          have b0 : (0 : Int) ≤ (i : Int) := by omega
          have b2 : (i : Int) ≤ (vc : Int) := by omega
          clear cy he e1 hiw hil
          by_cases hit : i = t
          · rw [if_pos hit] at ny
            have NY := Lib.hid ny
            have hd1 : ((i : Int) != (t : Int)) = false := by rw [hit]; simp
            have hd2 : ((i : Int) == (t : Int)) = true := by rw [hit]; simp
            clear ny hit
            go_wp2_with fail
            refine wp_region_mix (fun _ w' => BB wr w') (GF (tabCWA (.slice (some vad) len vc) (.int .i64 (i : Int)) (.pointer (some (vad.add i))) (.agg #[.slice ya yl yc]) (.bool false) (.int .i64 (i : Int)) (.int .i64 (t : Int)) (.bool false) (.bool false) (.bool false) (.int .i64 (i : Int)) (.int .i64 (t : Int)) (.bool true) (.bool true) (.slice (some vad) len vc) (.int .i64 (i : Int)) (.pointer (some (vad.add i))) (.agg #[.slice ya yl yc]) (1) (.int .i64 0) (.bool false) (.bool false) (.bool false))) maskCWA dstCWA preCWA (by kernel_rfl) (by kernel_rfl) rfl (by kernel_rfl) (by kernel_rfl) (by kernel_rfl) (by kernel_rfl) (BB.drew (BB.refl _)) ?_ ?_
            · refine StepsM.cons (fun l g' wu hB hl hn hp K hK => ?_) ?_
              · simp only [mkM, maskCWA, mixM, Nat.reduceAdd] at hK ⊢; simp only [Act.put, List.setIfInBounds_toArray, List.set_cons_zero, List.set_cons_succ] at hK; go_simp; exact hK.out _ _ hB GF.same rfl
              refine StepsM.cons (fun l g' wu hB hl hn hp K hK => ?_) ?_
              · simp only [mkM, maskCWA, mixM, Nat.reduceAdd] at hK ⊢; simp only [Act.put, List.setIfInBounds_toArray, List.set_cons_zero, List.set_cons_succ] at hK; go_simp; exact hK.out _ _ hB GF.same rfl
              refine StepsM.cons (fun l g' wu hB hl hn hp K hK => ?_) ?_
              · have e0 : g' 106 = .slice (some vad) len vc := (hp 0 (by decide)).2; have e1 : g' 107 = .int .i64 (i : Int) := (hp 1 (by decide)).2; simp only [mkM, maskCWA, mixM, Nat.reduceAdd, e0, e1] at hK ⊢; clear e0 e1; simp only [Act.put, List.setIfInBounds_toArray, List.set_cons_zero, List.set_cons_succ] at hK; go_simp; exact hK.out _ _ hB GF.same rfl
              refine StepsM.cons (fun l g' wu hB hl hn hp K hK => ?_) ?_
              · have hbb := hB; have e2 : g' 108 = .pointer (some (vad.add i)) := (hp 2 (by decide)).2; have hc := gY _ hbb; simp only [mkM, maskCWA, mixM, Nat.reduceAdd, e2] at hK ⊢; clear e2; simp only [Act.put, List.setIfInBounds_toArray, List.set_cons_zero, List.set_cons_succ] at hK; go_simp; exact hK.out _ _ hB GF.same rfl
              refine StepsM.cons (fun l g' wu hB hl hn hp K hK => ?_) ?_
              · have hbb := hB; have e3 : g' 109 = .agg #[.slice ya yl yc] := (hp 3 (by decide)).2; simp only [mkM, maskCWA, mixM, Nat.reduceAdd, e3] at hK ⊢; clear e3; simp only [Act.put, List.setIfInBounds_toArray, List.set_cons_zero, List.set_cons_succ] at hK; go_simp; go_at_call 39; refine (zero_s ya yl yc 1 _ (NY.out.below hbb)).mono ?_; rintro e w7 ⟨rfl, hb⟩; go_wp2_with fail; exact hK.out _ _ (BB.step hbb hb) (GF.below hb) rfl
              refine StepsM.cons (fun l g' wu hB hl hn hp K hK => ?_) ?_
              · simp only [mkM, maskCWA, mixM, Nat.reduceAdd] at hK ⊢; simp only [Act.put, List.setIfInBounds_toArray, List.set_cons_zero, List.set_cons_succ] at hK; go_simp; exact hK.out _ _ hB GF.same rfl
              refine StepsM.cons (fun l g' wu hB hl hn hp K hK => ?_) ?_
              · simp only [mkM, maskCWA, mixM, Nat.reduceAdd] at hK ⊢; simp only [Act.put, List.setIfInBounds_toArray, List.set_cons_zero, List.set_cons_succ] at hK; go_simp; exact hK.out _ _ hB GF.same rfl
              refine StepsM.cons (fun l g' wu hB hl hn hp K hK => ?_) ?_
              · have e5 : g' 111 = .int .i64 (i : Int) := (hp 5 (by decide)).2; have e6 : g' 112 = .int .i64 (t : Int) := (hp 6 (by decide)).2; simp only [mkM, maskCWA, mixM, Nat.reduceAdd, e5, e6] at hK ⊢; clear e5 e6; simp only [Act.put, List.setIfInBounds_toArray, List.set_cons_zero, List.set_cons_succ] at hK; go_simp; exact hK.out _ _ hB GF.same rfl
              refine StepsM.cons (fun l g' wu hB hl hn hp K hK => ?_) ?_
              · have e4 : g' 110 = .bool false := (hp 4 (by decide)).2; have e7 : g' 113 = .bool false := (hp 7 (by decide)).2; simp only [mkM, maskCWA, mixM, Nat.reduceAdd, e4, e7] at hK ⊢; clear e4 e7; simp only [Act.put, List.setIfInBounds_toArray, List.set_cons_zero, List.set_cons_succ] at hK; go_simp; exact hK.out _ _ hB GF.same rfl
              refine StepsM.cons (fun l g' wu hB hl hn hp K hK => ?_) ?_
              · have e8 : g' 114 = .bool false := (hp 8 (by decide)).2; simp only [mkM, maskCWA, mixM, Nat.reduceAdd, e8] at hK ⊢; clear e8; simp only [Act.put, List.setIfInBounds_toArray, List.set_cons_zero, List.set_cons_succ] at hK; go_simp; exact hK.out _ _ hB GF.same rfl
              refine StepsM.cons (fun l g' wu hB hl hn hp K hK => ?_) ?_
              · have e9 : g' 115 = .bool false := (hp 9 (by decide)).2; simp only [mkM, maskCWA, mixM, Nat.reduceAdd, e9] at hK ⊢; clear e9; simp only [Act.put, List.setIfInBounds_toArray, List.set_cons_zero, List.set_cons_succ] at hK; go_simp; exact hK.out _ _ hB GF.same rfl
              refine StepsM.cons (fun l g' wu hB hl hn hp K hK => ?_) ?_
              · have e9 : g' 115 = .bool false := (hp 9 (by decide)).2; simp only [mkM, maskCWA, mixM, Nat.reduceAdd, e9] at hK ⊢; clear e9; simp only [Act.put, List.setIfInBounds_toArray, List.set_cons_zero, List.set_cons_succ] at hK; go_simp; exact hK.out _ _ hB GF.same rfl
              refine StepsM.cons (fun l g' wu hB hl hn hp K hK => ?_) ?_
              · have e9 : g' 115 = .bool false := (hp 9 (by decide)).2; have e10 : g' 116 = .int .i64 (i : Int) := (hp 10 (by decide)).2; have e11 : g' 117 = .int .i64 (t : Int) := (hp 11 (by decide)).2; simp only [mkM, maskCWA, mixM, Nat.reduceAdd, e9, e10, e11] at hK ⊢; clear e9 e10 e11; simp only [Act.put, List.setIfInBounds_toArray, List.set_cons_zero, List.set_cons_succ] at hK; go_simp; exact hK.out _ _ hB GF.same rfl
              refine StepsM.cons (fun l g' wu hB hl hn hp K hK => ?_) ?_
              · have e9 : g' 115 = .bool false := (hp 9 (by decide)).2; have e12 : g' 118 = .bool true := (hp 12 (by decide)).2; simp only [mkM, maskCWA, mixM, Nat.reduceAdd, e9, e12] at hK ⊢; clear e9 e12; simp only [Act.put, List.setIfInBounds_toArray, List.set_cons_zero, List.set_cons_succ] at hK; go_simp; exact hK.out _ _ hB GF.same rfl
              refine StepsM.cons (fun l g' wu hB hl hn hp K hK => ?_) ?_
              · have e13 : g' 119 = .bool true := (hp 13 (by decide)).2; simp only [mkM, maskCWA, mixM, Nat.reduceAdd, e13] at hK ⊢; clear e13; simp only [Act.put, List.setIfInBounds_toArray, List.set_cons_zero, List.set_cons_succ] at hK; go_simp; exact hK.out _ _ hB GF.same rfl
              refine StepsM.cons (fun l g' wu hB hl hn hp K hK => ?_) ?_
              · have e13 : g' 119 = .bool true := (hp 13 (by decide)).2; simp only [mkM, maskCWA, mixM, Nat.reduceAdd, e13] at hK ⊢; clear e13; simp only [Act.put, List.setIfInBounds_toArray, List.set_cons_zero, List.set_cons_succ] at hK; go_simp; exact hK.out _ _ hB GF.same rfl
              refine StepsM.cons (fun l g' wu hB hl hn hp K hK => ?_) ?_
              · have e13 : g' 119 = .bool true := (hp 13 (by decide)).2; have e14 : g' 120 = .slice (some vad) len vc := (hp 14 (by decide)).2; have e15 : g' 121 = .int .i64 (i : Int) := (hp 15 (by decide)).2; simp only [mkM, maskCWA, mixM, Nat.reduceAdd, e13, e14, e15] at hK ⊢; clear e13 e14 e15; simp only [Act.put, List.setIfInBounds_toArray, List.set_cons_zero, List.set_cons_succ] at hK; go_simp; exact hK.out _ _ hB GF.same rfl
              refine StepsM.cons (fun l g' wu hB hl hn hp K hK => ?_) ?_
              · have hbb := hB; have e13 : g' 119 = .bool true := (hp 13 (by decide)).2; have e16 : g' 122 = .pointer (some (vad.add i)) := (hp 16 (by decide)).2; have hc := gY _ hbb; simp only [mkM, maskCWA, mixM, Nat.reduceAdd, e13, e16] at hK ⊢; clear e13 e16; simp only [Act.put, List.setIfInBounds_toArray, List.set_cons_zero, List.set_cons_succ] at hK; go_simp; exact hK.out _ _ hB GF.same rfl
              refine StepsM.cons (fun l g' wu hB hl hn hp K hK => ?_) ?_
              · have hbb := hB; have e13 : g' 119 = .bool true := (hp 13 (by decide)).2; simp only [mkM, maskCWA, mixM, Nat.reduceAdd, e13] at hK ⊢; clear e13; simp only [Act.put, List.setIfInBounds_toArray, List.set_cons_zero, List.set_cons_succ] at hK; go_simp; go_at_call 20; refine (new_s 1 _ (by decide)).mono ?_; rintro e w7 ⟨ta, tl, tc, rfl, hx, hb⟩; go_wp2_with fail; exact hK.out _ _ (BB.step hbb hb) (GF.below hb) ⟨ta, tl, tc, rfl, hx⟩
              refine StepsM.cons (fun l g' wu hB hl hn hp K hK => ?_) ?_
              · have hbb := hB; have e13 : g' 119 = .bool true := (hp 13 (by decide)).2; have e17 : g' 123 = .agg #[.slice ya yl yc] := (hp 17 (by decide)).2; obtain ⟨x18, l18, c18, e18, h18⟩ := (hp 18 (by decide)).2; have e18 : g' 124 = .agg #[.slice x18 l18 c18] := e18; simp only [mkM, maskCWA, mixM, Nat.reduceAdd, e13, e17, e18] at hK ⊢; clear e13 e17 e18; simp only [Act.put, List.setIfInBounds_toArray, List.set_cons_zero, List.set_cons_succ] at hK; go_simp; go_at_call 25; refine (cmp_s ya x18 yl yc l18 c18 1 1 _ (NY.out.below hbb) h18).mono ?_; rw [cmp_self]; rintro e w7 ⟨rfl, hb⟩; go_wp2_with fail; exact hK.out _ _ (BB.step hbb hb) (GF.below hb) rfl
              refine StepsM.cons (fun l g' wu hB hl hn hp K hK => ?_) ?_
              · have e13 : g' 119 = .bool true := (hp 13 (by decide)).2; have e19 : g' 125 = .int .i64 0 := (hp 19 (by decide)).2; simp only [mkM, maskCWA, mixM, Nat.reduceAdd, e13, e19] at hK ⊢; clear e13 e19; simp only [Act.put, List.setIfInBounds_toArray, List.set_cons_zero, List.set_cons_succ] at hK; go_simp; exact hK.out _ _ hB GF.same rfl
              refine StepsM.cons (fun l g' wu hB hl hn hp K hK => ?_) ?_
              · have e9 : g' 115 = .bool false := (hp 9 (by decide)).2; have e13 : g' 119 = .bool true := (hp 13 (by decide)).2; have e20 : g' 126 = .bool false := (hp 20 (by decide)).2; simp only [mkM, maskCWA, mixM, Nat.reduceAdd, e9, e13, e20] at hK ⊢; clear e9 e13 e20; simp only [Act.put, List.setIfInBounds_toArray, List.set_cons_zero, List.set_cons_succ] at hK; go_simp; exact hK.out _ _ hB GF.same rfl
              refine StepsM.cons (fun l g' wu hB hl hn hp K hK => ?_) ?_
              · have e9 : g' 115 = .bool false := (hp 9 (by decide)).2; have e21 : g' 127 = .bool false := (hp 21 (by decide)).2; simp only [mkM, maskCWA, mixM, Nat.reduceAdd, e9, e21] at hK ⊢; clear e9 e21; simp only [Act.put, List.setIfInBounds_toArray, List.set_cons_zero, List.set_cons_succ] at hK; go_simp; exact hK.out _ _ hB GF.same rfl
              exact StepsM.nil
            · intro l g' wu hall hB hG
              have e22 : g' 128 = .bool false := hG 22 (by decide)
              have HBU := Lib.hid (HB.out.trans (Below.mono hB HB.out.size))
              simp only [mkM, maskCWA, mixM, Nat.reduceAdd, e22]
              clear hG hall e22
              go_wp2_with fail
              go_roundw
              case rel => exact ⟨i + 1, by omega, by go_num, HBU.out⟩
              case measure => simp [intOf]; omega
          · rw [if_neg hit] at ny
            have NY := Lib.hid ny
            have hd1 : ((i : Int) != (t : Int)) = true := by rw [bne_iff_ne]; omega
            have hd2 : ((i : Int) == (t : Int)) = false := by rw [beq_eq_false_iff_ne]; omega
            clear ny hit
            go_wp2_with fail
            refine wp_region_mix (fun _ w' => BB wr w') (GF (tabCWB (.slice (some vad) len vc) (.int .i64 (i : Int)) (.pointer (some (vad.add i))) (.agg #[.slice ya yl yc]) (.bool true) (.int .i64 (i : Int)) (.int .i64 (t : Int)) (.bool true) (.bool false) (.bool false) (.int .i64 (i : Int)) (.int .i64 (t : Int)) (.bool false) (.bool false) (undef) (undef) (undef) (undef) (undef) (undef) (undef) (.bool false) (.bool false))) maskCWB dstCWB preCWB (by kernel_rfl) (by kernel_rfl) rfl (by kernel_rfl) (by kernel_rfl) (by kernel_rfl) (by kernel_rfl) (BB.drew (BB.refl _)) ?_ ?_
            · refine StepsM.cons (fun l g' wu hB hl hn hp K hK => ?_) ?_
              · simp only [mkM, maskCWB, mixM, Nat.reduceAdd] at hK ⊢; simp only [Act.put, List.setIfInBounds_toArray, List.set_cons_zero, List.set_cons_succ] at hK; go_simp; exact hK.out _ _ hB GF.same rfl
              refine StepsM.cons (fun l g' wu hB hl hn hp K hK => ?_) ?_
              · simp only [mkM, maskCWB, mixM, Nat.reduceAdd] at hK ⊢; simp only [Act.put, List.setIfInBounds_toArray, List.set_cons_zero, List.set_cons_succ] at hK; go_simp; exact hK.out _ _ hB GF.same rfl
              refine StepsM.cons (fun l g' wu hB hl hn hp K hK => ?_) ?_
              · have e0 : g' 106 = .slice (some vad) len vc := (hp 0 (by decide)).2; have e1 : g' 107 = .int .i64 (i : Int) := (hp 1 (by decide)).2; simp only [mkM, maskCWB, mixM, Nat.reduceAdd, e0, e1] at hK ⊢; clear e0 e1; simp only [Act.put, List.setIfInBounds_toArray, List.set_cons_zero, List.set_cons_succ] at hK; go_simp; exact hK.out _ _ hB GF.same rfl
              refine StepsM.cons (fun l g' wu hB hl hn hp K hK => ?_) ?_
              · have hbb := hB; have e2 : g' 108 = .pointer (some (vad.add i)) := (hp 2 (by decide)).2; have hc := gY _ hbb; simp only [mkM, maskCWB, mixM, Nat.reduceAdd, e2] at hK ⊢; clear e2; simp only [Act.put, List.setIfInBounds_toArray, List.set_cons_zero, List.set_cons_succ] at hK; go_simp; exact hK.out _ _ hB GF.same rfl
              refine StepsM.cons (fun l g' wu hB hl hn hp K hK => ?_) ?_
              · have hbb := hB; have e3 : g' 109 = .agg #[.slice ya yl yc] := (hp 3 (by decide)).2; simp only [mkM, maskCWB, mixM, Nat.reduceAdd, e3] at hK ⊢; clear e3; simp only [Act.put, List.setIfInBounds_toArray, List.set_cons_zero, List.set_cons_succ] at hK; go_simp; go_at_call 39; refine (zero_s ya yl yc 0 _ (NY.out.below hbb)).mono ?_; rintro e w7 ⟨rfl, hb⟩; go_wp2_with fail; exact hK.out _ _ (BB.step hbb hb) (GF.below hb) rfl
              refine StepsM.cons (fun l g' wu hB hl hn hp K hK => ?_) ?_
              · simp only [mkM, maskCWB, mixM, Nat.reduceAdd] at hK ⊢; simp only [Act.put, List.setIfInBounds_toArray, List.set_cons_zero, List.set_cons_succ] at hK; go_simp; exact hK.out _ _ hB GF.same rfl
              refine StepsM.cons (fun l g' wu hB hl hn hp K hK => ?_) ?_
              · simp only [mkM, maskCWB, mixM, Nat.reduceAdd] at hK ⊢; simp only [Act.put, List.setIfInBounds_toArray, List.set_cons_zero, List.set_cons_succ] at hK; go_simp; exact hK.out _ _ hB GF.same rfl
              refine StepsM.cons (fun l g' wu hB hl hn hp K hK => ?_) ?_
              · have e5 : g' 111 = .int .i64 (i : Int) := (hp 5 (by decide)).2; have e6 : g' 112 = .int .i64 (t : Int) := (hp 6 (by decide)).2; simp only [mkM, maskCWB, mixM, Nat.reduceAdd, e5, e6] at hK ⊢; clear e5 e6; simp only [Act.put, List.setIfInBounds_toArray, List.set_cons_zero, List.set_cons_succ] at hK; go_simp; exact hK.out _ _ hB GF.same rfl
              refine StepsM.cons (fun l g' wu hB hl hn hp K hK => ?_) ?_
              · have e4 : g' 110 = .bool true := (hp 4 (by decide)).2; have e7 : g' 113 = .bool true := (hp 7 (by decide)).2; simp only [mkM, maskCWB, mixM, Nat.reduceAdd, e4, e7] at hK ⊢; clear e4 e7; simp only [Act.put, List.setIfInBounds_toArray, List.set_cons_zero, List.set_cons_succ] at hK; go_simp; exact hK.out _ _ hB GF.same rfl
              refine StepsM.cons (fun l g' wu hB hl hn hp K hK => ?_) ?_
              · have e8 : g' 114 = .bool false := (hp 8 (by decide)).2; simp only [mkM, maskCWB, mixM, Nat.reduceAdd, e8] at hK ⊢; clear e8; simp only [Act.put, List.setIfInBounds_toArray, List.set_cons_zero, List.set_cons_succ] at hK; go_simp; exact hK.out _ _ hB GF.same rfl
              refine StepsM.cons (fun l g' wu hB hl hn hp K hK => ?_) ?_
              · have e9 : g' 115 = .bool false := (hp 9 (by decide)).2; simp only [mkM, maskCWB, mixM, Nat.reduceAdd, e9] at hK ⊢; clear e9; simp only [Act.put, List.setIfInBounds_toArray, List.set_cons_zero, List.set_cons_succ] at hK; go_simp; exact hK.out _ _ hB GF.same rfl
              refine StepsM.cons (fun l g' wu hB hl hn hp K hK => ?_) ?_
              · have e9 : g' 115 = .bool false := (hp 9 (by decide)).2; simp only [mkM, maskCWB, mixM, Nat.reduceAdd, e9] at hK ⊢; clear e9; simp only [Act.put, List.setIfInBounds_toArray, List.set_cons_zero, List.set_cons_succ] at hK; go_simp; exact hK.out _ _ hB GF.same rfl
              refine StepsM.cons (fun l g' wu hB hl hn hp K hK => ?_) ?_
              · have e9 : g' 115 = .bool false := (hp 9 (by decide)).2; have e10 : g' 116 = .int .i64 (i : Int) := (hp 10 (by decide)).2; have e11 : g' 117 = .int .i64 (t : Int) := (hp 11 (by decide)).2; simp only [mkM, maskCWB, mixM, Nat.reduceAdd, e9, e10, e11] at hK ⊢; clear e9 e10 e11; simp only [Act.put, List.setIfInBounds_toArray, List.set_cons_zero, List.set_cons_succ] at hK; go_simp; exact hK.out _ _ hB GF.same rfl
              refine StepsM.cons (fun l g' wu hB hl hn hp K hK => ?_) ?_
              · have e9 : g' 115 = .bool false := (hp 9 (by decide)).2; have e12 : g' 118 = .bool false := (hp 12 (by decide)).2; simp only [mkM, maskCWB, mixM, Nat.reduceAdd, e9, e12] at hK ⊢; clear e9 e12; simp only [Act.put, List.setIfInBounds_toArray, List.set_cons_zero, List.set_cons_succ] at hK; go_simp; exact hK.out _ _ hB GF.same rfl
              refine StepsM.cons (fun l g' wu hB hl hn hp K hK => ?_) ?_
              · have e13 : g' 119 = .bool false := (hp 13 (by decide)).2; simp only [mkM, maskCWB, mixM, Nat.reduceAdd, e13] at hK ⊢; clear e13; simp only [Act.put, List.setIfInBounds_toArray, List.set_cons_zero, List.set_cons_succ] at hK; go_simp; exact hK.out _ _ hB GF.same rfl
              refine StepsM.cons (fun l g' wu hB hl hn hp K hK => ?_) ?_
              · have e13 : g' 119 = .bool false := (hp 13 (by decide)).2; simp only [mkM, maskCWB, mixM, Nat.reduceAdd, e13] at hK ⊢; clear e13; simp only [Act.put, List.setIfInBounds_toArray, List.set_cons_zero, List.set_cons_succ] at hK; go_simp; exact hK.out _ _ hB GF.same rfl
              refine StepsM.cons (fun l g' wu hB hl hn hp K hK => ?_) ?_
              · have e13 : g' 119 = .bool false := (hp 13 (by decide)).2; simp only [mkM, maskCWB, mixM, Nat.reduceAdd, e13] at hK ⊢; clear e13; simp only [Act.put, List.setIfInBounds_toArray, List.set_cons_zero, List.set_cons_succ] at hK; go_simp; exact hK.out _ _ hB GF.same rfl
              refine StepsM.cons (fun l g' wu hB hl hn hp K hK => ?_) ?_
              · have e13 : g' 119 = .bool false := (hp 13 (by decide)).2; simp only [mkM, maskCWB, mixM, Nat.reduceAdd, e13] at hK ⊢; clear e13; simp only [Act.put, List.setIfInBounds_toArray, List.set_cons_zero, List.set_cons_succ] at hK; go_simp; exact hK.out _ _ hB GF.same rfl
              refine StepsM.cons (fun l g' wu hB hl hn hp K hK => ?_) ?_
              · have e13 : g' 119 = .bool false := (hp 13 (by decide)).2; simp only [mkM, maskCWB, mixM, Nat.reduceAdd, e13] at hK ⊢; clear e13; simp only [Act.put, List.setIfInBounds_toArray, List.set_cons_zero, List.set_cons_succ] at hK; go_simp; exact hK.out _ _ hB GF.same rfl
              refine StepsM.cons (fun l g' wu hB hl hn hp K hK => ?_) ?_
              · have e13 : g' 119 = .bool false := (hp 13 (by decide)).2; simp only [mkM, maskCWB, mixM, Nat.reduceAdd, e13] at hK ⊢; clear e13; simp only [Act.put, List.setIfInBounds_toArray, List.set_cons_zero, List.set_cons_succ] at hK; go_simp; exact hK.out _ _ hB GF.same rfl
              refine StepsM.cons (fun l g' wu hB hl hn hp K hK => ?_) ?_
              · have e13 : g' 119 = .bool false := (hp 13 (by decide)).2; simp only [mkM, maskCWB, mixM, Nat.reduceAdd, e13] at hK ⊢; clear e13; simp only [Act.put, List.setIfInBounds_toArray, List.set_cons_zero, List.set_cons_succ] at hK; go_simp; exact hK.out _ _ hB GF.same rfl
              refine StepsM.cons (fun l g' wu hB hl hn hp K hK => ?_) ?_
              · have e9 : g' 115 = .bool false := (hp 9 (by decide)).2; have e13 : g' 119 = .bool false := (hp 13 (by decide)).2; simp only [mkM, maskCWB, mixM, Nat.reduceAdd, e9, e13] at hK ⊢; clear e9 e13; simp only [Act.put, List.setIfInBounds_toArray, List.set_cons_zero, List.set_cons_succ] at hK; go_simp; exact hK.out _ _ hB GF.same rfl
              refine StepsM.cons (fun l g' wu hB hl hn hp K hK => ?_) ?_
              · have e9 : g' 115 = .bool false := (hp 9 (by decide)).2; have e21 : g' 127 = .bool false := (hp 21 (by decide)).2; simp only [mkM, maskCWB, mixM, Nat.reduceAdd, e9, e21] at hK ⊢; clear e9 e21; simp only [Act.put, List.setIfInBounds_toArray, List.set_cons_zero, List.set_cons_succ] at hK; go_simp; exact hK.out _ _ hB GF.same rfl
              exact StepsM.nil
            · intro l g' wu hall hB hG
              have e22 : g' 128 = .bool false := hG 22 (by decide)
              have HBU := Lib.hid (HB.out.trans (Below.mono hB HB.out.size))
              simp only [mkM, maskCWB, mixM, Nat.reduceAdd, e22]
              clear hG hall e22
              go_wp2_with fail
              go_roundw
              case rel => exact ⟨i + 1, by omega, by go_num, HBU.out⟩
              case measure => simp [intOf]; omega
        · have hi' : i = len := by omega
          obtain rfl : len = i := hi'.symm
          have HBE := Lib.hid (HB11.out.trans (HB.out.mono HB11.out.size))
          go_wp2_with fail
          go_ret
          exact ⟨rfl, HBE.out⟩

/-- The same, as the frame asks it. -/
theorem cweighs_walk (a0 : Int) (a1 : Option Addr) (len1 cap1 : Nat) (z1 : List Int) (a2 a3 : Int) (w : World)
    (w1 : (a1 = none ∧ len1 = 0 ∧ cap1 = 0 ∧ z1 = []) ∨ ∃ x, a1 = some x ∧ len1 ≤ cap1 ∧ cap1 ≤ maxLen ∧ z1.length = cap1 ∧ (∀ i, i < z1.length → w.cell? (x.add i) = some (.int .u64 (z1.getD i 0))) ∧ ∀ n ∈ z1, (Lit.int .u64 n).wf = true)
    (w2 : (Lit.int .u64 a2).wf = true) :
    Calls Try.prog 5 #[.int .i64 a0, .slice a1 len1 cap1, .int .u64 a2, .int .i64 a3] w fun e w' => e = .returned (.bool true) ∧ Below w.heap.size w w' := by
  obtain ⟨l, h1, h2, h3, h4⟩ := words_in w1
  obtain ⟨x, rfl, hx⟩ := word_in w2
  exact cweighs_any a0 a1 len1 cap1 l x a3 w h1 h2 h3 h4 hx
end Go.Proofs.Ythefednendgclaa
