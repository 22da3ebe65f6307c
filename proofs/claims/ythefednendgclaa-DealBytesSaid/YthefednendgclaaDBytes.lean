/-
  The law DealBytes: it returns true.
-/
import Derived.Test.YthefednendgclaaRefBy
import Derived.Test.YthefednendgclaaLaw14
import Derived.Test.YthefednendgclaaRefK
set_option linter.unusedVariables false
set_option linter.unusedSimpArgs false
namespace Go.Proofs.Ythefednendgclaa
open Go Go.RowKit Sac NT

theorem cmp_ge_iff (n m : Nat) : 0 ≤ cmpNat n m ↔ m ≤ n := by unfold cmpNat; split <;> (try split) <;> omega
/-- What the frame tells of a slice of bytes that came in. -/
theorem bytes_in {w : World} {a : Option Addr} {len cap : Nat} {zs : List Int}
    (h : (a = none ∧ len = 0 ∧ cap = 0 ∧ zs = []) ∨ ∃ x, a = some x ∧ len ≤ cap ∧ cap ≤ maxLen ∧ zs.length = cap ∧ (∀ i, i < zs.length → w.cell? (x.add i) = some (.int .u8 (zs.getD i 0))) ∧ ∀ n ∈ zs, (Lit.int .u8 n).wf = true) :
    ∃ l : List Nat, RdC w a (l.map by8) ∧ l.length = len ∧ (len : Int) ≤ cap ∧ (∀ x ∈ l, x < 256) ∧ (a = none → l = []) := by
  rcases h with ⟨rfl, rfl, rfl, rfl⟩ | ⟨x, rfl, h1, _, h3, h4, h5⟩
  · exact ⟨[], fun h => absurd rfl h, rfl, by omega, by simp, fun _ => rfl⟩
  · have hw : ∀ n ∈ zs, 0 ≤ n ∧ n < 256 := fun n hn => by
      have := h5 n hn
      simp only [Lit.wf, Bool.and_eq_true, decide_eq_true_eq] at this
      have e1 : IntKind.u8.min = 0 := rfl
      have e2 : IntKind.u8.max = 255 := rfl
      omega
    refine ⟨(zs.take len).map Int.toNat, fun _ => ⟨x, rfl, fun j u hj => ?_⟩, by simp; omega, by omega, fun y hy => ?_, fun e => by cases e⟩
    · rw [List.map_map, List.getElem?_map] at hj
      obtain ⟨z, hz, hzu⟩ := Option.map_eq_some_iff.1 hj
      have hzz : zs[j]? = some z := by rw [List.getElem?_take] at hz; split at hz; exact hz; cases hz
      obtain ⟨hjl, hje⟩ := List.getElem?_eq_some_iff.1 hzz
      rw [h4 j hjl, ← hzu, List.getD_eq_getElem?_getD, hzz]
      have := hw z (List.mem_of_getElem? hzz)
      show some (Value.int .u8 z) = some (Value.int .u8 ((z.toNat : Nat) : Int))
      rw [Int.toNat_of_nonneg this.1]
    · obtain ⟨z, hz, rfl⟩ := List.mem_map.1 hy
      have := hw z (List.mem_of_mem_take hz)
      omega
def tabB13 (v0 : Value) (v1 : Value) (v2 : Value) (v3 : Value) (v4 : Value) (v5 : Value) (v6 : Value) (v7 : Value) (v8 : Value) (v9 : Value) (v10 : Value) (p11 : Fk KpN) (p12 : Fk KpN) (v13 : Value) (v14 : Value) (v15 : Value) (v16 : Value) (v17 : Value) (v18 : Value) (v19 : Value) (v20 : Value) (v21 : Value) (v22 : Value) (v23 : Value) (v24 : Value) (v25 : Value) (v26 : Value) (v27 : Value) (v28 : Value) (v29 : Value) (v30 : Value) (v31 : Value) : List (Fk KpN) := [.val v0, .val v1, .val v2, .val v3, .val v4, .val v5, .val v6, .val v7, .val v8, .val v9, .val v10, p11, p12, .val v13, .val v14, .val v15, .val v16, .val v17, .val v18, .val v19, .val v20, .val v21, .val v22, .val v23, .val v24, .val v25, .val v26, .val v27, .val v28, .val v29, .val v30, .val v31]
def dstB13 : List (Option Tmp) := [some 78, some 79, some 80, some 81, some 82, some 83, some 84, some 85, some 86, some 87, some 88, some 89, some 90, some 91, some 92, some 93, some 94, some 95, some 96, some 97, some 98, some 99, some 100, some 101, some 102, some 103, some 104, some 105, some 106, some 107, some 108, some 109]
def preB13 : List (List Nat) := [[], [0], [0, 1], [0, 1, 2], [0, 1, 2, 3], [0, 1, 2, 3, 4], [0, 1, 2, 3, 4, 5], [0, 1, 2, 3, 4, 5, 6], [0, 1, 2, 3, 4, 5, 6, 7], [0, 1, 2, 3, 4, 5, 6], [0, 1, 2, 3, 4, 5, 6], [0, 1, 2, 3, 4, 5, 6, 10], [0, 1, 2, 3, 4, 5, 6, 9, 10, 11], [0, 1, 2, 3, 4, 5, 6, 9, 10, 11, 12], [0, 1, 2, 3, 4, 5, 6, 7, 8, 9, 10, 11, 12, 13], [0, 1, 2, 3, 4, 5, 6, 7, 8, 9, 10, 11, 12, 13, 14], [0, 1, 2, 3, 4, 5, 6, 7, 8, 9, 10, 11, 12, 13, 14, 15], [0, 1, 2, 3, 4, 5, 6, 7, 8, 9, 10, 11, 12, 13, 14, 15, 16], [0, 1, 2, 3, 4, 5, 6, 7, 8, 9, 10, 11, 12, 13, 14, 15, 16, 17], [0, 1, 2, 3, 4, 5, 6, 7, 8, 9, 10, 11, 12, 13, 14, 15, 16], [0, 1, 2, 3, 4, 5, 6, 7, 8, 9, 10, 11, 12, 13, 14, 15, 16, 19], [0, 1, 2, 3, 4, 5, 6, 7, 8, 9, 10, 11, 12, 13, 14, 15, 16, 17, 18, 19, 20], [0, 1, 2, 3, 4, 5, 6, 7, 8, 9, 10, 11, 12, 13, 14, 15, 16, 17, 18, 19, 20, 21], [0, 1, 2, 3, 4, 5, 6, 7, 8, 9, 10, 11, 12, 13, 14, 15, 16, 17, 18, 19, 20, 21, 22], [0, 1, 2, 3, 4, 5, 6, 7, 8, 9, 10, 11, 12, 13, 14, 15, 16, 17, 18, 19, 20, 21, 22, 23], [0, 1, 2, 3, 4, 5, 6, 7, 8, 9, 10, 11, 12, 13, 14, 15, 16, 17, 18, 19, 20, 21, 22, 23, 24], [0, 1, 2, 3, 4, 5, 6, 7, 8, 9, 10, 11, 12, 13, 14, 15, 16, 17, 18, 19, 20, 21, 22, 23, 24, 25], [0, 1, 2, 3, 4, 5, 6, 7, 8, 9, 10, 11, 12, 13, 14, 15, 16, 17, 18, 19, 20, 21, 22, 23, 24], [0, 1, 2, 3, 4, 5, 6, 7, 8, 9, 10, 11, 12, 13, 14, 15, 16, 17, 18, 19, 20, 21, 22, 23, 24, 27], [0, 1, 2, 3, 4, 5, 6, 7, 8, 9, 10, 11, 12, 13, 14, 15, 16, 17, 18, 19, 20, 21, 22, 23, 24, 25, 26, 27, 28], [0, 1, 2, 3, 4, 5, 6, 7, 8, 9, 10, 11, 12, 13, 14, 15, 16, 17, 18, 19, 20, 21, 22, 23, 24, 25, 26, 27, 28, 29], [0, 1, 2, 3, 4, 5, 6, 7, 8, 9, 10, 11, 12, 13, 14, 15, 16, 17, 18, 19, 20, 21, 22, 23, 24, 25, 26, 27, 28, 29, 30]]
def maskB13 : List Bool := [false, false, false, false, false, false, false, false, false, false, false, false, false, false, false, false, false, false, false, false, false, false, false, false, false, false, false, false, false, false, false, false, false, false, false, false, false, false, false, false, false, false, false, false, false, false, false, false, false, false, false, false, false, false, false, false, false, false, false, false, false, false, false, false, false, false, false, false, false, false, false, false, false, false, false, false, false, false, true, true, true, true, true, true, true, true, true, true, true, true, true, true, true, true, true, true, true, true, true, true, true, true, true, true, true, true, true, true, true, true, false, false, false, false, false, false, false, false, false, false, false, false, false, false, false, false, false, false, false, false, false, false, false, false, false, false, false, false, false, false, false, false, false, false, false, false, false, false, false, false, false, false, false, false, false, false, false, false, false, false, false]

set_option maxRecDepth 100000 in
set_option maxHeartbeats 8000000 in
theorem dbytes_law (n : Int) (x y : Nat) (a : Option Addr) (len cap : Nat) (bs : List Nat) (w : World)
    (ha : RdC w a (bs.map by8)) (hl : bs.length = len) (hc : (len : Int) ≤ cap) (hx : ∀ y ∈ bs, y < 256) (h0 : a = none → bs = []) (hxx : x < 18446744073709551616) (hyy : y < 18446744073709551616) :
    Calls Try.prog 12 #[.int .i64 n, .int .u64 (x : Int), .int .u64 (y : Int), .slice a len cap] w fun e w' => e = .returned (.bool true) ∧ Below w.heap.size w w' := by
  have HA := Lib.hid (And.intro ha (And.intro hl (And.intro hc (And.intro hx h0))))
  have HX64 := Lib.hid (And.intro hxx hyy)
  have HXX : Hid (nbytes x ≤ 120 ∧ nbytes y ≤ 120) := ⟨nb_64 hxx, nb_64 hyy⟩
  clear ha hl hc hx h0 hxx hyy
  by_cases h8 : (100 : Int) < (len : Int)
  · go_enter Try.func12, Try.ntmps12
    go_wp2_with fail
    refine (lives14_any w).mono ?_
    rintro e w2 ⟨rfl, hb2⟩
    have HB2 := Lib.hid hb2
    clear hb2
    go_wp2_with fail
    refine (lives14_any w2).mono ?_
    rintro e w3 ⟨rfl, hb3⟩
    have HB3 := Lib.hid (HB2.out.trans (hb3.mono HB2.out.size))
    clear hb3
    go_wp2_with fail
    go_ret
    exact ⟨rfl, HB3.out⟩
  obtain ⟨k, hk⟩ : ∃ k, kOf n = k := ⟨_, rfl⟩
  have HK := Lib.hid hk
  clear hk
  obtain ⟨nb, hnb⟩ : ∃ nb, nbytes (gQ k) = nb := ⟨_, rfl⟩
  have HNB := Lib.hid hnb
  have HN2 : Hid (nb ≤ 120 ∧ 0 < nb) := ⟨hnb ▸ gQ_nb k, by
    rcases Nat.eq_zero_or_pos nb with h | h
    · exfalso
      have := (nbytes_le (gQ k) 0).1 (by omega)
      have h2 := gQ_two k
      omega
    · exact h⟩
  clear hnb
  go_enter Try.func12, Try.ntmps12
  go_wp2_with fail
  refine (lives14_any w).mono ?_
  rintro e w2 ⟨rfl, hb2⟩
  have HB2 := Lib.hid hb2
  clear hb2
  go_wp2_with fail
  refine (group_any n w2).mono ?_
  rintro e w3 ⟨g, rfl, hg, hb3⟩
  rw [HK.out] at hg
  have HG3 : Hid (GroupAt w3 g (gP k) (gQ k) (gG k) (gH k) (gS k)) := hg
  have HB3 := Lib.hid (HB2.out.trans (hb3.mono HB2.out.size))
  clear hb3 hg HB2
  go_wp2_with fail
  refine (bref_any g (gP k) (gQ k) (gG k) (gH k) (gS k) w3 HG3.out (gP_nb k) (gQ_nb k) (gG_nb k) (gH_nb k)).mono ?_
  rintro e w4 ⟨gv, rfl, hgv, hb4⟩
  have HG4 := Lib.hid (HG3.out.below hb4)
  have HB4 := Lib.hid (HB3.out.trans (hb4.mono HB3.out.size))
  obtain ⟨ra, rl, rc, qa, ql, qc, ga, gl, gc, ja, jl, jc, rfl, h1, h2, h3, h4⟩ := hgv
  have HV4 := Lib.hid (And.intro h1 (And.intro h2 (And.intro h3 h4)))
  clear hb4 h1 h2 h3 h4 HB3 HG3
  go_wp2_with fail
  refine (gfield_any g _ _ _ _ _ w4 HG4.out).mono ?_
  rintro e w5 ⟨r, rfl, hr, hb5⟩
  have HR5 := Lib.hid hr
  have hbb5 : BB w4 w5 := hb5
  clear hr hb5
  go_wp2_with fail
  refine (modulus_any r (gQ k) w5 HR5.out).mono ?_
  rintro e w6 ⟨ma, ml, mc, rfl, hm, hb6⟩
  have hbb6 : BB w4 w6 := BB.step hbb5 hb6
  obtain ⟨Bg, hBgs⟩ : ∃ Bg, Bg = w6.heap.size := ⟨_, rfl⟩
  have hba := (Below.refl _ w6).alloc (Nat.le_refl _) (Obj.cells #[Value.slice ra rl rc, Value.slice qa ql qc, Value.slice ga gl gc, Value.slice ja jl jc] 62)
  have hbb : BB w6 ((w6.alloc (Obj.cells #[Value.slice ra rl rc, Value.slice qa ql qc, Value.slice ga gl gc, Value.slice ja jl jc] 62)).alloc (Obj.cells #[Value.slice ma ml mc] 33)) := BB.alloc hba
  have HBg : Hid (Blk ((w6.alloc (Obj.cells #[Value.slice ra rl rc, Value.slice qa ql qc, Value.slice ga gl gc, Value.slice ja jl jc] 62)).alloc (Obj.cells #[Value.slice ma ml mc] 33)) Bg 62 [.slice ra rl rc, .slice qa ql qc, .slice ga gl gc, .slice ja jl jc]) := (Blk.new' w6 _ _ Bg hBgs).alloc _
  have HBq : Hid (Blk ((w6.alloc (Obj.cells #[Value.slice ra rl rc, Value.slice qa ql qc, Value.slice ga gl gc, Value.slice ja jl jc] 62)).alloc (Obj.cells #[Value.slice ma ml mc] 33)) (Bg + 1) 33 [.slice ma ml mc]) := Blk.new' _ _ _ (Bg + 1) (by rw [hBgs]; simp)
  have HM7 := Lib.hid (hm.below hbb)
  have hbb7 : BB w4 ((w6.alloc (Obj.cells #[Value.slice ra rl rc, Value.slice qa ql qc, Value.slice ga gl gc, Value.slice ja jl jc] 62)).alloc (Obj.cells #[Value.slice ma ml mc] 33)) := BB.step hbb6 hbb
  have HBgs := Lib.hid hBgs
  clear hba hbb hm hb6 hbb6 hbb5 HR5 hBgs
  go_wp2_with fail
  rw [← HBgs.out]
  generalize (w6.alloc (Obj.cells #[Value.slice ra rl rc, Value.slice qa ql qc, Value.slice ga gl gc, Value.slice ja jl jc] 62)).alloc (Obj.cells #[Value.slice ma ml mc] 33) = w7 at HBg HBq HM7 hbb7 ⊢
  refine (new_s x w7 HX64.out.1).mono ?_
  rintro e w8 ⟨xa, xl, xc, rfl, hx, hb8⟩
  have HX8 := Lib.hid hx
  have hbb8 : BB w7 w8 := hb8
  clear hx hb8
  go_wp2_with fail
  refine (new_s y w8 HX64.out.2).mono ?_
  rintro e w9 ⟨ya, yl, yc, rfl, hy, hb9⟩
  have hbb9 : BB w7 w9 := BB.step hbb8 hb9
  obtain ⟨X, hXs⟩ : ∃ X, X = w9.heap.size := ⟨_, rfl⟩
  have hbx := (Below.refl _ w9).alloc (Nat.le_refl _) (Obj.cells #[Value.slice xa xl xc, Value.slice ya yl yc] 90)
  have hBx : Blk (w9.alloc (Obj.cells #[Value.slice xa xl xc, Value.slice ya yl yc] 90)) X 90 [.slice xa xl xc, .slice ya yl yc] := Blk.new' w9 _ _ X hXs
  have HX := Lib.hid ((HX8.out.below hb9).below hbx)
  have HY := Lib.hid (hy.below hbx)
  have hbb7X : BB w7 (w9.alloc (Obj.cells #[Value.slice xa xl xc, Value.slice ya yl yc] 90)) := BB.step hbb9 hbx
  have HXs := Lib.hid hXs
  clear hy hb9 hbb8 hbb9 hbx HX8 hXs
  go_wp2_with fail
  rw [← HXs.out]
  generalize w9.alloc (Obj.cells #[Value.slice xa xl xc, Value.slice ya yl yc] 90) = wX at hBx HX HY hbb7X ⊢
  have hbb4X : BB w4 wX := BB.step hbb7 hbb7X
  have HG := Lib.hid (HG4.out.below hbb4X)
  have HBX := Lib.hid (HB4.out.trans (Below.mono hbb4X HB4.out.size))
  have HM := Lib.hid (HM7.out.below hbb7X)
  have hBK := HBg.out.below hbb7X HBg.out.lt
  have hBQ := HBq.out.below hbb7X HBq.out.lt
  have kP : ∀ w', BB wX w' → w'.cell? ⟨Bg, 0, none⟩ = some (.slice ra rl rc) := fun w' hb => (BB.cell hb hBK.lt).trans (hBK.cell 0)
  have kQ : ∀ w', BB wX w' → w'.cell? ⟨Bg, 1, none⟩ = some (.slice qa ql qc) := fun w' hb => (BB.cell hb hBK.lt).trans (hBK.cell 1)
  have kG : ∀ w', BB wX w' → w'.cell? ⟨Bg, 2, none⟩ = some (.slice ga gl gc) := fun w' hb => (BB.cell hb hBK.lt).trans (hBK.cell 2)
  have kH : ∀ w', BB wX w' → w'.cell? ⟨Bg, 3, none⟩ = some (.slice ja jl jc) := fun w' hb => (BB.cell hb hBK.lt).trans (hBK.cell 3)
  have kq : ∀ w', BB wX w' → w'.cell? ⟨Bg + 1, 0, none⟩ = some (.slice ma ml mc) := fun w' hb => (BB.cell hb hBQ.lt).trans (hBQ.cell 0)
  have kX0 : ∀ w', BB wX w' → w'.cell? ⟨X, 0, none⟩ = some (.slice xa xl xc) := fun w' hb => (BB.cell hb hBx.lt).trans (hBx.cell 0)
  have kX1 : ∀ w', BB wX w' → w'.cell? ⟨X, 1, none⟩ = some (.slice ya yl yc) := fun w' hb => (BB.cell hb hBx.lt).trans (hBx.cell 1)
  have HBG : Hid (∀ w', BB wX w' → BG w' (.agg #[.slice ra rl rc, .slice qa ql qc, .slice ga gl gc, .slice ja jl jc]) (gP k) (gQ k) (gG k) (gH k)) := fun w' h => ⟨ra, rl, rc, qa, ql, qc, ga, gl, gc, ja, jl, jc, rfl, (HV4.out.1.below hbb4X).below h, (HV4.out.2.1.below hbb4X).below h, (HV4.out.2.2.1.below hbb4X).below h, (HV4.out.2.2.2.below hbb4X).below h⟩
  clear hBK hBQ hBx hbb4X hbb7X hbb7 HV4 HB4 HG4 HM7 HBg HBq
  by_cases hxy : x < gQ k ∧ y < gQ k
  · have HXY := Lib.hid hxy
    have d1 : decide (0 ≤ cmpNat x (gQ k)) = false := decide_eq_false fun h => by have := (cmp_ge_iff _ _).1 h; omega
    have d2 : decide (0 ≤ cmpNat y (gQ k)) = false := decide_eq_false fun h => by have := (cmp_ge_iff _ _).1 h; omega
    refine (dbytes_any g _ _ _ _ _ xa xl xc x ya yl yc y wX HG.out HX.out HY.out (by rw [HNB.out]; exact HN2.out.1) hxy.1 hxy.2).mono ?_
    rw [HNB.out]
    rintro e w11 ⟨bv, rfl, hbv, hb11⟩
    have hbb11 : BB wX w11 := hb11
    obtain ⟨ba, bc, rfl, hb1, hb2, hb3, hb4, hb5⟩ := hbv
    obtain ⟨L, hL⟩ : ∃ L, (be nb x ++ be nb y).length = L := ⟨_, rfl⟩
    have hL2 : L = 2 * nb := by rw [← hL, List.length_append, be_length, be_length]; omega
    have HBV0 : Hid (RB w11 (.slice ba L bc) (be nb x ++ be nb y)) := ⟨ba, bc, by rw [hL], hb1, hb2, hb3, hb4, hb5⟩
    rw [hL] at hb1 ⊢
    have HL2 := Lib.hid hL2
    have HRC0 : Hid (RdC w11 ba ((be nb x ++ be nb y).map by8)) := RdC.of_rd hb4
    have c0 := kX0 w11 hbb11
    have cq := kq w11 hbb11
    clear hb11 hL hL2 hb2 hb3 hb4 hb5 hxy
    go_wp2_with fail
    refine (cmp_s xa ma xl xc ml mc x (gQ k) w11 (HX.out.below hbb11) (HM.out.below hbb11)).mono ?_
    rintro e w12 ⟨rfl, hb12⟩
    have hbb12 : BB wX w12 := BB.step hbb11 hb12
    have c1 := kX1 w12 hbb12
    have cq2 := kq w12 hbb12
    go_wp2_with fail
    refine (cmp_s ya ma yl yc ml mc y (gQ k) w12 (HY.out.below hbb12) (HM.out.below hbb12)).mono ?_
    rintro e w13 ⟨rfl, hb13⟩
    have hbb13 : BB wX w13 := BB.step hbb12 hb13
    have HRC : Hid (RdC w13 ba ((be nb x ++ be nb y).map by8)) := (HRC0.out.below hb12).below hb13
    have HBV1 := Lib.hid ((HBV0.out.below hb12).below hb13)
    clear hb12 hb13 hbb12 hbb11 c0 c1 cq cq2 HRC0 HBV0
    go_wp2_with fail
    refine (dof_any g _ _ _ _ _ ba L bc nb x y w13 (HG.out.below hbb13) HNB.out HN2.out.1 HN2.out.2 HRC.out HL2.out (by omega) (HNB.out ▸ lt_nb HXY.out.1) (HNB.out ▸ lt_nb HXY.out.2)).mono ?_
    rintro e w14 ⟨hy1, _⟩
    obtain ⟨y1, y2, y3, y4, y5, y6, rfl, hY1, hY2, hb14⟩ := hy1 HXY.out
    obtain ⟨Y, hYs⟩ : ∃ Y, Y = w14.heap.size := ⟨_, rfl⟩
    have hby := (Below.refl _ w14).alloc (Nat.le_refl _) (Obj.cells #[Value.slice y1 y2 y3, Value.slice y4 y5 y6] 90)
    have hBy : Blk (w14.alloc (Obj.cells #[Value.slice y1 y2 y3, Value.slice y4 y5 y6] 90)) Y 90 [.slice y1 y2 y3, .slice y4 y5 y6] := Blk.new' w14 _ _ Y hYs
    have hbR : BB wX (w14.alloc (Obj.cells #[Value.slice y1 y2 y3, Value.slice y4 y5 y6] 90)) := BB.step (BB.step hbb13 hb14) hby
    have HY1 := Lib.hid (hY1.below hby)
    have HY2 := Lib.hid (hY2.below hby)
    have HBV := Lib.hid ((HBV1.out.below hb14).below hby)
    have HYs := Lib.hid hYs
    clear hy1 hY1 hY2 hby hb14 hbb13 HBV1 HRC hYs
    go_wp2_with fail
    rw [← HYs.out]
    generalize w14.alloc (Obj.cells #[Value.slice y1 y2 y3, Value.slice y4 y5 y6] 90) = wR at hBy hbR HY1 HY2 HBV ⊢
    have kY0 : ∀ w', BB wR w' → w'.cell? ⟨Y, 0, none⟩ = some (.slice y1 y2 y3) := fun w' hb => (BB.cell hb hBy.lt).trans (hBy.cell 0)
    have kY1 : ∀ w', BB wR w' → w'.cell? ⟨Y, 1, none⟩ = some (.slice y4 y5 y6) := fun w' hb => (BB.cell hb hBy.lt).trans (hBy.cell 1)
    clear hBy
    refine wp_region_mix (fun _ w' => BB wR w') (GF (tabB13 (.int .i64 0) (.bool false) (.bool false) (.int .i64 0) (.bool false) (.bool false) (.bool false) (.slice ba L bc) (.string (strB (be nb x ++ be nb y))) (.agg #[.slice ra rl rc, .slice qa ql qc, .slice ga gl gc, .slice ja jl jc]) (.agg #[.slice xa xl xc, .slice ya yl yc]) (Fk.rel (fun v w => IsPairB x y v w) (fun _ _ _ hb h => (by obtain ⟨a, l, c, a2, l2, c2, e, h1, h2⟩ := h; exact ⟨a, l, c, a2, l2, c2, e, h1.below hb, h2.below hb⟩))) (Fk.rel (fun v w => RB w v (be nb x ++ be nb y)) (fun _ _ _ hb h => h.below hb)) (.string (strB (be nb x ++ be nb y))) (.bool false) (.bool false) (.bool false) (.pointer (some ⟨Y, 0, none⟩)) (.agg #[.slice y1 y2 y3]) (.pointer (some ⟨X, 0, none⟩)) (.agg #[.slice xa xl xc]) (.int .i64 0) (.bool false) (.bool false) (.bool false) (.pointer (some ⟨Y, 1, none⟩)) (.agg #[.slice y4 y5 y6]) (.pointer (some ⟨X, 1, none⟩)) (.agg #[.slice ya yl yc]) (.int .i64 0) (.bool false) (.bool false))) maskB13 dstB13 preB13 (by kernel_rfl) (by kernel_rfl) rfl (by kernel_rfl) (by kernel_rfl) (by kernel_rfl) (by kernel_rfl) (BB.drew (BB.refl _)) ?_ ?_
    · refine StepsM.cons (fun l g' wu hB hl hn hp K hK => ?_) ?_
      · simp only [mkM, maskB13, mixM, Nat.reduceAdd] at hK ⊢; simp only [Act.put, List.setIfInBounds_toArray, List.set_cons_zero, List.set_cons_succ] at hK; go_simp; exact hK.out _ _ hB GF.same rfl
      refine StepsM.cons (fun l g' wu hB hl hn hp K hK => ?_) ?_
      · have e0 : g' 78 = .int .i64 0 := (hp 0 (by decide)).2; simp only [mkM, maskB13, mixM, Nat.reduceAdd, e0] at hK ⊢; clear e0; simp only [Act.put, List.setIfInBounds_toArray, List.set_cons_zero, List.set_cons_succ] at hK; go_simp; exact hK.out _ _ hB GF.same rfl
      refine StepsM.cons (fun l g' wu hB hl hn hp K hK => ?_) ?_
      · have e1 : g' 79 = .bool false := (hp 1 (by decide)).2; simp only [mkM, maskB13, mixM, Nat.reduceAdd, e1] at hK ⊢; clear e1; simp only [Act.put, List.setIfInBounds_toArray, List.set_cons_zero, List.set_cons_succ] at hK; go_simp; exact hK.out _ _ hB GF.same rfl
      refine StepsM.cons (fun l g' wu hB hl hn hp K hK => ?_) ?_
      · have e2 : g' 80 = .bool false := (hp 2 (by decide)).2; simp only [mkM, maskB13, mixM, Nat.reduceAdd, e2] at hK ⊢; clear e2; simp only [Act.put, List.setIfInBounds_toArray, List.set_cons_zero, List.set_cons_succ] at hK; go_simp; exact hK.out _ _ hB GF.same rfl
      refine StepsM.cons (fun l g' wu hB hl hn hp K hK => ?_) ?_
      · have e3 : g' 81 = .int .i64 0 := (hp 3 (by decide)).2; have e2 : g' 80 = .bool false := (hp 2 (by decide)).2; simp only [mkM, maskB13, mixM, Nat.reduceAdd, e3, e2] at hK ⊢; clear e3 e2; simp only [Act.put, List.setIfInBounds_toArray, List.set_cons_zero, List.set_cons_succ] at hK; go_simp; exact hK.out _ _ hB GF.same rfl
      refine StepsM.cons (fun l g' wu hB hl hn hp K hK => ?_) ?_
      · have e2 : g' 80 = .bool false := (hp 2 (by decide)).2; have e4 : g' 82 = .bool false := (hp 4 (by decide)).2; simp only [mkM, maskB13, mixM, Nat.reduceAdd, e2, e4] at hK ⊢; clear e2 e4; simp only [Act.put, List.setIfInBounds_toArray, List.set_cons_zero, List.set_cons_succ] at hK; go_simp; exact hK.out _ _ hB GF.same rfl
      refine StepsM.cons (fun l g' wu hB hl hn hp K hK => ?_) ?_
      · have e5 : g' 83 = .bool false := (hp 5 (by decide)).2; simp only [mkM, maskB13, mixM, Nat.reduceAdd, e5] at hK ⊢; clear e5; simp only [Act.put, List.setIfInBounds_toArray, List.set_cons_zero, List.set_cons_succ] at hK; go_simp; exact hK.out _ _ hB GF.same rfl
      refine StepsM.cons (fun l g' wu hB hl hn hp K hK => ?_) ?_
      · have e6 : g' 84 = .bool false := (hp 6 (by decide)).2; simp only [mkM, maskB13, mixM, Nat.reduceAdd, e6] at hK ⊢; clear e6; simp only [Act.put, List.setIfInBounds_toArray, List.set_cons_zero, List.set_cons_succ] at hK; go_simp; exact hK.out _ _ hB GF.same rfl
      refine StepsM.cons (fun l g' wu hB hl hn hp K hK => ?_) ?_
      · have hbb := hB; have e7 : g' 85 = .slice ba L bc := (hp 7 (by decide)).2; have e6 : g' 84 = .bool false := (hp 6 (by decide)).2; have cv := rb_str (HBV.out.below hbb); simp only [mkM, maskB13, mixM, Nat.reduceAdd, e7, e6] at hK ⊢; clear e7 e6; simp only [Act.put, List.setIfInBounds_toArray, List.set_cons_zero, List.set_cons_succ] at hK; go_simp; exact hK.out _ _ hB GF.same rfl
      refine StepsM.cons (fun l g' wu hB hl hn hp K hK => ?_) ?_
      · have hbb := hB; have e6 : g' 84 = .bool false := (hp 6 (by decide)).2; have c0 := kP _ (BB.step hbR hbb); have c1 := kQ _ (BB.step hbR hbb); have c2 := kG _ (BB.step hbR hbb); have c3 := kH _ (BB.step hbR hbb); simp only [mkM, maskB13, mixM, Nat.reduceAdd, e6] at hK ⊢; clear e6; simp only [Act.put, List.setIfInBounds_toArray, List.set_cons_zero, List.set_cons_succ] at hK; go_simp; exact hK.out _ _ hB GF.same rfl
      refine StepsM.cons (fun l g' wu hB hl hn hp K hK => ?_) ?_
      · have hbb := hB; have e6 : g' 84 = .bool false := (hp 6 (by decide)).2; have c0 := kX0 _ (BB.step hbR hbb); have c1 := kX1 _ (BB.step hbR hbb); simp only [mkM, maskB13, mixM, Nat.reduceAdd, e6] at hK ⊢; clear e6; simp only [Act.put, List.setIfInBounds_toArray, List.set_cons_zero, List.set_cons_succ] at hK; go_simp; exact hK.out _ _ hB GF.same rfl
      refine StepsM.cons (fun l g' wu hB hl hn hp K hK => ?_) ?_
      · have hbb := hB; have e10 : g' 88 = .agg #[.slice xa xl xc, .slice ya yl yc] := (hp 10 (by decide)).2; have e6 : g' 84 = .bool false := (hp 6 (by decide)).2; simp only [mkM, maskB13, mixM, Nat.reduceAdd, e10, e6] at hK ⊢; clear e10 e6; simp only [Act.put, List.setIfInBounds_toArray, List.set_cons_zero, List.set_cons_succ] at hK; go_simp; go_at_call 72; refine (of14_any xa xl xc x ya yl yc y _ (HX.out.below (BB.step hbR hbb)) (HY.out.below (BB.step hbR hbb)) HXX.out.1 HXX.out.2).mono ?_; rintro e w7 ⟨t1, t2, t3, t4, t5, t6, rfl, h1, h2, hb⟩; go_wp2_with fail; exact hK.out _ _ (BB.step hbb hb) (GF.below hb) ⟨t1, t2, t3, t4, t5, t6, rfl, h1, h2⟩
      refine StepsM.cons (fun l g' wu hB hl hn hp K hK => ?_) ?_
      · have hbb := hB; have e9 : g' 87 = .agg #[.slice ra rl rc, .slice qa ql qc, .slice ga gl gc, .slice ja jl jc] := (hp 9 (by decide)).2; have h11 : IsPairB x y (g' 89) wu := (hp 11 (by decide)).2; have e6 : g' 84 = .bool false := (hp 6 (by decide)).2; obtain ⟨t1, t2, t3, t4, t5, t6, ez, h1, h2⟩ := h11; simp only [mkM, maskB13, mixM, Nat.reduceAdd, e9, e6, ez] at hK ⊢; clear e9 e6; simp only [Act.put, List.setIfInBounds_toArray, List.set_cons_zero, List.set_cons_succ] at hK; go_simp; go_at_call 71; refine (bby14_any _ _ _ (gP k) (gQ k) (gG k) (gH k) x y nb _ (HBG.out _ (BB.step hbR hbb)) h1 h2 HNB.out HN2.out.1 HXY.out.1 HXY.out.2).mono ?_; rintro e w7 ⟨z, rfl, hz, hb⟩; go_wp2_with fail; exact hK.out _ _ (BB.step hbb hb) (GF.below hb) hz
      refine StepsM.cons (fun l g' wu hB hl hn hp K hK => ?_) ?_
      · have h12 : RB wu (g' 90) (be nb x ++ be nb y) := (hp 12 (by decide)).2; have e6 : g' 84 = .bool false := (hp 6 (by decide)).2; have cv := rb_str h12; simp only [mkM, maskB13, mixM, Nat.reduceAdd, e6] at hK ⊢; clear e6; simp only [Act.put, List.setIfInBounds_toArray, List.set_cons_zero, List.set_cons_succ] at hK; go_simp; exact hK.out _ _ hB GF.same rfl
      refine StepsM.cons (fun l g' wu hB hl hn hp K hK => ?_) ?_
      · have e8 : g' 86 = .string (strB (be nb x ++ be nb y)) := (hp 8 (by decide)).2; have e13 : g' 91 = .string (strB (be nb x ++ be nb y)) := (hp 13 (by decide)).2; have e6 : g' 84 = .bool false := (hp 6 (by decide)).2; simp only [mkM, maskB13, mixM, Nat.reduceAdd, e8, e13, e6] at hK ⊢; clear e8 e13 e6; simp only [Act.put, List.setIfInBounds_toArray, List.set_cons_zero, List.set_cons_succ] at hK; go_simp; exact hK.out _ _ hB GF.same rfl
      refine StepsM.cons (fun l g' wu hB hl hn hp K hK => ?_) ?_
      · have e6 : g' 84 = .bool false := (hp 6 (by decide)).2; have e14 : g' 92 = .bool false := (hp 14 (by decide)).2; simp only [mkM, maskB13, mixM, Nat.reduceAdd, e6, e14] at hK ⊢; clear e6 e14; simp only [Act.put, List.setIfInBounds_toArray, List.set_cons_zero, List.set_cons_succ] at hK; go_simp; exact hK.out _ _ hB GF.same rfl
      refine StepsM.cons (fun l g' wu hB hl hn hp K hK => ?_) ?_
      · have e15 : g' 93 = .bool false := (hp 15 (by decide)).2; simp only [mkM, maskB13, mixM, Nat.reduceAdd, e15] at hK ⊢; clear e15; simp only [Act.put, List.setIfInBounds_toArray, List.set_cons_zero, List.set_cons_succ] at hK; go_simp; exact hK.out _ _ hB GF.same rfl
      refine StepsM.cons (fun l g' wu hB hl hn hp K hK => ?_) ?_
      · have e16 : g' 94 = .bool false := (hp 16 (by decide)).2; simp only [mkM, maskB13, mixM, Nat.reduceAdd, e16] at hK ⊢; clear e16; simp only [Act.put, List.setIfInBounds_toArray, List.set_cons_zero, List.set_cons_succ] at hK; go_simp; exact hK.out _ _ hB GF.same rfl
      refine StepsM.cons (fun l g' wu hB hl hn hp K hK => ?_) ?_
      · have hbb := hB; have e17 : g' 95 = .pointer (some ⟨Y, 0, none⟩) := (hp 17 (by decide)).2; have e16 : g' 94 = .bool false := (hp 16 (by decide)).2; have c0 := kY0 _ hbb; simp only [mkM, maskB13, mixM, Nat.reduceAdd, e17, e16] at hK ⊢; clear e17 e16; simp only [Act.put, List.setIfInBounds_toArray, List.set_cons_zero, List.set_cons_succ] at hK; go_simp; exact hK.out _ _ hB GF.same rfl
      refine StepsM.cons (fun l g' wu hB hl hn hp K hK => ?_) ?_
      · have e16 : g' 94 = .bool false := (hp 16 (by decide)).2; simp only [mkM, maskB13, mixM, Nat.reduceAdd, e16] at hK ⊢; clear e16; simp only [Act.put, List.setIfInBounds_toArray, List.set_cons_zero, List.set_cons_succ] at hK; go_simp; exact hK.out _ _ hB GF.same rfl
      refine StepsM.cons (fun l g' wu hB hl hn hp K hK => ?_) ?_
      · have hbb := hB; have e19 : g' 97 = .pointer (some ⟨X, 0, none⟩) := (hp 19 (by decide)).2; have e16 : g' 94 = .bool false := (hp 16 (by decide)).2; have c0 := kX0 _ (BB.step hbR hbb); simp only [mkM, maskB13, mixM, Nat.reduceAdd, e19, e16] at hK ⊢; clear e19 e16; simp only [Act.put, List.setIfInBounds_toArray, List.set_cons_zero, List.set_cons_succ] at hK; go_simp; exact hK.out _ _ hB GF.same rfl
      refine StepsM.cons (fun l g' wu hB hl hn hp K hK => ?_) ?_
      · have hbb := hB; have e18 : g' 96 = .agg #[.slice y1 y2 y3] := (hp 18 (by decide)).2; have e20 : g' 98 = .agg #[.slice xa xl xc] := (hp 20 (by decide)).2; have e16 : g' 94 = .bool false := (hp 16 (by decide)).2; simp only [mkM, maskB13, mixM, Nat.reduceAdd, e18, e20, e16] at hK ⊢; clear e18 e20 e16; simp only [Act.put, List.setIfInBounds_toArray, List.set_cons_zero, List.set_cons_succ] at hK; go_simp; go_at_call 25; refine (cmp_s y1 xa y2 y3 xl xc x x _ (HY1.out.below hbb) (HX.out.below (BB.step hbR hbb))).mono ?_; rw [cmp_self]; rintro e w7 ⟨rfl, hb⟩; go_wp2_with fail; exact hK.out _ _ (BB.step hbb hb) (GF.below hb) rfl
      refine StepsM.cons (fun l g' wu hB hl hn hp K hK => ?_) ?_
      · have e21 : g' 99 = .int .i64 0 := (hp 21 (by decide)).2; have e16 : g' 94 = .bool false := (hp 16 (by decide)).2; simp only [mkM, maskB13, mixM, Nat.reduceAdd, e21, e16] at hK ⊢; clear e21 e16; simp only [Act.put, List.setIfInBounds_toArray, List.set_cons_zero, List.set_cons_succ] at hK; go_simp; exact hK.out _ _ hB GF.same rfl
      refine StepsM.cons (fun l g' wu hB hl hn hp K hK => ?_) ?_
      · have e16 : g' 94 = .bool false := (hp 16 (by decide)).2; have e22 : g' 100 = .bool false := (hp 22 (by decide)).2; simp only [mkM, maskB13, mixM, Nat.reduceAdd, e16, e22] at hK ⊢; clear e16 e22; simp only [Act.put, List.setIfInBounds_toArray, List.set_cons_zero, List.set_cons_succ] at hK; go_simp; exact hK.out _ _ hB GF.same rfl
      refine StepsM.cons (fun l g' wu hB hl hn hp K hK => ?_) ?_
      · have e23 : g' 101 = .bool false := (hp 23 (by decide)).2; simp only [mkM, maskB13, mixM, Nat.reduceAdd, e23] at hK ⊢; clear e23; simp only [Act.put, List.setIfInBounds_toArray, List.set_cons_zero, List.set_cons_succ] at hK; go_simp; exact hK.out _ _ hB GF.same rfl
      refine StepsM.cons (fun l g' wu hB hl hn hp K hK => ?_) ?_
      · have e24 : g' 102 = .bool false := (hp 24 (by decide)).2; simp only [mkM, maskB13, mixM, Nat.reduceAdd, e24] at hK ⊢; clear e24; simp only [Act.put, List.setIfInBounds_toArray, List.set_cons_zero, List.set_cons_succ] at hK; go_simp; exact hK.out _ _ hB GF.same rfl
      refine StepsM.cons (fun l g' wu hB hl hn hp K hK => ?_) ?_
      · have hbb := hB; have e25 : g' 103 = .pointer (some ⟨Y, 1, none⟩) := (hp 25 (by decide)).2; have e24 : g' 102 = .bool false := (hp 24 (by decide)).2; have c0 := kY1 _ hbb; simp only [mkM, maskB13, mixM, Nat.reduceAdd, e25, e24] at hK ⊢; clear e25 e24; simp only [Act.put, List.setIfInBounds_toArray, List.set_cons_zero, List.set_cons_succ] at hK; go_simp; exact hK.out _ _ hB GF.same rfl
      refine StepsM.cons (fun l g' wu hB hl hn hp K hK => ?_) ?_
      · have e24 : g' 102 = .bool false := (hp 24 (by decide)).2; simp only [mkM, maskB13, mixM, Nat.reduceAdd, e24] at hK ⊢; clear e24; simp only [Act.put, List.setIfInBounds_toArray, List.set_cons_zero, List.set_cons_succ] at hK; go_simp; exact hK.out _ _ hB GF.same rfl
      refine StepsM.cons (fun l g' wu hB hl hn hp K hK => ?_) ?_
      · have hbb := hB; have e27 : g' 105 = .pointer (some ⟨X, 1, none⟩) := (hp 27 (by decide)).2; have e24 : g' 102 = .bool false := (hp 24 (by decide)).2; have c0 := kX1 _ (BB.step hbR hbb); simp only [mkM, maskB13, mixM, Nat.reduceAdd, e27, e24] at hK ⊢; clear e27 e24; simp only [Act.put, List.setIfInBounds_toArray, List.set_cons_zero, List.set_cons_succ] at hK; go_simp; exact hK.out _ _ hB GF.same rfl
      refine StepsM.cons (fun l g' wu hB hl hn hp K hK => ?_) ?_
      · have hbb := hB; have e26 : g' 104 = .agg #[.slice y4 y5 y6] := (hp 26 (by decide)).2; have e28 : g' 106 = .agg #[.slice ya yl yc] := (hp 28 (by decide)).2; have e24 : g' 102 = .bool false := (hp 24 (by decide)).2; simp only [mkM, maskB13, mixM, Nat.reduceAdd, e26, e28, e24] at hK ⊢; clear e26 e28 e24; simp only [Act.put, List.setIfInBounds_toArray, List.set_cons_zero, List.set_cons_succ] at hK; go_simp; go_at_call 25; refine (cmp_s y4 ya y5 y6 yl yc y y _ (HY2.out.below hbb) (HY.out.below (BB.step hbR hbb))).mono ?_; rw [cmp_self]; rintro e w7 ⟨rfl, hb⟩; go_wp2_with fail; exact hK.out _ _ (BB.step hbb hb) (GF.below hb) rfl
      refine StepsM.cons (fun l g' wu hB hl hn hp K hK => ?_) ?_
      · have e29 : g' 107 = .int .i64 0 := (hp 29 (by decide)).2; have e24 : g' 102 = .bool false := (hp 24 (by decide)).2; simp only [mkM, maskB13, mixM, Nat.reduceAdd, e29, e24] at hK ⊢; clear e29 e24; simp only [Act.put, List.setIfInBounds_toArray, List.set_cons_zero, List.set_cons_succ] at hK; go_simp; exact hK.out _ _ hB GF.same rfl
      refine StepsM.cons (fun l g' wu hB hl hn hp K hK => ?_) ?_
      · have e24 : g' 102 = .bool false := (hp 24 (by decide)).2; have e30 : g' 108 = .bool false := (hp 30 (by decide)).2; simp only [mkM, maskB13, mixM, Nat.reduceAdd, e24, e30] at hK ⊢; clear e24 e30; simp only [Act.put, List.setIfInBounds_toArray, List.set_cons_zero, List.set_cons_succ] at hK; go_simp; exact hK.out _ _ hB GF.same rfl
      exact StepsM.nil
    · intro l g' wu hall hB hG
      have e31 : g' 109 = .bool false := hG 31 (by decide)
      simp only [mkM, maskB13, mixM, Nat.reduceAdd, e31]
      have hbt : BB wX wu := BB.step hbR hB
      clear hG hall hB e31
      go_wp2_with fail
      refine (dof_all g _ _ _ _ _ a len cap nb bs wu (HG.out.below hbt) HNB.out HN2.out.1 HN2.out.2 (HA.out.1.below (HBX.out.trans (Below.mono hbt HBX.out.size))) HA.out.2.2.2.1 HA.out.2.1 HA.out.2.2.1).mono ?_
      rintro e wu (⟨rfl, hbu⟩ | ⟨n1, n2, hn1, hn2, hbs, z1, z2, z3, z4, z5, z6, rfl, hN1, hN2, hbu⟩)
      · have hbu2 : BB wX wu := BB.step hbt hbu
        obtain ⟨S, hSs⟩ : ∃ S, S = wu.heap.size := ⟨_, rfl⟩
        have hbs1 := (Below.refl _ wu).alloc (Nat.le_refl _) (Obj.cells #[Value.slice none 0 0, Value.slice none 0 0] 90)
        have HBS : Hid (Blk (wu.alloc (Obj.cells #[Value.slice none 0 0, Value.slice none 0 0] 90)) S 90 [.slice none 0 0, .slice none 0 0]) := Blk.new' wu _ _ S hSs
        have hbb2 : BB wX (wu.alloc (Obj.cells #[Value.slice none 0 0, Value.slice none 0 0] 90)) := BB.step hbu2 hbs1
        have HSs := Lib.hid hSs
        clear hbu hbt hbu2 hbs1 hSs
        go_wp2_with fail
        rw [← HSs.out]
        generalize wu.alloc (Obj.cells #[Value.slice none 0 0, Value.slice none 0 0] 90) = w2u at HBS hbb2 ⊢
        refine (dof_nil a len cap w2u).mono ?_
        rintro e wv ⟨rfl, hbv⟩
        have hbb3 : BB wX (wv.alloc (Obj.cells #[Value.slice none 0 0, Value.slice none 0 0] 90)) := BB.step (BB.step hbb2 hbv) ((Below.refl _ wv).alloc (Nat.le_refl _) _)
        have HBS3 : Hid (Blk (wv.alloc (Obj.cells #[Value.slice none 0 0, Value.slice none 0 0] 90)) S 90 [.slice none 0 0, .slice none 0 0]) := (HBS.out.below hbv HBS.out.lt).alloc _
        have q0 := kX0 _ hbb3
        have q1 := kX1 _ hbb3
        clear hbv
        go_wp2_with fail
        clear q0 q1
        generalize wv.alloc (Obj.cells #[Value.slice none 0 0, Value.slice none 0 0] 90) = w3v at HBS3 hbb3 ⊢
        refine (dbytes_nil xa xl xc ya yl yc w3v).mono ?_
        rintro e wz ⟨rfl, hbz⟩
        have hBz := HBS3.out.below hbz HBS3.out.lt
        have HBZ := Lib.hid (HBX.out.trans (Below.mono (BB.step hbb3 hbz) HBX.out.size))
        have HBz := Lib.hid hBz
        have q0 := hBz.cell 0
        simp only [List.getElem?_cons_zero, List.getElem?_cons_succ] at q0
        clear hbz hBz
        go_wp2_with fail
        refine (zero_s none 0 0 0 wz (natS_nil _)).mono ?_
        rintro e wy ⟨rfl, hby⟩
        have hBy := HBz.out.below hby HBz.out.lt
        have HBY := Lib.hid (HBZ.out.trans (hby.mono HBZ.out.size))
        have q1 := hBy.cell 1
        simp only [List.getElem?_cons_zero, List.getElem?_cons_succ] at q1
        clear hby hBy
        go_wp2_with fail
        refine (zero_s none 0 0 0 wy (natS_nil _)).mono ?_
        rintro e wx ⟨rfl, hbx⟩
        have HBE := Lib.hid (HBY.out.trans (hbx.mono HBY.out.size))
        clear hbx
        go_wp2_with fail
        go_ret
        exact ⟨rfl, HBE.out⟩
      · have hbu2 : BB wX wu := BB.step hbt hbu
        obtain ⟨S, hSs⟩ : ∃ S, S = wu.heap.size := ⟨_, rfl⟩
        have hbs1 := (Below.refl _ wu).alloc (Nat.le_refl _) (Obj.cells #[Value.slice z1 z2 z3, Value.slice z4 z5 z6] 90)
        have HBS : Hid (Blk (wu.alloc (Obj.cells #[Value.slice z1 z2 z3, Value.slice z4 z5 z6] 90)) S 90 [.slice z1 z2 z3, .slice z4 z5 z6]) := Blk.new' wu _ _ S hSs
        have hbb2 : BB wX (wu.alloc (Obj.cells #[Value.slice z1 z2 z3, Value.slice z4 z5 z6] 90)) := BB.step hbu2 hbs1
        have HN1 := Lib.hid (hN1.below hbs1)
        have HM1 := Lib.hid (hN2.below hbs1)
        have HSs := Lib.hid hSs
        have HNN := Lib.hid (And.intro hn1 (And.intro hn2 hbs))
        clear hbu hbt hbu2 hbs1 hSs hN1 hN2 hn1 hn2 hbs
        go_wp2_with fail
        rw [← HSs.out]
        generalize wu.alloc (Obj.cells #[Value.slice z1 z2 z3, Value.slice z4 z5 z6] 90) = w2u at HBS hbb2 HN1 HM1 ⊢
        refine (dof_nil a len cap w2u).mono ?_
        rintro e wv ⟨rfl, hbv⟩
        have hbv2 : BB w2u (wv.alloc (Obj.cells #[Value.slice none 0 0, Value.slice none 0 0] 90)) := BB.step hbv ((Below.refl _ wv).alloc (Nat.le_refl _) _)
        have hbb3 : BB wX (wv.alloc (Obj.cells #[Value.slice none 0 0, Value.slice none 0 0] 90)) := BB.step hbb2 hbv2
        have HBS3 : Hid (Blk (wv.alloc (Obj.cells #[Value.slice none 0 0, Value.slice none 0 0] 90)) S 90 [.slice z1 z2 z3, .slice z4 z5 z6]) := HBS.out.below hbv2 HBS.out.lt
        have HN3 := Lib.hid (HN1.out.below hbv2)
        have HM3 := Lib.hid (HM1.out.below hbv2)
        have q0 := kX0 _ hbb3
        have q1 := kX1 _ hbb3
        clear hbv hbv2
        go_wp2_with fail
        clear q0 q1
        generalize wv.alloc (Obj.cells #[Value.slice none 0 0, Value.slice none 0 0] 90) = w3v at HBS3 hbb3 HN3 HM3 ⊢
        refine (dbytes_nil xa xl xc ya yl yc w3v).mono ?_
        rintro e wz ⟨rfl, hbz⟩
        have hBz := HBS3.out.below hbz HBS3.out.lt
        have hbb4 : BB wX wz := BB.step hbb3 hbz
        have HN4 := Lib.hid (HN3.out.below hbz)
        have HM4 := Lib.hid (HM3.out.below hbz)
        have q0 := hBz.cell 0
        have q1 := hBz.cell 1
        simp only [List.getElem?_cons_zero, List.getElem?_cons_succ] at q0 q1
        clear hbz hBz
        go_wp2_with fail
        refine (dbytes_any g _ _ _ _ _ z1 z2 z3 n1 z4 z5 z6 n2 wz (HG.out.below hbb4) HN4.out HM4.out (by rw [HNB.out]; exact HN2.out.1) HNN.out.1 HNN.out.2.1).mono ?_
        rw [HNB.out, HNN.out.2.2]
        rintro e wy ⟨cv, rfl, hcv, hby⟩
        have hbb5 : BB wX wy := BB.step hbb4 hby
        have HBY := Lib.hid (HBX.out.trans (Below.mono hbb5 HBX.out.size))
        have s1 := rb_str hcv
        have s2 := rdc_str (cap := cap) (HA.out.1.below HBY.out) HA.out.2.2.2.2
        rw [HA.out.2.1] at s2
        clear hby hcv
        go_wp2_with fail
        go_ret
        exact ⟨by simp, HBY.out⟩
  · refine (dbytes_over g _ _ _ _ _ xa xl xc x ya yl yc y wX HG.out HX.out HY.out hxy).mono ?_
    rintro e w11 ⟨rfl, hb11⟩
    have hbb11 : BB wX w11 := hb11
    have c0 := kX0 w11 hbb11
    have cq := kq w11 hbb11
    clear hb11
    go_wp2_with fail
    refine (cmp_s xa ma xl xc ml mc x (gQ k) w11 (HX.out.below hbb11) (HM.out.below hbb11)).mono ?_
    rintro e w12 ⟨rfl, hb12⟩
    have hbb12 : BB wX w12 := BB.step hbb11 hb12
    by_cases hxq : x < gQ k
    · have d1 : decide (0 ≤ cmpNat x (gQ k)) = false := decide_eq_false fun h => by have := (cmp_ge_iff _ _).1 h; omega
      have d2 : decide (0 ≤ cmpNat y (gQ k)) = true := decide_eq_true ((cmp_ge_iff _ _).2 (by omega))
      have c1 := kX1 w12 hbb12
      have cq2 := kq w12 hbb12
      clear hb12 hxy hxq
      go_wp2_with fail
      refine (cmp_s ya ma yl yc ml mc y (gQ k) w12 (HY.out.below hbb12) (HM.out.below hbb12)).mono ?_
      rintro e w13 ⟨rfl, hb13⟩
      have hbt : BB wX w13 := BB.step hbb12 hb13
      clear hb13 hbb12 hbb11 c0 c1 cq cq2
      go_wp2_with fail
      refine (dof_all g _ _ _ _ _ a len cap nb bs w13 (HG.out.below hbt) HNB.out HN2.out.1 HN2.out.2 (HA.out.1.below (HBX.out.trans (Below.mono hbt HBX.out.size))) HA.out.2.2.2.1 HA.out.2.1 HA.out.2.2.1).mono ?_
      rintro e wu (⟨rfl, hbu⟩ | ⟨n1, n2, hn1, hn2, hbs, z1, z2, z3, z4, z5, z6, rfl, hN1, hN2, hbu⟩)
      · have hbu2 : BB wX wu := BB.step hbt hbu
        obtain ⟨S, hSs⟩ : ∃ S, S = wu.heap.size := ⟨_, rfl⟩
        have hbs1 := (Below.refl _ wu).alloc (Nat.le_refl _) (Obj.cells #[Value.slice none 0 0, Value.slice none 0 0] 90)
        have HBS : Hid (Blk (wu.alloc (Obj.cells #[Value.slice none 0 0, Value.slice none 0 0] 90)) S 90 [.slice none 0 0, .slice none 0 0]) := Blk.new' wu _ _ S hSs
        have hbb2 : BB wX (wu.alloc (Obj.cells #[Value.slice none 0 0, Value.slice none 0 0] 90)) := BB.step hbu2 hbs1
        have HSs := Lib.hid hSs
        clear hbu hbt hbu2 hbs1 hSs
        go_wp2_with fail
        rw [← HSs.out]
        generalize wu.alloc (Obj.cells #[Value.slice none 0 0, Value.slice none 0 0] 90) = w2u at HBS hbb2 ⊢
        refine (dof_nil a len cap w2u).mono ?_
        rintro e wv ⟨rfl, hbv⟩
        have hbb3 : BB wX (wv.alloc (Obj.cells #[Value.slice none 0 0, Value.slice none 0 0] 90)) := BB.step (BB.step hbb2 hbv) ((Below.refl _ wv).alloc (Nat.le_refl _) _)
        have HBS3 : Hid (Blk (wv.alloc (Obj.cells #[Value.slice none 0 0, Value.slice none 0 0] 90)) S 90 [.slice none 0 0, .slice none 0 0]) := (HBS.out.below hbv HBS.out.lt).alloc _
        have q0 := kX0 _ hbb3
        have q1 := kX1 _ hbb3
        clear hbv
        go_wp2_with fail
        clear q0 q1
        generalize wv.alloc (Obj.cells #[Value.slice none 0 0, Value.slice none 0 0] 90) = w3v at HBS3 hbb3 ⊢
        refine (dbytes_nil xa xl xc ya yl yc w3v).mono ?_
        rintro e wz ⟨rfl, hbz⟩
        have hBz := HBS3.out.below hbz HBS3.out.lt
        have HBZ := Lib.hid (HBX.out.trans (Below.mono (BB.step hbb3 hbz) HBX.out.size))
        have HBz := Lib.hid hBz
        have q0 := hBz.cell 0
        simp only [List.getElem?_cons_zero, List.getElem?_cons_succ] at q0
        clear hbz hBz
        go_wp2_with fail
        refine (zero_s none 0 0 0 wz (natS_nil _)).mono ?_
        rintro e wy ⟨rfl, hby⟩
        have hBy := HBz.out.below hby HBz.out.lt
        have HBY := Lib.hid (HBZ.out.trans (hby.mono HBZ.out.size))
        have q1 := hBy.cell 1
        simp only [List.getElem?_cons_zero, List.getElem?_cons_succ] at q1
        clear hby hBy
        go_wp2_with fail
        refine (zero_s none 0 0 0 wy (natS_nil _)).mono ?_
        rintro e wx ⟨rfl, hbx⟩
        have HBE := Lib.hid (HBY.out.trans (hbx.mono HBY.out.size))
        clear hbx
        go_wp2_with fail
        go_ret
        exact ⟨rfl, HBE.out⟩
      · have hbu2 : BB wX wu := BB.step hbt hbu
        obtain ⟨S, hSs⟩ : ∃ S, S = wu.heap.size := ⟨_, rfl⟩
        have hbs1 := (Below.refl _ wu).alloc (Nat.le_refl _) (Obj.cells #[Value.slice z1 z2 z3, Value.slice z4 z5 z6] 90)
        have HBS : Hid (Blk (wu.alloc (Obj.cells #[Value.slice z1 z2 z3, Value.slice z4 z5 z6] 90)) S 90 [.slice z1 z2 z3, .slice z4 z5 z6]) := Blk.new' wu _ _ S hSs
        have hbb2 : BB wX (wu.alloc (Obj.cells #[Value.slice z1 z2 z3, Value.slice z4 z5 z6] 90)) := BB.step hbu2 hbs1
        have HN1 := Lib.hid (hN1.below hbs1)
        have HM1 := Lib.hid (hN2.below hbs1)
        have HSs := Lib.hid hSs
        have HNN := Lib.hid (And.intro hn1 (And.intro hn2 hbs))
        clear hbu hbt hbu2 hbs1 hSs hN1 hN2 hn1 hn2 hbs
        go_wp2_with fail
        rw [← HSs.out]
        generalize wu.alloc (Obj.cells #[Value.slice z1 z2 z3, Value.slice z4 z5 z6] 90) = w2u at HBS hbb2 HN1 HM1 ⊢
        refine (dof_nil a len cap w2u).mono ?_
        rintro e wv ⟨rfl, hbv⟩
        have hbv2 : BB w2u (wv.alloc (Obj.cells #[Value.slice none 0 0, Value.slice none 0 0] 90)) := BB.step hbv ((Below.refl _ wv).alloc (Nat.le_refl _) _)
        have hbb3 : BB wX (wv.alloc (Obj.cells #[Value.slice none 0 0, Value.slice none 0 0] 90)) := BB.step hbb2 hbv2
        have HBS3 : Hid (Blk (wv.alloc (Obj.cells #[Value.slice none 0 0, Value.slice none 0 0] 90)) S 90 [.slice z1 z2 z3, .slice z4 z5 z6]) := HBS.out.below hbv2 HBS.out.lt
        have HN3 := Lib.hid (HN1.out.below hbv2)
        have HM3 := Lib.hid (HM1.out.below hbv2)
        have q0 := kX0 _ hbb3
        have q1 := kX1 _ hbb3
        clear hbv hbv2
        go_wp2_with fail
        clear q0 q1
        generalize wv.alloc (Obj.cells #[Value.slice none 0 0, Value.slice none 0 0] 90) = w3v at HBS3 hbb3 HN3 HM3 ⊢
        refine (dbytes_nil xa xl xc ya yl yc w3v).mono ?_
        rintro e wz ⟨rfl, hbz⟩
        have hBz := HBS3.out.below hbz HBS3.out.lt
        have hbb4 : BB wX wz := BB.step hbb3 hbz
        have HN4 := Lib.hid (HN3.out.below hbz)
        have HM4 := Lib.hid (HM3.out.below hbz)
        have q0 := hBz.cell 0
        have q1 := hBz.cell 1
        simp only [List.getElem?_cons_zero, List.getElem?_cons_succ] at q0 q1
        clear hbz hBz
        go_wp2_with fail
        refine (dbytes_any g _ _ _ _ _ z1 z2 z3 n1 z4 z5 z6 n2 wz (HG.out.below hbb4) HN4.out HM4.out (by rw [HNB.out]; exact HN2.out.1) HNN.out.1 HNN.out.2.1).mono ?_
        rw [HNB.out, HNN.out.2.2]
        rintro e wy ⟨cv, rfl, hcv, hby⟩
        have hbb5 : BB wX wy := BB.step hbb4 hby
        have HBY := Lib.hid (HBX.out.trans (Below.mono hbb5 HBX.out.size))
        have s1 := rb_str hcv
        have s2 := rdc_str (cap := cap) (HA.out.1.below HBY.out) HA.out.2.2.2.2
        rw [HA.out.2.1] at s2
        clear hby hcv
        go_wp2_with fail
        go_ret
        exact ⟨by simp, HBY.out⟩
    · have d1 : decide (0 ≤ cmpNat x (gQ k)) = true := decide_eq_true ((cmp_ge_iff _ _).2 (by omega))
      have hbt := hbb12
      clear hb12 hxy hxq hbb12 hbb11 c0 cq
      go_wp2_with fail
      refine (dof_all g _ _ _ _ _ a len cap nb bs w12 (HG.out.below hbt) HNB.out HN2.out.1 HN2.out.2 (HA.out.1.below (HBX.out.trans (Below.mono hbt HBX.out.size))) HA.out.2.2.2.1 HA.out.2.1 HA.out.2.2.1).mono ?_
      rintro e wu (⟨rfl, hbu⟩ | ⟨n1, n2, hn1, hn2, hbs, z1, z2, z3, z4, z5, z6, rfl, hN1, hN2, hbu⟩)
      · have hbu2 : BB wX wu := BB.step hbt hbu
        obtain ⟨S, hSs⟩ : ∃ S, S = wu.heap.size := ⟨_, rfl⟩
        have hbs1 := (Below.refl _ wu).alloc (Nat.le_refl _) (Obj.cells #[Value.slice none 0 0, Value.slice none 0 0] 90)
        have HBS : Hid (Blk (wu.alloc (Obj.cells #[Value.slice none 0 0, Value.slice none 0 0] 90)) S 90 [.slice none 0 0, .slice none 0 0]) := Blk.new' wu _ _ S hSs
        have hbb2 : BB wX (wu.alloc (Obj.cells #[Value.slice none 0 0, Value.slice none 0 0] 90)) := BB.step hbu2 hbs1
        have HSs := Lib.hid hSs
        clear hbu hbt hbu2 hbs1 hSs
        go_wp2_with fail
        rw [← HSs.out]
        generalize wu.alloc (Obj.cells #[Value.slice none 0 0, Value.slice none 0 0] 90) = w2u at HBS hbb2 ⊢
        refine (dof_nil a len cap w2u).mono ?_
        rintro e wv ⟨rfl, hbv⟩
        have hbb3 : BB wX (wv.alloc (Obj.cells #[Value.slice none 0 0, Value.slice none 0 0] 90)) := BB.step (BB.step hbb2 hbv) ((Below.refl _ wv).alloc (Nat.le_refl _) _)
        have HBS3 : Hid (Blk (wv.alloc (Obj.cells #[Value.slice none 0 0, Value.slice none 0 0] 90)) S 90 [.slice none 0 0, .slice none 0 0]) := (HBS.out.below hbv HBS.out.lt).alloc _
        have q0 := kX0 _ hbb3
        have q1 := kX1 _ hbb3
        clear hbv
        go_wp2_with fail
        clear q0 q1
        generalize wv.alloc (Obj.cells #[Value.slice none 0 0, Value.slice none 0 0] 90) = w3v at HBS3 hbb3 ⊢
        refine (dbytes_nil xa xl xc ya yl yc w3v).mono ?_
        rintro e wz ⟨rfl, hbz⟩
        have hBz := HBS3.out.below hbz HBS3.out.lt
        have HBZ := Lib.hid (HBX.out.trans (Below.mono (BB.step hbb3 hbz) HBX.out.size))
        have HBz := Lib.hid hBz
        have q0 := hBz.cell 0
        simp only [List.getElem?_cons_zero, List.getElem?_cons_succ] at q0
        clear hbz hBz
        go_wp2_with fail
        refine (zero_s none 0 0 0 wz (natS_nil _)).mono ?_
        rintro e wy ⟨rfl, hby⟩
        have hBy := HBz.out.below hby HBz.out.lt
        have HBY := Lib.hid (HBZ.out.trans (hby.mono HBZ.out.size))
        have q1 := hBy.cell 1
        simp only [List.getElem?_cons_zero, List.getElem?_cons_succ] at q1
        clear hby hBy
        go_wp2_with fail
        refine (zero_s none 0 0 0 wy (natS_nil _)).mono ?_
        rintro e wx ⟨rfl, hbx⟩
        have HBE := Lib.hid (HBY.out.trans (hbx.mono HBY.out.size))
        clear hbx
        go_wp2_with fail
        go_ret
        exact ⟨rfl, HBE.out⟩
      · have hbu2 : BB wX wu := BB.step hbt hbu
        obtain ⟨S, hSs⟩ : ∃ S, S = wu.heap.size := ⟨_, rfl⟩
        have hbs1 := (Below.refl _ wu).alloc (Nat.le_refl _) (Obj.cells #[Value.slice z1 z2 z3, Value.slice z4 z5 z6] 90)
        have HBS : Hid (Blk (wu.alloc (Obj.cells #[Value.slice z1 z2 z3, Value.slice z4 z5 z6] 90)) S 90 [.slice z1 z2 z3, .slice z4 z5 z6]) := Blk.new' wu _ _ S hSs
        have hbb2 : BB wX (wu.alloc (Obj.cells #[Value.slice z1 z2 z3, Value.slice z4 z5 z6] 90)) := BB.step hbu2 hbs1
        have HN1 := Lib.hid (hN1.below hbs1)
        have HM1 := Lib.hid (hN2.below hbs1)
        have HSs := Lib.hid hSs
        have HNN := Lib.hid (And.intro hn1 (And.intro hn2 hbs))
        clear hbu hbt hbu2 hbs1 hSs hN1 hN2 hn1 hn2 hbs
        go_wp2_with fail
        rw [← HSs.out]
        generalize wu.alloc (Obj.cells #[Value.slice z1 z2 z3, Value.slice z4 z5 z6] 90) = w2u at HBS hbb2 HN1 HM1 ⊢
        refine (dof_nil a len cap w2u).mono ?_
        rintro e wv ⟨rfl, hbv⟩
        have hbv2 : BB w2u (wv.alloc (Obj.cells #[Value.slice none 0 0, Value.slice none 0 0] 90)) := BB.step hbv ((Below.refl _ wv).alloc (Nat.le_refl _) _)
        have hbb3 : BB wX (wv.alloc (Obj.cells #[Value.slice none 0 0, Value.slice none 0 0] 90)) := BB.step hbb2 hbv2
        have HBS3 : Hid (Blk (wv.alloc (Obj.cells #[Value.slice none 0 0, Value.slice none 0 0] 90)) S 90 [.slice z1 z2 z3, .slice z4 z5 z6]) := HBS.out.below hbv2 HBS.out.lt
        have HN3 := Lib.hid (HN1.out.below hbv2)
        have HM3 := Lib.hid (HM1.out.below hbv2)
        have q0 := kX0 _ hbb3
        have q1 := kX1 _ hbb3
        clear hbv hbv2
        go_wp2_with fail
        clear q0 q1
        generalize wv.alloc (Obj.cells #[Value.slice none 0 0, Value.slice none 0 0] 90) = w3v at HBS3 hbb3 HN3 HM3 ⊢
        refine (dbytes_nil xa xl xc ya yl yc w3v).mono ?_
        rintro e wz ⟨rfl, hbz⟩
        have hBz := HBS3.out.below hbz HBS3.out.lt
        have hbb4 : BB wX wz := BB.step hbb3 hbz
        have HN4 := Lib.hid (HN3.out.below hbz)
        have HM4 := Lib.hid (HM3.out.below hbz)
        have q0 := hBz.cell 0
        have q1 := hBz.cell 1
        simp only [List.getElem?_cons_zero, List.getElem?_cons_succ] at q0 q1
        clear hbz hBz
        go_wp2_with fail
        refine (dbytes_any g _ _ _ _ _ z1 z2 z3 n1 z4 z5 z6 n2 wz (HG.out.below hbb4) HN4.out HM4.out (by rw [HNB.out]; exact HN2.out.1) HNN.out.1 HNN.out.2.1).mono ?_
        rw [HNB.out, HNN.out.2.2]
        rintro e wy ⟨cv, rfl, hcv, hby⟩
        have hbb5 : BB wX wy := BB.step hbb4 hby
        have HBY := Lib.hid (HBX.out.trans (Below.mono hbb5 HBX.out.size))
        have s1 := rb_str hcv
        have s2 := rdc_str (cap := cap) (HA.out.1.below HBY.out) HA.out.2.2.2.2
        rw [HA.out.2.1] at s2
        clear hby hcv
        go_wp2_with fail
        go_ret
        exact ⟨by simp, HBY.out⟩

/-- The same, as the frame asks it. -/
theorem dbytes_walk (a0 a1 a2 : Int) (a3 : Option Addr) (len3 cap3 : Nat) (z3 : List Int) (w : World)
    (w1 : (Lit.int .u64 a1).wf = true) (w2 : (Lit.int .u64 a2).wf = true)
    (w3 : (a3 = none ∧ len3 = 0 ∧ cap3 = 0 ∧ z3 = []) ∨ ∃ x, a3 = some x ∧ len3 ≤ cap3 ∧ cap3 ≤ maxLen ∧ z3.length = cap3 ∧ (∀ i, i < z3.length → w.cell? (x.add i) = some (.int .u8 (z3.getD i 0))) ∧ ∀ n ∈ z3, (Lit.int .u8 n).wf = true) :
    Calls Try.prog 12 #[.int .i64 a0, .int .u64 a1, .int .u64 a2, .slice a3 len3 cap3] w fun e w' => e = .returned (.bool true) ∧ Below w.heap.size w w' := by
  obtain ⟨x, rfl, hx⟩ := word_in w1
  obtain ⟨y, rfl, hy⟩ := word_in w2
  obtain ⟨l, h1, h2, h3, h4, h5⟩ := bytes_in w3
  exact dbytes_law a0 x y a3 len3 cap3 l w h1 h2 h3 h4 h5 hx hy
end Go.Proofs.Ythefednendgclaa
