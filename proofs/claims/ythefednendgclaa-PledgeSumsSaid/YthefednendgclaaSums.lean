/-
  The law PledgeSums: it returns true.
-/
import Derived.Test.YthefednendgclaaLaw13
import Derived.Test.YthefednendgclaaPledge2
import Derived.Test.YthefednendgclaaPledge5
set_option linter.unusedVariables false
set_option linter.unusedSimpArgs false
namespace Go.Proofs.Ythefednendgclaa
open Go Go.RowKit Sac NT

theorem jF_get (P : Nat) (out c : List Nat) : ∀ k i, (jF P out c k).getD i 0 = if i < k then (if i < out.length then out.getD i 0 * c.getD i 0 % P else 1 * c.getD i 0 % P) else out.getD i 0
  | 0, i => by simp [jF]
  | k + 1, i => by
    have ih := jF_get P out c k
    have hl := jF_length P out c k
    unfold jF
    by_cases h : k = (jF P out c k).length
    · rw [if_pos h]
      by_cases hi : i < k
      · rw [List.getD_eq_getElem?_getD, List.getElem?_append_left (by omega), ← List.getD_eq_getElem?_getD, ih, if_pos hi, if_pos (by omega : i < k + 1)]
      · by_cases he : i = k
        · subst he
          rw [List.getD_eq_getElem?_getD, List.getElem?_append_right (by omega), ← h, Nat.sub_self, if_pos (by omega), if_neg (by omega)]; rfl
        · rw [List.getD_eq_getElem?_getD, List.getElem?_append_right (by omega), List.getElem?_eq_none (by simp; omega), if_neg (by omega), List.getD_eq_getElem?_getD, List.getElem?_eq_none (by omega)]
    · rw [if_neg h]
      by_cases he : i = k
      · subst he
        rw [List.getD_eq_getElem?_getD, List.getElem?_set_self (by omega), if_pos (by omega), if_pos (by omega), ih, if_neg (by omega)]; rfl
      · rw [List.getD_eq_getElem?_getD, List.getElem?_set_ne (by omega), ← List.getD_eq_getElem?_getD, ih]
        by_cases hi : i < k
        · rw [if_pos hi, if_pos (by omega : i < k + 1)]
        · rw [if_neg hi, if_neg (by omega : ¬ i < k + 1)]
theorem join2_length (P : Nat) (c d : List Nat) : (join2 P c d).length = max c.length d.length := by
  unfold join2; rw [jF_length, jF_length]; simp
theorem pdg_lt (k s r : Nat) : pdg k s r < gP k := Nat.mod_lt _ (by have := gP_one k; omega)
theorem pdg_zero (k : Nat) : pdg k 0 0 = 1 := by unfold pdg; rw [Nat.pow_zero, Nat.pow_zero, Nat.mul_one, Nat.mod_eq_of_lt (gP_one k)]
theorem getD_out {l : List Nat} {i : Nat} (h : l.length ≤ i) : l.getD i 0 = 0 := by rw [List.getD_eq_getElem?_getD, List.getElem?_eq_none h]; rfl
/-- What is joined is what the sums make. -/
theorem join_sums (k : Nat) (a b c d : List Nat) : join2 (gP k) (allP k a b) (allP k c d) = allP k (addl (gQ k) a c) (addl (gQ k) b d) := by
  have hlen : (join2 (gP k) (allP k a b) (allP k c d)).length = (allP k (addl (gQ k) a c) (addl (gQ k) b d)).length := by
    rw [join2_length, allP_length, allP_length, allP_length, addl_length, addl_length]; omega
  refine List.ext_getElem hlen fun i h1 h2 => ?_
  have e : ∀ (l : List Nat) (h : i < l.length), l[i] = l.getD i 0 := fun l h => by rw [List.getD_eq_getElem?_getD, List.getElem?_eq_getElem h]; rfl
  rw [e _ h1, e _ h2]
  rw [allP_length, addl_length, addl_length] at h2
  have ea : ∀ (x y : List Nat), (addl (gQ k) x y).getD i 0 = (x.getD i 0 + y.getD i 0) % gQ k := fun x y => by
    by_cases h : i < max x.length y.length
    · exact addl_get _ _ _ _ h
    · rw [getD_out (by rw [addl_length]; omega), getD_out (l := x) (by omega), getD_out (l := y) (by omega), Nat.zero_mod]
  have ep : ∀ (x y : List Nat), i < (allP k x y).length → (allP k x y).getD i 0 = pdg k (x.getD i 0) (y.getD i 0) := fun x y h => allP_get k x y i (by rw [← allP_length k x y]; exact h)
  have en : ∀ (x y : List Nat), ¬ i < (allP k x y).length → pdg k (x.getD i 0) (y.getD i 0) = 1 := fun x y h => by
    rw [allP_length] at h
    rw [getD_out (l := x) (by omega), getD_out (l := y) (by omega), pdg_zero]
  rw [allP_get k _ _ i (by rw [addl_length, addl_length]; omega), ea, ea, ← pdg_mod, ← pdg_mul]
  unfold join2
  rw [jF_get, jF_get, jF_length]
  by_cases hx : i < (allP k a b).length <;> by_cases hy : i < (allP k c d).length
  · rw [if_pos hy, if_pos (by simp; omega), if_pos hx, if_neg (by simp), ep _ _ hx, ep _ _ hy, Nat.one_mul, Nat.mod_eq_of_lt (pdg_lt _ _ _)]
  · rw [if_neg hy, if_pos hx, if_neg (by simp), ep _ _ hx, en _ _ hy, Nat.one_mul, Nat.mul_one]
  · rw [if_pos hy, if_neg (by simp; omega), en _ _ hx, ep _ _ hy]
  · rw [allP_length] at hx hy; omega

set_option maxRecDepth 100000 in
set_option maxHeartbeats 8000000 in
theorem sums_any (n : Int) (a1 : Option Addr) (n1 c1 : Nat) (l1 : List Nat) (a2 : Option Addr) (n2 c2 : Nat) (l2 : List Nat) (a3 : Option Addr) (n3 c3 : Nat) (l3 : List Nat) (a4 : Option Addr) (n4 c4 : Nat) (l4 : List Nat) (w : World)
    (h1 : RdC w a1 (l1.map w64) ∧ l1.length = n1 ∧ (n1 : Int) ≤ c1 ∧ ∀ y ∈ l1, y < 18446744073709551616)
    (h2 : RdC w a2 (l2.map w64) ∧ l2.length = n2 ∧ (n2 : Int) ≤ c2 ∧ ∀ y ∈ l2, y < 18446744073709551616)
    (h3 : RdC w a3 (l3.map w64) ∧ l3.length = n3 ∧ (n3 : Int) ≤ c3 ∧ ∀ y ∈ l3, y < 18446744073709551616)
    (h4 : RdC w a4 (l4.map w64) ∧ l4.length = n4 ∧ (n4 : Int) ≤ c4 ∧ ∀ y ∈ l4, y < 18446744073709551616) :
    Calls Try.prog 6 #[.int .i64 n, .slice a1 n1 c1, .slice a2 n2 c2, .slice a3 n3 c3, .slice a4 n4 c4] w fun e w' => e = .returned (.bool true) ∧ Below w.heap.size w w' := by
  have H1 := Lib.hid h1
  have H2 := Lib.hid h2
  have H3 := Lib.hid h3
  have H4 := Lib.hid h4
  clear h1 h2 h3 h4
  by_cases g1 : (8 : Int) < (n1 : Int)
  · go_enter Try.func6, Try.ntmps6
    go_wp2_with fail
    refine (lives13_any w).mono ?_
    rintro e w2 ⟨rfl, hb2⟩
    have HB2 := Lib.hid hb2
    clear hb2
    go_wp2_with fail
    refine (lives13_any w2).mono ?_
    rintro e w3 ⟨rfl, hb3⟩
    have HB3 := Lib.hid (HB2.out.trans (hb3.mono HB2.out.size))
    clear hb3
    go_wp2_with fail
    go_ret
    exact ⟨rfl, HB3.out⟩
  by_cases g2 : (8 : Int) < (n2 : Int)
  · go_enter Try.func6, Try.ntmps6
    go_wp2_with fail
    refine (lives13_any w).mono ?_
    rintro e w2 ⟨rfl, hb2⟩
    have HB2 := Lib.hid hb2
    clear hb2
    go_wp2_with fail
    refine (lives13_any w2).mono ?_
    rintro e w3 ⟨rfl, hb3⟩
    have HB3 := Lib.hid (HB2.out.trans (hb3.mono HB2.out.size))
    clear hb3
    go_wp2_with fail
    go_ret
    exact ⟨rfl, HB3.out⟩
  by_cases g3 : (8 : Int) < (n3 : Int)
  · go_enter Try.func6, Try.ntmps6
    go_wp2_with fail
    refine (lives13_any w).mono ?_
    rintro e w2 ⟨rfl, hb2⟩
    have HB2 := Lib.hid hb2
    clear hb2
    go_wp2_with fail
    refine (lives13_any w2).mono ?_
    rintro e w3 ⟨rfl, hb3⟩
    have HB3 := Lib.hid (HB2.out.trans (hb3.mono HB2.out.size))
    clear hb3
    go_wp2_with fail
    go_ret
    exact ⟨rfl, HB3.out⟩
  by_cases g4 : (8 : Int) < (n4 : Int)
  · go_enter Try.func6, Try.ntmps6
    go_wp2_with fail
    refine (lives13_any w).mono ?_
    rintro e w2 ⟨rfl, hb2⟩
    have HB2 := Lib.hid hb2
    clear hb2
    go_wp2_with fail
    refine (lives13_any w2).mono ?_
    rintro e w3 ⟨rfl, hb3⟩
    have HB3 := Lib.hid (HB2.out.trans (hb3.mono HB2.out.size))
    clear hb3
    go_wp2_with fail
    go_ret
    exact ⟨rfl, HB3.out⟩
  obtain ⟨s, hs⟩ : ∃ s, s = w.heap.size := ⟨_, rfl⟩
  obtain ⟨k, hk⟩ : ∃ k, kOf n = k := ⟨_, rfl⟩
  have HE0 := Lib.hid (GE.init w s hs)
  have HS := Lib.hid hs
  have HK := Lib.hid hk
  have h1000 : 18446744073709551616 < 2 ^ 1000 := @lt_twop _ 65 1000 (show 18446744073709551616 < 2 ^ 65 by decide) (by decide)
  have HSM := Lib.hid h1000
  clear hs hk h1000
  go_enter Try.func6, Try.ntmps6
  go_wp2_with fail
  refine (lives13_any w).mono ?_
  rintro e w2 ⟨rfl, hb2⟩
  have HE2 := Lib.hid (HE0.out.below hb2)
  clear hb2 HE0
  go_wp2_with fail
  refine (group_any n w2).mono ?_
  rintro e w3 ⟨g, rfl, hg, hb3⟩
  have HE3 := Lib.hid ((HE2.out.below hb3).add (P := fun w => GroupAt w g (gP k) (gQ k) (gG k) (gH k) (gS k)) (groupAt_stays (by decide) (by decide) (by decide)) (by rw [← HK.out]; exact hg))
  clear hb3 HE2 hg
  go_wp2_with fail
  refine (gfield_any g _ _ _ _ _ w3 (HE3.out.has 0 rfl)).mono ?_
  rintro e w4 ⟨r, rfl, hr, hb4⟩
  have HE4 := Lib.hid ((HE3.out.below hb4).add (ringAt_stays (by decide) (by decide)) hr)
  clear hb4 HE3 hr
  obtain ⟨F, hF⟩ : ∃ F : List (World → Prop), F = [fun w => GroupAt w g (gP k) (gQ k) (gG k) (gH k) (gS k), fun w => RingAt w r (gQ k)] := ⟨_, rfl⟩
  have f0 : Hid (F[0]? = some (fun w => GroupAt w g (gP k) (gQ k) (gG k) (gH k) (gS k))) := by show _ = _; rw [hF]; rfl
  have f1 : Hid (F[1]? = some (fun w => RingAt w r (gQ k))) := by show _ = _; rw [hF]; rfl
  have HR4 : Hid (GE w w4 s [] F) := by rw [hF]; exact HE4.out
  clear HE4 hF
  go_wp2_with fail
  refine (nums_any a1 n1 c1 l1 w4 (H1.out.1.below (HS.out ▸ HR4.out.bel)) H1.out.2.1 H1.out.2.2.1 (by omega) H1.out.2.2.2).mono ?_
  rintro e w5 ⟨v, rfl, hrow, hb5⟩
  obtain ⟨p1, q1, rfl, _, _, _, _⟩ := hrow.form
  have HR5 := Lib.hid (HR4.out.pushRow hb5 hrow)
  rw [H1.out.2.1] at HR5 ⊢
  clear hb5 hrow HR4
  go_wp2_with fail
  refine (nums_any a2 n2 c2 l2 w5 (H2.out.1.below (HS.out ▸ HR5.out.bel)) H2.out.2.1 H2.out.2.2.1 (by omega) H2.out.2.2.2).mono ?_
  rintro e w6 ⟨v, rfl, hrow, hb6⟩
  obtain ⟨p2, q2, rfl, _, _, _, _⟩ := hrow.form
  have HR6 := Lib.hid (HR5.out.pushRow hb6 hrow)
  rw [H2.out.2.1] at HR6 ⊢
  clear hb6 hrow HR5
  go_wp2_with fail
  refine (nums_any a3 n3 c3 l3 w6 (H3.out.1.below (HS.out ▸ HR6.out.bel)) H3.out.2.1 H3.out.2.2.1 (by omega) H3.out.2.2.2).mono ?_
  rintro e w7 ⟨v, rfl, hrow, hb7⟩
  obtain ⟨p3, q3, rfl, _, _, _, _⟩ := hrow.form
  have HR7 := Lib.hid (HR6.out.pushRow hb7 hrow)
  rw [H3.out.2.1] at HR7 ⊢
  clear hb7 hrow HR6
  go_wp2_with fail
  refine (nums_any a4 n4 c4 l4 w7 (H4.out.1.below (HS.out ▸ HR7.out.bel)) H4.out.2.1 H4.out.2.2.1 (by omega) H4.out.2.2.2).mono ?_
  rintro e w8 ⟨v, rfl, hrow, hb8⟩
  obtain ⟨p4, q4, rfl, _, _, _, _⟩ := hrow.form
  have HR8 := Lib.hid (HR7.out.pushRow hb8 hrow)
  rw [H4.out.2.1] at HR8 ⊢
  clear hb8 hrow HR7
  go_wp2_with fail
  refine (pall_any g _ _ _ _ _ p1 n1 q1 l1 p2 n2 q2 l2 w8 (HR8.out.has 0 f0.out) (gP_one k) (fun a ha => Nat.lt_trans (H1.out.2.2.2 a ha) HSM.out) (fun a ha => Nat.lt_trans (H2.out.2.2.2 a ha) HSM.out) (HR8.out.row 0 rfl).toAt H1.out.2.1 (by omega) (HR8.out.row 1 rfl).toAt H2.out.2.1 (by omega)).mono ?_
  rw [allG_eq]
  rintro e w9 ⟨v, rfl, hrow, hb9⟩
  obtain ⟨xX, yX, rfl, _, _, _, _⟩ := hrow.form
  have HR9 := Lib.hid (HR8.out.pushRow hb9 hrow)
  obtain ⟨NX, hN⟩ : ∃ N, (allP k l1 l2).length = N := ⟨_, rfl⟩
  have HNX := Lib.hid hN
  rw [hN] at HR9 ⊢
  clear hb9 hrow HR8 hN
  go_wp2_with fail
  refine (pall_any g _ _ _ _ _ p3 n3 q3 l3 p4 n4 q4 l4 w9 (HR9.out.has 0 f0.out) (gP_one k) (fun a ha => Nat.lt_trans (H3.out.2.2.2 a ha) HSM.out) (fun a ha => Nat.lt_trans (H4.out.2.2.2 a ha) HSM.out) (HR9.out.row 2 rfl).toAt H3.out.2.1 (by omega) (HR9.out.row 3 rfl).toAt H4.out.2.1 (by omega)).mono ?_
  rw [allG_eq]
  rintro e w10 ⟨v, rfl, hrow, hb10⟩
  obtain ⟨xY, yY, rfl, _, _, _, _⟩ := hrow.form
  have HR10 := Lib.hid (HR9.out.pushRow hb10 hrow)
  obtain ⟨NY, hN⟩ : ∃ N, (allP k l3 l4).length = N := ⟨_, rfl⟩
  have HNY := Lib.hid hN
  rw [hN] at HR10 ⊢
  clear hb10 hrow HR9 hN
  have hNX : (NX : Int) ≤ 10000 := by rw [← HNX.out, allP_length, H1.out.2.1, H2.out.2.1]; omega
  have hNY : (NY : Int) ≤ 10000 := by rw [← HNY.out, allP_length, H3.out.2.1, H4.out.2.1]; omega
  have hbx := (Below.refl _ w10).alloc (Nat.le_refl _) (Obj.cells #[Value.slice xX NX yX, Value.slice xY NY yY] 29)
  obtain ⟨l, hl⟩ : ∃ l, l = w10.heap.size := ⟨_, rfl⟩
  have HB := Lib.hid (Blk.new' w10 [Value.slice xX NX yX, Value.slice xY NY yY] 29 l hl)
  have HR11 := Lib.hid (HR10.out.below hbx)
  clear hbx HR10
  go_wp2_with fail
  rw [← hl]
  clear hl
  generalize w10.alloc (Obj.cells #[Value.slice xX NX yX, Value.slice xY NY yY] 29) = w11 at HB HR11 ⊢
  refine (pjoin_any g _ _ _ _ _ l xX NX yX (allP k l1 l2) xY NY yY (allP k l3 l4) w11 (HR11.out.has 0 f0.out) HB.out (HR11.out.row 4 rfl).toAt HNX.out hNX (HR11.out.row 5 rfl).toAt HNY.out hNY).mono ?_
  rw [join_sums]
  rintro e w12 ⟨v, rfl, hrow, hb12⟩
  obtain ⟨xJ, yJ, rfl, _, _, _, _⟩ := hrow.form
  have HR12 := Lib.hid (HR11.out.pushRow hb12 hrow)
  obtain ⟨J, hJ⟩ : ∃ J, allP k (addl (gQ k) l1 l3) (addl (gQ k) l2 l4) = J := ⟨_, rfl⟩
  obtain ⟨NJ, hN⟩ : ∃ N, J.length = N := ⟨_, rfl⟩
  have hNJ : (NJ : Int) ≤ 10000 := by rw [← hN, ← hJ, allP_length, addl_length, addl_length, H1.out.2.1, H2.out.2.1, H3.out.2.1, H4.out.2.1]; omega
  rw [hJ, hN] at HR12
  rw [hJ, hN]
  have HJ := Lib.hid hJ
  have HNJ := Lib.hid hN
  clear hb12 hrow HR11 HB hJ hN
  go_wp2_with fail
  refine (cadd_any r _ p1 n1 q1 l1 p3 n3 q3 l3 w12 (HR12.out.has 1 f1.out) (HR12.out.row 0 rfl).toAt H1.out.2.1 (by omega) (HR12.out.row 2 rfl).toAt H3.out.2.1 (by omega)).mono ?_
  rintro e w13 ⟨v, rfl, hrow, hb13⟩
  obtain ⟨xA, yA, rfl, _, _, _, _⟩ := hrow.form
  have HR13 := Lib.hid (HR12.out.pushRow hb13 hrow)
  obtain ⟨NA, hN⟩ : ∃ N, (addl (gQ k) l1 l3).length = N := ⟨_, rfl⟩
  have hNA : (NA : Int) ≤ 10000 := by rw [← hN, addl_length, H1.out.2.1, H3.out.2.1]; omega
  have HNA := Lib.hid hN
  rw [hN] at HR13 ⊢
  clear hb13 hrow HR12 hN
  go_wp2_with fail
  refine (cadd_any r _ p2 n2 q2 l2 p4 n4 q4 l4 w13 (HR13.out.has 1 f1.out) (HR13.out.row 1 rfl).toAt H2.out.2.1 (by omega) (HR13.out.row 3 rfl).toAt H4.out.2.1 (by omega)).mono ?_
  rintro e w14 ⟨v, rfl, hrow, hb14⟩
  obtain ⟨xB, yB, rfl, _, _, _, _⟩ := hrow.form
  have HR14 := Lib.hid (HR13.out.pushRow hb14 hrow)
  obtain ⟨NB, hN⟩ : ∃ N, (addl (gQ k) l2 l4).length = N := ⟨_, rfl⟩
  have hNB : (NB : Int) ≤ 10000 := by rw [← hN, addl_length, H2.out.2.1, H4.out.2.1]; omega
  have HNB := Lib.hid hN
  rw [hN] at HR14 ⊢
  clear hb14 hrow HR13 hN
  go_wp2_with fail
  have hq64 : gQ k < 18446744073709551616 := gQ_lt k
  refine (pall_any g _ _ _ _ _ xA NA yA (addl (gQ k) l1 l3) xB NB yB (addl (gQ k) l2 l4) w14 (HR14.out.has 0 f0.out) (gP_one k) (fun a ha => Nat.lt_trans (Nat.lt_trans (addl_lt (gQ_pos k) _ _ a ha) hq64) HSM.out) (fun a ha => Nat.lt_trans (Nat.lt_trans (addl_lt (gQ_pos k) _ _ a ha) hq64) HSM.out) (HR14.out.row 7 rfl).toAt HNA.out hNA (HR14.out.row 8 rfl).toAt HNB.out hNB).mono ?_
  rw [allG_eq, HJ.out]
  rintro e w15 ⟨v, rfl, hrow, hb15⟩
  obtain ⟨xK, yK, rfl, _, _, _, _⟩ := hrow.form
  have HR15 := Lib.hid (HR14.out.pushRow hb15 hrow)
  rw [HNJ.out] at HR15 ⊢
  have HB15 := Lib.hid (HR15.out.bel)
  have HBS := Lib.hid HR15.out.base
  have HXJ := Lib.hid (HR15.out.row 6 rfl).toAt
  have HXK := Lib.hid (HR15.out.row 9 rfl).toAt
  clear hb15 hrow HR14 HR15 hq64
  have hnn : ((NJ : Int) != (NJ : Int)) = false := by simp
  go_wp2_with fail
  go_loopw [85] (fun iv wr => ∃ i : Nat, (i : Int) ≤ NJ ∧ iv = .int .i64 (i : Int) ∧ Hid (BB w15 wr)) (fun iv _ => NJ - (intOf iv).toNat)
  case atStart => exact ⟨0, by omega, rfl, BB.refl _⟩
  case round =>
    obtain ⟨i, hi, rfl, HW⟩ := hrel
    by_cases hlt : (i : Int) < NJ
    · have hil : i < J.length := by rw [HNJ.out]; omega
      obtain ⟨y, hy⟩ : ∃ y, J.getD i 0 = y := ⟨_, rfl⟩
      obtain ⟨ad, xa, xl, xc, hadr, _, cx, Nx⟩ := (HXJ.out.below HW.out).get hil
      obtain ⟨bd, za, zl, zc, hbdr, _, cz, Nz⟩ := (HXK.out.below HW.out).get hil
      subst hadr hbdr
      rw [hy] at Nx Nz
      have HNx := Lib.hid Nx
      have HNz := Lib.hid Nz
      have gx : ∀ w', BB wr w' → w'.cell? (ad.add i) = some (.slice xa xl xc) := fun w' h => (h.cell (World.block_lt_of_cell? _ _ cx)).trans cx
      have gz : ∀ w', BB wr w' → w'.cell? (bd.add i) = some (.slice za zl zc) := fun w' h => (h.cell (World.block_lt_of_cell? _ _ cz)).trans cz
      have i0 : (0 : Int) ≤ (i : Int) := by omega
      clear Nx Nz hy hil cx cz
      go_wp2_with fail
      go_region_held3 (fun w' => BB wr w') (first | assumption | exact BB.drew (BB.refl _))
        (first | (go_at_call 25; refine (cmp_s xa za xl xc zl zc y y wr.drew HNx.out.drew HNz.out.drew).mono ?_; rw [cmp_self]; rintro e w5 ⟨rfl, hb5⟩; have hbb5 : BB wr w5 := BB.step (BB.drew (BB.refl wr)) hb5; clear hb5))
      go_wp2_with fail
      go_roundw
      case rel => exact ⟨i + 1, by omega, by go_num, BB.step HW.out hbb5⟩
      case measure => simp [intOf]; omega
    · have hi' : i = NJ := by omega
      subst hi'
      go_wp2_with fail
      go_ret
      exact ⟨rfl, HS.out ▸ HB15.out.trans (Below.mono HW.out HBS.out)⟩

/-- The same, as the frame asks it. -/
theorem sums_walk (a0 : Int) (a1 : Option Addr) (len1 cap1 : Nat) (z1 : List Int) (a2 : Option Addr) (len2 cap2 : Nat) (z2 : List Int) (a3 : Option Addr) (len3 cap3 : Nat) (z3 : List Int) (a4 : Option Addr) (len4 cap4 : Nat) (z4 : List Int) (w : World)
    (w1 : (a1 = none ∧ len1 = 0 ∧ cap1 = 0 ∧ z1 = []) ∨ ∃ x, a1 = some x ∧ len1 ≤ cap1 ∧ cap1 ≤ maxLen ∧ z1.length = cap1 ∧ (∀ i, i < z1.length → w.cell? (x.add i) = some (.int .u64 (z1.getD i 0))) ∧ ∀ n ∈ z1, (Lit.int .u64 n).wf = true)
    (w2 : (a2 = none ∧ len2 = 0 ∧ cap2 = 0 ∧ z2 = []) ∨ ∃ x, a2 = some x ∧ len2 ≤ cap2 ∧ cap2 ≤ maxLen ∧ z2.length = cap2 ∧ (∀ i, i < z2.length → w.cell? (x.add i) = some (.int .u64 (z2.getD i 0))) ∧ ∀ n ∈ z2, (Lit.int .u64 n).wf = true)
    (w3 : (a3 = none ∧ len3 = 0 ∧ cap3 = 0 ∧ z3 = []) ∨ ∃ x, a3 = some x ∧ len3 ≤ cap3 ∧ cap3 ≤ maxLen ∧ z3.length = cap3 ∧ (∀ i, i < z3.length → w.cell? (x.add i) = some (.int .u64 (z3.getD i 0))) ∧ ∀ n ∈ z3, (Lit.int .u64 n).wf = true)
    (w4 : (a4 = none ∧ len4 = 0 ∧ cap4 = 0 ∧ z4 = []) ∨ ∃ x, a4 = some x ∧ len4 ≤ cap4 ∧ cap4 ≤ maxLen ∧ z4.length = cap4 ∧ (∀ i, i < z4.length → w.cell? (x.add i) = some (.int .u64 (z4.getD i 0))) ∧ ∀ n ∈ z4, (Lit.int .u64 n).wf = true) :
    Calls Try.prog 6 #[.int .i64 a0, .slice a1 len1 cap1, .slice a2 len2 cap2, .slice a3 len3 cap3, .slice a4 len4 cap4] w fun e w' => e = .returned (.bool true) ∧ Below w.heap.size w w' := by
  obtain ⟨l1, h1⟩ := words_in w1
  obtain ⟨l2, h2⟩ := words_in w2
  obtain ⟨l3, h3⟩ := words_in w3
  obtain ⟨l4, h4⟩ := words_in w4
  exact sums_any a0 a1 len1 cap1 l1 a2 len2 cap2 l2 a3 len3 cap3 l3 a4 len4 cap4 l4 w h1 h2 h3 h4
end Go.Proofs.Ythefednendgclaa
