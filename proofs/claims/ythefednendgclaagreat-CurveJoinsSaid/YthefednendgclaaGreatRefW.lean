/-
  The document's places: whether they may be asked, how much each counts.
-/
import Derived.Test.YthefednendgclaaGreatRefB
import Derived.Test.YthefednendgclaaGreatPledgeL
set_option linter.unusedVariables false
set_option linter.unusedSimpArgs false
namespace Go.Proofs.YthefednendgclaaGreat
open Go Go.RowKit Sac NT

/-! ### What the weights are -/
/-- The document's product, place by place. -/
def rW (q : Nat) (xs : List Nat) (i x : Nat) : Nat → Nat
  | 0 => 1
  | k + 1 => if k = i then rW q xs i x k else rW q xs i x k * (subm q x (xs.getD k 0) * invq q (subm q (xs.getD i 0) (xs.getD k 0)) % q) % q
theorem subm_lt {q : Nat} (hq : 0 < q) (a b : Nat) : subm q a b < q := (Mo.sub hq (Cg.refl q (a : Int)) (Cg.refl q (b : Int))).1
theorem subm_unit {q : Nat} (hq : Prime q) {a b : Nat} (h : a % q ≠ b % q) : Nat.gcd q (subm q a b) = 1 := by
  have hq0 : 0 < q := by have := hq.1; omega
  have h1 := Nat.mod_lt a hq0
  have h2 := Nat.mod_lt b hq0
  have h3 : 0 < subm q a b := by
    unfold subm
    by_cases hc : b % q ≤ a % q
    · rw [if_pos hc]; omega
    · rw [if_neg hc]; omega
  have h4 := subm_lt hq0 a b
  rw [Nat.gcd_comm]
  have := hq.coprime (a := subm q a b) (fun hd => by have := Nat.le_of_dvd h3 hd; omega)
  first | exact this | (rw [Nat.gcd_comm]; exact this)
theorem invq_cg {q n : Nat} (hq : 0 < q) (h : Nat.gcd q n = 1) : Cg q ((invq q n * n : Nat) : Int) 1 := by
  obtain ⟨z, h1, h2⟩ := inv_exists hq h
  rw [invq_eq h1 h2]
  have e1 := Cg.mod (q := q) (z * n)
  rw [h2] at e1
  exact e1.symm.trans (Cg.mod 1)
theorem rW_cg {q : Nat} (hq : Prime q) {xs : List Nat} (hd : Dis q xs) {i : Nat} (hi : i < xs.length) (x : Nat) : ∀ k, k ≤ xs.length → Cg q ((rW q xs i x k * upF q (xs.getD i 0) xs i k : Nat) : Int) ((upF q x xs i k : Nat) : Int)
  | 0, _ => by
    show Cg q ((1 * (1 % q) : Nat) : Int) ((1 % q : Nat) : Int)
    rw [Nat.one_mul]; exact Cg.refl _ _
  | k + 1, hk => by
    have hq0 : 0 < q := by have := hq.1; omega
    have ih := rW_cg hq hd hi x k (by omega)
    by_cases hki : k = i
    · unfold rW upF
      rw [if_pos hki, if_pos hki, if_pos hki]; exact ih
    · unfold rW upF
      rw [if_neg hki, if_neg hki, if_neg hki]
      have hne : xs.getD i 0 % q ≠ xs.getD k 0 % q := by
        rcases Nat.lt_or_ge k i with h | h
        · exact hd i k h hi
        · exact (hd k i (by omega) (by omega)).symm
      obtain ⟨S, hS⟩ : ∃ S, subm q (xs.getD i 0) (xs.getD k 0) = S := ⟨_, rfl⟩
      obtain ⟨X, hX⟩ : ∃ X, subm q x (xs.getD k 0) = X := ⟨_, rfl⟩
      have hu := invq_cg hq0 (subm_unit hq hne)
      rw [hS] at hu ⊢
      rw [hX]
      obtain ⟨I, hI⟩ : ∃ I, invq q S = I := ⟨_, rfl⟩
      obtain ⟨R, hR⟩ : ∃ R, rW q xs i x k = R := ⟨_, rfl⟩
      obtain ⟨U, hU⟩ : ∃ U, upF q (xs.getD i 0) xs i k = U := ⟨_, rfl⟩
      obtain ⟨V, hV⟩ : ∃ V, upF q x xs i k = V := ⟨_, rfl⟩
      rw [hI] at hu ⊢
      rw [hR, hU, hV] at ih
      rw [hR, hU, hV]
      have c1 : Cg q ((R * (X * I % q) % q : Nat) : Int) ((R * (X * I) : Nat) : Int) := by
        refine (Cg.mod _).trans ?_
        have := (Cg.refl q (R : Int)).mul (Cg.mod (q := q) (X * I))
        simpa using this
      have c2 : Cg q ((U * S % q : Nat) : Int) ((U * S : Nat) : Int) := Cg.mod _
      have c3 := c1.mul c2
      have c4 : ((R * (X * I) : Nat) : Int) * ((U * S : Nat) : Int) = ((R * U : Nat) : Int) * (X : Int) * ((I * S : Nat) : Int) := by
        push_cast
        simp only [Int.mul_assoc, Int.mul_comm, Int.mul_left_comm]
      have c5 := (ih.mul (Cg.refl q (X : Int))).mul hu
      rw [c4] at c3
      have c6 := c3.trans c5
      have e1 : ((R * (X * I % q) % q * (U * S % q) : Nat) : Int) = ((R * (X * I % q) % q : Nat) : Int) * ((U * S % q : Nat) : Int) := by push_cast; rfl
      rw [e1]
      refine c6.trans ?_
      have e2 : (V : Int) * (X : Int) * 1 = ((V * X : Nat) : Int) := by push_cast; rw [Int.mul_one]
      rw [e2]
      exact (Cg.mod _).symm
theorem rW_wt {q : Nat} (hq : Prime q) {xs : List Nat} (hd : Dis q xs) {i : Nat} (hi : i < xs.length) (x : Nat) : rW q xs i x xs.length % q = wt q xs x i := by
  have hq0 : 0 < q := by have := hq.1; omega
  have h1 := rW_cg hq hd hi x xs.length (Nat.le_refl _)
  have h2 := invq_cg hq0 (down_unit hq hd hi)
  unfold wt
  obtain ⟨D, hD⟩ : ∃ D, upF q (xs.getD i 0) xs i xs.length = D := ⟨_, rfl⟩
  obtain ⟨I, hI⟩ : ∃ I, invq q D = I := ⟨_, rfl⟩
  obtain ⟨R, hR⟩ : ∃ R, rW q xs i x xs.length = R := ⟨_, rfl⟩
  obtain ⟨V, hV⟩ : ∃ V, upF q x xs i xs.length = V := ⟨_, rfl⟩
  rw [hD] at h1 h2 ⊢
  rw [hI] at h2 ⊢
  rw [hR, hV] at h1
  rw [hR, hV]
  refine Mo.uniq (Mo.of hq0 R) (Mo.of hq0 (V * I)) ?_
  have h3 := h1.mul (Cg.refl q (I : Int))
  have h4 := (Cg.refl q (R : Int)).mul h2
  have e1 : (R : Int) * ((I * D : Nat) : Int) = ((R * D : Nat) : Int) * (I : Int) := by
    push_cast
    simp only [Int.mul_assoc, Int.mul_comm, Int.mul_left_comm]
  rw [e1, Int.mul_one] at h4
  have e2 : (V : Int) * (I : Int) = ((V * I : Nat) : Int) := by push_cast; rfl
  rw [e2] at h3
  exact h4.symm.trans h3
theorem rW_lt {q : Nat} (hq : 1 < q) (xs : List Nat) (i x : Nat) : ∀ k, rW q xs i x k < q
  | 0 => hq
  | k + 1 => by
    unfold rW
    by_cases h : k = i
    · rw [if_pos h]; exact rW_lt hq xs i x k
    · rw [if_neg h]; exact Nat.mod_lt _ (by omega)

/-! ### Asked -/
def AskPost (q : Nat) (xs : List Nat) (ny : Nat) (w : World) (e : Ending) (w' : World) : Prop := ∃ c : Int, e = .returned (.int .i64 c) ∧ Below w.heap.size w w' ∧ ((xs.length = 0 ∧ c = 10) ∨ (0 < xs.length ∧ xs.length ≠ ny ∧ c = 1) ∨ (0 < xs.length ∧ xs.length = ny ∧ ¬ Dis q xs ∧ c = 11) ∨ (0 < xs.length ∧ xs.length = ny ∧ Dis q xs ∧ c = 0))
def tabAS (v0 : Value) (v1 : Value) (v2 : Value) (v3 : Value) (v4 : Value) (p5 : Fk KpN) (v6 : Value) (v7 : Value) (v8 : Value) (v9 : Value) (v10 : Value) (p11 : Fk KpN) (v12 : Value) (v13 : Value) : List (Fk KpN) := [.val v0, .val v1, .val v2, .val v3, .val v4, p5, .val v6, .val v7, .val v8, .val v9, .val v10, p11, .val v12, .val v13]
def dstAS : List (Option Tmp) := [some 26, some 27, some 28, some 29, some 30, some 31, some 32, some 33, some 34, some 35, some 36, some 37, some 38, some 39]
def preAS : List (List Nat) := [[], [], [0, 1], [0, 1, 2], [], [0, 1, 2, 3, 4], [], [], [6, 7], [6, 7, 8], [], [0, 1, 2, 3, 4, 5, 6, 7, 8, 9, 10], [0, 1, 2, 3, 4, 5, 6, 7, 8, 9, 10, 11], [0, 1, 2, 3, 4, 5, 6, 7, 8, 9, 10, 11, 12]]
def maskAS : List Bool := [false, false, false, false, false, false, false, false, false, false, false, false, false, false, false, false, false, false, false, false, false, false, false, false, false, false, true, true, true, true, true, true, true, true, true, true, true, true, true, true, false]

set_option maxRecDepth 100000 in
set_option maxHeartbeats 4000000 in
theorem asked_any (qv v : Value) (q : Nat) (xs : List Nat) (ny : Nat) (w : World) (hqv : BN w qv q) (hv : BRow w v xs) (hq : 0 < q) (hql : Bt.len q ≤ 999) (hc : (xs.length : Int) ≤ 10000) :
    Calls Tryz.prog 16 #[qv, v, .int .i64 (ny : Int)] w (AskPost q xs ny w) := by
  obtain ⟨s, hs⟩ : ∃ s, s = w.heap.size := ⟨_, rfl⟩
  have HS := Lib.hid hs
  have HQ := Lib.hid hqv
  have HV := Lib.hid hv
  have HQ0 := Lib.hid (And.intro hq hql)
  obtain ⟨len, hlen⟩ : ∃ len, xs.length = len := ⟨_, rfl⟩
  obtain ⟨a, cap, rfl, hcap⟩ := hv.form
  have HL := Lib.hid hlen
  rw [hlen] at HV hcap hc ⊢
  have hcap' : (len : Int) ≤ cap := by omega
  clear hqv hv hq hql hlen
  by_cases h0 : (len : Int) = 0
  · have e0 : ((len : Int) == 0) = true := by rw [h0]; rfl
    have H0 := Lib.hid h0
    clear h0
    go_enter Tryz.func16, Tryz.ntmps16
    go_wp2_with fail
    go_ret
    exact ⟨10, rfl, Below.refl _ _, .inl ⟨by rw [HL.out]; have := H0.out; omega, rfl⟩⟩
  have e0 : ((len : Int) == 0) = false := by rw [beq_eq_false_iff_ne]; exact h0
  have H0 := Lib.hid h0
  clear h0
  by_cases hn : ny = len
  · obtain rfl : len = ny := hn.symm
    have e1 : ((len : Int) != (len : Int)) = false := by simp
    have hpos : 0 < xs.length := by rw [HL.out]; have := H0.out; omega
    obtain ⟨ad, _, _, _, rfl, _, _⟩ := HV.out.get (j := 0) hpos
    clear hpos
    go_enter Tryz.func16, Tryz.ntmps16
    go_wp2_with fail
    go_loopw [18] (fun iv wr => ∃ i : Nat, (i : Int) ≤ len ∧ iv = .int .i64 (i : Int) ∧ Hid (∀ i' j, j < i' → i' < i → xs.getD i' 0 % q ≠ xs.getD j 0 % q) ∧ Hid (Below s w wr) ∧ Hid (s ≤ wr.heap.size)) (fun iv _ => len - (intOf iv).toNat)
    case atStart => exact ⟨0, by omega, rfl, (fun i' j h1 h2 => by omega), hs ▸ Below.refl _ _, Nat.le_of_eq hs⟩
    case round =>
      clear hs
      obtain ⟨i, hi, rfl, HD, HB, HZ⟩ := hrel
      by_cases hlt : (i : Int) < len
      · go_wp2_with fail
        go_loopw [8] (fun iv wr => ∃ j : Nat, (j : Int) ≤ i ∧ iv = .int .i64 (j : Int) ∧ Hid (∀ j', j' < j → xs.getD i 0 % q ≠ xs.getD j' 0 % q) ∧ Hid (Below s w wr) ∧ Hid (s ≤ wr.heap.size)) (fun iv _ => i - (intOf iv).toNat)
        case atStart => exact ⟨0, by omega, rfl, (fun j' h => by omega), HB.out, HZ.out⟩
        case round =>
          clear HB HZ
          obtain ⟨j, hj, rfl, HDJ, HB, HZ⟩ := hrel
          by_cases hlj : (j : Int) < i
          · have HV2 := Lib.hid (HV.out.below (HS.out ▸ HB.out))
            have HQ2 := Lib.hid (HQ.out.below (HS.out ▸ HB.out))
            obtain ⟨_, xa, xl, xc, e1, gX, nX⟩ := HV2.out.get (j := i) (by rw [HL.out]; omega)
            obtain rfl := Option.some.inj e1
            obtain ⟨_, ya, yl, yc, e1, gY, nY⟩ := HV2.out.get (j := j) (by rw [HL.out]; omega)
            obtain rfl := Option.some.inj e1
            obtain ⟨x, hx⟩ : ∃ x, xs.getD i 0 = x := ⟨_, rfl⟩
            obtain ⟨y, hy⟩ : ∃ y, xs.getD j 0 = y := ⟨_, rfl⟩
            rw [hx] at nX
            rw [hy] at nY
            have HX := Lib.hid hx
            have HY := Lib.hid hy
            have NX := Lib.hid nX
            have NY := Lib.hid nY
            rw [hx] at HDJ
            have b0 : (0 : Int) ≤ (i : Int) := by omega
            have b1 : (j : Int) < (len : Int) := by omega
            have b2 : (i : Int) ≤ (cap : Int) := by omega
            have b3 : (j : Int) ≤ (cap : Int) := by omega
            have b4 : (0 : Int) ≤ (j : Int) := by omega
            clear hx hy nX nY e1
            go_wp2_with fail
            refine wp_region_mix (fun _ w' => BB wr w') (GF (tabAS (.slice (some ad) len cap) (.int .i64 (i : Int)) (.pointer (some (ad.add i))) (.slice xa xl xc) (qv) (Fk.rel (fun v w => BN w v (x % q)) (fun _ _ _ hb h => h.below hb)) (.slice (some ad) len cap) (.int .i64 (j : Int)) (.pointer (some (ad.add j))) (.slice ya yl yc) (qv) (Fk.rel (fun v w => BN w v (y % q)) (fun _ _ _ hb h => h.below hb)) (.int .i64 (cmpNat (x % q) (y % q))) (.bool (cmpNat (x % q) (y % q) == 0)))) maskAS dstAS preAS (by kernel_rfl) (by kernel_rfl) rfl (by kernel_rfl) (by kernel_rfl) (by kernel_rfl) (by kernel_rfl) (BB.drew (BB.refl _)) ?_ ?_
            · refine StepsM.cons (fun l g' wu hB hl hn hp K hK => ?_) ?_
              · simp only [mkM, maskAS, mixM, Nat.reduceAdd] at hK ⊢; simp only [Act.put, List.setIfInBounds_toArray, List.set_cons_zero, List.set_cons_succ] at hK; go_simp; exact hK.out _ _ hB GF.same rfl
              refine StepsM.cons (fun l g' wu hB hl hn hp K hK => ?_) ?_
              · simp only [mkM, maskAS, mixM, Nat.reduceAdd] at hK ⊢; simp only [Act.put, List.setIfInBounds_toArray, List.set_cons_zero, List.set_cons_succ] at hK; go_simp; exact hK.out _ _ hB GF.same rfl
              refine StepsM.cons (fun l g' wu hB hl hn hp K hK => ?_) ?_
              · have e0 : g' 26 = .slice (some ad) len cap := (hp 0 (by decide)).2; have e1 : g' 27 = .int .i64 (i : Int) := (hp 1 (by decide)).2; simp only [mkM, maskAS, mixM, Nat.reduceAdd, e0, e1] at hK ⊢; clear e0 e1; simp only [Act.put, List.setIfInBounds_toArray, List.set_cons_zero, List.set_cons_succ] at hK; go_simp; exact hK.out _ _ hB GF.same rfl
              refine StepsM.cons (fun l g' wu hB hl hn hp K hK => ?_) ?_
              · have hbb := hB; have e2 : g' 28 = .pointer (some (ad.add i)) := (hp 2 (by decide)).2; have hc := gX _ hbb; simp only [mkM, maskAS, mixM, Nat.reduceAdd, e2] at hK ⊢; clear e2; simp only [Act.put, List.setIfInBounds_toArray, List.set_cons_zero, List.set_cons_succ] at hK; go_simp; exact hK.out _ _ hB GF.same rfl
              refine StepsM.cons (fun l g' wu hB hl hn hp K hK => ?_) ?_
              · simp only [mkM, maskAS, mixM, Nat.reduceAdd] at hK ⊢; simp only [Act.put, List.setIfInBounds_toArray, List.set_cons_zero, List.set_cons_succ] at hK; go_simp; exact hK.out _ _ hB GF.same rfl
              refine StepsM.cons (fun l g' wu hB hl hn hp K hK => ?_) ?_
              · have hbb := hB; have e3 : g' 29 = .slice xa xl xc := (hp 3 (by decide)).2; have e4 : g' 30 = qv := (hp 4 (by decide)).2; simp only [mkM, maskAS, mixM, Nat.reduceAdd, e3, e4] at hK ⊢; clear e3 e4; simp only [Act.put, List.setIfInBounds_toArray, List.set_cons_zero, List.set_cons_succ] at hK; go_simp; go_at_call 58; refine (rof_any _ _ x q _ (NX.out.below hbb) (HQ2.out.below hbb) HQ0.out.1 HQ0.out.2).mono ?_; rintro e w7 ⟨z, rfl, hz, hb⟩; go_wp2_with fail; exact hK.out _ _ (BB.step hbb hb) (GF.below hb) hz
              refine StepsM.cons (fun l g' wu hB hl hn hp K hK => ?_) ?_
              · simp only [mkM, maskAS, mixM, Nat.reduceAdd] at hK ⊢; simp only [Act.put, List.setIfInBounds_toArray, List.set_cons_zero, List.set_cons_succ] at hK; go_simp; exact hK.out _ _ hB GF.same rfl
              refine StepsM.cons (fun l g' wu hB hl hn hp K hK => ?_) ?_
              · simp only [mkM, maskAS, mixM, Nat.reduceAdd] at hK ⊢; simp only [Act.put, List.setIfInBounds_toArray, List.set_cons_zero, List.set_cons_succ] at hK; go_simp; exact hK.out _ _ hB GF.same rfl
              refine StepsM.cons (fun l g' wu hB hl hn hp K hK => ?_) ?_
              · have e6 : g' 32 = .slice (some ad) len cap := (hp 6 (by decide)).2; have e7 : g' 33 = .int .i64 (j : Int) := (hp 7 (by decide)).2; simp only [mkM, maskAS, mixM, Nat.reduceAdd, e6, e7] at hK ⊢; clear e6 e7; simp only [Act.put, List.setIfInBounds_toArray, List.set_cons_zero, List.set_cons_succ] at hK; go_simp; exact hK.out _ _ hB GF.same rfl
              refine StepsM.cons (fun l g' wu hB hl hn hp K hK => ?_) ?_
              · have hbb := hB; have e8 : g' 34 = .pointer (some (ad.add j)) := (hp 8 (by decide)).2; have hc := gY _ hbb; simp only [mkM, maskAS, mixM, Nat.reduceAdd, e8] at hK ⊢; clear e8; simp only [Act.put, List.setIfInBounds_toArray, List.set_cons_zero, List.set_cons_succ] at hK; go_simp; exact hK.out _ _ hB GF.same rfl
              refine StepsM.cons (fun l g' wu hB hl hn hp K hK => ?_) ?_
              · simp only [mkM, maskAS, mixM, Nat.reduceAdd] at hK ⊢; simp only [Act.put, List.setIfInBounds_toArray, List.set_cons_zero, List.set_cons_succ] at hK; go_simp; exact hK.out _ _ hB GF.same rfl
              refine StepsM.cons (fun l g' wu hB hl hn hp K hK => ?_) ?_
              · have hbb := hB; have e9 : g' 35 = .slice ya yl yc := (hp 9 (by decide)).2; have e10 : g' 36 = qv := (hp 10 (by decide)).2; simp only [mkM, maskAS, mixM, Nat.reduceAdd, e9, e10] at hK ⊢; clear e9 e10; simp only [Act.put, List.setIfInBounds_toArray, List.set_cons_zero, List.set_cons_succ] at hK; go_simp; go_at_call 58; refine (rof_any _ _ y q _ (NY.out.below hbb) (HQ2.out.below hbb) HQ0.out.1 HQ0.out.2).mono ?_; rintro e w7 ⟨z, rfl, hz, hb⟩; go_wp2_with fail; exact hK.out _ _ (BB.step hbb hb) (GF.below hb) hz
              refine StepsM.cons (fun l g' wu hB hl hn hp K hK => ?_) ?_
              · have hbb := hB; have h5 : BN wu (g' 31) (x % q) := (hp 5 (by decide)).2; have h11 : BN wu (g' 37) (y % q) := (hp 11 (by decide)).2; simp only [mkM, maskAS, mixM, Nat.reduceAdd] at hK ⊢; simp only [Act.put, List.setIfInBounds_toArray, List.set_cons_zero, List.set_cons_succ] at hK; go_simp; go_at_call 57; refine (bcmp_any _ _ _ _ _ h5 h11).mono ?_; rintro e w7 ⟨rfl, hb⟩; go_wp2_with fail; exact hK.out _ _ (BB.step hbb hb) (GF.below hb) rfl
              refine StepsM.cons (fun l g' wu hB hl hn hp K hK => ?_) ?_
              · have e12 : g' 38 = .int .i64 (cmpNat (x % q) (y % q)) := (hp 12 (by decide)).2; simp only [mkM, maskAS, mixM, Nat.reduceAdd, e12] at hK ⊢; clear e12; simp only [Act.put, List.setIfInBounds_toArray, List.set_cons_zero, List.set_cons_succ] at hK; go_simp; exact hK.out _ _ hB GF.same rfl
              exact StepsM.nil
            · intro l g' wu hall hB hG
              have e13 : g' 39 = .bool (cmpNat (x % q) (y % q) == 0) := hG 13 (by decide)
              have HBU := Lib.hid (HB.out.trans (Below.mono hB HZ.out))
              have HZU : Hid (s ≤ wu.heap.size) := Nat.le_trans HZ.out (Below.size hB)
              simp only [mkM, maskAS, mixM, Nat.reduceAdd, e13]
              clear hG hall e13
              by_cases hxy : x % q = y % q
              · have hcm : (cmpNat (x % q) (y % q) == 0) = true := by rw [hxy]; unfold cmpNat; simp
                have HXY := Lib.hid hxy
                clear hxy
                go_wp2_with fail
                go_ret
                refine ⟨11, rfl, HS.out ▸ HBU.out, .inr (.inr (.inl ⟨by rw [HL.out]; omega, HL.out, fun hd => ?_, rfl⟩))⟩
                exact hd i j (by omega) (by rw [HL.out]; omega) (by rw [HX.out, HY.out]; exact HXY.out)
              · have hcm : (cmpNat (x % q) (y % q) == 0) = false := by
                  rw [beq_eq_false_iff_ne]; unfold cmpNat
                  split
                  · decide
                  · split
                    · decide
                    · omega
                have HXY := Lib.hid hxy
                clear hxy
                go_wp2_with fail
                go_roundw
                case rel => exact ⟨j + 1, by omega, by go_num, (fun j' hj' => by
                  rcases Nat.lt_or_ge j' j with h5 | h5
                  · rw [HX.out]; exact HDJ.out j' h5
                  · obtain rfl : j' = j := by omega
                    rw [HX.out, HY.out]; exact HXY.out), HBU.out, HZU.out⟩
                case measure => simp [intOf]; omega
          · have hj' : j = i := by omega
            subst hj'
            go_wp2_with fail
            go_roundw
            case rel => exact ⟨j + 1, by omega, by go_num, (fun i' j' h1 h2 => by
              rcases Nat.lt_or_ge i' j with h5 | h5
              · exact HD.out i' j' h1 h5
              · obtain rfl : i' = j := by omega
                exact HDJ.out j' h1), HB.out, HZ.out⟩
            case measure => simp [intOf]; omega
      · have hi' : i = len := by omega
        subst hi'
        go_wp2_with fail
        go_ret
        exact ⟨0, rfl, HS.out ▸ HB.out, .inr (.inr (.inr ⟨by rw [HL.out]; have := H0.out; omega, HL.out, (fun i' j h1 h2 => HD.out i' j h1 (by rw [← HL.out]; exact h2)), rfl⟩))⟩
  · have e1 : ((ny : Int) != (len : Int)) = true := by rw [bne_iff_ne]; omega
    have HN := Lib.hid hn
    clear hn
    go_enter Tryz.func16, Tryz.ntmps16
    go_wp2_with fail
    go_ret
    exact ⟨1, rfl, Below.refl _ _, .inr (.inl ⟨by rw [HL.out]; have := H0.out; omega, by rw [HL.out]; exact fun h => HN.out h.symm, rfl⟩)⟩
def tabWE2 (v0 : Value) (v1 : Value) (v2 : Value) (v3 : Value) (v4 : Value) (v5 : Value) (v6 : Value) (v7 : Value) (v8 : Value) (p9 : Fk KpN) (v10 : Value) (p11 : Fk KpN) (p12 : Fk KpN) (p13 : Fk KpN) (v14 : Value) (p15 : Fk KpN) (v16 : Value) : List (Fk KpN) := [.val v0, .val v1, .val v2, .val v3, .val v4, .val v5, .val v6, .val v7, .val v8, p9, .val v10, p11, p12, p13, .val v14, p15, .val v16]
def dstWE2 : List (Option Tmp) := [some 23, some 24, some 25, some 26, some 27, some 28, some 29, some 30, some 31, some 32, some 33, some 34, some 22, some 35, some 36, some 11, some 12]
def preWE2 : List (List Nat) := [[], [], [0, 1], [0, 1, 2], [], [], [4, 5], [4, 5, 6], [], [0, 1, 2, 3, 4, 5, 6, 7, 8], [], [0, 1, 2, 3, 4, 5, 6, 7, 8, 9, 10], [0, 1, 2, 3, 4, 5, 6, 7, 8, 9, 10, 11], [0, 1, 2, 3, 4, 5, 6, 7, 8, 9, 10, 11, 12], [0, 1, 2, 3, 4, 5, 6, 7, 8, 9, 10, 11, 12], [0, 1, 2, 3, 4, 5, 6, 7, 8, 9, 10, 11, 12, 13], [0, 1, 2, 3, 4, 5, 6, 7, 8, 9, 10, 11, 12, 13, 14, 15]]
def maskWE2 : List Bool := [false, false, false, false, false, false, false, false, false, false, false, true, true, false, false, false, false, false, false, false, false, false, true, true, true, true, true, true, true, true, true, true, true, true, true, true, true, false, false, false, false, false, false, false, false, false, false, false, false, false, false, false, false, false]

set_option maxRecDepth 100000 in
set_option maxHeartbeats 4000000 in
theorem bweight_any (qv v xv : Value) (q : Nat) (xs : List Nat) (i x : Nat) (w : World) (hqv : BN w qv q) (hv : BRow w v xs) (hxv : BN w xv x) (hq : Prime q) (hql : Bt.len q ≤ 400) (hd : Dis q xs) (hi : i < xs.length) (hc : (xs.length : Int) ≤ 10000) :
    Calls Tryz.prog 63 #[qv, v, .int .i64 (i : Int), xv] w (RetB (wt q xs x i) w) := by
  obtain ⟨s, hs⟩ : ∃ s, s = w.heap.size := ⟨_, rfl⟩
  have HS := Lib.hid hs
  have HQ := Lib.hid hqv
  have HV := Lib.hid hv
  have HX0 := Lib.hid hxv
  have HPR := Lib.hid hq
  have HQ0 : Hid (0 < q ∧ Bt.len q ≤ 400) := ⟨by have := hq.1; omega, hql⟩
  have HQ1 : Hid (1 < q) := by show _ < _; have := hq.1; omega
  have HD := Lib.hid hd
  obtain ⟨len, hlen⟩ : ∃ len, xs.length = len := ⟨_, rfl⟩
  obtain ⟨a, cap, rfl, hcap⟩ := hv.form
  have HWT := Lib.hid (rW_wt hq hd hi x)
  have HL := Lib.hid hlen
  have HLT : Hid (∀ k, Bt.len (rW q xs i x k) ≤ 400) := fun k => Nat.le_trans (Bt.len_mono (Nat.le_of_lt (rW_lt (by have := hq.1; omega) xs i x k))) hql
  rw [hlen] at HV HWT hcap hc hi ⊢
  have hcap' : (len : Int) ≤ cap := by omega
  obtain ⟨ad, _, _, _, rfl, _, _⟩ := HV.out.get (j := i) (by rw [HL.out]; exact hi)
  clear hqv hv hxv hq hql hd hlen
  go_enter Tryz.func63, Tryz.ntmps63
  go_wp2_with fail
  refine (bsmall_any 1 w (by decide)).mono ?_
  rintro e w2 ⟨o, rfl, ho, hb⟩
  have HO2 := Lib.hid ho
  have HB2 : Hid (Below s w w2) := hs.symm ▸ hb
  have HZ2 : Hid (s ≤ w2.heap.size) := by show _ ≤ _; have := hb.size; omega
  clear ho hb hs
  go_wp2_with fail
  go_loopw [9, 16] (fun ov0 iv wr => ∃ (k : Nat) (ov : Value), ov = ov0 ∧ (k : Int) ≤ len ∧ iv = .int .i64 (k : Int) ∧ Hid (BN wr ov (rW q xs i x k)) ∧ Hid (Below s w wr) ∧ Hid (s ≤ wr.heap.size)) (fun _ iv _ => len - (intOf iv).toNat)
  case atStart => exact ⟨0, _, rfl, by omega, rfl, HO2.out, HB2.out, HZ2.out⟩
  case round =>
    clear HO2 HB2 HZ2
    obtain ⟨k, ov, rfl, hk, rfl, HO, HB, HZ⟩ := hrel
    by_cases hlt : (k : Int) < len
    · by_cases hki : k = i
      · subst hki
        have hne : ((k : Int) == (k : Int)) = true := by simp
        have HST : Hid (rW q xs k x (k + 1) = rW q xs k x k) := by show _ = _; conv => lhs; unfold rW; rw [if_pos rfl]
        go_wp2_with fail
        go_roundw
        case rel => exact ⟨k + 1, _, rfl, by omega, by go_num, HST.out.symm ▸ HO.out, HB.out, HZ.out⟩
        case measure => simp [intOf]; omega
      · have hne : ((k : Int) == (i : Int)) = false := by rw [beq_eq_false_iff_ne]; omega
        have HV2 := Lib.hid (HV.out.below (HS.out ▸ HB.out))
        have HQ2 := Lib.hid (HQ.out.below (HS.out ▸ HB.out))
        obtain ⟨_, xa, xl, xc, e1, gX, nX⟩ := HV2.out.get (j := i) (by rw [HL.out]; exact hi)
        obtain rfl := Option.some.inj e1
        obtain ⟨_, ya, yl, yc, e1, gY, nY⟩ := HV2.out.get (j := k) (by rw [HL.out]; omega)
        obtain rfl := Option.some.inj e1
        obtain ⟨a0, ha0⟩ : ∃ a0, xs.getD i 0 = a0 := ⟨_, rfl⟩
        obtain ⟨y, hy⟩ : ∃ y, xs.getD k 0 = y := ⟨_, rfl⟩
        have hdis : a0 % q ≠ y % q := by
          rw [← ha0, ← hy]
          rcases Nat.lt_or_ge k i with h | h
          · exact HD.out i k h (by rw [HL.out]; exact hi)
          · exact (HD.out k i (by omega) (by rw [HL.out]; omega)).symm
        have hst : rW q xs i x (k + 1) = rW q xs i x k * (subm q x y * invq q (subm q a0 y) % q) % q := by conv => lhs; unfold rW; rw [if_neg hki, ha0, hy]
        obtain ⟨S, hS⟩ : ∃ S, S = subm q a0 y := ⟨_, rfl⟩
        have hSg : Nat.gcd S q = 1 := by rw [Nat.gcd_comm, hS]; exact subm_unit HPR.out hdis
        obtain ⟨I, hI⟩ : ∃ I, invq q S = I := ⟨_, rfl⟩
        have hIu : ∀ x0, x0 < q → Cg q ((x0 * S : Nat) : Int) 1 → x0 = I := fun x0 h1 h2 => by
          rw [← hI]
          refine (invq_eq h1 ?_).symm
          exact Mo.uniq (Mo.of HQ0.out.1 (x0 * S)) (Mo.of HQ0.out.1 1) h2
        have hIl : I < q := by
          obtain ⟨z, h1, h2⟩ := inv_exists HQ0.out.1 (by rw [Nat.gcd_comm]; exact hSg)
          rw [← hI, invq_eq h1 h2]; exact h1
        rw [← hS, hI] at hst
        rw [ha0] at nX
        rw [hy] at nY
        have hsl : Bt.len (subm q x y) ≤ 400 ∧ Bt.len I ≤ 400 ∧ Bt.len (rW q xs i x k) ≤ 400 ∧ Bt.len (subm q x y * I % q) ≤ 400 := ⟨Nat.le_trans (Bt.len_mono (Nat.le_of_lt (subm_lt HQ0.out.1 x y))) HQ0.out.2, Nat.le_trans (Bt.len_mono (Nat.le_of_lt hIl)) HQ0.out.2, HLT.out k, Nat.le_trans (len_mod _ HQ0.out.1) HQ0.out.2⟩
        have HSL := Lib.hid hsl
        have HSB := Lib.hid hS
        have HSG := Lib.hid hSg
        have HIU := Lib.hid hIu
        have HST := Lib.hid hst
        have NX := Lib.hid nX
        have NY := Lib.hid nY
        have b0 : (0 : Int) ≤ (i : Int) := by omega
        have b1 : (i : Int) < (len : Int) := by omega
        have b2 : (i : Int) ≤ (cap : Int) := by omega
        have b3 : (k : Int) ≤ (cap : Int) := by omega
        have b4 : (0 : Int) ≤ (k : Int) := by omega
        clear ha0 hy hdis hst hS hSg hI hIu hIl nX nY hsl e1
        go_wp2_with fail
        refine wp_region_mix (fun _ w' => BB wr w') (GF (tabWE2 (.slice (some ad) len cap) (.int .i64 (i : Int)) (.pointer (some (ad.add i))) (.slice xa xl xc) (.slice (some ad) len cap) (.int .i64 (k : Int)) (.pointer (some (ad.add k))) (.slice ya yl yc) (qv) (Fk.rel (fun v w => BN w v (S)) (fun _ _ _ hb h => h.below hb)) (qv) (Fk.rel (fun v w => ∃ z, v = Value.tuple #[z, .bool true] ∧ BN w z I) (fun _ _ _ hb ⟨z, e, h⟩ => ⟨z, e, h.below hb⟩)) (Fk.rel (fun v w => ∃ z, v = Value.tuple #[z, .bool true] ∧ BN w z I) (fun _ _ _ hb ⟨z, e, h⟩ => ⟨z, e, h.below hb⟩)) (Fk.rel (fun v w => BN w v I) (fun _ _ _ hb h => h.below hb)) (.bool true) (Fk.rel (fun v w => BN w v I) (fun _ _ _ hb h => h.below hb)) (.bool true))) maskWE2 dstWE2 preWE2 (by kernel_rfl) (by kernel_rfl) rfl (by kernel_rfl) (by kernel_rfl) (by kernel_rfl) (by kernel_rfl) (BB.drew (BB.refl _)) ?_ ?_
        · refine StepsM.cons (fun l g' wu hB hl hn hp K hK => ?_) ?_
          · simp only [mkM, maskWE2, mixM, Nat.reduceAdd] at hK ⊢; simp only [Act.put, List.setIfInBounds_toArray, List.set_cons_zero, List.set_cons_succ] at hK; go_simp; exact hK.out _ _ hB GF.same rfl
          refine StepsM.cons (fun l g' wu hB hl hn hp K hK => ?_) ?_
          · simp only [mkM, maskWE2, mixM, Nat.reduceAdd] at hK ⊢; simp only [Act.put, List.setIfInBounds_toArray, List.set_cons_zero, List.set_cons_succ] at hK; go_simp; exact hK.out _ _ hB GF.same rfl
          refine StepsM.cons (fun l g' wu hB hl hn hp K hK => ?_) ?_
          · have e0 : g' 23 = .slice (some ad) len cap := (hp 0 (by decide)).2; have e1 : g' 24 = .int .i64 (i : Int) := (hp 1 (by decide)).2; simp only [mkM, maskWE2, mixM, Nat.reduceAdd, e0, e1] at hK ⊢; clear e0 e1; simp only [Act.put, List.setIfInBounds_toArray, List.set_cons_zero, List.set_cons_succ] at hK; go_simp; exact hK.out _ _ hB GF.same rfl
          refine StepsM.cons (fun l g' wu hB hl hn hp K hK => ?_) ?_
          · have hbb := hB; have e2 : g' 25 = .pointer (some (ad.add i)) := (hp 2 (by decide)).2; have hc := gX _ hbb; simp only [mkM, maskWE2, mixM, Nat.reduceAdd, e2] at hK ⊢; clear e2; simp only [Act.put, List.setIfInBounds_toArray, List.set_cons_zero, List.set_cons_succ] at hK; go_simp; exact hK.out _ _ hB GF.same rfl
          refine StepsM.cons (fun l g' wu hB hl hn hp K hK => ?_) ?_
          · simp only [mkM, maskWE2, mixM, Nat.reduceAdd] at hK ⊢; simp only [Act.put, List.setIfInBounds_toArray, List.set_cons_zero, List.set_cons_succ] at hK; go_simp; exact hK.out _ _ hB GF.same rfl
          refine StepsM.cons (fun l g' wu hB hl hn hp K hK => ?_) ?_
          · simp only [mkM, maskWE2, mixM, Nat.reduceAdd] at hK ⊢; simp only [Act.put, List.setIfInBounds_toArray, List.set_cons_zero, List.set_cons_succ] at hK; go_simp; exact hK.out _ _ hB GF.same rfl
          refine StepsM.cons (fun l g' wu hB hl hn hp K hK => ?_) ?_
          · have e4 : g' 27 = .slice (some ad) len cap := (hp 4 (by decide)).2; have e5 : g' 28 = .int .i64 (k : Int) := (hp 5 (by decide)).2; simp only [mkM, maskWE2, mixM, Nat.reduceAdd, e4, e5] at hK ⊢; clear e4 e5; simp only [Act.put, List.setIfInBounds_toArray, List.set_cons_zero, List.set_cons_succ] at hK; go_simp; exact hK.out _ _ hB GF.same rfl
          refine StepsM.cons (fun l g' wu hB hl hn hp K hK => ?_) ?_
          · have hbb := hB; have e6 : g' 29 = .pointer (some (ad.add k)) := (hp 6 (by decide)).2; have hc := gY _ hbb; simp only [mkM, maskWE2, mixM, Nat.reduceAdd, e6] at hK ⊢; clear e6; simp only [Act.put, List.setIfInBounds_toArray, List.set_cons_zero, List.set_cons_succ] at hK; go_simp; exact hK.out _ _ hB GF.same rfl
          refine StepsM.cons (fun l g' wu hB hl hn hp K hK => ?_) ?_
          · simp only [mkM, maskWE2, mixM, Nat.reduceAdd] at hK ⊢; simp only [Act.put, List.setIfInBounds_toArray, List.set_cons_zero, List.set_cons_succ] at hK; go_simp; exact hK.out _ _ hB GF.same rfl
          refine StepsM.cons (fun l g' wu hB hl hn hp K hK => ?_) ?_
          · have hbb := hB; have e3 : g' 26 = .slice xa xl xc := (hp 3 (by decide)).2; have e7 : g' 30 = .slice ya yl yc := (hp 7 (by decide)).2; have e8 : g' 31 = qv := (hp 8 (by decide)).2; simp only [mkM, maskWE2, mixM, Nat.reduceAdd, e3, e7, e8] at hK ⊢; clear e3 e7 e8; simp only [Act.put, List.setIfInBounds_toArray, List.set_cons_zero, List.set_cons_succ] at hK; go_simp; go_at_call 103; refine (HSB.out.symm ▸ brsub_any _ _ _ a0 y q _ (NX.out.below hbb) (NY.out.below hbb) (HQ2.out.below hbb) HQ0.out.1 HQ0.out.2).mono ?_; rintro e w7 ⟨z, rfl, hz, hb⟩; go_wp2_with fail; exact hK.out _ _ (BB.step hbb hb) (GF.below hb) hz
          refine StepsM.cons (fun l g' wu hB hl hn hp K hK => ?_) ?_
          · simp only [mkM, maskWE2, mixM, Nat.reduceAdd] at hK ⊢; simp only [Act.put, List.setIfInBounds_toArray, List.set_cons_zero, List.set_cons_succ] at hK; go_simp; exact hK.out _ _ hB GF.same rfl
          refine StepsM.cons (fun l g' wu hB hl hn hp K hK => ?_) ?_
          · have hbb := hB; have h9 : BN wu (g' 32) (S) := (hp 9 (by decide)).2; have e10 : g' 33 = qv := (hp 10 (by decide)).2; simp only [mkM, maskWE2, mixM, Nat.reduceAdd, e10] at hK ⊢; clear e10; simp only [Act.put, List.setIfInBounds_toArray, List.set_cons_zero, List.set_cons_succ] at hK; go_simp; go_at_call 102; refine (brinv_any _ _ S q _ h9 (HQ2.out.below hbb) HQ1.out HQ0.out.2 HSG.out).mono ?_; rintro e w7 ⟨z, x0, rfl, hz, hx0, hcg, hb⟩; have ex : x0 = I := HIU.out x0 hx0 hcg; go_wp2_with fail; exact hK.out _ _ (BB.step hbb hb) (GF.below hb) ⟨z, rfl, ex ▸ hz⟩
          refine StepsM.cons (fun l g' wu hB hl hn hp K hK => ?_) ?_
          · have h11 : ∃ z, (g' 34) = Value.tuple #[z, .bool true] ∧ BN wu z I := (hp 11 (by decide)).2; simp only [mkM, maskWE2, mixM, Nat.reduceAdd] at hK ⊢; simp only [Act.put, List.setIfInBounds_toArray, List.set_cons_zero, List.set_cons_succ] at hK; go_simp; exact hK.out _ _ hB GF.same h11
          refine StepsM.cons (fun l g' wu hB hl hn hp K hK => ?_) ?_
          · have h12 : ∃ z, (g' 22) = Value.tuple #[z, .bool true] ∧ BN wu z I := (hp 12 (by decide)).2; obtain ⟨z, ez, hz⟩ := h12; simp only [mkM, maskWE2, mixM, Nat.reduceAdd, ez] at hK ⊢; simp only [Act.put, List.setIfInBounds_toArray, List.set_cons_zero, List.set_cons_succ] at hK; go_simp; exact hK.out _ _ hB GF.same hz
          refine StepsM.cons (fun l g' wu hB hl hn hp K hK => ?_) ?_
          · have h12 : ∃ z, (g' 22) = Value.tuple #[z, .bool true] ∧ BN wu z I := (hp 12 (by decide)).2; obtain ⟨z, ez, hz⟩ := h12; simp only [mkM, maskWE2, mixM, Nat.reduceAdd, ez] at hK ⊢; simp only [Act.put, List.setIfInBounds_toArray, List.set_cons_zero, List.set_cons_succ] at hK; go_simp; exact hK.out _ _ hB GF.same rfl
          refine StepsM.cons (fun l g' wu hB hl hn hp K hK => ?_) ?_
          · have h13 : BN wu (g' 35) I := (hp 13 (by decide)).2; simp only [mkM, maskWE2, mixM, Nat.reduceAdd] at hK ⊢; simp only [Act.put, List.setIfInBounds_toArray, List.set_cons_zero, List.set_cons_succ] at hK; go_simp; exact hK.out _ _ hB GF.same h13
          refine StepsM.cons (fun l g' wu hB hl hn hp K hK => ?_) ?_
          · have e14 : g' 36 = .bool true := (hp 14 (by decide)).2; simp only [mkM, maskWE2, mixM, Nat.reduceAdd, e14] at hK ⊢; clear e14; simp only [Act.put, List.setIfInBounds_toArray, List.set_cons_zero, List.set_cons_succ] at hK; go_simp; exact hK.out _ _ hB GF.same rfl
          exact StepsM.nil
        · intro l g' wu hall hB hG
          have h15 : BN wu (g' 11) I := hG 15 (by decide)
          have e16 : g' 12 = .bool true := hG 16 (by decide)
          have H15 := Lib.hid h15
          have HBU := Lib.hid (HB.out.trans (Below.mono hB HZ.out))
          have HZU : Hid (s ≤ wu.heap.size) := Nat.le_trans HZ.out (Below.size hB)
          have HOU := Lib.hid (HO.out.below hB)
          have HVU := Lib.hid (HV2.out.below hB)
          have HQU := Lib.hid (HQ2.out.below hB)
          have HXU := Lib.hid (HX0.out.below (HS.out ▸ HBU.out))
          have cy := gY wu hB
          have NYU := Lib.hid (NY.out.below hB)
          simp only [mkM, maskWE2, mixM, Nat.reduceAdd]
          obtain ⟨iv, hiv⟩ : ∃ iv, g' 11 = iv := ⟨_, rfl⟩
          rw [hiv] at H15 ⊢
          clear hG hall e16 h15 hiv hB HB HZ HO HV2 HQ2 gX gY NX NY
          go_wp2_with fail
          refine (brsub_any xv (.slice ya yl yc) qv x y q wu HXU.out NYU.out HQU.out HQ0.out.1 HQ0.out.2).mono ?_
          rintro e w3 ⟨z3, rfl, hz, hb⟩
          have HZ3 := Lib.hid hz
          have HI3 := Lib.hid (H15.out.below hb)
          have HO3 := Lib.hid (HOU.out.below hb)
          have HQ3 := Lib.hid (HQU.out.below hb)
          have HB3 := Lib.hid (HBU.out.trans (hb.mono HZU.out))
          have HW3 := Lib.hid (Nat.le_trans HZU.out hb.size)
          clear hz hb H15 HOU HQU HBU HZU HXU NYU cy HVU
          go_wp2_with fail
          refine (brmul_any z3 iv qv (subm q x y) I q w3 HZ3.out HI3.out HQ3.out HQ0.out.1 HQ0.out.2 HSL.out.1 HSL.out.2.1).mono ?_
          rintro e w4 ⟨z4, rfl, hz, hb⟩
          have HZ4 := Lib.hid hz
          have HO4 := Lib.hid (HO3.out.below hb)
          have HQ4 := Lib.hid (HQ3.out.below hb)
          have HB4 := Lib.hid (HB3.out.trans (hb.mono HW3.out))
          have HW4 := Lib.hid (Nat.le_trans HW3.out hb.size)
          clear hz hb HZ3 HI3 HO3 HQ3 HB3 HW3
          go_wp2_with fail
          refine (brmul_any ov z4 qv _ _ q w4 HO4.out HZ4.out HQ4.out HQ0.out.1 HQ0.out.2 HSL.out.2.2.1 HSL.out.2.2.2).mono ?_
          rintro e w5 ⟨z5, rfl, hz, hb⟩
          have HZ5 := Lib.hid hz
          have HB5 := Lib.hid (HB4.out.trans (hb.mono HW4.out))
          have HW5 := Lib.hid (Nat.le_trans HW4.out hb.size)
          clear hz hb HO4 HZ4 HQ4 HB4 HW4
          go_wp2_with fail
          go_roundw
          case rel => exact ⟨k + 1, _, rfl, by omega, by go_num, HST.out.symm ▸ HZ5.out, HB5.out, HW5.out⟩
          case measure => simp [intOf]; omega
    · have hk' : k = len := by omega
      subst hk'
      go_wp2_with fail
      refine (rof_any ov qv _ q wr HO.out (HQ.out.below (HS.out ▸ HB.out)) HQ0.out.1 (by have := HQ0.out.2; omega)).mono ?_
      rw [HWT.out]
      rintro e w3 ⟨z, rfl, hz, hb⟩
      have HZZ := Lib.hid hz
      have HB3 := Lib.hid (HB.out.trans (hb.mono HZ.out))
      clear hz hb
      go_wp2_with fail
      go_ret
      exact ⟨_, rfl, HZZ.out, HS.out ▸ HB3.out⟩
end Go.Proofs.YthefednendgclaaGreat
