/-
  Member of whatever number; Members of whatever row.
-/
import Derived.Test.YthefednendgclaaGreatGrpA
import Derived.Test.YthefednendgclaaGreatInvF
set_option linter.unusedVariables false
set_option linter.unusedSimpArgs false
namespace Go.Proofs.YthefednendgclaaGreat
open Go Go.RowKit Sac

theorem cmp_dge {n m : Nat} (h : m ≤ n) : decide (cmpNat n m < 0) = false := by
  rw [decide_eq_false_iff_not]; unfold cmpNat; rw [if_neg (by omega)]; split <;> decide
def tabMEA (v0 : Value) (v1 : Value) (v2 : Value) (v3 : Value) (v4 : Value) (v5 : Value) (v6 : Value) (v7 : Value) (v8 : Value) (v9 : Value) (v10 : Value) (v11 : Value) (v12 : Value) (v13 : Value) (v14 : Value) (v15 : Value) (v16 : Value) (v17 : Value) (v18 : Value) (v19 : Value) (v20 : Value) (v21 : Value) (v22 : Value) (v23 : Value) (v24 : Value) (v25 : Value) (v26 : Value) (v27 : Value) (v28 : Value) (v29 : Value) (v30 : Value) : List (Fk KpN) := [.val v0, .val v1, .val v2, .val v3, .val v4, .val v5, .val v6, .val v7, .val v8, .val v9, .val v10, .val v11, .val v12, .val v13, .val v14, .val v15, .val v16, .val v17, .val v18, .val v19, .val v20, .val v21, .val v22, .val v23, .val v24, .val v25, .val v26, .val v27, .val v28, .val v29, .val v30]
def dstMEA : List (Option Tmp) := [some 5, some 6, some 7, some 8, some 9, some 10, some 11, some 12, some 13, some 14, some 15, some 16, some 17, some 18, some 19, some 20, some 21, some 22, some 23, some 24, some 25, some 26, some 27, some 28, some 29, some 30, some 31, some 32, some 33, some 34, some 4]
def preMEA : List (List Nat) := [[], [0], [0, 1], [0, 1, 2], [0, 1, 2, 3], [0, 1, 2, 3, 4], [0, 1, 2, 3, 4, 5], [0, 1, 2, 3, 4, 5, 6], [0, 1, 2, 3, 4, 5, 6, 7], [0, 1, 2, 3, 4, 5, 6, 7], [0, 1, 2, 3, 4, 5, 6, 7, 9], [0, 1, 2, 3, 4, 5, 6, 7, 8, 9, 10], [0, 1, 2, 3, 4, 5, 6, 7, 8, 9, 10, 11], [0, 1, 2, 3, 4, 5, 6, 7, 8, 9, 10, 11, 12], [0, 1, 2, 3, 4, 5, 6, 7, 8, 9, 10, 11, 12, 13], [0, 1, 2, 3, 4, 5, 6, 7, 8, 9, 10, 11, 12, 13, 14], [0, 1, 2, 3, 4, 5, 6, 7, 8, 9, 10, 11, 12, 13, 14, 15], [0, 1, 2, 3, 4, 5, 6, 7, 8, 9, 10, 11, 12, 13, 14, 15, 16], [0, 1, 2, 3, 4, 5, 6, 7, 8, 9, 10, 11, 12, 13, 14, 15, 16, 17], [0, 1, 2, 3, 4, 5, 6, 7, 8, 9, 10, 11, 12, 13, 14], [0, 1, 2, 3, 4, 5, 6, 7, 8, 9, 10, 11, 12, 13, 14], [0, 1, 2, 3, 4, 5, 6, 7, 8, 9, 10, 11, 12, 13, 14, 20], [0, 1, 2, 3, 4, 5, 6, 7, 8, 9, 10, 11, 12, 13, 14, 20, 21], [0, 1, 2, 3, 4, 5, 6, 7, 8, 9, 10, 11, 12, 13, 14, 20, 21, 22], [0, 1, 2, 3, 4, 5, 6, 7, 8, 9, 10, 11, 12, 13, 14, 20, 21, 22, 23], [0, 1, 2, 3, 4, 5, 6, 7, 8, 9, 10, 11, 12, 13, 14, 15, 16, 17, 18, 19, 20, 21, 22, 23, 24], [0, 1, 2, 3, 4, 5, 6, 7, 8, 9, 10, 11, 12, 13, 14, 15, 16, 17, 18, 19, 20, 21, 22, 23, 24, 25], [0, 1, 2, 3, 4, 5, 6, 7, 8, 9, 10, 11, 12, 13, 14, 15, 16, 17, 18, 19, 20, 21, 22, 23, 24, 25, 26], [0, 1, 2, 3, 4, 5, 6, 7, 8, 9, 10, 11, 12, 13, 14, 15, 16, 17, 18, 19, 20, 21, 22, 23, 24, 25, 26, 27], [0, 1, 2, 3, 4, 5, 6, 7, 8, 9, 10, 11, 12, 13, 14, 15, 16, 17, 18, 19, 20, 21, 22, 23, 24, 25, 26, 27, 28], [0, 1, 2, 3, 4, 5, 6, 7, 8, 9, 10, 11, 12, 13, 14, 15, 16, 17, 18, 19, 20, 21, 22, 23, 24, 25, 26, 27, 28, 29]]
def maskMEA : List Bool := [false, false, false, false, true, true, true, true, true, true, true, true, true, true, true, true, true, true, true, true, true, true, true, true, true, true, true, true, true, true, true, true, true, true, true]
def tabMEB (v0 : Value) (v1 : Value) (v2 : Value) (v3 : Value) (v4 : Value) (v5 : Value) (v6 : Value) (v7 : Value) (v8 : Value) (v9 : Value) (n10 : Nat) (v11 : Value) (v12 : Value) (v13 : Value) (v14 : Value) (v15 : Value) (v16 : Value) (v17 : Value) (v18 : Value) (v19 : Value) (v20 : Value) (v21 : Value) (v22 : Value) (v23 : Value) (v24 : Value) (v25 : Value) (v26 : Value) (v27 : Value) (v28 : Value) (v29 : Value) (v30 : Value) : List (Fk KpN) := [.val v0, .val v1, .val v2, .val v3, .val v4, .val v5, .val v6, .val v7, .val v8, .val v9, Fk.nat (fun _ _ h => h) n10, .val v11, .val v12, .val v13, .val v14, .val v15, .val v16, .val v17, .val v18, .val v19, .val v20, .val v21, .val v22, .val v23, .val v24, .val v25, .val v26, .val v27, .val v28, .val v29, .val v30]
def tabMEC (v0 : Value) (v1 : Value) (v2 : Value) (v3 : Value) (v4 : Value) (v5 : Value) (v6 : Value) (v7 : Value) (v8 : Value) (v9 : Value) (n10 : Nat) (v11 : Value) (v12 : Value) (v13 : Value) (v14 : Value) (v15 : Value) (v16 : Value) (v17 : Value) (v18 : Value) (v19 : Value) (v20 : Value) (v21 : Value) (v22 : Value) (v23 : Value) (n24 : Nat) (n25 : Nat) (n26 : Nat) (v27 : Value) (v28 : Value) (v29 : Value) (v30 : Value) : List (Fk KpN) := [.val v0, .val v1, .val v2, .val v3, .val v4, .val v5, .val v6, .val v7, .val v8, .val v9, Fk.nat (fun _ _ h => h) n10, .val v11, .val v12, .val v13, .val v14, .val v15, .val v16, .val v17, .val v18, .val v19, .val v20, .val v21, .val v22, .val v23, Fk.nat (fun _ _ h => h) n24, Fk.nat (fun _ _ h => h) n25, Fk.nat (fun _ _ h => h) n26, .val v27, .val v28, .val v29, .val v30]

set_option maxRecDepth 100000 in
set_option maxHeartbeats 4000000 in
theorem gmember_any (g P Q G H sz : Nat) (a : Option Addr) (len cap n : Nat) (w : World) (h : GroupAt w g P Q G H sz) (hn : NatS w a len n) :
    Calls Tryz.prog 89 #[.pointer (some ⟨g, 0, none⟩), .agg #[.slice a len cap]] w fun e w' => e = .returned (.bool (decide (IsMember P Q n))) ∧ Below w.heap.size w w' := by
  have hb1 := (Below.refl _ w).alloc (Nat.le_refl _) (Obj.cells #[Value.slice a len cap] 36)
  have hG1 := h.below hb1
  have HG := Lib.hid hG1
  have HN := Lib.hid (hn.below hb1)
  have HB := Lib.hid hb1
  obtain ⟨s, hs⟩ : ∃ s, s = w.heap.size := ⟨_, rfl⟩
  have hbs : Blk (w.alloc (Obj.cells #[Value.slice a len cap] 36)) s 36 [.slice a len cap] := Blk.new' w _ _ s hs
  obtain ⟨rp, rq, ga, gl, gc, ha, hl, hc, hBg, hP, hQ, _, _⟩ := hG1
  have HP := Lib.hid hP
  have HQ := Lib.hid hQ
  have g0 : ∀ w', BB (w.alloc (Obj.cells #[Value.slice a len cap] 36)) w' → w'.cell? ⟨g, 0, none⟩ = some (.pointer (some ⟨rp, 0, none⟩)) := fun w' h => (h.cell hBg.lt).trans (hBg.cell 0)
  have g1 : ∀ w', BB (w.alloc (Obj.cells #[Value.slice a len cap] 36)) w' → w'.cell? ⟨g, 1, none⟩ = some (.pointer (some ⟨rq, 0, none⟩)) := fun w' h => (h.cell hBg.lt).trans (hBg.cell 1)
  have gA : ∀ w', BB (w.alloc (Obj.cells #[Value.slice a len cap] 36)) w' → w'.cell? ⟨s, 0, none⟩ = some (.slice a len cap) := fun w' h => (h.cell hbs.lt).trans (hbs.cell 0)
  clear h hn hb1 hP hQ hBg hbs
  go_enter Tryz.func89, Tryz.ntmps89
  go_wp2_with fail
  rw [← hs]
  clear hs
  generalize w.alloc (Obj.cells #[Value.slice a len cap] 36) = w1 at HG HN HB HP HQ g0 g1 gA ⊢
  by_cases hz0 : n = 0
  · have hz : (n == 0) = true := by rw [hz0]; rfl
    have HZ := Lib.hid hz0
    clear hz0
    refine wp_region_mix (fun _ w' => BB w1 w') (GF (tabMEA (.pointer (some ⟨g, 0, none⟩)) (.bool true) (.bool true) (.agg #[.slice a len cap]) (.bool true) (.bool false) (.bool false) (.bool false) (undef) (undef) (undef) (undef) (undef) (.bool false) (.bool false) (undef) (undef) (undef) (undef) (undef) (undef) (undef) (undef) (undef) (undef) (undef) (undef) (undef) (undef) (.bool false) (.bool false))) maskMEA dstMEA preMEA (by kernel_rfl) (by kernel_rfl) rfl (by kernel_rfl) (by kernel_rfl) (by kernel_rfl) (by kernel_rfl) (BB.drew (BB.refl _)) ?_ ?_
    · refine StepsM.cons ?qMEA0 (StepsM.cons ?qMEA1 (StepsM.cons ?qMEA2 (StepsM.cons ?qMEA3 (StepsM.cons ?qMEA4 (StepsM.cons ?qMEA5 (StepsM.cons ?qMEA6 (StepsM.cons ?qMEA7 (StepsM.cons ?qMEA8 (StepsM.cons ?qMEA9 (StepsM.cons ?qMEA10 (StepsM.cons ?qMEA11 (StepsM.cons ?qMEA12 (StepsM.cons ?qMEA13 (StepsM.cons ?qMEA14 (StepsM.cons ?qMEA15 (StepsM.cons ?qMEA16 (StepsM.cons ?qMEA17 (StepsM.cons ?qMEA18 (StepsM.cons ?qMEA19 (StepsM.cons ?qMEA20 (StepsM.cons ?qMEA21 (StepsM.cons ?qMEA22 (StepsM.cons ?qMEA23 (StepsM.cons ?qMEA24 (StepsM.cons ?qMEA25 (StepsM.cons ?qMEA26 (StepsM.cons ?qMEA27 (StepsM.cons ?qMEA28 (StepsM.cons ?qMEA29 (StepsM.cons ?qMEA30 (StepsM.nil)))))))))))))))))))))))))))))))
      case qMEA0 =>
        refine fun l g' wu hB hl hn hp K hK => ?_
        simp only [mkM, maskMEA, mixM, Nat.reduceAdd] at hK ⊢; simp only [Act.put, List.setIfInBounds_toArray, List.set_cons_zero, List.set_cons_succ] at hK; go_simp; exact hK.out _ _ hB GF.same rfl
      case qMEA1 =>
        refine fun l g' wu hB hl hn hp K hK => ?_
        have e0 : g' 5 = .pointer (some ⟨g, 0, none⟩) := (hp 0 (by decide)).2; simp only [mkM, maskMEA, mixM, Nat.reduceAdd, e0] at hK ⊢; clear e0; simp only [Act.put, List.setIfInBounds_toArray, List.set_cons_zero, List.set_cons_succ] at hK; go_simp; exact hK.out _ _ hB GF.same rfl
      case qMEA2 =>
        refine fun l g' wu hB hl hn hp K hK => ?_
        have e1 : g' 6 = .bool true := (hp 1 (by decide)).2; simp only [mkM, maskMEA, mixM, Nat.reduceAdd, e1] at hK ⊢; clear e1; simp only [Act.put, List.setIfInBounds_toArray, List.set_cons_zero, List.set_cons_succ] at hK; go_simp; exact hK.out _ _ hB GF.same rfl
      case qMEA3 =>
        refine fun l g' wu hB hl hn hp K hK => ?_
        have hbb := hB; have e2 : g' 7 = .bool true := (hp 2 (by decide)).2; have hc := gA _ hbb; simp only [mkM, maskMEA, mixM, Nat.reduceAdd, e2] at hK ⊢; clear e2; simp only [Act.put, List.setIfInBounds_toArray, List.set_cons_zero, List.set_cons_succ] at hK; go_simp; exact hK.out _ _ hB GF.same rfl
      case qMEA4 =>
        refine fun l g' wu hB hl hn hp K hK => ?_
        have hbb := hB; have e2 : g' 7 = .bool true := (hp 2 (by decide)).2; have e3 : g' 8 = .agg #[.slice a len cap] := (hp 3 (by decide)).2; simp only [mkM, maskMEA, mixM, Nat.reduceAdd, e2, e3] at hK ⊢; clear e2 e3; simp only [Act.put, List.setIfInBounds_toArray, List.set_cons_zero, List.set_cons_succ] at hK; go_simp; go_at_call 18; refine (zero_s a len cap n _ (HN.out.below hbb)).mono ?_; rw [hz]; rintro e w7 ⟨rfl, hb⟩; go_wp2_with fail; exact hK.out _ _ (BB.step hbb hb) (GF.below hb) rfl
      case qMEA5 =>
        refine fun l g' wu hB hl hn hp K hK => ?_
        have e2 : g' 7 = .bool true := (hp 2 (by decide)).2; have e4 : g' 9 = .bool true := (hp 4 (by decide)).2; simp only [mkM, maskMEA, mixM, Nat.reduceAdd, e2, e4] at hK ⊢; clear e2 e4; simp only [Act.put, List.setIfInBounds_toArray, List.set_cons_zero, List.set_cons_succ] at hK; go_simp; exact hK.out _ _ hB GF.same rfl
      case qMEA6 =>
        refine fun l g' wu hB hl hn hp K hK => ?_
        have e2 : g' 7 = .bool true := (hp 2 (by decide)).2; have e5 : g' 10 = .bool false := (hp 5 (by decide)).2; simp only [mkM, maskMEA, mixM, Nat.reduceAdd, e2, e5] at hK ⊢; clear e2 e5; simp only [Act.put, List.setIfInBounds_toArray, List.set_cons_zero, List.set_cons_succ] at hK; go_simp; exact hK.out _ _ hB GF.same rfl
      case qMEA7 =>
        refine fun l g' wu hB hl hn hp K hK => ?_
        have e6 : g' 11 = .bool false := (hp 6 (by decide)).2; simp only [mkM, maskMEA, mixM, Nat.reduceAdd, e6] at hK ⊢; clear e6; simp only [Act.put, List.setIfInBounds_toArray, List.set_cons_zero, List.set_cons_succ] at hK; go_simp; exact hK.out _ _ hB GF.same rfl
      case qMEA8 | qMEA9 | qMEA10 | qMEA11 | qMEA12 | qMEA13 =>
        refine fun l g' wu hB hl hn hp K hK => ?_
        have e7 : g' 12 = .bool false := (hp 7 (by decide)).2; simp only [mkM, maskMEA, mixM, Nat.reduceAdd, e7] at hK ⊢; clear e7; simp only [Act.put, List.setIfInBounds_toArray, List.set_cons_zero, List.set_cons_succ] at hK; go_simp; exact hK.out _ _ hB GF.same rfl
      case qMEA14 =>
        refine fun l g' wu hB hl hn hp K hK => ?_
        have e13 : g' 18 = .bool false := (hp 13 (by decide)).2; simp only [mkM, maskMEA, mixM, Nat.reduceAdd, e13] at hK ⊢; clear e13; simp only [Act.put, List.setIfInBounds_toArray, List.set_cons_zero, List.set_cons_succ] at hK; go_simp; exact hK.out _ _ hB GF.same rfl
      case qMEA15 | qMEA16 | qMEA17 | qMEA18 | qMEA19 | qMEA20 | qMEA21 | qMEA22 | qMEA23 | qMEA24 | qMEA25 | qMEA26 | qMEA27 | qMEA28 | qMEA29 =>
        refine fun l g' wu hB hl hn hp K hK => ?_
        have e14 : g' 19 = .bool false := (hp 14 (by decide)).2; simp only [mkM, maskMEA, mixM, Nat.reduceAdd, e14] at hK ⊢; clear e14; simp only [Act.put, List.setIfInBounds_toArray, List.set_cons_zero, List.set_cons_succ] at hK; go_simp; exact hK.out _ _ hB GF.same rfl
      case qMEA30 =>
        refine fun l g' wu hB hl hn hp K hK => ?_
        have e29 : g' 34 = .bool false := (hp 29 (by decide)).2; simp only [mkM, maskMEA, mixM, Nat.reduceAdd, e29] at hK ⊢; clear e29; simp only [Act.put, List.setIfInBounds_toArray, List.set_cons_zero, List.set_cons_succ] at hK; go_simp; exact hK.out _ _ hB GF.same rfl
    · intro l g' wu hall hB hG
      have e30 : g' 4 = .bool false := hG 30 (by decide)
      simp only [mkM, maskMEA, mixM, Nat.reduceAdd, e30]
      clear hG hall e30
      go_wp2_with fail
      go_ret
      exact ⟨ret_bool (decide_eq_false (fun h => h.1 HZ.out)).symm, HB.out.trans (Below.mono hB HB.out.size)⟩
  · have hz : (n == 0) = false := by rw [beq_eq_false_iff_ne]; exact hz0
    have HZ := Lib.hid hz0
    clear hz0
    by_cases hc : P ≤ n
    · have hd := cmp_dge hc
      have HC := Lib.hid hc
      clear hc
      refine wp_region_mix (fun _ w' => BB w1 w') (GF (tabMEB (.pointer (some ⟨g, 0, none⟩)) (.bool true) (.bool true) (.agg #[.slice a len cap]) (.bool false) (.bool true) (.bool true) (.bool true) (.agg #[.slice a len cap]) (.pointer (some ⟨g, 0, none⟩)) (P) (.int .i64 (cmpNat n P)) (.bool false) (.bool false) (.bool false) (undef) (undef) (undef) (undef) (undef) (undef) (undef) (undef) (undef) (undef) (undef) (undef) (undef) (undef) (.bool false) (.bool false))) maskMEA dstMEA preMEA (by kernel_rfl) (by kernel_rfl) rfl (by kernel_rfl) (by kernel_rfl) (by kernel_rfl) (by kernel_rfl) (BB.drew (BB.refl _)) ?_ ?_
      · refine StepsM.cons ?qMEB0 (StepsM.cons ?qMEB1 (StepsM.cons ?qMEB2 (StepsM.cons ?qMEB3 (StepsM.cons ?qMEB4 (StepsM.cons ?qMEB5 (StepsM.cons ?qMEB6 (StepsM.cons ?qMEB7 (StepsM.cons ?qMEB8 (StepsM.cons ?qMEB9 (StepsM.cons ?qMEB10 (StepsM.cons ?qMEB11 (StepsM.cons ?qMEB12 (StepsM.cons ?qMEB13 (StepsM.cons ?qMEB14 (StepsM.cons ?qMEB15 (StepsM.cons ?qMEB16 (StepsM.cons ?qMEB17 (StepsM.cons ?qMEB18 (StepsM.cons ?qMEB19 (StepsM.cons ?qMEB20 (StepsM.cons ?qMEB21 (StepsM.cons ?qMEB22 (StepsM.cons ?qMEB23 (StepsM.cons ?qMEB24 (StepsM.cons ?qMEB25 (StepsM.cons ?qMEB26 (StepsM.cons ?qMEB27 (StepsM.cons ?qMEB28 (StepsM.cons ?qMEB29 (StepsM.cons ?qMEB30 (StepsM.nil)))))))))))))))))))))))))))))))
        case qMEB0 =>
          refine fun l g' wu hB hl hn hp K hK => ?_
          simp only [mkM, maskMEA, mixM, Nat.reduceAdd] at hK ⊢; simp only [Act.put, List.setIfInBounds_toArray, List.set_cons_zero, List.set_cons_succ] at hK; go_simp; exact hK.out _ _ hB GF.same rfl
        case qMEB1 =>
          refine fun l g' wu hB hl hn hp K hK => ?_
          have e0 : g' 5 = .pointer (some ⟨g, 0, none⟩) := (hp 0 (by decide)).2; simp only [mkM, maskMEA, mixM, Nat.reduceAdd, e0] at hK ⊢; clear e0; simp only [Act.put, List.setIfInBounds_toArray, List.set_cons_zero, List.set_cons_succ] at hK; go_simp; exact hK.out _ _ hB GF.same rfl
        case qMEB2 =>
          refine fun l g' wu hB hl hn hp K hK => ?_
          have e1 : g' 6 = .bool true := (hp 1 (by decide)).2; simp only [mkM, maskMEA, mixM, Nat.reduceAdd, e1] at hK ⊢; clear e1; simp only [Act.put, List.setIfInBounds_toArray, List.set_cons_zero, List.set_cons_succ] at hK; go_simp; exact hK.out _ _ hB GF.same rfl
        case qMEB3 =>
          refine fun l g' wu hB hl hn hp K hK => ?_
          have hbb := hB; have e2 : g' 7 = .bool true := (hp 2 (by decide)).2; have hc := gA _ hbb; simp only [mkM, maskMEA, mixM, Nat.reduceAdd, e2] at hK ⊢; clear e2; simp only [Act.put, List.setIfInBounds_toArray, List.set_cons_zero, List.set_cons_succ] at hK; go_simp; exact hK.out _ _ hB GF.same rfl
        case qMEB4 =>
          refine fun l g' wu hB hl hn hp K hK => ?_
          have hbb := hB; have e2 : g' 7 = .bool true := (hp 2 (by decide)).2; have e3 : g' 8 = .agg #[.slice a len cap] := (hp 3 (by decide)).2; simp only [mkM, maskMEA, mixM, Nat.reduceAdd, e2, e3] at hK ⊢; clear e2 e3; simp only [Act.put, List.setIfInBounds_toArray, List.set_cons_zero, List.set_cons_succ] at hK; go_simp; go_at_call 18; refine (zero_s a len cap n _ (HN.out.below hbb)).mono ?_; rw [hz]; rintro e w7 ⟨rfl, hb⟩; go_wp2_with fail; exact hK.out _ _ (BB.step hbb hb) (GF.below hb) rfl
        case qMEB5 =>
          refine fun l g' wu hB hl hn hp K hK => ?_
          have e2 : g' 7 = .bool true := (hp 2 (by decide)).2; have e4 : g' 9 = .bool false := (hp 4 (by decide)).2; simp only [mkM, maskMEA, mixM, Nat.reduceAdd, e2, e4] at hK ⊢; clear e2 e4; simp only [Act.put, List.setIfInBounds_toArray, List.set_cons_zero, List.set_cons_succ] at hK; go_simp; exact hK.out _ _ hB GF.same rfl
        case qMEB6 =>
          refine fun l g' wu hB hl hn hp K hK => ?_
          have e2 : g' 7 = .bool true := (hp 2 (by decide)).2; have e5 : g' 10 = .bool true := (hp 5 (by decide)).2; simp only [mkM, maskMEA, mixM, Nat.reduceAdd, e2, e5] at hK ⊢; clear e2 e5; simp only [Act.put, List.setIfInBounds_toArray, List.set_cons_zero, List.set_cons_succ] at hK; go_simp; exact hK.out _ _ hB GF.same rfl
        case qMEB7 =>
          refine fun l g' wu hB hl hn hp K hK => ?_
          have e6 : g' 11 = .bool true := (hp 6 (by decide)).2; simp only [mkM, maskMEA, mixM, Nat.reduceAdd, e6] at hK ⊢; clear e6; simp only [Act.put, List.setIfInBounds_toArray, List.set_cons_zero, List.set_cons_succ] at hK; go_simp; exact hK.out _ _ hB GF.same rfl
        case qMEB8 =>
          refine fun l g' wu hB hl hn hp K hK => ?_
          have hbb := hB; have e7 : g' 12 = .bool true := (hp 7 (by decide)).2; have hc := gA _ hbb; simp only [mkM, maskMEA, mixM, Nat.reduceAdd, e7] at hK ⊢; clear e7; simp only [Act.put, List.setIfInBounds_toArray, List.set_cons_zero, List.set_cons_succ] at hK; go_simp; exact hK.out _ _ hB GF.same rfl
        case qMEB9 =>
          refine fun l g' wu hB hl hn hp K hK => ?_
          have e7 : g' 12 = .bool true := (hp 7 (by decide)).2; simp only [mkM, maskMEA, mixM, Nat.reduceAdd, e7] at hK ⊢; clear e7; simp only [Act.put, List.setIfInBounds_toArray, List.set_cons_zero, List.set_cons_succ] at hK; go_simp; exact hK.out _ _ hB GF.same rfl
        case qMEB10 =>
          refine fun l g' wu hB hl hn hp K hK => ?_
          have hbb := hB; have e7 : g' 12 = .bool true := (hp 7 (by decide)).2; have e9 : g' 14 = .pointer (some ⟨g, 0, none⟩) := (hp 9 (by decide)).2; simp only [mkM, maskMEA, mixM, Nat.reduceAdd, e7, e9] at hK ⊢; clear e7 e9; simp only [Act.put, List.setIfInBounds_toArray, List.set_cons_zero, List.set_cons_succ] at hK; go_simp; go_at_call 43; refine (gp_any g P Q G H sz _ (HG.out.below hbb)).mono ?_; rintro e w7 ⟨ta, tl, tc, rfl, hx, hb⟩; go_wp2_with fail; exact hK.out _ _ (BB.step hbb hb) (GF.below hb) ⟨ta, tl, tc, rfl, hx⟩
        case qMEB11 =>
          refine fun l g' wu hB hl hn hp K hK => ?_
          have hbb := hB; have e7 : g' 12 = .bool true := (hp 7 (by decide)).2; have e8 : g' 13 = .agg #[.slice a len cap] := (hp 8 (by decide)).2; obtain ⟨x10, l10, c10, e10, h10⟩ := (hp 10 (by decide)).2; have e10 : g' 15 = .agg #[.slice x10 l10 c10] := e10; simp only [mkM, maskMEA, mixM, Nat.reduceAdd, e7, e8, e10] at hK ⊢; clear e7 e8 e10; simp only [Act.put, List.setIfInBounds_toArray, List.set_cons_zero, List.set_cons_succ] at hK; go_simp; go_at_call 31; refine (cmp_s a x10 len cap l10 c10 n P _ (HN.out.below hbb) h10).mono ?_; rintro e w7 ⟨rfl, hb⟩; go_wp2_with fail; exact hK.out _ _ (BB.step hbb hb) (GF.below hb) rfl
        case qMEB12 =>
          refine fun l g' wu hB hl hn hp K hK => ?_
          have e7 : g' 12 = .bool true := (hp 7 (by decide)).2; have e11 : g' 16 = .int .i64 (cmpNat n P) := (hp 11 (by decide)).2; simp only [mkM, maskMEA, mixM, Nat.reduceAdd, e7, e11] at hK ⊢; clear e7 e11; simp only [Act.put, List.setIfInBounds_toArray, List.set_cons_zero, List.set_cons_succ] at hK; go_simp; exact hK.out _ _ hB GF.same rfl
        case qMEB13 =>
          refine fun l g' wu hB hl hn hp K hK => ?_
          have e7 : g' 12 = .bool true := (hp 7 (by decide)).2; have e12 : g' 17 = .bool false := (hp 12 (by decide)).2; simp only [mkM, maskMEA, mixM, Nat.reduceAdd, e7, e12] at hK ⊢; clear e7 e12; simp only [Act.put, List.setIfInBounds_toArray, List.set_cons_zero, List.set_cons_succ] at hK; go_simp; exact hK.out _ _ hB GF.same rfl
        case qMEB14 =>
          refine fun l g' wu hB hl hn hp K hK => ?_
          have e13 : g' 18 = .bool false := (hp 13 (by decide)).2; simp only [mkM, maskMEA, mixM, Nat.reduceAdd, e13] at hK ⊢; clear e13; simp only [Act.put, List.setIfInBounds_toArray, List.set_cons_zero, List.set_cons_succ] at hK; go_simp; exact hK.out _ _ hB GF.same rfl
        case qMEB15 | qMEB16 | qMEB17 | qMEB18 | qMEB19 | qMEB20 | qMEB21 | qMEB22 | qMEB23 | qMEB24 | qMEB25 | qMEB26 | qMEB27 | qMEB28 | qMEB29 =>
          refine fun l g' wu hB hl hn hp K hK => ?_
          have e14 : g' 19 = .bool false := (hp 14 (by decide)).2; simp only [mkM, maskMEA, mixM, Nat.reduceAdd, e14] at hK ⊢; clear e14; simp only [Act.put, List.setIfInBounds_toArray, List.set_cons_zero, List.set_cons_succ] at hK; go_simp; exact hK.out _ _ hB GF.same rfl
        case qMEB30 =>
          refine fun l g' wu hB hl hn hp K hK => ?_
          have e29 : g' 34 = .bool false := (hp 29 (by decide)).2; simp only [mkM, maskMEA, mixM, Nat.reduceAdd, e29] at hK ⊢; clear e29; simp only [Act.put, List.setIfInBounds_toArray, List.set_cons_zero, List.set_cons_succ] at hK; go_simp; exact hK.out _ _ hB GF.same rfl
      · intro l g' wu hall hB hG
        have e30 : g' 4 = .bool false := hG 30 (by decide)
        simp only [mkM, maskMEA, mixM, Nat.reduceAdd, e30]
        clear hG hall e30
        go_wp2_with fail
        go_ret
        exact ⟨ret_bool (decide_eq_false (fun h => by have := h.2.1; have := HC.out; omega)).symm, HB.out.trans (Below.mono hB HB.out.size)⟩
    · have hc' : n < P := by omega
      have hd := cmp_lt hc'
      have HC := Lib.hid hc'
      clear hc hc'
      refine wp_region_mix (fun _ w' => BB w1 w') (GF (tabMEC (.pointer (some ⟨g, 0, none⟩)) (.bool true) (.bool true) (.agg #[.slice a len cap]) (.bool false) (.bool true) (.bool true) (.bool true) (.agg #[.slice a len cap]) (.pointer (some ⟨g, 0, none⟩)) (P) (.int .i64 (cmpNat n P)) (.bool true) (.bool true) (.bool true) (.pointer (some ⟨g, 0, none⟩)) (.pointer (some ⟨g, 0, none⟩)) (.pointer (some ⟨g, 0, none⟩)) (.pointer (some ⟨rp, 0, none⟩)) (.agg #[.slice a len cap]) (.pointer (some ⟨g, 0, none⟩)) (.pointer (some ⟨g, 0, none⟩)) (.pointer (some ⟨g, 1, none⟩)) (.pointer (some ⟨rq, 0, none⟩)) (Q) (n ^ Q % P) (1) (.int .i64 (cmpNat (n ^ Q % P) 1)) (.bool (cmpNat (n ^ Q % P) 1 == 0)) (.bool (cmpNat (n ^ Q % P) 1 == 0)) (.bool (cmpNat (n ^ Q % P) 1 == 0)))) maskMEA dstMEA preMEA (by kernel_rfl) (by kernel_rfl) rfl (by kernel_rfl) (by kernel_rfl) (by kernel_rfl) (by kernel_rfl) (BB.drew (BB.refl _)) ?_ ?_
      · refine StepsM.cons ?qMEC0 (StepsM.cons ?qMEC1 (StepsM.cons ?qMEC2 (StepsM.cons ?qMEC3 (StepsM.cons ?qMEC4 (StepsM.cons ?qMEC5 (StepsM.cons ?qMEC6 (StepsM.cons ?qMEC7 (StepsM.cons ?qMEC8 (StepsM.cons ?qMEC9 (StepsM.cons ?qMEC10 (StepsM.cons ?qMEC11 (StepsM.cons ?qMEC12 (StepsM.cons ?qMEC13 (StepsM.cons ?qMEC14 (StepsM.cons ?qMEC15 (StepsM.cons ?qMEC16 (StepsM.cons ?qMEC17 (StepsM.cons ?qMEC18 (StepsM.cons ?qMEC19 (StepsM.cons ?qMEC20 (StepsM.cons ?qMEC21 (StepsM.cons ?qMEC22 (StepsM.cons ?qMEC23 (StepsM.cons ?qMEC24 (StepsM.cons ?qMEC25 (StepsM.cons ?qMEC26 (StepsM.cons ?qMEC27 (StepsM.cons ?qMEC28 (StepsM.cons ?qMEC29 (StepsM.cons ?qMEC30 (StepsM.nil)))))))))))))))))))))))))))))))
        case qMEC0 =>
          refine fun l g' wu hB hl hn hp K hK => ?_
          simp only [mkM, maskMEA, mixM, Nat.reduceAdd] at hK ⊢; simp only [Act.put, List.setIfInBounds_toArray, List.set_cons_zero, List.set_cons_succ] at hK; go_simp; exact hK.out _ _ hB GF.same rfl
        case qMEC1 =>
          refine fun l g' wu hB hl hn hp K hK => ?_
          have e0 : g' 5 = .pointer (some ⟨g, 0, none⟩) := (hp 0 (by decide)).2; simp only [mkM, maskMEA, mixM, Nat.reduceAdd, e0] at hK ⊢; clear e0; simp only [Act.put, List.setIfInBounds_toArray, List.set_cons_zero, List.set_cons_succ] at hK; go_simp; exact hK.out _ _ hB GF.same rfl
        case qMEC2 =>
          refine fun l g' wu hB hl hn hp K hK => ?_
          have e1 : g' 6 = .bool true := (hp 1 (by decide)).2; simp only [mkM, maskMEA, mixM, Nat.reduceAdd, e1] at hK ⊢; clear e1; simp only [Act.put, List.setIfInBounds_toArray, List.set_cons_zero, List.set_cons_succ] at hK; go_simp; exact hK.out _ _ hB GF.same rfl
        case qMEC3 =>
          refine fun l g' wu hB hl hn hp K hK => ?_
          have hbb := hB; have e2 : g' 7 = .bool true := (hp 2 (by decide)).2; have hc := gA _ hbb; simp only [mkM, maskMEA, mixM, Nat.reduceAdd, e2] at hK ⊢; clear e2; simp only [Act.put, List.setIfInBounds_toArray, List.set_cons_zero, List.set_cons_succ] at hK; go_simp; exact hK.out _ _ hB GF.same rfl
        case qMEC4 =>
          refine fun l g' wu hB hl hn hp K hK => ?_
          have hbb := hB; have e2 : g' 7 = .bool true := (hp 2 (by decide)).2; have e3 : g' 8 = .agg #[.slice a len cap] := (hp 3 (by decide)).2; simp only [mkM, maskMEA, mixM, Nat.reduceAdd, e2, e3] at hK ⊢; clear e2 e3; simp only [Act.put, List.setIfInBounds_toArray, List.set_cons_zero, List.set_cons_succ] at hK; go_simp; go_at_call 18; refine (zero_s a len cap n _ (HN.out.below hbb)).mono ?_; rw [hz]; rintro e w7 ⟨rfl, hb⟩; go_wp2_with fail; exact hK.out _ _ (BB.step hbb hb) (GF.below hb) rfl
        case qMEC5 =>
          refine fun l g' wu hB hl hn hp K hK => ?_
          have e2 : g' 7 = .bool true := (hp 2 (by decide)).2; have e4 : g' 9 = .bool false := (hp 4 (by decide)).2; simp only [mkM, maskMEA, mixM, Nat.reduceAdd, e2, e4] at hK ⊢; clear e2 e4; simp only [Act.put, List.setIfInBounds_toArray, List.set_cons_zero, List.set_cons_succ] at hK; go_simp; exact hK.out _ _ hB GF.same rfl
        case qMEC6 =>
          refine fun l g' wu hB hl hn hp K hK => ?_
          have e2 : g' 7 = .bool true := (hp 2 (by decide)).2; have e5 : g' 10 = .bool true := (hp 5 (by decide)).2; simp only [mkM, maskMEA, mixM, Nat.reduceAdd, e2, e5] at hK ⊢; clear e2 e5; simp only [Act.put, List.setIfInBounds_toArray, List.set_cons_zero, List.set_cons_succ] at hK; go_simp; exact hK.out _ _ hB GF.same rfl
        case qMEC7 =>
          refine fun l g' wu hB hl hn hp K hK => ?_
          have e6 : g' 11 = .bool true := (hp 6 (by decide)).2; simp only [mkM, maskMEA, mixM, Nat.reduceAdd, e6] at hK ⊢; clear e6; simp only [Act.put, List.setIfInBounds_toArray, List.set_cons_zero, List.set_cons_succ] at hK; go_simp; exact hK.out _ _ hB GF.same rfl
        case qMEC8 =>
          refine fun l g' wu hB hl hn hp K hK => ?_
          have hbb := hB; have e7 : g' 12 = .bool true := (hp 7 (by decide)).2; have hc := gA _ hbb; simp only [mkM, maskMEA, mixM, Nat.reduceAdd, e7] at hK ⊢; clear e7; simp only [Act.put, List.setIfInBounds_toArray, List.set_cons_zero, List.set_cons_succ] at hK; go_simp; exact hK.out _ _ hB GF.same rfl
        case qMEC9 =>
          refine fun l g' wu hB hl hn hp K hK => ?_
          have e7 : g' 12 = .bool true := (hp 7 (by decide)).2; simp only [mkM, maskMEA, mixM, Nat.reduceAdd, e7] at hK ⊢; clear e7; simp only [Act.put, List.setIfInBounds_toArray, List.set_cons_zero, List.set_cons_succ] at hK; go_simp; exact hK.out _ _ hB GF.same rfl
        case qMEC10 =>
          refine fun l g' wu hB hl hn hp K hK => ?_
          have hbb := hB; have e7 : g' 12 = .bool true := (hp 7 (by decide)).2; have e9 : g' 14 = .pointer (some ⟨g, 0, none⟩) := (hp 9 (by decide)).2; simp only [mkM, maskMEA, mixM, Nat.reduceAdd, e7, e9] at hK ⊢; clear e7 e9; simp only [Act.put, List.setIfInBounds_toArray, List.set_cons_zero, List.set_cons_succ] at hK; go_simp; go_at_call 43; refine (gp_any g P Q G H sz _ (HG.out.below hbb)).mono ?_; rintro e w7 ⟨ta, tl, tc, rfl, hx, hb⟩; go_wp2_with fail; exact hK.out _ _ (BB.step hbb hb) (GF.below hb) ⟨ta, tl, tc, rfl, hx⟩
        case qMEC11 =>
          refine fun l g' wu hB hl hn hp K hK => ?_
          have hbb := hB; have e7 : g' 12 = .bool true := (hp 7 (by decide)).2; have e8 : g' 13 = .agg #[.slice a len cap] := (hp 8 (by decide)).2; obtain ⟨x10, l10, c10, e10, h10⟩ := (hp 10 (by decide)).2; have e10 : g' 15 = .agg #[.slice x10 l10 c10] := e10; simp only [mkM, maskMEA, mixM, Nat.reduceAdd, e7, e8, e10] at hK ⊢; clear e7 e8 e10; simp only [Act.put, List.setIfInBounds_toArray, List.set_cons_zero, List.set_cons_succ] at hK; go_simp; go_at_call 31; refine (cmp_s a x10 len cap l10 c10 n P _ (HN.out.below hbb) h10).mono ?_; rintro e w7 ⟨rfl, hb⟩; go_wp2_with fail; exact hK.out _ _ (BB.step hbb hb) (GF.below hb) rfl
        case qMEC12 =>
          refine fun l g' wu hB hl hn hp K hK => ?_
          have e7 : g' 12 = .bool true := (hp 7 (by decide)).2; have e11 : g' 16 = .int .i64 (cmpNat n P) := (hp 11 (by decide)).2; simp only [mkM, maskMEA, mixM, Nat.reduceAdd, e7, e11] at hK ⊢; clear e7 e11; simp only [Act.put, List.setIfInBounds_toArray, List.set_cons_zero, List.set_cons_succ] at hK; go_simp; exact hK.out _ _ hB GF.same rfl
        case qMEC13 =>
          refine fun l g' wu hB hl hn hp K hK => ?_
          have e7 : g' 12 = .bool true := (hp 7 (by decide)).2; have e12 : g' 17 = .bool true := (hp 12 (by decide)).2; simp only [mkM, maskMEA, mixM, Nat.reduceAdd, e7, e12] at hK ⊢; clear e7 e12; simp only [Act.put, List.setIfInBounds_toArray, List.set_cons_zero, List.set_cons_succ] at hK; go_simp; exact hK.out _ _ hB GF.same rfl
        case qMEC14 =>
          refine fun l g' wu hB hl hn hp K hK => ?_
          have e13 : g' 18 = .bool true := (hp 13 (by decide)).2; simp only [mkM, maskMEA, mixM, Nat.reduceAdd, e13] at hK ⊢; clear e13; simp only [Act.put, List.setIfInBounds_toArray, List.set_cons_zero, List.set_cons_succ] at hK; go_simp; exact hK.out _ _ hB GF.same rfl
        case qMEC15 | qMEC20 =>
          refine fun l g' wu hB hl hn hp K hK => ?_
          have e14 : g' 19 = .bool true := (hp 14 (by decide)).2; simp only [mkM, maskMEA, mixM, Nat.reduceAdd, e14] at hK ⊢; clear e14; simp only [Act.put, List.setIfInBounds_toArray, List.set_cons_zero, List.set_cons_succ] at hK; go_simp; exact hK.out _ _ hB GF.same rfl
        case qMEC16 =>
          refine fun l g' wu hB hl hn hp K hK => ?_
          have e14 : g' 19 = .bool true := (hp 14 (by decide)).2; have e15 : g' 20 = .pointer (some ⟨g, 0, none⟩) := (hp 15 (by decide)).2; simp only [mkM, maskMEA, mixM, Nat.reduceAdd, e14, e15] at hK ⊢; clear e14 e15; simp only [Act.put, List.setIfInBounds_toArray, List.set_cons_zero, List.set_cons_succ] at hK; go_simp; exact hK.out _ _ hB GF.same rfl
        case qMEC17 =>
          refine fun l g' wu hB hl hn hp K hK => ?_
          have e14 : g' 19 = .bool true := (hp 14 (by decide)).2; have e16 : g' 21 = .pointer (some ⟨g, 0, none⟩) := (hp 16 (by decide)).2; simp only [mkM, maskMEA, mixM, Nat.reduceAdd, e14, e16] at hK ⊢; clear e14 e16; simp only [Act.put, List.setIfInBounds_toArray, List.set_cons_zero, List.set_cons_succ] at hK; go_simp; exact hK.out _ _ hB GF.same rfl
        case qMEC18 =>
          refine fun l g' wu hB hl hn hp K hK => ?_
          have hbb := hB; have e14 : g' 19 = .bool true := (hp 14 (by decide)).2; have e17 : g' 22 = .pointer (some ⟨g, 0, none⟩) := (hp 17 (by decide)).2; have hc := g0 _ hbb; simp only [mkM, maskMEA, mixM, Nat.reduceAdd, e14, e17] at hK ⊢; clear e14 e17; simp only [Act.put, List.setIfInBounds_toArray, List.set_cons_zero, List.set_cons_succ] at hK; go_simp; exact hK.out _ _ hB GF.same rfl
        case qMEC19 =>
          refine fun l g' wu hB hl hn hp K hK => ?_
          have hbb := hB; have e14 : g' 19 = .bool true := (hp 14 (by decide)).2; have hc := gA _ hbb; simp only [mkM, maskMEA, mixM, Nat.reduceAdd, e14] at hK ⊢; clear e14; simp only [Act.put, List.setIfInBounds_toArray, List.set_cons_zero, List.set_cons_succ] at hK; go_simp; exact hK.out _ _ hB GF.same rfl
        case qMEC21 =>
          refine fun l g' wu hB hl hn hp K hK => ?_
          have e14 : g' 19 = .bool true := (hp 14 (by decide)).2; have e20 : g' 25 = .pointer (some ⟨g, 0, none⟩) := (hp 20 (by decide)).2; simp only [mkM, maskMEA, mixM, Nat.reduceAdd, e14, e20] at hK ⊢; clear e14 e20; simp only [Act.put, List.setIfInBounds_toArray, List.set_cons_zero, List.set_cons_succ] at hK; go_simp; exact hK.out _ _ hB GF.same rfl
        case qMEC22 =>
          refine fun l g' wu hB hl hn hp K hK => ?_
          have e14 : g' 19 = .bool true := (hp 14 (by decide)).2; have e21 : g' 26 = .pointer (some ⟨g, 0, none⟩) := (hp 21 (by decide)).2; simp only [mkM, maskMEA, mixM, Nat.reduceAdd, e14, e21] at hK ⊢; clear e14 e21; simp only [Act.put, List.setIfInBounds_toArray, List.set_cons_zero, List.set_cons_succ] at hK; go_simp; exact hK.out _ _ hB GF.same rfl
        case qMEC23 =>
          refine fun l g' wu hB hl hn hp K hK => ?_
          have hbb := hB; have e14 : g' 19 = .bool true := (hp 14 (by decide)).2; have e22 : g' 27 = .pointer (some ⟨g, 1, none⟩) := (hp 22 (by decide)).2; have hc := g1 _ hbb; simp only [mkM, maskMEA, mixM, Nat.reduceAdd, e14, e22] at hK ⊢; clear e14 e22; simp only [Act.put, List.setIfInBounds_toArray, List.set_cons_zero, List.set_cons_succ] at hK; go_simp; exact hK.out _ _ hB GF.same rfl
        case qMEC24 =>
          refine fun l g' wu hB hl hn hp K hK => ?_
          have hbb := hB; have e14 : g' 19 = .bool true := (hp 14 (by decide)).2; have e23 : g' 28 = .pointer (some ⟨rq, 0, none⟩) := (hp 23 (by decide)).2; simp only [mkM, maskMEA, mixM, Nat.reduceAdd, e14, e23] at hK ⊢; clear e14 e23; simp only [Act.put, List.setIfInBounds_toArray, List.set_cons_zero, List.set_cons_succ] at hK; go_simp; go_at_call 44; refine (modulus_any rq Q _ (HQ.out.below hbb)).mono ?_; rintro e w7 ⟨ta, tl, tc, rfl, hx, hb⟩; go_wp2_with fail; exact hK.out _ _ (BB.step hbb hb) (GF.below hb) ⟨ta, tl, tc, rfl, hx⟩
        case qMEC25 =>
          refine fun l g' wu hB hl hn hp K hK => ?_
          have hbb := hB; have e14 : g' 19 = .bool true := (hp 14 (by decide)).2; have e18 : g' 23 = .pointer (some ⟨rp, 0, none⟩) := (hp 18 (by decide)).2; have e19 : g' 24 = .agg #[.slice a len cap] := (hp 19 (by decide)).2; obtain ⟨x24, l24, c24, e24, h24⟩ := (hp 24 (by decide)).2; have e24 : g' 29 = .agg #[.slice x24 l24 c24] := e24; simp only [mkM, maskMEA, mixM, Nat.reduceAdd, e14, e18, e19, e24] at hK ⊢; clear e14 e18 e19 e24; simp only [Act.put, List.setIfInBounds_toArray, List.set_cons_zero, List.set_cons_succ] at hK; go_simp; go_at_call 92; refine (rexp_any rp P a x24 len cap l24 c24 n Q _ (HP.out.below hbb) (HN.out.below hbb) h24).mono ?_; rintro e w7 ⟨ta, tl, tc, rfl, hx, hb⟩; go_wp2_with fail; exact hK.out _ _ (BB.step hbb hb) (GF.below hb) ⟨ta, tl, tc, rfl, hx⟩
        case qMEC26 =>
          refine fun l g' wu hB hl hn hp K hK => ?_
          have hbb := hB; have e14 : g' 19 = .bool true := (hp 14 (by decide)).2; simp only [mkM, maskMEA, mixM, Nat.reduceAdd, e14] at hK ⊢; clear e14; simp only [Act.put, List.setIfInBounds_toArray, List.set_cons_zero, List.set_cons_succ] at hK; go_simp; go_at_call 13; refine (new_s 1 _ (by decide)).mono ?_; rintro e w7 ⟨ta, tl, tc, rfl, hx, hb⟩; go_wp2_with fail; exact hK.out _ _ (BB.step hbb hb) (GF.below hb) ⟨ta, tl, tc, rfl, hx⟩
        case qMEC27 =>
          refine fun l g' wu hB hl hn hp K hK => ?_
          have hbb := hB; have e14 : g' 19 = .bool true := (hp 14 (by decide)).2; obtain ⟨x25, l25, c25, e25, h25⟩ := (hp 25 (by decide)).2; have e25 : g' 30 = .agg #[.slice x25 l25 c25] := e25; obtain ⟨x26, l26, c26, e26, h26⟩ := (hp 26 (by decide)).2; have e26 : g' 31 = .agg #[.slice x26 l26 c26] := e26; simp only [mkM, maskMEA, mixM, Nat.reduceAdd, e14, e25, e26] at hK ⊢; clear e14 e25 e26; simp only [Act.put, List.setIfInBounds_toArray, List.set_cons_zero, List.set_cons_succ] at hK; go_simp; go_at_call 31; refine (cmp_s x25 x26 l25 c25 l26 c26 _ 1 _ h25 h26).mono ?_; rintro e w7 ⟨rfl, hb⟩; go_wp2_with fail; exact hK.out _ _ (BB.step hbb hb) (GF.below hb) rfl
        case qMEC28 =>
          refine fun l g' wu hB hl hn hp K hK => ?_
          have e14 : g' 19 = .bool true := (hp 14 (by decide)).2; have e27 : g' 32 = .int .i64 (cmpNat (n ^ Q % P) 1) := (hp 27 (by decide)).2; simp only [mkM, maskMEA, mixM, Nat.reduceAdd, e14, e27] at hK ⊢; clear e14 e27; simp only [Act.put, List.setIfInBounds_toArray, List.set_cons_zero, List.set_cons_succ] at hK; go_simp; exact hK.out _ _ hB GF.same rfl
        case qMEC29 =>
          refine fun l g' wu hB hl hn hp K hK => ?_
          have e14 : g' 19 = .bool true := (hp 14 (by decide)).2; have e28 : g' 33 = .bool (cmpNat (n ^ Q % P) 1 == 0) := (hp 28 (by decide)).2; simp only [mkM, maskMEA, mixM, Nat.reduceAdd, e14, e28] at hK ⊢; clear e14 e28; simp only [Act.put, List.setIfInBounds_toArray, List.set_cons_zero, List.set_cons_succ] at hK; go_simp; exact hK.out _ _ hB GF.same rfl
        case qMEC30 =>
          refine fun l g' wu hB hl hn hp K hK => ?_
          have e29 : g' 34 = .bool (cmpNat (n ^ Q % P) 1 == 0) := (hp 29 (by decide)).2; simp only [mkM, maskMEA, mixM, Nat.reduceAdd, e29] at hK ⊢; clear e29; simp only [Act.put, List.setIfInBounds_toArray, List.set_cons_zero, List.set_cons_succ] at hK; go_simp; exact hK.out _ _ hB GF.same rfl
      · intro l g' wu hall hB hG
        have e30 : g' 4 = .bool (cmpNat (n ^ Q % P) 1 == 0) := hG 30 (by decide)
        simp only [mkM, maskMEA, mixM, Nat.reduceAdd, e30]
        clear hG hall e30
        go_wp2_with fail
        go_ret
        refine ⟨ret_bool ?_, HB.out.trans (Below.mono hB HB.out.size)⟩
        rw [cmp_eq_dec]
        exact decide_eq_decide.2 ⟨fun h => ⟨HZ.out, HC.out, h⟩, fun h => h.2.2⟩

/-- All of them are members. -/
def AllM (P Q : Nat) (p : List Nat) : Prop := ∀ i, i < p.length → IsMember P Q (p.getD i 0)
instance (P Q : Nat) (p : List Nat) : Decidable (AllM P Q p) := by unfold AllM; exact inferInstance

set_option maxRecDepth 100000 in
set_option maxHeartbeats 4000000 in
theorem members_any (g P Q G H sz : Nat) (a : Option Addr) (len cap : Nat) (p : List Nat) (w : World) (h : GroupAt w g P Q G H sz) (hp : NatsAt w a p) (hl : p.length = len) (hcc : (len : Int) ≤ cap) (hc : (len : Int) ≤ 10000) :
    Calls Tryz.prog 71 #[.pointer (some ⟨g, 0, none⟩), .slice a len cap] w fun e w' => e = .returned (.bool (decide (AllM P Q p))) ∧ Below w.heap.size w w' := by
  have HG := Lib.hid h
  have HA := Lib.hid hp
  have HL := Lib.hid hl
  clear h hp hl
  go_enter Tryz.func71, Tryz.ntmps71
  go_wp2_with fail
  go_loopw [9] (fun iv wr => ∃ i : Nat, (i : Int) ≤ len ∧ iv = .int .i64 (i : Int) ∧ Hid (∀ j, j < i → IsMember P Q (p.getD j 0)) ∧ Hid (Below w.heap.size w wr)) (fun iv _ => len - (intOf iv).toNat)
  case atStart => exact ⟨0, by omega, rfl, (fun j h => by omega), Below.refl _ _⟩
  case round =>
    obtain ⟨i, hi, rfl, HM, HB⟩ := hrel
    by_cases hlt : (i : Int) < len
    · have hil : i < p.length := by rw [HL.out]; omega
      obtain ⟨ad, xa, xl, xc, rfl, _, cx, nx⟩ := (HA.out.below HB.out).get hil
      obtain ⟨x, hx⟩ : ∃ x, p.getD i 0 = x := ⟨_, rfl⟩
      rw [hx] at nx
      have HX := Lib.hid hx
      have HIL := Lib.hid hil
      have hbx := (Below.refl _ wr).alloc (Nat.le_refl _) (Obj.cells #[Value.slice xa xl xc] 36)
      have HN2 := Lib.hid (nx.below hbx)
      have HB2 := Lib.hid (HB.out.trans (hbx.mono HB.out.size))
      have HG2 := Lib.hid (HG.out.below HB2.out)
      clear hx nx hbx hil HB
      go_wp2_with fail
      clear cx
      generalize wr.alloc (Obj.cells #[Value.slice xa xl xc] 36) = w2 at HN2 HB2 HG2 ⊢
      refine (gmember_any g P Q G H sz xa xl xc x w2 HG2.out HN2.out).mono ?_
      rintro e w3 ⟨rfl, hb3⟩
      have HB3 := Lib.hid (HB2.out.trans (hb3.mono HB2.out.size))
      clear hb3
      by_cases hm : IsMember P Q x
      · have HMM := Lib.hid hm
        rw [decide_eq_true hm]
        clear hm
        go_wp2_with fail
        go_roundw
        case rel => exact ⟨i + 1, by omega, by go_num, (fun j hj => by
          rcases Nat.lt_or_ge j i with h5 | h5
          · exact HM.out j h5
          · obtain rfl : j = i := by omega
            rw [HX.out]; exact HMM.out), HB3.out⟩
        case measure => simp [intOf]; omega
      · have HMM := Lib.hid hm
        rw [decide_eq_false hm]
        clear hm
        go_wp2_with fail
        go_ret
        exact ⟨ret_bool (decide_eq_false (fun h => HMM.out (HX.out ▸ h i HIL.out))).symm, HB3.out⟩
    · have hi' : i = len := by omega
      subst hi'
      go_wp2_with fail
      go_ret
      exact ⟨ret_bool (decide_eq_true (fun j hj => HM.out j (by rw [← HL.out]; exact hj))).symm, HB.out⟩
end Go.Proofs.YthefednendgclaaGreat
