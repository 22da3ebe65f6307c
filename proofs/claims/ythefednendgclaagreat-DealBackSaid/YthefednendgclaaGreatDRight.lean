/-
  deal.Right: whether a share is right for pledges.
-/
import Derived.Test.YthefednendgclaaGreatDealT
import Derived.Test.YthefednendgclaaGreatDealB
import Derived.Test.YthefednendgclaaGreatMember
set_option linter.unusedVariables false
set_option linter.unusedSimpArgs false
namespace Go.Proofs.YthefednendgclaaGreat
open Go Go.RowKit Sac

/-- A share that is right for pledges. -/
def RightP (P Q G H t : Nat) (c : List Nat) (n : Int) (x y : Nat) : Prop := (1 ≤ n ∧ n ≤ 64) ∧ c.length = t ∧ AllM P Q c ∧ (x < Q ∧ y < Q) ∧ evalx P c (n.toNat % Q) = multi P [G, H] [x, y]
instance (P Q G H t : Nat) (c : List Nat) (n : Int) (x y : Nat) : Decidable (RightP P Q G H t c n x y) := by unfold RightP; exact inferInstance
def tabRI4 (v0 : Value) (v1 : Value) (v2 : Value) (v3 : Value) (v4 : Value) (v5 : Value) (v6 : Value) (v7 : Value) (v8 : Value) (v9 : Value) (v10 : Value) (v11 : Value) (v12 : Value) (v13 : Value) (v14 : Value) (v15 : Value) (v16 : Value) (v17 : Value) (v18 : Value) (v19 : Value) (v20 : Value) (v21 : Value) (v22 : Value) (v23 : Value) (v24 : Value) (v25 : Value) (v26 : Value) (v27 : Value) (n28 : Nat) (v29 : Value) (v30 : Value) (v31 : Value) (v32 : Value) (v33 : Value) (v34 : Value) (v35 : Value) : List (Fk KpN) := [.val v0, .val v1, .val v2, .val v3, .val v4, .val v5, .val v6, .val v7, .val v8, .val v9, .val v10, .val v11, .val v12, .val v13, .val v14, .val v15, .val v16, .val v17, .val v18, .val v19, .val v20, .val v21, .val v22, .val v23, .val v24, .val v25, .val v26, .val v27, Fk.nat (fun _ _ h => h) n28, .val v29, .val v30, .val v31, .val v32, .val v33, .val v34, .val v35]
def dstRI4 : List (Option Tmp) := [some 11, some 12, some 13, some 14, some 15, some 16, some 17, some 18, some 19, some 20, some 21, some 22, some 23, some 24, some 25, some 26, some 27, some 28, some 29, some 30, some 31, some 32, some 33, some 34, some 35, some 36, some 37, some 38, some 39, some 40, some 41, some 42, some 43, some 44, some 45, some 10]
def preRI4 : List (List Nat) := [[], [], [0, 1], [0, 1, 2], [0, 1, 2, 3], [0, 1, 2, 3, 4], [0, 1, 2, 3, 4, 5], [0, 1, 2, 3, 4, 5, 6], [0, 1, 2, 3, 4, 5, 6, 7], [0, 1, 2, 3, 4, 5, 6, 7, 8], [0, 1, 2, 3, 4, 5, 6, 7, 8, 9], [0, 1, 2, 3, 4, 5, 6, 7, 8], [0, 1, 2, 3, 4, 5, 6, 7, 8, 9, 10, 11], [0, 1, 2, 3, 4, 5, 6, 7, 8, 9, 10, 11, 12], [0, 1, 2, 3, 4, 5, 6, 7, 8, 9, 10, 11, 12, 13], [0, 1, 2, 3, 4, 5, 6, 7, 8, 9, 10, 11, 12, 13, 14], [0, 1, 2, 3, 4, 5, 6, 7, 8, 9, 10, 11, 12, 13, 14], [0, 1, 2, 3, 4, 5, 6, 7, 8, 9, 10, 11, 12, 13, 14, 15, 16], [0, 1, 2, 3, 4, 5, 6, 7, 8, 9, 10, 11, 12, 13, 14, 15, 16, 17], [0, 1, 2, 3, 4, 5, 6, 7, 8, 9, 10, 11, 12, 13, 14, 15, 16, 17, 18], [0, 1, 2, 3, 4, 5, 6, 7, 8, 9, 10, 11, 12, 13, 14, 15, 16, 17, 18, 19], [0, 1, 2, 3, 4, 5, 6, 7, 8, 9, 10, 11, 12, 13, 14, 15, 16, 17, 18, 19], [0, 1, 2, 3, 4, 5, 6, 7, 8, 9, 10, 11, 12, 13, 14, 15, 16, 17, 18, 19, 20, 21], [0, 1, 2, 3, 4, 5, 6, 7, 8, 9, 10, 11, 12, 13, 14, 15, 16, 17, 18, 19, 20, 21, 22], [0, 1, 2, 3, 4, 5, 6, 7, 8, 9, 10, 11, 12, 13, 14, 15, 16, 17, 18, 19, 20, 21, 22, 23], [0, 1, 2, 3, 4, 5, 6, 7, 8, 9, 10, 11, 12, 13, 14, 15, 16, 17, 18, 19, 20, 21, 22, 23, 24], [0, 1, 2, 3, 4, 5, 6, 7, 8, 9, 10, 11, 12, 13, 14, 15, 16, 17, 18, 19, 20, 21, 22, 23, 24], [0, 1, 2, 3, 4, 5, 6, 7, 8, 9, 10, 11, 12, 13, 14, 15, 16, 17, 18, 19, 20, 21, 22, 23, 24], [0, 1, 2, 3, 4, 5, 6, 7, 8, 9, 10, 11, 12, 13, 14, 15, 16, 17, 18, 19, 20, 21, 22, 23, 24, 27], [0, 1, 2, 3, 4, 5, 6, 7, 8, 9, 10, 11, 12, 13, 14, 15, 16, 17, 18, 19, 20, 21, 22, 23, 24], [0, 1, 2, 3, 4, 5, 6, 7, 8, 9, 10, 11, 12, 13, 14, 15, 16, 17, 18, 19, 20, 21, 22, 23, 24, 29], [0, 1, 2, 3, 4, 5, 6, 7, 8, 9, 10, 11, 12, 13, 14, 15, 16, 17, 18, 19, 20, 21, 22, 23, 24], [0, 1, 2, 3, 4, 5, 6, 7, 8, 9, 10, 11, 12, 13, 14, 15, 16, 17, 18, 19, 20, 21, 22, 23, 24, 31], [0, 1, 2, 3, 4, 5, 6, 7, 8, 9, 10, 11, 12, 13, 14, 15, 16, 17, 18, 19, 20, 21, 22, 23, 24, 25, 26, 27, 28, 29, 30, 31, 32], [0, 1, 2, 3, 4, 5, 6, 7, 8, 9, 10, 11, 12, 13, 14, 15, 16, 17, 18, 19, 20, 21, 22, 23, 24, 25, 26, 27, 28, 29, 30, 31, 32, 33], [0, 1, 2, 3, 4, 5, 6, 7, 8, 9, 10, 11, 12, 13, 14, 15, 16, 17, 18, 19, 20, 21, 22, 23, 24, 25, 26, 27, 28, 29, 30, 31, 32, 33, 34]]
def maskRI4 : List Bool := [false, false, false, false, false, false, false, false, false, false, true, true, true, true, true, true, true, true, true, true, true, true, true, true, true, true, true, true, true, true, true, true, true, true, true, true, true, true, true, true, true, true, true, true, true, true]
def tabRI3 (v0 : Value) (v1 : Value) (v2 : Value) (v3 : Value) (v4 : Value) (v5 : Value) (v6 : Value) (v7 : Value) (v8 : Value) (v9 : Value) (v10 : Value) (v11 : Value) (v12 : Value) (v13 : Value) (v14 : Value) (v15 : Value) (v16 : Value) (v17 : Value) (v18 : Value) (v19 : Value) (v20 : Value) (v21 : Value) (v22 : Value) (v23 : Value) (v24 : Value) (v25 : Value) (v26 : Value) (v27 : Value) (v28 : Value) (v29 : Value) (v30 : Value) (v31 : Value) (v32 : Value) (v33 : Value) (v34 : Value) (v35 : Value) : List (Fk KpN) := [.val v0, .val v1, .val v2, .val v3, .val v4, .val v5, .val v6, .val v7, .val v8, .val v9, .val v10, .val v11, .val v12, .val v13, .val v14, .val v15, .val v16, .val v17, .val v18, .val v19, .val v20, .val v21, .val v22, .val v23, .val v24, .val v25, .val v26, .val v27, .val v28, .val v29, .val v30, .val v31, .val v32, .val v33, .val v34, .val v35]
def tabRI2 (v0 : Value) (v1 : Value) (v2 : Value) (v3 : Value) (v4 : Value) (v5 : Value) (v6 : Value) (v7 : Value) (v8 : Value) (v9 : Value) (v10 : Value) (v11 : Value) (v12 : Value) (v13 : Value) (v14 : Value) (v15 : Value) (v16 : Value) (v17 : Value) (v18 : Value) (v19 : Value) (v20 : Value) (v21 : Value) (v22 : Value) (v23 : Value) (v24 : Value) (v25 : Value) (v26 : Value) (v27 : Value) (v28 : Value) (v29 : Value) (v30 : Value) (v31 : Value) (v32 : Value) (v33 : Value) (v34 : Value) (v35 : Value) : List (Fk KpN) := [.val v0, .val v1, .val v2, .val v3, .val v4, .val v5, .val v6, .val v7, .val v8, .val v9, .val v10, .val v11, .val v12, .val v13, .val v14, .val v15, .val v16, .val v17, .val v18, .val v19, .val v20, .val v21, .val v22, .val v23, .val v24, .val v25, .val v26, .val v27, .val v28, .val v29, .val v30, .val v31, .val v32, .val v33, .val v34, .val v35]
def tabRI1 (v0 : Value) (v1 : Value) (v2 : Value) (v3 : Value) (v4 : Value) (v5 : Value) (v6 : Value) (v7 : Value) (v8 : Value) (v9 : Value) (v10 : Value) (v11 : Value) (v12 : Value) (v13 : Value) (v14 : Value) (v15 : Value) (v16 : Value) (v17 : Value) (v18 : Value) (v19 : Value) (v20 : Value) (v21 : Value) (v22 : Value) (v23 : Value) (v24 : Value) (v25 : Value) (v26 : Value) (v27 : Value) (v28 : Value) (v29 : Value) (v30 : Value) (v31 : Value) (v32 : Value) (v33 : Value) (v34 : Value) (v35 : Value) : List (Fk KpN) := [.val v0, .val v1, .val v2, .val v3, .val v4, .val v5, .val v6, .val v7, .val v8, .val v9, .val v10, .val v11, .val v12, .val v13, .val v14, .val v15, .val v16, .val v17, .val v18, .val v19, .val v20, .val v21, .val v22, .val v23, .val v24, .val v25, .val v26, .val v27, .val v28, .val v29, .val v30, .val v31, .val v32, .val v33, .val v34, .val v35]
def tabRI0 (v0 : Value) (v1 : Value) (v2 : Value) (v3 : Value) (v4 : Value) (v5 : Value) (v6 : Value) (v7 : Value) (v8 : Value) (v9 : Value) (v10 : Value) (v11 : Value) (v12 : Value) (v13 : Value) (v14 : Value) (v15 : Value) (v16 : Value) (v17 : Value) (v18 : Value) (v19 : Value) (v20 : Value) (v21 : Value) (v22 : Value) (v23 : Value) (v24 : Value) (v25 : Value) (v26 : Value) (v27 : Value) (v28 : Value) (v29 : Value) (v30 : Value) (v31 : Value) (v32 : Value) (v33 : Value) (v34 : Value) (v35 : Value) : List (Fk KpN) := [.val v0, .val v1, .val v2, .val v3, .val v4, .val v5, .val v6, .val v7, .val v8, .val v9, .val v10, .val v11, .val v12, .val v13, .val v14, .val v15, .val v16, .val v17, .val v18, .val v19, .val v20, .val v21, .val v22, .val v23, .val v24, .val v25, .val v26, .val v27, .val v28, .val v29, .val v30, .val v31, .val v32, .val v33, .val v34, .val v35]

set_option maxRecDepth 100000 in
set_option maxHeartbeats 10000000 in
theorem dright_any (g P Q G H sz t : Nat) (a : Option Addr) (len cap : Nat) (c : List Nat) (n : Int) (sa : Option Addr) (sl sc x : Nat) (ra : Option Addr) (rl rc y : Nat) (w : World) (hg : GroupAt w g P Q G H sz) (h1 : 1 ≤ t) (h2 : t ≤ 64) (hP1 : 1 < P) (hQ : ∀ z, z < Q → z < 2 ^ 1000)
    (hc : NatsAt w a c) (hl : c.length = len) (hcc : (len : Int) ≤ cap) (hcm : (len : Int) ≤ 10000) (hs : NatS w sa sl x) (hr : NatS w ra rl y) :
    Calls Tryz.prog 27 #[.pointer (some ⟨g, 0, none⟩), .int .i64 (t : Int), .slice a len cap, .int .i64 n, .agg #[.slice sa sl sc, .slice ra rl rc]] w fun e w' => e = .returned (.bool (decide (RightP P Q G H t c n x y))) ∧ Below w.heap.size w w' := by
  obtain ⟨s, hss⟩ : ∃ s, s = w.heap.size := ⟨_, rfl⟩
  have hbA := (Below.refl _ w).alloc (Nat.le_refl _) (Obj.cells #[Value.slice sa sl sc, Value.slice ra rl rc] 64)
  have hBs : Blk (w.alloc (Obj.cells #[Value.slice sa sl sc, Value.slice ra rl rc] 64)) s 64 [.slice sa sl sc, .slice ra rl rc] := Blk.new' w _ _ s hss
  have HG := Lib.hid (hg.below hbA)
  have HC := Lib.hid (hc.below hbA)
  have HX := Lib.hid (hs.below hbA)
  have HY := Lib.hid (hr.below hbA)
  have HT := Lib.hid (And.intro h1 h2)
  have HP1 := Lib.hid hP1
  have HQ := Lib.hid hQ
  have HL0 := Lib.hid hl
  have HB : Hid (Below w.heap.size w (w.alloc (Obj.cells #[Value.slice sa sl sc, Value.slice ra rl rc] 64))) := hbA
  have HSS := Lib.hid hss
  obtain ⟨RR, hRR⟩ : ∃ RR, decide (RightP P Q G H t c n x y) = RR := ⟨_, rfl⟩
  rw [hRR]
  have HRR0 := Lib.hid hRR
  clear hg hc hs hr hbA hl hP1 hQ hRR hss
  go_enter Tryz.func27, Tryz.ntmps27
  go_wp2_with fail
  rw [← HSS.out]
  generalize w.alloc (Obj.cells #[Value.slice sa sl sc, Value.slice ra rl rc] 64) = w1 at hBs HG HC HX HY HB ⊢
  have gS0 : ∀ w', BB w1 w' → w'.cell? ⟨s, 0, none⟩ = some (.slice sa sl sc) := fun w' hb => (BB.cell hb hBs.lt).trans (hBs.cell 0)
  have gS1 : ∀ w', BB w1 w' → w'.cell? ⟨s, 1, none⟩ = some (.slice ra rl rc) := fun w' hb => (BB.cell hb hBs.lt).trans (hBs.cell 1)
  clear hBs
  by_cases hp : 1 ≤ n ∧ n ≤ 64
  · obtain ⟨m, rfl⟩ : ∃ m : Nat, n = (m : Int) := ⟨n.toNat, by omega⟩
    have HPD : Hid (decide (1 ≤ (m : Int) ∧ (m : Int) ≤ 64) = true) := decide_eq_true hp
    have HMP := Lib.hid hp
    have HM64 : Hid ((m : Int) ≤ 1000) := by show _ ≤ _; omega
    clear hp
    by_cases hlt : len = t
    · obtain rfl : t = len := hlt.symm
      have HL := Lib.hid (And.intro HL0.out (And.intro hcc hcm))
      clear hcc hcm
      by_cases hm : AllM P Q c
      · have HMM : Hid (decide (AllM P Q c) = true) := decide_eq_true hm
        have HAM := Lib.hid hm
        clear hm
        by_cases hq : x < Q ∧ y < Q
        · have HBL : Hid (decide (x < Q ∧ y < Q) = true) := decide_eq_true hq
          have HXY := Lib.hid hq
          have HXQ : Hid (x < 2 ^ 1000 ∧ y < 2 ^ 1000) := ⟨HQ.out x hq.1, HQ.out y hq.2⟩
          obtain ⟨ob, hob⟩ : ∃ ob, decide (evalx P c (m % Q) = multi P [G, H] [x, y]) = ob := ⟨_, rfl⟩
          have HOB := Lib.hid hob
          clear hq hob
          refine wp_region_mix (fun _ w' => BB w1 w') (GF (tabRI4 (.pointer (some ⟨g, 0, none⟩)) (.int .i64 (t : Int)) (.bool false) (.bool true) (.bool true) (.int .i64 (m : Int)) (.bool true) (.bool true) (.bool true) (.slice a t cap) (.int .i64 (t : Int)) (.int .i64 (t : Int)) (.bool true) (.bool true) (.bool true) (.pointer (some ⟨g, 0, none⟩)) (.slice a t cap) (.bool true) (.bool true) (.bool true) (.pointer (some ⟨g, 0, none⟩)) (.agg #[.slice sa sl sc, .slice ra rl rc]) (.bool true) (.bool true) (.bool true) (.pointer (some ⟨g, 0, none⟩)) (.slice a t cap) (.int .i64 (m : Int)) (m) (.pointer (some ⟨s, 0, none⟩)) (.agg #[.slice sa sl sc]) (.pointer (some ⟨s, 1, none⟩)) (.agg #[.slice ra rl rc]) (.bool ob) (.bool ob) (.bool ob))) maskRI4 dstRI4 preRI4 (by kernel_rfl) (by kernel_rfl) rfl (by kernel_rfl) (by kernel_rfl) (by kernel_rfl) (by kernel_rfl) (BB.drew (BB.refl _)) ?_ ?_
          · refine StepsM.cons ?qRI40 (StepsM.cons ?qRI41 (StepsM.cons ?qRI42 (StepsM.cons ?qRI43 (StepsM.cons ?qRI44 (StepsM.cons ?qRI45 (StepsM.cons ?qRI46 (StepsM.cons ?qRI47 (StepsM.cons ?qRI48 (StepsM.cons ?qRI49 (StepsM.cons ?qRI410 (StepsM.cons ?qRI411 (StepsM.cons ?qRI412 (StepsM.cons ?qRI413 (StepsM.cons ?qRI414 (StepsM.cons ?qRI415 (StepsM.cons ?qRI416 (StepsM.cons ?qRI417 (StepsM.cons ?qRI418 (StepsM.cons ?qRI419 (StepsM.cons ?qRI420 (StepsM.cons ?qRI421 (StepsM.cons ?qRI422 (StepsM.cons ?qRI423 (StepsM.cons ?qRI424 (StepsM.cons ?qRI425 (StepsM.cons ?qRI426 (StepsM.cons ?qRI427 (StepsM.cons ?qRI428 (StepsM.cons ?qRI429 (StepsM.cons ?qRI430 (StepsM.cons ?qRI431 (StepsM.cons ?qRI432 (StepsM.cons ?qRI433 (StepsM.cons ?qRI434 (StepsM.cons ?qRI435 (StepsM.nil))))))))))))))))))))))))))))))))))))
            case qRI40 | qRI41 =>
              refine fun l g' wu hB hl hn hp K hK => ?_
              simp only [mkM, maskRI4, mixM, Nat.reduceAdd] at hK ⊢; simp only [Act.put, List.setIfInBounds_toArray, List.set_cons_zero, List.set_cons_succ] at hK; go_simp; exact hK.out _ _ hB GF.same rfl
            case qRI42 =>
              refine fun l g' wu hB hl hn hp K hK => ?_
              have hbb := hB; have e0 : g' 11 = .pointer (some ⟨g, 0, none⟩) := (hp 0 (by decide)).2; have e1 : g' 12 = .int .i64 (t : Int) := (hp 1 (by decide)).2; simp only [mkM, maskRI4, mixM, Nat.reduceAdd, e0, e1] at hK ⊢; clear e0 e1; simp only [Act.put, List.setIfInBounds_toArray, List.set_cons_zero, List.set_cons_succ] at hK; go_simp; go_at_call 70; refine (wrong_no g t wu HT.out.1 HT.out.2).mono ?_; rintro e w7 ⟨rfl, hb⟩; go_wp2_with fail; exact hK.out _ _ (BB.step hbb hb) (GF.below hb) rfl
            case qRI43 =>
              refine fun l g' wu hB hl hn hp K hK => ?_
              have e2 : g' 13 = .bool false := (hp 2 (by decide)).2; simp only [mkM, maskRI4, mixM, Nat.reduceAdd, e2] at hK ⊢; clear e2; simp only [Act.put, List.setIfInBounds_toArray, List.set_cons_zero, List.set_cons_succ] at hK; go_simp; exact hK.out _ _ hB GF.same rfl
            case qRI44 =>
              refine fun l g' wu hB hl hn hp K hK => ?_
              have e3 : g' 14 = .bool true := (hp 3 (by decide)).2; simp only [mkM, maskRI4, mixM, Nat.reduceAdd, e3] at hK ⊢; clear e3; simp only [Act.put, List.setIfInBounds_toArray, List.set_cons_zero, List.set_cons_succ] at hK; go_simp; exact hK.out _ _ hB GF.same rfl
            case qRI45 =>
              refine fun l g' wu hB hl hn hp K hK => ?_
              have e4 : g' 15 = .bool true := (hp 4 (by decide)).2; simp only [mkM, maskRI4, mixM, Nat.reduceAdd, e4] at hK ⊢; clear e4; simp only [Act.put, List.setIfInBounds_toArray, List.set_cons_zero, List.set_cons_succ] at hK; go_simp; exact hK.out _ _ hB GF.same rfl
            case qRI46 =>
              refine fun l g' wu hB hl hn hp K hK => ?_
              have hbb := hB; have e5 : g' 16 = .int .i64 (m : Int) := (hp 5 (by decide)).2; have e4 : g' 15 = .bool true := (hp 4 (by decide)).2; simp only [mkM, maskRI4, mixM, Nat.reduceAdd, e5, e4] at hK ⊢; clear e5 e4; simp only [Act.put, List.setIfInBounds_toArray, List.set_cons_zero, List.set_cons_succ] at hK; go_simp; go_at_call 68; refine (peer_any (m : Int) wu).mono ?_; rw [HPD.out]; rintro e w7 ⟨rfl, hb⟩; go_wp2_with fail; exact hK.out _ _ (BB.step hbb hb) (GF.below hb) rfl
            case qRI47 =>
              refine fun l g' wu hB hl hn hp K hK => ?_
              have e4 : g' 15 = .bool true := (hp 4 (by decide)).2; have e6 : g' 17 = .bool true := (hp 6 (by decide)).2; simp only [mkM, maskRI4, mixM, Nat.reduceAdd, e4, e6] at hK ⊢; clear e4 e6; simp only [Act.put, List.setIfInBounds_toArray, List.set_cons_zero, List.set_cons_succ] at hK; go_simp; exact hK.out _ _ hB GF.same rfl
            case qRI48 =>
              refine fun l g' wu hB hl hn hp K hK => ?_
              have e7 : g' 18 = .bool true := (hp 7 (by decide)).2; simp only [mkM, maskRI4, mixM, Nat.reduceAdd, e7] at hK ⊢; clear e7; simp only [Act.put, List.setIfInBounds_toArray, List.set_cons_zero, List.set_cons_succ] at hK; go_simp; exact hK.out _ _ hB GF.same rfl
            case qRI49 | qRI411 =>
              refine fun l g' wu hB hl hn hp K hK => ?_
              have e8 : g' 19 = .bool true := (hp 8 (by decide)).2; simp only [mkM, maskRI4, mixM, Nat.reduceAdd, e8] at hK ⊢; clear e8; simp only [Act.put, List.setIfInBounds_toArray, List.set_cons_zero, List.set_cons_succ] at hK; go_simp; exact hK.out _ _ hB GF.same rfl
            case qRI410 =>
              refine fun l g' wu hB hl hn hp K hK => ?_
              have e9 : g' 20 = .slice a t cap := (hp 9 (by decide)).2; have e8 : g' 19 = .bool true := (hp 8 (by decide)).2; simp only [mkM, maskRI4, mixM, Nat.reduceAdd, e9, e8] at hK ⊢; clear e9 e8; simp only [Act.put, List.setIfInBounds_toArray, List.set_cons_zero, List.set_cons_succ] at hK; go_simp; exact hK.out _ _ hB GF.same rfl
            case qRI412 =>
              refine fun l g' wu hB hl hn hp K hK => ?_
              have e10 : g' 21 = .int .i64 (t : Int) := (hp 10 (by decide)).2; have e11 : g' 22 = .int .i64 (t : Int) := (hp 11 (by decide)).2; have e8 : g' 19 = .bool true := (hp 8 (by decide)).2; simp only [mkM, maskRI4, mixM, Nat.reduceAdd, e10, e11, e8] at hK ⊢; clear e10 e11 e8; simp only [Act.put, List.setIfInBounds_toArray, List.set_cons_zero, List.set_cons_succ] at hK; go_simp; exact hK.out _ _ hB GF.same rfl
            case qRI413 =>
              refine fun l g' wu hB hl hn hp K hK => ?_
              have e8 : g' 19 = .bool true := (hp 8 (by decide)).2; have e12 : g' 23 = .bool true := (hp 12 (by decide)).2; simp only [mkM, maskRI4, mixM, Nat.reduceAdd, e8, e12] at hK ⊢; clear e8 e12; simp only [Act.put, List.setIfInBounds_toArray, List.set_cons_zero, List.set_cons_succ] at hK; go_simp; exact hK.out _ _ hB GF.same rfl
            case qRI414 =>
              refine fun l g' wu hB hl hn hp K hK => ?_
              have e13 : g' 24 = .bool true := (hp 13 (by decide)).2; simp only [mkM, maskRI4, mixM, Nat.reduceAdd, e13] at hK ⊢; clear e13; simp only [Act.put, List.setIfInBounds_toArray, List.set_cons_zero, List.set_cons_succ] at hK; go_simp; exact hK.out _ _ hB GF.same rfl
            case qRI415 | qRI416 =>
              refine fun l g' wu hB hl hn hp K hK => ?_
              have e14 : g' 25 = .bool true := (hp 14 (by decide)).2; simp only [mkM, maskRI4, mixM, Nat.reduceAdd, e14] at hK ⊢; clear e14; simp only [Act.put, List.setIfInBounds_toArray, List.set_cons_zero, List.set_cons_succ] at hK; go_simp; exact hK.out _ _ hB GF.same rfl
            case qRI417 =>
              refine fun l g' wu hB hl hn hp K hK => ?_
              have hbb := hB; have e15 : g' 26 = .pointer (some ⟨g, 0, none⟩) := (hp 15 (by decide)).2; have e16 : g' 27 = .slice a t cap := (hp 16 (by decide)).2; have e14 : g' 25 = .bool true := (hp 14 (by decide)).2; simp only [mkM, maskRI4, mixM, Nat.reduceAdd, e15, e16, e14] at hK ⊢; clear e15 e16 e14; simp only [Act.put, List.setIfInBounds_toArray, List.set_cons_zero, List.set_cons_succ] at hK; go_simp; go_at_call 71; refine (members_any g P Q G H sz a t cap c wu (HG.out.below hbb) (HC.out.below hbb) HL.out.1 HL.out.2.1 HL.out.2.2).mono ?_; rw [HMM.out]; rintro e w7 ⟨rfl, hb⟩; go_wp2_with fail; exact hK.out _ _ (BB.step hbb hb) (GF.below hb) rfl
            case qRI418 =>
              refine fun l g' wu hB hl hn hp K hK => ?_
              have e14 : g' 25 = .bool true := (hp 14 (by decide)).2; have e17 : g' 28 = .bool true := (hp 17 (by decide)).2; simp only [mkM, maskRI4, mixM, Nat.reduceAdd, e14, e17] at hK ⊢; clear e14 e17; simp only [Act.put, List.setIfInBounds_toArray, List.set_cons_zero, List.set_cons_succ] at hK; go_simp; exact hK.out _ _ hB GF.same rfl
            case qRI419 =>
              refine fun l g' wu hB hl hn hp K hK => ?_
              have e18 : g' 29 = .bool true := (hp 18 (by decide)).2; simp only [mkM, maskRI4, mixM, Nat.reduceAdd, e18] at hK ⊢; clear e18; simp only [Act.put, List.setIfInBounds_toArray, List.set_cons_zero, List.set_cons_succ] at hK; go_simp; exact hK.out _ _ hB GF.same rfl
            case qRI420 =>
              refine fun l g' wu hB hl hn hp K hK => ?_
              have e19 : g' 30 = .bool true := (hp 19 (by decide)).2; simp only [mkM, maskRI4, mixM, Nat.reduceAdd, e19] at hK ⊢; clear e19; simp only [Act.put, List.setIfInBounds_toArray, List.set_cons_zero, List.set_cons_succ] at hK; go_simp; exact hK.out _ _ hB GF.same rfl
            case qRI421 =>
              refine fun l g' wu hB hl hn hp K hK => ?_
              have hbb := hB; have e19 : g' 30 = .bool true := (hp 19 (by decide)).2; have c0 := gS0 _ hbb; have c1 := gS1 _ hbb; simp only [mkM, maskRI4, mixM, Nat.reduceAdd, e19] at hK ⊢; clear e19; simp only [Act.put, List.setIfInBounds_toArray, List.set_cons_zero, List.set_cons_succ] at hK; go_simp; exact hK.out _ _ hB GF.same rfl
            case qRI422 =>
              refine fun l g' wu hB hl hn hp K hK => ?_
              have hbb := hB; have e20 : g' 31 = .pointer (some ⟨g, 0, none⟩) := (hp 20 (by decide)).2; have e21 : g' 32 = .agg #[.slice sa sl sc, .slice ra rl rc] := (hp 21 (by decide)).2; have e19 : g' 30 = .bool true := (hp 19 (by decide)).2; simp only [mkM, maskRI4, mixM, Nat.reduceAdd, e20, e21, e19] at hK ⊢; clear e20 e21 e19; simp only [Act.put, List.setIfInBounds_toArray, List.set_cons_zero, List.set_cons_succ] at hK; go_simp; go_at_call 72; refine (dbelow_any g P Q G H sz sa sl sc x ra rl rc y wu (HG.out.below hbb) (HX.out.below hbb) (HY.out.below hbb)).mono ?_; rw [HBL.out]; rintro e w7 ⟨rfl, hb⟩; go_wp2_with fail; exact hK.out _ _ (BB.step hbb hb) (GF.below hb) rfl
            case qRI423 =>
              refine fun l g' wu hB hl hn hp K hK => ?_
              have e19 : g' 30 = .bool true := (hp 19 (by decide)).2; have e22 : g' 33 = .bool true := (hp 22 (by decide)).2; simp only [mkM, maskRI4, mixM, Nat.reduceAdd, e19, e22] at hK ⊢; clear e19 e22; simp only [Act.put, List.setIfInBounds_toArray, List.set_cons_zero, List.set_cons_succ] at hK; go_simp; exact hK.out _ _ hB GF.same rfl
            case qRI424 =>
              refine fun l g' wu hB hl hn hp K hK => ?_
              have e23 : g' 34 = .bool true := (hp 23 (by decide)).2; simp only [mkM, maskRI4, mixM, Nat.reduceAdd, e23] at hK ⊢; clear e23; simp only [Act.put, List.setIfInBounds_toArray, List.set_cons_zero, List.set_cons_succ] at hK; go_simp; exact hK.out _ _ hB GF.same rfl
            case qRI425 | qRI426 | qRI427 | qRI429 | qRI431 =>
              refine fun l g' wu hB hl hn hp K hK => ?_
              have e24 : g' 35 = .bool true := (hp 24 (by decide)).2; simp only [mkM, maskRI4, mixM, Nat.reduceAdd, e24] at hK ⊢; clear e24; simp only [Act.put, List.setIfInBounds_toArray, List.set_cons_zero, List.set_cons_succ] at hK; go_simp; exact hK.out _ _ hB GF.same rfl
            case qRI428 =>
              refine fun l g' wu hB hl hn hp K hK => ?_
              have hbb := hB; have e27 : g' 38 = .int .i64 (m : Int) := (hp 27 (by decide)).2; have e24 : g' 35 = .bool true := (hp 24 (by decide)).2; simp only [mkM, maskRI4, mixM, Nat.reduceAdd, e27, e24] at hK ⊢; clear e27 e24; simp only [Act.put, List.setIfInBounds_toArray, List.set_cons_zero, List.set_cons_succ] at hK; go_simp; go_at_call 69; refine (dat_any m wu HM64.out).mono ?_; rintro e w7 ⟨ta, tl, tc, rfl, hx, hb⟩; go_wp2_with fail; exact hK.out _ _ (BB.step hbb hb) (GF.below hb) ⟨ta, tl, tc, rfl, hx⟩
            case qRI430 =>
              refine fun l g' wu hB hl hn hp K hK => ?_
              have hbb := hB; have e29 : g' 40 = .pointer (some ⟨s, 0, none⟩) := (hp 29 (by decide)).2; have e24 : g' 35 = .bool true := (hp 24 (by decide)).2; have c0 := gS0 _ hbb; simp only [mkM, maskRI4, mixM, Nat.reduceAdd, e29, e24] at hK ⊢; clear e29 e24; simp only [Act.put, List.setIfInBounds_toArray, List.set_cons_zero, List.set_cons_succ] at hK; go_simp; exact hK.out _ _ hB GF.same rfl
            case qRI432 =>
              refine fun l g' wu hB hl hn hp K hK => ?_
              have hbb := hB; have e31 : g' 42 = .pointer (some ⟨s, 1, none⟩) := (hp 31 (by decide)).2; have e24 : g' 35 = .bool true := (hp 24 (by decide)).2; have c1 := gS1 _ hbb; simp only [mkM, maskRI4, mixM, Nat.reduceAdd, e31, e24] at hK ⊢; clear e31 e24; simp only [Act.put, List.setIfInBounds_toArray, List.set_cons_zero, List.set_cons_succ] at hK; go_simp; exact hK.out _ _ hB GF.same rfl
            case qRI433 =>
              refine fun l g' wu hB hl hn hp K hK => ?_
              have hbb := hB; have e25 : g' 36 = .pointer (some ⟨g, 0, none⟩) := (hp 25 (by decide)).2; have e26 : g' 37 = .slice a t cap := (hp 26 (by decide)).2; obtain ⟨x28, l28, c28, e28, h28⟩ := (hp 28 (by decide)).2; have e28 : g' 39 = .agg #[.slice x28 l28 c28] := e28; have e30 : g' 41 = .agg #[.slice sa sl sc] := (hp 30 (by decide)).2; have e32 : g' 43 = .agg #[.slice ra rl rc] := (hp 32 (by decide)).2; have e24 : g' 35 = .bool true := (hp 24 (by decide)).2; simp only [mkM, maskRI4, mixM, Nat.reduceAdd, e25, e26, e28, e30, e32, e24] at hK ⊢; clear e25 e26 e28 e30 e32 e24; simp only [Act.put, List.setIfInBounds_toArray, List.set_cons_zero, List.set_cons_succ] at hK; go_simp; go_at_call 73; refine (popens_any g P Q G H sz HP1.out a t cap c x28 l28 c28 m sa sl sc x ra rl rc y wu (HG.out.below hbb) (HC.out.below hbb) HL.out.1 HL.out.2.2 h28 (HX.out.below hbb) (HY.out.below hbb) HXQ.out.1 HXQ.out.2).mono ?_; rw [HOB.out]; rintro e w7 ⟨rfl, hb⟩; go_wp2_with fail; exact hK.out _ _ (BB.step hbb hb) (GF.below hb) rfl
            case qRI434 =>
              refine fun l g' wu hB hl hn hp K hK => ?_
              have e24 : g' 35 = .bool true := (hp 24 (by decide)).2; have e33 : g' 44 = .bool ob := (hp 33 (by decide)).2; simp only [mkM, maskRI4, mixM, Nat.reduceAdd, e24, e33] at hK ⊢; clear e24 e33; simp only [Act.put, List.setIfInBounds_toArray, List.set_cons_zero, List.set_cons_succ] at hK; go_simp; exact hK.out _ _ hB GF.same rfl
            case qRI435 =>
              refine fun l g' wu hB hl hn hp K hK => ?_
              have e34 : g' 45 = .bool ob := (hp 34 (by decide)).2; simp only [mkM, maskRI4, mixM, Nat.reduceAdd, e34] at hK ⊢; clear e34; simp only [Act.put, List.setIfInBounds_toArray, List.set_cons_zero, List.set_cons_succ] at hK; go_simp; exact hK.out _ _ hB GF.same rfl
          · intro l gz wz hall hB hG
            have e35 : gz 10 = .bool ob := hG 35 (by decide)
            have HRR : Hid (BB w1 wz) := hB
            simp only [mkM, maskRI4, mixM, Nat.reduceAdd, e35]
            clear hG hall hB e35
            go_wp2_with fail
            go_ret
            exact ⟨ret_bool (by rw [← HRR0.out, ← HOB.out]; exact decide_eq_decide.2 ⟨fun h => ⟨HMP.out, HL.out.1, HAM.out, HXY.out, h⟩, fun h => h.2.2.2.2⟩), HB.out.trans (Below.mono HRR.out HB.out.size)⟩
        · have HBL : Hid (decide (x < Q ∧ y < Q) = false) := decide_eq_false hq
          have HNO : Hid (RR = false) := by show _ = _; rw [← HRR0.out]; exact decide_eq_false fun h => hq h.2.2.2.1
          clear hq
          refine wp_region_mix (fun _ w' => BB w1 w') (GF (tabRI3 (.pointer (some ⟨g, 0, none⟩)) (.int .i64 (t : Int)) (.bool false) (.bool true) (.bool true) (.int .i64 (m : Int)) (.bool true) (.bool true) (.bool true) (.slice a t cap) (.int .i64 (t : Int)) (.int .i64 (t : Int)) (.bool true) (.bool true) (.bool true) (.pointer (some ⟨g, 0, none⟩)) (.slice a t cap) (.bool true) (.bool true) (.bool true) (.pointer (some ⟨g, 0, none⟩)) (.agg #[.slice sa sl sc, .slice ra rl rc]) (.bool false) (.bool false) (.bool false) (undef) (undef) (undef) (undef) (undef) (undef) (undef) (undef) (undef) (.bool false) (.bool false))) maskRI4 dstRI4 preRI4 (by kernel_rfl) (by kernel_rfl) rfl (by kernel_rfl) (by kernel_rfl) (by kernel_rfl) (by kernel_rfl) (BB.drew (BB.refl _)) ?_ ?_
          · refine StepsM.cons ?qRI30 (StepsM.cons ?qRI31 (StepsM.cons ?qRI32 (StepsM.cons ?qRI33 (StepsM.cons ?qRI34 (StepsM.cons ?qRI35 (StepsM.cons ?qRI36 (StepsM.cons ?qRI37 (StepsM.cons ?qRI38 (StepsM.cons ?qRI39 (StepsM.cons ?qRI310 (StepsM.cons ?qRI311 (StepsM.cons ?qRI312 (StepsM.cons ?qRI313 (StepsM.cons ?qRI314 (StepsM.cons ?qRI315 (StepsM.cons ?qRI316 (StepsM.cons ?qRI317 (StepsM.cons ?qRI318 (StepsM.cons ?qRI319 (StepsM.cons ?qRI320 (StepsM.cons ?qRI321 (StepsM.cons ?qRI322 (StepsM.cons ?qRI323 (StepsM.cons ?qRI324 (StepsM.cons ?qRI325 (StepsM.cons ?qRI326 (StepsM.cons ?qRI327 (StepsM.cons ?qRI328 (StepsM.cons ?qRI329 (StepsM.cons ?qRI330 (StepsM.cons ?qRI331 (StepsM.cons ?qRI332 (StepsM.cons ?qRI333 (StepsM.cons ?qRI334 (StepsM.cons ?qRI335 (StepsM.nil))))))))))))))))))))))))))))))))))))
            case qRI30 | qRI31 =>
              refine fun l g' wu hB hl hn hp K hK => ?_
              simp only [mkM, maskRI4, mixM, Nat.reduceAdd] at hK ⊢; simp only [Act.put, List.setIfInBounds_toArray, List.set_cons_zero, List.set_cons_succ] at hK; go_simp; exact hK.out _ _ hB GF.same rfl
            case qRI32 =>
              refine fun l g' wu hB hl hn hp K hK => ?_
              have hbb := hB; have e0 : g' 11 = .pointer (some ⟨g, 0, none⟩) := (hp 0 (by decide)).2; have e1 : g' 12 = .int .i64 (t : Int) := (hp 1 (by decide)).2; simp only [mkM, maskRI4, mixM, Nat.reduceAdd, e0, e1] at hK ⊢; clear e0 e1; simp only [Act.put, List.setIfInBounds_toArray, List.set_cons_zero, List.set_cons_succ] at hK; go_simp; go_at_call 70; refine (wrong_no g t wu HT.out.1 HT.out.2).mono ?_; rintro e w7 ⟨rfl, hb⟩; go_wp2_with fail; exact hK.out _ _ (BB.step hbb hb) (GF.below hb) rfl
            case qRI33 =>
              refine fun l g' wu hB hl hn hp K hK => ?_
              have e2 : g' 13 = .bool false := (hp 2 (by decide)).2; simp only [mkM, maskRI4, mixM, Nat.reduceAdd, e2] at hK ⊢; clear e2; simp only [Act.put, List.setIfInBounds_toArray, List.set_cons_zero, List.set_cons_succ] at hK; go_simp; exact hK.out _ _ hB GF.same rfl
            case qRI34 =>
              refine fun l g' wu hB hl hn hp K hK => ?_
              have e3 : g' 14 = .bool true := (hp 3 (by decide)).2; simp only [mkM, maskRI4, mixM, Nat.reduceAdd, e3] at hK ⊢; clear e3; simp only [Act.put, List.setIfInBounds_toArray, List.set_cons_zero, List.set_cons_succ] at hK; go_simp; exact hK.out _ _ hB GF.same rfl
            case qRI35 =>
              refine fun l g' wu hB hl hn hp K hK => ?_
              have e4 : g' 15 = .bool true := (hp 4 (by decide)).2; simp only [mkM, maskRI4, mixM, Nat.reduceAdd, e4] at hK ⊢; clear e4; simp only [Act.put, List.setIfInBounds_toArray, List.set_cons_zero, List.set_cons_succ] at hK; go_simp; exact hK.out _ _ hB GF.same rfl
            case qRI36 =>
              refine fun l g' wu hB hl hn hp K hK => ?_
              have hbb := hB; have e5 : g' 16 = .int .i64 (m : Int) := (hp 5 (by decide)).2; have e4 : g' 15 = .bool true := (hp 4 (by decide)).2; simp only [mkM, maskRI4, mixM, Nat.reduceAdd, e5, e4] at hK ⊢; clear e5 e4; simp only [Act.put, List.setIfInBounds_toArray, List.set_cons_zero, List.set_cons_succ] at hK; go_simp; go_at_call 68; refine (peer_any (m : Int) wu).mono ?_; rw [HPD.out]; rintro e w7 ⟨rfl, hb⟩; go_wp2_with fail; exact hK.out _ _ (BB.step hbb hb) (GF.below hb) rfl
            case qRI37 =>
              refine fun l g' wu hB hl hn hp K hK => ?_
              have e4 : g' 15 = .bool true := (hp 4 (by decide)).2; have e6 : g' 17 = .bool true := (hp 6 (by decide)).2; simp only [mkM, maskRI4, mixM, Nat.reduceAdd, e4, e6] at hK ⊢; clear e4 e6; simp only [Act.put, List.setIfInBounds_toArray, List.set_cons_zero, List.set_cons_succ] at hK; go_simp; exact hK.out _ _ hB GF.same rfl
            case qRI38 =>
              refine fun l g' wu hB hl hn hp K hK => ?_
              have e7 : g' 18 = .bool true := (hp 7 (by decide)).2; simp only [mkM, maskRI4, mixM, Nat.reduceAdd, e7] at hK ⊢; clear e7; simp only [Act.put, List.setIfInBounds_toArray, List.set_cons_zero, List.set_cons_succ] at hK; go_simp; exact hK.out _ _ hB GF.same rfl
            case qRI39 | qRI311 =>
              refine fun l g' wu hB hl hn hp K hK => ?_
              have e8 : g' 19 = .bool true := (hp 8 (by decide)).2; simp only [mkM, maskRI4, mixM, Nat.reduceAdd, e8] at hK ⊢; clear e8; simp only [Act.put, List.setIfInBounds_toArray, List.set_cons_zero, List.set_cons_succ] at hK; go_simp; exact hK.out _ _ hB GF.same rfl
            case qRI310 =>
              refine fun l g' wu hB hl hn hp K hK => ?_
              have e9 : g' 20 = .slice a t cap := (hp 9 (by decide)).2; have e8 : g' 19 = .bool true := (hp 8 (by decide)).2; simp only [mkM, maskRI4, mixM, Nat.reduceAdd, e9, e8] at hK ⊢; clear e9 e8; simp only [Act.put, List.setIfInBounds_toArray, List.set_cons_zero, List.set_cons_succ] at hK; go_simp; exact hK.out _ _ hB GF.same rfl
            case qRI312 =>
              refine fun l g' wu hB hl hn hp K hK => ?_
              have e10 : g' 21 = .int .i64 (t : Int) := (hp 10 (by decide)).2; have e11 : g' 22 = .int .i64 (t : Int) := (hp 11 (by decide)).2; have e8 : g' 19 = .bool true := (hp 8 (by decide)).2; simp only [mkM, maskRI4, mixM, Nat.reduceAdd, e10, e11, e8] at hK ⊢; clear e10 e11 e8; simp only [Act.put, List.setIfInBounds_toArray, List.set_cons_zero, List.set_cons_succ] at hK; go_simp; exact hK.out _ _ hB GF.same rfl
            case qRI313 =>
              refine fun l g' wu hB hl hn hp K hK => ?_
              have e8 : g' 19 = .bool true := (hp 8 (by decide)).2; have e12 : g' 23 = .bool true := (hp 12 (by decide)).2; simp only [mkM, maskRI4, mixM, Nat.reduceAdd, e8, e12] at hK ⊢; clear e8 e12; simp only [Act.put, List.setIfInBounds_toArray, List.set_cons_zero, List.set_cons_succ] at hK; go_simp; exact hK.out _ _ hB GF.same rfl
            case qRI314 =>
              refine fun l g' wu hB hl hn hp K hK => ?_
              have e13 : g' 24 = .bool true := (hp 13 (by decide)).2; simp only [mkM, maskRI4, mixM, Nat.reduceAdd, e13] at hK ⊢; clear e13; simp only [Act.put, List.setIfInBounds_toArray, List.set_cons_zero, List.set_cons_succ] at hK; go_simp; exact hK.out _ _ hB GF.same rfl
            case qRI315 | qRI316 =>
              refine fun l g' wu hB hl hn hp K hK => ?_
              have e14 : g' 25 = .bool true := (hp 14 (by decide)).2; simp only [mkM, maskRI4, mixM, Nat.reduceAdd, e14] at hK ⊢; clear e14; simp only [Act.put, List.setIfInBounds_toArray, List.set_cons_zero, List.set_cons_succ] at hK; go_simp; exact hK.out _ _ hB GF.same rfl
            case qRI317 =>
              refine fun l g' wu hB hl hn hp K hK => ?_
              have hbb := hB; have e15 : g' 26 = .pointer (some ⟨g, 0, none⟩) := (hp 15 (by decide)).2; have e16 : g' 27 = .slice a t cap := (hp 16 (by decide)).2; have e14 : g' 25 = .bool true := (hp 14 (by decide)).2; simp only [mkM, maskRI4, mixM, Nat.reduceAdd, e15, e16, e14] at hK ⊢; clear e15 e16 e14; simp only [Act.put, List.setIfInBounds_toArray, List.set_cons_zero, List.set_cons_succ] at hK; go_simp; go_at_call 71; refine (members_any g P Q G H sz a t cap c wu (HG.out.below hbb) (HC.out.below hbb) HL.out.1 HL.out.2.1 HL.out.2.2).mono ?_; rw [HMM.out]; rintro e w7 ⟨rfl, hb⟩; go_wp2_with fail; exact hK.out _ _ (BB.step hbb hb) (GF.below hb) rfl
            case qRI318 =>
              refine fun l g' wu hB hl hn hp K hK => ?_
              have e14 : g' 25 = .bool true := (hp 14 (by decide)).2; have e17 : g' 28 = .bool true := (hp 17 (by decide)).2; simp only [mkM, maskRI4, mixM, Nat.reduceAdd, e14, e17] at hK ⊢; clear e14 e17; simp only [Act.put, List.setIfInBounds_toArray, List.set_cons_zero, List.set_cons_succ] at hK; go_simp; exact hK.out _ _ hB GF.same rfl
            case qRI319 =>
              refine fun l g' wu hB hl hn hp K hK => ?_
              have e18 : g' 29 = .bool true := (hp 18 (by decide)).2; simp only [mkM, maskRI4, mixM, Nat.reduceAdd, e18] at hK ⊢; clear e18; simp only [Act.put, List.setIfInBounds_toArray, List.set_cons_zero, List.set_cons_succ] at hK; go_simp; exact hK.out _ _ hB GF.same rfl
            case qRI320 =>
              refine fun l g' wu hB hl hn hp K hK => ?_
              have e19 : g' 30 = .bool true := (hp 19 (by decide)).2; simp only [mkM, maskRI4, mixM, Nat.reduceAdd, e19] at hK ⊢; clear e19; simp only [Act.put, List.setIfInBounds_toArray, List.set_cons_zero, List.set_cons_succ] at hK; go_simp; exact hK.out _ _ hB GF.same rfl
            case qRI321 =>
              refine fun l g' wu hB hl hn hp K hK => ?_
              have hbb := hB; have e19 : g' 30 = .bool true := (hp 19 (by decide)).2; have c0 := gS0 _ hbb; have c1 := gS1 _ hbb; simp only [mkM, maskRI4, mixM, Nat.reduceAdd, e19] at hK ⊢; clear e19; simp only [Act.put, List.setIfInBounds_toArray, List.set_cons_zero, List.set_cons_succ] at hK; go_simp; exact hK.out _ _ hB GF.same rfl
            case qRI322 =>
              refine fun l g' wu hB hl hn hp K hK => ?_
              have hbb := hB; have e20 : g' 31 = .pointer (some ⟨g, 0, none⟩) := (hp 20 (by decide)).2; have e21 : g' 32 = .agg #[.slice sa sl sc, .slice ra rl rc] := (hp 21 (by decide)).2; have e19 : g' 30 = .bool true := (hp 19 (by decide)).2; simp only [mkM, maskRI4, mixM, Nat.reduceAdd, e20, e21, e19] at hK ⊢; clear e20 e21 e19; simp only [Act.put, List.setIfInBounds_toArray, List.set_cons_zero, List.set_cons_succ] at hK; go_simp; go_at_call 72; refine (dbelow_any g P Q G H sz sa sl sc x ra rl rc y wu (HG.out.below hbb) (HX.out.below hbb) (HY.out.below hbb)).mono ?_; rw [HBL.out]; rintro e w7 ⟨rfl, hb⟩; go_wp2_with fail; exact hK.out _ _ (BB.step hbb hb) (GF.below hb) rfl
            case qRI323 =>
              refine fun l g' wu hB hl hn hp K hK => ?_
              have e19 : g' 30 = .bool true := (hp 19 (by decide)).2; have e22 : g' 33 = .bool false := (hp 22 (by decide)).2; simp only [mkM, maskRI4, mixM, Nat.reduceAdd, e19, e22] at hK ⊢; clear e19 e22; simp only [Act.put, List.setIfInBounds_toArray, List.set_cons_zero, List.set_cons_succ] at hK; go_simp; exact hK.out _ _ hB GF.same rfl
            case qRI324 =>
              refine fun l g' wu hB hl hn hp K hK => ?_
              have e23 : g' 34 = .bool false := (hp 23 (by decide)).2; simp only [mkM, maskRI4, mixM, Nat.reduceAdd, e23] at hK ⊢; clear e23; simp only [Act.put, List.setIfInBounds_toArray, List.set_cons_zero, List.set_cons_succ] at hK; go_simp; exact hK.out _ _ hB GF.same rfl
            case qRI325 | qRI326 | qRI327 | qRI328 | qRI329 | qRI330 | qRI331 | qRI332 | qRI333 | qRI334 =>
              refine fun l g' wu hB hl hn hp K hK => ?_
              have e24 : g' 35 = .bool false := (hp 24 (by decide)).2; simp only [mkM, maskRI4, mixM, Nat.reduceAdd, e24] at hK ⊢; clear e24; simp only [Act.put, List.setIfInBounds_toArray, List.set_cons_zero, List.set_cons_succ] at hK; go_simp; exact hK.out _ _ hB GF.same rfl
            case qRI335 =>
              refine fun l g' wu hB hl hn hp K hK => ?_
              have e34 : g' 45 = .bool false := (hp 34 (by decide)).2; simp only [mkM, maskRI4, mixM, Nat.reduceAdd, e34] at hK ⊢; clear e34; simp only [Act.put, List.setIfInBounds_toArray, List.set_cons_zero, List.set_cons_succ] at hK; go_simp; exact hK.out _ _ hB GF.same rfl
          · intro l gz wz hall hB hG
            have e35 : gz 10 = .bool false := hG 35 (by decide)
            have HRR : Hid (BB w1 wz) := hB
            simp only [mkM, maskRI4, mixM, Nat.reduceAdd, e35]
            clear hG hall hB e35
            go_wp2_with fail
            go_ret
            exact ⟨ret_bool HNO.out.symm, HB.out.trans (Below.mono HRR.out HB.out.size)⟩
      · have HMM : Hid (decide (AllM P Q c) = false) := decide_eq_false hm
        have HNO : Hid (RR = false) := by show _ = _; rw [← HRR0.out]; exact decide_eq_false fun h => hm h.2.2.1
        clear hm
        refine wp_region_mix (fun _ w' => BB w1 w') (GF (tabRI2 (.pointer (some ⟨g, 0, none⟩)) (.int .i64 (t : Int)) (.bool false) (.bool true) (.bool true) (.int .i64 (m : Int)) (.bool true) (.bool true) (.bool true) (.slice a t cap) (.int .i64 (t : Int)) (.int .i64 (t : Int)) (.bool true) (.bool true) (.bool true) (.pointer (some ⟨g, 0, none⟩)) (.slice a t cap) (.bool false) (.bool false) (.bool false) (undef) (undef) (undef) (.bool false) (.bool false) (undef) (undef) (undef) (undef) (undef) (undef) (undef) (undef) (undef) (.bool false) (.bool false))) maskRI4 dstRI4 preRI4 (by kernel_rfl) (by kernel_rfl) rfl (by kernel_rfl) (by kernel_rfl) (by kernel_rfl) (by kernel_rfl) (BB.drew (BB.refl _)) ?_ ?_
        · refine StepsM.cons ?qRI20 (StepsM.cons ?qRI21 (StepsM.cons ?qRI22 (StepsM.cons ?qRI23 (StepsM.cons ?qRI24 (StepsM.cons ?qRI25 (StepsM.cons ?qRI26 (StepsM.cons ?qRI27 (StepsM.cons ?qRI28 (StepsM.cons ?qRI29 (StepsM.cons ?qRI210 (StepsM.cons ?qRI211 (StepsM.cons ?qRI212 (StepsM.cons ?qRI213 (StepsM.cons ?qRI214 (StepsM.cons ?qRI215 (StepsM.cons ?qRI216 (StepsM.cons ?qRI217 (StepsM.cons ?qRI218 (StepsM.cons ?qRI219 (StepsM.cons ?qRI220 (StepsM.cons ?qRI221 (StepsM.cons ?qRI222 (StepsM.cons ?qRI223 (StepsM.cons ?qRI224 (StepsM.cons ?qRI225 (StepsM.cons ?qRI226 (StepsM.cons ?qRI227 (StepsM.cons ?qRI228 (StepsM.cons ?qRI229 (StepsM.cons ?qRI230 (StepsM.cons ?qRI231 (StepsM.cons ?qRI232 (StepsM.cons ?qRI233 (StepsM.cons ?qRI234 (StepsM.cons ?qRI235 (StepsM.nil))))))))))))))))))))))))))))))))))))
          case qRI20 | qRI21 =>
            refine fun l g' wu hB hl hn hp K hK => ?_
            simp only [mkM, maskRI4, mixM, Nat.reduceAdd] at hK ⊢; simp only [Act.put, List.setIfInBounds_toArray, List.set_cons_zero, List.set_cons_succ] at hK; go_simp; exact hK.out _ _ hB GF.same rfl
          case qRI22 =>
            refine fun l g' wu hB hl hn hp K hK => ?_
            have hbb := hB; have e0 : g' 11 = .pointer (some ⟨g, 0, none⟩) := (hp 0 (by decide)).2; have e1 : g' 12 = .int .i64 (t : Int) := (hp 1 (by decide)).2; simp only [mkM, maskRI4, mixM, Nat.reduceAdd, e0, e1] at hK ⊢; clear e0 e1; simp only [Act.put, List.setIfInBounds_toArray, List.set_cons_zero, List.set_cons_succ] at hK; go_simp; go_at_call 70; refine (wrong_no g t wu HT.out.1 HT.out.2).mono ?_; rintro e w7 ⟨rfl, hb⟩; go_wp2_with fail; exact hK.out _ _ (BB.step hbb hb) (GF.below hb) rfl
          case qRI23 =>
            refine fun l g' wu hB hl hn hp K hK => ?_
            have e2 : g' 13 = .bool false := (hp 2 (by decide)).2; simp only [mkM, maskRI4, mixM, Nat.reduceAdd, e2] at hK ⊢; clear e2; simp only [Act.put, List.setIfInBounds_toArray, List.set_cons_zero, List.set_cons_succ] at hK; go_simp; exact hK.out _ _ hB GF.same rfl
          case qRI24 =>
            refine fun l g' wu hB hl hn hp K hK => ?_
            have e3 : g' 14 = .bool true := (hp 3 (by decide)).2; simp only [mkM, maskRI4, mixM, Nat.reduceAdd, e3] at hK ⊢; clear e3; simp only [Act.put, List.setIfInBounds_toArray, List.set_cons_zero, List.set_cons_succ] at hK; go_simp; exact hK.out _ _ hB GF.same rfl
          case qRI25 =>
            refine fun l g' wu hB hl hn hp K hK => ?_
            have e4 : g' 15 = .bool true := (hp 4 (by decide)).2; simp only [mkM, maskRI4, mixM, Nat.reduceAdd, e4] at hK ⊢; clear e4; simp only [Act.put, List.setIfInBounds_toArray, List.set_cons_zero, List.set_cons_succ] at hK; go_simp; exact hK.out _ _ hB GF.same rfl
          case qRI26 =>
            refine fun l g' wu hB hl hn hp K hK => ?_
            have hbb := hB; have e5 : g' 16 = .int .i64 (m : Int) := (hp 5 (by decide)).2; have e4 : g' 15 = .bool true := (hp 4 (by decide)).2; simp only [mkM, maskRI4, mixM, Nat.reduceAdd, e5, e4] at hK ⊢; clear e5 e4; simp only [Act.put, List.setIfInBounds_toArray, List.set_cons_zero, List.set_cons_succ] at hK; go_simp; go_at_call 68; refine (peer_any (m : Int) wu).mono ?_; rw [HPD.out]; rintro e w7 ⟨rfl, hb⟩; go_wp2_with fail; exact hK.out _ _ (BB.step hbb hb) (GF.below hb) rfl
          case qRI27 =>
            refine fun l g' wu hB hl hn hp K hK => ?_
            have e4 : g' 15 = .bool true := (hp 4 (by decide)).2; have e6 : g' 17 = .bool true := (hp 6 (by decide)).2; simp only [mkM, maskRI4, mixM, Nat.reduceAdd, e4, e6] at hK ⊢; clear e4 e6; simp only [Act.put, List.setIfInBounds_toArray, List.set_cons_zero, List.set_cons_succ] at hK; go_simp; exact hK.out _ _ hB GF.same rfl
          case qRI28 =>
            refine fun l g' wu hB hl hn hp K hK => ?_
            have e7 : g' 18 = .bool true := (hp 7 (by decide)).2; simp only [mkM, maskRI4, mixM, Nat.reduceAdd, e7] at hK ⊢; clear e7; simp only [Act.put, List.setIfInBounds_toArray, List.set_cons_zero, List.set_cons_succ] at hK; go_simp; exact hK.out _ _ hB GF.same rfl
          case qRI29 | qRI211 =>
            refine fun l g' wu hB hl hn hp K hK => ?_
            have e8 : g' 19 = .bool true := (hp 8 (by decide)).2; simp only [mkM, maskRI4, mixM, Nat.reduceAdd, e8] at hK ⊢; clear e8; simp only [Act.put, List.setIfInBounds_toArray, List.set_cons_zero, List.set_cons_succ] at hK; go_simp; exact hK.out _ _ hB GF.same rfl
          case qRI210 =>
            refine fun l g' wu hB hl hn hp K hK => ?_
            have e9 : g' 20 = .slice a t cap := (hp 9 (by decide)).2; have e8 : g' 19 = .bool true := (hp 8 (by decide)).2; simp only [mkM, maskRI4, mixM, Nat.reduceAdd, e9, e8] at hK ⊢; clear e9 e8; simp only [Act.put, List.setIfInBounds_toArray, List.set_cons_zero, List.set_cons_succ] at hK; go_simp; exact hK.out _ _ hB GF.same rfl
          case qRI212 =>
            refine fun l g' wu hB hl hn hp K hK => ?_
            have e10 : g' 21 = .int .i64 (t : Int) := (hp 10 (by decide)).2; have e11 : g' 22 = .int .i64 (t : Int) := (hp 11 (by decide)).2; have e8 : g' 19 = .bool true := (hp 8 (by decide)).2; simp only [mkM, maskRI4, mixM, Nat.reduceAdd, e10, e11, e8] at hK ⊢; clear e10 e11 e8; simp only [Act.put, List.setIfInBounds_toArray, List.set_cons_zero, List.set_cons_succ] at hK; go_simp; exact hK.out _ _ hB GF.same rfl
          case qRI213 =>
            refine fun l g' wu hB hl hn hp K hK => ?_
            have e8 : g' 19 = .bool true := (hp 8 (by decide)).2; have e12 : g' 23 = .bool true := (hp 12 (by decide)).2; simp only [mkM, maskRI4, mixM, Nat.reduceAdd, e8, e12] at hK ⊢; clear e8 e12; simp only [Act.put, List.setIfInBounds_toArray, List.set_cons_zero, List.set_cons_succ] at hK; go_simp; exact hK.out _ _ hB GF.same rfl
          case qRI214 =>
            refine fun l g' wu hB hl hn hp K hK => ?_
            have e13 : g' 24 = .bool true := (hp 13 (by decide)).2; simp only [mkM, maskRI4, mixM, Nat.reduceAdd, e13] at hK ⊢; clear e13; simp only [Act.put, List.setIfInBounds_toArray, List.set_cons_zero, List.set_cons_succ] at hK; go_simp; exact hK.out _ _ hB GF.same rfl
          case qRI215 | qRI216 =>
            refine fun l g' wu hB hl hn hp K hK => ?_
            have e14 : g' 25 = .bool true := (hp 14 (by decide)).2; simp only [mkM, maskRI4, mixM, Nat.reduceAdd, e14] at hK ⊢; clear e14; simp only [Act.put, List.setIfInBounds_toArray, List.set_cons_zero, List.set_cons_succ] at hK; go_simp; exact hK.out _ _ hB GF.same rfl
          case qRI217 =>
            refine fun l g' wu hB hl hn hp K hK => ?_
            have hbb := hB; have e15 : g' 26 = .pointer (some ⟨g, 0, none⟩) := (hp 15 (by decide)).2; have e16 : g' 27 = .slice a t cap := (hp 16 (by decide)).2; have e14 : g' 25 = .bool true := (hp 14 (by decide)).2; simp only [mkM, maskRI4, mixM, Nat.reduceAdd, e15, e16, e14] at hK ⊢; clear e15 e16 e14; simp only [Act.put, List.setIfInBounds_toArray, List.set_cons_zero, List.set_cons_succ] at hK; go_simp; go_at_call 71; refine (members_any g P Q G H sz a t cap c wu (HG.out.below hbb) (HC.out.below hbb) HL.out.1 HL.out.2.1 HL.out.2.2).mono ?_; rw [HMM.out]; rintro e w7 ⟨rfl, hb⟩; go_wp2_with fail; exact hK.out _ _ (BB.step hbb hb) (GF.below hb) rfl
          case qRI218 =>
            refine fun l g' wu hB hl hn hp K hK => ?_
            have e14 : g' 25 = .bool true := (hp 14 (by decide)).2; have e17 : g' 28 = .bool false := (hp 17 (by decide)).2; simp only [mkM, maskRI4, mixM, Nat.reduceAdd, e14, e17] at hK ⊢; clear e14 e17; simp only [Act.put, List.setIfInBounds_toArray, List.set_cons_zero, List.set_cons_succ] at hK; go_simp; exact hK.out _ _ hB GF.same rfl
          case qRI219 =>
            refine fun l g' wu hB hl hn hp K hK => ?_
            have e18 : g' 29 = .bool false := (hp 18 (by decide)).2; simp only [mkM, maskRI4, mixM, Nat.reduceAdd, e18] at hK ⊢; clear e18; simp only [Act.put, List.setIfInBounds_toArray, List.set_cons_zero, List.set_cons_succ] at hK; go_simp; exact hK.out _ _ hB GF.same rfl
          case qRI220 | qRI221 | qRI222 | qRI223 =>
            refine fun l g' wu hB hl hn hp K hK => ?_
            have e19 : g' 30 = .bool false := (hp 19 (by decide)).2; simp only [mkM, maskRI4, mixM, Nat.reduceAdd, e19] at hK ⊢; clear e19; simp only [Act.put, List.setIfInBounds_toArray, List.set_cons_zero, List.set_cons_succ] at hK; go_simp; exact hK.out _ _ hB GF.same rfl
          case qRI224 =>
            refine fun l g' wu hB hl hn hp K hK => ?_
            have e23 : g' 34 = .bool false := (hp 23 (by decide)).2; simp only [mkM, maskRI4, mixM, Nat.reduceAdd, e23] at hK ⊢; clear e23; simp only [Act.put, List.setIfInBounds_toArray, List.set_cons_zero, List.set_cons_succ] at hK; go_simp; exact hK.out _ _ hB GF.same rfl
          case qRI225 | qRI226 | qRI227 | qRI228 | qRI229 | qRI230 | qRI231 | qRI232 | qRI233 | qRI234 =>
            refine fun l g' wu hB hl hn hp K hK => ?_
            have e24 : g' 35 = .bool false := (hp 24 (by decide)).2; simp only [mkM, maskRI4, mixM, Nat.reduceAdd, e24] at hK ⊢; clear e24; simp only [Act.put, List.setIfInBounds_toArray, List.set_cons_zero, List.set_cons_succ] at hK; go_simp; exact hK.out _ _ hB GF.same rfl
          case qRI235 =>
            refine fun l g' wu hB hl hn hp K hK => ?_
            have e34 : g' 45 = .bool false := (hp 34 (by decide)).2; simp only [mkM, maskRI4, mixM, Nat.reduceAdd, e34] at hK ⊢; clear e34; simp only [Act.put, List.setIfInBounds_toArray, List.set_cons_zero, List.set_cons_succ] at hK; go_simp; exact hK.out _ _ hB GF.same rfl
        · intro l gz wz hall hB hG
          have e35 : gz 10 = .bool false := hG 35 (by decide)
          have HRR : Hid (BB w1 wz) := hB
          simp only [mkM, maskRI4, mixM, Nat.reduceAdd, e35]
          clear hG hall hB e35
          go_wp2_with fail
          go_ret
          exact ⟨ret_bool HNO.out.symm, HB.out.trans (Below.mono HRR.out HB.out.size)⟩
    · have HNO : Hid (RR = false) := by show _ = _; rw [← HRR0.out]; exact decide_eq_false fun h => hlt (HL0.out.symm.trans h.2.1)
      have hne : ((len : Int) == (t : Int)) = false := by rw [beq_eq_false_iff_ne]; omega
      clear hlt hcc hcm
      refine wp_region_mix (fun _ w' => BB w1 w') (GF (tabRI1 (.pointer (some ⟨g, 0, none⟩)) (.int .i64 (t : Int)) (.bool false) (.bool true) (.bool true) (.int .i64 (m : Int)) (.bool true) (.bool true) (.bool true) (.slice a len cap) (.int .i64 (len : Int)) (.int .i64 (t : Int)) (.bool false) (.bool false) (.bool false) (undef) (undef) (undef) (.bool false) (.bool false) (undef) (undef) (undef) (.bool false) (.bool false) (undef) (undef) (undef) (undef) (undef) (undef) (undef) (undef) (undef) (.bool false) (.bool false))) maskRI4 dstRI4 preRI4 (by kernel_rfl) (by kernel_rfl) rfl (by kernel_rfl) (by kernel_rfl) (by kernel_rfl) (by kernel_rfl) (BB.drew (BB.refl _)) ?_ ?_
      · refine StepsM.cons ?qRI10 (StepsM.cons ?qRI11 (StepsM.cons ?qRI12 (StepsM.cons ?qRI13 (StepsM.cons ?qRI14 (StepsM.cons ?qRI15 (StepsM.cons ?qRI16 (StepsM.cons ?qRI17 (StepsM.cons ?qRI18 (StepsM.cons ?qRI19 (StepsM.cons ?qRI110 (StepsM.cons ?qRI111 (StepsM.cons ?qRI112 (StepsM.cons ?qRI113 (StepsM.cons ?qRI114 (StepsM.cons ?qRI115 (StepsM.cons ?qRI116 (StepsM.cons ?qRI117 (StepsM.cons ?qRI118 (StepsM.cons ?qRI119 (StepsM.cons ?qRI120 (StepsM.cons ?qRI121 (StepsM.cons ?qRI122 (StepsM.cons ?qRI123 (StepsM.cons ?qRI124 (StepsM.cons ?qRI125 (StepsM.cons ?qRI126 (StepsM.cons ?qRI127 (StepsM.cons ?qRI128 (StepsM.cons ?qRI129 (StepsM.cons ?qRI130 (StepsM.cons ?qRI131 (StepsM.cons ?qRI132 (StepsM.cons ?qRI133 (StepsM.cons ?qRI134 (StepsM.cons ?qRI135 (StepsM.nil))))))))))))))))))))))))))))))))))))
        case qRI10 | qRI11 =>
          refine fun l g' wu hB hl hn hp K hK => ?_
          simp only [mkM, maskRI4, mixM, Nat.reduceAdd] at hK ⊢; simp only [Act.put, List.setIfInBounds_toArray, List.set_cons_zero, List.set_cons_succ] at hK; go_simp; exact hK.out _ _ hB GF.same rfl
        case qRI12 =>
          refine fun l g' wu hB hl hn hp K hK => ?_
          have hbb := hB; have e0 : g' 11 = .pointer (some ⟨g, 0, none⟩) := (hp 0 (by decide)).2; have e1 : g' 12 = .int .i64 (t : Int) := (hp 1 (by decide)).2; simp only [mkM, maskRI4, mixM, Nat.reduceAdd, e0, e1] at hK ⊢; clear e0 e1; simp only [Act.put, List.setIfInBounds_toArray, List.set_cons_zero, List.set_cons_succ] at hK; go_simp; go_at_call 70; refine (wrong_no g t wu HT.out.1 HT.out.2).mono ?_; rintro e w7 ⟨rfl, hb⟩; go_wp2_with fail; exact hK.out _ _ (BB.step hbb hb) (GF.below hb) rfl
        case qRI13 =>
          refine fun l g' wu hB hl hn hp K hK => ?_
          have e2 : g' 13 = .bool false := (hp 2 (by decide)).2; simp only [mkM, maskRI4, mixM, Nat.reduceAdd, e2] at hK ⊢; clear e2; simp only [Act.put, List.setIfInBounds_toArray, List.set_cons_zero, List.set_cons_succ] at hK; go_simp; exact hK.out _ _ hB GF.same rfl
        case qRI14 =>
          refine fun l g' wu hB hl hn hp K hK => ?_
          have e3 : g' 14 = .bool true := (hp 3 (by decide)).2; simp only [mkM, maskRI4, mixM, Nat.reduceAdd, e3] at hK ⊢; clear e3; simp only [Act.put, List.setIfInBounds_toArray, List.set_cons_zero, List.set_cons_succ] at hK; go_simp; exact hK.out _ _ hB GF.same rfl
        case qRI15 =>
          refine fun l g' wu hB hl hn hp K hK => ?_
          have e4 : g' 15 = .bool true := (hp 4 (by decide)).2; simp only [mkM, maskRI4, mixM, Nat.reduceAdd, e4] at hK ⊢; clear e4; simp only [Act.put, List.setIfInBounds_toArray, List.set_cons_zero, List.set_cons_succ] at hK; go_simp; exact hK.out _ _ hB GF.same rfl
        case qRI16 =>
          refine fun l g' wu hB hl hn hp K hK => ?_
          have hbb := hB; have e5 : g' 16 = .int .i64 (m : Int) := (hp 5 (by decide)).2; have e4 : g' 15 = .bool true := (hp 4 (by decide)).2; simp only [mkM, maskRI4, mixM, Nat.reduceAdd, e5, e4] at hK ⊢; clear e5 e4; simp only [Act.put, List.setIfInBounds_toArray, List.set_cons_zero, List.set_cons_succ] at hK; go_simp; go_at_call 68; refine (peer_any (m : Int) wu).mono ?_; rw [HPD.out]; rintro e w7 ⟨rfl, hb⟩; go_wp2_with fail; exact hK.out _ _ (BB.step hbb hb) (GF.below hb) rfl
        case qRI17 =>
          refine fun l g' wu hB hl hn hp K hK => ?_
          have e4 : g' 15 = .bool true := (hp 4 (by decide)).2; have e6 : g' 17 = .bool true := (hp 6 (by decide)).2; simp only [mkM, maskRI4, mixM, Nat.reduceAdd, e4, e6] at hK ⊢; clear e4 e6; simp only [Act.put, List.setIfInBounds_toArray, List.set_cons_zero, List.set_cons_succ] at hK; go_simp; exact hK.out _ _ hB GF.same rfl
        case qRI18 =>
          refine fun l g' wu hB hl hn hp K hK => ?_
          have e7 : g' 18 = .bool true := (hp 7 (by decide)).2; simp only [mkM, maskRI4, mixM, Nat.reduceAdd, e7] at hK ⊢; clear e7; simp only [Act.put, List.setIfInBounds_toArray, List.set_cons_zero, List.set_cons_succ] at hK; go_simp; exact hK.out _ _ hB GF.same rfl
        case qRI19 | qRI111 =>
          refine fun l g' wu hB hl hn hp K hK => ?_
          have e8 : g' 19 = .bool true := (hp 8 (by decide)).2; simp only [mkM, maskRI4, mixM, Nat.reduceAdd, e8] at hK ⊢; clear e8; simp only [Act.put, List.setIfInBounds_toArray, List.set_cons_zero, List.set_cons_succ] at hK; go_simp; exact hK.out _ _ hB GF.same rfl
        case qRI110 =>
          refine fun l g' wu hB hl hn hp K hK => ?_
          have e9 : g' 20 = .slice a len cap := (hp 9 (by decide)).2; have e8 : g' 19 = .bool true := (hp 8 (by decide)).2; simp only [mkM, maskRI4, mixM, Nat.reduceAdd, e9, e8] at hK ⊢; clear e9 e8; simp only [Act.put, List.setIfInBounds_toArray, List.set_cons_zero, List.set_cons_succ] at hK; go_simp; exact hK.out _ _ hB GF.same rfl
        case qRI112 =>
          refine fun l g' wu hB hl hn hp K hK => ?_
          have e10 : g' 21 = .int .i64 (len : Int) := (hp 10 (by decide)).2; have e11 : g' 22 = .int .i64 (t : Int) := (hp 11 (by decide)).2; have e8 : g' 19 = .bool true := (hp 8 (by decide)).2; simp only [mkM, maskRI4, mixM, Nat.reduceAdd, e10, e11, e8] at hK ⊢; clear e10 e11 e8; simp only [Act.put, List.setIfInBounds_toArray, List.set_cons_zero, List.set_cons_succ] at hK; go_simp; exact hK.out _ _ hB GF.same rfl
        case qRI113 =>
          refine fun l g' wu hB hl hn hp K hK => ?_
          have e8 : g' 19 = .bool true := (hp 8 (by decide)).2; have e12 : g' 23 = .bool false := (hp 12 (by decide)).2; simp only [mkM, maskRI4, mixM, Nat.reduceAdd, e8, e12] at hK ⊢; clear e8 e12; simp only [Act.put, List.setIfInBounds_toArray, List.set_cons_zero, List.set_cons_succ] at hK; go_simp; exact hK.out _ _ hB GF.same rfl
        case qRI114 =>
          refine fun l g' wu hB hl hn hp K hK => ?_
          have e13 : g' 24 = .bool false := (hp 13 (by decide)).2; simp only [mkM, maskRI4, mixM, Nat.reduceAdd, e13] at hK ⊢; clear e13; simp only [Act.put, List.setIfInBounds_toArray, List.set_cons_zero, List.set_cons_succ] at hK; go_simp; exact hK.out _ _ hB GF.same rfl
        case qRI115 | qRI116 | qRI117 | qRI118 =>
          refine fun l g' wu hB hl hn hp K hK => ?_
          have e14 : g' 25 = .bool false := (hp 14 (by decide)).2; simp only [mkM, maskRI4, mixM, Nat.reduceAdd, e14] at hK ⊢; clear e14; simp only [Act.put, List.setIfInBounds_toArray, List.set_cons_zero, List.set_cons_succ] at hK; go_simp; exact hK.out _ _ hB GF.same rfl
        case qRI119 =>
          refine fun l g' wu hB hl hn hp K hK => ?_
          have e18 : g' 29 = .bool false := (hp 18 (by decide)).2; simp only [mkM, maskRI4, mixM, Nat.reduceAdd, e18] at hK ⊢; clear e18; simp only [Act.put, List.setIfInBounds_toArray, List.set_cons_zero, List.set_cons_succ] at hK; go_simp; exact hK.out _ _ hB GF.same rfl
        case qRI120 | qRI121 | qRI122 | qRI123 =>
          refine fun l g' wu hB hl hn hp K hK => ?_
          have e19 : g' 30 = .bool false := (hp 19 (by decide)).2; simp only [mkM, maskRI4, mixM, Nat.reduceAdd, e19] at hK ⊢; clear e19; simp only [Act.put, List.setIfInBounds_toArray, List.set_cons_zero, List.set_cons_succ] at hK; go_simp; exact hK.out _ _ hB GF.same rfl
        case qRI124 =>
          refine fun l g' wu hB hl hn hp K hK => ?_
          have e23 : g' 34 = .bool false := (hp 23 (by decide)).2; simp only [mkM, maskRI4, mixM, Nat.reduceAdd, e23] at hK ⊢; clear e23; simp only [Act.put, List.setIfInBounds_toArray, List.set_cons_zero, List.set_cons_succ] at hK; go_simp; exact hK.out _ _ hB GF.same rfl
        case qRI125 | qRI126 | qRI127 | qRI128 | qRI129 | qRI130 | qRI131 | qRI132 | qRI133 | qRI134 =>
          refine fun l g' wu hB hl hn hp K hK => ?_
          have e24 : g' 35 = .bool false := (hp 24 (by decide)).2; simp only [mkM, maskRI4, mixM, Nat.reduceAdd, e24] at hK ⊢; clear e24; simp only [Act.put, List.setIfInBounds_toArray, List.set_cons_zero, List.set_cons_succ] at hK; go_simp; exact hK.out _ _ hB GF.same rfl
        case qRI135 =>
          refine fun l g' wu hB hl hn hp K hK => ?_
          have e34 : g' 45 = .bool false := (hp 34 (by decide)).2; simp only [mkM, maskRI4, mixM, Nat.reduceAdd, e34] at hK ⊢; clear e34; simp only [Act.put, List.setIfInBounds_toArray, List.set_cons_zero, List.set_cons_succ] at hK; go_simp; exact hK.out _ _ hB GF.same rfl
      · intro l gz wz hall hB hG
        have e35 : gz 10 = .bool false := hG 35 (by decide)
        have HRR : Hid (BB w1 wz) := hB
        simp only [mkM, maskRI4, mixM, Nat.reduceAdd, e35]
        clear hG hall hB e35
        go_wp2_with fail
        go_ret
        exact ⟨ret_bool HNO.out.symm, HB.out.trans (Below.mono HRR.out HB.out.size)⟩
  · have HPD : Hid (decide (1 ≤ n ∧ n ≤ 64) = false) := decide_eq_false hp
    have HNO : Hid (RR = false) := by show _ = _; rw [← HRR0.out]; exact decide_eq_false fun h => hp h.1
    clear hp hcc hcm
    refine wp_region_mix (fun _ w' => BB w1 w') (GF (tabRI0 (.pointer (some ⟨g, 0, none⟩)) (.int .i64 (t : Int)) (.bool false) (.bool true) (.bool true) (.int .i64 n) (.bool false) (.bool false) (.bool false) (undef) (undef) (undef) (undef) (.bool false) (.bool false) (undef) (undef) (undef) (.bool false) (.bool false) (undef) (undef) (undef) (.bool false) (.bool false) (undef) (undef) (undef) (undef) (undef) (undef) (undef) (undef) (undef) (.bool false) (.bool false))) maskRI4 dstRI4 preRI4 (by kernel_rfl) (by kernel_rfl) rfl (by kernel_rfl) (by kernel_rfl) (by kernel_rfl) (by kernel_rfl) (BB.drew (BB.refl _)) ?_ ?_
    · refine StepsM.cons ?qRI00 (StepsM.cons ?qRI01 (StepsM.cons ?qRI02 (StepsM.cons ?qRI03 (StepsM.cons ?qRI04 (StepsM.cons ?qRI05 (StepsM.cons ?qRI06 (StepsM.cons ?qRI07 (StepsM.cons ?qRI08 (StepsM.cons ?qRI09 (StepsM.cons ?qRI010 (StepsM.cons ?qRI011 (StepsM.cons ?qRI012 (StepsM.cons ?qRI013 (StepsM.cons ?qRI014 (StepsM.cons ?qRI015 (StepsM.cons ?qRI016 (StepsM.cons ?qRI017 (StepsM.cons ?qRI018 (StepsM.cons ?qRI019 (StepsM.cons ?qRI020 (StepsM.cons ?qRI021 (StepsM.cons ?qRI022 (StepsM.cons ?qRI023 (StepsM.cons ?qRI024 (StepsM.cons ?qRI025 (StepsM.cons ?qRI026 (StepsM.cons ?qRI027 (StepsM.cons ?qRI028 (StepsM.cons ?qRI029 (StepsM.cons ?qRI030 (StepsM.cons ?qRI031 (StepsM.cons ?qRI032 (StepsM.cons ?qRI033 (StepsM.cons ?qRI034 (StepsM.cons ?qRI035 (StepsM.nil))))))))))))))))))))))))))))))))))))
      case qRI00 | qRI01 =>
        refine fun l g' wu hB hl hn hp K hK => ?_
        simp only [mkM, maskRI4, mixM, Nat.reduceAdd] at hK ⊢; simp only [Act.put, List.setIfInBounds_toArray, List.set_cons_zero, List.set_cons_succ] at hK; go_simp; exact hK.out _ _ hB GF.same rfl
      case qRI02 =>
        refine fun l g' wu hB hl hn hp K hK => ?_
        have hbb := hB; have e0 : g' 11 = .pointer (some ⟨g, 0, none⟩) := (hp 0 (by decide)).2; have e1 : g' 12 = .int .i64 (t : Int) := (hp 1 (by decide)).2; simp only [mkM, maskRI4, mixM, Nat.reduceAdd, e0, e1] at hK ⊢; clear e0 e1; simp only [Act.put, List.setIfInBounds_toArray, List.set_cons_zero, List.set_cons_succ] at hK; go_simp; go_at_call 70; refine (wrong_no g t wu HT.out.1 HT.out.2).mono ?_; rintro e w7 ⟨rfl, hb⟩; go_wp2_with fail; exact hK.out _ _ (BB.step hbb hb) (GF.below hb) rfl
      case qRI03 =>
        refine fun l g' wu hB hl hn hp K hK => ?_
        have e2 : g' 13 = .bool false := (hp 2 (by decide)).2; simp only [mkM, maskRI4, mixM, Nat.reduceAdd, e2] at hK ⊢; clear e2; simp only [Act.put, List.setIfInBounds_toArray, List.set_cons_zero, List.set_cons_succ] at hK; go_simp; exact hK.out _ _ hB GF.same rfl
      case qRI04 =>
        refine fun l g' wu hB hl hn hp K hK => ?_
        have e3 : g' 14 = .bool true := (hp 3 (by decide)).2; simp only [mkM, maskRI4, mixM, Nat.reduceAdd, e3] at hK ⊢; clear e3; simp only [Act.put, List.setIfInBounds_toArray, List.set_cons_zero, List.set_cons_succ] at hK; go_simp; exact hK.out _ _ hB GF.same rfl
      case qRI05 =>
        refine fun l g' wu hB hl hn hp K hK => ?_
        have e4 : g' 15 = .bool true := (hp 4 (by decide)).2; simp only [mkM, maskRI4, mixM, Nat.reduceAdd, e4] at hK ⊢; clear e4; simp only [Act.put, List.setIfInBounds_toArray, List.set_cons_zero, List.set_cons_succ] at hK; go_simp; exact hK.out _ _ hB GF.same rfl
      case qRI06 =>
        refine fun l g' wu hB hl hn hp K hK => ?_
        have hbb := hB; have e5 : g' 16 = .int .i64 n := (hp 5 (by decide)).2; have e4 : g' 15 = .bool true := (hp 4 (by decide)).2; simp only [mkM, maskRI4, mixM, Nat.reduceAdd, e5, e4] at hK ⊢; clear e5 e4; simp only [Act.put, List.setIfInBounds_toArray, List.set_cons_zero, List.set_cons_succ] at hK; go_simp; go_at_call 68; refine (peer_any n wu).mono ?_; rw [HPD.out]; rintro e w7 ⟨rfl, hb⟩; go_wp2_with fail; exact hK.out _ _ (BB.step hbb hb) (GF.below hb) rfl
      case qRI07 =>
        refine fun l g' wu hB hl hn hp K hK => ?_
        have e4 : g' 15 = .bool true := (hp 4 (by decide)).2; have e6 : g' 17 = .bool false := (hp 6 (by decide)).2; simp only [mkM, maskRI4, mixM, Nat.reduceAdd, e4, e6] at hK ⊢; clear e4 e6; simp only [Act.put, List.setIfInBounds_toArray, List.set_cons_zero, List.set_cons_succ] at hK; go_simp; exact hK.out _ _ hB GF.same rfl
      case qRI08 =>
        refine fun l g' wu hB hl hn hp K hK => ?_
        have e7 : g' 18 = .bool false := (hp 7 (by decide)).2; simp only [mkM, maskRI4, mixM, Nat.reduceAdd, e7] at hK ⊢; clear e7; simp only [Act.put, List.setIfInBounds_toArray, List.set_cons_zero, List.set_cons_succ] at hK; go_simp; exact hK.out _ _ hB GF.same rfl
      case qRI09 | qRI010 | qRI011 | qRI012 | qRI013 =>
        refine fun l g' wu hB hl hn hp K hK => ?_
        have e8 : g' 19 = .bool false := (hp 8 (by decide)).2; simp only [mkM, maskRI4, mixM, Nat.reduceAdd, e8] at hK ⊢; clear e8; simp only [Act.put, List.setIfInBounds_toArray, List.set_cons_zero, List.set_cons_succ] at hK; go_simp; exact hK.out _ _ hB GF.same rfl
      case qRI014 =>
        refine fun l g' wu hB hl hn hp K hK => ?_
        have e13 : g' 24 = .bool false := (hp 13 (by decide)).2; simp only [mkM, maskRI4, mixM, Nat.reduceAdd, e13] at hK ⊢; clear e13; simp only [Act.put, List.setIfInBounds_toArray, List.set_cons_zero, List.set_cons_succ] at hK; go_simp; exact hK.out _ _ hB GF.same rfl
      case qRI015 | qRI016 | qRI017 | qRI018 =>
        refine fun l g' wu hB hl hn hp K hK => ?_
        have e14 : g' 25 = .bool false := (hp 14 (by decide)).2; simp only [mkM, maskRI4, mixM, Nat.reduceAdd, e14] at hK ⊢; clear e14; simp only [Act.put, List.setIfInBounds_toArray, List.set_cons_zero, List.set_cons_succ] at hK; go_simp; exact hK.out _ _ hB GF.same rfl
      case qRI019 =>
        refine fun l g' wu hB hl hn hp K hK => ?_
        have e18 : g' 29 = .bool false := (hp 18 (by decide)).2; simp only [mkM, maskRI4, mixM, Nat.reduceAdd, e18] at hK ⊢; clear e18; simp only [Act.put, List.setIfInBounds_toArray, List.set_cons_zero, List.set_cons_succ] at hK; go_simp; exact hK.out _ _ hB GF.same rfl
      case qRI020 | qRI021 | qRI022 | qRI023 =>
        refine fun l g' wu hB hl hn hp K hK => ?_
        have e19 : g' 30 = .bool false := (hp 19 (by decide)).2; simp only [mkM, maskRI4, mixM, Nat.reduceAdd, e19] at hK ⊢; clear e19; simp only [Act.put, List.setIfInBounds_toArray, List.set_cons_zero, List.set_cons_succ] at hK; go_simp; exact hK.out _ _ hB GF.same rfl
      case qRI024 =>
        refine fun l g' wu hB hl hn hp K hK => ?_
        have e23 : g' 34 = .bool false := (hp 23 (by decide)).2; simp only [mkM, maskRI4, mixM, Nat.reduceAdd, e23] at hK ⊢; clear e23; simp only [Act.put, List.setIfInBounds_toArray, List.set_cons_zero, List.set_cons_succ] at hK; go_simp; exact hK.out _ _ hB GF.same rfl
      case qRI025 | qRI026 | qRI027 | qRI028 | qRI029 | qRI030 | qRI031 | qRI032 | qRI033 | qRI034 =>
        refine fun l g' wu hB hl hn hp K hK => ?_
        have e24 : g' 35 = .bool false := (hp 24 (by decide)).2; simp only [mkM, maskRI4, mixM, Nat.reduceAdd, e24] at hK ⊢; clear e24; simp only [Act.put, List.setIfInBounds_toArray, List.set_cons_zero, List.set_cons_succ] at hK; go_simp; exact hK.out _ _ hB GF.same rfl
      case qRI035 =>
        refine fun l g' wu hB hl hn hp K hK => ?_
        have e34 : g' 45 = .bool false := (hp 34 (by decide)).2; simp only [mkM, maskRI4, mixM, Nat.reduceAdd, e34] at hK ⊢; clear e34; simp only [Act.put, List.setIfInBounds_toArray, List.set_cons_zero, List.set_cons_succ] at hK; go_simp; exact hK.out _ _ hB GF.same rfl
    · intro l gz wz hall hB hG
      have e35 : gz 10 = .bool false := hG 35 (by decide)
      have HRR : Hid (BB w1 wz) := hB
      simp only [mkM, maskRI4, mixM, Nat.reduceAdd, e35]
      clear hG hall hB e35
      go_wp2_with fail
      go_ret
      exact ⟨ret_bool HNO.out.symm, HB.out.trans (Below.mono HRR.out HB.out.size)⟩
end Go.Proofs.YthefednendgclaaGreat
