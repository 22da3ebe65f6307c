/-
  The law PledgeTells: it returns true.
-/
import Derived.Test.YthefednendgclaaLaw13
import Derived.Test.YthefednendgclaaPledge4
import Derived.Test.YthefednendgclaaRefE
set_option linter.unusedVariables false
set_option linter.unusedSimpArgs false
namespace Go.Proofs.Ythefednendgclaa
open Go Go.RowKit Sac NT

theorem gP_len (k : Nat) : Bt.len (gP k) ≤ 400 := Nat.le_trans (Bt.len_le (k := 96) (Nat.lt_of_lt_of_le (gP_lt k) (by decide))) (by decide)
theorem gQ_len' (k : Nat) : Bt.len (gQ k) ≤ 400 := Nat.le_trans (Bt.len_le (k := 64) (Nat.lt_of_lt_of_le (gQ_lt k) (by decide))) (by decide)
theorem gP_nb (k : Nat) : nbytes (gP k) ≤ 120 := Nat.le_trans ((nbytes_le (gP k) 12).2 (Nat.lt_of_lt_of_le (gP_lt k) (by decide))) (by decide)
theorem gQ_nb (k : Nat) : nbytes (gQ k) ≤ 120 := Nat.le_trans ((nbytes_le (gQ k) 8).2 (Nat.lt_of_lt_of_le (gQ_lt k) (by decide))) (by decide)
theorem gG_nb (k : Nat) : nbytes (gG k) ≤ 120 := Nat.le_trans ((nbytes_le (gG k) 12).2 (Nat.lt_trans (gG_lt k) (Nat.lt_of_lt_of_le (gP_lt k) (by decide)))) (by decide)
theorem gH_nb (k : Nat) : nbytes (gH k) ≤ 120 := Nat.le_trans ((nbytes_le (gH k) 12).2 (Nat.lt_trans (gH_lt k) (Nat.lt_of_lt_of_le (gP_lt k) (by decide)))) (by decide)
theorem nb_64 {x : Nat} (h : x < 18446744073709551616) : nbytes x ≤ 120 := Nat.le_trans ((nbytes_le x 8).2 h) (by decide)
theorem len_64 {x : Nat} (h : x < 18446744073709551616) : Bt.len x ≤ 400 := Nat.le_trans (Bt.len_le (k := 64) h) (by decide)
theorem lt_1000 {x : Nat} (h : x < 18446744073709551616) : x < 2 ^ 1000 := @lt_twop x 64 1000 h (by decide)
theorem allM_take {P Q : Nat} {p : List Nat} {i : Nat} (hi : i < p.length) : decide (AllM P Q (p.take (i + 1))) = (decide (AllM P Q (p.take i)) && decide (IsMember P Q (p.getD i 0))) := by
  rw [← Bool.decide_and]
  apply decide_eq_decide.2
  have e : ∀ j, j < i + 1 → (p.take (i + 1)).getD j 0 = p.getD j 0 := fun j hj => by rw [List.getD_eq_getElem?_getD, List.getElem?_take, if_pos hj, ← List.getD_eq_getElem?_getD]
  have e' : ∀ j, j < i → (p.take i).getD j 0 = p.getD j 0 := fun j hj => by rw [List.getD_eq_getElem?_getD, List.getElem?_take, if_pos hj, ← List.getD_eq_getElem?_getD]
  have l1 : (p.take (i + 1)).length = i + 1 := by rw [List.length_take]; omega
  have l2 : (p.take i).length = i := by rw [List.length_take]; omega
  constructor
  · intro h
    refine ⟨fun j hj => ?_, ?_⟩
    · rw [l2] at hj
      have := h j (by rw [l1]; omega)
      rw [e j (by omega)] at this
      rw [e' j hj]; exact this
    · have := h i (by rw [l1]; omega)
      rw [e i (by omega)] at this; exact this
  · rintro ⟨h1, h2⟩ j hj
    rw [l1] at hj
    rw [e j hj]
    rcases Nat.lt_or_ge j i with h | h
    · have := h1 j (by rw [l2]; exact h)
      rw [e' j h] at this; exact this
    · obtain rfl : j = i := by omega
      exact h2
def tabT8 (v0 : Value) (v1 : Value) (p2 : Fk KpN) (v3 : Value) (p4 : Fk KpN) (p5 : Fk KpN) (p6 : Fk KpN) : List (Fk KpN) := [.val v0, .val v1, p2, .val v3, p4, p5, p6]
def dstT8 : List (Option Tmp) := [some 36, some 37, some 38, some 39, some 40, some 41, some 14]
def preT8 : List (List Nat) := [[], [], [1], [], [1, 2, 3], [0, 1, 2, 3, 4], [0, 1, 2, 3, 4, 5]]
def maskT8 : List Bool := [false, false, false, false, false, false, false, false, false, false, false, false, false, false, true, false, false, false, false, false, false, false, false, false, false, false, false, false, false, false, false, false, false, false, false, false, true, true, true, true, true, true, false, false, false, false, false, false, false, false, false, false, false, false, false, false, false, false, false, false, false, false, false, false, false, false, false, false, false, false, false, false, false, false, false, false, false, false, false, false, false, false, false, false, false, false, false, false, false, false, false, false, false, false, false, false, false, false, false, false, false, false, false, false, false, false, false, false, false, false]
def tabT17 (v0 : Value) (v1 : Value) (v2 : Value) (p3 : Fk KpN) (v4 : Value) (p5 : Fk KpN) (p6 : Fk KpN) (v7 : Value) (v8 : Value) (v9 : Value) : List (Fk KpN) := [.val v0, .val v1, .val v2, p3, .val v4, p5, p6, .val v7, .val v8, .val v9]
def dstT17 : List (Option Tmp) := [some 63, some 64, some 65, some 66, some 67, some 68, some 69, some 70, some 71, some 18]
def preT17 : List (List Nat) := [[], [], [], [2], [], [2, 3, 4], [1, 2, 3, 4, 5], [0, 1, 2, 3, 4, 5, 6], [0, 1, 2, 3, 4, 5, 6, 7], [0, 1, 2, 3, 4, 5, 6, 7, 8]]
def maskT17 : List Bool := [false, false, false, false, false, false, false, false, false, false, false, false, false, false, false, false, false, false, true, false, false, false, false, false, false, false, false, false, false, false, false, false, false, false, false, false, false, false, false, false, false, false, false, false, false, false, false, false, false, false, false, false, false, false, false, false, false, false, false, false, false, false, false, true, true, true, true, true, true, true, true, true, false, false, false, false, false, false, false, false, false, false, false, false, false, false, false, false, false, false, false, false, false, false, false, false, false, false, false, false, false, false, false, false, false, false, false, false, false, false]
def tabT18 (v0 : Value) (v1 : Value) (v2 : Value) (v3 : Value) (v4 : Value) (p5 : Fk KpN) (p6 : Fk KpN) (v7 : Value) (v8 : Value) (v9 : Value) : List (Fk KpN) := [.val v0, .val v1, .val v2, .val v3, .val v4, p5, p6, .val v7, .val v8, .val v9]
def dstT18 : List (Option Tmp) := [some 72, some 73, some 74, some 75, some 76, some 77, some 78, some 79, some 80, some 19]
def preT18 : List (List Nat) := [[], [], [], [2], [], [4], [1, 2, 3, 4, 5], [0, 1, 2, 3, 4, 5, 6], [0, 1, 2, 3, 4, 5, 6, 7], [0, 1, 2, 3, 4, 5, 6, 7, 8]]
def maskT18 : List Bool := [false, false, false, false, false, false, false, false, false, false, false, false, false, false, false, false, false, false, false, true, false, false, false, false, false, false, false, false, false, false, false, false, false, false, false, false, false, false, false, false, false, false, false, false, false, false, false, false, false, false, false, false, false, false, false, false, false, false, false, false, false, false, false, false, false, false, false, false, false, false, false, false, true, true, true, true, true, true, true, true, true, false, false, false, false, false, false, false, false, false, false, false, false, false, false, false, false, false, false, false, false, false, false, false, false, false, false, false, false, false]

set_option maxRecDepth 100000 in
set_option maxHeartbeats 8000000 in
theorem tells_any (n : Int) (a : Option Addr) (len cap : Nat) (xs : List Nat) (x y z : Nat) (w : World)
    (ha : RdC w a (xs.map w64)) (hl : xs.length = len) (hc : (len : Int) ≤ cap) (hx : ∀ y ∈ xs, y < 18446744073709551616) (hxx : x < 18446744073709551616) (hyy : y < 18446744073709551616) (hzz : z < 18446744073709551616) :
    Calls Try.prog 7 #[.int .i64 n, .slice a len cap, .int .u64 (x : Int), .int .u64 (y : Int), .int .u64 (z : Int)] w fun e w' => e = .returned (.bool true) ∧ Below w.heap.size w w' := by
  have HA := Lib.hid (And.intro ha (And.intro hl (And.intro hc hx)))
  have HXX := Lib.hid (And.intro hxx (And.intro hyy hzz))
  have HNB : Hid (∀ y ∈ xs, nbytes y ≤ 120) := fun y hy => nb_64 (hx y hy)
  have HLX : Hid (∀ y ∈ xs, Bt.len y ≤ 400) := fun y hy => len_64 (hx y hy)
  clear ha hl hc hx hxx hyy hzz
  by_cases h8 : (8 : Int) < (len : Int)
  · go_enter Try.func7, Try.ntmps7
    go_wp2_with fail
    refine (lives13_any w).mono ?_
    rintro e w2 ⟨rfl, hb2⟩
    have HB2 := Lib.hid hb2
    clear hb2
    go_wp2_with fail
    refine (lives13_any w2).mono ?_
    rintro e w3 ⟨rfl, hb3⟩
    have HB3 := Lib.hid (HB2.out.trans (hb3.mono HB2.out.size))
    clear hb3
    go_wp2_with fail
    go_ret
    exact ⟨rfl, HB3.out⟩
  obtain ⟨k, hk⟩ : ∃ k, kOf n = k := ⟨_, rfl⟩
  have HK := Lib.hid hk
  clear hk
  go_enter Try.func7, Try.ntmps7
  go_wp2_with fail
  refine (lives13_any w).mono ?_
  rintro e w2 ⟨rfl, hb2⟩
  have HB2 := Lib.hid hb2
  clear hb2
  go_wp2_with fail
  refine (group_any n w2).mono ?_
  rintro e w3 ⟨g, rfl, hg, hb3⟩
  rw [HK.out] at hg
  have HG3 : Hid (GroupAt w3 g (gP k) (gQ k) (gG k) (gH k) (gS k)) := hg
  have HB3 := Lib.hid (HB2.out.trans (hb3.mono HB2.out.size))
  clear hb3 hg HB2
  go_wp2_with fail
  refine (bref_any g (gP k) (gQ k) (gG k) (gH k) (gS k) w3 HG3.out (gP_nb k) (gQ_nb k) (gG_nb k) (gH_nb k)).mono ?_
  rintro e w4 ⟨gv, rfl, hgv, hb4⟩
  have HG4 := Lib.hid (HG3.out.below hb4)
  have HB4 := Lib.hid (HB3.out.trans (hb4.mono HB3.out.size))
  obtain ⟨ra, rl, rc, qa, ql, qc, ga, gl, gc, ja, jl, jc, rfl, h1, h2, h3, h4⟩ := hgv
  have HV4 := Lib.hid (And.intro h1 (And.intro h2 (And.intro h3 h4)))
  clear hb4 h1 h2 h3 h4 HB3 HG3
  go_wp2_with fail
  have hbel := (Below.refl _ w4).alloc (Nat.le_refl _) (Obj.cells #[Value.slice ra rl rc, Value.slice qa ql qc, Value.slice ga gl gc, Value.slice ja jl jc] 62)
  obtain ⟨B, hBs⟩ : ∃ B, B = w4.heap.size := ⟨_, rfl⟩
  have hblk : Blk (w4.alloc (Obj.cells #[Value.slice ra rl rc, Value.slice qa ql qc, Value.slice ga gl gc, Value.slice ja jl jc] 62)) B 62 [.slice ra rl rc, .slice qa ql qc, .slice ga gl gc, .slice ja jl jc] := Blk.new' w4 _ _ B hBs
  rw [← hBs]
  clear hBs
  generalize w4.alloc (Obj.cells #[Value.slice ra rl rc, Value.slice qa ql qc, Value.slice ga gl gc, Value.slice ja jl jc] 62) = w5 at hblk hbel ⊢
  have HBK5 : Hid (Blk w5 B 62 [.slice ra rl rc, .slice qa ql qc, .slice ga gl gc, .slice ja jl jc]) := hblk
  have HG5 := Lib.hid (HG4.out.below hbel)
  have HB5 := Lib.hid (HB4.out.trans (hbel.mono HB4.out.size))
  have HV5 := Lib.hid (And.intro (HV4.out.1.below hbel) (And.intro (HV4.out.2.1.below hbel) (And.intro (HV4.out.2.2.1.below hbel) (HV4.out.2.2.2.below hbel))))
  clear hblk hbel HG4 HB4 HV4
  refine (nums_any a len cap xs w5 (HA.out.1.below HB5.out) HA.out.2.1 HA.out.2.2.1 (by omega) HA.out.2.2.2).mono ?_
  rintro e w6 ⟨v, rfl, hrow, hb6⟩
  obtain ⟨pa, pc, rfl, hp1, _, hat, _⟩ := hrow.form
  rw [HA.out.2.1] at hp1 ⊢
  have HN6 := Lib.hid hat
  have HG6 := Lib.hid (HG5.out.below hb6)
  have HB6 := Lib.hid (HB5.out.trans (hb6.mono HB5.out.size))
  have hBK := HBK5.out.below hb6 HBK5.out.lt
  have kP : ∀ w', BB w6 w' → w'.cell? ⟨B, 0, none⟩ = some (.slice ra rl rc) := fun w' hb => (BB.cell hb hBK.lt).trans (hBK.cell 0)
  have kQ : ∀ w', BB w6 w' → w'.cell? ⟨B, 1, none⟩ = some (.slice qa ql qc) := fun w' hb => (BB.cell hb hBK.lt).trans (hBK.cell 1)
  have kG : ∀ w', BB w6 w' → w'.cell? ⟨B, 2, none⟩ = some (.slice ga gl gc) := fun w' hb => (BB.cell hb hBK.lt).trans (hBK.cell 2)
  have kH : ∀ w', BB w6 w' → w'.cell? ⟨B, 3, none⟩ = some (.slice ja jl jc) := fun w' hb => (BB.cell hb hBK.lt).trans (hBK.cell 3)
  have HBG : Hid (∀ w', BB w6 w' → BG w' (.agg #[.slice ra rl rc, .slice qa ql qc, .slice ga gl gc, .slice ja jl jc]) (gP k) (gQ k) (gG k) (gH k)) := fun w' h => ⟨ra, rl, rc, qa, ql, qc, ga, gl, gc, ja, jl, jc, rfl, (HV5.out.1.below hb6).below h, (HV5.out.2.1.below hb6).below h, (HV5.out.2.2.1.below hb6).below h, (HV5.out.2.2.2.below hb6).below h⟩
  have HGG : Hid (∀ w', BB w6 w' → BN w' (.slice ga gl gc) (gG k)) := fun w' h => (HV5.out.2.2.1.below hb6).below h
  have hpc : (len : Int) ≤ pc := by omega
  obtain ⟨E, hE⟩ : ∃ E, evalx (gP k) xs (x % gQ k) = E := ⟨_, rfl⟩
  have HE := Lib.hid hE
  obtain ⟨D, hD⟩ : ∃ D, gG k ^ y % gP k * (gH k ^ z % gP k) % gP k = D := ⟨_, rfl⟩
  have HD := Lib.hid hD
  obtain ⟨F, hF⟩ : ∃ F, gG k ^ y % gP k = F := ⟨_, rfl⟩
  have HF := Lib.hid hF
  clear hD hF
  clear hrow hat hb6 hp1 hBK HBK5 HV5 HG5 HB5 hE
  go_wp2_with fail
  refine wp_region_mix (fun _ w' => BB w6 w') (GF (tabT8 (.agg #[.slice ra rl rc, .slice qa ql qc, .slice ga gl gc, .slice ja jl jc]) (.slice pa len pc) (Fk.rel (fun v w => BRow w v xs) (fun _ _ _ hb h => h.below hb)) (.int .u64 (x : Int)) (Fk.rel (fun v w => BN w v (x)) (fun _ _ _ hb h => h.below hb)) (Fk.rel (fun v w => BN w v (E)) (fun _ _ _ hb h => h.below hb)) (Fk.rel (fun v w => BN w v (E)) (fun _ _ _ hb h => h.below hb)))) maskT8 dstT8 preT8 (by kernel_rfl) (by kernel_rfl) rfl (by kernel_rfl) (by kernel_rfl) (by kernel_rfl) (by kernel_rfl) (BB.drew (BB.refl _)) ?_ ?_
  · refine StepsM.cons (fun l g' wu hB hl hn hp K hK => ?_) ?_
    · have hbb := hB; have c0 := kP _ hbb; have c1 := kQ _ hbb; have c2 := kG _ hbb; have c3 := kH _ hbb; simp only [mkM, maskT8, mixM, Nat.reduceAdd] at hK ⊢; simp only [Act.put, List.setIfInBounds_toArray, List.set_cons_zero, List.set_cons_succ] at hK; go_simp; exact hK.out _ _ hB GF.same rfl
    refine StepsM.cons (fun l g' wu hB hl hn hp K hK => ?_) ?_
    · simp only [mkM, maskT8, mixM, Nat.reduceAdd] at hK ⊢; simp only [Act.put, List.setIfInBounds_toArray, List.set_cons_zero, List.set_cons_succ] at hK; go_simp; exact hK.out _ _ hB GF.same rfl
    refine StepsM.cons (fun l g' wu hB hl hn hp K hK => ?_) ?_
    · have hbb := hB; have e1 : g' 37 = .slice pa len pc := (hp 1 (by decide)).2; simp only [mkM, maskT8, mixM, Nat.reduceAdd, e1] at hK ⊢; clear e1; simp only [Act.put, List.setIfInBounds_toArray, List.set_cons_zero, List.set_cons_succ] at hK; go_simp; go_at_call 45; refine (refs13_any pa len pc xs _ (HN6.out.below hbb) HA.out.2.1 hpc (by omega) HNB.out).mono ?_; rintro e w7 ⟨z, rfl, hz, hb⟩; go_wp2_with fail; exact hK.out _ _ (BB.step hbb hb) (GF.below hb) hz
    refine StepsM.cons (fun l g' wu hB hl hn hp K hK => ?_) ?_
    · simp only [mkM, maskT8, mixM, Nat.reduceAdd] at hK ⊢; simp only [Act.put, List.setIfInBounds_toArray, List.set_cons_zero, List.set_cons_succ] at hK; go_simp; exact hK.out _ _ hB GF.same rfl
    refine StepsM.cons (fun l g' wu hB hl hn hp K hK => ?_) ?_
    · have hbb := hB; have e3 : g' 39 = .int .u64 (x : Int) := (hp 3 (by decide)).2; simp only [mkM, maskT8, mixM, Nat.reduceAdd, e3] at hK ⊢; clear e3; simp only [Act.put, List.setIfInBounds_toArray, List.set_cons_zero, List.set_cons_succ] at hK; go_simp; go_at_call 38; refine (bsmall_any x _ HXX.out.1).mono ?_; rintro e w7 ⟨z, rfl, hz, hb⟩; go_wp2_with fail; exact hK.out _ _ (BB.step hbb hb) (GF.below hb) hz
    refine StepsM.cons (fun l g' wu hB hl hn hp K hK => ?_) ?_
    · have hbb := hB; have e0 : g' 36 = .agg #[.slice ra rl rc, .slice qa ql qc, .slice ga gl gc, .slice ja jl jc] := (hp 0 (by decide)).2; have h2 : BRow wu (g' 38) xs := (hp 2 (by decide)).2; have h4 : BN wu (g' 40) (x) := (hp 4 (by decide)).2; simp only [mkM, maskT8, mixM, Nat.reduceAdd, e0] at hK ⊢; clear e0; simp only [Act.put, List.setIfInBounds_toArray, List.set_cons_zero, List.set_cons_succ] at hK; go_simp; go_at_call 44; refine (bevalx_any _ _ _ (gP k) (gQ k) (gG k) (gH k) x xs _ (HBG.out _ hbb) h2 h4 (Nat.lt_trans (by decide) (gP_one k)) (gP_len k) (Nat.lt_trans (by decide) (gQ_64 k)) (gQ_len' k) HLX.out (by have := HA.out.2.1; omega)).mono ?_; rw [HE.out]; rintro e w7 ⟨z, rfl, hz, hb⟩; go_wp2_with fail; exact hK.out _ _ (BB.step hbb hb) (GF.below hb) hz
    refine StepsM.cons (fun l g' wu hB hl hn hp K hK => ?_) ?_
    · have h5 : BN wu (g' 41) (E) := (hp 5 (by decide)).2; simp only [mkM, maskT8, mixM, Nat.reduceAdd] at hK ⊢; simp only [Act.put, List.setIfInBounds_toArray, List.set_cons_zero, List.set_cons_succ] at hK; go_simp; exact hK.out _ _ hB GF.same h5
    exact StepsM.nil
  · intro l g' wu hall hB hG
    have h6 : BN wu (g' 14) E := hG 6 (by decide)
    have HE8 := Lib.hid h6
    have hbb8 : BB w6 wu := hB
    obtain ⟨ev, hev⟩ : ∃ ev, g' 14 = ev := ⟨_, rfl⟩
    rw [hev] at HE8
    simp only [mkM, maskT8, mixM, Nat.reduceAdd, hev]
    have HN8 := Lib.hid (HN6.out.below hbb8)
    have HG8 := Lib.hid (HG6.out.below hbb8)
    have HB8 := Lib.hid (HB6.out.trans (Below.mono hbb8 HB6.out.size))
    have kP := fun w' (h : BB wu w') => kP w' (BB.step hbb8 h)
    have kQ := fun w' (h : BB wu w') => kQ w' (BB.step hbb8 h)
    have kG := fun w' (h : BB wu w') => kG w' (BB.step hbb8 h)
    have kH := fun w' (h : BB wu w') => kH w' (BB.step hbb8 h)
    have HBG : Hid (∀ w', BB wu w' → BG w' (.agg #[.slice ra rl rc, .slice qa ql qc, .slice ga gl gc, .slice ja jl jc]) (gP k) (gQ k) (gG k) (gH k)) := fun w' h => HBG.out w' (BB.step hbb8 h)
    have HGG : Hid (∀ w', BB wu w' → BN w' (.slice ga gl gc) (gG k)) := fun w' h => HGG.out w' (BB.step hbb8 h)
    clear hG hall h6 hB hev
    obtain ⟨w8, rfl⟩ : ∃ w8, w8 = wu := ⟨wu, rfl⟩
    clear hbb8
    go_wp2_with fail
    refine (new_s x w8 HXX.out.1).mono ?_
    rintro e w9 ⟨ya, yl, yc, rfl, hy, hb⟩
    have HY9 := Lib.hid hy
    have hbb9 : BB w8 w9 := hb
    clear hy hb
    go_wp2_with fail
    refine (patx_any g (gP k) (gQ k) (gG k) (gH k) (gS k) pa len pc xs ya yl yc x w9 (HG8.out.below hbb9) (HN8.out.below hbb9) HA.out.2.1 (by omega) HY9.out).mono ?_
    rw [HE.out]
    rintro e w10 ⟨ea, el, ec, rfl, he, hb⟩
    have HE10 := Lib.hid he
    have hbb10 : BB w8 w10 := BB.step hbb9 hb
    clear he hb
    go_wp2_with fail
    refine (same_any ea el ec E ev E w10 HE10.out (HE8.out.below hbb10)).mono ?_
    rw [decide_eq_true rfl]
    rintro e w11 ⟨rfl, hb⟩
    have hbb11 : BB w8 w11 := BB.step hbb10 hb
    clear hb hbb9 hbb10 HY9 HE10
    go_wp2_with fail
    go_loopw [15, 52] (fun bv iv wr => ∃ i : Nat, (i : Int) ≤ len ∧ iv = .int .i64 (i : Int) ∧ bv = .bool (decide (AllM (gP k) (gQ k) (xs.take i))) ∧ Hid (BB w8 wr)) (fun _ iv _ => len - (intOf iv).toNat)
    case atStart => exact ⟨0, by omega, rfl, by rw [show decide (AllM (gP k) (gQ k) (xs.take 0)) = true from decide_eq_true (fun j h => by simp at h)], hbb11⟩
    case round =>
      clear hbb11
      obtain ⟨i, hi, rfl, rfl, HBR⟩ := hrel
      have hbbX : BB w8 wr := HBR.out
      obtain ⟨b0, hb0⟩ : ∃ b, decide (AllM (gP k) (gQ k) (xs.take i)) = b := ⟨_, rfl⟩
      rw [hb0]
      have HB0 := Lib.hid hb0
      by_cases hlt : (i : Int) < len
      · have hil : i < xs.length := by rw [HA.out.2.1]; omega
        obtain ⟨ad, xa, xl, xc, rfl, _, cx, nx⟩ := (HN8.out.below hbbX).get hil
        obtain ⟨c, hcx⟩ : ∃ c, xs.getD i 0 = c := ⟨_, rfl⟩
        rw [hcx] at nx
        have hst := allM_take (P := gP k) (Q := gQ k) hil
        rw [hcx, hb0] at hst
        have HST := Lib.hid hst
        have hbx := (Below.refl _ wr).alloc (Nat.le_refl _) (Obj.cells #[Value.slice xa xl xc] 33)
        have HN2 := Lib.hid (nx.below hbx)
        have HBR2 : Hid (BB w8 (wr.alloc (Obj.cells #[Value.slice xa xl xc] 33))) := BB.step hbbX hbx
        have b1 : (0 : Int) ≤ (i : Int) := by omega
        have b2 : (i : Int) ≤ (pc : Int) := by omega
        clear nx hst hcx hbx hil hbbX HBR hb0
        cases b0
        · go_wp2_with fail
          go_roundw
          case rel => exact ⟨i + 1, by omega, by go_num, by rw [HST.out]; rfl, HBR2.out⟩
          case measure => simp [intOf]; omega
        · go_wp2_with fail
          clear cx
          generalize wr.alloc (Obj.cells #[Value.slice xa xl xc] 33) = w12 at HN2 HBR2 ⊢
          refine (gmember_any g (gP k) (gQ k) (gG k) (gH k) (gS k) xa xl xc c w12 (HG8.out.below HBR2.out) HN2.out).mono ?_
          rintro e w13 ⟨rfl, hb⟩
          have HBR3 : Hid (BB w8 w13) := BB.step HBR2.out hb
          clear hb
          go_wp2_with fail
          go_roundw
          case rel => exact ⟨i + 1, by omega, by go_num, by rw [HST.out]; rfl, HBR3.out⟩
          case measure => simp [intOf]; omega
      · have hi' : i = len := by omega
        obtain rfl : len = i := hi'.symm
        rw [List.take_of_length_le (by rw [HA.out.2.1]; exact Nat.le_refl _)] at HB0
        clear hb0 HBR
        go_wp2_with fail
        refine wp_region_mix (fun _ w' => BB wr w') (GF (tabT17 (ev) (.agg #[.slice ra rl rc, .slice qa ql qc, .slice ga gl gc, .slice ja jl jc]) (.int .u64 (y : Int)) (Fk.rel (fun v w => BN w v (y)) (fun _ _ _ hb h => h.below hb)) (.int .u64 (z : Int)) (Fk.rel (fun v w => BN w v (z)) (fun _ _ _ hb h => h.below hb)) (Fk.rel (fun v w => BN w v (D)) (fun _ _ _ hb h => h.below hb)) (.int .i64 (cmpNat E D)) (.bool (cmpNat E D == 0)) (.bool (cmpNat E D == 0)))) maskT17 dstT17 preT17 (by kernel_rfl) (by kernel_rfl) rfl (by kernel_rfl) (by kernel_rfl) (by kernel_rfl) (by kernel_rfl) (BB.drew (BB.refl _)) ?_ ?_
        · refine StepsM.cons (fun l g' wu hB hl hn hp K hK => ?_) ?_
          · simp only [mkM, maskT17, mixM, Nat.reduceAdd] at hK ⊢; simp only [Act.put, List.setIfInBounds_toArray, List.set_cons_zero, List.set_cons_succ] at hK; go_simp; exact hK.out _ _ hB GF.same rfl
          refine StepsM.cons (fun l g' wu hB hl hn hp K hK => ?_) ?_
          · have hbb := hB; have c0 := kP _ (BB.step hbbX hbb); have c1 := kQ _ (BB.step hbbX hbb); have c2 := kG _ (BB.step hbbX hbb); have c3 := kH _ (BB.step hbbX hbb); simp only [mkM, maskT17, mixM, Nat.reduceAdd] at hK ⊢; simp only [Act.put, List.setIfInBounds_toArray, List.set_cons_zero, List.set_cons_succ] at hK; go_simp; exact hK.out _ _ hB GF.same rfl
          refine StepsM.cons (fun l g' wu hB hl hn hp K hK => ?_) ?_
          · simp only [mkM, maskT17, mixM, Nat.reduceAdd] at hK ⊢; simp only [Act.put, List.setIfInBounds_toArray, List.set_cons_zero, List.set_cons_succ] at hK; go_simp; exact hK.out _ _ hB GF.same rfl
          refine StepsM.cons (fun l g' wu hB hl hn hp K hK => ?_) ?_
          · have hbb := hB; have e2 : g' 65 = .int .u64 (y : Int) := (hp 2 (by decide)).2; simp only [mkM, maskT17, mixM, Nat.reduceAdd, e2] at hK ⊢; clear e2; simp only [Act.put, List.setIfInBounds_toArray, List.set_cons_zero, List.set_cons_succ] at hK; go_simp; go_at_call 38; refine (bsmall_any y _ HXX.out.2.1).mono ?_; rintro e w7 ⟨z, rfl, hz, hb⟩; go_wp2_with fail; exact hK.out _ _ (BB.step hbb hb) (GF.below hb) hz
          refine StepsM.cons (fun l g' wu hB hl hn hp K hK => ?_) ?_
          · simp only [mkM, maskT17, mixM, Nat.reduceAdd] at hK ⊢; simp only [Act.put, List.setIfInBounds_toArray, List.set_cons_zero, List.set_cons_succ] at hK; go_simp; exact hK.out _ _ hB GF.same rfl
          refine StepsM.cons (fun l g' wu hB hl hn hp K hK => ?_) ?_
          · have hbb := hB; have e4 : g' 67 = .int .u64 (z : Int) := (hp 4 (by decide)).2; simp only [mkM, maskT17, mixM, Nat.reduceAdd, e4] at hK ⊢; clear e4; simp only [Act.put, List.setIfInBounds_toArray, List.set_cons_zero, List.set_cons_succ] at hK; go_simp; go_at_call 38; refine (bsmall_any z _ HXX.out.2.2).mono ?_; rintro e w7 ⟨z, rfl, hz, hb⟩; go_wp2_with fail; exact hK.out _ _ (BB.step hbb hb) (GF.below hb) hz
          refine StepsM.cons (fun l g' wu hB hl hn hp K hK => ?_) ?_
          · have hbb := hB; have e1 : g' 64 = .agg #[.slice ra rl rc, .slice qa ql qc, .slice ga gl gc, .slice ja jl jc] := (hp 1 (by decide)).2; have h3 : BN wu (g' 66) (y) := (hp 3 (by decide)).2; have h5 : BN wu (g' 68) (z) := (hp 5 (by decide)).2; simp only [mkM, maskT17, mixM, Nat.reduceAdd, e1] at hK ⊢; clear e1; simp only [Act.put, List.setIfInBounds_toArray, List.set_cons_zero, List.set_cons_succ] at hK; go_simp; go_at_call 49; refine (bpof_any _ _ _ (gP k) (gQ k) (gG k) (gH k) y z _ (HBG.out _ (BB.step hbbX hbb)) h3 h5 (Nat.lt_trans (by decide) (gP_one k)) (gP_len k)).mono ?_; rw [HD.out]; rintro e w7 ⟨z, rfl, hz, hb⟩; go_wp2_with fail; exact hK.out _ _ (BB.step hbb hb) (GF.below hb) hz
          refine StepsM.cons (fun l g' wu hB hl hn hp K hK => ?_) ?_
          · have hbb := hB; have e0 : g' 63 = ev := (hp 0 (by decide)).2; have h6 : BN wu (g' 69) (D) := (hp 6 (by decide)).2; simp only [mkM, maskT17, mixM, Nat.reduceAdd, e0] at hK ⊢; clear e0; simp only [Act.put, List.setIfInBounds_toArray, List.set_cons_zero, List.set_cons_succ] at hK; go_simp; go_at_call 48; refine (bcmp_any _ _ E D _ (HE8.out.below (BB.step hbbX hbb)) h6).mono ?_; rintro e w7 ⟨rfl, hb⟩; go_wp2_with fail; exact hK.out _ _ (BB.step hbb hb) (GF.below hb) rfl
          refine StepsM.cons (fun l g' wu hB hl hn hp K hK => ?_) ?_
          · have e7 : g' 70 = .int .i64 (cmpNat E D) := (hp 7 (by decide)).2; simp only [mkM, maskT17, mixM, Nat.reduceAdd, e7] at hK ⊢; clear e7; simp only [Act.put, List.setIfInBounds_toArray, List.set_cons_zero, List.set_cons_succ] at hK; go_simp; exact hK.out _ _ hB GF.same rfl
          refine StepsM.cons (fun l g' wu hB hl hn hp K hK => ?_) ?_
          · have e8 : g' 71 = .bool (cmpNat E D == 0) := (hp 8 (by decide)).2; simp only [mkM, maskT17, mixM, Nat.reduceAdd, e8] at hK ⊢; clear e8; simp only [Act.put, List.setIfInBounds_toArray, List.set_cons_zero, List.set_cons_succ] at hK; go_simp; exact hK.out _ _ hB GF.same rfl
          exact StepsM.nil
        · intro l g' wu hall hB hG
          have e9 : g' 18 = .bool (cmpNat E D == 0) := hG 9 (by decide)
          have hbbY : BB w8 wu := BB.step hbbX hB
          rw [cmp_eq_dec] at e9
          simp only [mkM, maskT17, mixM, Nat.reduceAdd, e9]
          clear hG hall e9 hB hbbX
          obtain ⟨b1, hb1⟩ : ∃ b, decide (E = D) = b := ⟨_, rfl⟩
          rw [hb1]
          have HB1 := Lib.hid hb1
          clear hb1
          obtain ⟨wt, rfl⟩ : ∃ wt, wt = wu := ⟨wu, rfl⟩
          go_wp2_with fail
          refine wp_region_mix (fun _ w' => BB wt w') (GF (tabT18 (ev) (.agg #[.slice ra rl rc, .slice qa ql qc, .slice ga gl gc, .slice ja jl jc]) (.pointer (some ⟨B, 2, none⟩)) (.slice ga gl gc) (.int .u64 (y : Int)) (Fk.rel (fun v w => BN w v (y)) (fun _ _ _ hb h => h.below hb)) (Fk.rel (fun v w => BN w v (F)) (fun _ _ _ hb h => h.below hb)) (.int .i64 (cmpNat E F)) (.bool (cmpNat E F == 0)) (.bool (cmpNat E F == 0)))) maskT18 dstT18 preT18 (by kernel_rfl) (by kernel_rfl) rfl (by kernel_rfl) (by kernel_rfl) (by kernel_rfl) (by kernel_rfl) (BB.drew (BB.refl _)) ?_ ?_
          · refine StepsM.cons (fun l g' wu hB hl hn hp K hK => ?_) ?_
            · simp only [mkM, maskT18, mixM, Nat.reduceAdd] at hK ⊢; simp only [Act.put, List.setIfInBounds_toArray, List.set_cons_zero, List.set_cons_succ] at hK; go_simp; exact hK.out _ _ hB GF.same rfl
            refine StepsM.cons (fun l g' wu hB hl hn hp K hK => ?_) ?_
            · have hbb := hB; have c0 := kP _ (BB.step hbbY hbb); have c1 := kQ _ (BB.step hbbY hbb); have c2 := kG _ (BB.step hbbY hbb); have c3 := kH _ (BB.step hbbY hbb); simp only [mkM, maskT18, mixM, Nat.reduceAdd] at hK ⊢; simp only [Act.put, List.setIfInBounds_toArray, List.set_cons_zero, List.set_cons_succ] at hK; go_simp; exact hK.out _ _ hB GF.same rfl
            refine StepsM.cons (fun l g' wu hB hl hn hp K hK => ?_) ?_
            · simp only [mkM, maskT18, mixM, Nat.reduceAdd] at hK ⊢; simp only [Act.put, List.setIfInBounds_toArray, List.set_cons_zero, List.set_cons_succ] at hK; go_simp; exact hK.out _ _ hB GF.same rfl
            refine StepsM.cons (fun l g' wu hB hl hn hp K hK => ?_) ?_
            · have hbb := hB; have e2 : g' 74 = .pointer (some ⟨B, 2, none⟩) := (hp 2 (by decide)).2; have c2 := kG _ (BB.step hbbY hbb); simp only [mkM, maskT18, mixM, Nat.reduceAdd, e2] at hK ⊢; clear e2; simp only [Act.put, List.setIfInBounds_toArray, List.set_cons_zero, List.set_cons_succ] at hK; go_simp; exact hK.out _ _ hB GF.same rfl
            refine StepsM.cons (fun l g' wu hB hl hn hp K hK => ?_) ?_
            · simp only [mkM, maskT18, mixM, Nat.reduceAdd] at hK ⊢; simp only [Act.put, List.setIfInBounds_toArray, List.set_cons_zero, List.set_cons_succ] at hK; go_simp; exact hK.out _ _ hB GF.same rfl
            refine StepsM.cons (fun l g' wu hB hl hn hp K hK => ?_) ?_
            · have hbb := hB; have e4 : g' 76 = .int .u64 (y : Int) := (hp 4 (by decide)).2; simp only [mkM, maskT18, mixM, Nat.reduceAdd, e4] at hK ⊢; clear e4; simp only [Act.put, List.setIfInBounds_toArray, List.set_cons_zero, List.set_cons_succ] at hK; go_simp; go_at_call 38; refine (bsmall_any y _ HXX.out.2.1).mono ?_; rintro e w7 ⟨z, rfl, hz, hb⟩; go_wp2_with fail; exact hK.out _ _ (BB.step hbb hb) (GF.below hb) hz
            refine StepsM.cons (fun l g' wu hB hl hn hp K hK => ?_) ?_
            · have hbb := hB; have e1 : g' 73 = .agg #[.slice ra rl rc, .slice qa ql qc, .slice ga gl gc, .slice ja jl jc] := (hp 1 (by decide)).2; have e3 : g' 75 = .slice ga gl gc := (hp 3 (by decide)).2; have h5 : BN wu (g' 77) (y) := (hp 5 (by decide)).2; simp only [mkM, maskT18, mixM, Nat.reduceAdd, e1, e3] at hK ⊢; clear e1 e3; simp only [Act.put, List.setIfInBounds_toArray, List.set_cons_zero, List.set_cons_succ] at hK; go_simp; go_at_call 50; refine (bgexp_any _ _ _ (gP k) (gQ k) (gG k) (gH k) (gG k) y _ (HBG.out _ (BB.step hbbY hbb)) (HGG.out _ (BB.step hbbY hbb)) h5 (Nat.lt_trans (by decide) (gP_one k)) (gP_len k)).mono ?_; rw [HF.out]; rintro e w7 ⟨z, rfl, hz, hb⟩; go_wp2_with fail; exact hK.out _ _ (BB.step hbb hb) (GF.below hb) hz
            refine StepsM.cons (fun l g' wu hB hl hn hp K hK => ?_) ?_
            · have hbb := hB; have e0 : g' 72 = ev := (hp 0 (by decide)).2; have h6 : BN wu (g' 78) (F) := (hp 6 (by decide)).2; simp only [mkM, maskT18, mixM, Nat.reduceAdd, e0] at hK ⊢; clear e0; simp only [Act.put, List.setIfInBounds_toArray, List.set_cons_zero, List.set_cons_succ] at hK; go_simp; go_at_call 48; refine (bcmp_any _ _ E F _ (HE8.out.below (BB.step hbbY hbb)) h6).mono ?_; rintro e w7 ⟨rfl, hb⟩; go_wp2_with fail; exact hK.out _ _ (BB.step hbb hb) (GF.below hb) rfl
            refine StepsM.cons (fun l g' wu hB hl hn hp K hK => ?_) ?_
            · have e7 : g' 79 = .int .i64 (cmpNat E F) := (hp 7 (by decide)).2; simp only [mkM, maskT18, mixM, Nat.reduceAdd, e7] at hK ⊢; clear e7; simp only [Act.put, List.setIfInBounds_toArray, List.set_cons_zero, List.set_cons_succ] at hK; go_simp; exact hK.out _ _ hB GF.same rfl
            refine StepsM.cons (fun l g' wu hB hl hn hp K hK => ?_) ?_
            · have e8 : g' 80 = .bool (cmpNat E F == 0) := (hp 8 (by decide)).2; simp only [mkM, maskT18, mixM, Nat.reduceAdd, e8] at hK ⊢; clear e8; simp only [Act.put, List.setIfInBounds_toArray, List.set_cons_zero, List.set_cons_succ] at hK; go_simp; exact hK.out _ _ hB GF.same rfl
            exact StepsM.nil
          · intro l g' wu hall hB hG
            have e9 : g' 19 = .bool (cmpNat E F == 0) := hG 9 (by decide)
            have hbbZ : BB w8 wu := BB.step hbbY hB
            rw [cmp_eq_dec] at e9
            simp only [mkM, maskT18, mixM, Nat.reduceAdd, e9]
            clear hG hall e9 hB hbbY
            obtain ⟨b2, hb2⟩ : ∃ b, decide (E = F) = b := ⟨_, rfl⟩
            rw [hb2]
            have HB2 := Lib.hid hb2
            clear hb2
            obtain ⟨wv, rfl⟩ : ∃ wv, wv = wu := ⟨wu, rfl⟩
            have HB8' := Lib.hid (HB8.out.trans (Below.mono hbbZ HB8.out.size))
            have hq0 : (b0 == b0) = true := by cases b0 <;> rfl
            have hq1 : (b1 == b1) = true := by cases b1 <;> rfl
            have hq2 : (b2 == b2) = true := by cases b2 <;> rfl
            go_wp2_with fail
            refine (new_s x wv HXX.out.1).mono ?_
            rintro e w20 ⟨ya, yl, yc, rfl, hy, hb⟩
            have HX20 := Lib.hid hy
            have hbb20 : BB wv w20 := hb
            clear hy hb
            go_wp2_with fail
            refine (new_s y w20 HXX.out.2.1).mono ?_
            rintro e w21 ⟨za, zl, zc, rfl, hy, hb⟩
            have HY21 := Lib.hid hy
            have HX21 := Lib.hid (HX20.out.below hb)
            have hbb21 : BB wv w21 := BB.step hbb20 hb
            clear hy hb HX20 hbb20
            go_wp2_with fail
            refine (new_s z w21 HXX.out.2.2).mono ?_
            rintro e w22 ⟨ta, tl, tc, rfl, hy, hb⟩
            have HT22 := Lib.hid hy
            have HX22 := Lib.hid (HX21.out.below hb)
            have HY22 := Lib.hid (HY21.out.below hb)
            have hbb22 : BB wv w22 := BB.step hbb21 hb
            clear hy hb HX21 HY21 hbb21
            go_wp2_with fail
            refine (popens_any g (gP k) (gQ k) (gG k) (gH k) (gS k) (gP_one k) pa len pc xs ya yl yc x za zl zc y ta tl tc z w22 (HG8.out.below (BB.step hbbZ hbb22)) (HN8.out.below (BB.step hbbZ hbb22)) HA.out.2.1 (by omega) HX22.out HY22.out HT22.out (lt_1000 HXX.out.2.1) (lt_1000 HXX.out.2.2)).mono ?_
            rw [HE.out, multi_two, Nat.mul_mod, HD.out, HB1.out]
            rintro e w23 ⟨rfl, hb⟩
            have hbb23 : BB wv w23 := BB.step hbb22 hb
            clear hb HX22 HY22 HT22 hbb22
            go_wp2_with fail
            refine (new_s x w23 HXX.out.1).mono ?_
            rintro e w24 ⟨ya, yl, yc, rfl, hy, hb⟩
            have HX24 := Lib.hid hy
            have hbb24 : BB wv w24 := BB.step hbb23 hb
            clear hy hb hbb23
            go_wp2_with fail
            refine (new_s y w24 HXX.out.2.1).mono ?_
            rintro e w25 ⟨za, zl, zc, rfl, hy, hb⟩
            have HY25 := Lib.hid hy
            have HX25 := Lib.hid (HX24.out.below hb)
            have hbb25 : BB wv w25 := BB.step hbb24 hb
            clear hy hb HX24 hbb24
            go_wp2_with fail
            refine (pfits_any g (gP k) (gQ k) (gG k) (gH k) (gS k) pa len pc xs ya yl yc x za zl zc y w25 (HG8.out.below (BB.step hbbZ hbb25)) (HN8.out.below (BB.step hbbZ hbb25)) HA.out.2.1 (by omega) HX25.out HY25.out).mono ?_
            rw [HE.out, HF.out, HB2.out]
            rintro e w26 ⟨rfl, hb⟩
            have hbb26 : BB wv w26 := BB.step hbb25 hb
            clear hb HX25 HY25 hbb25
            go_wp2_with fail
            refine (members_any g (gP k) (gQ k) (gG k) (gH k) (gS k) pa len pc xs w26 (HG8.out.below (BB.step hbbZ hbb26)) (HN8.out.below (BB.step hbbZ hbb26)) HA.out.2.1 hpc (by omega)).mono ?_
            rw [HB0.out]
            rintro e w27 ⟨rfl, hb⟩
            have hbb27 : BB wv w27 := BB.step hbb26 hb
            clear hb hbb26
            go_wp2_with fail
            go_ret
            exact ⟨rfl, HB8'.out.trans (Below.mono hbb27 HB8'.out.size)⟩

/-- The same, as the frame asks it. -/
theorem tells_walk (a0 : Int) (a1 : Option Addr) (len1 cap1 : Nat) (z1 : List Int) (a2 a3 a4 : Int) (w : World)
    (w1 : (a1 = none ∧ len1 = 0 ∧ cap1 = 0 ∧ z1 = []) ∨ ∃ x, a1 = some x ∧ len1 ≤ cap1 ∧ cap1 ≤ maxLen ∧ z1.length = cap1 ∧ (∀ i, i < z1.length → w.cell? (x.add i) = some (.int .u64 (z1.getD i 0))) ∧ ∀ n ∈ z1, (Lit.int .u64 n).wf = true)
    (w2 : (Lit.int .u64 a2).wf = true) (w3 : (Lit.int .u64 a3).wf = true) (w4 : (Lit.int .u64 a4).wf = true) :
    Calls Try.prog 7 #[.int .i64 a0, .slice a1 len1 cap1, .int .u64 a2, .int .u64 a3, .int .u64 a4] w fun e w' => e = .returned (.bool true) ∧ Below w.heap.size w w' := by
  obtain ⟨l, h1, h2, h3, h4⟩ := words_in w1
  obtain ⟨x, rfl, hx⟩ := word_in w2
  obtain ⟨y, rfl, hy⟩ := word_in w3
  obtain ⟨z, rfl, hz⟩ := word_in w4
  exact tells_any a0 a1 len1 cap1 l x y z w h1 h2 h3 h4 hx hy hz
end Go.Proofs.Ythefednendgclaa
