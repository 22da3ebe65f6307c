/-
  The law CurveJoins: it returns true.
-/
import Derived.Test.YthefednendgclaaGreatRefJ
import Derived.Test.YthefednendgclaaGreatJoin
import Derived.Test.YthefednendgclaaGreatThr
import Derived.Test.YthefednendgclaaGreatLaw10
set_option linter.unusedVariables false
set_option linter.unusedSimpArgs false
namespace Go.Proofs.YthefednendgclaaGreat
open Go Go.RowKit Sac NT

/-- Which error places and values have. -/
def Ask (q : Nat) (xs : List Nat) (ny : Nat) (c : Int) : Prop := (xs.length = 0 ∧ c = 10) ∨ (0 < xs.length ∧ xs.length ≠ ny ∧ c = 1) ∨ (0 < xs.length ∧ xs.length = ny ∧ ¬ Dis q xs ∧ c = 11) ∨ (0 < xs.length ∧ xs.length = ny ∧ Dis q xs ∧ c = 0)
theorem ask_eq {q : Nat} {xs : List Nat} {ny : Nat} {c d : Int} (h : Ask q xs ny c) (k : Ask q xs ny d) : c = d := by
  rcases h with ⟨h1, rfl⟩ | ⟨h1, h2, rfl⟩ | ⟨h1, h2, h3, rfl⟩ | ⟨h1, h2, h3, rfl⟩ <;> rcases k with ⟨k1, rfl⟩ | ⟨k1, k2, rfl⟩ | ⟨k1, k2, k3, rfl⟩ | ⟨k1, k2, k3, rfl⟩ <;> first | rfl | (exfalso; omega) | exact absurd h3 k3 | exact absurd k3 h3
theorem ask_ex (q : Nat) (xs : List Nat) (ny : Nat) : ∃ c, Ask q xs ny c := by
  by_cases h1 : xs.length = 0
  · exact ⟨10, .inl ⟨h1, rfl⟩⟩
  by_cases h2 : xs.length = ny
  · by_cases h3 : Dis q xs
    · exact ⟨0, .inr (.inr (.inr ⟨by omega, h2, h3, rfl⟩))⟩
    · exact ⟨11, .inr (.inr (.inl ⟨by omega, h2, h3, rfl⟩))⟩
  · exact ⟨1, .inr (.inl ⟨by omega, h2, rfl⟩)⟩
/-- A number joined, with its error. -/
theorem JoinPost.ask {q : Nat} {xs : List Nat} {ny z : Nat} {E : Int} {w w' : World} {e : Ending} (hE : Ask q xs ny E) (h : JoinPost q xs ny z w e w') : ∃ (a : Option Addr) (l k : Nat), e = .returned (.tuple #[.agg #[.slice a l k], .int .i64 E]) ∧ Below w.heap.size w w' ∧ NatS w' a l (if E = 0 then z else 0) := by
  obtain ⟨a, l, k, c, rfl, hb, h⟩ := h
  have hc : c = E := by
    refine ask_eq (q := q) (xs := xs) (ny := ny) ?_ hE
    rcases h with ⟨h1, h2, _⟩ | ⟨h1, h2, h3, _⟩ | ⟨h1, h2, h3, h4, _⟩ | ⟨h1, h2, h3, h4, _⟩
    · exact .inl ⟨h1, h2⟩
    · exact .inr (.inl ⟨h1, h2, h3⟩)
    · exact .inr (.inr (.inl ⟨h1, h2, h3, h4⟩))
    · exact .inr (.inr (.inr ⟨h1, h2, h3, h4⟩))
  subst hc
  refine ⟨a, l, k, rfl, hb, ?_⟩
  rcases h with ⟨_, h2, h⟩ | ⟨_, _, h2, h⟩ | ⟨_, _, _, h2, h⟩ | ⟨_, _, _, h2, h⟩
  · rw [if_neg (by omega)]; exact h
  · rw [if_neg (by omega)]; exact h
  · rw [if_neg (by omega)]; exact h
  · rw [if_pos h2]; exact h
theorem ThrPost.ask {q : Nat} {xs ys : List Nat} {ny : Nat} {E : Int} {w w' : World} {e : Ending} (hE : Ask q xs ny E) (h : ThrPost q xs ys ny w e w') : ∃ (a : Option Addr) (k : Nat), e = .returned (.tuple #[.slice a (if E = 0 then xs.length else 0) k, .int .i64 E]) ∧ Below w.heap.size w w' := by
  obtain ⟨v, c, rfl, hb, h⟩ := h
  have hc : c = E := by
    refine ask_eq (q := q) (xs := xs) (ny := ny) ?_ hE
    rcases h with ⟨h1, h2, _⟩ | ⟨h1, h2, h3, _⟩ | ⟨h1, h2, h3, h4, _⟩ | ⟨h1, h2, h3, h4, _⟩
    · exact .inl ⟨h1, h2⟩
    · exact .inr (.inl ⟨h1, h2, h3⟩)
    · exact .inr (.inr (.inl ⟨h1, h2, h3, h4⟩))
    · exact .inr (.inr (.inr ⟨h1, h2, h3, h4⟩))
  subst hc
  rcases h with ⟨_, h2, rfl⟩ | ⟨_, _, h2, rfl⟩ | ⟨_, _, _, h2, rfl⟩ | ⟨_, _, _, h2, h⟩
  · rw [if_neg (by omega)]; exact ⟨none, 0, rfl, hb⟩
  · rw [if_neg (by omega)]; exact ⟨none, 0, rfl, hb⟩
  · rw [if_neg (by omega)]; exact ⟨none, 0, rfl, hb⟩
  · rw [if_pos h2]
    obtain ⟨a, k, rfl, _⟩ := h.form
    rw [thr_length _ (Nat.le_refl _)]
    exact ⟨a, k, rfl, hb⟩
def tabCJ (v0 : Value) (v1 : Value) (v2 : Value) (p3 : Fk KpN) (v4 : Value) (v5 : Value) (v6 : Value) (v7 : Value) : List (Fk KpN) := [.val v0, .val v1, .val v2, p3, .val v4, .val v5, .val v6, .val v7]
def dstCJ : List (Option Tmp) := [some 71, some 72, some 73, some 74, some 75, some 76, some 77, some 19]
def preCJ : List (List Nat) := [[], [0], [], [2], [], [4], [0, 1, 2, 3, 4, 5], [0, 1, 2, 3, 4, 5, 6]]
def maskCJ : List Bool := [false, false, false, false, false, false, false, false, false, false, false, false, false, false, false, false, false, false, false, true, false, false, false, false, false, false, false, false, false, false, false, false, false, false, false, false, false, false, false, false, false, false, false, false, false, false, false, false, false, false, false, false, false, false, false, false, false, false, false, false, false, false, false, false, false, false, false, false, false, false, false, true, true, true, true, true, true, true, false, false, false, false, false, false, false, false, false, false, false, false, false, false, false, false, false, false, false, false, false, false, false, false, false, false, false, false, false, false, false, false, false, false, false, false, false, false, false, false, false, false, false, false, false, false, false, false, false, false, false, false, false, false, false, false]
def tabCK (v0 : Value) (v1 : Value) (v2 : Value) (v3 : Value) (p4 : Fk KpN) (v5 : Value) (p6 : Fk KpN) (v7 : Value) (p8 : Fk KpN) (v9 : Value) (v10 : Value) (v11 : Value) (v12 : Value) (v13 : Value) (p14 : Fk KpN) (v15 : Value) (p16 : Fk KpN) (v17 : Value) (p18 : Fk KpN) (v19 : Value) (v20 : Value) (v21 : Value) (v22 : Value) (v23 : Value) (v24 : Value) (v25 : Value) (v26 : Value) (v27 : Value) (v28 : Value) : List (Fk KpN) := [.val v0, .val v1, .val v2, .val v3, p4, .val v5, p6, .val v7, p8, .val v9, .val v10, .val v11, .val v12, .val v13, p14, .val v15, p16, .val v17, p18, .val v19, .val v20, .val v21, .val v22, .val v23, .val v24, .val v25, .val v26, .val v27, .val v28]
def dstCK : List (Option Tmp) := [some 106, some 107, some 108, some 109, some 110, some 111, some 112, some 113, some 114, some 115, some 116, some 117, some 118, some 119, some 120, some 121, some 122, some 123, some 124, some 125, some 126, some 127, some 128, some 129, some 130, some 131, some 132, some 133, some 8]
def preCK : List (List Nat) := [[], [], [1], [], [3], [], [3, 4, 5], [], [1, 2, 3, 4, 5, 6, 7], [0, 1, 2, 3, 4, 5, 6, 7, 8], [0, 1, 2, 3, 4, 5, 6, 7, 8, 9], [0, 1, 2, 3, 4, 5, 6, 7, 8, 9, 10], [0, 1, 2, 3, 4, 5, 6, 7, 8, 9, 10], [0, 1, 2, 3, 4, 5, 6, 7, 8, 9, 10], [0, 1, 2, 3, 4, 5, 6, 7, 8, 9, 10, 13], [0, 1, 2, 3, 4, 5, 6, 7, 8, 9, 10], [0, 1, 2, 3, 4, 5, 6, 7, 8, 9, 10, 13, 14, 15], [0, 1, 2, 3, 4, 5, 6, 7, 8, 9, 10], [0, 1, 2, 3, 4, 5, 6, 7, 8, 9, 10, 12, 13, 14, 15, 16, 17], [0, 1, 2, 3, 4, 5, 6, 7, 8, 9, 10, 11, 12, 13, 14, 15, 16, 17, 18], [0, 1, 2, 3, 4, 5, 6, 7, 8, 9, 10, 11, 12, 13, 14, 15, 16, 17, 18, 19], [0, 1, 2, 3, 4, 5, 6, 7, 8, 9, 10, 11, 12, 13, 14, 15, 16, 17, 18, 19, 20], [0, 1, 2, 3, 4, 5, 6, 7, 8, 9, 10, 11, 12, 13, 14, 15, 16, 17, 18, 19, 20, 21], [0, 1, 2, 3, 4, 5, 6, 7, 8, 9, 10, 11, 12, 13, 14, 15, 16, 17, 18, 19, 20, 21, 22], [0, 1, 2, 3, 4, 5, 6, 7, 8, 9, 10, 11, 12, 13, 14, 15, 16, 17, 18, 19, 20, 21], [0, 1, 2, 3, 4, 5, 6, 7, 8, 9, 10, 11, 12, 13, 14, 15, 16, 17, 18, 19, 20, 21, 24], [0, 1, 2, 3, 4, 5, 6, 7, 8, 9, 10, 11, 12, 13, 14, 15, 16, 17, 18, 19, 20, 21, 22, 23, 24, 25], [0, 1, 2, 3, 4, 5, 6, 7, 8, 9, 10, 11, 12, 13, 14, 15, 16, 17, 18, 19, 20, 21, 22, 23, 24, 25, 26], [0, 1, 2, 3, 4, 5, 6, 7, 8, 9, 10, 11, 12, 13, 14, 15, 16, 17, 18, 19, 20, 21, 22, 23, 24, 25, 26, 27]]
def maskCK : List Bool := [false, false, false, false, false, false, false, false, true, false, false, false, false, false, false, false, false, false, false, false, false, false, false, false, false, false, false, false, false, false, false, false, false, false, false, false, false, false, false, false, false, false, false, false, false, false, false, false, false, false, false, false, false, false, false, false, false, false, false, false, false, false, false, false, false, false, false, false, false, false, false, false, false, false, false, false, false, false, false, false, false, false, false, false, false, false, false, false, false, false, false, false, false, false, false, false, false, false, false, false, false, false, false, false, false, false, true, true, true, true, true, true, true, true, true, true, true, true, true, true, true, true, true, true, true, true, true, true, true, true, true, true, true, true]

set_option maxRecDepth 100000 in
set_option maxHeartbeats 8000000 in
theorem cjoins_any (n : Int) (a : Option Addr) (len cap : Nat) (xs : List Nat) (b : Option Addr) (lenb capb : Nat) (ys : List Nat) (x : Nat) (w : World)
    (ha : RdC w a (xs.map w64)) (hlx : xs.length = len) (hc : (len : Int) ≤ cap) (hx : ∀ y ∈ xs, y < 18446744073709551616)
    (ha' : RdC w b (ys.map w64)) (hly : ys.length = lenb) (hc' : (lenb : Int) ≤ capb) (hx' : ∀ y ∈ ys, y < 18446744073709551616) (hxx : x < 18446744073709551616) :
    Calls Tryz.prog 3 #[.int .i64 n, .slice a len cap, .slice b lenb capb, .int .u64 (x : Int)] w fun e w' => e = .returned (.bool true) ∧ Below w.heap.size w w' := by
  have HA := Lib.hid (And.intro ha (And.intro hlx (And.intro hc hx)))
  have HB0 := Lib.hid (And.intro ha' (And.intro hly (And.intro hc' hx')))
  have HXX := Lib.hid hxx
  have HXNB : Hid (∀ y ∈ xs, nbytes y ≤ 120) := fun y hy => nb_64 (hx y hy)
  have HYNB : Hid (∀ y ∈ ys, nbytes y ≤ 120) := fun y hy => nb_64 (hx' y hy)
  have HYL : Hid (∀ a ∈ ys, Bt.len a ≤ 400) := fun y hy => len_64 (hx' y hy)
  have HLX0 := Lib.hid (And.intro hlx hly)
  clear ha hlx hc hx ha' hly hc' hx' hxx
  by_cases h8 : (6 : Int) < (len : Int)
  · go_enter Tryz.func3, Tryz.ntmps3
    go_wp2_with fail
    refine (lives_any w).mono ?_
    rintro e w2 ⟨rfl, hb2⟩
    have HB2 := Lib.hid hb2
    clear hb2
    go_wp2_with fail
    refine (lives_any w2).mono ?_
    rintro e w3 ⟨rfl, hb3⟩
    have HB3 := Lib.hid (HB2.out.trans (hb3.mono HB2.out.size))
    clear hb3
    go_wp2_with fail
    go_ret
    exact ⟨rfl, HB3.out⟩
  by_cases h8' : (6 : Int) < (lenb : Int)
  · go_enter Tryz.func3, Tryz.ntmps3
    go_wp2_with fail
    refine (lives_any w).mono ?_
    rintro e w2 ⟨rfl, hb2⟩
    have HB2 := Lib.hid hb2
    clear hb2
    go_wp2_with fail
    refine (lives_any w2).mono ?_
    rintro e w3 ⟨rfl, hb3⟩
    have HB3 := Lib.hid (HB2.out.trans (hb3.mono HB2.out.size))
    clear hb3
    go_wp2_with fail
    go_ret
    exact ⟨rfl, HB3.out⟩
  obtain ⟨k, hk⟩ : ∃ k, kOf n = k := ⟨_, rfl⟩
  have HK := Lib.hid hk
  clear hk
  obtain ⟨E, hE⟩ := ask_ex (gQ k) xs lenb
  have HE := Lib.hid hE
  clear hE
  go_enter Tryz.func3, Tryz.ntmps3
  go_wp2_with fail
  refine (lives_any w).mono ?_
  rintro e w2 ⟨rfl, hb2⟩
  have HB2 := Lib.hid hb2
  clear hb2
  go_wp2_with fail
  refine (group_any n w2).mono ?_
  rintro e w3 ⟨g, rfl, hg, hb3⟩
  rw [HK.out] at hg
  have HG3 : Hid (GroupAt w3 g (gP k) (gQ k) (gG k) (gH k) (gS k)) := hg
  have HB3 := Lib.hid (HB2.out.trans (hb3.mono HB2.out.size))
  clear hb3 hg HB2
  go_wp2_with fail
  refine (bref_any g (gP k) (gQ k) (gG k) (gH k) (gS k) w3 HG3.out (gP_nb k) (gQ_nb k) (gG_nb k) (gH_nb k)).mono ?_
  rintro e w4 ⟨gv, rfl, hgv, hb4⟩
  have HB4 := Lib.hid (HB3.out.trans (hb4.mono HB3.out.size))
  obtain ⟨ra, rl, rc, qa, ql, qc, ga, gl, gc, ja, jl, jc, rfl, h1, h2, h3, h4⟩ := hgv
  have HV4 := Lib.hid (And.intro h1 (And.intro h2 (And.intro h3 h4)))
  have hbb4 : BB w3 w4 := hb4
  clear hb4 h1 h2 h3 h4 HB3
  go_wp2_with fail
  refine (nums_any a len cap xs w4 (HA.out.1.below HB4.out) HA.out.2.1 HA.out.2.2.1 (by omega) HA.out.2.2.2).mono ?_
  rintro e w5 ⟨v, rfl, hrow, hb5⟩
  obtain ⟨pa, pc, rfl, hp1, _, hat, _⟩ := hrow.form
  rw [HLX0.out.1] at hp1 ⊢
  have HNX5 := Lib.hid hat
  have hpc : (len : Int) ≤ pc := by omega
  have hbb5 : BB w4 w5 := hb5
  clear hrow hat hb5 hp1
  go_wp2_with fail
  refine (nums_any b lenb capb ys w5 (HB0.out.1.below (HB4.out.trans (Below.mono hbb5 HB4.out.size))) HB0.out.2.1 HB0.out.2.2.1 (by omega) HB0.out.2.2.2).mono ?_
  rintro e w6 ⟨v, rfl, hrow, hb6⟩
  obtain ⟨ma, mc, rfl, hp1, _, hat, _⟩ := hrow.form
  rw [HLX0.out.2] at hp1 ⊢
  have HNY6 := Lib.hid hat
  have HNX6 := Lib.hid (HNX5.out.below hb6)
  have hmc : (lenb : Int) ≤ mc := by omega
  have hbb6 : BB w4 w6 := BB.step hbb5 hb6
  clear hrow hat hb6 hp1 hbb5 HNX5
  obtain ⟨B, hBs⟩ : ∃ B, B = w6.heap.size := ⟨_, rfl⟩
  have hba := (Below.refl _ w6).alloc (Nat.le_refl _) (Obj.cells #[Value.slice ra rl rc, Value.slice qa ql qc, Value.slice ga gl gc, Value.slice ja jl jc] 30)
  have hBK : Blk (w6.alloc (Obj.cells #[Value.slice ra rl rc, Value.slice qa ql qc, Value.slice ga gl gc, Value.slice ja jl jc] 30)) B 30 [.slice ra rl rc, .slice qa ql qc, .slice ga gl gc, .slice ja jl jc] := Blk.new' w6 _ _ B hBs
  have hbb7 : BB w4 (w6.alloc (Obj.cells #[Value.slice ra rl rc, Value.slice qa ql qc, Value.slice ga gl gc, Value.slice ja jl jc] 30)) := BB.step hbb6 hba
  have HNX7 := Lib.hid (HNX6.out.below hba)
  have HNY7 := Lib.hid (HNY6.out.below hba)
  have HBs := Lib.hid hBs
  clear hba hbb6 HNX6 HNY6 hBs
  go_wp2_with fail
  rw [← HBs.out]
  generalize w6.alloc (Obj.cells #[Value.slice ra rl rc, Value.slice qa ql qc, Value.slice ga gl gc, Value.slice ja jl jc] 30) = w7 at hBK hbb7 HNX7 HNY7 ⊢
  have HB7 := Lib.hid (HB4.out.trans (Below.mono hbb7 HB4.out.size))
  have HG7 := Lib.hid (HG3.out.below (BB.step hbb4 hbb7))
  have kP7 : ∀ w', BB w7 w' → w'.cell? ⟨B, 0, none⟩ = some (.slice ra rl rc) := fun w' hb => (BB.cell hb hBK.lt).trans (hBK.cell 0)
  have kQ7 : ∀ w', BB w7 w' → w'.cell? ⟨B, 1, none⟩ = some (.slice qa ql qc) := fun w' hb => (BB.cell hb hBK.lt).trans (hBK.cell 1)
  have kG7 : ∀ w', BB w7 w' → w'.cell? ⟨B, 2, none⟩ = some (.slice ga gl gc) := fun w' hb => (BB.cell hb hBK.lt).trans (hBK.cell 2)
  have kH7 : ∀ w', BB w7 w' → w'.cell? ⟨B, 3, none⟩ = some (.slice ja jl jc) := fun w' hb => (BB.cell hb hBK.lt).trans (hBK.cell 3)
  have HV7 := Lib.hid (And.intro (HV4.out.1.below hbb7) (And.intro (HV4.out.2.1.below hbb7) (And.intro (HV4.out.2.2.1.below hbb7) (HV4.out.2.2.2.below hbb7))))
  clear hBK hbb7 hbb4 HV4 HB4 HG3
  refine (gfield_any g _ _ _ _ _ w7 HG7.out).mono ?_
  rintro e w8 ⟨r, rfl, hr, hb8⟩
  have HR8 := Lib.hid hr
  have hbb8 : BB w7 w8 := hb8
  clear hr hb8
  go_wp2_with fail
  refine (new_s x w8 HXX.out).mono ?_
  rintro e w9 ⟨xa, xl, xc, rfl, hx, hb9⟩
  have HX9 := Lib.hid hx
  have HR9 := Lib.hid (HR8.out.below hb9)
  have hbb9 : BB w7 w9 := BB.step hbb8 hb9
  clear hx hb9 hbb8
  go_wp2_with fail
  refine (join_any r (gQ k) pa len pc xs ma lenb mc ys xa xl xc x w9 (gQ_prime k) HR9.out (HNX7.out.below hbb9) HLX0.out.1 hpc (by omega) (HNY7.out.below hbb9) HLX0.out.2 hmc HX9.out).mono ?_
  intro e wA hJ
  obtain ⟨a1, a2, a3, rfl, hbA, hA⟩ := hJ.ask HE.out
  rw [HLX0.out.1] at hA
  obtain ⟨JA, hJAs⟩ : ∃ JA, JA = wA.heap.size := ⟨_, rfl⟩
  have hb1 := (Below.refl _ wA).alloc (Nat.le_refl _) (Obj.cells #[Value.slice a1 a2 a3] 36)
  have hBA : Blk (wA.alloc (Obj.cells #[Value.slice a1 a2 a3] 36)) JA 36 [.slice a1 a2 a3] := Blk.new' wA _ _ JA hJAs
  have hbbA : BB w7 (wA.alloc (Obj.cells #[Value.slice a1 a2 a3] 36)) := BB.step (BB.step hbb9 hbA) hb1
  have HZA0 := Lib.hid (hA.below hb1)
  have HJAs := Lib.hid hJAs
  clear hJ hbA hA hb1 hJAs hbb9 HX9 HR9 HR8
  go_wp2_with fail
  rw [← HJAs.out]
  generalize wA.alloc (Obj.cells #[Value.slice a1 a2 a3] 36) = wB at hBA hbbA HZA0 ⊢
  refine (new_s x wB HXX.out).mono ?_
  rintro e wC ⟨xa, xl, xc, rfl, hx, hbC⟩
  have HXC := Lib.hid hx
  have hbbC : BB wB wC := hbC
  clear hx hbC
  go_wp2_with fail
  refine (joinexp_any g (gP k) (gQ k) (gG k) (gH k) (gS k) pa len pc xs ma lenb mc ys xa xl xc x wC (gQ_prime k) (HG7.out.below (BB.step hbbA hbbC)) (HNX7.out.below (BB.step hbbA hbbC)) HLX0.out.1 hpc (by omega) (HNY7.out.below (BB.step hbbA hbbC)) HLX0.out.2 hmc HXC.out).mono ?_
  intro e wD hJ
  obtain ⟨b1, b2, b3, rfl, hbD, hD⟩ := hJ.ask HE.out
  rw [HLX0.out.1] at hD
  obtain ⟨JB, hJBs⟩ : ∃ JB, JB = wD.heap.size := ⟨_, rfl⟩
  have hb1 := (Below.refl _ wD).alloc (Nat.le_refl _) (Obj.cells #[Value.slice b1 b2 b3] 36)
  have hBB : Blk (wD.alloc (Obj.cells #[Value.slice b1 b2 b3] 36)) JB 36 [.slice b1 b2 b3] := Blk.new' wD _ _ JB hJBs
  have hbbE : BB wB (wD.alloc (Obj.cells #[Value.slice b1 b2 b3] 36)) := BB.step (BB.step hbbC hbD) hb1
  have HZB0 := Lib.hid (hD.below hb1)
  have HJBs := Lib.hid hJBs
  clear hJ hbD hD hb1 hJBs hbbC HXC
  go_wp2_with fail
  rw [← HJBs.out]
  generalize wD.alloc (Obj.cells #[Value.slice b1 b2 b3] 36) = wE at hBB hbbE HZB0 ⊢
  have hbbF : BB w7 wE := BB.step hbbA hbbE
  refine (gfield_any g _ _ _ _ _ wE (HG7.out.below hbbF)).mono ?_
  rintro e wG ⟨r2, rfl, hr, hbG⟩
  have HRG := Lib.hid hr
  have hbbG : BB wE wG := hbG
  clear hr hbG
  go_wp2_with fail
  refine (through_any r2 (gQ k) pa len pc xs ma lenb mc ys wG (gQ_prime k) HRG.out (HNX7.out.below (BB.step hbbF hbbG)) HLX0.out.1 hpc (by omega) (HNY7.out.below (BB.step hbbF hbbG)) HLX0.out.2 hmc).mono ?_
  intro e w10 hT
  obtain ⟨va, vc, rfl, hbH⟩ := hT.ask HE.out
  rw [HLX0.out.1]
  obtain ⟨lv, hlv⟩ : ∃ lv, (if E = 0 then len else 0) = lv := ⟨_, rfl⟩
  rw [hlv]
  have HLV := Lib.hid hlv
  clear hlv
  have hbb10E : BB wE w10 := BB.step hbbG hbH
  have hbb10B : BB wB w10 := BB.step hbbE hbb10E
  have hbb10 : BB w7 w10 := BB.step hbbA hbb10B
  have HB10 := Lib.hid (HB7.out.trans (Below.mono hbb10 HB7.out.size))
  have HNX := Lib.hid (HNX7.out.below hbb10)
  have HNY := Lib.hid (HNY7.out.below hbb10)
  have HZA1 := Lib.hid (HZA0.out.below hbb10B)
  have HZB1 := Lib.hid (HZB0.out.below hbb10E)
  have HQV := Lib.hid (HV7.out.2.1.below hbb10)
  have hBA10 := hBA.below hbb10B hBA.lt
  have hBB10 := hBB.below hbb10E hBB.lt
  have kP : ∀ w', BB w10 w' → w'.cell? ⟨B, 0, none⟩ = some (.slice ra rl rc) := fun w' hb => kP7 w' (BB.step hbb10 hb)
  have kQ : ∀ w', BB w10 w' → w'.cell? ⟨B, 1, none⟩ = some (.slice qa ql qc) := fun w' hb => kQ7 w' (BB.step hbb10 hb)
  have kG : ∀ w', BB w10 w' → w'.cell? ⟨B, 2, none⟩ = some (.slice ga gl gc) := fun w' hb => kG7 w' (BB.step hbb10 hb)
  have kH : ∀ w', BB w10 w' → w'.cell? ⟨B, 3, none⟩ = some (.slice ja jl jc) := fun w' hb => kH7 w' (BB.step hbb10 hb)
  have kA0 : ∀ w', BB w10 w' → w'.cell? ⟨JA, 0, none⟩ = some (.slice a1 a2 a3) := fun w' hb => (BB.cell hb hBA10.lt).trans (hBA10.cell 0)
  have kB0 : ∀ w', BB w10 w' → w'.cell? ⟨JB, 0, none⟩ = some (.slice b1 b2 b3) := fun w' hb => (BB.cell hb hBB10.lt).trans (hBB10.cell 0)
  have HBG : Hid (∀ w', BB w10 w' → BG w' (.agg #[.slice ra rl rc, .slice qa ql qc, .slice ga gl gc, .slice ja jl jc]) (gP k) (gQ k) (gG k) (gH k)) := fun w' h => ⟨ra, rl, rc, qa, ql, qc, ga, gl, gc, ja, jl, jc, rfl, (HV7.out.1.below hbb10).below h, (HV7.out.2.1.below hbb10).below h, (HV7.out.2.2.1.below hbb10).below h, (HV7.out.2.2.2.below hbb10).below h⟩
  have HLX := HLX0
  clear hT hbH hbb10E hbb10B hbb10 hbbG hbbF hbbE hbbA hBA hBB hBA10 hBB10 kP7 kQ7 kG7 kH7 HV7 HZA0 HZB0 HNX7 HNY7 HRG HG7 HB7
  go_wp2_with fail
  refine wp_region_mix (fun _ w' => BB w10 w') (GF (tabCJ (.pointer (some ⟨B, 1, none⟩)) (.slice qa ql qc) (.slice pa len pc) (Fk.rel (fun v w => BRow w v xs) (fun _ _ _ hb h => h.below hb)) (.slice ma lenb mc) (.int .i64 (lenb : Int)) (.int .i64 E) (.int .i64 E))) maskCJ dstCJ preCJ (by kernel_rfl) (by kernel_rfl) rfl (by kernel_rfl) (by kernel_rfl) (by kernel_rfl) (by kernel_rfl) (BB.drew (BB.refl _)) ?_ ?_
  · refine StepsM.cons (fun l g' wu hB hl hn hp K hK => ?_) ?_
    · simp only [mkM, maskCJ, mixM, Nat.reduceAdd] at hK ⊢; simp only [Act.put, List.setIfInBounds_toArray, List.set_cons_zero, List.set_cons_succ] at hK; go_simp; exact hK.out _ _ hB GF.same rfl
    refine StepsM.cons (fun l g' wu hB hl hn hp K hK => ?_) ?_
    · have hbb := hB; have e0 : g' 71 = .pointer (some ⟨B, 1, none⟩) := (hp 0 (by decide)).2; have hc := kQ _ hbb; simp only [mkM, maskCJ, mixM, Nat.reduceAdd, e0] at hK ⊢; clear e0; simp only [Act.put, List.setIfInBounds_toArray, List.set_cons_zero, List.set_cons_succ] at hK; go_simp; exact hK.out _ _ hB GF.same rfl
    refine StepsM.cons (fun l g' wu hB hl hn hp K hK => ?_) ?_
    · simp only [mkM, maskCJ, mixM, Nat.reduceAdd] at hK ⊢; simp only [Act.put, List.setIfInBounds_toArray, List.set_cons_zero, List.set_cons_succ] at hK; go_simp; exact hK.out _ _ hB GF.same rfl
    refine StepsM.cons (fun l g' wu hB hl hn hp K hK => ?_) ?_
    · have hbb := hB; have e2 : g' 73 = .slice pa len pc := (hp 2 (by decide)).2; simp only [mkM, maskCJ, mixM, Nat.reduceAdd, e2] at hK ⊢; clear e2; simp only [Act.put, List.setIfInBounds_toArray, List.set_cons_zero, List.set_cons_succ] at hK; go_simp; go_at_call 17; refine (refs10_any pa len pc xs _ (HNX.out.below hbb) HLX.out.1 hpc (by omega) HXNB.out).mono ?_; rintro e w7 ⟨z, rfl, hz, hb⟩; go_wp2_with fail; exact hK.out _ _ (BB.step hbb hb) (GF.below hb) hz
    refine StepsM.cons (fun l g' wu hB hl hn hp K hK => ?_) ?_
    · simp only [mkM, maskCJ, mixM, Nat.reduceAdd] at hK ⊢; simp only [Act.put, List.setIfInBounds_toArray, List.set_cons_zero, List.set_cons_succ] at hK; go_simp; exact hK.out _ _ hB GF.same rfl
    refine StepsM.cons (fun l g' wu hB hl hn hp K hK => ?_) ?_
    · have e4 : g' 75 = .slice ma lenb mc := (hp 4 (by decide)).2; simp only [mkM, maskCJ, mixM, Nat.reduceAdd, e4] at hK ⊢; clear e4; simp only [Act.put, List.setIfInBounds_toArray, List.set_cons_zero, List.set_cons_succ] at hK; go_simp; exact hK.out _ _ hB GF.same rfl
    refine StepsM.cons (fun l g' wu hB hl hn hp K hK => ?_) ?_
    · have hbb := hB; have e1 : g' 72 = .slice qa ql qc := (hp 1 (by decide)).2; have h3 : BRow wu (g' 74) xs := (hp 3 (by decide)).2; have e5 : g' 76 = .int .i64 (lenb : Int) := (hp 5 (by decide)).2; simp only [mkM, maskCJ, mixM, Nat.reduceAdd, e1, e5] at hK ⊢; clear e1 e5; simp only [Act.put, List.setIfInBounds_toArray, List.set_cons_zero, List.set_cons_succ] at hK; go_simp; go_at_call 16; refine (asked_any _ _ (gQ k) xs lenb _ (HQV.out.below hbb) h3 (gQ_pos k) (Nat.le_trans (gQ_len' k) (by decide)) (by rw [HLX.out.1]; omega)).mono ?_; rintro e w7 ⟨cc, rfl, hb, hcc⟩; rw [ask_eq hcc HE.out]; go_wp2_with fail; exact hK.out _ _ (BB.step hbb hb) (GF.below hb) rfl
    refine StepsM.cons (fun l g' wu hB hl hn hp K hK => ?_) ?_
    · have e6 : g' 77 = .int .i64 E := (hp 6 (by decide)).2; simp only [mkM, maskCJ, mixM, Nat.reduceAdd, e6] at hK ⊢; clear e6; simp only [Act.put, List.setIfInBounds_toArray, List.set_cons_zero, List.set_cons_succ] at hK; go_simp; exact hK.out _ _ hB GF.same rfl
    exact StepsM.nil
  · intro l g' wu hall hB hG
    have e7 : g' 19 = .int .i64 E := hG 7 (by decide)
    have hbb11 : BB w10 wu := hB
    simp only [mkM, maskCJ, mixM, Nat.reduceAdd, e7]
    clear hG hall hB e7
    obtain ⟨w11, rfl⟩ : ∃ w11, w11 = wu := ⟨wu, rfl⟩
    by_cases hE0 : E = 0
    · have hEl : xs.length = lenb ∧ Dis (gQ k) xs := by
        rcases HE.out with ⟨_, h⟩ | ⟨_, _, h⟩ | ⟨_, _, _, h⟩ | ⟨_, h1, h2, h⟩
        · omega
        · omega
        · omega
        · exact ⟨h1, h2⟩
      have hll : len = lenb := by rw [← hEl.1, HLX0.out.1]
      have HD := Lib.hid hEl.2
      subst hll
      subst hE0
      rw [if_pos rfl] at HZA1 HZB1
      obtain rfl : len = lv := by rw [← HLV.out, if_pos rfl]
      clear hEl
      go_wp2_with fail
      refine (bsmall_any x w11 HXX.out).mono ?_
      rintro e wR ⟨yv, rfl, hyv, hbR0⟩
      have hbR : BB w10 wR := BB.step hbb11 hbR0
      have HYV := Lib.hid hyv
      have HZA := Lib.hid (HZA1.out.below hbR)
      have HZB := Lib.hid (HZB1.out.below hbR)
      have kA : ∀ w', BB wR w' → w'.cell? ⟨JA, 0, none⟩ = some (.slice a1 a2 a3) := fun w' hb => kA0 w' (BB.step hbR hb)
      have kB : ∀ w', BB wR w' → w'.cell? ⟨JB, 0, none⟩ = some (.slice b1 b2 b3) := fun w' hb => kB0 w' (BB.step hbR hb)
      have HBR := Lib.hid (HB10.out.trans (Below.mono hbR HB10.out.size))
      clear hyv hbR0 HZA1 HZB1
      go_wp2_with fail
      refine wp_region_mix (fun _ w' => BB wR w') (GF (tabCK (.agg #[.slice a1 a2 a3]) (.pointer (some ⟨B, 1, none⟩)) (.slice qa ql qc) (.slice pa len pc) (Fk.rel (fun v w => BRow w v xs) (fun _ _ _ hb h => h.below hb)) (.slice ma len mc) (Fk.rel (fun v w => BRow w v ys) (fun _ _ _ hb h => h.below hb)) (yv) (Fk.rel (fun v w => BN w v (wsum (gQ k) ys (wts (gQ k) xs x) len)) (fun _ _ _ hb h => h.below hb)) (.bool true) (.bool true) (.agg #[.slice b1 b2 b3]) (.agg #[.slice ra rl rc, .slice qa ql qc, .slice ga gl gc, .slice ja jl jc]) (.slice pa len pc) (Fk.rel (fun v w => BRow w v xs) (fun _ _ _ hb h => h.below hb)) (.slice ma len mc) (Fk.rel (fun v w => BRow w v ys) (fun _ _ _ hb h => h.below hb)) (yv) (Fk.rel (fun v w => BN w v (wprod (gP k) ys (wts (gQ k) xs x) len)) (fun _ _ _ hb h => h.below hb)) (.bool true) (.bool true) (.bool true) (.slice va len vc) (.int .i64 (len : Int)) (.slice pa len pc) (.int .i64 (len : Int)) (.bool true) (.bool true) (.bool true))) maskCK dstCK preCK (by kernel_rfl) (by kernel_rfl) rfl (by kernel_rfl) (by kernel_rfl) (by kernel_rfl) (by kernel_rfl) (BB.drew (BB.refl _)) ?_ ?_
      · refine StepsM.cons (fun l g' wu hB hl hn hp K hK => ?_) ?_
        · have hbb := hB; have hc := kA _ hbb; simp only [mkM, maskCK, mixM, Nat.reduceAdd] at hK ⊢; simp only [Act.put, List.setIfInBounds_toArray, List.set_cons_zero, List.set_cons_succ] at hK; go_simp; exact hK.out _ _ hB GF.same rfl
        refine StepsM.cons (fun l g' wu hB hl hn hp K hK => ?_) ?_
        · simp only [mkM, maskCK, mixM, Nat.reduceAdd] at hK ⊢; simp only [Act.put, List.setIfInBounds_toArray, List.set_cons_zero, List.set_cons_succ] at hK; go_simp; exact hK.out _ _ hB GF.same rfl
        refine StepsM.cons (fun l g' wu hB hl hn hp K hK => ?_) ?_
        · have hbb := hB; have e1 : g' 107 = .pointer (some ⟨B, 1, none⟩) := (hp 1 (by decide)).2; have hc := kQ _ (BB.step hbR hbb); simp only [mkM, maskCK, mixM, Nat.reduceAdd, e1] at hK ⊢; clear e1; simp only [Act.put, List.setIfInBounds_toArray, List.set_cons_zero, List.set_cons_succ] at hK; go_simp; exact hK.out _ _ hB GF.same rfl
        refine StepsM.cons (fun l g' wu hB hl hn hp K hK => ?_) ?_
        · simp only [mkM, maskCK, mixM, Nat.reduceAdd] at hK ⊢; simp only [Act.put, List.setIfInBounds_toArray, List.set_cons_zero, List.set_cons_succ] at hK; go_simp; exact hK.out _ _ hB GF.same rfl
        refine StepsM.cons (fun l g' wu hB hl hn hp K hK => ?_) ?_
        · have hbb := hB; have e3 : g' 109 = .slice pa len pc := (hp 3 (by decide)).2; simp only [mkM, maskCK, mixM, Nat.reduceAdd, e3] at hK ⊢; clear e3; simp only [Act.put, List.setIfInBounds_toArray, List.set_cons_zero, List.set_cons_succ] at hK; go_simp; go_at_call 17; refine (refs10_any pa len pc xs _ (HNX.out.below (BB.step hbR hbb)) HLX.out.1 hpc (by omega) HXNB.out).mono ?_; rintro e w7 ⟨z, rfl, hz, hb⟩; go_wp2_with fail; exact hK.out _ _ (BB.step hbb hb) (GF.below hb) hz
        refine StepsM.cons (fun l g' wu hB hl hn hp K hK => ?_) ?_
        · simp only [mkM, maskCK, mixM, Nat.reduceAdd] at hK ⊢; simp only [Act.put, List.setIfInBounds_toArray, List.set_cons_zero, List.set_cons_succ] at hK; go_simp; exact hK.out _ _ hB GF.same rfl
        refine StepsM.cons (fun l g' wu hB hl hn hp K hK => ?_) ?_
        · have hbb := hB; have e5 : g' 111 = .slice ma len mc := (hp 5 (by decide)).2; simp only [mkM, maskCK, mixM, Nat.reduceAdd, e5] at hK ⊢; clear e5; simp only [Act.put, List.setIfInBounds_toArray, List.set_cons_zero, List.set_cons_succ] at hK; go_simp; go_at_call 17; refine (refs10_any ma len mc ys _ (HNY.out.below (BB.step hbR hbb)) HLX.out.2 hmc (by omega) HYNB.out).mono ?_; rintro e w7 ⟨z, rfl, hz, hb⟩; go_wp2_with fail; exact hK.out _ _ (BB.step hbb hb) (GF.below hb) hz
        refine StepsM.cons (fun l g' wu hB hl hn hp K hK => ?_) ?_
        · simp only [mkM, maskCK, mixM, Nat.reduceAdd] at hK ⊢; simp only [Act.put, List.setIfInBounds_toArray, List.set_cons_zero, List.set_cons_succ] at hK; go_simp; exact hK.out _ _ hB GF.same rfl
        refine StepsM.cons (fun l g' wu hB hl hn hp K hK => ?_) ?_
        · have hbb := hB; have e2 : g' 108 = .slice qa ql qc := (hp 2 (by decide)).2; have h4 : BRow wu (g' 110) xs := (hp 4 (by decide)).2; have h6 : BRow wu (g' 112) ys := (hp 6 (by decide)).2; have e7 : g' 113 = yv := (hp 7 (by decide)).2; obtain ⟨ua, uc, ez, hcu⟩ := id h6.form; rw [HLX.out.2] at ez hcu; rw [ez] at h6; simp only [mkM, maskCK, mixM, Nat.reduceAdd, e2, e7, ez] at hK ⊢; clear e2 e7; simp only [Act.put, List.setIfInBounds_toArray, List.set_cons_zero, List.set_cons_succ] at hK; go_simp; go_at_call 21; refine (bjoin10_any _ _ ua len uc _ (gQ k) x xs ys _ (HQV.out.below (BB.step hbR hbb)) h4 h6 (HYV.out.below hbb) (gQ_prime k) (gQ_len' k) HD.out HLX.out.1 HLX.out.2 HYL.out (by omega) (by omega)).mono ?_; rintro e w7 ⟨z, rfl, hz, hb⟩; go_wp2_with fail; exact hK.out _ _ (BB.step hbb hb) (GF.below hb) hz
        refine StepsM.cons (fun l g' wu hB hl hn hp K hK => ?_) ?_
        · have hbb := hB; have e0 : g' 106 = .agg #[.slice a1 a2 a3] := (hp 0 (by decide)).2; have h8 : BN wu (g' 114) (wsum (gQ k) ys (wts (gQ k) xs x) len) := (hp 8 (by decide)).2; simp only [mkM, maskCK, mixM, Nat.reduceAdd, e0] at hK ⊢; clear e0; simp only [Act.put, List.setIfInBounds_toArray, List.set_cons_zero, List.set_cons_succ] at hK; go_simp; go_at_call 20; refine (same_any a1 a2 a3 (wsum (gQ k) ys (wts (gQ k) xs x) len) _ (wsum (gQ k) ys (wts (gQ k) xs x) len) _ (HZA.out.below hbb) h8).mono ?_; rw [show decide (wsum (gQ k) ys (wts (gQ k) xs x) len = wsum (gQ k) ys (wts (gQ k) xs x) len) = true from decide_eq_true rfl]; rintro e w7 ⟨rfl, hb⟩; go_wp2_with fail; exact hK.out _ _ (BB.step hbb hb) (GF.below hb) rfl
        refine StepsM.cons (fun l g' wu hB hl hn hp K hK => ?_) ?_
        · have e9 : g' 115 = .bool true := (hp 9 (by decide)).2; simp only [mkM, maskCK, mixM, Nat.reduceAdd, e9] at hK ⊢; clear e9; simp only [Act.put, List.setIfInBounds_toArray, List.set_cons_zero, List.set_cons_succ] at hK; go_simp; exact hK.out _ _ hB GF.same rfl
        refine StepsM.cons (fun l g' wu hB hl hn hp K hK => ?_) ?_
        · have hbb := hB; have e10 : g' 116 = .bool true := (hp 10 (by decide)).2; have hc := kB _ hbb; simp only [mkM, maskCK, mixM, Nat.reduceAdd, e10] at hK ⊢; clear e10; simp only [Act.put, List.setIfInBounds_toArray, List.set_cons_zero, List.set_cons_succ] at hK; go_simp; exact hK.out _ _ hB GF.same rfl
        refine StepsM.cons (fun l g' wu hB hl hn hp K hK => ?_) ?_
        · have hbb := hB; have e10 : g' 116 = .bool true := (hp 10 (by decide)).2; have c0 := kP _ (BB.step hbR hbb); have c1 := kQ _ (BB.step hbR hbb); have c2 := kG _ (BB.step hbR hbb); have c3 := kH _ (BB.step hbR hbb); simp only [mkM, maskCK, mixM, Nat.reduceAdd, e10] at hK ⊢; clear e10; simp only [Act.put, List.setIfInBounds_toArray, List.set_cons_zero, List.set_cons_succ] at hK; go_simp; exact hK.out _ _ hB GF.same rfl
        refine StepsM.cons (fun l g' wu hB hl hn hp K hK => ?_) ?_
        · have e10 : g' 116 = .bool true := (hp 10 (by decide)).2; simp only [mkM, maskCK, mixM, Nat.reduceAdd, e10] at hK ⊢; clear e10; simp only [Act.put, List.setIfInBounds_toArray, List.set_cons_zero, List.set_cons_succ] at hK; go_simp; exact hK.out _ _ hB GF.same rfl
        refine StepsM.cons (fun l g' wu hB hl hn hp K hK => ?_) ?_
        · have hbb := hB; have e13 : g' 119 = .slice pa len pc := (hp 13 (by decide)).2; have e10 : g' 116 = .bool true := (hp 10 (by decide)).2; simp only [mkM, maskCK, mixM, Nat.reduceAdd, e13, e10] at hK ⊢; clear e13 e10; simp only [Act.put, List.setIfInBounds_toArray, List.set_cons_zero, List.set_cons_succ] at hK; go_simp; go_at_call 17; refine (refs10_any pa len pc xs _ (HNX.out.below (BB.step hbR hbb)) HLX.out.1 hpc (by omega) HXNB.out).mono ?_; rintro e w7 ⟨z, rfl, hz, hb⟩; go_wp2_with fail; exact hK.out _ _ (BB.step hbb hb) (GF.below hb) hz
        refine StepsM.cons (fun l g' wu hB hl hn hp K hK => ?_) ?_
        · have e10 : g' 116 = .bool true := (hp 10 (by decide)).2; simp only [mkM, maskCK, mixM, Nat.reduceAdd, e10] at hK ⊢; clear e10; simp only [Act.put, List.setIfInBounds_toArray, List.set_cons_zero, List.set_cons_succ] at hK; go_simp; exact hK.out _ _ hB GF.same rfl
        refine StepsM.cons (fun l g' wu hB hl hn hp K hK => ?_) ?_
        · have hbb := hB; have e15 : g' 121 = .slice ma len mc := (hp 15 (by decide)).2; have e10 : g' 116 = .bool true := (hp 10 (by decide)).2; simp only [mkM, maskCK, mixM, Nat.reduceAdd, e15, e10] at hK ⊢; clear e15 e10; simp only [Act.put, List.setIfInBounds_toArray, List.set_cons_zero, List.set_cons_succ] at hK; go_simp; go_at_call 17; refine (refs10_any ma len mc ys _ (HNY.out.below (BB.step hbR hbb)) HLX.out.2 hmc (by omega) HYNB.out).mono ?_; rintro e w7 ⟨z, rfl, hz, hb⟩; go_wp2_with fail; exact hK.out _ _ (BB.step hbb hb) (GF.below hb) hz
        refine StepsM.cons (fun l g' wu hB hl hn hp K hK => ?_) ?_
        · have e10 : g' 116 = .bool true := (hp 10 (by decide)).2; simp only [mkM, maskCK, mixM, Nat.reduceAdd, e10] at hK ⊢; clear e10; simp only [Act.put, List.setIfInBounds_toArray, List.set_cons_zero, List.set_cons_succ] at hK; go_simp; exact hK.out _ _ hB GF.same rfl
        refine StepsM.cons (fun l g' wu hB hl hn hp K hK => ?_) ?_
        · have hbb := hB; have e12 : g' 118 = .agg #[.slice ra rl rc, .slice qa ql qc, .slice ga gl gc, .slice ja jl jc] := (hp 12 (by decide)).2; have h14 : BRow wu (g' 120) xs := (hp 14 (by decide)).2; have h16 : BRow wu (g' 122) ys := (hp 16 (by decide)).2; have e17 : g' 123 = yv := (hp 17 (by decide)).2; have e10 : g' 116 = .bool true := (hp 10 (by decide)).2; obtain ⟨ua, uc, ez, hcu⟩ := id h16.form; rw [HLX.out.2] at ez hcu; rw [ez] at h16; simp only [mkM, maskCK, mixM, Nat.reduceAdd, e12, e17, e10, ez] at hK ⊢; clear e12 e17 e10; simp only [Act.put, List.setIfInBounds_toArray, List.set_cons_zero, List.set_cons_succ] at hK; go_simp; go_at_call 22; refine (bjoinexp10_any _ _ ua len uc _ (gP k) (gQ k) (gG k) (gH k) x xs ys _ (HBG.out _ (BB.step hbR hbb)) h14 h16 (HYV.out.below hbb) (gQ_prime k) (gQ_len' k) (gP_one k) (gP_len k) HD.out HLX.out.1 HLX.out.2 HYL.out (by omega) (by omega)).mono ?_; rintro e w7 ⟨z, rfl, hz, hb⟩; go_wp2_with fail; exact hK.out _ _ (BB.step hbb hb) (GF.below hb) hz
        refine StepsM.cons (fun l g' wu hB hl hn hp K hK => ?_) ?_
        · have hbb := hB; have e11 : g' 117 = .agg #[.slice b1 b2 b3] := (hp 11 (by decide)).2; have h18 : BN wu (g' 124) (wprod (gP k) ys (wts (gQ k) xs x) len) := (hp 18 (by decide)).2; have e10 : g' 116 = .bool true := (hp 10 (by decide)).2; simp only [mkM, maskCK, mixM, Nat.reduceAdd, e11, e10] at hK ⊢; clear e11 e10; simp only [Act.put, List.setIfInBounds_toArray, List.set_cons_zero, List.set_cons_succ] at hK; go_simp; go_at_call 20; refine (same_any b1 b2 b3 (wprod (gP k) ys (wts (gQ k) xs x) len) _ (wprod (gP k) ys (wts (gQ k) xs x) len) _ (HZB.out.below hbb) h18).mono ?_; rw [show decide (wprod (gP k) ys (wts (gQ k) xs x) len = wprod (gP k) ys (wts (gQ k) xs x) len) = true from decide_eq_true rfl]; rintro e w7 ⟨rfl, hb⟩; go_wp2_with fail; exact hK.out _ _ (BB.step hbb hb) (GF.below hb) rfl
        refine StepsM.cons (fun l g' wu hB hl hn hp K hK => ?_) ?_
        · have e10 : g' 116 = .bool true := (hp 10 (by decide)).2; have e19 : g' 125 = .bool true := (hp 19 (by decide)).2; simp only [mkM, maskCK, mixM, Nat.reduceAdd, e10, e19] at hK ⊢; clear e10 e19; simp only [Act.put, List.setIfInBounds_toArray, List.set_cons_zero, List.set_cons_succ] at hK; go_simp; exact hK.out _ _ hB GF.same rfl
        refine StepsM.cons (fun l g' wu hB hl hn hp K hK => ?_) ?_
        · have e20 : g' 126 = .bool true := (hp 20 (by decide)).2; simp only [mkM, maskCK, mixM, Nat.reduceAdd, e20] at hK ⊢; clear e20; simp only [Act.put, List.setIfInBounds_toArray, List.set_cons_zero, List.set_cons_succ] at hK; go_simp; exact hK.out _ _ hB GF.same rfl
        refine StepsM.cons (fun l g' wu hB hl hn hp K hK => ?_) ?_
        · have e21 : g' 127 = .bool true := (hp 21 (by decide)).2; simp only [mkM, maskCK, mixM, Nat.reduceAdd, e21] at hK ⊢; clear e21; simp only [Act.put, List.setIfInBounds_toArray, List.set_cons_zero, List.set_cons_succ] at hK; go_simp; exact hK.out _ _ hB GF.same rfl
        refine StepsM.cons (fun l g' wu hB hl hn hp K hK => ?_) ?_
        · have e22 : g' 128 = .slice va len vc := (hp 22 (by decide)).2; have e21 : g' 127 = .bool true := (hp 21 (by decide)).2; simp only [mkM, maskCK, mixM, Nat.reduceAdd, e22, e21] at hK ⊢; clear e22 e21; simp only [Act.put, List.setIfInBounds_toArray, List.set_cons_zero, List.set_cons_succ] at hK; go_simp; exact hK.out _ _ hB GF.same rfl
        refine StepsM.cons (fun l g' wu hB hl hn hp K hK => ?_) ?_
        · have e21 : g' 127 = .bool true := (hp 21 (by decide)).2; simp only [mkM, maskCK, mixM, Nat.reduceAdd, e21] at hK ⊢; clear e21; simp only [Act.put, List.setIfInBounds_toArray, List.set_cons_zero, List.set_cons_succ] at hK; go_simp; exact hK.out _ _ hB GF.same rfl
        refine StepsM.cons (fun l g' wu hB hl hn hp K hK => ?_) ?_
        · have e24 : g' 130 = .slice pa len pc := (hp 24 (by decide)).2; have e21 : g' 127 = .bool true := (hp 21 (by decide)).2; simp only [mkM, maskCK, mixM, Nat.reduceAdd, e24, e21] at hK ⊢; clear e24 e21; simp only [Act.put, List.setIfInBounds_toArray, List.set_cons_zero, List.set_cons_succ] at hK; go_simp; exact hK.out _ _ hB GF.same rfl
        refine StepsM.cons (fun l g' wu hB hl hn hp K hK => ?_) ?_
        · have e23 : g' 129 = .int .i64 (len : Int) := (hp 23 (by decide)).2; have e25 : g' 131 = .int .i64 (len : Int) := (hp 25 (by decide)).2; have e21 : g' 127 = .bool true := (hp 21 (by decide)).2; simp only [mkM, maskCK, mixM, Nat.reduceAdd, e23, e25, e21] at hK ⊢; clear e23 e25 e21; simp only [Act.put, List.setIfInBounds_toArray, List.set_cons_zero, List.set_cons_succ] at hK; go_simp; exact hK.out _ _ hB GF.same rfl
        refine StepsM.cons (fun l g' wu hB hl hn hp K hK => ?_) ?_
        · have e21 : g' 127 = .bool true := (hp 21 (by decide)).2; have e26 : g' 132 = .bool true := (hp 26 (by decide)).2; simp only [mkM, maskCK, mixM, Nat.reduceAdd, e21, e26] at hK ⊢; clear e21 e26; simp only [Act.put, List.setIfInBounds_toArray, List.set_cons_zero, List.set_cons_succ] at hK; go_simp; exact hK.out _ _ hB GF.same rfl
        refine StepsM.cons (fun l g' wu hB hl hn hp K hK => ?_) ?_
        · have e27 : g' 133 = .bool true := (hp 27 (by decide)).2; simp only [mkM, maskCK, mixM, Nat.reduceAdd, e27] at hK ⊢; clear e27; simp only [Act.put, List.setIfInBounds_toArray, List.set_cons_zero, List.set_cons_succ] at hK; go_simp; exact hK.out _ _ hB GF.same rfl
        exact StepsM.nil
      · intro l g' wu hall hB hG
        have e28 : g' 8 = .bool true := hG 28 (by decide)
        simp only [mkM, maskCK, mixM, Nat.reduceAdd, e28]
        have HBE := Lib.hid (HBR.out.trans (Below.mono hB HBR.out.size))
        clear hG hall hB e28
        go_wp2_with fail
        go_ret
        exact ⟨rfl, HBE.out⟩
    · have HZA2 : Hid (NatS w11 a1 a2 0) := by have h := HZA1.out.below hbb11; rw [if_neg hE0] at h; exact h
      have HZB2 : Hid (NatS w11 b1 b2 0) := by have h := HZB1.out.below hbb11; rw [if_neg hE0] at h; exact h
      have HB11 := Lib.hid (HB10.out.trans (Below.mono hbb11 HB10.out.size))
      have cA := kA0 w11 hbb11
      have hlv0 : lv = 0 := by rw [← HLV.out, if_neg hE0]
      subst hlv0
      go_wp2_with fail
      refine (zero_s a1 a2 a3 0 w11 HZA2.out).mono ?_
      rintro e w12 ⟨rfl, hb12⟩
      have cB := kB0 w12 (BB.step hbb11 hb12)
      have HZB3 := Lib.hid (HZB2.out.below hb12)
      have HB12 := Lib.hid (HB11.out.trans (hb12.mono HB11.out.size))
      clear hb12
      go_wp2_with fail
      refine (zero_s b1 b2 b3 0 w12 HZB3.out).mono ?_
      rintro e w13 ⟨rfl, hb13⟩
      have HB13 := Lib.hid (HB12.out.trans (hb13.mono HB12.out.size))
      clear hb13
      go_wp2_with fail
      go_ret
      exact ⟨rfl, HB13.out⟩

/-- The same, as the frame asks it. -/
theorem cjoins_walk (a0 : Int) (a1 : Option Addr) (len1 cap1 : Nat) (z1 : List Int) (a2 : Option Addr) (len2 cap2 : Nat) (z2 : List Int) (a3 : Int) (w : World)
    (w1 : (a1 = none ∧ len1 = 0 ∧ cap1 = 0 ∧ z1 = []) ∨ ∃ x, a1 = some x ∧ len1 ≤ cap1 ∧ cap1 ≤ maxLen ∧ z1.length = cap1 ∧ (∀ i, i < z1.length → w.cell? (x.add i) = some (.int .u64 (z1.getD i 0))) ∧ ∀ n ∈ z1, (Lit.int .u64 n).wf = true)
    (w2 : (a2 = none ∧ len2 = 0 ∧ cap2 = 0 ∧ z2 = []) ∨ ∃ x, a2 = some x ∧ len2 ≤ cap2 ∧ cap2 ≤ maxLen ∧ z2.length = cap2 ∧ (∀ i, i < z2.length → w.cell? (x.add i) = some (.int .u64 (z2.getD i 0))) ∧ ∀ n ∈ z2, (Lit.int .u64 n).wf = true)
    (w3 : (Lit.int .u64 a3).wf = true) :
    Calls Tryz.prog 3 #[.int .i64 a0, .slice a1 len1 cap1, .slice a2 len2 cap2, .int .u64 a3] w fun e w' => e = .returned (.bool true) ∧ Below w.heap.size w w' := by
  obtain ⟨l, h1, h2, h3, h4⟩ := words_in w1
  obtain ⟨m, k1, k2, k3, k4⟩ := words_in w2
  obtain ⟨x, rfl, hx⟩ := word_in w3
  exact cjoins_any a0 a1 len1 cap1 l a2 len2 cap2 m x w h1 h2 h3 h4 k1 k2 k3 k4 hx
end Go.Proofs.YthefednendgclaaGreat
