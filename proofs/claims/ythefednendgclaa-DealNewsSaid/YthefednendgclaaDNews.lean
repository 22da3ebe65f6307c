/-
  The law DealNews: it returns true.
-/
import Derived.Test.YthefednendgclaaRefN
import Derived.Test.YthefednendgclaaLaw14
import Derived.Test.YthefednendgclaaRefK
set_option linter.unusedVariables false
set_option linter.unusedSimpArgs false
namespace Go.Proofs.Ythefednendgclaa
open Go Go.RowKit Sac NT

/-- The document's dealing, made or refused. -/
def RetDE (V M : List Nat) (er : Int) (w : World) (e : Ending) (w' : World) : Prop := ∃ x y, e = .returned (.tuple #[.agg #[x, y], .int .i64 er]) ∧ BRow w' x V ∧ BRow w' y M ∧ Below w.heap.size w w'
def KpT (B0 : Nat) (w w' : World) : Prop := KT B0 86 w w' ∧ ∀ D x y, Blk w D 86 [x, y] → ∃ x' y', Blk w' D 86 [x', y']
theorem BN.kt {B0 : Nat} {T : TypeId} {w w' : World} {v : Value} {n : Nat} (hne : 4 ≠ T) (h : BN w v n) (k : KT B0 T w w') : BN w' v n := h.same fun _ hg => k.ety hne hg
theorem BRow.kt {B0 : Nat} {T : TypeId} {w w' : World} {v : Value} {ns : List Nat} (h1 : 4 ≠ T) (h2 : 48 ≠ T) (h : BRow w v ns) (k : KT B0 T w w') : BRow w' v ns := by
  obtain ⟨a, cap, e, hc, hm, hg⟩ := h
  refine ⟨a, cap, e, hc, hm, fun j hj => ?_⟩
  obtain ⟨ad, za, zl, zc, ea, he, hcell, hn⟩ := hg j hj
  have hs := k.ety h2 he
  refine ⟨ad, za, zl, zc, ea, ?_, ?_, hn.kt h1 k⟩
  · obtain ⟨cs, fr, h⟩ := he
    exact ⟨cs, fr, hs.trans h⟩
  · rw [← hcell]
    unfold World.cell?
    rw [show (ad.add j).block = ad.block from block_add _ _, hs]
theorem BRow.sl {w : World} {v : Value} {ns : List Nat} (h : BRow w v ns) : ∃ a l c, v = .slice a l c := by
  obtain ⟨a, c, e, _⟩ := h.form
  exact ⟨a, _, c, e⟩
theorem NRow.kt {B0 : Nat} {T : TypeId} {w w' : World} {v : Value} {ns : List Nat} (h1 : 33 ≠ T) (h2 : 130 ≠ T) (h : NRow w v ns) (k : KT B0 T w w') : NRow w' v ns := by
  obtain ⟨a, cap, e, hc, hg⟩ := h
  exact ⟨a, cap, e, hc, hg.kt h1 h2 k⟩
section
variable {B0 : Nat}
def Fk.tbn (n : Nat) : Fk (KpT B0) := ⟨fun v w => BN w v n, fun _ _ _ hb h => h.below hb, true, fun _ _ _ _ k h => h.kt (by decide) k.1⟩
def Fk.tbrow (ns : List Nat) : Fk (KpT B0) := ⟨fun v w => BRow w v ns, fun _ _ _ hb h => h.below hb, true, fun _ _ _ _ k h => h.kt (by decide) (by decide) k.1⟩
def Fk.tnrow (ns : List Nat) : Fk (KpT B0) := ⟨fun v w => NRow w v ns, fun _ _ _ hb h => h.below hb, true, fun _ _ _ _ k h => h.kt (by decide) (by decide) k.1⟩
def IsDE (V M : List Nat) (er : Int) (v : Value) (w : World) : Prop := ∃ x y, v = .tuple #[.agg #[x, y], .int .i64 er] ∧ BRow w x V ∧ BRow w y M
def Fk.de (V M : List Nat) (er : Int) : Fk (KpT B0) := ⟨IsDE V M er, fun _ _ _ hb ⟨x, y, e, h1, h2⟩ => ⟨x, y, e, h1.below hb, h2.below hb⟩, true, fun _ _ _ _ k ⟨x, y, e, h1, h2⟩ => ⟨x, y, e, h1.kt (by decide) (by decide) k.1, h2.kt (by decide) (by decide) k.1⟩⟩
def IsDA (V M : List Nat) (v : Value) (w : World) : Prop := ∃ x y, v = .agg #[x, y] ∧ BRow w x V ∧ BRow w y M
def Fk.da (V M : List Nat) : Fk (KpT B0) := ⟨IsDA V M, fun _ _ _ hb ⟨x, y, e, h1, h2⟩ => ⟨x, y, e, h1.below hb, h2.below hb⟩, true, fun _ _ _ _ k ⟨x, y, e, h1, h2⟩ => ⟨x, y, e, h1.kt (by decide) (by decide) k.1, h2.kt (by decide) (by decide) k.1⟩⟩
def IsDP (B0 : Nat) (v : Value) (w : World) : Prop := ∃ D x y, v = .pointer (some ⟨D, 0, none⟩) ∧ B0 ≤ D ∧ Blk w D 86 [x, y]
def Fk.dp : Fk (KpT B0) := ⟨IsDP B0, fun _ _ _ hb ⟨D, x, y, e, h1, h2⟩ => ⟨D, x, y, e, h1, h2.below hb h2.lt⟩, true, fun _ _ _ _ k ⟨D, x, y, e, h1, h2⟩ => by
  obtain ⟨x', y', h3⟩ := k.2 D x y h2
  exact ⟨D, x', y', e, h1, h3⟩⟩
end
theorem kt_trans {B : Nat} {T : TypeId} {a b c : World} (h : KT B T a b) (k : KT B T b c) : KT B T a c := ⟨Nat.le_trans h.size k.size, fun i hi => (k.low i hi).trans (h.low i hi), fun i hi hn => by
  have e := h.high i hi hn
  exact (k.high i (Nat.lt_of_lt_of_le hi h.size) (by rw [e]; exact hn)).trans e⟩
theorem KpT.store {B0 D : Nat} {w : World} {a b u v : Value} (hB : Blk w D 86 [a, b]) (hD : B0 ≤ D) : KpT B0 w ((w.setCell ⟨D, 0, none⟩ u).setCell ⟨D, 1, none⟩ v) := by
  refine ⟨kt_trans (KT.set hB hD 0 u) (KT.set (hB.set 0 u) hD 1 v), fun D' x y h => ?_⟩
  by_cases e : D' = D
  · subst e
    exact ⟨u, v, (hB.set 0 u).set 1 v⟩
  · exact ⟨x, y, (h.other ⟨D, 0, none⟩ u e).other ⟨D, 1, none⟩ v e⟩
/-- The dealing's block, filled. -/
def DV (B0 : Nat) (V M : List Nat) (v : Value) (w : World) : Prop := ∃ D x y, v = .pointer (some ⟨D, 0, none⟩) ∧ B0 ≤ D ∧ Blk w D 86 [x, y] ∧ BRow w x V ∧ BRow w y M
theorem dvF_lt {q S i : Nat} {l : List Nat} (hq : 0 < q) : ∀ a ∈ dvF q S l i, a < q := by
  intro a ha
  unfold dvF at ha
  rcases List.mem_cons.1 ha with rfl | ha
  · exact Nat.mod_lt _ hq
  · obtain ⟨b, _, rfl⟩ := List.mem_map.1 ha
    exact Nat.mod_lt _ hq
def tabDW (B0 : Nat) (v0 v1 v2 v4 v6 : Value) (x y : Nat) (xs V M : List Nat) (er : Int) : List (Fk (KpT B0)) := [.val v0, .val v1, .val v2, Fk.tbn x, .val v4, Fk.tbn y, .val v6, Fk.tnrow xs, Fk.tbrow xs, Fk.de V M er, Fk.de V M er, Fk.da V M, .val (.int .i64 er), Fk.dp, .any, .val (.int .i64 er)]
def dstDW : List (Option Tmp) := [some 67, some 68, some 69, some 70, some 71, some 72, some 73, some 74, some 75, some 76, some 66, some 77, some 78, some 17, none, some 18]
def preDW : List (List Nat) := [[], [], [], [2], [], [2, 3, 4], [], [2, 3, 4, 5, 6], [2, 3, 4, 5, 6, 7], [0, 1, 2, 3, 4, 5, 6, 7, 8], [0, 1, 2, 3, 4, 5, 6, 7, 8, 9], [0, 1, 2, 3, 4, 5, 6, 7, 8, 9, 10], [0, 1, 2, 3, 4, 5, 6, 7, 8, 9, 10], [], [0, 1, 2, 3, 4, 5, 6, 7, 8, 9, 10, 11, 13], [0, 1, 2, 3, 4, 5, 6, 7, 8, 9, 10, 11, 12, 13, 14]]
def maskDW : List Bool := [false, false, false, false, false, false, false, false, false, false, false, false, false, false, false, false, false, true, true, false, false, false, false, false, false, false, false, false, false, false, false, false, false, false, false, false, false, false, false, false, false, false, false, false, false, false, false, false, false, false, false, false, false, false, false, false, false, false, false, false, false, false, false, false, false, false, true, true, true, true, true, true, true, true, true, true, true, true, true, false, false, false, false, false, false, false, false, false, false, false, false, false, false, false, false, false, false, false, false, false, false, false, false, false, false, false, false, false, false, false, false, false, false, false, false, false, false, false, false, false, false, false, false, false, false, false, false, false, false, false, false, false, false, false, false, false, false, false, false, false, false, false, false, false, false, false, false, false, false, false, false, false, false, false, false, false, false, false, false, false, false, false, false, false, false, false, false, false, false, false, false, false, false, false, false, false, false, false, false, false, false, false, false, false, false, false, false]
def tabN21 (v0 : Value) (v1 : Value) (v2 : Value) (v3 : Value) (v4 : Value) (v5 : Value) (v6 : Value) (v7 : Value) (v8 : Value) (v9 : Value) (v10 : Value) (v11 : Value) (v12 : Value) (v13 : Value) (v14 : Value) (v15 : Value) (v16 : Value) (v17 : Value) (v18 : Value) (v19 : Value) (v20 : Value) (v21 : Value) (v22 : Value) (v23 : Value) (v24 : Value) (v25 : Value) : List (Fk KpN) := [.val v0, .val v1, .val v2, .val v3, .val v4, .val v5, .val v6, .val v7, .val v8, .val v9, .val v10, .val v11, .val v12, .val v13, .val v14, .val v15, .val v16, .val v17, .val v18, .val v19, .val v20, .val v21, .val v22, .val v23, .val v24, .val v25]
def dstN21 : List (Option Tmp) := [some 150, some 151, some 152, some 153, some 154, some 155, some 156, some 157, some 158, some 159, some 160, some 161, some 162, some 163, some 164, some 165, some 166, some 167, some 168, some 169, some 170, some 171, some 172, some 173, some 174, some 175]
def preN21 : List (List Nat) := [[], [0], [], [0, 1, 2], [0, 1, 2, 3], [], [5], [], [5, 6, 7], [5, 6, 7, 8], [0, 1, 2, 3, 4, 5, 6, 7, 8, 9], [0, 1, 2, 3, 4, 5, 6, 7, 8, 9, 10], [0, 1, 2, 3, 4, 5, 6, 7, 8, 9, 10, 11], [0, 1, 2, 3, 4, 5, 6, 7, 8, 9, 10, 11, 12], [0, 1, 2, 3, 4, 5, 6, 7, 8, 9, 10, 11, 12, 13], [0, 1, 2, 3, 4, 5, 6, 7, 8, 9, 10, 11, 12], [0, 1, 2, 3, 4, 5, 6, 7, 8, 9, 10, 11, 12, 13, 14, 15], [0, 1, 2, 3, 4, 5, 6, 7, 8, 9, 10, 11, 12, 13, 14, 15, 16], [0, 1, 2, 3, 4, 5, 6, 7, 8, 9, 10, 11, 12], [0, 1, 2, 3, 4, 5, 6, 7, 8, 9, 10, 11, 12, 18], [0, 1, 2, 3, 4, 5, 6, 7, 8, 9, 10, 11, 12], [0, 1, 2, 3, 4, 5, 6, 7, 8, 9, 10, 11, 12, 18, 19, 20], [0, 1, 2, 3, 4, 5, 6, 7, 8, 9, 10, 11, 12, 18, 19, 20, 21], [0, 1, 2, 3, 4, 5, 6, 7, 8, 9, 10, 11, 12, 13, 14, 15, 16, 17, 18, 19, 20, 21, 22], [0, 1, 2, 3, 4, 5, 6, 7, 8, 9, 10, 11, 12, 13, 14, 15, 16, 17, 18, 19, 20, 21, 22, 23], [0, 1, 2, 3, 4, 5, 6, 7, 8, 9, 10, 11, 12, 13, 14, 15, 16, 17, 18, 19, 20, 21, 22, 23, 24]]
def maskN21 : List Bool := [false, false, false, false, false, false, false, false, false, false, false, false, false, false, false, false, false, false, false, false, false, false, false, false, false, false, false, false, false, false, false, false, false, false, false, false, false, false, false, false, false, false, false, false, false, false, false, false, false, false, false, false, false, false, false, false, false, false, false, false, false, false, false, false, false, false, false, false, false, false, false, false, false, false, false, false, false, false, false, false, false, false, false, false, false, false, false, false, false, false, false, false, false, false, false, false, false, false, false, false, false, false, false, false, false, false, false, false, false, false, false, false, false, false, false, false, false, false, false, false, false, false, false, false, false, false, false, false, false, false, false, false, false, false, false, false, false, false, false, false, false, false, false, false, false, false, false, false, false, false, true, true, true, true, true, true, true, true, true, true, true, true, true, true, true, true, true, true, true, true, true, true, true, true, true, true, false, false, false, false, false, false, false, false, false, false, false]
def tabN24 (v0 : Value) (v1 : Value) (v2 : Value) (v3 : Value) (v4 : Value) (v5 : Value) (v6 : Value) (p7 : Fk KpN) (v8 : Value) (v9 : Value) (v10 : Value) : List (Fk KpN) := [.val v0, .val v1, .val v2, .val v3, .val v4, .val v5, .val v6, p7, .val v8, .val v9, .val v10]
def dstN24 : List (Option Tmp) := [some 177, some 178, some 179, some 180, some 181, some 182, some 183, some 184, some 185, some 186, some 12]
def preN24 : List (List Nat) := [[], [0], [0, 1], [0, 1, 2], [0, 1, 2], [0, 1, 2], [0, 1, 2], [0, 1, 2, 4, 5, 6], [0, 1, 2, 3, 4, 5, 6, 7], [0, 1, 2, 3, 4, 5, 6, 7, 8], [0, 1, 2, 3, 4, 5, 6, 7, 8, 9]]
def maskN24 : List Bool := [false, false, false, false, false, false, false, false, false, false, false, false, true, false, false, false, false, false, false, false, false, false, false, false, false, false, false, false, false, false, false, false, false, false, false, false, false, false, false, false, false, false, false, false, false, false, false, false, false, false, false, false, false, false, false, false, false, false, false, false, false, false, false, false, false, false, false, false, false, false, false, false, false, false, false, false, false, false, false, false, false, false, false, false, false, false, false, false, false, false, false, false, false, false, false, false, false, false, false, false, false, false, false, false, false, false, false, false, false, false, false, false, false, false, false, false, false, false, false, false, false, false, false, false, false, false, false, false, false, false, false, false, false, false, false, false, false, false, false, false, false, false, false, false, false, false, false, false, false, false, false, false, false, false, false, false, false, false, false, false, false, false, false, false, false, false, false, false, false, false, false, false, false, false, false, false, false, true, true, true, true, true, true, true, true, true, true]

set_option maxRecDepth 100000 in
set_option maxHeartbeats 8000000 in
theorem dnews_any (n t : Int) (x y : Nat) (a : Option Addr) (len cap : Nat) (xs : List Nat) (peer : Int) (w : World)
    (ha : RdC w a (xs.map w64)) (hl : xs.length = len) (hc : (len : Int) ≤ cap) (hx : ∀ y ∈ xs, y < 18446744073709551616) (hxx : x < 18446744073709551616) (hyy : y < 18446744073709551616) :
    Calls Try.prog 10 #[.int .i64 n, .int .i64 t, .int .u64 (x : Int), .int .u64 (y : Int), .slice a len cap, .int .i64 peer] w fun e w' => e = .returned (.bool true) ∧ Below w.heap.size w w' := by
  have HA := Lib.hid (And.intro ha (And.intro hl (And.intro hc hx)))
  have HXX := Lib.hid (And.intro hxx hyy)
  have HANB : Hid (∀ y ∈ xs, nbytes y ≤ 120) := fun y hy => nb_64 (hx y hy)
  clear ha hl hc hx hxx hyy
  by_cases h8 : (12 : Int) < (len : Int)
  · go_enter Try.func10, Try.ntmps10
    go_wp2_with fail
    refine (lives14_any w).mono ?_
    rintro e w2 ⟨rfl, hb2⟩
    have HB2 := Lib.hid hb2
    clear hb2
    go_wp2_with fail
    refine (lives14_any w2).mono ?_
    rintro e w3 ⟨rfl, hb3⟩
    have HB3 := Lib.hid (HB2.out.trans (hb3.mono HB2.out.size))
    clear hb3
    go_wp2_with fail
    go_ret
    exact ⟨rfl, HB3.out⟩
  obtain ⟨k, hk⟩ : ∃ k, kOf n = k := ⟨_, rfl⟩
  have HK := Lib.hid hk
  clear hk
  go_enter Try.func10, Try.ntmps10
  go_wp2_with fail
  refine (lives14_any w).mono ?_
  rintro e w2 ⟨rfl, hb2⟩
  have HB2 := Lib.hid hb2
  clear hb2
  go_wp2_with fail
  refine (group_any n w2).mono ?_
  rintro e w3 ⟨g, rfl, hg, hb3⟩
  rw [HK.out] at hg
  have HG3 : Hid (GroupAt w3 g (gP k) (gQ k) (gG k) (gH k) (gS k)) := hg
  have HB3 := Lib.hid (HB2.out.trans (hb3.mono HB2.out.size))
  clear hb3 hg HB2
  go_wp2_with fail
  refine (bref_any g (gP k) (gQ k) (gG k) (gH k) (gS k) w3 HG3.out (gP_nb k) (gQ_nb k) (gG_nb k) (gH_nb k)).mono ?_
  rintro e w4 ⟨gv, rfl, hgv, hb4⟩
  have HG4 := Lib.hid (HG3.out.below hb4)
  have HB4 := Lib.hid (HB3.out.trans (hb4.mono HB3.out.size))
  obtain ⟨ra, rl, rc, qa, ql, qc, ga, gl, gc, ja, jl, jc, rfl, h1, h2, h3, h4⟩ := hgv
  have HV4 := Lib.hid (And.intro h1 (And.intro h2 (And.intro h3 h4)))
  clear hb4 h1 h2 h3 h4 HB3 HG3
  go_wp2_with fail
  have hbel := (Below.refl _ w4).alloc (Nat.le_refl _) (Obj.cells #[Value.slice ra rl rc, Value.slice qa ql qc, Value.slice ga gl gc, Value.slice ja jl jc] 62)
  obtain ⟨B, hBs⟩ : ∃ B, B = w4.heap.size := ⟨_, rfl⟩
  have hblk : Blk (w4.alloc (Obj.cells #[Value.slice ra rl rc, Value.slice qa ql qc, Value.slice ga gl gc, Value.slice ja jl jc] 62)) B 62 [.slice ra rl rc, .slice qa ql qc, .slice ga gl gc, .slice ja jl jc] := Blk.new' w4 _ _ B hBs
  rw [← hBs]
  clear hBs
  generalize w4.alloc (Obj.cells #[Value.slice ra rl rc, Value.slice qa ql qc, Value.slice ga gl gc, Value.slice ja jl jc] 62) = w5 at hblk hbel ⊢
  have HBK5 : Hid (Blk w5 B 62 [.slice ra rl rc, .slice qa ql qc, .slice ga gl gc, .slice ja jl jc]) := hblk
  have HG5 := Lib.hid (HG4.out.below hbel)
  have HB5 := Lib.hid (HB4.out.trans (hbel.mono HB4.out.size))
  have HV5 := Lib.hid (And.intro (HV4.out.1.below hbel) (And.intro (HV4.out.2.1.below hbel) (And.intro (HV4.out.2.2.1.below hbel) (HV4.out.2.2.2.below hbel))))
  clear hblk hbel HG4 HB4 HV4
  refine (new_s x w5 HXX.out.1).mono ?_
  rintro e w6 ⟨sa, sl, sc, rfl, hs, hb6⟩
  have HS6 := Lib.hid hs
  have hbb6 : BB w5 w6 := hb6
  clear hs hb6
  go_wp2_with fail
  refine (new_s y w6 HXX.out.2).mono ?_
  rintro e w7 ⟨ua, ul, uc, rfl, hu, hb7⟩
  have HU7 := Lib.hid hu
  have HS7 := Lib.hid (HS6.out.below hb7)
  have hbb7 : BB w5 w7 := BB.step hbb6 hb7
  clear hu hb7 HS6 hbb6
  go_wp2_with fail
  refine (nums_any a len cap xs w7 ((HA.out.1.below HB5.out).below hbb7) HA.out.2.1 HA.out.2.2.1 (by omega) HA.out.2.2.2).mono ?_
  rintro e w8 ⟨v, rfl, hrow, hb8⟩
  obtain ⟨pa, pc, rfl, hp1, _, hat, _⟩ := hrow.form
  rw [HA.out.2.1] at hp1 ⊢
  have HN8 := Lib.hid hat
  have HU8 := Lib.hid (HU7.out.below hb8)
  have HS8 := Lib.hid (HS7.out.below hb8)
  have hpc : (len : Int) ≤ pc := by omega
  have hbb8 : BB w5 w8 := BB.step hbb7 hb8
  have HG8 := Lib.hid (HG5.out.below hbb8)
  clear hrow hat hb8 hp1 hbb7 HU7 HS7 HG5
  go_wp2_with fail
  by_cases ht : t < 1 ∨ 64 < t
  · refine (dnew_arg g t sa sl sc ua ul uc pa len pc w8 ht).mono ?_
    rintro e w9 ⟨rfl, hb9⟩
    have HB9 := Lib.hid (HB5.out.trans (Below.mono (BB.step hbb8 hb9) HB5.out.size))
    clear hb9
    go_wp2_with fail
    all_goals (
      go_ret
      exact ⟨rfl, HB9.out.trans (((Below.refl _ w9).alloc (Nat.le_refl _) _).mono HB9.out.size)⟩)
  obtain ⟨T, hT⟩ : ∃ T : Nat, t = (T : Int) := ⟨t.toNat, by omega⟩
  subst hT
  by_cases hf : (len : Int) < 2 * (T : Int) - 2
  · refine (dnew_few g (T : Int) sa sl sc ua ul uc pa len pc w8 (by omega) (by omega) hf).mono ?_
    rintro e w9 ⟨rfl, hb9⟩
    have hbb9 : BB w5 w9 := BB.step hbb8 hb9
    clear hb9
    go_wp2_with fail
    have HNEW : Hid (∀ (wx : World) (gx sx ux rx : Value), BG wx gx (gP k) (gQ k) (gG k) (gH k) → BN wx sx x → BN wx ux y → BRow wx rx xs → Calls Try.prog 61 #[gx, .int .i64 (T : Int), sx, ux, rx] wx (RetDE ([]) ([]) 10 wx)) := fun wx gx sx ux rx h1 h2 h3 h4 => by
      obtain ⟨fa, fc, rfl, hfc⟩ := h4.form
      rw [HA.out.2.1] at hfc h4 ⊢
      exact (bdnew_few gx sx ux _ _ _ _ T fa len fc wx h1 (by omega) (by omega) (by omega) (by omega)).mono fun e w' ⟨h5, h6⟩ => ⟨_, _, h5, (OwnN.nil w' 0).row, (OwnN.nil w' 0).row, h6⟩
    obtain ⟨Dd, hDd⟩ : ∃ Dd, Dd = w9.heap.size := ⟨_, rfl⟩
    have hbd := (Below.refl _ w9).alloc (Nat.le_refl _) (Obj.cells #[.slice none 0 0, .slice none 0 0] 82)
    have hBd : Blk (w9.alloc (Obj.cells #[.slice none 0 0, .slice none 0 0] 82)) Dd 82 [.slice none 0 0, .slice none 0 0] := Blk.new' w9 _ _ Dd hDd
    rw [← hDd]
    clear hDd
    generalize w9.alloc (Obj.cells #[.slice none 0 0, .slice none 0 0] 82) = w10 at hbd hBd ⊢
    have HBd := Lib.hid hBd
    have hbb10 : BB w5 w10 := BB.step hbb9 hbd
    have HB10 := Lib.hid (HB5.out.trans (Below.mono hbb10 HB5.out.size))
    have hBK := HBK5.out.below hbb10 HBK5.out.lt
    have kP : ∀ w', BB w10 w' → w'.cell? ⟨B, 0, none⟩ = some (.slice ra rl rc) := fun w' hb => (BB.cell hb hBK.lt).trans (hBK.cell 0)
    have kQ : ∀ w', BB w10 w' → w'.cell? ⟨B, 1, none⟩ = some (.slice qa ql qc) := fun w' hb => (BB.cell hb hBK.lt).trans (hBK.cell 1)
    have kG : ∀ w', BB w10 w' → w'.cell? ⟨B, 2, none⟩ = some (.slice ga gl gc) := fun w' hb => (BB.cell hb hBK.lt).trans (hBK.cell 2)
    have kH : ∀ w', BB w10 w' → w'.cell? ⟨B, 3, none⟩ = some (.slice ja jl jc) := fun w' hb => (BB.cell hb hBK.lt).trans (hBK.cell 3)
    have HBG : Hid (∀ w', BB w10 w' → BG w' (.agg #[.slice ra rl rc, .slice qa ql qc, .slice ga gl gc, .slice ja jl jc]) (gP k) (gQ k) (gG k) (gH k)) := fun w' h => ⟨ra, rl, rc, qa, ql, qc, ga, gl, gc, ja, jl, jc, rfl, (HV5.out.1.below hbb10).below h, (HV5.out.2.1.below hbb10).below h, (HV5.out.2.2.1.below hbb10).below h, (HV5.out.2.2.2.below hbb10).below h⟩
    refine wp_region_mixB (fun l g w' => BB w10 w' ∧ (l 14 = true → DV w10.heap.size ([]) ([]) (g 17) w')) (GF (tabDW w10.heap.size (.agg #[.slice ra rl rc, .slice qa ql qc, .slice ga gl gc, .slice ja jl jc]) (.int .i64 (T : Int)) (.int .u64 (x : Int)) (.int .u64 (y : Int)) (.slice a len cap) x y xs ([]) ([]) (10))) maskDW dstDW preDW (by kernel_rfl) (by kernel_rfl) rfl (by kernel_rfl) (by kernel_rfl) (by kernel_rfl) (by kernel_rfl) ⟨BB.drew (BB.refl _), fun h => by cases h⟩ ?_ ?_
    · refine StepsMB.cons (fun l g' wu hB hl hn hp K hK => ?_) ?_
      · have c0 := kP _ hB.1; have c1 := kQ _ hB.1; have c2 := kG _ hB.1; have c3 := kH _ hB.1; simp only [mkM, maskDW, mixM, Nat.reduceAdd] at hK ⊢; simp only [Act.put, List.setIfInBounds_toArray, List.set_cons_zero, List.set_cons_succ] at hK; go_simp; exact hK.out _ _ ⟨hB.1, fun h => by rw [setL_ne (by decide), hn 14 (by decide)] at h; cases h⟩ GF.same rfl
      refine StepsMB.cons (fun l g' wu hB hl hn hp K hK => ?_) ?_
      · simp only [mkM, maskDW, mixM, Nat.reduceAdd] at hK ⊢; simp only [Act.put, List.setIfInBounds_toArray, List.set_cons_zero, List.set_cons_succ] at hK; go_simp; exact hK.out _ _ ⟨hB.1, fun h => by rw [setL_ne (by decide), hn 14 (by decide)] at h; cases h⟩ GF.same rfl
      refine StepsMB.cons (fun l g' wu hB hl hn hp K hK => ?_) ?_
      · simp only [mkM, maskDW, mixM, Nat.reduceAdd] at hK ⊢; simp only [Act.put, List.setIfInBounds_toArray, List.set_cons_zero, List.set_cons_succ] at hK; go_simp; exact hK.out _ _ ⟨hB.1, fun h => by rw [setL_ne (by decide), hn 14 (by decide)] at h; cases h⟩ GF.same rfl
      refine StepsMB.cons (fun l g' wu hB hl hn hp K hK => ?_) ?_
      · have e2 : g' 69 = .int .u64 (x : Int) := (hp 2 (by decide)).2; simp only [mkM, maskDW, mixM, Nat.reduceAdd, e2] at hK ⊢; clear e2; simp only [Act.put, List.setIfInBounds_toArray, List.set_cons_zero, List.set_cons_succ] at hK; go_simp; go_at_call 38; refine (bsmall_any x _ HXX.out.1).mono ?_; rintro e w7 ⟨z, rfl, hz, hb⟩; go_wp2_with fail; exact hK.out _ _ ⟨BB.step hB.1 hb, fun h => by rw [setL_ne (by decide), hn 14 (by decide)] at h; cases h⟩ (GF.below hb) hz
      refine StepsMB.cons (fun l g' wu hB hl hn hp K hK => ?_) ?_
      · simp only [mkM, maskDW, mixM, Nat.reduceAdd] at hK ⊢; simp only [Act.put, List.setIfInBounds_toArray, List.set_cons_zero, List.set_cons_succ] at hK; go_simp; exact hK.out _ _ ⟨hB.1, fun h => by rw [setL_ne (by decide), hn 14 (by decide)] at h; cases h⟩ GF.same rfl
      refine StepsMB.cons (fun l g' wu hB hl hn hp K hK => ?_) ?_
      · have e4 : g' 71 = .int .u64 (y : Int) := (hp 4 (by decide)).2; simp only [mkM, maskDW, mixM, Nat.reduceAdd, e4] at hK ⊢; clear e4; simp only [Act.put, List.setIfInBounds_toArray, List.set_cons_zero, List.set_cons_succ] at hK; go_simp; go_at_call 38; refine (bsmall_any y _ HXX.out.2).mono ?_; rintro e w7 ⟨z, rfl, hz, hb⟩; go_wp2_with fail; exact hK.out _ _ ⟨BB.step hB.1 hb, fun h => by rw [setL_ne (by decide), hn 14 (by decide)] at h; cases h⟩ (GF.below hb) hz
      refine StepsMB.cons (fun l g' wu hB hl hn hp K hK => ?_) ?_
      · simp only [mkM, maskDW, mixM, Nat.reduceAdd] at hK ⊢; simp only [Act.put, List.setIfInBounds_toArray, List.set_cons_zero, List.set_cons_succ] at hK; go_simp; exact hK.out _ _ ⟨hB.1, fun h => by rw [setL_ne (by decide), hn 14 (by decide)] at h; cases h⟩ GF.same rfl
      refine StepsMB.cons (fun l g' wu hB hl hn hp K hK => ?_) ?_
      · have e6 : g' 73 = .slice a len cap := (hp 6 (by decide)).2; simp only [mkM, maskDW, mixM, Nat.reduceAdd, e6] at hK ⊢; clear e6; simp only [Act.put, List.setIfInBounds_toArray, List.set_cons_zero, List.set_cons_succ] at hK; go_simp; go_at_call 19; refine (nums_any a len cap xs _ ((HA.out.1.below HB10.out).below hB.1) HA.out.2.1 HA.out.2.2.1 (by omega) HA.out.2.2.2).mono ?_; rintro e w7 ⟨z, rfl, hz, hb⟩; go_wp2_with fail; exact hK.out _ _ ⟨BB.step hB.1 hb, fun h => by rw [setL_ne (by decide), hn 14 (by decide)] at h; cases h⟩ (GF.below hb) (NRow.of hz)
      refine StepsMB.cons (fun l g' wu hB hl hn hp K hK => ?_) ?_
      · have h7 : NRow wu (g' 74) xs := (hp 7 (by decide)).2; obtain ⟨za, zc, ez, hz1, hz2⟩ := h7; rw [HA.out.2.1] at ez hz1; simp only [mkM, maskDW, mixM, Nat.reduceAdd, ez] at hK ⊢; simp only [Act.put, List.setIfInBounds_toArray, List.set_cons_zero, List.set_cons_succ] at hK; go_simp; go_at_call 62; refine (refs14_any za len zc xs _ hz2 HA.out.2.1 (by omega) (by omega) HANB.out).mono ?_; rintro e w7 ⟨z, rfl, hz, hb⟩; go_wp2_with fail; exact hK.out _ _ ⟨BB.step hB.1 hb, fun h => by rw [setL_ne (by decide), hn 14 (by decide)] at h; cases h⟩ (GF.below hb) hz
      refine StepsMB.cons (fun l g' wu hB hl hn hp K hK => ?_) ?_
      · have e0 : g' 67 = .agg #[.slice ra rl rc, .slice qa ql qc, .slice ga gl gc, .slice ja jl jc] := (hp 0 (by decide)).2; have e1 : g' 68 = .int .i64 (T : Int) := (hp 1 (by decide)).2; have h3 : BN wu (g' 70) x := (hp 3 (by decide)).2; have h5 : BN wu (g' 72) y := (hp 5 (by decide)).2; have h8 : BRow wu (g' 75) xs := (hp 8 (by decide)).2; simp only [mkM, maskDW, mixM, Nat.reduceAdd, e0, e1] at hK ⊢; clear e0 e1; simp only [Act.put, List.setIfInBounds_toArray, List.set_cons_zero, List.set_cons_succ] at hK; go_simp; go_at_call 61; refine (HNEW.out _ _ _ _ _ (HBG.out _ hB.1) h3 h5 h8).mono ?_; rintro e w7 ⟨z1, z2, rfl, hz1, hz2, hb⟩; go_wp2_with fail; exact hK.out _ _ ⟨BB.step hB.1 hb, fun h => by rw [setL_ne (by decide), hn 14 (by decide)] at h; cases h⟩ (GF.below hb) ⟨z1, z2, rfl, hz1, hz2⟩
      refine StepsMB.cons (fun l g' wu hB hl hn hp K hK => ?_) ?_
      · have h9 : IsDE ([]) ([]) (10) (g' 76) wu := (hp 9 (by decide)).2; simp only [mkM, maskDW, mixM, Nat.reduceAdd] at hK ⊢; simp only [Act.put, List.setIfInBounds_toArray, List.set_cons_zero, List.set_cons_succ] at hK; go_simp; exact hK.out _ _ ⟨hB.1, fun h => by rw [setL_ne (by decide), hn 14 (by decide)] at h; cases h⟩ GF.same h9
      refine StepsMB.cons (fun l g' wu hB hl hn hp K hK => ?_) ?_
      · have h10 : IsDE ([]) ([]) (10) (g' 66) wu := (hp 10 (by decide)).2; obtain ⟨z1, z2, ez, hz1, hz2⟩ := h10; simp only [mkM, maskDW, mixM, Nat.reduceAdd, ez] at hK ⊢; simp only [Act.put, List.setIfInBounds_toArray, List.set_cons_zero, List.set_cons_succ] at hK; go_simp; exact hK.out _ _ ⟨hB.1, fun h => by rw [setL_ne (by decide), hn 14 (by decide)] at h; cases h⟩ GF.same ⟨z1, z2, rfl, hz1, hz2⟩
      refine StepsMB.cons (fun l g' wu hB hl hn hp K hK => ?_) ?_
      · have h10 : IsDE ([]) ([]) (10) (g' 66) wu := (hp 10 (by decide)).2; obtain ⟨z1, z2, ez, hz1, hz2⟩ := h10; simp only [mkM, maskDW, mixM, Nat.reduceAdd, ez] at hK ⊢; simp only [Act.put, List.setIfInBounds_toArray, List.set_cons_zero, List.set_cons_succ] at hK; go_simp; exact hK.out _ _ ⟨hB.1, fun h => by rw [updG_ne (by decide)]; exact hB.2 (by rw [setL_ne (by decide)] at h; exact h)⟩ GF.same rfl
      refine StepsMB.cons (fun l g' wu hB hl hn hp K hK => ?_) ?_
      · simp only [mkM, maskDW, mixM, Nat.reduceAdd] at hK ⊢; simp only [Act.put, List.setIfInBounds_toArray, List.set_cons_zero, List.set_cons_succ] at hK; go_simp; exact hK.out _ _ ⟨BB.step hB.1 ((Below.refl _ _).alloc (Nat.le_refl _) _), fun h => by rw [setL_ne (by decide), hn 14 (by decide)] at h; cases h⟩ GF.alloc ⟨_, _, _, rfl, hB.1.size, Blk.new _ [.slice none 0 0, .slice none 0 0] _⟩
      refine StepsMB.cons (fun l g' wu hB hl hn hp K hK => ?_) ?_
      · have h13 : IsDP w10.heap.size (g' 17) wu := (hp 13 (by decide)).2; have h11 : IsDA ([]) ([]) (g' 77) wu := (hp 11 (by decide)).2; obtain ⟨D, x0, y0, e17, hD, hBk⟩ := h13; obtain ⟨z1, z2, ez2, hz1, hz2⟩ := h11; obtain ⟨y1, n1, y2, ef⟩ := hz1.sl; subst ef; obtain ⟨y3, n3, y4, ef⟩ := hz2.sl; subst ef; have HBk := Lib.hid hBk; have q0 := hBk.cell 0; have q1 := hBk.cell 1; have f0 := hBk.frozen 0; have f1 := hBk.frozen 1; simp only [List.getElem?_cons_zero, List.getElem?_cons_succ] at q0 q1; have kp := Lib.hid (KpT.store (u := .slice y1 n1 y2) (v := .slice y3 n3 y4) hBk hD); have E17 := Lib.hid e17; clear hBk; simp only [mkM, maskDW, mixM, Nat.reduceAdd, e17, ez2] at hK ⊢; clear e17; simp only [Act.put, List.setIfInBounds_toArray, List.set_cons_zero, List.set_cons_succ] at hK; go_simp; exact hK.out undef _ ⟨(Below.setCell (p := ⟨D, 0, none⟩) hB.1 hD _).setCell (p := ⟨D, 1, none⟩) hD _, fun _ => ⟨D, _, _, E17.out, hD, (HBk.out.set 0 _).set 1 _, hz1.kt (by decide) (by decide) kp.out.1, hz2.kt (by decide) (by decide) kp.out.1⟩⟩ (GF.kept rfl kp.out) trivial
      refine StepsMB.cons (fun l g' wu hB hl hn hp K hK => ?_) ?_
      · have e12 : g' 78 = .int .i64 10 := (hp 12 (by decide)).2; simp only [mkM, maskDW, mixM, Nat.reduceAdd, e12] at hK ⊢; clear e12; simp only [Act.put, List.setIfInBounds_toArray, List.set_cons_zero, List.set_cons_succ] at hK; go_simp; exact hK.out _ _ ⟨hB.1, fun h => by rw [updG_ne (by decide)]; exact hB.2 (by rw [setL_ne (by decide)] at h; exact h)⟩ GF.same rfl
      exact StepsMB.nil
    · intro lx g' w11 hall hB hG
      obtain ⟨D, z1, z2, e17, hD, hBv, hz1, hz2⟩ := hB.2 (hall 14 (by decide))
      have e15 : g' 18 = .int .i64 10 := hG 15 (by decide)
      have hBd11 := HBd.out.below hB.1 HBd.out.lt
      have HB11 := Lib.hid (HB10.out.trans (Below.mono hB.1 HB10.out.size))
      have q0 := hBd11.cell 0
      have q1 := hBd11.cell 1
      simp only [List.getElem?_cons_zero, List.getElem?_cons_succ] at q0 q1
      simp only [mkM, maskDW, mixM, Nat.reduceAdd, e15, e17]
      clear hG hall hB e15 e17 hBd11 hBv hz1 hz2
      go_wp2_with fail
      go_ret
      exact ⟨rfl, HB11.out⟩
  refine (dnew_any g _ _ _ _ _ T sa sl sc x ua ul uc y pa len pc xs w8 HG8.out (by omega) (by omega) HS8.out HU8.out HN8.out HA.out.2.1 hpc (by omega) (by omega)).mono ?_
  rintro e w9 ⟨va, ca, vb, cb, rfl, hva, hvb, hV, hM, hb9⟩
  have hbb9 : BB w5 w9 := BB.step hbb8 hb9
  have HB89 : Hid (BB w8 w9) := hb9
  have HVM9 := Lib.hid (And.intro hV hM)
  clear hb9 hV hM
  go_wp2_with fail
  have HNEW : Hid (∀ (wx : World) (gx sx ux rx : Value), BG wx gx (gP k) (gQ k) (gG k) (gH k) → BN wx sx x → BN wx ux y → BRow wx rx xs → Calls Try.prog 61 #[gx, .int .i64 (T : Int), sx, ux, rx] wx (RetDE (dvF (gQ k) x xs (T - 1)) (dvF (gQ k) y (xs.drop (T - 1)) (T - 1)) 0 wx)) := fun wx gx sx ux rx h1 h2 h3 h4 => by
    obtain ⟨fa, fc, rfl, hfc⟩ := h4.form
    rw [HA.out.2.1] at hfc h4 ⊢
    exact (bdnew_any gx sx ux _ _ _ _ _ _ T fa len fc xs wx h1 (by omega) (by omega) h2 h3 (gQ_pos k) (gQ_len' k) h4 HA.out.2.1 (by omega) (by omega) (by omega)).mono fun e w' ⟨z1, z2, h5, h6, h7, h8⟩ => ⟨z1, z2, h5, h6, h7, h8⟩
  obtain ⟨Dd, hDd⟩ : ∃ Dd, Dd = w9.heap.size := ⟨_, rfl⟩
  have hbd := (Below.refl _ w9).alloc (Nat.le_refl _) (Obj.cells #[.slice va T ca, .slice vb T cb] 82)
  have hBd : Blk (w9.alloc (Obj.cells #[.slice va T ca, .slice vb T cb] 82)) Dd 82 [.slice va T ca, .slice vb T cb] := Blk.new' w9 _ _ Dd hDd
  rw [← hDd]
  clear hDd
  generalize w9.alloc (Obj.cells #[.slice va T ca, .slice vb T cb] 82) = w10 at hbd hBd ⊢
  have HBd := Lib.hid hBd
  have hbb10 : BB w5 w10 := BB.step hbb9 hbd
  have HB10 := Lib.hid (HB5.out.trans (Below.mono hbb10 HB5.out.size))
  have hBK := HBK5.out.below hbb10 HBK5.out.lt
  have kP : ∀ w', BB w10 w' → w'.cell? ⟨B, 0, none⟩ = some (.slice ra rl rc) := fun w' hb => (BB.cell hb hBK.lt).trans (hBK.cell 0)
  have kQ : ∀ w', BB w10 w' → w'.cell? ⟨B, 1, none⟩ = some (.slice qa ql qc) := fun w' hb => (BB.cell hb hBK.lt).trans (hBK.cell 1)
  have kG : ∀ w', BB w10 w' → w'.cell? ⟨B, 2, none⟩ = some (.slice ga gl gc) := fun w' hb => (BB.cell hb hBK.lt).trans (hBK.cell 2)
  have kH : ∀ w', BB w10 w' → w'.cell? ⟨B, 3, none⟩ = some (.slice ja jl jc) := fun w' hb => (BB.cell hb hBK.lt).trans (hBK.cell 3)
  have HBG : Hid (∀ w', BB w10 w' → BG w' (.agg #[.slice ra rl rc, .slice qa ql qc, .slice ga gl gc, .slice ja jl jc]) (gP k) (gQ k) (gG k) (gH k)) := fun w' h => ⟨ra, rl, rc, qa, ql, qc, ga, gl, gc, ja, jl, jc, rfl, (HV5.out.1.below hbb10).below h, (HV5.out.2.1.below hbb10).below h, (HV5.out.2.2.1.below hbb10).below h, (HV5.out.2.2.2.below hbb10).below h⟩
  refine wp_region_mixB (fun l g w' => BB w10 w' ∧ (l 14 = true → DV w10.heap.size (dvF (gQ k) x xs (T - 1)) (dvF (gQ k) y (xs.drop (T - 1)) (T - 1)) (g 17) w')) (GF (tabDW w10.heap.size (.agg #[.slice ra rl rc, .slice qa ql qc, .slice ga gl gc, .slice ja jl jc]) (.int .i64 (T : Int)) (.int .u64 (x : Int)) (.int .u64 (y : Int)) (.slice a len cap) x y xs (dvF (gQ k) x xs (T - 1)) (dvF (gQ k) y (xs.drop (T - 1)) (T - 1)) (0))) maskDW dstDW preDW (by kernel_rfl) (by kernel_rfl) rfl (by kernel_rfl) (by kernel_rfl) (by kernel_rfl) (by kernel_rfl) ⟨BB.drew (BB.refl _), fun h => by cases h⟩ ?_ ?_
  · refine StepsMB.cons (fun l g' wu hB hl hn hp K hK => ?_) ?_
    · have c0 := kP _ hB.1; have c1 := kQ _ hB.1; have c2 := kG _ hB.1; have c3 := kH _ hB.1; simp only [mkM, maskDW, mixM, Nat.reduceAdd] at hK ⊢; simp only [Act.put, List.setIfInBounds_toArray, List.set_cons_zero, List.set_cons_succ] at hK; go_simp; exact hK.out _ _ ⟨hB.1, fun h => by rw [setL_ne (by decide), hn 14 (by decide)] at h; cases h⟩ GF.same rfl
    refine StepsMB.cons (fun l g' wu hB hl hn hp K hK => ?_) ?_
    · simp only [mkM, maskDW, mixM, Nat.reduceAdd] at hK ⊢; simp only [Act.put, List.setIfInBounds_toArray, List.set_cons_zero, List.set_cons_succ] at hK; go_simp; exact hK.out _ _ ⟨hB.1, fun h => by rw [setL_ne (by decide), hn 14 (by decide)] at h; cases h⟩ GF.same rfl
    refine StepsMB.cons (fun l g' wu hB hl hn hp K hK => ?_) ?_
    · simp only [mkM, maskDW, mixM, Nat.reduceAdd] at hK ⊢; simp only [Act.put, List.setIfInBounds_toArray, List.set_cons_zero, List.set_cons_succ] at hK; go_simp; exact hK.out _ _ ⟨hB.1, fun h => by rw [setL_ne (by decide), hn 14 (by decide)] at h; cases h⟩ GF.same rfl
    refine StepsMB.cons (fun l g' wu hB hl hn hp K hK => ?_) ?_
    · have e2 : g' 69 = .int .u64 (x : Int) := (hp 2 (by decide)).2; simp only [mkM, maskDW, mixM, Nat.reduceAdd, e2] at hK ⊢; clear e2; simp only [Act.put, List.setIfInBounds_toArray, List.set_cons_zero, List.set_cons_succ] at hK; go_simp; go_at_call 38; refine (bsmall_any x _ HXX.out.1).mono ?_; rintro e w7 ⟨z, rfl, hz, hb⟩; go_wp2_with fail; exact hK.out _ _ ⟨BB.step hB.1 hb, fun h => by rw [setL_ne (by decide), hn 14 (by decide)] at h; cases h⟩ (GF.below hb) hz
    refine StepsMB.cons (fun l g' wu hB hl hn hp K hK => ?_) ?_
    · simp only [mkM, maskDW, mixM, Nat.reduceAdd] at hK ⊢; simp only [Act.put, List.setIfInBounds_toArray, List.set_cons_zero, List.set_cons_succ] at hK; go_simp; exact hK.out _ _ ⟨hB.1, fun h => by rw [setL_ne (by decide), hn 14 (by decide)] at h; cases h⟩ GF.same rfl
    refine StepsMB.cons (fun l g' wu hB hl hn hp K hK => ?_) ?_
    · have e4 : g' 71 = .int .u64 (y : Int) := (hp 4 (by decide)).2; simp only [mkM, maskDW, mixM, Nat.reduceAdd, e4] at hK ⊢; clear e4; simp only [Act.put, List.setIfInBounds_toArray, List.set_cons_zero, List.set_cons_succ] at hK; go_simp; go_at_call 38; refine (bsmall_any y _ HXX.out.2).mono ?_; rintro e w7 ⟨z, rfl, hz, hb⟩; go_wp2_with fail; exact hK.out _ _ ⟨BB.step hB.1 hb, fun h => by rw [setL_ne (by decide), hn 14 (by decide)] at h; cases h⟩ (GF.below hb) hz
    refine StepsMB.cons (fun l g' wu hB hl hn hp K hK => ?_) ?_
    · simp only [mkM, maskDW, mixM, Nat.reduceAdd] at hK ⊢; simp only [Act.put, List.setIfInBounds_toArray, List.set_cons_zero, List.set_cons_succ] at hK; go_simp; exact hK.out _ _ ⟨hB.1, fun h => by rw [setL_ne (by decide), hn 14 (by decide)] at h; cases h⟩ GF.same rfl
    refine StepsMB.cons (fun l g' wu hB hl hn hp K hK => ?_) ?_
    · have e6 : g' 73 = .slice a len cap := (hp 6 (by decide)).2; simp only [mkM, maskDW, mixM, Nat.reduceAdd, e6] at hK ⊢; clear e6; simp only [Act.put, List.setIfInBounds_toArray, List.set_cons_zero, List.set_cons_succ] at hK; go_simp; go_at_call 19; refine (nums_any a len cap xs _ ((HA.out.1.below HB10.out).below hB.1) HA.out.2.1 HA.out.2.2.1 (by omega) HA.out.2.2.2).mono ?_; rintro e w7 ⟨z, rfl, hz, hb⟩; go_wp2_with fail; exact hK.out _ _ ⟨BB.step hB.1 hb, fun h => by rw [setL_ne (by decide), hn 14 (by decide)] at h; cases h⟩ (GF.below hb) (NRow.of hz)
    refine StepsMB.cons (fun l g' wu hB hl hn hp K hK => ?_) ?_
    · have h7 : NRow wu (g' 74) xs := (hp 7 (by decide)).2; obtain ⟨za, zc, ez, hz1, hz2⟩ := h7; rw [HA.out.2.1] at ez hz1; simp only [mkM, maskDW, mixM, Nat.reduceAdd, ez] at hK ⊢; simp only [Act.put, List.setIfInBounds_toArray, List.set_cons_zero, List.set_cons_succ] at hK; go_simp; go_at_call 62; refine (refs14_any za len zc xs _ hz2 HA.out.2.1 (by omega) (by omega) HANB.out).mono ?_; rintro e w7 ⟨z, rfl, hz, hb⟩; go_wp2_with fail; exact hK.out _ _ ⟨BB.step hB.1 hb, fun h => by rw [setL_ne (by decide), hn 14 (by decide)] at h; cases h⟩ (GF.below hb) hz
    refine StepsMB.cons (fun l g' wu hB hl hn hp K hK => ?_) ?_
    · have e0 : g' 67 = .agg #[.slice ra rl rc, .slice qa ql qc, .slice ga gl gc, .slice ja jl jc] := (hp 0 (by decide)).2; have e1 : g' 68 = .int .i64 (T : Int) := (hp 1 (by decide)).2; have h3 : BN wu (g' 70) x := (hp 3 (by decide)).2; have h5 : BN wu (g' 72) y := (hp 5 (by decide)).2; have h8 : BRow wu (g' 75) xs := (hp 8 (by decide)).2; simp only [mkM, maskDW, mixM, Nat.reduceAdd, e0, e1] at hK ⊢; clear e0 e1; simp only [Act.put, List.setIfInBounds_toArray, List.set_cons_zero, List.set_cons_succ] at hK; go_simp; go_at_call 61; refine (HNEW.out _ _ _ _ _ (HBG.out _ hB.1) h3 h5 h8).mono ?_; rintro e w7 ⟨z1, z2, rfl, hz1, hz2, hb⟩; go_wp2_with fail; exact hK.out _ _ ⟨BB.step hB.1 hb, fun h => by rw [setL_ne (by decide), hn 14 (by decide)] at h; cases h⟩ (GF.below hb) ⟨z1, z2, rfl, hz1, hz2⟩
    refine StepsMB.cons (fun l g' wu hB hl hn hp K hK => ?_) ?_
    · have h9 : IsDE (dvF (gQ k) x xs (T - 1)) (dvF (gQ k) y (xs.drop (T - 1)) (T - 1)) (0) (g' 76) wu := (hp 9 (by decide)).2; simp only [mkM, maskDW, mixM, Nat.reduceAdd] at hK ⊢; simp only [Act.put, List.setIfInBounds_toArray, List.set_cons_zero, List.set_cons_succ] at hK; go_simp; exact hK.out _ _ ⟨hB.1, fun h => by rw [setL_ne (by decide), hn 14 (by decide)] at h; cases h⟩ GF.same h9
    refine StepsMB.cons (fun l g' wu hB hl hn hp K hK => ?_) ?_
    · have h10 : IsDE (dvF (gQ k) x xs (T - 1)) (dvF (gQ k) y (xs.drop (T - 1)) (T - 1)) (0) (g' 66) wu := (hp 10 (by decide)).2; obtain ⟨z1, z2, ez, hz1, hz2⟩ := h10; simp only [mkM, maskDW, mixM, Nat.reduceAdd, ez] at hK ⊢; simp only [Act.put, List.setIfInBounds_toArray, List.set_cons_zero, List.set_cons_succ] at hK; go_simp; exact hK.out _ _ ⟨hB.1, fun h => by rw [setL_ne (by decide), hn 14 (by decide)] at h; cases h⟩ GF.same ⟨z1, z2, rfl, hz1, hz2⟩
    refine StepsMB.cons (fun l g' wu hB hl hn hp K hK => ?_) ?_
    · have h10 : IsDE (dvF (gQ k) x xs (T - 1)) (dvF (gQ k) y (xs.drop (T - 1)) (T - 1)) (0) (g' 66) wu := (hp 10 (by decide)).2; obtain ⟨z1, z2, ez, hz1, hz2⟩ := h10; simp only [mkM, maskDW, mixM, Nat.reduceAdd, ez] at hK ⊢; simp only [Act.put, List.setIfInBounds_toArray, List.set_cons_zero, List.set_cons_succ] at hK; go_simp; exact hK.out _ _ ⟨hB.1, fun h => by rw [updG_ne (by decide)]; exact hB.2 (by rw [setL_ne (by decide)] at h; exact h)⟩ GF.same rfl
    refine StepsMB.cons (fun l g' wu hB hl hn hp K hK => ?_) ?_
    · simp only [mkM, maskDW, mixM, Nat.reduceAdd] at hK ⊢; simp only [Act.put, List.setIfInBounds_toArray, List.set_cons_zero, List.set_cons_succ] at hK; go_simp; exact hK.out _ _ ⟨BB.step hB.1 ((Below.refl _ _).alloc (Nat.le_refl _) _), fun h => by rw [setL_ne (by decide), hn 14 (by decide)] at h; cases h⟩ GF.alloc ⟨_, _, _, rfl, hB.1.size, Blk.new _ [.slice none 0 0, .slice none 0 0] _⟩
    refine StepsMB.cons (fun l g' wu hB hl hn hp K hK => ?_) ?_
    · have h13 : IsDP w10.heap.size (g' 17) wu := (hp 13 (by decide)).2; have h11 : IsDA (dvF (gQ k) x xs (T - 1)) (dvF (gQ k) y (xs.drop (T - 1)) (T - 1)) (g' 77) wu := (hp 11 (by decide)).2; obtain ⟨D, x0, y0, e17, hD, hBk⟩ := h13; obtain ⟨z1, z2, ez2, hz1, hz2⟩ := h11; obtain ⟨y1, n1, y2, ef⟩ := hz1.sl; subst ef; obtain ⟨y3, n3, y4, ef⟩ := hz2.sl; subst ef; have HBk := Lib.hid hBk; have q0 := hBk.cell 0; have q1 := hBk.cell 1; have f0 := hBk.frozen 0; have f1 := hBk.frozen 1; simp only [List.getElem?_cons_zero, List.getElem?_cons_succ] at q0 q1; have kp := Lib.hid (KpT.store (u := .slice y1 n1 y2) (v := .slice y3 n3 y4) hBk hD); have E17 := Lib.hid e17; clear hBk; simp only [mkM, maskDW, mixM, Nat.reduceAdd, e17, ez2] at hK ⊢; clear e17; simp only [Act.put, List.setIfInBounds_toArray, List.set_cons_zero, List.set_cons_succ] at hK; go_simp; exact hK.out undef _ ⟨(Below.setCell (p := ⟨D, 0, none⟩) hB.1 hD _).setCell (p := ⟨D, 1, none⟩) hD _, fun _ => ⟨D, _, _, E17.out, hD, (HBk.out.set 0 _).set 1 _, hz1.kt (by decide) (by decide) kp.out.1, hz2.kt (by decide) (by decide) kp.out.1⟩⟩ (GF.kept rfl kp.out) trivial
    refine StepsMB.cons (fun l g' wu hB hl hn hp K hK => ?_) ?_
    · have e12 : g' 78 = .int .i64 0 := (hp 12 (by decide)).2; simp only [mkM, maskDW, mixM, Nat.reduceAdd, e12] at hK ⊢; clear e12; simp only [Act.put, List.setIfInBounds_toArray, List.set_cons_zero, List.set_cons_succ] at hK; go_simp; exact hK.out _ _ ⟨hB.1, fun h => by rw [updG_ne (by decide)]; exact hB.2 (by rw [setL_ne (by decide)] at h; exact h)⟩ GF.same rfl
    exact StepsMB.nil
  · intro lx g' w11 hall hB hG
    obtain ⟨D, z1, z2, e17, hD, hBv, hz1, hz2⟩ := hB.2 (hall 14 (by decide))
    have e15 : g' 18 = .int .i64 0 := hG 15 (by decide)
    have hBd11 := HBd.out.below hB.1 HBd.out.lt
    have HB11 := Lib.hid (HB10.out.trans (Below.mono hB.1 HB10.out.size))
    have hbb11 : BB w5 w11 := BB.step hbb10 hB.1
    have q0 := hBd11.cell 0
    have q1 := hBd11.cell 1
    simp only [List.getElem?_cons_zero, List.getElem?_cons_succ] at q0 q1
    simp only [mkM, maskDW, mixM, Nat.reduceAdd, e15, e17]
    have HBv := Lib.hid (And.intro hBv (And.intro hz1 hz2))
    have HBd11 := Lib.hid hBd11
    have HBL : Hid (BB w10 w11) := hB.1
    have hb89 : Hid (BB w8 w9) := HB89.out
    clear hG hall hB e15 e17 hBd11 hBv hz1 hz2
    go_wp2_with fail
    obtain ⟨V, hV⟩ : ∃ V, dvF (gQ k) x xs (T - 1) = V := ⟨_, rfl⟩
    obtain ⟨M, hM⟩ : ∃ M, dvF (gQ k) y (xs.drop (T - 1)) (T - 1) = M := ⟨_, rfl⟩
    have hlx : xs.length = len := HA.out.2.1
    have HLV : Hid (V.length = T ∧ M.length = T) := ⟨by rw [← hV, dvF_length (by omega)]; omega, by rw [← hM, dvF_length (by rw [List.length_drop]; omega)]; omega⟩
    have HLQ : Hid ((∀ a ∈ V, a < gQ k) ∧ ∀ a ∈ M, a < gQ k) := ⟨hV ▸ dvF_lt (gQ_pos k), hM ▸ dvF_lt (gQ_pos k)⟩
    have HT : Hid ((T : Int) ≤ 10000) := by show _ ≤ _; omega
    rw [hV, hM] at HVM9 HBv
    clear hV hM HNEW hlx
    have HL2 : Hid ((∀ a ∈ V, a < 2 ^ 1000) ∧ ∀ a ∈ M, a < 2 ^ 1000) := ⟨fun a ha => lt_1000 (Nat.lt_trans (HLQ.out.1 a ha) (gQ_lt k)), fun a ha => lt_1000 (Nat.lt_trans (HLQ.out.2 a ha) (gQ_lt k))⟩
    have HLL : Hid ((∀ a ∈ V, Bt.len a ≤ 400) ∧ ∀ a ∈ M, Bt.len a ≤ 400) := ⟨fun a ha => len_64 (Nat.lt_trans (HLQ.out.1 a ha) (gQ_lt k)), fun a ha => len_64 (Nat.lt_trans (HLQ.out.2 a ha) (gQ_lt k))⟩
    obtain ⟨ya, yc, ey, _⟩ := HBv.out.2.1.form
    obtain ⟨za, zc, ez, _⟩ := HBv.out.2.2.form
    rw [HLV.out.1] at ey
    rw [HLV.out.2] at ez
    subst ey ez
    have hb911 : BB w9 w11 := BB.step hbd HBL.out
    have HG11 := Lib.hid (HG8.out.below (BB.step hb89.out hb911))
    have HV11 := Lib.hid (And.intro (HVM9.out.1.below hb911) (HVM9.out.2.below hb911))
    have d0 : decide ((T : Int) = (T : Int)) = true := decide_eq_true rfl
    clear HVM9 hb911
    by_cases hp : 1 ≤ peer ∧ peer ≤ 64
    · obtain ⟨N, hN⟩ : ∃ N : Nat, peer = (N : Int) := ⟨peer.toNat, by omega⟩
      subst hN
      have HN : Hid (1 ≤ N ∧ N ≤ 64) := by show _ ∧ _; omega
      refine (dshare_any g _ _ _ _ _ va T ca V vb T cb M N w11 HG11.out (by omega) (by omega) HV11.out.1 HLV.out.1 (by omega) HV11.out.2 HLV.out.2 (by omega)).mono ?_
      rintro e w12 ⟨sa1, sl1, sc1, sa2, sl2, sc2, rfl, hS, hR, hb12⟩
      obtain ⟨S, hSs⟩ : ∃ S, S = w12.heap.size := ⟨_, rfl⟩
      have hbs := (Below.refl _ w12).alloc (Nat.le_refl _) (Obj.cells #[Value.slice sa1 sl1 sc1, Value.slice sa2 sl2 sc2] 90)
      have hBs : Blk (w12.alloc (Obj.cells #[Value.slice sa1 sl1 sc1, Value.slice sa2 sl2 sc2] 90)) S 90 [.slice sa1 sl1 sc1, .slice sa2 sl2 sc2] := Blk.new' w12 _ _ S hSs
      obtain ⟨w13, hw13⟩ : ∃ w13, w12.alloc (Obj.cells #[Value.slice sa1 sl1 sc1, Value.slice sa2 sl2 sc2] 90) = w13 := ⟨_, rfl⟩
      rw [hw13] at hbs hBs
      have hb1113 : BB w11 w13 := BB.step hb12 hbs
      have HS13 := Lib.hid (And.intro (hS.below hbs) (And.intro (hR.below hbs) hBs))
      have HG13 := Lib.hid (HG11.out.below hb1113)
      have HV13 := Lib.hid (And.intro (HV11.out.1.below hb1113) (HV11.out.2.below hb1113))
      have HBv13 := Lib.hid (And.intro (HBv.out.1.below hb1113 HBv.out.1.lt) (And.intro (HBv.out.2.1.below hb1113) (HBv.out.2.2.below hb1113)))
      have HBd13 := Lib.hid (HBd11.out.below hb1113 HBd11.out.lt)
      have HB13 := Lib.hid (HB11.out.trans (Below.mono hb1113 HB11.out.size))
      have HBL13 := Lib.hid (BB.step HBL.out hb1113)
      have q0 := HBd13.out.cell 0
      have q1 := HBd13.out.cell 1
      simp only [List.getElem?_cons_zero, List.getElem?_cons_succ] at q0 q1
      have hSs2 := hSs.symm
      clear hb12 hS hR hbs hBs hb1113 HG11 HV11 HBv HBd11 HB11 hSs HBL
      go_wp2_with fail
      refine (dpledges_any g _ _ _ _ _ va T ca V vb T cb M w13 HG13.out (gP_one k) HL2.out.1 HL2.out.2 HV13.out.1 HLV.out.1 HT.out HV13.out.2 HLV.out.2 HT.out).mono ?_
      rintro e w14 ⟨v, rfl, hrow, hb14⟩
      obtain ⟨la, lc, rfl, hlc, _, _, _⟩ := hrow.form
      rw [show (allG (gP k) (gG k) (gH k) V M).length = T by rw [allG_length, HLV.out.1, HLV.out.2]; exact Nat.max_self T] at hlc ⊢
      have HS14 := Lib.hid (And.intro (HS13.out.1.below hb14) (And.intro (HS13.out.2.1.below hb14) (HS13.out.2.2.below hb14 HS13.out.2.2.lt)))
      have HV14 := Lib.hid (And.intro (HV13.out.1.below hb14) (HV13.out.2.below hb14))
      have HBv14 := Lib.hid (And.intro (HBv13.out.1.below hb14 HBv13.out.1.lt) (And.intro (HBv13.out.2.1.below hb14) (HBv13.out.2.2.below hb14)))
      have HBd14 := Lib.hid (HBd13.out.below hb14 HBd13.out.lt)
      have HB14 := Lib.hid (HB13.out.trans (hb14.mono HB13.out.size))
      have HBL14 := Lib.hid (BB.step HBL13.out hb14)
      have q0 := HBd14.out.cell 0
      have q1 := HBd14.out.cell 1
      simp only [List.getElem?_cons_zero, List.getElem?_cons_succ] at q0 q1
      clear hrow hb14 hlc HS13 HV13 HBv13 HBd13 HB13 HG13 HBL13 hw13 hSs2
      go_wp2_with fail
      go_loopw [147] (fun iv wr => ∃ (i : Nat), i ≤ T ∧ iv = .int .i64 (i : Int) ∧ Hid (BB w14 wr)) (fun iv _ => T - (intOf iv).toNat)
      case atStart => exact ⟨0, Nat.zero_le _, rfl, BB.refl _⟩
      case round =>
        obtain ⟨i, hi, rfl, HBR⟩ := hrel
        by_cases hlt : (i : Int) < (T : Int)
        · have hiV : i < V.length := by rw [HLV.out.1]; omega
          have hiM : i < M.length := by rw [HLV.out.2]; omega
          have HVr := HV14.out.1.below HBR.out
          have HMr := HV14.out.2.below HBR.out
          have HYr := HBv14.out.2.1.below HBR.out
          have HZr := HBv14.out.2.2.below HBR.out
          have hBdr := HBd14.out.below HBR.out HBd14.out.lt
          have hBvr := HBv14.out.1.below HBR.out HBv14.out.1.lt
          obtain ⟨aV, v1, v2, v3, rfl, tV, cV0, nV⟩ := HVr.get hiV
          obtain ⟨aM, m1, m2, m3, rfl, tM, cM0, nM⟩ := HMr.get hiM
          obtain ⟨aY, y1, y2, y3, rfl, cY, nY⟩ := HYr.get hiV
          obtain ⟨aZ, x1, x2, x3, rfl, cZ, nZ⟩ := HZr.get hiM
          have kV : ∀ w', BB wr w' → w'.cell? ⟨Dd, 0, none⟩ = some (.slice (some aV) T ca) := fun w' hb => (BB.cell hb hBdr.lt).trans (hBdr.cell 0)
          have kM : ∀ w', BB wr w' → w'.cell? ⟨Dd, 1, none⟩ = some (.slice (some aM) T cb) := fun w' hb => (BB.cell hb hBdr.lt).trans (hBdr.cell 1)
          have kY : ∀ w', BB wr w' → w'.cell? ⟨D, 0, none⟩ = some (.slice (some aY) T yc) := fun w' hb => (BB.cell hb hBvr.lt).trans (hBvr.cell 0)
          have kZ : ∀ w', BB wr w' → w'.cell? ⟨D, 1, none⟩ = some (.slice (some aZ) T zc) := fun w' hb => (BB.cell hb hBvr.lt).trans (hBvr.cell 1)
          have cV : ∀ w', BB wr w' → w'.cell? (aV.add i) = some (.slice v1 v2 v3) := fun w' hb => (BB.cell hb (by rw [block_add]; exact tV.lt)).trans cV0
          have cM : ∀ w', BB wr w' → w'.cell? (aM.add i) = some (.slice m1 m2 m3) := fun w' hb => (BB.cell hb (by rw [block_add]; exact tM.lt)).trans cM0
          obtain ⟨ev, hev⟩ : ∃ ev, V.getD i 0 = ev := ⟨_, rfl⟩
          obtain ⟨em, hem⟩ : ∃ em, M.getD i 0 = em := ⟨_, rfl⟩
          rw [hev] at nV nY
          rw [hem] at nM nZ
          have HnV := Lib.hid nV
          have HnM := Lib.hid nM
          have HnY := Lib.hid nY
          have HnZ := Lib.hid nZ
          clear hiV hiM HVr HMr HYr HZr hBdr hBvr tV tM cV0 cM0 hev hem nV nM nY nZ
          go_wp2_with fail
          refine wp_region_mix (fun _ w' => BB wr w') (GF (tabN21 (.pointer (some ⟨Dd, 0, none⟩)) (.slice (some aV) T ca) (.int .i64 (i : Int)) (.pointer (some (aV.add i))) (.agg #[.slice v1 v2 v3]) (.pointer (some ⟨D, 0, none⟩)) (.slice (some aY) T yc) (.int .i64 (i : Int)) (.pointer (some (aY.add i))) (.slice y1 y2 y3) (.bool true) (.bool false) (.bool false) (.pointer (some ⟨Dd, 1, none⟩)) (.slice (some aM) T cb) (.int .i64 (i : Int)) (.pointer (some (aM.add i))) (.agg #[.slice m1 m2 m3]) (.pointer (some ⟨D, 1, none⟩)) (.slice (some aZ) T zc) (.int .i64 (i : Int)) (.pointer (some (aZ.add i))) (.slice x1 x2 x3) (.bool true) (.bool false) (.bool false))) maskN21 dstN21 preN21 (by kernel_rfl) (by kernel_rfl) rfl (by kernel_rfl) (by kernel_rfl) (by kernel_rfl) (by kernel_rfl) (BB.drew (BB.refl _)) ?_ ?_
          · refine StepsM.cons (fun l g' wu hB hl hn hp K hK => ?_) ?_
            · simp only [mkM, maskN21, mixM, Nat.reduceAdd] at hK ⊢; simp only [Act.put, List.setIfInBounds_toArray, List.set_cons_zero, List.set_cons_succ] at hK; go_simp; exact hK.out _ _ hB GF.same rfl
            refine StepsM.cons (fun l g' wu hB hl hn hp K hK => ?_) ?_
            · have hbb := hB; have e0 : g' 150 = .pointer (some ⟨Dd, 0, none⟩) := (hp 0 (by decide)).2; have hc := kV _ hbb; simp only [mkM, maskN21, mixM, Nat.reduceAdd, e0] at hK ⊢; clear e0; simp only [Act.put, List.setIfInBounds_toArray, List.set_cons_zero, List.set_cons_succ] at hK; go_simp; exact hK.out _ _ hB GF.same rfl
            refine StepsM.cons (fun l g' wu hB hl hn hp K hK => ?_) ?_
            · simp only [mkM, maskN21, mixM, Nat.reduceAdd] at hK ⊢; simp only [Act.put, List.setIfInBounds_toArray, List.set_cons_zero, List.set_cons_succ] at hK; go_simp; exact hK.out _ _ hB GF.same rfl
            refine StepsM.cons (fun l g' wu hB hl hn hp K hK => ?_) ?_
            · have e1 : g' 151 = .slice (some aV) T ca := (hp 1 (by decide)).2; have e2 : g' 152 = .int .i64 (i : Int) := (hp 2 (by decide)).2; simp only [mkM, maskN21, mixM, Nat.reduceAdd, e1, e2] at hK ⊢; clear e1 e2; simp only [Act.put, List.setIfInBounds_toArray, List.set_cons_zero, List.set_cons_succ] at hK; go_simp; exact hK.out _ _ hB GF.same rfl
            refine StepsM.cons (fun l g' wu hB hl hn hp K hK => ?_) ?_
            · have hbb := hB; have e3 : g' 153 = .pointer (some (aV.add i)) := (hp 3 (by decide)).2; have hc := cV _ hbb; simp only [mkM, maskN21, mixM, Nat.reduceAdd, e3] at hK ⊢; clear e3; simp only [Act.put, List.setIfInBounds_toArray, List.set_cons_zero, List.set_cons_succ] at hK; go_simp; exact hK.out _ _ hB GF.same rfl
            refine StepsM.cons (fun l g' wu hB hl hn hp K hK => ?_) ?_
            · simp only [mkM, maskN21, mixM, Nat.reduceAdd] at hK ⊢; simp only [Act.put, List.setIfInBounds_toArray, List.set_cons_zero, List.set_cons_succ] at hK; go_simp; exact hK.out _ _ hB GF.same rfl
            refine StepsM.cons (fun l g' wu hB hl hn hp K hK => ?_) ?_
            · have hbb := hB; have e5 : g' 155 = .pointer (some ⟨D, 0, none⟩) := (hp 5 (by decide)).2; have hc := kY _ hbb; simp only [mkM, maskN21, mixM, Nat.reduceAdd, e5] at hK ⊢; clear e5; simp only [Act.put, List.setIfInBounds_toArray, List.set_cons_zero, List.set_cons_succ] at hK; go_simp; exact hK.out _ _ hB GF.same rfl
            refine StepsM.cons (fun l g' wu hB hl hn hp K hK => ?_) ?_
            · simp only [mkM, maskN21, mixM, Nat.reduceAdd] at hK ⊢; simp only [Act.put, List.setIfInBounds_toArray, List.set_cons_zero, List.set_cons_succ] at hK; go_simp; exact hK.out _ _ hB GF.same rfl
            refine StepsM.cons (fun l g' wu hB hl hn hp K hK => ?_) ?_
            · have e6 : g' 156 = .slice (some aY) T yc := (hp 6 (by decide)).2; have e7 : g' 157 = .int .i64 (i : Int) := (hp 7 (by decide)).2; simp only [mkM, maskN21, mixM, Nat.reduceAdd, e6, e7] at hK ⊢; clear e6 e7; simp only [Act.put, List.setIfInBounds_toArray, List.set_cons_zero, List.set_cons_succ] at hK; go_simp; exact hK.out _ _ hB GF.same rfl
            refine StepsM.cons (fun l g' wu hB hl hn hp K hK => ?_) ?_
            · have hbb := hB; have e8 : g' 158 = .pointer (some (aY.add i)) := (hp 8 (by decide)).2; have hc := cY _ hbb; simp only [mkM, maskN21, mixM, Nat.reduceAdd, e8] at hK ⊢; clear e8; simp only [Act.put, List.setIfInBounds_toArray, List.set_cons_zero, List.set_cons_succ] at hK; go_simp; exact hK.out _ _ hB GF.same rfl
            refine StepsM.cons (fun l g' wu hB hl hn hp K hK => ?_) ?_
            · have hbb := hB; have e4 : g' 154 = .agg #[.slice v1 v2 v3] := (hp 4 (by decide)).2; have e9 : g' 159 = .slice y1 y2 y3 := (hp 9 (by decide)).2; simp only [mkM, maskN21, mixM, Nat.reduceAdd, e4, e9] at hK ⊢; clear e4 e9; simp only [Act.put, List.setIfInBounds_toArray, List.set_cons_zero, List.set_cons_succ] at hK; go_simp; go_at_call 36; refine (same_any v1 v2 v3 ev (.slice y1 y2 y3) ev _ (HnV.out.below hbb) (HnY.out.below hbb)).mono ?_; rw [show decide (ev = ev) = true from decide_eq_true rfl]; rintro e w7 ⟨rfl, hb⟩; go_wp2_with fail; exact hK.out _ _ (BB.step hbb hb) (GF.below hb) rfl
            refine StepsM.cons (fun l g' wu hB hl hn hp K hK => ?_) ?_
            · have e10 : g' 160 = .bool true := (hp 10 (by decide)).2; simp only [mkM, maskN21, mixM, Nat.reduceAdd, e10] at hK ⊢; clear e10; simp only [Act.put, List.setIfInBounds_toArray, List.set_cons_zero, List.set_cons_succ] at hK; go_simp; exact hK.out _ _ hB GF.same rfl
            refine StepsM.cons (fun l g' wu hB hl hn hp K hK => ?_) ?_
            · have e11 : g' 161 = .bool false := (hp 11 (by decide)).2; simp only [mkM, maskN21, mixM, Nat.reduceAdd, e11] at hK ⊢; clear e11; simp only [Act.put, List.setIfInBounds_toArray, List.set_cons_zero, List.set_cons_succ] at hK; go_simp; exact hK.out _ _ hB GF.same rfl
            refine StepsM.cons (fun l g' wu hB hl hn hp K hK => ?_) ?_
            · have e12 : g' 162 = .bool false := (hp 12 (by decide)).2; simp only [mkM, maskN21, mixM, Nat.reduceAdd, e12] at hK ⊢; clear e12; simp only [Act.put, List.setIfInBounds_toArray, List.set_cons_zero, List.set_cons_succ] at hK; go_simp; exact hK.out _ _ hB GF.same rfl
            refine StepsM.cons (fun l g' wu hB hl hn hp K hK => ?_) ?_
            · have hbb := hB; have e13 : g' 163 = .pointer (some ⟨Dd, 1, none⟩) := (hp 13 (by decide)).2; have e12 : g' 162 = .bool false := (hp 12 (by decide)).2; have hc := kM _ hbb; simp only [mkM, maskN21, mixM, Nat.reduceAdd, e13, e12] at hK ⊢; clear e13 e12; simp only [Act.put, List.setIfInBounds_toArray, List.set_cons_zero, List.set_cons_succ] at hK; go_simp; exact hK.out _ _ hB GF.same rfl
            refine StepsM.cons (fun l g' wu hB hl hn hp K hK => ?_) ?_
            · have e12 : g' 162 = .bool false := (hp 12 (by decide)).2; simp only [mkM, maskN21, mixM, Nat.reduceAdd, e12] at hK ⊢; clear e12; simp only [Act.put, List.setIfInBounds_toArray, List.set_cons_zero, List.set_cons_succ] at hK; go_simp; exact hK.out _ _ hB GF.same rfl
            refine StepsM.cons (fun l g' wu hB hl hn hp K hK => ?_) ?_
            · have e14 : g' 164 = .slice (some aM) T cb := (hp 14 (by decide)).2; have e15 : g' 165 = .int .i64 (i : Int) := (hp 15 (by decide)).2; have e12 : g' 162 = .bool false := (hp 12 (by decide)).2; simp only [mkM, maskN21, mixM, Nat.reduceAdd, e14, e15, e12] at hK ⊢; clear e14 e15 e12; simp only [Act.put, List.setIfInBounds_toArray, List.set_cons_zero, List.set_cons_succ] at hK; go_simp; exact hK.out _ _ hB GF.same rfl
            refine StepsM.cons (fun l g' wu hB hl hn hp K hK => ?_) ?_
            · have hbb := hB; have e16 : g' 166 = .pointer (some (aM.add i)) := (hp 16 (by decide)).2; have e12 : g' 162 = .bool false := (hp 12 (by decide)).2; have hc := cM _ hbb; simp only [mkM, maskN21, mixM, Nat.reduceAdd, e16, e12] at hK ⊢; clear e16 e12; simp only [Act.put, List.setIfInBounds_toArray, List.set_cons_zero, List.set_cons_succ] at hK; go_simp; exact hK.out _ _ hB GF.same rfl
            refine StepsM.cons (fun l g' wu hB hl hn hp K hK => ?_) ?_
            · have e12 : g' 162 = .bool false := (hp 12 (by decide)).2; simp only [mkM, maskN21, mixM, Nat.reduceAdd, e12] at hK ⊢; clear e12; simp only [Act.put, List.setIfInBounds_toArray, List.set_cons_zero, List.set_cons_succ] at hK; go_simp; exact hK.out _ _ hB GF.same rfl
            refine StepsM.cons (fun l g' wu hB hl hn hp K hK => ?_) ?_
            · have hbb := hB; have e18 : g' 168 = .pointer (some ⟨D, 1, none⟩) := (hp 18 (by decide)).2; have e12 : g' 162 = .bool false := (hp 12 (by decide)).2; have hc := kZ _ hbb; simp only [mkM, maskN21, mixM, Nat.reduceAdd, e18, e12] at hK ⊢; clear e18 e12; simp only [Act.put, List.setIfInBounds_toArray, List.set_cons_zero, List.set_cons_succ] at hK; go_simp; exact hK.out _ _ hB GF.same rfl
            refine StepsM.cons (fun l g' wu hB hl hn hp K hK => ?_) ?_
            · have e12 : g' 162 = .bool false := (hp 12 (by decide)).2; simp only [mkM, maskN21, mixM, Nat.reduceAdd, e12] at hK ⊢; clear e12; simp only [Act.put, List.setIfInBounds_toArray, List.set_cons_zero, List.set_cons_succ] at hK; go_simp; exact hK.out _ _ hB GF.same rfl
            refine StepsM.cons (fun l g' wu hB hl hn hp K hK => ?_) ?_
            · have e19 : g' 169 = .slice (some aZ) T zc := (hp 19 (by decide)).2; have e20 : g' 170 = .int .i64 (i : Int) := (hp 20 (by decide)).2; have e12 : g' 162 = .bool false := (hp 12 (by decide)).2; simp only [mkM, maskN21, mixM, Nat.reduceAdd, e19, e20, e12] at hK ⊢; clear e19 e20 e12; simp only [Act.put, List.setIfInBounds_toArray, List.set_cons_zero, List.set_cons_succ] at hK; go_simp; exact hK.out _ _ hB GF.same rfl
            refine StepsM.cons (fun l g' wu hB hl hn hp K hK => ?_) ?_
            · have hbb := hB; have e21 : g' 171 = .pointer (some (aZ.add i)) := (hp 21 (by decide)).2; have e12 : g' 162 = .bool false := (hp 12 (by decide)).2; have hc := cZ _ hbb; simp only [mkM, maskN21, mixM, Nat.reduceAdd, e21, e12] at hK ⊢; clear e21 e12; simp only [Act.put, List.setIfInBounds_toArray, List.set_cons_zero, List.set_cons_succ] at hK; go_simp; exact hK.out _ _ hB GF.same rfl
            refine StepsM.cons (fun l g' wu hB hl hn hp K hK => ?_) ?_
            · have hbb := hB; have e17 : g' 167 = .agg #[.slice m1 m2 m3] := (hp 17 (by decide)).2; have e22 : g' 172 = .slice x1 x2 x3 := (hp 22 (by decide)).2; have e12 : g' 162 = .bool false := (hp 12 (by decide)).2; simp only [mkM, maskN21, mixM, Nat.reduceAdd, e17, e22, e12] at hK ⊢; clear e17 e22 e12; simp only [Act.put, List.setIfInBounds_toArray, List.set_cons_zero, List.set_cons_succ] at hK; go_simp; go_at_call 36; refine (same_any m1 m2 m3 em (.slice x1 x2 x3) em _ (HnM.out.below hbb) (HnZ.out.below hbb)).mono ?_; rw [show decide (em = em) = true from decide_eq_true rfl]; rintro e w7 ⟨rfl, hb⟩; go_wp2_with fail; exact hK.out _ _ (BB.step hbb hb) (GF.below hb) rfl
            refine StepsM.cons (fun l g' wu hB hl hn hp K hK => ?_) ?_
            · have e23 : g' 173 = .bool true := (hp 23 (by decide)).2; have e12 : g' 162 = .bool false := (hp 12 (by decide)).2; simp only [mkM, maskN21, mixM, Nat.reduceAdd, e23, e12] at hK ⊢; clear e23 e12; simp only [Act.put, List.setIfInBounds_toArray, List.set_cons_zero, List.set_cons_succ] at hK; go_simp; exact hK.out _ _ hB GF.same rfl
            refine StepsM.cons (fun l g' wu hB hl hn hp K hK => ?_) ?_
            · have e12 : g' 162 = .bool false := (hp 12 (by decide)).2; have e24 : g' 174 = .bool false := (hp 24 (by decide)).2; simp only [mkM, maskN21, mixM, Nat.reduceAdd, e12, e24] at hK ⊢; clear e12 e24; simp only [Act.put, List.setIfInBounds_toArray, List.set_cons_zero, List.set_cons_succ] at hK; go_simp; exact hK.out _ _ hB GF.same rfl
            exact StepsM.nil
          · intro l g' wu hall hB hG
            have e25 : g' 175 = .bool false := hG 25 (by decide)
            simp only [mkM, maskN21, mixM, Nat.reduceAdd, e25]
            have HBR2 := Lib.hid (BB.step HBR.out hB)
            clear hG hall hB e25
            go_wp2_with fail
            go_roundw
            case rel => exact ⟨i + 1, by omega, by go_num, HBR2.out⟩
            case measure => simp [intOf]; omega
        · obtain rfl : i = T := by omega
          have hbR : BB w10 wr := BB.step HBL14.out HBR.out
          have hBvr := HBv14.out.1.below HBR.out HBv14.out.1.lt
          have hBsr := HS14.out.2.2.below HBR.out HS14.out.2.2.lt
          have kY : ∀ w', BB wr w' → w'.cell? ⟨D, 0, none⟩ = some (.slice ya i yc) := fun w' hb => (BB.cell hb hBvr.lt).trans (hBvr.cell 0)
          have kZ : ∀ w', BB wr w' → w'.cell? ⟨D, 1, none⟩ = some (.slice za i zc) := fun w' hb => (BB.cell hb hBvr.lt).trans (hBvr.cell 1)
          have kS0 : ∀ w', BB wr w' → w'.cell? ⟨S, 0, none⟩ = some (.slice sa1 sl1 sc1) := fun w' hb => (BB.cell hb hBsr.lt).trans (hBsr.cell 0)
          have kS1 : ∀ w', BB wr w' → w'.cell? ⟨S, 1, none⟩ = some (.slice sa2 sl2 sc2) := fun w' hb => (BB.cell hb hBsr.lt).trans (hBsr.cell 1)
          have HS1 := Lib.hid (HS14.out.1.below HBR.out)
          have HS2 := Lib.hid (HS14.out.2.1.below HBR.out)
          have HBY := Lib.hid (HBv14.out.2.1.below HBR.out)
          have HBZ := Lib.hid (HBv14.out.2.2.below HBR.out)
          have HBW := Lib.hid (HB14.out.trans (Below.mono HBR.out HB14.out.size))
          clear hBvr hBsr
          go_wp2_with fail
          refine wp_region_mix (fun _ w' => BB wr w') (GF (tabN24 (.int .i64 0) (.bool true) (.bool true) (.agg #[.slice sa1 sl1 sc1, .slice sa2 sl2 sc2]) (.agg #[.slice ya i yc, .slice za i zc]) (.agg #[.slice ra rl rc, .slice qa ql qc, .slice ga gl gc, .slice ja jl jc]) (.int .i64 (N : Int)) (Fk.rel (fun v w => IsPairB (evalm (gQ k) V (N % gQ k)) (evalm (gQ k) M (N % gQ k)) v w) (fun _ _ _ hb h => (by obtain ⟨a, l, c, a2, l2, c2, e, h1, h2⟩ := h; exact ⟨a, l, c, a2, l2, c2, e, h1.below hb, h2.below hb⟩))) (.bool true) (.bool true) (.bool true))) maskN24 dstN24 preN24 (by kernel_rfl) (by kernel_rfl) rfl (by kernel_rfl) (by kernel_rfl) (by kernel_rfl) (by kernel_rfl) (BB.drew (BB.refl _)) ?_ ?_
          · refine StepsM.cons (fun l g' wu hB hl hn hp K hK => ?_) ?_
            · simp only [mkM, maskN24, mixM, Nat.reduceAdd] at hK ⊢; simp only [Act.put, List.setIfInBounds_toArray, List.set_cons_zero, List.set_cons_succ] at hK; go_simp; exact hK.out _ _ hB GF.same rfl
            refine StepsM.cons (fun l g' wu hB hl hn hp K hK => ?_) ?_
            · have e0 : g' 177 = .int .i64 0 := (hp 0 (by decide)).2; simp only [mkM, maskN24, mixM, Nat.reduceAdd, e0] at hK ⊢; clear e0; simp only [Act.put, List.setIfInBounds_toArray, List.set_cons_zero, List.set_cons_succ] at hK; go_simp; exact hK.out _ _ hB GF.same rfl
            refine StepsM.cons (fun l g' wu hB hl hn hp K hK => ?_) ?_
            · have e1 : g' 178 = .bool true := (hp 1 (by decide)).2; simp only [mkM, maskN24, mixM, Nat.reduceAdd, e1] at hK ⊢; clear e1; simp only [Act.put, List.setIfInBounds_toArray, List.set_cons_zero, List.set_cons_succ] at hK; go_simp; exact hK.out _ _ hB GF.same rfl
            refine StepsM.cons (fun l g' wu hB hl hn hp K hK => ?_) ?_
            · have hbb := hB; have e2 : g' 179 = .bool true := (hp 2 (by decide)).2; have c0 := kS0 _ hbb; have c1 := kS1 _ hbb; simp only [mkM, maskN24, mixM, Nat.reduceAdd, e2] at hK ⊢; clear e2; simp only [Act.put, List.setIfInBounds_toArray, List.set_cons_zero, List.set_cons_succ] at hK; go_simp; exact hK.out _ _ hB GF.same rfl
            refine StepsM.cons (fun l g' wu hB hl hn hp K hK => ?_) ?_
            · have hbb := hB; have e2 : g' 179 = .bool true := (hp 2 (by decide)).2; have c0 := kY _ hbb; have c1 := kZ _ hbb; simp only [mkM, maskN24, mixM, Nat.reduceAdd, e2] at hK ⊢; clear e2; simp only [Act.put, List.setIfInBounds_toArray, List.set_cons_zero, List.set_cons_succ] at hK; go_simp; exact hK.out _ _ hB GF.same rfl
            refine StepsM.cons (fun l g' wu hB hl hn hp K hK => ?_) ?_
            · have hbb := hB; have e2 : g' 179 = .bool true := (hp 2 (by decide)).2; have c0 := kP _ (BB.step hbR hbb); have c1 := kQ _ (BB.step hbR hbb); have c2 := kG _ (BB.step hbR hbb); have c3 := kH _ (BB.step hbR hbb); simp only [mkM, maskN24, mixM, Nat.reduceAdd, e2] at hK ⊢; clear e2; simp only [Act.put, List.setIfInBounds_toArray, List.set_cons_zero, List.set_cons_succ] at hK; go_simp; exact hK.out _ _ hB GF.same rfl
            refine StepsM.cons (fun l g' wu hB hl hn hp K hK => ?_) ?_
            · have e2 : g' 179 = .bool true := (hp 2 (by decide)).2; simp only [mkM, maskN24, mixM, Nat.reduceAdd, e2] at hK ⊢; clear e2; simp only [Act.put, List.setIfInBounds_toArray, List.set_cons_zero, List.set_cons_succ] at hK; go_simp; exact hK.out _ _ hB GF.same rfl
            refine StepsM.cons (fun l g' wu hB hl hn hp K hK => ?_) ?_
            · have hbb := hB; have e2 : g' 179 = .bool true := (hp 2 (by decide)).2; have e4 : g' 181 = .agg #[.slice ya i yc, .slice za i zc] := (hp 4 (by decide)).2; have e5 : g' 182 = .agg #[.slice ra rl rc, .slice qa ql qc, .slice ga gl gc, .slice ja jl jc] := (hp 5 (by decide)).2; have e6 : g' 183 = .int .i64 (N : Int) := (hp 6 (by decide)).2; simp only [mkM, maskN24, mixM, Nat.reduceAdd, e2, e4, e5, e6] at hK ⊢; clear e2 e4 e5 e6; simp only [Act.put, List.setIfInBounds_toArray, List.set_cons_zero, List.set_cons_succ] at hK; go_simp; go_at_call 66; refine (bdof_any _ (gP k) (gQ k) (gG k) (gH k) ya i yc V za i zc M N _ (HBG.out _ (BB.step hbR hbb)) HN.out.2 (gQ_pos k) (gQ_len' k) (HBY.out.below hbb) (HBZ.out.below hbb) HLL.out.1 HLL.out.2 (by rw [HLV.out.1]; exact HT.out) (by rw [HLV.out.2]; exact HT.out)).mono ?_; rintro e w7 ⟨t1, t2, t3, t4, t5, t6, rfl, h1, h2, hb⟩; go_wp2_with fail; exact hK.out _ _ (BB.step hbb hb) (GF.below hb) ⟨t1, t2, t3, t4, t5, t6, rfl, h1, h2⟩
            refine StepsM.cons (fun l g' wu hB hl hn hp K hK => ?_) ?_
            · have hbb := hB; have e2 : g' 179 = .bool true := (hp 2 (by decide)).2; have e3 : g' 180 = .agg #[.slice sa1 sl1 sc1, .slice sa2 sl2 sc2] := (hp 3 (by decide)).2; have h7 : IsPairB (evalm (gQ k) V (N % gQ k)) (evalm (gQ k) M (N % gQ k)) (g' 184) wu := (hp 7 (by decide)).2; obtain ⟨t1, t2, t3, t4, t5, t6, ez, h1, h2⟩ := h7; simp only [mkM, maskN24, mixM, Nat.reduceAdd, e2, e3, ez] at hK ⊢; clear e2 e3; simp only [Act.put, List.setIfInBounds_toArray, List.set_cons_zero, List.set_cons_succ] at hK; go_simp; go_at_call 65; refine (same14_any sa1 sl1 sc1 _ sa2 sl2 sc2 _ _ _ _ _ _ (HS1.out.below hbb) (HS2.out.below hbb) h1 h2).mono ?_; rw [show decide (evalm (gQ k) V (N % gQ k) = evalm (gQ k) V (N % gQ k) ∧ evalm (gQ k) M (N % gQ k) = evalm (gQ k) M (N % gQ k)) = true from decide_eq_true ⟨rfl, rfl⟩]; rintro e w7 ⟨rfl, hb⟩; go_wp2_with fail; exact hK.out _ _ (BB.step hbb hb) (GF.below hb) rfl
            refine StepsM.cons (fun l g' wu hB hl hn hp K hK => ?_) ?_
            · have e2 : g' 179 = .bool true := (hp 2 (by decide)).2; have e8 : g' 185 = .bool true := (hp 8 (by decide)).2; simp only [mkM, maskN24, mixM, Nat.reduceAdd, e2, e8] at hK ⊢; clear e2 e8; simp only [Act.put, List.setIfInBounds_toArray, List.set_cons_zero, List.set_cons_succ] at hK; go_simp; exact hK.out _ _ hB GF.same rfl
            refine StepsM.cons (fun l g' wu hB hl hn hp K hK => ?_) ?_
            · have e9 : g' 186 = .bool true := (hp 9 (by decide)).2; simp only [mkM, maskN24, mixM, Nat.reduceAdd, e9] at hK ⊢; clear e9; simp only [Act.put, List.setIfInBounds_toArray, List.set_cons_zero, List.set_cons_succ] at hK; go_simp; exact hK.out _ _ hB GF.same rfl
            exact StepsM.nil
          · intro l g' wu hall hB hG
            have e10 : g' 12 = .bool true := hG 10 (by decide)
            simp only [mkM, maskN24, mixM, Nat.reduceAdd, e10]
            have HBE := Lib.hid (HBW.out.trans (Below.mono hB HBW.out.size))
            clear hG hall hB e10
            go_wp2_with fail
            go_ret
            exact ⟨rfl, HBE.out⟩
    · refine (dshare_none g va T ca vb T cb peer w11 hp).mono ?_
      rintro e w12 ⟨rfl, hb12⟩
      obtain ⟨S, hSs⟩ : ∃ S, S = w12.heap.size := ⟨_, rfl⟩
      have hbs := (Below.refl _ w12).alloc (Nat.le_refl _) (Obj.cells #[Value.slice none 0 0, Value.slice none 0 0] 90)
      have hBs : Blk (w12.alloc (Obj.cells #[Value.slice none 0 0, Value.slice none 0 0] 90)) S 90 [.slice none 0 0, .slice none 0 0] := Blk.new' w12 _ _ S hSs
      have HB13 := Lib.hid (HB11.out.trans (Below.mono (BB.step hb12 hbs) HB11.out.size))
      have HBs := Lib.hid hBs
      have HSs := Lib.hid hSs
      clear hb12 hbs hBs hSs
      go_wp2_with fail
      all_goals (
        rw [← HSs.out]
        generalize w12.alloc (Obj.cells #[Value.slice none 0 0, Value.slice none 0 0] 90) = w13 at HBs HB13 ⊢
        refine (zero_s none 0 0 0 w13 (natS_nil _)).mono ?_
        rintro e w14 ⟨rfl, hb14⟩
        have hBs4 := HBs.out.below hb14 HBs.out.lt
        have HB14 := Lib.hid (HB13.out.trans (hb14.mono HB13.out.size))
        have q0 := hBs4.cell 0
        have q1 := hBs4.cell 1
        simp only [List.getElem?_cons_zero, List.getElem?_cons_succ] at q0 q1
        clear hb14 hBs4
        go_wp2_with fail
        refine (zero_s none 0 0 0 w14 (natS_nil _)).mono ?_
        rintro e w15 ⟨rfl, hb15⟩
        have HB15 := Lib.hid (HB14.out.trans (hb15.mono HB14.out.size))
        clear hb15
        go_wp2_with fail
        go_ret
        exact ⟨rfl, HB15.out⟩)

/-- The same, as the frame asks it. -/
theorem dnews_walk (a0 a1 a2 a3 : Int) (a4 : Option Addr) (len4 cap4 : Nat) (z4 : List Int) (a5 : Int) (w : World)
    (w2 : (Lit.int .u64 a2).wf = true) (w3 : (Lit.int .u64 a3).wf = true)
    (w4 : (a4 = none ∧ len4 = 0 ∧ cap4 = 0 ∧ z4 = []) ∨ ∃ x, a4 = some x ∧ len4 ≤ cap4 ∧ cap4 ≤ maxLen ∧ z4.length = cap4 ∧ (∀ i, i < z4.length → w.cell? (x.add i) = some (.int .u64 (z4.getD i 0))) ∧ ∀ n ∈ z4, (Lit.int .u64 n).wf = true) :
    Calls Try.prog 10 #[.int .i64 a0, .int .i64 a1, .int .u64 a2, .int .u64 a3, .slice a4 len4 cap4, .int .i64 a5] w fun e w' => e = .returned (.bool true) ∧ Below w.heap.size w w' := by
  obtain ⟨x, rfl, hx⟩ := word_in w2
  obtain ⟨y, rfl, hy⟩ := word_in w3
  obtain ⟨l, h1, h2, h3, h4⟩ := words_in w4
  exact dnews_any a0 a1 x y a4 len4 cap4 l a5 w h1 h2 h3 h4 hx hy
end Go.Proofs.Ythefednendgclaa
