/-
  The law PledgeMakes: it returns true.
-/
import Derived.Test.YthefednendgclaaLaw13
import Derived.Test.YthefednendgclaaPledge2
import Derived.Test.YthefednendgclaaMakeA
set_option linter.unusedVariables false
set_option linter.unusedSimpArgs false
namespace Go.Proofs.Ythefednendgclaa
open Go Go.RowKit Sac NT

theorem gP_len (k : Nat) : Bt.len (gP k) ≤ 400 := Nat.le_trans (Bt.len_le (k := 96) (Nat.lt_of_lt_of_le (gP_lt k) (by decide))) (by decide)
theorem gQ_len' (k : Nat) : Bt.len (gQ k) ≤ 400 := Nat.le_trans (Bt.len_le (k := 64) (Nat.lt_of_lt_of_le (gQ_lt k) (by decide))) (by decide)
theorem gP_nb (k : Nat) : nbytes (gP k) ≤ 120 := Nat.le_trans ((nbytes_le (gP k) 12).2 (Nat.lt_of_lt_of_le (gP_lt k) (by decide))) (by decide)
theorem gQ_nb (k : Nat) : nbytes (gQ k) ≤ 120 := Nat.le_trans ((nbytes_le (gQ k) 8).2 (Nat.lt_of_lt_of_le (gQ_lt k) (by decide))) (by decide)
theorem gG_nb (k : Nat) : nbytes (gG k) ≤ 120 := Nat.le_trans ((nbytes_le (gG k) 12).2 (Nat.lt_trans (gG_lt k) (Nat.lt_of_lt_of_le (gP_lt k) (by decide)))) (by decide)
theorem gH_nb (k : Nat) : nbytes (gH k) ≤ 120 := Nat.le_trans ((nbytes_le (gH k) 12).2 (Nat.lt_trans (gH_lt k) (Nat.lt_of_lt_of_le (gP_lt k) (by decide)))) (by decide)
theorem nb_64 {x : Nat} (h : x < 18446744073709551616) : nbytes x ≤ 120 := Nat.le_trans ((nbytes_le x 8).2 h) (by decide)
theorem len_64 {x : Nat} (h : x < 18446744073709551616) : Bt.len x ≤ 400 := Nat.le_trans (Bt.len_le (k := 64) h) (by decide)
theorem lt_1000 {x : Nat} (h : x < 18446744073709551616) : x < 2 ^ 1000 := @lt_twop x 64 1000 h (by decide)

/-- The slice v holds the program's numbers ns. -/
def NRow (w : World) (v : Value) (ns : List Nat) : Prop := ∃ (a : Option Addr) (cap : Nat), v = .slice a ns.length cap ∧ ns.length ≤ cap ∧ NatsAt w a ns
theorem NRow.below {w w' : World} {v : Value} {ns : List Nat} (h : NRow w v ns) (hb : Below w.heap.size w w') : NRow w' v ns := by
  obtain ⟨a, cap, e, h1, h2⟩ := h
  exact ⟨a, cap, e, h1, h2.below hb⟩
theorem NRow.of {w : World} {base : Nat} {v : Value} {ns : List Nat} (h : NatsOwn w base v ns) : NRow w v ns := by
  obtain ⟨a, cap, e, h1, _, h2, _⟩ := h.form
  exact ⟨a, cap, e, h1, h2⟩
theorem allGD_eq (P G H : Nat) (p m : List Nat) : allG P G H p m = allD P G H p m := by
  refine List.ext_getElem (by rw [allG_length, allD_length]) fun i h1 h2 => ?_
  have h3 : i < max p.length m.length := by rw [allG_length] at h1; exact h1
  have e1 := allG_get P G H p m i h3
  have e2 := allD_get P G H p m i h3
  have e3 : multi P [G, H] [p.getD i 0, m.getD i 0] = pdD P G H (p.getD i 0) (m.getD i 0) := by unfold pdD; rw [multi_two, Nat.mul_mod]
  rw [e3, ← e2] at e1
  simpa [List.getD_eq_getElem?_getD, h1, h2] using e1
theorem allGD_le {p m : List Nat} {a b : Nat} (h1 : p.length = a) (h2 : m.length = b) (P G H : Nat) : (allG P G H p m).length ≤ a + b := by
  rw [allG_length]; omega
theorem bare_le {p : List Nat} {a : Nat} (h1 : p.length = a) (f : Nat → Nat) : (p.map f).length ≤ a := by rw [List.length_map]; omega
theorem joinL_le {rows : List (List Nat)} (h : ∀ t, (rows.getD t []).length ≤ 8) (P n : Nat) : (joinL P rows n).length ≤ 8 := by
  rw [joinL_length]; exact mxl_le h n
/-- Three rows, in a new block. -/
def LitP (w : World) (v : Value) (rows : List (List Nat)) : Prop := ∃ q, v = .slice (some ⟨q, 0, none⟩) 3 3 ∧ RowsP w q 3 rows
theorem LitP.below {w w' : World} {v : Value} {rows : List (List Nat)} (h : LitP w v rows) (hb : Below w.heap.size w w') : LitP w' v rows := by
  obtain ⟨q, e, h1⟩ := h
  exact ⟨q, e, h1.below hb⟩
theorem LitP.new {w : World} {a b c : Option Addr} {la ca lb cb lc cc : Nat} {x y z : List Nat} (hx : NatsAt w a x) (h1 : x.length = la) (k1 : (la : Int) ≤ 10000) (hy : NatsAt w b y) (h2 : y.length = lb) (k2 : (lb : Int) ≤ 10000) (hz : NatsAt w c z) (h3 : z.length = lc) (k3 : (lc : Int) ≤ 10000) :
    LitP (w.alloc (Obj.cells #[.slice a la ca, .slice b lb cb, .slice c lc cc] 29)) (.slice (some ⟨w.heap.size, 0, none⟩) 3 3) [x, y, z] := by
  have hB : Blk (w.alloc (Obj.cells #[.slice a la ca, .slice b lb cb, .slice c lc cc] 29)) w.heap.size 29 [.slice a la ca, .slice b lb cb, .slice c lc cc] := Blk.new w _ _
  have hb := (Below.refl _ w).alloc (Nat.le_refl _) (Obj.cells #[.slice a la ca, .slice b lb cb, .slice c lc cc] 29)
  refine ⟨_, rfl, hB.lt, fun t ht => ?_⟩
  match t, ht with
  | 0, _ => exact ⟨a, la, ca, hB.cell 0, hx.below hb, h1, k1⟩
  | 1, _ => exact ⟨b, lb, cb, hB.cell 1, hy.below hb, h2, k2⟩
  | 2, _ => exact ⟨c, lc, cc, hB.cell 2, hz.below hb, h3, k3⟩
def LitD (w : World) (v : Value) (rows : List (List Nat)) : Prop := ∃ q, v = .slice (some ⟨q, 0, none⟩) 3 3 ∧ RowsD w q 3 rows
theorem LitD.below {w w' : World} {v : Value} {rows : List (List Nat)} (h : LitD w v rows) (hb : Below w.heap.size w w') : LitD w' v rows := by
  obtain ⟨q, e, h1⟩ := h
  exact ⟨q, e, h1.below hb⟩
theorem LitD.new {w : World} {a b c : Option Addr} {la ca lb cb lc cc : Nat} {x y z : List Nat} (hx : BRow w (.slice a la ca) x) (hy : BRow w (.slice b lb cb) y) (hz : BRow w (.slice c lc cc) z) :
    LitD (w.alloc (Obj.cells #[.slice a la ca, .slice b lb cb, .slice c lc cc] 51)) (.slice (some ⟨w.heap.size, 0, none⟩) 3 3) [x, y, z] := by
  have hB : Blk (w.alloc (Obj.cells #[.slice a la ca, .slice b lb cb, .slice c lc cc] 51)) w.heap.size 51 [.slice a la ca, .slice b lb cb, .slice c lc cc] := Blk.new w _ _
  have hb := (Below.refl _ w).alloc (Nat.le_refl _) (Obj.cells #[.slice a la ca, .slice b lb cb, .slice c lc cc] 51)
  have key : ∀ {a : Option Addr} {l k : Nat} {x : List Nat}, BRow w (.slice a l k) x → l = x.length ∧ l ≤ k := fun h => by
    obtain ⟨a', k', e, h1, _⟩ := h
    injection e with _ e2 e3
    subst e2 e3
    exact ⟨rfl, h1⟩
  refine ⟨_, rfl, hB.lt, fun t ht => ?_⟩
  match t, ht with
  | 0, _ => exact ⟨a, la, ca, hB.cell 0, (key hx).1, (key hx).2, hx.below hb⟩
  | 1, _ => exact ⟨b, lb, cb, hB.cell 1, (key hy).1, (key hy).2, hy.below hb⟩
  | 2, _ => exact ⟨c, lc, cc, hB.cell 2, (key hz).1, (key hz).2, hz.below hb⟩
theorem rows_all {Q : List Nat → Prop} {x y z : List Nat} (h0 : Q []) (hx : Q x) (hy : Q y) (hz : Q z) : ∀ t, Q ([x, y, z].getD t [])
  | 0 => hx
  | 1 => hy
  | 2 => hz
  | n + 3 => by simpa using h0
theorem get_len {x : List Nat} (h : ∀ a ∈ x, Bt.len a ≤ 400) (i : Nat) : Bt.len (x.getD i 0) ≤ 400 := by
  rw [List.getD_eq_getElem?_getD]
  cases hx : x[i]? with
  | none => exact Nat.zero_le _
  | some a => exact h a (List.mem_of_getElem? hx)

def tabM8 (v0 : Value) (v1 : Value) (v2 : Value) (p3 : Fk KpN) (v4 : Value) (v5 : Value) (p6 : Fk KpN) (v7 : Value) (p8 : Fk KpN) (p9 : Fk KpN) (v10 : Value) (v11 : Value) (v12 : Value) (v13 : Value) (v14 : Value) (p15 : Fk KpN) (v16 : Value) (v17 : Value) (p18 : Fk KpN) (p19 : Fk KpN) (v20 : Value) (v21 : Value) (v22 : Value) : List (Fk KpN) := [.val v0, .val v1, .val v2, p3, .val v4, .val v5, p6, .val v7, p8, p9, .val v10, .val v11, .val v12, .val v13, .val v14, p15, .val v16, .val v17, p18, p19, .val v20, .val v21, .val v22]
def dstM8 : List (Option Tmp) := [some 44, some 45, some 46, some 47, some 48, some 49, some 50, some 51, some 52, some 53, some 54, some 55, some 56, some 57, some 58, some 59, some 60, some 61, some 62, some 63, some 64, some 65, some 66]
def preM8 : List (List Nat) := [[], [], [], [0, 1, 2], [], [], [0, 1, 2, 3, 5], [], [0, 1, 2, 3, 5, 6, 7], [0, 1, 2, 3, 4, 5, 6, 7, 8], [0, 1, 2, 3, 4, 5, 6, 7, 8, 9], [0, 1, 2, 3, 4, 5, 6, 7, 8, 9, 10], [0, 1, 2, 3, 4, 5, 6, 7, 8, 9, 10, 11], [0, 1, 2, 3, 4, 5, 6, 7, 8, 9, 10, 11, 12], [0, 1, 2, 3, 4, 5, 6, 7, 8, 9, 10, 11, 12], [0, 1, 2, 3, 4, 5, 6, 7, 8, 9, 10, 11, 12, 13, 14], [0, 1, 2, 3, 4, 5, 6, 7, 8, 9, 10, 11, 12], [0, 1, 2, 3, 4, 5, 6, 7, 8, 9, 10, 11, 12], [0, 1, 2, 3, 4, 5, 6, 7, 8, 9, 10, 11, 12, 13, 14, 15, 17], [0, 1, 2, 3, 4, 5, 6, 7, 8, 9, 10, 11, 12, 13, 14, 15, 16, 17, 18], [0, 1, 2, 3, 4, 5, 6, 7, 8, 9, 10, 11, 12, 13, 14, 15, 16, 17, 18, 19], [0, 1, 2, 3, 4, 5, 6, 7, 8, 9, 10, 11, 12, 13, 14, 15, 16, 17, 18, 19, 20], [0, 1, 2, 3, 4, 5, 6, 7, 8, 9, 10, 11, 12, 13, 14, 15, 16, 17, 18, 19, 20, 21]]
def maskM8 : List Bool := [false, false, false, false, false, false, false, false, false, false, false, false, false, false, false, false, false, false, false, false, false, false, false, false, false, false, false, false, false, false, false, false, false, false, false, false, false, false, false, false, false, false, false, false, true, true, true, true, true, true, true, true, true, true, true, true, true, true, true, true, true, true, true, true, true, true, true, false, false, false, false, false, false, false, false, false, false, false, false, false, false, false, false, false, false, false, false, false, false]
def tabM10 (v0 : Value) (v1 : Value) (v2 : Value) (v3 : Value) (p4 : Fk KpN) (p5 : Fk KpN) (v6 : Value) (v7 : Value) (p8 : Fk KpN) (v9 : Value) (p10 : Fk KpN) (v11 : Value) (p12 : Fk KpN) (p13 : Fk KpN) (p14 : Fk KpN) (v15 : Value) (v16 : Value) (v17 : Value) (v18 : Value) (v19 : Value) (v20 : Value) (v21 : Value) (v22 : Value) : List (Fk KpN) := [.val v0, .val v1, .val v2, .val v3, p4, p5, .val v6, .val v7, p8, .val v9, p10, .val v11, p12, p13, p14, .val v15, .val v16, .val v17, .val v18, .val v19, .val v20, .val v21, .val v22]
def dstM10 : List (Option Tmp) := [some 67, some 68, some 69, some 70, some 71, some 72, some 73, some 74, some 75, some 76, some 77, some 78, some 79, some 80, some 81, some 82, some 83, some 84, some 85, some 86, some 87, some 88, some 8]
def preM10 : List (List Nat) := [[], [], [], [], [1, 2, 3], [0, 1, 2, 3, 4], [], [], [0, 1, 2, 3, 4, 5, 7], [], [0, 1, 2, 3, 4, 5, 7, 8, 9], [], [0, 1, 2, 3, 4, 5, 7, 8, 9, 10, 11], [0, 1, 2, 3, 4, 5, 7, 8, 9, 10, 11, 12], [0, 1, 2, 3, 4, 5, 6, 7, 8, 9, 10, 11, 12, 13], [0, 1, 2, 3, 4, 5, 6, 7, 8, 9, 10, 11, 12, 13, 14], [0, 1, 2, 3, 4, 5, 6, 7, 8, 9, 10, 11, 12, 13, 14, 15], [0, 1, 2, 3, 4, 5, 6, 7, 8, 9, 10, 11, 12, 13, 14, 15, 16], [0, 1, 2, 3, 4, 5, 6, 7, 8, 9, 10, 11, 12, 13, 14, 15, 16, 17], [0, 1, 2, 3, 4, 5, 6, 7, 8, 9, 10, 11, 12, 13, 14, 15, 16, 17, 18], [0, 1, 2, 3, 4, 5, 6, 7, 8, 9, 10, 11, 12, 13, 14, 15, 16, 17, 18, 19], [0, 1, 2, 3, 4, 5, 6, 7, 8, 9, 10, 11, 12, 13, 14, 15, 16, 17, 18, 19, 20], [0, 1, 2, 3, 4, 5, 6, 7, 8, 9, 10, 11, 12, 13, 14, 15, 16, 17, 18, 19, 20, 21]]
def maskM10 : List Bool := [false, false, false, false, false, false, false, false, true, false, false, false, false, false, false, false, false, false, false, false, false, false, false, false, false, false, false, false, false, false, false, false, false, false, false, false, false, false, false, false, false, false, false, false, false, false, false, false, false, false, false, false, false, false, false, false, false, false, false, false, false, false, false, false, false, false, false, true, true, true, true, true, true, true, true, true, true, true, true, true, true, true, true, true, true, true, true, true, true]

set_option maxRecDepth 100000 in
set_option maxHeartbeats 8000000 in
theorem makes_any (n : Int) (a : Option Addr) (lp cap : Nat) (xs : List Nat) (b : Option Addr) (lm capb : Nat) (ms : List Nat) (c : Option Addr) (lo capc : Nat) (os : List Nat) (w : World)
    (ha : RdC w a (xs.map w64)) (hl : xs.length = lp) (hc : (lp : Int) ≤ cap) (hx : ∀ y ∈ xs, y < 18446744073709551616)
    (ha' : RdC w b (ms.map w64)) (hl' : ms.length = lm) (hc' : (lm : Int) ≤ capb) (hx' : ∀ y ∈ ms, y < 18446744073709551616)
    (ha'' : RdC w c (os.map w64)) (hl'' : os.length = lo) (hc'' : (lo : Int) ≤ capc) (hx'' : ∀ y ∈ os, y < 18446744073709551616) :
    Calls Try.prog 9 #[.int .i64 n, .slice a lp cap, .slice b lm capb, .slice c lo capc] w fun e w' => e = .returned (.bool true) ∧ Below w.heap.size w w' := by
  have HA := Lib.hid (And.intro ha (And.intro hl (And.intro hc hx)))
  have HM := Lib.hid (And.intro ha' (And.intro hl' (And.intro hc' hx')))
  have HO := Lib.hid (And.intro ha'' (And.intro hl'' (And.intro hc'' hx'')))
  have HANB : Hid (∀ y ∈ xs, nbytes y ≤ 120) := fun y hy => nb_64 (hx y hy)
  have HMNB : Hid (∀ y ∈ ms, nbytes y ≤ 120) := fun y hy => nb_64 (hx' y hy)
  have HONB : Hid (∀ y ∈ os, nbytes y ≤ 120) := fun y hy => nb_64 (hx'' y hy)
  have HLT : Hid ((∀ a ∈ xs, a < 2 ^ 1000) ∧ (∀ a ∈ ms, a < 2 ^ 1000) ∧ True) := ⟨fun y hy => lt_1000 (hx y hy), fun y hy => lt_1000 (hx' y hy), trivial⟩
  have HRL : Hid (∀ t i, Bt.len (([xs, ms, os].getD t []).getD i 0) ≤ 400) := rows_all (Q := fun r => ∀ i, Bt.len (r.getD i 0) ≤ 400) (fun i => by rw [show ([] : List Nat).getD i 0 = 0 by simp]; exact Nat.zero_le _) (get_len fun y hy => len_64 (hx y hy)) (get_len fun y hy => len_64 (hx' y hy)) (get_len fun y hy => len_64 (hx'' y hy))
  clear ha hc hx ha' hc' hx' ha'' hc'' hx''
  by_cases h8 : (8 : Int) < (lp : Int)
  · go_enter Try.func9, Try.ntmps9
    go_wp2_with fail
    refine (lives13_any w).mono ?_
    rintro e w2 ⟨rfl, hb2⟩
    have HB2 := Lib.hid hb2
    clear hb2
    go_wp2_with fail
    refine (lives13_any w2).mono ?_
    rintro e w3 ⟨rfl, hb3⟩
    have HB3 := Lib.hid (HB2.out.trans (hb3.mono HB2.out.size))
    clear hb3
    go_wp2_with fail
    go_ret
    exact ⟨rfl, HB3.out⟩
  by_cases h8' : (8 : Int) < (lm : Int)
  · go_enter Try.func9, Try.ntmps9
    go_wp2_with fail
    refine (lives13_any w).mono ?_
    rintro e w2 ⟨rfl, hb2⟩
    have HB2 := Lib.hid hb2
    clear hb2
    go_wp2_with fail
    refine (lives13_any w2).mono ?_
    rintro e w3 ⟨rfl, hb3⟩
    have HB3 := Lib.hid (HB2.out.trans (hb3.mono HB2.out.size))
    clear hb3
    go_wp2_with fail
    go_ret
    exact ⟨rfl, HB3.out⟩
  by_cases h8'' : (8 : Int) < (lo : Int)
  · go_enter Try.func9, Try.ntmps9
    go_wp2_with fail
    refine (lives13_any w).mono ?_
    rintro e w2 ⟨rfl, hb2⟩
    have HB2 := Lib.hid hb2
    clear hb2
    go_wp2_with fail
    refine (lives13_any w2).mono ?_
    rintro e w3 ⟨rfl, hb3⟩
    have HB3 := Lib.hid (HB2.out.trans (hb3.mono HB2.out.size))
    clear hb3
    go_wp2_with fail
    go_ret
    exact ⟨rfl, HB3.out⟩
  have HRC : Hid (∀ t, ([xs, ms, os].getD t []).length ≤ 8) := rows_all (Q := fun r => r.length ≤ 8) (by simp) (by omega) (by omega) (by omega)
  clear hl hl' hl''
  obtain ⟨k, hk⟩ : ∃ k, kOf n = k := ⟨_, rfl⟩
  have HK := Lib.hid hk
  clear hk
  go_enter Try.func9, Try.ntmps9
  go_wp2_with fail
  refine (lives13_any w).mono ?_
  rintro e w2 ⟨rfl, hb2⟩
  have HB2 := Lib.hid hb2
  clear hb2
  go_wp2_with fail
  refine (group_any n w2).mono ?_
  rintro e w3 ⟨g, rfl, hg, hb3⟩
  rw [HK.out] at hg
  have HG3 : Hid (GroupAt w3 g (gP k) (gQ k) (gG k) (gH k) (gS k)) := hg
  have HB3 := Lib.hid (HB2.out.trans (hb3.mono HB2.out.size))
  clear hb3 hg HB2
  go_wp2_with fail
  refine (bref_any g (gP k) (gQ k) (gG k) (gH k) (gS k) w3 HG3.out (gP_nb k) (gQ_nb k) (gG_nb k) (gH_nb k)).mono ?_
  rintro e w4 ⟨gv, rfl, hgv, hb4⟩
  have HG4 := Lib.hid (HG3.out.below hb4)
  have HB4 := Lib.hid (HB3.out.trans (hb4.mono HB3.out.size))
  obtain ⟨ra, rl, rc, qa, ql, qc, ga, gl, gc, ja, jl, jc, rfl, h1, h2, h3, h4⟩ := hgv
  have HV4 := Lib.hid (And.intro h1 (And.intro h2 (And.intro h3 h4)))
  clear hb4 h1 h2 h3 h4 HB3 HG3
  go_wp2_with fail
  have hbel := (Below.refl _ w4).alloc (Nat.le_refl _) (Obj.cells #[Value.slice ra rl rc, Value.slice qa ql qc, Value.slice ga gl gc, Value.slice ja jl jc] 62)
  obtain ⟨B, hBs⟩ : ∃ B, B = w4.heap.size := ⟨_, rfl⟩
  have hblk : Blk (w4.alloc (Obj.cells #[Value.slice ra rl rc, Value.slice qa ql qc, Value.slice ga gl gc, Value.slice ja jl jc] 62)) B 62 [.slice ra rl rc, .slice qa ql qc, .slice ga gl gc, .slice ja jl jc] := Blk.new' w4 _ _ B hBs
  rw [← hBs]
  clear hBs
  generalize w4.alloc (Obj.cells #[Value.slice ra rl rc, Value.slice qa ql qc, Value.slice ga gl gc, Value.slice ja jl jc] 62) = w5 at hblk hbel ⊢
  have HBK5 : Hid (Blk w5 B 62 [.slice ra rl rc, .slice qa ql qc, .slice ga gl gc, .slice ja jl jc]) := hblk
  have HG5 := Lib.hid (HG4.out.below hbel)
  have HB5 := Lib.hid (HB4.out.trans (hbel.mono HB4.out.size))
  have HV5 := Lib.hid (And.intro (HV4.out.1.below hbel) (And.intro (HV4.out.2.1.below hbel) (And.intro (HV4.out.2.2.1.below hbel) (HV4.out.2.2.2.below hbel))))
  clear hblk hbel HG4 HB4 HV4
  refine (nums_any a lp cap xs w5 (HA.out.1.below HB5.out) HA.out.2.1 HA.out.2.2.1 (by omega) HA.out.2.2.2).mono ?_
  rintro e wa ⟨v, rfl, hrow, hba⟩
  obtain ⟨pa, pc, rfl, hp1, _, hat, _⟩ := hrow.form
  rw [HA.out.2.1] at hp1 ⊢
  have HNa := Lib.hid hat
  have HBa := Lib.hid (HB5.out.trans (hba.mono HB5.out.size))
  have hpc : (lp : Int) ≤ pc := by omega
  have hba' : BB w5 wa := hba
  clear hrow hat hba hp1
  go_wp2_with fail
  refine (nums_any b lm capb ms wa (HM.out.1.below HBa.out) HM.out.2.1 HM.out.2.2.1 (by omega) HM.out.2.2.2).mono ?_
  rintro e wb ⟨v, rfl, hrow, hbb⟩
  obtain ⟨ma, mc, rfl, hp1, _, hat, _⟩ := hrow.form
  rw [HM.out.2.1] at hp1 ⊢
  have HNb := Lib.hid hat
  have HNa' := Lib.hid (HNa.out.below hbb)
  have HBb := Lib.hid (HBa.out.trans (hbb.mono HBa.out.size))
  have hmc : (lm : Int) ≤ mc := by omega
  have hbb' : BB w5 wb := BB.step hba' hbb
  clear hrow hat hbb hp1 hba' HNa HBa
  go_wp2_with fail
  refine (nums_any c lo capc os wb (HO.out.1.below HBb.out) HO.out.2.1 HO.out.2.2.1 (by omega) HO.out.2.2.2).mono ?_
  rintro e w6 ⟨v, rfl, hrow, hb6⟩
  obtain ⟨oa, oc, rfl, hp1, _, hat, _⟩ := hrow.form
  rw [HO.out.2.1] at hp1 ⊢
  have HN3 := Lib.hid hat
  have HN2 := Lib.hid (HNb.out.below hb6)
  have HN1 := Lib.hid (HNa'.out.below hb6)
  have HB6 := Lib.hid (HBb.out.trans (hb6.mono HBb.out.size))
  have hoc : (lo : Int) ≤ oc := by omega
  have hb56 : BB w5 w6 := BB.step hbb' hb6
  have HG6 := Lib.hid (HG5.out.below hb56)
  have hBK := HBK5.out.below hb56 HBK5.out.lt
  have kP : ∀ w', BB w6 w' → w'.cell? ⟨B, 0, none⟩ = some (.slice ra rl rc) := fun w' hb => (BB.cell hb hBK.lt).trans (hBK.cell 0)
  have kQ : ∀ w', BB w6 w' → w'.cell? ⟨B, 1, none⟩ = some (.slice qa ql qc) := fun w' hb => (BB.cell hb hBK.lt).trans (hBK.cell 1)
  have kG : ∀ w', BB w6 w' → w'.cell? ⟨B, 2, none⟩ = some (.slice ga gl gc) := fun w' hb => (BB.cell hb hBK.lt).trans (hBK.cell 2)
  have kH : ∀ w', BB w6 w' → w'.cell? ⟨B, 3, none⟩ = some (.slice ja jl jc) := fun w' hb => (BB.cell hb hBK.lt).trans (hBK.cell 3)
  have HBG : Hid (∀ w', BB w6 w' → BG w' (.agg #[.slice ra rl rc, .slice qa ql qc, .slice ga gl gc, .slice ja jl jc]) (gP k) (gQ k) (gG k) (gH k)) := fun w' h => ⟨ra, rl, rc, qa, ql, qc, ga, gl, gc, ja, jl, jc, rfl, (HV5.out.1.below hb56).below h, (HV5.out.2.1.below hb56).below h, (HV5.out.2.2.1.below hb56).below h, (HV5.out.2.2.2.below hb56).below h⟩
  clear hrow hat hb6 hp1 hBK HBK5 HV5 HG5 HB5 HNb HNa' HBb hbb' hb56
  go_wp2_with fail
  refine wp_region_mix (fun _ w' => BB w6 w') (GF (tabM8 (.pointer (some ⟨g, 0, none⟩)) (.slice pa lp pc) (.slice ma lm mc) (Fk.rel (fun v w => NRow w v (allG (gP k) (gG k) (gH k) xs ms)) (fun _ _ _ hb h => h.below hb)) (.agg #[.slice ra rl rc, .slice qa ql qc, .slice ga gl gc, .slice ja jl jc]) (.slice pa lp pc) (Fk.rel (fun v w => BRow w v xs) (fun _ _ _ hb h => h.below hb)) (.slice ma lm mc) (Fk.rel (fun v w => BRow w v ms) (fun _ _ _ hb h => h.below hb)) (Fk.rel (fun v w => BRow w v (allD (gP k) (gG k) (gH k) xs ms)) (fun _ _ _ hb h => h.below hb)) (.bool true) (.bool false) (.bool false) (.pointer (some ⟨g, 0, none⟩)) (.slice pa lp pc) (Fk.rel (fun v w => NRow w v (xs.map fun a => gG k ^ a % gP k)) (fun _ _ _ hb h => h.below hb)) (.agg #[.slice ra rl rc, .slice qa ql qc, .slice ga gl gc, .slice ja jl jc]) (.slice pa lp pc) (Fk.rel (fun v w => BRow w v xs) (fun _ _ _ hb h => h.below hb)) (Fk.rel (fun v w => BRow w v (xs.map fun a => gG k ^ a % gP k)) (fun _ _ _ hb h => h.below hb)) (.bool true) (.bool false) (.bool false))) maskM8 dstM8 preM8 (by kernel_rfl) (by kernel_rfl) rfl (by kernel_rfl) (by kernel_rfl) (by kernel_rfl) (by kernel_rfl) (BB.drew (BB.refl _)) ?_ ?_
  · refine StepsM.cons (fun l g' wu hB hl hn hp K hK => ?_) ?_
    · simp only [mkM, maskM8, mixM, Nat.reduceAdd] at hK ⊢; simp only [Act.put, List.setIfInBounds_toArray, List.set_cons_zero, List.set_cons_succ] at hK; go_simp; exact hK.out _ _ hB GF.same rfl
    refine StepsM.cons (fun l g' wu hB hl hn hp K hK => ?_) ?_
    · simp only [mkM, maskM8, mixM, Nat.reduceAdd] at hK ⊢; simp only [Act.put, List.setIfInBounds_toArray, List.set_cons_zero, List.set_cons_succ] at hK; go_simp; exact hK.out _ _ hB GF.same rfl
    refine StepsM.cons (fun l g' wu hB hl hn hp K hK => ?_) ?_
    · simp only [mkM, maskM8, mixM, Nat.reduceAdd] at hK ⊢; simp only [Act.put, List.setIfInBounds_toArray, List.set_cons_zero, List.set_cons_succ] at hK; go_simp; exact hK.out _ _ hB GF.same rfl
    refine StepsM.cons (fun l g' wu hB hl hn hp K hK => ?_) ?_
    · have hbb := hB; have e0 : g' 44 = .pointer (some ⟨g, 0, none⟩) := (hp 0 (by decide)).2; have e1 : g' 45 = .slice pa lp pc := (hp 1 (by decide)).2; have e2 : g' 46 = .slice ma lm mc := (hp 2 (by decide)).2; simp only [mkM, maskM8, mixM, Nat.reduceAdd, e0, e1, e2] at hK ⊢; clear e0 e1 e2; simp only [Act.put, List.setIfInBounds_toArray, List.set_cons_zero, List.set_cons_succ] at hK; go_simp; go_at_call 42; refine (pall_any g (gP k) (gQ k) (gG k) (gH k) (gS k) pa lp pc xs ma lm mc ms _ (HG6.out.below hbb) (gP_one k) HLT.out.1 HLT.out.2.1 (HN1.out.below hbb) HA.out.2.1 (by omega) (HN2.out.below hbb) HM.out.2.1 (by omega)).mono ?_; rintro e w7 ⟨z, rfl, hz, hb⟩; go_wp2_with fail; exact hK.out _ _ (BB.step hbb hb) (GF.below hb) (NRow.of hz)
    refine StepsM.cons (fun l g' wu hB hl hn hp K hK => ?_) ?_
    · have hbb := hB; have c0 := kP _ hbb; have c1 := kQ _ hbb; have c2 := kG _ hbb; have c3 := kH _ hbb; simp only [mkM, maskM8, mixM, Nat.reduceAdd] at hK ⊢; simp only [Act.put, List.setIfInBounds_toArray, List.set_cons_zero, List.set_cons_succ] at hK; go_simp; exact hK.out _ _ hB GF.same rfl
    refine StepsM.cons (fun l g' wu hB hl hn hp K hK => ?_) ?_
    · simp only [mkM, maskM8, mixM, Nat.reduceAdd] at hK ⊢; simp only [Act.put, List.setIfInBounds_toArray, List.set_cons_zero, List.set_cons_succ] at hK; go_simp; exact hK.out _ _ hB GF.same rfl
    refine StepsM.cons (fun l g' wu hB hl hn hp K hK => ?_) ?_
    · have hbb := hB; have e5 : g' 49 = .slice pa lp pc := (hp 5 (by decide)).2; simp only [mkM, maskM8, mixM, Nat.reduceAdd, e5] at hK ⊢; clear e5; simp only [Act.put, List.setIfInBounds_toArray, List.set_cons_zero, List.set_cons_succ] at hK; go_simp; go_at_call 45; refine (refs13_any pa lp pc xs _ (HN1.out.below hbb) HA.out.2.1 hpc (by omega) HANB.out).mono ?_; rintro e w7 ⟨z, rfl, hz, hb⟩; go_wp2_with fail; exact hK.out _ _ (BB.step hbb hb) (GF.below hb) hz
    refine StepsM.cons (fun l g' wu hB hl hn hp K hK => ?_) ?_
    · simp only [mkM, maskM8, mixM, Nat.reduceAdd] at hK ⊢; simp only [Act.put, List.setIfInBounds_toArray, List.set_cons_zero, List.set_cons_succ] at hK; go_simp; exact hK.out _ _ hB GF.same rfl
    refine StepsM.cons (fun l g' wu hB hl hn hp K hK => ?_) ?_
    · have hbb := hB; have e7 : g' 51 = .slice ma lm mc := (hp 7 (by decide)).2; simp only [mkM, maskM8, mixM, Nat.reduceAdd, e7] at hK ⊢; clear e7; simp only [Act.put, List.setIfInBounds_toArray, List.set_cons_zero, List.set_cons_succ] at hK; go_simp; go_at_call 45; refine (refs13_any ma lm mc ms _ (HN2.out.below hbb) HM.out.2.1 hmc (by omega) HMNB.out).mono ?_; rintro e w7 ⟨z, rfl, hz, hb⟩; go_wp2_with fail; exact hK.out _ _ (BB.step hbb hb) (GF.below hb) hz
    refine StepsM.cons (fun l g' wu hB hl hn hp K hK => ?_) ?_
    · have hbb := hB; have e4 : g' 48 = .agg #[.slice ra rl rc, .slice qa ql qc, .slice ga gl gc, .slice ja jl jc] := (hp 4 (by decide)).2; have h6 : BRow wu (g' 50) xs := (hp 6 (by decide)).2; have h8 : BRow wu (g' 52) ms := (hp 8 (by decide)).2; simp only [mkM, maskM8, mixM, Nat.reduceAdd, e4] at hK ⊢; clear e4; simp only [Act.put, List.setIfInBounds_toArray, List.set_cons_zero, List.set_cons_succ] at hK; go_simp; go_at_call 56; refine (ball_any _ _ _ (gP k) (gQ k) (gG k) (gH k) xs ms _ (HBG.out _ hbb) h6 h8 (Nat.lt_trans (by decide) (gP_one k)) (gP_len k) (by have := HA.out.2.1; omega) (by have := HM.out.2.1; omega)).mono ?_; rintro e w7 ⟨z, rfl, hz, hb⟩; go_wp2_with fail; exact hK.out _ _ (BB.step hbb hb) (GF.below hb) hz
    refine StepsM.cons (fun l g' wu hB hl hn hp K hK => ?_) ?_
    · have hbb := hB; have h3 : NRow wu (g' 47) (allG (gP k) (gG k) (gH k) xs ms) := (hp 3 (by decide)).2; have h9 : BRow wu (g' 53) (allD (gP k) (gG k) (gH k) xs ms) := (hp 9 (by decide)).2; obtain ⟨va, vc, ez, hv1, hv2⟩ := h3; obtain ⟨n9, hn9⟩ : ∃ n9, (allG (gP k) (gG k) (gH k) xs ms).length = n9 := ⟨_, rfl⟩; have b9 : (n9 : Int) ≤ 10000 := (by have := allGD_le HA.out.2.1 HM.out.2.1 (gP k) (gG k) (gH k); omega); rw [hn9] at ez hv1; have HN9 := Lib.hid hn9; clear hn9; simp only [mkM, maskM8, mixM, Nat.reduceAdd, ez] at hK ⊢; simp only [Act.put, List.setIfInBounds_toArray, List.set_cons_zero, List.set_cons_succ] at hK; go_simp; go_at_call 55; refine (same13_any va n9 vc _ _ _ _ hv2 HN9.out (by omega) b9 h9).mono ?_; rw [show decide (allG (gP k) (gG k) (gH k) xs ms = allD (gP k) (gG k) (gH k) xs ms) = true from decide_eq_true (allGD_eq _ _ _ _ _)]; rintro e w7 ⟨rfl, hb⟩; go_wp2_with fail; exact hK.out _ _ (BB.step hbb hb) (GF.below hb) rfl
    refine StepsM.cons (fun l g' wu hB hl hn hp K hK => ?_) ?_
    · have e10 : g' 54 = .bool true := (hp 10 (by decide)).2; simp only [mkM, maskM8, mixM, Nat.reduceAdd, e10] at hK ⊢; clear e10; simp only [Act.put, List.setIfInBounds_toArray, List.set_cons_zero, List.set_cons_succ] at hK; go_simp; exact hK.out _ _ hB GF.same rfl
    refine StepsM.cons (fun l g' wu hB hl hn hp K hK => ?_) ?_
    · have e11 : g' 55 = .bool false := (hp 11 (by decide)).2; simp only [mkM, maskM8, mixM, Nat.reduceAdd, e11] at hK ⊢; clear e11; simp only [Act.put, List.setIfInBounds_toArray, List.set_cons_zero, List.set_cons_succ] at hK; go_simp; exact hK.out _ _ hB GF.same rfl
    refine StepsM.cons (fun l g' wu hB hl hn hp K hK => ?_) ?_
    · have e12 : g' 56 = .bool false := (hp 12 (by decide)).2; simp only [mkM, maskM8, mixM, Nat.reduceAdd, e12] at hK ⊢; clear e12; simp only [Act.put, List.setIfInBounds_toArray, List.set_cons_zero, List.set_cons_succ] at hK; go_simp; exact hK.out _ _ hB GF.same rfl
    refine StepsM.cons (fun l g' wu hB hl hn hp K hK => ?_) ?_
    · have e12 : g' 56 = .bool false := (hp 12 (by decide)).2; simp only [mkM, maskM8, mixM, Nat.reduceAdd, e12] at hK ⊢; clear e12; simp only [Act.put, List.setIfInBounds_toArray, List.set_cons_zero, List.set_cons_succ] at hK; go_simp; exact hK.out _ _ hB GF.same rfl
    refine StepsM.cons (fun l g' wu hB hl hn hp K hK => ?_) ?_
    · have hbb := hB; have e12 : g' 56 = .bool false := (hp 12 (by decide)).2; have e13 : g' 57 = .pointer (some ⟨g, 0, none⟩) := (hp 13 (by decide)).2; have e14 : g' 58 = .slice pa lp pc := (hp 14 (by decide)).2; simp only [mkM, maskM8, mixM, Nat.reduceAdd, e12, e13, e14] at hK ⊢; clear e12 e13 e14; simp only [Act.put, List.setIfInBounds_toArray, List.set_cons_zero, List.set_cons_succ] at hK; go_simp; go_at_call 54; refine (pbare_any g (gP k) (gQ k) (gG k) (gH k) (gS k) pa lp pc xs _ (HG6.out.below hbb) (HN1.out.below hbb) HA.out.2.1 (by omega)).mono ?_; rintro e w7 ⟨z, rfl, hz, hb⟩; go_wp2_with fail; exact hK.out _ _ (BB.step hbb hb) (GF.below hb) (NRow.of hz)
    refine StepsM.cons (fun l g' wu hB hl hn hp K hK => ?_) ?_
    · have hbb := hB; have e12 : g' 56 = .bool false := (hp 12 (by decide)).2; have c0 := kP _ hbb; have c1 := kQ _ hbb; have c2 := kG _ hbb; have c3 := kH _ hbb; simp only [mkM, maskM8, mixM, Nat.reduceAdd, e12] at hK ⊢; clear e12; simp only [Act.put, List.setIfInBounds_toArray, List.set_cons_zero, List.set_cons_succ] at hK; go_simp; exact hK.out _ _ hB GF.same rfl
    refine StepsM.cons (fun l g' wu hB hl hn hp K hK => ?_) ?_
    · have e12 : g' 56 = .bool false := (hp 12 (by decide)).2; simp only [mkM, maskM8, mixM, Nat.reduceAdd, e12] at hK ⊢; clear e12; simp only [Act.put, List.setIfInBounds_toArray, List.set_cons_zero, List.set_cons_succ] at hK; go_simp; exact hK.out _ _ hB GF.same rfl
    refine StepsM.cons (fun l g' wu hB hl hn hp K hK => ?_) ?_
    · have hbb := hB; have e12 : g' 56 = .bool false := (hp 12 (by decide)).2; have e17 : g' 61 = .slice pa lp pc := (hp 17 (by decide)).2; simp only [mkM, maskM8, mixM, Nat.reduceAdd, e12, e17] at hK ⊢; clear e12 e17; simp only [Act.put, List.setIfInBounds_toArray, List.set_cons_zero, List.set_cons_succ] at hK; go_simp; go_at_call 45; refine (refs13_any pa lp pc xs _ (HN1.out.below hbb) HA.out.2.1 hpc (by omega) HANB.out).mono ?_; rintro e w7 ⟨z, rfl, hz, hb⟩; go_wp2_with fail; exact hK.out _ _ (BB.step hbb hb) (GF.below hb) hz
    refine StepsM.cons (fun l g' wu hB hl hn hp K hK => ?_) ?_
    · have hbb := hB; have e12 : g' 56 = .bool false := (hp 12 (by decide)).2; have e16 : g' 60 = .agg #[.slice ra rl rc, .slice qa ql qc, .slice ga gl gc, .slice ja jl jc] := (hp 16 (by decide)).2; have h18 : BRow wu (g' 62) xs := (hp 18 (by decide)).2; simp only [mkM, maskM8, mixM, Nat.reduceAdd, e12, e16] at hK ⊢; clear e12 e16; simp only [Act.put, List.setIfInBounds_toArray, List.set_cons_zero, List.set_cons_succ] at hK; go_simp; go_at_call 57; refine (bbare_any _ _ (gP k) (gQ k) (gG k) (gH k) xs _ (HBG.out _ hbb) h18 (Nat.lt_trans (by decide) (gP_one k)) (gP_len k) (by have := HA.out.2.1; omega)).mono ?_; rintro e w7 ⟨z, rfl, hz, hb⟩; go_wp2_with fail; exact hK.out _ _ (BB.step hbb hb) (GF.below hb) hz
    refine StepsM.cons (fun l g' wu hB hl hn hp K hK => ?_) ?_
    · have hbb := hB; have e12 : g' 56 = .bool false := (hp 12 (by decide)).2; have h15 : NRow wu (g' 59) (xs.map fun a => gG k ^ a % gP k) := (hp 15 (by decide)).2; have h19 : BRow wu (g' 63) (xs.map fun a => gG k ^ a % gP k) := (hp 19 (by decide)).2; obtain ⟨va, vc, ez, hv1, hv2⟩ := h15; obtain ⟨n9, hn9⟩ : ∃ n9, (xs.map fun a => gG k ^ a % gP k).length = n9 := ⟨_, rfl⟩; have b9 : (n9 : Int) ≤ 10000 := (by have := bare_le HA.out.2.1 (fun a => gG k ^ a % gP k); omega); rw [hn9] at ez hv1; have HN9 := Lib.hid hn9; clear hn9; simp only [mkM, maskM8, mixM, Nat.reduceAdd, e12, ez] at hK ⊢; clear e12; simp only [Act.put, List.setIfInBounds_toArray, List.set_cons_zero, List.set_cons_succ] at hK; go_simp; go_at_call 55; refine (same13_any va n9 vc _ _ _ _ hv2 HN9.out (by omega) b9 h19).mono ?_; rw [show decide ((xs.map fun a => gG k ^ a % gP k) = (xs.map fun a => gG k ^ a % gP k)) = true from decide_eq_true (rfl)]; rintro e w7 ⟨rfl, hb⟩; go_wp2_with fail; exact hK.out _ _ (BB.step hbb hb) (GF.below hb) rfl
    refine StepsM.cons (fun l g' wu hB hl hn hp K hK => ?_) ?_
    · have e12 : g' 56 = .bool false := (hp 12 (by decide)).2; have e20 : g' 64 = .bool true := (hp 20 (by decide)).2; simp only [mkM, maskM8, mixM, Nat.reduceAdd, e12, e20] at hK ⊢; clear e12 e20; simp only [Act.put, List.setIfInBounds_toArray, List.set_cons_zero, List.set_cons_succ] at hK; go_simp; exact hK.out _ _ hB GF.same rfl
    refine StepsM.cons (fun l g' wu hB hl hn hp K hK => ?_) ?_
    · have e12 : g' 56 = .bool false := (hp 12 (by decide)).2; have e21 : g' 65 = .bool false := (hp 21 (by decide)).2; simp only [mkM, maskM8, mixM, Nat.reduceAdd, e12, e21] at hK ⊢; clear e12 e21; simp only [Act.put, List.setIfInBounds_toArray, List.set_cons_zero, List.set_cons_succ] at hK; go_simp; exact hK.out _ _ hB GF.same rfl
    exact StepsM.nil
  · intro l g' wu hall hB hG
    have e22 : g' 66 = .bool false := hG 22 (by decide)
    have hbb8 : BB w6 wu := hB
    simp only [mkM, maskM8, mixM, Nat.reduceAdd, e22]
    clear hG hall hB e22
    obtain ⟨w8, rfl⟩ : ∃ w8, w8 = wu := ⟨wu, rfl⟩
    go_wp2_with fail
    refine wp_region_mix (fun _ w' => BB w8 w') (GF (tabM10 (.pointer (some ⟨g, 0, none⟩)) (.slice pa lp pc) (.slice ma lm mc) (.slice oa lo oc) (Fk.rel (fun v w => LitP w v [xs, ms, os]) (fun _ _ _ hb h => h.below hb)) (Fk.rel (fun v w => NRow w v (joinL (gP k) [xs, ms, os] 3)) (fun _ _ _ hb h => h.below hb)) (.agg #[.slice ra rl rc, .slice qa ql qc, .slice ga gl gc, .slice ja jl jc]) (.slice pa lp pc) (Fk.rel (fun v w => BRow w v xs) (fun _ _ _ hb h => h.below hb)) (.slice ma lm mc) (Fk.rel (fun v w => BRow w v ms) (fun _ _ _ hb h => h.below hb)) (.slice oa lo oc) (Fk.rel (fun v w => BRow w v os) (fun _ _ _ hb h => h.below hb)) (Fk.rel (fun v w => LitD w v [xs, ms, os]) (fun _ _ _ hb h => h.below hb)) (Fk.rel (fun v w => BRow w v (joinD (gP k) [xs, ms, os] 3)) (fun _ _ _ hb h => h.below hb)) (.bool true) (.bool true) (.pointer (some ⟨g, 0, none⟩)) (.slice none 0 0) (.int .i64 0) (.bool true) (.bool true) (.bool true))) maskM10 dstM10 preM10 (by kernel_rfl) (by kernel_rfl) rfl (by kernel_rfl) (by kernel_rfl) (by kernel_rfl) (by kernel_rfl) (BB.drew (BB.refl _)) ?_ ?_
    · refine StepsM.cons (fun l g' wu hB hl hn hp K hK => ?_) ?_
      · simp only [mkM, maskM10, mixM, Nat.reduceAdd] at hK ⊢; simp only [Act.put, List.setIfInBounds_toArray, List.set_cons_zero, List.set_cons_succ] at hK; go_simp; exact hK.out _ _ hB GF.same rfl
      refine StepsM.cons (fun l g' wu hB hl hn hp K hK => ?_) ?_
      · simp only [mkM, maskM10, mixM, Nat.reduceAdd] at hK ⊢; simp only [Act.put, List.setIfInBounds_toArray, List.set_cons_zero, List.set_cons_succ] at hK; go_simp; exact hK.out _ _ hB GF.same rfl
      refine StepsM.cons (fun l g' wu hB hl hn hp K hK => ?_) ?_
      · simp only [mkM, maskM10, mixM, Nat.reduceAdd] at hK ⊢; simp only [Act.put, List.setIfInBounds_toArray, List.set_cons_zero, List.set_cons_succ] at hK; go_simp; exact hK.out _ _ hB GF.same rfl
      refine StepsM.cons (fun l g' wu hB hl hn hp K hK => ?_) ?_
      · simp only [mkM, maskM10, mixM, Nat.reduceAdd] at hK ⊢; simp only [Act.put, List.setIfInBounds_toArray, List.set_cons_zero, List.set_cons_succ] at hK; go_simp; exact hK.out _ _ hB GF.same rfl
      refine StepsM.cons (fun l g' wu hB hl hn hp K hK => ?_) ?_
      · have hbb := hB; have e1 : g' 68 = .slice pa lp pc := (hp 1 (by decide)).2; have e2 : g' 69 = .slice ma lm mc := (hp 2 (by decide)).2; have e3 : g' 70 = .slice oa lo oc := (hp 3 (by decide)).2; have hx := HN1.out.below (BB.step hbb8 hbb); have hm := HN2.out.below (BB.step hbb8 hbb); have ho := HN3.out.below (BB.step hbb8 hbb); simp only [mkM, maskM10, mixM, Nat.reduceAdd, e1, e2, e3] at hK ⊢; clear e1 e2 e3; simp only [Act.put, List.setIfInBounds_toArray, List.set_cons_zero, List.set_cons_succ] at hK; go_simp; exact hK.out _ _ (BB.step hbb ((Below.refl _ _).alloc (Nat.le_refl _) _)) GF.alloc (LitP.new hx HA.out.2.1 (by omega) hm HM.out.2.1 (by omega) ho HO.out.2.1 (by omega))
      refine StepsM.cons (fun l g' wu hB hl hn hp K hK => ?_) ?_
      · have hbb := hB; have e0 : g' 67 = .pointer (some ⟨g, 0, none⟩) := (hp 0 (by decide)).2; have h4 : LitP wu (g' 71) [xs, ms, os] := (hp 4 (by decide)).2; obtain ⟨q, ez, hq⟩ := h4; simp only [mkM, maskM10, mixM, Nat.reduceAdd, e0, ez] at hK ⊢; clear e0; simp only [Act.put, List.setIfInBounds_toArray, List.set_cons_zero, List.set_cons_succ] at hK; go_simp; go_at_call 41; refine (pjoinl_any g (gP k) (gQ k) (gG k) (gH k) (gS k) q 3 [xs, ms, os] _ (HG6.out.below (BB.step hbb8 hbb)) hq (by decide)).mono ?_; rintro e w7 ⟨z, rfl, hz, hb⟩; go_wp2_with fail; exact hK.out _ _ (BB.step hbb hb) (GF.below hb) (NRow.of hz)
      refine StepsM.cons (fun l g' wu hB hl hn hp K hK => ?_) ?_
      · have hbb := hB; have c0 := kP _ (BB.step hbb8 hbb); have c1 := kQ _ (BB.step hbb8 hbb); have c2 := kG _ (BB.step hbb8 hbb); have c3 := kH _ (BB.step hbb8 hbb); simp only [mkM, maskM10, mixM, Nat.reduceAdd] at hK ⊢; simp only [Act.put, List.setIfInBounds_toArray, List.set_cons_zero, List.set_cons_succ] at hK; go_simp; exact hK.out _ _ hB GF.same rfl
      refine StepsM.cons (fun l g' wu hB hl hn hp K hK => ?_) ?_
      · simp only [mkM, maskM10, mixM, Nat.reduceAdd] at hK ⊢; simp only [Act.put, List.setIfInBounds_toArray, List.set_cons_zero, List.set_cons_succ] at hK; go_simp; exact hK.out _ _ hB GF.same rfl
      refine StepsM.cons (fun l g' wu hB hl hn hp K hK => ?_) ?_
      · have hbb := hB; have e7 : g' 74 = .slice pa lp pc := (hp 7 (by decide)).2; simp only [mkM, maskM10, mixM, Nat.reduceAdd, e7] at hK ⊢; clear e7; simp only [Act.put, List.setIfInBounds_toArray, List.set_cons_zero, List.set_cons_succ] at hK; go_simp; go_at_call 45; refine (refs13_any pa lp pc xs _ (HN1.out.below (BB.step hbb8 hbb)) HA.out.2.1 hpc (by omega) HANB.out).mono ?_; rintro e w7 ⟨z, rfl, hz, hb⟩; go_wp2_with fail; exact hK.out _ _ (BB.step hbb hb) (GF.below hb) hz
      refine StepsM.cons (fun l g' wu hB hl hn hp K hK => ?_) ?_
      · simp only [mkM, maskM10, mixM, Nat.reduceAdd] at hK ⊢; simp only [Act.put, List.setIfInBounds_toArray, List.set_cons_zero, List.set_cons_succ] at hK; go_simp; exact hK.out _ _ hB GF.same rfl
      refine StepsM.cons (fun l g' wu hB hl hn hp K hK => ?_) ?_
      · have hbb := hB; have e9 : g' 76 = .slice ma lm mc := (hp 9 (by decide)).2; simp only [mkM, maskM10, mixM, Nat.reduceAdd, e9] at hK ⊢; clear e9; simp only [Act.put, List.setIfInBounds_toArray, List.set_cons_zero, List.set_cons_succ] at hK; go_simp; go_at_call 45; refine (refs13_any ma lm mc ms _ (HN2.out.below (BB.step hbb8 hbb)) HM.out.2.1 hmc (by omega) HMNB.out).mono ?_; rintro e w7 ⟨z, rfl, hz, hb⟩; go_wp2_with fail; exact hK.out _ _ (BB.step hbb hb) (GF.below hb) hz
      refine StepsM.cons (fun l g' wu hB hl hn hp K hK => ?_) ?_
      · simp only [mkM, maskM10, mixM, Nat.reduceAdd] at hK ⊢; simp only [Act.put, List.setIfInBounds_toArray, List.set_cons_zero, List.set_cons_succ] at hK; go_simp; exact hK.out _ _ hB GF.same rfl
      refine StepsM.cons (fun l g' wu hB hl hn hp K hK => ?_) ?_
      · have hbb := hB; have e11 : g' 78 = .slice oa lo oc := (hp 11 (by decide)).2; simp only [mkM, maskM10, mixM, Nat.reduceAdd, e11] at hK ⊢; clear e11; simp only [Act.put, List.setIfInBounds_toArray, List.set_cons_zero, List.set_cons_succ] at hK; go_simp; go_at_call 45; refine (refs13_any oa lo oc os _ (HN3.out.below (BB.step hbb8 hbb)) HO.out.2.1 hoc (by omega) HONB.out).mono ?_; rintro e w7 ⟨z, rfl, hz, hb⟩; go_wp2_with fail; exact hK.out _ _ (BB.step hbb hb) (GF.below hb) hz
      refine StepsM.cons (fun l g' wu hB hl hn hp K hK => ?_) ?_
      · have hbb := hB; have h8 : BRow wu (g' 75) xs := (hp 8 (by decide)).2; have h10 : BRow wu (g' 77) ms := (hp 10 (by decide)).2; have h12 : BRow wu (g' 79) os := (hp 12 (by decide)).2; obtain ⟨z1, y1, ez1, _⟩ := h8.form; obtain ⟨z2, y2, ez2, _⟩ := h10.form; obtain ⟨z3, y3, ez3, _⟩ := h12.form; rw [ez1] at h8; rw [ez2] at h10; rw [ez3] at h12; simp only [mkM, maskM10, mixM, Nat.reduceAdd, ez1, ez2, ez3] at hK ⊢; simp only [Act.put, List.setIfInBounds_toArray, List.set_cons_zero, List.set_cons_succ] at hK; go_simp; exact hK.out _ _ (BB.step hbb ((Below.refl _ _).alloc (Nat.le_refl _) _)) GF.alloc (LitD.new h8 h10 h12)
      refine StepsM.cons (fun l g' wu hB hl hn hp K hK => ?_) ?_
      · have hbb := hB; have e6 : g' 73 = .agg #[.slice ra rl rc, .slice qa ql qc, .slice ga gl gc, .slice ja jl jc] := (hp 6 (by decide)).2; have h13 : LitD wu (g' 80) [xs, ms, os] := (hp 13 (by decide)).2; obtain ⟨q, ez, hq⟩ := h13; simp only [mkM, maskM10, mixM, Nat.reduceAdd, e6, ez] at hK ⊢; clear e6; simp only [Act.put, List.setIfInBounds_toArray, List.set_cons_zero, List.set_cons_succ] at hK; go_simp; go_at_call 58; refine (bjoin_any _ (gP k) (gQ k) (gG k) (gH k) q 3 [xs, ms, os] _ (HBG.out _ (BB.step hbb8 hbb)) hq (Nat.lt_trans (by decide) (gP_one k)) (gP_len k) (by decide) (fun t => Nat.le_trans (HRC.out t) (by decide)) HRL.out).mono ?_; rintro e w7 ⟨z, rfl, hz, hb⟩; go_wp2_with fail; exact hK.out _ _ (BB.step hbb hb) (GF.below hb) hz
      refine StepsM.cons (fun l g' wu hB hl hn hp K hK => ?_) ?_
      · have hbb := hB; have h5 : NRow wu (g' 72) (joinL (gP k) [xs, ms, os] 3) := (hp 5 (by decide)).2; have h14 : BRow wu (g' 81) (joinD (gP k) [xs, ms, os] 3) := (hp 14 (by decide)).2; obtain ⟨va, vc, ez, hv1, hv2⟩ := h5; obtain ⟨n9, hn9⟩ : ∃ n9, (joinL (gP k) [xs, ms, os] 3).length = n9 := ⟨_, rfl⟩; have b9 : (n9 : Int) ≤ 10000 := (by have := joinL_le HRC.out (gP k) 3; omega); rw [hn9] at ez hv1; have HN9 := Lib.hid hn9; clear hn9; simp only [mkM, maskM10, mixM, Nat.reduceAdd, ez] at hK ⊢; simp only [Act.put, List.setIfInBounds_toArray, List.set_cons_zero, List.set_cons_succ] at hK; go_simp; go_at_call 55; refine (same13_any va n9 vc _ _ _ _ hv2 HN9.out (by omega) b9 h14).mono ?_; rw [show decide (joinL (gP k) [xs, ms, os] 3 = joinD (gP k) [xs, ms, os] 3) = true from decide_eq_true (joinL_eq _ _ _)]; rintro e w7 ⟨rfl, hb⟩; go_wp2_with fail; exact hK.out _ _ (BB.step hbb hb) (GF.below hb) rfl
      refine StepsM.cons (fun l g' wu hB hl hn hp K hK => ?_) ?_
      · have e15 : g' 82 = .bool true := (hp 15 (by decide)).2; simp only [mkM, maskM10, mixM, Nat.reduceAdd, e15] at hK ⊢; clear e15; simp only [Act.put, List.setIfInBounds_toArray, List.set_cons_zero, List.set_cons_succ] at hK; go_simp; exact hK.out _ _ hB GF.same rfl
      refine StepsM.cons (fun l g' wu hB hl hn hp K hK => ?_) ?_
      · have e16 : g' 83 = .bool true := (hp 16 (by decide)).2; simp only [mkM, maskM10, mixM, Nat.reduceAdd, e16] at hK ⊢; clear e16; simp only [Act.put, List.setIfInBounds_toArray, List.set_cons_zero, List.set_cons_succ] at hK; go_simp; exact hK.out _ _ hB GF.same rfl
      refine StepsM.cons (fun l g' wu hB hl hn hp K hK => ?_) ?_
      · have hbb := hB; have e16 : g' 83 = .bool true := (hp 16 (by decide)).2; have e17 : g' 84 = .pointer (some ⟨g, 0, none⟩) := (hp 17 (by decide)).2; simp only [mkM, maskM10, mixM, Nat.reduceAdd, e16, e17] at hK ⊢; clear e16 e17; simp only [Act.put, List.setIfInBounds_toArray, List.set_cons_zero, List.set_cons_succ] at hK; go_simp; go_at_call 41; refine (pjoin_none g (gP k) (gQ k) (gG k) (gH k) (gS k) _ (HG6.out.below (BB.step hbb8 hbb))).mono ?_; rintro e w7 ⟨rfl, hb⟩; go_wp2_with fail; exact hK.out _ _ (BB.step hbb hb) (GF.below hb) rfl
      refine StepsM.cons (fun l g' wu hB hl hn hp K hK => ?_) ?_
      · have e16 : g' 83 = .bool true := (hp 16 (by decide)).2; have e18 : g' 85 = .slice none 0 0 := (hp 18 (by decide)).2; simp only [mkM, maskM10, mixM, Nat.reduceAdd, e16, e18] at hK ⊢; clear e16 e18; simp only [Act.put, List.setIfInBounds_toArray, List.set_cons_zero, List.set_cons_succ] at hK; go_simp; exact hK.out _ _ hB GF.same rfl
      refine StepsM.cons (fun l g' wu hB hl hn hp K hK => ?_) ?_
      · have e16 : g' 83 = .bool true := (hp 16 (by decide)).2; have e19 : g' 86 = .int .i64 0 := (hp 19 (by decide)).2; simp only [mkM, maskM10, mixM, Nat.reduceAdd, e16, e19] at hK ⊢; clear e16 e19; simp only [Act.put, List.setIfInBounds_toArray, List.set_cons_zero, List.set_cons_succ] at hK; go_simp; exact hK.out _ _ hB GF.same rfl
      refine StepsM.cons (fun l g' wu hB hl hn hp K hK => ?_) ?_
      · have e16 : g' 83 = .bool true := (hp 16 (by decide)).2; have e20 : g' 87 = .bool true := (hp 20 (by decide)).2; simp only [mkM, maskM10, mixM, Nat.reduceAdd, e16, e20] at hK ⊢; clear e16 e20; simp only [Act.put, List.setIfInBounds_toArray, List.set_cons_zero, List.set_cons_succ] at hK; go_simp; exact hK.out _ _ hB GF.same rfl
      refine StepsM.cons (fun l g' wu hB hl hn hp K hK => ?_) ?_
      · have e21 : g' 88 = .bool true := (hp 21 (by decide)).2; simp only [mkM, maskM10, mixM, Nat.reduceAdd, e21] at hK ⊢; clear e21; simp only [Act.put, List.setIfInBounds_toArray, List.set_cons_zero, List.set_cons_succ] at hK; go_simp; exact hK.out _ _ hB GF.same rfl
      exact StepsM.nil
    · intro l g' wu hall hB hG
      have e22 : g' 8 = .bool true := hG 22 (by decide)
      simp only [mkM, maskM10, mixM, Nat.reduceAdd, e22]
      have HBE := Lib.hid (HB6.out.trans (Below.mono (BB.step hbb8 hB) HB6.out.size))
      clear hG hall e22
      go_wp2_with fail
      go_ret
      exact ⟨rfl, HBE.out⟩

/-- The same, as the frame asks it. -/
theorem makes_walk (a0 : Int) (a1 : Option Addr) (len1 cap1 : Nat) (z1 : List Int) (a2 : Option Addr) (len2 cap2 : Nat) (z2 : List Int) (a3 : Option Addr) (len3 cap3 : Nat) (z3 : List Int) (w : World)
    (w1 : (a1 = none ∧ len1 = 0 ∧ cap1 = 0 ∧ z1 = []) ∨ ∃ x, a1 = some x ∧ len1 ≤ cap1 ∧ cap1 ≤ maxLen ∧ z1.length = cap1 ∧ (∀ i, i < z1.length → w.cell? (x.add i) = some (.int .u64 (z1.getD i 0))) ∧ ∀ n ∈ z1, (Lit.int .u64 n).wf = true)
    (w2 : (a2 = none ∧ len2 = 0 ∧ cap2 = 0 ∧ z2 = []) ∨ ∃ x, a2 = some x ∧ len2 ≤ cap2 ∧ cap2 ≤ maxLen ∧ z2.length = cap2 ∧ (∀ i, i < z2.length → w.cell? (x.add i) = some (.int .u64 (z2.getD i 0))) ∧ ∀ n ∈ z2, (Lit.int .u64 n).wf = true)
    (w3 : (a3 = none ∧ len3 = 0 ∧ cap3 = 0 ∧ z3 = []) ∨ ∃ x, a3 = some x ∧ len3 ≤ cap3 ∧ cap3 ≤ maxLen ∧ z3.length = cap3 ∧ (∀ i, i < z3.length → w.cell? (x.add i) = some (.int .u64 (z3.getD i 0))) ∧ ∀ n ∈ z3, (Lit.int .u64 n).wf = true) :
    Calls Try.prog 9 #[.int .i64 a0, .slice a1 len1 cap1, .slice a2 len2 cap2, .slice a3 len3 cap3] w fun e w' => e = .returned (.bool true) ∧ Below w.heap.size w w' := by
  obtain ⟨l, h1, h2, h3, h4⟩ := words_in w1
  obtain ⟨l', h1', h2', h3', h4'⟩ := words_in w2
  obtain ⟨l'', h1'', h2'', h3'', h4''⟩ := words_in w3
  exact makes_any a0 a1 len1 cap1 l a2 len2 cap2 l' a3 len3 cap3 l'' w h1 h2 h3 h4 h1' h2' h3' h4' h1'' h2'' h3'' h4''
end Go.Proofs.Ythefednendgclaa
