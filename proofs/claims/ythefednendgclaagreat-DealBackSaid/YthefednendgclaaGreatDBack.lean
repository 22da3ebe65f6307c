/-
  The law DealBack: it returns true.
-/
import Derived.Test.YthefednendgclaaGreatBackL
import Derived.Test.YthefednendgclaaGreatRecov
import Derived.Test.YthefednendgclaaGreatMade
import Derived.Test.YthefednendgclaaGreatPieces
set_option linter.unusedVariables false
set_option linter.unusedSimpArgs false
namespace Go.Proofs.YthefednendgclaaGreat
open Go Go.RowKit Sac NT Poly

def rg (n : Nat) (l : List Nat) : List Nat := List.range n ++ l
abbrev Td := Int × Nat
def tflat (L : List Td) : List Value := L.flatMap fun p => [.int .i64 p.1, .int .u64 (p.2 : Int)]
theorem tflat_cons (a : Td) (L : List Td) : tflat (a :: L) = .int .i64 a.1 :: .int .u64 (a.2 : Int) :: tflat L := rfl
theorem tflat_append (L M : List Td) : tflat (L ++ M) = tflat L ++ tflat M := by simp [tflat]
theorem tflat_get : ∀ (L : List Td) (rest : List Value) (i : Nat), i < L.length → (tflat L ++ rest)[i * 2]? = some (.int .i64 (L.getD i (0, 0)).1) ∧ (tflat L ++ rest)[i * 2 + 1]? = some (.int .u64 ((L.getD i (0, 0)).2 : Int))
  | [], _, i, h => by simp at h
  | a :: L, rest, 0, _ => by simp [tflat_cons]
  | a :: L, rest, i + 1, h => by
    have ih := tflat_get L rest i (by simpa using h)
    rw [show (i + 1) * 2 = i * 2 + 2 by omega, tflat_cons]
    simpa using ih
abbrev TOwn (w : World) (base : Nat) (v : Value) (L : List Td) : Prop := w.ownsRow base 61 2 v L.length (tflat L)
theorem TOwn.nil (w : World) (base : Nat) : TOwn w base (.slice none 0 0) [] := World.ownsRow_nil _ _ _ _
theorem add_plain0 (g k : Nat) : ((⟨g, 0, none⟩ : Addr).add k) = ⟨g, k, none⟩ := by unfold Addr.add; split <;> simp_all
theorem add_plain1 (g o : Nat) : ((⟨g, o, none⟩ : Addr).add 1) = ⟨g, o + 1, none⟩ := by unfold Addr.add; split <;> simp_all
theorem TOwn.form {w : World} {base : Nat} {v : Value} {L : List Td} (h : TOwn w base v L) : ∃ (a : Option Addr) (cap : Nat), v = .slice a L.length cap ∧ (L.length : Int) ≤ cap ∧ TRowAt w a L.length (fun i => (L.getD i (0, 0)).1) (fun i => (L.getD i (0, 0)).2) := by
  obtain ⟨hx, ⟨rfl, h0, h1⟩ | ⟨g, cap, rest, rfl, hb, hB, hn, hc, hl⟩⟩ := own_elim h
  · have : L = [] := List.eq_nil_of_length_eq_zero h0
    subst this
    exact ⟨none, 0, rfl, by simp, fun i hi => by simp at hi⟩
  · refine ⟨some ⟨g, 0, none⟩, cap, rfl, by omega, fun i hi => ⟨_, rfl, ?_, ?_⟩⟩
    · rw [add_plain0, hB.cell]; exact (tflat_get L rest i hi).1
    · rw [← add_one, add_plain0, add_plain1, hB.cell]; exact (tflat_get L rest i hi).2
theorem TOwn.below {w w' : World} {base : Nat} {v : Value} {L : List Td} (h : TOwn w base v L) (hb : Below w.heap.size w w') : TOwn w' base v L := by
  obtain ⟨hx, h0 | ⟨g, cap, rest, e, hg, hB, hn, hc, hl⟩⟩ := own_elim h
  · exact ⟨hx, .inl ⟨h0.1, h0.2.1⟩⟩
  · subst e
    exact own_intro hg (hB.below hb hB.lt) hn hc hl hx
theorem Tryz.infoTold : (Tryz.prog.info? 61).map (fun i => (i.zero, i.size, i.bytes)) = some (some (.agg #[.int .i64 0, .int .u64 0]), 2, 16) := by kernel_rfl
theorem wpList_append_told (w : World) {ops : Array Oper} {rest : List Oper} {o : Oper} {a : Act} {Q : Exit → Act → World → Prop} (hg : o.guard = none) (s x : Operand)
    (hop : o.op = Op.call { callee := Callee.builtin Builtin.append, args := #[s, x], argTypes := #[54, 54] })
    (base : Nat) (v : Value) (L : List Td) (hs : a.eval s = v) (hown : TOwn w base v L) (q : Nat) (p : Td) (hx : a.eval x = .slice (some ⟨q, 0, none⟩) 1 1) (hq : Blk w q 61 [.int .i64 p.1, .int .u64 (p.2 : Int)])
    (hlen : L.length ≤ 100000) (hbase : base ≤ w.heap.size)
    (h : ∀ v' w', TOwn w' base v' (L ++ [p]) → Below base w w' → wpList Tryz.prog ops Q rest (a.put o.dst v') w') :
    wpList Tryz.prog ops Q (o :: rest) a w := by
  refine wpList_plain hg fun K hK' => ?_
  obtain ⟨i, hi, hz1, hz2, hz3⟩ := info_parts Tryz.infoTold
  obtain ⟨v', w', hr, ho', hgr, hf⟩ := append_own (P := Tryz.prog) w base 54 o.type 61 i _ 2 16 Tryz.underlying54 hi hz1 hz2 hz3 rfl (by decide) v L.length (tflat L) hown ⟨q, 0, none⟩ 1 1 [.int .i64 p.1, .int .u64 (p.2 : Int)] rfl
    (fun j u hj => by rw [add_plain0]; exact (hq.cell j).trans hj) (fun u hu => by
      simp at hu
      rcases hu with rfl | rfl <;> rfl) (by unfold maxLen; omega) (by omega) hbase
  unfold Oper.wp execOp
  simp only [hop, resolve, invoke, builtin, Sem.run_bind, Sem.run_pure, Result.andThen_ok, List.map_toArray, List.map_cons, List.map_nil, hs, hx, hr]
  refine hK' _ _ (h v' w' ?_ ⟨hgr.os, hgr.tape, hgr.output, hgr.size, fun k hk => hgr.block k (by omega) fun e => by have := (hown.lt k e.symm).1; omega⟩)
  have e : tflat (L ++ [p]) = tflat L ++ [.int .i64 p.1, .int .u64 (p.2 : Int)] := by rw [tflat_append]; simp [tflat]
  unfold TOwn
  rw [e, List.length_append]
  exact ho'

theorem off_wrong {q s b : Nat} (hs : s < q) (hb : ¬ b % q = 0) : (s + b) % q ≠ s := by
  intro h
  rw [Nat.add_mod, Nat.mod_eq_of_lt hs] at h
  have h1 := Nat.mod_lt b (show 0 < q by omega)
  rcases Nat.lt_or_ge (s + b % q) q with h2 | h2
  · rw [Nat.mod_eq_of_lt h2] at h; omega
  · rw [Nat.mod_eq_sub_mod h2, Nat.mod_eq_of_lt (by omega)] at h; omega
theorem getD_appl {L M : List Td} {i : Nat} (h : i < L.length) : (L ++ M).getD i (0, 0) = L.getD i (0, 0) := by
  simp [List.getD_eq_getElem?_getD, List.getElem?_append_left h]
theorem getD_appr {L M : List Td} {i : Nat} (h : L.length ≤ i) : (L ++ M).getD i (0, 0) = M.getD (i - L.length) (0, 0) := by
  simp [List.getD_eq_getElem?_getD, List.getElem?_append_right h]
theorem getD_hon {a b n i : Nat} (h : i < n) : ((List.range n).map fun i => (((a + i * b : Nat) : Int), 0)).getD i ((0 : Int), 0) = (((a + i * b : Nat) : Int), 0) := by
  simp [List.getD_eq_getElem?_getD, List.getElem?_map, List.getElem?_range h]
theorem mem_getDT {L : List Td} {i : Nat} (h : i < L.length) : L.getD i (0, 0) ∈ L := by
  rw [List.getD_eq_getElem?_getD, List.getElem?_eq_getElem h]
  exact List.getElem_mem h
/-- Those who tell what is off are not right. -/
theorem off_right (k T : Nat) (V M : List Nat) (n : Int) (b : Nat) (hb : ¬ b % gQ k = 0) : ¬ RightP (gP k) (gQ k) (gG k) (gH k) T (allP k V M) n ((shV (gQ k) V n + b) % gQ k) (shV (gQ k) M n) := by
  rintro ⟨hn, _, _, _, ho⟩
  unfold shV at ho
  rw [if_pos hn, if_pos hn] at ho
  have := (opens_iff k V M n.toNat _ (Nat.mod_lt _ (gQ_pos k))).1 ho
  exact off_wrong (evalm_lt (gQ_pos k) V _) hb this
/-- The honest ones. -/
def hon (a b n : Nat) : List Td := (List.range n).map fun i => (((a + i * b : Nat) : Int), 0)
theorem hon_length (a b n : Nat) : (hon a b n).length = n := by simp [hon]
theorem hon_succ (a b n : Nat) : hon a b (n + 1) = hon a b n ++ [(((a + n * b : Nat) : Int), 0)] := by simp [hon, List.range_succ]
theorem hon_get {a b n i : Nat} (h : i < n) : (hon a b n).getD i (0, 0) = (((a + i * b : Nat) : Int), 0) := getD_hon h
theorem pl_bound {a b T i : Nat} (ha : a ≤ 10) (hb : b ≤ 8) (hT : T ≤ 6) (hi : i < T) : a + i * b ≤ 50 := by
  have := Nat.mul_le_mul (show i ≤ 5 by omega) hb
  omega
/-- Which pieces count, and that they tell the dealing. -/
theorem back_good (k T m : Nat) {V M C : List Nat} (hV : V.length = T) (hM : M.length = T) (hC : allP k V M = C) {lt : List Td} (hm : lt.length = m) (hlt : ∀ x ∈ lt, ¬ x.2 % gQ k = 0) {a b : Nat} (ha1 : 1 ≤ a) (ha : a ≤ 10) (hb1 : 1 ≤ b) (hb : b ≤ 8) (hT : T ≤ 6) {pr : Nat → Int} {X Y : Nat → Nat}
    (hp : ∀ i, i < m + T → pr i = ((lt ++ hon a b T).getD i (0, 0)).1) (hX : ∀ i, i < m + T → X i = (shV (gQ k) V ((lt ++ hon a b T).getD i (0, 0)).1 + ((lt ++ hon a b T).getD i (0, 0)).2) % gQ k) (hY : ∀ i, i < m + T → Y i = shV (gQ k) M ((lt ++ hon a b T).getD i (0, 0)).1) :
    goodP (gP k) (gQ k) (gG k) (gH k) T C pr X Y (m + T) = (List.range T).map (m + ·) ∧ ∀ i, m ≤ i → i < m + T → (1 ≤ pr i ∧ pr i ≤ 64) ∧ X i = evalm (gQ k) V ((pr i).toNat % gQ k) ∧ Y i = evalm (gQ k) M ((pr i).toNat % gQ k) := by
  have key : ∀ i, m ≤ i → i < m + T → (lt ++ hon a b T).getD i (0, 0) = (((a + (i - m) * b : Nat) : Int), 0) := fun i h1 h2 => by
    rw [getD_appr (by omega), hm]
    exact hon_get (by omega)
  have good : ∀ i, m ≤ i → i < m + T → (1 ≤ pr i ∧ pr i ≤ 64) ∧ X i = evalm (gQ k) V ((pr i).toNat % gQ k) ∧ Y i = evalm (gQ k) M ((pr i).toNat % gQ k) := fun i h1 h2 => by
    have hq := pl_bound (a := a) (b := b) (T := T) (i := i - m) ha hb hT (by omega)
    rw [hp i h2, hX i h2, hY i h2, key i h1 h2]
    have hn : (1 : Int) ≤ ((a + (i - m) * b : Nat) : Int) ∧ ((a + (i - m) * b : Nat) : Int) ≤ 64 := by omega
    refine ⟨hn, ?_, ?_⟩
    · show (shV (gQ k) V _ + 0) % gQ k = _
      unfold shV
      rw [if_pos hn, Nat.add_zero, Nat.mod_eq_of_lt (evalm_lt (gQ_pos k) _ _)]
    · unfold shV
      rw [if_pos hn]
  refine ⟨goodI_tail (b := m) (t := T) (fun i h => ?_) (fun i h1 h2 => ?_) (fun i j h1 h2 h3 => ?_) T (Nat.le_refl _), good⟩
  · refine decide_eq_false ?_
    rw [hp i (by omega), hX i (by omega), hY i (by omega), getD_appl (by omega), ← hC]
    exact off_right k T V M _ _ (hlt _ (mem_getDT (by omega)))
  · obtain ⟨⟨g1, g2⟩, g3, g4⟩ := good i h1 h2
    refine decide_eq_true ?_
    rw [g3, g4]
    have h := right_share k T (pr i).toNat hV hM (by omega) (by omega)
    rw [Int.toNat_of_nonneg (by omega), hC] at h
    exact h
  · rw [hp i (by omega), hp j (by omega), key i h1 (by omega), key j (by omega) (by omega)]
    have := Nat.mul_lt_mul_of_pos_right (show i - m < j - m by omega) (show 0 < b by omega)
    show ((a + (i - m) * b : Nat) : Int) < ((a + (j - m) * b : Nat) : Int)
    omega
theorem back_tells (k T m : Nat) {V M : List Nat} (hV : V.length = T) (hM : M.length = T) {good : List Nat} {pr : Nat → Int} {X Y : Nat → Nat} (hg : good = (List.range T).map (m + ·)) (h : ∀ i, m ≤ i → i < m + T → (1 ≤ pr i ∧ pr i ≤ 64) ∧ X i = evalm (gQ k) V ((pr i).toNat % gQ k) ∧ Y i = evalm (gQ k) M ((pr i).toNat % gQ k)) {x s r : Nat} {er : Int} (ht : RecTells (gQ k) T pr good X Y x s r er) :
    er = 0 ∧ s = evalm (gQ k) V (x % gQ k) ∧ r = evalm (gQ k) M (x % gQ k) := by
  have hlen : good.length = T := by rw [hg]; simp
  rcases ht with ⟨h1, _⟩ | ⟨_, h1, gs, hperm, hris, h2, h3⟩
  · omega
  · have hgl : gs.length = T := by rw [hperm.length_eq]; exact hlen
    have hmem : ∀ i ∈ gs, m ≤ i ∧ i < m + T := fun i hi => by
      have h4 := hperm.mem_iff.1 hi
      rw [hg] at h4
      obtain ⟨q, hq, rfl⟩ := List.mem_map.1 h4
      have := List.mem_range.1 hq
      omega
    rw [List.take_of_length_le (by omega)] at h2 h3
    refine ⟨h1, ?_, ?_⟩
    · rw [h2]
      exact tells_share k T (by omega) hgl hris (fun i hi => (h i (hmem i hi).1 (hmem i hi).2).1) (fun i hi => (h i (hmem i hi).1 (hmem i hi).2).2.1) x
    · rw [h3]
      exact tells_share k T (by omega) hgl hris (fun i hi => (h i (hmem i hi).1 (hmem i hi).2).1) (fun i hi => (h i (hmem i hi).1 (hmem i hi).2).2.2) x
def tabB19 (v0 : Value) (v1 : Value) (v2 : Value) (v3 : Value) (v4 : Value) (v5 : Value) (v6 : Value) (p7 : Fk KpN) (v8 : Value) (v9 : Value) (v10 : Value) (v11 : Value) (v12 : Value) (v13 : Value) (v14 : Value) (v15 : Value) (v16 : Value) : List (Fk KpN) := [.val v0, .val v1, .val v2, .val v3, .val v4, .val v5, .val v6, p7, .val v8, .val v9, .val v10, .val v11, .val v12, .val v13, .val v14, .val v15, .val v16]
def dstB19 : List (Option Tmp) := [some 104, some 105, some 106, some 107, some 108, some 109, some 110, some 111, some 112, some 113, some 114, some 115, some 116, some 117, some 118, some 119, some 120]
def preB19 : List (List Nat) := [[], [0], [0, 1], [0, 1, 2], [0, 1, 2], [0, 1, 2], [0, 1, 2], [0, 1, 2, 5, 6], [0, 1, 2], [0, 1, 2], [0, 1, 2], [0, 1, 2, 9, 10], [0, 1, 2, 8, 9, 10, 11], [0, 1, 2], rg 14 [], rg 15 [], rg 16 []]
def maskB19 : List Bool := [false, false, false, false, false, false, false, false, false, false, false, false, false, false, false, false, false, false, false, false, false, false, false, false, false, false, false, false, false, false, false, false, false, false, false, false, false, false, false, false, false, false, false, false, false, false, false, false, false, false, false, false, false, false, false, false, false, false, false, false, false, false, false, false, false, false, false, false, false, false, false, false, false, false, false, false, false, false, false, false, false, false, false, false, false, false, false, false, false, false, false, false, false, false, false, false, false, false, false, false, false, false, false, false, true, true, true, true, true, true, true, true, true, true, true, true, true, true, true, true, true, false, false, false, false, false, false, false, false, false, false, false, false, false, false, false, false, false, false, false, false, false, false, false, false, false, false, false, false, false, false, false, false, false, false, false, false, false, false, false, false, false, false, false, false, false, false, false, false, false, false, false, false, false, false, false, false, false, false, false, false, false, false, false, false, false, false, false, false, false, false, false, false, false, false, false, false, false, false, false, false, false, false, false, false, false, false, false, false, false, false, false, false]
def tabB28 (v0 : Value) (v1 : Value) (v2 : Value) (v3 : Value) (v4 : Value) (v5 : Value) (v6 : Value) (v7 : Value) (v8 : Value) (v9 : Value) (v10 : Value) (n11 : Nat) (n12 : Nat) (v13 : Value) (v14 : Value) (v15 : Value) (v16 : Value) (v17 : Value) (v18 : Value) (v19 : Value) (v20 : Value) (n21 : Nat) (n22 : Nat) (v23 : Value) (v24 : Value) (v25 : Value) (v26 : Value) (v27 : Value) (v28 : Value) (v29 : Value) (v30 : Value) (v31 : Value) (v32 : Value) (v33 : Value) (v34 : Value) (v35 : Value) (v36 : Value) (v37 : Value) (v38 : Value) (v39 : Value) (v40 : Value) (v41 : Value) (v42 : Value) : List (Fk KpN) := [.val v0, .val v1, .val v2, .val v3, .val v4, .val v5, .val v6, .val v7, .val v8, .val v9, .val v10, Fk.nat (fun _ _ h => h) n11, Fk.nat (fun _ _ h => h) n12, .val v13, .val v14, .val v15, .val v16, .val v17, .val v18, .val v19, .val v20, Fk.nat (fun _ _ h => h) n21, Fk.nat (fun _ _ h => h) n22, .val v23, .val v24, .val v25, .val v26, .val v27, .val v28, .val v29, .val v30, .val v31, .val v32, .val v33, .val v34, .val v35, .val v36, .val v37, .val v38, .val v39, .val v40, .val v41, .val v42]
def dstB28 : List (Option Tmp) := [some 171, some 172, some 173, some 174, some 175, some 176, some 177, some 178, some 179, some 180, some 181, some 182, some 183, some 184, some 185, some 186, some 187, some 188, some 189, some 190, some 191, some 192, some 193, some 194, some 195, some 196, some 197, some 198, some 199, some 200, some 201, some 202, some 203, some 204, some 205, some 206, some 207, some 208, some 209, some 210, some 211, some 212, some 18]
def preB28 : List (List Nat) := [[], [0], [0, 1], [0, 1, 2], [0, 1, 2, 3], rg 5 [], rg 6 [], rg 7 [], rg 8 [], rg 7 [], rg 7 [], rg 7 [10], rg 7 [9, 10, 11], rg 13 [], rg 14 [], rg 15 [], rg 16 [], rg 17 [], rg 18 [], rg 17 [], rg 17 [], rg 17 [20], rg 17 [19, 20, 21], rg 23 [], rg 24 [], rg 25 [], rg 26 [], rg 27 [], rg 28 [], rg 27 [], rg 27 [29], rg 31 [], rg 32 [], rg 33 [], rg 34 [], rg 35 [], rg 36 [], rg 35 [], rg 35 [37], rg 39 [], rg 40 [], rg 41 [], rg 42 []]
def maskB28 : List Bool := [false, false, false, false, false, false, false, false, false, false, false, false, false, false, false, false, false, false, true, false, false, false, false, false, false, false, false, false, false, false, false, false, false, false, false, false, false, false, false, false, false, false, false, false, false, false, false, false, false, false, false, false, false, false, false, false, false, false, false, false, false, false, false, false, false, false, false, false, false, false, false, false, false, false, false, false, false, false, false, false, false, false, false, false, false, false, false, false, false, false, false, false, false, false, false, false, false, false, false, false, false, false, false, false, false, false, false, false, false, false, false, false, false, false, false, false, false, false, false, false, false, false, false, false, false, false, false, false, false, false, false, false, false, false, false, false, false, false, false, false, false, false, false, false, false, false, false, false, false, false, false, false, false, false, false, false, false, false, false, false, false, false, false, false, false, false, false, false, false, false, false, true, true, true, true, true, true, true, true, true, true, true, true, true, true, true, true, true, true, true, true, true, true, true, true, true, true, true, true, true, true, true, true, true, true, true, true, true, true, true, true, true, true]

set_option maxRecDepth 100000 in
set_option maxHeartbeats 10000000 in
theorem dback_any (n t : Int) (A B : Nat) (a : Option Addr) (len cap : Nat) (xs : List Nat) (first step peer : Int) (c : Option Addr) (lenc capc : Nat) (tp : Nat → Int) (tb : Nat → Nat) (w : World)
    (ha : RdC w a (xs.map w64)) (hl : xs.length = len) (hc : (len : Int) ≤ cap) (hx : ∀ y ∈ xs, y < 18446744073709551616) (hA : A < 18446744073709551616) (hB : B < 18446744073709551616)
    (ht : TRowAt w c lenc tp tb) (hcc : (lenc : Int) ≤ capc) (htb : ∀ i, i < lenc → tb i < 18446744073709551616) :
    Calls Tryz.prog 4 #[.int .i64 n, .int .i64 t, .int .u64 (A : Int), .int .u64 (B : Int), .slice a len cap, .int .i64 first, .int .i64 step, .int .i64 peer, .slice c lenc capc] w fun e w' => e = .returned (.bool true) ∧ Below w.heap.size w w' := by
  have HA := Lib.hid (And.intro ha (And.intro hl (And.intro hc hx)))
  have HXX := Lib.hid (And.intro hA hB)
  have HT0 := Lib.hid ht
  have HTB := Lib.hid htb
  clear ha hl hc hx hA hB ht htb
  by_cases h6 : (6 : Int) < (lenc : Int)
  · have d6 : decide ((6 : Int) < (lenc : Int)) = true := decide_eq_true h6
    go_enter Tryz.func4, Tryz.ntmps4
    go_wp2_with fail
    refine (lives14_any w).mono ?_
    rintro e w2 ⟨rfl, hb2⟩
    have HB2 := Lib.hid hb2
    clear hb2
    go_wp2_with fail
    refine (lives14_any w2).mono ?_
    rintro e w3 ⟨rfl, hb3⟩
    have HB3 := Lib.hid (HB2.out.trans (hb3.mono HB2.out.size))
    clear hb3
    go_wp2_with fail
    go_ret
    exact ⟨rfl, HB3.out⟩
  have d6 : decide ((6 : Int) < (lenc : Int)) = false := decide_eq_false h6
  obtain ⟨k, hk⟩ : ∃ k, kOf n = k := ⟨_, rfl⟩
  have HK := Lib.hid hk
  obtain ⟨vf, hvf, hvf9⟩ : ∃ v : Nat, (IntKind.u64.wrap first) % 10 = (v : Int) ∧ v ≤ 9 := ⟨((IntKind.u64.wrap first) % 10).toNat, by omega, by omega⟩
  obtain ⟨vs, hvs, hvs7⟩ : ∃ v : Nat, (IntKind.u64.wrap step) % 8 = (v : Int) ∧ v ≤ 7 := ⟨((IntKind.u64.wrap step) % 8).toNat, by omega, by omega⟩
  obtain ⟨vp, hvp, hvp9⟩ : ∃ v : Nat, (IntKind.u64.wrap peer) % 64 = (v : Int) ∧ v ≤ 63 := ⟨((IntKind.u64.wrap peer) % 64).toNat, by omega, by omega⟩
  have hf0 : 0 ≤ IntKind.u64.wrap first := by show 0 ≤ first % 18446744073709551616; omega
  have hs0 : 0 ≤ IntKind.u64.wrap step := by show 0 ≤ step % 18446744073709551616; omega
  have hp0 : 0 ≤ IntKind.u64.wrap peer := by show 0 ≤ peer % 18446744073709551616; omega
  have HVF : Hid (Int.tmod (IntKind.u64.wrap first) 10 = (vf : Int) ∧ IntKind.u64.wrap (vf : Int) = (vf : Int) ∧ IntKind.i64.wrap (vf : Int) = (vf : Int) ∧ IntKind.i64.wrap (1 + (vf : Int)) = 1 + (vf : Int)) := ⟨by rw [Int.tmod_eq_emod_of_nonneg hf0]; exact hvf, wraps_u64 _ (by omega) (by omega), i64_small _ (by omega) (by omega), i64_small _ (by omega) (by omega)⟩
  have HVS : Hid (Int.tmod (IntKind.u64.wrap step) 8 = (vs : Int) ∧ IntKind.u64.wrap (vs : Int) = (vs : Int) ∧ IntKind.i64.wrap (vs : Int) = (vs : Int) ∧ IntKind.i64.wrap (1 + (vs : Int)) = 1 + (vs : Int)) := ⟨by rw [Int.tmod_eq_emod_of_nonneg hs0]; exact hvs, wraps_u64 _ (by omega) (by omega), i64_small _ (by omega) (by omega), i64_small _ (by omega) (by omega)⟩
  have HVP : Hid (Int.tmod (IntKind.u64.wrap peer) 64 = (vp : Int) ∧ IntKind.u64.wrap (vp : Int) = (vp : Int) ∧ IntKind.i64.wrap (vp : Int) = (vp : Int) ∧ IntKind.i64.wrap (1 + (vp : Int)) = 1 + (vp : Int)) := ⟨by rw [Int.tmod_eq_emod_of_nonneg hp0]; exact hvp, wraps_u64 _ (by omega) (by omega), i64_small _ (by omega) (by omega), i64_small _ (by omega) (by omega)⟩
  clear hk hf0 hs0 hp0 hvf hvs hvp
  go_enter Tryz.func4, Tryz.ntmps4
  go_wp2_with fail
  refine (lives14_any w).mono ?_
  rintro e w2 ⟨rfl, hb2⟩
  have HB2 := Lib.hid hb2
  clear hb2
  go_wp2_with fail
  have hmade := made_any n t A B a len cap xs w2 (HA.out.1.below HB2.out) HA.out.2.1 HA.out.2.2.1 HA.out.2.2.2 HXX.out.1 HXX.out.2
  rw [HK.out] at hmade
  refine hmade.mono ?_
  clear hmade
  rintro e w3 ⟨g, T, nl, va, ca, vb, cb, rfl, hT1, hT6, hTl, hca, hcb, hg, hV, hM, hb3⟩
  obtain ⟨V, hVe⟩ : ∃ V, dvF (gQ k) A nl (T - 1) = V := ⟨_, rfl⟩
  obtain ⟨M, hMe⟩ : ∃ M, dvF (gQ k) B (nl.drop (T - 1)) (T - 1) = M := ⟨_, rfl⟩
  have HLV : Hid (V.length = T ∧ M.length = T) := ⟨by rw [← hVe, dvF_length (by omega)]; omega, by rw [← hMe, dvF_length (by rw [List.length_drop]; omega)]; omega⟩
  have HLQ : Hid ((∀ a ∈ V, a < gQ k) ∧ ∀ a ∈ M, a < gQ k) := ⟨hVe ▸ dvF_ltQ (gQ_pos k), hMe ▸ dvF_ltQ (gQ_pos k)⟩
  have HV0 : Hid (V.getD 0 0 = A % gQ k ∧ M.getD 0 0 = B % gQ k) := ⟨by rw [← hVe]; rfl, by rw [← hMe]; rfl⟩
  rw [hVe] at hV
  rw [hMe] at hM
  obtain ⟨D, hDs⟩ : ∃ D, D = w3.heap.size := ⟨_, rfl⟩
  have hbd := (Below.refl _ w3).alloc (Nat.le_refl _) (Obj.cells #[Value.slice va T ca, Value.slice vb T cb] 56)
  have HBd4 : Hid (Blk (w3.alloc (Obj.cells #[Value.slice va T ca, Value.slice vb T cb] 56)) D 56 [.slice va T ca, .slice vb T cb]) := Blk.new' w3 _ _ D hDs
  have HG4 : Hid (GroupAt (w3.alloc (Obj.cells #[Value.slice va T ca, Value.slice vb T cb] 56)) g (gP k) (gQ k) (gG k) (gH k) (gS k)) := hg.below hbd
  have HVM4 := Lib.hid (And.intro (hV.below hbd) (hM.below hbd))
  have HB4 := Lib.hid (HB2.out.trans ((hb3.trans (hbd.mono hb3.size)).mono HB2.out.size))
  have HDs := Lib.hid hDs
  clear hg hV hM hb3 hbd hVe hMe hDs HB2
  go_wp2_with fail
  rw [← HDs.out]
  generalize w3.alloc (Obj.cells #[Value.slice va T ca, Value.slice vb T cb] 56) = w4 at HBd4 HG4 HVM4 HB4 ⊢
  refine (gfield_any g _ _ _ _ _ w4 HG4.out).mono ?_
  rintro e w5 ⟨r, rfl, hr, hb5⟩
  have HR5 : Hid (RingAt w5 r (gQ k)) := hr
  have HG5 := Lib.hid (HG4.out.below hb5)
  have HVM5 := Lib.hid (And.intro (HVM4.out.1.below hb5) (HVM4.out.2.below hb5))
  have HBd5 := Lib.hid (HBd4.out.below hb5 HBd4.out.lt)
  have HB5 := Lib.hid (HB4.out.trans (hb5.mono HB4.out.size))
  have HT5 := Lib.hid (HT0.out.below HB5.out)
  obtain ⟨v1, v3, v5, v7⟩ := HVF.out
  obtain ⟨s1, s3, s5, s7⟩ := HVS.out
  obtain ⟨at0, hat0⟩ : ∃ p : Nat, 1 + (vf : Int) = (p : Int) := ⟨vf + 1, by omega⟩
  obtain ⟨by0, hby0⟩ : ∃ p : Nat, 1 + (vs : Int) = (p : Int) := ⟨vs + 1, by omega⟩
  have hA1 : 1 ≤ at0 := by omega
  have hA10 : at0 ≤ 10 := by omega
  have hB1 : 1 ≤ by0 := by omega
  have hB8 : by0 ≤ 8 := by omega
  rw [hat0] at v7
  rw [hby0] at s7
  clear hr hb5 HG4 HVM4 HBd4 HB4
  go_wp2_with fail
  clear hat0 hby0 v1 v3 v5 v7 s1 s3 s5 s7
  -- the plain facts
  obtain ⟨C, hCe⟩ : ∃ C, allP k V M = C := ⟨_, rfl⟩
  have HCe : Hid (allG (gP k) (gG k) (gH k) V M = C) := by show _ = _; rw [allG_eq]; exact hCe
  have HCL : Hid (C.length = T) := by show _ = _; rw [← hCe, allP_length, HLV.out.1, HLV.out.2]; exact Nat.max_self T
  have HTT : Hid ((T : Int) ≤ 10000) := by show _ ≤ _; omega
  have HSM : Hid ((∀ a ∈ V, a < 2 ^ 1000) ∧ (∀ a ∈ M, a < 2 ^ 1000)) := ⟨fun a h => below_1000 k (HLQ.out.1 a h), fun a h => below_1000 k (HLQ.out.2 a h)⟩
  have HRG : Hid (∀ m : Nat, 1 ≤ m → m ≤ 64 → RightP (gP k) (gQ k) (gG k) (gH k) T C (m : Int) (evalm (gQ k) V (m % gQ k)) (evalm (gQ k) M (m % gQ k))) := fun m h1 h2 => by rw [← hCe]; exact right_share k T m HLV.out.1 HLV.out.2 h1 h2
  have HRN : Hid (∀ (m : Int) (b : Nat), ¬ b % gQ k = 0 → ¬ RightP (gP k) (gQ k) (gG k) (gH k) T C m ((shV (gQ k) V m + b) % gQ k) (shV (gQ k) M m)) := fun m b h => by rw [← hCe]; exact off_right k T V M m b h
  clear hCe
  go_loopw [25, 73] (fun v iv wr => ∃ (j : Nat) (lt : List Td), j ≤ lenc ∧ iv = .int .i64 (j : Int) ∧ Hid (BB w5 wr) ∧ Hid (TOwn wr w5.heap.size v lt) ∧ Hid (lt.length ≤ j ∧ ∀ x ∈ lt, ¬ x.2 % gQ k = 0 ∧ x.2 < 18446744073709551616)) (fun _ iv _ => lenc - (intOf iv).toNat)
  case atStart => exact ⟨0, [], Nat.zero_le _, rfl, BB.refl _, TOwn.nil _ _, Nat.le_refl _, fun x hx => by cases hx⟩
  case round =>
    obtain ⟨j, lt, hj, rfl, HBR, HOW, HLT⟩ := hrel
    obtain ⟨ga, gc, rfl, hgc, _⟩ := HOW.out.form
    obtain ⟨m, hm⟩ : ∃ m, lt.length = m := ⟨_, rfl⟩
    rw [hm] at hgc ⊢
    have HOM : Hid (TOwn wr w5.heap.size (.slice ga m gc) lt) := by rw [← hm]; exact HOW.out
    have HM := Lib.hid hm
    have hm6 : m ≤ 6 := by have := HLT.out.1; omega
    clear hm HOW
    by_cases hlt : (j : Int) < (lenc : Int)
    · obtain ⟨ad, hae, c0, c1⟩ := (HT5.out.below HBR.out) j (by omega)
      subst hae
      obtain ⟨p1, hp1⟩ : ∃ t, tp j = t := ⟨_, rfl⟩
      obtain ⟨b1, hb1⟩ : ∃ t, tb j = t := ⟨_, rfl⟩
      have HBY : Hid (b1 < 18446744073709551616) := by show _ < _; rw [← hb1]; exact HTB.out j (by omega)
      rw [hp1] at c0
      rw [hb1] at c1
      obtain ⟨TB, hTB⟩ : ∃ TB, TB = wr.heap.size := ⟨_, rfl⟩
      have hbt := (Below.refl _ wr).alloc (Nat.le_refl _) (Obj.cells #[Value.int .i64 p1, Value.int .u64 (b1 : Int)] 61)
      have HBT : Hid (Blk (wr.alloc (Obj.cells #[Value.int .i64 p1, Value.int .u64 (b1 : Int)] 61)) TB 61 [.int .i64 p1, .int .u64 (b1 : Int)]) := Blk.new' wr _ _ TB hTB
      have HB6 := Lib.hid (BB.step HBR.out hbt)
      have HO6 := Lib.hid (HOM.out.below hbt)
      have HTBs := Lib.hid hTB
      have t0 := HBT.out.cell 0
      have t1 := HBT.out.cell 1
      simp only [List.getElem?_cons_zero, List.getElem?_cons_succ] at t0 t1
      clear hp1 hb1 hbt hTB HBR HOM
      go_wp2_with fail
      rw [← HTBs.out]
      clear c0 c1
      generalize wr.alloc (Obj.cells #[Value.int .i64 p1, Value.int .u64 (b1 : Int)] 61) = w6 at HBT HB6 HO6 t0 t1 ⊢
      refine (new_s b1 w6 HBY.out).mono ?_
      rintro e w7 ⟨na, nl2, nc, rfl, hn, hb7⟩
      have HN7 := Lib.hid hn
      have HB7 := Lib.hid (BB.step HB6.out hb7)
      have HO7 := Lib.hid (HO6.out.below hb7)
      have HT7 := Lib.hid (HBT.out.below hb7 HBT.out.lt)
      clear hn hb7 HB6 HO6 HBT t0 t1
      go_wp2_with fail
      refine (of_s r (gQ k) na nl2 nc b1 w7 (HR5.out.below HB7.out) HN7.out).mono ?_
      obtain ⟨bm, hbm⟩ : ∃ bm, b1 % gQ k = bm := ⟨_, rfl⟩
      rw [hbm]
      have HBM := Lib.hid hbm
      rintro e w8 ⟨oa, ol, oc, rfl, hn, hb8⟩
      have HN8 := Lib.hid hn
      have HB8 := Lib.hid (BB.step HB7.out hb8)
      have HO8 := Lib.hid (HO7.out.below hb8)
      have HT8 := Lib.hid (HT7.out.below hb8 HT7.out.lt)
      clear hn hb8 HB7 HO7 HT7 HN7 hbm
      go_wp2_with fail
      refine (zero_s oa ol oc bm w8 HN8.out).mono ?_
      rintro e w9 ⟨rfl, hb9⟩
      have HB9 := Lib.hid (BB.step HB8.out hb9)
      have HO9 := Lib.hid (HO8.out.below hb9)
      have hT9 := HT8.out.below hb9 HT8.out.lt
      clear hb9 HB8 HO8 HT8 HN8
      by_cases hz : bm = 0
      · have hz1 : (bm == 0) = true := by rw [hz]; rfl
        rw [hz1]
        clear hz hz1 hT9
        go_wp2_with fail
        go_roundw
        case rel => exact ⟨j + 1, lt, by omega, by go_num, HB9.out, HO9.out, Nat.le_succ_of_le HLT.out.1, HLT.out.2⟩
        case measure => simp [intOf]; omega
      · have hz1 : (bm == 0) = false := by rw [beq_eq_false_iff_ne]; exact hz
        have HZN : Hid (¬ b1 % gQ k = 0) := by show ¬ _; rw [HBM.out]; exact hz
        rw [hz1]
        have t0 := hT9.cell 0
        have t1 := hT9.cell 1
        simp only [List.getElem?_cons_zero, List.getElem?_cons_succ] at t0 t1
        have hbl := (Below.refl _ w9).alloc (Nat.le_refl _) (Obj.cells #[Value.int .i64 p1, Value.int .u64 (b1 : Int)] 61)
        have HBL := Lib.hid (BB.step HB9.out hbl)
        have HOL := Lib.hid (HO9.out.below hbl)
        clear hz hz1 hT9 hbl HB9 HO9
        go_wp2_with (first | (refine wpList_append_told _ rfl (.tmp 84) (.tmp 86) rfl w5.heap.size _ lt rfl HOL.out w9.heap.size (p1, b1) rfl (Blk.new w9 _ _) (by rw [HM.out]; omega) HBL.out.size ?_; intro v' w10 hown hbl; have HO10 := Lib.hid hown; have HB10 : Hid (BB w5 w10) := HBL.out.trans hbl; clear hown hbl))
        go_roundw
        case rel => exact ⟨j + 1, lt ++ [(p1, b1)], by omega, by go_num, HB10.out, HO10.out, by rw [List.length_append]; exact Nat.succ_le_succ HLT.out.1, fun x hx => by
          rcases List.mem_append.1 hx with h | h
          · exact HLT.out.2 x h
          · rw [List.mem_singleton.1 h]; exact ⟨HZN.out, HBY.out⟩⟩
        case measure => simp [intOf]; omega
    · obtain ⟨wA, rfl⟩ : ∃ wA, wA = wr := ⟨wr, rfl⟩
      go_wp2_with fail
      go_loopw [25, 90] (fun v iv wr => ∃ i : Nat, i ≤ T ∧ iv = .int .i64 (i : Int) ∧ Hid (BB w5 wr) ∧ Hid (TOwn wr w5.heap.size v (lt ++ hon at0 by0 i))) (fun _ iv _ => T - (intOf iv).toNat)
      case atStart => exact ⟨0, Nat.zero_le _, rfl, HBR.out, by
        show TOwn _ _ _ (lt ++ hon at0 by0 0)
        rw [show hon at0 by0 0 = [] from rfl, List.append_nil]
        exact HOM.out⟩
      case round =>
        clear HOM HBR
        obtain ⟨i, hi, rfl, HBR, HOW⟩ := hrel
        obtain ⟨gb, gd, rfl, hgd, HTR⟩ := HOW.out.form
        obtain ⟨ll, hll⟩ : ∃ ll, lt ++ hon at0 by0 i = ll := ⟨_, rfl⟩
        obtain ⟨N, hN⟩ : ∃ N, ll.length = N := ⟨_, rfl⟩
        have hNm : N = m + i := by rw [← hN, ← hll, List.length_append, hon_length, HM.out]
        have hN12 : N ≤ 12 := by omega
        have HNm := Lib.hid hNm
        rw [hll, hN] at hgd HTR ⊢
        have HON : Hid (TOwn wr w5.heap.size (.slice gb N gd) ll) := by rw [← hN, ← hll]; exact HOW.out
        have HTR := Lib.hid HTR
        have HNN := Lib.hid hN
        have HLL := Lib.hid hll
        clear hN hll HOW hNm
        by_cases hlt2 : (i : Int) < (T : Int)
        · obtain ⟨p0, hp0⟩ : ∃ p, i * by0 = p := ⟨_, rfl⟩
          have hp40 : p0 ≤ 40 := by rw [← hp0]; exact Nat.le_trans (Nat.mul_le_mul (show i ≤ 5 by omega) hB8) (by decide)
          have hpi : (i : Int) * (by0 : Int) = (p0 : Int) := by rw [← hp0]; push_cast; rfl
          obtain ⟨q, hq⟩ : ∃ q, at0 + p0 = q := ⟨_, rfl⟩
          have HQ : Hid (at0 + i * by0 = q) := by show _ = _; rw [hp0]; exact hq
          have m1 : IntKind.i64.wrap ((i : Int) * (by0 : Int)) = (p0 : Int) := by rw [hpi]; exact i64_small _ (by omega) (by omega)
          have m2 : IntKind.i64.wrap ((at0 : Int) + (p0 : Int)) = (q : Int) := by rw [i64_small _ (by omega) (by omega)]; omega
          have hq64 : 1 ≤ q ∧ q ≤ 64 := by omega
          have HM1 := Lib.hid m1
          have HM2 := Lib.hid m2
          obtain ⟨S1, hS1⟩ : ∃ S1, evalm (gQ k) V (q % gQ k) = S1 := ⟨_, rfl⟩
          obtain ⟨R1, hR1⟩ : ∃ R1, evalm (gQ k) M (q % gQ k) = R1 := ⟨_, rfl⟩
          have HSR := Lib.hid (And.intro hS1 hR1)
          have HRT : Hid (decide (RightP (gP k) (gQ k) (gG k) (gH k) T C (q : Int) S1 R1) = true) := by
            have h := HRG.out q hq64.1 hq64.2
            rw [hS1, hR1] at h
            exact decide_eq_true h
          have hBd := HBd5.out.below HBR.out HBd5.out.lt
          have d0 := hBd.cell 0
          have d1 := hBd.cell 1
          simp only [List.getElem?_cons_zero, List.getElem?_cons_succ] at d0 d1
          clear hp0 hpi hq hS1 hR1 hBd HTR
          go_wp2_with fail
          clear d0 d1 m1 m2
          refine (dshare_any g _ _ _ _ _ va T ca V vb T cb M q wr (HG5.out.below HBR.out) hq64.1 hq64.2 (HVM5.out.1.below HBR.out) HLV.out.1 HTT.out (HVM5.out.2.below HBR.out) HLV.out.2 HTT.out).mono ?_
          rw [HSR.out.1, HSR.out.2]
          rintro e wa ⟨x1, x2, x3, x4, x5, x6, rfl, hx1, hx2, hba⟩
          obtain ⟨SB, hSB⟩ : ∃ SB, SB = wa.heap.size := ⟨_, rfl⟩
          have hbx := (Below.refl _ wa).alloc (Nat.le_refl _) (Obj.cells #[Value.slice x1 x2 x3, Value.slice x4 x5 x6] 64)
          have hbb : BB wr (wa.alloc (Obj.cells #[Value.slice x1 x2 x3, Value.slice x4 x5 x6] 64)) := BB.step hba hbx
          have hS : Blk (wa.alloc (Obj.cells #[Value.slice x1 x2 x3, Value.slice x4 x5 x6] 64)) SB 64 [.slice x1 x2 x3, .slice x4 x5 x6] := Blk.new' wa _ _ SB hSB
          have HNX := Lib.hid (And.intro (hx1.below hbx) (hx2.below hbx))
          have HBB := Lib.hid (HBR.out.trans (Below.mono hbb HBR.out.size))
          have HO2 := Lib.hid (HON.out.below hbb)
          have HSBs := Lib.hid hSB
          clear hx1 hx2 hba hbx hbb hSB HBR HON
          go_wp2_with fail
          rw [← HSBs.out]
          generalize wa.alloc (Obj.cells #[Value.slice x1 x2 x3, Value.slice x4 x5 x6] 64) = wb at hS HNX HBB HO2 ⊢
          have hBd := HBd5.out.below HBB.out HBd5.out.lt
          have gD0 : ∀ w', BB wb w' → w'.cell? ⟨D, 0, none⟩ = some (.slice va T ca) := fun w' h => (h.cell hBd.lt).trans (hBd.cell 0)
          have gD1 : ∀ w', BB wb w' → w'.cell? ⟨D, 1, none⟩ = some (.slice vb T cb) := fun w' h => (h.cell hBd.lt).trans (hBd.cell 1)
          have gS0 : ∀ w', BB wb w' → w'.cell? ⟨SB, 0, none⟩ = some (.slice x1 x2 x3) := fun w' h => (h.cell hS.lt).trans (hS.cell 0)
          have gS1 : ∀ w', BB wb w' → w'.cell? ⟨SB, 1, none⟩ = some (.slice x4 x5 x6) := fun w' h => (h.cell hS.lt).trans (hS.cell 1)
          have HGb := Lib.hid (HG5.out.below HBB.out)
          have HVMb := Lib.hid (And.intro (HVM5.out.1.below HBB.out) (HVM5.out.2.below HBB.out))
          clear hS hBd
          go_wp2_with fail
          refine wp_region_mix (fun _ w' => BB wb w') (GF (tabB19 (.int .i64 0) (.bool false) (.bool false) (.pointer (some ⟨g, 0, none⟩)) (.int .i64 (T : Int)) (.agg #[.slice va T ca, .slice vb T cb]) (.pointer (some ⟨g, 0, none⟩)) (Fk.rel (fun v w => PRow w v T C) (fun _ _ _ hb h => h.below hb)) (.int .i64 (at0 : Int)) (.int .i64 (i : Int)) (.int .i64 (by0 : Int)) (.int .i64 (p0 : Int)) (.int .i64 (q : Int)) (.agg #[.slice x1 x2 x3, .slice x4 x5 x6]) (.bool true) (.bool false) (.bool false))) maskB19 dstB19 preB19 (by kernel_rfl) (by kernel_rfl) rfl (by kernel_rfl) (by kernel_rfl) (by kernel_rfl) (by kernel_rfl) (BB.drew (BB.refl _)) ?_ ?_
          · refine StepsM.cons ?qB190 (StepsM.cons ?qB191 (StepsM.cons ?qB192 (StepsM.cons ?qB193 (StepsM.cons ?qB194 (StepsM.cons ?qB195 (StepsM.cons ?qB196 (StepsM.cons ?qB197 (StepsM.cons ?qB198 (StepsM.cons ?qB199 (StepsM.cons ?qB1910 (StepsM.cons ?qB1911 (StepsM.cons ?qB1912 (StepsM.cons ?qB1913 (StepsM.cons ?qB1914 (StepsM.cons ?qB1915 (StepsM.cons ?qB1916 (StepsM.nil)))))))))))))))))
            case qB190 =>
              refine fun l g' wu hB hl hn hp K hK => ?_
              simp only [mkM, maskB19, mixM, Nat.reduceAdd] at hK ⊢; simp only [Act.put, List.setIfInBounds_toArray, List.set_cons_zero, List.set_cons_succ] at hK; go_simp; exact hK.out _ _ hB GF.same rfl
            case qB191 =>
              refine fun l g' wu hB hl hn hp K hK => ?_
              have e0 : g' 104 = .int .i64 0 := (hp 0 (by decide)).2; simp only [mkM, maskB19, mixM, Nat.reduceAdd, e0] at hK ⊢; clear e0; simp only [Act.put, List.setIfInBounds_toArray, List.set_cons_zero, List.set_cons_succ] at hK; go_simp; exact hK.out _ _ hB GF.same rfl
            case qB192 =>
              refine fun l g' wu hB hl hn hp K hK => ?_
              have e1 : g' 105 = .bool false := (hp 1 (by decide)).2; simp only [mkM, maskB19, mixM, Nat.reduceAdd, e1] at hK ⊢; clear e1; simp only [Act.put, List.setIfInBounds_toArray, List.set_cons_zero, List.set_cons_succ] at hK; go_simp; exact hK.out _ _ hB GF.same rfl
            case qB193 | qB194 | qB196 | qB198 | qB199 | qB1910 =>
              refine fun l g' wu hB hl hn hp K hK => ?_
              have e2 : g' 106 = .bool false := (hp 2 (by decide)).2; simp only [mkM, maskB19, mixM, Nat.reduceAdd, e2] at hK ⊢; clear e2; simp only [Act.put, List.setIfInBounds_toArray, List.set_cons_zero, List.set_cons_succ] at hK; go_simp; exact hK.out _ _ hB GF.same rfl
            case qB195 =>
              refine fun l g' wu hB hl hn hp K hK => ?_
              have hbb := hB; have e2 : g' 106 = .bool false := (hp 2 (by decide)).2; have c0 := gD0 _ hbb; have c1 := gD1 _ hbb; simp only [mkM, maskB19, mixM, Nat.reduceAdd, e2] at hK ⊢; clear e2; simp only [Act.put, List.setIfInBounds_toArray, List.set_cons_zero, List.set_cons_succ] at hK; go_simp; exact hK.out _ _ hB GF.same rfl
            case qB197 =>
              refine fun l g' wu hB hl hn hp K hK => ?_
              have hbb := hB; have e5 : g' 109 = .agg #[.slice va T ca, .slice vb T cb] := (hp 5 (by decide)).2; have e6 : g' 110 = .pointer (some ⟨g, 0, none⟩) := (hp 6 (by decide)).2; have e2 : g' 106 = .bool false := (hp 2 (by decide)).2; simp only [mkM, maskB19, mixM, Nat.reduceAdd, e5, e6, e2] at hK ⊢; clear e5 e6 e2; simp only [Act.put, List.setIfInBounds_toArray, List.set_cons_zero, List.set_cons_succ] at hK; go_simp; go_at_call 28; refine (dpledges_any g _ _ _ _ _ va T ca V vb T cb M wu (HGb.out.below hbb) (gP_one k) HSM.out.1 HSM.out.2 (HVMb.out.1.below hbb) HLV.out.1 HTT.out (HVMb.out.2.below hbb) HLV.out.2 HTT.out).mono ?_; rw [HCe.out]; rintro e w7 ⟨v7, rfl, hrow, hb⟩; go_wp2_with fail; exact hK.out _ _ (BB.step hbb hb) (GF.below hb) (PRow.of hrow HCL.out)
            case qB1911 =>
              refine fun l g' wu hB hl hn hp K hK => ?_
              have e9 : g' 113 = .int .i64 (i : Int) := (hp 9 (by decide)).2; have e10 : g' 114 = .int .i64 (by0 : Int) := (hp 10 (by decide)).2; have e2 : g' 106 = .bool false := (hp 2 (by decide)).2; have hw := HM1.out; simp only [mkM, maskB19, mixM, Nat.reduceAdd, e9, e10, e2] at hK ⊢; clear e9 e10 e2; simp only [Act.put, List.setIfInBounds_toArray, List.set_cons_zero, List.set_cons_succ] at hK; go_simp; exact hK.out _ _ hB GF.same rfl
            case qB1912 =>
              refine fun l g' wu hB hl hn hp K hK => ?_
              have e8 : g' 112 = .int .i64 (at0 : Int) := (hp 8 (by decide)).2; have e11 : g' 115 = .int .i64 (p0 : Int) := (hp 11 (by decide)).2; have e2 : g' 106 = .bool false := (hp 2 (by decide)).2; have hw := HM2.out; simp only [mkM, maskB19, mixM, Nat.reduceAdd, e8, e11, e2] at hK ⊢; clear e8 e11 e2; simp only [Act.put, List.setIfInBounds_toArray, List.set_cons_zero, List.set_cons_succ] at hK; go_simp; exact hK.out _ _ hB GF.same rfl
            case qB1913 =>
              refine fun l g' wu hB hl hn hp K hK => ?_
              have hbb := hB; have e2 : g' 106 = .bool false := (hp 2 (by decide)).2; have c0 := gS0 _ hbb; have c1 := gS1 _ hbb; simp only [mkM, maskB19, mixM, Nat.reduceAdd, e2] at hK ⊢; clear e2; simp only [Act.put, List.setIfInBounds_toArray, List.set_cons_zero, List.set_cons_succ] at hK; go_simp; exact hK.out _ _ hB GF.same rfl
            case qB1914 =>
              refine fun l g' wu hB hl hn hp K hK => ?_
              have hbb := hB; have e3 : g' 107 = .pointer (some ⟨g, 0, none⟩) := (hp 3 (by decide)).2; have e4 : g' 108 = .int .i64 (T : Int) := (hp 4 (by decide)).2; have h7 : PRow wu (g' 111) T C := (hp 7 (by decide)).2; have e12 : g' 116 = .int .i64 (q : Int) := (hp 12 (by decide)).2; have e13 : g' 117 = .agg #[.slice x1 x2 x3, .slice x4 x5 x6] := (hp 13 (by decide)).2; have e2 : g' 106 = .bool false := (hp 2 (by decide)).2; obtain ⟨ja, jc, ez7, hjc, hj⟩ := h7; simp only [mkM, maskB19, mixM, Nat.reduceAdd, e3, e4, e12, e13, e2, ez7] at hK ⊢; clear e3 e4 e12 e13 e2; simp only [Act.put, List.setIfInBounds_toArray, List.set_cons_zero, List.set_cons_succ] at hK; go_simp; go_at_call 27; refine (dright_any g _ _ _ _ _ T ja T jc C (q : Int) x1 x2 x3 S1 x4 x5 x6 R1 wu (HGb.out.below hbb) hT1 (by omega) (gP_one k) (fun z h => below_1000 k h) hj HCL.out hjc HTT.out (HNX.out.1.below hbb) (HNX.out.2.below hbb)).mono ?_; rw [HRT.out]; rintro e w7 ⟨rfl, hb⟩; go_wp2_with fail; exact hK.out _ _ (BB.step hbb hb) (GF.below hb) rfl
            case qB1915 =>
              refine fun l g' wu hB hl hn hp K hK => ?_
              have e14 : g' 118 = .bool true := (hp 14 (by decide)).2; have e2 : g' 106 = .bool false := (hp 2 (by decide)).2; simp only [mkM, maskB19, mixM, Nat.reduceAdd, e14, e2] at hK ⊢; clear e14 e2; simp only [Act.put, List.setIfInBounds_toArray, List.set_cons_zero, List.set_cons_succ] at hK; go_simp; exact hK.out _ _ hB GF.same rfl
            case qB1916 =>
              refine fun l g' wu hB hl hn hp K hK => ?_
              have e2 : g' 106 = .bool false := (hp 2 (by decide)).2; have e15 : g' 119 = .bool false := (hp 15 (by decide)).2; simp only [mkM, maskB19, mixM, Nat.reduceAdd, e2, e15] at hK ⊢; clear e2 e15; simp only [Act.put, List.setIfInBounds_toArray, List.set_cons_zero, List.set_cons_succ] at hK; go_simp; exact hK.out _ _ hB GF.same rfl
          · intro l gz wz hall hB hG
            have e16 : gz 120 = .bool false := hG 16 (by decide)
            have HW19 : Hid (BB wb wz) := hB
            simp only [mkM, maskB19, mixM, Nat.reduceAdd, e16]
            clear hG hall hB e16 gD0 gD1 gS0 gS1
            have HBC := Lib.hid (HBB.out.trans (Below.mono HW19.out HBB.out.size))
            have hbl := (Below.refl _ wz).alloc (Nat.le_refl _) (Obj.cells #[Value.int .i64 (q : Int), Value.int .u64 0] 61)
            have HBL := Lib.hid (BB.step HBC.out hbl)
            have HOL := Lib.hid ((HO2.out.below HW19.out).below hbl)
            have m1 := HM1.out
            have m2 := HM2.out
            clear hbl HBB HO2
            go_wp2_with (first | (refine wpList_append_told _ rfl (.tmp 121) (.tmp 128) rfl w5.heap.size _ ll rfl HOL.out wz.heap.size ((q : Int), 0) rfl (Blk.new wz _ _) (by rw [HNN.out]; omega) HBL.out.size ?_; intro v' w10 hown hbl; have HO10 := Lib.hid hown; have HB10 : Hid (BB w5 w10) := HBL.out.trans hbl; clear hown hbl))
            go_roundw
            case rel => exact ⟨i + 1, by omega, by go_num, HB10.out, by
              have h := HO10.out
              rw [← HLL.out] at h
              rw [hon_succ, HQ.out, ← List.append_assoc]
              exact h⟩
            case measure => simp [intOf]; omega
        · obtain rfl : T = i := by omega
          obtain ⟨wE, rfl⟩ : ∃ wE, wE = wr := ⟨wr, rfl⟩
          obtain ⟨pv, hpv⟩ : ∃ p : Nat, 1 + (vp : Int) = (p : Int) := ⟨vp + 1, by omega⟩
          have hpv1 : 1 ≤ pv := by omega
          have hpv64 : pv ≤ 64 := by omega
          have u1 : IntKind.u64.wrap (pv : Int) = (pv : Int) := wraps_u64 _ (by omega) (by omega)
          have HU1 := Lib.hid u1
          obtain ⟨v1, v3, v5, v7⟩ := HVP.out
          rw [hpv] at v7
          have hBd := HBd5.out.below HBR.out HBd5.out.lt
          have d0 := hBd.cell 0
          have d1 := hBd.cell 1
          simp only [List.getElem?_cons_zero, List.getElem?_cons_succ] at d0 d1
          clear hBd u1
          go_wp2_with fail
          clear hpv v1 v3 v5 v7 d0 d1
          refine (pieces_any g _ _ _ _ _ va T ca V vb T cb M gb N gd (fun i => (ll.getD i (0, 0)).1) (fun i => (ll.getD i (0, 0)).2) wE (HG5.out.below HBR.out) (HVM5.out.1.below HBR.out) HLV.out.1 HTT.out (HVM5.out.2.below HBR.out) HLV.out.2 HTT.out HTR.out hgd (by omega) (fun i hi => ?_)).mono ?_
          · show (ll.getD i (0, 0)).2 < _
            rw [← HLL.out]
            rcases Nat.lt_or_ge i m with h | h
            · rw [getD_appl (by rw [HM.out]; exact h)]
              exact (HLT.out.2 _ (mem_getDT (by rw [HM.out]; exact h))).2
            · have := HNm.out
              rw [getD_appr (by rw [HM.out]; exact h), HM.out, hon_get (by omega)]
              show (0 : Nat) < 18446744073709551616
              decide
          rintro e wf ⟨pv2, rfl, hrow, hbf⟩
          obtain ⟨pa, pc, rfl, hpc⟩ := hrow.form
          obtain ⟨lp, hlp1, hlp2, hlp3⟩ := hrow
          obtain ⟨_, _, he, _, _, hPR⟩ := hlp1.form
          rw [hlp2] at he
          injection he with he1 he2 he3
          subst he1
          have hNT : N = m + T := HNm.out
          obtain ⟨X, hX⟩ : ∃ X : Nat → Nat, ∀ i, X i = (shV (gQ k) V (ll.getD i (0, 0)).1 + (ll.getD i (0, 0)).2) % gQ k := ⟨fun i => _, fun i => rfl⟩
          obtain ⟨Y, hY⟩ : ∃ Y : Nat → Nat, ∀ i, Y i = shV (gQ k) M (ll.getD i (0, 0)).1 := ⟨fun i => _, fun i => rfl⟩
          have hbg := back_good k T m HLV.out.1 HLV.out.2 (C := C) (by rw [← allG_eq]; exact HCe.out) (lt := lt) HM.out (fun x hx => (HLT.out.2 x hx).1) hA1 hA10 hB1 hB8 hT6 (pr := fun i => (lp.getD i default).peer) (X := X) (Y := Y) (fun i hi => by rw [HLL.out]; exact (hlp3 i (by omega)).1) (fun i hi => by rw [HLL.out]; exact hX i) (fun i hi => by rw [HLL.out]; exact hY i)
          rw [← hNT] at hbg
          have HPC : Hid (∀ i, i < N → NatS wf (lp.getD i default).x (lp.getD i default).xl (X i) ∧ NatS wf (lp.getD i default).y (lp.getD i default).yl (Y i)) := fun i hi => by rw [hX, hY]; exact (hlp3 i hi).2
          have HTE : Hid (∀ (x s r : Nat) (er : Int), RecTells (gQ k) T (fun i => (lp.getD i default).peer) (goodP (gP k) (gQ k) (gG k) (gH k) T C (fun i => (lp.getD i default).peer) X Y N) X Y x s r er → er = 0 ∧ s = evalm (gQ k) V (x % gQ k) ∧ r = evalm (gQ k) M (x % gQ k)) := fun x s r er h => back_tells k T m HLV.out.1 HLV.out.2 hbg.1 (fun i h1 h2 => hbg.2 i h1 (by omega)) h
          have HBf := Lib.hid (BB.step HBR.out hbf)
          have HPRf := Lib.hid hPR
          have HLPN := Lib.hid hlp2
          have hN1000 : N ≤ 1000 := by omega
          have hBd := HBd5.out.below HBf.out HBd5.out.lt
          have d0 := hBd.cell 0
          have d1 := hBd.cell 1
          simp only [List.getElem?_cons_zero, List.getElem?_cons_succ] at d0 d1
          clear hbf hlp1 hlp2 hlp3 hPR he2 he3 hbg hX hY hNT hBd HTR HON
          go_wp2_with fail
          clear d0 d1
          refine (dpledges_any g _ _ _ _ _ va T ca V vb T cb M wf (HG5.out.below HBf.out) (gP_one k) HSM.out.1 HSM.out.2 (HVM5.out.1.below HBf.out) HLV.out.1 HTT.out (HVM5.out.2.below HBf.out) HLV.out.2 HTT.out).mono ?_
          rw [HCe.out]
          rintro e wg ⟨jv, rfl, hrow, hbg⟩
          obtain ⟨ja, jc, rfl, hjc, _, hj, _⟩ := hrow.form
          rw [HCL.out] at hjc ⊢
          have HJ := Lib.hid hj
          have HBg := Lib.hid (BB.step HBf.out hbg)
          have HPRg := Lib.hid (HPRf.out.below hbg)
          have HPCg : Hid (∀ i, i < N → NatS wg (lp.getD i default).x (lp.getD i default).xl (X i) ∧ NatS wg (lp.getD i default).y (lp.getD i default).yl (Y i)) := fun i hi => ⟨(HPC.out i hi).1.below hbg, (HPC.out i hi).2.below hbg⟩
          clear HPRf HPC
          clear hrow hbg hj
          go_wp2_with fail
          refine (recover_any g _ _ _ _ _ T ja T jc C pa N pc lp X Y none 0 0 0 wg (HG5.out.below HBg.out) hT1 (by omega) (gP_one k) (gQ_prime k) (gQ_big k) (fun z h => below_1000 k h) HJ.out HCL.out (by omega) HTT.out HPRg.out HLPN.out hpc hN1000 HPCg.out (natS_nil _)).mono ?_
          rintro e wh ⟨r1, r2, r3, r4, r5, r6, zs, zr, er, rfl, hz1, hz2, htl, hbh⟩
          obtain ⟨her, hzs, hzr⟩ := HTE.out _ _ _ _ htl
          subst her
          obtain ⟨AM, hAM⟩ : ∃ AM, A % gQ k = AM := ⟨_, rfl⟩
          obtain ⟨BM, hBM⟩ : ∃ BM, B % gQ k = BM := ⟨_, rfl⟩
          have e1 : zs = AM := by rw [hzs, evalm_at0 (gQ_pos k), HV0.out.1, Nat.mod_mod, hAM]
          have e2 : zr = BM := by rw [hzr, evalm_at0 (gQ_pos k), HV0.out.2, Nat.mod_mod, hBM]
          rw [e1] at hz1
          rw [e2] at hz2
          have HAM := Lib.hid (And.intro hAM hBM)
          obtain ⟨SX, hSX⟩ : ∃ SX, SX = wh.heap.size := ⟨_, rfl⟩
          have hbx := (Below.refl _ wh).alloc (Nat.le_refl _) (Obj.cells #[Value.slice r1 r2 r3, Value.slice r4 r5 r6] 64)
          have hbb : BB wg (wh.alloc (Obj.cells #[Value.slice r1 r2 r3, Value.slice r4 r5 r6] 64)) := BB.step hbh hbx
          have HS1 : Hid (Blk (wh.alloc (Obj.cells #[Value.slice r1 r2 r3, Value.slice r4 r5 r6] 64)) SX 64 [.slice r1 r2 r3, .slice r4 r5 r6]) := Blk.new' wh _ _ SX hSX
          have HZ1 := Lib.hid (And.intro (hz1.below hbx) (hz2.below hbx))
          have HBi := Lib.hid (HBg.out.trans (Below.mono hbb HBg.out.size))
          have HPRi := Lib.hid (HPRg.out.below hbb)
          have HPCi : Hid (∀ i, i < N → NatS (wh.alloc (Obj.cells #[Value.slice r1 r2 r3, Value.slice r4 r5 r6] 64)) (lp.getD i default).x (lp.getD i default).xl (X i) ∧ NatS (wh.alloc (Obj.cells #[Value.slice r1 r2 r3, Value.slice r4 r5 r6] 64)) (lp.getD i default).y (lp.getD i default).yl (Y i)) := fun i hi => ⟨(HPCg.out i hi).1.below hbb, (HPCg.out i hi).2.below hbb⟩
          have HSX := Lib.hid hSX
          have hBd := HBd5.out.below HBi.out HBd5.out.lt
          have d0 := hBd.cell 0
          have d1 := hBd.cell 1
          simp only [List.getElem?_cons_zero, List.getElem?_cons_succ] at d0 d1
          clear hz1 hz2 htl hbh hzs hzr e1 e2 hAM hBM hbx hbb hSX hBd HBg HPRg HPCg HJ
          go_wp2_with fail
          rw [← HSX.out]
          generalize wh.alloc (Obj.cells #[Value.slice r1 r2 r3, Value.slice r4 r5 r6] 64) = wi at HS1 HZ1 HBi HPRi HPCi d0 d1 ⊢
          clear d0 d1
          refine (dpledges_any g _ _ _ _ _ va T ca V vb T cb M wi (HG5.out.below HBi.out) (gP_one k) HSM.out.1 HSM.out.2 (HVM5.out.1.below HBi.out) HLV.out.1 HTT.out (HVM5.out.2.below HBi.out) HLV.out.2 HTT.out).mono ?_
          rw [HCe.out]
          rintro e wj ⟨jv, rfl, hrow, hbg⟩
          obtain ⟨ja, jc, rfl, hjc, _, hj, _⟩ := hrow.form
          rw [HCL.out] at hjc ⊢
          have HJ := Lib.hid hj
          have HBj := Lib.hid (BB.step HBi.out hbg)
          have HPRj := Lib.hid (HPRi.out.below hbg)
          have HPCj : Hid (∀ i, i < N → NatS wj (lp.getD i default).x (lp.getD i default).xl (X i) ∧ NatS wj (lp.getD i default).y (lp.getD i default).yl (Y i)) := fun i hi => ⟨(HPCi.out i hi).1.below hbg, (HPCi.out i hi).2.below hbg⟩
          have HS2 := Lib.hid (HS1.out.below hbg HS1.out.lt)
          have HZ2 := Lib.hid (And.intro (HZ1.out.1.below hbg) (HZ1.out.2.below hbg))
          have u1 := HU1.out
          clear HPRi HPCi HS1 HZ1
          clear hrow hbg hj
          go_wp2_with fail
          clear u1
          refine (new_s pv wj (by omega)).mono ?_
          rintro e wk ⟨qa, ql, qc, rfl, hq, hbk⟩
          have HQ := Lib.hid hq
          have HBk := Lib.hid (BB.step HBj.out hbk)
          have HPRk := Lib.hid (HPRj.out.below hbk)
          have HPCk : Hid (∀ i, i < N → NatS wk (lp.getD i default).x (lp.getD i default).xl (X i) ∧ NatS wk (lp.getD i default).y (lp.getD i default).yl (Y i)) := fun i hi => ⟨(HPCj.out i hi).1.below hbk, (HPCj.out i hi).2.below hbk⟩
          have HJk := Lib.hid (HJ.out.below hbk)
          have HS3 := Lib.hid (HS2.out.below hbk HS2.out.lt)
          have HZ3 := Lib.hid (And.intro (HZ2.out.1.below hbk) (HZ2.out.2.below hbk))
          clear hq hbk HPRj HPCj HJ HS2 HZ2 HBj
          go_wp2_with fail
          refine (recover_any g _ _ _ _ _ T ja T jc C pa N pc lp X Y qa ql qc pv wk (HG5.out.below HBk.out) hT1 (by omega) (gP_one k) (gQ_prime k) (gQ_big k) (fun z h => below_1000 k h) HJk.out HCL.out (by omega) HTT.out HPRk.out HLPN.out hpc hN1000 HPCk.out HQ.out).mono ?_
          rintro e wl ⟨t1, t2, t3, t4, t5, t6, zs2, zr2, er2, rfl, hz1, hz2, htl, hbl⟩
          obtain ⟨her, hzs, hzr⟩ := HTE.out _ _ _ _ htl
          subst her
          obtain ⟨SP, hSP⟩ : ∃ SP, evalm (gQ k) V (pv % gQ k) = SP := ⟨_, rfl⟩
          obtain ⟨RP, hRP⟩ : ∃ RP, evalm (gQ k) M (pv % gQ k) = RP := ⟨_, rfl⟩
          rw [hzs, hSP] at hz1
          rw [hzr, hRP] at hz2
          have HSP := Lib.hid (And.intro hSP hRP)
          obtain ⟨SY, hSY⟩ : ∃ SY, SY = wl.heap.size := ⟨_, rfl⟩
          have hbx := (Below.refl _ wl).alloc (Nat.le_refl _) (Obj.cells #[Value.slice t1 t2 t3, Value.slice t4 t5 t6] 64)
          have hbb : BB wk (wl.alloc (Obj.cells #[Value.slice t1 t2 t3, Value.slice t4 t5 t6] 64)) := BB.step hbl hbx
          have HY4 : Hid (Blk (wl.alloc (Obj.cells #[Value.slice t1 t2 t3, Value.slice t4 t5 t6] 64)) SY 64 [.slice t1 t2 t3, .slice t4 t5 t6]) := Blk.new' wl _ _ SY hSY
          have HS4 := Lib.hid (HS3.out.below hbb HS3.out.lt)
          have HZ4 := Lib.hid (And.intro (HZ3.out.1.below hbb) (And.intro (HZ3.out.2.below hbb) (And.intro (hz1.below hbx) (hz2.below hbx))))
          have HBm := Lib.hid (HBk.out.trans (Below.mono hbb HBk.out.size))
          have HSY := Lib.hid hSY
          have hBd := HBd5.out.below HBm.out HBd5.out.lt
          have d0 := hBd.cell 0
          have d1 := hBd.cell 1
          simp only [List.getElem?_cons_zero, List.getElem?_cons_succ] at d0 d1
          clear hz1 hz2 htl hbl hzs hzr hSP hRP hbx hbb hSY hBd HBk HPRk HPCk HJk HS3 HZ3 HQ
          go_wp2_with fail
          rw [← HSY.out]
          generalize wl.alloc (Obj.cells #[Value.slice t1 t2 t3, Value.slice t4 t5 t6] 64) = wm at HY4 HS4 HZ4 HBm d0 d1 ⊢
          clear d0 d1
          refine (dshare_any g _ _ _ _ _ va T ca V vb T cb M pv wm (HG5.out.below HBm.out) hpv1 hpv64 (HVM5.out.1.below HBm.out) HLV.out.1 HTT.out (HVM5.out.2.below HBm.out) HLV.out.2 HTT.out).mono ?_
          rw [HSP.out.1, HSP.out.2]
          rintro e wn ⟨y1, y2, y3, y4, y5, y6, rfl, hy1, hy2, hbn⟩
          obtain ⟨SW, hSW⟩ : ∃ SW, SW = wn.heap.size := ⟨_, rfl⟩
          have hbx := (Below.refl _ wn).alloc (Nat.le_refl _) (Obj.cells #[Value.slice y1 y2 y3, Value.slice y4 y5 y6] 64)
          have hbb : BB wm (wn.alloc (Obj.cells #[Value.slice y1 y2 y3, Value.slice y4 y5 y6] 64)) := BB.step hbn hbx
          have hW : Blk (wn.alloc (Obj.cells #[Value.slice y1 y2 y3, Value.slice y4 y5 y6] 64)) SW 64 [.slice y1 y2 y3, .slice y4 y5 y6] := Blk.new' wn _ _ SW hSW
          have hS := HS4.out.below hbb HS4.out.lt
          have hY := HY4.out.below hbb HY4.out.lt
          have HZN := Lib.hid (And.intro (HZ4.out.1.below hbb) (And.intro (HZ4.out.2.1.below hbb) (And.intro (HZ4.out.2.2.1.below hbb) (And.intro (HZ4.out.2.2.2.below hbb) (And.intro (hy1.below hbx) (hy2.below hbx))))))
          have HBZ := Lib.hid (HBm.out.trans (Below.mono hbb HBm.out.size))
          have HSW := Lib.hid hSW
          clear hy1 hy2 hbn hbx hbb hSW HY4 HS4 HZ4 HBm
          go_wp2_with fail
          rw [← HSW.out]
          generalize wn.alloc (Obj.cells #[Value.slice y1 y2 y3, Value.slice y4 y5 y6] 64) = wZ at hW hS hY HZN HBZ ⊢
          have gS0 : ∀ w', BB wZ w' → w'.cell? ⟨SX, 0, none⟩ = some (.slice r1 r2 r3) := fun w' h => (h.cell hS.lt).trans (hS.cell 0)
          have gS1 : ∀ w', BB wZ w' → w'.cell? ⟨SX, 1, none⟩ = some (.slice r4 r5 r6) := fun w' h => (h.cell hS.lt).trans (hS.cell 1)
          have gY0 : ∀ w', BB wZ w' → w'.cell? ⟨SY, 0, none⟩ = some (.slice t1 t2 t3) := fun w' h => (h.cell hY.lt).trans (hY.cell 0)
          have gY1 : ∀ w', BB wZ w' → w'.cell? ⟨SY, 1, none⟩ = some (.slice t4 t5 t6) := fun w' h => (h.cell hY.lt).trans (hY.cell 1)
          have gW0 : ∀ w', BB wZ w' → w'.cell? ⟨SW, 0, none⟩ = some (.slice y1 y2 y3) := fun w' h => (h.cell hW.lt).trans (hW.cell 0)
          have gW1 : ∀ w', BB wZ w' → w'.cell? ⟨SW, 1, none⟩ = some (.slice y4 y5 y6) := fun w' h => (h.cell hW.lt).trans (hW.cell 1)
          have HRZ := Lib.hid (HR5.out.below HBZ.out)
          clear hW hS hY
          refine wp_region_mix (fun _ w' => BB wZ w') (GF (tabB28 (.int .i64 0) (.bool true) (.bool true) (.int .i64 0) (.bool true) (.bool true) (.bool true) (.pointer (some ⟨SX, 0, none⟩)) (.agg #[.slice r1 r2 r3]) (.pointer (some ⟨r, 0, none⟩)) (.int .u64 (A : Int)) (A) (AM) (.int .i64 0) (.bool true) (.bool true) (.bool true) (.pointer (some ⟨SX, 1, none⟩)) (.agg #[.slice r4 r5 r6]) (.pointer (some ⟨r, 0, none⟩)) (.int .u64 (B : Int)) (B) (BM) (.int .i64 0) (.bool true) (.bool true) (.bool true) (.pointer (some ⟨SY, 0, none⟩)) (.agg #[.slice t1 t2 t3]) (.pointer (some ⟨SW, 0, none⟩)) (.agg #[.slice y1 y2 y3]) (.int .i64 0) (.bool true) (.bool true) (.bool true) (.pointer (some ⟨SY, 1, none⟩)) (.agg #[.slice t4 t5 t6]) (.pointer (some ⟨SW, 1, none⟩)) (.agg #[.slice y4 y5 y6]) (.int .i64 0) (.bool true) (.bool true) (.bool true))) maskB28 dstB28 preB28 (by kernel_rfl) (by kernel_rfl) rfl (by kernel_rfl) (by kernel_rfl) (by kernel_rfl) (by kernel_rfl) (BB.drew (BB.refl _)) ?_ ?_
          · refine StepsM.cons ?qB280 (StepsM.cons ?qB281 (StepsM.cons ?qB282 (StepsM.cons ?qB283 (StepsM.cons ?qB284 (StepsM.cons ?qB285 (StepsM.cons ?qB286 (StepsM.cons ?qB287 (StepsM.cons ?qB288 (StepsM.cons ?qB289 (StepsM.cons ?qB2810 (StepsM.cons ?qB2811 (StepsM.cons ?qB2812 (StepsM.cons ?qB2813 (StepsM.cons ?qB2814 (StepsM.cons ?qB2815 (StepsM.cons ?qB2816 (StepsM.cons ?qB2817 (StepsM.cons ?qB2818 (StepsM.cons ?qB2819 (StepsM.cons ?qB2820 (StepsM.cons ?qB2821 (StepsM.cons ?qB2822 (StepsM.cons ?qB2823 (StepsM.cons ?qB2824 (StepsM.cons ?qB2825 (StepsM.cons ?qB2826 (StepsM.cons ?qB2827 (StepsM.cons ?qB2828 (StepsM.cons ?qB2829 (StepsM.cons ?qB2830 (StepsM.cons ?qB2831 (StepsM.cons ?qB2832 (StepsM.cons ?qB2833 (StepsM.cons ?qB2834 (StepsM.cons ?qB2835 (StepsM.cons ?qB2836 (StepsM.cons ?qB2837 (StepsM.cons ?qB2838 (StepsM.cons ?qB2839 (StepsM.cons ?qB2840 (StepsM.cons ?qB2841 (StepsM.cons ?qB2842 (StepsM.nil)))))))))))))))))))))))))))))))))))))))))))
            case qB280 =>
              refine fun l g' wu hB hl hn hp K hK => ?_
              simp only [mkM, maskB28, mixM, Nat.reduceAdd] at hK ⊢; simp only [Act.put, List.setIfInBounds_toArray, List.set_cons_zero, List.set_cons_succ] at hK; go_simp; exact hK.out _ _ hB GF.same rfl
            case qB281 =>
              refine fun l g' wu hB hl hn hp K hK => ?_
              have e0 : g' 171 = .int .i64 0 := (hp 0 (by decide)).2; simp only [mkM, maskB28, mixM, Nat.reduceAdd, e0] at hK ⊢; clear e0; simp only [Act.put, List.setIfInBounds_toArray, List.set_cons_zero, List.set_cons_succ] at hK; go_simp; exact hK.out _ _ hB GF.same rfl
            case qB282 =>
              refine fun l g' wu hB hl hn hp K hK => ?_
              have e1 : g' 172 = .bool true := (hp 1 (by decide)).2; simp only [mkM, maskB28, mixM, Nat.reduceAdd, e1] at hK ⊢; clear e1; simp only [Act.put, List.setIfInBounds_toArray, List.set_cons_zero, List.set_cons_succ] at hK; go_simp; exact hK.out _ _ hB GF.same rfl
            case qB283 =>
              refine fun l g' wu hB hl hn hp K hK => ?_
              have e2 : g' 173 = .bool true := (hp 2 (by decide)).2; simp only [mkM, maskB28, mixM, Nat.reduceAdd, e2] at hK ⊢; clear e2; simp only [Act.put, List.setIfInBounds_toArray, List.set_cons_zero, List.set_cons_succ] at hK; go_simp; exact hK.out _ _ hB GF.same rfl
            case qB284 =>
              refine fun l g' wu hB hl hn hp K hK => ?_
              have e3 : g' 174 = .int .i64 0 := (hp 3 (by decide)).2; have e2 : g' 173 = .bool true := (hp 2 (by decide)).2; simp only [mkM, maskB28, mixM, Nat.reduceAdd, e3, e2] at hK ⊢; clear e3 e2; simp only [Act.put, List.setIfInBounds_toArray, List.set_cons_zero, List.set_cons_succ] at hK; go_simp; exact hK.out _ _ hB GF.same rfl
            case qB285 =>
              refine fun l g' wu hB hl hn hp K hK => ?_
              have e2 : g' 173 = .bool true := (hp 2 (by decide)).2; have e4 : g' 175 = .bool true := (hp 4 (by decide)).2; simp only [mkM, maskB28, mixM, Nat.reduceAdd, e2, e4] at hK ⊢; clear e2 e4; simp only [Act.put, List.setIfInBounds_toArray, List.set_cons_zero, List.set_cons_succ] at hK; go_simp; exact hK.out _ _ hB GF.same rfl
            case qB286 =>
              refine fun l g' wu hB hl hn hp K hK => ?_
              have e5 : g' 176 = .bool true := (hp 5 (by decide)).2; simp only [mkM, maskB28, mixM, Nat.reduceAdd, e5] at hK ⊢; clear e5; simp only [Act.put, List.setIfInBounds_toArray, List.set_cons_zero, List.set_cons_succ] at hK; go_simp; exact hK.out _ _ hB GF.same rfl
            case qB287 | qB289 | qB2810 =>
              refine fun l g' wu hB hl hn hp K hK => ?_
              have e6 : g' 177 = .bool true := (hp 6 (by decide)).2; simp only [mkM, maskB28, mixM, Nat.reduceAdd, e6] at hK ⊢; clear e6; simp only [Act.put, List.setIfInBounds_toArray, List.set_cons_zero, List.set_cons_succ] at hK; go_simp; exact hK.out _ _ hB GF.same rfl
            case qB288 =>
              refine fun l g' wu hB hl hn hp K hK => ?_
              have hbb := hB; have e7 : g' 178 = .pointer (some ⟨SX, 0, none⟩) := (hp 7 (by decide)).2; have e6 : g' 177 = .bool true := (hp 6 (by decide)).2; have c0 := gS0 _ hbb; simp only [mkM, maskB28, mixM, Nat.reduceAdd, e7, e6] at hK ⊢; clear e7 e6; simp only [Act.put, List.setIfInBounds_toArray, List.set_cons_zero, List.set_cons_succ] at hK; go_simp; exact hK.out _ _ hB GF.same rfl
            case qB2811 =>
              refine fun l g' wu hB hl hn hp K hK => ?_
              have hbb := hB; have e10 : g' 181 = .int .u64 (A : Int) := (hp 10 (by decide)).2; have e6 : g' 177 = .bool true := (hp 6 (by decide)).2; simp only [mkM, maskB28, mixM, Nat.reduceAdd, e10, e6] at hK ⊢; clear e10 e6; simp only [Act.put, List.setIfInBounds_toArray, List.set_cons_zero, List.set_cons_succ] at hK; go_simp; go_at_call 13; refine (new_s A wu HXX.out.1).mono ?_; rintro e w7 ⟨ta, tl, tc, rfl, hx, hb⟩; go_wp2_with fail; exact hK.out _ _ (BB.step hbb hb) (GF.below hb) ⟨ta, tl, tc, rfl, hx⟩
            case qB2812 =>
              refine fun l g' wu hB hl hn hp K hK => ?_
              have hbb := hB; have e9 : g' 180 = .pointer (some ⟨r, 0, none⟩) := (hp 9 (by decide)).2; obtain ⟨x11, l11, c11, e11, h11⟩ := (hp 11 (by decide)).2; have e11 : g' 182 = .agg #[.slice x11 l11 c11] := e11; have e6 : g' 177 = .bool true := (hp 6 (by decide)).2; simp only [mkM, maskB28, mixM, Nat.reduceAdd, e9, e11, e6] at hK ⊢; clear e9 e11 e6; simp only [Act.put, List.setIfInBounds_toArray, List.set_cons_zero, List.set_cons_succ] at hK; go_simp; go_at_call 25; refine (of_s r (gQ k) x11 l11 c11 A wu (HRZ.out.below hbb) h11).mono ?_; rw [HAM.out.1]; rintro e w7 ⟨ta, tl, tc, rfl, hx, hb⟩; go_wp2_with fail; exact hK.out _ _ (BB.step hbb hb) (GF.below hb) ⟨ta, tl, tc, rfl, hx⟩
            case qB2813 =>
              refine fun l g' wu hB hl hn hp K hK => ?_
              have hbb := hB; have e8 : g' 179 = .agg #[.slice r1 r2 r3] := (hp 8 (by decide)).2; obtain ⟨x12, l12, c12, e12, h12⟩ := (hp 12 (by decide)).2; have e12 : g' 183 = .agg #[.slice x12 l12 c12] := e12; have e6 : g' 177 = .bool true := (hp 6 (by decide)).2; simp only [mkM, maskB28, mixM, Nat.reduceAdd, e8, e12, e6] at hK ⊢; clear e8 e12 e6; simp only [Act.put, List.setIfInBounds_toArray, List.set_cons_zero, List.set_cons_succ] at hK; go_simp; go_at_call 31; refine (cmp_s r1 x12 r2 r3 l12 c12 AM AM wu (HZN.out.1.below hbb) h12).mono ?_; rw [cmp_self]; rintro e w7 ⟨rfl, hb⟩; go_wp2_with fail; exact hK.out _ _ (BB.step hbb hb) (GF.below hb) rfl
            case qB2814 =>
              refine fun l g' wu hB hl hn hp K hK => ?_
              have e13 : g' 184 = .int .i64 0 := (hp 13 (by decide)).2; have e6 : g' 177 = .bool true := (hp 6 (by decide)).2; simp only [mkM, maskB28, mixM, Nat.reduceAdd, e13, e6] at hK ⊢; clear e13 e6; simp only [Act.put, List.setIfInBounds_toArray, List.set_cons_zero, List.set_cons_succ] at hK; go_simp; exact hK.out _ _ hB GF.same rfl
            case qB2815 =>
              refine fun l g' wu hB hl hn hp K hK => ?_
              have e6 : g' 177 = .bool true := (hp 6 (by decide)).2; have e14 : g' 185 = .bool true := (hp 14 (by decide)).2; simp only [mkM, maskB28, mixM, Nat.reduceAdd, e6, e14] at hK ⊢; clear e6 e14; simp only [Act.put, List.setIfInBounds_toArray, List.set_cons_zero, List.set_cons_succ] at hK; go_simp; exact hK.out _ _ hB GF.same rfl
            case qB2816 =>
              refine fun l g' wu hB hl hn hp K hK => ?_
              have e15 : g' 186 = .bool true := (hp 15 (by decide)).2; simp only [mkM, maskB28, mixM, Nat.reduceAdd, e15] at hK ⊢; clear e15; simp only [Act.put, List.setIfInBounds_toArray, List.set_cons_zero, List.set_cons_succ] at hK; go_simp; exact hK.out _ _ hB GF.same rfl
            case qB2817 | qB2819 | qB2820 =>
              refine fun l g' wu hB hl hn hp K hK => ?_
              have e16 : g' 187 = .bool true := (hp 16 (by decide)).2; simp only [mkM, maskB28, mixM, Nat.reduceAdd, e16] at hK ⊢; clear e16; simp only [Act.put, List.setIfInBounds_toArray, List.set_cons_zero, List.set_cons_succ] at hK; go_simp; exact hK.out _ _ hB GF.same rfl
            case qB2818 =>
              refine fun l g' wu hB hl hn hp K hK => ?_
              have hbb := hB; have e17 : g' 188 = .pointer (some ⟨SX, 1, none⟩) := (hp 17 (by decide)).2; have e16 : g' 187 = .bool true := (hp 16 (by decide)).2; have c0 := gS1 _ hbb; simp only [mkM, maskB28, mixM, Nat.reduceAdd, e17, e16] at hK ⊢; clear e17 e16; simp only [Act.put, List.setIfInBounds_toArray, List.set_cons_zero, List.set_cons_succ] at hK; go_simp; exact hK.out _ _ hB GF.same rfl
            case qB2821 =>
              refine fun l g' wu hB hl hn hp K hK => ?_
              have hbb := hB; have e20 : g' 191 = .int .u64 (B : Int) := (hp 20 (by decide)).2; have e16 : g' 187 = .bool true := (hp 16 (by decide)).2; simp only [mkM, maskB28, mixM, Nat.reduceAdd, e20, e16] at hK ⊢; clear e20 e16; simp only [Act.put, List.setIfInBounds_toArray, List.set_cons_zero, List.set_cons_succ] at hK; go_simp; go_at_call 13; refine (new_s B wu HXX.out.2).mono ?_; rintro e w7 ⟨ta, tl, tc, rfl, hx, hb⟩; go_wp2_with fail; exact hK.out _ _ (BB.step hbb hb) (GF.below hb) ⟨ta, tl, tc, rfl, hx⟩
            case qB2822 =>
              refine fun l g' wu hB hl hn hp K hK => ?_
              have hbb := hB; have e19 : g' 190 = .pointer (some ⟨r, 0, none⟩) := (hp 19 (by decide)).2; obtain ⟨x21, l21, c21, e21, h21⟩ := (hp 21 (by decide)).2; have e21 : g' 192 = .agg #[.slice x21 l21 c21] := e21; have e16 : g' 187 = .bool true := (hp 16 (by decide)).2; simp only [mkM, maskB28, mixM, Nat.reduceAdd, e19, e21, e16] at hK ⊢; clear e19 e21 e16; simp only [Act.put, List.setIfInBounds_toArray, List.set_cons_zero, List.set_cons_succ] at hK; go_simp; go_at_call 25; refine (of_s r (gQ k) x21 l21 c21 B wu (HRZ.out.below hbb) h21).mono ?_; rw [HAM.out.2]; rintro e w7 ⟨ta, tl, tc, rfl, hx, hb⟩; go_wp2_with fail; exact hK.out _ _ (BB.step hbb hb) (GF.below hb) ⟨ta, tl, tc, rfl, hx⟩
            case qB2823 =>
              refine fun l g' wu hB hl hn hp K hK => ?_
              have hbb := hB; have e18 : g' 189 = .agg #[.slice r4 r5 r6] := (hp 18 (by decide)).2; obtain ⟨x22, l22, c22, e22, h22⟩ := (hp 22 (by decide)).2; have e22 : g' 193 = .agg #[.slice x22 l22 c22] := e22; have e16 : g' 187 = .bool true := (hp 16 (by decide)).2; simp only [mkM, maskB28, mixM, Nat.reduceAdd, e18, e22, e16] at hK ⊢; clear e18 e22 e16; simp only [Act.put, List.setIfInBounds_toArray, List.set_cons_zero, List.set_cons_succ] at hK; go_simp; go_at_call 31; refine (cmp_s r4 x22 r5 r6 l22 c22 BM BM wu (HZN.out.2.1.below hbb) h22).mono ?_; rw [cmp_self]; rintro e w7 ⟨rfl, hb⟩; go_wp2_with fail; exact hK.out _ _ (BB.step hbb hb) (GF.below hb) rfl
            case qB2824 =>
              refine fun l g' wu hB hl hn hp K hK => ?_
              have e23 : g' 194 = .int .i64 0 := (hp 23 (by decide)).2; have e16 : g' 187 = .bool true := (hp 16 (by decide)).2; simp only [mkM, maskB28, mixM, Nat.reduceAdd, e23, e16] at hK ⊢; clear e23 e16; simp only [Act.put, List.setIfInBounds_toArray, List.set_cons_zero, List.set_cons_succ] at hK; go_simp; exact hK.out _ _ hB GF.same rfl
            case qB2825 =>
              refine fun l g' wu hB hl hn hp K hK => ?_
              have e16 : g' 187 = .bool true := (hp 16 (by decide)).2; have e24 : g' 195 = .bool true := (hp 24 (by decide)).2; simp only [mkM, maskB28, mixM, Nat.reduceAdd, e16, e24] at hK ⊢; clear e16 e24; simp only [Act.put, List.setIfInBounds_toArray, List.set_cons_zero, List.set_cons_succ] at hK; go_simp; exact hK.out _ _ hB GF.same rfl
            case qB2826 =>
              refine fun l g' wu hB hl hn hp K hK => ?_
              have e25 : g' 196 = .bool true := (hp 25 (by decide)).2; simp only [mkM, maskB28, mixM, Nat.reduceAdd, e25] at hK ⊢; clear e25; simp only [Act.put, List.setIfInBounds_toArray, List.set_cons_zero, List.set_cons_succ] at hK; go_simp; exact hK.out _ _ hB GF.same rfl
            case qB2827 | qB2829 =>
              refine fun l g' wu hB hl hn hp K hK => ?_
              have e26 : g' 197 = .bool true := (hp 26 (by decide)).2; simp only [mkM, maskB28, mixM, Nat.reduceAdd, e26] at hK ⊢; clear e26; simp only [Act.put, List.setIfInBounds_toArray, List.set_cons_zero, List.set_cons_succ] at hK; go_simp; exact hK.out _ _ hB GF.same rfl
            case qB2828 =>
              refine fun l g' wu hB hl hn hp K hK => ?_
              have hbb := hB; have e27 : g' 198 = .pointer (some ⟨SY, 0, none⟩) := (hp 27 (by decide)).2; have e26 : g' 197 = .bool true := (hp 26 (by decide)).2; have c0 := gY0 _ hbb; simp only [mkM, maskB28, mixM, Nat.reduceAdd, e27, e26] at hK ⊢; clear e27 e26; simp only [Act.put, List.setIfInBounds_toArray, List.set_cons_zero, List.set_cons_succ] at hK; go_simp; exact hK.out _ _ hB GF.same rfl
            case qB2830 =>
              refine fun l g' wu hB hl hn hp K hK => ?_
              have hbb := hB; have e29 : g' 200 = .pointer (some ⟨SW, 0, none⟩) := (hp 29 (by decide)).2; have e26 : g' 197 = .bool true := (hp 26 (by decide)).2; have c0 := gW0 _ hbb; simp only [mkM, maskB28, mixM, Nat.reduceAdd, e29, e26] at hK ⊢; clear e29 e26; simp only [Act.put, List.setIfInBounds_toArray, List.set_cons_zero, List.set_cons_succ] at hK; go_simp; exact hK.out _ _ hB GF.same rfl
            case qB2831 =>
              refine fun l g' wu hB hl hn hp K hK => ?_
              have hbb := hB; have e28 : g' 199 = .agg #[.slice t1 t2 t3] := (hp 28 (by decide)).2; have e30 : g' 201 = .agg #[.slice y1 y2 y3] := (hp 30 (by decide)).2; have e26 : g' 197 = .bool true := (hp 26 (by decide)).2; simp only [mkM, maskB28, mixM, Nat.reduceAdd, e28, e30, e26] at hK ⊢; clear e28 e30 e26; simp only [Act.put, List.setIfInBounds_toArray, List.set_cons_zero, List.set_cons_succ] at hK; go_simp; go_at_call 31; refine (cmp_s t1 y1 t2 t3 y2 y3 SP SP wu (HZN.out.2.2.1.below hbb) (HZN.out.2.2.2.2.1.below hbb)).mono ?_; rw [cmp_self]; rintro e w7 ⟨rfl, hb⟩; go_wp2_with fail; exact hK.out _ _ (BB.step hbb hb) (GF.below hb) rfl
            case qB2832 =>
              refine fun l g' wu hB hl hn hp K hK => ?_
              have e31 : g' 202 = .int .i64 0 := (hp 31 (by decide)).2; have e26 : g' 197 = .bool true := (hp 26 (by decide)).2; simp only [mkM, maskB28, mixM, Nat.reduceAdd, e31, e26] at hK ⊢; clear e31 e26; simp only [Act.put, List.setIfInBounds_toArray, List.set_cons_zero, List.set_cons_succ] at hK; go_simp; exact hK.out _ _ hB GF.same rfl
            case qB2833 =>
              refine fun l g' wu hB hl hn hp K hK => ?_
              have e26 : g' 197 = .bool true := (hp 26 (by decide)).2; have e32 : g' 203 = .bool true := (hp 32 (by decide)).2; simp only [mkM, maskB28, mixM, Nat.reduceAdd, e26, e32] at hK ⊢; clear e26 e32; simp only [Act.put, List.setIfInBounds_toArray, List.set_cons_zero, List.set_cons_succ] at hK; go_simp; exact hK.out _ _ hB GF.same rfl
            case qB2834 =>
              refine fun l g' wu hB hl hn hp K hK => ?_
              have e33 : g' 204 = .bool true := (hp 33 (by decide)).2; simp only [mkM, maskB28, mixM, Nat.reduceAdd, e33] at hK ⊢; clear e33; simp only [Act.put, List.setIfInBounds_toArray, List.set_cons_zero, List.set_cons_succ] at hK; go_simp; exact hK.out _ _ hB GF.same rfl
            case qB2835 | qB2837 =>
              refine fun l g' wu hB hl hn hp K hK => ?_
              have e34 : g' 205 = .bool true := (hp 34 (by decide)).2; simp only [mkM, maskB28, mixM, Nat.reduceAdd, e34] at hK ⊢; clear e34; simp only [Act.put, List.setIfInBounds_toArray, List.set_cons_zero, List.set_cons_succ] at hK; go_simp; exact hK.out _ _ hB GF.same rfl
            case qB2836 =>
              refine fun l g' wu hB hl hn hp K hK => ?_
              have hbb := hB; have e35 : g' 206 = .pointer (some ⟨SY, 1, none⟩) := (hp 35 (by decide)).2; have e34 : g' 205 = .bool true := (hp 34 (by decide)).2; have c0 := gY1 _ hbb; simp only [mkM, maskB28, mixM, Nat.reduceAdd, e35, e34] at hK ⊢; clear e35 e34; simp only [Act.put, List.setIfInBounds_toArray, List.set_cons_zero, List.set_cons_succ] at hK; go_simp; exact hK.out _ _ hB GF.same rfl
            case qB2838 =>
              refine fun l g' wu hB hl hn hp K hK => ?_
              have hbb := hB; have e37 : g' 208 = .pointer (some ⟨SW, 1, none⟩) := (hp 37 (by decide)).2; have e34 : g' 205 = .bool true := (hp 34 (by decide)).2; have c0 := gW1 _ hbb; simp only [mkM, maskB28, mixM, Nat.reduceAdd, e37, e34] at hK ⊢; clear e37 e34; simp only [Act.put, List.setIfInBounds_toArray, List.set_cons_zero, List.set_cons_succ] at hK; go_simp; exact hK.out _ _ hB GF.same rfl
            case qB2839 =>
              refine fun l g' wu hB hl hn hp K hK => ?_
              have hbb := hB; have e36 : g' 207 = .agg #[.slice t4 t5 t6] := (hp 36 (by decide)).2; have e38 : g' 209 = .agg #[.slice y4 y5 y6] := (hp 38 (by decide)).2; have e34 : g' 205 = .bool true := (hp 34 (by decide)).2; simp only [mkM, maskB28, mixM, Nat.reduceAdd, e36, e38, e34] at hK ⊢; clear e36 e38 e34; simp only [Act.put, List.setIfInBounds_toArray, List.set_cons_zero, List.set_cons_succ] at hK; go_simp; go_at_call 31; refine (cmp_s t4 y4 t5 t6 y5 y6 RP RP wu (HZN.out.2.2.2.1.below hbb) (HZN.out.2.2.2.2.2.below hbb)).mono ?_; rw [cmp_self]; rintro e w7 ⟨rfl, hb⟩; go_wp2_with fail; exact hK.out _ _ (BB.step hbb hb) (GF.below hb) rfl
            case qB2840 =>
              refine fun l g' wu hB hl hn hp K hK => ?_
              have e39 : g' 210 = .int .i64 0 := (hp 39 (by decide)).2; have e34 : g' 205 = .bool true := (hp 34 (by decide)).2; simp only [mkM, maskB28, mixM, Nat.reduceAdd, e39, e34] at hK ⊢; clear e39 e34; simp only [Act.put, List.setIfInBounds_toArray, List.set_cons_zero, List.set_cons_succ] at hK; go_simp; exact hK.out _ _ hB GF.same rfl
            case qB2841 =>
              refine fun l g' wu hB hl hn hp K hK => ?_
              have e34 : g' 205 = .bool true := (hp 34 (by decide)).2; have e40 : g' 211 = .bool true := (hp 40 (by decide)).2; simp only [mkM, maskB28, mixM, Nat.reduceAdd, e34, e40] at hK ⊢; clear e34 e40; simp only [Act.put, List.setIfInBounds_toArray, List.set_cons_zero, List.set_cons_succ] at hK; go_simp; exact hK.out _ _ hB GF.same rfl
            case qB2842 =>
              refine fun l g' wu hB hl hn hp K hK => ?_
              have e41 : g' 212 = .bool true := (hp 41 (by decide)).2; simp only [mkM, maskB28, mixM, Nat.reduceAdd, e41] at hK ⊢; clear e41; simp only [Act.put, List.setIfInBounds_toArray, List.set_cons_zero, List.set_cons_succ] at hK; go_simp; exact hK.out _ _ hB GF.same rfl
          · intro l gz wz hall hB hG
            have e42 : gz 18 = .bool true := hG 42 (by decide)
            have HLAST : Hid (BB wZ wz) := hB
            simp only [mkM, maskB28, mixM, Nat.reduceAdd, e42]
            clear hG hall hB e42
            go_wp2_with fail
            go_ret
            exact ⟨rfl, HB5.out.trans (Below.mono (HBZ.out.trans (Below.mono HLAST.out HBZ.out.size)) HB5.out.size)⟩

/-- The same, as the frame asks it. -/
theorem dback_walk (a0 a1 a2 a3 : Int) (a4 : Option Addr) (len4 cap4 : Nat) (z4 : List Int) (a5 a6 a7 : Int) (a8 : Option Addr) (len8 cap8 : Nat) (x8 y8 : Nat → Int) (w : World)
    (w2 : (Lit.int .u64 a2).wf = true) (w3 : (Lit.int .u64 a3).wf = true)
    (w4 : (a4 = none ∧ len4 = 0 ∧ cap4 = 0 ∧ z4 = []) ∨ ∃ x, a4 = some x ∧ len4 ≤ cap4 ∧ cap4 ≤ maxLen ∧ z4.length = cap4 ∧ (∀ i, i < z4.length → w.cell? (x.add i) = some (.int .u64 (z4.getD i 0))) ∧ ∀ n ∈ z4, (Lit.int .u64 n).wf = true)
    (w8 : (a8 = none ∧ len8 = 0 ∧ cap8 = 0) ∨ ∃ ad, a8 = some ad ∧ len8 ≤ cap8 ∧ cap8 ≤ maxLen ∧ ∀ i, i < len8 → w.cell? (ad.add (i * 2)) = some (.int .i64 (x8 i)) ∧ w.cell? (ad.add (i * 2 + 1)) = some (.int .u64 (y8 i)) ∧ (Lit.int .i64 (x8 i)).wf = true ∧ (Lit.int .u64 (y8 i)).wf = true) :
    Calls Tryz.prog 4 #[.int .i64 a0, .int .i64 a1, .int .u64 a2, .int .u64 a3, .slice a4 len4 cap4, .int .i64 a5, .int .i64 a6, .int .i64 a7, .slice a8 len8 cap8] w fun e w' => e = .returned (.bool true) ∧ Below w.heap.size w w' := by
  obtain ⟨x, rfl, hx⟩ := word_in w2
  obtain ⟨y, rfl, hy⟩ := word_in w3
  obtain ⟨l, h1, h2, h3, h4⟩ := words_in w4
  refine dback_any a0 a1 x y a4 len4 cap4 l a5 a6 a7 a8 len8 cap8 x8 (fun i => (y8 i).toNat) w h1 h2 h3 h4 hx hy (fun i hi => ?_) ?_ (fun i hi => ?_)
  · rcases w8 with ⟨_, h, _⟩ | ⟨ad, e, _, _, h⟩
    · omega
    · obtain ⟨c0, c1, _, f1⟩ := h i hi
      obtain ⟨z, hz, _⟩ := word_in f1
      refine ⟨ad, e, c0, ?_⟩
      rw [← Addr.add_add, add_one] at c1
      rw [c1]
      show _ = some (Value.int .u64 (((y8 i).toNat : Nat) : Int))
      rw [hz]; rfl
  · rcases w8 with ⟨_, h, h'⟩ | ⟨ad, e, h, _, _⟩ <;> omega
  · rcases w8 with ⟨_, h, _⟩ | ⟨ad, e, _, _, h⟩
    · omega
    · obtain ⟨_, _, _, f1⟩ := h i hi
      obtain ⟨z, hz, hz2⟩ := word_in f1
      show (y8 i).toNat < _
      rw [hz]; exact hz2
end Go.Proofs.YthefednendgclaaGreat
