/-
  SHA-256: a block is taken in.
-/
import Derived.Test.YthefednendgclaaGreatShaA
import Derived.Test.YthefednendgclaaGreatNatA
import Derived.Deep.RegionLaw
import Derived.Laws.CopyOwn
import Derived.OwnWalk
set_option linter.unusedVariables false
set_option linter.unusedSimpArgs false
namespace Go.Proofs.YthefednendgclaaGreat
open Go Go.RowKit Sac

/-- The first n of the words l, zeros behind them: 64 cells. -/
def sch (l : List Nat) : List Value := (l ++ List.replicate (64 - l.length) 0).map w32
theorem sch_length {l : List Nat} (h : l.length ≤ 64) : (sch l).length = 64 := by simp [sch]; omega
theorem sch_get {l : List Nat} {i : Nat} (hi : i < l.length) : (sch l)[i]? = some (.int .u32 ((l.getD i 0 : Nat) : Int)) := by
  simp [sch, List.getElem?_append_left, hi, w32]
theorem sch_set {l : List Nat} (h : l.length < 64) (x : Nat) (v : Value) (hv : v = w32 x) : (sch l).set l.length v = sch (l ++ [x]) := by
  rw [hv]
  unfold sch
  rw [← List.map_set]
  congr 1
  have e : List.replicate (64 - l.length) 0 = 0 :: List.replicate (64 - (l ++ [x]).length) 0 := by
    rw [← List.replicate_succ]
    congr 1
    simp; omega
  rw [e, List.set_append_right _ _ (Nat.le_refl _)]
  simp
theorem sch_nil : sch [] = List.replicate 64 (w32 0) := by simp [sch]
theorem words16_take (b : List Nat) (k : Nat) (hk : k < 16) : (Sha.words16 b).take (k + 1) = (Sha.words16 b).take k ++ [Sha.word b k] := by
  have h : k < (Sha.words16 b).length := by simp [Sha.words16]; omega
  rw [List.take_succ_eq_append_getElem h]
  simp [Sha.words16]
theorem words16_take_length (b : List Nat) (k : Nat) (hk : k ≤ 16) : ((Sha.words16 b).take k).length = k := by simp [Sha.words16]; omega

theorem word_bits (x0 x1 x2 x3 : Nat) (h0 : x0 < 256) (h1 : x1 < 256) (h2 : x2 < 256) (h3 : x3 < 256) :
    bits BinOp.or IntKind.u32 (bits BinOp.or IntKind.u32 (bits BinOp.or IntKind.u32 ((x0 : Int) * 16777216) ((x1 : Int) * 65536)) ((x2 : Int) * 256)) (x3 : Int) = ((x0 * 16777216 + x1 * 65536 + x2 * 256 + x3 : Nat) : Int) := by
  rw [bits_join .u32 32 (by decide) wraps_u32 24 ((x0 : Int) * 16777216) ((x1 : Int) * 65536) (by omega) (by omega) (by omega) (by omega) (by omega) (by omega)]
  rw [bits_join .u32 32 (by decide) wraps_u32 16 ((x0 : Int) * 16777216 + (x1 : Int) * 65536) ((x2 : Int) * 256) (by omega) (by omega) (by omega) (by omega) (by omega) (by omega)]
  rw [bits_join .u32 32 (by decide) wraps_u32 8 ((x0 : Int) * 16777216 + (x1 : Int) * 65536 + (x2 : Int) * 256) (x3 : Int) (by omega) (by omega) (by omega) (by omega) (by omega) (by omega)]
  omega
theorem sch_step {w : World} {s : Nat} {e : TypeId} {l : List Nat} {k : Nat} (h : Blk w s e (sch l)) (hl : l.length = k) (hk : k < 64) {v : Value} {x : Nat} (hv : v = w32 x) : Blk (w.setCell ⟨s, k, none⟩ v) s e (sch (l ++ [x])) := by
  have := h.set k v
  subst hl
  rwa [sch_set hk x v hv] at this

theorem next_bits (a b x y : Nat) (ha : a < Sha.M) (hb : b < Sha.M) (hx : x < Sha.M) (hy : y < Sha.M) :
    Value.int IntKind.u32 (((a : Int) + (b : Int) + bits BinOp.xor IntKind.u32 (bits BinOp.xor IntKind.u32 ((Sha.rotr x 7 : Nat) : Int) ((Sha.rotr x 18 : Nat) : Int)) ((x : Int) / 8) +
          bits BinOp.xor IntKind.u32 (bits BinOp.xor IntKind.u32 ((Sha.rotr y 17 : Nat) : Int) ((Sha.rotr y 19 : Nat) : Int)) ((y : Int) / 1024)) % 4294967296) =
      w32 ((a + b + (Sha.rotr x 7 ^^^ Sha.rotr x 18 ^^^ x / 8) + (Sha.rotr y 17 ^^^ Sha.rotr y 19 ^^^ y / 1024)) % Sha.M) := by
  have e1 : ((x : Int) / 8) = ((x / 8 : Nat) : Int) := by omega
  have e2 : ((y : Int) / 1024) = ((y / 1024 : Nat) : Int) := by omega
  rw [e1, e2, Sha.b_xor _ _ (Sha.rotr_lt hx 7) (Sha.rotr_lt hx 18), Sha.b_xor _ _ (Sha.xor_lt (Sha.rotr_lt hx 7) (Sha.rotr_lt hx 18)) (Sha.div_lt hx 8),
    Sha.b_xor _ _ (Sha.rotr_lt hy 17) (Sha.rotr_lt hy 19), Sha.b_xor _ _ (Sha.xor_lt (Sha.rotr_lt hy 17) (Sha.rotr_lt hy 19)) (Sha.div_lt hy 1024)]
  generalize Sha.rotr x 7 ^^^ Sha.rotr x 18 ^^^ x / 8 = A
  generalize Sha.rotr y 17 ^^^ Sha.rotr y 19 ^^^ y / 1024 = B
  unfold w32 Sha.M
  congr 1

theorem t_bits (v4 v5 v6 v7 kk ww : Nat) (l4 : v4 < Sha.M) (l5 : v5 < Sha.M) (l6 : v6 < Sha.M) :
    IntKind.u32.wrap (IntKind.u32.wrap (IntKind.u32.wrap (IntKind.u32.wrap ((v7 : Int) + bits BinOp.xor IntKind.u32 (bits BinOp.xor IntKind.u32 ((Sha.rotr v4 6 : Nat) : Int) ((Sha.rotr v4 11 : Nat) : Int)) ((Sha.rotr v4 25 : Nat) : Int)) +
      bits BinOp.xor IntKind.u32 (bits BinOp.and IntKind.u32 (v4 : Int) (v5 : Int)) (bits BinOp.and IntKind.u32 (bits BinOp.xor IntKind.u32 IntKind.u32.max (v4 : Int)) (v6 : Int))) + (kk : Int)) + (ww : Int)) =
    (((v7 + (Sha.rotr v4 6 ^^^ Sha.rotr v4 11 ^^^ Sha.rotr v4 25) + ((v4 &&& v5) ^^^ ((Sha.M - 1 - v4) &&& v6)) + kk + ww) % Sha.M : Nat) : Int) := by
  have hn : Sha.M - 1 - v4 < Sha.M := by unfold Sha.M; omega
  rw [Sha.b_xor _ _ (Sha.rotr_lt l4 6) (Sha.rotr_lt l4 11), Sha.b_xor _ _ (Sha.xor_lt (Sha.rotr_lt l4 6) (Sha.rotr_lt l4 11)) (Sha.rotr_lt l4 25), Sha.b_not v4 l4, Sha.b_and v4 v5 l4 l5, Sha.b_and _ v6 hn l6, Sha.b_xor _ _ (Sha.and_lt l5) (Sha.and_lt l6)]
  generalize Sha.rotr v4 6 ^^^ Sha.rotr v4 11 ^^^ Sha.rotr v4 25 = A
  generalize (v4 &&& v5) ^^^ ((Sha.M - 1 - v4) &&& v6) = B
  simp only [IntKind.wrap_u32]
  unfold Sha.M
  omega

theorem u_bits (v0 v1 v2 : Nat) (l0 : v0 < Sha.M) (l1 : v1 < Sha.M) (l2 : v2 < Sha.M) :
    IntKind.u32.wrap (bits BinOp.xor IntKind.u32 (bits BinOp.xor IntKind.u32 ((Sha.rotr v0 2 : Nat) : Int) ((Sha.rotr v0 13 : Nat) : Int)) ((Sha.rotr v0 22 : Nat) : Int) +
      bits BinOp.xor IntKind.u32 (bits BinOp.xor IntKind.u32 (bits BinOp.and IntKind.u32 (v0 : Int) (v1 : Int)) (bits BinOp.and IntKind.u32 (v0 : Int) (v2 : Int))) (bits BinOp.and IntKind.u32 (v1 : Int) (v2 : Int))) =
    ((((Sha.rotr v0 2 ^^^ Sha.rotr v0 13 ^^^ Sha.rotr v0 22) + ((v0 &&& v1) ^^^ (v0 &&& v2) ^^^ (v1 &&& v2))) % Sha.M : Nat) : Int) := by
  rw [Sha.b_xor _ _ (Sha.rotr_lt l0 2) (Sha.rotr_lt l0 13), Sha.b_xor _ _ (Sha.xor_lt (Sha.rotr_lt l0 2) (Sha.rotr_lt l0 13)) (Sha.rotr_lt l0 22), Sha.b_and v0 v1 l0 l1, Sha.b_and v0 v2 l0 l2, Sha.b_and v1 v2 l1 l2,
    Sha.b_xor _ _ (Sha.and_lt l1) (Sha.and_lt l2), Sha.b_xor _ _ (Sha.xor_lt (Sha.and_lt l1) (Sha.and_lt l2)) (Sha.and_lt l2)]
  generalize Sha.rotr v0 2 ^^^ Sha.rotr v0 13 ^^^ Sha.rotr v0 22 = A
  generalize (v0 &&& v1) ^^^ (v0 &&& v2) ^^^ (v1 &&& v2) = B
  simp only [IntKind.wrap_u32]
  unfold Sha.M
  omega

theorem run_index_words (w : World) (cs : Array Value) (i : Nat) (v : Value) (hi : i < 64) (hv : cs[i]? = some v) : (Instr.index 221 (.agg cs) (.int .i64 (i : Int))).run Tryz.prog w = .ok v w := by
  have hsz : (sizeOf 106).run Tryz.prog w = .ok 1 w := by kernel_rfl
  have hag : (isAgg 106).run Tryz.prog w = .ok false w := by kernel_rfl
  have hr : (0 : Int) ≤ (i : Int) ∧ (i : Int) < ((64 : Nat) : Int) := by omega
  simp [Instr.index, run_underlying Tryz.underlying221, asIntOf, hi, part, hag, hsz, hv, go_sem]

theorem bel_drew {B : Nat} {w wr : World} (h : Below B w wr) : Below B w wr.drew := ⟨h.os, h.tape, h.output, h.size, h.block⟩
theorem sched_length : ∀ (k : Nat) (w : List Nat), (Sha.sched k w).length = w.length + k
  | 0, _ => rfl
  | k + 1, w => by show (Sha.sched k _).length = _; rw [sched_length k]; simp; omega
theorem sched_succ : ∀ (k : Nat) (w : List Nat), Sha.sched (k + 1) w = Sha.sched k w ++ [Sha.next (Sha.sched k w) (Sha.sched k w).length]
  | 0, _ => rfl
  | k + 1, w => by
    show Sha.sched (k + 1) (w ++ [Sha.next w w.length]) = _
    rw [sched_succ k]
    rfl
theorem next_lt (w : List Nat) (n : Nat) : Sha.next w n < Sha.M := Nat.mod_lt _ (by decide)
theorem sched_lt : ∀ (k : Nat) (w : List Nat), (∀ x ∈ w, x < Sha.M) → ∀ x ∈ Sha.sched k w, x < Sha.M
  | 0, _, h => h
  | k + 1, w, h => sched_lt k _ fun x hx => by
    rcases List.mem_append.1 hx with hx | hx
    · exact h x hx
    · rw [List.mem_singleton.1 hx]; exact next_lt _ _
theorem words16_lt {b : List Nat} (hb : ∀ x ∈ b, x < 256) : ∀ x ∈ Sha.words16 b, x < Sha.M := by
  intro x hx
  obtain ⟨i, _, rfl⟩ := List.mem_map.1 hx
  have g : ∀ j, b.getD j 0 < 256 := fun j => by
    rw [List.getD_eq_getElem?_getD]
    rcases Nat.lt_or_ge j b.length with h | h
    · rw [List.getElem?_eq_getElem h]; exact hb _ (List.getElem_mem h)
    · rw [List.getElem?_eq_none h]; decide
  have := g (4 * i)
  have := g (4 * i + 1)
  have := g (4 * i + 2)
  have := g (4 * i + 3)
  unfold Sha.word Sha.M
  omega
theorem getD_lt {l : List Nat} {m : Nat} (hm : 0 < m) (h : ∀ x ∈ l, x < m) (j : Nat) : l.getD j 0 < m := by
  rw [List.getD_eq_getElem?_getD]
  rcases Nat.lt_or_ge j l.length with h1 | h1
  · rw [List.getElem?_eq_getElem h1]; exact h _ (List.getElem_mem h1)
  · rw [List.getElem?_eq_none h1]; exact hm

/-- The bytes as they are read. -/
theorem rd_byte {w : World} {ad : Addr} {l : List Nat} (h : Rd w 5 (some ad) (l.map by8)) (hb : ∀ x ∈ l, x < 256) {k : Nat} (hk : k < l.length) :
    ∃ x, w.cell? (ad.add k) = some (.int .u8 ((x : Nat) : Int)) ∧ x < 256 ∧ l.getD k 0 = x := by
  obtain ⟨ad', h1, _, h3⟩ := h.at_ (k := k) (by simpa using hk)
  injection h1 with h1
  subst h1
  refine ⟨l.getD k 0, ?_, ?_, rfl⟩
  · rw [h3]
    simp [by8, hk]
  · rw [List.getD_eq_getElem?_getD, List.getElem?_eq_getElem hk]
    exact hb _ (List.getElem_mem hk)

set_option maxRecDepth 100000 in
set_option maxHeartbeats 4000000 in
theorem block_any (g : Nat) (st : List Nat) (tl : List Value) (ad : Addr) (cap : Nat) (bs : List Nat) (w : World) (hst : st.length = 8) (hsw : ∀ x ∈ st, x < Sha.M) (hB : Blk w g 219 (st.map w32 ++ tl))
    (hbl : bs.length = 64) (hbb : ∀ x ∈ bs, x < 256) (hr : Rd w 5 (some ad) (bs.map by8)) (hcap : (64 : Int) ≤ cap) :
    Calls Tryz.prog 161 #[.pointer (some ⟨g, 0, none⟩), .slice (some ad) 64 cap] w fun e w' => e = .returned (.tuple #[]) ∧ Blk w' g 219 ((Sha.block st bs).map w32 ++ tl) ∧ Only (· = g) w w' := by
  have HST := Lib.hid hst
  have HSW := Lib.hid hsw
  have HB := Lib.hid hB
  have HBL := Lib.hid hbl
  have HBB := Lib.hid hbb
  have HR := Lib.hid hr
  clear hst hsw hB hbl hbb hr
  go_enter Tryz.func161, Tryz.ntmps161
  go_wp2_with fail
  obtain ⟨s, hs⟩ : ∃ s, s = w.heap.size := ⟨_, rfl⟩
  generalize hW : w.alloc _ = w1
  have HA1 : Hid (Blk w1 s 221 (sch []) ∧ Below s w w1) := by
    rw [hs, ← hW, sch_nil]
    exact ⟨Blk.new w (List.replicate 64 (w32 0)) _, (Below.refl _ w).alloc (Nat.le_refl _) _⟩
  have HGS : Hid (g < s) := hs ▸ HB.out.lt
  rw [← hs]
  have HS := Lib.hid hs
  clear hW hs
  go_loopw [17] (fun iv wr => ∃ k : Nat, k ≤ 16 ∧ iv = .int .i64 (k : Int) ∧ Hid (Blk wr s 221 (sch ((Sha.words16 bs).take k)) ∧ Below s w wr)) (fun iv _ => 16 - (intOf iv).toNat)
  case atStart => exact ⟨0, by omega, rfl, HA1.out⟩
  case round =>
    obtain ⟨k, hk, rfl, HA⟩ := hrel
    clear HA1
    by_cases hk16 : k < 16
    · skip
      have hrd := fun (j : Nat) (hj : j < 64) => rd_byte (HR.out.below (w' := wr) (HS.out ▸ HA.out.2)) HBB.out (k := j) (by rw [HBL.out]; exact hj)
      obtain ⟨j0, hj0⟩ : ∃ j, j = 4 * k := ⟨_, rfl⟩
      obtain ⟨j1, hj1⟩ : ∃ j, j = 4 * k + 1 := ⟨_, rfl⟩
      obtain ⟨j2, hj2⟩ : ∃ j, j = 4 * k + 2 := ⟨_, rfl⟩
      obtain ⟨j3, hj3⟩ : ∃ j, j = 4 * k + 3 := ⟨_, rfl⟩
      have e0 : IntKind.i64.wrap (4 * (k : Int)) = (j0 : Int) := by rw [IntKind.wrap_i64]; omega
      have e1 : IntKind.i64.wrap ((j0 : Int) + 1) = (j1 : Int) := by rw [IntKind.wrap_i64]; omega
      have e2 : IntKind.i64.wrap ((j0 : Int) + 2) = (j2 : Int) := by rw [IntKind.wrap_i64]; omega
      have e3 : IntKind.i64.wrap ((j0 : Int) + 3) = (j3 : Int) := by rw [IntKind.wrap_i64]; omega
      have b0 : (j0 : Int) < 64 := by omega
      have b1 : (j1 : Int) < 64 := by omega
      have b2 : (j2 : Int) < 64 := by omega
      have b3 : (j3 : Int) < 64 := by omega
      obtain ⟨x0, c0, d0, h0⟩ := hrd j0 (by omega)
      obtain ⟨x1, c1, d1, h1⟩ := hrd j1 (by omega)
      obtain ⟨x2, c2, d2, h2⟩ := hrd j2 (by omega)
      obtain ⟨x3, c3, d3, h3⟩ := hrd j3 (by omega)
      have HW0 : Hid (Sha.word bs k = x0 * 16777216 + x1 * 65536 + x2 * 256 + x3) := by
        show Sha.word bs k = _
        unfold Sha.word
        rw [← hj1, ← hj2, ← hj3, ← hj0, h0, h1, h2, h3]
      have ca : ∃ v, wr.cell? ⟨s, k, none⟩ = some v := by
        rw [HA.out.1.cell, List.getElem?_eq_getElem (by rw [sch_length (by rw [words16_take_length _ _ hk]; omega)]; omega)]
        exact ⟨_, rfl⟩
      obtain ⟨va, ca⟩ := ca
      have fa := HA.out.1.frozen k
      have hkI : (k : Int) < 64 := by omega
      clear hrd hj0 hj1 hj2 hj3 h0 h1 h2 h3
      go_wp2_with fail
      go_still_tail 35, (by kernel_rfl)
      change wpList _ _ _ _ _ wr.drew
      go_wp2_with fail
      refine ⟨⟨k + 1, by omega, by go_num, ?_, ?_⟩, by simp only [intOf]; omega⟩
      · rw [words16_take bs k hk16]
        exact sch_step HA.out.1 (words16_take_length bs k (by omega)) (by omega) (by rw [HW0.out, word_bits x0 x1 x2 x3 d0 d1 d2 d3]; rfl)
      · exact bel_drew (HA.out.2.setCell (p := ⟨s, k, none⟩) (Nat.le_refl s) _)
    · have hk' : k = 16 := by omega
      subst hk'
      rw [show (Sha.words16 bs).take 16 = Sha.words16 bs from List.take_of_length_le (by simp [Sha.words16])] at HA
      clear hk hk16
      go_wp2_with fail
      rw [show ((16 : Nat) : Int) = 16 from rfl]
      go_loopw [6] (fun iv wr => ∃ i : Nat, 16 ≤ (i : Int) ∧ (i : Int) ≤ 64 ∧ iv = .int .i64 (i : Int) ∧ Hid (Blk wr s 221 (sch (Sha.sched (i - 16) (Sha.words16 bs))) ∧ Below s w wr)) (fun iv _ => 64 - (intOf iv).toNat)
      case atStart => exact ⟨16, by omega, by omega, rfl, HA.out⟩
      case round =>
        clear HA
        obtain ⟨i, hi1, hi2, rfl, HA⟩ := hrel
        by_cases hi : (i : Int) < 64
        · skip
          obtain ⟨L, hL⟩ : ∃ L, Sha.sched (i - 16) (Sha.words16 bs) = L := ⟨_, rfl⟩
          have hLl : L.length = i := by rw [← hL, sched_length]; simp [Sha.words16]; omega
          have hLw : ∀ x ∈ L, x < Sha.M := hL ▸ sched_lt _ _ (words16_lt HBB.out)
          have hstep : Sha.sched (i + 1 - 16) (Sha.words16 bs) = L ++ [Sha.next L i] := by
            rw [show i + 1 - 16 = (i - 16) + 1 by omega, sched_succ, hL, hLl]
          rw [hL] at HA
          have HST2 := Lib.hid hstep
          have HLL := Lib.hid hLl
          have hcell : ∀ j, j < i → wr.cell? ⟨s, j, none⟩ = some (.int .u32 ((L.getD j 0 : Nat) : Int)) := fun j hj => by rw [HA.out.1.cell]; exact sch_get (by omega)
          obtain ⟨j15, q15⟩ : ∃ j, j = i - 15 := ⟨_, rfl⟩
          obtain ⟨j2, q2⟩ : ∃ j, j = i - 2 := ⟨_, rfl⟩
          obtain ⟨j16, q16⟩ : ∃ j, j = i - 16 := ⟨_, rfl⟩
          obtain ⟨j7, q7⟩ : ∃ j, j = i - 7 := ⟨_, rfl⟩
          have e15 : IntKind.i64.wrap ((i : Int) - 15) = (j15 : Int) := by rw [IntKind.wrap_i64]; omega
          have e2 : IntKind.i64.wrap ((i : Int) - 2) = (j2 : Int) := by rw [IntKind.wrap_i64]; omega
          have e16 : IntKind.i64.wrap ((i : Int) - 16) = (j16 : Int) := by rw [IntKind.wrap_i64]; omega
          have e7 : IntKind.i64.wrap ((i : Int) - 7) = (j7 : Int) := by rw [IntKind.wrap_i64]; omega
          have b15 : (j15 : Int) < 64 := by omega
          have b2 : (j2 : Int) < 64 := by omega
          have b16 : (j16 : Int) < 64 := by omega
          have b7 : (j7 : Int) < 64 := by omega
          have c15 := hcell j15 (by omega)
          have c2 := hcell j2 (by omega)
          have c16 := hcell j16 (by omega)
          have c7 := hcell j7 (by omega)
          have hn : Sha.next L i = (L.getD j16 0 + L.getD j7 0 + (Sha.rotr (L.getD j15 0) 7 ^^^ Sha.rotr (L.getD j15 0) 18 ^^^ L.getD j15 0 / 8) + (Sha.rotr (L.getD j2 0) 17 ^^^ Sha.rotr (L.getD j2 0) 19 ^^^ L.getD j2 0 / 1024)) % Sha.M := by
            rw [q15, q2, q16, q7]; rfl
          have hx := getD_lt (by decide) hLw j15
          have hy := getD_lt (by decide) hLw j2
          have ha := getD_lt (by decide) hLw j16
          have hb := getD_lt (by decide) hLw j7
          obtain ⟨x, ex⟩ : ∃ x, L.getD j15 0 = x := ⟨_, rfl⟩
          obtain ⟨y, ey⟩ : ∃ x, L.getD j2 0 = x := ⟨_, rfl⟩
          obtain ⟨a, ea⟩ : ∃ x, L.getD j16 0 = x := ⟨_, rfl⟩
          obtain ⟨b, eb⟩ : ∃ x, L.getD j7 0 = x := ⟨_, rfl⟩
          rw [ex] at hx c15 hn
          rw [ey] at hy c2 hn
          rw [ea] at ha c16 hn
          rw [eb] at hb c7 hn
          have HN := Lib.hid hn
          have ca : ∃ v, wr.cell? ⟨s, i, none⟩ = some v := by
            rw [HA.out.1.cell, List.getElem?_eq_getElem (by rw [sch_length (by omega)]; omega)]
            exact ⟨_, rfl⟩
          obtain ⟨va, ca⟩ := ca
          have fa := HA.out.1.frozen i
          unfold Sha.M at hx hy ha hb
          clear hL hLl hLw hstep hcell q15 q2 q16 q7 hn ex ey ea eb
          go_wp2_with fail
          go_still (by kernel_rfl)
          go_wp2_with fail
          obtain ⟨w2, hw2⟩ : ∃ w2, w2 = wr.drew := ⟨_, rfl⟩
          have d16 : w2.cell? ⟨s, j16, none⟩ = some (.int .u32 (a : Int)) := hw2 ▸ c16
          have d7 : w2.cell? ⟨s, j7, none⟩ = some (.int .u32 (b : Int)) := hw2 ▸ c7
          have da : w2.cell? ⟨s, i, none⟩ = some va := hw2 ▸ ca
          have df : w2.frozen? ⟨s, i, none⟩ = false := hw2 ▸ fa
          have HA2 : Hid (Blk w2 s 221 (sch L) ∧ Below s w w2) := hw2 ▸ ⟨HA.out.1, bel_drew HA.out.2⟩
          change Code.wp _ _ _ _ wr.drew
          rw [← hw2]
          clear hw2 c15 c2 c16 c7 ca fa HA
          refine wp_region_still_tail 29 (by kernel_rfl) (by kernel_rfl) ?_
          simp only [List.take_succ_cons, List.take_zero, List.drop_succ_cons, List.drop_zero]
          repeat still_step
          still_call (rot7 x _ hx)
          repeat still_step
          still_call (rot18 x _ hx)
          repeat still_step
          still_call (rot17 y _ hy)
          repeat still_step
          still_call (rot19 y _ hy)
          repeat still_step
          refine wpStill_nil ?_
          change wpList _ _ _ _ _ w2.drew
          go_wp2_with fail
          go_roundw
          case rel =>
            refine ⟨i + 1, by omega, by omega, by go_num, ?_, ?_⟩
            · rw [HST2.out]
              refine sch_step HA2.out.1 HLL.out (by omega) ?_
              rw [HN.out]
              exact next_bits a b x y ha hb hx hy
            · exact bel_drew (HA2.out.2.setCell (p := ⟨s, i, none⟩) (Nat.le_refl s) _)
          case measure => simp [intOf]; omega
        · have hk' : i = 64 := by omega
          subst hk'
          clear hi hi1 hi2
          have hg : ∀ j, j < 8 → wr.cell? ⟨g, j, none⟩ = some (.int .u32 ((st.getD j 0 : Nat) : Int)) := fun j hj => by
            rw [(HB.out.below HA.out.2 HGS.out).cell, List.getElem?_append_left (by simp [HST.out]; exact hj)]
            simp [w32, HST.out, hj]
          have g0 := hg 0 (by omega)
          have g1 := hg 1 (by omega)
          have g2 := hg 2 (by omega)
          have g3 := hg 3 (by omega)
          have g4 := hg 4 (by omega)
          have g5 := hg 5 (by omega)
          have g6 := hg 6 (by omega)
          have g7 := hg 7 (by omega)
          have hbw := HA.out.2.size
          have HBW := Lib.hid hbw
          clear hg hbw
          rw [show ((64 : Nat) : Int) = 64 from rfl]
          go_wp2_with fail
          obtain ⟨V, hV⟩ : ∃ V, V = wr.heap.size := ⟨_, rfl⟩
          obtain ⟨v0, q0⟩ : ∃ x, st[0]?.getD 0 = x := ⟨_, rfl⟩
          obtain ⟨v1, q1⟩ : ∃ x, st[1]?.getD 0 = x := ⟨_, rfl⟩
          obtain ⟨v2, q2⟩ : ∃ x, st[2]?.getD 0 = x := ⟨_, rfl⟩
          obtain ⟨v3, q3⟩ : ∃ x, st[3]?.getD 0 = x := ⟨_, rfl⟩
          obtain ⟨v4, q4⟩ : ∃ x, st[4]?.getD 0 = x := ⟨_, rfl⟩
          obtain ⟨v5, q5⟩ : ∃ x, st[5]?.getD 0 = x := ⟨_, rfl⟩
          obtain ⟨v6, q6⟩ : ∃ x, st[6]?.getD 0 = x := ⟨_, rfl⟩
          obtain ⟨v7, q7⟩ : ∃ x, st[7]?.getD 0 = x := ⟨_, rfl⟩
          obtain ⟨W, hWd⟩ : ∃ W, Sha.sched (64 - 16) (Sha.words16 bs) = W := ⟨_, rfl⟩
          rw [hWd] at HA
          rw [q0, q1, q2, q3, q4, q5, q6, q7, ← hV]
          obtain ⟨wa, hwa⟩ : ∃ wa, wr.alloc (Obj.cells #[Value.int IntKind.u32 (v0 : Int), Value.int IntKind.u32 (v1 : Int), Value.int IntKind.u32 (v2 : Int), Value.int IntKind.u32 (v3 : Int), Value.int IntKind.u32 (v4 : Int), Value.int IntKind.u32 (v5 : Int), Value.int IntKind.u32 (v6 : Int), Value.int IntKind.u32 (v7 : Int)] 216) = wa := ⟨_, rfl⟩
          rw [hwa]
          have HV : Hid (Blk wa V 216 ([v0, v1, v2, v3, v4, v5, v6, v7].map w32)) := by rw [hV, ← hwa]; exact Blk.new wr [w32 v0, w32 v1, w32 v2, w32 v3, w32 v4, w32 v5, w32 v6, w32 v7] _
          have hab : Below wr.heap.size wr wa := hwa ▸ (Below.refl _ wr).alloc (Nat.le_refl _) _
          have HA3 : Hid (Blk wa s 221 (sch W) ∧ Below s w wa) := ⟨HA.out.1.below hab HA.out.1.lt, HA.out.2.trans (hab.mono (Nat.le_of_lt HA.out.1.lt))⟩
          have HSV : Hid (s < V) := hV ▸ HA.out.1.lt
          have hstl : st = [v0, v1, v2, v3, v4, v5, v6, v7] := by
            have h8 := HST.out
            match st, h8 with
            | [a0, a1, a2, a3, a4, a5, a6, a7], _ => simp at q0 q1 q2 q3 q4 q5 q6 q7; subst q0 q1 q2 q3 q4 q5 q6 q7; rfl
          have HR0 : Hid (RoundInv st W 0 v0 v1 v2 v3 v4 v5 v6 v7) := by
            have h8 := HSW.out
            rw [hstl] at h8
            refine ⟨⟨h8 _ (by simp), h8 _ (by simp), h8 _ (by simp), h8 _ (by simp), h8 _ (by simp), h8 _ (by simp), h8 _ (by simp), h8 _ (by simp)⟩, ?_⟩
            rw [hstl]; rfl
          have HWL : Hid (W.length = 64 ∧ ∀ x ∈ W, x < Sha.M) := by
            rw [← hWd]
            exact ⟨by rw [sched_length]; simp [Sha.words16], sched_lt _ _ (words16_lt HBB.out)⟩
          have HWD : Hid (Sha.rounds Sha.K W st = Sha.rounds Sha.K (Sha.sched 48 (Sha.words16 bs)) st) := by show _ = _; subst hWd; rfl
          clear hstl hV hwa hab hWd HA g0 g1 g2 g3 g4 g5 g6 g7 q0 q1 q2 q3 q4 q5 q6 q7
          refine (constants_any wa).mono ?_
          rintro e wb ⟨rfl, hbb⟩
          have HVb := Lib.hid (HV.out.below hbb HV.out.lt)
          have HAb : Hid (Blk wb s 221 (sch W) ∧ Below s w wb) := ⟨HA3.out.1.below hbb HA3.out.1.lt, HA3.out.2.trans (hbb.mono (Nat.le_of_lt HA3.out.1.lt))⟩
          clear hbb HV HA3
          obtain ⟨KA, hKA⟩ : ∃ KA, (List.map w32 Sha.K).toArray = KA := ⟨_, rfl⟩
          rw [hKA]
          have HKA := Lib.hid hKA
          clear hKA
          go_wp2_with fail
          go_loopw [101] (fun iv wr => ∃ i v0 v1 v2 v3 v4 v5 v6 v7 : Nat, (i : Int) ≤ 64 ∧ iv = .int .i64 (i : Int) ∧ Hid (Blk wr V 216 ([v0, v1, v2, v3, v4, v5, v6, v7].map w32)) ∧ Hid (Blk wr s 221 (sch W) ∧ Below s w wr) ∧ Hid (RoundInv st W i v0 v1 v2 v3 v4 v5 v6 v7)) (fun iv _ => 64 - (intOf iv).toNat)
          case atStart => exact ⟨0, v0, v1, v2, v3, v4, v5, v6, v7, by omega, rfl, HVb.out, HAb.out, HR0.out⟩
          case round =>
            clear HVb HAb HR0
            obtain ⟨i, v0, v1, v2, v3, v4, v5, v6, v7, hi64, rfl, HV, HA, HI⟩ := hrel
            by_cases hi : (i : Int) < 64
            · obtain ⟨kk, hkk⟩ : ∃ kk, Sha.K.getD i 0 = kk := ⟨_, rfl⟩
              obtain ⟨ww, hww⟩ : ∃ ww, W.getD i 0 = ww := ⟨_, rfl⟩
              have hki : KA[i]? = some (.int .u32 (kk : Int)) := by
                rw [← HKA.out, ← hkk]
                have : i < Sha.K.length := by show i < 64; omega
                simp [w32, this]
              have hix : ∀ w', (Instr.index 221 (.agg KA) (.int .i64 (i : Int))).run Tryz.prog w' = .ok (.int .u32 (kk : Int)) w' := fun w' => run_index_words w' KA i _ (by omega) hki
              have hcw : wr.cell? ⟨s, i, none⟩ = some (.int .u32 (ww : Int)) := by rw [HA.out.1.cell, ← hww]; exact sch_get (by rw [HWL.out.1]; omega)
              have hk' : kk < 4294967296 := by
                rw [← hkk]
                exact getD_lt (by decide) (by decide : ∀ x ∈ Sha.K, x < 4294967296) i
              have hw' : ww < 4294967296 := hww ▸ getD_lt (by decide) HWL.out.2 i
              have c0 : wr.cell? ⟨V, 0, none⟩ = some (.int .u32 (v0 : Int)) := HV.out.cell 0
              have c1 : wr.cell? ⟨V, 1, none⟩ = some (.int .u32 (v1 : Int)) := HV.out.cell 1
              have c2 : wr.cell? ⟨V, 2, none⟩ = some (.int .u32 (v2 : Int)) := HV.out.cell 2
              have c3 : wr.cell? ⟨V, 3, none⟩ = some (.int .u32 (v3 : Int)) := HV.out.cell 3
              have c4 : wr.cell? ⟨V, 4, none⟩ = some (.int .u32 (v4 : Int)) := HV.out.cell 4
              have c5 : wr.cell? ⟨V, 5, none⟩ = some (.int .u32 (v5 : Int)) := HV.out.cell 5
              have c6 : wr.cell? ⟨V, 6, none⟩ = some (.int .u32 (v6 : Int)) := HV.out.cell 6
              have c7 : wr.cell? ⟨V, 7, none⟩ = some (.int .u32 (v7 : Int)) := HV.out.cell 7
              have HKK := Lib.hid hkk
              have HWW := Lib.hid hww
              obtain ⟨⟨l0, l1, l2, l3, l4, l5, l6, l7⟩, _⟩ := HI.out
              unfold Sha.M at l0 l1 l2 l3 l4 l5 l6 l7
              clear hki hkk hww
              go_wp2_with fail
              go_still (by kernel_rfl)
              go_wp2_with fail
              obtain ⟨w2, hw2⟩ : ∃ w2, w2 = wr.drew := ⟨_, rfl⟩
              have HV2 : Hid (Blk w2 V 216 ([v0, v1, v2, v3, v4, v5, v6, v7].map w32)) := hw2 ▸ HV.out
              have HA2 : Hid (Blk w2 s 221 (sch W) ∧ Below s w w2) := hw2 ▸ ⟨HA.out.1, bel_drew HA.out.2⟩
              have d5 : w2.cell? ⟨V, 5, none⟩ = some (.int .u32 (v5 : Int)) := hw2 ▸ c5
              have d6 : w2.cell? ⟨V, 6, none⟩ = some (.int .u32 (v6 : Int)) := hw2 ▸ c6
              have d7 : w2.cell? ⟨V, 7, none⟩ = some (.int .u32 (v7 : Int)) := hw2 ▸ c7
              have dw : w2.cell? ⟨s, i, none⟩ = some (.int .u32 (ww : Int)) := hw2 ▸ hcw
              have d1 : w2.cell? ⟨V, 1, none⟩ = some (.int .u32 (v1 : Int)) := hw2 ▸ c1
              have d2 : w2.cell? ⟨V, 2, none⟩ = some (.int .u32 (v2 : Int)) := hw2 ▸ c2
              change Code.wp _ _ _ _ wr.drew
              rw [← hw2]
              clear hw2 c0 c1 c2 c3 c4 c5 c6 c7 hcw HV HA hix
              refine wp_region_still_lit (by kernel_rfl) (by kernel_rfl) ?_
              repeat still_step
              still_call (rot6 v4 _ l4)
              repeat still_step
              still_call (rot11 v4 _ l4)
              repeat still_step
              still_call (rot25 v4 _ l4)
              repeat still_step
              refine wpStill_nil ?_
              go_wp2_with fail
              obtain ⟨T, hT⟩ : ∃ T : Nat, T = (v7 + (Sha.rotr v4 6 ^^^ Sha.rotr v4 11 ^^^ Sha.rotr v4 25) + ((v4 &&& v5) ^^^ ((Sha.M - 1 - v4) &&& v6)) + kk + ww) % Sha.M := ⟨_, rfl⟩
              rw [t_bits v4 v5 v6 v7 kk ww l4 l5 l6, ← hT]
              have HT := Lib.hid hT
              obtain ⟨w3, hw3⟩ : ∃ w3, w3 = w2.drew := ⟨_, rfl⟩
              have HV3 : Hid (Blk w3 V 216 ([v0, v1, v2, v3, v4, v5, v6, v7].map w32)) := hw3 ▸ HV2.out
              have HA3 : Hid (Blk w3 s 221 (sch W) ∧ Below s w w3) := hw3 ▸ ⟨HA2.out.1, bel_drew HA2.out.2⟩
              have f1 : w3.cell? ⟨V, 1, none⟩ = some (.int .u32 (v1 : Int)) := hw3 ▸ d1
              have f2 : w3.cell? ⟨V, 2, none⟩ = some (.int .u32 (v2 : Int)) := hw3 ▸ d2
              change Code.wp _ _ _ _ w2.drew
              rw [← hw3]
              clear hw3 hT d5 d6 d7 dw d1 d2 HV2 HA2
              refine wp_region_still_lit (by kernel_rfl) (by kernel_rfl) ?_
              repeat still_step
              still_call (rot2 v0 _ l0)
              repeat still_step
              still_call (rot13 v0 _ l0)
              repeat still_step
              still_call (rot22 v0 _ l0)
              repeat still_step
              refine wpStill_nil ?_
              go_wp2_with fail
              obtain ⟨U, hU⟩ : ∃ U : Nat, U = ((Sha.rotr v0 2 ^^^ Sha.rotr v0 13 ^^^ Sha.rotr v0 22) + ((v0 &&& v1) ^^^ (v0 &&& v2) ^^^ (v1 &&& v2))) % Sha.M := ⟨_, rfl⟩
              rw [u_bits v0 v1 v2 l0 l1 l2, ← hU]
              have HU := Lib.hid hU
              obtain ⟨w4, hw4⟩ : ∃ w4, w4 = w3.drew := ⟨_, rfl⟩
              have HV4 : Hid (Blk w4 V 216 ([v0, v1, v2, v3, v4, v5, v6, v7].map w32)) := hw4 ▸ HV3.out
              have HA4 : Hid (Blk w4 s 221 (sch W) ∧ Below s w w4) := hw4 ▸ ⟨HA3.out.1, bel_drew HA3.out.2⟩
              change Code.wp _ _ _ _ w3.drew
              rw [← hw4]
              have hTl : (T : Int) < 4294967296 := by have := Nat.mod_lt (v7 + (Sha.rotr v4 6 ^^^ Sha.rotr v4 11 ^^^ Sha.rotr v4 25) + ((v4 &&& v5) ^^^ ((Sha.M - 1 - v4) &&& v6)) + kk + ww) (by decide : 0 < Sha.M); rw [← HT.out] at this; unfold Sha.M at this; omega
              have hUl : (U : Int) < 4294967296 := by have := Nat.mod_lt ((Sha.rotr v0 2 ^^^ Sha.rotr v0 13 ^^^ Sha.rotr v0 22) + ((v0 &&& v1) ^^^ (v0 &&& v2) ^^^ (v1 &&& v2))) (by decide : 0 < Sha.M); rw [← hU] at this; unfold Sha.M at this; omega
              clear hw4 hU f1 f2 HV3 HA3
              have k1 : ∀ j u, ([v0, v1, v2, v3, v4, v5, v6].map w32)[j]? = some u → w4.drew.cell? ((⟨V, 0, none⟩ : Addr).add j) = some u := fun j u hj => HV4.out.news j u (by
                have := (List.getElem?_eq_some_iff.1 hj).1
                show (([v0, v1, v2, v3, v4, v5, v6].map w32) ++ [w32 v7])[j]? = some u
                rw [List.getElem?_append_left this]; exact hj)
              have k2 : ∀ v ∈ [v0, v1, v2, v3, v4, v5, v6].map w32, v.oneCell' = true := fun v hv => by obtain ⟨x, _, rfl⟩ := List.mem_map.1 hv; rfl
              have k4 : Below V w4 w4.drew := bel_drew (Below.refl _ _)
              go_region_law (refine step_copy_splice rfl (.tmp 161) (.tmp 162) 34 34 rfl 106 Tryz.underlying34 (by kernel_rfl) _ _ _ _ _ _ rfl rfl V 1 ([v0, v1, v2, v3, v4, v5, v6, v7].map w32) 216 HV4.out ([v0, v1, v2, v3, v4, v5, v6].map w32) rfl (fun _ => ⟨rfl, _, rfl, k1⟩) (Nat.le_refl 8) k2 V w4 k4 (Nat.le_refl V) ?_; intro w5 hg5 hb5)
              have HV5 : Hid (Blk w5 V 216 [w32 v0, w32 v0, w32 v1, w32 v2, w32 v3, w32 v4, w32 v5, w32 v6]) := hg5.out
              have HA5 : Hid (Blk w5 s 221 (sch W) ∧ Below s w w5) := ⟨HA4.out.1.below hb5 HSV.out, HA4.out.2.trans (hb5.mono (Nat.le_of_lt HSV.out))⟩
              clear hg5 hb5 k1 k2 k4 HV4 HA4
              have m4 : w5.cell? ⟨V, 4, none⟩ = some (.int .u32 (v3 : Int)) := HV5.out.cell 4
              have m0 : w5.cell? ⟨V, 0, none⟩ = some (.int .u32 (v0 : Int)) := HV5.out.cell 0
              have f4 := HV5.out.frozen 4
              have f0 := HV5.out.frozen 0
              go_wp2_with fail
              go_roundw
              case rel =>
                refine ⟨i + 1, (T + U) % Sha.M, v0, v1, v2, (v3 + T) % Sha.M, v4, v5, v6, by omega, by go_num, ?_, ?_, ?_⟩
                · have h1 : Value.int IntKind.u32 (((v3 : Int) + (T : Int)) % 4294967296) = w32 ((v3 + T) % Sha.M) := rfl
                  have h2 : Value.int IntKind.u32 (((T : Int) + (U : Int)) % 4294967296) = w32 ((T + U) % Sha.M) := rfl
                  rw [h1, h2]
                  exact (HV5.out.set 4 _).set 0 _
                · exact ⟨(HA5.out.1.other _ _ (by show s ≠ V; have := HSV.out; omega)).other _ _ (by show s ≠ V; have := HSV.out; omega), (HA5.out.2.setCell (by show s ≤ V; exact Nat.le_of_lt HSV.out) _).setCell (by show s ≤ V; exact Nat.le_of_lt HSV.out) _⟩
                · exact HI.out.step (by omega) HWL.out.1 HKK.out HWW.out HT.out HU.out
              case measure => simp [intOf]; omega
            · have hi' : i = 64 := by omega
              subst hi'
              have HF : Hid (Sha.rounds Sha.K (Sha.sched 48 (Sha.words16 bs)) st = [v0, v1, v2, v3, v4, v5, v6, v7]) := by show _ = _; rw [← HWD.out]; exact HI.out.fin HWL.out.1
              rw [show ((64 : Nat) : Int) = 64 from rfl]
              clear hi hi64 HWD HI
              go_wp2_with fail
              have HSG : Hid (Only (· = g) w wr) := Only.below (HS.out ▸ HA.out.2)
              have HG8 : Hid (Blk wr g 219 ((addSt st [v0, v1, v2, v3, v4, v5, v6, v7] 0).map w32 ++ tl)) := by
                show Blk _ _ _ _
                rw [addSt_zero _ HST.out]
                exact HB.out.below HA.out.2 HGS.out
              have HGV : Hid (g < V) := Nat.lt_trans HGS.out HSV.out
              clear HA
              go_loopw [174] (fun iv wr => ∃ k : Nat, (k : Int) ≤ 8 ∧ iv = .int .i64 (k : Int) ∧ Hid (Only (· = g) w wr) ∧ Hid (Blk wr g 219 ((addSt st [v0, v1, v2, v3, v4, v5, v6, v7] k).map w32 ++ tl)) ∧ Hid (Blk wr V 216 ([v0, v1, v2, v3, v4, v5, v6, v7].map w32))) (fun iv _ => 8 - (intOf iv).toNat)
              case atStart => exact ⟨0, by omega, rfl, HSG.out, HG8.out, HV.out⟩
              case round =>
                clear HV HSG HG8
                obtain ⟨k, hk8, rfl, HSG, HG8, HV⟩ := hrel
                by_cases hk : (k : Int) < 8
                · obtain ⟨x, hx⟩ : ∃ x, st.getD k 0 = x := ⟨_, rfl⟩
                  obtain ⟨y, hy⟩ : ∃ y, [v0, v1, v2, v3, v4, v5, v6, v7].getD k 0 = y := ⟨_, rfl⟩
                  have cg : wr.cell? ⟨g, k, none⟩ = some (.int .u32 (x : Int)) := by
                    rw [HG8.out.cell, List.getElem?_append_left (by simp [addSt_length]; omega), List.getElem?_map]
                    have h1 := addSt_get st [v0, v1, v2, v3, v4, v5, v6, v7] k k (by omega)
                    rw [if_neg (by omega), hx, List.getD_eq_getElem?_getD, List.getElem?_eq_getElem (by rw [addSt_length]; omega)] at h1
                    rw [List.getElem?_eq_getElem (by rw [addSt_length]; omega)]
                    show some (w32 _) = _
                    rw [show (addSt st [v0, v1, v2, v3, v4, v5, v6, v7] k)[k]'(by rw [addSt_length]; omega) = x from h1]; rfl
                  have fg := HG8.out.frozen k
                  have cv : wr.cell? ⟨V, k, none⟩ = some (.int .u32 (y : Int)) := by
                    rw [HV.out.cell, List.getElem?_map, ← hy, List.getD_eq_getElem?_getD, List.getElem?_eq_getElem (by show k < 8; omega)]; rfl
                  have HXY : Hid (st.getD k 0 = x ∧ [v0, v1, v2, v3, v4, v5, v6, v7].getD k 0 = y) := ⟨hx, hy⟩
                  clear hx hy
                  go_wp2_with fail
                  go_still_tail 11, (by kernel_rfl)
                  change wpList _ _ _ _ _ wr.drew
                  go_wp2_with fail
                  go_roundw
                  case rel =>
                    refine ⟨k + 1, by omega, by go_num, ?_, ?_, ?_⟩
                    · exact HSG.out.drew.setCell (p := ⟨g, k, none⟩) (fun _ => rfl) _
                    · have h1 : ∀ z : Int, z = (x : Int) + (y : Int) → Value.int IntKind.u32 (z % 4294967296) = w32 ((x + y) % Sha.M) := fun z hz => by rw [hz]; rfl
                      rw [h1 _ rfl, ← addSt_step st _ (by omega : k < 8), HXY.out.1, HXY.out.2, List.map_set, ← List.set_append_left _ _ (by simp [addSt_length]; omega)]
                      exact HG8.out.drew.set k _
                    · exact HV.out.drew.other _ _ (by show V ≠ g; have := HGV.out; omega)
                  case measure => simp [intOf]; omega
                · have hk' : k = 8 := by omega
                  subst hk'
                  go_wp2_with fail
                  rw [addSt_fin HST.out rfl] at HG8
                  go_end0
                  refine ⟨rfl, ?_, HSG.out⟩
                  unfold Sha.block
                  rw [HF.out]
                  exact HG8.out
end Go.Proofs.YthefednendgclaaGreat
