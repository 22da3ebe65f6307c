import Derived.Test.YthefednendgclaaGreatPlainA
import Derived.Test.YthefednendgclaaGreatProg
import Derived.Test.YthefednendgclaaGreatBase
import Derived.Test.YthefednendgclaaGreatShelf
import Derived.Lib.ItoaNum
import Derived.Lib.EndianBits
import Derived.Deep.QuietTactic
import Derived.BigQuiet
import Derived.BigRegion
import Derived.StillTailTactics
import Derived.Laws.ResultCell
import Derived.Maps.AppendAt
import Derived.RangeFuncBox
set_option linter.unusedVariables false
set_option linter.unusedSimpArgs false
/-
  How many bits a number has, and its bits, out of its words. No program in sight.
-/
namespace Sac

/-- b is how many bits n has. -/
def IsLen (n b : Nat) : Prop := (n = 0 ∧ b = 0) ∨ (0 < b ∧ 2 ^ (b - 1) ≤ n ∧ n < 2 ^ b)
def blen (n : Nat) : Nat := if n = 0 then 0 else Nat.log2 n + 1

theorem isLen_blen (n : Nat) : IsLen n (blen n) := by
  unfold blen IsLen
  by_cases h : n = 0
  · exact .inl ⟨h, by rw [if_pos h]⟩
  · rw [if_neg h]
    exact .inr ⟨by omega, by simpa using Nat.log2_self_le h, Nat.lt_log2_self⟩
theorem isLen_unique {n b c : Nat} (hb : IsLen n b) (hc : IsLen n c) : b = c := by
  rcases hb with ⟨h0, rfl⟩ | ⟨b0, b1, b2⟩
  · rcases hc with ⟨_, rfl⟩ | ⟨c0, c1, c2⟩
    · rfl
    · have := Nat.pow_pos (n := c - 1) (show 0 < 2 by omega); omega
  · rcases hc with ⟨h0, rfl⟩ | ⟨c0, c1, c2⟩
    · have := Nat.pow_pos (n := b - 1) (show 0 < 2 by omega); omega
    · rcases Nat.lt_trichotomy b c with h | h | h
      · have : 2 ^ b ≤ 2 ^ (c - 1) := Nat.pow_le_pow_right (by omega) (by omega)
        omega
      · exact h
      · have : 2 ^ c ≤ 2 ^ (b - 1) := Nat.pow_le_pow_right (by omega) (by omega)
        omega
theorem blen_eq {n b : Nat} (h : IsLen n b) : blen n = b := isLen_unique (isLen_blen n) h

theorem isLen_bitLen (x : Nat) (h : x < 18446744073709551616) : IsLen x (Go.Lib.bitLen x) := by
  by_cases h0 : x = 0
  · exact .inl ⟨h0, by rw [h0]; rfl⟩
  · have := Go.Lib.bitLenAux_bounds 64 x h h0
    exact .inr ⟨by unfold Go.Lib.bitLen; omega, this.2.1, this.2.2⟩

theorem W_pow (k : Nat) : W ^ k = 2 ^ (32 * k) := by
  rw [Nat.pow_mul]; rfl

theorem blen_words {l : List Nat} (hw : Words l) (ht : Tight l) (j : Nat) (hl : l.length = j + 1) : blen (val l) = 32 * j + Go.Lib.bitLen (l.getD j 0) := by
  apply blen_eq
  have hx : l.getD j 0 < W := words_get hw j
  have h0 : l.getD j 0 ≠ 0 := by
    obtain ⟨a, x, rfl⟩ : ∃ a x, l = a ++ [x] := ⟨l.dropLast, l.getLast (by intro e; subst e; simp at hl), (List.dropLast_concat_getLast (by intro e; subst e; simp at hl)).symm⟩
    have hj : j = a.length := by simp at hl; omega
    subst hj
    have := (tight_snoc a x).1 ht
    simpa using this
  have hb := isLen_bitLen (l.getD j 0) (by unfold W at hx; omega)
  rcases hb with ⟨h, _⟩ | ⟨b0, b1, b2⟩
  · exact absurd h h0
  · have hv : val l = val (l.take j) + W ^ j * l.getD j 0 := by
      have := val_take_succ' l j
      rwa [val_take_ge l (j + 1) (by omega)] at this
    have hlt : val (l.take j) < W ^ j := by
      have := val_lt (words_take hw j)
      rwa [List.length_take, Nat.min_eq_left (by omega)] at this
    generalize Go.Lib.bitLen (l.getD j 0) = b at *
    refine .inr ⟨by omega, ?_, ?_⟩
    · rw [show 32 * j + b - 1 = 32 * j + (b - 1) by omega, Nat.pow_add, ← W_pow, hv]
      have := Nat.mul_le_mul_left (W ^ j) b1
      omega
    · rw [Nat.pow_add, ← W_pow, hv]
      have : W ^ j * (l.getD j 0 + 1) ≤ W ^ j * 2 ^ b := Nat.mul_le_mul_left _ b2
      rw [Nat.mul_add] at this
      omega

theorem blen_le {n k : Nat} (h : n < 2 ^ k) : blen n ≤ k := by
  rcases isLen_blen n with ⟨_, h1⟩ | ⟨h0, h1, _⟩
  · omega
  · apply Nat.le_of_not_lt
    intro hlt
    have : 2 ^ k ≤ 2 ^ (blen n - 1) := Nat.pow_le_pow_right (by omega) (by omega)
    omega
theorem lt_blen (n : Nat) : n < 2 ^ blen n := by
  rcases isLen_blen n with ⟨h0, h1⟩ | ⟨_, _, h1⟩
  · rw [h1, h0]; exact Nat.pow_pos (by omega)
  · exact h1
theorem blen_zero : blen 0 = 0 := rfl
theorem blen_pos {n : Nat} (h : 0 < n) : 0 < blen n := by
  unfold blen; rw [if_neg (by omega)]; omega

/-- A bit, out of the word it stands in. -/
theorem bit_word {l : List Nat} (hw : Words l) (i : Nat) : val l / 2 ^ i % 2 = l.getD (i / 32) 0 / 2 ^ (i % 32) % 2 := by
  obtain ⟨R, hR⟩ := drop_two l (i / 32)
  have e : 2 ^ i = W ^ (i / 32) * 2 ^ (i % 32) := by rw [W_pow, ← Nat.pow_add]; congr 1; omega
  rw [e, ← Nat.div_div_eq_div_mul, val_div hw, hR]
  generalize l.getD (i / 32 + 1) 0 + W * R = S
  have hr : i % 32 < 32 := Nat.mod_lt _ (by omega)
  have eW : W = 2 ^ (i % 32) * (2 * 2 ^ (31 - i % 32)) := by
    rw [← Nat.pow_succ', ← Nat.pow_add, show i % 32 + (31 - i % 32).succ = 32 by omega]; rfl
  rw [eW, Nat.mul_assoc, Nat.add_mul_div_left _ _ (Nat.pow_pos (by omega)), Nat.mul_assoc, Nat.add_mul_mod_self_left]

theorem bit_beyond {l : List Nat} (hw : Words l) (i : Nat) (h : l.length ≤ i / 32) : val l / 2 ^ i % 2 = 0 := by
  rw [bit_word hw i, getD_ge l _ h]
  simp

theorem and_one (y : Nat) (hy : y < 4294967296) : Go.bits .and .u32 (y : Int) 1 = ((y % 2 : Nat) : Int) := by
  have := Go.bits_mask .u32 32 (by decide) Go.wraps_u32 1 (by decide) (y : Int) (by omega) (by omega)
  simpa using this

/-- y | x << s, where y lies below 2^s, and nothing is shifted out. -/
theorem or_shl32 (y x s b : Nat) (hy : y < 2 ^ s) (hx : x < 2 ^ b) (hs : b + s ≤ 32) : Go.bits .or .u32 (y : Int) (Go.IntKind.u32.wrap ((x : Int) * 2 ^ s)) = ((y + 2 ^ s * x : Nat) : Int) := by
  have h2 : x * 2 ^ s < 2 ^ 32 := by
    have h1 : x * 2 ^ s < 2 ^ b * 2 ^ s := Nat.mul_lt_mul_of_pos_right hx (Nat.two_pow_pos s)
    rw [← Nat.pow_add] at h1
    exact Nat.lt_of_lt_of_le h1 (Nat.pow_le_pow_right (by decide) hs)
  have h3 : y < 2 ^ 32 := Nat.lt_of_lt_of_le hy (Nat.pow_le_pow_right (by decide) (by omega))
  have e : ((x : Int) * 2 ^ s) = ((x * 2 ^ s : Nat) : Int) := by push_cast; rfl
  rw [e, Go.wraps_u32 _ (by omega) (by exact_mod_cast h2)]
  rw [Go.bits_join_low .u32 32 (by decide) Go.wraps_u32 s _ _ (by omega) (by exact_mod_cast hy) (by exact_mod_cast h3) (by omega) ?_ (by exact_mod_cast h2)]
  · rw [Nat.mul_comm]; push_cast; rfl
  · have : x * 2 ^ s % 2 ^ s = 0 := Nat.mul_mod_left _ _
    exact_mod_cast this
theorem or_shl64 (y x s b : Nat) (hy : y < 2 ^ s) (hx : x < 2 ^ b) (hs : b + s ≤ 64) : Go.bits .or .u64 (y : Int) (Go.IntKind.u64.wrap ((x : Int) * 2 ^ s)) = ((y + 2 ^ s * x : Nat) : Int) := by
  have h2 : x * 2 ^ s < 2 ^ 64 := by
    have h1 : x * 2 ^ s < 2 ^ b * 2 ^ s := Nat.mul_lt_mul_of_pos_right hx (Nat.two_pow_pos s)
    rw [← Nat.pow_add] at h1
    exact Nat.lt_of_lt_of_le h1 (Nat.pow_le_pow_right (by decide) hs)
  have h3 : y < 2 ^ 64 := Nat.lt_of_lt_of_le hy (Nat.pow_le_pow_right (by decide) (by omega))
  have e : ((x : Int) * 2 ^ s) = ((x * 2 ^ s : Nat) : Int) := by push_cast; rfl
  rw [e, Go.wraps_u64 _ (by omega) (by exact_mod_cast h2)]
  rw [Go.bits_join_low .u64 64 (by decide) Go.wraps_u64 s _ _ (by omega) (by exact_mod_cast hy) (by exact_mod_cast h3) (by omega) ?_ (by exact_mod_cast h2)]
  · rw [Nat.mul_comm]; push_cast; rfl
  · have : x * 2 ^ s % 2 ^ s = 0 := Nat.mul_mod_left _ _
    exact_mod_cast this

end Sac
/-
  The numbers' own functions, one contract each: trim, New, Zero.
-/
namespace Go.Proofs.YthefednendgclaaGreat
open Go Go.RowKit Sac

/-- A word as a value. -/
def wd (x : Nat) : Value := .int .u32 (x : Int)

/-- The slice at a, of len words, is the number n: the words without a leading zero. -/
def NatAt (w : World) (a : Option Addr) (len n : Nat) : Prop := ∃ l : List Nat, l.length = len ∧ Words l ∧ Tight l ∧ val l = n ∧ Rd w 106 a (l.map wd)

theorem NatAt.setCell {w : World} {a : Option Addr} {len n : Nat} {r : Nat} {e : TypeId} {cs : List Value} (h : NatAt w a len n) (hB : Blk w r e cs) (hne : 106 ≠ e) (o : Nat) (v : Value) : NatAt (w.setCell ⟨r, o, none⟩ v) a len n := by
  obtain ⟨l, h1, h2, h3, h4, h5⟩ := h
  exact ⟨l, h1, h2, h3, h4, h5.setCell hB hne o v⟩

theorem NatAt.below {w w' : World} {a : Option Addr} {len n : Nat} (h : NatAt w a len n) (hb : Below w.heap.size w w') : NatAt w' a len n := by
  obtain ⟨l, h1, h2, h3, h4, h5⟩ := h
  exact ⟨l, h1, h2, h3, h4, h5.below hb⟩

/-- What a function that hands back a number leaves: the number, in memory; nothing that was there has changed. -/
def RetNat (z : Nat) (w : World) (e : Ending) (w' : World) : Prop := ∃ a len cap, e = .returned (.agg #[.slice a len cap]) ∧ NatAt w' a len z ∧ Below w.heap.size w w'

theorem wd_get {l : List Nat} {k : Nat} (hk : k < (l.map wd).length) : (l.map wd)[k] = .int .u32 ((l.getD k 0 : Nat) : Int) := by
  have : k < l.length := by simpa using hk
  simp [wd, this]

/-- A word of a row that is read: where it stands, and the word under a name of its own. -/
theorem rd_word {w : World} {a : Option Addr} {l : List Nat} (h : Rd w 106 a (l.map wd)) (hw : Words l) {k : Nat} (hk : k < l.length) :
    ∃ ad x, a = some ad ∧ Ety w ad.block 106 ∧ w.cell? (ad.add k) = some (.int .u32 ((x : Nat) : Int)) ∧ x < 4294967296 ∧ l.getD k 0 = x := by
  obtain ⟨ad, h1, h2, h3⟩ := h.at_ (k := k) (by rwa [List.length_map])
  rw [wd_get] at h3
  exact ⟨ad, _, h1, h2, h3, words_get hw k, rfl⟩

theorem trim_drop (l : List Nat) (k : Nat) (hk : k < l.length) (h0 : l.getD k 0 = 0) : trim (l.take (k + 1)) = trim (l.take k) := by
  rw [take_succ_getD l k hk, trim_snoc, if_pos h0]
theorem trim_keep (l : List Nat) (k : Nat) (hk : k < l.length) (h0 : l.getD k 0 ≠ 0) : trim (l.take (k + 1)) = l.take (k + 1) := by
  rw [take_succ_getD l k hk, trim_snoc, if_neg h0]

theorem ret_nat {fn : Func} {p : Tmp} {R : Ending → World → Prop} {tmps : Array Value} {w : World} {g : Nat} {s : Value} (h : fn.results = #[.cell p 36]) (hp : tmps.getD p undef = .pointer (some ⟨g, 0, none⟩))
    (hB : Blk w g 36 [s]) (hR : R (.returned (.agg #[s])) w) : bodyPost Tryz.prog fn R .ret { tmps, defers := [] } w :=
  bodyPost_ret (results_cell_row h _ _ g 36 #[s] (0, 0) _ hp hB Tryz.underlying36 rfl (by kernel_rfl)) rfl hR

theorem ret_nat_tmp {fn : Func} {p t : Tmp} {R : Ending → World → Prop} {tmps : Array Value} {w : World} {g : Nat} {s v : Value} (h : fn.results = #[.cell p 36, .tmp t]) (hp : tmps.getD p undef = .pointer (some ⟨g, 0, none⟩)) (ht : tmps.getD t undef = v)
    (hB : Blk w g 36 [s]) (hR : R (.returned (.tuple #[.agg #[s], v])) w) : bodyPost Tryz.prog fn R .ret { tmps, defers := [] } w := by
  refine bodyPost_ret (v := .tuple #[.agg #[s], v]) ?_ rfl hR
  have hl := run_loadVar_row (P := Tryz.prog) (ty := 36) w g 36 #[s] (0, 0) _ hB Tryz.underlying36 rfl (by kernel_rfl)
  rw [results_cell_tmp h]
  simp only [hp, ht, asAddr, Sem.run_pure, Result.andThen_ok, hl]

theorem ret_nat_nat {fn : Func} {p t : Tmp} {R : Ending → World → Prop} {tmps : Array Value} {w : World} {g g' : Nat} {s s' : Value} (h : fn.results = #[.cell p 36, .cell t 36]) (hp : tmps.getD p undef = .pointer (some ⟨g, 0, none⟩)) (ht : tmps.getD t undef = .pointer (some ⟨g', 0, none⟩))
    (hB : Blk w g 36 [s]) (hB' : Blk w g' 36 [s']) (hR : R (.returned (.tuple #[.agg #[s], .agg #[s']])) w) : bodyPost Tryz.prog fn R .ret { tmps, defers := [] } w := by
  refine bodyPost_ret (v := .tuple #[.agg #[s], .agg #[s']]) ?_ rfl hR
  have hl := run_loadVar_row (P := Tryz.prog) (ty := 36) w g 36 #[s] (0, 0) _ hB Tryz.underlying36 rfl (by kernel_rfl)
  have hl' := run_loadVar_row (P := Tryz.prog) (ty := 36) w g' 36 #[s'] (0, 0) _ hB' Tryz.underlying36 rfl (by kernel_rfl)
  have hp' : tmps[p]?.getD undef = .pointer (some ⟨g, 0, none⟩) := by simpa using hp
  have ht' : tmps[t]?.getD undef = .pointer (some ⟨g', 0, none⟩) := by simpa using ht
  simp [results, h, hp', ht', asAddr, hl, hl', Sem.run_bind, Result.andThen]

theorem ret_nat_nat_tmp {fn : Func} {p t u : Tmp} {R : Ending → World → Prop} {tmps : Array Value} {w : World} {g g' : Nat} {s s' v : Value} (h : fn.results = #[.cell p 36, .cell t 36, .tmp u]) (hp : tmps.getD p undef = .pointer (some ⟨g, 0, none⟩)) (ht : tmps.getD t undef = .pointer (some ⟨g', 0, none⟩)) (hu : tmps.getD u undef = v)
    (hB : Blk w g 36 [s]) (hB' : Blk w g' 36 [s']) (hR : R (.returned (.tuple #[.agg #[s], .agg #[s'], v])) w) : bodyPost Tryz.prog fn R .ret { tmps, defers := [] } w := by
  refine bodyPost_ret (v := .tuple #[.agg #[s], .agg #[s'], v]) ?_ rfl hR
  have hl := run_loadVar_row (P := Tryz.prog) (ty := 36) w g 36 #[s] (0, 0) _ hB Tryz.underlying36 rfl (by kernel_rfl)
  have hl' := run_loadVar_row (P := Tryz.prog) (ty := 36) w g' 36 #[s'] (0, 0) _ hB' Tryz.underlying36 rfl (by kernel_rfl)
  have hp' : tmps[p]?.getD undef = .pointer (some ⟨g, 0, none⟩) := by simpa using hp
  have ht' : tmps[t]?.getD undef = .pointer (some ⟨g', 0, none⟩) := by simpa using ht
  have hu' : tmps[u]?.getD undef = v := by simpa using hu
  simp [results, h, hp', ht', hu', asAddr, hl, hl', Sem.run_bind, Result.andThen]

set_option maxHeartbeats 1000000 in
theorem trim_any (a : Option Addr) (len cap : Nat) (l : List Nat) (w : World) (hl : l.length = len) (hc : (len : Int) ≤ cap) (hlen : (len : Int) ≤ 1000000) (hw : Words l) (hr : Rd w 106 a (l.map wd)) :
    Calls Tryz.prog 50 #[.slice a len cap] w (RetNat (val l) w) := by
  have HL := Lib.hid hl
  have HW := Lib.hid hw
  have HR0 := Lib.hid hr
  clear hr hl hw
  go_enter Tryz.func50, Tryz.ntmps50
  go_wp2_with fail
  generalize hW : w.alloc _ = w1
  have hb : Below w.heap.size w w1 := hW ▸ (Below.refl _ w).alloc (Nat.le_refl _) _
  have HB : Hid (Blk w1 w.heap.size 36 [.slice none 0 0]) := hW ▸ Blk.new w _ _
  have HBel := Lib.hid hb
  clear hW hb
  have c0 := HB.out.cell 0
  have f0 := HB.out.frozen 0
  go_loop [0] (fun v => ∃ k : Nat, k ≤ len ∧ v = .slice a k cap ∧ Hid (trim l = trim (l.take k))) (fun v => match v with | .slice _ k _ => k | _ => 0)
  case atStart => exact ⟨len, Nat.le_refl _, rfl, by show _ = _; rw [List.take_of_length_le (by rw [HL.out]; exact Nat.le_refl _)]⟩
  case round =>
    obtain ⟨k, hk, rfl, HT⟩ := hrel
    by_cases hk0 : k = 0
    · subst hk0
      go_wp2_with fail
      refine ret_nat rfl rfl (HB.out.set 0 _) ⟨a, 0, cap, rfl, ⟨[], rfl, words_nil, tight_nil, ?_, Rd.nil _ _ _⟩, HBel.out.setCell (Nat.le_refl _) _⟩
      rw [← val_trim l, HT.out]; rfl
    · obtain ⟨j, rfl⟩ : ∃ j, k = j + 1 := ⟨k - 1, by omega⟩
      obtain ⟨ad, x, rfl, hlt, hcell, hxw, hx⟩ := rd_word (HR0.out.below HBel.out) HW.out (k := j) (by rw [HL.out]; omega)
      have HX := Lib.hid hx
      clear hx
      have hkc : (j : Int) + 1 ≤ cap := by omega
      by_cases h0 : x = 0
      · subst h0
        go_wp2_with fail
        exact ⟨⟨j, by omega, rfl, HT.out.trans (trim_drop l j (by rw [HL.out]; omega) HX.out)⟩, Nat.lt_succ_self j⟩
      · have h0' : ((x : Int) == 0) = false := by rw [beq_eq_false_iff_ne]; omega
        have H0 := Lib.hid h0
        clear h0
        go_wp2_with fail
        have ht := HT.out
        rw [trim_keep l j (by rw [HL.out]; omega) (by rw [HX.out]; exact H0.out)] at ht
        have h1 := HR0.out.take (j + 1)
        rw [← List.map_take] at h1
        refine ret_nat rfl rfl (HB.out.set 0 _) ⟨some ad, j + 1, cap, rfl, ⟨l.take (j + 1), ?_, words_take HW.out _, ?_, ?_, ?_⟩, HBel.out.setCell (Nat.le_refl _) _⟩
        · rw [List.length_take, HL.out]; omega
        · rw [← ht]; exact tight_trim l
        · rw [← ht, val_trim]
        · exact h1.below (HBel.out.setCell (Nat.le_refl _) _)


theorem NatAt.fit {w : World} {a : Option Addr} {len n k : Nat} (h : NatAt w a len n) (hn : n < W ^ k) : len ≤ k := by
  obtain ⟨l, rfl, h2, h3, rfl, _⟩ := h
  by_cases h0 : l = []
  · subst h0; exact Nat.zero_le _
  · have h1 := tight_lower h3 h0
    apply Nat.le_of_not_lt
    intro hlt
    have : W ^ k ≤ W ^ (l.length - 1) := Nat.pow_le_pow_right W_pos (by omega)
    omega

theorem NatAt.zero_iff {w : World} {a : Option Addr} {len n : Nat} (h : NatAt w a len n) : len = 0 ↔ n = 0 := by
  obtain ⟨l, rfl, h2, h3, rfl, _⟩ := h
  rw [tight_zero h3]
  exact List.length_eq_zero_iff

set_option maxHeartbeats 1000000 in
theorem zero_any (a : Option Addr) (len cap n : Nat) (w : World) (h : NatAt w a len n) :
    Calls Tryz.prog 18 #[.agg #[.slice a len cap]] w fun e w' => e = .returned (.bool (n == 0)) ∧ Below w.heap.size w w' := by
  have hz := h.zero_iff
  have HZ : Hid (((len : Int) == 0) = (n == 0)) := by
    show _ = _
    rw [Bool.eq_iff_iff]; simp; omega
  clear h hz
  go_enter Tryz.func18, Tryz.ntmps18
  go_wp2_with fail
  go_ret
  exact ⟨ret_bool HZ.out, (Below.refl _ _).alloc (Nat.le_refl _) _⟩

set_option maxHeartbeats 1000000 in
theorem new_any (n : Nat) (w : World) (hn : n < 18446744073709551616) :
    Calls Tryz.prog 13 #[.int .u64 (n : Int)] w (RetNat n w) := by
  go_enter Tryz.func13, Tryz.ntmps13
  go_wp2_with fail
  have hd : n / W < W := Nat.div_lt_of_lt_mul (by unfold W; omega)
  have hw : Words [n % W, n / W] := words_cons.2 ⟨Nat.mod_lt _ W_pos, words_cons.2 ⟨hd, words_nil⟩⟩
  have hv : val [n % W, n / W] = n := by
    rw [val_cons, val_cons]
    simp only [val_nil, Nat.mul_zero, Nat.add_zero]
    exact Nat.mod_add_div n W
  have hr : Rd ((w.alloc (.cells #[.slice none 0 0] 36)).alloc (.cells #[.int .u32 ((n : Int) % 4294967296), .int .u32 ((n : Int) / 4294967296)] 106)) 106 (some ⟨w.heap.size + 1, 0, none⟩) ([n % W, n / W].map wd) := by
    have e : (([n % W, n / W].map wd) ++ [] : List Value) = [.int .u32 ((n : Int) % 4294967296), .int .u32 ((n : Int) / 4294967296)] := by simp [wd, W]
    refine Blk.rd (e := 106) (rest := []) ?_
    rw [e]
    exact Blk.new' _ _ _ _ (by simp)
  have hB : Blk ((w.alloc (.cells #[.slice none 0 0] 36)).alloc (.cells #[.int .u32 ((n : Int) % 4294967296), .int .u32 ((n : Int) / 4294967296)] 106)) w.heap.size 36 [.slice none 0 0] := (Blk.new w _ _).alloc _
  have hbel : Below w.heap.size w ((w.alloc (.cells #[.slice none 0 0] 36)).alloc (.cells #[.int .u32 ((n : Int) % 4294967296), .int .u32 ((n : Int) / 4294967296)] 106)) := ((Below.refl _ w).alloc (Nat.le_refl _) _).alloc (by simp) _
  refine (trim_any _ 2 2 [n % W, n / W] _ rfl (by decide) (by decide) hw hr).mono ?_
  rintro e w1 ⟨a, len, cap, rfl, hN, hb1⟩
  rw [hv] at hN
  have hbel1 := hbel.trans (hb1.mono hbel.size)
  have hB1 := hB.below hb1 hB.lt
  have HN := Lib.hid hN
  have HB1 := Lib.hid hB1
  have HBel := Lib.hid hbel1
  clear hB1 hbel1 hbel hB hr hN hb1
  have c0 := HB1.out.cell 0
  have f0 := HB1.out.frozen 0
  go_wp2_with fail
  have hlt := HB1.out.lt
  exact ret_nat rfl rfl (HB1.out.set 0 _) ⟨a, len, cap, rfl, HN.out.setCell HB1.out (by decide) _ _, HBel.out.setCell (Nat.le_refl _) _⟩

end Go.Proofs.YthefednendgclaaGreat
/-
  The numbers' own functions: Bits, Bit.
-/
namespace Go.Proofs.YthefednendgclaaGreat
open Go Go.RowKit Sac

set_option maxRecDepth 100000 in
set_option maxHeartbeats 1000000 in
theorem bits_any (a : Option Addr) (len cap n : Nat) (w : World) (h : NatAt w a len n) (hlen : (len : Int) ≤ 100000) :
    Calls Tryz.prog 87 #[.agg #[.slice a len cap]] w fun e w' => e = .returned (.int .i64 (blen n)) ∧ Below w.heap.size w w' := by
  obtain ⟨l, rfl, hw, ht, rfl, hr⟩ := h
  by_cases h0 : l.length = 0
  · have : l = [] := List.eq_nil_of_length_eq_zero h0
    subst this
    go_enter Tryz.func87, Tryz.ntmps87
    go_wp2_with fail
    go_ret
    exact ⟨rfl, (Below.refl _ _).alloc (Nat.le_refl _) _⟩
  · obtain ⟨j, hj⟩ : ∃ j, l.length = j + 1 := ⟨l.length - 1, by omega⟩
    obtain ⟨ad, x, rfl, hlt, hcell, hxw, hx⟩ := rd_word hr hw (k := j) (by omega)
    have hb := blen_words hw ht j hj
    rw [hx] at hb
    have HB := Lib.hid hb
    rw [hj] at hlen ⊢
    have hjl : (j : Int) ≤ 100000 := by omega
    have hne : (((j : Int) + 1) == 0) = false := by rw [beq_eq_false_iff_ne]; omega
    have hxz : (0 : Int) ≤ (x : Int) := by omega
    have hxm : (x : Int) ≤ 4294967295 := by omega
    have hbl := Lib.bitLen_le x 32 (by omega) (by omega)
    have HET := Lib.hid hlt
    clear hw ht hr h0 hj hx hb hlt
    go_enter Tryz.func87, Tryz.ntmps87
    go_wp2_with fail
    generalize hW : w.alloc _ = w1
    have hb1 : Below w.heap.size w w1 := hW ▸ (Below.refl _ w).alloc (Nat.le_refl _) _
    have hB : Blk w1 w.heap.size 36 [.slice (some ad) (j + 1 : Nat) cap] := hW ▸ Blk.new w _ _
    have c0 := hB.cell 0
    have hc1 : w1.cell? (ad.add j) = some (.int .u32 (x : Int)) := by
      rw [← hcell]; exact hb1.cell (by rw [block_add]; exact HET.out.lt)
    have HB1 := Lib.hid hb1
    clear hW hb1 hB hcell
    simp only [List.getElem?_cons_zero] at c0
    go_quiet ((go_at_call 122; exact Calls.quiet_of_same ((Tryz.bits_Len32 (x : Int) _ hxz hxm))))
    go_wp2_with fail
    go_ret
    refine ⟨ret_int ?_, ?_⟩
    · rw [HB.out]
      push_cast
      rfl
    · exact below_drewN HB1.out nq

set_option maxRecDepth 100000 in
set_option maxHeartbeats 1000000 in
theorem bit_any (a : Option Addr) (len cap n i : Nat) (w : World) (h : NatAt w a len n) (hlen : (len : Int) ≤ 100000) (hi : (i : Int) ≤ 10000000) :
    Calls Tryz.prog 125 #[.agg #[.slice a len cap], .int .i64 (i : Int)] w fun e w' => e = .returned (.int .i64 ((n / 2 ^ i % 2 : Nat) : Int)) ∧ Below w.heap.size w w' := by
  obtain ⟨l, rfl, hw, ht, rfl, hr⟩ := h
  by_cases hj : l.length ≤ i / 32
  · have hb := bit_beyond hw i hj
    have HB := Lib.hid hb
    have HL : ((l.length : Int) ≤ (i : Int) / 32) := by omega
    clear hb
    clear hr
    go_enter Tryz.func125, Tryz.ntmps125
    go_wp2_with fail
    go_ret
    exact ⟨ret_int (by rw [HB.out]; rfl), (Below.refl _ _).alloc (Nat.le_refl _) _⟩
  · obtain ⟨ad, x, rfl, hlt, hcell, hxw, hx⟩ := rd_word hr hw (k := i / 32) (by omega)
    have hb := bit_word hw i
    rw [hx] at hb
    have HB := Lib.hid hb
    have HL : ¬ ((l.length : Int) ≤ (i : Int) / 32) := by omega
    have hca : ∀ o, (w.alloc o).cell? (ad.add (i / 32)) = some (.int .u32 ((x : Nat) : Int)) := fun o => by
      rw [← hcell]; exact ((Below.refl _ w).alloc (Nat.le_refl _) o).cell (by rw [block_add]; exact hlt.lt)
    clear hr hlt hx hb hcell ht hw
    go_enter Tryz.func125, Tryz.ntmps125
    go_wp2_with fail
    have hy : x / 2 ^ (i % 32) < 4294967296 := Nat.lt_of_le_of_lt (Nat.div_le_self _ _) hxw
    have hbit : bits BinOp.and IntKind.u32 ((x : Int) / 2 ^ (i % 32)) 1 = ((x / 2 ^ (i % 32) % 2 : Nat) : Int) := by
      have := and_one _ hy
      rw [← this]; push_cast; rfl
    have h2 : x / 2 ^ (i % 32) % 2 < 2 := Nat.mod_lt _ (by decide)
    go_ret
    refine ⟨ret_int ?_, (Below.refl _ _).alloc (Nat.le_refl _) _⟩
    rw [hbit]
    have := HB.out
    rw [show wrap64 ((x / 2 ^ (i % 32) % 2 : Nat) : Int) = ((x / 2 ^ (i % 32) % 2 : Nat) : Int) by unfold wrap64; omega, ← this]
    push_cast; rfl

theorem words2 {l : List Nat} (h2 : l.length ≤ 2) : val l = l.getD 0 0 + W * l.getD 1 0 := by
  match l, h2 with
  | [], _ => rfl
  | [a], _ => simp [val]
  | [a, b], _ => simp [val]

set_option maxRecDepth 100000 in
set_option maxHeartbeats 1000000 in
theorem uint_any (a : Option Addr) (len cap n : Nat) (w : World) (h : NatAt w a len n) (hlen : (len : Int) ≤ 100000) :
    Calls Tryz.prog 96 #[.agg #[.slice a len cap]] w fun e w' => Below w.heap.size w w' ∧
      (n < 18446744073709551616 → e = .returned (.tuple #[.int .u64 (n : Int), .bool true])) ∧ (18446744073709551616 ≤ n → e = .returned (.tuple #[.int .u64 0, .bool false])) := by
  have hfit := h.fit (k := 2)
  obtain ⟨l, rfl, hw, ht, rfl, hr⟩ := h
  by_cases h2 : l.length ≤ 2
  · have hv : val l < 18446744073709551616 := by
      have h1 := val_lt hw
      have h3 : W ^ l.length ≤ W ^ 2 := Nat.pow_le_pow_right W_pos h2
      have h4 : W ^ 2 = 18446744073709551616 := by decide
      omega
    have HV := Lib.hid hv
    have HR := Lib.hid hr
    have h2' : (l.length : Int) ≤ 2 := by omega
    have HW := Lib.hid hw
    clear hr hw hfit ht h2 hv
    go_enter Tryz.func96, Tryz.ntmps96
    go_wp2_with fail
    generalize hW : w.alloc _ = w1
    have HB : Hid (Below w.heap.size w w1) := hW ▸ (Below.refl _ w).alloc (Nat.le_refl _) _
    have c0 : w1.cell? ⟨w.heap.size, 0, none⟩ = _ := hW ▸ (Blk.new w [.slice a l.length cap] 36).cell 0
    clear hW
    simp only [List.getElem?_cons_zero] at c0
    go_loop [4, 14] (fun s i => ∃ k m : Nat, k ≤ l.length ∧ i = .int .i64 k ∧ s = .int .u64 (m : Int) ∧ Hid (m = val (l.take k))) (fun _ i => l.length - (intOf i).toNat)
    case atStart => exact ⟨0, 0, Nat.zero_le _, rfl, rfl, rfl⟩
    case round =>
      obtain ⟨k, m, hk, rfl, rfl, HM⟩ := hrel
      by_cases hkl : k < l.length
      · obtain ⟨ad, x, rfl, hlt, hcell, hxw, hx⟩ := rd_word (HR.out.below HB.out) HW.out (k := k) hkl
        have HX := Lib.hid hx
        clear hx
        have hm : m < 2 ^ (32 * k) := by
          have h1 := val_lt (words_take HW.out k)
          rw [List.length_take, Nat.min_eq_left (by omega), W_pow] at h1
          rw [HM.out]; exact h1
        have hkk : 32 + 32 * k ≤ 64 := by omega
        go_wp2_with fail
        refine ⟨⟨k + 1, m + 2 ^ (32 * k) * x, by omega, rfl, ?_, ?_⟩, ?_⟩
        · rw [or_shl64 m x (32 * k) 32 hm hxw hkk]
        · show _ = _
          rw [val_take_succ' l k, ← W_pow, HM.out, HX.out]
        · simp only [intOf]; omega
      · go_wp2_with fail
        refine bodyPost_ret (results_tmp2 rfl _ _ _) rfl ?_
        refine ⟨HB.out, fun _ => ?_, fun h => ?_⟩
        · show Ending.returned (.tuple #[.int .u64 (m : Int), .bool true]) = _
          rw [HM.out, val_take_ge l k (by omega)]
        · have := HV.out
          omega
  · have hv : 18446744073709551616 ≤ val l := by
      apply Nat.le_of_not_lt
      intro hlt
      exact h2 (hfit (by simpa [W] using hlt))
    have h2' : (2 : Int) < l.length := by omega
    clear hr hfit hw ht h2
    go_enter Tryz.func96, Tryz.ntmps96
    go_wp2_with fail
    refine bodyPost_ret (results_tmp2 rfl _ _ _) rfl ?_
    refine ⟨(Below.refl _ _).alloc (Nat.le_refl _) _, fun h => ?_, fun _ => rfl⟩
    omega

end Go.Proofs.YthefednendgclaaGreat
/-
  The numbers' own functions: Bytes, Least, FromBytes.
-/
namespace Go.Proofs.YthefednendgclaaGreat
open Go Go.RowKit Sac

theorem Tryz.infoByte : (Tryz.prog.info? 5).map (fun i => (i.zero, i.size, i.bytes)) = some (some (.int .u8 0), 1, 1) := by kernel_rfl
theorem Tryz.infoWord : (Tryz.prog.info? 106).map (fun i => (i.zero, i.size, i.bytes)) = some (some (.int .u32 0), 1, 4) := by kernel_rfl

/-- A byte as a value. -/
def by8 (x : Nat) : Value := .int .u8 (x : Int)

/-- The number's bytes, the highest first. -/
def be (sz n : Nat) : List Nat := (List.range sz).map fun j => n / 256 ^ (sz - 1 - j) % 256

theorem be_length (sz n : Nat) : (be sz n).length = sz := by simp [be]
theorem be_get (sz n j : Nat) (h : j < sz) : (be sz n).getD j 0 = n / 256 ^ (sz - 1 - j) % 256 := by
  simp [be, List.getD_eq_getElem?_getD, h]

theorem ext_getD {a b : List Nat} (hl : a.length = b.length) (h : ∀ j, j < a.length → a.getD j 0 = b.getD j 0) : a = b := by
  refine List.ext_getElem hl fun j h1 h2 => ?_
  have := h j h1
  simpa [List.getD_eq_getElem?_getD, h1, h2] using this

theorem getD_set (l : List Nat) (i j x : Nat) (hi : i < l.length) : (l.set i x).getD j 0 = if j = i then x else l.getD j 0 := by
  by_cases h : j = i
  · subst h; simp [List.getD_eq_getElem?_getD, hi]
  · rw [if_neg h]; simp [List.getD_eq_getElem?_getD, List.getElem?_set_ne (Ne.symm h)]

theorem byte_word {l : List Nat} (hw : Words l) (i : Nat) : val l / 256 ^ i % 256 = l.getD (i / 4) 0 / 2 ^ (8 * (i % 4)) % 256 := by
  have e : (256 : Nat) ^ i = W ^ (i / 4) * 256 ^ (i % 4) := by
    have : W = 256 ^ 4 := by decide
    rw [this, ← Nat.pow_mul, ← Nat.pow_add]
    congr 1
    omega
  rw [e, ← Nat.div_div_eq_div_mul, val_div hw]
  obtain ⟨R, hR⟩ := drop_two l (i / 4)
  rw [hR]
  have hx := words_get hw (i / 4)
  generalize l.getD (i / 4) 0 = x at *
  generalize l.getD (i / 4 + 1) 0 + W * R = Y
  have h4 : i % 4 < 4 := Nat.mod_lt _ (by decide)
  generalize i % 4 = s at *
  unfold W
  match s, h4 with
  | 0, _ => simp; omega
  | 1, _ => simp; omega
  | 2, _ => simp; omega
  | 3, _ => simp; omega

/-- How many bytes a number needs. -/
def nbytes (n : Nat) : Nat := (blen n + 7) / 8
theorem nbytes_le (n sz : Nat) : nbytes n ≤ sz ↔ n < 256 ^ sz := by
  have e : (256 : Nat) ^ sz = 2 ^ (8 * sz) := by rw [Nat.pow_mul]
  rw [e]
  unfold nbytes
  constructor
  · intro h
    exact Nat.lt_of_lt_of_le (lt_blen n) (Nat.pow_le_pow_right (by decide) (by omega))
  · intro h
    have := blen_le h
    omega

/-- What stands in the row when k bytes have been written: the others are 0. -/
def beUpto (sz n k : Nat) (c : List Nat) : Prop := c.length = sz ∧ ∀ j, j < sz → c.getD j 0 = if sz - 1 - j < k then n / 256 ^ (sz - 1 - j) % 256 else 0
theorem beUpto_zero (sz n : Nat) : beUpto sz n 0 (List.replicate sz 0) := by
  refine ⟨List.length_replicate, fun j hj => ?_⟩
  simp [List.getD_eq_getElem?_getD, hj]
theorem beUpto_step {sz n k : Nat} {c : List Nat} (h : beUpto sz n k c) (hk : k < sz) : beUpto sz n (k + 1) (c.set (sz - 1 - k) (n / 256 ^ k % 256)) := by
  obtain ⟨h1, h2⟩ := h
  refine ⟨by rw [List.length_set, h1], fun j hj => ?_⟩
  rw [getD_set _ _ _ _ (by omega), h2 j hj]
  by_cases e : j = sz - 1 - k
  · rw [if_pos e, if_pos (by omega)]
    congr 3
    omega
  · rw [if_neg e]
    by_cases e2 : sz - 1 - j < k
    · rw [if_pos e2, if_pos (by omega)]
    · rw [if_neg e2, if_neg (by omega)]
theorem beUpto_end {sz n k : Nat} {c : List Nat} (h : beUpto sz n k c) (hk : n < 256 ^ k) : c = be sz n := by
  obtain ⟨h1, h2⟩ := h
  refine ext_getD (by rw [be_length, h1]) fun j hj => ?_
  rw [h1] at hj
  rw [h2 j hj, be_get sz n j hj]
  by_cases e : sz - 1 - j < k
  · rw [if_pos e]
  · rw [if_neg e, Nat.div_eq_of_lt (Nat.lt_of_lt_of_le hk (Nat.pow_le_pow_right (by decide) (by omega)))]

set_option maxRecDepth 100000 in
set_option maxHeartbeats 1000000 in
theorem bytes_any (a : Option Addr) (len cap n sz : Nat) (w : World) (h : NatAt w a len n) (hlen : (len : Int) ≤ 100000) (hs : (sz : Int) ≤ 1000000) :
    Calls Tryz.prog 99 #[.agg #[.slice a len cap], .int .i64 (sz : Int)] w fun e w' => Below w.heap.size w w' ∧
      (n < 256 ^ sz → ∃ g, w.heap.size ≤ g ∧ e = .returned (.tuple #[.slice (some ⟨g, 0, none⟩) sz sz, .int .i64 0]) ∧ Blk w' g 5 ((be sz n).map by8)) ∧
      (256 ^ sz ≤ n → e = .returned (.tuple #[.slice none 0 0, .int .i64 2])) := by
  have HN := Lib.hid h
  have hbl : ((blen n : Nat) : Int) ≤ 3200000 := by
    obtain ⟨l, h1, h2, h3, h4, h5⟩ := h
    have := val_lt h2
    rw [W_pow, h4, h1] at this
    have := blen_le this
    omega
  clear h
  go_enter Tryz.func99, Tryz.ntmps99
  go_wp2_with fail
  generalize hW : w.alloc _ = w1
  have HB : Hid (Below w.heap.size w w1) := hW ▸ (Below.refl _ w).alloc (Nat.le_refl _) _
  have HC : Hid (Blk w1 w.heap.size 36 [.slice a len cap]) := hW ▸ Blk.new w _ _
  have c0 : w1.cell? ⟨w.heap.size, 0, none⟩ = _ := HC.out.cell 0
  clear hW
  simp only [List.getElem?_cons_zero] at c0
  refine (bits_any a len cap n w1 (HN.out.below HB.out) hlen).mono ?_
  rintro e w2 ⟨rfl, hb2⟩
  have HB2 := Lib.hid (HB.out.trans (hb2.mono HB.out.size))
  have c2 : w2.cell? ⟨w.heap.size, 0, none⟩ = some (.slice a len cap) := (HC.out.below hb2 HC.out.lt).cell 0
  have HCL := Lib.hid HC.out.lt
  clear c0 HC
  by_cases hsz : nbytes n ≤ sz
  · have HS := Lib.hid hsz
    have hsz' : ((blen n : Int) + 7) / 8 ≤ (sz : Int) := by unfold nbytes at hsz; omega
    obtain ⟨nb, hnb⟩ : ∃ nb, nb = nbytes n := ⟨_, rfl⟩
    have hnb' : ((blen n : Int) + 7) / 8 = (nb : Int) := by unfold nbytes at hnb; omega
    have HNB := Lib.hid hnb
    have HNB' := Lib.hid hnb'
    have hnbs : nb ≤ sz := by omega
    clear hnb hnb' hsz
    go_wp2_with first | fail | (refine wpList_make_blk _ rfl _ _ _ rfl 5 (.int .u8 0) 1 Tryz.underlying91 Tryz.infoByte rfl _ _ _ _ sz rfl rfl rfl rfl (by omega) (by unfold maxLen; omega) ?_)
    intro w3 hB3 hb3
    have HB3 := Lib.hid (HB2.out.trans (hb3.mono HB2.out.size))
    have c3 : w3.cell? ⟨w.heap.size, 0, none⟩ = some (.slice a len cap) := by
      rw [← c2]; exact hb3.cell (by have := HCL.out; have := hb2.size; show w.heap.size < _; omega)
    obtain ⟨g, hg⟩ : ∃ g, g = w2.heap.size := ⟨_, rfl⟩
    rw [← hg] at hB3 ⊢
    have HG := Lib.hid hg
    have HBK := Lib.hid hB3
    rw [HNB'.out]
    clear hg c2 hB3
    go_wp2_with fail
    go_loopw [21] (fun i wr => ∃ (k : Nat) (c : List Nat), k ≤ nb ∧ i = .int .i64 k ∧ Hid (beUpto sz n k c) ∧ Hid (Blk wr g 5 (c.map by8)) ∧ Hid (Below w.heap.size w wr ∧ wr.cell? ⟨w.heap.size, 0, none⟩ = some (.slice a len cap))) (fun i _ => nb - (intOf i).toNat)
    case atStart => exact ⟨0, List.replicate sz 0, Nat.zero_le _, rfl, beUpto_zero sz n, by have := HBK.out; rwa [List.map_replicate], HB3.out, c3⟩
    case round =>
      obtain ⟨k, c, hk, rfl, HCS, HBL, HW⟩ := hrel
      clear c3
      have c4 := HW.out.2
      by_cases hkl : k < nb
      · obtain ⟨l, hl1, hw, ht, hl2, hr⟩ := HN.out
        have hk4 : k / 4 < l.length := by
          have h1 := val_lt hw
          rw [hl2] at h1
          have h2 : W ^ l.length = 256 ^ (4 * l.length) := by rw [Nat.pow_mul]; rfl
          rw [h2] at h1
          have := (nbytes_le n _).2 h1
          rw [← HNB.out] at this
          omega
        obtain ⟨ad, x, rfl, hlt, hcell, hxw, hx⟩ := rd_word (hr.below HW.out.1) hw (k := k / 4) hk4
        have hby := byte_word hw k
        rw [hl2, hx] at hby
        have HBY := Lib.hid hby
        have hl1' : (k : Int) / 4 < (len : Int) := by omega
        obtain ⟨y, hy⟩ : ∃ y, wr.cell? ⟨g, sz - 1 - k, none⟩ = some y := by
          rw [HBL.out.cell]
          have := HCS.out.1
          simp [show sz - 1 - k < c.length by omega]
        have hfr := HBL.out.frozen (sz - 1 - k)
        have hk28 : (k : Int) ≤ 1000000 := by omega
        clear hw ht hl2 hr hx hby hk4 hl1 HB2 HB3 HBK
        go_wp2_with fail
        have hgb : w.heap.size < g := by have := HG.out; have := HCL.out; have := hb2.size; omega
        refine ⟨⟨k + 1, c.set (sz - 1 - k) (n / 256 ^ k % 256), by omega, rfl, beUpto_step HCS.out (by omega), ?_, HW.out.1.setCell (by show _ ≤ g; omega) _, ?_⟩, ?_⟩
        · have h1 := HBL.out.set (sz - 1 - k) (Value.int IntKind.u8 ((x : Int) / 2 ^ (8 * (k % 4)) % 256))
          rw [set_map by8 c (sz - 1 - k) (n / 256 ^ k % 256) _ (by rw [HBY.out]; unfold by8; push_cast; rfl)] at h1
          exact h1
        · rw [cell_other _ (by show w.heap.size ≠ g; omega)]; exact HW.out.2
        · simp only [intOf]; omega
      · go_wp2_with fail
        have hgb : w.heap.size < g := by have := HG.out; have := HCL.out; have := hb2.size; omega
        refine bodyPost_ret (results_tmp2 rfl _ _ _) rfl ⟨HW.out.1, fun _ => ⟨g, by omega, rfl, ?_⟩, fun h => ?_⟩
        · have hkn : k = nb := by omega
          rw [← beUpto_end HCS.out ((nbytes_le n k).1 (by rw [← HNB.out]; omega))]
          exact HBL.out
        · exact absurd ((nbytes_le n sz).1 HS.out) (by omega)
  · have HS := Lib.hid hsz
    have hsz' : (sz : Int) < ((blen n : Int) + 7) / 8 := by unfold nbytes at hsz; omega
    clear hsz
    go_wp2_with fail
    refine bodyPost_ret (results_tmp2 rfl _ _ _) rfl ⟨HB2.out, fun h => ?_, fun _ => rfl⟩
    exact absurd ((nbytes_le n sz).2 h) HS.out

end Go.Proofs.YthefednendgclaaGreat
/-
  The numbers' own functions: Add.
-/
namespace Go.Proofs.YthefednendgclaaGreat
open Go Go.RowKit Sac

theorem Tryz.infoW : (Tryz.prog.info? 106).map (fun i => (i.zero, i.size, i.bytes)) = some (some (.int .u32 0), 1, 4) := by kernel_rfl

/-- The sum's row after k words. -/
def AddInv (A B : List Nat) (k c : Nat) (o : List Nat) : Prop := o.length = k ∧ Words o ∧ val o + W ^ k * c = val (A.take k) + val (B.take k)

theorem AddInv.step {A B : List Nat} {k c x y : Nat} {o : List Nat} (h : AddInv A B k c o) (hx : A.getD k 0 = x) (hy : B.getD k 0 = y) :
    AddInv A B (k + 1) ((c + x + y) / W) (o ++ [(c + x + y) % W]) := by
  obtain ⟨h1, h2, h3⟩ := h
  refine ⟨by simp [h1], words_append.2 ⟨h2, words_cons.2 ⟨Nat.mod_lt _ W_pos, words_nil⟩⟩, ?_⟩
  exact add_step h1 h3 (by rw [hx, hy])

theorem AddInv.fin {A B : List Nat} {c : Nat} {o : List Nat} (h : AddInv A B A.length c o) (hc : c ≤ 1) (hB : B.length ≤ A.length) :
    (o ++ [c]).length = A.length + 1 ∧ Words (o ++ [c]) ∧ val (o ++ [c]) = val A + val B := by
  obtain ⟨h1, h2, h3⟩ := h
  refine ⟨by simp [h1], words_append.2 ⟨h2, words_cons.2 ⟨by unfold W; omega, words_nil⟩⟩, ?_⟩
  rw [val_snoc, h1, h3, List.take_of_length_le (Nat.le_refl _), List.take_of_length_le hB]

theorem three_push {w wr w3 : World} {s g : Nat} {A B R : Value} {ob : Obj} (h : Below s w wr ∧ Boxed wr s 36 A ∧ Boxed wr (s + 1) 36 B ∧ Boxed wr (s + 1 + 1) 36 R)
    (hgr : (wr.alloc ob).grownBy w3 (some g)) (hg : g = s + 1 + 1 + 1) : Below s w w3 ∧ Boxed w3 s 36 A ∧ Boxed w3 (s + 1) 36 B ∧ Boxed w3 (s + 1 + 1) 36 R := by
  obtain ⟨h1, h2, h3, h4⟩ := h
  have hs := h2.lt
  refine ⟨(h1.alloc (by omega) ob).grown hgr (by simp; omega) (fun k e => by cases e; omega), (h2.alloc ob).kept hgr (by simp; omega), (h3.alloc ob).kept hgr (by simp; omega), (h4.alloc ob).kept hgr (by simp; omega)⟩

theorem wd_mod {a : Nat} {b : Int} (h : b = (a : Int)) : Value.int .u32 (b % 4294967296) = wd (a % W) := by
  have : ((a % W : Nat) : Int) = (a : Int) % 4294967296 := by unfold W; omega
  unfold wd
  rw [this, h]
theorem u64_div {a : Nat} {b : Int} (h : b = (a : Int)) : Value.int .u64 (b / 4294967296) = .int .u64 ((a / W : Nat) : Int) := by
  have : ((a / W : Nat) : Int) = (a : Int) / 4294967296 := by unfold W; omega
  rw [this, h]


set_option maxRecDepth 100000 in
set_option maxHeartbeats 1000000 in
theorem add_any (a b : Option Addr) (len cap lenb capb n n2 : Nat) (w : World) (hn : NatAt w a len n) (hm : NatAt w b lenb n2) (hlen : (len : Int) ≤ 100000) (hlenb : (lenb : Int) ≤ 100000) :
    Calls Tryz.prog 81 #[.agg #[.slice a len cap], .agg #[.slice b lenb capb]] w (RetNat (n + n2) w) := by
  obtain ⟨l, rfl, hl, _, rfl, hra⟩ := hn
  obtain ⟨m, rfl, hk, _, rfl, hrb⟩ := hm
  have HRA := Lib.hid hra
  have HRB := Lib.hid hrb
  have HL := Lib.hid hl
  have HK := Lib.hid hk
  clear hra hrb hl hk
  by_cases hlk : (l.length : Int) < m.length
  · go_enter Tryz.func81, Tryz.ntmps81
    have hlen1 : (m.length : Int) ≤ 100000 := by assumption
    have hle : (l.length : Int) ≤ m.length := by omega
    obtain ⟨i0, hi, hz0, hz1, hz2⟩ := info_parts Tryz.infoW
    go_wp2_with first | fail | (refine wpList_make_own _ rfl _ _ _ rfl w.heap.size 106 i0 (.int .u32 0) 1 Tryz.underlying34 hi hz0 hz1 _ _ _ (m.length + 1) rfl rfl (by simp) (by rw [hz2]; omega) (by unfold maxLen; omega) (by simp; omega) ?_)
    intro w2 hown hgr
    generalize hW1 : (((w.alloc (Obj.cells #[Value.slice b m.length capb] 36)).alloc (Obj.cells #[Value.slice a l.length cap] 36)).alloc (Obj.cells #[Value.slice none 0 0] 36)) = w1 at hown hgr ⊢
    have hs1 : w1.heap.size = w.heap.size + 1 + 1 + 1 := by rw [← hW1]; simp
    have hB1 : Below w.heap.size w w1 := by
      rw [← hW1]; exact (((Below.refl _ w).alloc (Nat.le_refl _) _).alloc (by simp) _).alloc (by simp; omega) _
    have hca : Boxed w1 w.heap.size 36 (.slice b m.length capb) := by
      rw [← hW1]; exact ((Boxed.new w _ _).alloc _).alloc _
    have hcb : Boxed w1 (w.heap.size + 1) 36 (.slice a l.length cap) := by
      have := Boxed.new (w.alloc (Obj.cells #[Value.slice b m.length capb] 36)) 36 (.slice a l.length cap)
      rw [World.size_alloc] at this
      rw [← hW1]; exact this.alloc _
    have hcr : Boxed w1 (w.heap.size + 1 + 1) 36 (.slice none 0 0) := by
      have := Boxed.new ((w.alloc (Obj.cells #[Value.slice b m.length capb] 36)).alloc (Obj.cells #[Value.slice a l.length cap] 36)) 36 (.slice none 0 0)
      rw [World.size_alloc, World.size_alloc] at this
      rw [← hW1]; exact this
    clear hW1
    obtain ⟨s, hs⟩ : ∃ s, s = w.heap.size := ⟨_, rfl⟩
    obtain ⟨g, hg⟩ : ∃ g, g = s + 1 + 1 + 1 := ⟨_, rfl⟩
    rw [← hs] at hB1 hs1 hca hcb hcr hown ⊢
    rw [← hg] at hown hs1 ⊢
    have hs1 := hg
    have hca := hca.kept hgr (by simp)
    have hcb := hcb.kept hgr (by simp)
    have hcr := hcr.kept hgr (by simp)
    have hB2 : Below s w w2 := hB1.grown hgr (by omega) (by simp)
    have HOWN := Lib.hid hown
    have HINV : Hid (Below s w w2 ∧ Boxed w2 s 36 (.slice b m.length capb) ∧ Boxed w2 (s + 1) 36 (.slice a l.length cap) ∧ Boxed w2 (s + 1 + 1) 36 (.slice none 0 0)) := ⟨hB2, hca, hcb, hcr⟩
    have ca := hca.cell
    have HS := Lib.hid hs
    have HG := Lib.hid hs1
    clear hB1 hcr hcb hca hown hgr hB2 hs hg hs1
    go_wp2_with fail
    go_loopw [5, 6, 26] (fun ov cv iv wr => ∃ (k c : Nat) (o : List Nat), k ≤ m.length ∧ iv = .int .i64 k ∧ ov = .slice (some ⟨g, 0, none⟩) k (m.length + 1) ∧ cv = .int .u64 (c : Int) ∧ (c : Int) ≤ 1 ∧ Hid (AddInv m l k c o) ∧ Hid (wr.ownsRow s 106 1 (.slice (some ⟨g, 0, none⟩) k (m.length + 1)) k (o.map wd)) ∧
      Hid (Below s w wr ∧ Boxed wr s 36 (.slice b m.length capb) ∧ Boxed wr (s + 1) 36 (.slice a l.length cap) ∧ Boxed wr (s + 1 + 1) 36 (.slice none 0 0))) (fun _ _ iv _ => m.length - (intOf iv).toNat)
    case atStart => exact ⟨0, 0, [], Nat.zero_le _, rfl, rfl, rfl, by decide, ⟨rfl, words_nil, by simp [val]⟩, HOWN.out, HINV.out⟩
    case round =>
      obtain ⟨k, c, o, hk, rfl, rfl, rfl, hc, HA, HO, HW⟩ := hrel
      by_cases hkl : k < m.length
      · obtain ⟨ad, x, rfl, hlt, hcell, hxw, hx⟩ := rd_word (HRB.out.below (HS.out ▸ HW.out.1)) HK.out (k := k) hkl
        have HX := Lib.hid hx
        have cb := HW.out.2.2.1.cell
        clear hlt hx ca
        by_cases hkb : k < l.length
        · obtain ⟨ad2, y, rfl, hlt, hcell2, hyw, hy⟩ := rd_word (HRA.out.below (HS.out ▸ HW.out.1)) HL.out (k := k) hkb
          have HY := Lib.hid hy
          clear hlt hy
          have hkb' : (k : Int) < l.length := by omega
          go_wp2_with first | fail | (at_builtin; refine wpList_append_fits _ rfl _ _ 34 rfl s 106 i0 1 Tryz.underlying34 hi hz1 g k (m.length + 1) (o.map wd) rfl (HO.out.alloc _) ⟨wr.heap.size, 0, none⟩ 1 1 [_] rfl rfl (cell_one_new _ _ _) (by simp [Value.oneCell']) (by omega) ?_; intro w3 hown3 hgr3)
          refine ⟨⟨k + 1, (c + x + y) / W, o ++ [(c + x + y) % W], by omega, rfl, rfl, u64_div (by omega), by unfold W; omega, HA.out.step HX.out HY.out, ?_, three_push HW.out hgr3 HG.out⟩, by simp only [intOf]; omega⟩
          rw [List.map_append, List.map_cons, List.map_nil, ← wd_mod (b := (c : Int) + x + y) (by omega)]
          exact hown3
        · have hkb' : ¬ ((k : Int) < l.length) := by omega
          have HY := Lib.hid (getD_ge l k (by omega))
          go_wp2_with first | fail | (at_builtin; refine wpList_append_fits _ rfl _ _ 34 rfl s 106 i0 1 Tryz.underlying34 hi hz1 g k (m.length + 1) (o.map wd) rfl (HO.out.alloc _) ⟨wr.heap.size, 0, none⟩ 1 1 [_] rfl rfl (cell_one_new _ _ _) (by simp [Value.oneCell']) (by omega) ?_; intro w3 hown3 hgr3)
          refine ⟨⟨k + 1, (c + x) / W, o ++ [(c + x) % W], by omega, rfl, rfl, u64_div (by omega), by unfold W; omega, (HA.out.step HX.out HY.out : AddInv _ _ _ ((c + x + 0) / W) _), ?_, three_push HW.out hgr3 HG.out⟩, by simp only [intOf]; omega⟩
          rw [List.map_append, List.map_cons, List.map_nil, ← wd_mod (b := (c : Int) + x) (by omega)]
          exact hown3
      · obtain rfl : k = m.length := by omega
        go_wp2_with first | fail | (at_builtin; refine wpList_append_fits _ rfl _ _ 34 rfl s 106 i0 1 Tryz.underlying34 hi hz1 g m.length (m.length + 1) (o.map wd) rfl (HO.out.alloc _) ⟨wr.heap.size, 0, none⟩ 1 1 [_] rfl rfl (cell_one_new _ _ _) (by simp [Value.oneCell']) (by omega) ?_; intro w3 hown3 hgr3)
        obtain ⟨hf1, hf2, hf3⟩ := HA.out.fin (by omega) (by omega)
        have H3 := three_push HW.out hgr3 HG.out
        have hnw : (List.map wd o ++ [Value.int .u32 (c : Int)]) = (o ++ [c]).map wd := by rw [List.map_append]; rfl
        rw [hnw] at hown3
        have HV := Lib.hid hf3
        refine (trim_any (some ⟨g, 0, none⟩) (m.length + 1) (m.length + 1) (o ++ [c]) w3 hf1 (by omega) (by omega) hf2 (Rd.of_own hown3)).mono ?_
        rintro e w4 ⟨ra, rl, rc, rfl, hN, hb4⟩
        have hsz3 := H3.2.2.2.lt
        have HB4 : Hid (Below s w w4) := H3.1.trans (hb4.mono (by omega))
        have HR4 : Hid (Boxed w4 (s + 1 + 1) 36 (.slice none 0 0)) := (hb4.block _ hsz3).trans H3.2.2.2
        have HN := Lib.hid hN
        have cr := HR4.out.cell
        have fr := HR4.out.frozen
        clear hf1 hf2 hf3 hnw hown3 hgr3 H3 hN hb4 ca hca hcb hcr
        go_wp2_with fail
        have hB : Blk w4 (s + 1 + 1) 36 [.slice none 0 0] := HR4.out
        have hval : val (o ++ [c]) = val l + val m := HV.out.trans (by first | rfl | exact Nat.add_comm _ _)
        refine ret_nat rfl rfl (hB.set 0 _) ⟨ra, rl, rc, rfl, ?_, ?_⟩
        · have := HN.out.setCell hB (by decide) 0 (.slice ra rl rc)
          rwa [hval] at this
        · rw [← HS.out]
          exact HB4.out.setCell (p := ⟨s + 1 + 1, 0, none⟩) (by show s ≤ s + 1 + 1; omega) _
  · go_enter Tryz.func81, Tryz.ntmps81
    have hlen1 : (l.length : Int) ≤ 100000 := by assumption
    have hle : (m.length : Int) ≤ l.length := by omega
    obtain ⟨i0, hi, hz0, hz1, hz2⟩ := info_parts Tryz.infoW
    go_wp2_with first | fail | (refine wpList_make_own _ rfl _ _ _ rfl w.heap.size 106 i0 (.int .u32 0) 1 Tryz.underlying34 hi hz0 hz1 _ _ _ (l.length + 1) rfl rfl (by simp) (by rw [hz2]; omega) (by unfold maxLen; omega) (by simp; omega) ?_)
    intro w2 hown hgr
    generalize hW1 : (((w.alloc (Obj.cells #[Value.slice a l.length cap] 36)).alloc (Obj.cells #[Value.slice b m.length capb] 36)).alloc (Obj.cells #[Value.slice none 0 0] 36)) = w1 at hown hgr ⊢
    have hs1 : w1.heap.size = w.heap.size + 1 + 1 + 1 := by rw [← hW1]; simp
    have hB1 : Below w.heap.size w w1 := by
      rw [← hW1]; exact (((Below.refl _ w).alloc (Nat.le_refl _) _).alloc (by simp) _).alloc (by simp; omega) _
    have hca : Boxed w1 w.heap.size 36 (.slice a l.length cap) := by
      rw [← hW1]; exact ((Boxed.new w _ _).alloc _).alloc _
    have hcb : Boxed w1 (w.heap.size + 1) 36 (.slice b m.length capb) := by
      have := Boxed.new (w.alloc (Obj.cells #[Value.slice a l.length cap] 36)) 36 (.slice b m.length capb)
      rw [World.size_alloc] at this
      rw [← hW1]; exact this.alloc _
    have hcr : Boxed w1 (w.heap.size + 1 + 1) 36 (.slice none 0 0) := by
      have := Boxed.new ((w.alloc (Obj.cells #[Value.slice a l.length cap] 36)).alloc (Obj.cells #[Value.slice b m.length capb] 36)) 36 (.slice none 0 0)
      rw [World.size_alloc, World.size_alloc] at this
      rw [← hW1]; exact this
    clear hW1
    obtain ⟨s, hs⟩ : ∃ s, s = w.heap.size := ⟨_, rfl⟩
    obtain ⟨g, hg⟩ : ∃ g, g = s + 1 + 1 + 1 := ⟨_, rfl⟩
    rw [← hs] at hB1 hs1 hca hcb hcr hown ⊢
    rw [← hg] at hown hs1 ⊢
    have hs1 := hg
    have hca := hca.kept hgr (by simp)
    have hcb := hcb.kept hgr (by simp)
    have hcr := hcr.kept hgr (by simp)
    have hB2 : Below s w w2 := hB1.grown hgr (by omega) (by simp)
    have HOWN := Lib.hid hown
    have HINV : Hid (Below s w w2 ∧ Boxed w2 s 36 (.slice a l.length cap) ∧ Boxed w2 (s + 1) 36 (.slice b m.length capb) ∧ Boxed w2 (s + 1 + 1) 36 (.slice none 0 0)) := ⟨hB2, hca, hcb, hcr⟩
    have ca := hca.cell
    have HS := Lib.hid hs
    have HG := Lib.hid hs1
    clear hB1 hcr hcb hca hown hgr hB2 hs hg hs1
    go_wp2_with fail
    go_loopw [5, 6, 26] (fun ov cv iv wr => ∃ (k c : Nat) (o : List Nat), k ≤ l.length ∧ iv = .int .i64 k ∧ ov = .slice (some ⟨g, 0, none⟩) k (l.length + 1) ∧ cv = .int .u64 (c : Int) ∧ (c : Int) ≤ 1 ∧ Hid (AddInv l m k c o) ∧ Hid (wr.ownsRow s 106 1 (.slice (some ⟨g, 0, none⟩) k (l.length + 1)) k (o.map wd)) ∧
      Hid (Below s w wr ∧ Boxed wr s 36 (.slice a l.length cap) ∧ Boxed wr (s + 1) 36 (.slice b m.length capb) ∧ Boxed wr (s + 1 + 1) 36 (.slice none 0 0))) (fun _ _ iv _ => l.length - (intOf iv).toNat)
    case atStart => exact ⟨0, 0, [], Nat.zero_le _, rfl, rfl, rfl, by decide, ⟨rfl, words_nil, by simp [val]⟩, HOWN.out, HINV.out⟩
    case round =>
      obtain ⟨k, c, o, hk, rfl, rfl, rfl, hc, HA, HO, HW⟩ := hrel
      by_cases hkl : k < l.length
      · obtain ⟨ad, x, rfl, hlt, hcell, hxw, hx⟩ := rd_word (HRA.out.below (HS.out ▸ HW.out.1)) HL.out (k := k) hkl
        have HX := Lib.hid hx
        have cb := HW.out.2.2.1.cell
        clear hlt hx ca
        by_cases hkb : k < m.length
        · obtain ⟨ad2, y, rfl, hlt, hcell2, hyw, hy⟩ := rd_word (HRB.out.below (HS.out ▸ HW.out.1)) HK.out (k := k) hkb
          have HY := Lib.hid hy
          clear hlt hy
          have hkb' : (k : Int) < m.length := by omega
          go_wp2_with first | fail | (at_builtin; refine wpList_append_fits _ rfl _ _ 34 rfl s 106 i0 1 Tryz.underlying34 hi hz1 g k (l.length + 1) (o.map wd) rfl (HO.out.alloc _) ⟨wr.heap.size, 0, none⟩ 1 1 [_] rfl rfl (cell_one_new _ _ _) (by simp [Value.oneCell']) (by omega) ?_; intro w3 hown3 hgr3)
          refine ⟨⟨k + 1, (c + x + y) / W, o ++ [(c + x + y) % W], by omega, rfl, rfl, u64_div (by omega), by unfold W; omega, HA.out.step HX.out HY.out, ?_, three_push HW.out hgr3 HG.out⟩, by simp only [intOf]; omega⟩
          rw [List.map_append, List.map_cons, List.map_nil, ← wd_mod (b := (c : Int) + x + y) (by omega)]
          exact hown3
        · have hkb' : ¬ ((k : Int) < m.length) := by omega
          have HY := Lib.hid (getD_ge m k (by omega))
          go_wp2_with first | fail | (at_builtin; refine wpList_append_fits _ rfl _ _ 34 rfl s 106 i0 1 Tryz.underlying34 hi hz1 g k (l.length + 1) (o.map wd) rfl (HO.out.alloc _) ⟨wr.heap.size, 0, none⟩ 1 1 [_] rfl rfl (cell_one_new _ _ _) (by simp [Value.oneCell']) (by omega) ?_; intro w3 hown3 hgr3)
          refine ⟨⟨k + 1, (c + x) / W, o ++ [(c + x) % W], by omega, rfl, rfl, u64_div (by omega), by unfold W; omega, (HA.out.step HX.out HY.out : AddInv _ _ _ ((c + x + 0) / W) _), ?_, three_push HW.out hgr3 HG.out⟩, by simp only [intOf]; omega⟩
          rw [List.map_append, List.map_cons, List.map_nil, ← wd_mod (b := (c : Int) + x) (by omega)]
          exact hown3
      · obtain rfl : k = l.length := by omega
        go_wp2_with first | fail | (at_builtin; refine wpList_append_fits _ rfl _ _ 34 rfl s 106 i0 1 Tryz.underlying34 hi hz1 g l.length (l.length + 1) (o.map wd) rfl (HO.out.alloc _) ⟨wr.heap.size, 0, none⟩ 1 1 [_] rfl rfl (cell_one_new _ _ _) (by simp [Value.oneCell']) (by omega) ?_; intro w3 hown3 hgr3)
        obtain ⟨hf1, hf2, hf3⟩ := HA.out.fin (by omega) (by omega)
        have H3 := three_push HW.out hgr3 HG.out
        have hnw : (List.map wd o ++ [Value.int .u32 (c : Int)]) = (o ++ [c]).map wd := by rw [List.map_append]; rfl
        rw [hnw] at hown3
        have HV := Lib.hid hf3
        refine (trim_any (some ⟨g, 0, none⟩) (l.length + 1) (l.length + 1) (o ++ [c]) w3 hf1 (by omega) (by omega) hf2 (Rd.of_own hown3)).mono ?_
        rintro e w4 ⟨ra, rl, rc, rfl, hN, hb4⟩
        have hsz3 := H3.2.2.2.lt
        have HB4 : Hid (Below s w w4) := H3.1.trans (hb4.mono (by omega))
        have HR4 : Hid (Boxed w4 (s + 1 + 1) 36 (.slice none 0 0)) := (hb4.block _ hsz3).trans H3.2.2.2
        have HN := Lib.hid hN
        have cr := HR4.out.cell
        have fr := HR4.out.frozen
        clear hf1 hf2 hf3 hnw hown3 hgr3 H3 hN hb4 ca hca hcb hcr
        go_wp2_with fail
        have hB : Blk w4 (s + 1 + 1) 36 [.slice none 0 0] := HR4.out
        have hval : val (o ++ [c]) = val l + val m := HV.out.trans (by first | rfl | exact Nat.add_comm _ _)
        refine ret_nat rfl rfl (hB.set 0 _) ⟨ra, rl, rc, rfl, ?_, ?_⟩
        · have := HN.out.setCell hB (by decide) 0 (.slice ra rl rc)
          rwa [hval] at this
        · rw [← HS.out]
          exact HB4.out.setCell (p := ⟨s + 1 + 1, 0, none⟩) (by show s ≤ s + 1 + 1; omega) _

end Go.Proofs.YthefednendgclaaGreat
