import Derived.Test.YthefednendgclaaGreatPlainA
import Derived.Test.YthefednendgclaaGreatBuf
import Derived.Test.YthefednendgclaaGreatNatB
import Derived.Test.YthefednendgclaaGreatModAdd
import Derived.Deep.RegionHeld3
set_option linter.unusedVariables false
set_option linter.unusedSimpArgs false
/-
  Numbers as rows of bits, the lowest first: the first k bits of a number, its own length. No program in sight.
-/
namespace Sac
namespace Bt

/-- How many bits a number has. -/
def len (n : Nat) : Nat := if n = 0 then 0 else n.log2 + 1
/-- Its first k bits. -/
def fb (k n : Nat) : List Bool := (List.range k).map n.testBit
/-- All of them. -/
def bits (n : Nat) : List Bool := fb (len n) n

theorem len_zero : len 0 = 0 := rfl
theorem fb_length (k n : Nat) : (fb k n).length = k := by simp [fb]
theorem bits_length (n : Nat) : (bits n).length = len n := fb_length _ _
theorem fb_get {k n i : Nat} (h : i < k) : (fb k n)[i]? = some (n.testBit i) := by
  unfold fb
  rw [List.getElem?_map, List.getElem?_range h]; rfl
theorem fb_succ (k n : Nat) : fb (k + 1) n = fb k n ++ [n.testBit k] := by
  unfold fb
  rw [List.range_succ, List.map_append]; rfl
theorem lt_len (n : Nat) : n < 2 ^ len n := by
  unfold len
  by_cases h : n = 0
  · subst h; decide
  · rw [if_neg h]; exact Nat.lt_log2_self
theorem len_le {n k : Nat} (h : n < 2 ^ k) : len n ≤ k := by
  unfold len
  by_cases h0 : n = 0
  · rw [if_pos h0]; omega
  · rw [if_neg h0]
    have := (Nat.log2_lt h0).2 h
    omega
theorem le_len {n k : Nat} (h : 2 ^ k ≤ n) : k < len n := by
  rcases Nat.lt_or_ge k (len n) with h' | h'
  · exact h'
  · have := Nat.lt_of_lt_of_le (lt_len n) (Nat.pow_le_pow_right (by decide) h')
    omega
theorem len_mono {n m : Nat} (h : n ≤ m) : len n ≤ len m := len_le (Nat.lt_of_le_of_lt h (lt_len m))
theorem len_pos {n : Nat} (h : 0 < n) : 0 < len n := by unfold len; rw [if_neg (by omega)]; omega
theorem len_eq_zero {n : Nat} : len n = 0 ↔ n = 0 := by
  constructor
  · intro h
    rcases Nat.eq_zero_or_pos n with h0 | h0
    · exact h0
    · have := len_pos h0; omega
  · rintro rfl; rfl
theorem top {n : Nat} (h : 0 < n) : n.testBit (len n - 1) = true := by
  unfold len
  rw [if_neg (by omega), Nat.add_sub_cancel]
  have h1 : 2 ^ n.log2 ≤ n := Nat.log2_self_le (by omega)
  have h2 : n < 2 ^ (n.log2 + 1) := Nat.lt_log2_self
  rw [Nat.testBit_eq_decide_div_mod_eq]
  have h3 : n / 2 ^ n.log2 = 1 := by
    apply Nat.div_eq_of_lt_le
    · omega
    · rw [Nat.pow_succ] at h2; omega
  rw [h3]; decide
theorem over {n j : Nat} (h : len n ≤ j) : n.testBit j = false := Nat.testBit_lt_two_pow (Nat.lt_of_lt_of_le (lt_len n) (Nat.pow_le_pow_right (by decide) h))
theorem len_lt {n m : Nat} (h : len n < len m) : n < m := by
  rcases Nat.lt_or_ge n m with h' | h'
  · exact h'
  · have := len_mono h'; omega
theorem bits_get {n i : Nat} (h : i < len n) : (bits n)[i]? = some (n.testBit i) := fb_get h
theorem fb_inj {k n m : Nat} (hn : n < 2 ^ k) (hm : m < 2 ^ k) (h : fb k n = fb k m) : n = m := by
  apply Nat.eq_of_testBit_eq
  intro i
  rcases Nat.lt_or_ge i k with hi | hi
  · have h1 := fb_get (n := n) hi
    rw [h, fb_get hi] at h1
    exact (Option.some.inj h1).symm
  · rw [Nat.testBit_lt_two_pow (Nat.lt_of_lt_of_le hn (Nat.pow_le_pow_right (by decide) hi)), Nat.testBit_lt_two_pow (Nat.lt_of_lt_of_le hm (Nat.pow_le_pow_right (by decide) hi))]
theorem fb_bits {k n : Nat} (h : len n ≤ k) : fb k n = bits n ++ List.replicate (k - len n) false := by
  apply List.ext_getElem?
  intro i
  rcases Nat.lt_or_ge i (len n) with hi | hi
  · rw [fb_get (by omega), List.getElem?_append_left (by rw [bits_length]; exact hi), bits_get hi]
  · rw [List.getElem?_append_right (by rw [bits_length]; exact hi), bits_length, List.getElem?_replicate]
    rcases Nat.lt_or_ge i k with hk | hk
    · rw [fb_get hk, over hi, if_pos (by omega)]
    · rw [if_neg (by omega), List.getElem?_eq_none (by rw [fb_length]; exact hk)]
/-- One bit of a number. -/
theorem bit_eq (n i : Nat) : (n.testBit i).toNat = n / 2 ^ i % 2 := by
  rw [Nat.testBit_eq_decide_div_mod_eq]
  rcases Nat.mod_two_eq_zero_or_one (n / 2 ^ i) with h | h <;> rw [h] <;> rfl
theorem bit_of {n i : Nat} {b : Bool} (h : n / 2 ^ i % 2 = b.toNat) : n.testBit i = b := by
  have := bit_eq n i
  rw [h] at this
  cases b <;> cases hb : n.testBit i <;> simp [hb] at this ⊢
theorem mod_succ (n i : Nat) : n % 2 ^ (i + 1) = n % 2 ^ i + 2 ^ i * (n.testBit i).toNat := by
  rw [bit_eq, Nat.pow_succ, Nat.mod_mul]
theorem div_succ (n i : Nat) : n / 2 ^ i = 2 * (n / 2 ^ (i + 1)) + (n.testBit i).toNat := by
  rw [bit_eq, Nat.pow_succ, ← Nat.div_div_eq_div_mul]; omega

/-- The sum: its next bit and what is carried on. -/
theorem add_step {x y i c : Nat} (h : x % 2 ^ i + y % 2 ^ i = (x + y) % 2 ^ i + 2 ^ i * c) {s : Nat} (hs : s = (x.testBit i).toNat + (y.testBit i).toNat + c) :
    (x + y).testBit i = (s % 2 == 1) ∧ x % 2 ^ (i + 1) + y % 2 ^ (i + 1) = (x + y) % 2 ^ (i + 1) + 2 ^ (i + 1) * (s / 2) := by
  obtain ⟨p, hp⟩ : ∃ p, p = 2 ^ i := ⟨_, rfl⟩
  have hpp : 0 < p := hp ▸ Nat.pow_pos (by decide)
  rw [← hp] at h
  have hx := mod_succ x i
  have hy := mod_succ y i
  have hxy := mod_succ (x + y) i
  obtain ⟨bx, hbx⟩ : ∃ b, b = (x.testBit i).toNat := ⟨_, rfl⟩
  obtain ⟨bs, hby⟩ : ∃ b, b = (y.testBit i).toNat := ⟨_, rfl⟩
  -- the sum's own bit
  have e1 : x = p * (x / p) + x % p := (Nat.div_add_mod x p).symm
  have e2 : y = p * (y / p) + y % p := (Nat.div_add_mod y p).symm
  have hd : (x + y) / p = x / p + y / p + c := by
    have hlt : (x + y) % p < p := Nat.mod_lt _ hpp
    have h1 : x + y = p * (x / p + y / p + c) + (x + y) % p := by
      have : p * (x / p + y / p + c) = p * (x / p) + p * (y / p) + p * c := by rw [Nat.mul_add, Nat.mul_add]
      omega
    conv => lhs; rw [h1]
    rw [Nat.mul_add_div hpp, Nat.div_eq_of_lt hlt, Nat.add_zero]
  have hbit : (x + y) / 2 ^ i % 2 = s % 2 := by
    rw [← hp, hd, hs, bit_eq x i, bit_eq y i, ← hp]; omega
  have hb : (x + y).testBit i = (s % 2 == 1) := by
    rw [Nat.testBit_eq_decide_div_mod_eq, hbit]
    rcases Nat.mod_two_eq_zero_or_one s with h0 | h0 <;> rw [h0] <;> rfl
  refine ⟨hb, ?_⟩
  have hbn : ((x + y).testBit i).toNat = s % 2 := by rw [bit_eq, hbit]
  rw [hx, hy, hxy, hbn, Nat.pow_succ, ← hp]
  have hm : p * s = p * (x.testBit i).toNat + p * (y.testBit i).toNat + p * c := by rw [hs, Nat.mul_add, Nat.mul_add]
  have hss : p * 2 * (s / 2) + p * (s % 2) = p * s := by rw [Nat.mul_assoc, ← Nat.mul_add, Nat.div_add_mod]
  omega
/-- Nothing left: it is the sum. -/
theorem add_end {x y i : Nat} (hx : len x ≤ i) (hy : len y ≤ i) (h : x % 2 ^ i + y % 2 ^ i = (x + y) % 2 ^ i + 2 ^ i * 0) : x + y < 2 ^ i := by
  have h1 := Nat.lt_of_lt_of_le (lt_len x) (Nat.pow_le_pow_right (n := 2) (by decide) hx)
  have h2 := Nat.lt_of_lt_of_le (lt_len y) (Nat.pow_le_pow_right (n := 2) (by decide) hy)
  rw [Nat.mod_eq_of_lt h1, Nat.mod_eq_of_lt h2] at h
  have := Nat.mod_lt (x + y) (y := 2 ^ i) (Nat.pow_pos (by decide))
  omega

/-- The difference: its next bit and what is borrowed. -/
theorem sub_step {x y i b : Nat} (hyx : y ≤ x) (h : (x - y) % 2 ^ i + y % 2 ^ i = x % 2 ^ i + 2 ^ i * b) {d : Int} (hd : d = ((x.testBit i).toNat : Int) - (y.testBit i).toNat - b) (hb : b ≤ 1) :
    (if d < 0 then (x - y).testBit i = (d + 2 == 1) ∧ (x - y) % 2 ^ (i + 1) + y % 2 ^ (i + 1) = x % 2 ^ (i + 1) + 2 ^ (i + 1) * 1 else (x - y).testBit i = (d == 1) ∧ (x - y) % 2 ^ (i + 1) + y % 2 ^ (i + 1) = x % 2 ^ (i + 1) + 2 ^ (i + 1) * 0) := by
  obtain ⟨z, hz⟩ : ∃ z, z = x - y := ⟨_, rfl⟩
  have hxz : x = z + y := by omega
  rw [← hz] at h ⊢
  have hs := add_step (x := z) (y := y) (i := i) (c := b) (by rw [← hxz]; exact h) rfl
  rw [← hxz] at hs
  obtain ⟨h1, h2⟩ := hs
  have e1 : ∀ t : Bool, t.toNat ≤ 1 := fun t => by cases t <;> decide
  have hx1 : ((x.testBit i).toNat : Nat) = ((z.testBit i).toNat + (y.testBit i).toNat + b) % 2 := by
    rw [h1]
    rcases Nat.mod_two_eq_zero_or_one ((z.testBit i).toNat + (y.testBit i).toNat + b) with h0 | h0 <;> rw [h0] <;> rfl
  have hb' : b = 0 ∨ b = 1 := by omega
  have key : ∀ (bz by_ bx : Bool) (c : Nat), c = 0 ∨ c = 1 → bx.toNat = (bz.toNat + by_.toNat + c) % 2 → ∀ e : Int, e = (bx.toNat : Int) - by_.toNat - c → (e < 0 → bz = (e + 2 == 1) ∧ (bz.toNat + by_.toNat + c) / 2 = 1) ∧ (¬ e < 0 → bz = (e == 1) ∧ (bz.toNat + by_.toNat + c) / 2 = 0) := by
    rintro bz by_ bx c (rfl | rfl) h1 e rfl <;> revert h1 <;> cases bz <;> cases by_ <;> cases bx <;> decide
  obtain ⟨k1, k2⟩ := key (z.testBit i) (y.testBit i) (x.testBit i) b hb' hx1 d hd
  by_cases hlt : d < 0
  · rw [if_pos hlt]
    obtain ⟨k3, k4⟩ := k1 hlt
    rw [k4] at h2
    exact ⟨k3, h2⟩
  · rw [if_neg hlt]
    obtain ⟨k3, k4⟩ := k2 hlt
    rw [k4] at h2
    exact ⟨k3, h2⟩
theorem sub_end {x y : Nat} : x - y < 2 ^ len x := Nat.lt_of_le_of_lt (Nat.sub_le _ _) (lt_len x)

/-- Comparing from the top on. -/
theorem cmp_step {x y i : Nat} (h : x / 2 ^ (i + 1) = y / 2 ^ (i + 1)) (he : x.testBit i = y.testBit i) : x / 2 ^ i = y / 2 ^ i := by
  rw [div_succ x i, div_succ y i, h, he]
theorem cmp_lt {x y i : Nat} (h : x / 2 ^ (i + 1) = y / 2 ^ (i + 1)) (hx : x.testBit i = false) (hy : y.testBit i = true) : x < y := by
  have h1 := div_succ x i
  have h2 := div_succ y i
  rw [hx] at h1
  rw [hy, ← h] at h2
  simp at h1 h2
  have : x / 2 ^ i < y / 2 ^ i := by omega
  exact Nat.lt_of_div_lt_div this
/-- Shifted. -/
theorem shift_bits {x n : Nat} (h : 0 < x) : List.replicate n false ++ bits x = bits (x * 2 ^ n) := by
  have hl : len (x * 2 ^ n) = n + len x := by
    apply Nat.le_antisymm
    · apply len_le
      rw [Nat.pow_add, Nat.mul_comm]
      exact Nat.mul_lt_mul_of_pos_left (lt_len x) (Nat.pow_pos (by decide))
    · have h2 : 2 ^ (len x - 1) ≤ x := by
        have := top h
        rcases Nat.lt_or_ge x (2 ^ (len x - 1)) with h' | h'
        · rw [Nat.testBit_lt_two_pow h'] at this; cases this
        · exact h'
      have h3 : 2 ^ (n + len x - 1) ≤ x * 2 ^ n := by
        have hp := len_pos h
        rw [show n + len x - 1 = (len x - 1) + n by omega, Nat.pow_add]
        exact Nat.mul_le_mul_right _ h2
      have := le_len h3
      omega
  apply List.ext_getElem?
  intro i
  rcases Nat.lt_or_ge i n with hi | hi
  · rw [List.getElem?_append_left (by simpa using hi), List.getElem?_replicate, if_pos hi, bits_get (by omega), Nat.testBit_mul_two_pow]
    simp [Nat.not_le.2 hi]
  · rw [List.getElem?_append_right (by simpa using hi), List.length_replicate]
    rcases Nat.lt_or_ge (i - n) (len x) with h' | h'
    · rw [bits_get h', bits_get (by omega), Nat.testBit_mul_two_pow]
      simp [hi]
    · rw [List.getElem?_eq_none (by rw [bits_length]; exact h'), List.getElem?_eq_none (by rw [bits_length]; omega)]
/-- The product, by one more bit. -/
theorem mul_step (a b i : Nat) : a * (b % 2 ^ (i + 1)) = a * (b % 2 ^ i) + (b.testBit i).toNat * (a * 2 ^ i) := by
  rw [mod_succ, Nat.mul_add]
  cases b.testBit i <;> simp
/-- The rest, by one more bit. -/
theorem div_step {x y i : Nat} (hy : 0 < y) : x / 2 ^ i / y = 2 * (x / 2 ^ (i + 1) / y) + (if y ≤ 2 * (x / 2 ^ (i + 1) % y) + (x.testBit i).toNat then 1 else 0) ∧
    x / 2 ^ i % y = (if y ≤ 2 * (x / 2 ^ (i + 1) % y) + (x.testBit i).toNat then 2 * (x / 2 ^ (i + 1) % y) + (x.testBit i).toNat - y else 2 * (x / 2 ^ (i + 1) % y) + (x.testBit i).toNat) := by
  rw [div_succ x i]
  obtain ⟨X, hX⟩ : ∃ X, X = x / 2 ^ (i + 1) := ⟨_, rfl⟩
  obtain ⟨t, ht⟩ : ∃ t, t = (x.testBit i).toNat := ⟨_, rfl⟩
  have ht1 : t ≤ 1 := by rw [ht]; cases x.testBit i <;> decide
  rw [← hX, ← ht]
  have hr := Nat.mod_lt X hy
  have e := Nat.div_add_mod X y
  obtain ⟨r, hrr⟩ : ∃ r, r = X % y := ⟨_, rfl⟩
  obtain ⟨k, hk⟩ : ∃ k, k = X / y := ⟨_, rfl⟩
  rw [← hrr] at hr ⊢
  rw [← hrr, ← hk] at e
  rw [← hk]
  have e2 : 2 * X + t = y * (2 * k) + (2 * r + t) := by
    have : y * (2 * k) = 2 * (y * k) := by rw [Nat.mul_left_comm]
    omega
  rw [e2, Nat.mul_add_div hy, Nat.mul_add_mod]
  by_cases h : y ≤ 2 * r + t
  · rw [if_pos h, if_pos h]
    have h1 : (2 * r + t) / y = 1 := Nat.div_eq_of_lt_le (by omega) (by omega)
    have h2 : (2 * r + t) % y = 2 * r + t - y := by rw [Nat.mod_eq_sub_mod h, Nat.mod_eq_of_lt (by omega)]
    exact ⟨by rw [h1], h2⟩
  · rw [if_neg h, if_neg h]
    exact ⟨by rw [Nat.div_eq_of_lt (by omega)], Nat.mod_eq_of_lt (by omega)⟩
/-- What of a number stands from place j on. -/
def hi (j z : Nat) : Nat := z / 2 ^ j * 2 ^ j
theorem hi_get (j z t : Nat) : (hi j z).testBit t = (decide (j ≤ t) && z.testBit t) := by
  unfold hi
  rw [Nat.testBit_mul_two_pow]
  by_cases h : j ≤ t
  · simp [h, Nat.testBit_div_two_pow]
  · simp [h]
theorem hi_zero (z : Nat) : hi 0 z = z := by simp [hi]
theorem hi_top {j z : Nat} (h : z < 2 ^ j) : hi j z = 0 := by unfold hi; rw [Nat.div_eq_of_lt h, Nat.zero_mul]
theorem fb_zero (k : Nat) : fb k 0 = List.replicate k false := by
  apply List.ext_getElem?
  intro i
  rw [List.getElem?_replicate]
  by_cases h : i < k
  · rw [fb_get h, if_pos h, Nat.zero_testBit]
  · rw [if_neg h, List.getElem?_eq_none (by rw [fb_length]; omega)]
theorem fb_ext {k n m : Nat} (h : ∀ i, i < k → n.testBit i = m.testBit i) : fb k n = fb k m := by
  apply List.ext_getElem?
  intro i
  by_cases hi : i < k
  · rw [fb_get hi, fb_get hi, h i hi]
  · rw [List.getElem?_eq_none (by rw [fb_length]; omega), List.getElem?_eq_none (by rw [fb_length]; omega)]
theorem fb_hi_false {k i z : Nat} (h : z.testBit i = false) : fb k (hi i z) = fb k (hi (i + 1) z) := fb_ext fun t _ => by
  rw [hi_get, hi_get]
  by_cases h1 : i = t
  · subst h1; rw [h]; simp
  · have : decide (i ≤ t) = decide (i + 1 ≤ t) := decide_eq_decide.2 (by omega)
    rw [this]
theorem fb_hi_true {k i z : Nat} (hik : i < k) (h : z.testBit i = true) : fb k (hi i z) = (fb k (hi (i + 1) z)).set i true := by
  apply List.ext_getElem?
  intro t
  by_cases ht : t < k
  · rw [List.getElem?_set, fb_get ht, hi_get]
    by_cases h1 : i = t
    · subst h1
      rw [if_pos rfl, if_pos (by rw [fb_length]; exact hik), h]; simp
    · rw [if_neg h1, fb_get ht, hi_get]
      have : decide (i ≤ t) = decide (i + 1 ≤ t) := decide_eq_decide.2 (by omega)
      rw [this]
  · rw [List.getElem?_eq_none (by rw [fb_length]; omega), List.getElem?_eq_none (by rw [List.length_set, fb_length]; omega)]
theorem fb_cons (k n : Nat) (b : Bool) : b :: fb k n = fb (k + 1) (2 * n + b.toNat) := by
  apply List.ext_getElem?
  intro t
  rcases t with _ | t
  · rw [List.getElem?_cons_zero, fb_get (by omega)]
    congr 1
    symm
    apply bit_of
    cases b <;> simp <;> omega
  · rw [List.getElem?_cons_succ]
    by_cases ht : t < k
    · rw [fb_get ht, fb_get (by omega), Nat.testBit_succ]
      congr 2
      cases b <;> simp <;> omega
    · rw [List.getElem?_eq_none (by rw [fb_length]; omega), List.getElem?_eq_none (by rw [fb_length]; omega)]
theorem len_twice (n : Nat) (b : Bool) : len (2 * n + b.toNat) ≤ len n + 1 := by
  apply len_le
  have h := lt_len n
  rw [Nat.pow_succ]
  have : b.toNat ≤ 1 := by cases b <;> decide
  omega
/-- A quotient's bit. -/
theorem quo_bit {x y i : Nat} (hy : 0 < y) : (x / y).testBit i = decide (y ≤ 2 * (x / 2 ^ (i + 1) % y) + (x.testBit i).toNat) := by
  apply bit_of
  have h := (div_step (x := x) (i := i) hy).1
  rw [Nat.div_div_eq_div_mul, Nat.mul_comm y, ← Nat.div_div_eq_div_mul, h]
  by_cases hc : y ≤ 2 * (x / 2 ^ (i + 1) % y) + (x.testBit i).toNat
  · rw [if_pos hc, decide_eq_true hc]; simp
  · rw [if_neg hc, decide_eq_false hc]; simp
end Bt
end Sac
/-
  Rows of bits in memory: a number that is read, a row of the walk's own that is appended to. No function of the program in sight.
-/
namespace Go.Proofs.YthefednendgclaaGreat
open Go Go.RowKit Sac

theorem Tryz.infoBool : (Tryz.prog.info? 4).map (fun i => (i.zero, i.size, i.bytes)) = some (some (.bool false), 1, 1) := by kernel_rfl

/-- The row at a holds the first k bits of n. -/
def BitsAt (w : World) (a : Option Addr) (k n : Nat) : Prop := ∀ j, j < k → ∃ ad, a = some ad ∧ Ety w ad.block 4 ∧ w.cell? (ad.add j) = some (.bool (n.testBit j))
theorem BitsAt.zero (w : World) (a : Option Addr) (n : Nat) : BitsAt w a 0 n := fun j hj => absurd hj (Nat.not_lt_zero j)
theorem BitsAt.mono {w : World} {a : Option Addr} {k n : Nat} (h : BitsAt w a k n) {j : Nat} (hj : j ≤ k) : BitsAt w a j n := fun i hi => h i (Nat.lt_of_lt_of_le hi hj)
theorem BitsAt.same {w w' : World} {a : Option Addr} {k n : Nat} (h : BitsAt w a k n) (hs : ∀ g, Ety w g 4 → w'.heap[g]? = w.heap[g]?) : BitsAt w' a k n := fun j hj => by
  obtain ⟨ad, e, he, hc⟩ := h j hj
  exact ⟨ad, e, he.same (hs _ he), (World.cell?_of_block (w := w) (by rw [block_add]; exact hs _ he)).trans hc⟩
theorem BitsAt.below {w w' : World} {a : Option Addr} {k n : Nat} (h : BitsAt w a k n) (hb : Below w.heap.size w w') : BitsAt w' a k n := h.same fun g hg => hb.block g hg.lt
theorem BitsAt.cellAt {w : World} {ad : Addr} {k n : Nat} (h : BitsAt w (some ad) k n) {j : Nat} (hj : j < k) : w.cell? (ad.add j) = some (.bool (n.testBit j)) := by
  obtain ⟨ad', e, _, hc⟩ := h j hj
  exact Option.some.inj e ▸ hc
theorem BitsAt.other {w : World} {a : Option Addr} {k n m : Nat} (h : BitsAt w a k n) (he : ∀ j, j < k → n.testBit j = m.testBit j) : BitsAt w a k m := fun j hj => by
  obtain ⟨ad, e, h1, h2⟩ := h j hj
  exact ⟨ad, e, h1, he j hj ▸ h2⟩

/-- The slice v is the number n. -/
def BN (w : World) (v : Value) (n : Nat) : Prop := ∃ (a : Option Addr) (cap : Nat), v = .slice a (Bt.len n) cap ∧ Bt.len n ≤ cap ∧ (cap : Int) ≤ 9223372036854775807 ∧ BitsAt w a (Bt.len n) n ∧ Bt.len n ≤ 1000
theorem BN.below {w w' : World} {v : Value} {n : Nat} (h : BN w v n) (hb : Below w.heap.size w w') : BN w' v n := by
  obtain ⟨a, cap, h1, h2, h3, h4, h5⟩ := h
  exact ⟨a, cap, h1, h2, h3, h4.below hb, h5⟩
theorem BN.same {w w' : World} {v : Value} {n : Nat} (h : BN w v n) (hs : ∀ g, Ety w g 4 → w'.heap[g]? = w.heap[g]?) : BN w' v n := by
  obtain ⟨a, cap, h1, h2, h3, h4, h5⟩ := h
  exact ⟨a, cap, h1, h2, h3, h4.same hs, h5⟩
theorem BN.len {w : World} {v : Value} {n : Nat} (h : BN w v n) : Bt.len n ≤ 1000 := by obtain ⟨a, cap, h1, h2, h3, h4, h5⟩ := h; exact h5
theorem BN.mk' {w : World} {a : Option Addr} {k cap n : Nat} (h : BitsAt w a k n) (hk : Bt.len n = k) (hc : k ≤ cap) (hm : (cap : Int) ≤ 9223372036854775807) (hl : k ≤ 1000) : BN w (.slice a k cap) n := by
  subst hk
  exact ⟨a, cap, rfl, hc, hm, h, hl⟩
theorem BN.set {w : World} {v : Value} {n : Nat} (h : BN w v n) {g : Nat} (hg : v.ownBlock ≠ some g) (o : Nat) (u : Value) : BN (w.setCell ⟨g, o, none⟩ u) v n := by
  obtain ⟨a, cap, rfl, h2, h3, h4, h5⟩ := h
  refine ⟨a, cap, rfl, h2, h3, fun j hj => ?_, h5⟩
  obtain ⟨ad, rfl, he, hc⟩ := h4 j hj
  have hne : ad.block ≠ g := fun e => hg (by rw [← e]; rfl)
  have hs : (w.setCell ⟨g, o, none⟩ u).heap[ad.block]? = w.heap[ad.block]? := heap_setCell_other _ _ _ _ hne
  exact ⟨ad, rfl, he.same hs, (World.cell?_of_block (w := w) (by rw [block_add]; exact hs)).trans hc⟩
/-- A number handed back. -/
def RetB (n : Nat) (w : World) (e : Ending) (w' : World) : Prop := ∃ v, e = .returned v ∧ BN w' v n ∧ Below w.heap.size w w'

/-- .. in a block that is new. -/
def RetBF (n : Nat) (w : World) (e : Ending) (w' : World) : Prop := ∃ v, e = .returned v ∧ BN w' v n ∧ Below w.heap.size w w' ∧ ∀ k, v.ownBlock = some k → w.heap.size ≤ k
theorem RetBF.ret {n : Nat} {w : World} {e : Ending} {w' : World} (h : RetBF n w e w') : RetB n w e w' := by
  obtain ⟨v, h1, h2, h3, _⟩ := h
  exact ⟨v, h1, h2, h3⟩

/-- A row of bits of the walk's own (in a block at or behind base). -/
def OwnB (w : World) (base : Nat) (v : Value) (l : List Bool) : Prop := w.ownsRow base 4 1 v l.length (l.map .bool)
theorem OwnB.nil (w : World) (base : Nat) : OwnB w base (.slice none 0 0) [] := World.ownsRow_nil _ _ _ _
theorem OwnB.lt {w : World} {base : Nat} {v : Value} {l : List Bool} (h : OwnB w base v l) {k : Nat} (hk : v.ownBlock = some k) : base ≤ k ∧ k < w.heap.size := World.ownsRow.lt h k hk
theorem OwnB.form {w : World} {base : Nat} {v : Value} {l : List Bool} (h : OwnB w base v l) : ∃ (a : Option Addr) (cap : Nat), v = .slice a l.length cap ∧ l.length ≤ cap ∧ (cap : Int) ≤ 9223372036854775807 ∧ Rd w 4 a (l.map .bool) := by
  have ho := h
  obtain ⟨hx, ⟨rfl, h0, h1⟩ | ⟨g, cap, rest, rfl, hb, hB, hn, hc, hl⟩⟩ := own_elim h
  · have : l = [] := List.eq_nil_of_length_eq_zero h0
    subst this
    exact ⟨none, 0, rfl, Nat.le_refl _, by decide, Rd.nil _ _ _⟩
  · exact ⟨some ⟨g, 0, none⟩, cap, rfl, hn, by unfold maxLen at hc; omega, Rd.of_own ho⟩
/-- Its own block, if it has a cell. -/
theorem OwnB.at_ {w : World} {base : Nat} {v : Value} {l : List Bool} (h : OwnB w base v l) (hn : 0 < l.length) : ∃ g cap, v = .slice (some ⟨g, 0, none⟩) l.length cap ∧ l.length ≤ cap ∧ (cap : Int) ≤ 9223372036854775807 ∧ base ≤ g := by
  obtain ⟨hx, ⟨rfl, h0, h1⟩ | ⟨g, cap, rest, rfl, hb, hB, hn, hc, hl⟩⟩ := own_elim h
  · omega
  · exact ⟨g, cap, rfl, hn, by unfold maxLen at hc; omega, hb⟩
theorem rd_bits {w : World} {a : Option Addr} {k n : Nat} (h : Rd w 4 a ((Bt.fb k n).map .bool)) : BitsAt w a k n := fun j hj => by
  obtain ⟨ad, e, h1, h2⟩ := h.at_ (k := j) (by rw [List.length_map, Bt.fb_length]; exact hj)
  refine ⟨ad, e, h1, h2.trans ?_⟩
  have h3 := Bt.fb_get (n := n) hj
  have h4 : (Bt.fb k n)[j]'(by rw [Bt.fb_length]; exact hj) = n.testBit j := by
    rw [List.getElem?_eq_getElem (by rw [Bt.fb_length]; exact hj)] at h3
    exact Option.some.inj h3
  rw [List.getElem_map, h4]
theorem OwnB.below {w w' : World} {base : Nat} {v : Value} {l : List Bool} (h : OwnB w base v l) (hb : Below w.heap.size w w') : OwnB w' base v l :=
  own_only (F := fun _ => False) h (Only.below hb) (fun _ _ => id)
theorem OwnB.alloc {w : World} {base : Nat} {v : Value} {l : List Bool} (h : OwnB w base v l) (o : Obj) : OwnB (w.alloc o) base v l := h.below ((Below.refl _ w).alloc (Nat.le_refl _) o)
theorem OwnB.base {w : World} {b b' : Nat} {v : Value} {l : List Bool} (h : OwnB w b v l) (hb : b' ≤ b) : OwnB w b' v l := by
  obtain ⟨h1, h2⟩ := h
  refine ⟨h1, ?_⟩
  rcases h2 with h2 | ⟨g, cap, cur, e1, e2, e3⟩
  · exact .inl h2
  · exact .inr ⟨g, cap, cur, e1, by omega, e3⟩

/-- The first k bits of n more. -/
theorem append_bits (w : World) (base : Nat) (t ty : TypeId) (ht : Tryz.prog.underlying t = some (.slice 4)) (v : Value) (l : List Bool) (h : OwnB w base v l) (a : Option Addr) (k c n : Nat) (hx : BitsAt w a k n) (hlen : l.length + k ≤ 100000) (hbase : base ≤ w.heap.size) :
    ∃ v' w', (Builtin.append_ #[t, t] ty #[v, .slice a k c]).run Tryz.prog w = .ok v' w' ∧ OwnB w' base v' (l ++ Bt.fb k n) ∧ w.grownBy w' v.ownBlock ∧ (∀ k, v'.ownBlock = some k → v.ownBlock = some k ∨ w.heap.size ≤ k) := by
  obtain ⟨i, hi, hz1, hz2, hz3⟩ := info_parts Tryz.infoBool
  have hsz : i.size = 1 := hz2
  rcases Nat.eq_zero_or_pos k with rfl | hk
  · have hsrc : Src Tryz.prog i.size t (.slice a 0 c) 0 [] w := by
      rw [hsz]
      rcases a with _ | ad
      · exact Src.ofNil w ht c
      · exact Src.ofSlice w ht ad 0 c [] rfl (fun j u hu => by simp at hu) (fun u hu => by cases hu)
    obtain ⟨a0, cap, rfl, hc1, hc2, _⟩ := h.form
    refine ⟨_, _, run_append_nothing w t t ty 4 i ht hi a0 l.length cap hc1 _ hsrc, ?_, ⟨rfl, rfl, rfl, Nat.le_refl _, fun _ _ _ => rfl⟩, fun k hk => .inl hk⟩
    have e : l ++ Bt.fb 0 n = l := by simp [Bt.fb]
    rw [e]; exact h
  · obtain ⟨ad, rfl, _, _⟩ := hx 0 hk
    have hnl : ((Bt.fb k n).map Value.bool).length = k := by rw [List.length_map, Bt.fb_length]
    obtain ⟨v', w', hr, ho', hg, hf⟩ := append_own (P := Tryz.prog) w base t ty 4 i _ 1 1 ht hi hz1 hz2 hz3 rfl (by decide) v l.length (l.map .bool) h ad k c ((Bt.fb k n).map .bool) (by rw [hnl]; omega)
      (fun j u hj => by
        have hjk : j < k := by have := (List.getElem?_eq_some_iff.1 hj).1; omega
        rw [List.getElem?_map, Bt.fb_get hjk] at hj
        obtain rfl := Option.some.inj hj
        exact hx.cellAt hjk) (fun u hu => by obtain ⟨b, _, rfl⟩ := List.mem_map.1 hu; rfl) (by unfold maxLen; omega) (by omega) hbase
    refine ⟨v', w', hr, ?_, hg, hf⟩
    unfold OwnB
    rw [List.length_append, Bt.fb_length, List.map_append]
    exact ho'
theorem wpList_append_bits (w : World) {ops : Array Oper} {rest : List Oper} {o : Oper} {a : Act} {Q : Exit → Act → World → Prop} (hg : o.guard = none) (s x : Operand) (t : TypeId)
    (hop : o.op = Op.call { callee := Callee.builtin Builtin.append, args := #[s, x], argTypes := #[t, t] }) (ht : Tryz.prog.underlying t = some (.slice 4))
    (base : Nat) (v : Value) (l : List Bool) (hs : a.eval s = v) (h : OwnB w base v l) (xa : Option Addr) (k c n : Nat) (hx : a.eval x = .slice xa k c) (hr : BitsAt w xa k n)
    (hlen : l.length + k ≤ 100000) (hbase : base ≤ w.heap.size)
    (hk : ∀ v' w', OwnB w' base v' (l ++ Bt.fb k n) → w.grownBy w' v.ownBlock → (∀ k, v'.ownBlock = some k → v.ownBlock = some k ∨ w.heap.size ≤ k) → wpList Tryz.prog ops Q rest (a.put o.dst v') w') :
    wpList Tryz.prog ops Q (o :: rest) a w := by
  refine wpList_plain hg fun K hK' => ?_
  obtain ⟨v', w', hr, h1, h2, h3⟩ := append_bits w base t o.type ht v l h xa k c n hr hlen hbase
  unfold Oper.wp execOp
  simp only [hop, resolve, invoke, builtin, Sem.run_bind, Sem.run_pure, Result.andThen_ok, List.map_toArray, List.map_cons, List.map_nil, hs, hx, hr]
  exact hK' _ _ (hk v' w' h1 h2 h3)
theorem step_append_bits {ops : Array Oper} {o : Oper} {a : Act} {w : World} {K : Act → World → Prop} {Q : Exit → Act → World → Prop} {E : Prop} (hg : o.guard = none) (s x : Operand) (t : TypeId)
    (hop : o.op = Op.call { callee := Callee.builtin Builtin.append, args := #[s, x], argTypes := #[t, t] }) (ht : Tryz.prog.underlying t = some (.slice 4))
    (base : Nat) (v : Value) (l : List Bool) (hs : a.eval s = v) (h : OwnB w base v l) (xa : Option Addr) (k c n : Nat) (hx : a.eval x = .slice xa k c) (hr : BitsAt w xa k n)
    (hlen : l.length + k ≤ 100000) (hbase : base ≤ w.heap.size)
    (hk : ∀ v' w', OwnB w' base v' (l ++ Bt.fb k n) → w.grownBy w' v.ownBlock → (∀ k, v'.ownBlock = some k → v.ownBlock = some k ∨ w.heap.size ≤ k) → K (a.put o.dst v') w') :
    if Region.wanted o (yielded ops a.tmps) = true then Oper.wp Tryz.prog o a w K Q else E := by
  rw [if_pos (by simp [Region.wanted, hg])]
  obtain ⟨v', w', hr, h1, h2, h3⟩ := append_bits w base t o.type ht v l h xa k c n hr hlen hbase
  unfold Oper.wp execOp
  simp only [hop, resolve, invoke, builtin, Sem.run_bind, Sem.run_pure, Result.andThen_ok, List.map_toArray, List.map_cons, List.map_nil, hs, hx, hr]
  exact hk v' w' h1 h2 h3
/-- One bit, in a new cell. -/
theorem bitsAt_new (w : World) (b : Bool) (k : Nat) (hk : k = w.heap.size) : BitsAt (w.alloc (.cells #[.bool b] 4)) (some ⟨k, 0, none⟩) 1 b.toNat := by
  have hB := Blk.new' w [.bool b] 4 k hk
  intro j hj
  obtain rfl : j = 0 := by omega
  refine ⟨_, rfl, hB.ety, ?_⟩
  rw [hB.news 0 (.bool b) rfl]
  cases b <;> rfl
theorem OwnB.snoc {w : World} {base k n : Nat} {v : Value} {b : Bool} (h : OwnB w base v (Bt.fb k n ++ Bt.fb 1 b.toNat)) (hb : n.testBit k = b) : OwnB w base v (Bt.fb (k + 1) n) := by
  have e : Bt.fb 1 b.toNat = [b] := by cases b <;> rfl
  rw [e, ← hb, ← Bt.fb_succ] at h
  exact h
theorem OwnB.nil0 (w : World) (s : Nat) (n : Nat) (hs : s = w.heap.size) : OwnB (w.alloc (Obj.cells #[] 4)) s (.slice (some ⟨s, 0, none⟩) 0 0) (Bt.fb 0 n) :=
  own_intro (rest := []) (Nat.le_refl s) (Blk.new' w [] 4 s hs) (Nat.le_refl 0) (by decide) rfl rfl
theorem below_app {B : Nat} {w0 w w' : World} {o : Obj} {v : Value} {l : List Bool} (h : Below B w0 w) (ho : OwnB w B v l) (hg : (w.alloc o).grownBy w' v.ownBlock) (hB : B ≤ w.heap.size) : Below B w0 w' ∧ B ≤ w'.heap.size :=
  ⟨below_grown (h.alloc hB o) hg (fun k hk => (ho.lt hk).1) (by simp; omega), by have := hg.size; simp at this; omega⟩
theorem fb_one (b : Bool) : Bt.fb 1 b.toNat = [b] := by cases b <;> rfl
/-- A row of the walk's own that is the number n, with noughts behind or not. -/
theorem OwnB.bits {w : World} {base k n : Nat} {v : Value} (h : OwnB w base v (Bt.fb k n)) : ∃ (a : Option Addr) (cap : Nat), v = .slice a k cap ∧ k ≤ cap ∧ (cap : Int) ≤ 9223372036854775807 ∧ BitsAt w a k n := by
  obtain ⟨a, cap, rfl, h1, h2, h3⟩ := h.form
  rw [Bt.fb_length] at h1 ⊢
  exact ⟨a, cap, rfl, h1, h2, rd_bits h3⟩
theorem OwnB.bitsF {w : World} {base k n : Nat} {v : Value} (h : OwnB w base v (Bt.fb k n)) : ∃ (a : Option Addr) (cap : Nat), v = .slice a k cap ∧ k ≤ cap ∧ (cap : Int) ≤ 9223372036854775807 ∧ BitsAt w a k n ∧ ∀ ad, a = some ad → base ≤ ad.block := by
  obtain ⟨a, cap, rfl, h1, h2, h3⟩ := h.bits
  exact ⟨a, cap, rfl, h1, h2, h3, fun ad e => (h.lt (k := ad.block) (by rw [e]; rfl)).1⟩
theorem own_ge {a : Option Addr} {l c B : Nat} (h : ∀ ad, a = some ad → B ≤ ad.block) : ∀ k, (Value.slice a l c).ownBlock = some k → B ≤ k := fun k hk => by
  rcases a with _ | ad
  · cases hk
  · exact (Option.some.inj hk) ▸ h ad rfl
theorem blk_bits {w : World} {g k n : Nat} (h : Blk w g 4 ((Bt.fb k n).map .bool)) : BitsAt w (some ⟨g, 0, none⟩) k n := rd_bits (Blk.rd (rest := []) (by rw [List.append_nil]; exact h))
end Go.Proofs.YthefednendgclaaGreat
/-
  The document's numbers, one contract each: a bit, without noughts at the end, a small number, which is greater.
-/
namespace Go.Proofs.YthefednendgclaaGreat
open Go Go.RowKit Sac

set_option maxRecDepth 100000 in
set_option maxHeartbeats 1000000 in
theorem bat_any (v : Value) (n i : Nat) (w : World) (h : BN w v n) (hi : (i : Int) ≤ 100000) :
    Calls Tryz.prog 129 #[v, .int .i64 (i : Int)] w fun e w' => e = .returned (.int .i64 ((n.testBit i).toNat : Int)) ∧ Below w.heap.size w w' := by
  obtain ⟨a, cap, rfl, h1, h2, h3, h4⟩ := h
  obtain ⟨k, hk⟩ : ∃ k, Bt.len n = k := ⟨_, rfl⟩
  rw [hk] at h1 h3 h4 ⊢
  have hk1 : (k : Int) ≤ 1000 := by omega
  have hkc : (k : Int) ≤ cap := by omega
  by_cases hik : (i : Int) < k
  · obtain ⟨ad, rfl, _, cx⟩ := h3 i (by omega)
    obtain ⟨b, hb⟩ : ∃ b, n.testBit i = b := ⟨_, rfl⟩
    rw [hb] at cx ⊢
    have d1 : decide ((i : Int) < (k : Int)) = true := decide_eq_true hik
    clear h1 h2 h3 h4 hk hb
    cases b
    · go_enter Tryz.func129, Tryz.ntmps129
      go_wp2_with fail
      go_ret
      exact ⟨rfl, Below.refl _ _⟩
    · go_enter Tryz.func129, Tryz.ntmps129
      go_wp2_with fail
      go_ret
      exact ⟨rfl, Below.refl _ _⟩
  · have hov : n.testBit i = false := Bt.over (by rw [hk]; omega)
    rw [hov]
    have d1 : decide ((i : Int) < (k : Int)) = false := decide_eq_false hik
    clear h1 h2 h3 h4 hk hov
    go_enter Tryz.func129, Tryz.ntmps129
    go_wp2_with fail
    go_ret
    exact ⟨rfl, Below.refl _ _⟩

set_option maxRecDepth 100000 in
set_option maxHeartbeats 1000000 in
theorem btrimF_any (a : Option Addr) (k cap n : Nat) (w : World) (h : BitsAt w a k n) (hn : Bt.len n ≤ k) (hc : (k : Int) ≤ cap) (hcm : (cap : Int) ≤ 9223372036854775807) (hk : (k : Int) ≤ 100000) (h1000 : Bt.len n ≤ 1000) :
    Calls Tryz.prog 126 #[.slice a k cap] w fun e w' => e = .returned (.slice a (Bt.len n) cap) ∧ Below w.heap.size w w' ∧ BN w' (.slice a (Bt.len n) cap) n := by
  have HB := Lib.hid h
  have HN := Lib.hid hn
  have HC := Lib.hid (And.intro hcm h1000)
  clear h hn hcm h1000
  go_enter Tryz.func126, Tryz.ntmps126
  go_wp2_with fail
  go_loop [0] (fun v => ∃ j : Nat, j ≤ k ∧ v = .slice a j cap ∧ Hid (Bt.len n ≤ j)) (fun v => match v with | .slice _ j _ => j | _ => 0)
  case atStart => exact ⟨k, Nat.le_refl _, rfl, HN.out⟩
  case round =>
    obtain ⟨j, hj, rfl, HJ⟩ := hrel
    have fin : ∀ j : Nat, j ≤ k → Bt.len n = j → Ending.returned (.slice a j cap) = .returned (.slice a (Bt.len n) cap) ∧ Below w.heap.size w w ∧ BN w (.slice a (Bt.len n) cap) n := fun j hj e => ⟨by rw [e], Below.refl _ _, ⟨a, cap, rfl, by omega, HC.out.1, HB.out.mono (by omega), HC.out.2⟩⟩
    have HF := Lib.hid fin
    clear fin
    by_cases hj0 : j = 0
    · subst hj0
      go_wp2_with fail
      go_ret
      exact HF.out 0 hj (by have := HJ.out; omega)
    · obtain ⟨i, rfl⟩ : ∃ i, j = i + 1 := ⟨j - 1, by omega⟩
      obtain ⟨ad, rfl, _, cx⟩ := HB.out i (by omega)
      obtain ⟨b, hb⟩ : ∃ b, n.testBit i = b := ⟨_, rfl⟩
      rw [hb] at cx
      have HBB := Lib.hid hb
      have hjc : (i : Int) + 1 ≤ cap := by omega
      clear hb hj0
      cases b
      · have HJ2 : Hid (Bt.len n ≤ i) := by
          show _ ≤ _
          have h1 := HJ.out
          rcases Nat.lt_or_ge i (Bt.len n) with h2 | h2
          · have e : Bt.len n = i + 1 := by omega
            have hp : 0 < n := by
              rcases Nat.eq_zero_or_pos n with h0 | h0
              · rw [h0] at e; cases e
              · exact h0
            have := Bt.top hp
            rw [e, Nat.add_sub_cancel, HBB.out] at this
            cases this
          · exact h2
        go_wp2_with fail
        exact ⟨⟨i, by omega, rfl, HJ2.out⟩, Nat.lt_succ_self i⟩
      · have HJ2 : Hid (Bt.len n = i + 1) := by
          show _ = _
          have h1 := HJ.out
          rcases Nat.lt_or_ge i (Bt.len n) with h2 | h2
          · omega
          · have := Bt.over h2
            rw [HBB.out] at this
            cases this
        go_wp2_with fail
        go_ret
        exact HF.out (i + 1) hj HJ2.out

theorem btrim_any (a : Option Addr) (k cap n : Nat) (w : World) (h : BitsAt w a k n) (hn : Bt.len n ≤ k) (hc : (k : Int) ≤ cap) (hcm : (cap : Int) ≤ 9223372036854775807) (hk : (k : Int) ≤ 100000) (h1000 : Bt.len n ≤ 1000) :
    Calls Tryz.prog 126 #[.slice a k cap] w (RetB n w) :=
  (btrimF_any a k cap n w h hn hc hcm hk h1000).mono fun _ _ ⟨h1, h2, h3⟩ => ⟨_, h1, h3, h2⟩

set_option maxRecDepth 100000 in
set_option maxHeartbeats 1000000 in
theorem bsmall_any (n : Nat) (w : World) (hn : n < 18446744073709551616) : Calls Tryz.prog 19 #[.int .u64 (n : Int)] w (RetB n w) := by
  obtain ⟨s, hs⟩ : ∃ s, s = w.heap.size := ⟨_, rfl⟩
  have HS := Lib.hid hs
  have hl64 : Bt.len n ≤ 64 := Bt.len_le (by omega)
  have HL := Lib.hid hl64
  have HN := Lib.hid hn
  clear hl64
  go_enter Tryz.func19, Tryz.ntmps19
  go_wp2_with fail
  rw [← hs]
  have HO : Hid (OwnB (w.alloc (Obj.cells #[] 4)) s (.slice (some ⟨s, 0, none⟩) 0 0) (Bt.fb 0 n)) := own_intro (rest := []) (Nat.le_refl s) (Blk.new' w [] 4 s hs) (Nat.le_refl 0) (by decide) rfl rfl
  have HB : Hid (Below s w (w.alloc (Obj.cells #[] 4))) := by rw [hs]; exact (Below.refl _ w).alloc (Nat.le_refl _) _
  have HZ : Hid (s ≤ (w.alloc (Obj.cells #[] 4)).heap.size) := by show _ ≤ _; rw [hs]; simp
  clear hs
  generalize w.alloc (Obj.cells #[] 4) = w1 at HO HB HZ ⊢
  go_loopw [0, 3] (fun uv ov wr => ∃ k : Nat, k ≤ 64 ∧ uv = .int .u64 ((n / 2 ^ k : Nat) : Int) ∧ Hid (k ≤ Bt.len n) ∧ Hid (OwnB wr s ov (Bt.fb k n)) ∧ Hid (Below s w wr) ∧ Hid (s ≤ wr.heap.size)) (fun uv _ _ => (intOf uv).toNat)
  case atStart => exact ⟨0, by omega, by simp, Nat.zero_le _, HO.out, HB.out, HZ.out⟩
  case round =>
    clear HO HB HZ
    obtain ⟨k, hk, rfl, HK, HO, HB, HZ⟩ := hrel
    obtain ⟨u, hu⟩ : ∃ u, n / 2 ^ k = u := ⟨_, rfl⟩
    rw [hu]
    have HU := Lib.hid hu
    have hu64 : u < 18446744073709551616 := by rw [← hu]; exact Nat.lt_of_le_of_lt (Nat.div_le_self _ _) HN.out
    clear hu
    by_cases hu0 : u = 0
    · subst hu0
      have hlen : Bt.len n = k := by
        have h1 := HK.out
        have h2 := HU.out
        have h3 : n < 2 ^ k := by
          rcases Nat.lt_or_ge n (2 ^ k) with h | h
          · exact h
          · have := Nat.div_pos h (Nat.two_pow_pos k); omega
        have := Bt.len_le h3
        omega
      have HLK := Lib.hid hlen
      clear hlen
      obtain ⟨a, cap, rfl, h1, h2, h3⟩ := HO.out.bits
      have H3 := Lib.hid h3
      clear h3
      go_wp2_with fail
      go_ret
      exact ⟨.slice a k cap, rfl, BN.mk' H3.out HLK.out h1 h2 (by omega), HS.out ▸ HB.out⟩
    · have hk64 : k < Bt.len n := by
        have h2 := HU.out
        apply Bt.le_len
        rcases Nat.lt_or_ge n (2 ^ k) with h | h
        · rw [Nat.div_eq_of_lt h] at h2; omega
        · exact h
      have HK2 := Lib.hid hk64
      have hbit : ((u : Int) % 2 == 1) = n.testBit k := by
        have := Bt.bit_eq n k
        rw [HU.out] at this
        rcases Nat.mod_two_eq_zero_or_one u with h | h
        · have e : (u : Int) % 2 = 0 := by omega
          rw [e]; rw [h] at this
          cases hb : n.testBit k
          · rfl
          · rw [hb] at this; cases this
        · have e : (u : Int) % 2 = 1 := by omega
          rw [e]; rw [h] at this
          cases hb : n.testBit k
          · rw [hb] at this; cases this
          · rfl
      have hdiv : u / 2 = n / 2 ^ (k + 1) := by rw [Nat.pow_succ, ← Nat.div_div_eq_div_mul, HU.out]
      have HD := Lib.hid hdiv
      have hk64' : k + 1 ≤ 64 := by have := HL.out; omega
      have hupos : (0 : Int) < (u : Int) := by omega
      obtain ⟨b, hb⟩ : ∃ b, n.testBit k = b := ⟨_, rfl⟩
      rw [hb] at hbit
      have HBB := Lib.hid hb
      obtain ⟨oa, oc, rfl, h1, h2, h3⟩ := HO.out.bits
      clear hdiv hk64 hb hu0 h3
      go_wp2_with (first | (at_builtin; refine wpList_append_bits _ rfl (.tmp 7) (.tmp 11) 28 rfl Tryz.underlying28 s _ (Bt.fb k n) rfl (HO.out.alloc _) (some ⟨wr.heap.size, 0, none⟩) 1 1 b.toNat rfl (bitsAt_new wr b _ rfl) (by rw [Bt.fb_length]; omega) (by have := HZ.out; simp; omega) ?_; intro v' w3 hown hgr _; have HO3 := Lib.hid (hown.snoc HBB.out); have HB3 := Lib.hid (below_app HB.out HO.out hgr HZ.out); clear hown hgr))
      rw [show ((u : Int) / 2) = ((n / 2 ^ (k + 1) : Nat) : Int) by rw [← HD.out]; omega]
      go_roundw
      case rel => exact ⟨k + 1, hk64', rfl, HK2.out, HO3.out, HB3.out.1, HB3.out.2⟩
      case measure => simp only [intOf]; rw [← HD.out]; omega

set_option maxRecDepth 100000 in
set_option maxHeartbeats 1000000 in
theorem bcmp_any (v u : Value) (n m : Nat) (w : World) (h : BN w v n) (h' : BN w u m) :
    Calls Tryz.prog 57 #[v, u] w fun e w' => e = .returned (.int .i64 (cmpNat n m)) ∧ Below w.heap.size w w' := by
  obtain ⟨a, cap, rfl, h1, h2, h3, h4⟩ := h
  obtain ⟨a', cap', rfl, h1', h2', h3', h4'⟩ := h'
  obtain ⟨k, hk⟩ : ∃ k, Bt.len n = k := ⟨_, rfl⟩
  obtain ⟨k', hk'⟩ : ∃ k, Bt.len m = k := ⟨_, rfl⟩
  have HK := Lib.hid hk
  have HK' := Lib.hid hk'
  rw [hk] at h1 h3 h4 ⊢
  rw [hk'] at h1' h3' h4' ⊢
  have hk1 : (k : Int) ≤ 1000 := by omega
  have hkc : (k : Int) ≤ cap := by omega
  have hk1' : (k' : Int) ≤ 1000 := by omega
  have hkc' : (k' : Int) ≤ cap' := by omega
  have H3 := Lib.hid h3
  have H3' := Lib.hid h3'
  clear h1 h2 h3 h4 h1' h2' h3' h4' hk hk'
  by_cases hlt : (k : Int) < k'
  · have HR : Hid (cmpNat n m = -1) := by
      show _ = _
      have := Bt.len_lt (n := n) (m := m) (by rw [HK.out, HK'.out]; omega)
      unfold cmpNat; rw [if_pos this]
    rw [HR.out]
    go_enter Tryz.func57, Tryz.ntmps57
    go_wp2_with fail
    go_ret
    exact ⟨rfl, Below.refl _ _⟩
  by_cases hgt : (k' : Int) < k
  · have HR : Hid (cmpNat n m = 1) := by
      show _ = _
      have := Bt.len_lt (n := m) (m := n) (by rw [HK.out, HK'.out]; omega)
      unfold cmpNat; rw [if_neg (by omega), if_pos this]
    rw [HR.out]
    go_enter Tryz.func57, Tryz.ntmps57
    go_wp2_with fail
    go_ret
    exact ⟨rfl, Below.refl _ _⟩
  obtain rfl : k' = k := by omega
  clear hlt hgt
  have HTOP : Hid (n / 2 ^ k' = m / 2 ^ k') := by
    show _ = _
    rw [Nat.div_eq_of_lt (by rw [← HK.out]; exact Bt.lt_len n), Nat.div_eq_of_lt (by rw [← HK'.out]; exact Bt.lt_len m)]
  go_enter Tryz.func57, Tryz.ntmps57
  go_wp2_with fail
  go_loopw [5] (fun iv wr => ∃ j : Nat, j ≤ k' ∧ iv = .int .i64 ((j : Int) - 1) ∧ Hid (n / 2 ^ j = m / 2 ^ j) ∧ Hid (Below w.heap.size w wr)) (fun iv _ => ((intOf iv) + 1).toNat)
  case atStart => exact ⟨k', Nat.le_refl _, rfl, HTOP.out, Below.refl _ _⟩
  case round =>
    clear HTOP
    obtain ⟨j, hj, rfl, HJ, HB⟩ := hrel
    by_cases hj0 : j = 0
    · subst hj0
      have HR : Hid (cmpNat n m = 0) := by
        show _ = _
        have := HJ.out
        simp at this
        rw [this]; unfold cmpNat; simp
      go_wp2_with fail
      go_ret
      rw [HR.out]
      exact ⟨rfl, HB.out⟩
    · obtain ⟨i, rfl⟩ : ∃ i, j = i + 1 := ⟨j - 1, by omega⟩
      rw [show (((i + 1 : Nat) : Int) - 1) = (i : Int) by omega]
      obtain ⟨ad, rfl, _, cx⟩ := (H3.out.below HB.out) i (by omega)
      obtain ⟨ad', rfl, _, cy⟩ := (H3'.out.below HB.out) i (by omega)
      obtain ⟨x, hx⟩ : ∃ b, n.testBit i = b := ⟨_, rfl⟩
      obtain ⟨y, hy⟩ : ∃ b, m.testBit i = b := ⟨_, rfl⟩
      rw [hx] at cx
      rw [hy] at cy
      have HX := Lib.hid hx
      have HY := Lib.hid hy
      have b0 : (0 : Int) ≤ (i : Int) := by omega
      have b1 : (i : Int) < (k' : Int) := by omega
      have b2 : (i : Int) ≤ (cap : Int) := by omega
      have b3 : (i : Int) ≤ (cap' : Int) := by omega
      clear hx hy hj0
      cases x <;> cases y
      · go_wp2_with fail
        go_region
        go_wp2_with fail
        go_roundw
        case rel => exact ⟨i, by omega, rfl, Bt.cmp_step HJ.out (HX.out.trans HY.out.symm), HB.out.drew⟩
        case measure => simp only [intOf]; omega
      · have HR : Hid (cmpNat n m = -1) := by
          show _ = _
          have := Bt.cmp_lt HJ.out HX.out HY.out
          unfold cmpNat; rw [if_pos this]
        go_wp2_with fail
        go_region
        go_wp2_with fail
        go_ret
        rw [HR.out]
        exact ⟨rfl, HB.out.drew⟩
      · have HR : Hid (cmpNat n m = 1) := by
          show _ = _
          have := Bt.cmp_lt HJ.out.symm HY.out HX.out
          unfold cmpNat; rw [if_neg (by omega), if_pos this]
        go_wp2_with fail
        go_region
        go_wp2_with fail
        go_ret
        rw [HR.out]
        exact ⟨rfl, HB.out.drew⟩
      · go_wp2_with fail
        go_region
        go_wp2_with fail
        go_roundw
        case rel => exact ⟨i, by omega, rfl, Bt.cmp_step HJ.out (HX.out.trans HY.out.symm), HB.out.drew⟩
        case measure => simp only [intOf]; omega
end Go.Proofs.YthefednendgclaaGreat
/-
  The document's numbers, one contract each: the sum, the difference, shifted, the product.
-/
namespace Go.Proofs.YthefednendgclaaGreat
open Go Go.RowKit Sac

theorem toNat_le (b : Bool) : b.toNat ≤ 1 := by cases b <;> decide

set_option maxRecDepth 100000 in
set_option maxHeartbeats 2000000 in
theorem badd_any (v u : Value) (x y : Nat) (w : World) (h : BN w v x) (h' : BN w u y) (hm : Bt.len (x + y) ≤ 1000) :
    Calls Tryz.prog 100 #[v, u] w (RetB (x + y) w) := by
  obtain ⟨s, hs⟩ : ∃ s, s = w.heap.size := ⟨_, rfl⟩
  have HS := Lib.hid hs
  have HX := Lib.hid h
  have HY := Lib.hid h'
  obtain ⟨a, cap, rfl, h1, h2, h3, h4⟩ := h
  obtain ⟨a', cap', rfl, h1', h2', h3', h4'⟩ := h'
  obtain ⟨lx, hlx⟩ : ∃ k, Bt.len x = k := ⟨_, rfl⟩
  obtain ⟨ly, hly⟩ : ∃ k, Bt.len y = k := ⟨_, rfl⟩
  have HLX := Lib.hid hlx
  have HLY := Lib.hid hly
  rw [hlx] at h1 h3 h4 HX ⊢
  rw [hly] at h1' h3' h4' HY ⊢
  have hk1 : (lx : Int) ≤ 1000 := by omega
  have hk1' : (ly : Int) ≤ 1000 := by omega
  have HM := Lib.hid hm
  clear h1 h2 h3 h4 h1' h2' h3' h4' hlx hly hm
  go_enter Tryz.func100, Tryz.ntmps100
  go_wp2_with fail
  rw [← hs]
  have HO : Hid (OwnB (w.alloc (Obj.cells #[] 4)) s (.slice (some ⟨s, 0, none⟩) 0 0) (Bt.fb 0 (x + y))) := OwnB.nil0 w s _ hs
  have HB : Hid (Below s w (w.alloc (Obj.cells #[] 4))) := by rw [hs]; exact (Below.refl _ w).alloc (Nat.le_refl _) _
  have HZ : Hid (s ≤ (w.alloc (Obj.cells #[] 4)).heap.size) := by show _ ≤ _; rw [hs]; simp
  clear hs
  generalize w.alloc (Obj.cells #[] 4) = w1 at HO HB HZ ⊢
  go_loopw [5, 6, 7] (fun ov cv iv wr => ∃ k c : Nat, k ≤ 1001 ∧ c ≤ 1 ∧ iv = .int .i64 (k : Int) ∧ cv = .int .i64 (c : Int) ∧ Hid (x % 2 ^ k + y % 2 ^ k = (x + y) % 2 ^ k + 2 ^ k * c) ∧ Hid (OwnB wr s ov (Bt.fb k (x + y))) ∧ Hid (Below s w wr) ∧ Hid (s ≤ wr.heap.size) ∧ Hid (k ≤ max lx ly ∨ (k = max lx ly + 1 ∧ c = 0))) (fun _ _ iv _ => (1002 - intOf iv).toNat)
  case atStart => exact ⟨0, 0, by omega, by omega, rfl, rfl, (by show _ = _; simp [Nat.mod_one]), HO.out, HB.out, HZ.out, .inl (Nat.zero_le _)⟩
  case round =>
    clear HO HB HZ
    obtain ⟨k, c, hk, hc, rfl, rfl, HE, HO, HB, HZ, HMX⟩ := hrel
    have HBW : Hid (Below w.heap.size w wr) := HS.out ▸ HB.out
    obtain ⟨oa, oc, rfl, o1, o2, o3⟩ := HO.out.bits
    have HO3' := Lib.hid o3
    clear o3
    by_cases hend : ¬ k < lx ∧ ¬ k < ly ∧ c = 0
    · obtain ⟨e1, e2, rfl⟩ := hend
      have i1 : ¬ (k : Int) < lx := by omega
      have i2 : ¬ (k : Int) < ly := by omega
      have hlt := Bt.add_end (x := x) (y := y) (i := k) (by rw [HLX.out]; omega) (by rw [HLY.out]; omega) HE.out
      have hln := Bt.len_le hlt
      have HLN := Lib.hid hln
      clear hlt hln e1 e2
      go_wp2_with fail
      refine (btrim_any oa k oc (x + y) wr HO3'.out HLN.out (by omega) o2 (by omega) HM.out).mono ?_
      rintro e w2 ⟨z, rfl, hz, hb2⟩
      have HZZ := Lib.hid hz
      have HB2 := Lib.hid (HB.out.trans (hb2.mono HZ.out))
      clear hz hb2
      go_wp2_with fail
      go_ret
      exact ⟨_, rfl, HZZ.out, HS.out ▸ HB2.out⟩
    · obtain ⟨p, hp⟩ : ∃ p, (x.testBit k).toNat = p := ⟨_, rfl⟩
      obtain ⟨q, hq⟩ : ∃ q, (y.testBit k).toNat = q := ⟨_, rfl⟩
      have hp1 : p ≤ 1 := hp ▸ toNat_le _
      have hq1 : q ≤ 1 := hq ▸ toNat_le _
      have hst := Bt.add_step HE.out (s := p + q + c) (by rw [hp, hq])
      obtain ⟨b, hb⟩ : ∃ b, (x + y).testBit k = b := ⟨_, rfl⟩
      have hbit : (((p : Int) + q + c) % 2 == 1) = b := by
        rw [← hb, hst.1]
        have e : ((p : Int) + q + c) % 2 = (((p + q + c) % 2 : Nat) : Int) := by omega
        rw [e]
        rcases Nat.mod_two_eq_zero_or_one (p + q + c) with h | h <;> rw [h] <;> rfl
      have HP := Lib.hid hp
      have HQ := Lib.hid hq
      have HBB := Lib.hid hb
      have HE2 := Lib.hid hst.2
      have hmx : k + 1 ≤ max lx ly ∨ (k + 1 = max lx ly + 1 ∧ (p + q + c) / 2 = 0) := by
        have hm0 := HMX.out
        rcases Nat.lt_or_ge k (max lx ly) with h | h
        · exact .inl h
        · refine .inr ⟨?_, ?_⟩
          · rcases hm0 with h1 | h1
            · omega
            · omega
          · have e1 : p = 0 := by rw [← hp, Bt.over (by rw [HLX.out]; omega)]; rfl
            have e2 : q = 0 := by rw [← hq, Bt.over (by rw [HLY.out]; omega)]; rfl
            omega
      have HM2 := Lib.hid hmx
      have hkk : k ≤ 1000 := by have := HMX.out; omega
      clear hp hq hb hst hmx
      by_cases c1 : (k : Int) < lx
      · skip
        go_wp2_with fail
        refine (bat_any (.slice a lx cap) x k wr (HX.out.below HBW.out) (by omega)).mono ?_
        rw [HP.out]
        rintro e w2 ⟨rfl, hb2⟩
        have HO2 := Lib.hid (HO.out.below hb2)
        have HB2 := Lib.hid (HB.out.trans (hb2.mono HZ.out))
        have HZ2 := Lib.hid (Nat.le_trans HZ.out hb2.size)
        clear hb2
        go_wp2_with fail
        refine (bat_any (.slice a' ly cap') y k w2 (HY.out.below (HS.out ▸ HB2.out)) (by omega)).mono ?_
        rw [HQ.out]
        rintro e w3 ⟨rfl, hb3⟩
        have HO3 := Lib.hid (HO2.out.below hb3)
        have HB3 := Lib.hid (HB2.out.trans (hb3.mono HZ2.out))
        have HZ3 := Lib.hid (Nat.le_trans HZ2.out hb3.size)
        clear hb3 HO2 HB2 HZ2
        go_wp2_with (first | (at_builtin; refine wpList_append_bits _ rfl (.tmp 35) (.tmp 39) 28 rfl Tryz.underlying28 s _ (Bt.fb k (x + y)) rfl (HO3.out.alloc _) (some ⟨w3.heap.size, 0, none⟩) 1 1 b.toNat rfl (bitsAt_new w3 b _ rfl) (by rw [Bt.fb_length]; omega) (by have := HZ3.out; simp; omega) ?_; intro v' w4 hown hgr _; have HO4 := Lib.hid (hown.snoc HBB.out); have HB4 := Lib.hid (below_app HB3.out HO3.out hgr HZ3.out); clear hown hgr))
        go_roundw
        case rel => exact ⟨k + 1, (p + q + c) / 2, by omega, by omega, by go_num, by go_num, HE2.out, HO4.out, HB4.out.1, HB4.out.2, HM2.out⟩
        case measure => simp only [intOf]; omega
      · by_cases c2 : (k : Int) < ly
        · skip
          go_wp2_with fail
          refine (bat_any (.slice a lx cap) x k wr (HX.out.below HBW.out) (by omega)).mono ?_
          rw [HP.out]
          rintro e w2 ⟨rfl, hb2⟩
          have HO2 := Lib.hid (HO.out.below hb2)
          have HB2 := Lib.hid (HB.out.trans (hb2.mono HZ.out))
          have HZ2 := Lib.hid (Nat.le_trans HZ.out hb2.size)
          clear hb2
          go_wp2_with fail
          refine (bat_any (.slice a' ly cap') y k w2 (HY.out.below (HS.out ▸ HB2.out)) (by omega)).mono ?_
          rw [HQ.out]
          rintro e w3 ⟨rfl, hb3⟩
          have HO3 := Lib.hid (HO2.out.below hb3)
          have HB3 := Lib.hid (HB2.out.trans (hb3.mono HZ2.out))
          have HZ3 := Lib.hid (Nat.le_trans HZ2.out hb3.size)
          clear hb3 HO2 HB2 HZ2
          go_wp2_with (first | (at_builtin; refine wpList_append_bits _ rfl (.tmp 35) (.tmp 39) 28 rfl Tryz.underlying28 s _ (Bt.fb k (x + y)) rfl (HO3.out.alloc _) (some ⟨w3.heap.size, 0, none⟩) 1 1 b.toNat rfl (bitsAt_new w3 b _ rfl) (by rw [Bt.fb_length]; omega) (by have := HZ3.out; simp; omega) ?_; intro v' w4 hown hgr _; have HO4 := Lib.hid (hown.snoc HBB.out); have HB4 := Lib.hid (below_app HB3.out HO3.out hgr HZ3.out); clear hown hgr))
          go_roundw
          case rel => exact ⟨k + 1, (p + q + c) / 2, by omega, by omega, by go_num, by go_num, HE2.out, HO4.out, HB4.out.1, HB4.out.2, HM2.out⟩
          case measure => simp only [intOf]; omega
        · have c3 : (0 : Int) < (c : Int) := by omega
          go_wp2_with fail
          refine (bat_any (.slice a lx cap) x k wr (HX.out.below HBW.out) (by omega)).mono ?_
          rw [HP.out]
          rintro e w2 ⟨rfl, hb2⟩
          have HO2 := Lib.hid (HO.out.below hb2)
          have HB2 := Lib.hid (HB.out.trans (hb2.mono HZ.out))
          have HZ2 := Lib.hid (Nat.le_trans HZ.out hb2.size)
          clear hb2
          go_wp2_with fail
          refine (bat_any (.slice a' ly cap') y k w2 (HY.out.below (HS.out ▸ HB2.out)) (by omega)).mono ?_
          rw [HQ.out]
          rintro e w3 ⟨rfl, hb3⟩
          have HO3 := Lib.hid (HO2.out.below hb3)
          have HB3 := Lib.hid (HB2.out.trans (hb3.mono HZ2.out))
          have HZ3 := Lib.hid (Nat.le_trans HZ2.out hb3.size)
          clear hb3 HO2 HB2 HZ2
          go_wp2_with (first | (at_builtin; refine wpList_append_bits _ rfl (.tmp 35) (.tmp 39) 28 rfl Tryz.underlying28 s _ (Bt.fb k (x + y)) rfl (HO3.out.alloc _) (some ⟨w3.heap.size, 0, none⟩) 1 1 b.toNat rfl (bitsAt_new w3 b _ rfl) (by rw [Bt.fb_length]; omega) (by have := HZ3.out; simp; omega) ?_; intro v' w4 hown hgr _; have HO4 := Lib.hid (hown.snoc HBB.out); have HB4 := Lib.hid (below_app HB3.out HO3.out hgr HZ3.out); clear hown hgr))
          go_roundw
          case rel => exact ⟨k + 1, (p + q + c) / 2, by omega, by omega, by go_num, by go_num, HE2.out, HO4.out, HB4.out.1, HB4.out.2, HM2.out⟩
          case measure => simp only [intOf]; omega


set_option maxRecDepth 100000 in
set_option maxHeartbeats 2000000 in
theorem bsubF_any (v u : Value) (x y : Nat) (w : World) (h : BN w v x) (h' : BN w u y) (hyx : y ≤ x) :
    Calls Tryz.prog 128 #[v, u] w (RetBF (x - y) w) := by
  obtain ⟨s, hs⟩ : ∃ s, s = w.heap.size := ⟨_, rfl⟩
  have HS := Lib.hid hs
  have HX := Lib.hid h
  have HY := Lib.hid h'
  obtain ⟨a, cap, rfl, h1, h2, h3, h4⟩ := h
  obtain ⟨a', cap', rfl, h1', h2', h3', h4'⟩ := h'
  obtain ⟨lx, hlx⟩ : ∃ k, Bt.len x = k := ⟨_, rfl⟩
  obtain ⟨ly, hly⟩ : ∃ k, Bt.len y = k := ⟨_, rfl⟩
  have HLX := Lib.hid hlx
  have HYX := Lib.hid hyx
  rw [hlx] at h1 h3 h4 HX ⊢
  rw [hly] at h1' h3' h4' HY ⊢
  have hk1 : (lx : Int) ≤ 1000 := by omega
  have hk1' : (ly : Int) ≤ 1000 := by omega
  have hln : Bt.len (x - y) ≤ lx := by rw [← hlx]; exact Bt.len_mono (Nat.sub_le _ _)
  have HLN := Lib.hid hln
  clear h1 h2 h3 h4 h1' h2' h3' h4' hlx hly hyx hln
  go_enter Tryz.func128, Tryz.ntmps128
  go_wp2_with fail
  rw [← hs]
  have HO : Hid (OwnB (w.alloc (Obj.cells #[] 4)) s (.slice (some ⟨s, 0, none⟩) 0 0) (Bt.fb 0 (x - y))) := OwnB.nil0 w s _ hs
  have HB : Hid (Below s w (w.alloc (Obj.cells #[] 4))) := by rw [hs]; exact (Below.refl _ w).alloc (Nat.le_refl _) _
  have HZ : Hid (s ≤ (w.alloc (Obj.cells #[] 4)).heap.size) := by show _ ≤ _; rw [hs]; simp
  clear hs
  generalize w.alloc (Obj.cells #[] 4) = w1 at HO HB HZ ⊢
  go_loopw [5, 6, 7] (fun ov cv iv wr => ∃ k c : Nat, k ≤ lx ∧ c ≤ 1 ∧ iv = .int .i64 (k : Int) ∧ cv = .int .i64 (c : Int) ∧ Hid ((x - y) % 2 ^ k + y % 2 ^ k = x % 2 ^ k + 2 ^ k * c) ∧ Hid (OwnB wr s ov (Bt.fb k (x - y))) ∧ Hid (Below s w wr) ∧ Hid (s ≤ wr.heap.size)) (fun _ _ iv _ => (lx - intOf iv).toNat)
  case atStart => exact ⟨0, 0, by omega, by omega, rfl, rfl, (by show _ = _; simp [Nat.mod_one]), HO.out, HB.out, HZ.out⟩
  case round =>
    clear HO HB HZ
    obtain ⟨k, c, hk, hc, rfl, rfl, HE, HO, HB, HZ⟩ := hrel
    have HBW : Hid (Below w.heap.size w wr) := HS.out ▸ HB.out
    obtain ⟨oa, oc, rfl, o1, o2, o3, o4⟩ := HO.out.bitsF
    have HO3' := Lib.hid o3
    have HO4' := Lib.hid o4
    clear o3 o4
    by_cases c1 : (k : Int) < lx
    · obtain ⟨p, hp⟩ : ∃ p, (x.testBit k).toNat = p := ⟨_, rfl⟩
      obtain ⟨q, hq⟩ : ∃ q, (y.testBit k).toNat = q := ⟨_, rfl⟩
      have hp1 : p ≤ 1 := hp ▸ toNat_le _
      have hq1 : q ≤ 1 := hq ▸ toNat_le _
      obtain ⟨d, hd⟩ : ∃ d : Int, (p : Int) - q - c = d := ⟨_, rfl⟩
      have hst := Bt.sub_step HYX.out HE.out (d := d) (by rw [hp, hq]; exact hd.symm) hc
      have hd1 : -2 ≤ d := by omega
      have hd2 : d ≤ 1 := by omega
      obtain ⟨b, hb⟩ : ∃ b, (x - y).testBit k = b := ⟨_, rfl⟩
      rw [hb] at hst
      have HP := Lib.hid hp
      have HQ := Lib.hid hq
      have HBB := Lib.hid hb
      clear hp hq hb
      by_cases hdn : d < 0
      · rw [if_pos hdn] at hst
        have hbit := hst.1.symm
        have HE2 := Lib.hid hst.2
        clear hst
        go_wp2_with fail
        refine (bat_any (.slice a lx cap) x k wr (HX.out.below HBW.out) (by omega)).mono ?_
        rw [HP.out]
        rintro e w2 ⟨rfl, hb2⟩
        have HO2 := Lib.hid (HO.out.below hb2)
        have HB2 := Lib.hid (HB.out.trans (hb2.mono HZ.out))
        have HZ2 := Lib.hid (Nat.le_trans HZ.out hb2.size)
        clear hb2
        go_wp2_with fail
        refine (bat_any (.slice a' ly cap') y k w2 (HY.out.below (HS.out ▸ HB2.out)) (by omega)).mono ?_
        rw [HQ.out]
        rintro e w3 ⟨rfl, hb3⟩
        have HO3 := Lib.hid (HO2.out.below hb3)
        have HB3 := Lib.hid (HB2.out.trans (hb3.mono HZ2.out))
        have HZ3 := Lib.hid (Nat.le_trans HZ2.out hb3.size)
        clear hb3 HO2 HB2 HZ2
        go_wp2_with (first | (at_builtin; refine wpList_append_bits _ rfl (.tmp 29) (.tmp 32) 28 rfl Tryz.underlying28 s _ (Bt.fb k (x - y)) rfl (HO3.out.alloc _) (some ⟨w3.heap.size, 0, none⟩) 1 1 b.toNat rfl (bitsAt_new w3 b _ rfl) (by rw [Bt.fb_length]; omega) (by have := HZ3.out; simp; omega) ?_; intro v' w4 hown hgr _; have HO4 := Lib.hid (hown.snoc HBB.out); have HB4 := Lib.hid (below_app HB3.out HO3.out hgr HZ3.out); clear hown hgr))
        go_roundw
        case rel => exact ⟨k + 1, 1, by omega, by omega, by go_num, rfl, HE2.out, HO4.out, HB4.out.1, HB4.out.2⟩
        case measure => simp only [intOf]; omega
      · rw [if_neg hdn] at hst
        have hbit := hst.1.symm
        have HE2 := Lib.hid hst.2
        clear hst
        go_wp2_with fail
        refine (bat_any (.slice a lx cap) x k wr (HX.out.below HBW.out) (by omega)).mono ?_
        rw [HP.out]
        rintro e w2 ⟨rfl, hb2⟩
        have HO2 := Lib.hid (HO.out.below hb2)
        have HB2 := Lib.hid (HB.out.trans (hb2.mono HZ.out))
        have HZ2 := Lib.hid (Nat.le_trans HZ.out hb2.size)
        clear hb2
        go_wp2_with fail
        refine (bat_any (.slice a' ly cap') y k w2 (HY.out.below (HS.out ▸ HB2.out)) (by omega)).mono ?_
        rw [HQ.out]
        rintro e w3 ⟨rfl, hb3⟩
        have HO3 := Lib.hid (HO2.out.below hb3)
        have HB3 := Lib.hid (HB2.out.trans (hb3.mono HZ2.out))
        have HZ3 := Lib.hid (Nat.le_trans HZ2.out hb3.size)
        clear hb3 HO2 HB2 HZ2
        go_wp2_with (first | (at_builtin; refine wpList_append_bits _ rfl (.tmp 29) (.tmp 32) 28 rfl Tryz.underlying28 s _ (Bt.fb k (x - y)) rfl (HO3.out.alloc _) (some ⟨w3.heap.size, 0, none⟩) 1 1 b.toNat rfl (bitsAt_new w3 b _ rfl) (by rw [Bt.fb_length]; omega) (by have := HZ3.out; simp; omega) ?_; intro v' w4 hown hgr _; have HO4 := Lib.hid (hown.snoc HBB.out); have HB4 := Lib.hid (below_app HB3.out HO3.out hgr HZ3.out); clear hown hgr))
        go_roundw
        case rel => exact ⟨k + 1, 0, by omega, by omega, by go_num, rfl, HE2.out, HO4.out, HB4.out.1, HB4.out.2⟩
        case measure => simp only [intOf]; omega
    · have hk' : k = lx := by omega
      subst hk'
      go_wp2_with fail
      refine (btrimF_any oa k oc (x - y) wr HO3'.out HLN.out (by omega) o2 (by omega) (by have := HLN.out; omega)).mono ?_
      rintro e w2 ⟨rfl, hb2, hz⟩
      have HZZ := Lib.hid hz
      have HB2 := Lib.hid (HB.out.trans (hb2.mono HZ.out))
      clear hz hb2
      go_wp2_with fail
      go_ret
      exact ⟨.slice oa (Bt.len (x - y)) oc, rfl, HZZ.out, HS.out ▸ HB2.out, own_ge (HS.out ▸ HO4'.out)⟩

theorem bsub_any (v u : Value) (x y : Nat) (w : World) (h : BN w v x) (h' : BN w u y) (hyx : y ≤ x) :
    Calls Tryz.prog 128 #[v, u] w (RetB (x - y) w) := (bsubF_any v u x y w h h' hyx).mono fun _ _ h => h.ret

set_option maxRecDepth 100000 in
set_option maxHeartbeats 2000000 in
theorem bshift_any (v : Value) (x t : Nat) (w : World) (h : BN w v x) (ht : (t : Int) ≤ 1000) (hm : Bt.len (x * 2 ^ t) ≤ 1000) :
    Calls Tryz.prog 130 #[v, .int .i64 (t : Int)] w (RetB (x * 2 ^ t) w) := by
  obtain ⟨a, cap, rfl, h1, h2, h3, h4⟩ := h
  obtain ⟨s, hs⟩ : ∃ s, s = w.heap.size := ⟨_, rfl⟩
  have HS := Lib.hid hs
  rcases Nat.eq_zero_or_pos x with h0 | hx
  · subst h0
    have e0 : Bt.len 0 = 0 := rfl
    have ez : 0 * 2 ^ t = 0 := Nat.zero_mul _
    rw [ez]
    rw [e0] at h1 h3 h4 ⊢
    have HE0 := Lib.hid e0
    clear e0 ez h3 hm
    go_enter Tryz.func130, Tryz.ntmps130
    go_wp2_with fail
    go_ret
    exact ⟨_, rfl, BN.mk' (BitsAt.zero _ _ _) rfl (Nat.le_refl _) (by decide) (by decide), (Below.refl _ w).alloc (Nat.le_refl _) _⟩
  · obtain ⟨k, hk⟩ : ∃ k, Bt.len x = k := ⟨_, rfl⟩
    have hk0 : 0 < k := hk ▸ Bt.len_pos hx
    have HK := Lib.hid hk
    have HX := Lib.hid hx
    have HM := Lib.hid hm
    rw [hk] at h1 h3 h4 ⊢
    have H3 := Lib.hid h3
    have e1 : ((k : Int) == 0) = false := by rw [beq_eq_false_iff_ne]; omega
    clear hk hx hm h3
    go_enter Tryz.func130, Tryz.ntmps130
    go_wp2_with first | fail | (refine wpList_make_blk _ rfl _ _ _ rfl 4 (.bool false) 1 Tryz.underlying28 Tryz.infoBool rfl _ _ _ _ t rfl rfl rfl rfl (by omega) (by unfold maxLen; omega) ?_)
    intro w3 hB3 hb3
    rw [← hs] at hB3 ⊢
    have HO3 : Hid (OwnB w3 s (.slice (some ⟨s, 0, none⟩) t t) (List.replicate t false)) := by
      show w3.ownsRow _ _ _ _ _ _
      rw [List.length_replicate, List.map_replicate]
      exact own_intro (rest := []) (Nat.le_refl s) (by rw [List.append_nil]; exact hB3) (Nat.le_refl t) (by unfold maxLen; omega) (by simp) (by simp)
    have HB3 := Lib.hid hb3
    have HSZ : Hid (s ≤ w3.heap.size) := by show _ ≤ _; have := hb3.size; omega
    have HD3 := Lib.hid (H3.out.below hb3)
    clear hB3 hb3
    go_wp2_with (first | (at_builtin; refine wpList_append_bits _ rfl (.tmp 10) (.tmp 11) 28 rfl Tryz.underlying28 s _ (List.replicate t false) rfl HO3.out a k cap x rfl HD3.out (by rw [List.length_replicate]; omega) HSZ.out ?_; intro v' w4 hown hgr hfr; have HO4 := Lib.hid hown; have HG4 := Lib.hid hgr; clear hown hgr hfr))
    go_ret
    have he : List.replicate t false ++ Bt.fb k x = Bt.bits (x * 2 ^ t) := by rw [← Bt.shift_bits HX.out]; unfold Bt.bits; rw [HK.out]
    have h5 := HO4.out
    rw [he] at h5
    obtain ⟨oa, oc, rfl, o1, o2, o3⟩ := h5.bits
    exact ⟨_, rfl, BN.mk' o3 rfl o1 o2 HM.out, HS.out ▸ below_grown (HS.out ▸ HB3.out) HG4.out (fun k hk => (HO3.out.lt hk).1) HSZ.out⟩
end Go.Proofs.YthefednendgclaaGreat
/-
  The document's numbers, one contract each: the product, quotient and rest.
-/
namespace Go.Proofs.YthefednendgclaaGreat
open Go Go.RowKit Sac

set_option maxRecDepth 100000 in
set_option maxHeartbeats 2000000 in
theorem bmul_any (v u : Value) (x y : Nat) (w : World) (h : BN w v x) (h' : BN w u y) (hm : Bt.len (x * y) ≤ 1000) :
    Calls Tryz.prog 101 #[v, u] w (RetB (x * y) w) := by
  obtain ⟨s, hs⟩ : ∃ s, s = w.heap.size := ⟨_, rfl⟩
  have HS := Lib.hid hs
  have HX := Lib.hid h
  have HY := Lib.hid h'
  obtain ⟨a, cap, rfl, h1, h2, h3, h4⟩ := h
  obtain ⟨a', cap', rfl, h1', h2', h3', h4'⟩ := h'
  obtain ⟨lx, hlx⟩ : ∃ k, Bt.len x = k := ⟨_, rfl⟩
  obtain ⟨ly, hly⟩ : ∃ k, Bt.len y = k := ⟨_, rfl⟩
  have HLY := Lib.hid hly
  rw [hlx] at h1 h3 h4 HX ⊢
  rw [hly] at h1' h3' h4' HY ⊢
  have H3' := Lib.hid h3'
  have hk1' : (ly : Int) ≤ 1000 := by omega
  have hkc' : (ly : Int) ≤ cap' := by omega
  have HM := Lib.hid hm
  clear h1 h2 h3 h4 h1' h2' h3' h4' hlx hly hm
  go_enter Tryz.func101, Tryz.ntmps101
  go_wp2_with fail
  rw [← hs]
  have HB : Hid (Below s w (w.alloc (Obj.cells #[] 4))) := by rw [hs]; exact (Below.refl _ w).alloc (Nat.le_refl _) _
  have HZ : Hid (s ≤ (w.alloc (Obj.cells #[] 4)).heap.size) := by show _ ≤ _; rw [hs]; simp
  clear hs
  generalize w.alloc (Obj.cells #[] 4) = w1 at HB HZ ⊢
  go_loopw [5, 11] (fun ov iv wr => ∃ k : Nat, k ≤ ly ∧ iv = .int .i64 (k : Int) ∧ Hid (BN wr ov (x * (y % 2 ^ k))) ∧ Hid (Below s w wr) ∧ Hid (s ≤ wr.heap.size)) (fun _ iv _ => (ly - intOf iv).toNat)
  case atStart => exact ⟨0, Nat.zero_le _, rfl, (by rw [Nat.pow_zero, Nat.mod_one, Nat.mul_zero]; exact BN.mk' (BitsAt.zero _ _ _) rfl (Nat.le_refl _) (by decide) (by decide)), HB.out, HZ.out⟩
  case round =>
    clear HB HZ
    obtain ⟨k, hk, rfl, HO, HB, HZ⟩ := hrel
    by_cases c1 : (k : Int) < ly
    · obtain ⟨ad, rfl, _, cy⟩ := H3'.out.below (HS.out ▸ HB.out) k (by omega)
      obtain ⟨b, hb⟩ : ∃ b, y.testBit k = b := ⟨_, rfl⟩
      rw [hb] at cy
      have hst := Bt.mul_step x y k
      rw [hb] at hst
      cases b
      · have hst' : x * (y % 2 ^ (k + 1)) = x * (y % 2 ^ k) := by rw [hst]; simp
        have HST := Lib.hid hst'
        clear hst hst' hb
        go_wp2_with fail
        go_roundw
        case rel => exact ⟨k + 1, by omega, by go_num, HST.out.symm ▸ HO.out, HB.out, HZ.out⟩
        case measure => simp only [intOf]; omega
      · have hst' : x * (y % 2 ^ (k + 1)) = x * (y % 2 ^ k) + x * 2 ^ k := by rw [hst]; simp
        have hle : x * (y % 2 ^ (k + 1)) ≤ x * y := Nat.mul_le_mul_left _ (Nat.mod_le _ _)
        have hl1 : Bt.len (x * (y % 2 ^ k) + x * 2 ^ k) ≤ 1000 := Nat.le_trans (Bt.len_mono (hst' ▸ hle)) HM.out
        have hl2 : Bt.len (x * 2 ^ k) ≤ 1000 := Nat.le_trans (Bt.len_mono (Nat.le_add_left _ _)) hl1
        have HST := Lib.hid hst'
        have HL := Lib.hid (And.intro hl1 hl2)
        clear hst hst' hb hle hl1 hl2
        go_wp2_with fail
        refine (bshift_any (.slice a lx cap) x k wr (HX.out.below (HS.out ▸ HB.out)) (by omega) HL.out.2).mono ?_
        rintro e w2 ⟨z, rfl, hz, hb2⟩
        have HZZ := Lib.hid hz
        have HO2 := Lib.hid (HO.out.below hb2)
        have HB2 := Lib.hid (HB.out.trans (hb2.mono HZ.out))
        have HZ2 := Lib.hid (Nat.le_trans HZ.out hb2.size)
        clear hz hb2
        go_wp2_with fail
        refine (badd_any _ z _ _ w2 HO2.out HZZ.out HL.out.1).mono ?_
        rintro e w3 ⟨z', rfl, hz, hb3⟩
        have HZ3 := Lib.hid hz
        have HB3 := Lib.hid (HB2.out.trans (hb3.mono HZ2.out))
        have HW3 := Lib.hid (Nat.le_trans HZ2.out hb3.size)
        clear hz hb3
        go_wp2_with fail
        go_roundw
        case rel => exact ⟨k + 1, by omega, by go_num, HST.out.symm ▸ HZ3.out, HB3.out, HW3.out⟩
        case measure => simp only [intOf]; omega
    · have hk' : k = ly := by omega
      subst hk'
      go_wp2_with fail
      go_ret
      have hy : y % 2 ^ k = y := Nat.mod_eq_of_lt (by rw [← HLY.out]; exact Bt.lt_len y)
      exact ⟨_, rfl, hy ▸ HO.out, HS.out ▸ HB.out⟩

/-- Quotient and rest. -/
def DivB (x y : Nat) (w : World) (e : Ending) (w' : World) : Prop := ∃ v u, e = .returned (.tuple #[v, u]) ∧ BN w' v (x / y) ∧ BN w' u (x % y) ∧ Below w.heap.size w w'

set_option maxRecDepth 100000 in
set_option maxHeartbeats 4000000 in
theorem bdiv_any (v u : Value) (x y : Nat) (w : World) (h : BN w v x) (h' : BN w u y) (hy : 0 < y) (hy9 : Bt.len y ≤ 999) :
    Calls Tryz.prog 98 #[v, u] w (DivB x y w) := by
  obtain ⟨s, hs⟩ : ∃ s, s = w.heap.size := ⟨_, rfl⟩
  have HS := Lib.hid hs
  have HX := Lib.hid h
  have HY := Lib.hid h'
  obtain ⟨a, cap, rfl, h1, h2, h3, h4⟩ := h
  obtain ⟨a', cap', rfl, h1', h2', h3', h4'⟩ := h'
  obtain ⟨lx, hlx⟩ : ∃ k, Bt.len x = k := ⟨_, rfl⟩
  obtain ⟨ly, hly⟩ : ∃ k, Bt.len y = k := ⟨_, rfl⟩
  have HLX := Lib.hid hlx
  have HLY := Lib.hid hly
  have HYP := Lib.hid hy
  have HY9 := Lib.hid hy9
  rw [hlx] at h1 h3 h4 HX ⊢
  rw [hly] at h1' h3' h4' HY ⊢
  have H3 := Lib.hid h3
  have hk1 : (lx : Int) ≤ 1000 := by omega
  have hkc : (lx : Int) ≤ cap := by omega
  have hk1' : (ly : Int) ≤ 1000 := by omega
  have hkc' : (ly : Int) ≤ cap' := by omega
  clear h1 h2 h3 h4 h1' h2' h3' h4' hlx hly hy hy9
  go_enter Tryz.func98, Tryz.ntmps98
  go_wp2_with first | fail | (refine wpList_make_blk _ rfl _ _ _ rfl 4 (.bool false) 1 Tryz.underlying28 Tryz.infoBool rfl _ _ _ _ lx rfl rfl rfl rfl (by omega) (by unfold maxLen; omega) ?_)
  intro w3 hB3 hb3
  rw [← hs] at hB3 ⊢
  have HQ3 : Hid (Blk w3 s 4 ((Bt.fb lx (Bt.hi lx (x / y))).map .bool)) := by
    show Blk _ _ _ _
    rw [Bt.hi_top, Bt.fb_zero, List.map_replicate]
    · exact hB3
    · refine Nat.lt_of_le_of_lt (Nat.div_le_self _ _) ?_
      rw [← HLX.out]; exact Bt.lt_len x
  have HB3 : Hid (Below s w w3) := hs.symm ▸ hb3
  clear hB3 hb3 hs
  go_wp2_with fail
  have HQ4 := Lib.hid (HQ3.out.alloc (Obj.cells #[] 4))
  have HB4 := Lib.hid (HB3.out.alloc (Nat.le_of_lt HQ3.out.lt) (Obj.cells #[] 4))
  have hne : w3.heap.size ≠ s := Nat.ne_of_gt HQ3.out.lt
  have HNE := Lib.hid hne
  clear HQ3 HB3 hne
  generalize w3.alloc (Obj.cells #[] 4) = w4 at HQ4 HB4 ⊢
  go_loopw [7, 8] (fun rv0 iv wr => ∃ (j : Nat) (rv : Value), rv = rv0 ∧ j ≤ lx ∧ iv = .int .i64 ((j : Int) - 1) ∧ Hid (Blk wr s 4 ((Bt.fb lx (Bt.hi j (x / y))).map .bool)) ∧ Hid (BN wr rv (x / 2 ^ j % y)) ∧ Hid (rv.ownBlock ≠ some s) ∧ Hid (Below s w wr)) (fun _ iv _ => ((intOf iv) + 1).toNat)
  case atStart =>
    refine ⟨lx, _, rfl, Nat.le_refl _, rfl, HQ4.out, ?_, fun h => HNE.out (Option.some.inj h), HB4.out⟩
    have e : x / 2 ^ lx % y = 0 := by rw [Nat.div_eq_of_lt (by rw [← HLX.out]; exact Bt.lt_len x), Nat.zero_mod]
    rw [e]
    exact BN.mk' (BitsAt.zero _ _ _) rfl (Nat.le_refl _) (by decide) (by decide)
  case round =>
    clear HQ4 HB4
    obtain ⟨j, rv, rfl, hj, rfl, HQ, HR, HN, HB⟩ := hrel
    by_cases hj0 : j = 0
    · subst hj0
      have hq := HQ.out
      rw [Bt.hi_zero] at hq
      have HQ2 := Lib.hid (blk_bits hq)
      have HQL : Hid (Bt.len (x / y) ≤ lx) := by show _ ≤ _; rw [← HLX.out]; exact Bt.len_mono (Nat.div_le_self _ _)
      have HR2 : Hid (BN wr rv (x % y)) := by have := HR.out; simp at this; exact this
      clear hq HQ HR
      go_wp2_with fail
      refine (btrim_any (some ⟨s, 0, none⟩) lx lx (x / y) wr HQ2.out HQL.out (by omega) (by omega) (by omega) (by have := HQL.out; omega)).mono ?_
      rintro e w2 ⟨z, rfl, hz, hb2⟩
      have HZZ := Lib.hid hz
      have HR3 := Lib.hid (HR2.out.below hb2)
      have HB2 := Lib.hid (HB.out.trans (hb2.mono (by have := HB.out.size; have := HS.out; omega)))
      clear hz hb2
      go_wp2_with fail
      go_ret2
      exact ⟨z, rv, rfl, HZZ.out, HR3.out, HS.out ▸ HB2.out⟩
    · obtain ⟨i, rfl⟩ : ∃ i, j = i + 1 := ⟨j - 1, by omega⟩
      rw [show (((i + 1 : Nat) : Int) - 1) = (i : Int) by omega]
      obtain ⟨ad, rfl, _, cx⟩ := (H3.out.below (HS.out ▸ HB.out)) i (by omega)
      obtain ⟨b, hb⟩ : ∃ b, x.testBit i = b := ⟨_, rfl⟩
      rw [hb] at cx
      obtain ⟨r, hr⟩ : ∃ r, x / 2 ^ (i + 1) % y = r := ⟨_, rfl⟩
      have hqb := Bt.quo_bit (x := x) (i := i) HYP.out
      have hst := (Bt.div_step (x := x) (i := i) HYP.out).2
      rw [hr, hb] at hqb hst
      rw [hr] at HR
      have hry : r < y := hr ▸ Nat.mod_lt _ HYP.out
      have hlr : Bt.len r ≤ Bt.len y := Bt.len_mono (Nat.le_of_lt hry)
      have hlt : Bt.len (2 * r + b.toNat) ≤ Bt.len r + 1 := Bt.len_twice r b
      obtain ⟨t, ht⟩ : ∃ t, 2 * r + b.toNat = t := ⟨_, rfl⟩
      rw [ht] at hqb hst hlt
      have HT := Lib.hid ht
      have HQB := Lib.hid hqb
      have HST := Lib.hid hst
      have ht1000 : Bt.len t ≤ 1000 := by have := HY9.out; omega
      have HTL := Lib.hid ht1000
      have HLT := Lib.hid hlt
      have hlr1 : Bt.len r ≤ 999 := by have := HY9.out; omega
      have HLR := Lib.hid hlr1
      have hs1 : s < wr.heap.size := HQ.out.lt
      have hsW : s < wr.heap.size := hs1
      have hBW : Below wr.heap.size wr (wr.alloc (.cells #[.bool b] 4)) := (Below.refl _ wr).alloc (Nat.le_refl _) _
      have HO5 : Hid (OwnB (wr.alloc (.cells #[.bool b] 4)) wr.heap.size (.slice (some ⟨wr.heap.size, 0, none⟩) 1 1) [b]) := own_intro (rest := []) (Nat.le_refl _) (Blk.new' wr [.bool b] 4 wr.heap.size rfl) (Nat.le_refl 1) (by decide) rfl rfl
      have HQ5 := Lib.hid (HQ.out.alloc (Obj.cells #[.bool b] 4))
      have HB5 := Lib.hid (HB.out.alloc (Nat.le_of_lt hs1) (Obj.cells #[.bool b] 4))
      have hR5 := HR.out.below hBW
      obtain ⟨ra, rc, rfl, r1, r2, r3, r4⟩ := hR5
      have HR5 := Lib.hid r3
      have b0 : (0 : Int) ≤ (i : Int) := by omega
      have b1 : (i : Int) < (lx : Int) := by omega
      have b2 : (i : Int) ≤ (cap : Int) := by omega
      have HZ5 : Hid (wr.heap.size < (wr.alloc (Obj.cells #[Value.bool b] 4)).heap.size) := by show _ < _; simp
      clear hb hr hry hlr hlt ht hqb hst ht1000 hs1 hBW r1 r2 r3 r4 HQ HR HB hj0 hlr1
      go_wp2_with (first | (at_builtin; refine wpList_append_bits _ rfl (.tmp 24) (.tmp 25) 28 rfl Tryz.underlying28 wr.heap.size _ [b] rfl HO5.out ra (Bt.len r) rc r rfl HR5.out (by have := HLR.out; simp; omega) (Nat.le_of_lt HZ5.out) ?_; intro v' w6 hown hgr _; have HO6 := Lib.hid hown; have HG6 := Lib.hid hgr; clear hown hgr))
      have e6 : [b] ++ Bt.fb (Bt.len r) r = Bt.fb (Bt.len r + 1) t := by rw [← HT.out]; exact Bt.fb_cons _ _ _
      have h6 := HO6.out
      rw [e6] at h6
      obtain ⟨ta, tc, rfl, t1, t2, t3, t4⟩ := h6.bitsF
      have HT3 := Lib.hid t3
      have HT4 := Lib.hid t4
      have hg6 := HG6.out
      have HQ6 := Lib.hid (HQ5.out.same (hg6.block s HQ5.out.lt (by show some s ≠ some wr.heap.size; intro e; have := Option.some.inj e; omega)))
      have HB6 := Lib.hid (below_grown HB5.out hg6 (fun k hk => by have : wr.heap.size = k := Option.some.inj hk; omega) (by have := HZ5.out; omega))
      have tlk : ((Bt.len r + 1 : Nat) : Int) ≤ 100000 := by have := HLR.out; omega
      clear e6 h6 t3 t4 hg6 HO6 HG6 HQ5 HB5
      go_wp2_with fail
      refine (btrimF_any ta (Bt.len r + 1) tc t w6 HT3.out HLT.out (by omega) t2 tlk HTL.out).mono ?_
      rintro e w7 ⟨rfl, hb7, ht7⟩
      have HT7 := Lib.hid ht7
      have HQ7 := Lib.hid (HQ6.out.below hb7 HQ6.out.lt)
      have HB7 := Lib.hid (HB6.out.trans (hb7.mono (Nat.le_of_lt HQ6.out.lt)))
      have HN7 : Hid ((Value.slice ta (Bt.len t) tc).ownBlock ≠ some s) := by
        intro e
        have := own_ge HT4.out s e
        omega
      obtain ⟨tv, htv⟩ : ∃ tv, Value.slice ta (Bt.len t) tc = tv := ⟨_, rfl⟩
      rw [htv] at HT7 HN7 ⊢
      clear hb7 ht7 HQ6 HB6 HT3 HT4 htv
      go_wp2_with fail
      refine (bcmp_any tv (.slice a' ly cap') t y w7 HT7.out (HY.out.below (HS.out ▸ HB7.out))).mono ?_
      rintro e w8 ⟨rfl, hb8⟩
      have HT8 := Lib.hid (HT7.out.below hb8)
      have HQ8 := Lib.hid (HQ7.out.below hb8 HQ7.out.lt)
      have HB8 := Lib.hid (HB7.out.trans (hb8.mono (Nat.le_of_lt HQ7.out.lt)))
      clear hb8 HT7 HQ7 HB7
      by_cases hyt : y ≤ t
      · rw [if_pos hyt] at HST
        rw [decide_eq_true hyt] at HQB
        have HYT := Lib.hid hyt
        have hcm : (0 : Int) ≤ cmpNat t y := by unfold cmpNat; rw [if_neg (by omega)]; split <;> decide
        have hcd : decide ((0 : Int) ≤ cmpNat t y) = true := decide_eq_true hcm
        obtain ⟨c, hc⟩ : ∃ c, cmpNat t y = c := ⟨_, rfl⟩
        rw [hc] at hcm hcd ⊢
        clear hyt hc
        go_wp2_with fail
        refine (bsubF_any tv (.slice a' ly cap') t y w8 HT8.out (HY.out.below (HS.out ▸ HB8.out)) HYT.out).mono ?_
        rintro e w9 ⟨zv, rfl, hz9, hb9, hn9⟩
        have HR9 := Lib.hid hz9
        have HQ9 := Lib.hid (HQ8.out.below hb9 HQ8.out.lt)
        have HB9 := Lib.hid (HB8.out.trans (hb9.mono (Nat.le_of_lt HQ8.out.lt)))
        have HN9 : Hid (zv.ownBlock ≠ some s) := fun e => by have := hn9 s e; have := HQ8.out.lt; omega
        have c9 := HQ9.out.cell i
        have f9 := HQ9.out.frozen i
        obtain ⟨q9, hq9⟩ : ∃ q9, ((Bt.fb lx (Bt.hi (i + 1) (x / y))).map Value.bool)[i]? = some q9 := ⟨_, List.getElem?_eq_getElem (by simp [Bt.fb_length]; omega)⟩
        rw [hq9] at c9
        clear hz9 hb9 hn9 hq9 HT8 HQ8 HB8
        go_wp2_with fail
        go_roundw
        case rel =>
          have hQ := HQ9.out.set i (.bool true)
          rw [set_map Value.bool _ i true _ rfl, ← Bt.fb_hi_true (by omega) HQB.out] at hQ
          refine ⟨i, zv, rfl, by omega, rfl, hQ, ?_, HN9.out, HB9.out.setCell (p := ⟨s, i, none⟩) (Nat.le_refl s) _⟩
          rw [HST.out]
          exact HR9.out.set HN9.out _ _
        case measure => simp only [intOf]; omega
      · rw [if_neg hyt] at HST
        rw [decide_eq_false hyt] at HQB
        have hcm : ¬ (0 : Int) ≤ cmpNat t y := by unfold cmpNat; rw [if_pos (by omega)]; decide
        have hcd : decide ((0 : Int) ≤ cmpNat t y) = false := decide_eq_false hcm
        obtain ⟨c, hc⟩ : ∃ c, cmpNat t y = c := ⟨_, rfl⟩
        rw [hc] at hcm hcd ⊢
        clear hyt hc
        go_wp2_with fail
        go_roundw
        case rel =>
          have hQ := HQ8.out
          rw [← Bt.fb_hi_false HQB.out] at hQ
          exact ⟨i, tv, rfl, by omega, rfl, hQ, HST.out.symm ▸ HT8.out, HN7.out, HB8.out⟩
        case measure => simp only [intOf]; omega
end Go.Proofs.YthefednendgclaaGreat
/-
  The document's numbers, one contract each: of bytes, as bytes.
-/
namespace Go.Proofs.YthefednendgclaaGreat
open Go Go.RowKit Sac

theorem byte_bit (n c k : Nat) (hk : k < 8) : n / 256 ^ c % 256 / 2 ^ k % 2 = n / 2 ^ (8 * c + k) % 2 := by
  have e : (2 : Nat) ^ (8 * c + k) = 256 ^ c * 2 ^ k := by rw [Nat.pow_add, Nat.pow_mul]
  rw [e, ← Nat.div_div_eq_div_mul]
  generalize n / 256 ^ c = m
  match k, hk with
  | 0, _ => simp
  | 1, _ => simp; omega
  | 2, _ => simp; omega
  | 3, _ => simp; omega
  | 4, _ => simp; omega
  | 5, _ => simp; omega
  | 6, _ => simp; omega
  | 7, _ => simp; omega

set_option maxRecDepth 100000 in
set_option maxHeartbeats 2000000 in
theorem bof_any (a : Option Addr) (sz cap n : Nat) (w : World) (h : Rd w 5 a ((be sz n).map by8)) (hc : (sz : Int) ≤ cap) (hs1 : (sz : Int) ≤ 120) (hn : n < 256 ^ sz) :
    Calls Tryz.prog 94 #[.slice a sz cap] w (RetB n w) := by
  obtain ⟨s, hs⟩ : ∃ s, s = w.heap.size := ⟨_, rfl⟩
  have HS := Lib.hid hs
  have HR := Lib.hid h
  have hn2 : n < 2 ^ (8 * sz) := by rw [Nat.pow_mul]; exact hn
  have HL : Hid (Bt.len n ≤ 8 * sz) := Bt.len_le hn2
  clear h hn hn2
  go_enter Tryz.func94, Tryz.ntmps94
  go_wp2_with fail
  rw [← hs]
  have HO : Hid (OwnB (w.alloc (Obj.cells #[] 4)) s (.slice (some ⟨s, 0, none⟩) 0 0) (Bt.fb (8 * 0) n)) := OwnB.nil0 w s _ hs
  have HB : Hid (Below s w (w.alloc (Obj.cells #[] 4))) := by rw [hs]; exact (Below.refl _ w).alloc (Nat.le_refl _) _
  have HZ : Hid (s ≤ (w.alloc (Obj.cells #[] 4)).heap.size) := by show _ ≤ _; rw [hs]; simp
  clear hs
  generalize w.alloc (Obj.cells #[] 4) = w1 at HO HB HZ ⊢
  go_loopw [3, 4] (fun ov iv wr => ∃ (c : Nat) (v : Value), v = ov ∧ c ≤ sz ∧ iv = .int .i64 ((sz : Int) - 1 - c) ∧ Hid (OwnB wr s v (Bt.fb (8 * c) n)) ∧ Hid (Below s w wr) ∧ Hid (s ≤ wr.heap.size)) (fun _ iv _ => ((intOf iv) + 1).toNat)
  case atStart => exact ⟨0, _, rfl, Nat.zero_le _, by simp, HO.out, HB.out, HZ.out⟩
  case round =>
    clear HO HB HZ
    obtain ⟨c, v, rfl, hcs, rfl, HO, HB, HZ⟩ := hrel
    by_cases hlt : c < sz
    · obtain ⟨i, hi⟩ : ∃ i, i = sz - 1 - c := ⟨_, rfl⟩
      have hic : (sz : Int) - 1 - c = (i : Int) := by omega
      rw [hic]
      have his : i < sz := by omega
      have HI := Lib.hid hi
      clear hic hi
      go_wp2_with fail
      go_loopw [3, 5] (fun ov kv wr => ∃ (k : Nat) (v : Value), v = ov ∧ k ≤ 8 ∧ kv = .int .i64 (k : Int) ∧ Hid (OwnB wr s v (Bt.fb (8 * c + k) n)) ∧ Hid (Below s w wr) ∧ Hid (s ≤ wr.heap.size)) (fun _ kv _ => (8 - (intOf kv)).toNat)
      case atStart => exact ⟨0, _, rfl, by omega, rfl, HO.out, HB.out, HZ.out⟩
      case round =>
        clear HO HB HZ
        obtain ⟨k, v, rfl, hk8, rfl, HO, HB, HZ⟩ := hrel
        by_cases hk : k < 8
        · obtain ⟨ad, rfl, hety, cx⟩ := (HR.out.below (HS.out ▸ HB.out)).at_ (k := i) (by rw [List.length_map, be_length]; exact his)
          obtain ⟨x, hx⟩ : ∃ x, (be sz n).getD i 0 = x := ⟨_, rfl⟩
          have hxe : ((be sz n).map by8)[i]'(by rw [List.length_map, be_length]; exact his) = .int .u8 (x : Int) := by
            rw [List.getElem_map, ← hx, List.getD_eq_getElem?_getD, List.getElem?_eq_getElem (by rw [be_length]; exact his)]; rfl
          rw [hxe] at cx
          rw [be_get sz n i his] at hx
          have hsc : sz - 1 - i = c := by have := HI.out; omega
          rw [hsc] at hx
          have hx256 : x < 256 := hx ▸ Nat.mod_lt _ (by decide)
          have hbb := byte_bit n c k hk
          rw [hx] at hbb
          obtain ⟨b, hb⟩ : ∃ b, n.testBit (8 * c + k) = b := ⟨_, rfl⟩
          have hbit : (((x : Int) / 2 ^ k) % 2 == 1) = b := by
            rw [← hb]
            have e : ((x : Int) / 2 ^ k) % 2 = ((x / 2 ^ k % 2 : Nat) : Int) := by push_cast; rfl
            rw [e, hbb, ← Bt.bit_eq]
            cases n.testBit (8 * c + k) <;> rfl
          have HBB := Lib.hid hb
          obtain ⟨oa, oc, rfl, o1, o2, o3⟩ := HO.out.bits
          have hy0 : (0 : Int) ≤ (x : Int) / 2 ^ k := Int.ediv_nonneg (by omega) (Int.pow_nonneg (by decide))
          have hy1 : (x : Int) / 2 ^ k < 256 := Int.lt_of_le_of_lt (Int.ediv_le_self _ (by omega)) (by omega)
          have b0 : (0 : Int) ≤ (i : Int) := by omega
          have b1 : (i : Int) < (sz : Int) := by omega
          have b2 : (i : Int) ≤ (cap : Int) := by omega
          clear hety hxe hx hsc hbb hb o3
          go_wp2_with (first | (at_builtin; refine wpList_append_bits _ rfl (.tmp 18) (.tmp 27) 28 rfl Tryz.underlying28 s _ (Bt.fb (8 * c + k) n) rfl (HO.out.alloc _) (some ⟨wr.heap.size, 0, none⟩) 1 1 b.toNat rfl (bitsAt_new wr b _ rfl) (by rw [Bt.fb_length]; omega) (by have := HZ.out; simp; omega) ?_; intro v' w4 hown hgr _; have HO4 := Lib.hid (hown.snoc HBB.out); have HB4 := Lib.hid (below_app HB.out HO.out hgr HZ.out); clear hown hgr))
          go_roundw
          case rel => exact ⟨k + 1, _, rfl, by omega, by go_num, HO4.out, HB4.out.1, HB4.out.2⟩
          case measure => simp only [intOf]; omega
        · have hk' : k = 8 := by omega
          subst hk'
          go_wp2_with fail
          go_roundw
          case rel => exact ⟨c + 1, _, rfl, by omega, by have := HI.out; congr 1; omega, HO.out, HB.out, HZ.out⟩
          case measure => simp only [intOf]; omega
    · have hcz : c = sz := by omega
      subst hcz
      have hm1 : (c : Int) - 1 - c = -1 := by omega
      rw [hm1]
      obtain ⟨oa, oc, rfl, o1, o2, o3⟩ := HO.out.bits
      have HO3 := Lib.hid o3
      clear o3 hm1
      go_wp2_with fail
      refine (btrim_any oa (8 * c) oc n wr HO3.out HL.out (by omega) o2 (by omega) (by have := HL.out; omega)).mono ?_
      rintro e w2 ⟨z, rfl, hz, hb2⟩
      have HZZ := Lib.hid hz
      have HB2 := Lib.hid (HB.out.trans (hb2.mono HZ.out))
      clear hz hb2
      go_wp2_with fail
      go_ret
      exact ⟨_, rfl, HZZ.out, HS.out ▸ HB2.out⟩

/-- One bit more in a row of bytes. -/
theorem be_step {sz m i : Nat} (hm : m < 2 ^ i) (hi : i / 8 < sz) : be sz (m + 2 ^ i) = (be sz m).set (sz - 1 - i / 8) (m / 256 ^ (i / 8) + 2 ^ (i % 8)) ∧ m / 256 ^ (i / 8) < 2 ^ (i % 8) ∧ m / 256 ^ (i / 8) % 256 = m / 256 ^ (i / 8) := by
  have e : (2 : Nat) ^ i = 256 ^ (i / 8) * 2 ^ (i % 8) := by
    have : (256 : Nat) = 2 ^ 8 := by decide
    rw [this, ← Nat.pow_mul, ← Nat.pow_add]; congr 1; omega
  have hp : 0 < 256 ^ (i / 8) := Nat.pow_pos (by decide)
  have h1 : m / 256 ^ (i / 8) < 2 ^ (i % 8) := Nat.div_lt_of_lt_mul (by rw [← e]; exact hm)
  have h2 : 2 ^ (i % 8) ≤ 2 ^ 7 := Nat.pow_le_pow_right (by decide) (by omega)
  have h3 : m / 256 ^ (i / 8) % 256 = m / 256 ^ (i / 8) := Nat.mod_eq_of_lt (by omega)
  refine ⟨ext_getD (by rw [List.length_set, be_length, be_length]) fun j hj => ?_, h1, h3⟩
  rw [be_length] at hj
  rw [getD_set _ _ _ _ (by rw [be_length]; omega), be_get _ _ _ hj, be_get _ _ _ hj]
  obtain ⟨t, ht⟩ : ∃ t, t = sz - 1 - j := ⟨_, rfl⟩
  rw [← ht]
  by_cases hji : j = sz - 1 - i / 8
  · have : t = i / 8 := by omega
    rw [if_pos hji, this, e, Nat.add_mul_div_left _ _ hp]
    exact Nat.mod_eq_of_lt (by omega)
  · rw [if_neg hji]
    have htn : t ≠ i / 8 := by omega
    rcases Nat.lt_or_ge t (i / 8) with h | h
    · have e2 : (256 : Nat) ^ (i / 8) = 256 ^ t * (256 * 256 ^ (i / 8 - t - 1)) := by rw [← Nat.pow_succ', ← Nat.pow_add]; congr 1; omega
      rw [e, e2, Nat.mul_assoc, Nat.add_mul_div_left _ _ (Nat.pow_pos (by decide)), Nat.mul_assoc, Nat.add_mul_mod_self_left]
    · have h4 : m + 2 ^ i < 256 ^ t := by
        have h5 : 256 ^ (i / 8 + 1) ≤ 256 ^ t := Nat.pow_le_pow_right (by decide) (by omega)
        rw [Nat.pow_succ] at h5
        have h6 : 2 ^ i ≤ 256 ^ (i / 8) * 2 ^ 7 := by rw [e]; exact Nat.mul_le_mul_left _ h2
        omega
      rw [Nat.div_eq_of_lt h4, Nat.div_eq_of_lt (by omega)]

set_option maxRecDepth 100000 in
set_option maxHeartbeats 4000000 in
theorem bbytes_any (v : Value) (n sz : Nat) (w : World) (h : BN w v n) (hs1 : (sz : Int) ≤ 1000) (hn : n < 256 ^ sz) :
    Calls Tryz.prog 59 #[v, .int .i64 (sz : Int)] w fun e w' => ∃ g, w.heap.size ≤ g ∧ e = .returned (.tuple #[.slice (some ⟨g, 0, none⟩) sz sz, .bool true]) ∧ Blk w' g 5 ((be sz n).map by8) ∧ Below w.heap.size w w' := by
  obtain ⟨s, hs⟩ : ∃ s, s = w.heap.size := ⟨_, rfl⟩
  have HS := Lib.hid hs
  obtain ⟨a, cap, rfl, h1, h2, h3, h4⟩ := h
  obtain ⟨k, hk⟩ : ∃ k, Bt.len n = k := ⟨_, rfl⟩
  have HK := Lib.hid hk
  have hks : k ≤ 8 * sz := by rw [← hk]; exact Bt.len_le (by rw [Nat.pow_mul]; exact hn)
  rw [hk] at h1 h3 h4 ⊢
  have H3 := Lib.hid h3
  have hk1 : (k : Int) ≤ 1000 := by omega
  have hkc : (k : Int) ≤ cap := by omega
  have hng : ¬ (sz : Int) < ((k : Int) + 7) / 8 := by omega
  have hngd : decide ((sz : Int) < ((k : Int) + 7) / 8) = false := decide_eq_false hng
  clear h1 h2 h3 h4 hk hn
  go_enter Tryz.func59, Tryz.ntmps59
  go_wp2_with first | fail | (refine wpList_make_blk _ rfl _ _ _ rfl 5 (.int .u8 0) 1 Tryz.underlying91 Tryz.infoByte rfl _ _ _ _ sz rfl rfl rfl rfl (by omega) (by unfold maxLen; omega) ?_)
  intro w3 hB3 hb3
  rw [← hs] at hB3 ⊢
  have HQ3 : Hid (Blk w3 s 5 ((be sz (n % 2 ^ 0)).map by8)) := by
    show Blk _ _ _ _
    have e : (be sz (n % 2 ^ 0)).map by8 = List.replicate sz (.int .u8 0) := by
      rw [Nat.pow_zero, Nat.mod_one]
      apply List.ext_getElem?
      intro i
      rw [List.getElem?_replicate]
      by_cases h : i < sz
      · rw [if_pos h, List.getElem?_eq_getElem (by rw [List.length_map, be_length]; exact h), List.getElem_map]
        have := be_get sz 0 i h
        rw [List.getD_eq_getElem?_getD, List.getElem?_eq_getElem (by rw [be_length]; exact h)] at this
        have h0 : (be sz 0)[i]'(by rw [be_length]; exact h) = 0 := by simpa using this
        rw [h0]; rfl
      · rw [if_neg h, List.getElem?_eq_none (by rw [List.length_map, be_length]; omega)]
    rw [e]; exact hB3
  have HB3 : Hid (Below s w w3) := hs.symm ▸ hb3
  clear hB3 hb3 hs hng hngd
  go_wp2_with fail
  go_loopw [19] (fun iv wr => ∃ i : Nat, i ≤ k ∧ iv = .int .i64 (i : Int) ∧ Hid (Blk wr s 5 ((be sz (n % 2 ^ i)).map by8)) ∧ Hid (Below s w wr)) (fun iv _ => (k - intOf iv).toNat)
  case atStart => exact ⟨0, Nat.zero_le _, rfl, HQ3.out, HB3.out⟩
  case round =>
    clear HQ3 HB3
    obtain ⟨i, hi, rfl, HQ, HB⟩ := hrel
    by_cases hlt : (i : Int) < k
    · obtain ⟨ad, rfl, _, cx⟩ := (H3.out.below (HS.out ▸ HB.out)) i (by omega)
      obtain ⟨b, hb⟩ : ∃ b, n.testBit i = b := ⟨_, rfl⟩
      rw [hb] at cx
      have hms := Bt.mod_succ n i
      rw [hb] at hms
      cases b
      · have hms' : n % 2 ^ (i + 1) = n % 2 ^ i := by rw [hms]; simp
        have HMS := Lib.hid hms'
        clear hms hms' hb
        go_wp2_with fail
        go_roundw
        case rel => exact ⟨i + 1, by omega, by go_num, HMS.out.symm ▸ HQ.out, HB.out⟩
        case measure => simp only [intOf]; omega
      · have hms' : n % 2 ^ (i + 1) = n % 2 ^ i + 2 ^ i := by rw [hms]; simp
        have hm : n % 2 ^ i < 2 ^ i := Nat.mod_lt _ (Nat.two_pow_pos i)
        have hi8 : i / 8 < sz := by omega
        obtain ⟨hst, hlow, hmod⟩ := be_step (sz := sz) hm hi8
        rw [← hms'] at hst
        obtain ⟨p, hp⟩ : ∃ p, p = sz - 1 - i / 8 := ⟨_, rfl⟩
        have hps : p < sz := by omega
        have cb := HQ.out.cell p
        have fb := HQ.out.frozen p
        have hg : (be sz (n % 2 ^ i)).getD p 0 = n % 2 ^ i / 256 ^ (i / 8) := by
          rw [be_get _ _ _ hps, show sz - 1 - p = i / 8 by omega, hmod]
        obtain ⟨x, hx⟩ : ∃ x, n % 2 ^ i / 256 ^ (i / 8) = x := ⟨_, rfl⟩
        rw [hx] at hg hst hlow
        have hxe : ((be sz (n % 2 ^ i)).map by8)[p]? = some (.int .u8 (x : Int)) := by
          rw [List.getElem?_eq_getElem (by rw [List.length_map, be_length]; exact hps), List.getElem_map]
          rw [List.getD_eq_getElem?_getD, List.getElem?_eq_getElem (by rw [be_length]; exact hps)] at hg
          have h0 : (be sz (n % 2 ^ i))[p]'(by rw [be_length]; exact hps) = x := by simpa using hg
          rw [h0]; rfl
        rw [hxe] at cb
        have h27 : 2 ^ (i % 8) ≤ 2 ^ 7 := Nat.pow_le_pow_right (by decide) (by omega)
        have hsum : x + 2 ^ (i % 8) < 256 := by omega
        rw [← hp] at hst
        have HST := Lib.hid hst
        have HMS := Lib.hid hms'
        obtain ⟨y, hy⟩ : ∃ y, 2 ^ (i % 8) = y := ⟨_, rfl⟩
        have hyI : (2 : Int) ^ (i % 8) = (y : Int) := by rw [← hy]; push_cast; rfl
        rw [hy] at hsum h27
        have HY := Lib.hid hy
        have hp1 : (sz : Int) - 1 - (i : Int) / 8 = (p : Int) := by omega
        have hsy : (x : Int) + y < 256 := by omega
        have hy8 : (y : Int) < 256 := by omega
        have p0 : (0 : Int) ≤ (p : Int) := by omega
        have p1 : (p : Int) < (sz : Int) := by omega
        clear hms hms' hb hm hi8 hst hlow hmod hp hg hx hxe h27 hsum hy
        go_wp2_with fail
        go_region
        go_wp2_with fail
        go_roundw
        case rel =>
          have hQ := HQ.out.set p (.int .u8 ((x : Int) + y))
          have hst' := HST.out
          rw [HY.out] at hst'
          rw [set_map by8 _ p (x + y) _ (by unfold by8; push_cast; rfl), ← hst'] at hQ
          exact ⟨i + 1, by omega, by go_num, hQ.drew, (HB.out.setCell (p := ⟨s, p, none⟩) (Nat.le_refl s) _).drew⟩
        case measure => simp only [intOf]; omega
    · have hkk : i = k := by omega
      subst hkk
      have he : n % 2 ^ i = n := Nat.mod_eq_of_lt (by rw [← HK.out]; exact Bt.lt_len n)
      have HE := Lib.hid he
      clear he
      go_wp2_with fail
      go_ret2
      exact ⟨s, Nat.le_of_eq HS.out.symm, rfl, HE.out ▸ HQ.out, HS.out ▸ HB.out⟩
end Go.Proofs.YthefednendgclaaGreat
/-
  The document's rings, one contract each: for a modulus of no more than 400 bits.
-/
namespace Go.Proofs.YthefednendgclaaGreat
open Go Go.RowKit Sac

theorem len_mul (x y : Nat) : Bt.len (x * y) ≤ Bt.len x + Bt.len y := by
  apply Bt.len_le
  rw [Nat.pow_add]
  exact Nat.mul_lt_mul'' (Bt.lt_len x) (Bt.lt_len y)
theorem len_add (x y : Nat) : Bt.len (x + y) ≤ max (Bt.len x) (Bt.len y) + 1 := by
  apply Bt.len_le
  have h1 := Nat.lt_of_lt_of_le (Bt.lt_len x) (Nat.pow_le_pow_right (n := 2) (by decide) (Nat.le_max_left (Bt.len x) (Bt.len y)))
  have h2 := Nat.lt_of_lt_of_le (Bt.lt_len y) (Nat.pow_le_pow_right (n := 2) (by decide) (Nat.le_max_right (Bt.len x) (Bt.len y)))
  rw [Nat.pow_succ]; omega
theorem len_mod (x : Nat) {m : Nat} (hm : 0 < m) : Bt.len (x % m) ≤ Bt.len m := Bt.len_mono (Nat.le_of_lt (Nat.mod_lt _ hm))

set_option maxRecDepth 100000 in
set_option maxHeartbeats 1000000 in
theorem rof_any (v u : Value) (x m : Nat) (w : World) (h : BN w v x) (h' : BN w u m) (hm : 0 < m) (hl : Bt.len m ≤ 999) :
    Calls Tryz.prog 58 #[v, u] w (RetB (x % m) w) := by
  have HX := Lib.hid h
  have HM := Lib.hid h'
  have H0 := Lib.hid (And.intro hm hl)
  clear h h' hm hl
  go_enter Tryz.func58, Tryz.ntmps58
  go_wp2_with fail
  refine (bdiv_any v u x m w HX.out HM.out H0.out.1 H0.out.2).mono ?_
  rintro e w2 ⟨q, r, rfl, _, hr, hb⟩
  have HR := Lib.hid hr
  have HB := Lib.hid hb
  clear hr hb
  go_wp2_with fail
  go_ret
  exact ⟨_, rfl, HR.out, HB.out⟩

set_option maxRecDepth 100000 in
set_option maxHeartbeats 1000000 in
theorem bradd_any (v u t : Value) (x y m : Nat) (w : World) (h : BN w v x) (h' : BN w u y) (h'' : BN w t m) (hm : 0 < m) (hl : Bt.len m ≤ 400) (hlx : Bt.len x ≤ 400) (hly : Bt.len y ≤ 400) :
    Calls Tryz.prog 61 #[v, u, t] w (RetB ((x + y) % m) w) := by
  have HX := Lib.hid h
  have HY := Lib.hid h'
  have HM := Lib.hid h''
  have H0 := Lib.hid (And.intro hm (And.intro hl (And.intro hlx hly)))
  clear h h' h'' hm hl hlx hly
  go_enter Tryz.func61, Tryz.ntmps61
  go_wp2_with fail
  refine (badd_any v u x y w HX.out HY.out (by have := len_add x y; have := H0.out; omega)).mono ?_
  rintro e w2 ⟨r, rfl, hr, hb⟩
  have HR := Lib.hid hr
  have HM2 := Lib.hid (HM.out.below hb)
  have HB := Lib.hid hb
  clear hr hb
  go_wp2_with fail
  refine (rof_any r t ((x + y)) m w2 HR.out HM2.out H0.out.1 (by have := H0.out.2.1; omega)).mono ?_
  rintro e w3 ⟨r3, rfl, hr, hb⟩
  have HR3 := Lib.hid hr
  have HB3 := Lib.hid (HB.out.trans (hb.mono HB.out.size))
  clear hr hb
  go_wp2_with fail
  go_ret
  exact ⟨_, rfl, HR3.out, HB3.out⟩
set_option maxRecDepth 100000 in
set_option maxHeartbeats 1000000 in
theorem brmul_any (v u t : Value) (x y m : Nat) (w : World) (h : BN w v x) (h' : BN w u y) (h'' : BN w t m) (hm : 0 < m) (hl : Bt.len m ≤ 400) (hlx : Bt.len x ≤ 400) (hly : Bt.len y ≤ 400) :
    Calls Tryz.prog 62 #[v, u, t] w (RetB ((x * y) % m) w) := by
  have HX := Lib.hid h
  have HY := Lib.hid h'
  have HM := Lib.hid h''
  have H0 := Lib.hid (And.intro hm (And.intro hl (And.intro hlx hly)))
  clear h h' h'' hm hl hlx hly
  go_enter Tryz.func62, Tryz.ntmps62
  go_wp2_with fail
  refine (bmul_any v u x y w HX.out HY.out (by have := len_mul x y; have := H0.out; omega)).mono ?_
  rintro e w2 ⟨r, rfl, hr, hb⟩
  have HR := Lib.hid hr
  have HM2 := Lib.hid (HM.out.below hb)
  have HB := Lib.hid hb
  clear hr hb
  go_wp2_with fail
  refine (rof_any r t ((x * y)) m w2 HR.out HM2.out H0.out.1 (by have := H0.out.2.1; omega)).mono ?_
  rintro e w3 ⟨r3, rfl, hr, hb⟩
  have HR3 := Lib.hid hr
  have HB3 := Lib.hid (HB.out.trans (hb.mono HB.out.size))
  clear hr hb
  go_wp2_with fail
  go_ret
  exact ⟨_, rfl, HR3.out, HB3.out⟩

theorem subm_eq (q a b : Nat) (hq : 0 < q) : (a % q + q - b % q) % q = subm q a b := by
  have ha := Nat.mod_lt a hq
  have hb := Nat.mod_lt b hq
  unfold subm
  by_cases h : b % q ≤ a % q
  · rw [if_pos h, show a % q + q - b % q = (a % q - b % q) + q by omega, Nat.add_mod_right, Nat.mod_eq_of_lt (by omega)]
  · rw [if_neg h, Nat.mod_eq_of_lt (by omega)]

set_option maxRecDepth 100000 in
set_option maxHeartbeats 1000000 in
theorem brsub_any (v u t : Value) (x y m : Nat) (w : World) (h : BN w v x) (h' : BN w u y) (h'' : BN w t m) (hm : 0 < m) (hl : Bt.len m ≤ 400) :
    Calls Tryz.prog 103 #[v, u, t] w (RetB (subm m x y) w) := by
  have HX := Lib.hid h
  have HY := Lib.hid h'
  have HM := Lib.hid h''
  have H0 := Lib.hid (And.intro hm hl)
  have HS := Lib.hid (subm_eq m x y hm)
  clear h h' h'' hm hl
  go_enter Tryz.func103, Tryz.ntmps103
  go_wp2_with fail
  refine (rof_any v t x m w HX.out HM.out H0.out.1 (by have := H0.out.2; omega)).mono ?_
  rintro e w2 ⟨r, rfl, hr, hb⟩
  have HR2 := Lib.hid hr
  have HM2 := Lib.hid (HM.out.below hb)
  have HY2 := Lib.hid (HY.out.below hb)
  have HB2 := Lib.hid hb
  clear hr hb HX HY HM
  go_wp2_with fail
  refine (badd_any r t (x % m) m w2 HR2.out HM2.out (by have h1 := len_add (x % m) m; have h2 := len_mod x H0.out.1; have := H0.out.2; omega)).mono ?_
  rintro e w3 ⟨r3, rfl, hr, hb⟩
  have HR3 := Lib.hid hr
  have HM3 := Lib.hid (HM2.out.below hb)
  have HY3 := Lib.hid (HY2.out.below hb)
  have HB3 := Lib.hid (HB2.out.trans (hb.mono HB2.out.size))
  clear hr hb HR2 HM2 HY2 HB2
  go_wp2_with fail
  refine (rof_any u t y m w3 HY3.out HM3.out H0.out.1 (by have := H0.out.2; omega)).mono ?_
  rintro e w4 ⟨r4, rfl, hr, hb⟩
  have HR4 := Lib.hid hr
  have HM4 := Lib.hid (HM3.out.below hb)
  have HS4 := Lib.hid (HR3.out.below hb)
  have HB4 := Lib.hid (HB3.out.trans (hb.mono HB3.out.size))
  clear hr hb HR3 HM3 HY3 HB3
  go_wp2_with fail
  refine (bsub_any r3 r4 (x % m + m) (y % m) w4 HS4.out HR4.out (by have := Nat.mod_lt y H0.out.1; omega)).mono ?_
  rintro e w5 ⟨r5, rfl, hr, hb⟩
  have HR5 := Lib.hid hr
  have HM5 := Lib.hid (HM4.out.below hb)
  have HB5 := Lib.hid (HB4.out.trans (hb.mono HB4.out.size))
  clear hr hb HS4 HR4 HM4 HB4
  go_wp2_with fail
  refine (rof_any r5 t (x % m + m - y % m) m w5 HR5.out HM5.out H0.out.1 (by have := H0.out.2; omega)).mono ?_
  rw [HS.out]
  rintro e w6 ⟨r6, rfl, hr, hb⟩
  have HR6 := Lib.hid hr
  have HB6 := Lib.hid (HB5.out.trans (hb.mono HB5.out.size))
  clear hr hb
  go_wp2_with fail
  go_ret
  exact ⟨_, rfl, HR6.out, HB6.out⟩

set_option maxRecDepth 100000 in
set_option maxHeartbeats 2000000 in
theorem brexp_any (v u t : Value) (x n m : Nat) (w : World) (h : BN w v x) (h' : BN w u n) (h'' : BN w t m) (hm : 0 < m) (hl : Bt.len m ≤ 400) :
    Calls Tryz.prog 104 #[v, u, t] w (RetB (x ^ n % m) w) := by
  obtain ⟨s, hs⟩ : ∃ s, s = w.heap.size := ⟨_, rfl⟩
  have HS := Lib.hid hs
  have HX := Lib.hid h
  have HN := Lib.hid h'
  have HM := Lib.hid h''
  have H0 := Lib.hid (And.intro hm hl)
  obtain ⟨a, cap, rfl, h1, h2, h3, h4⟩ := h'
  obtain ⟨k, hk⟩ : ∃ k, Bt.len n = k := ⟨_, rfl⟩
  have HK := Lib.hid hk
  rw [hk] at h1 h3 h4 HN ⊢
  have H3 := Lib.hid h3
  have hk1 : (k : Int) ≤ 1000 := by omega
  have hkc : (k : Int) ≤ cap := by omega
  clear h h'' hm hl h1 h2 h3 h4 hk hs
  go_enter Tryz.func104, Tryz.ntmps104
  go_wp2_with fail
  refine (bsmall_any 1 w (by decide)).mono ?_
  rintro e w2 ⟨r, rfl, hr, hb⟩
  have HR2 := Lib.hid hr
  have HB2 := Lib.hid hb
  clear hr hb
  go_wp2_with fail
  refine (rof_any r t 1 m w2 HR2.out (HM.out.below HB2.out) H0.out.1 (by have := H0.out.2; omega)).mono ?_
  rintro e w3 ⟨r3, rfl, hr, hb⟩
  have HR3 := Lib.hid hr
  have HB3 := Lib.hid (HB2.out.trans (hb.mono HB2.out.size))
  clear hr hb HB2 HR2
  go_wp2_with fail
  refine (rof_any v t x m w3 (HX.out.below HB3.out) (HM.out.below HB3.out) H0.out.1 (by have := H0.out.2; omega)).mono ?_
  rintro e w4 ⟨p, rfl, hr, hb⟩
  have HP4 := Lib.hid hr
  have HR4 := Lib.hid (HR3.out.below hb)
  have HB4 := Lib.hid (HB3.out.trans (hb.mono HB3.out.size))
  clear hr hb HB3 HR3
  go_wp2_with fail
  go_loopw [7, 8] (fun ov iv wr => ∃ (j : Nat) (z : Value), z = ov ∧ j ≤ k ∧ iv = .int .i64 ((j : Int) - 1) ∧ Hid (BN wr z (x ^ (n / 2 ^ j) % m)) ∧ Hid (BN wr p (x % m)) ∧ Hid (Below w.heap.size w wr)) (fun _ iv _ => ((intOf iv) + 1).toNat)
  case atStart =>
    refine ⟨k, _, rfl, Nat.le_refl _, rfl, ?_, HP4.out, HB4.out⟩
    rw [Nat.div_eq_of_lt (by rw [← HK.out]; exact Bt.lt_len n), Nat.pow_zero]
    exact HR4.out
  case round =>
    clear HP4 HR4 HB4
    obtain ⟨j, z, rfl, hj, rfl, HZ, HP, HB⟩ := hrel
    by_cases hj0 : j = 0
    · subst hj0
      have hz := HZ.out
      rw [Nat.pow_zero, Nat.div_one] at hz
      have HZ2 := Lib.hid hz
      clear hz HZ
      go_wp2_with fail
      go_ret
      exact ⟨_, rfl, HZ2.out, HB.out⟩
    · obtain ⟨i, rfl⟩ : ∃ i, j = i + 1 := ⟨j - 1, by omega⟩
      rw [show (((i + 1 : Nat) : Int) - 1) = (i : Int) by omega]
      have hds := Bt.div_succ n i
      obtain ⟨b, hb⟩ : ∃ b, n.testBit i = b := ⟨_, rfl⟩
      rw [hb] at hds
      have hcell : ∀ wr : World, Below w.heap.size w wr → ∃ ad, a = some ad ∧ wr.cell? (ad.add i) = some (.bool b) := fun wr hB => by
        obtain ⟨ad, e, _, cx⟩ := (H3.out.below hB) i (by omega)
        rw [hb] at cx
        exact ⟨ad, e, cx⟩
      obtain ⟨ad, rfl, cx⟩ := hcell wr HB.out
      have HCELL := Lib.hid hcell
      obtain ⟨y, hy⟩ : ∃ y, x ^ (n / 2 ^ (i + 1)) % m = y := ⟨_, rfl⟩
      have hym : Bt.len y ≤ 400 := by rw [← hy]; exact Nat.le_trans (len_mod _ H0.out.1) H0.out.2
      have hxm : Bt.len (x % m) ≤ 400 := Nat.le_trans (len_mod _ H0.out.1) H0.out.2
      have hsq : y * y % m = x ^ (2 * (n / 2 ^ (i + 1))) % m := by
        rw [← hy, ← Nat.mul_mod, ← Nat.pow_add]; congr 2; omega
      have HSQ := Lib.hid hsq
      have HL := Lib.hid (And.intro hym hxm)
      rw [hy] at HZ
      have b0 : (0 : Int) ≤ (i : Int) := by omega
      have b1 : (i : Int) < (k : Int) := by omega
      have b2 : (i : Int) ≤ (cap : Int) := by omega
      clear hcell cx hy hym hxm hsq hb hj0
      go_wp2_with fail
      refine (brmul_any z z t y y m wr HZ.out HZ.out (HM.out.below HB.out) H0.out.1 H0.out.2 HL.out.1 HL.out.1).mono ?_
      rintro e w5 ⟨q, rfl, hq, hb5⟩
      have HQ5 := Lib.hid hq
      have HP5 := Lib.hid (HP.out.below hb5)
      have HB5 := Lib.hid (HB.out.trans (hb5.mono HB.out.size))
      obtain ⟨ad', e, c5⟩ := HCELL.out w5 HB5.out
      obtain rfl := Option.some.inj e
      clear hq hb5 e HB HP HZ
      cases b
      · have hds' : n / 2 ^ i = 2 * (n / 2 ^ (i + 1)) := by rw [hds]; simp
        have HDS := Lib.hid hds'
        clear hds hds'
        go_wp2_with fail
        go_roundw
        case rel => exact ⟨i, q, rfl, by omega, rfl, (by rw [HDS.out, ← HSQ.out]; exact HQ5.out), HP5.out, HB5.out⟩
        case measure => simp only [intOf]; omega
      · have hds' : n / 2 ^ i = 2 * (n / 2 ^ (i + 1)) + 1 := by rw [hds]; simp
        have HDS := Lib.hid hds'
        have hpm : y * y % m * (x % m) % m = x ^ (2 * (n / 2 ^ (i + 1)) + 1) % m := by
          rw [HSQ.out, ← Nat.mul_mod, ← Nat.pow_succ]
        have HPM := Lib.hid hpm
        clear hds hds' hpm
        go_wp2_with fail
        refine (brmul_any q p t (y * y % m) (x % m) m w5 HQ5.out HP5.out (HM.out.below HB5.out) H0.out.1 H0.out.2 (Nat.le_trans (len_mod _ H0.out.1) H0.out.2) HL.out.2).mono ?_
        rintro e w6 ⟨q6, rfl, hq, hb6⟩
        have HQ6 := Lib.hid hq
        have HP6 := Lib.hid (HP5.out.below hb6)
        have HB6 := Lib.hid (HB5.out.trans (hb6.mono HB5.out.size))
        clear hq hb6
        go_wp2_with fail
        go_roundw
        case rel => exact ⟨i, q6, rfl, by omega, rfl, (by rw [HDS.out, ← HPM.out]; exact HQ6.out), HP6.out, HB6.out⟩
        case measure => simp only [intOf]; omega
end Go.Proofs.YthefednendgclaaGreat
/-
  The document's inverse, of what has one.
-/
namespace Go.Proofs.YthefednendgclaaGreat
open Go Go.RowKit Sac

/-- What the rounds keep: u and v have no common divisor; x times n is u, y times n is v. -/
def EuB (m n u v x y : Nat) : Prop := Nat.gcd u v = 1 ∧ Cg m ((x * n : Nat) : Int) (u : Int) ∧ Cg m ((y * n : Nat) : Int) (v : Int) ∧ u ≤ m ∧ v < m ∧ x < m ∧ y < m
theorem EuB.start {m n : Nat} (hm : 1 < m) (h : Nat.gcd n m = 1) : EuB m n m (n % m) 0 1 := by
  refine ⟨?_, ?_, ?_, Nat.le_refl _, Nat.mod_lt _ (by omega), by omega, hm⟩
  · rw [Nat.gcd_comm, ← Nat.gcd_rec, Nat.gcd_comm]; exact h
  · rw [Nat.zero_mul]; exact (Cg.self m).symm
  · rw [Nat.one_mul]; exact (Cg.mod n).symm
theorem EuB.step {m n u v x y : Nat} (h : EuB m n u v x y) (hv : 0 < v) : EuB m n v (u % v) y (subm m x (u / v * y % m)) := by
  obtain ⟨h1, h2, h3, h4, h5, h6, h7⟩ := h
  have hm : 0 < m := by omega
  have hz := Mo.sub hm (Cg.refl m (x : Int)) ((Cg.mod (u / v * y) : Cg m ((u / v * y % m : Nat) : Int) _))
  refine ⟨?_, h3, ?_, Nat.le_of_lt h5, Nat.lt_trans (Nat.mod_lt _ hv) h5, h7, hz.1⟩
  · rw [Nat.gcd_comm, ← Nat.gcd_rec, Nat.gcd_comm]; exact h1
  · have e1 := (hz.2).mul (Cg.refl m (n : Int))
    have e2 : Cg m (((x : Int) - ((u / v * y : Nat) : Int)) * n) (((u % v : Nat)) : Int) := by
      have k1 : ((x : Int) - ((u / v * y : Nat) : Int)) * n = ((x * n : Nat) : Int) - ((u / v : Nat) : Int) * ((y * n : Nat) : Int) := by
        push_cast
        rw [Int.sub_mul, Int.mul_assoc]
      rw [k1]
      have k2 := h2.sub ((Cg.refl m ((u / v : Nat) : Int)).mul h3)
      refine k2.trans (Cg.of_eq ?_)
      have := Nat.div_add_mod u v
      have e3 : (u : Int) = (v : Int) * ((u / v : Nat) : Int) + ((u % v : Nat) : Int) := by exact_mod_cast this.symm
      rw [Int.mul_comm ((u / v : Nat) : Int)]
      omega
    have e4 := e1.trans e2
    have e5 : ((subm m x (u / v * y % m) * n : Nat) : Int) = ((subm m x (u / v * y % m) : Nat) : Int) * (n : Int) := by push_cast; rfl
    rw [e5]; exact e4
theorem EuB.fin {m n u x y : Nat} (h : EuB m n u 0 x y) : u = 1 ∧ x < m ∧ Cg m ((x * n : Nat) : Int) 1 := by
  obtain ⟨h1, h2, _, _, _, h6, _⟩ := h
  rw [Nat.gcd_zero_right] at h1
  subst h1
  exact ⟨rfl, h6, h2⟩

set_option maxRecDepth 100000 in
set_option maxHeartbeats 2000000 in
theorem brinv_any (v u : Value) (n m : Nat) (w : World) (h : BN w v n) (h' : BN w u m) (hm : 1 < m) (hl : Bt.len m ≤ 400) (hg : Nat.gcd n m = 1) :
    Calls Tryz.prog 102 #[v, u] w fun e w' => ∃ z x, e = .returned (.tuple #[z, .bool true]) ∧ BN w' z x ∧ x < m ∧ Cg m ((x * n : Nat) : Int) 1 ∧ Below w.heap.size w w' := by
  have HN := Lib.hid h
  have HM := Lib.hid h'
  have HE := Lib.hid (EuB.start hm hg)
  have H0 : Hid (0 < m ∧ Bt.len m ≤ 400) := ⟨by omega, hl⟩
  clear h h' hm hl hg
  go_enter Tryz.func102, Tryz.ntmps102
  go_wp2_with fail
  refine (rof_any v u n m w HN.out HM.out H0.out.1 (by have := H0.out.2; omega)).mono ?_
  rintro e w2 ⟨r, rfl, hr, hb⟩
  have HR2 := Lib.hid (hr.below ((Below.refl _ w2).alloc (Nat.le_refl _) (Obj.cells #[] 4)))
  have HB2 := Lib.hid (hb.alloc hb.size (Obj.cells #[] 4))
  clear hr hb
  go_wp2_with fail
  have HX2 : Hid (BN (w2.alloc (Obj.cells #[] 4)) (.slice (some ⟨w2.heap.size, 0, none⟩) 0 0) 0) := BN.mk' (BitsAt.zero _ _ _) rfl (Nat.le_refl _) (by decide) (by decide)
  obtain ⟨xv, hxv⟩ : ∃ xv, Value.slice (some ⟨w2.heap.size, 0, none⟩) 0 0 = xv := ⟨_, rfl⟩
  rw [hxv] at HX2 ⊢
  clear hxv
  generalize w2.alloc (Obj.cells #[] 4) = w3 at HR2 HB2 HX2 ⊢
  refine (bsmall_any 1 w3 (by decide)).mono ?_
  rintro e w4 ⟨yv, rfl, hy, hb⟩
  have HR4 := Lib.hid (HR2.out.below hb)
  have HX4 := Lib.hid (HX2.out.below hb)
  have HY4 := Lib.hid hy
  have HB4 := Lib.hid (HB2.out.trans (hb.mono HB2.out.size))
  have HU4 := Lib.hid (HM.out.below HB4.out)
  clear hy hb HR2 HB2 HX2
  go_wp2_with fail
  go_loopg [6, 7, 8, 9] (n % m) (fun gk uv vv xv yv wr => ∃ (u' v' x y : Nat) (uv' vv' xv' yv' : Value), uv' = uv ∧ vv' = vv ∧ xv' = xv ∧ yv' = yv ∧ (v' : Int) ≤ gk ∧ Hid (EuB m n u' v' x y) ∧ Hid (BN wr uv' u') ∧ Hid (BN wr vv' v') ∧ Hid (BN wr xv' x) ∧ Hid (BN wr yv' y) ∧ Hid (Below w.heap.size w wr))
  case atStart => exact ⟨m, n % m, 0, 1, _, _, _, _, rfl, rfl, rfl, rfl, by omega, HE.out, HU4.out, HR4.out, HX4.out, HY4.out, HB4.out⟩
  case round =>
    clear HE HU4 HR4 HX4 HY4 HB4
    obtain ⟨u', v', x, y, uv, vv, xv, yv, rfl, rfl, rfl, rfl, hgk, HE, HU, HV, HX, HY, HB⟩ := hrel
    have hv1000 := HV.out.len
    obtain ⟨va, vc, rfl, v1, v2, v3, _⟩ := HV.out
    by_cases hv0 : v' = 0
    · subst hv0
      obtain ⟨rfl, hxm, hxc⟩ := HE.out.fin
      have HR := Lib.hid (And.intro hxm hxc)
      have hlx : x % m = x := Nat.mod_eq_of_lt hxm
      have HLX := Lib.hid hlx
      obtain ⟨ua, uc, rfl, u1, u2, u3, _⟩ := HU.out
      have el : Bt.len 1 = 1 := rfl
      have ez : Bt.len 0 = 0 := rfl
      rw [ez]
      rw [el]
      clear hxm hxc hlx u1 u2 u3 v1 v2 v3 el ez hgk
      go_wp2_with fail
      refine (rof_any xv u x m wr HX.out (HM.out.below HB.out) H0.out.1 (by have := H0.out.2; omega)).mono ?_
      rw [HLX.out]
      rintro e w5 ⟨z, rfl, hz, hb⟩
      have HZ := Lib.hid hz
      have HB5 := Lib.hid (HB.out.trans (hb.mono HB.out.size))
      clear hz hb
      go_wp2_with fail
      go_ret2
      exact ⟨z, x, rfl, HZ.out, HR.out.1, HR.out.2, HB5.out⟩
    · have hvp : 0 < v' := by omega
      have hlp := Bt.len_pos hvp
      obtain ⟨lv, hlv⟩ : ∃ lv, Bt.len v' = lv := ⟨_, rfl⟩
      have HLV := Lib.hid hlv
      have HV2 : Hid (BN wr (.slice va lv vc) v') := hlv ▸ HV.out
      rw [hlv] at hlp hv1000 ⊢
      have hlvp : (0 : Int) < (lv : Int) := by omega
      have HVP := Lib.hid hvp
      have hE := HE.out
      have hle1 : Bt.len v' ≤ 400 := Nat.le_trans (Bt.len_mono (Nat.le_of_lt hE.2.2.2.2.1)) H0.out.2
      have hle2 : Bt.len (u' / v') ≤ 400 := Nat.le_trans (Bt.len_mono (Nat.le_trans (Nat.div_le_self _ _) hE.2.2.2.1)) H0.out.2
      have hle3 : Bt.len y ≤ 400 := Nat.le_trans (Bt.len_mono (Nat.le_of_lt hE.2.2.2.2.2.2)) H0.out.2
      have HLE := Lib.hid (And.intro hle1 (And.intro hle2 hle3))
      have HE2 := Lib.hid (hE.step hvp)
      have hrv : (u' % v' : Nat) < v' := Nat.mod_lt _ hvp
      clear v1 v2 v3 hlp hvp hE hle1 hle2 hle3 HE HV hv0 hlv
      go_wp2_with fail
      refine (bdiv_any uv (.slice va lv vc) u' v' wr HU.out HV2.out HVP.out (by have := HLE.out.1; omega)).mono ?_
      rintro e w5 ⟨qv, rv, rfl, hq, hr, hb⟩
      have HQ5 := Lib.hid hq
      have HR5 := Lib.hid hr
      have HX5 := Lib.hid (HX.out.below hb)
      have HY5 := Lib.hid (HY.out.below hb)
      have HV5 := Lib.hid (HV2.out.below hb)
      have HB5 := Lib.hid (HB.out.trans (hb.mono HB.out.size))
      clear hq hr hb HU HV2 HX HY HB
      go_wp2_with fail
      refine (brmul_any qv yv u (u' / v') y m w5 HQ5.out HY5.out (HM.out.below HB5.out) H0.out.1 H0.out.2 HLE.out.2.1 HLE.out.2.2).mono ?_
      rintro e w6 ⟨pv, rfl, hp, hb⟩
      have HP6 := Lib.hid hp
      have HR6 := Lib.hid (HR5.out.below hb)
      have HX6 := Lib.hid (HX5.out.below hb)
      have HY6 := Lib.hid (HY5.out.below hb)
      have HV6 := Lib.hid (HV5.out.below hb)
      have HB6 := Lib.hid (HB5.out.trans (hb.mono HB5.out.size))
      clear hp hb HQ5 HR5 HX5 HY5 HV5 HB5
      go_wp2_with fail
      refine (brsub_any xv pv u x (u' / v' * y % m) m w6 HX6.out HP6.out (HM.out.below HB6.out) H0.out.1 H0.out.2).mono ?_
      rintro e w7 ⟨zv, rfl, hz, hb⟩
      have HZ7 := Lib.hid hz
      have HR7 := Lib.hid (HR6.out.below hb)
      have HY7 := Lib.hid (HY6.out.below hb)
      have HV7 := Lib.hid (HV6.out.below hb)
      have HB7 := Lib.hid (HB6.out.trans (hb.mono HB6.out.size))
      clear hz hb HP6 HR6 HX6 HY6 HV6 HB6
      go_wp2_with fail
      go_roundg (u' % v')
      case rel => exact ⟨v', u' % v', y, _, _, _, _, _, rfl, rfl, rfl, rfl, by omega, HE2.out, HV7.out, HR7.out, HY7.out, HZ7.out, HB7.out⟩
      all_goals omega
end Go.Proofs.YthefednendgclaaGreat
