/-
  Long division by rows: what is known behind each digit, and at the end. No program in sight.
-/
import Derived.Test.YthefednendgclaaGreatNatA
set_option linter.unusedVariables false
set_option linter.unusedSimpArgs false
namespace Sac

theorem top_ne {b : List Nat} {j : Nat} (ht : Tight b) (hl : b.length = j + 2) : b.getD (j + 1) 0 ≠ 0 := by
  obtain ⟨a, x, rfl⟩ : ∃ a x, b = a ++ [x] := ⟨b.dropLast, b.getLast (by intro e; subst e; simp at hl), (List.dropLast_concat_getLast (by intro e; subst e; simp at hl)).symm⟩
  have hj : j + 1 = a.length := by simp at hl; omega
  rw [hj]
  have := (tight_snoc a x).1 ht
  simpa using this
theorem lead_lt {x : Nat} (h0 : x ≠ 0) (hx : x < W) : 1 ≤ Go.Lib.bitLen x ∧ Go.Lib.bitLen x ≤ 32 := by
  rcases isLen_bitLen x (by unfold W at hx; omega) with ⟨h, _⟩ | ⟨b0, b1, _⟩
  · exact absurd h h0
  · refine ⟨b0, ?_⟩
    apply Nat.le_of_not_lt
    intro h
    have : 2 ^ 32 ≤ 2 ^ (Go.Lib.bitLen x - 1) := Nat.pow_le_pow_right (by omega) (by omega)
    unfold W at hx
    omega

theorem shifted_top {b o : List Nat} {j n : Nat} (hw : Words b) (ht : Tight b) (hl : b.length = j + 2) (ho : o.length = j + 2 + 1) (how : Words o) (hn : n = 32 - Go.Lib.bitLen (b.getD (j + 1) 0)) (hv : val o = 2 ^ n * val b) :
    val (o.take (j + 2)) = 2 ^ n * val b ∧ 2147483648 ≤ (o.take (j + 2)).getD (j + 1) 0 ∧ n < 32 := by
  have hx : b.getD (j + 1) 0 < W := words_get hw (j + 1)
  have h0 : b.getD (j + 1) 0 ≠ 0 := by
    obtain ⟨a, x, rfl⟩ : ∃ a x, b = a ++ [x] := ⟨b.dropLast, b.getLast (by intro e; subst e; simp at hl), (List.dropLast_concat_getLast (by intro e; subst e; simp at hl)).symm⟩
    have hj : j + 1 = a.length := by simp at hl; omega
    rw [hj]
    have := (tight_snoc a x).1 ht
    simpa using this
  have hvb : val b = val (b.take (j + 1)) + W ^ (j + 1) * b.getD (j + 1) 0 := by
    have := val_take_succ' b (j + 1)
    rwa [val_take_ge b (j + 1 + 1) (by omega)] at this
  have hlo : val (b.take (j + 1)) < W ^ (j + 1) := by
    have := val_lt (words_take hw (j + 1))
    rwa [List.length_take, Nat.min_eq_left (by omega)] at this
  generalize b.getD (j + 1) 0 = x at *
  have hb := isLen_bitLen x (by unfold W at hx; omega)
  rcases hb with ⟨h, _⟩ | ⟨b0, b1, b2⟩
  · exact absurd h h0
  have hk : Go.Lib.bitLen x ≤ 32 := by
    apply Nat.le_of_not_lt
    intro h
    have : 2 ^ 32 ≤ 2 ^ (Go.Lib.bitLen x - 1) := Nat.pow_le_pow_right (by omega) (by omega)
    unfold W at hx
    omega
  generalize Go.Lib.bitLen x = k at *
  have e1 : 2 ^ n * 2 ^ k = W := by rw [hn, ← Nat.pow_add, show 32 - k + k = 32 by omega]; rfl
  have e2 : 2 ^ n * 2 ^ (k - 1) = 2147483648 := by rw [hn, ← Nat.pow_add, show 32 - k + (k - 1) = 31 by omega]
  have hup : 2 ^ n * val b < W ^ (j + 2) := by
    have h1 : val b < W ^ (j + 1) * (x + 1) := by rw [Nat.mul_add]; omega
    have h2 : W ^ (j + 1) * (x + 1) ≤ W ^ (j + 1) * 2 ^ k := Nat.mul_le_mul_left _ b2
    have h3 : 2 ^ n * val b < 2 ^ n * (W ^ (j + 1) * 2 ^ k) := Nat.mul_lt_mul_of_pos_left (by omega) (Nat.two_pow_pos n)
    rw [Nat.mul_left_comm, e1, ← Nat.pow_succ] at h3
    exact h3
  have hvo : val o = val (o.take (j + 2)) + W ^ (j + 2) * o.getD (j + 2) 0 := by
    have := val_take_succ' o (j + 2)
    rwa [val_take_ge o (j + 2 + 1) (by omega)] at this
  have hz : o.getD (j + 2) 0 = 0 := by
    apply Classical.byContradiction
    intro hne
    have : W ^ (j + 2) * 1 ≤ W ^ (j + 2) * o.getD (j + 2) 0 := Nat.mul_le_mul_left _ (by omega)
    omega
  have hvt : val (o.take (j + 2)) = 2 ^ n * val b := by rw [hz] at hvo; omega
  refine ⟨hvt, ?_, by omega⟩
  have hvt2 : val (o.take (j + 2)) = val (o.take (j + 1)) + W ^ (j + 1) * (o.take (j + 2)).getD (j + 1) 0 := by
    have := val_take_succ' (o.take (j + 2)) (j + 1)
    rwa [val_take_ge (o.take (j + 2)) (j + 1 + 1) (by simp; omega), List.take_take, Nat.min_eq_left (by omega)] at this
  have hlo2 : val (o.take (j + 1)) < W ^ (j + 1) := by
    have := val_lt (words_take how (j + 1))
    rwa [List.length_take, Nat.min_eq_left (by omega)] at this
  generalize (o.take (j + 2)).getD (j + 1) 0 = t at *
  have h1 : W ^ (j + 1) * 2147483648 < W ^ (j + 1) * (t + 1) := by
    have h2 : 2 ^ n * (W ^ (j + 1) * 2 ^ (k - 1)) ≤ 2 ^ n * val b := Nat.mul_le_mul_left _ (by
      have := Nat.mul_le_mul_left (W ^ (j + 1)) b1
      omega)
    rw [Nat.mul_left_comm, e2] at h2
    rw [Nat.mul_add (W ^ (j + 1)) t 1]
    omega
  have := Nat.lt_of_mul_lt_mul_left h1
  omega

/-- What is known where the digits from place k on have been found. -/
structure DivInv (U0 v Q U : List Nat) (k : Nat) : Prop where
  len : U.length = U0.length
  wU : Words U
  wQ : Words Q
  low : U.take k = U0.take k
  lt : val (U.drop k) < val v
  eq : val (Q.drop k) * val v + val (U.drop k) = val (U0.drop k)

theorem DivInv.start {U0 v Q : List Nat} {a b n k : Nat} (hU : Words U0) (hv : Words v) (hk : Q.length = k) (hQ : Words Q) (hl : U0.length = k + v.length) (hlv : 0 < v.length) (hN : val U0 = 2 ^ n * a) (hB : val v = 2 ^ n * b)
    (ha : a < W ^ (k + v.length - 1)) (hb : W ^ (v.length - 1) ≤ b) : DivInv U0 v Q U0 k := by
  refine ⟨rfl, hU, hQ, rfl, ?_, ?_⟩
  · rw [← val_div hU, hN, hB]
    apply Nat.div_lt_of_lt_mul
    have e : W ^ k * (2 ^ n * W ^ (v.length - 1)) = 2 ^ n * W ^ (k + v.length - 1) := by
      rw [Nat.mul_left_comm, ← Nat.pow_add]; congr 2; omega
    have h1 : 2 ^ n * a < 2 ^ n * W ^ (k + v.length - 1) := Nat.mul_lt_mul_of_pos_left ha (Nat.two_pow_pos n)
    have h2 : W ^ k * (2 ^ n * W ^ (v.length - 1)) ≤ W ^ k * (2 ^ n * b) := Nat.mul_le_mul_left _ (Nat.mul_le_mul_left _ hb)
    omega
  · rw [List.drop_eq_nil_of_le (by omega)]
    simp

/-- The window of place j. -/
def dwin (U : List Nat) (j lv : Nat) : List Nat := (U.drop j).take (lv + 1)
theorem dwin_split (U : List Nat) (j lv : Nat) : U.take j ++ dwin U j lv ++ U.drop (j + (lv + 1)) = U := by
  unfold dwin
  rw [List.append_assoc, ← List.drop_drop, List.take_append_drop, List.take_append_drop]
theorem dwin_length {U : List Nat} {j lv : Nat} (h : j + lv + 1 ≤ U.length) : (dwin U j lv).length = lv + 1 := by unfold dwin; simp; omega
theorem dwin_words {U : List Nat} (h : Words U) (j lv : Nat) : Words (dwin U j lv) := words_take (words_drop h _) _

theorem val_drop_succ (U : List Nat) (j : Nat) : val (U.drop j) = U.getD j 0 + W * val (U.drop (j + 1)) := by
  by_cases h : j < U.length
  · rw [List.drop_eq_getElem_cons h, val_cons]; simp [h]
  · rw [List.drop_eq_nil_of_le (by omega), List.drop_eq_nil_of_le (by omega), getD_ge U j (by omega)]; simp

theorem DivInv.high {U0 v Q U : List Nat} {j : Nat} (h : DivInv U0 v Q U (j + 1)) (hv : Words v) : val (U.drop (j + (v.length + 1))) = 0 ∧ val (dwin U j v.length) = val (U.drop j) ∧ val (dwin U j v.length) < W * val v := by
  have h1 := val_split (U.drop (j + 1)) v.length
  have h2 := val_lt hv
  have h3 := h.lt
  rw [List.drop_drop] at h1
  have e : j + 1 + v.length = j + (v.length + 1) := by omega
  rw [e] at h1
  have hz : val (U.drop (j + (v.length + 1))) = 0 := by
    apply Classical.byContradiction
    intro hne
    have : W ^ v.length * 1 ≤ W ^ v.length * val (U.drop (j + (v.length + 1))) := Nat.mul_le_mul_left _ (by omega)
    omega
  have h4 := val_split (U.drop j) (v.length + 1)
  rw [List.drop_drop, hz, Nat.mul_zero, Nat.add_zero] at h4
  refine ⟨hz, h4.symm, ?_⟩
  show val ((U.drop j).take (v.length + 1)) < _
  rw [← h4, val_drop_succ]
  have hw := words_get h.wU j
  have : W * (val (U.drop (j + 1)) + 1) ≤ W * val v := Nat.mul_le_mul_left _ h3
  rw [Nat.mul_add] at this
  omega

theorem DivInv.step {U0 v Q U uw' : List Nat} {j q : Nat} (h : DivInv U0 v Q U (j + 1)) (hv : Words v) (hj : j + v.length + 1 ≤ U.length) (hjQ : j < Q.length) (hl : uw'.length = v.length + 1) (hw : Words uw') (hq : q = val (dwin U j v.length) / val v) (hqw : q < W)
    (hr : val uw' = val (dwin U j v.length) % val v) (hpos : 0 < val v) : DivInv U0 v (Q.set j q) (U.take j ++ uw' ++ U.drop (j + (v.length + 1))) j := by
  obtain ⟨h1, h2, h3⟩ := h.high hv
  have ht : (U.take j).length = j := by rw [List.length_take, Nat.min_eq_left (by omega)]
  have hd : (U.take j ++ uw' ++ U.drop (j + (v.length + 1))).drop j = uw' ++ U.drop (j + (v.length + 1)) := by
    rw [List.append_assoc, List.drop_append_of_le_length (by omega), List.drop_of_length_le (by omega), List.nil_append]
  have hdv : val ((U.take j ++ uw' ++ U.drop (j + (v.length + 1))).drop j) = val uw' := by rw [hd, val_append, h1]; simp
  refine ⟨?_, words_append.2 ⟨words_append.2 ⟨words_take h.wU j, hw⟩, words_drop h.wU _⟩, words_set h.wQ _ _ hqw, ?_, ?_, ?_⟩
  · rw [← h.len, List.length_append, List.length_append, ht, hl, List.length_drop]; omega
  · rw [List.append_assoc, List.take_append_of_le_length (by omega), List.take_of_length_le (by omega)]
    have := congrArg (List.take j) h.low
    rw [List.take_take, List.take_take, Nat.min_eq_left (by omega)] at this
    exact this
  · rw [hdv, hr]; exact Nat.mod_lt _ hpos
  · rw [hdv]
    have e1 : val ((Q.set j q).drop j) = q + W * val (Q.drop (j + 1)) := by
      rw [val_drop_succ]
      congr 1
      · simp [hjQ]
      · rw [List.drop_set_of_lt (by omega)]
    have e2 : U.getD j 0 = U0.getD j 0 := by
      have := congrArg (fun l => l.getD j 0) h.low
      simpa [List.getD_eq_getElem?_getD, List.getElem?_take] using this
    have h4 := Nat.div_add_mod (val (dwin U j v.length)) (val v)
    rw [← hq, ← hr] at h4
    rw [e1, Nat.add_mul, Nat.mul_assoc W, val_drop_succ U0 j, ← h.eq, Nat.mul_add]
    have h5 : val (dwin U j v.length) = U.getD j 0 + W * val (U.drop (j + 1)) := by rw [h2, val_drop_succ]
    rw [Nat.mul_comm (val v) q] at h4
    omega

theorem DivInv.fin {U0 v Q U : List Nat} {a b n : Nat} (h : DivInv U0 v Q U 0) (hN : val U0 = 2 ^ n * a) (hB : val v = 2 ^ n * b) (hb : 0 < b) : val Q = a / b ∧ val U = 2 ^ n * (a % b) := by
  have h1 := h.eq
  have h2 := h.lt
  simp only [List.drop_zero] at h1 h2
  rw [hN, hB] at h1
  rw [hB] at h2
  have hp : 0 < 2 ^ n * b := Nat.mul_pos (Nat.two_pow_pos n) hb
  have h3 : val Q = 2 ^ n * a / (2 ^ n * b) := by
    rw [← h1, Nat.mul_comm (val Q), Nat.mul_add_div hp, Nat.div_eq_of_lt h2, Nat.add_zero]
  have h4 : val U = 2 ^ n * a % (2 ^ n * b) := by
    rw [← h1, Nat.mul_comm (val Q), Nat.mul_add_mod, Nat.mod_eq_of_lt h2]
  rw [Nat.mul_div_mul_left _ _ (Nat.two_pow_pos n)] at h3
  rw [Nat.mul_mod_mul_left] at h4
  exact ⟨h3, h4⟩

/-- The rest, brought back. -/
theorem rest_back {U o : List Nat} {n r : Nat} (hU : Words U) (hn : n < 32) (hr : val U = 2 ^ n * r) (hlt : r < W ^ o.length) (ho : ∀ i, i < o.length → o.getD i 0 = ((U.getD (i + 1) 0 * W + U.getD i 0) / 2 ^ n) % W) : val o = r := by
  have hd : 2 ^ n ∣ W := ⟨2 ^ (32 - n), by rw [← Nat.pow_add, show n + (32 - n) = 32 by omega]; rfl⟩
  have h1 := val_of_digits o r (fun i hi => by
    rw [ho i hi, shift_right hU (Nat.two_pow_pos n) hd i, hr, Nat.mul_div_cancel_left _ (Nat.two_pow_pos n)])
  rw [h1, Nat.mod_eq_of_lt hlt]

end Sac
