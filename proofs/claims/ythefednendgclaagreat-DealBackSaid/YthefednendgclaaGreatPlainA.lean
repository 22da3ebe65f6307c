/-
  Numbers as rows of words of 32 bits, the lowest first: what a row is worth, rows without a leading zero, and how such rows are told apart. No program in sight.
-/
set_option linter.unusedVariables false
set_option linter.unusedSimpArgs false
namespace Sac

def W : Nat := 4294967296
theorem W_pos : 0 < W := by unfold W; omega

/-- What a row of words is worth. -/
def val : List Nat → Nat
  | [] => 0
  | x :: r => x + W * val r

/-- Each of them is a word. -/
def Words (l : List Nat) : Prop := ∀ x ∈ l, x < W

/-- The last one, if there is one, is not 0. -/
def Tight (l : List Nat) : Prop := ∀ h : l ≠ [], l.getLast h ≠ 0

theorem words_nil : Words [] := fun _ h => by cases h
theorem words_cons {x : Nat} {r : List Nat} : Words (x :: r) ↔ x < W ∧ Words r := by
  constructor
  · intro h; exact ⟨h x (by simp), fun y hy => h y (by simp [hy])⟩
  · rintro ⟨h1, h2⟩ y hy
    rcases List.mem_cons.1 hy with rfl | hy
    · exact h1
    · exact h2 y hy
theorem words_append {a b : List Nat} : Words (a ++ b) ↔ Words a ∧ Words b := by
  constructor
  · intro h; exact ⟨fun x hx => h x (by simp [hx]), fun x hx => h x (by simp [hx])⟩
  · rintro ⟨h1, h2⟩ x hx
    rcases List.mem_append.1 hx with hx | hx
    · exact h1 x hx
    · exact h2 x hx
theorem words_take {l : List Nat} (h : Words l) (k : Nat) : Words (l.take k) := fun x hx => h x (List.mem_of_mem_take hx)
theorem words_drop {l : List Nat} (h : Words l) (k : Nat) : Words (l.drop k) := fun x hx => h x (List.mem_of_mem_drop hx)
theorem words_get {l : List Nat} (h : Words l) (i : Nat) : l.getD i 0 < W := by
  by_cases hi : i < l.length
  · rw [List.getD_eq_getElem?_getD, List.getElem?_eq_getElem hi]; exact h _ (List.getElem_mem hi)
  · rw [List.getD_eq_getElem?_getD, List.getElem?_eq_none (by omega)]; exact W_pos
theorem words_set {l : List Nat} (h : Words l) (i x : Nat) (hx : x < W) : Words (l.set i x) := by
  intro y hy
  rcases List.mem_or_eq_of_mem_set hy with hy | rfl
  · exact h y hy
  · exact hx
theorem words_replicate (n : Nat) : Words (List.replicate n 0) := fun x hx => by rw [List.eq_of_mem_replicate hx]; exact W_pos

@[simp] theorem val_nil : val [] = 0 := rfl
theorem val_cons (x : Nat) (r : List Nat) : val (x :: r) = x + W * val r := rfl
theorem val_append (a b : List Nat) : val (a ++ b) = val a + W ^ a.length * val b := by
  induction a with
  | nil => simp
  | cons x a ih =>
    simp only [List.cons_append, val_cons, ih, List.length_cons, Nat.pow_succ]
    rw [Nat.mul_add, ← Nat.mul_assoc, Nat.mul_comm W (W ^ a.length), Nat.add_assoc]
theorem val_snoc (a : List Nat) (x : Nat) : val (a ++ [x]) = val a + W ^ a.length * x := by rw [val_append, val_cons]; simp
theorem val_replicate (n : Nat) : val (List.replicate n 0) = 0 := by
  induction n with
  | zero => rfl
  | succ n ih => rw [List.replicate_succ, val_cons, ih]; simp
theorem val_lt {l : List Nat} (h : Words l) : val l < W ^ l.length := by
  induction l with
  | nil => simp
  | cons x r ih =>
    obtain ⟨h1, h2⟩ := words_cons.1 h
    have h3 := ih h2
    rw [val_cons, List.length_cons, Nat.pow_succ, Nat.mul_comm (W ^ r.length) W]
    calc x + W * val r < W + W * val r := by omega
      _ = W * (val r + 1) := by rw [Nat.mul_add]; omega
      _ ≤ W * W ^ r.length := Nat.mul_le_mul_left _ h3

theorem take_succ_getD (l : List Nat) (k : Nat) (h : k < l.length) : l.take (k + 1) = l.take k ++ [l.getD k 0] := by
  rw [List.take_succ_eq_append_getElem h]; simp [h]
theorem val_take_succ (l : List Nat) (k : Nat) (h : k < l.length) : val (l.take (k + 1)) = val (l.take k) + W ^ k * l.getD k 0 := by
  rw [take_succ_getD l k h, val_snoc, List.length_take, Nat.min_eq_left (by omega)]
theorem val_take_ge (l : List Nat) (k : Nat) (h : l.length ≤ k) : l.take k = l := List.take_of_length_le h
theorem getD_ge (l : List Nat) (k : Nat) (h : l.length ≤ k) : l.getD k 0 = 0 := by simp [h]
/-- A word more of a row, whether it is there or not. -/
theorem val_take_succ' (l : List Nat) (k : Nat) : val (l.take (k + 1)) = val (l.take k) + W ^ k * l.getD k 0 := by
  by_cases h : k < l.length
  · exact val_take_succ l k h
  · rw [val_take_ge l (k + 1) (by omega), val_take_ge l k (by omega), getD_ge l k (by omega)]; simp
theorem val_split (l : List Nat) (k : Nat) : val l = val (l.take k) + W ^ k * val (l.drop k) := by
  by_cases h : k ≤ l.length
  · conv => lhs; rw [← List.take_append_drop k l, val_append]
    rw [List.length_take, Nat.min_eq_left h]
  · rw [val_take_ge l k (by omega), List.drop_eq_nil_of_le (by omega)]; simp

theorem tight_nil : Tight [] := fun h => absurd rfl h
theorem tight_snoc (a : List Nat) (x : Nat) : Tight (a ++ [x]) ↔ x ≠ 0 := by
  unfold Tight
  constructor
  · intro h; have := h (by simp); simpa using this
  · intro h _; simpa using h
theorem tight_lower {l : List Nat} (ht : Tight l) (hn : l ≠ []) : W ^ (l.length - 1) ≤ val l := by
  obtain ⟨a, x, rfl⟩ : ∃ a x, l = a ++ [x] := ⟨l.dropLast, l.getLast hn, (List.dropLast_concat_getLast hn).symm⟩
  have hx := (tight_snoc a x).1 ht
  rw [val_snoc]
  simp only [List.length_append, List.length_cons, List.length_nil, Nat.add_sub_cancel]
  calc W ^ a.length = W ^ a.length * 1 := by omega
    _ ≤ W ^ a.length * x := Nat.mul_le_mul_left _ (by omega)
    _ ≤ _ := Nat.le_add_left _ _
theorem tight_zero {l : List Nat} (ht : Tight l) : val l = 0 ↔ l = [] := by
  constructor
  · intro h
    by_cases hn : l = []
    · exact hn
    · have := tight_lower ht hn
      have := Nat.pow_pos (n := l.length - 1) W_pos
      omega
  · rintro rfl; rfl
/-- The longer row without a leading zero is worth more. -/
theorem val_lt_of_length {a b : List Nat} (ha : Words a) (hb : Tight b) (h : a.length < b.length) : val a < val b := by
  have h1 := val_lt ha
  have h2 := tight_lower hb (by intro e; subst e; simp at h)
  have h3 : W ^ a.length ≤ W ^ (b.length - 1) := Nat.pow_le_pow_right W_pos (by omega)
  omega
theorem val_inj_len : ∀ {a b : List Nat}, Words a → Words b → a.length = b.length → val a = val b → a = b
  | [], [], _, _, _, _ => rfl
  | x :: a, y :: b, ha, hb, hl, hv => by
    obtain ⟨h1, h2⟩ := words_cons.1 ha
    obtain ⟨h3, h4⟩ := words_cons.1 hb
    rw [val_cons, val_cons] at hv
    have hxy : x = y := by
      have := congrArg (· % W) hv
      simp only [Nat.add_mul_mod_self_left] at this
      rwa [Nat.mod_eq_of_lt h1, Nat.mod_eq_of_lt h3] at this
    subst hxy
    have hr : val a = val b := Nat.eq_of_mul_eq_mul_left W_pos (by omega)
    rw [val_inj_len h2 h4 (by simpa using hl) hr]
theorem val_inj {a b : List Nat} (ha : Words a) (hb : Words b) (ta : Tight a) (tb : Tight b) (h : val a = val b) : a = b := by
  refine val_inj_len ha hb ?_ h
  rcases Nat.lt_trichotomy a.length b.length with hl | hl | hl
  · have := val_lt_of_length ha tb hl; omega
  · exact hl
  · have := val_lt_of_length hb ta hl; omega

/-- The row without what is 0 at its end. -/
def trim (l : List Nat) : List Nat := (l.reverse.dropWhile (fun x => x == 0)).reverse

theorem trim_nil : trim [] = [] := rfl
theorem trim_snoc (a : List Nat) (x : Nat) : trim (a ++ [x]) = if x = 0 then trim a else a ++ [x] := by
  unfold trim
  rw [List.reverse_append]
  simp only [List.reverse_cons, List.reverse_nil, List.nil_append, List.cons_append, List.dropWhile_cons, beq_iff_eq]
  split
  · rfl
  · simp

theorem snoc_induction {p : List Nat → Prop} (h0 : p []) (h1 : ∀ a x, p a → p (a ++ [x])) (l : List Nat) : p l := by
  have : ∀ r : List Nat, p r.reverse := by
    intro r
    induction r with
    | nil => exact h0
    | cons x r ih => rw [List.reverse_cons]; exact h1 _ x ih
  have h := this l.reverse
  rwa [List.reverse_reverse] at h

theorem val_trim (l : List Nat) : val (trim l) = val l := by
  refine snoc_induction (p := fun l => val (trim l) = val l) rfl (fun a x ih => ?_) l
  rw [trim_snoc]
  split
  · rename_i h; subst h; rw [ih, val_snoc]; simp
  · rfl
theorem tight_trim (l : List Nat) : Tight (trim l) := by
  refine snoc_induction (p := fun l => Tight (trim l)) tight_nil (fun a x ih => ?_) l
  rw [trim_snoc]
  split
  · exact ih
  · rename_i h; exact (tight_snoc a x).2 h
theorem words_trim {l : List Nat} : Words l → Words (trim l) := by
  refine snoc_induction (p := fun l => Words l → Words (trim l)) (fun h => h) (fun a x ih h => ?_) l
  rw [trim_snoc]
  split
  · exact ih (words_append.1 h).1
  · exact h
theorem trim_tight (l : List Nat) (h : Tight l) : trim l = l := by
  by_cases hn : l = []
  · subst hn; rfl
  · obtain ⟨a, x, rfl⟩ : ∃ a x, l = a ++ [x] := ⟨l.dropLast, l.getLast hn, (List.dropLast_concat_getLast hn).symm⟩
    rw [trim_snoc, if_neg ((tight_snoc a x).1 h)]
theorem trim_length_le (l : List Nat) : (trim l).length ≤ l.length := by
  refine snoc_induction (p := fun l => (trim l).length ≤ l.length) (Nat.le_refl _) (fun a x ih => ?_) l
  rw [trim_snoc]
  split
  · simp; omega
  · simp
/-- What is stripped is 0: so the row is what is left, and then zeros. -/
theorem trim_take (l : List Nat) : trim l = l.take (trim l).length := by
  refine snoc_induction (p := fun l => trim l = l.take (trim l).length) rfl (fun a x ih => ?_) l
  rw [trim_snoc]
  split
  · rw [List.take_append_of_le_length (trim_length_le a)]; exact ih
  · rw [List.take_length]

theorem exists_row (n : Nat) : ∃ l, Words l ∧ Tight l ∧ val l = n := by
  induction n using Nat.strongRecOn with
  | ind n ih =>
    by_cases h : n = 0
    · exact ⟨[], words_nil, tight_nil, by rw [h]; rfl⟩
    · obtain ⟨l, h1, h2, h3⟩ := ih (n / W) (Nat.div_lt_self (Nat.pos_of_ne_zero h) (by unfold W; omega))
      refine ⟨trim ((n % W) :: l), words_trim (words_cons.2 ⟨Nat.mod_lt _ W_pos, h1⟩), tight_trim _, ?_⟩
      rw [val_trim, val_cons, h3]
      exact Nat.mod_add_div n W

theorem wpow_le {k N : Nat} (h : k ≤ N) : W ^ k ≤ W ^ N := Nat.pow_le_pow_right (by decide) h
theorem lt_wpow {x k N : Nat} (hx : x < W ^ k) (h : k ≤ N) : x < W ^ N := Nat.lt_of_lt_of_le hx (wpow_le h)
theorem two_pos (k : Nat) : 0 < 2 ^ k := Nat.pow_pos (by decide)
theorem one_two {k : Nat} (h : 0 < k) : 1 < 2 ^ k := Nat.one_lt_two_pow (by omega)
theorem lt_twop {x k N : Nat} (hx : x < 2 ^ k) (h : k ≤ N) : x < 2 ^ N := Nat.lt_of_lt_of_le hx (Nat.pow_le_pow_right (by decide) h)
end Sac
/-
  What one round of each of the number's loops does to the rows: sum, difference, product, shift, division by one word. No program in sight.
-/
namespace Sac

theorem val_set : ∀ (l : List Nat) (i x : Nat), i < l.length → val (l.set i x) + W ^ i * l.getD i 0 = val l + W ^ i * x
  | [], i, x, h => by simp at h
  | y :: l, 0, x, _ => by simp [val_cons]; omega
  | y :: l, i + 1, x, h => by
    have ih := val_set l i x (by simpa using h)
    simp only [List.set_cons_succ, val_cons, List.getD_cons_succ, Nat.pow_succ]
    have h1 : W * (val (l.set i x) + W ^ i * l.getD i 0) = W * (val l + W ^ i * x) := by rw [ih]
    rw [Nat.mul_add, Nat.mul_add, ← Nat.mul_assoc, ← Nat.mul_assoc, Nat.mul_comm W (W ^ i)] at h1
    omega

theorem split_word (p s : Nat) : p * (s % W) + p * W * (s / W) = p * s := by
  rw [Nat.mul_assoc, ← Nat.mul_add, Nat.mod_add_div]

theorem add_step {o a b : List Nat} {k c s : Nat} (ho : o.length = k) (hv : val o + W ^ k * c = val (a.take k) + val (b.take k)) (hs : s = c + a.getD k 0 + b.getD k 0) :
    val (o ++ [s % W]) + W ^ (k + 1) * (s / W) = val (a.take (k + 1)) + val (b.take (k + 1)) := by
  rw [val_snoc, ho, val_take_succ', val_take_succ', Nat.pow_succ]
  have h1 := split_word (W ^ k) s
  have h2 : W ^ k * s = W ^ k * c + W ^ k * a.getD k 0 + W ^ k * b.getD k 0 := by rw [hs, Nat.mul_add, Nat.mul_add]
  omega

/-- One word of a difference: what is written, and what is borrowed. -/
def subWord (x y bo : Nat) : Nat × Nat := if x < y + bo then (x + W - y - bo, 1) else (x - y - bo, 0)

theorem sub_step {o a b : List Nat} {k bo : Nat} (ho : o.length = k) (hv : val o + val (b.take k) = val (a.take k) + W ^ k * bo) (hy : b.getD k 0 < W) (hbo : bo ≤ 1) :
    val (o ++ [(subWord (a.getD k 0) (b.getD k 0) bo).1]) + val (b.take (k + 1)) = val (a.take (k + 1)) + W ^ (k + 1) * (subWord (a.getD k 0) (b.getD k 0) bo).2 := by
  rw [val_snoc, ho, val_take_succ', val_take_succ', Nat.pow_succ]
  unfold subWord
  split
  · rename_i h
    show val o + W ^ k * (a.getD k 0 + W - b.getD k 0 - bo) + _ = _ + W ^ k * W * 1
    have e : W ^ k * (a.getD k 0 + W - b.getD k 0 - bo) + W ^ k * (b.getD k 0 + bo) = W ^ k * (a.getD k 0 + W) := by
      rw [← Nat.mul_add]; congr 1; omega
    rw [Nat.mul_add, Nat.mul_add] at e
    omega
  · rename_i h
    show val o + W ^ k * (a.getD k 0 - b.getD k 0 - bo) + _ = _ + W ^ k * W * 0
    have e : W ^ k * (a.getD k 0 - b.getD k 0 - bo) + W ^ k * (b.getD k 0 + bo) = W ^ k * (a.getD k 0) := by
      rw [← Nat.mul_add]; congr 1; omega
    rw [Nat.mul_add] at e
    omega

theorem subWord_lt {x y bo : Nat} (hx : x < W) : (subWord x y bo).1 < W := by
  unfold subWord; split
  · show x + W - y - bo < W; omega
  · show x - y - bo < W; omega
theorem subWord_le {x y bo : Nat} : (subWord x y bo).2 ≤ 1 := by
  unfold subWord; split
  · exact Nat.le_refl 1
  · exact Nat.zero_le 1

theorem sub_end {o a b : List Nat} {bo : Nat} (hv : val o + val b = val a + W ^ a.length * bo) (ho : o.length = a.length) (hw : Words o) (hab : val b ≤ val a) : val o = val a - val b ∧ bo = 0 := by
  have h1 := val_lt hw
  rw [ho] at h1
  have hbo : bo = 0 := by
    rcases Nat.eq_zero_or_pos bo with h | h
    · exact h
    · exfalso
      have : W ^ a.length * 1 ≤ W ^ a.length * bo := Nat.mul_le_mul_left _ h
      omega
  subst hbo
  simp at hv
  exact ⟨by omega, rfl⟩

/-- One word of a product's row: O is the row so far, V what it was worth as the row began. -/
theorem mul_step {O b : List Nat} {i k x c V s : Nat} (hik : i + k < O.length) (hv : val O + W ^ (i + k) * c = V + W ^ i * (x * val (b.take k)))
    (hs : s = c + x * b.getD k 0 + O.getD (i + k) 0) :
    val (O.set (i + k) (s % W)) + W ^ (i + (k + 1)) * (s / W) = V + W ^ i * (x * val (b.take (k + 1))) := by
  have h1 := val_set O (i + k) (s % W) hik
  have h2 := split_word (W ^ (i + k)) s
  have h3 : W ^ (i + k) * s = W ^ (i + k) * c + W ^ (i + k) * (x * b.getD k 0) + W ^ (i + k) * O.getD (i + k) 0 := by rw [hs, Nat.mul_add, Nat.mul_add]
  have h4 : W ^ i * (x * val (b.take (k + 1))) = W ^ i * (x * val (b.take k)) + W ^ (i + k) * (x * b.getD k 0) := by
    rw [val_take_succ', Nat.mul_add, Nat.mul_add, Nat.pow_add]
    congr 1
    rw [Nat.mul_left_comm x, ← Nat.mul_assoc (W ^ i)]
  rw [show i + (k + 1) = i + k + 1 by omega, Nat.pow_succ, h4]
  omega

/-- .. and its last word, where there was nothing yet. -/
theorem mul_end {O b : List Nat} {i x c V : Nat} (hlen : i + b.length < O.length) (hv : val O + W ^ (i + b.length) * c = V + W ^ i * (x * val b)) (h0 : O.getD (i + b.length) 0 = 0) :
    val (O.set (i + b.length) c) = V + W ^ i * (x * val b) := by
  have h1 := val_set O (i + b.length) c hlen
  rw [h0] at h1
  omega

theorem mul_row {a b : List Nat} {i : Nat} : val (a.take i) * val b + W ^ i * (a.getD i 0 * val b) = val (a.take (i + 1)) * val b := by
  rw [val_take_succ', Nat.add_mul, Nat.mul_assoc]

theorem mul_room {x y c o : Nat} (hx : x < W) (hy : y < W) (hc : c < W) (ho : o < W) : c + x * y + o < W * W := by
  have h1 : x * y ≤ (W - 1) * (W - 1) := Nat.mul_le_mul (by omega) (by omega)
  unfold W at *
  omega

end Sac
/-
  Division by rows, plainly told: one digit (the guess, that it is right or one too great, what is taken away and added back), the shift, and the row of all digits. No program in sight.
-/
namespace Sac

/-- The guess: while it is too great for the two highest words (and the next), it is lowered. -/
theorem guess_low {q0 v1 v2 top u2 q r : Nat} (hinv : q * v1 + r = top) (h : W ≤ q ∨ r * W + u2 < q * v2) (hq0 : q0 < W) (hv : q0 * (v1 * W + v2) ≤ top * W + u2) (hv1 : 0 < v1) : q0 + 1 ≤ q := by
  rcases h with h | h
  · omega
  · apply Nat.lt_of_not_le
    intro hle
    have h1 : q * (v1 * W + v2) ≤ q0 * (v1 * W + v2) := Nat.mul_le_mul_right _ hle
    have h2 : q * (v1 * W + v2) = (q * v1) * W + q * v2 := by rw [Nat.mul_add, Nat.mul_assoc]
    have h3 : top * W = (q * v1) * W + r * W := by rw [← hinv, Nat.add_mul]
    omega

/-- Behind the loop: the guess is a word, and no greater than the three highest words allow. -/
theorem guess_end {v1 v2 top u2 q r : Nat} (hinv : q * v1 + r = top) (htop : top < (v1 + 1) * W) (hv2 : v2 < W) (h : (q < W ∧ q * v2 ≤ r * W + u2) ∨ W ≤ r) : q < W ∧ q * (v1 * W + v2) ≤ top * W + u2 := by
  have h2 : q * (v1 * W + v2) = (q * v1) * W + q * v2 := by rw [Nat.mul_add, Nat.mul_assoc]
  have h3 : top * W = (q * v1) * W + r * W := by rw [← hinv, Nat.add_mul]
  rcases h with ⟨h, h'⟩ | h
  · exact ⟨h, by omega⟩
  · have hq : q < W := by
      apply Nat.lt_of_not_le
      intro hle
      have : W * v1 ≤ q * v1 := Nat.mul_le_mul_right _ hle
      rw [Nat.add_mul, Nat.mul_comm v1 W] at htop
      omega
    refine ⟨hq, ?_⟩
    have h4 : q * v2 ≤ W * W := Nat.mul_le_mul (by omega) (by omega)
    have h5 : W * W ≤ r * W := Nat.mul_le_mul_right _ h
    omega

/-- The guess is the digit, or one more: p is W to the number of the lower words. -/
theorem guess_near {u v p q q0 v12 u3 : Nat} (hq0 : q0 * v ≤ u) (hq1 : u < (q0 + 1) * v) (hv : v < (v12 + 1) * p) (hu : u3 * p ≤ u) (hg : q * v12 ≤ u3) (hqW : q < W) (hbig : W ≤ v12) : q ≤ q0 + 1 := by
  apply Nat.le_of_not_lt
  intro hle
  obtain ⟨t, rfl⟩ : ∃ t, q = t + 1 := ⟨q - 1, by omega⟩
  have h1 : (q0 + 1) * v ≤ t * v := Nat.mul_le_mul_right _ (by omega)
  have h2 : t * v ≤ t * ((v12 + 1) * p) := Nat.mul_le_mul_left _ (by omega)
  have h3 : (t + 1) * v12 * p ≤ u3 * p := Nat.mul_le_mul_right _ hg
  have h4 : (t + 1) * v12 * p < t * (v12 + 1) * p := by
    rw [← Nat.mul_assoc] at h2
    omega
  have h5 : (t + 1) * v12 < t * (v12 + 1) := Nat.lt_of_mul_lt_mul_right h4
  rw [Nat.add_mul, Nat.mul_add] at h5
  omega

/-- The row of the three highest words: u is at least that. -/
theorem guess_digit {u v p v12 u3 q0 : Nat} (hq0 : q0 * v ≤ u) (hv : v12 * p ≤ v) (hu : u < (u3 + 1) * p) : q0 * v12 ≤ u3 := by
  apply Nat.le_of_not_lt
  intro h
  have h1 : (u3 + 1) * p ≤ q0 * v12 * p := Nat.mul_le_mul_right _ h
  have h2 : q0 * v12 * p ≤ q0 * v := by rw [Nat.mul_assoc]; exact Nat.mul_le_mul_left _ hv
  omega

/-! ### What is taken away: q times v from u, word by word -/

/-- One round: x the word of u, s the sum that stands over (the carry and q times v's word), bo what is borrowed. -/
def takeWord (x s bo : Nat) : Nat × Nat × Nat := ((subWord x (s % W) bo).1, s / W, (subWord x (s % W) bo).2)

theorem take_step {o u v : List Nat} {k q c bo s : Nat} (ho : o.length = k) (hv : val o + q * val (v.take k) = val (u.take k) + W ^ k * (c + bo)) (hs : s = c + q * v.getD k 0) (hbo : bo ≤ 1) :
    val (o ++ [(takeWord (u.getD k 0) s bo).1]) + q * val (v.take (k + 1)) = val (u.take (k + 1)) + W ^ (k + 1) * ((takeWord (u.getD k 0) s bo).2.1 + (takeWord (u.getD k 0) s bo).2.2) := by
  have hm : s % W < W := Nat.mod_lt _ W_pos
  have h1 : W ^ k * (subWord (u.getD k 0) (s % W) bo).1 + W ^ k * (s % W + bo) = W ^ k * (u.getD k 0) + W ^ k * W * (subWord (u.getD k 0) (s % W) bo).2 := by
    unfold subWord
    split
    · rename_i h
      show W ^ k * (u.getD k 0 + W - s % W - bo) + _ = _ + W ^ k * W * 1
      have : W ^ k * (u.getD k 0 + W - s % W - bo) + W ^ k * (s % W + bo) = W ^ k * (u.getD k 0 + W) := by rw [← Nat.mul_add]; congr 1; omega
      rw [this, Nat.mul_add]; omega
    · rename_i h
      show W ^ k * (u.getD k 0 - s % W - bo) + _ = _ + W ^ k * W * 0
      have : W ^ k * (u.getD k 0 - s % W - bo) + W ^ k * (s % W + bo) = W ^ k * (u.getD k 0) := by rw [← Nat.mul_add]; congr 1; omega
      rw [this]; omega
  have h2 := split_word (W ^ k) s
  have h3 : W ^ k * s = W ^ k * c + W ^ k * (q * v.getD k 0) := by rw [hs, Nat.mul_add]
  have h4 : q * val (v.take (k + 1)) = q * val (v.take k) + W ^ k * (q * v.getD k 0) := by rw [val_take_succ', Nat.mul_add, Nat.mul_left_comm]
  rw [val_snoc, ho, val_take_succ' u, h4, Nat.pow_succ]
  unfold takeWord
  simp only [Nat.mul_add] at h1 hv ⊢
  omega

/-- The last word: d = x - c - bo, below 0 or not. -/
theorem take_end {o u v : List Nat} {q c bo : Nat} (hlen : u.length = v.length + 1) (ho : o.length = v.length) (hv : val o + q * val v = val (u.take v.length) + W ^ v.length * (c + bo))
    (hw : Words o) (hwu : Words u) (hc : c < W) (hbo : bo ≤ 1) :
    let x := u.getD v.length 0
    (x < c + bo → val u < q * val v ∧ val (o ++ [(x + W - c - bo) % W]) + q * val v = val u + W ^ u.length) ∧
    (¬ x < c + bo → val (o ++ [x - c - bo]) + q * val v = val u) := by
  intro x
  have hx : x < W := words_get hwu _
  have hu : val u = val (u.take v.length) + W ^ v.length * x := by
    have := val_take_succ' u v.length
    rwa [val_take_ge u (v.length + 1) (by omega)] at this
  have hol := val_lt hw
  rw [ho] at hol
  constructor
  · intro h
    have h1 : val u < q * val v := by
      have : W ^ v.length * (x + 1) ≤ W ^ v.length * (c + bo) := Nat.mul_le_mul_left _ h
      rw [Nat.mul_add] at this
      omega
    refine ⟨h1, ?_⟩
    have hp : W ^ u.length = W ^ v.length * W := by rw [hlen, Nat.pow_succ]
    rw [val_snoc, ho, hp]
    by_cases e : c + bo = x + W
    · -- nothing is left of the last word
      have : (x + W - c - bo) % W = 0 := by rw [show x + W - c - bo = 0 by omega]; rfl
      rw [this]
      have : W ^ v.length * (c + bo) = W ^ v.length * x + W ^ v.length * W := by rw [e, Nat.mul_add]
      omega
    · have hlt : x + W - c - bo < W := by omega
      rw [Nat.mod_eq_of_lt hlt]
      have : W ^ v.length * (x + W - c - bo) + W ^ v.length * (c + bo) = W ^ v.length * (x + W) := by rw [← Nat.mul_add]; congr 1; omega
      rw [Nat.mul_add] at this
      have h5 : W ^ v.length * (x + W) = W ^ v.length * x + W ^ v.length * W := Nat.mul_add ..
      simp only [Nat.mul_add] at *
      omega
  · intro h
    rw [val_snoc, ho]
    have : W ^ v.length * (x - c - bo) + W ^ v.length * (c + bo) = W ^ v.length * x := by rw [← Nat.mul_add]; congr 1; omega
    simp only [Nat.mul_add] at *
    omega

/-- What is added back: u' + v, less W to the length. -/
theorem back_end {o u v : List Nat} {c : Nat} (hlen : u.length = v.length + 1) (ho : o.length = v.length) (hv : val o + W ^ v.length * c = val (u.take v.length) + val v) (hw : Words o) (hwu : Words u) (hc : c ≤ 1)
    (hover : W ^ u.length ≤ val u + val v) (hlt : val u + val v < W ^ u.length + W ^ v.length) :
    val (o ++ [(u.getD v.length 0 + c) % W]) + W ^ u.length = val u + val v := by
  have hx : u.getD v.length 0 < W := words_get hwu _
  have hu : val u = val (u.take v.length) + W ^ v.length * u.getD v.length 0 := by
    have := val_take_succ' u v.length
    rwa [val_take_ge u (v.length + 1) (by omega)] at this
  have hol := val_lt hw
  rw [ho] at hol
  have hp : W ^ u.length = W ^ v.length * W := by rw [hlen, Nat.pow_succ]
  rw [val_snoc, ho]
  have hs : val u + val v = val o + W ^ v.length * (u.getD v.length 0 + c) := by rw [Nat.mul_add]; omega
  have hpp : 0 < W ^ v.length := Nat.pow_pos W_pos
  have hge : W ≤ u.getD v.length 0 + c := by
    apply Nat.le_of_not_lt
    intro h
    have : W ^ v.length * (u.getD v.length 0 + c + 1) ≤ W ^ v.length * W := Nat.mul_le_mul_left _ h
    rw [Nat.mul_add] at this
    omega
  have he : u.getD v.length 0 + c = W := by omega
  have hm : (u.getD v.length 0 + c) % W = 0 := by rw [he, Nat.mod_self]
  rw [hm, hp]
  rw [he] at hs
  omega

/-! ### The shift -/
/-- The row so many bits to the left: round k: lo is what of the last word has come over. -/
theorem shift_step {o l : List Nat} {k t lo : Nat} (ho : o.length = k) (hv : val o + W ^ k * lo = t * val (l.take k)) :
    val (o ++ [lo + (t * l.getD k 0) % W]) + W ^ (k + 1) * (t * l.getD k 0 / W) = t * val (l.take (k + 1)) := by
  rw [val_snoc, ho, val_take_succ', Nat.pow_succ, Nat.mul_add, Nat.mul_add]
  have h2 := split_word (W ^ k) (t * l.getD k 0)
  rw [Nat.mul_left_comm t]
  omega

theorem val_div {l : List Nat} (hw : Words l) (i : Nat) : val l / W ^ i = val (l.drop i) := by
  have h1 := val_split l i
  have h2 : val (l.take i) < W ^ i := by
    have h3 := val_lt (words_take hw i)
    have h4 : W ^ (l.take i).length ≤ W ^ i := Nat.pow_le_pow_right W_pos (by simp; omega)
    omega
  rw [h1, Nat.add_mul_div_left _ _ (Nat.pow_pos W_pos), Nat.div_eq_of_lt h2]
  omega

theorem drop_two (l : List Nat) (i : Nat) : ∃ R, val (l.drop i) = l.getD i 0 + W * (l.getD (i + 1) 0 + W * R) := by
  refine ⟨val (l.drop (i + 2)), ?_⟩
  have e : ∀ j, val (l.drop j) = l.getD j 0 + W * val (l.drop (j + 1)) := by
    intro j
    by_cases h : j < l.length
    · rw [List.drop_eq_getElem_cons h, val_cons]; simp [h]
    · rw [List.drop_eq_nil_of_le (by omega), List.drop_eq_nil_of_le (by omega), getD_ge l j (by omega)]; simp
  rw [e i, e (i + 1)]

/-- A word of a row, so many bits to the right, out of two words. -/
theorem shift_right {l : List Nat} (hw : Words l) {t : Nat} (ht : 0 < t) (htW : t ∣ W) (i : Nat) :
    ((l.getD (i + 1) 0 * W + l.getD i 0) / t) % W = (val l / t / W ^ i) % W := by
  obtain ⟨m, hm⟩ := htW
  obtain ⟨R, hR⟩ := drop_two l i
  rw [Nat.div_div_eq_div_mul, Nat.mul_comm t, ← Nat.div_div_eq_div_mul, val_div hw i, hR]
  have e : l.getD i 0 + W * (l.getD (i + 1) 0 + W * R) = l.getD (i + 1) 0 * W + l.getD i 0 + t * (m * (W * R)) := by
    rw [Nat.mul_add, ← Nat.mul_assoc t m, ← hm, Nat.mul_comm W (l.getD (i + 1) 0)]
    omega
  rw [e, Nat.add_mul_div_left _ _ ht]
  have e2 : m * (W * R) = W * (m * R) := by rw [Nat.mul_left_comm]
  rw [e2, Nat.add_mul_mod_self_left]

theorem val_of_digits : ∀ (o : List Nat) (N : Nat), (∀ i, i < o.length → o.getD i 0 = N / W ^ i % W) → val o = N % W ^ o.length
  | [], N, _ => by simp [Nat.mod_one]
  | x :: o, N, h => by
    have h0 := h 0 (by simp)
    simp at h0
    have ih := val_of_digits o (N / W) (fun i hi => by
      have := h (i + 1) (by simp; omega)
      simp only [List.getD_cons_succ] at this
      rw [this, Nat.pow_succ, Nat.mul_comm, Nat.div_div_eq_div_mul])
    rw [val_cons, ih, h0, List.length_cons, Nat.pow_succ, Nat.mul_comm (W ^ o.length) W, Nat.mod_mul]

end Sac
/-
  Polynomials over the numbers modulo a prime: one with as many roots as coefficients is nothing; so values at unlike places tell all. No program in sight.
-/
namespace Sac
namespace Poly

/-- The value of a row of coefficients. -/
def ev : List Int → Int → Int
  | [], _ => 0
  | a :: p, x => a + x * ev p x

/-- q divides a product only if it divides a factor. -/
def Prm (q : Int) : Prop := ∀ a b : Int, q ∣ a * b → q ∣ a ∨ q ∣ b

/-- What is left of a polynomial when (X - r) is taken out. -/
def quo (r : Int) : List Int → List Int
  | [] => []
  | [_] => []
  | _ :: b :: p => ev (b :: p) r :: quo r (b :: p)

theorem quo_length (r : Int) : ∀ p : List Int, (quo r p).length = p.length - 1
  | [] => rfl
  | [_] => rfl
  | _ :: b :: p => by
    have := quo_length r (b :: p)
    simp only [quo, List.length_cons] at *
    omega

theorem quo_ev (r : Int) : ∀ (p : List Int) (x : Int), ev p x = ev p r + (x - r) * ev (quo r p) x
  | [], x => by simp [ev, quo]
  | [a], x => by simp [ev, quo]
  | a :: b :: p, x => by
    have ih := quo_ev r (b :: p) x
    show a + x * ev (b :: p) x = (a + r * ev (b :: p) r) + (x - r) * (ev (b :: p) r + x * ev (quo r (b :: p)) x)
    rw [ih]
    generalize ev (b :: p) r = u
    generalize ev (quo r (b :: p)) x = v
    simp only [Int.mul_add, Int.sub_mul, Int.mul_sub, Int.mul_assoc]
    rw [Int.mul_left_comm x r v]
    omega

/-- The coefficients come back. -/
theorem quo_zero {q : Int} (r : Int) : ∀ p : List Int, (∀ c ∈ quo r p, q ∣ c) → q ∣ ev p r → ∀ c ∈ p, q ∣ c
  | [], _, _, c, hc => by cases hc
  | [a], _, hr, c, hc => by
    simp [ev] at hr
    simp at hc
    subst hc; exact hr
  | a :: b :: p, hq, hr, c, hc => by
    have h1 : q ∣ ev (b :: p) r := hq _ (by simp [quo])
    have h2 := quo_zero r (b :: p) (fun c hc => hq c (by simp [quo, hc])) h1
    rcases List.mem_cons.1 hc with rfl | hc
    · have h3 : q ∣ c + r * ev (b :: p) r := hr
      have h4 : q ∣ r * ev (b :: p) r := Int.dvd_trans h1 (Int.dvd_mul_left _ _)
      have := Int.dvd_sub h3 h4
      rwa [Int.add_sub_cancel] at this
    · exact h2 c hc

/-- A polynomial with at least as many unlike roots as coefficients is nothing. -/
theorem roots {q : Int} (hq : Prm q) : ∀ (xs p : List Int), p.length ≤ xs.length → xs.Pairwise (fun a b => ¬ q ∣ a - b) → (∀ x ∈ xs, q ∣ ev p x) → ∀ c ∈ p, q ∣ c
  | [], p, hl, _, _ => by
    have : p = [] := List.eq_nil_of_length_eq_zero (by simpa using hl)
    subst this
    intro c hc; cases hc
  | r :: xs, p, hl, hd, hr => by
    obtain ⟨hd1, hd2⟩ := List.pairwise_cons.1 hd
    have hpr : q ∣ ev p r := hr r (by simp)
    refine quo_zero r p (roots hq xs (quo r p) ?_ hd2 ?_) hpr
    · rw [quo_length]; simp at hl; omega
    · intro x hx
      have h1 : q ∣ ev p x := hr x (by simp [hx])
      rw [quo_ev r p x] at h1
      have h2 : q ∣ (x - r) * ev (quo r p) x := by
        have := Int.dvd_sub h1 hpr
        rwa [Int.add_comm, Int.add_sub_cancel] at this
      rcases hq _ _ h2 with h3 | h3
      · exfalso
        refine hd1 x hx ?_
        have := Int.dvd_neg.2 h3
        rwa [Int.neg_sub] at this
      · exact h3

theorem ev_dvd {q : Int} : ∀ (p : List Int) (x : Int), (∀ c ∈ p, q ∣ c) → q ∣ ev p x
  | [], x, _ => Int.dvd_zero q
  | a :: p, x, h => Int.dvd_add (h a (by simp)) (Int.dvd_trans (ev_dvd p x fun c hc => h c (by simp [hc])) (Int.dvd_mul_left _ _))

/-! ### Functions that are polynomials of at most n coefficients -/
def Deg (n : Nat) (f : Int → Int) : Prop := ∃ p : List Int, p.length ≤ n ∧ ∀ x, f x = ev p x

def addp : List Int → List Int → List Int
  | [], q => q
  | p, [] => p
  | a :: p, b :: q => (a + b) :: addp p q
theorem addp_length : ∀ p q : List Int, (addp p q).length = max p.length q.length
  | [], q => by simp [addp]
  | a :: p, [] => by simp [addp]
  | a :: p, b :: q => by simp only [addp, List.length_cons, addp_length p q]; omega
theorem ev_addp : ∀ (p q : List Int) (x : Int), ev (addp p q) x = ev p x + ev q x
  | [], q, x => by simp [addp, ev]
  | a :: p, [], x => by simp [addp, ev]
  | a :: p, b :: q, x => by
    simp only [addp, ev, ev_addp p q x, Int.mul_add]
    omega
theorem ev_scale (c : Int) : ∀ (p : List Int) (x : Int), ev (p.map (c * ·)) x = c * ev p x
  | [], x => by simp [ev]
  | a :: p, x => by
    simp only [List.map_cons, ev, ev_scale c p x, Int.mul_add]
    rw [Int.mul_left_comm]

theorem Deg.mono {m n : Nat} {f : Int → Int} (h : Deg m f) (hmn : m ≤ n) : Deg n f := by
  obtain ⟨p, hp, hf⟩ := h
  exact ⟨p, by omega, hf⟩
theorem Deg.add {n : Nat} {f g : Int → Int} (hf : Deg n f) (hg : Deg n g) : Deg n (fun x => f x + g x) := by
  obtain ⟨p, hp, hf⟩ := hf
  obtain ⟨q, hq, hg⟩ := hg
  exact ⟨addp p q, by rw [addp_length]; omega, fun x => by show f x + g x = _; rw [ev_addp, hf, hg]⟩
theorem Deg.scale {n : Nat} {f : Int → Int} (c : Int) (hf : Deg n f) : Deg n (fun x => c * f x) := by
  obtain ⟨p, hp, hf⟩ := hf
  exact ⟨p.map (c * ·), by simpa using hp, fun x => by show c * f x = _; rw [ev_scale, hf]⟩
theorem Deg.const (c : Int) : Deg 1 (fun _ => c) := ⟨[c], by simp, fun x => by simp [ev]⟩
theorem Deg.zero (n : Nat) : Deg n (fun _ => 0) := ⟨[], by simp, fun x => by simp [ev]⟩
theorem Deg.shift {n : Nat} {f : Int → Int} (hf : Deg n f) : Deg (n + 1) (fun x => x * f x) := by
  obtain ⟨p, hp, hf⟩ := hf
  exact ⟨0 :: p, by simpa using hp, fun x => by simp [ev, hf]⟩
theorem Deg.root {n : Nat} {f : Int → Int} (c : Int) (hf : Deg n f) : Deg (n + 1) (fun x => (x - c) * f x) := by
  have h := hf.shift.add ((hf.scale (-c)).mono (Nat.le_succ n))
  obtain ⟨p, hp, h⟩ := h
  refine ⟨p, hp, fun x => ?_⟩
  rw [← h x]
  show (x - c) * f x = x * f x + -c * f x
  rw [Int.sub_mul, Int.neg_mul]
  omega
theorem Deg.poly (p : List Int) : Deg p.length (ev p) := ⟨p, Nat.le_refl _, fun _ => rfl⟩

/-- Two polynomials that agree at enough unlike places agree everywhere. -/
theorem Deg.same {q : Int} (hq : Prm q) {xs : List Int} {f g : Int → Int} (hf : Deg xs.length f) (hg : Deg xs.length g) (hd : xs.Pairwise (fun a b => ¬ q ∣ a - b)) (h : ∀ x ∈ xs, q ∣ f x - g x) (x : Int) : q ∣ f x - g x := by
  have hfg := hf.add (hg.scale (-1))
  obtain ⟨p, hp, he⟩ := hfg
  have he' : ∀ x, f x - g x = ev p x := fun x => by rw [← he x]; show _ = f x + -1 * g x; omega
  rw [he' x]
  refine ev_dvd p x (roots hq xs p hp hd fun y hy => ?_)
  rw [← he' y]
  exact h y hy

/-- The product of (x - y) over a list. -/
def prod (x : Int) : List Int → Int
  | [] => 1
  | y :: ys => (x - y) * prod x ys
theorem prod_deg : ∀ ys : List Int, Deg (ys.length + 1) (fun x => prod x ys)
  | [] => Deg.const 1
  | y :: ys => (prod_deg ys).root y
theorem prod_mem {x : Int} : ∀ {ys : List Int}, x ∈ ys → prod x ys = 0
  | y :: ys, h => by
    rcases List.mem_cons.1 h with rfl | h
    · simp [prod]
    · simp [prod, prod_mem h]
theorem prod_unit {q : Int} (hq : Prm q) (h1 : ¬ q ∣ 1) {x : Int} : ∀ {ys : List Int}, (∀ y ∈ ys, ¬ q ∣ x - y) → ¬ q ∣ prod x ys
  | [], _ => h1
  | y :: ys, h => fun hd => by
    rcases hq _ _ hd with hd | hd
    · exact h y (by simp) hd
    · exact prod_unit hq h1 (fun z hz => h z (by simp [hz])) hd

end Poly
end Sac
/-
  Primes: trial division, Pocklington's criterion, the order of a power; and the three moduli of the groups are primes. No program in sight.
-/
namespace Sac
namespace NT

def Prime (p : Nat) : Prop := 2 ≤ p ∧ ∀ d, d ∣ p → d = 1 ∨ d = p

theorem exists_prime : ∀ n : Nat, 2 ≤ n → ∃ p, Prime p ∧ p ∣ n := by
  intro n
  induction n using Nat.strongRecOn with
  | ind n ih =>
    intro hn
    by_cases h : Prime n
    · exact ⟨n, h, Nat.dvd_refl n⟩
    · have : ∃ d, d ∣ n ∧ d ≠ 1 ∧ d ≠ n := by
        apply Classical.byContradiction
        intro hc
        refine h ⟨hn, fun d hd => ?_⟩
        by_cases h1 : d = 1
        · exact .inl h1
        · by_cases h2 : d = n
          · exact .inr h2
          · exact absurd ⟨d, hd, h1, h2⟩ hc
      obtain ⟨d, hd, h1, h2⟩ := this
      have hle := Nat.le_of_dvd (by omega) hd
      have hpos := Nat.pos_of_dvd_of_pos hd (by omega)
      obtain ⟨p, hp, hpd⟩ := ih d (by omega) (by omega)
      exact ⟨p, hp, Nat.dvd_trans hpd hd⟩

theorem prime_of_large {N : Nat} (hN : 2 ≤ N) (h : ∀ p, Prime p → p ∣ N → N < p * p) : Prime N := by
  refine ⟨hN, fun d hd => ?_⟩
  by_cases h1 : d = 1
  · exact .inl h1
  by_cases h2 : d = N
  · exact .inr h2
  exfalso
  obtain ⟨e, he⟩ := hd
  have hd0 : d ≠ 0 := by rintro rfl; simp at he; omega
  have he0 : e ≠ 0 := by rintro rfl; simp at he; omega
  have he1 : e ≠ 1 := by rintro rfl; simp at he; omega
  obtain ⟨p, hp, hpd⟩ := exists_prime d (by omega)
  obtain ⟨r, hr, hre⟩ := exists_prime e (by omega)
  have a := h p hp (he ▸ Nat.dvd_trans hpd (Nat.dvd_mul_right d e))
  have b := h r hr (he ▸ Nat.dvd_trans hre (Nat.dvd_mul_left e d))
  have c1 := Nat.le_of_dvd (by omega) hpd
  have c2 := Nat.le_of_dvd (by omega) hre
  have c3 : p * r ≤ N := he ▸ Nat.mul_le_mul c1 c2
  have x1 : r < p := Nat.lt_of_mul_lt_mul_left (a := p) (by omega)
  have x2 : p < r := Nat.lt_of_mul_lt_mul_right (a := r) (by omega)
  omega

theorem prime_of_trial {N B : Nat} (hN : 2 ≤ N) (hB : N < B * B) (h : ∀ d, d < B → 2 ≤ d → N % d ≠ 0) : Prime N :=
  prime_of_large hN fun p hp hd => by
    by_cases hpB : p < B
    · exact absurd (Nat.mod_eq_zero_of_dvd hd) (h p hpB hp.1)
    · exact Nat.lt_of_lt_of_le hB (Nat.mul_le_mul (by omega) (by omega))

theorem Prime.coprime {p a : Nat} (hp : Prime p) (h : ¬ p ∣ a) : Nat.Coprime p a := by
  rcases hp.2 _ (Nat.gcd_dvd_left p a) with h1 | h1
  · exact h1
  · exact absurd (h1 ▸ Nat.gcd_dvd_right p a) h

theorem Prime.dvd_mul {p a b : Nat} (hp : Prime p) (h : p ∣ a * b) : p ∣ a ∨ p ∣ b := by
  by_cases ha : p ∣ a
  · exact .inl ha
  · exact .inr ((hp.coprime ha).dvd_of_dvd_mul_left h)

theorem Prime.prm {p : Nat} (hp : Prime p) : Poly.Prm (p : Int) := by
  intro a b h
  have := Int.natAbs_dvd_natAbs.2 h
  rw [Int.natAbs_mul, Int.natAbs_natCast] at this
  rcases hp.dvd_mul this with h | h
  · exact .inl (Int.natAbs_dvd_natAbs.1 (by rw [Int.natAbs_natCast]; exact h))
  · exact .inr (Int.natAbs_dvd_natAbs.1 (by rw [Int.natAbs_natCast]; exact h))

theorem pigeon : ∀ (n : Nat) (l : List Nat), l.Nodup → (∀ x ∈ l, x < n) → l.length ≤ n
  | 0, l, _, h => by
    cases l with
    | nil => simp
    | cons x l => exact absurd (h x (by simp)) (by omega)
  | n + 1, l, hd, h => by
    by_cases hm : n ∈ l
    · have h1 := pigeon n (l.erase n) (hd.erase n) (fun x hx => by
        have h2 := h x (List.mem_of_mem_erase hx)
        have hne : x ≠ n := (hd.mem_erase_iff.1 hx).1
        omega)
      rw [List.length_erase_of_mem hm] at h1
      omega
    · have := pigeon n l hd (fun x hx => by
        have h2 := h x hx
        have h3 : x ≠ n := fun e => hm (e ▸ hx)
        omega)
      omega

theorem exists_min {p : Nat → Prop} (h : ∃ n, p n) : ∃ n, p n ∧ ∀ m, m < n → ¬ p m := by
  obtain ⟨n, hn⟩ := h
  induction n using Nat.strongRecOn with
  | ind n ih =>
    by_cases hc : ∃ m, m < n ∧ p m
    · obtain ⟨m, h1, h2⟩ := hc
      exact ih m h1 h2
    · exact ⟨n, hn, fun m h1 h2 => hc ⟨m, h1, h2⟩⟩

theorem pow_mod_one {p a d : Nat} (hp : 1 < p) (h : a ^ d % p = 1) (k : Nat) : a ^ (d * k) % p = 1 := by
  rw [Nat.pow_mul, Nat.pow_mod, h, Nat.one_pow, Nat.mod_eq_of_lt hp]
/-- An exponent counts modulo d alone, where a^d is 1. -/
theorem pow_mod_exp {p a d : Nat} (hp : 1 < p) (h : a ^ d % p = 1) (m : Nat) : a ^ m % p = a ^ (m % d) % p := by
  conv => lhs; rw [← Nat.div_add_mod m d, Nat.pow_add, Nat.mul_mod, pow_mod_one hp h, Nat.one_mul, Nat.mod_mod]

theorem order {p a N : Nat} (hp : 1 < p) (hN : 0 < N) (h : a ^ N % p = 1) : ∃ d, 0 < d ∧ d < p ∧ a ^ d % p = 1 ∧ ∀ m, a ^ m % p = 1 → d ∣ m := by
  obtain ⟨d, ⟨h0, h1⟩, hmin⟩ := exists_min (p := fun n => 0 < n ∧ a ^ n % p = 1) ⟨N, hN, h⟩
  refine ⟨d, h0, ?_, h1, ?_⟩
  · have hz : ∀ i, i < d → a ^ i % p ≠ 0 := by
      intro i hi hc
      have : a ^ d % p = 0 := by
        rw [show d = i + (d - i) by omega, Nat.pow_add, Nat.mul_mod, hc, Nat.zero_mul, Nat.zero_mod]
      omega
    have hinj : ∀ i j, i < j → j < d → a ^ i % p ≠ a ^ j % p := by
      intro i j hij hj hc
      have h2 : a ^ (d - j + i) % p = 1 := by
        rw [Nat.pow_add, Nat.mul_mod, hc, ← Nat.mul_mod, ← Nat.pow_add, show d - j + j = d by omega, h1]
      exact hmin _ (by omega) ⟨by omega, h2⟩
    have hnd : (0 :: (List.range d).map (fun i => a ^ i % p)).Nodup := by
      rw [List.nodup_cons]
      constructor
      · intro hm
        obtain ⟨i, hi, he⟩ := List.mem_map.1 hm
        exact hz i (List.mem_range.1 hi) he
      · show List.Pairwise _ _
        rw [List.pairwise_map]
        refine List.Pairwise.imp_of_mem ?_ (List.pairwise_lt_range (n := d))
        intro i j hi hj hij
        exact hinj i j hij (List.mem_range.1 hj)
    have := pigeon p _ hnd (by
      intro x hx
      rcases List.mem_cons.1 hx with rfl | hx
      · omega
      · obtain ⟨i, hi, rfl⟩ := List.mem_map.1 hx
        exact Nat.mod_lt _ (by omega))
    simp at this
    omega
  · intro m hm
    rw [pow_mod_exp hp h1] at hm
    apply Nat.dvd_of_mod_eq_zero
    apply Classical.byContradiction
    intro hne
    exact hmin (m % d) (Nat.mod_lt _ h0) ⟨by omega, hm⟩

theorem pow_dvd {r k m d : Nat} (hr : Prime r) (h1 : d ∣ r ^ (k + 1) * m) (h2 : ¬ d ∣ r ^ k * m) : r ^ (k + 1) ∣ d := by
  obtain ⟨e, he⟩ := h1
  have hre : ¬ r ∣ e := by
    rintro ⟨f, rfl⟩
    apply h2
    refine ⟨f, Nat.eq_of_mul_eq_mul_left (show 0 < r by have := hr.1; omega) ?_⟩
    rw [← Nat.mul_assoc, Nat.mul_comm r (r ^ k), ← Nat.pow_succ, he, Nat.mul_left_comm]
  exact ((hr.coprime hre).pow_left (k + 1)).dvd_of_dvd_mul_right (he ▸ Nat.dvd_mul_right (r ^ (k + 1)) m)

theorem mod_dvd {p N x : Nat} (hpN : p ∣ N) : x % N % p = x % p := Nat.mod_mod_of_dvd x hpN

theorem pock {N F a : Nat} (hN : 2 ≤ N) (hF : N < (F + 1) * (F + 1)) (hpow : a ^ (N - 1) % N = 1)
    (h : ∀ p, Prime p → p ∣ N → ∀ d, d ∣ N - 1 → a ^ d % p = 1 → F ∣ d) : Prime N := by
  refine prime_of_large hN fun p hp hpN => ?_
  have hp1 : 1 < p := hp.1
  have h1 : a ^ (N - 1) % p = 1 := by rw [← mod_dvd hpN, hpow, Nat.mod_eq_of_lt hp1]
  obtain ⟨d, hd0, hdp, hd1, hd2⟩ := order hp1 (by omega) h1
  have h2 := Nat.le_of_dvd hd0 (h p hp hpN d (hd2 _ h1) hd1)
  exact Nat.lt_of_lt_of_le hF (Nat.mul_le_mul (by omega) (by omega))

theorem not_dvd {N p a d x g : Nat} (hp : Prime p) (hpN : p ∣ N) (hd : a ^ d % p = 1) (hx : a ^ x % N = g) (hg : Nat.gcd (g - 1) N = 1) : ¬ d ∣ x := by
  rintro ⟨k, rfl⟩
  have h1 := pow_mod_one hp.1 hd k
  rw [← mod_dvd hpN, hx] at h1
  have h2 : p ∣ g - 1 := by
    refine ⟨g / p, ?_⟩
    have := Nat.div_add_mod g p
    omega
  have := Nat.dvd_gcd h2 hpN
  rw [hg] at this
  have := Nat.le_of_dvd (by omega) this
  have := hp.1
  omega

/-- A power modulo n, bit by bit. -/
def pm (n : Nat) : Nat → Nat → Nat → Nat → Nat
  | 0, _, _, acc => acc
  | f + 1, a, e, acc => pm n f (a * a % n) (e / 2) (if e % 2 = 1 then acc * a % n else acc)

theorem pm_eq {n : Nat} : ∀ (f a e acc : Nat), e < 2 ^ f → acc < n → pm n f a e acc = acc * a ^ e % n
  | 0, a, e, acc, he, ha => by
    have : e = 0 := by simp at he; exact he
    subst this
    simp [pm, Nat.mod_eq_of_lt ha]
  | f + 1, a, e, acc, he, ha => by
    unfold pm
    rw [pm_eq f _ _ _ (by rw [Nat.pow_succ] at he; omega) (by split; exact Nat.mod_lt _ (by omega); exact ha)]
    rw [Nat.mul_mod, ← Nat.pow_mod, ← Nat.mul_mod, ← Nat.pow_two, ← Nat.pow_mul]
    split
    · rename_i h
      rw [Nat.mod_mul_mod, Nat.mul_assoc]
      congr 2
      rw [← Nat.pow_succ']
      congr 1
      omega
    · rename_i h
      congr 2
      congr 1
      omega

theorem pow_of_pm {n a e g : Nat} (f : Nat) (hn : 1 < n) (he : e < 2 ^ f) (h : pm n f a e 1 = g) : a ^ e % n = g := by
  rw [← h, pm_eq f a e 1 he hn, Nat.one_mul]

set_option maxRecDepth 100000 in
theorem prime101 : Prime 101 := prime_of_trial (B := 11) (by decide) (by decide) (by decide)
set_option maxRecDepth 100000 in
theorem prime65521 : Prime 65521 := prime_of_trial (B := 256) (by decide) (by decide) (by decide)
set_option maxRecDepth 100000 in
theorem prime2 : Prime 2 := prime_of_trial (B := 2) (by decide) (by decide) (by decide)
set_option maxRecDepth 100000 in
theorem prime3 : Prime 3 := prime_of_trial (B := 2) (by decide) (by decide) (by decide)
set_option maxRecDepth 100000 in
theorem prime11 : Prime 11 := prime_of_trial (B := 4) (by decide) (by decide) (by decide)
set_option maxRecDepth 100000 in
theorem prime683 : Prime 683 := prime_of_trial (B := 27) (by decide) (by decide) (by decide)
set_option maxRecDepth 100000 in
theorem prime2971 : Prime 2971 := prime_of_trial (B := 55) (by decide) (by decide) (by decide)

def Q60 : Nat := 1152921504606847009

set_option maxRecDepth 100000 in
theorem primeQ60 : Prime Q60 := by
  refine pock (F := 2 ^ 5 * 3 ^ 1 * 11 ^ 2 * 683 ^ 1 * 2971 ^ 1) (a := 13) (by decide) (by decide) (pow_of_pm 61 (by decide) (by decide) (by decide)) ?_
  intro p hp hpN d hd hd1
  have key : ∀ r k m x g, Prime r → Q60 - 1 = r ^ (k + 1) * m → x = r ^ k * m → pm Q60 61 13 x 1 = g → x < 2 ^ 61 → Nat.gcd (g - 1) Q60 = 1 → r ^ (k + 1) ∣ d := by
    intro r k m x g hr h1 h2 h3 h4 h5
    refine pow_dvd (m := m) hr (h1 ▸ hd) ?_
    rw [← h2]
    exact not_dvd hp hpN hd1 (pow_of_pm 61 (by decide) h4 h3) h5
  have k2 := key 2 4 ((Q60 - 1) / 2 ^ 5) ((Q60 - 1) / 2) _ prime2 (by decide) (by decide) rfl (by decide) (by decide)
  have k3 := key 3 0 ((Q60 - 1) / 3) ((Q60 - 1) / 3) _ prime3 (by decide) (by decide) rfl (by decide) (by decide)
  have k11 := key 11 1 ((Q60 - 1) / 11 ^ 2) ((Q60 - 1) / 11) _ prime11 (by decide) (by decide) rfl (by decide) (by decide)
  have k683 := key 683 0 ((Q60 - 1) / 683) ((Q60 - 1) / 683) _ prime683 (by decide) (by decide) rfl (by decide) (by decide)
  have k2971 := key 2971 0 ((Q60 - 1) / 2971) ((Q60 - 1) / 2971) _ prime2971 (by decide) (by decide) rfl (by decide) (by decide)
  have c1 := Nat.Coprime.mul_dvd_of_dvd_of_dvd (by decide) k2 k3
  have c2 := Nat.Coprime.mul_dvd_of_dvd_of_dvd (by decide) c1 k11
  have c3 := Nat.Coprime.mul_dvd_of_dvd_of_dvd (by decide) c2 k683
  exact Nat.Coprime.mul_dvd_of_dvd_of_dvd (by decide) c3 k2971

end NT
end Sac
/-
  Residues: numbers modulo q and the integers that they stand for; the weights of places, and that what goes through values is the polynomial (Lagrange). No program in sight.
-/
namespace Sac

/-- The same modulo q. -/
def Cg (q : Nat) (x y : Int) : Prop := (q : Int) ∣ x - y
theorem Cg.refl (q : Nat) (x : Int) : Cg q x x := by unfold Cg; rw [Int.sub_self]; exact Int.dvd_zero _
theorem Cg.of_eq {q : Nat} {x y : Int} (h : x = y) : Cg q x y := h ▸ Cg.refl q x
theorem Cg.symm {q : Nat} {x y : Int} (h : Cg q x y) : Cg q y x := by
  have := Int.dvd_neg.2 h
  rwa [Int.neg_sub] at this
theorem Cg.trans {q : Nat} {x y z : Int} (h : Cg q x y) (k : Cg q y z) : Cg q x z := by
  have := Int.dvd_add h k
  rwa [show x - y + (y - z) = x - z by omega] at this
theorem Cg.add {q : Nat} {x y x' y' : Int} (h : Cg q x x') (k : Cg q y y') : Cg q (x + y) (x' + y') := by
  have := Int.dvd_add h k
  rwa [show x - x' + (y - y') = x + y - (x' + y') by omega] at this
theorem Cg.sub {q : Nat} {x y x' y' : Int} (h : Cg q x x') (k : Cg q y y') : Cg q (x - y) (x' - y') := by
  have := Int.dvd_sub h k
  rwa [show x - x' - (y - y') = x - y - (x' - y') by omega] at this
theorem Cg.mul {q : Nat} {x y x' y' : Int} (h : Cg q x x') (k : Cg q y y') : Cg q (x * y) (x' * y') := by
  have := Int.dvd_add (Int.dvd_trans k (Int.dvd_mul_left x _)) (Int.dvd_trans h (Int.dvd_mul_right _ y'))
  rwa [Int.mul_sub, Int.sub_mul, show x * y - x * y' + (x * y' - x' * y') = x * y - x' * y' by omega] at this
theorem Cg.mod {q : Nat} (n : Nat) : Cg q ((n % q : Nat) : Int) n := by
  refine ⟨-((n / q : Nat) : Int), ?_⟩
  have : ((q : Int) * ((n / q : Nat) : Int)) + ((n % q : Nat) : Int) = n := by exact_mod_cast Nat.div_add_mod n q
  rw [Int.mul_neg]
  omega
theorem Cg.self (q : Nat) : Cg q (q : Int) 0 := by unfold Cg; rw [Int.sub_zero]; exact Int.dvd_refl _

/-- n is what is left of z. -/
def Mo (q n : Nat) (z : Int) : Prop := n < q ∧ Cg q n z
theorem Mo.uniq {q n m : Nat} {z z' : Int} (h : Mo q n z) (k : Mo q m z') (hz : Cg q z z') : n = m := by
  have h1 : Cg q n m := (h.2.trans hz).trans k.2.symm
  have h2 := Int.emod_emod_of_dvd
  have h3 : ((n : Int) - m) % q = 0 := Int.emod_eq_zero_of_dvd h1
  have h4 := Int.emod_eq_emod_iff_emod_sub_eq_zero.2 h3
  have hn := h.1
  have hm := k.1
  rw [Int.emod_eq_of_lt (by omega) (by omega), Int.emod_eq_of_lt (by omega) (by omega)] at h4
  omega
theorem Mo.cg {q n : Nat} {z z' : Int} (h : Mo q n z) (k : Cg q z z') : Mo q n z' := ⟨h.1, h.2.trans k⟩
theorem Mo.of {q : Nat} (hq : 0 < q) (n : Nat) : Mo q (n % q) n := ⟨Nat.mod_lt _ hq, Cg.mod n⟩
theorem Mo.lt {q n : Nat} (h : n < q) : Mo q n n := ⟨h, Cg.refl _ _⟩
theorem Mo.add {q a b : Nat} {x y : Int} (hq : 0 < q) (h : Cg q a x) (k : Cg q b y) : Mo q ((a + b) % q) (x + y) :=
  (Mo.of hq _).cg (by push_cast; exact h.add k)
theorem Mo.mul {q a b : Nat} {x y : Int} (hq : 0 < q) (h : Cg q a x) (k : Cg q b y) : Mo q (a * b % q) (x * y) :=
  (Mo.of hq _).cg (by push_cast; exact h.mul k)

/-- The difference, as the ring tells it. -/
def subm (q a b : Nat) : Nat := if b % q ≤ a % q then a % q - b % q else a % q + q - b % q
theorem Mo.sub {q a b : Nat} {x y : Int} (hq : 0 < q) (h : Cg q a x) (k : Cg q b y) : Mo q (subm q a b) (x - y) := by
  have ha := Nat.mod_lt a hq
  have hb := Nat.mod_lt b hq
  have h1 := ((Cg.mod (q := q) a).trans h).sub ((Cg.mod (q := q) b).trans k)
  unfold subm
  split
  · rename_i hle
    refine ⟨by omega, ?_⟩
    rw [Int.ofNat_sub hle]
    exact h1
  · rename_i hle
    refine ⟨by omega, ?_⟩
    have e : ((a % q + q - b % q : Nat) : Int) = ((a % q : Nat) : Int) - ((b % q : Nat) : Int) + q := by omega
    rw [e]
    have := h1.add (Cg.self q)
    rwa [Int.add_zero] at this

theorem Cg.zero_iff {q n : Nat} (h : n < q) : Cg q n 0 ↔ n = 0 := by
  constructor
  · intro k
    exact Mo.uniq (Mo.lt h) ⟨by omega, Cg.refl _ _⟩ k
  · rintro rfl; exact Cg.refl _ _

namespace Poly

/-- F 0 + .. + F (n-1). -/
def sumTo (F : Nat → Int) : Nat → Int
  | 0 => 0
  | n + 1 => sumTo F n + F n

theorem sumTo_cg {q : Nat} {F G : Nat → Int} : ∀ n, (∀ i, i < n → Cg q (F i) (G i)) → Cg q (sumTo F n) (sumTo G n)
  | 0, _ => Cg.refl _ _
  | n + 1, h => (sumTo_cg n fun i hi => h i (by omega)).add (h n (by omega))

theorem sumTo_zero {q : Nat} {F : Nat → Int} : ∀ n, (∀ i, i < n → Cg q (F i) 0) → Cg q (sumTo F n) 0
  | 0, _ => Cg.refl _ _
  | n + 1, h => by
    have := (sumTo_zero n fun i hi => h i (by omega)).add (h n (by omega))
    rwa [Int.add_zero] at this

theorem sumTo_one {q : Nat} {F : Nat → Int} (j : Nat) : ∀ n, j < n → (∀ i, i < n → i ≠ j → Cg q (F i) 0) → Cg q (sumTo F n) (F j)
  | 0, h, _ => by omega
  | n + 1, h, h0 => by
    by_cases hj : j = n
    · subst hj
      have := (sumTo_zero j fun i hi => h0 i (by omega) (by omega)).add (Cg.refl q (F j))
      rwa [Int.zero_add] at this
    · have := (sumTo_one j n (by omega) fun i hi hne => h0 i (by omega) hne).add (h0 n (by omega) (by omega))
      rwa [Int.add_zero] at this

theorem sumTo_deg {d : Nat} {F : Nat → Int → Int} : ∀ n, (∀ i, i < n → Deg d (F i)) → Deg d (fun x => sumTo (fun i => F i x) n)
  | 0, _ => Deg.zero d
  | n + 1, h => (sumTo_deg n fun i hi => h i (by omega)).add (h n (by omega))

theorem mem_erase_other {xs : List Int} {i j : Nat} (hj : j < xs.length) (hne : i ≠ j) : xs.getD j 0 ∈ xs.eraseIdx i := by
  rw [List.mem_eraseIdx_iff_getElem?]
  exact ⟨j, by omega, by rw [List.getD_eq_getElem?_getD, List.getElem?_eq_getElem hj]; rfl⟩

/-- The part of place i: c times the product of (x - the other places). -/
def part (xs : List Int) (c : Int) (i : Nat) (x : Int) : Int := c * prod x (xs.eraseIdx i)

theorem part_deg (xs : List Int) (c : Int) (i : Nat) (hi : i < xs.length) : Deg xs.length (part xs c i) := by
  have h := (prod_deg (xs.eraseIdx i)).scale c
  rw [List.length_eraseIdx_of_lt hi, Nat.sub_add_cancel (by omega)] at h
  exact h

/-- What goes through the values is the polynomial. -/
theorem lagrange {q : Nat} (hq : Prm q) {xs : List Int} (hd : xs.Pairwise (fun a b => ¬ (q : Int) ∣ a - b)) (y c : Nat → Int)
    (hc : ∀ i, i < xs.length → Cg q (c i * prod (xs.getD i 0) (xs.eraseIdx i)) 1) {f : Int → Int} (hf : Deg xs.length f) (hy : ∀ i, i < xs.length → Cg q (y i) (f (xs.getD i 0))) (x : Int) :
    Cg q (sumTo (fun i => y i * part xs (c i) i x) xs.length) (f x) := by
  have hg : Deg xs.length (fun x => sumTo (fun i => y i * part xs (c i) i x) xs.length) :=
    sumTo_deg (F := fun i x => y i * part xs (c i) i x) xs.length fun i hi => (part_deg xs (c i) i hi).scale (y i)
  refine Deg.same hq hg hf hd ?_ x
  intro z hz
  obtain ⟨j, hj, rfl⟩ := List.getElem_of_mem hz
  have e : xs[j] = xs.getD j 0 := by simp [hj]
  rw [e]
  have h1 : Cg q (sumTo (fun i => y i * part xs (c i) i (xs.getD j 0)) xs.length) (y j * part xs (c j) j (xs.getD j 0)) := by
    refine sumTo_one j _ hj ?_
    intro i hi hne
    refine Cg.of_eq ?_
    show y i * (c i * _) = 0
    rw [prod_mem (mem_erase_other hj hne), Int.mul_zero, Int.mul_zero]
  have h2 : Cg q (y j * part xs (c j) j (xs.getD j 0)) (y j) := by
    have := (Cg.refl q (y j)).mul (hc j hj)
    rwa [Int.mul_one] at this
  exact (h1.trans h2).trans (hy j hj)

/-- Unlike places make a unit. -/
theorem unit_at {q : Nat} (hq : Prm q) (h1 : ¬ (q : Int) ∣ 1) {xs : List Int} (hd : xs.Pairwise (fun a b => ¬ (q : Int) ∣ a - b)) {i : Nat} (hi : i < xs.length) : ¬ (q : Int) ∣ prod (xs.getD i 0) (xs.eraseIdx i) := by
  refine prod_unit hq h1 ?_
  intro y hy
  rw [List.mem_eraseIdx_iff_getElem] at hy
  obtain ⟨j, hj, hne, rfl⟩ := hy
  have e : xs.getD i 0 = xs[i] := by simp [hi]
  rw [e]
  rw [List.pairwise_iff_getElem] at hd
  rcases Nat.lt_or_gt_of_ne hne with h | h
  · intro hdv
    refine hd j i hj hi h ?_
    have := Int.dvd_neg.2 hdv
    rwa [Int.neg_sub] at this
  · exact hd i j hi hj h

end Poly
end Sac
