/-
  Products of powers; pledges, and what they are at a place. No program in sight.
-/
import Derived.Test.YthefednendgclaaCurveL
import Derived.Test.YthefednendgclaaHval
set_option linter.unusedVariables false
set_option linter.unusedSimpArgs false
namespace Sac
open NT Poly

/-! ### A product of powers, bit by bit of all exponents at once -/
def bitN (i : Nat) (bs es : List Nat) : Nat → Nat
  | 0 => 1
  | k + 1 => bitN i bs es k * bs.getD k 0 ^ (es.getD k 0 / 2 ^ i % 2)
def rawN (i : Nat) (bs es : List Nat) : Nat → Nat
  | 0 => 1
  | k + 1 => rawN i bs es k * bs.getD k 0 ^ (es.getD k 0 / 2 ^ i)
def bitF (P i : Nat) (bs es : List Nat) (out : Nat) : Nat → Nat
  | 0 => out
  | k + 1 => if es.getD k 0 / 2 ^ i % 2 = 1 then bitF P i bs es out k * bs.getD k 0 % P else bitF P i bs es out k
def sqF (P most : Nat) (bs es : List Nat) : Nat → Nat
  | 0 => 1
  | j + 1 => bitF P (most - 1 - j) bs es (sqF P most bs es j * sqF P most bs es j % P) es.length

theorem bitF_lt {P : Nat} (hP : 0 < P) (i : Nat) (bs es : List Nat) {out : Nat} (h : out < P) : ∀ n, bitF P i bs es out n < P
  | 0 => h
  | k + 1 => by
    unfold bitF
    split
    · exact Nat.mod_lt _ hP
    · exact bitF_lt hP i bs es h k
theorem bitF_mod (P i : Nat) (bs es : List Nat) (out : Nat) : ∀ n, bitF P i bs es out n % P = out * bitN i bs es n % P
  | 0 => by simp [bitF, bitN]
  | k + 1 => by
    have ih := bitF_mod P i bs es out k
    unfold bitF bitN
    split
    · rename_i h
      rw [h, Nat.pow_one, Nat.mod_mod, Nat.mul_mod, ih, ← Nat.mul_mod, Nat.mul_assoc]
    · rename_i h
      have h0 : es.getD k 0 / 2 ^ i % 2 = 0 := by omega
      rw [h0, Nat.pow_zero, Nat.mul_one]; exact ih
theorem raw_step (i : Nat) (bs es : List Nat) : ∀ n, rawN i bs es n = rawN (i + 1) bs es n * rawN (i + 1) bs es n * bitN i bs es n
  | 0 => rfl
  | k + 1 => by
    have ih := raw_step i bs es k
    unfold rawN bitN
    rw [ih]
    obtain ⟨e, he⟩ : ∃ e, es.getD k 0 / 2 ^ i = e := ⟨_, rfl⟩
    have h1 : es.getD k 0 / 2 ^ (i + 1) = e / 2 := by rw [Nat.pow_succ, ← Nat.div_div_eq_div_mul, he]
    rw [h1, he]
    have h2 : ∀ b : Nat, b ^ e = b ^ (e / 2) * b ^ (e / 2) * b ^ (e % 2) := fun b => by
      rw [← Nat.pow_add, ← Nat.pow_add]; congr 1; omega
    rw [h2]
    generalize rawN (i + 1) bs es k = R
    generalize bitN i bs es k = B
    generalize bs.getD k 0 ^ (e / 2) = X
    generalize bs.getD k 0 ^ (e % 2) = Y
    simp only [Nat.mul_comm, Nat.mul_left_comm, Nat.mul_assoc]
theorem raw_top (most : Nat) (bs es : List Nat) (h : ∀ e ∈ es, e < 2 ^ most) : ∀ n, rawN most bs es n = 1
  | 0 => rfl
  | k + 1 => by
    unfold rawN
    have h1 : es.getD k 0 / 2 ^ most = 0 := by
      refine Nat.div_eq_of_lt ?_
      rw [List.getD_eq_getElem?_getD]
      by_cases hk : k < es.length
      · rw [List.getElem?_eq_getElem hk]; exact h _ (List.getElem_mem hk)
      · rw [List.getElem?_eq_none (by omega)]; exact Nat.pow_pos (by decide)
    rw [raw_top most bs es h k, h1]; rfl
theorem sqF_eq {P : Nat} (hP : 1 < P) (most : Nat) (bs es : List Nat) (h : ∀ e ∈ es, e < 2 ^ most) : ∀ j, j ≤ most → sqF P most bs es j = rawN (most - j) bs es es.length % P
  | 0, _ => by show 1 = _; rw [Nat.sub_zero, raw_top most bs es h, Nat.mod_eq_of_lt hP]
  | j + 1, hj => by
    have ih := sqF_eq hP most bs es h j (by omega)
    unfold sqF
    rw [← Nat.mod_eq_of_lt (bitF_lt (by omega) _ bs es (Nat.mod_lt _ (by omega)) es.length), bitF_mod]
    obtain ⟨i, hi⟩ : ∃ i, most - (j + 1) = i := ⟨_, rfl⟩
    have h1 : most - 1 - j = i := by omega
    have h2 : most - j = i + 1 := by omega
    rw [h1, hi, ih, h2, raw_step i bs es, Nat.mul_mod, Nat.mod_mod, ← Nat.mul_mod (rawN (i + 1) bs es es.length), ← Nat.mul_mod]
/-- The product of all powers. -/
def multi (P : Nat) (bs es : List Nat) : Nat := rawN 0 bs es es.length % P
theorem multi_two (P a b s r : Nat) : multi P [a, b] [s, r] = a ^ s * b ^ r % P := by
  simp [multi, rawN]

/-! ### Pledges -/
def pdg (k s r : Nat) : Nat := gG k ^ s * gH k ^ r % gP k
def allP (k : Nat) (p m : List Nat) : List Nat := (List.range (max p.length m.length)).map fun i => pdg k (p.getD i 0) (m.getD i 0)
theorem allP_length (k : Nat) (p m : List Nat) : (allP k p m).length = max p.length m.length := by simp [allP]
theorem allP_get (k : Nat) (p m : List Nat) (i : Nat) (h : i < max p.length m.length) : (allP k p m).getD i 0 = pdg k (p.getD i 0) (m.getD i 0) := by
  simp [allP, List.getD_eq_getElem?_getD, List.getElem?_map, List.getElem?_range h]

theorem hor_pad (x : Nat) : ∀ (n : Nat) (p : List Nat), p.length ≤ n → hor ((List.range n).map fun i => p.getD i 0) x = hor p x
  | 0, p, h => by
    have : p = [] := List.eq_nil_of_length_eq_zero (by omega)
    subst this; rfl
  | n + 1, [], _ => by
    have ih := hor_pad x n [] (by simp)
    rw [List.range_succ_eq_map, List.map_cons, List.map_map]
    show hor (((List.range n).map ((fun i => ([] : List Nat).getD i 0) ∘ Nat.succ))) x * x + 0 = 0
    have : ((fun i => ([] : List Nat).getD i 0) ∘ Nat.succ) = fun i => ([] : List Nat).getD i 0 := by funext i; simp
    rw [this, ih]; simp [hor]
  | n + 1, a :: p, h => by
    have ih := hor_pad x n p (by simpa using h)
    rw [List.range_succ_eq_map, List.map_cons, List.map_map]
    show hor (((List.range n).map ((fun i => (a :: p).getD i 0) ∘ Nat.succ))) x * x + a = hor p x * x + a
    have : ((fun i => (a :: p).getD i 0) ∘ Nat.succ) = fun i => p.getD i 0 := by funext i; simp
    rw [this, ih]
theorem evalx_two {P : Nat} (hP : 1 < P) (G H x : Nat) : ∀ (n : Nat) (u v : Nat → Nat), evalx P ((List.range n).map fun i => G ^ u i * H ^ v i % P) x = G ^ hor ((List.range n).map u) x * H ^ hor ((List.range n).map v) x % P
  | 0, u, v => by show 1 = G ^ 0 * H ^ 0 % P; rw [Nat.pow_zero, Nat.pow_zero, Nat.mul_one, Nat.mod_eq_of_lt hP]
  | n + 1, u, v => by
    have ih := evalx_two hP G H x n (u ∘ Nat.succ) (v ∘ Nat.succ)
    rw [List.range_succ_eq_map, List.map_cons, List.map_cons, List.map_cons, List.map_map, List.map_map, List.map_map]
    show (evalx P ((List.range n).map ((fun i => G ^ u i * H ^ v i % P) ∘ Nat.succ)) x) ^ x % P * (G ^ u 0 * H ^ v 0 % P) % P = G ^ (hor ((List.range n).map (u ∘ Nat.succ)) x * x + u 0) * H ^ (hor ((List.range n).map (v ∘ Nat.succ)) x * x + v 0) % P
    rw [show ((fun i => G ^ u i * H ^ v i % P) ∘ Nat.succ) = fun i => G ^ (u ∘ Nat.succ) i * H ^ (v ∘ Nat.succ) i % P from rfl, ih, ← Nat.pow_mod, ← Nat.mul_mod, Nat.mul_pow, ← Nat.pow_mul, ← Nat.pow_mul, Nat.pow_add, Nat.pow_add]
    congr 1
    generalize G ^ (hor ((List.range n).map (u ∘ Nat.succ)) x * x) = A
    generalize H ^ (hor ((List.range n).map (v ∘ Nat.succ)) x * x) = B
    generalize G ^ u 0 = C
    generalize H ^ v 0 = D
    simp only [Nat.mul_comm, Nat.mul_left_comm, Nat.mul_assoc]
theorem pdg_mod (k s r : Nat) : pdg k s r = pdg k (s % gQ k) (r % gQ k) := by
  unfold pdg
  rw [Nat.mul_mod, pow_mod_exp (gP_one k) (gG_pow k) s, pow_mod_exp (gP_one k) (gH_pow k) r, ← Nat.mul_mod]
theorem all_at (k : Nat) (p m : List Nat) (x : Nat) : evalx (gP k) (allP k p m) x = pdg k (evalm (gQ k) p x) (evalm (gQ k) m x) := by
  have h := evalx_two (gP_one k) (gG k) (gH k) x (max p.length m.length) (fun i => p.getD i 0) (fun i => m.getD i 0)
  rw [hor_pad x _ p (Nat.le_max_left _ _), hor_pad x _ m (Nat.le_max_right _ _)] at h
  refine h.trans ?_
  show pdg k (hor p x) (hor m x) = _
  rw [pdg_mod, hor_mod, hor_mod, Nat.mod_eq_of_lt (evalm_lt (gQ_pos k) p x), Nat.mod_eq_of_lt (evalm_lt (gQ_pos k) m x)]

/-- Products of powers of the bases, place by place. -/
theorem pdg_mul (k s r s' r' : Nat) : pdg k s r * pdg k s' r' % gP k = pdg k (s + s') (r + r') := by
  unfold pdg
  rw [← Nat.mul_mod, Nat.pow_add, Nat.pow_add]
  congr 1
  generalize gG k ^ s = A
  generalize gG k ^ s' = B
  generalize gH k ^ r = C
  generalize gH k ^ r' = D
  simp only [Nat.mul_comm, Nat.mul_left_comm, Nat.mul_assoc]

/-! ### The base's powers below Q are unlike -/
theorem gG_one' : ∀ k, 1 < gG k
  | 0 => by decide
  | 1 => by decide
  | _ + 2 => by show 1 < 262144; decide
theorem pow_one_dvd (k : Nat) {d : Nat} (h : gG k ^ d % gP k = 1) : gQ k ∣ d := by
  obtain ⟨o, ho, hop, h1, h2⟩ := order (gP_one k) (gQ_pos k) (gG_pow k)
  rcases (gQ_prime k).2 o (h2 _ (gG_pow k)) with rfl | rfl
  · rw [Nat.pow_one, Nat.mod_eq_of_lt (gG_lt k)] at h1
    have := gG_one' k
    omega
  · exact h2 _ h
theorem pow_inj_mod (k : Nat) {a b : Nat} (ha : a < gQ k) (hb : b < gQ k) (h : gG k ^ a % gP k = gG k ^ b % gP k) : a = b := by
  have key : ∀ {a b : Nat}, a ≤ b → a < gQ k → b < gQ k → gG k ^ a % gP k = gG k ^ b % gP k → a = b := by
    intro a b hab ha hb h
    -- times the power that brings a to Q
    have h1 : gG k ^ (b - a) % gP k = 1 := by
      have e1 : gG k ^ (gQ k - a) * gG k ^ a % gP k = 1 := by
        rw [← Nat.pow_add, Nat.sub_add_cancel (Nat.le_of_lt ha)]; exact gG_pow k
      have e2 : gG k ^ (gQ k - a) * gG k ^ b % gP k = 1 := by
        rw [Nat.mul_mod, ← h, ← Nat.mul_mod]; exact e1
      rw [← Nat.pow_add] at e2
      have e3 : gQ k - a + b = gQ k + (b - a) := by omega
      rw [e3, Nat.pow_add, Nat.mul_mod, gG_pow k, Nat.one_mul, Nat.mod_mod] at e2
      exact e2
    have h2 := pow_one_dvd k h1
    have h3 := Nat.eq_zero_of_dvd_of_lt h2 (by omega)
    omega
  rcases Nat.le_total a b with hab | hab
  · exact key hab ha hb h
  · exact (key hab hb ha h.symm).symm
/-- A pledge with the same mask tells the value. -/
theorem pdg_inj (k : Nat) {a b r : Nat} (ha : a < gQ k) (hb : b < gQ k) (hr : r < gQ k) (h : pdg k a r = pdg k b r) : a = b := by
  refine pow_inj_mod k ha hb ?_
  have h1 := pdg_mul k a r 0 (gQ k - r)
  have h2 := pdg_mul k b r 0 (gQ k - r)
  have e : ∀ x, pdg k (x + 0) (r + (gQ k - r)) = gG k ^ x % gP k := fun x => by
    rw [Nat.add_zero, Nat.add_sub_cancel' (Nat.le_of_lt hr)]
    unfold pdg
    rw [Nat.mul_mod, gH_pow k, Nat.mul_one, Nat.mod_mod]
  rw [h, h2, e, e] at h1
  exact h1.symm
/-- Bare pledges are fitted by the value alone. -/
theorem fits_iff (k : Nat) (l : List Nat) (x o : Nat) (ho : o < gQ k) : (evalx (gP k) (l.map fun a => gG k ^ a % gP k) (x % gQ k) = gG k ^ o % gP k) ↔ o = evalm (gQ k) l (x % gQ k) := by
  rw [exps_base]
  exact ⟨fun h => (pow_inj_mod k (evalm_lt (gQ_pos k) l _) ho h).symm, fun h => by rw [h]⟩
/-- Pledges are opened by the value alone. -/
theorem opens_iff (k : Nat) (l m : List Nat) (x o : Nat) (ho : o < gQ k) : (evalx (gP k) (allP k l m) (x % gQ k) = multi (gP k) [gG k, gH k] [o, evalm (gQ k) m (x % gQ k)]) ↔ o = evalm (gQ k) l (x % gQ k) := by
  rw [all_at, multi_two]
  exact ⟨fun h => (pdg_inj k (evalm_lt (gQ_pos k) l _) ho (evalm_lt (gQ_pos k) m _) h).symm, fun h => by rw [h]; rfl⟩
end Sac
