import Derived.Test.YthefednendgclaaGreatCurveG
import Derived.Test.YthefednendgclaaGreatHval
set_option linter.unusedVariables false
set_option linter.unusedSimpArgs false
/-
  What the laws of polynomials say, over numbers. No program in sight.
-/
namespace Sac
open NT Poly

theorem exps_base (k : Nat) (p : List Nat) (x : Nat) : evalx (gP k) (p.map fun a => gG k ^ a % gP k) (x % gQ k) = gG k ^ evalm (gQ k) p (x % gQ k) % gP k :=
  evalx_base (gP_one k) (gQ_pos k) (gG_pow k) p _
theorem exps_add {q : Nat} (hq : 0 < q) (p r : List Nat) (x : Nat) : evalm q (addl q p r) (x % q) = (evalm q p (x % q) + evalm q r (x % q)) % q :=
  Mo.uniq (evalm_mod hq _ x) (Mo.add hq (evalm_mod hq p x).2 (evalm_mod hq r x).2) (addl_ev p r x)
theorem exps_mul {q : Nat} (hq : 0 < q) (p r : List Nat) (x : Nat) (hr : 0 < r.length) : evalm q (mull q p r) (x % q) = evalm q p (x % q) * evalm q r (x % q) % q :=
  Mo.uniq (evalm_mod hq _ x) (Mo.mul hq (evalm_mod hq p x).2 (evalm_mod hq r x).2) (mull_ev p r x hr)

/-! ### Weights -/
/-- The product of all x - b, b from ys but the i-th; below q. -/
def upF (q x : Nat) (ys : List Nat) (i : Nat) : Nat → Nat
  | 0 => 1 % q
  | k + 1 => if k = i then upF q x ys i k else upF q x ys i k * subm q x (ys.getD k 0) % q
theorem eraseIdx_take_succ (l : List Int) (i k : Nat) (hk : k < l.length) : (if k = i then ((l.take k).eraseIdx i) else ((l.take k).eraseIdx i) ++ [l.getD k 0]) = (l.take (k + 1)).eraseIdx i := by
  rw [List.take_succ_eq_append_getElem hk]
  have hl : (l.take k).length = k := by rw [List.length_take]; omega
  have hg : l.getD k 0 = l[k] := by rw [List.getD_eq_getElem?_getD, List.getElem?_eq_getElem hk]; rfl
  by_cases h : k = i
  · rw [if_pos h, List.eraseIdx_append_of_length_le (by omega), hl, List.eraseIdx_of_length_le (by omega), ← h, Nat.sub_self]
    simp
  · rw [if_neg h, hg]
    rcases Nat.lt_or_ge i k with h1 | h1
    · rw [List.eraseIdx_append_of_lt_length (by omega)]
    · rw [List.eraseIdx_append_of_length_le (by omega), List.eraseIdx_of_length_le (by omega), hl, List.eraseIdx_of_length_le (by simp; omega)]
theorem prod_append (x : Int) : ∀ (l : List Int) (y : Int), prod x (l ++ [y]) = prod x l * (x - y)
  | [], y => by simp [prod]
  | a :: l, y => by
    show (x - a) * prod x (l ++ [y]) = (x - a) * prod x l * (x - y)
    rw [prod_append x l y, Int.mul_assoc]
theorem upF_mo {q : Nat} (hq : 0 < q) (x : Nat) (ys : List Nat) (i : Nat) : ∀ k, k ≤ ys.length → Mo q (upF q x ys i k) (prod x (((zs ys).take k).eraseIdx i))
  | 0, _ => ⟨Nat.mod_lt _ hq, (Cg.mod 1).trans (Cg.of_eq (by simp [prod]))⟩
  | k + 1, h => by
    have ih := upF_mo hq x ys i k (by omega)
    rw [← eraseIdx_take_succ (zs ys) i k (by rw [zs_length]; omega)]
    unfold upF
    by_cases hk : k = i
    · rw [if_pos hk, if_pos hk]; exact ih
    · rw [if_neg hk, if_neg hk, prod_append]
      exact Mo.mul hq ih.2 ((Mo.sub hq (Cg.refl q (x : Int)) (Cg.refl q ((ys.getD k 0 : Nat) : Int))).2.trans (Cg.of_eq (by rw [zs_getD])))

theorem cg_dvd {q a b : Nat} (h : (q : Int) ∣ (a : Int) - b) : a % q = b % q := by
  have h1 : ((a : Int) - b) % q = 0 := Int.emod_eq_zero_of_dvd h
  have h2 := Int.emod_emod_of_dvd (a : Int) (Int.dvd_refl (q : Int))
  have h3 : (a : Int) % q = (b : Int) % q := (Int.emod_eq_emod_iff_emod_sub_eq_zero).2 h1
  rw [← Int.natCast_emod, ← Int.natCast_emod] at h3
  exact Int.ofNat.inj h3
theorem bezout (a b : Nat) : ∃ x y : Int, (a : Int) * x + b * y = (Nat.gcd a b : Nat) := by
  induction a, b using Nat.gcd.induction with
  | H0 n => exact ⟨0, 1, by simp⟩
  | H1 m n hm ih =>
    obtain ⟨x, y, h⟩ := ih
    refine ⟨y - ((n / m : Nat) : Int) * x, x, ?_⟩
    rw [Nat.gcd_rec, ← h]
    have h1 : ((m : Int) * ((n / m : Nat) : Int) + ((n % m : Nat) : Int)) = n := by exact_mod_cast Nat.div_add_mod n m
    rw [Int.mul_sub, ← Int.mul_assoc]
    have h2 : (n : Int) * x = (m : Int) * ((n / m : Nat) : Int) * x + ((n % m : Nat) : Int) * x := by rw [← Int.add_mul, h1]
    rw [h2]
    omega
theorem inv_exists {q d : Nat} (hq : 0 < q) (h : Nat.gcd q d = 1) : ∃ z, z < q ∧ z * d % q = 1 % q := by
  obtain ⟨x, y, hxy⟩ := bezout q d
  rw [h] at hxy
  have hy0 : 0 ≤ y % (q : Int) := Int.emod_nonneg _ (by omega)
  have hy1 : y % (q : Int) < q := Int.emod_lt_of_pos _ (by omega)
  obtain ⟨z, hz⟩ := Int.eq_ofNat_of_zero_le hy0
  refine ⟨z, by omega, ?_⟩
  refine cg_dvd ?_
  have h1 : (q : Int) ∣ y - z := by rw [← hz]; exact Int.dvd_self_sub_emod
  have h2 : (q : Int) ∣ (y - z) * d := Int.dvd_mul_of_dvd_left h1
  have h3 : (q : Int) ∣ (q : Int) * x := Int.dvd_mul_right _ _
  have h4 := Int.dvd_neg.2 (Int.dvd_add h2 h3)
  have h5 : y * (d : Int) = (d : Int) * y := Int.mul_comm _ _
  have h6 : ((z * d : Nat) : Int) - ((1 : Nat) : Int) = -((y - z) * d + q * x) := by
    rw [Int.natCast_mul, Int.sub_mul]
    omega
  rw [h6]; exact h4
/-- The number below q that makes 1 with n; 0, if there is none. -/
def invq (q n : Nat) : Nat := ((List.range q).find? (fun z => z * n % q == 1 % q)).getD 0
theorem inv_uniq {q n z z' : Nat} (hz : z < q) (hz' : z' < q) (h : z * n % q = 1 % q) (h' : z' * n % q = 1 % q) : z = z' := by
  have h1 : z * (z' * n) % q = z % q := by rw [Nat.mul_mod, h', ← Nat.mul_mod, Nat.mul_one]
  have h2 : z' * (z * n) % q = z' % q := by rw [Nat.mul_mod, h, ← Nat.mul_mod, Nat.mul_one]
  have h3 : z * (z' * n) = z' * (z * n) := Nat.mul_left_comm _ _ _
  rw [h3, h2, Nat.mod_eq_of_lt hz, Nat.mod_eq_of_lt hz'] at h1
  exact h1.symm
theorem invq_eq {q n z : Nat} (hz : z < q) (h : z * n % q = 1 % q) : invq q n = z := by
  unfold invq
  cases hf : (List.range q).find? (fun z => z * n % q == 1 % q) with
  | none =>
    rw [List.find?_eq_none] at hf
    exact absurd (by simpa using h) (by simpa using hf z (List.mem_range.2 hz))
  | some y =>
    have h1 := List.find?_some hf
    have h2 := List.mem_range.1 (List.mem_of_find?_eq_some hf)
    exact inv_uniq h2 hz (by simpa using h1) h
/-- Place i counts so much at x. -/
def wt (q : Nat) (xs : List Nat) (x i : Nat) : Nat := upF q x xs i xs.length * invq q (upF q (xs.getD i 0) xs i xs.length) % q
def wts (q : Nat) (xs : List Nat) (x : Nat) : List Nat := (List.range xs.length).map (wt q xs x)
theorem wts_length (q : Nat) (xs : List Nat) (x : Nat) : (wts q xs x).length = xs.length := by simp [wts]
theorem wts_get (q : Nat) (xs : List Nat) (x i : Nat) (hi : i < xs.length) : (wts q xs x).getD i 0 = wt q xs x i := by
  simp [wts, List.getD_eq_getElem?_getD, List.getElem?_map, List.getElem?_range hi]
/-- Unlike places. -/
def Dis (q : Nat) (xs : List Nat) : Prop := ∀ i j, j < i → i < xs.length → xs.getD i 0 % q ≠ xs.getD j 0 % q
theorem Dis.pair {q : Nat} {xs : List Nat} (h : Dis q xs) : (zs xs).Pairwise (fun a b => ¬ (q : Int) ∣ a - b) := by
  rw [List.pairwise_iff_getElem]
  intro j i hj hi hji hd
  rw [zs_length] at hj hi
  have e : ∀ k (hk : k < (zs xs).length), (zs xs)[k] = ((xs.getD k 0 : Nat) : Int) := fun k hk => by
    have := zs_getD xs k
    rw [List.getD_eq_getElem?_getD, List.getElem?_eq_getElem hk] at this
    exact this
  rw [e j (by simpa using hj), e i (by simpa using hi)] at hd
  exact h i j hji hi (cg_dvd hd).symm
theorem take_all (xs : List Nat) : (zs xs).take xs.length = zs xs := List.take_of_length_le (by simp)
theorem down_unit {q : Nat} (hq : Prime q) {xs : List Nat} (hd : Dis q xs) {i : Nat} (hi : i < xs.length) : Nat.gcd q (upF q (xs.getD i 0) xs i xs.length) = 1 := by
  have h1 := upF_mo (q := q) (by have := hq.1; omega) (xs.getD i 0) xs i xs.length (Nat.le_refl _)
  rw [take_all] at h1
  have hn1 : ¬ (q : Int) ∣ 1 := fun h => by
    have := Int.le_of_dvd (by decide) h
    have := hq.1
    omega
  have h2 := unit_at hq.prm hn1 hd.pair (i := i) (by simpa using hi)
  rw [zs_getD] at h2
  refine hq.coprime fun h3 => h2 ?_
  have h4 := h1.2
  unfold Cg at h4
  have h5 : (q : Int) ∣ ((upF q (xs.getD i 0) xs i xs.length : Nat) : Int) := Int.natCast_dvd_natCast.2 h3
  have h6 := Int.dvd_sub h5 h4
  rwa [Int.sub_sub_self] at h6
theorem wt_inv {q : Nat} (hq : Prime q) {xs : List Nat} (hd : Dis q xs) {i : Nat} (hi : i < xs.length) : Cg q (((invq q (upF q (xs.getD i 0) xs i xs.length) : Nat) : Int) * prod ((zs xs).getD i 0) ((zs xs).eraseIdx i)) 1 := by
  have hq0 : 0 < q := by have := hq.1; omega
  have h1 := upF_mo (q := q) hq0 (xs.getD i 0) xs i xs.length (Nat.le_refl _)
  rw [take_all] at h1
  rw [zs_getD]
  obtain ⟨d, hdn⟩ : ∃ d, upF q (xs.getD i 0) xs i xs.length = d := ⟨_, rfl⟩
  have hg := down_unit hq hd hi
  rw [hdn] at h1 hg ⊢
  obtain ⟨z, hz, hz1⟩ : ∃ z, z < q ∧ z * d % q = 1 % q := by
    exact inv_exists hq0 hg
  rw [invq_eq hz hz1]
  refine ((Cg.refl q (z : Int)).mul h1.2.symm).trans ?_
  have h5 : Cg q ((z * d % q : Nat) : Int) ((z * d : Nat) : Int) := Cg.mod _
  rw [hz1] at h5
  have h6 := (h5.symm.trans (Cg.mod 1))
  rw [Int.natCast_mul] at h6
  exact h6
theorem wt_mo {q : Nat} (hq : 0 < q) (xs : List Nat) (x i : Nat) : Mo q (wt q xs x i) (part (zs xs) ((invq q (upF q (xs.getD i 0) xs i xs.length) : Nat) : Int) i x) := by
  have h1 := upF_mo (q := q) hq x xs i xs.length (Nat.le_refl _)
  rw [take_all] at h1
  unfold wt part
  rw [Int.mul_comm]
  exact Mo.mul hq h1.2 (Cg.refl q _)

/-- The sum of numbers, as it is reckoned. -/
def sumF (q : Nat) (ws : List Nat) (n : Nat) : Nat → Nat
  | 0 => n
  | k + 1 => (sumF q ws n k + ws.getD k 0) % q
theorem sumF_cg {q : Nat} (ws : List Nat) : ∀ k, Cg q (sumF q ws 0 k) (sumTo (fun i => ((ws.getD i 0 : Nat) : Int)) k)
  | 0 => Cg.of_eq rfl
  | k + 1 => ((Cg.mod _).trans (Cg.of_eq (Int.natCast_add _ _))).trans ((sumF_cg ws k).add (Cg.refl q _))
/-- The weights are 1 together. -/
theorem sum_one {q : Nat} (hq : Prime q) {xs : List Nat} (hd : Dis q xs) (h0 : 0 < xs.length) (x : Nat) : sumF q (wts q xs x) 0 xs.length = 1 := by
  have hq0 : 0 < q := by have := hq.1; omega
  have h1 := lagrange hq.prm hd.pair (fun _ => 1) (fun i => ((invq q (upF q (xs.getD i 0) xs i xs.length) : Nat) : Int)) (fun i hi => wt_inv hq hd (by simpa using hi)) (f := fun _ => 1) ((Deg.const 1).mono (by rw [zs_length]; exact h0)) (fun _ _ => Cg.refl _ _) (x : Int)
  have h2 := sumF_cg (q := q) (wts q xs x) xs.length
  have h3 : Cg q (sumTo (fun i => (((wts q xs x).getD i 0 : Nat) : Int)) xs.length) 1 := by
    refine (sumTo_cg _ fun i hi => ?_).trans (by rw [zs_length] at h1; exact h1)
    rw [wts_get q xs x i hi, Int.one_mul]
    exact (wt_mo hq0 xs x i).2
  obtain ⟨n, hn⟩ : ∃ n, xs.length = n + 1 := ⟨xs.length - 1, by omega⟩
  have h4 : sumF q (wts q xs x) 0 xs.length < q := by rw [hn]; exact Nat.mod_lt _ hq0
  exact Mo.uniq ⟨h4, h2.trans h3⟩ ⟨hq.1, Cg.refl q 1⟩ (Cg.refl q 1)
end Sac
/-
  Products of powers; pledges, and what they are at a place. No program in sight.
-/
namespace Sac
open NT Poly

/-! ### A product of powers, bit by bit of all exponents at once -/
def bitN (i : Nat) (bs es : List Nat) : Nat → Nat
  | 0 => 1
  | k + 1 => bitN i bs es k * bs.getD k 0 ^ (es.getD k 0 / 2 ^ i % 2)
def rawN (i : Nat) (bs es : List Nat) : Nat → Nat
  | 0 => 1
  | k + 1 => rawN i bs es k * bs.getD k 0 ^ (es.getD k 0 / 2 ^ i)
def bitF (P i : Nat) (bs es : List Nat) (out : Nat) : Nat → Nat
  | 0 => out
  | k + 1 => if es.getD k 0 / 2 ^ i % 2 = 1 then bitF P i bs es out k * bs.getD k 0 % P else bitF P i bs es out k
def sqF (P most : Nat) (bs es : List Nat) : Nat → Nat
  | 0 => 1
  | j + 1 => bitF P (most - 1 - j) bs es (sqF P most bs es j * sqF P most bs es j % P) es.length

theorem bitF_lt {P : Nat} (hP : 0 < P) (i : Nat) (bs es : List Nat) {out : Nat} (h : out < P) : ∀ n, bitF P i bs es out n < P
  | 0 => h
  | k + 1 => by
    unfold bitF
    split
    · exact Nat.mod_lt _ hP
    · exact bitF_lt hP i bs es h k
theorem bitF_mod (P i : Nat) (bs es : List Nat) (out : Nat) : ∀ n, bitF P i bs es out n % P = out * bitN i bs es n % P
  | 0 => by simp [bitF, bitN]
  | k + 1 => by
    have ih := bitF_mod P i bs es out k
    unfold bitF bitN
    split
    · rename_i h
      rw [h, Nat.pow_one, Nat.mod_mod, Nat.mul_mod, ih, ← Nat.mul_mod, Nat.mul_assoc]
    · rename_i h
      have h0 : es.getD k 0 / 2 ^ i % 2 = 0 := by omega
      rw [h0, Nat.pow_zero, Nat.mul_one]; exact ih
theorem raw_step (i : Nat) (bs es : List Nat) : ∀ n, rawN i bs es n = rawN (i + 1) bs es n * rawN (i + 1) bs es n * bitN i bs es n
  | 0 => rfl
  | k + 1 => by
    have ih := raw_step i bs es k
    unfold rawN bitN
    rw [ih]
    obtain ⟨e, he⟩ : ∃ e, es.getD k 0 / 2 ^ i = e := ⟨_, rfl⟩
    have h1 : es.getD k 0 / 2 ^ (i + 1) = e / 2 := by rw [Nat.pow_succ, ← Nat.div_div_eq_div_mul, he]
    rw [h1, he]
    have h2 : ∀ b : Nat, b ^ e = b ^ (e / 2) * b ^ (e / 2) * b ^ (e % 2) := fun b => by
      rw [← Nat.pow_add, ← Nat.pow_add]; congr 1; omega
    rw [h2]
    generalize rawN (i + 1) bs es k = R
    generalize bitN i bs es k = B
    generalize bs.getD k 0 ^ (e / 2) = X
    generalize bs.getD k 0 ^ (e % 2) = Y
    simp only [Nat.mul_comm, Nat.mul_left_comm, Nat.mul_assoc]
theorem raw_top (most : Nat) (bs es : List Nat) (h : ∀ e ∈ es, e < 2 ^ most) : ∀ n, rawN most bs es n = 1
  | 0 => rfl
  | k + 1 => by
    unfold rawN
    have h1 : es.getD k 0 / 2 ^ most = 0 := by
      refine Nat.div_eq_of_lt ?_
      rw [List.getD_eq_getElem?_getD]
      by_cases hk : k < es.length
      · rw [List.getElem?_eq_getElem hk]; exact h _ (List.getElem_mem hk)
      · rw [List.getElem?_eq_none (by omega)]; exact Nat.pow_pos (by decide)
    rw [raw_top most bs es h k, h1]; rfl
theorem sqF_eq {P : Nat} (hP : 1 < P) (most : Nat) (bs es : List Nat) (h : ∀ e ∈ es, e < 2 ^ most) : ∀ j, j ≤ most → sqF P most bs es j = rawN (most - j) bs es es.length % P
  | 0, _ => by show 1 = _; rw [Nat.sub_zero, raw_top most bs es h, Nat.mod_eq_of_lt hP]
  | j + 1, hj => by
    have ih := sqF_eq hP most bs es h j (by omega)
    unfold sqF
    rw [← Nat.mod_eq_of_lt (bitF_lt (by omega) _ bs es (Nat.mod_lt _ (by omega)) es.length), bitF_mod]
    obtain ⟨i, hi⟩ : ∃ i, most - (j + 1) = i := ⟨_, rfl⟩
    have h1 : most - 1 - j = i := by omega
    have h2 : most - j = i + 1 := by omega
    rw [h1, hi, ih, h2, raw_step i bs es, Nat.mul_mod, Nat.mod_mod, ← Nat.mul_mod (rawN (i + 1) bs es es.length), ← Nat.mul_mod]
/-- The product of all powers. -/
def multi (P : Nat) (bs es : List Nat) : Nat := rawN 0 bs es es.length % P
theorem multi_two (P a b s r : Nat) : multi P [a, b] [s, r] = a ^ s * b ^ r % P := by
  simp [multi, rawN]

/-! ### Pledges -/
def pdg (k s r : Nat) : Nat := gG k ^ s * gH k ^ r % gP k
def allP (k : Nat) (p m : List Nat) : List Nat := (List.range (max p.length m.length)).map fun i => pdg k (p.getD i 0) (m.getD i 0)
theorem allP_length (k : Nat) (p m : List Nat) : (allP k p m).length = max p.length m.length := by simp [allP]
theorem allP_get (k : Nat) (p m : List Nat) (i : Nat) (h : i < max p.length m.length) : (allP k p m).getD i 0 = pdg k (p.getD i 0) (m.getD i 0) := by
  simp [allP, List.getD_eq_getElem?_getD, List.getElem?_map, List.getElem?_range h]

theorem hor_pad (x : Nat) : ∀ (n : Nat) (p : List Nat), p.length ≤ n → hor ((List.range n).map fun i => p.getD i 0) x = hor p x
  | 0, p, h => by
    have : p = [] := List.eq_nil_of_length_eq_zero (by omega)
    subst this; rfl
  | n + 1, [], _ => by
    have ih := hor_pad x n [] (by simp)
    rw [List.range_succ_eq_map, List.map_cons, List.map_map]
    show hor (((List.range n).map ((fun i => ([] : List Nat).getD i 0) ∘ Nat.succ))) x * x + 0 = 0
    have : ((fun i => ([] : List Nat).getD i 0) ∘ Nat.succ) = fun i => ([] : List Nat).getD i 0 := by funext i; simp
    rw [this, ih]; simp [hor]
  | n + 1, a :: p, h => by
    have ih := hor_pad x n p (by simpa using h)
    rw [List.range_succ_eq_map, List.map_cons, List.map_map]
    show hor (((List.range n).map ((fun i => (a :: p).getD i 0) ∘ Nat.succ))) x * x + a = hor p x * x + a
    have : ((fun i => (a :: p).getD i 0) ∘ Nat.succ) = fun i => p.getD i 0 := by funext i; simp
    rw [this, ih]
theorem evalx_two {P : Nat} (hP : 1 < P) (G H x : Nat) : ∀ (n : Nat) (u v : Nat → Nat), evalx P ((List.range n).map fun i => G ^ u i * H ^ v i % P) x = G ^ hor ((List.range n).map u) x * H ^ hor ((List.range n).map v) x % P
  | 0, u, v => by show 1 = G ^ 0 * H ^ 0 % P; rw [Nat.pow_zero, Nat.pow_zero, Nat.mul_one, Nat.mod_eq_of_lt hP]
  | n + 1, u, v => by
    have ih := evalx_two hP G H x n (u ∘ Nat.succ) (v ∘ Nat.succ)
    rw [List.range_succ_eq_map, List.map_cons, List.map_cons, List.map_cons, List.map_map, List.map_map, List.map_map]
    show (evalx P ((List.range n).map ((fun i => G ^ u i * H ^ v i % P) ∘ Nat.succ)) x) ^ x % P * (G ^ u 0 * H ^ v 0 % P) % P = G ^ (hor ((List.range n).map (u ∘ Nat.succ)) x * x + u 0) * H ^ (hor ((List.range n).map (v ∘ Nat.succ)) x * x + v 0) % P
    rw [show ((fun i => G ^ u i * H ^ v i % P) ∘ Nat.succ) = fun i => G ^ (u ∘ Nat.succ) i * H ^ (v ∘ Nat.succ) i % P from rfl, ih, ← Nat.pow_mod, ← Nat.mul_mod, Nat.mul_pow, ← Nat.pow_mul, ← Nat.pow_mul, Nat.pow_add, Nat.pow_add]
    congr 1
    generalize G ^ (hor ((List.range n).map (u ∘ Nat.succ)) x * x) = A
    generalize H ^ (hor ((List.range n).map (v ∘ Nat.succ)) x * x) = B
    generalize G ^ u 0 = C
    generalize H ^ v 0 = D
    simp only [Nat.mul_comm, Nat.mul_left_comm, Nat.mul_assoc]
theorem pdg_mod (k s r : Nat) : pdg k s r = pdg k (s % gQ k) (r % gQ k) := by
  unfold pdg
  rw [Nat.mul_mod, pow_mod_exp (gP_one k) (gG_pow k) s, pow_mod_exp (gP_one k) (gH_pow k) r, ← Nat.mul_mod]
theorem all_at (k : Nat) (p m : List Nat) (x : Nat) : evalx (gP k) (allP k p m) x = pdg k (evalm (gQ k) p x) (evalm (gQ k) m x) := by
  have h := evalx_two (gP_one k) (gG k) (gH k) x (max p.length m.length) (fun i => p.getD i 0) (fun i => m.getD i 0)
  rw [hor_pad x _ p (Nat.le_max_left _ _), hor_pad x _ m (Nat.le_max_right _ _)] at h
  refine h.trans ?_
  show pdg k (hor p x) (hor m x) = _
  rw [pdg_mod, hor_mod, hor_mod, Nat.mod_eq_of_lt (evalm_lt (gQ_pos k) p x), Nat.mod_eq_of_lt (evalm_lt (gQ_pos k) m x)]

/-- Products of powers of the bases, place by place. -/
theorem pdg_mul (k s r s' r' : Nat) : pdg k s r * pdg k s' r' % gP k = pdg k (s + s') (r + r') := by
  unfold pdg
  rw [← Nat.mul_mod, Nat.pow_add, Nat.pow_add]
  congr 1
  generalize gG k ^ s = A
  generalize gG k ^ s' = B
  generalize gH k ^ r = C
  generalize gH k ^ r' = D
  simp only [Nat.mul_comm, Nat.mul_left_comm, Nat.mul_assoc]

/-! ### The base's powers below Q are unlike -/
theorem gG_one' : ∀ k, 1 < gG k
  | 0 => by decide
  | 1 => by decide
  | _ + 2 => by show 1 < 262144; decide
theorem pow_one_dvd (k : Nat) {d : Nat} (h : gG k ^ d % gP k = 1) : gQ k ∣ d := by
  obtain ⟨o, ho, hop, h1, h2⟩ := order (gP_one k) (gQ_pos k) (gG_pow k)
  rcases (gQ_prime k).2 o (h2 _ (gG_pow k)) with rfl | rfl
  · rw [Nat.pow_one, Nat.mod_eq_of_lt (gG_lt k)] at h1
    have := gG_one' k
    omega
  · exact h2 _ h
theorem pow_inj_mod (k : Nat) {a b : Nat} (ha : a < gQ k) (hb : b < gQ k) (h : gG k ^ a % gP k = gG k ^ b % gP k) : a = b := by
  have key : ∀ {a b : Nat}, a ≤ b → a < gQ k → b < gQ k → gG k ^ a % gP k = gG k ^ b % gP k → a = b := by
    intro a b hab ha hb h
    -- times the power that brings a to Q
    have h1 : gG k ^ (b - a) % gP k = 1 := by
      have e1 : gG k ^ (gQ k - a) * gG k ^ a % gP k = 1 := by
        rw [← Nat.pow_add, Nat.sub_add_cancel (Nat.le_of_lt ha)]; exact gG_pow k
      have e2 : gG k ^ (gQ k - a) * gG k ^ b % gP k = 1 := by
        rw [Nat.mul_mod, ← h, ← Nat.mul_mod]; exact e1
      rw [← Nat.pow_add] at e2
      have e3 : gQ k - a + b = gQ k + (b - a) := by omega
      rw [e3, Nat.pow_add, Nat.mul_mod, gG_pow k, Nat.one_mul, Nat.mod_mod] at e2
      exact e2
    have h2 := pow_one_dvd k h1
    have h3 := Nat.eq_zero_of_dvd_of_lt h2 (by omega)
    omega
  rcases Nat.le_total a b with hab | hab
  · exact key hab ha hb h
  · exact (key hab hb ha h.symm).symm
/-- A pledge with the same mask tells the value. -/
theorem pdg_inj (k : Nat) {a b r : Nat} (ha : a < gQ k) (hb : b < gQ k) (hr : r < gQ k) (h : pdg k a r = pdg k b r) : a = b := by
  refine pow_inj_mod k ha hb ?_
  have h1 := pdg_mul k a r 0 (gQ k - r)
  have h2 := pdg_mul k b r 0 (gQ k - r)
  have e : ∀ x, pdg k (x + 0) (r + (gQ k - r)) = gG k ^ x % gP k := fun x => by
    rw [Nat.add_zero, Nat.add_sub_cancel' (Nat.le_of_lt hr)]
    unfold pdg
    rw [Nat.mul_mod, gH_pow k, Nat.mul_one, Nat.mod_mod]
  rw [h, h2, e, e] at h1
  exact h1.symm
/-- Bare pledges are fitted by the value alone. -/
theorem fits_iff (k : Nat) (l : List Nat) (x o : Nat) (ho : o < gQ k) : (evalx (gP k) (l.map fun a => gG k ^ a % gP k) (x % gQ k) = gG k ^ o % gP k) ↔ o = evalm (gQ k) l (x % gQ k) := by
  rw [exps_base]
  exact ⟨fun h => (pow_inj_mod k (evalm_lt (gQ_pos k) l _) ho h).symm, fun h => by rw [h]⟩
/-- Pledges are opened by the value alone. -/
theorem opens_iff (k : Nat) (l m : List Nat) (x o : Nat) (ho : o < gQ k) : (evalx (gP k) (allP k l m) (x % gQ k) = multi (gP k) [gG k, gH k] [o, evalm (gQ k) m (x % gQ k)]) ↔ o = evalm (gQ k) l (x % gQ k) := by
  rw [all_at, multi_two]
  exact ⟨fun h => (pdg_inj k (evalm_lt (gQ_pos k) l _) ho (evalm_lt (gQ_pos k) m _) h).symm, fun h => by rw [h]; rfl⟩
end Sac
