/-
  What the laws of polynomials say, over numbers. No program in sight.
-/
import Derived.Test.YthefednendgclaaCurveG
set_option linter.unusedVariables false
set_option linter.unusedSimpArgs false
namespace Sac
open NT Poly

theorem exps_base (k : Nat) (p : List Nat) (x : Nat) : evalx (gP k) (p.map fun a => gG k ^ a % gP k) (x % gQ k) = gG k ^ evalm (gQ k) p (x % gQ k) % gP k :=
  evalx_base (gP_one k) (gQ_pos k) (gG_pow k) p _
theorem exps_add {q : Nat} (hq : 0 < q) (p r : List Nat) (x : Nat) : evalm q (addl q p r) (x % q) = (evalm q p (x % q) + evalm q r (x % q)) % q :=
  Mo.uniq (evalm_mod hq _ x) (Mo.add hq (evalm_mod hq p x).2 (evalm_mod hq r x).2) (addl_ev p r x)
theorem exps_mul {q : Nat} (hq : 0 < q) (p r : List Nat) (x : Nat) (hr : 0 < r.length) : evalm q (mull q p r) (x % q) = evalm q p (x % q) * evalm q r (x % q) % q :=
  Mo.uniq (evalm_mod hq _ x) (Mo.mul hq (evalm_mod hq p x).2 (evalm_mod hq r x).2) (mull_ev p r x hr)

/-! ### Weights -/
/-- The product of all x - b, b from ys but the i-th; below q. -/
def upF (q x : Nat) (ys : List Nat) (i : Nat) : Nat → Nat
  | 0 => 1 % q
  | k + 1 => if k = i then upF q x ys i k else upF q x ys i k * subm q x (ys.getD k 0) % q
theorem eraseIdx_take_succ (l : List Int) (i k : Nat) (hk : k < l.length) : (if k = i then ((l.take k).eraseIdx i) else ((l.take k).eraseIdx i) ++ [l.getD k 0]) = (l.take (k + 1)).eraseIdx i := by
  rw [List.take_succ_eq_append_getElem hk]
  have hl : (l.take k).length = k := by rw [List.length_take]; omega
  have hg : l.getD k 0 = l[k] := by rw [List.getD_eq_getElem?_getD, List.getElem?_eq_getElem hk]; rfl
  by_cases h : k = i
  · rw [if_pos h, List.eraseIdx_append_of_length_le (by omega), hl, List.eraseIdx_of_length_le (by omega), ← h, Nat.sub_self]
    simp
  · rw [if_neg h, hg]
    rcases Nat.lt_or_ge i k with h1 | h1
    · rw [List.eraseIdx_append_of_lt_length (by omega)]
    · rw [List.eraseIdx_append_of_length_le (by omega), List.eraseIdx_of_length_le (by omega), hl, List.eraseIdx_of_length_le (by simp; omega)]
theorem prod_append (x : Int) : ∀ (l : List Int) (y : Int), prod x (l ++ [y]) = prod x l * (x - y)
  | [], y => by simp [prod]
  | a :: l, y => by
    show (x - a) * prod x (l ++ [y]) = (x - a) * prod x l * (x - y)
    rw [prod_append x l y, Int.mul_assoc]
theorem upF_mo {q : Nat} (hq : 0 < q) (x : Nat) (ys : List Nat) (i : Nat) : ∀ k, k ≤ ys.length → Mo q (upF q x ys i k) (prod x (((zs ys).take k).eraseIdx i))
  | 0, _ => ⟨Nat.mod_lt _ hq, (Cg.mod 1).trans (Cg.of_eq (by simp [prod]))⟩
  | k + 1, h => by
    have ih := upF_mo hq x ys i k (by omega)
    rw [← eraseIdx_take_succ (zs ys) i k (by rw [zs_length]; omega)]
    unfold upF
    by_cases hk : k = i
    · rw [if_pos hk, if_pos hk]; exact ih
    · rw [if_neg hk, if_neg hk, prod_append]
      exact Mo.mul hq ih.2 ((Mo.sub hq (Cg.refl q (x : Int)) (Cg.refl q ((ys.getD k 0 : Nat) : Int))).2.trans (Cg.of_eq (by rw [zs_getD])))

theorem cg_dvd {q a b : Nat} (h : (q : Int) ∣ (a : Int) - b) : a % q = b % q := by
  have h1 : ((a : Int) - b) % q = 0 := Int.emod_eq_zero_of_dvd h
  have h2 := Int.emod_emod_of_dvd (a : Int) (Int.dvd_refl (q : Int))
  have h3 : (a : Int) % q = (b : Int) % q := (Int.emod_eq_emod_iff_emod_sub_eq_zero).2 h1
  rw [← Int.natCast_emod, ← Int.natCast_emod] at h3
  exact Int.ofNat.inj h3
theorem bezout (a b : Nat) : ∃ x y : Int, (a : Int) * x + b * y = (Nat.gcd a b : Nat) := by
  induction a, b using Nat.gcd.induction with
  | H0 n => exact ⟨0, 1, by simp⟩
  | H1 m n hm ih =>
    obtain ⟨x, y, h⟩ := ih
    refine ⟨y - ((n / m : Nat) : Int) * x, x, ?_⟩
    rw [Nat.gcd_rec, ← h]
    have h1 : ((m : Int) * ((n / m : Nat) : Int) + ((n % m : Nat) : Int)) = n := by exact_mod_cast Nat.div_add_mod n m
    rw [Int.mul_sub, ← Int.mul_assoc]
    have h2 : (n : Int) * x = (m : Int) * ((n / m : Nat) : Int) * x + ((n % m : Nat) : Int) * x := by rw [← Int.add_mul, h1]
    rw [h2]
    omega
theorem inv_exists {q d : Nat} (hq : 0 < q) (h : Nat.gcd q d = 1) : ∃ z, z < q ∧ z * d % q = 1 % q := by
  obtain ⟨x, y, hxy⟩ := bezout q d
  rw [h] at hxy
  have hy0 : 0 ≤ y % (q : Int) := Int.emod_nonneg _ (by omega)
  have hy1 : y % (q : Int) < q := Int.emod_lt_of_pos _ (by omega)
  obtain ⟨z, hz⟩ := Int.eq_ofNat_of_zero_le hy0
  refine ⟨z, by omega, ?_⟩
  refine cg_dvd ?_
  have h1 : (q : Int) ∣ y - z := by rw [← hz]; exact Int.dvd_self_sub_emod
  have h2 : (q : Int) ∣ (y - z) * d := Int.dvd_mul_of_dvd_left h1
  have h3 : (q : Int) ∣ (q : Int) * x := Int.dvd_mul_right _ _
  have h4 := Int.dvd_neg.2 (Int.dvd_add h2 h3)
  have h5 : y * (d : Int) = (d : Int) * y := Int.mul_comm _ _
  have h6 : ((z * d : Nat) : Int) - ((1 : Nat) : Int) = -((y - z) * d + q * x) := by
    rw [Int.natCast_mul, Int.sub_mul]
    omega
  rw [h6]; exact h4
/-- The number below q that makes 1 with n; 0, if there is none. -/
def invq (q n : Nat) : Nat := ((List.range q).find? (fun z => z * n % q == 1 % q)).getD 0
theorem inv_uniq {q n z z' : Nat} (hz : z < q) (hz' : z' < q) (h : z * n % q = 1 % q) (h' : z' * n % q = 1 % q) : z = z' := by
  have h1 : z * (z' * n) % q = z % q := by rw [Nat.mul_mod, h', ← Nat.mul_mod, Nat.mul_one]
  have h2 : z' * (z * n) % q = z' % q := by rw [Nat.mul_mod, h, ← Nat.mul_mod, Nat.mul_one]
  have h3 : z * (z' * n) = z' * (z * n) := Nat.mul_left_comm _ _ _
  rw [h3, h2, Nat.mod_eq_of_lt hz, Nat.mod_eq_of_lt hz'] at h1
  exact h1.symm
theorem invq_eq {q n z : Nat} (hz : z < q) (h : z * n % q = 1 % q) : invq q n = z := by
  unfold invq
  cases hf : (List.range q).find? (fun z => z * n % q == 1 % q) with
  | none =>
    rw [List.find?_eq_none] at hf
    exact absurd (by simpa using h) (by simpa using hf z (List.mem_range.2 hz))
  | some y =>
    have h1 := List.find?_some hf
    have h2 := List.mem_range.1 (List.mem_of_find?_eq_some hf)
    exact inv_uniq h2 hz (by simpa using h1) h
/-- Place i counts so much at x. -/
def wt (q : Nat) (xs : List Nat) (x i : Nat) : Nat := upF q x xs i xs.length * invq q (upF q (xs.getD i 0) xs i xs.length) % q
def wts (q : Nat) (xs : List Nat) (x : Nat) : List Nat := (List.range xs.length).map (wt q xs x)
theorem wts_length (q : Nat) (xs : List Nat) (x : Nat) : (wts q xs x).length = xs.length := by simp [wts]
theorem wts_get (q : Nat) (xs : List Nat) (x i : Nat) (hi : i < xs.length) : (wts q xs x).getD i 0 = wt q xs x i := by
  simp [wts, List.getD_eq_getElem?_getD, List.getElem?_map, List.getElem?_range hi]
/-- Unlike places. -/
def Dis (q : Nat) (xs : List Nat) : Prop := ∀ i j, j < i → i < xs.length → xs.getD i 0 % q ≠ xs.getD j 0 % q
theorem Dis.pair {q : Nat} {xs : List Nat} (h : Dis q xs) : (zs xs).Pairwise (fun a b => ¬ (q : Int) ∣ a - b) := by
  rw [List.pairwise_iff_getElem]
  intro j i hj hi hji hd
  rw [zs_length] at hj hi
  have e : ∀ k (hk : k < (zs xs).length), (zs xs)[k] = ((xs.getD k 0 : Nat) : Int) := fun k hk => by
    have := zs_getD xs k
    rw [List.getD_eq_getElem?_getD, List.getElem?_eq_getElem hk] at this
    exact this
  rw [e j (by simpa using hj), e i (by simpa using hi)] at hd
  exact h i j hji hi (cg_dvd hd).symm
theorem take_all (xs : List Nat) : (zs xs).take xs.length = zs xs := List.take_of_length_le (by simp)
theorem down_unit {q : Nat} (hq : Prime q) {xs : List Nat} (hd : Dis q xs) {i : Nat} (hi : i < xs.length) : Nat.gcd q (upF q (xs.getD i 0) xs i xs.length) = 1 := by
  have h1 := upF_mo (q := q) (by have := hq.1; omega) (xs.getD i 0) xs i xs.length (Nat.le_refl _)
  rw [take_all] at h1
  have hn1 : ¬ (q : Int) ∣ 1 := fun h => by
    have := Int.le_of_dvd (by decide) h
    have := hq.1
    omega
  have h2 := unit_at hq.prm hn1 hd.pair (i := i) (by simpa using hi)
  rw [zs_getD] at h2
  refine hq.coprime fun h3 => h2 ?_
  have h4 := h1.2
  unfold Cg at h4
  have h5 : (q : Int) ∣ ((upF q (xs.getD i 0) xs i xs.length : Nat) : Int) := Int.natCast_dvd_natCast.2 h3
  have h6 := Int.dvd_sub h5 h4
  rwa [Int.sub_sub_self] at h6
theorem wt_inv {q : Nat} (hq : Prime q) {xs : List Nat} (hd : Dis q xs) {i : Nat} (hi : i < xs.length) : Cg q (((invq q (upF q (xs.getD i 0) xs i xs.length) : Nat) : Int) * prod ((zs xs).getD i 0) ((zs xs).eraseIdx i)) 1 := by
  have hq0 : 0 < q := by have := hq.1; omega
  have h1 := upF_mo (q := q) hq0 (xs.getD i 0) xs i xs.length (Nat.le_refl _)
  rw [take_all] at h1
  rw [zs_getD]
  obtain ⟨d, hdn⟩ : ∃ d, upF q (xs.getD i 0) xs i xs.length = d := ⟨_, rfl⟩
  have hg := down_unit hq hd hi
  rw [hdn] at h1 hg ⊢
  obtain ⟨z, hz, hz1⟩ : ∃ z, z < q ∧ z * d % q = 1 % q := by
    exact inv_exists hq0 hg
  rw [invq_eq hz hz1]
  refine ((Cg.refl q (z : Int)).mul h1.2.symm).trans ?_
  have h5 : Cg q ((z * d % q : Nat) : Int) ((z * d : Nat) : Int) := Cg.mod _
  rw [hz1] at h5
  have h6 := (h5.symm.trans (Cg.mod 1))
  rw [Int.natCast_mul] at h6
  exact h6
theorem wt_mo {q : Nat} (hq : 0 < q) (xs : List Nat) (x i : Nat) : Mo q (wt q xs x i) (part (zs xs) ((invq q (upF q (xs.getD i 0) xs i xs.length) : Nat) : Int) i x) := by
  have h1 := upF_mo (q := q) hq x xs i xs.length (Nat.le_refl _)
  rw [take_all] at h1
  unfold wt part
  rw [Int.mul_comm]
  exact Mo.mul hq h1.2 (Cg.refl q _)

/-- The sum of numbers, as it is reckoned. -/
def sumF (q : Nat) (ws : List Nat) (n : Nat) : Nat → Nat
  | 0 => n
  | k + 1 => (sumF q ws n k + ws.getD k 0) % q
theorem sumF_cg {q : Nat} (ws : List Nat) : ∀ k, Cg q (sumF q ws 0 k) (sumTo (fun i => ((ws.getD i 0 : Nat) : Int)) k)
  | 0 => Cg.of_eq rfl
  | k + 1 => ((Cg.mod _).trans (Cg.of_eq (Int.natCast_add _ _))).trans ((sumF_cg ws k).add (Cg.refl q _))
/-- The weights are 1 together. -/
theorem sum_one {q : Nat} (hq : Prime q) {xs : List Nat} (hd : Dis q xs) (h0 : 0 < xs.length) (x : Nat) : sumF q (wts q xs x) 0 xs.length = 1 := by
  have hq0 : 0 < q := by have := hq.1; omega
  have h1 := lagrange hq.prm hd.pair (fun _ => 1) (fun i => ((invq q (upF q (xs.getD i 0) xs i xs.length) : Nat) : Int)) (fun i hi => wt_inv hq hd (by simpa using hi)) (f := fun _ => 1) ((Deg.const 1).mono (by rw [zs_length]; exact h0)) (fun _ _ => Cg.refl _ _) (x : Int)
  have h2 := sumF_cg (q := q) (wts q xs x) xs.length
  have h3 : Cg q (sumTo (fun i => (((wts q xs x).getD i 0 : Nat) : Int)) xs.length) 1 := by
    refine (sumTo_cg _ fun i hi => ?_).trans (by rw [zs_length] at h1; exact h1)
    rw [wts_get q xs x i hi, Int.one_mul]
    exact (wt_mo hq0 xs x i).2
  obtain ⟨n, hn⟩ : ∃ n, xs.length = n + 1 := ⟨xs.length - 1, by omega⟩
  have h4 : sumF q (wts q xs x) 0 xs.length < q := by rw [hn]; exact Nat.mod_lt _ hq0
  exact Mo.uniq ⟨h4, h2.trans h3⟩ ⟨hq.1, Cg.refl q 1⟩ (Cg.refl q 1)
end Sac
