import Derived.Test.YthefednendgclaaGreatPledgeL
set_option linter.unusedVariables false
set_option linter.unusedSimpArgs false
/-
  The polynomial through places, the plain law. No program in sight.
-/
namespace Sac
open Poly NT

/-- The product of all x - b, b from xs but the i-th, as a polynomial. -/
def pF (q : Nat) (xs : List Nat) (i : Nat) : Nat → List Nat
  | 0 => [1 % q]
  | k + 1 => if k = i then pF q xs i k else mull q (pF q xs i k) [subm q 0 (xs.getD k 0), 1]
/-- The factor of place i. -/
def cF (q : Nat) (xs ys : List Nat) (i : Nat) : Nat := ys.getD i 0 * invq q (upF q (xs.getD i 0) xs i xs.length) % q
/-- The sum of the first parts. -/
def thrF (q : Nat) (xs ys : List Nat) : Nat → List Nat
  | 0 => List.replicate xs.length 0
  | i + 1 => addl q (thrF q xs ys i) (mull q (pF q xs i xs.length) [cF q xs ys i])

theorem pF_length (q : Nat) (xs : List Nat) (i : Nat) : ∀ k, (pF q xs i k).length = if k ≤ i then k + 1 else k
  | 0 => by simp [pF]
  | k + 1 => by
    have ih := pF_length q xs i k
    unfold pF
    by_cases h : k = i
    · rw [if_pos h, ih, if_pos (by omega), if_neg (by omega)]
    · rw [if_neg h, mull_length, ih]
      by_cases h2 : k ≤ i
      · rw [if_pos h2, if_pos (by omega)]; simp
      · rw [if_neg h2, if_neg (by omega)]; simp
theorem pF_full {q : Nat} {xs : List Nat} {i : Nat} (hi : i < xs.length) : (pF q xs i xs.length).length = xs.length := by rw [pF_length, if_neg (by omega)]
theorem pF_pos (q : Nat) (xs : List Nat) (i k : Nat) : 0 < (pF q xs i k).length := by
  rw [pF_length]
  split <;> omega
theorem pF_le (q : Nat) (xs : List Nat) (i k : Nat) : (pF q xs i k).length ≤ k + 1 := by
  rw [pF_length]
  split <;> omega
theorem ev_root {q : Nat} (hq : 0 < q) (b : Nat) (x : Int) : Cg q (ev (zs [subm q 0 b, 1]) x) (x - b) := by
  have h1 := (Mo.sub hq (Cg.refl q ((0 : Nat) : Int)) (Cg.refl q (b : Int))).2
  have h2 := h1.add (Cg.refl q x)
  refine (Cg.of_eq ?_).trans (h2.trans (Cg.of_eq ?_))
  · simp [zs, ev]
  · omega
theorem pF_ev {q : Nat} (hq : 0 < q) (xs : List Nat) (i : Nat) (x : Int) : ∀ k, k ≤ xs.length → Cg q (ev (zs (pF q xs i k)) x) (prod x (((zs xs).take k).eraseIdx i))
  | 0, _ => by
    refine (Cg.of_eq ?_).trans ((Cg.mod (q := q) 1).trans (Cg.of_eq (by simp [prod])))
    simp [pF, zs, ev]
  | k + 1, h => by
    have ih := pF_ev hq xs i x k (by omega)
    rw [← eraseIdx_take_succ (zs xs) i k (by rw [zs_length]; omega)]
    unfold pF
    by_cases hk : k = i
    · rw [if_pos hk, if_pos hk]; exact ih
    · rw [if_neg hk, if_neg hk, prod_append]
      refine (mull_ev _ _ x (by simp)).trans (ih.mul ?_)
      rw [zs_getD]
      exact ev_root hq _ x
theorem thr_length {q : Nat} {xs ys : List Nat} : ∀ k, k ≤ xs.length → (thrF q xs ys k).length = xs.length
  | 0, _ => by simp [thrF]
  | k + 1, h => by
    show (addl q _ _).length = _
    rw [addl_length, thr_length k (by omega), mull_length, pF_full (by omega)]
    simp
theorem thr_lt {q : Nat} (hq : 0 < q) {xs ys : List Nat} : ∀ k, ∀ c ∈ thrF q xs ys k, c < q
  | 0 => fun c hc => by
    have := List.eq_of_mem_replicate hc
    omega
  | k + 1 => addl_lt hq _ _
theorem ev_one (c : Nat) (x : Int) : ev (zs [c]) x = c := by simp [zs, ev]
theorem thr_ev {q : Nat} (hq : 0 < q) (xs ys : List Nat) (x : Int) : ∀ k, k ≤ xs.length → Cg q (ev (zs (thrF q xs ys k)) x) (sumTo (fun i => ((ys.getD i 0 : Nat) : Int) * part (zs xs) ((invq q (upF q (xs.getD i 0) xs i xs.length) : Nat) : Int) i x) k)
  | 0, _ => Cg.of_eq (ev_zeros _ x)
  | k + 1, h => by
    refine (addl_ev _ _ x).trans ((thr_ev hq xs ys x k (by omega)).add ?_)
    refine (mull_ev _ _ x (by simp)).trans ?_
    rw [ev_one]
    have h1 := pF_ev hq xs k x xs.length (Nat.le_refl _)
    rw [take_all] at h1
    have h2 : Cg q ((cF q xs ys k : Nat) : Int) (((ys.getD k 0 : Nat) : Int) * ((invq q (upF q (xs.getD k 0) xs k xs.length) : Nat) : Int)) := (Cg.mod _).trans (Cg.of_eq (Int.natCast_mul _ _))
    refine (h1.mul h2).trans (Cg.of_eq ?_)
    unfold part
    rw [Int.mul_comm, Int.mul_assoc]

/-- It has the polynomial's values. -/
theorem thr_val {q : Nat} (hq : Prime q) {xs : List Nat} (hd : Dis q xs) (p : List Nat) (hp : p.length ≤ xs.length) (x : Int) :
    Cg q (ev (zs (thrF q xs (xs.map fun z => evalm q p (z % q)) xs.length)) x) (ev (zs p) x) := by
  have hq0 : 0 < q := by have := hq.1; omega
  have h1 := lagrange hq.prm hd.pair (fun i => (((xs.map fun z => evalm q p (z % q)).getD i 0 : Nat) : Int)) (fun i => ((invq q (upF q (xs.getD i 0) xs i xs.length) : Nat) : Int)) (fun i hi => wt_inv hq hd (by simpa using hi)) (f := ev (zs p)) ((Deg.poly (zs p)).mono (by rw [zs_length, zs_length]; exact hp)) (fun i hi => by
    rw [zs_getD]
    have hi' : i < xs.length := by simpa using hi
    have e : (xs.map fun z => evalm q p (z % q)).getD i 0 = evalm q p (xs.getD i 0 % q) := by
      simp [List.getD_eq_getElem?_getD, List.getElem?_map, List.getElem?_eq_getElem hi']
    rw [e]
    exact (evalm_mod hq0 p (xs.getD i 0)).2) x
  rw [zs_length] at h1
  exact (thr_ev hq0 xs _ x xs.length (Nat.le_refl _)).trans h1
/-- It goes through all of them. -/
theorem thr_at {q : Nat} (hq : Prime q) {xs : List Nat} (hd : Dis q xs) (p : List Nat) (hp : p.length ≤ xs.length) (x : Nat) :
    evalm q (thrF q xs (xs.map fun z => evalm q p (z % q)) xs.length) (x % q) = evalm q p (x % q) := by
  have hq0 : 0 < q := by have := hq.1; omega
  have h1 := evalm_mod hq0 (thrF q xs (xs.map fun z => evalm q p (z % q)) xs.length) x
  have h2 := evalm_mod hq0 p x
  exact Mo.uniq h1 (Mo.lt h2.1) ((thr_val hq hd p hp x).trans h2.2.symm)

theorem ev_sub : ∀ (a b : List Int) (x : Int), a.length = b.length → ev (List.zipWith (· - ·) a b) x = ev a x - ev b x
  | [], [], x, _ => by simp [ev]
  | a :: as, b :: bs, x, h => by
    show (a - b) + x * ev (List.zipWith (· - ·) as bs) x = a + x * ev as x - (b + x * ev bs x)
    rw [ev_sub as bs x (by simpa using h), Int.mul_sub]
    omega
theorem ev_pad (p : List Nat) (n : Nat) (x : Int) : ev (zs (p ++ List.replicate n 0)) x = ev (zs p) x := by
  rw [zs_append, ev_append, ev_zeros, Int.mul_zero, Int.add_zero]
/-- It is the polynomial. -/
theorem thr_eq {q : Nat} (hq : Prime q) {xs : List Nat} (hd : Dis q xs) (p : List Nat) (hp : p.length ≤ xs.length) (hlt : ∀ c ∈ p, c < q) :
    thrF q xs (xs.map fun z => evalm q p (z % q)) xs.length = p ++ List.replicate (xs.length - p.length) 0 := by
  have hq0 : 0 < q := by have := hq.1; omega
  obtain ⟨t, ht⟩ : ∃ t, thrF q xs (xs.map fun z => evalm q p (z % q)) xs.length = t := ⟨_, rfl⟩
  obtain ⟨r, hr⟩ : ∃ r, p ++ List.replicate (xs.length - p.length) 0 = r := ⟨_, rfl⟩
  have htl : t.length = xs.length := by rw [← ht]; exact thr_length _ (Nat.le_refl _)
  have hrl : r.length = xs.length := by rw [← hr]; simp; omega
  have htq : ∀ c ∈ t, c < q := by rw [← ht]; exact thr_lt hq0 _
  have hrq : ∀ c ∈ r, c < q := by
    rw [← hr]
    intro c hc
    rcases List.mem_append.1 hc with h | h
    · exact hlt c h
    · have := List.eq_of_mem_replicate h
      omega
  have hev : ∀ x : Int, (q : Int) ∣ ev (List.zipWith (· - ·) (zs t) (zs r)) x := fun x => by
    rw [ev_sub _ _ _ (by simp [htl, hrl]), ← hr, ev_pad, ← ht]
    exact thr_val hq hd p hp x
  have hall := roots (q := (q : Int)) hq.prm (zs xs) (List.zipWith (· - ·) (zs t) (zs r)) (by simp [htl, hrl]) hd.pair (fun x _ => hev x)
  rw [ht, hr]
  apply List.ext_getElem (by omega)
  intro i h1 h2
  have hm : ((t[i] : Nat) : Int) - ((r[i] : Nat) : Int) ∈ List.zipWith (· - ·) (zs t) (zs r) := by
    rw [List.mem_iff_getElem]
    exact ⟨i, by simp; omega, by simp [zs]⟩
  have h3 := cg_dvd (hall _ hm)
  rw [Nat.mod_eq_of_lt (htq _ (List.getElem_mem h1)), Nat.mod_eq_of_lt (hrq _ (List.getElem_mem h2))] at h3
  exact h3
end Sac
