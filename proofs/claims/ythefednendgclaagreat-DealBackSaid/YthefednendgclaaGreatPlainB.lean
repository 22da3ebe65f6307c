import Derived.Test.YthefednendgclaaGreatPledgeL
import Derived.Test.YthefednendgclaaGreatHval
set_option linter.unusedVariables false
set_option linter.unusedSimpArgs false
/-
  The polynomial through places, the plain law. No program in sight.
-/
namespace Sac
open Poly NT

/-- The product of all x - b, b from xs but the i-th, as a polynomial. -/
def pF (q : Nat) (xs : List Nat) (i : Nat) : Nat → List Nat
  | 0 => [1 % q]
  | k + 1 => if k = i then pF q xs i k else mull q (pF q xs i k) [subm q 0 (xs.getD k 0), 1]
/-- The factor of place i. -/
def cF (q : Nat) (xs ys : List Nat) (i : Nat) : Nat := ys.getD i 0 * invq q (upF q (xs.getD i 0) xs i xs.length) % q
/-- The sum of the first parts. -/
def thrF (q : Nat) (xs ys : List Nat) : Nat → List Nat
  | 0 => List.replicate xs.length 0
  | i + 1 => addl q (thrF q xs ys i) (mull q (pF q xs i xs.length) [cF q xs ys i])

theorem pF_length (q : Nat) (xs : List Nat) (i : Nat) : ∀ k, (pF q xs i k).length = if k ≤ i then k + 1 else k
  | 0 => by simp [pF]
  | k + 1 => by
    have ih := pF_length q xs i k
    unfold pF
    by_cases h : k = i
    · rw [if_pos h, ih, if_pos (by omega), if_neg (by omega)]
    · rw [if_neg h, mull_length, ih]
      by_cases h2 : k ≤ i
      · rw [if_pos h2, if_pos (by omega)]; simp
      · rw [if_neg h2, if_neg (by omega)]; simp
theorem pF_full {q : Nat} {xs : List Nat} {i : Nat} (hi : i < xs.length) : (pF q xs i xs.length).length = xs.length := by rw [pF_length, if_neg (by omega)]
theorem pF_pos (q : Nat) (xs : List Nat) (i k : Nat) : 0 < (pF q xs i k).length := by
  rw [pF_length]
  split <;> omega
theorem pF_le (q : Nat) (xs : List Nat) (i k : Nat) : (pF q xs i k).length ≤ k + 1 := by
  rw [pF_length]
  split <;> omega
theorem ev_root {q : Nat} (hq : 0 < q) (b : Nat) (x : Int) : Cg q (ev (zs [subm q 0 b, 1]) x) (x - b) := by
  have h1 := (Mo.sub hq (Cg.refl q ((0 : Nat) : Int)) (Cg.refl q (b : Int))).2
  have h2 := h1.add (Cg.refl q x)
  refine (Cg.of_eq ?_).trans (h2.trans (Cg.of_eq ?_))
  · simp [zs, ev]
  · omega
theorem pF_ev {q : Nat} (hq : 0 < q) (xs : List Nat) (i : Nat) (x : Int) : ∀ k, k ≤ xs.length → Cg q (ev (zs (pF q xs i k)) x) (prod x (((zs xs).take k).eraseIdx i))
  | 0, _ => by
    refine (Cg.of_eq ?_).trans ((Cg.mod (q := q) 1).trans (Cg.of_eq (by simp [prod])))
    simp [pF, zs, ev]
  | k + 1, h => by
    have ih := pF_ev hq xs i x k (by omega)
    rw [← eraseIdx_take_succ (zs xs) i k (by rw [zs_length]; omega)]
    unfold pF
    by_cases hk : k = i
    · rw [if_pos hk, if_pos hk]; exact ih
    · rw [if_neg hk, if_neg hk, prod_append]
      refine (mull_ev _ _ x (by simp)).trans (ih.mul ?_)
      rw [zs_getD]
      exact ev_root hq _ x
theorem thr_length {q : Nat} {xs ys : List Nat} : ∀ k, k ≤ xs.length → (thrF q xs ys k).length = xs.length
  | 0, _ => by simp [thrF]
  | k + 1, h => by
    show (addl q _ _).length = _
    rw [addl_length, thr_length k (by omega), mull_length, pF_full (by omega)]
    simp
theorem thr_lt {q : Nat} (hq : 0 < q) {xs ys : List Nat} : ∀ k, ∀ c ∈ thrF q xs ys k, c < q
  | 0 => fun c hc => by
    have := List.eq_of_mem_replicate hc
    omega
  | k + 1 => addl_lt hq _ _
theorem ev_one (c : Nat) (x : Int) : ev (zs [c]) x = c := by simp [zs, ev]
theorem thr_ev {q : Nat} (hq : 0 < q) (xs ys : List Nat) (x : Int) : ∀ k, k ≤ xs.length → Cg q (ev (zs (thrF q xs ys k)) x) (sumTo (fun i => ((ys.getD i 0 : Nat) : Int) * part (zs xs) ((invq q (upF q (xs.getD i 0) xs i xs.length) : Nat) : Int) i x) k)
  | 0, _ => Cg.of_eq (ev_zeros _ x)
  | k + 1, h => by
    refine (addl_ev _ _ x).trans ((thr_ev hq xs ys x k (by omega)).add ?_)
    refine (mull_ev _ _ x (by simp)).trans ?_
    rw [ev_one]
    have h1 := pF_ev hq xs k x xs.length (Nat.le_refl _)
    rw [take_all] at h1
    have h2 : Cg q ((cF q xs ys k : Nat) : Int) (((ys.getD k 0 : Nat) : Int) * ((invq q (upF q (xs.getD k 0) xs k xs.length) : Nat) : Int)) := (Cg.mod _).trans (Cg.of_eq (Int.natCast_mul _ _))
    refine (h1.mul h2).trans (Cg.of_eq ?_)
    unfold part
    rw [Int.mul_comm, Int.mul_assoc]

/-- It has the polynomial's values. -/
theorem thr_val {q : Nat} (hq : Prime q) {xs : List Nat} (hd : Dis q xs) (p : List Nat) (hp : p.length ≤ xs.length) (x : Int) :
    Cg q (ev (zs (thrF q xs (xs.map fun z => evalm q p (z % q)) xs.length)) x) (ev (zs p) x) := by
  have hq0 : 0 < q := by have := hq.1; omega
  have h1 := lagrange hq.prm hd.pair (fun i => (((xs.map fun z => evalm q p (z % q)).getD i 0 : Nat) : Int)) (fun i => ((invq q (upF q (xs.getD i 0) xs i xs.length) : Nat) : Int)) (fun i hi => wt_inv hq hd (by simpa using hi)) (f := ev (zs p)) ((Deg.poly (zs p)).mono (by rw [zs_length, zs_length]; exact hp)) (fun i hi => by
    rw [zs_getD]
    have hi' : i < xs.length := by simpa using hi
    have e : (xs.map fun z => evalm q p (z % q)).getD i 0 = evalm q p (xs.getD i 0 % q) := by
      simp [List.getD_eq_getElem?_getD, List.getElem?_map, List.getElem?_eq_getElem hi']
    rw [e]
    exact (evalm_mod hq0 p (xs.getD i 0)).2) x
  rw [zs_length] at h1
  exact (thr_ev hq0 xs _ x xs.length (Nat.le_refl _)).trans h1
/-- It goes through all of them. -/
theorem thr_at {q : Nat} (hq : Prime q) {xs : List Nat} (hd : Dis q xs) (p : List Nat) (hp : p.length ≤ xs.length) (x : Nat) :
    evalm q (thrF q xs (xs.map fun z => evalm q p (z % q)) xs.length) (x % q) = evalm q p (x % q) := by
  have hq0 : 0 < q := by have := hq.1; omega
  have h1 := evalm_mod hq0 (thrF q xs (xs.map fun z => evalm q p (z % q)) xs.length) x
  have h2 := evalm_mod hq0 p x
  exact Mo.uniq h1 (Mo.lt h2.1) ((thr_val hq hd p hp x).trans h2.2.symm)

theorem ev_sub : ∀ (a b : List Int) (x : Int), a.length = b.length → ev (List.zipWith (· - ·) a b) x = ev a x - ev b x
  | [], [], x, _ => by simp [ev]
  | a :: as, b :: bs, x, h => by
    show (a - b) + x * ev (List.zipWith (· - ·) as bs) x = a + x * ev as x - (b + x * ev bs x)
    rw [ev_sub as bs x (by simpa using h), Int.mul_sub]
    omega
theorem ev_pad (p : List Nat) (n : Nat) (x : Int) : ev (zs (p ++ List.replicate n 0)) x = ev (zs p) x := by
  rw [zs_append, ev_append, ev_zeros, Int.mul_zero, Int.add_zero]
/-- It is the polynomial. -/
theorem thr_eq {q : Nat} (hq : Prime q) {xs : List Nat} (hd : Dis q xs) (p : List Nat) (hp : p.length ≤ xs.length) (hlt : ∀ c ∈ p, c < q) :
    thrF q xs (xs.map fun z => evalm q p (z % q)) xs.length = p ++ List.replicate (xs.length - p.length) 0 := by
  have hq0 : 0 < q := by have := hq.1; omega
  obtain ⟨t, ht⟩ : ∃ t, thrF q xs (xs.map fun z => evalm q p (z % q)) xs.length = t := ⟨_, rfl⟩
  obtain ⟨r, hr⟩ : ∃ r, p ++ List.replicate (xs.length - p.length) 0 = r := ⟨_, rfl⟩
  have htl : t.length = xs.length := by rw [← ht]; exact thr_length _ (Nat.le_refl _)
  have hrl : r.length = xs.length := by rw [← hr]; simp; omega
  have htq : ∀ c ∈ t, c < q := by rw [← ht]; exact thr_lt hq0 _
  have hrq : ∀ c ∈ r, c < q := by
    rw [← hr]
    intro c hc
    rcases List.mem_append.1 hc with h | h
    · exact hlt c h
    · have := List.eq_of_mem_replicate h
      omega
  have hev : ∀ x : Int, (q : Int) ∣ ev (List.zipWith (· - ·) (zs t) (zs r)) x := fun x => by
    rw [ev_sub _ _ _ (by simp [htl, hrl]), ← hr, ev_pad, ← ht]
    exact thr_val hq hd p hp x
  have hall := roots (q := (q : Int)) hq.prm (zs xs) (List.zipWith (· - ·) (zs t) (zs r)) (by simp [htl, hrl]) hd.pair (fun x _ => hev x)
  rw [ht, hr]
  apply List.ext_getElem (by omega)
  intro i h1 h2
  have hm : ((t[i] : Nat) : Int) - ((r[i] : Nat) : Int) ∈ List.zipWith (· - ·) (zs t) (zs r) := by
    rw [List.mem_iff_getElem]
    exact ⟨i, by simp; omega, by simp [zs]⟩
  have h3 := cg_dvd (hall _ hm)
  rw [Nat.mod_eq_of_lt (htq _ (List.getElem_mem h1)), Nat.mod_eq_of_lt (hrq _ (List.getElem_mem h2))] at h3
  exact h3
end Sac
/-
  Shares, the plain law: the values at enough unlike places, scaled by their weights, make the value at any place, in the field and in the exponent. No program in sight.
-/
namespace Sac
open Poly NT

/-- The sum of the first values, each scaled. -/
def wsum (q : Nat) (ys ws : List Nat) : Nat → Nat
  | 0 => 0
  | k + 1 => (wsum q ys ws k + ys.getD k 0 * ws.getD k 0 % q) % q
/-- The product of the first powers. -/
def wprod (P : Nat) (ys ws : List Nat) : Nat → Nat
  | 0 => 1
  | k + 1 => wprod P ys ws k * (ys.getD k 0 ^ ws.getD k 0 % P) % P

theorem wsum_lt {q : Nat} (hq : 0 < q) (ys ws : List Nat) : ∀ k, wsum q ys ws k < q
  | 0 => hq
  | k + 1 => Nat.mod_lt _ hq
theorem wsum_cg {q : Nat} (ys ws : List Nat) : ∀ k, Cg q (wsum q ys ws k) (sumTo (fun i => ((ys.getD i 0 : Nat) : Int) * ((ws.getD i 0 : Nat) : Int)) k)
  | 0 => Cg.of_eq rfl
  | k + 1 => ((Cg.mod _).trans (Cg.of_eq (Int.natCast_add _ _))).trans ((wsum_cg ys ws k).add ((Cg.mod _).trans (Cg.of_eq (Int.natCast_mul _ _))))

/-- Enough unlike places tell the value. -/
theorem share_field {q : Nat} (hq : Prime q) {xs : List Nat} (hd : Dis q xs) (p : List Nat) (hp : p.length ≤ xs.length) (x : Nat) :
    wsum q (xs.map fun z => evalm q p (z % q)) (wts q xs x) xs.length = evalm q p (x % q) := by
  have hq0 : 0 < q := by have := hq.1; omega
  have h1 := lagrange hq.prm hd.pair (fun i => ((evalm q p (xs.getD i 0 % q) : Nat) : Int)) (fun i => ((invq q (upF q (xs.getD i 0) xs i xs.length) : Nat) : Int)) (fun i hi => wt_inv hq hd (by simpa using hi)) (f := ev (zs p)) ((Deg.poly (zs p)).mono (by rw [zs_length, zs_length]; exact hp)) (fun i hi => by
    rw [zs_getD]
    exact (evalm_mod hq0 p (xs.getD i 0)).2) (x : Int)
  have h2 := wsum_cg (q := q) (xs.map fun z => evalm q p (z % q)) (wts q xs x) xs.length
  have h3 : Cg q (sumTo (fun i => (((xs.map fun z => evalm q p (z % q)).getD i 0 : Nat) : Int) * (((wts q xs x).getD i 0 : Nat) : Int)) xs.length) (ev (zs p) x) := by
    refine (sumTo_cg _ fun i hi => ?_).trans (by rw [zs_length] at h1; exact h1)
    rw [wts_get q xs x i hi]
    have e : (xs.map fun z => evalm q p (z % q)).getD i 0 = evalm q p (xs.getD i 0 % q) := by
      simp [List.getD_eq_getElem?_getD, List.getElem?_map, List.getElem?_eq_getElem hi]
    rw [e]
    exact (Cg.refl q _).mul (wt_mo hq0 xs x i).2
  have h4 := (h2.trans h3).trans (evalm_mod hq0 p x).2.symm
  exact Mo.uniq (Mo.lt (wsum_lt hq0 _ _ _)) (Mo.lt (evalm_mod hq0 p x).1) h4

/-- The same in the exponent. -/
theorem share_exp {P q G : Nat} (hP : 1 < P) (hG : G ^ q % P = 1) (ys ws : List Nat) : ∀ n, n ≤ ys.length → wprod P (ys.map fun v => G ^ v % P) ws n = G ^ wsum q ys ws n % P
  | 0, _ => by
    show 1 = G ^ 0 % P
    rw [Nat.pow_zero, Nat.mod_eq_of_lt hP]
  | n + 1, h => by
    have ih := share_exp hP hG ys ws n (by omega)
    have e : (ys.map fun v => G ^ v % P).getD n 0 = G ^ ys.getD n 0 % P := by
      have hn : n < ys.length := by omega
      simp [List.getD_eq_getElem?_getD, List.getElem?_map, List.getElem?_eq_getElem hn]
    show wprod P (ys.map fun v => G ^ v % P) ws n * ((ys.map fun v => G ^ v % P).getD n 0 ^ ws.getD n 0 % P) % P = G ^ ((wsum q ys ws n + ys.getD n 0 * ws.getD n 0 % q) % q) % P
    rw [ih, e, ← pow_mod_exp hP hG, Nat.pow_add, ← Nat.pow_mod, Nat.mul_mod, Nat.mod_mod, Nat.mod_mod, ← Nat.pow_mul, Nat.mul_mod (G ^ wsum q ys ws n), pow_mod_exp hP hG (ys.getD n 0 * ws.getD n 0)]
/-- Both together. -/
theorem share_base (k : Nat) {xs : List Nat} (hd : Dis (gQ k) xs) (p : List Nat) (hp : p.length ≤ xs.length) (x : Nat) :
    wprod (gP k) ((xs.map fun z => evalm (gQ k) p (z % gQ k)).map fun v => gG k ^ v % gP k) (wts (gQ k) xs x) xs.length = gG k ^ evalm (gQ k) p (x % gQ k) % gP k := by
  rw [share_exp (gP_one k) (gG_pow k) _ _ _ (by simp), share_field (gQ_prime k) hd p hp x]
end Sac
/-
  What hides a dealing's secret: another polynomial that is 0 for the peers who look, and masks that make up for it. No program in sight.
-/
namespace Sac
open Poly NT

theorem subm_self' (q a : Nat) : subm q a a = 0 := by unfold subm; rw [if_pos (Nat.le_refl _), Nat.sub_self]
theorem upF_zero' {q : Nat} {xs : List Nat} {i t : Nat} (hti : t ≠ i) : ∀ k, t < k → upF q (xs.getD t 0) xs i k = 0
  | 0, h => by omega
  | k + 1, h => by
    unfold upF
    by_cases hki : k = i
    · rw [if_pos hki]; exact upF_zero' hti k (by omega)
    · rw [if_neg hki]
      by_cases htk : t = k
      · rw [htk, subm_self', Nat.mul_zero, Nat.zero_mod]
      · rw [upF_zero' hti k (by omega), Nat.zero_mul, Nat.zero_mod]
theorem invq_cg' {q n : Nat} (hq : 0 < q) (h : Nat.gcd q n = 1) : Cg q ((invq q n * n : Nat) : Int) 1 := by
  obtain ⟨z, h1, h2⟩ := inv_exists hq h
  rw [invq_eq h1 h2]
  have e1 := Cg.mod (q := q) (z * n)
  rw [h2] at e1
  exact e1.symm.trans (Cg.mod 1)
theorem wt_at' {q : Nat} (hq : Prime q) {xs : List Nat} (hd : Dis q xs) {i t : Nat} (hi : i < xs.length) (ht : t < xs.length) : wt q xs (xs.getD t 0) i = if i = t then 1 else 0 := by
  have hq1 : 1 < q := by have := hq.1; omega
  by_cases h : i = t
  · rw [if_pos h, ← h]
    unfold wt
    have h2 := invq_cg' (by omega) (down_unit hq hd hi)
    have h3 := Mo.uniq (Mo.of (by omega) _) (Mo.lt hq1) h2
    rw [Nat.mul_comm]; exact h3
  · rw [if_neg h]
    unfold wt
    rw [upF_zero' (fun e => h e.symm) _ ht, Nat.zero_mul, Nat.zero_mod]
/-- The polynomial through values goes through each of them. -/
theorem thr_hit {q : Nat} (hq : Prime q) {xs ys : List Nat} (hd : Dis q xs) {t : Nat} (ht : t < xs.length) : evalm q (thrF q xs ys xs.length) (xs.getD t 0 % q) = ys.getD t 0 % q := by
  have hq0 : 0 < q := by have := hq.1; omega
  refine (evalm_mod hq0 (thrF q xs ys xs.length) (xs.getD t 0)).uniq (Mo.of hq0 (ys.getD t 0)) ?_
  refine (thr_ev hq0 xs ys (xs.getD t 0) xs.length (Nat.le_refl _)).trans ?_
  have hw : ∀ i, i < xs.length → Cg q (part (zs xs) ((invq q (upF q (xs.getD i 0) xs i xs.length) : Nat) : Int) i (xs.getD t 0 : Nat)) (((if i = t then 1 else 0 : Nat)) : Int) := fun i hi => by
    have h1 := wt_mo hq0 xs (xs.getD t 0) i
    rw [wt_at' hq hd hi ht] at h1
    exact h1.2.symm
  refine (sumTo_one t xs.length ht (fun i hi hne => ?_)).trans ?_
  · have h := (Cg.refl q ((ys.getD i 0 : Nat) : Int)).mul (hw i hi)
    rw [if_neg hne] at h
    exact h.trans (Cg.of_eq (by simp))
  · have h := (Cg.refl q ((ys.getD t 0 : Nat) : Int)).mul (hw t ht)
    rw [if_pos rfl] at h
    exact h.trans (Cg.of_eq (by simp))

/-- The secret's polynomial with another one added. -/
def addP (q : Nat) (V p : List Nat) : List Nat := List.zipWith (fun a b => (a + b) % q) V p
/-- The masks' polynomial with that one, by a factor, taken off. -/
def subP (q c : Nat) (M p : List Nat) : List Nat := List.zipWith (fun a b => subm q a (b * c % q)) M p
theorem addP_length {q : Nat} {V p : List Nat} (h : V.length = p.length) : (addP q V p).length = V.length := by simp [addP, h]
theorem subP_length {q c : Nat} {M p : List Nat} (h : M.length = p.length) : (subP q c M p).length = M.length := by simp [subP, h]
theorem addP_get {q : Nat} {V p : List Nat} {i : Nat} (h1 : i < V.length) (h2 : i < p.length) : (addP q V p).getD i 0 = (V.getD i 0 + p.getD i 0) % q := by
  simp [addP, List.getD_eq_getElem?_getD, List.getElem?_zipWith, List.getElem?_eq_getElem h1, List.getElem?_eq_getElem h2]
theorem subP_get {q c : Nat} {M p : List Nat} {i : Nat} (h1 : i < M.length) (h2 : i < p.length) : (subP q c M p).getD i 0 = subm q (M.getD i 0) (p.getD i 0 * c % q) := by
  simp [subP, List.getD_eq_getElem?_getD, List.getElem?_zipWith, List.getElem?_eq_getElem h1, List.getElem?_eq_getElem h2]
theorem addP_take {q : Nat} {V p : List Nat} {i : Nat} (h1 : i < V.length) (h2 : i < p.length) : addP q (V.take (i + 1)) (p.take (i + 1)) = addP q (V.take i) (p.take i) ++ [(V.getD i 0 + p.getD i 0) % q] := by
  have e : ∀ n, addP q (V.take n) (p.take n) = (addP q V p).take n := fun n => by unfold addP; rw [List.take_zipWith]
  rw [e, e, List.take_add_one]
  congr 1
  simp [addP, List.getElem?_zipWith, List.getElem?_eq_getElem h1, List.getElem?_eq_getElem h2, List.getD_eq_getElem?_getD]
theorem subP_take {q c : Nat} {M p : List Nat} {i : Nat} (h1 : i < M.length) (h2 : i < p.length) : subP q c (M.take (i + 1)) (p.take (i + 1)) = subP q c (M.take i) (p.take i) ++ [subm q (M.getD i 0) (p.getD i 0 * c % q)] := by
  have e : ∀ n, subP q c (M.take n) (p.take n) = (subP q c M p).take n := fun n => by unfold subP; rw [List.take_zipWith]
  rw [e, e, List.take_add_one]
  congr 1
  simp [subP, List.getElem?_zipWith, List.getElem?_eq_getElem h1, List.getElem?_eq_getElem h2, List.getD_eq_getElem?_getD]
theorem addP_ev {q : Nat} (hq : 0 < q) (x : Int) : ∀ (V p : List Nat), V.length = p.length → Cg q (ev (zs (addP q V p)) x) (ev (zs V) x + ev (zs p) x)
  | [], [], _ => Cg.of_eq (by simp [addP, ev])
  | a :: V, b :: p, h => by
    have ih := addP_ev hq x V p (by simpa using h)
    have h1 : Cg q (((a + b) % q : Nat) : Int) ((a : Int) + (b : Int)) := (Mo.add hq (Cg.refl q (a : Int)) (Cg.refl q (b : Int))).2
    refine (h1.add ((Cg.refl q x).mul ih)).trans (Cg.of_eq ?_)
    simp only [zs_cons, ev]
    rw [Int.mul_add]
    omega
  | [], _ :: _, h => by simp at h
  | _ :: _, [], h => by simp at h
theorem subP_ev {q c : Nat} (hq : 0 < q) (x : Int) : ∀ (M p : List Nat), M.length = p.length → Cg q (ev (zs (subP q c M p)) x) (ev (zs M) x - (c : Int) * ev (zs p) x)
  | [], [], _ => Cg.of_eq (by simp [subP, ev])
  | a :: M, b :: p, h => by
    have ih := subP_ev (c := c) hq x M p (by simpa using h)
    have h0 : Cg q ((b * c % q : Nat) : Int) ((b : Int) * (c : Int)) := (Mo.mul hq (Cg.refl q (b : Int)) (Cg.refl q (c : Int))).2
    have h1 : Cg q ((subm q a (b * c % q) : Nat) : Int) ((a : Int) - (b : Int) * (c : Int)) := (Mo.sub hq (Cg.refl q (a : Int)) h0).2
    refine (h1.add ((Cg.refl q x).mul ih)).trans (Cg.of_eq ?_)
    simp only [zs_cons, ev]
    have e1 : x * (ev (zs M) x - (c : Int) * ev (zs p) x) = x * ev (zs M) x - (c : Int) * (x * ev (zs p) x) := by
      rw [Int.mul_sub, ← Int.mul_assoc, ← Int.mul_assoc, Int.mul_comm x (c : Int)]
    rw [e1, Int.mul_add, Int.mul_comm (b : Int) (c : Int)]
    omega
  | [], _ :: _, h => by simp at h
  | _ :: _, [], h => by simp at h
theorem addP_at {q : Nat} (hq : 0 < q) {V p : List Nat} (hl : V.length = p.length) {x : Nat} (h : evalm q p (x % q) = 0) : evalm q (addP q V p) (x % q) = evalm q V (x % q) := by
  have h0 : Cg q (ev (zs p) x) 0 := by
    have h1 := (evalm_mod hq p x).2
    rw [h] at h1
    exact h1.symm
  refine (evalm_mod hq (addP q V p) x).uniq (evalm_mod hq V x) ((addP_ev hq x V p hl).trans ?_)
  exact ((Cg.refl q _).add h0).trans (Cg.of_eq (by omega))
theorem subP_at {q c : Nat} (hq : 0 < q) {M p : List Nat} (hl : M.length = p.length) {x : Nat} (h : evalm q p (x % q) = 0) : evalm q (subP q c M p) (x % q) = evalm q M (x % q) := by
  have h0 : Cg q (ev (zs p) x) 0 := by
    have h1 := (evalm_mod hq p x).2
    rw [h] at h1
    exact h1.symm
  refine (evalm_mod hq (subP q c M p) x).uniq (evalm_mod hq M x) ((subP_ev hq x M p hl).trans ?_)
  exact ((Cg.refl q _).sub ((Cg.refl q (c : Int)).mul h0)).trans (Cg.of_eq (by simp))
/-- One pledge stays as it was. -/
theorem pledge_same {v b m c : Nat} (hc : c * 53 % 101 = 1) : 64 ^ ((v + b) % 101) * 597 ^ (subm 101 m (b * c % 101)) % 607 = 64 ^ v * 597 ^ m % 607 := by
  have hG : 64 ^ 101 % 607 = 1 := by decide
  have hH : (597 : Nat) = 64 ^ 53 % 607 := by decide
  have key : ∀ a d : Nat, 64 ^ a * 597 ^ d % 607 = 64 ^ ((a + 53 * d) % 101) % 607 := fun a d => by
    rw [Nat.mul_mod, hH, ← Nat.pow_mod, ← Nat.mul_mod, ← Nat.pow_mul, ← Nat.pow_add]
    exact pow_mod_exp (by decide) hG _
  rw [key, key]
  congr 2
  have hq : (0 : Nat) < 101 := by decide
  have h0 : Cg 101 ((b * c % 101 : Nat) : Int) ((b : Int) * (c : Int)) := (Mo.mul hq (Cg.refl 101 (b : Int)) (Cg.refl 101 (c : Int))).2
  have h1 : Cg 101 ((subm 101 m (b * c % 101) : Nat) : Int) ((m : Int) - (b : Int) * (c : Int)) := (Mo.sub hq (Cg.refl 101 (m : Int)) h0).2
  have h2 : Cg 101 (((v + b) % 101 : Nat) : Int) ((v : Int) + (b : Int)) := (Mo.add hq (Cg.refl 101 (v : Int)) (Cg.refl 101 (b : Int))).2
  have h3 : Cg 101 ((c : Int) * 53) 1 := by
    have e := (Mo.mul hq (Cg.refl 101 (c : Int)) (Cg.refl 101 ((53 : Nat) : Int))).2
    rw [hc] at e
    exact e.symm
  refine (Mo.of hq ((v + b) % 101 + 53 * subm 101 m (b * c % 101))).uniq (Mo.of hq (v + 53 * m)) ?_
  have e1 : (((v + b) % 101 + 53 * subm 101 m (b * c % 101) : Nat) : Int) = (((v + b) % 101 : Nat) : Int) + 53 * ((subm 101 m (b * c % 101) : Nat) : Int) := by push_cast; rfl
  have e2 : ((v + 53 * m : Nat) : Int) = (v : Int) + 53 * (m : Int) := by push_cast; rfl
  rw [e1, e2]
  refine (h2.add ((Cg.refl 101 (53 : Int)).mul h1)).trans ?_
  have h4 : Cg 101 ((v : Int) + (b : Int) + 53 * ((m : Int) - (b : Int) * (c : Int))) ((v : Int) + 53 * (m : Int) + ((b : Int) * 1 - (b : Int) * ((c : Int) * 53))) := Cg.of_eq (by
    rw [Int.mul_sub, Int.mul_one]
    have : (53 : Int) * ((b : Int) * (c : Int)) = (b : Int) * ((c : Int) * 53) := by rw [Int.mul_comm 53, Int.mul_assoc]
    omega)
  refine h4.trans ?_
  refine ((Cg.refl 101 ((v : Int) + 53 * (m : Int))).add (((Cg.refl 101 ((b : Int) * 1))).sub ((Cg.refl 101 (b : Int)).mul h3))).trans (Cg.of_eq (by omega))
theorem evalm_at0 {q : Nat} (hq : 0 < q) (p : List Nat) : evalm q p (0 % q) = p.getD 0 0 % q := by
  refine (evalm_mod hq p 0).uniq (Mo.of hq (p.getD 0 0)) (Cg.of_eq ?_)
  cases p with
  | nil => simp [ev]
  | cons c p => simp [zs_cons, ev]
theorem secret_add {q S o : Nat} (hq : 0 < q) : (S % q + subm q o S) % q = o % q := by
  have h1 : Cg q ((subm q o S : Nat) : Int) ((o : Int) - (S : Int)) := (Mo.sub hq (Cg.refl q (o : Int)) (Cg.refl q (S : Int))).2
  have h2 : Cg q ((S % q : Nat) : Int) (S : Int) := Cg.mod S
  exact (Mo.add hq h2 h1).uniq (Mo.of hq o) (Cg.of_eq (by omega))
theorem secret_at {q S o b : Nat} (hq : 0 < q) (h : b % q = subm q o S % q) : (S % q + b) % q = o % q := by
  rw [← secret_add (S := S) (o := o) hq, Nat.add_mod, h, ← Nat.add_mod]
/-- Which exponent H has. -/
theorem hexp_iff : ∀ i, i < 101 → (64 ^ i % 607 = 597 ↔ i = 53) := by decide
/-- The places of those who look, and 0. -/
def hPl (a b n : Nat) : List Nat := 0 :: (List.range n).map fun i => a + i * b
theorem hPl_length (a b n : Nat) : (hPl a b n).length = n + 1 := by simp [hPl]
theorem hPl_get {a b n i : Nat} (hi : i < n) : (hPl a b n).getD (i + 1) 0 = a + i * b := by
  simp [hPl, List.getD_eq_getElem?_getD, List.getElem?_map, List.getElem?_range hi]
theorem hPl_succ (a b n : Nat) : hPl a b (n + 1) = hPl a b n ++ [a + n * b] := by
  simp [hPl, List.range_succ]
theorem hPl_dis {a b n : Nat} (ha1 : 1 ≤ a) (ha : a ≤ 10) (hb1 : 1 ≤ b) (hb : b ≤ 8) (hn : n ≤ 5) : Dis 101 (hPl a b n) := by
  intro i j hji hi
  rw [hPl_length] at hi
  obtain ⟨i, rfl⟩ : ∃ i', i = i' + 1 := ⟨i - 1, by omega⟩
  have hbound : ∀ t, t < n → a + t * b ≤ 42 ∧ 1 ≤ a + t * b := fun t ht => by
    have := Nat.mul_le_mul (show t ≤ 4 by omega) hb
    omega
  rw [hPl_get (by omega)]
  have h1 := hbound i (by omega)
  rw [Nat.mod_eq_of_lt (by omega)]
  cases j with
  | zero => show _ ≠ 0 % 101; rw [Nat.zero_mod]; omega
  | succ j =>
    rw [hPl_get (by omega)]
    have h2 := hbound j (by omega)
    rw [Nat.mod_eq_of_lt (by omega)]
    have := Nat.mul_lt_mul_of_pos_right (show j < i by omega) (show 0 < b by omega)
    omega
end Sac
/-
  Which pieces of a dealing count, and their order. No program in sight.
-/
namespace Sac
open NT Poly

/-- The pieces that count, by their numbers: of each peer the first right one. -/
def goodI (pr : Nat → Int) (ok : Nat → Bool) : Nat → List Nat
  | 0 => []
  | n + 1 => if (goodI pr ok n).any (fun j => pr j == pr n) = false ∧ ok n = true then goodI pr ok n ++ [n] else goodI pr ok n
section
variable {pr : Nat → Int} {ok : Nat → Bool}
theorem goodI_same {n : Nat} (h : (goodI pr ok n).any (fun j => pr j == pr n) = true) : goodI pr ok (n + 1) = goodI pr ok n := by
  show (if _ then _ else _) = _
  rw [if_neg (by rw [h]; simp)]
theorem goodI_no {n : Nat} (h : ok n = false) : goodI pr ok (n + 1) = goodI pr ok n := by
  show (if _ then _ else _) = _
  rw [if_neg (by rw [h]; simp)]
theorem goodI_yes {n : Nat} (h1 : (goodI pr ok n).any (fun j => pr j == pr n) = false) (h : ok n = true) : goodI pr ok (n + 1) = goodI pr ok n ++ [n] := by
  show (if _ then _ else _) = _
  rw [if_pos ⟨h1, h⟩]
theorem goodI_len : ∀ n, (goodI pr ok n).length ≤ n
  | 0 => Nat.le_refl _
  | n + 1 => by
    have ih := goodI_len n
    unfold goodI
    split
    · rw [List.length_append, List.length_singleton]; omega
    · omega
theorem goodI_mem : ∀ n, ∀ j ∈ goodI pr ok n, j < n ∧ ok j = true
  | 0, j, h => by simp [goodI] at h
  | n + 1, j, h => by
    unfold goodI at h
    split at h
    · rename_i hc
      rcases List.mem_append.1 h with h | h
      · have := goodI_mem n j h; exact ⟨by omega, this.2⟩
      · rw [List.mem_singleton.1 h]; exact ⟨Nat.lt_succ_self n, hc.2⟩
    · have := goodI_mem n j h; exact ⟨by omega, this.2⟩
theorem goodI_dis : ∀ n, (goodI pr ok n).Pairwise (fun i j => pr i ≠ pr j)
  | 0 => List.Pairwise.nil
  | n + 1 => by
    have ih := goodI_dis n
    unfold goodI
    split
    · rename_i hc
      rw [List.pairwise_append]
      refine ⟨ih, List.pairwise_singleton _ _, fun i hi j hj => ?_⟩
      rw [List.mem_singleton.1 hj]
      have := List.any_eq_false.1 hc.1 i hi
      simpa using this
    · exact ih
/-- Each right piece's peer has one that counts. -/
theorem goodI_all : ∀ n i, i < n → ok i = true → ∃ j ∈ goodI pr ok n, pr j = pr i
  | 0, i, h, _ => by omega
  | n + 1, i, h, hi => by
    rcases Nat.lt_or_ge i n with h1 | h1
    · obtain ⟨j, hj, e⟩ := goodI_all n i h1 hi
      refine ⟨j, ?_, e⟩
      unfold goodI
      split
      · exact List.mem_append_left _ hj
      · exact hj
    · obtain rfl : i = n := by omega
      cases ha : (goodI pr ok i).any (fun j => pr j == pr i) with
      | true =>
        obtain ⟨j, hj, e⟩ := List.any_eq_true.1 ha
        exact ⟨j, by rw [goodI_same ha]; exact hj, by simpa using e⟩
      | false => exact ⟨i, by rw [goodI_yes ha hi]; exact List.mem_append_right _ (List.mem_singleton.2 rfl), rfl⟩
/-- The one that counts is the first right one of its peer. -/
theorem goodI_first : ∀ n, ∀ j ∈ goodI pr ok n, ∀ i, i < j → ok i = true → pr i ≠ pr j
  | 0, j, h => by simp [goodI] at h
  | n + 1, j, h => by
    unfold goodI at h
    split at h
    · rename_i hc
      rcases List.mem_append.1 h with h | h
      · exact goodI_first n j h
      · intro i hi hok e
        rw [List.mem_singleton.1 h] at hi e
        obtain ⟨k, hk, ek⟩ := goodI_all (pr := pr) (ok := ok) n i hi hok
        have := List.any_eq_false.1 hc.1 k hk
        exact this (by rw [ek, e]; exact beq_self_eq_true _)
    · exact goodI_first n j h
/-- Where the right ones stand last, by rising peers, just these count. -/
theorem goodI_tail {b t : Nat} (hb : ∀ i, i < b → ok i = false) (ht : ∀ i, b ≤ i → i < b + t → ok i = true) (hp : ∀ i j, b ≤ i → i < j → j < b + t → pr i < pr j) : ∀ m, m ≤ t → goodI pr ok (b + m) = (List.range m).map (b + ·)
  | 0, _ => by
    have : ∀ n, n ≤ b → goodI pr ok n = [] := by
      intro n
      induction n with
      | zero => intro _; rfl
      | succ n ih => intro h; rw [goodI_no (hb n (by omega)), ih (by omega)]
    rw [this (b + 0) (by omega)]; rfl
  | m + 1, h => by
    have ih := goodI_tail hb ht hp m (by omega)
    have e : b + (m + 1) = b + m + 1 := by omega
    rw [e, goodI_yes ?_ (ht (b + m) (by omega) (by omega)), ih, List.range_succ, List.map_append]
    · rfl
    · rw [ih, List.any_eq_false]
      intro j hj
      obtain ⟨i, hi, rfl⟩ := List.mem_map.1 hj
      have := hp (b + i) (b + m) (by omega) (by have := List.mem_range.1 hi; omega) (by omega)
      simp
      omega
end
/-- A permutation of images is the image of a permutation. -/
theorem perm_map_lift {α β : Type} {f : α → β} {L M : List β} (h : L.Perm M) : ∀ gs : List α, gs.map f = M → ∃ gs' : List α, gs'.Perm gs ∧ gs'.map f = L := by
  induction h with
  | nil => intro gs hg; exact ⟨[], by rw [List.map_eq_nil_iff.1 hg], rfl⟩
  | cons x _ ih =>
    intro gs hg
    cases gs with
    | nil => simp at hg
    | cons a gs =>
      simp only [List.map_cons, List.cons.injEq] at hg
      obtain ⟨gs', h1, h2⟩ := ih gs hg.2
      exact ⟨a :: gs', h1.cons a, by rw [List.map_cons, h2, hg.1]⟩
  | swap x y l =>
    intro gs hg
    match gs, hg with
    | a :: b :: gs, hg =>
      simp only [List.map_cons, List.cons.injEq] at hg
      exact ⟨b :: a :: gs, List.Perm.swap a b gs, by rw [List.map_cons, List.map_cons, hg.1, hg.2.1, hg.2.2]⟩
  | trans _ _ ih1 ih2 =>
    intro gs hg
    obtain ⟨gs', h1, h2⟩ := ih2 gs hg
    obtain ⟨gs2, h3, h4⟩ := ih1 gs' h2
    exact ⟨gs2, h3.trans h1, h4⟩
/-- There is one order by rising keys. -/
theorem sorted_one {f : Nat → Int} : ∀ {A B : List Nat}, A.Perm B → A.Pairwise (fun i j => f i < f j) → B.Pairwise (fun i j => f i < f j) → A = B
  | [], B, h, _, _ => h.nil_eq
  | a :: A, [], h, _, _ => absurd h.length_eq (by simp)
  | a :: A, b :: B, h, hA, hB => by
    rw [List.pairwise_cons] at hA hB
    have hab : a = b := by
      rcases List.mem_cons.1 (h.mem_iff.1 (List.mem_cons_self : a ∈ a :: A)) with e | e
      · exact e
      rcases List.mem_cons.1 (h.mem_iff.2 (List.mem_cons_self : b ∈ b :: B)) with e' | e'
      · exact e'.symm
      have h1 := hB.1 a e
      have h2 := hA.1 b e'
      omega
    subst hab
    rw [sorted_one (List.Perm.cons_inv h) hA.2 hB.2]
/-- Weakly rising and unlike: rising. -/
theorem rising {f : Nat → Int} {A : List Nat} (h1 : A.Pairwise (fun i j => f i ≤ f j)) (h2 : A.Pairwise (fun i j => f i ≠ f j)) : A.Pairwise (fun i j => f i < f j) := by
  refine (h1.and h2).imp fun {i j} h => ?_
  have := h.1
  have := h.2
  omega
theorem perm_dis {f : Nat → Int} {A B : List Nat} (h : A.Perm B) (hB : B.Pairwise (fun i j => f i ≠ f j)) : A.Pairwise (fun i j => f i ≠ f j) :=
  (h.pairwise_iff (fun {_ _} h e => h e.symm)).2 hB
/-- Peers of 1 to 64, rising, are unlike in the field. -/
theorem dis_peers {q : Nat} (hq : 64 < q) {f : Nat → Int} {A : List Nat} (h : A.Pairwise (fun i j => f i < f j)) (hA : ∀ i ∈ A, 1 ≤ f i ∧ f i ≤ 64) : Dis q (A.map fun i => (f i).toNat) := by
  intro i j hji hi
  rw [List.length_map] at hi
  have e : ∀ k (hk : k < A.length), (A.map fun i => (f i).toNat).getD k 0 = (f A[k]).toNat := fun k hk => by
    simp [List.getD_eq_getElem?_getD, List.getElem?_map, List.getElem?_eq_getElem hk]
  rw [e i hi, e j (by omega)]
  have h1 := List.pairwise_iff_getElem.1 h j i (by omega) hi hji
  have h2 := hA _ (List.getElem_mem hi)
  have h3 := hA _ (List.getElem_mem (show j < A.length by omega))
  rw [Nat.mod_eq_of_lt (by omega), Nat.mod_eq_of_lt (by omega)]
  omega
end Sac
