import Derived.Test.YthefednendgclaaGreatPledgeL
set_option linter.unusedVariables false
set_option linter.unusedSimpArgs false
/-
  Shares, the plain law: the values at enough unlike places, scaled by their weights, make the value at any place, in the field and in the exponent. No program in sight.
-/
namespace Sac
open Poly NT

/-- The sum of the first values, each scaled. -/
def wsum (q : Nat) (ys ws : List Nat) : Nat → Nat
  | 0 => 0
  | k + 1 => (wsum q ys ws k + ys.getD k 0 * ws.getD k 0 % q) % q
/-- The product of the first powers. -/
def wprod (P : Nat) (ys ws : List Nat) : Nat → Nat
  | 0 => 1
  | k + 1 => wprod P ys ws k * (ys.getD k 0 ^ ws.getD k 0 % P) % P

theorem wsum_lt {q : Nat} (hq : 0 < q) (ys ws : List Nat) : ∀ k, wsum q ys ws k < q
  | 0 => hq
  | k + 1 => Nat.mod_lt _ hq
theorem wsum_cg {q : Nat} (ys ws : List Nat) : ∀ k, Cg q (wsum q ys ws k) (sumTo (fun i => ((ys.getD i 0 : Nat) : Int) * ((ws.getD i 0 : Nat) : Int)) k)
  | 0 => Cg.of_eq rfl
  | k + 1 => ((Cg.mod _).trans (Cg.of_eq (Int.natCast_add _ _))).trans ((wsum_cg ys ws k).add ((Cg.mod _).trans (Cg.of_eq (Int.natCast_mul _ _))))

/-- Enough unlike places tell the value. -/
theorem share_field {q : Nat} (hq : Prime q) {xs : List Nat} (hd : Dis q xs) (p : List Nat) (hp : p.length ≤ xs.length) (x : Nat) :
    wsum q (xs.map fun z => evalm q p (z % q)) (wts q xs x) xs.length = evalm q p (x % q) := by
  have hq0 : 0 < q := by have := hq.1; omega
  have h1 := lagrange hq.prm hd.pair (fun i => ((evalm q p (xs.getD i 0 % q) : Nat) : Int)) (fun i => ((invq q (upF q (xs.getD i 0) xs i xs.length) : Nat) : Int)) (fun i hi => wt_inv hq hd (by simpa using hi)) (f := ev (zs p)) ((Deg.poly (zs p)).mono (by rw [zs_length, zs_length]; exact hp)) (fun i hi => by
    rw [zs_getD]
    exact (evalm_mod hq0 p (xs.getD i 0)).2) (x : Int)
  have h2 := wsum_cg (q := q) (xs.map fun z => evalm q p (z % q)) (wts q xs x) xs.length
  have h3 : Cg q (sumTo (fun i => (((xs.map fun z => evalm q p (z % q)).getD i 0 : Nat) : Int) * (((wts q xs x).getD i 0 : Nat) : Int)) xs.length) (ev (zs p) x) := by
    refine (sumTo_cg _ fun i hi => ?_).trans (by rw [zs_length] at h1; exact h1)
    rw [wts_get q xs x i hi]
    have e : (xs.map fun z => evalm q p (z % q)).getD i 0 = evalm q p (xs.getD i 0 % q) := by
      simp [List.getD_eq_getElem?_getD, List.getElem?_map, List.getElem?_eq_getElem hi]
    rw [e]
    exact (Cg.refl q _).mul (wt_mo hq0 xs x i).2
  have h4 := (h2.trans h3).trans (evalm_mod hq0 p x).2.symm
  exact Mo.uniq (Mo.lt (wsum_lt hq0 _ _ _)) (Mo.lt (evalm_mod hq0 p x).1) h4

/-- The same in the exponent. -/
theorem share_exp {P q G : Nat} (hP : 1 < P) (hG : G ^ q % P = 1) (ys ws : List Nat) : ∀ n, n ≤ ys.length → wprod P (ys.map fun v => G ^ v % P) ws n = G ^ wsum q ys ws n % P
  | 0, _ => by
    show 1 = G ^ 0 % P
    rw [Nat.pow_zero, Nat.mod_eq_of_lt hP]
  | n + 1, h => by
    have ih := share_exp hP hG ys ws n (by omega)
    have e : (ys.map fun v => G ^ v % P).getD n 0 = G ^ ys.getD n 0 % P := by
      have hn : n < ys.length := by omega
      simp [List.getD_eq_getElem?_getD, List.getElem?_map, List.getElem?_eq_getElem hn]
    show wprod P (ys.map fun v => G ^ v % P) ws n * ((ys.map fun v => G ^ v % P).getD n 0 ^ ws.getD n 0 % P) % P = G ^ ((wsum q ys ws n + ys.getD n 0 * ws.getD n 0 % q) % q) % P
    rw [ih, e, ← pow_mod_exp hP hG, Nat.pow_add, ← Nat.pow_mod, Nat.mul_mod, Nat.mod_mod, Nat.mod_mod, ← Nat.pow_mul, Nat.mul_mod (G ^ wsum q ys ws n), pow_mod_exp hP hG (ys.getD n 0 * ws.getD n 0)]
/-- Both together. -/
theorem share_base (k : Nat) {xs : List Nat} (hd : Dis (gQ k) xs) (p : List Nat) (hp : p.length ≤ xs.length) (x : Nat) :
    wprod (gP k) ((xs.map fun z => evalm (gQ k) p (z % gQ k)).map fun v => gG k ^ v % gP k) (wts (gQ k) xs x) xs.length = gG k ^ evalm (gQ k) p (x % gQ k) % gP k := by
  rw [share_exp (gP_one k) (gG_pow k) _ _ _ (by simp), share_field (gQ_prime k) hd p hp x]
end Sac
