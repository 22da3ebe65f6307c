import Derived.Test.YthefednendgclaaGreatPlainA
set_option linter.unusedVariables false
set_option linter.unusedSimpArgs false
/-
  Polynomials as the program reckons with them, over numbers below q: value, sum, product; and what their values are. No program in sight.
-/
namespace Sac
open Poly

/-- Numbers as integers. -/
def zs (p : List Nat) : List Int := p.map (fun n => ((n : Nat) : Int))
@[simp] theorem zs_nil : zs [] = [] := rfl
@[simp] theorem zs_cons (a : Nat) (p : List Nat) : zs (a :: p) = (a : Int) :: zs p := rfl
@[simp] theorem zs_length (p : List Nat) : (zs p).length = p.length := by simp [zs]
theorem zs_getD (p : List Nat) (i : Nat) : (zs p).getD i 0 = ((p.getD i 0 : Nat) : Int) := by
  simp only [zs, List.getD_eq_getElem?_getD, List.getElem?_map]
  cases p[i]? <;> simp
theorem zs_set (p : List Nat) (i x : Nat) : zs (p.set i x) = (zs p).set i (x : Int) := by simp [zs, List.map_set]
theorem zs_take (p : List Nat) (i : Nat) : zs (p.take i) = (zs p).take i := by simp [zs, List.map_take]
theorem zs_append (p r : List Nat) : zs (p ++ r) = zs p ++ zs r := by simp [zs]

theorem sumTo_front (F : Nat → Int) : ∀ n, sumTo F (n + 1) = F 0 + sumTo (fun i => F (i + 1)) n
  | 0 => by simp [sumTo]
  | n + 1 => by
    have := sumTo_front F n
    show sumTo F (n + 1) + F (n + 1) = F 0 + (sumTo (fun i => F (i + 1)) n + F (n + 1))
    omega
theorem sumTo_scale (c : Int) (F : Nat → Int) : ∀ n, sumTo (fun i => c * F i) n = c * sumTo F n
  | 0 => by simp [sumTo]
  | n + 1 => by
    show sumTo (fun i => c * F i) n + c * F n = c * (sumTo F n + F n)
    rw [sumTo_scale c F n, Int.mul_add]
theorem sumTo_plus (F G : Nat → Int) : ∀ n, sumTo (fun i => F i + G i) n = sumTo F n + sumTo G n
  | 0 => by simp [sumTo]
  | n + 1 => by
    show sumTo (fun i => F i + G i) n + (F n + G n) = sumTo F n + F n + (sumTo G n + G n)
    rw [sumTo_plus F G n]; omega
theorem sumTo_ext {F G : Nat → Int} : ∀ n, (∀ i, i < n → F i = G i) → sumTo F n = sumTo G n
  | 0, _ => rfl
  | n + 1, h => by
    show sumTo F n + F n = sumTo G n + G n
    rw [sumTo_ext n fun i hi => h i (by omega), h n (by omega)]

theorem ev_sum : ∀ (p : List Int) (x : Int) (n : Nat), p.length ≤ n → ev p x = sumTo (fun i => p.getD i 0 * x ^ i) n
  | [], x, n, _ => by
    have : ∀ n, sumTo (fun i => ([] : List Int).getD i 0 * x ^ i) n = 0 := by
      intro n
      induction n with
      | zero => rfl
      | succ n ih => show sumTo _ n + _ = 0; rw [ih]; simp
    rw [this]; rfl
  | a :: p, x, 0, h => by simp at h
  | a :: p, x, n + 1, h => by
    rw [sumTo_front]
    show a + x * ev p x = _
    rw [ev_sum p x n (by simpa using h), ← sumTo_scale]
    simp only [List.getD_cons_zero, Int.pow_zero, Int.mul_one]
    congr 1
    refine sumTo_ext n fun i _ => ?_
    show x * (p.getD i 0 * x ^ i) = (a :: p).getD (i + 1) 0 * x ^ (i + 1)
    rw [List.getD_cons_succ, Int.pow_succ, Int.mul_left_comm, Int.mul_comm x]

theorem ev_append : ∀ (p r : List Int) (x : Int), ev (p ++ r) x = ev p x + x ^ p.length * ev r x
  | [], r, x => by simp [ev]
  | a :: p, r, x => by
    show a + x * ev (p ++ r) x = a + x * ev p x + x ^ (p.length + 1) * ev r x
    rw [ev_append p r x, Int.mul_add, Int.pow_succ, ← Int.mul_assoc, Int.mul_comm x (x ^ p.length)]
    omega
theorem ev_take_succ (p : List Int) (x : Int) (k : Nat) : ev (p.take (k + 1)) x = ev (p.take k) x + x ^ k * p.getD k 0 := by
  by_cases h : k < p.length
  · rw [List.take_succ_eq_append_getElem h, ev_append, List.length_take, Nat.min_eq_left (by omega)]
    simp [ev, h]
  · rw [List.take_of_length_le (by omega), List.take_of_length_le (by omega)]
    simp [List.getElem?_eq_none (Nat.le_of_not_lt h)]
theorem ev_set : ∀ (l : List Int) (i : Nat) (v x : Int), i < l.length → ev (l.set i v) x = ev l x + x ^ i * (v - l.getD i 0)
  | [], i, v, x, h => by simp at h
  | a :: l, 0, v, x, _ => by simp [ev]; omega
  | a :: l, i + 1, v, x, h => by
    show a + x * ev (l.set i v) x = a + x * ev l x + x ^ (i + 1) * (v - (a :: l).getD (i + 1) 0)
    rw [ev_set l i v x (by simpa using h), List.getD_cons_succ, Int.mul_add, Int.pow_succ, Int.mul_comm (x ^ i) x, Int.mul_assoc]
    omega
theorem ev_zeros (n : Nat) (x : Int) : ev (zs (List.replicate n 0)) x = 0 := by
  induction n with
  | zero => rfl
  | succ n ih => rw [List.replicate_succ, zs_cons]; simp [ev, ih]
theorem ev_cg {q : Nat} (x : Int) : ∀ p r : List Int, p.length = r.length → (∀ i, i < p.length → Cg q (p.getD i 0) (r.getD i 0)) → Cg q (ev p x) (ev r x)
  | [], [], _, _ => Cg.refl _ _
  | a :: p, b :: r, hl, h => by
    refine (h 0 (by simp)).add ((Cg.refl q x).mul (ev_cg x p r (by simpa using hl) fun i hi => ?_))
    have := h (i + 1) (by simp; omega)
    simpa using this
theorem ev_x_cg {q : Nat} {x y : Int} (h : Cg q x y) : ∀ p : List Int, Cg q (ev p x) (ev p y)
  | [] => Cg.refl _ _
  | a :: p => (Cg.refl q a).add (h.mul (ev_x_cg h p))

/-! ### The value -/
def evalm (q : Nat) (p : List Nat) (x : Nat) : Nat := p.foldr (fun c out => (out * x % q + c) % q) 0
theorem evalm_cons (q a : Nat) (p : List Nat) (x : Nat) : evalm q (a :: p) x = (evalm q p x * x % q + a) % q := rfl
theorem evalm_mo {q : Nat} (hq : 0 < q) (x : Nat) : ∀ p : List Nat, Mo q (evalm q p x) (ev (zs p) x)
  | [] => ⟨hq, Cg.refl _ _⟩
  | a :: p => by
    have ih := evalm_mo hq x p
    refine (Mo.add hq ((Mo.mul hq ih.2 (Cg.refl q (x : Int))).2) (Cg.refl q (a : Int))).cg (Cg.of_eq ?_)
    show _ = (a : Int) + x * ev (zs p) x
    rw [Int.mul_comm]; omega
theorem evalm_mod {q : Nat} (hq : 0 < q) (p : List Nat) (x : Nat) : Mo q (evalm q p (x % q)) (ev (zs p) x) :=
  (evalm_mo hq _ p).cg (ev_x_cg (Cg.mod x) _)
/-- In the exponent: the powers are not brought back into the field, the place is. -/
def evalx (P : Nat) (c : List Nat) (x : Nat) : Nat := c.foldr (fun a out => (out ^ x % P) * a % P) 1

/-! ### The sum -/
def addl (q : Nat) (p r : List Nat) : List Nat := (List.range (max p.length r.length)).map fun i => (p.getD i 0 + r.getD i 0) % q
theorem addl_length (q : Nat) (p r : List Nat) : (addl q p r).length = max p.length r.length := by simp [addl]
theorem addl_get (q : Nat) (p r : List Nat) (i : Nat) (h : i < max p.length r.length) : (addl q p r).getD i 0 = (p.getD i 0 + r.getD i 0) % q := by
  simp [addl, List.getD_eq_getElem?_getD, List.getElem?_map, List.getElem?_range h]
theorem addl_ev {q : Nat} (p r : List Nat) (x : Int) : Cg q (ev (zs (addl q p r)) x) (ev (zs p) x + ev (zs r) x) := by
  rw [ev_sum _ x (max p.length r.length) (by rw [zs_length, addl_length]; exact Nat.le_refl _), ev_sum (zs p) x (max p.length r.length) (by simp; omega), ev_sum (zs r) x (max p.length r.length) (by simp; omega), ← sumTo_plus]
  refine sumTo_cg _ fun i hi => ?_
  rw [zs_getD, zs_getD, zs_getD, addl_get q p r i hi, ← Int.add_mul]
  exact ((Cg.mod _).trans (Cg.of_eq (Int.natCast_add _ _))).mul (Cg.refl _ _)
theorem addl_lt {q : Nat} (hq : 0 < q) (p r : List Nat) : ∀ c ∈ addl q p r, c < q := by
  intro c hc
  obtain ⟨i, _, rfl⟩ := List.mem_map.1 hc
  exact Nat.mod_lt _ hq

/-! ### The product -/
/-- Row i of a product, after k steps. -/
def rowF (q a : Nat) (b : List Nat) (i : Nat) (out : List Nat) : Nat → List Nat
  | 0 => out
  | k + 1 => (rowF q a b i out k).set (i + k) (((rowF q a b i out k).getD (i + k) 0 + a * b.getD k 0 % q) % q)
def mulF (q : Nat) (p b : List Nat) : Nat → List Nat
  | 0 => List.replicate (p.length + b.length - 1) 0
  | i + 1 => rowF q (p.getD i 0) b i (mulF q p b i) b.length
def mull (q : Nat) (p b : List Nat) : List Nat := mulF q p b p.length

theorem rowF_length (q a : Nat) (b : List Nat) (i : Nat) (out : List Nat) : ∀ k, (rowF q a b i out k).length = out.length
  | 0 => rfl
  | k + 1 => by simp [rowF, rowF_length q a b i out k]
theorem mulF_length (q : Nat) (p b : List Nat) : ∀ i, (mulF q p b i).length = p.length + b.length - 1
  | 0 => by simp [mulF]
  | i + 1 => by rw [mulF, rowF_length, mulF_length q p b i]
theorem mull_length (q : Nat) (p b : List Nat) : (mull q p b).length = p.length + b.length - 1 := mulF_length q p b _

theorem rowF_ev {q : Nat} (a : Nat) (b : List Nat) (i : Nat) (out : List Nat) (x : Int) : ∀ k, k ≤ b.length → i + k ≤ out.length → Cg q (ev (zs (rowF q a b i out k)) x) (ev (zs out) x + x ^ i * (a * ev ((zs b).take k) x))
  | 0, _, _ => by refine Cg.of_eq ?_; simp [rowF, ev]
  | k + 1, h, hl => by
    have ih := rowF_ev (q := q) a b i out x k (by omega) (by omega)
    have hlt : i + k < (zs (rowF q a b i out k)).length := by rw [zs_length, rowF_length]; omega
    rw [rowF, zs_set, ev_set _ _ _ _ hlt, zs_getD, ev_take_succ, zs_getD]
    generalize (rowF q a b i out k).getD (i + k) 0 = o
    have h1 : Cg q (((o + a * b.getD k 0 % q) % q : Nat) : Int) ((o : Int) + a * b.getD k 0) := by
      refine (Cg.mod _).trans ?_
      rw [Int.natCast_add]
      exact (Cg.refl q _).add ((Cg.mod _).trans (Cg.of_eq (Int.natCast_mul _ _)))
    have h2 := ih.add ((Cg.refl q (x ^ (i + k))).mul (h1.sub (Cg.refl q (o : Int))))
    refine h2.trans (Cg.of_eq ?_)
    rw [show (o : Int) + a * b.getD k 0 - o = a * b.getD k 0 by omega, Int.mul_add, Int.mul_add, Int.pow_add, ← Int.add_assoc]
    congr 1
    rw [Int.mul_left_comm (a : Int), ← Int.mul_assoc (x ^ i)]

theorem mulF_ev {q : Nat} (p b : List Nat) (x : Int) (hb : 0 < b.length) : ∀ i, i ≤ p.length → Cg q (ev (zs (mulF q p b i)) x) (ev ((zs p).take i) x * ev (zs b) x)
  | 0, _ => by refine Cg.of_eq ?_; rw [mulF, ev_zeros]; simp [ev]
  | i + 1, h => by
    have ih := mulF_ev (q := q) p b x hb i (by omega)
    have h1 := rowF_ev (q := q) (p.getD i 0) b i (mulF q p b i) x b.length (Nat.le_refl _) (by rw [mulF_length]; omega)
    rw [List.take_of_length_le (by simp)] at h1
    rw [mulF]
    refine h1.trans ((ih.add (Cg.refl _ _)).trans (Cg.of_eq ?_))
    rw [ev_take_succ, zs_getD, Int.add_mul, Int.mul_assoc (x ^ i)]
theorem mull_ev {q : Nat} (p b : List Nat) (x : Int) (hb : 0 < b.length) : Cg q (ev (zs (mull q p b)) x) (ev (zs p) x * ev (zs b) x) := by
  have := mulF_ev (q := q) p b x hb p.length (Nat.le_refl _)
  rwa [List.take_of_length_le (by simp)] at this

theorem rowF_lt {q : Nat} (hq : 0 < q) (a : Nat) (b : List Nat) (i : Nat) (out : List Nat) (h : ∀ c ∈ out, c < q) : ∀ k, ∀ c ∈ rowF q a b i out k, c < q
  | 0 => h
  | k + 1 => fun c hc => by
    rcases List.mem_or_eq_of_mem_set hc with hc | rfl
    · exact rowF_lt hq a b i out h k c hc
    · exact Nat.mod_lt _ hq
theorem mulF_lt {q : Nat} (hq : 0 < q) (p b : List Nat) : ∀ i, ∀ c ∈ mulF q p b i, c < q
  | 0 => fun c hc => by rw [List.eq_of_mem_replicate hc]; exact hq
  | i + 1 => rowF_lt hq _ _ _ _ (mulF_lt hq p b i) _

end Sac
/-
  The numbers of the three groups; powers of the base; the value of a polynomial in the exponent. No program in sight.
-/
namespace Sac
open NT

def gP : Nat → Nat
  | 0 => 607
  | 1 => 655211
  | _ => 20752587082923246163
def gQ : Nat → Nat
  | 0 => 101
  | 1 => 65521
  | _ => Q60
def gG : Nat → Nat
  | 0 => 64
  | 1 => 1024
  | _ => 262144

theorem gQ_prime : ∀ k, Prime (gQ k)
  | 0 => prime101
  | 1 => prime65521
  | _ + 2 => primeQ60
theorem gQ_pos (k : Nat) : 0 < gQ k := by have := (gQ_prime k).1; omega
theorem gQ_two (k : Nat) : 2 ≤ gQ k := (gQ_prime k).1
theorem gQ_lt : ∀ k, gQ k < 18446744073709551616
  | 0 => by decide
  | 1 => by decide
  | _ + 2 => by show Q60 < _; decide
theorem gP_lt : ∀ k, gP k < 79228162514264337593543950336
  | 0 => by decide
  | 1 => by decide
  | _ + 2 => by show 20752587082923246163 < _; decide
theorem gP_one : ∀ k, 1 < gP k
  | 0 => by decide
  | 1 => by decide
  | _ + 2 => by show 1 < 20752587082923246163; decide
theorem gG_lt : ∀ k, gG k < gP k
  | 0 => by decide
  | 1 => by decide
  | _ + 2 => by show 262144 < 20752587082923246163; decide
set_option maxRecDepth 100000 in
theorem gG_pow : ∀ k, gG k ^ gQ k % gP k = 1
  | 0 => pow_of_pm 61 (by decide) (by decide) (by decide)
  | 1 => pow_of_pm 61 (by decide) (by decide) (by decide)
  | _ + 2 => (pow_of_pm 61 (by decide) (by decide) (by decide) : 262144 ^ Q60 % 20752587082923246163 = 1)

/-- The value, not brought back into the field. -/
def hor (p : List Nat) (x : Nat) : Nat := p.foldr (fun a out => out * x + a) 0
theorem hor_mod (q x : Nat) : ∀ p : List Nat, hor p x % q = evalm q p x % q
  | [] => rfl
  | a :: p => by
    have ih := hor_mod q x p
    show (hor p x * x + a) % q = (evalm q p x * x % q + a) % q % q
    rw [Nat.mod_mod, Nat.add_mod, Nat.mul_mod, ih, ← Nat.mul_mod, ← Nat.add_mod, Nat.mod_add_mod]
theorem evalm_lt {q : Nat} (hq : 0 < q) (p : List Nat) (x : Nat) : evalm q p x < q := (evalm_mo hq x p).1

theorem evalx_pow {P : Nat} (hP : 1 < P) (G x : Nat) : ∀ p : List Nat, evalx P (p.map fun a => G ^ a % P) x = G ^ hor p x % P
  | [] => by show 1 = G ^ 0 % P; rw [Nat.pow_zero, Nat.mod_eq_of_lt hP]
  | a :: p => by
    show (evalx P (p.map fun a => G ^ a % P) x) ^ x % P * (G ^ a % P) % P = G ^ (hor p x * x + a) % P
    rw [evalx_pow hP G x p, ← Nat.pow_mod, ← Nat.pow_mul, ← Nat.mul_mod, ← Nat.pow_add]

/-- The value in the exponent is the base with the value. -/
theorem evalx_base {P q G : Nat} (hP : 1 < P) (hq : 0 < q) (hG : G ^ q % P = 1) (p : List Nat) (x : Nat) : evalx P (p.map fun a => G ^ a % P) x = G ^ evalm q p x % P := by
  rw [evalx_pow hP, pow_mod_exp hP hG, hor_mod, Nat.mod_eq_of_lt (evalm_lt hq p x)]

theorem evalx_lt {P : Nat} (hP : 1 < P) (x : Nat) : ∀ c : List Nat, evalx P c x < P
  | [] => hP
  | _ :: _ => Nat.mod_lt _ (by omega)

end Sac
