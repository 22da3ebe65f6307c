import Derived.Test.YthefednendgclaaGreatCurveG
import Derived.Test.YthefednendgclaaGreatNats
set_option linter.unusedVariables false
set_option linter.unusedSimpArgs false
/-
  What a right step of a chain is; the chains of the three groups are right. No program in sight.
-/
namespace Sac
open NT

theorem step_one (N b f : Nat) (hn : 1 < N) (he : N - 1 < 2 ^ f) (h : pm N f b (N - 1) 1 = 1) : b ^ (N - 1) % N = 1 := pow_of_pm f hn he h
/-- A prime below 2^16, by trial. -/
def SmallP (u : Nat) : Prop := 2 ≤ u ∧ u < 65536 ∧ ∀ d, 2 ≤ d → d * d ≤ u → u % d ≠ 0
theorem smallP_of {u : Nat} (h1 : 2 ≤ u) (h2 : u < 65536) (h3 : ∀ d, d < 256 → 2 ≤ d → d * d ≤ u → u % d ≠ 0) : SmallP u := by
  refine ⟨h1, h2, fun d h4 h5 => h3 d ?_ h4 h5⟩
  apply Nat.lt_of_not_le
  intro h
  have := Nat.mul_le_mul h h
  omega

def prodl (l : List Nat) : Nat := l.foldl (· * ·) 1
theorem prodl_snoc (l : List Nat) (x : Nat) : prodl (l ++ [x]) = prodl l * x := by simp [prodl]

/-- A prime p of a step, with its power k. -/
structure PrOk (N base : Nat) (behind : List Nat) (p w : Nat) : Prop where
  small : SmallP p ∨ p ∈ behind
  two : 2 ≤ p
  pw : ∃ k m, N - 1 = p ^ (k + 1) * m ∧ m % p ≠ 0 ∧ w = p ^ (k + 1)
  gc : Nat.gcd (subm N (base ^ ((N - 1) / p) % N) 1) N = 1

/-- A step that holds. -/
structure StepOk (N base : Nat) (ps ws : List Nat) (behind : List Nat) : Prop where
  two : 2 ≤ N
  ne : 1 ≤ ps.length
  le : ps.length ≤ 32
  len : ws.length = ps.length
  one : base ^ (N - 1) % N = 1
  nd : ∀ i j, i < j → j < ps.length → ps.getD i 0 ≠ ps.getD j 0
  each : ∀ i, i < ps.length → PrOk N base behind (ps.getD i 0) (ws.getD i 0)
  big : N < prodl ws * prodl ws
  size : ∀ i, prodl (ws.take i) < 2 ^ 250

def cP1 : Nat := 655211
def cP2 : Nat := 20752587082923246163

set_option maxRecDepth 100000 in
theorem step1 : StepOk 655211 2 [65521] [65521] [] where
  two := by decide
  ne := by decide
  le := by decide
  len := rfl
  one := step_one 655211 2 61 (by decide) (by decide) (by decide)
  nd := fun i j h1 h2 => by simp at h2; omega
  each := fun i hi => by
    obtain rfl : i = 0 := by simp at hi; omega
    refine ⟨.inl (smallP_of (by decide) (by decide) (by decide)), by decide, ⟨0, 10, by decide, by decide, by decide⟩, ?_⟩
    show Nat.gcd (subm 655211 (2 ^ 10 % 655211) 1) 655211 = 1
    decide
  big := by decide
  size := fun i => by
    rcases i with _ | i
    · decide
    · simp only [List.take_succ_cons, List.take_nil]; decide

theorem gcd_step {N b e g x : Nat} (h : b ^ e % N = g) (hx : subm N g 1 = x) (hg : Nat.gcd x N = 1) : Nat.gcd (subm N (b ^ e % N) 1) N = 1 := by rw [h, hx, hg]

set_option maxRecDepth 100000 in
theorem step2 : StepOk Q60 13 [2, 3, 11, 683, 2971] [32, 3, 121, 683, 2971] [] where
  two := by decide
  ne := by decide
  le := by decide
  len := rfl
  one := pow_of_pm 61 (by decide) (by decide) (by decide)
  nd := fun i j h1 h2 => by
    have hj : j < 5 := h2
    have hi : i < 5 := by omega
    clear h2
    revert h1
    match i, hi, j, hj with
    | 0, _, 0, _ | 0, _, 1, _ | 0, _, 2, _ | 0, _, 3, _ | 0, _, 4, _ => decide
    | 1, _, 0, _ | 1, _, 1, _ | 1, _, 2, _ | 1, _, 3, _ | 1, _, 4, _ => decide
    | 2, _, 0, _ | 2, _, 1, _ | 2, _, 2, _ | 2, _, 3, _ | 2, _, 4, _ => decide
    | 3, _, 0, _ | 3, _, 1, _ | 3, _, 2, _ | 3, _, 3, _ | 3, _, 4, _ => decide
    | 4, _, 0, _ | 4, _, 1, _ | 4, _, 2, _ | 4, _, 3, _ | 4, _, 4, _ => decide
  each := fun i hi => by
    have hi' : i < 5 := hi
    match i, hi' with
    | 0, _ => exact ⟨.inl (smallP_of (by decide) (by decide) (by decide)), by decide, ⟨4, 36028797018963969, by decide, by decide, by decide⟩, gcd_step (pow_of_pm (g := pm Q60 61 13 ((Q60 - 1) / 2) 1) 61 (by decide) (by decide) rfl) rfl (by decide)⟩
    | 1, _ => exact ⟨.inl (smallP_of (by decide) (by decide) (by decide)), by decide, ⟨0, (Q60 - 1) / 3, by decide, by decide, by decide⟩, gcd_step (pow_of_pm (g := pm Q60 61 13 ((Q60 - 1) / 3) 1) 61 (by decide) (by decide) rfl) rfl (by decide)⟩
    | 2, _ => exact ⟨.inl (smallP_of (by decide) (by decide) (by decide)), by decide, ⟨1, (Q60 - 1) / 121, by decide, by decide, by decide⟩, gcd_step (pow_of_pm (g := pm Q60 61 13 ((Q60 - 1) / 11) 1) 61 (by decide) (by decide) rfl) rfl (by decide)⟩
    | 3, _ => exact ⟨.inl (smallP_of (by decide) (by decide) (by decide)), by decide, ⟨0, (Q60 - 1) / 683, by decide, by decide, by decide⟩, gcd_step (pow_of_pm (g := pm Q60 61 13 ((Q60 - 1) / 683) 1) 61 (by decide) (by decide) rfl) rfl (by decide)⟩
    | 4, _ => exact ⟨.inl (smallP_of (by decide) (by decide) (by decide)), by decide, ⟨0, (Q60 - 1) / 2971, by decide, by decide, by decide⟩, gcd_step (pow_of_pm (g := pm Q60 61 13 ((Q60 - 1) / 2971) 1) 61 (by decide) (by decide) rfl) rfl (by decide)⟩
  big := by decide
  size := fun i => by
    match i with
    | 0 | 1 | 2 | 3 | 4 => decide
    | i + 5 => simp only [List.take_succ_cons, List.take_nil]; decide

set_option maxRecDepth 100000 in
theorem step3 : StepOk 20752587082923246163 2 [Q60] [Q60] [Q60] where
  two := by decide
  ne := by decide
  le := by decide
  len := rfl
  one := step_one 20752587082923246163 2 65 (by decide) (by decide) (by decide)
  nd := fun i j h1 h2 => by simp at h2; omega
  each := fun i hi => by
    obtain rfl : i = 0 := by simp at hi; omega
    refine ⟨.inr (by simp), by decide, ⟨0, 18, by decide, by decide, by decide⟩, ?_⟩
    show Nat.gcd (subm 20752587082923246163 (2 ^ ((20752587082923246163 - 1) / Q60) % 20752587082923246163) 1) 20752587082923246163 = 1
    rw [show (20752587082923246163 - 1) / Q60 = 18 by decide]
    decide
  big := by decide
  size := fun i => by
    rcases i with _ | i
    · decide
    · simp only [List.take_succ_cons, List.take_nil]; decide

set_option maxRecDepth 100000 in
theorem small607 : SmallP 607 := smallP_of (by decide) (by decide) (by decide)
set_option maxRecDepth 100000 in
theorem small101 : SmallP 101 := smallP_of (by decide) (by decide) (by decide)
set_option maxRecDepth 100000 in
theorem small65521 : SmallP 65521 := smallP_of (by decide) (by decide) (by decide)
end Sac
/-
  Chains of primes: Small, known, power, long, where all is right.
-/
namespace Go.Proofs.YthefednendgclaaGreat
open Go Go.RowKit Sac

set_option maxRecDepth 100000 in
set_option maxHeartbeats 1000000 in
theorem small_yes (a : Option Addr) (len cap n : Nat) (w : World) (h : NatS w a len n) (hs : SmallP n) :
    Calls Tryz.prog 120 #[.agg #[.slice a len cap]] w fun e w' => e = .returned (.bool true) ∧ Below w.heap.size w w' := by
  have HN := Lib.hid h
  obtain ⟨h2, h3, h4⟩ := hs
  have H4 := Lib.hid h4
  have hl := h.2
  clear h h4
  have e1 : (decide ((n : Int) < 2)) = false := decide_eq_false (by omega)
  have e2 : (decide ((65536 : Int) ≤ (n : Int))) = false := decide_eq_false (by omega)
  go_enter Tryz.func120, Tryz.ntmps120
  go_wp2_with fail
  have hb0 : Below w.heap.size w (w.alloc (Obj.cells #[Value.slice a len cap] 36)) := (Below.refl _ w).alloc (Nat.le_refl _) _
  refine (uint_any a len cap n _ (HN.out.1.below hb0) (by omega)).mono ?_
  rintro e w1 ⟨hb1, hu, _⟩
  obtain rfl := hu (by omega)
  have HB := Lib.hid (hb0.trans (hb1.mono hb0.size))
  clear hb0 hb1 hu
  go_wp2_with fail
  go_loop [5] (fun d => ∃ k : Nat, 2 ≤ k ∧ k ≤ 256 ∧ d = .int .u64 k) (fun d => 300 - (intOf d).toNat)
  case atStart => exact ⟨2, by omega, by omega, rfl⟩
  case round =>
    obtain ⟨k, hk2, hk3, rfl⟩ := hrel
    by_cases hkk : k * k ≤ n
    · have hkb : k < 256 := by
        apply Nat.lt_of_not_le
        intro h
        have := Nat.mul_le_mul h h
        omega
      have hm := H4.out k hk2 hkk
      have hm' : (((n : Int) % (k : Int)) == 0) = false := by rw [beq_eq_false_iff_ne]; omega
      have hkk' : ((k : Int) * (k : Int)) ≤ (n : Int) := by exact_mod_cast hkk
      have hw1 : ((k : Int) * (k : Int)) < 18446744073709551616 := by
        have : ((k : Int) * (k : Int)) ≤ (n : Int) := hkk'
        omega
      have hw2 : (0 : Int) ≤ ((k : Int) * (k : Int)) := by exact_mod_cast Nat.zero_le (k * k)
      clear hkk hm
      go_wp2_with fail
      go_round
      case rel => exact ⟨k + 1, by omega, by omega, by go_num⟩
      case measure => simp [intOf]; omega
    · have hkk' : ¬ ((k : Int) * (k : Int)) ≤ (n : Int) := fun h => hkk (by exact_mod_cast h)
      have hw1 : ((k : Int) * (k : Int)) < 18446744073709551616 := by
        have h1 : k * k ≤ 256 * 256 := Nat.mul_le_mul hk3 hk3
        have h2 : ((k : Int) * (k : Int)) = ((k * k : Nat) : Int) := (Int.natCast_mul k k).symm
        omega
      have hw2 : (0 : Int) ≤ ((k : Int) * (k : Int)) := by exact_mod_cast Nat.zero_le (k * k)
      clear hkk
      go_wp2_with fail
      go_ret
      exact ⟨rfl, HB.out⟩

set_option maxRecDepth 100000 in
set_option maxHeartbeats 1000000 in
theorem small_big (a : Option Addr) (len cap n : Nat) (w : World) (h : NatS w a len n) (hs : 65536 ≤ n) :
    Calls Tryz.prog 120 #[.agg #[.slice a len cap]] w fun e w' => e = .returned (.bool false) ∧ Below w.heap.size w w' := by
  have HN := Lib.hid h
  have hl := h.2
  clear h
  go_enter Tryz.func120, Tryz.ntmps120
  go_wp2_with fail
  have hb0 : Below w.heap.size w (w.alloc (Obj.cells #[Value.slice a len cap] 36)) := (Below.refl _ w).alloc (Nat.le_refl _) _
  refine (uint_any a len cap n _ (HN.out.1.below hb0) (by omega)).mono ?_
  rintro e w1 ⟨hb1, hu, hv⟩
  have HB := Lib.hid (hb0.trans (hb1.mono hb0.size))
  clear hb0 hb1
  by_cases hn : n < 18446744073709551616
  · obtain rfl := hu hn
    have e1 : (decide ((n : Int) < 2)) = false := decide_eq_false (by omega)
    have e2 : (decide ((65536 : Int) ≤ (n : Int))) = true := decide_eq_true (by omega)
    clear hu hv hn
    go_wp2_with fail
    go_ret
    exact ⟨rfl, HB.out⟩
  · obtain rfl := hv (by omega)
    clear hu hv hn
    go_wp2_with fail
    go_ret
    exact ⟨rfl, HB.out⟩

theorem cmp_self (n : Nat) : cmpNat n n = 0 := by unfold cmpNat; simp
theorem cmp_ne {n m : Nat} (h : n ≠ m) : (cmpNat n m == 0) = false := by
  rw [beq_eq_false_iff_ne]; unfold cmpNat; split
  · decide
  · split
    · decide
    · omega

set_option maxRecDepth 100000 in
set_option maxHeartbeats 1000000 in
theorem known_yes (a : Option Addr) (len cap n : Nat) (b : Option Addr) (blen bcap : Nat) (ns : List Nat) (w : World) (h : NatS w a len n) (hb : NatsAt w b ns) (hbl : ns.length = blen) (hbm : (blen : Int) ≤ 1000) (hbc : (blen : Int) ≤ bcap) (hs : SmallP n ∨ n ∈ ns) :
    Calls Tryz.prog 151 #[.agg #[.slice a len cap], .slice b blen bcap] w fun e w' => e = .returned (.bool true) ∧ Below w.heap.size w w' := by
  have HE0 := Lib.hid ((((Env.init 36 w).add (natS_stays (by decide)) h).add (natsLow_stays (by decide)) hb.toLow).alloc [.slice a len cap] 36)
  have HL := Lib.hid hbl
  have HS := Lib.hid hs
  have hl := h.2
  obtain ⟨s, hsz⟩ : ∃ s, s = w.heap.size := ⟨_, rfl⟩
  clear h hb hbl hs
  go_enter Tryz.func151, Tryz.ntmps151
  go_wp2_with fail
  rw [← hsz] at HE0
  rw [← hsz]
  have HSZ := Lib.hid hsz
  clear hsz
  go_loopw [9] (fun iv wr => ∃ k : Nat, k ≤ blen ∧ iv = .int .i64 (k : Int) ∧ Hid (Env s 36 w wr ([] ++ [(s, 36, [.slice a len cap])]) ([] ++ [fun w => NatS w a len n] ++ [fun w => NatsLow s w b ns])) ∧ Hid (∀ i, i < k → ns.getD i 0 ≠ n)) (fun iv _ => blen - (intOf iv).toNat)
  case atStart => exact ⟨0, Nat.zero_le _, rfl, HE0.out, fun i hi => by omega⟩
  case round =>
    obtain ⟨k, hk, rfl, HE, HK⟩ := hrel
    clear HE0
    by_cases hlt : k < blen
    · obtain ⟨ad, x, l, c, rfl, het, hcx, hx⟩ := (HE.out.has 1 rfl).1.get (k := k) (by rw [HL.out]; exact hlt)
      obtain ⟨y, hy⟩ : ∃ y, ns.getD k 0 = y := ⟨_, rfl⟩
      rw [hy] at hx
      have HX := Lib.hid hx
      have HY := Lib.hid hy
      have hxl := hx.2
      have c0 := (HE.out.get 0 rfl).cell 0
      have hltI : (k : Int) < blen := by omega
      simp only [List.getElem?_cons_zero] at c0
      have c0' : ∀ o, (wr.alloc o).cell? ⟨s, 0, none⟩ = some (.slice a len cap) := fun o => ((HE.out.get 0 rfl).alloc o).cell 0
      clear hx het hy
      go_wp2_with fail
      have HE1 := Lib.hid (HE.out.alloc [.slice x l c] 36)
      have HX1 : Hid (NatAt (wr.alloc (Obj.cells #[Value.slice x l c] 36)) x l y) := HX.out.1.below ((Below.refl _ _).alloc (Nat.le_refl _) _)
      refine (cmp_any x a l c len cap y n _ HX1.out (HE1.out.has 0 rfl).1 (by omega) (by omega)).mono ?_
      rintro e w2 ⟨rfl, hb2⟩
      have HE2 := Lib.hid (HE1.out.below hb2)
      clear hb2 c0 c0' hcx HE HX HE1 HX1
      by_cases hx : y = n
      · subst hx
        rw [cmp_self]
        go_wp2_with fail
        go_ret
        exact ⟨rfl, HSZ.out ▸ HE2.out.bel⟩
      · have hcx := cmp_ne hx
        have HXN := Lib.hid hx
        clear hx
        go_wp2_with fail
        exact ⟨⟨k + 1, by omega, by go_num, HE2.out.pop, fun i hi => by
            rcases Nat.lt_or_ge i k with h | h
            · exact HK.out i h
            · obtain rfl : i = k := by omega
              exact fun e => HXN.out (HY.out.symm.trans e)⟩, by simp only [intOf]; omega⟩
    · have hk' : k = blen := by omega
      subst hk'
      have hsm : Hid (SmallP n) := by
        rcases HS.out with h | h
        · exact h
        · obtain ⟨i, hi, he⟩ := List.getElem_of_mem h
          exact absurd (by rw [List.getD_eq_getElem?_getD, List.getElem?_eq_getElem hi]; exact he) (HK.out i (by rw [← HL.out]; exact hi))
      have c0 := (HE.out.get 0 rfl).cell 0
      simp only [List.getElem?_cons_zero] at c0
      go_wp2_with fail
      refine (small_yes a len cap n wr (HE.out.has 0 rfl) hsm.out).mono ?_
      rintro e w2 ⟨rfl, hb2⟩
      have HE2 := Lib.hid (HE.out.below hb2)
      clear hb2
      go_wp2_with fail
      go_ret
      exact ⟨rfl, HSZ.out ▸ HE2.out.bel⟩
end Go.Proofs.YthefednendgclaaGreat
