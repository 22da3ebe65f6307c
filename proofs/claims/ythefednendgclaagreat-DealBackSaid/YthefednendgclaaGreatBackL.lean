/-
  A dealing's shares are right for its pledges, and as many as its threshold tell it. (Plain, but for the functions that the contracts name.)
-/
import Derived.Test.YthefednendgclaaGreatDRight
import Derived.Test.YthefednendgclaaGreatPlainB
import Derived.Test.YthefednendgclaaGreatPledge2
import Derived.Test.YthefednendgclaaGreatHval
set_option linter.unusedVariables false
set_option linter.unusedSimpArgs false
namespace Go.Proofs.YthefednendgclaaGreat
open Go Go.RowKit Sac NT Poly

theorem gQ_big : ∀ k, 64 < gQ k
  | 0 => by decide
  | 1 => by decide
  | _ + 2 => by show 64 < gQ 2; decide
theorem below_1000 (k : Nat) {z : Nat} (h : z < gQ k) : z < 2 ^ 1000 := @lt_twop z 64 1000 (Nat.lt_trans h (gQ_lt k)) (by decide)
theorem dvF_ltQ {q S i : Nat} {l : List Nat} (hq : 0 < q) : ∀ a ∈ dvF q S l i, a < q := by
  intro a ha
  unfold dvF at ha
  rcases List.mem_cons.1 ha with rfl | ha
  · exact Nat.mod_lt _ hq
  · obtain ⟨b, _, rfl⟩ := List.mem_map.1 ha
    exact Nat.mod_lt _ hq
theorem pdg_member (k a b : Nat) : IsMember (gP k) (gQ k) (pdg k a b) := by
  have hP := gP_one k
  have h1 : (pdg k a b) ^ gQ k % gP k = 1 := by
    unfold pdg
    rw [← Nat.pow_mod, Nat.mul_pow, ← Nat.pow_mul, ← Nat.pow_mul, Nat.mul_comm a, Nat.mul_comm b, Nat.pow_mul, Nat.pow_mul, Nat.mul_mod, Nat.pow_mod, gG_pow k, Nat.pow_mod (gH k ^ gQ k), gH_pow k]
    simp [Nat.mod_eq_of_lt hP]
  refine ⟨fun h => ?_, Nat.mod_lt _ (by omega), h1⟩
  rw [h, Nat.zero_pow (gQ_pos k), Nat.zero_mod] at h1
  cases h1
theorem allP_members (k : Nat) (p m : List Nat) : AllM (gP k) (gQ k) (allP k p m) := fun i hi => by
  rw [allP_get k p m i (by rw [← allP_length k p m]; exact hi)]
  exact pdg_member k _ _
/-- A share that is the polynomials' value is right. -/
theorem right_share (k T n : Nat) {V M : List Nat} (hV : V.length = T) (hM : M.length = T) (h1 : 1 ≤ n) (h64 : n ≤ 64) : RightP (gP k) (gQ k) (gG k) (gH k) T (allP k V M) (n : Int) (evalm (gQ k) V (n % gQ k)) (evalm (gQ k) M (n % gQ k)) :=
  ⟨⟨by omega, by omega⟩, by rw [allP_length, hV, hM]; exact Nat.max_self T, allP_members k V M, ⟨evalm_lt (gQ_pos k) _ _, evalm_lt (gQ_pos k) _ _⟩, by rw [Int.toNat_natCast, all_at, multi_two]; rfl⟩
/-- Right shares of the polynomials tell them. -/
theorem tells_share (k T : Nat) {V : List Nat} (hV : V.length ≤ T) {pr : Nat → Int} {gs : List Nat} (hl : gs.length = T) (hs : gs.Pairwise fun i j => pr i < pr j) (hp : ∀ i ∈ gs, 1 ≤ pr i ∧ pr i ≤ 64) {S : Nat → Nat} (hS : ∀ i ∈ gs, S i = evalm (gQ k) V ((pr i).toNat % gQ k)) (x : Nat) :
    wsum (gQ k) (gs.map S) (wts (gQ k) (gs.map fun i => (pr i).toNat) x) T = evalm (gQ k) V (x % gQ k) := by
  have e : gs.map S = (gs.map fun i => (pr i).toNat).map fun z => evalm (gQ k) V (z % gQ k) := by
    rw [List.map_map]
    exact List.map_congr_left hS
  have hl2 : (gs.map fun i => (pr i).toNat).length = T := by rw [List.length_map, hl]
  rw [e]
  have h := share_field (gQ_prime k) (dis_peers (gQ_big k) hs hp) V (by rw [hl2]; exact hV) x
  rw [hl2] at h
  exact h
theorem addl_zero {q a b : Nat} {V W : List Nat} (hV : V.getD 0 0 = a % q) (hW : W.getD 0 0 = b % q) (h : 0 < max V.length W.length) : (addl q V W).getD 0 0 = (a + b) % q := by
  rw [addl_get q V W 0 h, hV, hW, ← Nat.add_mod]
end Go.Proofs.YthefednendgclaaGreat
