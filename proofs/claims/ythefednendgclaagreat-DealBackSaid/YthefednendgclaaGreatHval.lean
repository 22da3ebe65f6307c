/-
  The second bases of the three groups: what is derived of nothing, and the powers that it makes. No program in sight.
-/
import Derived.Test.YthefednendgclaaGreatShaP
import Derived.Test.YthefednendgclaaGreatCurveG
set_option linter.unusedVariables false
set_option linter.unusedSimpArgs false
namespace Sac
open NT

/-- The first block that is derived of nothing, for 'h' and 0. -/
def hBytes : List Nat := [22, 9, 94, 96, 137, 201, 132, 135, 12, 215, 97, 165, 119, 173, 84, 193, 49]
set_option maxRecDepth 100000 in
theorem derived32 : (Sha.tag (Sha.tag [] []) [104, 0, 1]).take 17 = hBytes := by decide +kernel

theorem derived (n : Nat) (h1 : 0 < n) (h2 : n ≤ 17) : Sha.derive [] [] [104, 0] n = hBytes.take n := by
  have e : (n + 31) / 32 = 1 := by omega
  unfold Sha.derive
  rw [e]
  show (Sha.tag (Sha.tag [] []) [104, 0, 1] ++ []).take n = _
  rw [List.append_nil, ← derived32, List.take_take, Nat.min_eq_left h2]

/-- Bytes as a number that goes round. -/
def ofBytes (P : Nat) (l : List Nat) : Nat := l.foldl (fun n x => (n * 256 + x) % P) 0
theorem ofBytes_snoc (P : Nat) (l : List Nat) (x : Nat) : ofBytes P (l ++ [x]) = (ofBytes P l * 256 + x) % P := by simp [ofBytes]
def gS : Nat → Nat
  | 0 => 2
  | 1 => 3
  | _ => 9
def gT : Nat → Nat
  | 0 => 6
  | 1 => 10
  | _ => 18
def gN : Nat → Nat
  | 0 => 323
  | 1 => 235602
  | _ => 7939214684620079117
def gH : Nat → Nat
  | 0 => 597
  | 1 => 96520
  | _ => 12833098634328171918
set_option maxRecDepth 100000 in
theorem gN_eq : ∀ k, ofBytes (gP k) (hBytes.take (gS k + 8)) = gN k
  | 0 => by decide +kernel
  | 1 => by decide +kernel
  | _ + 2 => by show ofBytes 20752587082923246163 (hBytes.take 17) = 7939214684620079117; decide +kernel
theorem gT_eq : ∀ k, gP k - 1 = gQ k * gT k
  | 0 => by decide
  | 1 => by decide
  | _ + 2 => by show 20752587082923246163 - 1 = Q60 * 18; decide
set_option maxRecDepth 100000 in
theorem gH_eq : ∀ k, gN k ^ gT k % gP k = gH k
  | 0 => by decide +kernel
  | 1 => by decide +kernel
  | _ + 2 => by show 7939214684620079117 ^ 18 % 20752587082923246163 = 12833098634328171918; decide +kernel
theorem gH_lt : ∀ k, gH k < gP k
  | 0 => by decide
  | 1 => by decide
  | _ + 2 => by show 12833098634328171918 < 20752587082923246163; decide
theorem gH_one : ∀ k, 1 < gH k
  | 0 => by decide
  | 1 => by decide
  | _ + 2 => by show 1 < 12833098634328171918; decide
set_option maxRecDepth 100000 in
theorem gH_pow : ∀ k, gH k ^ gQ k % gP k = 1
  | 0 => pow_of_pm 61 (by decide) (by decide) (by decide)
  | 1 => pow_of_pm 61 (by decide) (by decide) (by decide)
  | _ + 2 => (pow_of_pm 61 (by decide) (by decide) (by decide) : 12833098634328171918 ^ Q60 % 20752587082923246163 = 1)
end Sac
