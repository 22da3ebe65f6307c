import Derived.Test.YthefednendgclaaLaw9
import Derived.Test.YthefednendgclaaLaw9b
set_option linter.unusedVariables false
set_option linter.unusedSimpArgs false
/-
  The law's group, of numbers that are as said.
-/
namespace Go.Proofs.Ythefednendgclaa
open Go Go.RowKit Sac NT

/-- Which of the three groups. -/
def kOf (n : Int) : Nat := ((IntKind.u64.wrap n).tmod 3).toNat
theorem kOf_cases (n : Int) : ((IntKind.u64.wrap n).tmod 3 = 0 ∧ kOf n = 0) ∨ ((IntKind.u64.wrap n).tmod 3 = 1 ∧ kOf n = 1) ∨ ((IntKind.u64.wrap n).tmod 3 = 2 ∧ kOf n = 2) := by
  have h0 : 0 ≤ IntKind.u64.wrap n := by
    show 0 ≤ n % 18446744073709551616
    omega
  unfold kOf
  generalize IntKind.u64.wrap n = m at h0 ⊢
  rw [Int.tmod_eq_emod_of_nonneg h0]
  omega

theorem gG_one : ∀ k, 1 < gG k
  | 0 => by decide
  | 1 => by decide
  | _ + 2 => by show 1 < 262144; decide
theorem gQ_64 : ∀ k, 64 < gQ k
  | 0 => by decide
  | 1 => by decide
  | _ + 2 => by show 64 < Q60; decide
theorem gS_eq : ∀ k, (blen (gP k) + 7) / 8 = gS k
  | 0 => by decide +kernel
  | 1 => by decide +kernel
  | _ + 2 => by show (blen 20752587082923246163 + 7) / 8 = 9; decide +kernel
theorem gS_le : ∀ k, gS k ≤ 9
  | 0 => by decide
  | 1 => by decide
  | _ + 2 => by show 9 ≤ 9; decide
theorem gH_of (k : Nat) : ofBytes (gP k) ((Sha.tag (Sha.tag [] []) [104, 0, 1]).take (gS k + 8)) ^ gT k % gP k = gH k := by
  have h1 : (Sha.tag (Sha.tag [] []) [104, 0, 1]).take (gS k + 8) = hBytes.take (gS k + 8) := by
    rw [← derived32, List.take_take, Nat.min_eq_left (by have := gS_le k; omega)]
  rw [h1, gN_eq, gH_eq]

/-- A group of the law. -/
def LG (w : World) (g k : Nat) : Prop := GroupAt w g (gP k) (gQ k) (gG k) (gH k) (gS k)

set_option maxRecDepth 100000 in
set_option maxHeartbeats 4000000 in
theorem group_of (k : Nat) (n : Int) (w : World) (hn : Calls Try.prog 83 #[.int .i64 n, .slice none 0 0] w (NumPost k (.slice none 0 0) w)) :
    Calls Try.prog 17 #[.int .i64 n, .slice none 0 0] w fun e w' => ∃ g, e = .returned (.pointer (some ⟨g, 0, none⟩)) ∧ LG w' g k ∧ Below w.heap.size w w' := by
  have HN := Lib.hid hn
  clear hn
  go_enter Try.func17, Try.ntmps17
  go_wp2_with fail
  refine HN.out.mono ?_
  rintro e w2 ⟨pa, pl, pc, qa, ql, qc, ga, gl, gc, cv, rfl, hP, hQ, hG, prP, prQ, hb2⟩
  have HH := Lib.hid (And.intro hP (And.intro hQ (And.intro hG (And.intro prP (And.intro prQ hb2)))))
  clear hP hQ hG prP prQ hb2
  go_wp2_with fail
  obtain ⟨hP, hQ, hG, prP, prQ, hb2⟩ := HH.out
  have h250 : 79228162514264337593543950336 < 2 ^ 250 := by decide
  refine (gnew_any (gP k) (gQ k) (gG k) (gT k) (gH k) (gS k) cv pa pl pc qa ql qc ga gl gc w2 hP hQ hG prP prQ (Nat.lt_trans (gP_lt k) h250) (Nat.lt_trans (gQ_lt k) (by decide)) (gG_one k) (gG_lt k) (gQ_64 k) (gT_eq k) ⟨Nat.ne_of_gt (Nat.lt_trans (by decide) (gG_one k)), gG_lt k, gG_pow k⟩ (gS_eq k) (Nat.le_trans (gS_le k) (by decide)) (gH_of k) (gH_one k)).mono ?_
  rintro e w3 ⟨g, rfl, hg, hb3⟩
  have HG := Lib.hid hg
  have HB := Lib.hid (hb2.trans (hb3.mono hb2.size))
  clear hP hQ hG prP prQ hb2 hg hb3 HH HN h250
  go_wp2_with fail
  go_ret
  exact ⟨g, rfl, HG.out, HB.out⟩
end Go.Proofs.Ythefednendgclaa
/-
  The law's group: for whatever number.
-/
namespace Go.Proofs.Ythefednendgclaa
open Go Go.RowKit Sac NT

theorem group_any (n : Int) (w : World) :
    Calls Try.prog 17 #[.int .i64 n, .slice none 0 0] w fun e w' => ∃ g, e = .returned (.pointer (some ⟨g, 0, none⟩)) ∧ LG w' g (kOf n) ∧ Below w.heap.size w w' := by
  rcases kOf_cases n with ⟨h1, h2⟩ | ⟨h1, h2⟩ | ⟨h1, h2⟩
  · rw [h2]; exact group_of 0 n w (numbers0 n w h1)
  · rw [h2]; exact group_of 1 n w (numbers1 n w h1)
  · rw [h2]; exact group_of 2 n w (numbers2 n w h1)
end Go.Proofs.Ythefednendgclaa
