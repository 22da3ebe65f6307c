/-
  The reader's four.
-/
import Derived.Test.YtilhdelijdkjpaaRd
import Derived.Laws.BitsLemmas
set_option linter.unusedVariables false
set_option linter.unusedSimpArgs false
namespace Go.Proofs.Ytilhdelijdkjpaa
open Go Go.RowKit Go.Maps Sac

theorem num4_step {l : Bs} {j : Nat} (hj : j < l.length) : num4 (l.take (j + 1)) = num4 (l.take j) * 256 + l[j] := by
  unfold num4
  rw [List.take_add_one, List.getElem?_eq_getElem hj, List.foldl_append]
  rfl
theorem num4_lt {l : Bs} (hl : ∀ x ∈ l, x < 256) : ∀ j, j ≤ l.length → num4 (l.take j) < 256 ^ j
  | 0, _ => by simp [num4]
  | j + 1, hj => by
    have ih := num4_lt hl j (by omega)
    have hx := hl l[j] (List.getElem_mem (by omega))
    rw [num4_step (by omega), Nat.pow_succ]
    omega
theorem take4_len (r : RdS) : (takeR 4 r).1.length ≤ 4 := by
  unfold takeR
  split
  · exact Nat.zero_le _
  · rw [List.length_take]; omega
theorem take4_lt {r : RdS} (h : ∀ x ∈ r.1, x < 256) : ∀ x ∈ (takeR 4 r).1, x < 256 := by
  unfold takeR
  split
  · intro x hx; cases hx
  · exact fun x hx => h x (List.mem_of_mem_take hx)
theorem fourR_lt {r : RdS} (h : ∀ x ∈ r.1, x < 256) : (fourR r).1 < 4294967296 := by
  have h1 := num4_lt (take4_lt h) (takeR 4 r).1.length (Nat.le_refl _)
  rw [List.take_length] at h1
  have h2 := take4_len r
  have h3 : 256 ^ (takeR 4 r).1.length ≤ 256 ^ 4 := Nat.pow_le_pow_right (by decide) h2
  have h4 : (256 : Nat) ^ 4 = 4294967296 := by decide
  unfold fourR
  omega
theorem or_byte (x y : Nat) (hx : x < 36028797018963968) (hy : y < 256) : bits .or .i64 ((x : Int) * 256) (y : Int) = ((x * 256 + y : Nat) : Int) := by
  have hw : ∀ n : Int, 0 ≤ n → n < 2 ^ 63 → IntKind.i64.wrap n = n := fun n h0 h1 => by rw [IntKind.wrap_i64]; omega
  rw [bits_join .i64 63 (by decide) hw 8 ((x : Int) * 256) (y : Int) (by omega) (by omega) (by omega) (by omega) (by omega) (by omega)]
  omega

set_option maxRecDepth 100000 in
set_option maxHeartbeats 2000000 in
theorem rfour_any {col : Colour} {q : Nat × Nat} {B : Nat} {w : World} (r : RdS) (ht : Tinted col w) (hB : col B = some q) (h : RAt w B r) (hlen : r.1.length ≤ 1000000000000) :
    Calls Try.prog 66 #[.pointer (some ⟨B, 0, none⟩)] w fun e w' => e = .returned (.int .i64 ((fourR r).1 : Int)) ∧ RAt w' B (fourR r).2 ∧ Ext (· = q) col w col w' := by
  have htk := rtake_any 4 r ht hB h (by decide) hlen
  have HTK : Hid (Calls Try.prog 68 #[.pointer (some ⟨B, 0, none⟩), .int .i64 4] w _) := htk
  have h256 : ∀ x ∈ (takeR 4 r).1, x < 256 := take4_lt (by obtain ⟨v, _, hr⟩ := h; exact hr.lt)
  have hl4 := take4_len r
  obtain ⟨l, hl⟩ : ∃ l, (takeR 4 r).1 = l := ⟨_, rfl⟩
  have hR : fourR r = (num4 l, (takeR 4 r).2) := by unfold fourR; rw [hl]
  rw [hl] at HTK h256 hl4
  rw [hR]
  obtain ⟨m, hm⟩ : ∃ m, l.length = m := ⟨_, rfl⟩
  have H256 := Lib.hid h256
  have HM := Lib.hid hm
  rw [hm] at hl4
  clear htk ht hB h hlen h256 hl hR hm
  go_enter Try.func66, Try.ntmps66
  go_wp2_with fail
  refine HTK.out.mono ?_
  rintro e w2 ⟨v, rfl, hrb, hra, hE⟩
  obtain ⟨a, cap, rfl, hcap, hmax, _, hrd, _⟩ := id hrb
  rw [HM.out] at hcap ⊢
  have HRD := Lib.hid hrd
  have HRA := Lib.hid hra
  have HE := Lib.hid hE
  clear hrb hrd hra hE HTK
  go_wp2_with fail
  go_loopw [3, 9] (fun t3 u wr => ∃ j : Nat, j ≤ m ∧ u = .int .i64 (j : Int) ∧ t3 = .int .i64 (num4 (l.take j) : Int) ∧ wr = w2) (fun _ u _ => m - (intOf u).toNat)
  case atStart => exact ⟨0, Nat.zero_le _, rfl, rfl, rfl⟩
  case round =>
    obtain ⟨j, hj, rfl, rfl, rfl⟩ := hrel
    by_cases hlt : (j : Int) < (m : Int)
    · obtain ⟨ad, rfl, he, hc⟩ := HRD.out.at_ (k := j) (by rw [List.length_map, HM.out]; omega)
      have hjl : j < l.length := by rw [HM.out]; omega
      obtain ⟨y, hy⟩ : ∃ y, l[j] = y := ⟨_, rfl⟩
      have hc2 : wr.cell? (ad.add j) = some (.int .u8 (y : Int)) := by rw [hc, List.getElem_map, hy]; rfl
      have hy8 : y < 256 := by rw [← hy]; exact H256.out _ (List.getElem_mem hjl)
      have hst := num4_step hjl
      rw [hy] at hst
      have hxl := num4_lt H256.out j (by omega)
      have h44 : 256 ^ j ≤ 256 ^ 4 := Nat.pow_le_pow_right (by decide) (by omega)
      have h45 : (256 : Nat) ^ 4 = 4294967296 := by decide
      obtain ⟨x, hx⟩ : ∃ x, num4 (l.take j) = x := ⟨_, rfl⟩
      rw [hx] at hst hxl ⊢
      have hx4 : x < 4294967296 := by omega
      have hor := or_byte x y (by omega) hy8
      have hsh : IntKind.i64.wrap ((x : Int) * 256) = (x : Int) * 256 := by rw [IntKind.wrap_i64]; omega
      have hcv : IntKind.i64.wrap (y : Int) = (y : Int) := by rw [IntKind.wrap_i64]; omega
      have HST := Lib.hid hst
      clear hc he hy hst hxl h44 h45 hx
      go_wp2_with fail
      refine ⟨⟨j + 1, by omega, by push_cast; rfl, ?_, trivial⟩, by simp [intOf]; omega⟩
      rw [HST.out]
      push_cast
      rfl
    · obtain rfl : j = m := by omega
      have hfin : l.take j = l := List.take_of_length_le (by rw [HM.out]; exact Nat.le_refl _)
      rw [hfin]
      clear hfin
      go_wp2_with fail
      go_ret
      exact ⟨rfl, HRA.out, HE.out⟩
end Go.Proofs.Ytilhdelijdkjpaa
