/-
  Which values are accepted: any, not; peers in a row.
-/
import Derived.Test.YtilhdelijdkjpaaOf
import Derived.Test.YtilhdelijdkjpaaTk
import Derived.Test.YtilhdelijdkjpaaVR
set_option linter.unusedVariables false
set_option linter.unusedSimpArgs false
namespace Go.Proofs.Ytilhdelijdkjpaa
open Go Go.RowKit Go.Maps Sac

theorem any_acc : AccAt (.func (.func 26) #[] #[]) anyV := by
  refine ⟨⟨_, rfl, fun args w => ?_, fun w v bs h => ?_⟩⟩
  · exact (enters_of Try.func26 (by kernel_rfl) rfl) args w
  · go_enter Try.func26, Try.ntmps26
    go_wp2_with fail
    go_ret
    exact ⟨rfl, Below.refl _ _⟩

set_option maxRecDepth 100000 in
theorem not_acc : AccAt (.func (.func 15) #[] #[]) notV := by
  refine ⟨⟨_, rfl, fun args w => ?_, fun w v bs h => ?_⟩⟩
  · exact (enters_of Try.func15 (by kernel_rfl) rfl) args w
  · obtain ⟨a, cap, rfl, h1, h2, h3, h4, h5⟩ := h
    cases bs with
    | nil =>
      go_enter Try.func15, Try.ntmps15
      go_wp2_with fail
      go_ret
      exact ⟨rfl, Below.refl _ _⟩
    | cons x l =>
      obtain ⟨ad, rfl, _, hc⟩ := h4.at_ (k := 0) (by simp)
      have hc2 : w.cell? ad = some (.int .u8 (x : Int)) := hc
      obtain ⟨n, hn⟩ : ∃ n, l.length = n := ⟨_, rfl⟩
      have hlen : (x :: l).length = n + 1 := by rw [List.length_cons, hn]
      rw [hlen] at h1 ⊢
      have hx : ((x : Int) != 33) = (x != 33) := by rw [Bool.eq_iff_iff]; simp; omega
      obtain ⟨r, hr⟩ : ∃ r, (x != 33) = r := ⟨_, rfl⟩
      have hnv : notV (x :: l) = r := hr
      rw [hr] at hx
      rw [hnv]
      have e0 : decide (((n + 1 : Nat) : Int) = 0) = false := decide_eq_false (by omega)
      have e1 : (((n + 1 : Nat) : Int) == 0) = false := by simp; omega
      have e2 : (1 : Int) ≤ ((n + 1 : Nat) : Int) := by omega
      clear hc h3 h4 h5 hr hnv hlen hn
      go_enter Try.func15, Try.ntmps15
      go_wp2_with fail
      go_ret
      exact ⟨rfl, Below.refl _ _⟩
end Go.Proofs.Ytilhdelijdkjpaa
