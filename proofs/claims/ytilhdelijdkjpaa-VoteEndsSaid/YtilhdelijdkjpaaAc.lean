import Derived.Test.YtilhdelijdkjpaaVL
import Derived.Test.YtilhdelijdkjpaaOf
import Derived.Test.YtilhdelijdkjpaaTk
set_option linter.unusedVariables false
set_option linter.unusedSimpArgs false
/-
  View, Decided.
-/
namespace Go.Proofs.Ytilhdelijdkjpaa
open Go Go.RowKit Go.Maps Sac

set_option maxRecDepth 100000 in
set_option maxHeartbeats 2000000 in
theorem view_any {acc : Bs → Bool} {col : Colour} {ci b : Nat} {w : World} {c : Core} (h : CoreAt acc col ci w b c) :
    Calls Try.prog 22 #[.pointer (some ⟨b, 0, none⟩)] w fun e w' => e = .returned (.int .i64 c.view) ∧ w' = w := by
  obtain ⟨fv, wi, lo, va, pb, pp, cm, tn, sn, dc, h⟩ := h
  have d4 := h.cells.2.2.2.2.1
  clear h
  go_enter Try.func22, Try.ntmps22
  go_wp2_with fail
  go_ret
  exact ⟨rfl, rfl⟩

set_option maxRecDepth 100000 in
set_option maxHeartbeats 2000000 in
theorem decided_any {acc : Bs → Bool} {col : Colour} {ci b : Nat} {w : World} {c : Core} (ht : Tinted col w) (h : CoreAt acc col ci w b c) (hok : CoreOk c) :
    Calls Try.prog 21 #[.pointer (some ⟨b, 0, none⟩)] w fun e w' => Below w.heap.size w w' ∧ ∃ v, e = .returned (.tuple #[v, .bool c.decided]) ∧ RB w' v (if c.decided then c.value else []) := by
  obtain ⟨fv, wi, lo, va, pb, pp, cm, tn, sn, dc, h⟩ := h
  have d15 := h.hblk.cell 15
  have d16 := h.hblk.cell 16
  simp only [List.getElem?_cons_zero, List.getElem?_cons_succ] at d15 d16
  obtain ⟨dv, hdv⟩ : ∃ dv, c.decided = dv := ⟨_, rfl⟩
  rw [hdv] at d15 ⊢
  have hcl := clone_any va c.value w h.hva (by have := hok.inn.len0.2.2; omega)
  obtain ⟨qa, qn, qc, rfl⟩ := RB.form h.hva
  have HCL := Lib.hid hcl
  clear ht h hok hdv hcl
  cases dv
  · go_enter Try.func21, Try.ntmps21
    go_wp2_with fail
    go_ret2
    exact ⟨Below.refl _ _, _, rfl, RB.nil _⟩
  · go_enter Try.func21, Try.ntmps21
    go_wp2_with fail
    refine HCL.out.mono ?_
    rintro e w2 ⟨v2, rfl, hbuf, hb2⟩
    have HBUF := Lib.hid hbuf
    have HB2 := Lib.hid hb2
    clear hbuf hb2
    go_wp2_with fail
    go_ret2
    exact ⟨HB2.out, _, rfl, HBUF.out.rb⟩

end Go.Proofs.Ytilhdelijdkjpaa
/-
  Which values are accepted: any, not; peers in a row.
-/
namespace Go.Proofs.Ytilhdelijdkjpaa
open Go Go.RowKit Go.Maps Sac

theorem any_acc : AccAt (.func (.func 26) #[] #[]) anyV := by
  refine ⟨⟨_, rfl, fun args w => ?_, fun w v bs h => ?_⟩⟩
  · exact (enters_of Try.func26 (by kernel_rfl) rfl) args w
  · go_enter Try.func26, Try.ntmps26
    go_wp2_with fail
    go_ret
    exact ⟨rfl, Below.refl _ _⟩

set_option maxRecDepth 100000 in
theorem not_acc : AccAt (.func (.func 15) #[] #[]) notV := by
  refine ⟨⟨_, rfl, fun args w => ?_, fun w v bs h => ?_⟩⟩
  · exact (enters_of Try.func15 (by kernel_rfl) rfl) args w
  · obtain ⟨a, cap, rfl, h1, h2, h3, h4, h5⟩ := h
    cases bs with
    | nil =>
      go_enter Try.func15, Try.ntmps15
      go_wp2_with fail
      go_ret
      exact ⟨rfl, Below.refl _ _⟩
    | cons x l =>
      obtain ⟨ad, rfl, _, hc⟩ := h4.at_ (k := 0) (by simp)
      have hc2 : w.cell? ad = some (.int .u8 (x : Int)) := hc
      obtain ⟨n, hn⟩ : ∃ n, l.length = n := ⟨_, rfl⟩
      have hlen : (x :: l).length = n + 1 := by rw [List.length_cons, hn]
      rw [hlen] at h1 ⊢
      have hx : ((x : Int) != 33) = (x != 33) := by rw [Bool.eq_iff_iff]; simp; omega
      obtain ⟨r, hr⟩ : ∃ r, (x != 33) = r := ⟨_, rfl⟩
      have hnv : notV (x :: l) = r := hr
      rw [hr] at hx
      rw [hnv]
      have e0 : decide (((n + 1 : Nat) : Int) = 0) = false := decide_eq_false (by omega)
      have e1 : (((n + 1 : Nat) : Int) == 0) = false := by simp; omega
      have e2 : (1 : Int) ≤ ((n + 1 : Nat) : Int) := by omega
      clear hc h3 h4 h5 hr hnv hlen hn
      go_enter Try.func15, Try.ntmps15
      go_wp2_with fail
      go_ret
      exact ⟨rfl, Below.refl _ _⟩
end Go.Proofs.Ytilhdelijdkjpaa
