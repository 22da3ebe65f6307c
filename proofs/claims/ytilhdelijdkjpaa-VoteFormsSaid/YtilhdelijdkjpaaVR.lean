/-
  View, Decided.
-/
import Derived.Test.YtilhdelijdkjpaaVL
set_option linter.unusedVariables false
set_option linter.unusedSimpArgs false
namespace Go.Proofs.Ytilhdelijdkjpaa
open Go Go.RowKit Go.Maps Sac

set_option maxRecDepth 100000 in
set_option maxHeartbeats 2000000 in
theorem view_any {acc : Bs → Bool} {col : Colour} {ci b : Nat} {w : World} {c : Core} (h : CoreAt acc col ci w b c) :
    Calls Try.prog 22 #[.pointer (some ⟨b, 0, none⟩)] w fun e w' => e = .returned (.int .i64 c.view) ∧ w' = w := by
  obtain ⟨fv, wi, lo, va, pb, pp, cm, tn, sn, dc, h⟩ := h
  have d4 := h.cells.2.2.2.2.1
  clear h
  go_enter Try.func22, Try.ntmps22
  go_wp2_with fail
  go_ret
  exact ⟨rfl, rfl⟩

set_option maxRecDepth 100000 in
set_option maxHeartbeats 2000000 in
theorem decided_any {acc : Bs → Bool} {col : Colour} {ci b : Nat} {w : World} {c : Core} (ht : Tinted col w) (h : CoreAt acc col ci w b c) (hok : CoreOk c) :
    Calls Try.prog 21 #[.pointer (some ⟨b, 0, none⟩)] w fun e w' => Below w.heap.size w w' ∧ ∃ v, e = .returned (.tuple #[v, .bool c.decided]) ∧ RB w' v (if c.decided then c.value else []) := by
  obtain ⟨fv, wi, lo, va, pb, pp, cm, tn, sn, dc, h⟩ := h
  have d15 := h.hblk.cell 15
  have d16 := h.hblk.cell 16
  simp only [List.getElem?_cons_zero, List.getElem?_cons_succ] at d15 d16
  obtain ⟨dv, hdv⟩ : ∃ dv, c.decided = dv := ⟨_, rfl⟩
  rw [hdv] at d15 ⊢
  have hcl := clone_any va c.value w h.hva (by have := hok.inn.len0.2.2; omega)
  obtain ⟨qa, qn, qc, rfl⟩ := RB.form h.hva
  have HCL := Lib.hid hcl
  clear ht h hok hdv hcl
  cases dv
  · go_enter Try.func21, Try.ntmps21
    go_wp2_with fail
    go_ret2
    exact ⟨Below.refl _ _, _, rfl, RB.nil _⟩
  · go_enter Try.func21, Try.ntmps21
    go_wp2_with fail
    refine HCL.out.mono ?_
    rintro e w2 ⟨v2, rfl, hbuf, hb2⟩
    have HBUF := Lib.hid hbuf
    have HB2 := Lib.hid hb2
    clear hbuf hb2
    go_wp2_with fail
    go_ret2
    exact ⟨HB2.out, _, rfl, HBUF.out.rb⟩

end Go.Proofs.Ytilhdelijdkjpaa
