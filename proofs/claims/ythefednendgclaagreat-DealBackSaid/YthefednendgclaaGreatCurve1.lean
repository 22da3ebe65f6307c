import Derived.Test.YthefednendgclaaGreatNGE
import Derived.Test.YthefednendgclaaGreatCurveG
import Derived.Deep.RegionLaw
set_option linter.unusedVariables false
set_option linter.unusedSimpArgs false
/-
  Polynomials: a coefficient, the sum.
-/
namespace Go.Proofs.YthefednendgclaaGreat
open Go Go.RowKit Sac

set_option maxRecDepth 100000 in
set_option maxHeartbeats 4000000 in
theorem at_any (a : Option Addr) (len cap i : Nat) (p : List Nat) (w : World) (h : NatsAt w a p) (hl : p.length = len) (hc : (len : Int) ≤ 10000) (hi : (i : Int) ≤ 100000) :
    Calls Tryz.prog 97 #[.slice a len cap, .int .i64 (i : Int)] w (RetS (p.getD i 0) w) := by
  have HL := Lib.hid hl
  clear hl
  by_cases hlt : (i : Int) < len
  · have hil : i < p.length := by rw [HL.out]; omega
    obtain ⟨x, hx⟩ : ∃ x, p.getD i 0 = x := ⟨_, rfl⟩
    obtain ⟨ad, xa, xl, xc, rfl, he, cx, Nx⟩ := h.get hil
    rw [hx] at Nx ⊢
    have HX := Lib.hid Nx
    have cx' : ∀ o, (w.alloc o).cell? (ad.add i) = some (.slice xa xl xc) := fun o => (World.cell?_alloc_some w _ o (by rw [cx]; rfl)).trans cx
    clear Nx he hil h hx
    go_enter Tryz.func97, Tryz.ntmps97
    go_wp2_with fail
    have hb := (Below.refl _ w).alloc (Nat.le_refl _) (Obj.cells #[Value.slice xa xl xc] 36)
    exact ret_nat rfl rfl (Blk.new w _ _) ⟨xa, xl, xc, rfl, HX.out.below hb, hb⟩
  · have hge : p.getD i 0 = 0 := by
      rw [List.getD_eq_getElem?_getD, List.getElem?_eq_none (by rw [HL.out]; omega)]; rfl
    rw [hge]
    have hd : decide ((i : Int) < (len : Int)) = false := decide_eq_false hlt
    clear h hge
    go_enter Tryz.func97, Tryz.ntmps97
    go_wp2_with fail
    have hb := (Below.refl _ w).alloc (Nat.le_refl _) (Obj.cells #[Value.slice none 0 0] 36)
    exact ret_nat rfl rfl (Blk.new w _ _) ⟨none, 0, 0, rfl, natS_nil _, hb⟩

set_option maxRecDepth 100000 in
set_option maxHeartbeats 4000000 in
theorem cadd_any (r q : Nat) (a : Option Addr) (len cap : Nat) (p : List Nat) (b : Option Addr) (lenb capb : Nat) (p' : List Nat) (w : World) (hr : RingAt w r q) (h : NatsAt w a p) (hl : p.length = len) (hc : (len : Int) ≤ 10000) (h' : NatsAt w b p') (hl' : p'.length = lenb) (hc' : (lenb : Int) ≤ 10000) :
    Calls Tryz.prog 56 #[.pointer (some ⟨r, 0, none⟩), .slice a len cap, .slice b lenb capb] w (RetRow (addl q p p') w) := by
  obtain ⟨s, hs⟩ : ∃ s, s = w.heap.size := ⟨_, rfl⟩
  have HE0 := Lib.hid ((GE.init w s hs).pushNil)
  have HP := Lib.hid h
  have HP' := Lib.hid h'
  have HR := Lib.hid hr
  have HL := Lib.hid hl
  have HL' := Lib.hid hl'
  have HS := Lib.hid hs
  obtain ⟨m, hm⟩ : ∃ m, m = max len lenb := ⟨_, rfl⟩
  have hmi : max (len : Int) (lenb : Int) = (m : Int) := by rw [hm]; omega
  have hm1 : (m : Int) ≤ 10000 := by omega
  have HM := Lib.hid hm
  clear hr h h' hl hl' hs hm
  go_enter Tryz.func56, Tryz.ntmps56
  go_wp2_with fail
  go_loopw [7, 16] (fun v iv wr => ∃ i : Nat, (i : Int) ≤ m ∧ iv = .int .i64 (i : Int) ∧ Hid (GE w wr s [rowI s v ((addl q p p').take i)] [])) (fun _ iv _ => m - (intOf iv).toNat)
  case atStart => exact ⟨0, by omega, rfl, HE0.out⟩
  case round =>
    clear HE0
    obtain ⟨i, hi, rfl, HE⟩ := hrel
    have hal : (addl q p p').length = m := by rw [addl_length, HL.out, HL'.out, HM.out]
    have hb0 : BB w wr := by have := HE.out.bel; rw [HS.out] at this; exact this
    by_cases hlt : (i : Int) < m
    · have hil : i < (addl q p p').length := by rw [hal]; omega
      have HTS : Hid ((addl q p p').take (i + 1) = (addl q p p').take i ++ [(p.getD i 0 + p'.getD i 0) % q]) := by
        show _ = _
        have := addl_get q p p' i (by rw [addl_length] at hil; exact hil)
        rw [List.getD_eq_getElem?_getD, List.getElem?_eq_getElem hil] at this
        rw [List.take_succ_eq_append_getElem hil, ← this]; rfl
      have HTL : Hid (((addl q p p').take i).length = i) := by show _ = _; rw [List.length_take, hal]; omega
      clear hil hal
      go_wp2_with fail
      refine (at_any a len cap i p wr (HP.out.below hb0) HL.out hc (by omega)).mono ?_
      rintro e w2 ⟨xa, xl, xc, rfl, hx, hb2⟩
      have HX2 := Lib.hid hx
      have HE2 := Lib.hid (HE.out.below hb2)
      have hbb2 : BB w w2 := BB.step hb0 hb2
      clear hx hb2
      go_wp2_with fail
      refine (at_any b lenb capb i p' w2 (HP'.out.below hbb2) HL'.out hc' (by omega)).mono ?_
      rintro e w3 ⟨ya, yl, yc, rfl, hy, hb3⟩
      have HY3 := Lib.hid hy
      have HX3 := Lib.hid (HX2.out.below hb3)
      have HE3 := Lib.hid (HE2.out.below hb3)
      have hbb3 : BB w w3 := BB.step hbb2 hb3
      clear hy hb3
      go_wp2_with fail
      refine (radd_any r q xa ya xl xc yl yc _ _ w3 (HR.out.below hbb3) HX3.out HY3.out).mono ?_
      rintro e w4 ⟨za, zl, zc, rfl, hz, hb4⟩
      have HE4 := Lib.hid (HE3.out.below hb4)
      have hbx := (Below.refl _ w4).alloc (Nat.le_refl _) (Obj.cells #[Value.slice za zl zc] 36)
      have HE5 := Lib.hid (HE4.out.below hbx)
      have HZ5 := Lib.hid (hz.below hbx)
      have cR := (Blk.new w4 [Value.slice za zl zc] 36).cell 0
      simp only [List.getElem?_cons_zero] at cR
      obtain ⟨va, vc, rfl, hv1, hv2, _, _⟩ := (HE5.out.row 0 rfl).form
      rw [HTL.out] at hv1 HE5
      rw [HTL.out]
      clear hz hb4 HE HE2 HE3 HE4 hbx hbb2 hbb3 hb0 HX2 HX3 HY3
      go_wp2_with (first | (refine wpList_append_nat _ rfl (.tmp 19) (.tmp 28) rfl s _ ((addl q p p').take i) rfl (HE5.out.row 0 rfl) ⟨w4.heap.size, 0, none⟩ 1 ((p.getD i 0 + p'.getD i 0) % q) za zl zc rfl cR HZ5.out (by rw [HTL.out]; omega) HE5.out.base ?_; intro v' w6 hown hgr hf; have HE6 := Lib.hid (HE5.out.append 0 rfl hgr hf hown); clear hown hgr hf))
      go_roundw
      case rel => exact ⟨i + 1, by omega, by go_num, HTS.out.symm ▸ HE6.out⟩
      case measure => simp [intOf]; omega
    · have hi' : i = m := by omega
      subst hi'
      rw [List.take_of_length_le (by rw [hal]; exact Nat.le_refl _)] at HE
      go_wp2_with fail
      go_ret
      exact ⟨_, rfl, HS.out ▸ HE.out.row 0 rfl, HS.out ▸ HE.out.bel⟩
end Go.Proofs.YthefednendgclaaGreat
