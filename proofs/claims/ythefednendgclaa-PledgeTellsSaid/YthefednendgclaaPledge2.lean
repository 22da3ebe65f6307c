/-
  Pledges: those of a polynomial, with masks and bare.
-/
import Derived.Test.YthefednendgclaaPledge1
set_option linter.unusedVariables false
set_option linter.unusedSimpArgs false
namespace Go.Proofs.Ythefednendgclaa
open Go Go.RowKit Sac

def allG (P G H : Nat) (p m : List Nat) : List Nat := (List.range (max p.length m.length)).map fun i => multi P [G, H] [p.getD i 0, m.getD i 0]
theorem allG_length (P G H : Nat) (p m : List Nat) : (allG P G H p m).length = max p.length m.length := by simp [allG]
theorem allG_get (P G H : Nat) (p m : List Nat) (i : Nat) (h : i < max p.length m.length) : (allG P G H p m).getD i 0 = multi P [G, H] [p.getD i 0, m.getD i 0] := by
  simp [allG, List.getD_eq_getElem?_getD, List.getElem?_map, List.getElem?_range h]
theorem allG_eq (k : Nat) (p m : List Nat) : allG (gP k) (gG k) (gH k) p m = allP k p m := by
  unfold allG allP
  congr 1
  funext i
  exact multi_two _ _ _ _ _
theorem getD_small {p : List Nat} (h : ∀ a ∈ p, a < 2 ^ 1000) (i : Nat) : p.getD i 0 < 2 ^ 1000 := by
  rw [List.getD_eq_getElem?_getD]
  by_cases hi : i < p.length
  · rw [List.getElem?_eq_getElem hi]; exact h _ (List.getElem_mem hi)
  · rw [List.getElem?_eq_none (by omega)]; exact two_pos 1000

set_option maxRecDepth 100000 in
set_option maxHeartbeats 4000000 in
theorem pall_any (g P Q G H sz : Nat) (a : Option Addr) (len cap : Nat) (p : List Nat) (b : Option Addr) (lenb capb : Nat) (p' : List Nat) (w : World) (hr : GroupAt w g P Q G H sz) (hP1 : 1 < P) (hps : ∀ a ∈ p, a < 2 ^ 1000) (hps' : ∀ a ∈ p', a < 2 ^ 1000) (h : NatsAt w a p) (hl : p.length = len) (hc : (len : Int) ≤ 10000) (h' : NatsAt w b p') (hl' : p'.length = lenb) (hc' : (lenb : Int) ≤ 10000) :
    Calls Try.prog 42 #[.pointer (some ⟨g, 0, none⟩), .slice a len cap, .slice b lenb capb] w (RetRow (allG P G H p p') w) := by
  obtain ⟨s, hs⟩ : ∃ s, s = w.heap.size := ⟨_, rfl⟩
  have HE0 := Lib.hid ((GE.init w s hs).pushNil)
  have HP := Lib.hid h
  have HP' := Lib.hid h'
  have HR := Lib.hid hr
  have HL := Lib.hid hl
  have HL' := Lib.hid hl'
  have HC := Lib.hid (And.intro hP1 (And.intro (getD_small hps) (getD_small hps')))
  have HS := Lib.hid hs
  obtain ⟨m, hm⟩ : ∃ m, m = max len lenb := ⟨_, rfl⟩
  have hmi : max (len : Int) (lenb : Int) = (m : Int) := by rw [hm]; omega
  have hm1 : (m : Int) ≤ 10000 := by omega
  have HM := Lib.hid hm
  clear hr h h' hl hl' hs hm hP1 hps hps'
  go_enter Try.func42, Try.ntmps42
  go_wp2_with fail
  go_loopw [7, 16] (fun v iv wr => ∃ i : Nat, (i : Int) ≤ m ∧ iv = .int .i64 (i : Int) ∧ Hid (GE w wr s [rowI s v ((allG P G H p p').take i)] [])) (fun _ iv _ => m - (intOf iv).toNat)
  case atStart => exact ⟨0, by omega, rfl, HE0.out⟩
  case round =>
    clear HE0
    obtain ⟨i, hi, rfl, HE⟩ := hrel
    have hal : (allG P G H p p').length = m := by rw [allG_length, HL.out, HL'.out, HM.out]
    have hb0 : BB w wr := by have := HE.out.bel; rw [HS.out] at this; exact this
    by_cases hlt : (i : Int) < m
    · have hil : i < (allG P G H p p').length := by rw [hal]; omega
      have HTS : Hid ((allG P G H p p').take (i + 1) = (allG P G H p p').take i ++ [multi P [G, H] [p.getD i 0, p'.getD i 0]]) := by
        show _ = _
        have := allG_get P G H p p' i (by rw [allG_length] at hil; exact hil)
        rw [List.getD_eq_getElem?_getD, List.getElem?_eq_getElem hil] at this
        rw [List.take_succ_eq_append_getElem hil, ← this]; rfl
      have HTL : Hid (((allG P G H p p').take i).length = i) := by show _ = _; rw [List.length_take, hal]; omega
      clear hil hal
      go_wp2_with fail
      refine (pat_any a len cap i p wr (HP.out.below hb0) HL.out hc (by omega)).mono ?_
      rintro e w2 ⟨xa, xl, xc, rfl, hx, hb2⟩
      have HX2 := Lib.hid hx
      have HE2 := Lib.hid (HE.out.below hb2)
      have hbb2 : BB w w2 := BB.step hb0 hb2
      clear hx hb2
      go_wp2_with fail
      refine (pat_any b lenb capb i p' w2 (HP'.out.below hbb2) HL'.out hc' (by omega)).mono ?_
      rintro e w3 ⟨ya, yl, yc, rfl, hy, hb3⟩
      have HY3 := Lib.hid hy
      have HX3 := Lib.hid (HX2.out.below hb3)
      have HE3 := Lib.hid (HE2.out.below hb3)
      have hbb3 : BB w w3 := BB.step hbb2 hb3
      clear hy hb3
      go_wp2_with fail
      refine (pof_any g P Q G H sz xa xl xc _ ya yl yc _ w3 (HR.out.below hbb3) HC.out.1 HX3.out HY3.out (HC.out.2.1 i) (HC.out.2.2 i)).mono ?_
      rintro e w4 ⟨za, zl, zc, rfl, hz, hb4⟩
      have HE4 := Lib.hid (HE3.out.below hb4)
      have hbx := (Below.refl _ w4).alloc (Nat.le_refl _) (Obj.cells #[Value.slice za zl zc] 33)
      have HE5 := Lib.hid (HE4.out.below hbx)
      have HZ5 := Lib.hid (hz.below hbx)
      have cR := (Blk.new w4 [Value.slice za zl zc] 33).cell 0
      simp only [List.getElem?_cons_zero] at cR
      obtain ⟨va, vc, rfl, hv1, hv2, _, _⟩ := (HE5.out.row 0 rfl).form
      rw [HTL.out] at hv1 HE5
      rw [HTL.out]
      clear hz hb4 HE HE2 HE3 HE4 hbx hbb2 hbb3 hb0 HX2 HX3 HY3
      go_wp2_with (first | (refine wpList_append_nat _ rfl (.tmp 19) (.tmp 28) rfl s _ ((allG P G H p p').take i) rfl (HE5.out.row 0 rfl) ⟨w4.heap.size, 0, none⟩ 1 (multi P [G, H] [p.getD i 0, p'.getD i 0]) za zl zc rfl cR HZ5.out (by rw [HTL.out]; omega) HE5.out.base ?_; intro v' w6 hown hgr hf; have HE6 := Lib.hid (HE5.out.append 0 rfl hgr hf hown); clear hown hgr hf))
      go_roundw
      case rel => exact ⟨i + 1, by omega, by go_num, HTS.out.symm ▸ HE6.out⟩
      case measure => simp [intOf]; omega
    · have hi' : i = m := by omega
      subst hi'
      rw [List.take_of_length_le (by rw [hal]; exact Nat.le_refl _)] at HE
      go_wp2_with fail
      go_ret
      exact ⟨_, rfl, HS.out ▸ HE.out.row 0 rfl, HS.out ▸ HE.out.bel⟩
end Go.Proofs.Ythefednendgclaa
