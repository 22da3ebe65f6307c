/-
  Groups: Member of one that is there; long.
-/
import Derived.Test.YthefednendgclaaGrpA
import Derived.Test.YthefednendgclaaNGE
import Derived.Test.YthefednendgclaaCertB
set_option linter.unusedVariables false
set_option linter.unusedSimpArgs false
namespace Go.Proofs.Ythefednendgclaa
open Go Go.RowKit Sac

set_option maxRecDepth 100000 in
set_option maxHeartbeats 1000000 in
theorem glong_no (a : Option Addr) (len cap n : Nat) (w : World) (h : NatS w a len n) (hs : n < 2 ^ 250) :
    Calls Try.prog 120 #[.agg #[.slice a len cap]] w fun e w' => e = .returned (.bool false) ∧ Below w.heap.size w w' := by
  have HN := Lib.hid h
  have hl := h.2
  have hbl : blen n ≤ 250 := blen_le hs
  have hbl' : ((blen n : Nat) : Int) ≤ 250 := by omega
  have e1 : (decide ((1024 : Int) < ((blen n : Nat) : Int))) = false := by simp; omega
  clear h hs hbl
  go_enter Try.func120, Try.ntmps120
  go_wp2_with fail
  have hb0 : Below w.heap.size w (w.alloc (Obj.cells #[Value.slice a len cap] 33)) := (Below.refl _ w).alloc (Nat.le_refl _) _
  refine (bits_any a len cap n _ (HN.out.1.below hb0) (by omega)).mono ?_
  rintro e w1 ⟨rfl, hb1⟩
  have HB := Lib.hid (hb0.trans (hb1.mono hb0.size))
  clear hb0 hb1
  go_wp2_with fail
  go_ret
  exact ⟨rfl, HB.out⟩

theorem cmp_lt {n m : Nat} (h : n < m) : decide (cmpNat n m < 0) = true := by
  rw [decide_eq_true_iff]; unfold cmpNat; rw [if_pos h]; decide
theorem cmp_eq_dec (n m : Nat) : (cmpNat n m == 0) = decide (n = m) := by
  by_cases h : n = m
  · subst h; rw [cmp_self]; simp
  · rw [cmp_ne h]; simp [h]

def IsMember (P Q n : Nat) : Prop := n ≠ 0 ∧ n < P ∧ n ^ Q % P = 1
instance (P Q n : Nat) : Decidable (IsMember P Q n) := by unfold IsMember; exact inferInstance

set_option maxRecDepth 100000 in
set_option maxHeartbeats 4000000 in
theorem gmember_yes (g P Q G H sz : Nat) (a : Option Addr) (len cap n : Nat) (w : World) (h : GroupAt w g P Q G H sz) (hn : NatS w a len n) (hm : IsMember P Q n) :
    Calls Try.prog 47 #[.pointer (some ⟨g, 0, none⟩), .agg #[.slice a len cap]] w fun e w' => e = .returned (.bool true) ∧ Below w.heap.size w w' := by
  have hb1 := (Below.refl _ w).alloc (Nat.le_refl _) (Obj.cells #[Value.slice a len cap] 33)
  have hG1 := h.below hb1
  have HG := Lib.hid hG1
  have HN := Lib.hid (hn.below hb1)
  have HB := Lib.hid hb1
  obtain ⟨s, hs⟩ : ∃ s, s = w.heap.size := ⟨_, rfl⟩
  have hbs : Blk (w.alloc (Obj.cells #[Value.slice a len cap] 33)) s 33 [.slice a len cap] := Blk.new' w _ _ s hs
  obtain ⟨rp, rq, ga, gl, gc, ha, hl, hc, hBg, hP, hQ, _, _⟩ := hG1
  have HP := Lib.hid hP
  have HQ := Lib.hid hQ
  have G0 : ∀ w', BB (w.alloc (Obj.cells #[Value.slice a len cap] 33)) w' → w'.cell? ⟨g, 0, none⟩ = some (.pointer (some ⟨rp, 0, none⟩)) := fun w' h => (h.cell hBg.lt).trans (hBg.cell 0)
  have G1 : ∀ w', BB (w.alloc (Obj.cells #[Value.slice a len cap] 33)) w' → w'.cell? ⟨g, 1, none⟩ = some (.pointer (some ⟨rq, 0, none⟩)) := fun w' h => (h.cell hBg.lt).trans (hBg.cell 1)
  have GA : ∀ w', BB (w.alloc (Obj.cells #[Value.slice a len cap] 33)) w' → w'.cell? ⟨s, 0, none⟩ = some (.slice a len cap) := fun w' h => (h.cell hbs.lt).trans (hbs.cell 0)
  clear h hn hb1 hP hQ hBg hbs
  go_enter Try.func47, Try.ntmps47
  go_wp2_with fail
  rw [← hs]
  have HS := Lib.hid hs
  clear hs
  generalize w.alloc (Obj.cells #[Value.slice a len cap] 33) = w1 at HG HN HB HP HQ G0 G1 GA ⊢
  have hz : (n == 0) = false := by rw [beq_eq_false_iff_ne]; exact hm.1
  have hd := cmp_lt hm.2.1
  have HM1 := Lib.hid hm.2.2
  clear hm
  go_region_held3 (fun w' => BB w1 w') (first | assumption | exact BB.drew (BB.refl _))
        (first
          | (go_at_call 39; refine (zero_s a len cap n w1.drew HN.out.drew).mono ?_; rintro e w2 ⟨rfl, hb2⟩; have hbb2 : BB w1 w2 := BB.step (BB.drew (BB.refl w1)) hb2; clear hb2)
          | (go_at_call 102; refine (gp_any g P Q G H sz w2 (HG.out.below hbb2)).mono ?_; rintro e w3 ⟨pa, pl, pc, rfl, hp, hb3⟩; have hbb3 : BB w1 w3 := BB.step hbb2 hb3; have HP3 := Lib.hid hp; clear hp hb3)
          | (go_at_call 33; refine (modulus_any rq Q w4 (HQ.out.below hbb4)).mono ?_; rintro e w5 ⟨qa, ql, qc, rfl, hq, hb5⟩; have hbb5 : BB w1 w5 := BB.step hbb4 hb5; have HQ5 := Lib.hid hq; clear hq hb5)
          | (go_at_call 85; refine (rexp_any rp P a qa len cap ql qc n Q w5 (HP.out.below hbb5) (HN.out.below hbb5) HQ5.out).mono ?_; rintro e w6 ⟨xa, xl, xc, rfl, hx, hb6⟩; have hbb6 : BB w1 w6 := BB.step hbb5 hb6; have HX6 := Lib.hid hx; clear hx hb6)
          | (go_at_call 20; refine (new_s 1 w6 (by decide)).mono ?_; rintro e w7 ⟨ta, tl, tc, rfl, ht, hb7⟩; have hbb7 : BB w1 w7 := BB.step hbb6 hb7; have HT7 := Lib.hid ht; have HX7 := Lib.hid (HX6.out.below hb7); clear ht hb7)
          | (go_at_call 25; refine (cmp_s xa ta xl xc tl tc _ 1 w7 HX7.out HT7.out).mono ?_; rw [HM1.out, cmp_self]; rintro e w8 ⟨rfl, hb8⟩; have hbb8 : BB w1 w8 := BB.step hbb7 hb8; clear hb8)
          | (go_at_call 25; refine (cmp_s a pa len cap pl pc n P w3 (HN.out.below hbb3) HP3.out).mono ?_; rintro e w4 ⟨rfl, hb4⟩; have hbb4 : BB w1 w4 := BB.step hbb3 hb4; clear hb4))
  go_wp2_with fail
  go_ret
  exact ⟨rfl, HB.out.trans (Below.mono hbb8 HB.out.size)⟩
end Go.Proofs.Ythefednendgclaa
