/-
  Deal and sign: how many bytes a number needs; are a share's numbers of the field?
-/
import Derived.Test.YthefednendgclaaDealT
import Derived.Test.YthefednendgclaaRefB
set_option linter.unusedVariables false
set_option linter.unusedSimpArgs false
namespace Go.Proofs.Ythefednendgclaa
open Go Go.RowKit Sac

theorem cmp_neg_iff (n m : Nat) : cmpNat n m < 0 ↔ n < m := by unfold cmpNat; split <;> (try split) <;> omega

set_option maxRecDepth 100000 in
set_option maxHeartbeats 2000000 in
theorem swidth_any (g P Q G H sz : Nat) (w : World) (hg : GroupAt w g P Q G H sz) :
    Calls Try.prog 134 #[.pointer (some ⟨g, 0, none⟩)] w fun e w' => e = .returned (.int .i64 ((nbytes Q : Nat) : Int)) ∧ Below w.heap.size w w' := by
  have HG := Lib.hid hg
  clear hg
  go_enter Try.func134, Try.ntmps134
  go_wp2_with fail
  refine (gfield_any g P Q G H sz w HG.out).mono ?_
  rintro e w2 ⟨r, rfl, hr, hb2⟩
  have HR := Lib.hid hr
  have HB2 := Lib.hid hb2
  clear hr hb2
  go_wp2_with fail
  refine (modulus_any r Q w2 HR.out).mono ?_
  rintro e w3 ⟨a, l, c, rfl, hq, hb3⟩
  have HQ := Lib.hid hq
  have HB3 := Lib.hid (HB2.out.trans (hb3.mono HB2.out.size))
  clear hq hb3
  go_wp2_with fail
  refine (bits_any a l c Q w3 HQ.out.1 (by have := HQ.out.2; omega)).mono ?_
  rintro e w4 ⟨rfl, hb4⟩
  have HB4 := Lib.hid (HB3.out.trans (hb4.mono HB3.out.size))
  have hbl : ((blen Q : Nat) : Int) ≤ 32000 := by
    obtain ⟨⟨l, h1, h2, h3, h4, h5⟩, h6⟩ := HQ.out
    have := val_lt h2
    rw [W_pow, h4, h1] at this
    have := blen_le this
    omega
  have hwr : IntKind.i64.wrap ((IntKind.i64.wrap (((blen Q : Nat) : Int) + 7)).tdiv 8) = ((nbytes Q : Nat) : Int) := by
    have hnb : ((blen Q : Int) + 7) / 8 = ((nbytes Q : Nat) : Int) := by unfold nbytes; omega
    rw [i64_small (((blen Q : Nat) : Int) + 7) (by omega) (by omega), Int.tdiv_eq_ediv_of_nonneg (by omega), hnb, i64_small _ (by omega) (by omega)]
  have hnb : ((blen Q : Int) + 7) / 8 = ((nbytes Q : Nat) : Int) := by unfold nbytes; omega
  clear hb4
  go_wp2_with fail
  go_ret
  exact ⟨(by simp [hnb]), HB4.out⟩

set_option maxRecDepth 100000 in
set_option maxHeartbeats 2000000 in
theorem ssize_any (g P Q G H sz : Nat) (w : World) (hg : GroupAt w g P Q G H sz) (hQ : nbytes Q ≤ 120) :
    Calls Try.prog 113 #[.pointer (some ⟨g, 0, none⟩)] w fun e w' => e = .returned (.int .i64 (2 * (nbytes Q : Nat) : Int)) ∧ Below w.heap.size w w' := by
  have HG := Lib.hid hg
  obtain ⟨b, hb⟩ : ∃ b, nbytes Q = b := ⟨_, rfl⟩
  rw [hb] at hQ
  have HBQ := Lib.hid hb
  clear hg hb
  go_enter Try.func113, Try.ntmps113
  go_wp2_with fail
  refine (swidth_any g P Q G H sz w HG.out).mono ?_
  rw [HBQ.out]
  rintro e w2 ⟨rfl, hb2⟩
  have HB2 := Lib.hid hb2
  have hw2 : IntKind.i64.wrap (2 * (b : Int)) = 2 * (b : Int) := i64_small _ (by omega) (by omega)
  clear hb2
  go_wp2_with fail
  go_ret
  exact ⟨by rw [HBQ.out]; rfl, HB2.out⟩

set_option maxRecDepth 100000 in
set_option maxHeartbeats 2000000 in
theorem dbelow_any (g P Q G H sz : Nat) (sa : Option Addr) (sl sc x : Nat) (ra : Option Addr) (rl rc y : Nat) (w : World) (hg : GroupAt w g P Q G H sz) (hs : NatS w sa sl x) (hr : NatS w ra rl y) :
    Calls Try.prog 112 #[.pointer (some ⟨g, 0, none⟩), .agg #[.slice sa sl sc, .slice ra rl rc]] w fun e w' => e = .returned (.bool (decide (x < Q ∧ y < Q))) ∧ Below w.heap.size w w' := by
  have hbA := (Below.refl _ w).alloc (Nat.le_refl _) (Obj.cells #[Value.slice sa sl sc, Value.slice ra rl rc] 90)
  have hB1 : Blk (w.alloc (Obj.cells #[Value.slice sa sl sc, Value.slice ra rl rc] 90)) w.heap.size 90 [.slice sa sl sc, .slice ra rl rc] := Blk.new w _ _
  have HG := Lib.hid (hg.below hbA)
  have HS := Lib.hid (hs.below hbA)
  have HR := Lib.hid (hr.below hbA)
  have HB := Lib.hid hbA
  clear hg hs hr hbA
  go_enter Try.func112, Try.ntmps112
  go_wp2_with fail
  generalize w.alloc (Obj.cells #[Value.slice sa sl sc, Value.slice ra rl rc] 90) = w1 at hB1 HG HS HR HB ⊢
  have g0 : ∀ w', BB w1 w' → w'.cell? ⟨w.heap.size, 0, none⟩ = some (.slice sa sl sc) := fun w' hb => (BB.cell hb hB1.lt).trans (hB1.cell 0)
  have g1 : ∀ w', BB w1 w' → w'.cell? ⟨w.heap.size, 1, none⟩ = some (.slice ra rl rc) := fun w' hb => (BB.cell hb hB1.lt).trans (hB1.cell 1)
  clear hB1
  refine (gfield_any g P Q G H sz w1 HG.out).mono ?_
  rintro e w2 ⟨r, rfl, hq, hb2⟩
  have HQ2 := Lib.hid hq
  have hbb2 : BB w1 w2 := hb2
  clear hq hb2
  go_wp2_with fail
  refine (modulus_any r Q w2 HQ2.out).mono ?_
  rintro e w3 ⟨qa, ql, qc, rfl, hq, hb3⟩
  have HQ3 := Lib.hid hq
  have hbb3 : BB w1 w3 := BB.step hbb2 hb3
  have hbA := (Below.refl _ w3).alloc (Nat.le_refl _) (Obj.cells #[Value.slice qa ql qc] 33)
  obtain ⟨q, hqs⟩ : ∃ q, q = w3.heap.size := ⟨_, rfl⟩
  have hBq : Blk (w3.alloc (Obj.cells #[Value.slice qa ql qc] 33)) q 33 [.slice qa ql qc] := Blk.new' w3 _ _ q hqs
  obtain ⟨w4, hw4⟩ : ∃ w4, w3.alloc (Obj.cells #[Value.slice qa ql qc] 33) = w4 := ⟨_, rfl⟩
  rw [hw4] at hbA hBq
  have hbb4 : BB w1 w4 := BB.step hbb3 hbA
  have HQ4 := Lib.hid (hq.below hbA)
  have gq : ∀ w', BB w4 w' → w'.cell? ⟨q, 0, none⟩ = some (.slice qa ql qc) := fun w' hb => (BB.cell hb hBq.lt).trans (hBq.cell 0)
  have c0 := g0 w4 hbb4
  have cq := gq w4 (BB.refl _)
  have hqs2 := hqs.symm
  clear hq hb3 HQ2 hbA hBq HQ3 hqs
  go_wp2_with fail
  refine (cmp_s sa qa sl sc ql qc x Q w4 (HS.out.below hbb4) HQ4.out).mono ?_
  rintro e w5 ⟨rfl, hb5⟩
  have hbb5 : BB w1 w5 := BB.step hbb4 hb5
  have c1 := g1 w5 hbb5
  have cq5 := gq w5 hb5
  have HQ5 := Lib.hid (HQ4.out.below hb5)
  have HR5 := Lib.hid (HR.out.below hbb5)
  have HB5 := Lib.hid (HB.out.trans (Below.mono hbb5 HB.out.size))
  clear g0 g1 gq hb5 c0 cq hbb5 HQ4 HS HR HB
  by_cases h1 : x < Q
  · have d1 : decide (cmpNat x Q < 0) = true := decide_eq_true ((cmp_neg_iff x Q).2 h1)
    go_wp2_with fail
    refine (cmp_s ra qa rl rc ql qc y Q w5 HR5.out HQ5.out).mono ?_
    rintro e w6 ⟨rfl, hb6⟩
    have HB6 := Lib.hid (HB5.out.trans (hb6.mono HB5.out.size))
    have HD : Hid (decide (cmpNat y Q < 0) = decide (x < Q ∧ y < Q)) := decide_eq_decide.2 ⟨fun h => ⟨h1, (cmp_neg_iff y Q).1 h⟩, fun h => (cmp_neg_iff y Q).2 h.2⟩
    clear hb6
    go_wp2_with fail
    go_ret
    exact ⟨by rw [← HD.out]; rfl, HB6.out⟩
  · have d1 : decide (cmpNat x Q < 0) = false := decide_eq_false fun h => h1 ((cmp_neg_iff x Q).1 h)
    have HD : Hid (decide (x < Q ∧ y < Q) = false) := decide_eq_false fun h => h1 h.1
    clear h1
    go_wp2_with fail
    go_ret
    exact ⟨by rw [HD.out]; rfl, HB5.out⟩
end Go.Proofs.Ythefednendgclaa
