import Derived.Test.YthefednendgclaaGreatNats
import Derived.Test.YthefednendgclaaGreatModExp
import Derived.Test.YthefednendgclaaGreatNGE
import Derived.Test.YthefednendgclaaGreatCertB
import Derived.StillTailTactics
import Derived.Deep.QuietTactic
import Derived.BigQuiet
set_option linter.unusedVariables false
set_option linter.unusedSimpArgs false
/-
  Groups: Field, P, G, H, Mul, Exp of one that is there.
-/
namespace Go.Proofs.YthefednendgclaaGreat
open Go Go.RowKit Sac

/-- The block g is a group: its numbers P, Q, G, H, and its size. -/
def GroupAt (w : World) (g P Q G H sz : Nat) : Prop := ∃ (rp rq : Nat) (ga : Option Addr) (gl gc : Nat) (ha : Option Addr) (hl hc : Nat),
  Blk w g 104 [.pointer (some ⟨rp, 0, none⟩), .pointer (some ⟨rq, 0, none⟩), .slice ga gl gc, .slice ha hl hc, .int .i64 (sz : Int)] ∧ RingAt w rp P ∧ RingAt w rq Q ∧ NatS w ga gl G ∧ NatS w ha hl H
theorem GroupAt.below {w w' : World} {g P Q G H sz : Nat} (h : GroupAt w g P Q G H sz) (hb : Below w.heap.size w w') : GroupAt w' g P Q G H sz := by
  obtain ⟨rp, rq, ga, gl, gc, ha, hl, hc, hB, h1, h2, h3, h4⟩ := h
  exact ⟨rp, rq, ga, gl, gc, ha, hl, hc, hB.below hb hB.lt, h1.below hb, h2.below hb, h3.below hb, h4.below hb⟩
theorem GroupAt.lt {w : World} {g P Q G H sz : Nat} (h : GroupAt w g P Q G H sz) : g < w.heap.size := by
  obtain ⟨rp, rq, ga, gl, gc, ha, hl, hc, hB, _⟩ := h; exact hB.lt
theorem GroupAt.kt {B : Nat} {T : TypeId} {w w' : World} {g P Q G H sz : Nat} (hT : 106 ≠ T) (hR : 121 ≠ T) (hG : 104 ≠ T) (h : GroupAt w g P Q G H sz) (k : KT B T w w') : GroupAt w' g P Q G H sz := by
  obtain ⟨rp, rq, ga, gl, gc, ha, hl, hc, hB, h1, h2, h3, h4⟩ := h
  exact ⟨rp, rq, ga, gl, gc, ha, hl, hc, k.blk hG hB, h1.kt hT hR k, h2.kt hT hR k, h3.kt hT k, h4.kt hT k⟩
theorem groupAt_stays {B : Nat} {T : TypeId} {g P Q G H sz : Nat} (hT : 106 ≠ T) (hR : 121 ≠ T) (hG : 104 ≠ T) : Stays B T (fun w => GroupAt w g P Q G H sz) := fun _ _ k h => h.kt hT hR hG k

set_option maxRecDepth 100000 in
set_option maxHeartbeats 1000000 in
theorem gfield_any (g P Q G H sz : Nat) (w : World) (h : GroupAt w g P Q G H sz) :
    Calls Tryz.prog 12 #[.pointer (some ⟨g, 0, none⟩)] w fun e w' => ∃ r, e = .returned (.pointer (some ⟨r, 0, none⟩)) ∧ RingAt w' r Q ∧ Below w.heap.size w w' := by
  obtain ⟨rp, rq, ga, gl, gc, ha, hl, hc, hB, hP, hQ, hG, hH⟩ := h
  have HQ := Lib.hid hQ
  have c1 := hB.cell 1
  simp only [List.getElem?_cons_succ, List.getElem?_cons_zero] at c1
  clear hB hP hQ hG hH
  go_enter Tryz.func12, Tryz.ntmps12
  go_wp2_with fail
  go_ret
  exact ⟨rq, rfl, HQ.out, Below.refl _ _⟩

set_option maxRecDepth 100000 in
set_option maxHeartbeats 1000000 in
theorem gg_any (g P Q G H sz : Nat) (w : World) (h : GroupAt w g P Q G H sz) :
    Calls Tryz.prog 45 #[.pointer (some ⟨g, 0, none⟩)] w (RetS G w) := by
  obtain ⟨rp, rq, ga, gl, gc, ha, hl, hc, hB, hP, hQ, hG, hH⟩ := h
  have HG := Lib.hid hG
  have c0 := hB.cell 2
  have c0' : ∀ o, (w.alloc o).cell? ⟨g, 2, none⟩ = some (.slice ga gl gc) := fun o => (hB.alloc o).cell 2
  simp only [List.getElem?_cons_succ, List.getElem?_cons_zero] at c0
  clear hB hP hQ hG hH
  go_enter Tryz.func45, Tryz.ntmps45
  go_wp2_with fail
  have hb : Below w.heap.size w (w.alloc (Obj.cells #[Value.slice ga gl gc] 36)) := (Below.refl _ w).alloc (Nat.le_refl _) _
  exact ret_nat rfl rfl (Blk.new w _ _) ⟨ga, gl, gc, rfl, HG.out.below hb, hb⟩

set_option maxRecDepth 100000 in
set_option maxHeartbeats 1000000 in
theorem gh_any (g P Q G H sz : Nat) (w : World) (h : GroupAt w g P Q G H sz) :
    Calls Tryz.prog 46 #[.pointer (some ⟨g, 0, none⟩)] w (RetS H w) := by
  obtain ⟨rp, rq, ga, gl, gc, ha, hl, hc, hB, hP, hQ, hG, hH⟩ := h
  have HH := Lib.hid hH
  have c0 := hB.cell 3
  have c0' : ∀ o, (w.alloc o).cell? ⟨g, 3, none⟩ = some (.slice ha hl hc) := fun o => (hB.alloc o).cell 3
  simp only [List.getElem?_cons_succ, List.getElem?_cons_zero] at c0
  clear hB hP hQ hG hH
  go_enter Tryz.func46, Tryz.ntmps46
  go_wp2_with fail
  have hb : Below w.heap.size w (w.alloc (Obj.cells #[Value.slice ha hl hc] 36)) := (Below.refl _ w).alloc (Nat.le_refl _) _
  exact ret_nat rfl rfl (Blk.new w _ _) ⟨ha, hl, hc, rfl, HH.out.below hb, hb⟩

set_option maxRecDepth 100000 in
set_option maxHeartbeats 1000000 in
theorem gp_any (g P Q G H sz : Nat) (w : World) (h : GroupAt w g P Q G H sz) :
    Calls Tryz.prog 43 #[.pointer (some ⟨g, 0, none⟩)] w (RetS P w) := by
  obtain ⟨rp, rq, ga, gl, gc, ha, hl, hc, hB, hP, hQ, hG, hH⟩ := h
  have HP := Lib.hid hP
  have c0 := hB.cell 0
  have c0' : ∀ o, (w.alloc o).cell? ⟨g, 0, none⟩ = some (.pointer (some ⟨rp, 0, none⟩)) := fun o => (hB.alloc o).cell 0
  simp only [List.getElem?_cons_succ, List.getElem?_cons_zero] at c0
  clear hB hP hQ hG hH
  go_enter Tryz.func43, Tryz.ntmps43
  go_wp2_with fail
  have hb : Below w.heap.size w (w.alloc (Obj.cells #[Value.slice none 0 0] 36)) := (Below.refl _ w).alloc (Nat.le_refl _) _
  have HB1 : Hid (Blk (w.alloc (Obj.cells #[Value.slice none 0 0] 36)) w.heap.size 36 [.slice none 0 0]) := Blk.new w _ _
  refine (modulus_any rp P _ (HP.out.below hb)).mono ?_
  rintro e w2 ⟨a, len, cap, rfl, hN, hb2⟩
  have HN := Lib.hid hN
  have HB2 := Lib.hid (HB1.out.below hb2 HB1.out.lt)
  have hbb : Hid (Below w.heap.size w w2) := hb.trans (hb2.mono (by simp))
  clear hN hb2 hb
  have cr := HB2.out.cell 0
  have fr := HB2.out.frozen 0
  simp only [List.getElem?_cons_zero] at cr
  go_wp2_with fail
  exact ret_nat rfl rfl (HB2.out.set 0 _) ⟨a, len, cap, rfl, HN.out.set HB2.out 0 _, hbb.out.setCell (Nat.le_refl _) _⟩
end Go.Proofs.YthefednendgclaaGreat
/-
  Groups: Mul, Exp of one that is there.
-/
namespace Go.Proofs.YthefednendgclaaGreat
open Go Go.RowKit Sac

set_option maxRecDepth 100000 in
set_option maxHeartbeats 1000000 in
theorem gmul_any (g P Q G H sz : Nat) (a b : Option Addr) (len cap lenb capb n k : Nat) (w : World) (h : GroupAt w g P Q G H sz) (hn : NatS w a len n) (hk : NatS w b lenb k) :
    Calls Tryz.prog 52 #[.pointer (some ⟨g, 0, none⟩), .agg #[.slice a len cap], .agg #[.slice b lenb capb]] w (RetS (n * k % P) w) := by
  obtain ⟨rp, rq, ga, gl, gc, ha, hl, hc, hB, hP, hQ, hG, hH⟩ := h
  have HP := Lib.hid hP
  have HN := Lib.hid hn
  have HK := Lib.hid hk
  have HB := Lib.hid hB
  have hl1 := hn.2
  have hl2 := hk.2
  clear hP hQ hG hH hn hk hB
  go_enter Tryz.func52, Tryz.ntmps52
  go_wp2_with fail
  obtain ⟨s, hs⟩ : ∃ s, s = w.heap.size := ⟨_, rfl⟩
  have hbx := BX.make w (.slice a len cap) (.slice b lenb capb) (.slice none 0 0)
  generalize (((w.alloc (Obj.cells #[Value.slice a len cap] 36)).alloc (Obj.cells #[Value.slice b lenb capb] 36)).alloc (Obj.cells #[Value.slice none 0 0] 36)) = w1 at hbx ⊢
  rw [← hs] at hbx ⊢
  have HS := Lib.hid hs
  have HX1 := Lib.hid hbx
  have HN1 := Lib.hid (HN.out.below (hs ▸ hbx.1))
  have HK1 := Lib.hid (HK.out.below (hs ▸ hbx.1))
  have HP1 := Lib.hid (HP.out.below (hs ▸ hbx.1))
  have c0 := (HB.out.below (hs ▸ hbx.1) HB.out.lt).cell 0
  have ca := HX1.out.2.1.cell
  have cb := HX1.out.2.2.1.cell
  simp only [List.getElem?_cons_zero] at c0
  clear hbx hs
  go_wp2_with fail
  go_still_tail 6, (by kernel_rfl)
  change wpList _ _ _ _ _ w1.drew
  go_wp2_with fail
  refine (rmul_any rp P a b len cap lenb capb n k w1.drew HP1.out.drew HN1.out.drew HK1.out.drew).mono ?_
  rintro e w2 ⟨sa, sl, sc, rfl, hZ, hb2⟩
  have HX3 := Lib.hid (HX1.out.drew.below hb2)
  have HZ := Lib.hid hZ
  clear hZ hb2 c0 ca cb
  have cr := HX3.out.2.2.2.cell
  have fr := HX3.out.2.2.2.frozen
  go_wp2_with fail
  have hB : Blk w2 (s + 1 + 1) 36 [.slice none 0 0] := HX3.out.2.2.2
  refine ret_nat rfl rfl (hB.set 0 _) (⟨sa, sl, sc, rfl, HZ.out.set hB 0 _, ?_⟩ : RetS (n * k % P) w _ _)
  rw [← HS.out]; exact HX3.out.1.setCell (p := ⟨s + 1 + 1, 0, none⟩) (by show s ≤ s + 1 + 1; omega) _

set_option maxRecDepth 100000 in
set_option maxHeartbeats 1000000 in
theorem gexp_any (g P Q G H sz : Nat) (a b : Option Addr) (len cap lenb capb n k : Nat) (w : World) (h : GroupAt w g P Q G H sz) (hn : NatS w a len n) (hk : NatS w b lenb k) :
    Calls Tryz.prog 51 #[.pointer (some ⟨g, 0, none⟩), .agg #[.slice a len cap], .agg #[.slice b lenb capb]] w (RetS (n ^ k % P) w) := by
  obtain ⟨rp, rq, ga, gl, gc, ha, hl, hc, hB, hP, hQ, hG, hH⟩ := h
  have HP := Lib.hid hP
  have HN := Lib.hid hn
  have HK := Lib.hid hk
  have HB := Lib.hid hB
  have hl1 := hn.2
  have hl2 := hk.2
  clear hP hQ hG hH hn hk hB
  go_enter Tryz.func51, Tryz.ntmps51
  go_wp2_with fail
  obtain ⟨s, hs⟩ : ∃ s, s = w.heap.size := ⟨_, rfl⟩
  have hbx := BX.make w (.slice a len cap) (.slice b lenb capb) (.slice none 0 0)
  generalize (((w.alloc (Obj.cells #[Value.slice a len cap] 36)).alloc (Obj.cells #[Value.slice b lenb capb] 36)).alloc (Obj.cells #[Value.slice none 0 0] 36)) = w1 at hbx ⊢
  rw [← hs] at hbx ⊢
  have HS := Lib.hid hs
  have HX1 := Lib.hid hbx
  have HN1 := Lib.hid (HN.out.below (hs ▸ hbx.1))
  have HK1 := Lib.hid (HK.out.below (hs ▸ hbx.1))
  have HP1 := Lib.hid (HP.out.below (hs ▸ hbx.1))
  have c0 := (HB.out.below (hs ▸ hbx.1) HB.out.lt).cell 0
  have ca := HX1.out.2.1.cell
  have cb := HX1.out.2.2.1.cell
  simp only [List.getElem?_cons_zero] at c0
  clear hbx hs
  go_wp2_with fail
  go_still_tail 6, (by kernel_rfl)
  change wpList _ _ _ _ _ w1.drew
  go_wp2_with fail
  refine (rexp_any rp P a b len cap lenb capb n k w1.drew HP1.out.drew HN1.out.drew HK1.out.drew).mono ?_
  rintro e w2 ⟨sa, sl, sc, rfl, hZ, hb2⟩
  have HX3 := Lib.hid (HX1.out.drew.below hb2)
  have HZ := Lib.hid hZ
  clear hZ hb2 c0 ca cb
  have cr := HX3.out.2.2.2.cell
  have fr := HX3.out.2.2.2.frozen
  go_wp2_with fail
  have hB : Blk w2 (s + 1 + 1) 36 [.slice none 0 0] := HX3.out.2.2.2
  refine ret_nat rfl rfl (hB.set 0 _) (⟨sa, sl, sc, rfl, HZ.out.set hB 0 _, ?_⟩ : RetS (n ^ k % P) w _ _)
  rw [← HS.out]; exact HX3.out.1.setCell (p := ⟨s + 1 + 1, 0, none⟩) (by show s ≤ s + 1 + 1; omega) _
end Go.Proofs.YthefednendgclaaGreat
/-
  Groups: Member of one that is there; long.
-/
namespace Go.Proofs.YthefednendgclaaGreat
open Go Go.RowKit Sac

set_option maxRecDepth 100000 in
set_option maxHeartbeats 1000000 in
theorem glong_no (a : Option Addr) (len cap n : Nat) (w : World) (h : NatS w a len n) (hs : n < 2 ^ 250) :
    Calls Tryz.prog 84 #[.agg #[.slice a len cap]] w fun e w' => e = .returned (.bool false) ∧ Below w.heap.size w w' := by
  have HN := Lib.hid h
  have hl := h.2
  have hbl : blen n ≤ 250 := blen_le hs
  have hbl' : ((blen n : Nat) : Int) ≤ 250 := by omega
  have e1 : (decide ((1024 : Int) < ((blen n : Nat) : Int))) = false := by simp; omega
  clear h hs hbl
  go_enter Tryz.func84, Tryz.ntmps84
  go_wp2_with fail
  have hb0 : Below w.heap.size w (w.alloc (Obj.cells #[Value.slice a len cap] 36)) := (Below.refl _ w).alloc (Nat.le_refl _) _
  refine (bits_any a len cap n _ (HN.out.1.below hb0) (by omega)).mono ?_
  rintro e w1 ⟨rfl, hb1⟩
  have HB := Lib.hid (hb0.trans (hb1.mono hb0.size))
  clear hb0 hb1
  go_wp2_with fail
  go_ret
  exact ⟨rfl, HB.out⟩

theorem cmp_lt {n m : Nat} (h : n < m) : decide (cmpNat n m < 0) = true := by
  rw [decide_eq_true_iff]; unfold cmpNat; rw [if_pos h]; decide
theorem cmp_eq_dec (n m : Nat) : (cmpNat n m == 0) = decide (n = m) := by
  by_cases h : n = m
  · subst h; rw [cmp_self]; simp
  · rw [cmp_ne h]; simp [h]

def IsMember (P Q n : Nat) : Prop := n ≠ 0 ∧ n < P ∧ n ^ Q % P = 1
instance (P Q n : Nat) : Decidable (IsMember P Q n) := by unfold IsMember; exact inferInstance

set_option maxRecDepth 100000 in
set_option maxHeartbeats 4000000 in
theorem gmember_yes (g P Q G H sz : Nat) (a : Option Addr) (len cap n : Nat) (w : World) (h : GroupAt w g P Q G H sz) (hn : NatS w a len n) (hm : IsMember P Q n) :
    Calls Tryz.prog 89 #[.pointer (some ⟨g, 0, none⟩), .agg #[.slice a len cap]] w fun e w' => e = .returned (.bool true) ∧ Below w.heap.size w w' := by
  have hb1 := (Below.refl _ w).alloc (Nat.le_refl _) (Obj.cells #[Value.slice a len cap] 36)
  have hG1 := h.below hb1
  have HG := Lib.hid hG1
  have HN := Lib.hid (hn.below hb1)
  have HB := Lib.hid hb1
  obtain ⟨s, hs⟩ : ∃ s, s = w.heap.size := ⟨_, rfl⟩
  have hbs : Blk (w.alloc (Obj.cells #[Value.slice a len cap] 36)) s 36 [.slice a len cap] := Blk.new' w _ _ s hs
  obtain ⟨rp, rq, ga, gl, gc, ha, hl, hc, hBg, hP, hQ, _, _⟩ := hG1
  have HP := Lib.hid hP
  have HQ := Lib.hid hQ
  have G0 : ∀ w', BB (w.alloc (Obj.cells #[Value.slice a len cap] 36)) w' → w'.cell? ⟨g, 0, none⟩ = some (.pointer (some ⟨rp, 0, none⟩)) := fun w' h => (h.cell hBg.lt).trans (hBg.cell 0)
  have G1 : ∀ w', BB (w.alloc (Obj.cells #[Value.slice a len cap] 36)) w' → w'.cell? ⟨g, 1, none⟩ = some (.pointer (some ⟨rq, 0, none⟩)) := fun w' h => (h.cell hBg.lt).trans (hBg.cell 1)
  have GA : ∀ w', BB (w.alloc (Obj.cells #[Value.slice a len cap] 36)) w' → w'.cell? ⟨s, 0, none⟩ = some (.slice a len cap) := fun w' h => (h.cell hbs.lt).trans (hbs.cell 0)
  clear h hn hb1 hP hQ hBg hbs
  go_enter Tryz.func89, Tryz.ntmps89
  go_wp2_with fail
  rw [← hs]
  have HS := Lib.hid hs
  clear hs
  generalize w.alloc (Obj.cells #[Value.slice a len cap] 36) = w1 at HG HN HB HP HQ G0 G1 GA ⊢
  have hz : (n == 0) = false := by rw [beq_eq_false_iff_ne]; exact hm.1
  have hd := cmp_lt hm.2.1
  have HM1 := Lib.hid hm.2.2
  clear hm
  go_region_held3 (fun w' => BB w1 w') (first | assumption | exact BB.drew (BB.refl _))
        (first
          | (go_at_call 18; refine (zero_s a len cap n w1.drew HN.out.drew).mono ?_; rintro e w2 ⟨rfl, hb2⟩; have hbb2 : BB w1 w2 := BB.step (BB.drew (BB.refl w1)) hb2; clear hb2)
          | (go_at_call 43; refine (gp_any g P Q G H sz w2 (HG.out.below hbb2)).mono ?_; rintro e w3 ⟨pa, pl, pc, rfl, hp, hb3⟩; have hbb3 : BB w1 w3 := BB.step hbb2 hb3; have HP3 := Lib.hid hp; clear hp hb3)
          | (go_at_call 44; refine (modulus_any rq Q w4 (HQ.out.below hbb4)).mono ?_; rintro e w5 ⟨qa, ql, qc, rfl, hq, hb5⟩; have hbb5 : BB w1 w5 := BB.step hbb4 hb5; have HQ5 := Lib.hid hq; clear hq hb5)
          | (go_at_call 92; refine (rexp_any rp P a qa len cap ql qc n Q w5 (HP.out.below hbb5) (HN.out.below hbb5) HQ5.out).mono ?_; rintro e w6 ⟨xa, xl, xc, rfl, hx, hb6⟩; have hbb6 : BB w1 w6 := BB.step hbb5 hb6; have HX6 := Lib.hid hx; clear hx hb6)
          | (go_at_call 13; refine (new_s 1 w6 (by decide)).mono ?_; rintro e w7 ⟨ta, tl, tc, rfl, ht, hb7⟩; have hbb7 : BB w1 w7 := BB.step hbb6 hb7; have HT7 := Lib.hid ht; have HX7 := Lib.hid (HX6.out.below hb7); clear ht hb7)
          | (go_at_call 31; refine (cmp_s xa ta xl xc tl tc _ 1 w7 HX7.out HT7.out).mono ?_; rw [HM1.out, cmp_self]; rintro e w8 ⟨rfl, hb8⟩; have hbb8 : BB w1 w8 := BB.step hbb7 hb8; clear hb8)
          | (go_at_call 31; refine (cmp_s a pa len cap pl pc n P w3 (HN.out.below hbb3) HP3.out).mono ?_; rintro e w4 ⟨rfl, hb4⟩; have hbb4 : BB w1 w4 := BB.step hbb3 hb4; clear hb4))
  go_wp2_with fail
  go_ret
  exact ⟨rfl, HB.out.trans (Below.mono hbb8 HB.out.size)⟩
end Go.Proofs.YthefednendgclaaGreat
