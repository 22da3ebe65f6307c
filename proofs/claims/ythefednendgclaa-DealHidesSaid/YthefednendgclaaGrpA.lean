import Derived.Test.YthefednendgclaaNats
import Derived.Test.YthefednendgclaaModExp
import Derived.StillTailTactics
import Derived.Deep.QuietTactic
import Derived.BigQuiet
set_option linter.unusedVariables false
set_option linter.unusedSimpArgs false
/-
  Groups: Field, P, G, H, Mul, Exp of one that is there.
-/
namespace Go.Proofs.Ythefednendgclaa
open Go Go.RowKit Sac

/-- The block g is a group: its numbers P, Q, G, H, and its size. -/
def GroupAt (w : World) (g P Q G H sz : Nat) : Prop := ∃ (rp rq : Nat) (ga : Option Addr) (gl gc : Nat) (ha : Option Addr) (hl hc : Nat),
  Blk w g 128 [.pointer (some ⟨rp, 0, none⟩), .pointer (some ⟨rq, 0, none⟩), .slice ga gl gc, .slice ha hl hc, .int .i64 (sz : Int)] ∧ RingAt w rp P ∧ RingAt w rq Q ∧ NatS w ga gl G ∧ NatS w ha hl H
theorem GroupAt.below {w w' : World} {g P Q G H sz : Nat} (h : GroupAt w g P Q G H sz) (hb : Below w.heap.size w w') : GroupAt w' g P Q G H sz := by
  obtain ⟨rp, rq, ga, gl, gc, ha, hl, hc, hB, h1, h2, h3, h4⟩ := h
  exact ⟨rp, rq, ga, gl, gc, ha, hl, hc, hB.below hb hB.lt, h1.below hb, h2.below hb, h3.below hb, h4.below hb⟩
theorem GroupAt.lt {w : World} {g P Q G H sz : Nat} (h : GroupAt w g P Q G H sz) : g < w.heap.size := by
  obtain ⟨rp, rq, ga, gl, gc, ha, hl, hc, hB, _⟩ := h; exact hB.lt
theorem GroupAt.kt {B : Nat} {T : TypeId} {w w' : World} {g P Q G H sz : Nat} (hT : 130 ≠ T) (hR : 137 ≠ T) (hG : 128 ≠ T) (h : GroupAt w g P Q G H sz) (k : KT B T w w') : GroupAt w' g P Q G H sz := by
  obtain ⟨rp, rq, ga, gl, gc, ha, hl, hc, hB, h1, h2, h3, h4⟩ := h
  exact ⟨rp, rq, ga, gl, gc, ha, hl, hc, k.blk hG hB, h1.kt hT hR k, h2.kt hT hR k, h3.kt hT k, h4.kt hT k⟩
theorem groupAt_stays {B : Nat} {T : TypeId} {g P Q G H sz : Nat} (hT : 130 ≠ T) (hR : 137 ≠ T) (hG : 128 ≠ T) : Stays B T (fun w => GroupAt w g P Q G H sz) := fun _ _ k h => h.kt hT hR hG k

set_option maxRecDepth 100000 in
set_option maxHeartbeats 1000000 in
theorem gfield_any (g P Q G H sz : Nat) (w : World) (h : GroupAt w g P Q G H sz) :
    Calls Try.prog 18 #[.pointer (some ⟨g, 0, none⟩)] w fun e w' => ∃ r, e = .returned (.pointer (some ⟨r, 0, none⟩)) ∧ RingAt w' r Q ∧ Below w.heap.size w w' := by
  obtain ⟨rp, rq, ga, gl, gc, ha, hl, hc, hB, hP, hQ, hG, hH⟩ := h
  have HQ := Lib.hid hQ
  have c1 := hB.cell 1
  simp only [List.getElem?_cons_succ, List.getElem?_cons_zero] at c1
  clear hB hP hQ hG hH
  go_enter Try.func18, Try.ntmps18
  go_wp2_with fail
  go_ret
  exact ⟨rq, rfl, HQ.out, Below.refl _ _⟩

set_option maxRecDepth 100000 in
set_option maxHeartbeats 1000000 in
theorem gg_any (g P Q G H sz : Nat) (w : World) (h : GroupAt w g P Q G H sz) :
    Calls Try.prog 22 #[.pointer (some ⟨g, 0, none⟩)] w (RetS G w) := by
  obtain ⟨rp, rq, ga, gl, gc, ha, hl, hc, hB, hP, hQ, hG, hH⟩ := h
  have HG := Lib.hid hG
  have c0 := hB.cell 2
  have c0' : ∀ o, (w.alloc o).cell? ⟨g, 2, none⟩ = some (.slice ga gl gc) := fun o => (hB.alloc o).cell 2
  simp only [List.getElem?_cons_succ, List.getElem?_cons_zero] at c0
  clear hB hP hQ hG hH
  go_enter Try.func22, Try.ntmps22
  go_wp2_with fail
  have hb : Below w.heap.size w (w.alloc (Obj.cells #[Value.slice ga gl gc] 33)) := (Below.refl _ w).alloc (Nat.le_refl _) _
  exact ret_nat rfl rfl (Blk.new w _ _) ⟨ga, gl, gc, rfl, HG.out.below hb, hb⟩

set_option maxRecDepth 100000 in
set_option maxHeartbeats 1000000 in
theorem gh_any (g P Q G H sz : Nat) (w : World) (h : GroupAt w g P Q G H sz) :
    Calls Try.prog 76 #[.pointer (some ⟨g, 0, none⟩)] w (RetS H w) := by
  obtain ⟨rp, rq, ga, gl, gc, ha, hl, hc, hB, hP, hQ, hG, hH⟩ := h
  have HH := Lib.hid hH
  have c0 := hB.cell 3
  have c0' : ∀ o, (w.alloc o).cell? ⟨g, 3, none⟩ = some (.slice ha hl hc) := fun o => (hB.alloc o).cell 3
  simp only [List.getElem?_cons_succ, List.getElem?_cons_zero] at c0
  clear hB hP hQ hG hH
  go_enter Try.func76, Try.ntmps76
  go_wp2_with fail
  have hb : Below w.heap.size w (w.alloc (Obj.cells #[Value.slice ha hl hc] 33)) := (Below.refl _ w).alloc (Nat.le_refl _) _
  exact ret_nat rfl rfl (Blk.new w _ _) ⟨ha, hl, hc, rfl, HH.out.below hb, hb⟩

set_option maxRecDepth 100000 in
set_option maxHeartbeats 1000000 in
theorem gp_any (g P Q G H sz : Nat) (w : World) (h : GroupAt w g P Q G H sz) :
    Calls Try.prog 102 #[.pointer (some ⟨g, 0, none⟩)] w (RetS P w) := by
  obtain ⟨rp, rq, ga, gl, gc, ha, hl, hc, hB, hP, hQ, hG, hH⟩ := h
  have HP := Lib.hid hP
  have c0 := hB.cell 0
  have c0' : ∀ o, (w.alloc o).cell? ⟨g, 0, none⟩ = some (.pointer (some ⟨rp, 0, none⟩)) := fun o => (hB.alloc o).cell 0
  simp only [List.getElem?_cons_succ, List.getElem?_cons_zero] at c0
  clear hB hP hQ hG hH
  go_enter Try.func102, Try.ntmps102
  go_wp2_with fail
  have hb : Below w.heap.size w (w.alloc (Obj.cells #[Value.slice none 0 0] 33)) := (Below.refl _ w).alloc (Nat.le_refl _) _
  have HB1 : Hid (Blk (w.alloc (Obj.cells #[Value.slice none 0 0] 33)) w.heap.size 33 [.slice none 0 0]) := Blk.new w _ _
  refine (modulus_any rp P _ (HP.out.below hb)).mono ?_
  rintro e w2 ⟨a, len, cap, rfl, hN, hb2⟩
  have HN := Lib.hid hN
  have HB2 := Lib.hid (HB1.out.below hb2 HB1.out.lt)
  have hbb : Hid (Below w.heap.size w w2) := hb.trans (hb2.mono (by simp))
  clear hN hb2 hb
  have cr := HB2.out.cell 0
  have fr := HB2.out.frozen 0
  simp only [List.getElem?_cons_zero] at cr
  go_wp2_with fail
  exact ret_nat rfl rfl (HB2.out.set 0 _) ⟨a, len, cap, rfl, HN.out.set HB2.out 0 _, hbb.out.setCell (Nat.le_refl _) _⟩
end Go.Proofs.Ythefednendgclaa
/-
  Groups: Mul, Exp of one that is there.
-/
namespace Go.Proofs.Ythefednendgclaa
open Go Go.RowKit Sac

set_option maxRecDepth 100000 in
set_option maxHeartbeats 1000000 in
theorem gmul_any (g P Q G H sz : Nat) (a b : Option Addr) (len cap lenb capb n k : Nat) (w : World) (h : GroupAt w g P Q G H sz) (hn : NatS w a len n) (hk : NatS w b lenb k) :
    Calls Try.prog 87 #[.pointer (some ⟨g, 0, none⟩), .agg #[.slice a len cap], .agg #[.slice b lenb capb]] w (RetS (n * k % P) w) := by
  obtain ⟨rp, rq, ga, gl, gc, ha, hl, hc, hB, hP, hQ, hG, hH⟩ := h
  have HP := Lib.hid hP
  have HN := Lib.hid hn
  have HK := Lib.hid hk
  have HB := Lib.hid hB
  have hl1 := hn.2
  have hl2 := hk.2
  clear hP hQ hG hH hn hk hB
  go_enter Try.func87, Try.ntmps87
  go_wp2_with fail
  obtain ⟨s, hs⟩ : ∃ s, s = w.heap.size := ⟨_, rfl⟩
  have hbx := BX.make w (.slice a len cap) (.slice b lenb capb) (.slice none 0 0)
  generalize (((w.alloc (Obj.cells #[Value.slice a len cap] 33)).alloc (Obj.cells #[Value.slice b lenb capb] 33)).alloc (Obj.cells #[Value.slice none 0 0] 33)) = w1 at hbx ⊢
  rw [← hs] at hbx ⊢
  have HS := Lib.hid hs
  have HX1 := Lib.hid hbx
  have HN1 := Lib.hid (HN.out.below (hs ▸ hbx.1))
  have HK1 := Lib.hid (HK.out.below (hs ▸ hbx.1))
  have HP1 := Lib.hid (HP.out.below (hs ▸ hbx.1))
  have c0 := (HB.out.below (hs ▸ hbx.1) HB.out.lt).cell 0
  have ca := HX1.out.2.1.cell
  have cb := HX1.out.2.2.1.cell
  simp only [List.getElem?_cons_zero] at c0
  clear hbx hs
  go_wp2_with fail
  go_still_tail 6, (by kernel_rfl)
  change wpList _ _ _ _ _ w1.drew
  go_wp2_with fail
  refine (rmul_any rp P a b len cap lenb capb n k w1.drew HP1.out.drew HN1.out.drew HK1.out.drew).mono ?_
  rintro e w2 ⟨sa, sl, sc, rfl, hZ, hb2⟩
  have HX3 := Lib.hid (HX1.out.drew.below hb2)
  have HZ := Lib.hid hZ
  clear hZ hb2 c0 ca cb
  have cr := HX3.out.2.2.2.cell
  have fr := HX3.out.2.2.2.frozen
  go_wp2_with fail
  have hB : Blk w2 (s + 1 + 1) 33 [.slice none 0 0] := HX3.out.2.2.2
  refine ret_nat rfl rfl (hB.set 0 _) (⟨sa, sl, sc, rfl, HZ.out.set hB 0 _, ?_⟩ : RetS (n * k % P) w _ _)
  rw [← HS.out]; exact HX3.out.1.setCell (p := ⟨s + 1 + 1, 0, none⟩) (by show s ≤ s + 1 + 1; omega) _

set_option maxRecDepth 100000 in
set_option maxHeartbeats 1000000 in
theorem gexp_any (g P Q G H sz : Nat) (a b : Option Addr) (len cap lenb capb n k : Nat) (w : World) (h : GroupAt w g P Q G H sz) (hn : NatS w a len n) (hk : NatS w b lenb k) :
    Calls Try.prog 21 #[.pointer (some ⟨g, 0, none⟩), .agg #[.slice a len cap], .agg #[.slice b lenb capb]] w (RetS (n ^ k % P) w) := by
  obtain ⟨rp, rq, ga, gl, gc, ha, hl, hc, hB, hP, hQ, hG, hH⟩ := h
  have HP := Lib.hid hP
  have HN := Lib.hid hn
  have HK := Lib.hid hk
  have HB := Lib.hid hB
  have hl1 := hn.2
  have hl2 := hk.2
  clear hP hQ hG hH hn hk hB
  go_enter Try.func21, Try.ntmps21
  go_wp2_with fail
  obtain ⟨s, hs⟩ : ∃ s, s = w.heap.size := ⟨_, rfl⟩
  have hbx := BX.make w (.slice a len cap) (.slice b lenb capb) (.slice none 0 0)
  generalize (((w.alloc (Obj.cells #[Value.slice a len cap] 33)).alloc (Obj.cells #[Value.slice b lenb capb] 33)).alloc (Obj.cells #[Value.slice none 0 0] 33)) = w1 at hbx ⊢
  rw [← hs] at hbx ⊢
  have HS := Lib.hid hs
  have HX1 := Lib.hid hbx
  have HN1 := Lib.hid (HN.out.below (hs ▸ hbx.1))
  have HK1 := Lib.hid (HK.out.below (hs ▸ hbx.1))
  have HP1 := Lib.hid (HP.out.below (hs ▸ hbx.1))
  have c0 := (HB.out.below (hs ▸ hbx.1) HB.out.lt).cell 0
  have ca := HX1.out.2.1.cell
  have cb := HX1.out.2.2.1.cell
  simp only [List.getElem?_cons_zero] at c0
  clear hbx hs
  go_wp2_with fail
  go_still_tail 6, (by kernel_rfl)
  change wpList _ _ _ _ _ w1.drew
  go_wp2_with fail
  refine (rexp_any rp P a b len cap lenb capb n k w1.drew HP1.out.drew HN1.out.drew HK1.out.drew).mono ?_
  rintro e w2 ⟨sa, sl, sc, rfl, hZ, hb2⟩
  have HX3 := Lib.hid (HX1.out.drew.below hb2)
  have HZ := Lib.hid hZ
  clear hZ hb2 c0 ca cb
  have cr := HX3.out.2.2.2.cell
  have fr := HX3.out.2.2.2.frozen
  go_wp2_with fail
  have hB : Blk w2 (s + 1 + 1) 33 [.slice none 0 0] := HX3.out.2.2.2
  refine ret_nat rfl rfl (hB.set 0 _) (⟨sa, sl, sc, rfl, HZ.out.set hB 0 _, ?_⟩ : RetS (n ^ k % P) w _ _)
  rw [← HS.out]; exact HX3.out.1.setCell (p := ⟨s + 1 + 1, 0, none⟩) (by show s ≤ s + 1 + 1; omega) _
end Go.Proofs.Ythefednendgclaa
