/-
  law14.pieces: the pieces of a dealing, as they are told.
-/
import Derived.Test.YthefednendgclaaGreatPcs
import Derived.Test.YthefednendgclaaGreatDealT
import Derived.Test.YthefednendgclaaGreatModAdd
set_option linter.unusedVariables false
set_option linter.unusedSimpArgs false
namespace Go.Proofs.YthefednendgclaaGreat
open Go Go.RowKit Sac NT

/-- A row of what is told that can be read: the peers, and by how much. -/
def TRowAt (w : World) (a : Option Addr) (n : Nat) (tp : Nat → Int) (tb : Nat → Nat) : Prop := ∀ i, i < n → ∃ ad, a = some ad ∧ w.cell? (ad.add (i * 2)) = some (.int .i64 (tp i)) ∧ w.cell? ⟨(ad.add (i * 2)).block, (ad.add (i * 2)).off + 1, none⟩ = some (.int .u64 (tb i : Int))
theorem TRowAt.below {w w' : World} {a : Option Addr} {n : Nat} {tp : Nat → Int} {tb : Nat → Nat} (h : TRowAt w a n tp tb) (hb : Below w.heap.size w w') : TRowAt w' a n tp tb := fun i hi => by
  obtain ⟨ad, e, h1, h2⟩ := h i hi
  exact ⟨ad, e, (BB.cell hb (World.block_lt_of_cell? _ _ h1)).trans h1, (BB.cell hb (World.block_lt_of_cell? _ _ h2)).trans h2⟩
theorem add_one (x : Addr) : x.add 1 = ⟨x.block, x.off + 1, none⟩ := by unfold Addr.add; simp
/-- A share, of whatever peer. -/
def shV (Q : Nat) (V : List Nat) (n : Int) : Nat := if 1 ≤ n ∧ n ≤ 64 then evalm Q V (n.toNat % Q) else 0
def ShareAny (x y : Nat) (w : World) (e : Ending) (w' : World) : Prop := ∃ (a : Option Addr) (l c : Nat) (a' : Option Addr) (l' c' : Nat) (er : Int), e = .returned (.tuple #[.agg #[.slice a l c, .slice a' l' c'], .int .i64 er]) ∧ NatS w' a l x ∧ NatS w' a' l' y ∧ Below w.heap.size w w'
theorem dshare_all (g P Q G H sz : Nat) (va : Option Addr) (vl vc : Nat) (V : List Nat) (ma : Option Addr) (ml mc : Nat) (M : List Nat) (n : Int) (w : World) (hg : GroupAt w g P Q G H sz) (h : NatsAt w va V) (hl : V.length = vl) (hc : (vl : Int) ≤ 10000) (h' : NatsAt w ma M) (hl' : M.length = ml) (hc' : (ml : Int) ≤ 10000) :
    Calls Tryz.prog 26 #[.agg #[.slice va vl vc, .slice ma ml mc], .pointer (some ⟨g, 0, none⟩), .int .i64 n] w (ShareAny (shV Q V n) (shV Q M n) w) := by
  by_cases hn : 1 ≤ n ∧ n ≤ 64
  · obtain ⟨m, rfl⟩ : ∃ m : Nat, n = (m : Int) := ⟨n.toNat, by omega⟩
    refine (dshare_any g P Q G H sz va vl vc V ma ml mc M m w hg (by omega) (by omega) h hl hc h' hl' hc').mono ?_
    rintro e w' ⟨a, l, c, a', l', c', rfl, h1, h2, hb⟩
    refine ⟨a, l, c, a', l', c', 0, rfl, ?_, ?_, hb⟩
    · unfold shV; rw [if_pos hn, Int.toNat_natCast]; exact h1
    · unfold shV; rw [if_pos hn, Int.toNat_natCast]; exact h2
  · refine (dshare_none g va vl vc ma ml mc n w hn).mono ?_
    rintro e w' ⟨rfl, hb⟩
    refine ⟨none, 0, 0, none, 0, 0, 1, rfl, ?_, ?_, hb⟩
    · unfold shV; rw [if_neg hn]; exact natS_nil _
    · unfold shV; rw [if_neg hn]; exact natS_nil _
/-- Behind the store of a share's value. -/
def SAt (w : World) (SB TB Z R0 : Nat) (a2 : Option Addr) (l2 c2 : Nat) (tp : Int) (by1 : Nat) (wr : World) : Prop := ∃ (za : Option Addr) (zl zc : Nat), Blk w SB 64 [.slice za zl zc, .slice a2 l2 c2] ∧ NatS w za zl Z ∧ NatS w a2 l2 R0 ∧ Blk w TB 61 [.int .i64 tp, .int .u64 (by1 : Int)] ∧ BB wr w
theorem SAt.below {w w' : World} {SB TB Z R0 : Nat} {a2 : Option Addr} {l2 c2 : Nat} {tp : Int} {by1 : Nat} {wr : World} (h : SAt w SB TB Z R0 a2 l2 c2 tp by1 wr) (hb : Below w.heap.size w w') : SAt w' SB TB Z R0 a2 l2 c2 tp by1 wr := by
  obtain ⟨za, zl, zc, h1, h2, h3, h4, h5⟩ := h
  exact ⟨za, zl, zc, h1.below hb h1.lt, h2.below hb, h3.below hb, h4.below hb h4.lt, BB.step h5 hb⟩
def IsSR (Q : Nat) (v : Value) (w : World) : Prop := ∃ r, v = .pointer (some ⟨r, 0, none⟩) ∧ RingAt w r Q
section
variable {B0 : Nat}
def Fk.sr (Q : Nat) : Fk (KT B0 64) := ⟨IsSR Q, fun _ _ _ hb ⟨r, e, h⟩ => ⟨r, e, h.below hb⟩, true, fun _ _ _ _ k ⟨r, e, h⟩ => ⟨r, e, h.kt (by decide) (by decide) k⟩⟩
def Fk.sn (n : Nat) : Fk (KT B0 64) := ⟨IsNat n, IsNat.below, true, fun _ _ _ _ k ⟨a, l, c, e, h⟩ => ⟨a, l, c, e, h.kt (by decide) k⟩⟩
end
def RetPcs (n : Nat) (pe : Nat → Int) (X Y : Nat → Nat) (w : World) (e : Ending) (w' : World) : Prop := ∃ v, e = .returned v ∧ PcRow w' w.heap.size v n pe X Y ∧ Below w.heap.size w w'
def dstP6 : List (Option Tmp) := [some 26, some 27, some 28, some 29, some 30, some 31, some 32, some 33, some 34, none]
def preP6 : List (List Nat) := [[], [0], [], [2], [], [4], [0, 1, 4, 5], [0, 1, 2, 3, 4, 5, 6], [0, 1, 2, 3, 4, 5, 6, 7], [0, 1, 2, 3, 4, 5, 6, 7, 8]]
def maskP6 : List Bool := [false, false, false, false, false, false, false, false, false, false, false, false, false, false, false, false, false, false, false, false, false, false, false, false, false, false, true, true, true, true, true, true, true, true, true, false, false, false, false, false, false, false, false, false]

set_option maxRecDepth 100000 in
set_option maxHeartbeats 8000000 in
theorem pieces_any (g P Q G H sz : Nat) (va : Option Addr) (vl vc : Nat) (V : List Nat) (ma : Option Addr) (ml mc : Nat) (M : List Nat) (a : Option Addr) (n cap : Nat) (tp : Nat → Int) (tb : Nat → Nat) (w : World) (hg : GroupAt w g P Q G H sz) (h : NatsAt w va V) (hl : V.length = vl) (hc : (vl : Int) ≤ 10000) (h' : NatsAt w ma M) (hl' : M.length = ml) (hc' : (ml : Int) ≤ 10000)
    (ht : TRowAt w a n tp tb) (hcap : (n : Int) ≤ cap) (hn : (n : Int) ≤ 1000) (htb : ∀ i, i < n → tb i < 18446744073709551616) :
    Calls Tryz.prog 29 #[.pointer (some ⟨g, 0, none⟩), .agg #[.slice va vl vc, .slice ma ml mc], .slice a n cap] w (RetPcs n tp (fun i => (shV Q V (tp i) + tb i) % Q) (fun i => shV Q M (tp i)) w) := by
  obtain ⟨D, hDs⟩ : ∃ D, D = w.heap.size := ⟨_, rfl⟩
  have hbd := (Below.refl _ w).alloc (Nat.le_refl _) (Obj.cells #[Value.slice va vl vc, Value.slice ma ml mc] 56)
  have HBD1 : Hid (Blk (w.alloc (Obj.cells #[Value.slice va vl vc, Value.slice ma ml mc] 56)) D 56 [.slice va vl vc, .slice ma ml mc]) := Blk.new' w _ _ D hDs
  have HG1 := Lib.hid (hg.below hbd)
  have HVM1 := Lib.hid (And.intro (h.below hbd) (h'.below hbd))
  have HT1 := Lib.hid (ht.below hbd)
  have HLV := Lib.hid (And.intro hl hl')
  have HTB := Lib.hid htb
  have HB1 : Hid (Below w.heap.size w (w.alloc (Obj.cells #[Value.slice va vl vc, Value.slice ma ml mc] 56))) := hbd
  have HDs := Lib.hid hDs
  obtain ⟨X, hX⟩ : ∃ X : Nat → Nat, (fun i => (shV Q V (tp i) + tb i) % Q) = X := ⟨_, rfl⟩
  obtain ⟨Y, hY⟩ : ∃ Y : Nat → Nat, (fun i => shV Q M (tp i)) = Y := ⟨_, rfl⟩
  rw [hX, hY]
  have HXY : Hid (∀ i, X i = (shV Q V (tp i) + tb i) % Q ∧ Y i = shV Q M (tp i)) := fun i => ⟨by rw [← hX], by rw [← hY]⟩
  clear hbd hg h h' ht hl hl' htb hDs hX hY
  go_enter Tryz.func29, Tryz.ntmps29
  go_wp2_with fail
  rw [← HDs.out]
  generalize w.alloc (Obj.cells #[Value.slice va vl vc, Value.slice ma ml mc] 56) = w1 at HBD1 HG1 HVM1 HT1 HB1 ⊢
  go_loopw [7, 14] (fun v iv wr => ∃ i : Nat, i ≤ n ∧ iv = .int .i64 (i : Int) ∧ Hid (BB w1 wr) ∧ Hid (PcRow wr w1.heap.size v i tp X Y)) (fun _ iv _ => n - (intOf iv).toNat)
  case atStart => exact ⟨0, Nat.zero_le _, rfl, BB.refl _, PcRow.nil _ _ _ _ _⟩
  case round =>
    obtain ⟨i, hi, rfl, HBR, HOW⟩ := hrel
    obtain ⟨ga, gc, rfl, hgc⟩ := HOW.out.form
    by_cases hlt : (i : Int) < (n : Int)
    · obtain ⟨ad, hae, c0, c1⟩ := (HT1.out.below HBR.out) i (by omega)
      subst hae
      obtain ⟨tp1, htp⟩ : ∃ t, tp i = t := ⟨_, rfl⟩
      obtain ⟨by1, hby⟩ : ∃ t, tb i = t := ⟨_, rfl⟩
      have HBY : Hid (by1 < 18446744073709551616) := by show _ < _; rw [← hby]; exact HTB.out i (by omega)
      have HXI := HXY.out i
      rw [htp, hby] at HXI
      rw [htp] at c0
      rw [hby] at c1
      have HTP := Lib.hid (And.intro htp hby)
      obtain ⟨S0, hS0⟩ : ∃ S0, shV Q V tp1 = S0 := ⟨_, rfl⟩
      obtain ⟨R0, hR0⟩ : ∃ R0, shV Q M tp1 = R0 := ⟨_, rfl⟩
      obtain ⟨Z, hZ⟩ : ∃ Z, (S0 + by1) % Q = Z := ⟨_, rfl⟩
      rw [hS0, hR0, hZ] at HXI
      have HZ := Lib.hid hZ
      have HSR := Lib.hid (And.intro hS0 hR0)
      have HXI := Lib.hid HXI
      obtain ⟨TB, hTB⟩ : ∃ TB, TB = wr.heap.size := ⟨_, rfl⟩
      have hbt := (Below.refl _ wr).alloc (Nat.le_refl _) (Obj.cells #[Value.int .i64 tp1, Value.int .u64 (by1 : Int)] 61)
      have HBT : Hid (Blk (wr.alloc (Obj.cells #[Value.int .i64 tp1, Value.int .u64 (by1 : Int)] 61)) TB 61 [.int .i64 tp1, .int .u64 (by1 : Int)]) := Blk.new' wr _ _ TB hTB
      have HW2 : Hid (BB wr (wr.alloc (Obj.cells #[Value.int .i64 tp1, Value.int .u64 (by1 : Int)] 61))) := hbt
      have HTBs := Lib.hid hTB
      have d0 := (HBD1.out.below (BB.step HBR.out hbt) HBD1.out.lt).cell 0
      have d1 := (HBD1.out.below (BB.step HBR.out hbt) HBD1.out.lt).cell 1
      have t0 := HBT.out.cell 0
      simp only [List.getElem?_cons_zero, List.getElem?_cons_succ] at d0 d1 t0
      clear htp hby hS0 hR0 hZ hbt hTB
      go_wp2_with fail
      rw [← HTBs.out]
      clear c0 c1
      generalize wr.alloc (Obj.cells #[Value.int .i64 tp1, Value.int .u64 (by1 : Int)] 61) = w2 at HBT HW2 d0 d1 t0 ⊢
      clear d0 d1 t0
      have hbb2 : BB w1 w2 := HBR.out.trans (Below.mono HW2.out HBR.out.size)
      refine (dshare_all g P Q G H sz va vl vc V ma ml mc M tp1 w2 (HG1.out.below hbb2) (HVM1.out.1.below hbb2) HLV.out.1 hc (HVM1.out.2.below hbb2) HLV.out.2 hc').mono ?_
      rw [HSR.out.1, HSR.out.2]
      rintro e w3 ⟨a1, l1, c1, a2, l2, c2, er, rfl, hx1, hx2, hb3⟩
      obtain ⟨SB, hSB⟩ : ∃ SB, SB = w3.heap.size := ⟨_, rfl⟩
      have hbx := (Below.refl _ w3).alloc (Nat.le_refl _) (Obj.cells #[Value.slice a1 l1 c1, Value.slice a2 l2 c2] 64)
      have hbb : BB w2 (w3.alloc (Obj.cells #[Value.slice a1 l1 c1, Value.slice a2 l2 c2] 64)) := BB.step hb3 hbx
      have hBS : Blk (w3.alloc (Obj.cells #[Value.slice a1 l1 c1, Value.slice a2 l2 c2] 64)) SB 64 [.slice a1 l1 c1, .slice a2 l2 c2] := Blk.new' w3 _ _ SB hSB
      have HSN := Lib.hid (And.intro (hx1.below hbx) (hx2.below hbx))
      have hBT := HBT.out.below hbb HBT.out.lt
      have HWR := Lib.hid (HW2.out.trans (Below.mono hbb HW2.out.size))
      have HGS := Lib.hid (HG1.out.below (hbb2.trans (Below.mono hbb hbb2.size)))
      have HNE : Hid (TB ≠ SB) := by show _ ≠ _; have := HBT.out.lt; have := hb3.size; omega
      have HSW : Hid (wr.heap.size ≤ SB) := by show _ ≤ _; have := HW2.out.size; have := hb3.size; omega
      have HSBs := Lib.hid hSB
      clear hx1 hx2 hb3 hbx hbb hSB hbb2 HBT HW2 HSR
      go_wp2_with fail
      rw [← HSBs.out]
      generalize w3.alloc (Obj.cells #[Value.slice a1 l1 c1, Value.slice a2 l2 c2] 64) = wS at hBS HSN hBT HWR HGS ⊢
      have gS0 : ∀ w', BB wS w' → w'.cell? ⟨SB, 0, none⟩ = some (.slice a1 l1 c1) := fun w' h => (h.cell hBS.lt).trans (hBS.cell 0)
      have gT1 : ∀ w', BB wS w' → w'.cell? ⟨TB, 1, none⟩ = some (.int .u64 (by1 : Int)) := fun w' h => (h.cell hBT.lt).trans (hBT.cell 1)
      refine wp_region_mix (fun l w' => l 9 = false → BB wS w') (GF (Kp := KT 0 64) [.val (.pointer (some ⟨g, 0, none⟩)), Fk.sr Q, .val (.pointer (some ⟨SB, 0, none⟩)), .val (.agg #[.slice a1 l1 c1]), .val (.pointer (some ⟨TB, 1, none⟩)), .val (.int .u64 (by1 : Int)), Fk.sn by1, Fk.sn Z, .val (.pointer (some ⟨SB, 0, none⟩)), Fk.rel (fun _ w => SAt w SB TB Z R0 a2 l2 c2 tp1 by1 wr) (fun _ _ _ hb h => h.below hb)]) maskP6 dstP6 preP6 (by kernel_rfl) (by kernel_rfl) rfl (by kernel_rfl) (by kernel_rfl) (by kernel_rfl) (by kernel_rfl) (fun _ => BB.drew (BB.refl _)) ?_ ?_
      · refine StepsM.cons (fun l g' wu hB hl hn hp K hK => ?_) ?_
        · simp only [mkM, maskP6, mixM, Nat.reduceAdd] at hK ⊢; simp only [Act.put, List.setIfInBounds_toArray, List.set_cons_zero, List.set_cons_succ] at hK; go_simp; exact hK.out _ _ (fun h => hB (by simpa [setL] using h)) GF.same rfl
        refine StepsM.cons (fun l g' wu hB hl hn hp K hK => ?_) ?_
        · have hbb := hB (hn 9 (by decide)); have e0 : g' 26 = .pointer (some ⟨g, 0, none⟩) := (hp 0 (by decide)).2; simp only [mkM, maskP6, mixM, Nat.reduceAdd, e0] at hK ⊢; clear e0; simp only [Act.put, List.setIfInBounds_toArray, List.set_cons_zero, List.set_cons_succ] at hK; go_simp; go_at_call 12; refine (gfield_any g _ _ _ _ _ wu (HGS.out.below hbb)).mono ?_; rintro e w7 ⟨r, rfl, hr, hb⟩; go_wp2_with fail; exact hK.out _ _ (fun _ => BB.step hbb hb) (GF.below hb) ⟨r, rfl, hr⟩
        refine StepsM.cons (fun l g' wu hB hl hn hp K hK => ?_) ?_
        · simp only [mkM, maskP6, mixM, Nat.reduceAdd] at hK ⊢; simp only [Act.put, List.setIfInBounds_toArray, List.set_cons_zero, List.set_cons_succ] at hK; go_simp; exact hK.out _ _ (fun h => hB (by simpa [setL] using h)) GF.same rfl
        refine StepsM.cons (fun l g' wu hB hl hn hp K hK => ?_) ?_
        · have hbb := hB (hn 9 (by decide)); have c0 := gS0 _ hbb; have e2 : g' 28 = .pointer (some ⟨SB, 0, none⟩) := (hp 2 (by decide)).2; simp only [mkM, maskP6, mixM, Nat.reduceAdd, e2] at hK ⊢; clear e2; simp only [Act.put, List.setIfInBounds_toArray, List.set_cons_zero, List.set_cons_succ] at hK; go_simp; exact hK.out _ _ (fun h => hB (by simpa [setL] using h)) GF.same rfl
        refine StepsM.cons (fun l g' wu hB hl hn hp K hK => ?_) ?_
        · simp only [mkM, maskP6, mixM, Nat.reduceAdd] at hK ⊢; simp only [Act.put, List.setIfInBounds_toArray, List.set_cons_zero, List.set_cons_succ] at hK; go_simp; exact hK.out _ _ (fun h => hB (by simpa [setL] using h)) GF.same rfl
        refine StepsM.cons (fun l g' wu hB hl hn hp K hK => ?_) ?_
        · have hbb := hB (hn 9 (by decide)); have c0 := gT1 _ hbb; have e4 : g' 30 = .pointer (some ⟨TB, 1, none⟩) := (hp 4 (by decide)).2; simp only [mkM, maskP6, mixM, Nat.reduceAdd, e4] at hK ⊢; clear e4; simp only [Act.put, List.setIfInBounds_toArray, List.set_cons_zero, List.set_cons_succ] at hK; go_simp; exact hK.out _ _ (fun h => hB (by simpa [setL] using h)) GF.same rfl
        refine StepsM.cons (fun l g' wu hB hl hn hp K hK => ?_) ?_
        · have hbb := hB (hn 9 (by decide)); have e5 : g' 31 = .int .u64 (by1 : Int) := (hp 5 (by decide)).2; simp only [mkM, maskP6, mixM, Nat.reduceAdd, e5] at hK ⊢; clear e5; simp only [Act.put, List.setIfInBounds_toArray, List.set_cons_zero, List.set_cons_succ] at hK; go_simp; go_at_call 13; refine (new_s by1 wu HBY.out).mono ?_; rintro e w7 ⟨ta, tl, tc, rfl, hx, hb⟩; go_wp2_with fail; exact hK.out _ _ (fun _ => BB.step hbb hb) (GF.below hb) ⟨ta, tl, tc, rfl, hx⟩
        refine StepsM.cons (fun l g' wu hB hl hn hp K hK => ?_) ?_
        · have hbb := hB (hn 9 (by decide)); obtain ⟨r, ez, h1⟩ : IsSR Q (g' 27) wu := (hp 1 (by decide)).2; obtain ⟨x6, k6, m6, ez6, h6⟩ : IsNat by1 (g' 32) wu := (hp 6 (by decide)).2; have e3 : g' 29 = .agg #[.slice a1 l1 c1] := (hp 3 (by decide)).2; simp only [mkM, maskP6, mixM, Nat.reduceAdd, ez, e3, ez6] at hK ⊢; clear e3; simp only [Act.put, List.setIfInBounds_toArray, List.set_cons_zero, List.set_cons_succ] at hK; go_simp; go_at_call 33; refine (radd_any r Q a1 x6 l1 c1 k6 m6 S0 by1 wu h1 (HSN.out.1.below hbb) h6).mono ?_; rw [HZ.out]; rintro e w7 ⟨ta, tl, tc, rfl, hx, hb⟩; go_wp2_with fail; exact hK.out _ _ (fun _ => BB.step hbb hb) (GF.below hb) ⟨ta, tl, tc, rfl, hx⟩
        refine StepsM.cons (fun l g' wu hB hl hn hp K hK => ?_) ?_
        · simp only [mkM, maskP6, mixM, Nat.reduceAdd] at hK ⊢; simp only [Act.put, List.setIfInBounds_toArray, List.set_cons_zero, List.set_cons_succ] at hK; go_simp; exact hK.out _ _ (fun h => hB (by simpa [setL] using h)) GF.same rfl
        refine StepsM.cons (fun l g' wu hB hl hn hp K hK => ?_) ?_
        · have hbb := hB hl; obtain ⟨z1, z2, z3, ez7, h7⟩ : IsNat Z (g' 33) wu := (hp 7 (by decide)).2; have e8 : g' 34 = .pointer (some ⟨SB, 0, none⟩) := (hp 8 (by decide)).2; have HSBu := Lib.hid (hBS.below hbb hBS.lt); have HTBu := Lib.hid (hBT.below hbb hBT.lt); have q0 := HSBu.out.cell 0; have f0 := HSBu.out.frozen 0; simp only [List.getElem?_cons_zero] at q0; have HZ7 := Lib.hid h7; have HR7 := Lib.hid (HSN.out.2.below hbb); have HBU := Lib.hid (HWR.out.trans (Below.mono hbb HWR.out.size)); clear h7; simp only [mkM, maskP6, mixM, Nat.reduceAdd, ez7, e8] at hK ⊢; clear e8; simp only [Act.put, List.setIfInBounds_toArray, List.set_cons_zero, List.set_cons_succ] at hK; go_simp; exact hK.out undef _ (fun h => by simp [setL] at h) (GF.kept rfl (KT.set HSBu.out (Nat.zero_le _) 0 _)) ⟨z1, z2, z3, HSBu.out.set 0 _, HZ7.out.set HSBu.out 0 _, HR7.out.set HSBu.out 0 _, HTBu.out.other ⟨SB, 0, none⟩ _ HNE.out, HBU.out.setCell (p := ⟨SB, 0, none⟩) HSW.out _⟩
        exact StepsM.nil
      · intro l gz wz hall hB hG
        have h9 : SAt wz SB TB Z R0 a2 l2 c2 tp1 by1 wr := hG 9 (by decide)
        have HH := Lib.hid h9
        simp only [mkM, maskP6, mixM, Nat.reduceAdd]
        clear hG hall hB h9
        clear gS0 gT1 hBS hBT HSN HWR HGS HNE HSW
        obtain ⟨za, zl, zc, hs1, hs2, hs3, hs4, hs5⟩ := HH.out
        have t0 := hs4.cell 0
        have s0 := hs1.cell 0
        have s1 := hs1.cell 1
        simp only [List.getElem?_cons_zero, List.getElem?_cons_succ] at t0 s0 s1
        have hbl := (Below.refl _ wz).alloc (Nat.le_refl _) (Obj.cells #[Value.int .i64 tp1, Value.slice za zl zc, Value.slice a2 l2 c2] 77)
        have HRW := Lib.hid ((HOW.out.below hs5).below hbl)
        have HPN : Hid (PcN (wz.alloc (Obj.cells #[Value.int .i64 tp1, Value.slice za zl zc, Value.slice a2 l2 c2] 77)) ⟨tp1, za, zl, zc, a2, l2, c2⟩ (tp i) (X i) (Y i)) := ⟨HTP.out.1.symm, by rw [HXI.out.1]; exact hs2.below hbl, by rw [HXI.out.2]; exact hs3.below hbl⟩
        have HBL : Hid (BB w1 (wz.alloc (Obj.cells #[Value.int .i64 tp1, Value.slice za zl zc, Value.slice a2 l2 c2] 77))) := HBR.out.trans (Below.mono (BB.step hs5 hbl) HBR.out.size)
        clear hs1 hs2 hs3 hs4 hs5 hbl HH HBR HOW
        go_wp2_with (first | (refine wpList_append_pc _ rfl (.tmp 35) (.tmp 40) rfl w1.heap.size (.slice ga i gc) i tp X Y rfl HRW.out wz.heap.size ⟨tp1, za, zl, zc, a2, l2, c2⟩ rfl (Blk.new wz [Value.int .i64 tp1, Value.slice za zl zc, Value.slice a2 l2 c2] 77) HPN.out (by omega) HBL.out.size ?_; intro v9 w9 hown hbl; have HO9 := Lib.hid hown; have HB9 : Hid (BB w1 w9) := HBL.out.trans hbl; clear hown hbl))
        go_roundw
        case rel => exact ⟨i + 1, by omega, by go_num, HB9.out, HO9.out⟩
        case measure => simp [intOf]; omega
    · obtain rfl : n = i := by omega
      go_wp2_with fail
      go_ret
      exact ⟨_, rfl, by
        obtain ⟨lp, h1, h2, h3⟩ := HOW.out
        refine ⟨lp, ?_, h2, h3⟩
        obtain ⟨hx, h0 | ⟨gg, cap', rest, e, hb, hB, hnn, hcc, hll⟩⟩ := own_elim h1
        · exact ⟨hx, .inl ⟨h0.1, h0.2.1⟩⟩
        · rw [e]
          exact own_intro (Nat.le_trans HB1.out.size hb) hB hnn hcc hll hx, HB1.out.trans (Below.mono HBR.out HB1.out.size)⟩
end Go.Proofs.YthefednendgclaaGreat
