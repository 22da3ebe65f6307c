/-
  wire.EncodeVote: whether a vote may be written.
-/
import Derived.Test.YtilhdelijdkjpaaVNu
import Derived.Test.YtilhdelijdkjpaaVH
set_option linter.unusedVariables false
set_option linter.unusedSimpArgs false
namespace Go.Proofs.Ytilhdelijdkjpaa
open Go Go.RowKit Go.Maps Sac

/-- A vote's numbers are numbers. -/
structure VtWf (v : Vt) : Prop where
  kind : IntKind.i64.wrap v.kind = v.kind
  frm : IntKind.i64.wrap v.frm = v.frm
  slot : IntKind.i64.wrap v.slot = v.slot
  view : IntKind.i64.wrap v.view = v.view
  valid : IntKind.i64.wrap v.valid = v.valid

set_option maxRecDepth 100000 in
set_option maxHeartbeats 2000000 in
theorem text_any (base B : Nat) (bs : Bs) (bad : Bool) (t : Value) (cs : Bs) (w : World) (h : WAt w base B bs bad) (hB : base ≤ B) (hlen : bs.length ≤ 100000) (ht : IBL base w t cs) :
    Calls Try.prog 65 #[.pointer (some ⟨B, 0, none⟩), t, .int .i64 4096] w fun e w' => e = .returned (.tuple #[]) ∧ (∃ bs', WAt w' base B bs' (bad || decide ((4096 : Int) < (cs.length : Int)))) ∧ Below base w w' := by
  obtain ⟨ta, tc, rfl, ht2⟩ := id ht.1
  obtain ⟨n, hn⟩ : ∃ n, cs.length = n := ⟨_, rfl⟩
  have hsz : base ≤ w.heap.size := by obtain ⟨v, hb, _⟩ := h; exact Nat.le_trans hB (Nat.le_of_lt hb.lt)
  have HSZ := Lib.hid hsz
  rw [hn] at ht ⊢
  have HN := Lib.hid hn
  have HT := Lib.hid ht
  by_cases hv : (4096 : Int) < n
  · have hvb : decide ((4096 : Int) < n) = true := decide_eq_true hv
    obtain ⟨v, hb, hbuf⟩ := h
    have c1 := hb.cell 1
    have f1 := hb.frozen 1
    simp only [List.getElem?_cons_zero, List.getElem?_cons_succ] at c1
    have HB := Lib.hid hb
    have HBU := Lib.hid hbuf
    clear hb hbuf ht ht2 hn hsz
    go_enter Try.func65, Try.ntmps65
    go_wp2_with fail
    refine bodyPost_ret (results_none rfl _ _ _) rfl ?_
    refine ⟨rfl, ⟨bs, v, ?_, HBU.out.same fun k hk => ?_⟩, (Below.refl _ w).setCell (p := ⟨B, 1, none⟩) hB _⟩
    · have := HB.out.set 1 (.bool true)
      rw [hvb, Bool.or_true]
      exact this
    · exact (Only.setCell (F := (· = B)) (Only.refl _ w) (p := ⟨B, 1, none⟩) (fun _ => rfl) _).block k (HBU.out.lt hk).2.1 ((HBU.out.lt hk).2.2.ne HB.out (by decide))
  · have hvb : decide ((4096 : Int) < n) = false := decide_eq_false hv
    have hnum := num_any base B bs bad (n : Int) 0 4096 2 w h hB (by omega) (by omega) (by rw [IntKind.wrap_i64]; omega)
    rw [show decide ((n : Int) < 0) = false from decide_eq_false (by omega), hvb, Bool.or_false, Bool.or_false] at hnum
    rw [hvb, Bool.or_false]
    have HNUM : Hid (Calls Try.prog 64 #[.pointer (some ⟨B, 0, none⟩), .int .i64 (n : Int), .int .i64 0, .int .i64 4096, .int .i64 2] w _) := hnum
    clear hnum h ht ht2 hn hsz
    go_enter Try.func65, Try.ntmps65
    go_wp2_with fail
    refine HNUM.out.mono ?_
    rintro e w2 ⟨rfl, bs2, hl2, ⟨v2, hb2, hbuf2⟩, hbe2⟩
    have HB2 := Lib.hid hb2
    have HBU2 := Lib.hid hbuf2
    have HBE2 := Lib.hid hbe2
    have HL2 := Lib.hid hl2
    have c0 := hb2.cell 0
    have f0 := hb2.frozen 0
    simp only [List.getElem?_cons_zero, List.getElem?_cons_succ] at c0
    obtain ⟨xa, xn, xc, rfl⟩ := RB.form hbuf2.rb
    have HT2 := Lib.hid (HT.out.below hbe2).1
    clear hb2 hbuf2 hbe2 hl2
    go_wp2_with (first | (refine wpList_append_in _ rfl (.tmp 22) (.tmp 23) rfl base _ bs2 rfl HBU2.out _ cs rfl HT2.out (by have := HL2.out; have := HN.out; omega) (Nat.le_trans HSZ.out HBE2.out.size) ?_; intro v' w' hbuf hgr hown; obtain ⟨ya, yn, yc, rfl⟩ := RB.form hbuf.rb; have HBF := Lib.hid hbuf; have HGR := Lib.hid hgr; have hbk := HB2.out.same (hgr.block B HB2.out.lt (fun e => ((HBU2.out.lt e.symm).2.2.ne HB2.out (by decide)) rfl)); have c5 := hbk.cell 0; have f5 := hbk.frozen 0; simp only [List.getElem?_cons_zero] at c5; have HK := Lib.hid hbk; clear hbuf hgr hown hbk))
    go_end0
    have hO := (Only.setCell (F := (· = B)) (Only.refl _ w') (p := ⟨B, 0, none⟩) (fun _ => rfl) (.slice ya yn yc))
    exact ⟨rfl, ⟨_, _, HK.out.set 0 _, HBF.out.same fun k hk => hO.block k (HBF.out.lt hk).2.1 ((HBF.out.lt hk).2.2.ne HK.out (by decide))⟩, (HBE2.out.trans (below_grown (Below.refl base w2) HGR.out (fun k hk => (HBU2.out.lt hk).1) (Nat.le_trans HSZ.out HBE2.out.size))).setCell (p := ⟨B, 0, none⟩) hB _⟩

theorem num_at (base B : Nat) (bs : Bs) (bad : Bool) (n least most sz : Int) (size : Nat) (hz : sz = (size : Int)) (g : Bool) (hg : (bad || decide (n < least) || decide (most < n)) = g) (w : World) (h : WAt w base B bs bad) (hB : base ≤ B) (hs : 1 ≤ size ∧ size ≤ 4) (hlen : bs.length ≤ 10000) (hn : IntKind.i64.wrap n = n) :
    Calls Try.prog 64 #[.pointer (some ⟨B, 0, none⟩), .int .i64 n, .int .i64 least, .int .i64 most, .int .i64 sz] w fun e w' => e = .returned (.tuple #[]) ∧ ∃ bs', bs'.length = bs.length + size ∧ WAt w' base B bs' g ∧ Below base w w' := by
  subst hz
  subst hg
  exact num_any base B bs bad n least most size w h hB hs (by omega) hn

set_option maxRecDepth 100000 in
set_option maxHeartbeats 4000000 in
theorem encodeVote_any (v : Vt) (s : Value) (w : World) (hwf : VtWf v) (hs : IB w s v.value) :
    Calls Try.prog 24 #[voteV v.kind v s] w fun e w' => (∃ x, e = .returned (.tuple #[x, .int .i64 (if encOk v then 0 else 3)])) ∧ Below w.heap.size w w' := by
  obtain ⟨sa, sn, sc, rfl⟩ := IB.form hs
  obtain ⟨N0, hN0⟩ : ∃ N0, w.heap.size = N0 := ⟨_, rfl⟩
  obtain ⟨W1, hW1⟩ : ∃ W1, w.alloc (.cells #[.int .i64 v.kind, .int .i64 v.frm, .int .i64 v.slot, .int .i64 v.view, .int .i64 v.valid, .slice sa sn sc] 31) = W1 := ⟨_, rfl⟩
  have hB1 : Below w.heap.size w W1 := by rw [← hW1]; exact (Below.refl _ w).alloc (Nat.le_refl _) _
  have hs1 : W1.heap.size = N0 + 1 := by rw [← hW1, ← hN0]; simp
  have hbx : Blk W1 N0 31 [.int .i64 v.kind, .int .i64 v.frm, .int .i64 v.slot, .int .i64 v.view, .int .i64 v.valid, .slice sa sn sc] := by rw [← hW1, ← hN0]; exact Blk.new w _ _
  have HS : Hid (IBL (N0 + 1) W1 (.slice sa sn sc) v.value) := by
    have := (hs.below hB1).low
    rw [hs1] at this; exact this
  -- the writer
  obtain ⟨W2, hW2⟩ : ∃ W2, W1.alloc (.cells #[.int .u8 86] 5) = W2 := ⟨_, rfl⟩
  obtain ⟨W3, hW3⟩ : ∃ W3, W2.alloc (.cells #[.slice (some ⟨N0 + 1, 0, none⟩) 1 1, .bool false] 121) = W3 := ⟨_, rfl⟩
  have hs2 : W2.heap.size = N0 + 2 := by rw [← hW2]; simp [hs1]
  have hB2 : Below (N0 + 1) W1 W2 := by rw [← hW2]; exact (Below.refl _ W1).alloc (by omega) _
  have hB3 : Below (N0 + 1) W1 W3 := by rw [← hW3]; exact hB2.alloc (by omega) _
  have hbu2 : Buf W2 (N0 + 1) (.slice (some ⟨N0 + 1, 0, none⟩) 1 1) [86] := by
    refine ⟨fun x hx => by rw [List.mem_singleton.1 hx]; decide, .inr ⟨N0 + 1, 0, 1, [], [], rfl, Nat.le_refl _, ?_, rfl, ⟨Nat.le_refl _, Nat.le_refl _⟩, by decide⟩⟩
    rw [← hW2, ← hs1]
    exact Blk.new W1 [.int .u8 86] _
  have hwb : Blk W3 (N0 + 2) 121 [.slice (some ⟨N0 + 1, 0, none⟩) 1 1, .bool false] := by rw [← hW3, ← hs2]; exact Blk.new W2 _ _
  have HWA : Hid (WAt W3 (N0 + 1) (N0 + 2) [86] false) := ⟨_, hwb, hbu2.same fun k hk => by rw [← hW3]; exact Below.heap_alloc _ _ _ (hbu2.lt hk).2.1⟩
  have HBX := Lib.hid (hbx.below hB3 (by omega))
  have HS3 := Lib.hid (HS.out.below hB3)
  have HB3 : Hid (Below N0 w W3) := (hN0 ▸ hB1).trans (hB3.mono (by omega))
  have p0 := HBX.out.cell 0
  simp only [List.getElem?_cons_zero, List.getElem?_cons_succ] at p0
  obtain ⟨g1, hg1⟩ : ∃ g, (false || decide (v.kind < 1) || decide (5 < v.kind)) = g := ⟨_, rfl⟩
  obtain ⟨g2, hg2⟩ : ∃ g, (g1 || decide (v.frm < 1) || decide (64 < v.frm)) = g := ⟨_, rfl⟩
  obtain ⟨g3, hg3⟩ : ∃ g, (g2 || decide (v.slot < 0) || decide (256 < v.slot)) = g := ⟨_, rfl⟩
  obtain ⟨g4, hg4⟩ : ∃ g, (g3 || decide (v.view < 0) || decide (1048576 < v.view)) = g := ⟨_, rfl⟩
  obtain ⟨g5, hg5⟩ : ∃ g, (g4 || decide (v.valid + 1 < 0) || decide (1048577 < v.valid + 1)) = g := ⟨_, rfl⟩
  obtain ⟨g6, hg6⟩ : ∃ g, (g5 || decide ((4096 : Int) < (v.value.length : Int))) = g := ⟨_, rfl⟩
  have HG1 := Lib.hid hg1
  have HG2 := Lib.hid hg2
  have HG3 := Lib.hid hg3
  have HG4 := Lib.hid hg4
  have HG5 := Lib.hid hg5
  have HG6 := Lib.hid hg6
  have HWF := Lib.hid hwf
  have HN0 := Lib.hid hN0
  obtain ⟨r, hr⟩ : ∃ r : Int, (if encOk v then 0 else 3) = r := ⟨_, rfl⟩
  rw [hr]
  have HR := Lib.hid hr
  clear hr
  clear hg1 hg2 hg3 hg4 hg5 hg6 hwf hs hB1 hbx hB2 hB3 hbu2 hwb
  go_enter Try.func24, Try.ntmps24
  go_wp2_with fail
  refine (num_at (N0 + 1) (N0 + 2) [86] false v.kind 1 5 1 1 rfl g1 HG1.out _ HWA.out (by omega) (by omega) (by decide) HWF.out.kind).mono ?_
  rintro e w4 ⟨rfl, bs4, hl4, hwa4, hbe4⟩
  have HWA4 := Lib.hid hwa4
  have hbx4 := HBX.out.below hbe4 (by omega)
  have HS4 := Lib.hid (HS3.out.below hbe4)
  have HB4 : Hid (Below N0 w w4) := HB3.out.trans (hbe4.mono (by omega))
  have HL4 := Lib.hid hl4
  have p1 := hbx4.cell 1
  have p90 := hbx4.cell 2
  simp only [List.getElem?_cons_zero, List.getElem?_cons_succ] at p1 p90
  have HBX4 := Lib.hid hbx4
  clear hwa4 hbx4 hbe4 hl4
  go_wp2_with fail
  refine (num_at (N0 + 1) (N0 + 2) bs4 g1 v.frm 1 64 1 1 rfl g2 HG2.out _ HWA4.out (by omega) (by omega) (by have := HL4.out; simp only [List.length_cons, List.length_nil] at *; omega) HWF.out.frm).mono ?_
  rintro e w5 ⟨rfl, bs5, hl5, hwa5, hbe5⟩
  have HWA5 := Lib.hid hwa5
  have hbx5 := HBX4.out.below hbe5 (by omega)
  have HS5 := Lib.hid (HS4.out.below hbe5)
  have HB5 : Hid (Below N0 w w5) := HB4.out.trans (hbe5.mono (by omega))
  have HL5 := Lib.hid hl5
  have p2 := hbx5.cell 2
  have p91 := hbx5.cell 3
  simp only [List.getElem?_cons_zero, List.getElem?_cons_succ] at p2 p91
  have HBX5 := Lib.hid hbx5
  clear hwa5 hbx5 hbe5 hl5
  go_wp2_with fail
  refine (num_at (N0 + 1) (N0 + 2) bs5 g2 v.slot 0 256 4 4 rfl g3 HG3.out _ HWA5.out (by omega) (by omega) (by have := HL4.out; have := HL5.out; simp only [List.length_cons, List.length_nil] at *; omega) HWF.out.slot).mono ?_
  rintro e w6 ⟨rfl, bs6, hl6, hwa6, hbe6⟩
  have HWA6 := Lib.hid hwa6
  have hbx6 := HBX5.out.below hbe6 (by omega)
  have HS6 := Lib.hid (HS5.out.below hbe6)
  have HB6 : Hid (Below N0 w w6) := HB5.out.trans (hbe6.mono (by omega))
  have HL6 := Lib.hid hl6
  have p3 := hbx6.cell 3
  have p92 := hbx6.cell 4
  simp only [List.getElem?_cons_zero, List.getElem?_cons_succ] at p3 p92
  have HBX6 := Lib.hid hbx6
  clear hwa6 hbx6 hbe6 hl6
  go_wp2_with fail
  refine (num_at (N0 + 1) (N0 + 2) bs6 g3 v.view 0 1048576 4 4 rfl g4 HG4.out _ HWA6.out (by omega) (by omega) (by have := HL4.out; have := HL5.out; have := HL6.out; simp only [List.length_cons, List.length_nil] at *; omega) HWF.out.view).mono ?_
  rintro e w7 ⟨rfl, bs7, hl7, hwa7, hbe7⟩
  have HWA7 := Lib.hid hwa7
  have hbx7 := HBX6.out.below hbe7 (by omega)
  have HS7 := Lib.hid (HS6.out.below hbe7)
  have HB7 : Hid (Below N0 w w7) := HB6.out.trans (hbe7.mono (by omega))
  have HL7 := Lib.hid hl7
  have p4 := hbx7.cell 4
  have p93 := hbx7.cell 5
  simp only [List.getElem?_cons_zero, List.getElem?_cons_succ] at p4 p93
  have HBX7 := Lib.hid hbx7
  clear hwa7 hbx7 hbe7 hl7
  have hend : encOk v = ((decide (-1 ≤ v.valid ∧ v.valid ≤ 1048576)) && !g6) := by
    have e1 := HG1.out
    have e2 := HG2.out
    have e3 := HG3.out
    have e4 := HG4.out
    have e5 := HG5.out
    have e6 := HG6.out
    subst e1 e2 e3 e4 e5 e6
    unfold encOk
    rw [Bool.eq_iff_iff]
    simp only [Bool.false_or, Bool.and_eq_true, Bool.not_eq_true', Bool.or_eq_false_iff, decide_eq_true_eq, decide_eq_false_iff_not]
    omega
  have HEND := Lib.hid hend
  clear hend
  by_cases hv1 : v.valid < -1
  · have hv2 : decide (v.valid < -1) = true := decide_eq_true hv1
    go_wp2_with fail
    go_ret2
    have he : encOk v = false := by
      rw [HEND.out, decide_eq_false (by omega)]
      rfl
    have hr2 : r = _ := HR.out.symm.trans (by rw [he]; rfl : (if encOk v then 0 else 3) = (3 : Int))
    subst hr2
    exact ⟨⟨.slice none 0 0, rfl⟩, HN0.out ▸ HB7.out⟩
  · have hv2 : decide (v.valid < -1) = false := decide_eq_false hv1
    by_cases hv3 : 1048576 < v.valid
    · have hv4 : decide (1048576 < v.valid) = true := decide_eq_true hv3
      go_wp2_with fail
      go_ret2
      have he : encOk v = false := by
        rw [HEND.out, decide_eq_false (by omega)]
        rfl
      have hr2 : r = _ := HR.out.symm.trans (by rw [he]; rfl : (if encOk v then 0 else 3) = (3 : Int))
      subst hr2
      exact ⟨⟨.slice none 0 0, rfl⟩, HN0.out ▸ HB7.out⟩
    · have hv4 : decide (1048576 < v.valid) = false := decide_eq_false hv3
      have hw1 : IntKind.i64.wrap (v.valid + 1) = v.valid + 1 := by rw [IntKind.wrap_i64]; omega
      go_wp2_with fail
      refine (num_at (N0 + 1) (N0 + 2) bs7 g4 (v.valid + 1) 0 1048577 4 4 rfl g5 HG5.out _ HWA7.out (by omega) (by omega) (by have := HL4.out; have := HL5.out; have := HL6.out; have := HL7.out; simp only [List.length_cons, List.length_nil] at *; omega) hw1).mono ?_
      rintro e w8 ⟨rfl, bs8, hl8, hwa8, hbe8⟩
      have HWA8 := Lib.hid hwa8
      have hbx8 := HBX7.out.below hbe8 (by omega)
      have HS8 := Lib.hid (HS7.out.below hbe8)
      have HB8 : Hid (Below N0 w w8) := HB7.out.trans (hbe8.mono (by omega))
      have HL8 := Lib.hid hl8
      have q5 := hbx8.cell 5
      simp only [List.getElem?_cons_zero, List.getElem?_cons_succ] at q5
      clear hwa8 hbx8 hbe8 hl8
      go_wp2_with fail
      have htx := text_any (N0 + 1) (N0 + 2) bs8 g5 (.slice sa sn sc) v.value w8 HWA8.out (by omega) (by have := HL4.out; have := HL5.out; have := HL6.out; have := HL7.out; have := HL8.out; simp only [List.length_cons, List.length_nil] at *; omega) HS8.out
      rw [HG6.out] at htx
      refine htx.mono ?_
      rintro e w9 ⟨rfl, ⟨bs9, x9, hb9, hbuf9⟩, hbe9⟩
      have c0 := hb9.cell 0
      have c1 := hb9.cell 1
      simp only [List.getElem?_cons_zero, List.getElem?_cons_succ] at c0 c1
      obtain ⟨xa, xn, xc, rfl⟩ := RB.form hbuf9.rb
      have HB9 : Hid (Below N0 w w9) := HB8.out.trans (hbe9.mono (by omega))
      clear hb9 hbuf9 hbe9 htx
      cases g6
      case false =>
        go_wp2_with fail
        go_ret2
        have he : encOk v = true := by
          rw [HEND.out, decide_eq_true (show -1 ≤ v.valid ∧ v.valid ≤ 1048576 by omega)]
          rfl
        have hr2 : r = _ := HR.out.symm.trans (by rw [he]; rfl : (if encOk v then 0 else 3) = (0 : Int))
        subst hr2
        exact ⟨⟨.slice xa xn xc, rfl⟩, HN0.out ▸ HB9.out⟩
      case true =>
        go_wp2_with fail
        go_ret2
        have he : encOk v = false := by
          rw [HEND.out, decide_eq_true (show -1 ≤ v.valid ∧ v.valid ≤ 1048576 by omega)]
          rfl
        have hr2 : r = _ := HR.out.symm.trans (by rw [he]; rfl : (if encOk v then 0 else 3) = (3 : Int))
        subst hr2
        exact ⟨⟨.slice none 0 0, rfl⟩, HN0.out ▸ HB9.out⟩
end Go.Proofs.Ytilhdelijdkjpaa
