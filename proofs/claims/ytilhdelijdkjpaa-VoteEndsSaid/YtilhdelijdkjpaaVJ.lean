/-
  know, of a word that a value is decided.
-/
import Derived.Test.YtilhdelijdkjpaaVH
set_option linter.unusedVariables false
set_option linter.unusedSimpArgs false
namespace Go.Proofs.Ytilhdelijdkjpaa
open Go Go.RowKit Go.Maps Sac

set_option maxRecDepth 100000 in
set_option maxHeartbeats 2000000 in
theorem know_4 {acc : Bs → Bool} {col : Colour} {ci b : Nat} {w : World} {c : Core} (v : Vt) (s : Value) (hk : v.kind = 4) (ht : Tinted col w) (h : CoreAt acc col ci w b c) (hok : CoreOk c) (hv : VtIn v) (hs : IB w s v.value) :
    Calls Try.prog 60 #[.pointer (some ⟨b, 0, none⟩), voteV 4 v s] w (StepPost acc (know c v) col ci b w) := by
  obtain ⟨fv, wi, lo, va, pb, pp, cm, tn, sn, dc, h⟩ := h
  obtain ⟨sa, sl, sc, rfl⟩ := IB.form hs
  obtain ⟨B, hBB⟩ : ∃ B, w.heap.size = B := ⟨_, rfl⟩
  obtain ⟨W1, hW1⟩ : ∃ W1, w.alloc (.cells #[.int .i64 4, .int .i64 v.frm, .int .i64 v.slot, .int .i64 v.view, .int .i64 v.valid, .slice sa sl sc] 31) = W1 := ⟨_, rfl⟩
  have hB1 : Below w.heap.size w W1 := by rw [← hW1]; exact (Below.refl _ w).alloc (Nat.le_refl _) _
  have hbx : Blk W1 B 31 [.int .i64 4, .int .i64 v.frm, .int .i64 v.slot, .int .i64 v.view, .int .i64 v.valid, .slice sa sl sc] := by rw [← hW1, ← hBB]; exact Blk.new w _ _
  have p0 := hbx.cell 0
  have p1 := hbx.cell 1
  have p5 := hbx.cell 5
  simp only [List.getElem?_cons_zero, List.getElem?_cons_succ] at p0 p1 p5
  have ht1 := ht.below hB1
  have hc1 : CoreRaw acc col ci W1 b c fv wi lo va pb pp cm tn sn dc := h.ext (G := fun _ => False) (Ext.below ht hB1) ht (fun _ h => h)
  have hbd : Below W1.heap.size W1 W1.drew := (Below.refl _ W1).drew
  have htd := ht1.below hbd
  have hcd : CoreRaw acc col ci W1.drew b c fv wi lo va pb pp cm tn sn dc := hc1.ext (G := fun _ => False) (Ext.below ht1 hbd) ht1 (fun _ h => h)
  have hB1d : Below w.heap.size w W1.drew := hB1.drew
  have dN := hc1.hblk.cell 12
  simp only [List.getElem?_cons_zero, List.getElem?_cons_succ] at dN
  have hw : (Lit.int .i64 v.frm).wf = true := wf64_mk (by have := hv.frm; omega) (by have := hv.frm; omega)
  obtain ⟨hcol, lm, hm, hr⟩ := id hcd.hdc
  have hlook : ∃ y, (Instr.lookup 108 (.map (some dc)) (.int .i64 v.frm) true).run Try.prog W1.drew = .ok (.tuple #[y, .bool (lookM c.deciders v.frm).isSome]) W1.drew := by
    have l2 := hm.lookTwo Try.underlying3 Try.underlying108 (Try.zeroValue29 W1.drew) hw
    rcases hr.lookM v.frm with ⟨h1, h2⟩ | ⟨x, y, h1, h2, h3⟩
    · rw [h1] at l2; rw [h2]; exact ⟨_, l2⟩
    · rw [h1] at l2; rw [h2]; exact ⟨_, l2⟩
  obtain ⟨y, hlk⟩ := hlook
  have hln : lm.length < maxLen := by
    have := srt_length (hr.srt hm.srt) hok.inn.deciders (by omega)
    rw [hr.length]
    unfold maxLen
    omega
  have HLN := Lib.hid hln
  have HWF := Lib.hid hw
  have HV := Lib.hid hv
  have HOK := Lib.hid hok
  have HT := Lib.hid ht
  have HT1 := Lib.hid ht1
  have HC1 := Lib.hid hc1
  have HB1 := Lib.hid hB1
  have HB1D := Lib.hid hB1d
  have HW1 := Lib.hid hW1
  have HBB := Lib.hid hBB
  have HBX := Lib.hid hbx
  have HS := Lib.hid (hs.below hB1)
  clear ht h hok hv hs hbx ht1 hc1 hbd htd hcd hB1 hB1d hln hm hr hcol hw
  cases hl : lookM c.deciders v.frm with
  | some t =>
    rw [hl] at hlk
    have hkn : know c v = none := by unfold know; rw [hk, hl]; rfl
    rw [hkn]
    clear hkn hk hl
    simp only [Option.isSome_some] at hlk
    go_enter Try.func60, Try.ntmps60
    go_wp2_with fail
    go_region
    all_goals
      go_wp2_with fail
      go_ret
      exact ⟨rfl, HB1D.out⟩
  | none =>
    rw [hl] at hlk
    have hkn : know c v = some { c with deciders := putM v.frm v.value c.deciders } := by unfold know; rw [hk, hl]; rfl
    rw [hkn]
    clear hkn hk hl
    simp only [Option.isSome_none] at hlk
    go_enter Try.func60, Try.ntmps60
    go_wp2_with fail
    go_cut [7, 8] from 84 to 93 (fun t7 t8 wx => t8 = .bool false ∧ Hid (Below W1.heap.size W1 wx))
    case first =>
      go_region
      all_goals
        go_wp2_with fail
        go_meet
        exact ⟨rfl, (Below.refl _ W1).drew⟩
    case rest =>
      obtain ⟨rfl, HX⟩ := hcut
      have ht2 := HT1.out.below HX.out
      have hc2 : CoreRaw acc col ci wc b c fv wi lo va pb pp cm tn sn dc := HC1.out.ext (G := fun _ => False) (Ext.below HT1.out HX.out) HT1.out (fun _ h => h)
      have hb2 := HBX.out.below HX.out HBX.out.lt
      have q0 := hb2.cell 0
      have q1 := hb2.cell 1
      have q5 := hb2.cell 5
      have q12 := hc2.hblk.cell 12
      simp only [List.getElem?_cons_zero, List.getElem?_cons_succ] at q0 q1 q5 q12
      have hs2 := HS.out.below HX.out
      have hcl := clone_in (.slice sa sl sc) v.value wc.drew (show IB wc.drew _ _ from hs2) (by have := HV.out.len; omega)
      have HCL := Lib.hid hcl
      have HT2 := Lib.hid ht2
      have HC2 := Lib.hid hc2
      have HB2 := Lib.hid hb2
      clear ht2 hc2 hb2 hs2 hcl p0 p1 p5 dN hlk
      go_wp2_with fail
      rename_i Kc hKc
      go_region_law (first
        | (go_simp; go_at_call 62; refine HCL.out.mono ?_; rintro e w7 ⟨v7, rfl, hbuf, hb0⟩; obtain ⟨ya, yn, yc, rfl⟩ := RB.form hbuf.rb; have hb7 : Below wc.heap.size wc w7 := (Below.refl _ wc).drew.trans hb0; clear hb0; have hc7 : CoreRaw acc col ci w7 b c fv wi lo va pb pp cm tn sn dc := HC2.out.ext (G := fun _ => False) (Ext.below HT2.out hb7) HT2.out (fun _ h => h); obtain ⟨hcol, l7, hm, hr⟩ := id hc7.hdc; have hl7 : l7.length < maxLen := (by have := srt_length (hr.srt hm.srt) HOK.out.inn.deciders (by omega); rw [hr.length]; unfold maxLen; omega); obtain ⟨w8, hrun, hput, hg8⟩ := hm.put Try.underlying3 Try.underlying108 (x := v.frm) hl7 HWF.out (.slice ya yn yc); have f1 : w7.cell? ⟨B, 1, none⟩ = some (.int .i64 v.frm) := (HB2.out.below hb7 HB2.out.lt).cell 1; have f12 : w7.cell? ⟨b, 12, none⟩ = some (.map (some dc)) := hc7.hblk.cell 12; have HH := Lib.hid (And.intro hbuf (And.intro hb7 (And.intro hput hg8))); have HM7 := Lib.hid (And.intro hm (And.intro hr hcol)); clear hbuf hb7 hput hg8 hm hr hcol hc7 hl7)
        | fail)
      all_goals
        refine hKc _ _ ?_
        go_wp2_with fail
        go_ret
        obtain ⟨hbuf, hb7, hput, hg8⟩ := HH.out
        obtain ⟨hm, hr, hcol⟩ := HM7.out
        have hE := Ext.put HT2.out hcol hb7 hg8 ⟨_, hput⟩
        refine ⟨rfl, col, ((Ext.below HT.out (HB1.out.trans (HX.out.mono HB1.out.size))).trans (hE.mono (fun q e => by rw [e]))), _, _, _, _, _, _, _, _, _, _, HC2.out.part6 hE HT2.out ⟨hcol, _, hput, ?_⟩⟩
        exact (hr.mono (fun v y h => h.map hg8 hm)).put v.frm (hbuf.rb.map hg8 hm)

end Go.Proofs.Ytilhdelijdkjpaa
