/-
  know, of a proposal; and know, whole.
-/
import Derived.Test.YtilhdelijdkjpaaVJ
set_option linter.unusedVariables false
set_option linter.unusedSimpArgs false
namespace Go.Proofs.Ytilhdelijdkjpaa
open Go Go.RowKit Go.Maps Sac

set_option maxRecDepth 100000 in
set_option maxHeartbeats 2000000 in
theorem know_1 {acc : Bs → Bool} {col : Colour} {ci b : Nat} {w : World} {c : Core} (v : Vt) (s : Value) (hk : v.kind = 1) (ht : Tinted col w) (h : CoreAt acc col ci w b c) (hok : CoreOk c) (hv : VtIn v) (hs : IB w s v.value) :
    Calls Try.prog 60 #[.pointer (some ⟨b, 0, none⟩), voteV 1 v s] w (StepPost acc (know c v) col ci b w) := by
  obtain ⟨fv, wi, lo, va, pb, pp, cm, tn, sn, dc, h⟩ := h
  obtain ⟨sa, sl, sc, rfl⟩ := IB.form hs
  obtain ⟨B, hBB⟩ : ∃ B, w.heap.size = B := ⟨_, rfl⟩
  obtain ⟨W1, hW1⟩ : ∃ W1, w.alloc (.cells #[.int .i64 1, .int .i64 v.frm, .int .i64 v.slot, .int .i64 v.view, .int .i64 v.valid, .slice sa sl sc] 31) = W1 := ⟨_, rfl⟩
  have hB1 : Below w.heap.size w W1 := by rw [← hW1]; exact (Below.refl _ w).alloc (Nat.le_refl _) _
  have hbx : Blk W1 B 31 [.int .i64 1, .int .i64 v.frm, .int .i64 v.slot, .int .i64 v.view, .int .i64 v.valid, .slice sa sl sc] := by rw [← hW1, ← hBB]; exact Blk.new w _ _
  have p0 := hbx.cell 0
  have p1 := hbx.cell 1
  have p3 := hbx.cell 3
  have p4 := hbx.cell 4
  have p5 := hbx.cell 5
  simp only [List.getElem?_cons_zero, List.getElem?_cons_succ] at p0 p1 p3 p4 p5
  have ht1 := ht.below hB1
  have hc1 : CoreRaw acc col ci W1 b c fv wi lo va pb pp cm tn sn dc := h.ext (G := fun _ => False) (Ext.below ht hB1) ht (fun _ h => h)
  have hbd : Below W1.heap.size W1 W1.drew := (Below.refl _ W1).drew
  have htd := ht1.below hbd
  have hcd : CoreRaw acc col ci W1.drew b c fv wi lo va pb pp cm tn sn dc := hc1.ext (G := fun _ => False) (Ext.below ht1 hbd) ht1 (fun _ h => h)
  have hB1d : Below w.heap.size w W1.drew := hB1.drew
  have dN := hc1.hblk.cell 7
  simp only [List.getElem?_cons_zero, List.getElem?_cons_succ] at dN
  have hw : (Lit.int .i64 v.view).wf = true := wf64_mk (by have := hv.view; omega) (by have := hv.view; omega)
  obtain ⟨sa2, sl2, sc2, hlk, _⟩ := hcd.hpb.look (view := v.view) hw
  obtain ⟨tv, htv⟩ : ∃ tv, (lookM c.proposals v.view).isSome = tv := ⟨_, rfl⟩
  obtain ⟨⟨bs, valid⟩, hbv⟩ : ∃ x, (lookM c.proposals v.view).getD ([], 0) = x := ⟨_, rfl⟩
  rw [htv, hbv] at hlk
  dsimp only at hlk
  have hb0 : Below W1.heap.size W1 (W1.alloc (.cells #[.slice none 0 0, .int .i64 0] 116)).drew := ((Below.refl _ W1).alloc (Nat.le_refl _) _).drew
  have e7 := Lib.cell?_alloc_some (.cells #[.slice none 0 0, .int .i64 0] 116) dN
  have e3 := Lib.cell?_alloc_some (.cells #[.slice none 0 0, .int .i64 0] 116) p3
  have hlkd : (Instr.lookup 104 (.map (some pb)) (.int .i64 v.view) true).run Try.prog (W1.alloc (.cells #[.slice none 0 0, .int .i64 0] 116)).drew = .ok (.tuple #[.agg #[.slice sa2 sl2 sc2, .int .i64 valid], .bool tv]) (W1.alloc (.cells #[.slice none 0 0, .int .i64 0] 116)).drew := by
    obtain ⟨hc, l, hm, hr⟩ := hc1.hpb
    have l1 := (hm.same (w' := W1.drew) rfl).lookTwo Try.underlying3 Try.underlying104 (Try.zeroValue116 W1.drew) (x := v.view) hw
    have l2 := (hm.below hb0 hm.lt).lookTwo Try.underlying3 Try.underlying104 (Try.zeroValue116 _) (x := v.view) hw
    rw [hlk] at l1
    have e := congrArg (fun r : Result Value => match r with | .ok v _ => some v | _ => none) l1
    rw [l2]
    simp only [Option.some.injEq] at e
    rw [← e]
  have HWF := Lib.hid hw
  have HV := Lib.hid hv
  have HOK := Lib.hid hok
  have HT := Lib.hid ht
  have HT1 := Lib.hid ht1
  have HC1 := Lib.hid hc1
  have HB1 := Lib.hid hB1
  have HW1 := Lib.hid hW1
  have HBB := Lib.hid hBB
  have HBX := Lib.hid hbx
  have HS := Lib.hid (hs.below hB1)
  have HTV := Lib.hid htv
  have hkn : know c v = if (lookM c.proposals v.view).isSome ∨ v.frm ≠ proposer c v.view then none else some { c with proposals := putM v.view (v.value, v.valid) c.proposals } := by unfold know; rw [if_pos hk]
  have HKN := Lib.hid hkn
  clear ht h hok hv hs hbx ht1 hc1 hbd htd hcd hB1 hB1d hw htv hbv hb0 hkn hk
  go_enter Try.func60, Try.ntmps60
  go_wp2_with fail
  go_cut [5, 6, 13] from 14 to 22 (fun t5 t6 t13 wx => t6 = .bool tv ∧ Hid (Below W1.heap.size W1 wx))
  case first =>
    go_region
    all_goals
      go_wp2_with fail
      go_meet
      exact ⟨rfl, ((Below.refl _ W1).alloc (Nat.le_refl _) _).drew⟩
  case rest =>
    obtain ⟨rfl, HX⟩ := hcut
    have ht2 := HT1.out.below HX.out
    have hc2 : CoreRaw acc col ci wc b c fv wi lo va pb pp cm tn sn dc := HC1.out.ext (G := fun _ => False) (Ext.below HT1.out HX.out) HT1.out (fun _ h => h)
    have hb2 := HBX.out.below HX.out HBX.out.lt
    have q1 := hb2.cell 1
    have q3 := hb2.cell 3
    have d0 := hc2.hblk.cell 0
    have d2 := hc2.hblk.cell 2
    simp only [List.getElem?_cons_zero, List.getElem?_cons_succ] at q1 q3 d0 d2
    have hpr := proposer_raw b c.n c.slot v.view wc.drew d0 d2 HOK.out.inn.n HOK.out.inn.slot ⟨HV.out.view.1, by have := HV.out.view; omega⟩
    obtain ⟨P, hP⟩ : ∃ P, proposer c v.view = P := ⟨_, rfl⟩
    rw [show 1 + (c.slot + v.view) % c.n = P from hP] at hpr
    have HPR := Lib.hid hpr
    have HP := Lib.hid hP
    have HT2 := Lib.hid ht2
    have HC2 := Lib.hid hc2
    have HB2 := Lib.hid hb2
    have HS2 := Lib.hid (HS.out.below HX.out)
    clear ht2 hc2 hb2 hpr hP d0 d2 p0 p1 p3 p4 p5 dN hlk e7 e3 hlkd
    cases tv with
    | true =>
      have hno : know c v = none := by rw [HKN.out, if_pos (.inl HTV.out)]
      have HNO := Lib.hid hno
      clear hno
      go_wp2_with fail
      go_region
      all_goals
        go_wp2_with fail
        go_ret
        show StepPost _ (know c v) _ _ _ _ _ _
        rw [HNO.out]
        exact ⟨rfl, HB1.out.trans ((HX.out.drew).mono HB1.out.size)⟩
    | false =>
      have hbd : Hid (Below wc.heap.size wc wc.drew) := (Below.refl _ wc).drew
      by_cases hPm : v.frm = P
      · have hne : (v.frm != P) = false := by simp [hPm]
        have hyes : know c v = some { c with proposals := putM v.view (v.value, v.valid) c.proposals } := by rw [HKN.out, if_neg (by rintro (h | h); rw [HTV.out] at h; exact absurd h (by decide); exact h (hPm.trans HP.out.symm))]
        have HYES := Lib.hid hyes
        clear hPm hyes
        go_wp2_with fail
        go_region_held3 (fun w' => w'.cell? ⟨B, 1, none⟩ = some (.int .i64 v.frm) ∧ w'.cell? ⟨B, 3, none⟩ = some (.int .i64 v.view) ∧ Hid (Below wc.heap.size wc w')) (first | exact ⟨q1, q3, hbd⟩ | exact ⟨g1, g3, HB5⟩ | assumption)
          (first | (go_at_call 63; refine HPR.out.mono ?_; rintro e w5 ⟨rfl, hb5⟩; have HB5 : Hid (Below wc.heap.size wc w5) := (Below.refl _ wc).drew.trans hb5; have g1 : w5.cell? ⟨B, 1, none⟩ = some (.int .i64 v.frm) := (HB2.out.below HB5.out HB2.out.lt).cell 1; have g3 : w5.cell? ⟨B, 3, none⟩ = some (.int .i64 v.view) := (HB2.out.below HB5.out HB2.out.lt).cell 3; clear hb5))
        have ht5 := HT2.out.below HB5.out
        have hc5 : CoreRaw acc col ci w5 b c fv wi lo va pb pp cm tn sn dc := HC2.out.ext (G := fun _ => False) (Ext.below HT2.out HB5.out) HT2.out (fun _ h => h)
        have hb5 := HB2.out.below HB5.out HB2.out.lt
        have r3 := hb5.cell 3
        have r4 := hb5.cell 4
        have r5 := hb5.cell 5
        have r7 := hc5.hblk.cell 7
        simp only [List.getElem?_cons_zero, List.getElem?_cons_succ] at r3 r4 r5 r7
        have hcl := clone_in (.slice sa sl sc) v.value w5.drew (show IB w5.drew _ _ from HS2.out.below HB5.out.drew) (by have := HV.out.len; omega)
        have HCL := Lib.hid hcl
        have HT5 := Lib.hid ht5
        have HC5 := Lib.hid hc5
        have HBX5 := Lib.hid hb5
        clear ht5 hc5 hb5 hcl q1 q3 g1 g3
        go_wp2_with fail
        rename_i Kc hKc
        go_region_law (first
          | (go_simp; go_at_call 62; refine HCL.out.mono ?_; rintro e w7 ⟨v7, rfl, hbuf, hb0⟩; obtain ⟨ya, yn, yc, rfl⟩ := RB.form hbuf.rb; have hb7 : Below w5.heap.size w5 w7 := (Below.refl _ w5).drew.trans hb0; clear hb0; have hc7 : CoreRaw acc col ci w7 b c fv wi lo va pb pp cm tn sn dc := HC5.out.ext (G := fun _ => False) (Ext.below HT5.out hb7) HT5.out (fun _ h => h); obtain ⟨hcol, lm, hm, hr⟩ := id hc7.hpb; have hln := props_small HOK.out.inn hr hm.srt; obtain ⟨w8, hrun, hput, hg8⟩ := hm.put Try.underlying3 Try.underlying104 (x := v.view) hln HWF.out (.agg #[.slice ya yn yc, .int .i64 v.valid]); have f3 : w7.cell? ⟨B, 3, none⟩ = some (.int .i64 v.view) := (HBX5.out.below hb7 HBX5.out.lt).cell 3; have f4 : w7.cell? ⟨B, 4, none⟩ = some (.int .i64 v.valid) := (HBX5.out.below hb7 HBX5.out.lt).cell 4; have f7 : w7.cell? ⟨b, 7, none⟩ = some (.map (some pb)) := hc7.hblk.cell 7; have HH := Lib.hid (And.intro hbuf (And.intro hb7 (And.intro hput hg8))); have HM7 := Lib.hid (And.intro hm (And.intro hr hcol)); clear hbuf hb7 hput hg8 hm hr hcol hc7 hln)
          | fail)
        all_goals
          refine hKc _ _ ?_
          go_wp2_with fail
          go_ret
          show StepPost _ (know c v) _ _ _ _ _ _
          rw [HYES.out]
          obtain ⟨hbuf, hb7, hput, hg8⟩ := HH.out
          obtain ⟨hm, hr, hcol⟩ := HM7.out
          have hE := Ext.put HT5.out hcol hb7 hg8 ⟨_, hput⟩
          refine ⟨rfl, col, ((Ext.below HT.out (HB1.out.trans ((HX.out.trans (HB5.out.mono HX.out.size)).mono HB1.out.size))).trans (hE.mono (fun q e => by rw [e]))), _, _, _, _, _, _, _, _, _, _, HC5.out.part1 hE HT5.out ⟨hcol, _, hput, ?_⟩⟩
          exact (hr.mono (fun v y ⟨s, e, h⟩ => ⟨s, e, h.map hg8 hm⟩)).put v.view ⟨_, rfl, hbuf.rb.map hg8 hm⟩
      · have hne : (v.frm != P) = true := by simp [hPm]
        have hno : know c v = none := by rw [HKN.out, if_pos (.inr (by rw [HP.out]; exact hPm))]
        have HNO := Lib.hid hno
        clear hPm hno
        go_wp2_with fail
        go_region_held3 (fun w' => w'.cell? ⟨B, 1, none⟩ = some (.int .i64 v.frm) ∧ w'.cell? ⟨B, 3, none⟩ = some (.int .i64 v.view) ∧ Hid (Below wc.heap.size wc w')) (first | exact ⟨q1, q3, hbd⟩ | exact ⟨g1, g3, HB5⟩ | assumption)
          (first | (go_at_call 63; refine HPR.out.mono ?_; rintro e w5 ⟨rfl, hb5⟩; have HB5 : Hid (Below wc.heap.size wc w5) := (Below.refl _ wc).drew.trans hb5; have g1 : w5.cell? ⟨B, 1, none⟩ = some (.int .i64 v.frm) := (HB2.out.below HB5.out HB2.out.lt).cell 1; have g3 : w5.cell? ⟨B, 3, none⟩ = some (.int .i64 v.view) := (HB2.out.below HB5.out HB2.out.lt).cell 3; clear hb5))
        go_wp2_with fail
        go_ret
        show StepPost _ (know c v) _ _ _ _ _ _
        rw [HNO.out]
        exact ⟨rfl, HB1.out.trans ((HX.out.trans (HB5.out.mono HX.out.size)).mono HB1.out.size)⟩

end Go.Proofs.Ytilhdelijdkjpaa
