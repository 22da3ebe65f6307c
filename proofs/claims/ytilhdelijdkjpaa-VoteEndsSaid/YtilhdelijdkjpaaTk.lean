/-
  Take: what a peer told.
-/
import Derived.Test.YtilhdelijdkjpaaEn
import Derived.Test.YtilhdelijdkjpaaVKn
import Derived.Deep.RegionWith
import Derived.StillTailTactics
set_option linter.unusedVariables false
set_option linter.unusedSimpArgs false
namespace Go.Proofs.Ytilhdelijdkjpaa
open Go Go.RowKit Go.Maps Sac

theorem SeenAt.look {col : Colour} {ci p b : Nat} {w : World} {m : List (Int × Int)} (h : SeenAt col ci p w b m) {who : Int} (hv : (Lit.int .i64 who).wf = true) :
    (Instr.lookup 106 (.map (some b)) (.int .i64 who) false).run Try.prog w = .ok (.int .i64 ((lookM m who).getD 0)) w := by
  obtain ⟨hc, l, hm, hr⟩ := h
  have l1 := hm.lookOne Try.underlying3 Try.underlying106 (Try.zeroValue3 w) hv
  rcases hr.lookM who with ⟨h1, h2⟩ | ⟨x, y, h1, h2, rfl, _⟩
  · rw [h1] at l1
    rw [h2]; exact l1
  · rw [h1] at l1
    rw [h2]; exact l1

/-- A core behind a call that says yes or no. -/
def TakePost (acc : Bs → Bool) (r : Core × Bool) (col : Colour) (ci b : Nat) (w : World) (e : Ending) (w' : World) : Prop :=
  e = .returned (.bool r.2) ∧ CoreOk r.1 ∧ ∃ col', Ext (fun q => q.1 = ci) col w col' w' ∧ CoreAt acc col' ci w' b r.1

set_option maxRecDepth 100000 in
set_option maxHeartbeats 4000000 in
theorem take_any {acc : Bs → Bool} {col : Colour} {ci b : Nat} {w : World} {c : Core} (v : Vt) (s : Value) (ht : Tinted col w) (h : CoreAt acc col ci w b c) (hok : CoreOk c) (hwf : VtWf v) (hs : IB w s v.value) :
    Calls Try.prog 18 #[.pointer (some ⟨b, 0, none⟩), voteV v.kind v s] w (TakePost acc (takeC acc c v) col ci b w) := by
  have HCA := Lib.hid h
  obtain ⟨fv, wi, lo, va, pb, pp, cm, tn, sn, dc, h⟩ := h
  obtain ⟨sa, sl, sc, rfl⟩ := IB.form hs
  obtain ⟨B, hBB⟩ : ∃ B, w.heap.size = B := ⟨_, rfl⟩
  obtain ⟨W1, hW1⟩ : ∃ W1, w.alloc (.cells #[.int .i64 v.kind, .int .i64 v.frm, .int .i64 v.slot, .int .i64 v.view, .int .i64 v.valid, .slice sa sl sc] 31) = W1 := ⟨_, rfl⟩
  have hB1 : Below w.heap.size w W1 := by rw [← hW1]; exact (Below.refl _ w).alloc (Nat.le_refl _) _
  have hbx : Blk W1 B 31 [.int .i64 v.kind, .int .i64 v.frm, .int .i64 v.slot, .int .i64 v.view, .int .i64 v.valid, .slice sa sl sc] := by rw [← hW1, ← hBB]; exact Blk.new w _ _
  have p1 := hbx.cell 1
  have p2 := hbx.cell 2
  simp only [List.getElem?_cons_zero, List.getElem?_cons_succ] at p1 p2
  have ht1 := ht.below hB1
  have hc1 : CoreRaw acc col ci W1 b c fv wi lo va pb pp cm tn sn dc := h.ext (G := fun _ => False) (Ext.below ht hB1) ht (fun _ h => h)
  have d0 := hc1.hblk.cell 0
  have d1 := hc1.hblk.cell 1
  have d2 := hc1.hblk.cell 2
  simp only [List.getElem?_cons_zero, List.getElem?_cons_succ] at d0 d1 d2
  obtain ⟨x1, hx1⟩ : ∃ x, (v.slot != c.slot) = x := ⟨_, rfl⟩
  obtain ⟨x2, hx2⟩ : ∃ x, decide (c.n < v.frm) = x := ⟨_, rfl⟩
  obtain ⟨x3, hx3⟩ : ∃ x, (v.frm == c.me) = x := ⟨_, rfl⟩
  have hrefuse : (x1 = true ∨ x2 = true ∨ x3 = true) → takeC acc c v = (c, false) := fun hx => by
    unfold takeC
    rw [if_pos]
    rcases hx with rfl | rfl | rfl
    · exact .inl (by simpa using hx1)
    · exact .inr (.inl (of_decide_eq_true hx2))
    · exact .inr (.inr (.inl (eq_of_beq hx3)))
  have htake : x1 = false → x2 = false → x3 = false → takeC acc c v = if encOk v = false then (c, false) else match know c v with
    | none => (c, false)
    | some c' => (act acc (if v.kind = 4 then c' else { c' with seen := putM v.frm (max ((lookM c'.seen v.frm).getD 0) v.view) c'.seen }), true) := fun e1 e2 e3 => by
    subst e1 e2 e3
    unfold takeC
    have h1 : v.slot = c.slot := by simpa using hx1
    have h2 : ¬ c.n < v.frm := of_decide_eq_false hx2
    have h3 : ¬ v.frm = c.me := by simpa using hx3
    by_cases he : encOk v = false
    · rw [if_pos (.inr (.inr (.inr he))), if_pos he]
    · rw [if_neg (by rintro (h | h | h | h); exact h h1; exact h2 h; exact h3 h; exact he h), if_neg he]
      rfl
  have HREF := Lib.hid hrefuse
  have HTAKE := Lib.hid htake
  have HENC := Lib.hid (encodeVote_any v (.slice sa sl sc) W1.drew hwf (hs.below hB1.drew))
  have HOK := Lib.hid hok
  have HT := Lib.hid ht
  have HT1 := Lib.hid ht1
  have HC1 : Hid (CoreAt acc col ci W1 b c) := ⟨_, _, _, _, _, _, _, _, _, _, hc1⟩
  have HB1 := Lib.hid hB1
  have HBX := Lib.hid hbx
  have HS := Lib.hid (hs.below hB1)
  have HW1 := Lib.hid hW1
  have HBB := Lib.hid hBB
  clear ht h hok hs hbx ht1 hc1 hB1 hwf hrefuse htake
  have refused : takeC acc c v = (c, false) → ∀ w', Below w.heap.size w w' → TakePost acc (takeC acc c v) col ci b w (.returned (.bool false)) w' := fun e w' hb => by
    rw [e]
    exact ⟨rfl, HOK.out, col, Ext.below HT.out hb, HCA.out.below HT.out hb⟩
  have REFUSED := Lib.hid refused
  clear refused
  obtain ⟨en, hen⟩ : ∃ en, encOk v = en := ⟨_, rfl⟩
  have HEN := Lib.hid hen
  rw [hen] at HENC
  obtain ⟨er, her⟩ : ∃ er : Int, (if en then 0 else 3) = er := ⟨_, rfl⟩
  rw [her] at HENC
  have HER := Lib.hid her
  clear hen her
  go_enter Try.func18, Try.ntmps18
  go_wp2_with fail
  cases x1
  case true =>
    go_region
    all_goals
      go_wp2_with fail
      go_ret
      exact REFUSED.out (HREF.out (.inl trivial)) _ HB1.out.drew
  case false =>
    cases x2
    case true =>
      go_region
      all_goals
        go_wp2_with fail
        go_ret
        exact REFUSED.out (HREF.out (.inr (.inl trivial))) _ HB1.out.drew
    case false =>
      cases x3
      case true =>
        go_region
        all_goals
          go_wp2_with fail
          go_ret
          exact REFUSED.out (HREF.out (.inr (.inr trivial))) _ HB1.out.drew
      case false =>
        have p0 := HBX.out.cell 0
        have p3 := HBX.out.cell 3
        have p4 := HBX.out.cell 4
        have p5 := HBX.out.cell 5
        simp only [List.getElem?_cons_zero, List.getElem?_cons_succ] at p0 p3 p4 p5
        have HTK := Lib.hid (HTAKE.out rfl rfl rfl)
        clear HTAKE
        rw [HEN.out] at HTK
        go_region
        all_goals
          go_wp2_with fail
          refine HENC.out.mono ?_
          rintro e w2 ⟨⟨ex, rfl⟩, hb2⟩
          have HB2 : Hid (Below w.heap.size w w2) := HB1.out.drew.trans (hb2.mono HB1.out.size)
          have hb12 : Below W1.heap.size W1 w2 := (Below.refl _ W1).drew.trans hb2
          have hx2 := HBX.out.below hb12 HBX.out.lt
          have q0 := hx2.cell 0
          have q1 := hx2.cell 1
          have q2 := hx2.cell 2
          have q3 := hx2.cell 3
          have q4 := hx2.cell 4
          have q5 := hx2.cell 5
          simp only [List.getElem?_cons_zero, List.getElem?_cons_succ] at q0 q1 q2 q3 q4 q5
          have HBX2 := Lib.hid hx2
          have HS2 := Lib.hid (HS.out.below hb12)
          clear hb2 hb12 hx2 p0 p1 p2 p3 p4 p5 d0 d1 d2
          cases en
          case false =>
            obtain rfl : er = 3 := HER.out.symm
            go_wp2_with fail
            go_ret
            exact REFUSED.out (by rw [HTK.out]; rfl) _ HB2.out
          case true =>
            obtain rfl : er = 0 := HER.out.symm
            have hin := encOk_in HEN.out
            have ht2 := HT.out.below HB2.out
            have hkn := know_any v (.slice sa sl sc) hin.1 ht2 (HCA.out.below HT.out HB2.out) HOK.out hin.2 HS2.out
            have HKN := Lib.hid hkn
            have HIN := Lib.hid hin
            have HT2 := Lib.hid ht2
            clear hin ht2 hkn
            go_wp2_with fail
            refine HKN.out.mono ?_
            rintro e w3 hp3
            cases hk : know c v with
            | none =>
              rw [hk] at hp3
              obtain ⟨rfl, hb3⟩ := hp3
              have HB3 := Lib.hid (HB2.out.trans (hb3.mono HB2.out.size))
              have HK := Lib.hid hk
              clear hb3 hk
              go_wp2_with fail
              go_ret
              exact REFUSED.out (by rw [HTK.out, HK.out]; rfl) _ HB3.out
            | some c' =>
              rw [hk] at hp3
              obtain ⟨rfl, col3, hE3, hC3⟩ := hp3
              have hok3 := know_ok HOK.out HIN.out.2 hk
              have hBn : ∀ q, col B = some q → False := fun q e => by have := HT.out.lo B q e; omega
              have hx3 := HBX2.out.same (hE3.block HBX2.out.lt (fun q e => (hBn q e).elim))
              have r0 := hx3.cell 0
              have r1 := hx3.cell 1
              have r3 := hx3.cell 3
              simp only [List.getElem?_cons_zero, List.getElem?_cons_succ] at r0 r1 r3
              have HE3 := Lib.hid ((Ext.below HT.out HB2.out).trans hE3)
              have HT3 := Lib.hid hE3.tint
              have HK := Lib.hid hk
              have HOK3 := Lib.hid hok3
              clear q0 q1 q2 q3 q4 q5 hk hBn hx3 hE3 hok3
              by_cases hk4 : v.kind = 4
              · have hne : (v.kind != 4) = false := by rw [hk4]; rfl
                have hA := act_any HT3.out hC3 HOK3.out
                have HA := Lib.hid hA
                have HR : Hid (takeC acc c v = (act acc c', true)) := by
                  show _ = _
                  rw [HTK.out, HK.out]
                  simp [hk4]
                clear hA hk4 hC3
                go_wp2_with fail
                refine HA.out.mono ?_
                rintro e w5 ⟨⟨ev, rfl⟩, hok5, col5, hE5, hC5⟩
                have HX : Hid (TakePost acc (takeC acc c v) col ci b w (.returned (.bool true)) w5) := by
                  show TakePost _ _ _ _ _ _ _ _
                  rw [HR.out]
                  exact ⟨rfl, hok5, col5, HE3.out.trans hE5, hC5⟩
                clear hok5 hE5 hC5
                go_wp2_with fail
                go_ret
                exact HX.out
              · have hne : (v.kind != 4) = true := by simpa using hk4
                obtain ⟨fv3, wi3, lo3, va3, pb3, pp3, cm3, tn3, sn3, dc3, hC3⟩ := hC3
                have d11 := hC3.hblk.cell 11
                simp only [List.getElem?_cons_zero, List.getElem?_cons_succ] at d11
                have hfw : (Lit.int .i64 v.frm).wf = true := wf64_mk (by have := HIN.out.2.frm; omega) (by have := HIN.out.2.frm; omega)
                have hsd : SeenAt col3 ci 5 w3.drew sn3 c'.seen := hC3.hsn.ext (G := fun _ => False) (Ext.below HT3.out (Below.refl _ w3).drew) (fun h => h)
                have hlk := hsd.look (who := v.frm) hfw
                obtain ⟨old, hold⟩ : ∃ old, (lookM c'.seen v.frm).getD 0 = old := ⟨_, rfl⟩
                rw [hold] at hlk
                obtain ⟨hcol5, lm, hm, hr⟩ := id hsd
                have hln : lm.length < maxLen := by
                  have := srt_length (hr.srt hm.srt) HOK3.out.inn.seen (by omega)
                  rw [hr.length]
                  unfold maxLen
                  omega
                obtain ⟨w4, hrun, hput, hg4⟩ := hm.put Try.underlying3 Try.underlying106 (x := v.frm) hln hfw (.int .i64 (max old v.view))
                have hE4 := Ext.put HT3.out hcol5 (Below.refl _ w3).drew hg4 ⟨_, hput⟩
                have hold2 : (Lit.int .i64 (max old v.view)).wf = true := by
                  have h1 := HIN.out.2.view
                  have h2 : -9223372036854775808 ≤ old ∧ old ≤ 9223372036854775807 := by
                    rw [← hold]
                    cases hq : lookM c'.seen v.frm with
                    | none => simp only [Option.getD_none]; omega
                    | some z =>
                      have := HOK3.out.seen _ (lookM_mem hq)
                      simp only [Option.getD_some] at this ⊢
                      omega
                  exact wf64_mk (by omega) (by omega)
                have hC4 : CoreRaw acc col3 ci w4 b { c' with seen := putM v.frm (max old v.view) c'.seen } fv3 wi3 lo3 va3 pb3 pp3 cm3 tn3 sn3 dc3 := hC3.part5 hE4 HT3.out ⟨hcol5, _, hput, hr.put v.frm ⟨rfl, hold2⟩⟩
                have hok4 := seen_ok HOK3.out HIN.out.2.frm (by have := HIN.out.2.view; omega : 0 ≤ v.view ∧ v.view ≤ 4294967295)
                rw [hold] at hok4
                have HA := Lib.hid (act_any hE4.tint ⟨_, _, _, _, _, _, _, _, _, _, hC4⟩ hok4)
                have HE4 : Hid (Ext (fun q => q.1 = ci) col w col3 w4) := HE3.out.trans (hE4.mono (fun q e => by rw [e]))
                have HR : Hid (takeC acc c v = (act acc { c' with seen := putM v.frm (max old v.view) c'.seen }, true)) := by
                  show _ = _
                  rw [HTK.out, HK.out, ← hold]
                  simp [hk4]
                clear hk4 hC3 hsd hold hm hr hln hput hg4 hE4 hold2 hC4 hok4 hcol5 hfw
                go_wp2_with fail
                go_still_tail 16, (by kernel_rfl)
                change wpList _ _ _ _ _ w3.drew
                go_wp2_with fail
                all_goals
                  refine HA.out.mono ?_
                  rintro e w5 ⟨⟨ev, rfl⟩, hok5, col5, hE5, hC5⟩
                  have HX : Hid (TakePost acc (takeC acc c v) col ci b w (.returned (.bool true)) w5) := by
                    show TakePost _ _ _ _ _ _ _ _
                    rw [HR.out]
                    exact ⟨rfl, hok5, col5, HE4.out.trans hE5, hC5⟩
                  clear hok5 hE5 hC5
                  go_wp2_with fail
                  go_ret
                  exact HX.out
end Go.Proofs.Ytilhdelijdkjpaa
