/-
  propose.
-/
import Derived.Test.YtilhdelijdkjpaaVY
import Derived.Test.YtilhdelijdkjpaaVG
set_option linter.unusedVariables false
set_option linter.unusedSimpArgs false
namespace Go.Proofs.Ytilhdelijdkjpaa
open Go Go.RowKit Go.Maps Sac

theorem count_len {t : TellM} {least : Int} {v : Bs} (h : count t least = some v) : ∃ q ∈ t, q.2 = v := by
  unfold count at h
  cases hf : t.find? (fun p => decide (least ≤ (howMany t p.2 : Int))) with
  | none => rw [hf] at h; cases h
  | some q => rw [hf] at h; exact ⟨q, List.mem_of_find?_eq_some hf, Option.some.inj h⟩
theorem prepared_len {c : Core} (hok : CoreIn c) {z : Int} {v : Bs} (h : prepared c z = some v) : v.length ≤ 4096 := by
  obtain ⟨q, hq, rfl⟩ := count_len h
  unfold inner at hq
  cases hl : lookM c.prepares z with
  | none => rw [hl] at hq; cases hq
  | some t => rw [hl] at hq; exact hok.len2 _ (lookM_mem hl) q hq
theorem best_len {c : Core} (hok : CoreIn c) {below : Int} {r : Int × Bs} (h : best c below = some r) : r.2.length ≤ 4096 ∧ 0 ≤ r.1 ∧ r.1 ≤ 4294967295 := by
  obtain ⟨p, hp, h2⟩ := List.exists_of_findSome?_eq_some h
  have hp2 := hok.prepares p (List.mem_reverse.1 hp)
  cases hv : prepared c p.1 with
  | none => rw [hv] at h2; cases h2
  | some v =>
    rw [hv] at h2
    dsimp only at h2
    split at h2
    · cases h2; exact ⟨prepared_len hok hv, hp2.1, hp2.2.1⟩
    · cases h2

theorem proposeC_no {c : Core} (hb : best c c.view = none) (hw : c.wishes = false) : proposeC c = none := by
  unfold proposeC
  split
  · rfl
  · rw [hb]; simp [hw]
theorem proposeC_wish {c : Core} (h1 : ¬ (lookM c.proposals c.view).isSome = true) (h2 : proposer c c.view = c.me) (hb : best c c.view = none) (hw : c.wishes = true) : proposeC c = some { c with proposals := putM c.view (c.wish, -1) c.proposals } := by
  unfold proposeC
  rw [if_neg (by rintro (h | h); exact h1 h; exact h h2), hb]
  simp [hw]
theorem proposeC_best {c : Core} (h1 : ¬ (lookM c.proposals c.view).isSome = true) (h2 : proposer c c.view = c.me) {view : Int} {value : Bs} (hb : best c c.view = some (view, value)) : proposeC c = some { c with proposals := putM c.view (value, view) c.proposals } := by
  unfold proposeC
  rw [if_neg (by rintro (h | h); exact h1 h; exact h h2), hb]
theorem props_small {c : Core} (hok : CoreIn c) {Q : Value → Bs × Int → Prop} {l : List (Int × Value)} (hr : RelM Q l c.proposals) (hs : Srt l) : l.length < maxLen := by
  have := srt_length (hr.srt hs) hok.props (by omega)
  rw [hr.length]
  unfold maxLen
  omega

set_option maxRecDepth 100000 in
set_option maxHeartbeats 2000000 in
theorem propose_any {acc : Bs → Bool} {col : Colour} {ci b : Nat} {w : World} {c : Core} (ht : Tinted col w) (h : CoreAt acc col ci w b c) (hok : CoreIn c) :
    Calls Try.prog 89 #[.pointer (some ⟨b, 0, none⟩)] w (StepPost acc (proposeC c) col ci b w) := by
  obtain ⟨fv, wi, lo, va, pb, pp, cm, tn, sn, dc, h⟩ := h
  obtain ⟨d0, d1, d2, d3, d4, d5, d6, d7, d8, d9, d10, d11, d12, d13, d14, d15, d16⟩ := h.cells
  obtain ⟨sa, sl, sc, hlk, hrs⟩ := (h.hpb.drew ht).look (view := c.view) (wf64_mk (by have := hok.view; omega) (by have := hok.view; omega))
  obtain ⟨tv, htv⟩ : ∃ tv, (lookM c.proposals c.view).isSome = tv := ⟨_, rfl⟩
  obtain ⟨⟨bs, valid⟩, hbv⟩ : ∃ x, (lookM c.proposals c.view).getD ([], 0) = x := ⟨_, rfl⟩
  rw [htv, hbv] at hlk
  rw [hbv] at hrs
  dsimp only at hlk hrs
  have hrs1 : RB w (.slice sa sl sc) bs := hrs
  have hb0 : Below w.heap.size w (w.alloc (.cells #[.slice none 0 0, .int .i64 0] 116)).drew := ((Below.refl _ w).alloc (Nat.le_refl _) _).drew
  obtain ⟨sa0, sl0, sc0, hlk0, _⟩ := ((h.hpb.ext (G := fun _ => False) (Ext.below ht hb0) ht (fun h => h))).look (view := c.view) (wf64_mk (by have := hok.view; omega) (by have := hok.view; omega))
  have hsame : RB (w.alloc (.cells #[.slice none 0 0, .int .i64 0] 116)).drew (.slice sa sl sc) bs := hrs1.below hb0
  obtain ⟨B, hBB⟩ : ∃ B, w.heap.size = B := ⟨_, rfl⟩
  have e7 := Lib.cell?_alloc_some (.cells #[.slice none 0 0, .int .i64 0] 116) d7
  have e4 := Lib.cell?_alloc_some (.cells #[.slice none 0 0, .int .i64 0] 116) d4
  have hlkd : (Instr.lookup 104 (.map (some pb)) (.int .i64 c.view) true).run Try.prog (w.alloc (.cells #[.slice none 0 0, .int .i64 0] 116)).drew = .ok (.tuple #[.agg #[.slice sa sl sc, .int .i64 valid], .bool tv]) (w.alloc (.cells #[.slice none 0 0, .int .i64 0] 116)).drew := by
    obtain ⟨hc, l, hm, hr⟩ := h.hpb
    have l1 := (hm.same (w' := w.drew) rfl).lookTwo Try.underlying3 Try.underlying104 (Try.zeroValue116 w.drew) (x := c.view) (wf64_mk (by have := hok.view; omega) (by have := hok.view; omega))
    have l2 := (hm.below hb0 hm.lt).lookTwo Try.underlying3 Try.underlying104 (Try.zeroValue116 _) (x := c.view) (wf64_mk (by have := hok.view; omega) (by have := hok.view; omega))
    rw [hlk] at l1
    have e := congrArg (fun r : Result Value => match r with | .ok v _ => some v | _ => none) l1
    rw [l2]
    simp only [Option.some.injEq] at e
    rw [← e]
  have HRS := Lib.hid hrs1
  have HT := Lib.hid ht
  have HC := Lib.hid h
  have HBB := Lib.hid hBB
  have HOK := Lib.hid hok
  have HTV := Lib.hid htv
  have HBV := Lib.hid hbv
  clear ht h hok d0 d1 d2 d3 d5 d6 d8 d9 d10 d11 d12 d13 d14 d15 d16 htv hbv hrs hrs1 hb0 hlk0 hsame hBB
  go_enter Try.func89, Try.ntmps89
  go_wp2_with fail
  go_cut [3, 4, 8] from 9 to 19 (fun t3 t4 t8 wx => t3 = .pointer (some ⟨B, 0, none⟩) ∧ t4 = .bool tv ∧ Hid (Below w.heap.size w wx) ∧ Hid (Blk wx B 116 [.slice sa sl sc, .int .i64 valid]))
  case first =>
    go_region
    all_goals
      go_wp2_with fail
      go_meet
      exact ⟨by rw [HBB.out], rfl, ((Below.refl _ w).alloc (Nat.le_refl _) _).drew, HBB.out ▸ Blk.new w [.slice sa sl sc, .int .i64 valid] _⟩
  case rest =>
    obtain ⟨rfl, rfl, HB1, HB⟩ := hcut
    have ht1 := HT.out.below HB1.out
    have hc1 : CoreRaw acc col ci wc b c fv wi lo va pb pp cm tn sn dc := HC.out.ext (G := fun _ => False) (Ext.below HT.out HB1.out) HT.out (fun _ h => h)
    have hrs1 := HRS.out.below HB1.out
    clear d4 d7 hlk e7 e4 hlkd
    obtain ⟨d0, d1, d2, d3, d4, d5, d6, d7, d8, d9, d10, d11, d12, d13, d14, d15, d16⟩ := hc1.cells
    have hcd : CoreRaw acc col ci wc.drew b c fv wi lo va pb pp cm tn sn dc := hc1.ext (G := fun _ => False) (Ext.below ht1 (Below.refl _ wc).drew) ht1 (fun _ h => h)
    have htd := ht1.below (Below.refl _ wc).drew
    have hpr := proposer_raw b c.n c.slot c.view wc.drew d0 d2 HOK.out.n HOK.out.slot HOK.out.view
    obtain ⟨P, hP⟩ : ∃ P, proposer c c.view = P := ⟨_, rfl⟩
    rw [show 1 + (c.slot + c.view) % c.n = P from hP] at hpr
    have HPR := Lib.hid hpr
    have HP := Lib.hid hP
    have HC1 := Lib.hid hc1
    have HT1 := Lib.hid ht1
    have e1 : wc.drew.cell? ⟨b, 1, none⟩ = some (.int .i64 c.me) := d1
    have hbl := hcd.hblk.lt
    have HBL := Lib.hid hbl
    clear ht1 hc1 hrs1 hcd htd hpr hP hbl d0 d2 d3 d5 d6 d7 d8 d9 d10 d11 d12 d13 d14 d15 d16
    cases tv with
    | true =>
      have hyes : (lookM c.proposals c.view).isSome = true := HTV.out
      have HYES := Lib.hid hyes
      clear hyes
      go_wp2_with fail
      go_region
      all_goals
        go_wp2_with fail
        go_ret
        show StepPost _ (proposeC c) _ _ _ _ _ _
        rw [show proposeC c = none by unfold proposeC; rw [if_pos (.inl HYES.out)]]
        exact ⟨rfl, HB1.out.drew⟩
    | false =>
      have hno : ¬ (lookM c.proposals c.view).isSome = true := by rw [HTV.out]; decide
      have HNO := Lib.hid hno
      clear hno
      have hbd : Hid (Below wc.heap.size wc wc.drew) := (Below.refl _ wc).drew
      have HPB : Hid (P = P) := rfl
      by_cases hPm : P = c.me
      · have hne : (P != c.me) = false := by simp [hPm]
        have HPM := Lib.hid hPm
        clear hPm
        go_wp2_with fail
        go_region_held3 (fun w' => w'.cell? ⟨b, 4, none⟩ = some (.int .i64 c.view) ∧ w'.cell? ⟨b, 1, none⟩ = some (.int .i64 c.me) ∧ Hid (Below wc.heap.size wc w')) (first | exact ⟨d4, d1, hbd⟩ | exact ⟨g4, g1, HB5⟩ | assumption)
          (first | (go_at_call 63; refine HPR.out.mono ?_; rintro e w5 ⟨rfl, hb5⟩; have g1 : w5.cell? ⟨b, 1, none⟩ = some (.int .i64 c.me) := (hb5.cell (p := ⟨b, 1, none⟩) HBL.out).trans d1; have g4 : w5.cell? ⟨b, 4, none⟩ = some (.int .i64 c.view) := (hb5.cell (p := ⟨b, 4, none⟩) HBL.out).trans d4; have HB5 : Hid (Below wc.heap.size wc w5) := (Below.refl _ wc).drew.trans hb5; clear hb5))
        have ht5 := HT1.out.below HB5.out
        have hc5 : CoreRaw acc col ci w5 b c fv wi lo va pb pp cm tn sn dc := HC1.out.ext (G := fun _ => False) (Ext.below HT1.out HB5.out) HT1.out (fun _ h => h)
        have hbe := best_any c.view ht5 ⟨_, _, _, _, _, _, _, _, _, _, hc5⟩ HOK.out
        have HBE := Lib.hid hbe
        have HT5 := Lib.hid ht5
        have HC5 := Lib.hid hc5
        clear ht5 hc5 hbe g1 d1 d4 e1
        go_wp2_with fail
        refine HBE.out.mono ?_
        rintro e w6 ⟨hb6, v6, rfl, hrb⟩
        have ht6 := HT5.out.below hb6
        have hc6 : CoreRaw acc col ci w6 b c fv wi lo va pb pp cm tn sn dc := HC5.out.ext (G := fun _ => False) (Ext.below HT5.out hb6) HT5.out (fun _ h => h)
        obtain ⟨_, _, _, _, d4, d5, d6, d7, _⟩ := hc6.cells
        have hw6 : Below wc.heap.size wc w6 := HB5.out.trans (hb6.mono HB5.out.size)
        obtain ⟨wv, hwv⟩ : ∃ wv, c.wishes = wv := ⟨_, rfl⟩
        rw [hwv] at d6
        have HT6 := Lib.hid ht6
        have HC6 := Lib.hid hc6
        have HW6 := Lib.hid hw6
        have HWV := Lib.hid hwv
        obtain ⟨o, ho⟩ : ∃ o, best c c.view = o := ⟨_, rfl⟩
        rw [ho] at hrb ⊢
        have HO := Lib.hid ho
        clear ht6 hc6 hw6 hwv ho hb6 g4
        have hwi := RB.form HC6.out.hwi
        obtain ⟨qa, qn, qc, rfl⟩ := hwi
        obtain ⟨ra, rn, rc, rfl⟩ := RB.form hrb
        rcases o with _ | ⟨view2, value⟩
        · clear hrb
          simp only [Option.map_none, Option.getD_none, Option.isSome_none]
          cases wv
          · go_wp2_with fail
            go_ret
            show StepPost _ (proposeC c) _ _ _ _ _ _
            rw [proposeC_no HO.out HWV.out]
            exact ⟨rfl, HB1.out.trans (HW6.out.mono HB1.out.size)⟩
          · have htd := HT6.out.below (Below.refl _ w6).drew
            have hcl := clone_any (.slice qa qn qc) c.wish w6.drew (show RB w6.drew _ _ from HC6.out.hwi) (by have := HOK.out.len0.1; omega)
            have HCL := Lib.hid hcl
            clear htd hcl
            go_wp2_with fail
            rename_i Kc hKc
            go_region_law (first
              | (go_simp; go_at_call 62; refine HCL.out.mono ?_; rintro e w7 ⟨v7, rfl, hbuf, hb0⟩; obtain ⟨ya, yn, yc, rfl⟩ := RB.form hbuf.rb; have hb7 : Below w6.heap.size w6 w7 := (Below.refl _ w6).drew.trans hb0; clear hb0; have hc7 : CoreRaw acc col ci w7 b c fv (.slice qa qn qc) lo va pb pp cm tn sn dc := HC6.out.ext (G := fun _ => False) (Ext.below HT6.out hb7) HT6.out (fun _ h => h); obtain ⟨hcol, lm, hm, hr⟩ := id hc7.hpb; have hln := props_small HOK.out hr hm.srt; obtain ⟨w8, hrun, hput, hg8⟩ := hm.put Try.underlying3 Try.underlying104 (x := c.view) hln (wf64_mk (by have := HOK.out.view; omega) (by have := HOK.out.view; omega)) (.agg #[.slice ya yn yc, .int .i64 (-1)]); have f4 : w7.cell? ⟨b, 4, none⟩ = some (.int .i64 c.view) := hc7.cells.2.2.2.2.1; have f7 : w7.cell? ⟨b, 7, none⟩ = some (.map (some pb)) := hc7.cells.2.2.2.2.2.2.2.1; have HH := Lib.hid (And.intro hbuf (And.intro hb7 (And.intro hput hg8))); have HM7 := Lib.hid (And.intro hm (And.intro hr hcol)); clear hbuf hb7 hput hg8 hm hr hcol hc7 hln)
              | fail)
            all_goals
              refine hKc _ _ ?_
              go_wp2_with fail
              go_ret
              show StepPost _ (proposeC c) _ _ _ _ _ _
              rw [proposeC_wish HNO.out (HP.out.trans HPM.out) HO.out HWV.out]
              obtain ⟨hbuf, hb7, hput, hg8⟩ := HH.out
              obtain ⟨hm, hr, hcol⟩ := HM7.out
              have hE := Ext.put HT6.out hcol hb7 hg8 ⟨_, hput⟩
              refine ⟨rfl, col, ((Ext.below HT.out (HB1.out.trans (HW6.out.mono HB1.out.size))).trans (hE.mono (fun q e => by rw [e]))), _, _, _, _, _, _, _, _, _, _, HC6.out.part1 hE HT6.out ⟨hcol, _, hput, ?_⟩⟩
              exact (hr.mono (fun v y ⟨s, e, h⟩ => ⟨s, e, h.map hg8 hm⟩)).put c.view ⟨_, rfl, hbuf.rb.map hg8 hm⟩
        · simp only [Option.map_some, Option.getD_some, Option.isSome_some] at hrb ⊢
          have hbl2 := best_len HOK.out HO.out
          dsimp only at hbl2 hrb
          have HRB := Lib.hid hrb
          have HLEN := Lib.hid hbl2
          clear hrb hbl2
          have htd := HT6.out.below (Below.refl _ w6).drew
          have hcl := clone_any (.slice ra rn rc) value w6.drew (show RB w6.drew _ _ from HRB.out) (by have := HLEN.out.1; omega)
          have HCL := Lib.hid hcl
          clear htd hcl
          go_wp2_with fail
          rename_i Kc hKc
          go_region_law (first
            | (go_simp; go_at_call 62; refine HCL.out.mono ?_; rintro e w7 ⟨v7, rfl, hbuf, hb0⟩; obtain ⟨ya, yn, yc, rfl⟩ := RB.form hbuf.rb; have hb7 : Below w6.heap.size w6 w7 := (Below.refl _ w6).drew.trans hb0; clear hb0; have hc7 : CoreRaw acc col ci w7 b c fv (.slice qa qn qc) lo va pb pp cm tn sn dc := HC6.out.ext (G := fun _ => False) (Ext.below HT6.out hb7) HT6.out (fun _ h => h); obtain ⟨hcol, lm, hm, hr⟩ := id hc7.hpb; have hln := props_small HOK.out hr hm.srt; obtain ⟨w8, hrun, hput, hg8⟩ := hm.put Try.underlying3 Try.underlying104 (x := c.view) hln (wf64_mk (by have := HOK.out.view; omega) (by have := HOK.out.view; omega)) (.agg #[.slice ya yn yc, .int .i64 (view2)]); have f4 : w7.cell? ⟨b, 4, none⟩ = some (.int .i64 c.view) := hc7.cells.2.2.2.2.1; have f7 : w7.cell? ⟨b, 7, none⟩ = some (.map (some pb)) := hc7.cells.2.2.2.2.2.2.2.1; have HH := Lib.hid (And.intro hbuf (And.intro hb7 (And.intro hput hg8))); have HM7 := Lib.hid (And.intro hm (And.intro hr hcol)); clear hbuf hb7 hput hg8 hm hr hcol hc7 hln)
            | fail)
          all_goals
            refine hKc _ _ ?_
            go_wp2_with fail
            go_ret
            show StepPost _ (proposeC c) _ _ _ _ _ _
            rw [proposeC_best HNO.out (HP.out.trans HPM.out) HO.out]
            obtain ⟨hbuf, hb7, hput, hg8⟩ := HH.out
            obtain ⟨hm, hr, hcol⟩ := HM7.out
            have hE := Ext.put HT6.out hcol hb7 hg8 ⟨_, hput⟩
            refine ⟨rfl, col, ((Ext.below HT.out (HB1.out.trans (HW6.out.mono HB1.out.size))).trans (hE.mono (fun q e => by rw [e]))), _, _, _, _, _, _, _, _, _, _, HC6.out.part1 hE HT6.out ⟨hcol, _, hput, ?_⟩⟩
            exact (hr.mono (fun v y ⟨s, e, h⟩ => ⟨s, e, h.map hg8 hm⟩)).put c.view ⟨_, rfl, hbuf.rb.map hg8 hm⟩
      · have hne : (P != c.me) = true := by simp [hPm]
        have HPM := Lib.hid hPm
        clear hPm
        go_wp2_with fail
        go_region_held3 (fun w' => w'.cell? ⟨b, 4, none⟩ = some (.int .i64 c.view) ∧ w'.cell? ⟨b, 1, none⟩ = some (.int .i64 c.me) ∧ Hid (Below wc.heap.size wc w')) (first | exact ⟨d4, d1, hbd⟩ | exact ⟨g4, g1, HB5⟩ | assumption)
          (first | (go_at_call 63; refine HPR.out.mono ?_; rintro e w5 ⟨rfl, hb5⟩; have g1 : w5.cell? ⟨b, 1, none⟩ = some (.int .i64 c.me) := (hb5.cell (p := ⟨b, 1, none⟩) HBL.out).trans d1; have g4 : w5.cell? ⟨b, 4, none⟩ = some (.int .i64 c.view) := (hb5.cell (p := ⟨b, 4, none⟩) HBL.out).trans d4; have HB5 : Hid (Below wc.heap.size wc w5) := (Below.refl _ wc).drew.trans hb5; clear hb5))
        go_wp2_with fail
        go_ret
        show StepPost _ (proposeC c) _ _ _ _ _ _
        rw [show proposeC c = none by unfold proposeC; rw [if_pos (.inr (by rw [HP.out]; exact HPM.out))]]
        exact ⟨rfl, HB1.out.trans (HB5.out.mono HB1.out.size)⟩

end Go.Proofs.Ytilhdelijdkjpaa
