/-
  prepare.
-/
import Derived.Test.YtilhdelijdkjpaaVF
set_option linter.unusedVariables false
set_option linter.unusedSimpArgs false
namespace Go.Proofs.Ytilhdelijdkjpaa
open Go Go.RowKit Go.Maps Sac

/-- What stands at a view among the proposals, as a value. -/
theorem PropsAt.look {col : Colour} {ci p b : Nat} {w : World} {m : List (Int × (Bs × Int))} (h : PropsAt col ci p w b m) {view : Int} (hv : (Lit.int .i64 view).wf = true) :
    ∃ (sa : Option Addr) (sl sc : Nat), (Instr.lookup 104 (.map (some b)) (.int .i64 view) true).run Try.prog w = .ok (.tuple #[.agg #[.slice sa sl sc, .int .i64 ((lookM m view).getD ([], 0)).2], .bool (lookM m view).isSome]) w ∧ RB w (.slice sa sl sc) ((lookM m view).getD ([], 0)).1 := by
  obtain ⟨hc, l, hm, hr⟩ := h
  have l2 := hm.lookTwo Try.underlying3 Try.underlying104 (Try.zeroValue116 w) hv
  rcases hr.lookM view with ⟨h1, h2⟩ | ⟨x, y, h1, h2, s, rfl, h3⟩
  · rw [h1] at l2
    rw [h2]
    exact ⟨none, 0, 0, l2, RB.nil w⟩
  · rw [h1] at l2
    rw [h2]
    obtain ⟨sa, sl, sc, rfl⟩ := h3.form
    exact ⟨sa, sl, sc, l2, h3⟩
theorem PropsAt.drew {col : Colour} {ci p b : Nat} {w : World} {m : List (Int × (Bs × Int))} (ht : Tinted col w) (h : PropsAt col ci p w b m) : PropsAt col ci p w.drew b m :=
  h.ext (G := fun _ => False) (Ext.below ht (Below.refl _ w).drew) ht (fun h => h)

set_option maxRecDepth 100000 in
set_option maxHeartbeats 2000000 in
theorem prepare_any {acc : Bs → Bool} {col : Colour} {ci b : Nat} {w : World} {c : Core} (ht : Tinted col w) (h : CoreAt acc col ci w b c) (hok : CoreIn c) :
    Calls Try.prog 90 #[.pointer (some ⟨b, 0, none⟩)] w (StepPost acc (prepareC acc c) col ci b w) := by
  obtain ⟨fv, wi, lo, va, pb, pp, cm, tn, sn, dc, h⟩ := h
  obtain ⟨d0, d1, d2, d3, d4, d5, d6, d7, d8, d9, d10, d11, d12, d13, d14, d15, d16⟩ := h.cells
  obtain ⟨sa, sl, sc, hlk, hrs⟩ := (h.hpb.drew ht).look (view := c.view) (wf64_mk (by have := hok.view; omega) (by have := hok.view; omega))
  obtain ⟨tv, htv⟩ : ∃ tv, (lookM c.proposals c.view).isSome = tv := ⟨_, rfl⟩
  obtain ⟨⟨bs, valid⟩, hbv⟩ : ∃ x, (lookM c.proposals c.view).getD ([], 0) = x := ⟨_, rfl⟩
  rw [htv, hbv] at hlk
  rw [hbv] at hrs
  dsimp only at hlk hrs
  have hrs1 : RB w (.slice sa sl sc) bs := hrs
  have hb0 : Below w.heap.size w (w.alloc (.cells #[.slice none 0 0, .int .i64 0] 116)).drew := ((Below.refl _ w).alloc (Nat.le_refl _) _).drew
  obtain ⟨sa0, sl0, sc0, hlk0, _⟩ := ((h.hpb.ext (G := fun _ => False) (Ext.below ht hb0) ht (fun h => h))).look (view := c.view) (wf64_mk (by have := hok.view; omega) (by have := hok.view; omega))
  have hsame : RB (w.alloc (.cells #[.slice none 0 0, .int .i64 0] 116)).drew (.slice sa sl sc) bs := hrs1.below hb0
  obtain ⟨B, hBB⟩ : ∃ B, w.heap.size = B := ⟨_, rfl⟩
  have e7 := Lib.cell?_alloc_some (.cells #[.slice none 0 0, .int .i64 0] 116) d7
  have e4 := Lib.cell?_alloc_some (.cells #[.slice none 0 0, .int .i64 0] 116) d4
  have hlkd : (Instr.lookup 104 (.map (some pb)) (.int .i64 c.view) true).run Try.prog (w.alloc (.cells #[.slice none 0 0, .int .i64 0] 116)).drew = .ok (.tuple #[.agg #[.slice sa sl sc, .int .i64 valid], .bool tv]) (w.alloc (.cells #[.slice none 0 0, .int .i64 0] 116)).drew := by
    obtain ⟨hc, l, hm, hr⟩ := h.hpb
    have l1 := (hm.same (w' := w.drew) rfl).lookTwo Try.underlying3 Try.underlying104 (Try.zeroValue116 w.drew) (x := c.view) (wf64_mk (by have := hok.view; omega) (by have := hok.view; omega))
    have l2 := (hm.below hb0 hm.lt).lookTwo Try.underlying3 Try.underlying104 (Try.zeroValue116 _) (x := c.view) (wf64_mk (by have := hok.view; omega) (by have := hok.view; omega))
    rw [hlk] at l1
    have e := congrArg (fun r : Result Value => match r with | .ok v _ => some v | _ => none) l1
    rw [l2]
    simp only [Option.some.injEq] at e
    rw [← e]
  have HRS := Lib.hid hrs1
  have HT := Lib.hid ht
  have HC := Lib.hid h
  have HBB := Lib.hid hBB
  have HOK := Lib.hid hok
  have HTV := Lib.hid htv
  have HBV := Lib.hid hbv
  clear ht h hok d0 d1 d2 d3 d5 d6 d8 d9 d10 d11 d12 d13 d14 d15 d16 htv hbv hrs hrs1 hb0 hlk0 hsame hBB
  go_enter Try.func90, Try.ntmps90
  go_wp2_with fail
  go_cut [3, 4, 7] from 8 to 18 (fun t3 t4 t7 wx => t3 = .pointer (some ⟨B, 0, none⟩) ∧ t4 = .bool tv ∧ Hid (Below w.heap.size w wx) ∧ Hid (Blk wx B 116 [.slice sa sl sc, .int .i64 valid]))
  case first =>
    go_region
    all_goals
      go_wp2_with fail
      go_meet
      exact ⟨by rw [HBB.out], rfl, ((Below.refl _ w).alloc (Nat.le_refl _) _).drew, HBB.out ▸ Blk.new w [.slice sa sl sc, .int .i64 valid] _⟩
  case rest =>
    obtain ⟨rfl, rfl, HB1, HB⟩ := hcut
    have ht1 := HT.out.below HB1.out
    have hc1 : CoreRaw acc col ci wc b c fv wi lo va pb pp cm tn sn dc := HC.out.ext (G := fun _ => False) (Ext.below HT.out HB1.out) HT.out (fun _ h => h)
    have hrs1 := HRS.out.below HB1.out
    clear d4 d7 hlk e7 e4 hlkd
    obtain ⟨d0, d1, d2, d3, d4, d5, d6, d7, d8, d9, d10, d11, d12, d13, d14, d15, d16⟩ := hc1.cells
    obtain ⟨mv, hlk, hTM⟩ := (hc1.hpp.drew ht1).look (view := c.view) (wf64_mk (by have := HOK.out.view; omega) (by have := HOK.out.view; omega))
    obtain ⟨dv, hlk2, _⟩ := hTM.look (who := c.me) (wf64_mk (by have := HOK.out.me; omega) (by have := HOK.out.me; have := HOK.out.n; omega))
    obtain ⟨dn, hdn⟩ : ∃ dn, (lookM (inner c.prepares c.view) c.me).isSome = dn := ⟨_, rfl⟩
    rw [hdn] at hlk2
    have HDN := Lib.hid hdn
    have HT1 := Lib.hid ht1
    have HC1 := Lib.hid hc1
    have HRS1 := Lib.hid hrs1
    have p0 := HB.out.cell 0
    have p1 := HB.out.cell 1
    simp only [List.getElem?_cons_zero, List.getElem?_cons_succ] at p0 p1
    clear ht1 hc1 hrs1 hTM hdn d0 d2 d3 d5 d6 d7 d9 d10 d11 d12 d13 d14 d15 d16
    cases tv with
    | false =>
      have hno : lookM c.proposals c.view = none := by
        have := HTV.out
        cases hx : lookM c.proposals c.view with
        | none => rfl
        | some _ => rw [hx] at this; cases this
      have HNO := Lib.hid hno
      clear hno
      cases dn
      all_goals
        go_wp2_with fail
        go_region
        all_goals
          go_wp2_with fail
          go_ret
          show StepPost _ (prepareC acc c) _ _ _ _ _ _
          rw [show prepareC acc c = none by unfold prepareC; rw [HNO.out]]
          exact ⟨rfl, HB1.out.drew⟩
    | true =>
      have hyes : lookM c.proposals c.view = some (bs, valid) := by
        have h1 := HTV.out
        have h2 := HBV.out
        cases hx : lookM c.proposals c.view with
        | none => rw [hx] at h1; cases h1
        | some y => rw [hx] at h2; simp only [Option.getD_some] at h2; rw [h2]
      have hmem := HOK.out.len1 _ (lookM_mem hyes)
      dsimp only at hmem
      have HYES := Lib.hid hyes
      clear hyes
      cases dn
      case true =>
        go_wp2_with fail
        go_region
        all_goals
          go_wp2_with fail
          go_ret
          show StepPost _ (prepareC acc c) _ _ _ _ _ _
          rw [show prepareC acc c = none by unfold prepareC; rw [HYES.out]; simp [HDN.out]]
          exact ⟨rfl, HB1.out.drew⟩
      case false =>
        have htd := HT1.out.below (Below.refl _ wc).drew
        have hcd : CoreRaw acc col ci wc.drew b c fv wi lo va pb pp cm tn sn dc := HC1.out.ext (G := fun _ => False) (Ext.below HT1.out (Below.refl _ wc).drew) HT1.out (fun _ h => h)
        have hfit := fit_any (.slice sa sl sc) bs valid htd ⟨_, _, _, _, _, _, _, _, _, _, hcd⟩ HOK.out (show RB wc.drew _ _ from HRS1.out) hmem.1 hmem.2
        obtain ⟨fv2, hfv⟩ : ∃ x, fit acc c (bs, valid) = x := ⟨_, rfl⟩
        rw [hfv] at hfit
        have HFV := Lib.hid hfv
        have HFIT := Lib.hid hfit
        have HTD := Lib.hid htd
        have HCD := Lib.hid hcd
        clear htd hcd hfit hfv
        go_wp2_with fail
        go_region
        all_goals
          clear hlk hlk2 d1 d4 d8
          go_wp2_with fail
          refine HFIT.out.mono ?_
          rintro e w3 ⟨rfl, hb3⟩
          have HB3 := Lib.hid hb3
          clear hb3 p0 p1
          cases fv2
          · go_wp2_with fail
            go_ret
            show StepPost _ (prepareC acc c) _ _ _ _ _ _
            rw [show prepareC acc c = none by unfold prepareC; rw [HYES.out]; simp [HFV.out]]
            exact ⟨rfl, HB1.out.trans ((Below.drew (Below.refl _ wc)).trans HB3.out |>.mono HB1.out.size)⟩
          · have hbw : Below wc.heap.size wc w3.drew := ((Below.refl _ wc).drew.trans HB3.out).drew
            have ht3 := HT1.out.below hbw
            have hc3 : CoreRaw acc col ci w3.drew b c fv wi lo va pb pp cm tn sn dc := HC1.out.ext (G := fun _ => False) (Ext.below HT1.out hbw) HT1.out (fun _ h => h)
            have hB3 := HB.out.below hbw HB.out.lt
            have hset := set_any c.view c.me (.slice sa sl sc) bs ht3 hc3.hpp HOK.out.prepares HOK.out.view (by have := HOK.out.me; have := HOK.out.n; omega) (HRS1.out.below hbw) (by omega)
            obtain ⟨_, g1, _, _, g4, _, _, _, g8, _⟩ := hc3.cells
            have q0 := hB3.cell 0
            simp only [List.getElem?_cons_zero] at q0
            have hln : lookM (inner c.prepares c.view) c.me = none := by
              have := HDN.out
              cases hx : lookM (inner c.prepares c.view) c.me with
              | none => rfl
              | some _ => rw [hx] at this; cases this
            have hsv : setV c.prepares c.view c.me bs = some (putM c.view (putM c.me bs (inner c.prepares c.view)) c.prepares) := by unfold setV; rw [hln]
            rw [hsv] at hset
            have HSET := Lib.hid hset
            have HSV := Lib.hid hsv
            have HT3 := Lib.hid ht3
            have HC3 := Lib.hid hc3
            have HBW := Lib.hid (HB1.out.trans (hbw.mono HB1.out.size))
            have g1' : w3.cell? ⟨b, 1, none⟩ = some (.int .i64 c.me) := g1
            have g4' : w3.cell? ⟨b, 4, none⟩ = some (.int .i64 c.view) := g4
            have g8' : w3.cell? ⟨b, 8, none⟩ = some (.map (some pp)) := g8
            have q0' : w3.cell? ⟨B, 0, none⟩ = some (.slice sa sl sc) := q0
            clear hbw ht3 hc3 hB3 hset hln hsv g1 g4 g8 q0
            go_wp2_with fail
            rename_i Kc hKc
            go_region_law (first
              | (go_simp; go_at_call 87; refine HSET.out.mono ?_; rintro e w5 ⟨rfl, col5, hE5, hV5⟩)
              | fail)
            all_goals
              refine hKc _ _ ?_
              go_wp2_with fail
              go_ret
              show StepPost _ (prepareC acc c) _ _ _ _ _ _
              rw [show prepareC acc c = some { c with prepares := putM c.view (putM c.me bs (inner c.prepares c.view)) c.prepares } by unfold prepareC; rw [HYES.out]; simp [HFV.out, HDN.out, HSV.out]]
              refine ⟨rfl, col5, ?_, _, _, _, _, _, _, _, _, _, _, HC3.out.part2 hE5 HT3.out hV5⟩
              exact (Ext.below HT.out HBW.out).trans (hE5.mono (fun q e => by rw [e]))

end Go.Proofs.Ytilhdelijdkjpaa
