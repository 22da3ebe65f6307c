/-
  act: all that it can do.
-/
import Derived.Test.YtilhdelijdkjpaaVI
import Derived.Test.YtilhdelijdkjpaaVD
set_option linter.unusedVariables false
set_option linter.unusedSimpArgs false
namespace Go.Proofs.Ytilhdelijdkjpaa
open Go Go.RowKit Go.Maps Sac

/-- The loop's state: so many things may still be done. -/
def ActAt (acc : Bs → Bool) (col : Colour) (ci b : Nat) (w : World) (r : Core) (k : Nat) (c : Core) (wr : World) : Prop :=
  rest c < k ∧ actN acc k c = r ∧ CoreOk c ∧ ∃ col', Ext (fun q => q.1 = ci) col w col' wr ∧ CoreAt acc col' ci wr b c

theorem actN_done {acc : Bs → Bool} {k : Nat} {c : Core} (hk : 0 < k) (hd : c.decided = true) : actN acc k c = c := by
  obtain ⟨j, rfl⟩ : ∃ j, k = j + 1 := ⟨k - 1, by omega⟩
  unfold actN
  rw [if_pos hd]
theorem actN_step {acc : Bs → Bool} {k : Nat} {c c' : Core} (hk : 0 < k) (hd : c.decided = false) (hs : stepC acc c = (c', true)) : actN acc k c = actN acc (k - 1) c' := by
  obtain ⟨j, rfl⟩ : ∃ j, k = j + 1 := ⟨k - 1, by omega⟩
  rw [actN, if_neg (by rw [hd]; decide), hs]
  rfl
theorem actN_last {acc : Bs → Bool} {k : Nat} {c c' : Core} (hk : 0 < k) (hd : c.decided = false) (hs : stepC acc c = (c', false)) : actN acc k c = c' := by
  obtain ⟨j, rfl⟩ : ∃ j, k = j + 1 := ⟨k - 1, by omega⟩
  rw [actN, if_neg (by rw [hd]; decide), hs]

theorem ActAt.next {acc : Bs → Bool} {col col1 col2 : Colour} {ci b gk : Nat} {w wr w2 : World} {r cc c' : Core} (hk : rest cc < gk) (hN : actN acc gk cc = r) (hok : CoreOk cc) (hE : Ext (fun q => q.1 = ci) col w col1 wr) (hC : CoreAt acc col1 ci wr b cc) (hd : cc.decided = false)
    (hs : stepC acc cc = (c', true)) (hE2 : Ext (fun q => q.1 = ci) col1 wr col2 w2) (hC2 : CoreAt acc col2 ci w2 b c') : ActAt acc col ci b w r (gk - 1) c' w2 := by
  have h1 := step_rest (acc := acc) hok hC.srt hd (by rw [hs])
  have h2 := step_ok (acc := acc) hok
  rw [hs] at h1 h2
  exact ⟨by show rest c' < _; have : rest c' < rest cc := h1; omega, by rw [← hN, actN_step (by omega) hd hs], h2, col2, hE.trans hE2, hC2⟩
theorem ActAt.last {acc : Bs → Bool} {col col1 col2 : Colour} {ci b gk : Nat} {w wr w2 : World} {r cc c' : Core} (hk : rest cc < gk) (hN : actN acc gk cc = r) (hok : CoreOk cc) (hE : Ext (fun q => q.1 = ci) col w col1 wr) (hd : cc.decided = false)
    (hs : stepC acc cc = (c', false)) (hE2 : Ext (fun q => q.1 = ci) col1 wr col2 w2) (hC2 : CoreAt acc col2 ci w2 b c') : CoreOk r ∧ ∃ col', Ext (fun q => q.1 = ci) col w col' w2 ∧ CoreAt acc col' ci w2 b r := by
  have h2 := step_ok (acc := acc) hok
  rw [hs] at h2
  rw [← hN, actN_last (by omega) hd hs]
  exact ⟨h2, col2, hE.trans hE2, hC2⟩

set_option maxRecDepth 100000 in
set_option maxHeartbeats 2000000 in
theorem act_any {acc : Bs → Bool} {col : Colour} {ci b : Nat} {w : World} {c : Core} (ht : Tinted col w) (h : CoreAt acc col ci w b c) (hok : CoreOk c) :
    Calls Try.prog 61 #[.pointer (some ⟨b, 0, none⟩)] w fun e w' => (∃ v, e = .returned v) ∧ CoreOk (act acc c) ∧ ∃ col', Ext (fun q => q.1 = ci) col w col' w' ∧ CoreAt acc col' ci w' b (act acc c) := by
  obtain ⟨n0, hn0⟩ : ∃ n0, rest c + 1 = n0 := ⟨_, rfl⟩
  have H0 : Hid (ActAt acc col ci b w (act acc c) n0 c w) := ⟨by omega, by rw [← hn0]; rfl, hok, col, Ext.refl ht, h⟩
  obtain ⟨r, hr⟩ : ∃ r, act acc c = r := ⟨_, rfl⟩
  rw [hr] at H0 ⊢
  clear ht h hok hr hn0
  go_enter Try.func61, Try.ntmps61
  go_wp2_with fail
  go_loopg [] n0 (fun k wr => ∃ cc, Hid (ActAt acc col ci b w r k cc wr))
  case atStart => exact ⟨c, H0⟩
  case round =>
    obtain ⟨cc, HA⟩ := hrel
    clear H0
    obtain ⟨hk, hN, hok, col1, hE, hC⟩ := HA.out
    have HK := Lib.hid hk
    have HN := Lib.hid hN
    have HOK := Lib.hid hok
    have HE := Lib.hid hE
    have HC := Lib.hid hC
    clear hk hN hok hE hC HA
    obtain ⟨d15⟩ : ∃ _ : wr.cell? ⟨b, 15, none⟩ = some (.bool cc.decided), True := by
      obtain ⟨fv, wi, lo, va, pb, pp, cm, tn, sn, dc, hr⟩ := HC.out
      exact ⟨hr.cells.2.2.2.2.2.2.2.2.2.2.2.2.2.2.2.1, trivial⟩
    obtain ⟨dv, hdv⟩ : ∃ dv, cc.decided = dv := ⟨_, rfl⟩
    rw [hdv] at d15
    have HDV := Lib.hid hdv
    clear hdv
    cases dv
    · have htu := turn_any HE.out.tint HC.out HOK.out.inn
      have HTU := Lib.hid htu
      clear htu
      go_wp2_with fail
      refine HTU.out.mono ?_
      rintro e w1 hp1
      cases h1 : turnC cc with
      | some c' =>
        rw [h1] at hp1
        obtain ⟨rfl, col2, hE2, hC2⟩ := hp1
        have HX := Lib.hid (ActAt.next HK.out HN.out HOK.out HE.out HC.out HDV.out (by unfold stepC; rw [h1]) hE2 hC2)
        clear hE2 hC2
        go_wp2_with fail
        go_roundg (gk - 1)
        case measure => have := HK.out; omega
        case rel => exact ⟨_, HX⟩
      | none =>
        rw [h1] at hp1
        obtain ⟨rfl, hb1⟩ := hp1
        have HB1 := Lib.hid hb1
        have hC1 := HC.out.ext (G := fun _ => False) (Ext.below HE.out.tint HB1.out) HE.out.tint (fun _ h => h)
        have HP1 := Lib.hid (propose_any (HE.out.tint.below HB1.out) hC1 HOK.out.inn)
        have HH1 := Lib.hid h1
        clear hb1 hC1 h1
        go_wp2_with fail
        refine HP1.out.mono ?_
        rintro e w2 hp2
        cases h2 : proposeC cc with
        | some c' =>
          rw [h2] at hp2
          obtain ⟨rfl, col2, hE2, hC2⟩ := hp2
          have HX := Lib.hid (ActAt.next HK.out HN.out HOK.out HE.out HC.out HDV.out (by unfold stepC; rw [HH1.out, h2]) ((Ext.below HE.out.tint HB1.out).trans hE2) hC2)
          clear hE2 hC2
          go_wp2_with fail
          go_roundg (gk - 1)
          case measure => have := HK.out; omega
          case rel => exact ⟨_, HX⟩
        | none =>
          rw [h2] at hp2
          obtain ⟨rfl, hb2⟩ := hp2
          have HB2 := Lib.hid (HB1.out.trans (hb2.mono HB1.out.size))
          have hC2 := HC.out.ext (G := fun _ => False) (Ext.below HE.out.tint HB2.out) HE.out.tint (fun _ h => h)
          have HP2 := Lib.hid (prepare_any (HE.out.tint.below HB2.out) hC2 HOK.out.inn)
          have HH2 := Lib.hid h2
          clear hb2 hC2 h2
          go_wp2_with fail
          refine HP2.out.mono ?_
          rintro e w3 hp3
          cases h3 : prepareC acc cc with
          | some c' =>
            rw [h3] at hp3
            obtain ⟨rfl, col2, hE2, hC2⟩ := hp3
            have HX := Lib.hid (ActAt.next HK.out HN.out HOK.out HE.out HC.out HDV.out (by unfold stepC; rw [HH1.out, HH2.out, h3]) ((Ext.below HE.out.tint HB2.out).trans hE2) hC2)
            clear hE2 hC2
            go_wp2_with fail
            go_roundg (gk - 1)
            case measure => have := HK.out; omega
            case rel => exact ⟨_, HX⟩
          | none =>
            rw [h3] at hp3
            obtain ⟨rfl, hb3⟩ := hp3
            have HB3 := Lib.hid (HB2.out.trans (hb3.mono HB2.out.size))
            have hC3 := HC.out.ext (G := fun _ => False) (Ext.below HE.out.tint HB3.out) HE.out.tint (fun _ h => h)
            have HP3 := Lib.hid (commit_any (HE.out.tint.below HB3.out) hC3 HOK.out.inn (fun v hv => prepared_len HOK.out.inn hv))
            have HH3 := Lib.hid h3
            clear hb3 hC3 h3
            go_wp2_with fail
            refine HP3.out.mono ?_
            rintro e w4 hp4
            cases h4 : commitC cc with
            | some c' =>
              rw [h4] at hp4
              obtain ⟨rfl, col2, hE2, hC2⟩ := hp4
              have HX := Lib.hid (ActAt.next HK.out HN.out HOK.out HE.out HC.out HDV.out (by unfold stepC; rw [HH1.out, HH2.out, HH3.out, h4]) ((Ext.below HE.out.tint HB3.out).trans hE2) hC2)
              clear hE2 hC2
              go_wp2_with fail
              go_roundg (gk - 1)
              case measure => have := HK.out; omega
              case rel => exact ⟨_, HX⟩
            | none =>
              rw [h4] at hp4
              obtain ⟨rfl, hb4⟩ := hp4
              have HB4 := Lib.hid (HB3.out.trans (hb4.mono HB3.out.size))
              have hC4 := HC.out.ext (G := fun _ => False) (Ext.below HE.out.tint HB4.out) HE.out.tint (fun _ h => h)
              have HP4 := Lib.hid (decide_any (HE.out.tint.below HB4.out) hC4 HOK.out.inn)
              have HH4 := Lib.hid h4
              clear hb4 hC4 h4
              go_wp2_with fail
              refine HP4.out.mono ?_
              rintro e w5 ⟨rfl, hE5, hC5⟩
              obtain ⟨dd, hdd⟩ : ∃ dd, (decideC cc).decided = dd := ⟨_, rfl⟩
              rw [hdd]
              have hs5 : stepC acc cc = (decideC cc, dd) := by unfold stepC; rw [HH1.out, HH2.out, HH3.out, HH4.out, hdd]
              have hE6 := (Ext.below HE.out.tint HB4.out).trans hE5
              clear hdd
              cases dd
              · have HX := Lib.hid (ActAt.last HK.out HN.out HOK.out HE.out HDV.out hs5 hE6 hC5)
                clear hs5 hE6 hE5 hC5
                go_wp2_with fail
                go_end0
                exact ⟨⟨_, rfl⟩, HX.out⟩
              · have HX := Lib.hid (ActAt.next HK.out HN.out HOK.out HE.out HC.out HDV.out hs5 hE6 hC5)
                clear hs5 hE6 hE5 hC5
                go_wp2_with fail
                go_roundg (gk - 1)
                case measure => have := HK.out; omega
                case rel => exact ⟨_, HX⟩
    · go_wp2_with fail
      go_end0
      have hk := HK.out
      rw [actN_done (by omega) HDV.out] at HN
      exact ⟨⟨_, rfl⟩, HN.out ▸ ⟨HOK.out, col1, HE.out, HC.out⟩⟩

end Go.Proofs.Ytilhdelijdkjpaa
