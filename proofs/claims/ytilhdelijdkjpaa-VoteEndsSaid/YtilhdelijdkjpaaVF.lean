/-
  fit: may a proposal be prepared?
-/
import Derived.Test.YtilhdelijdkjpaaVE
import Derived.Deep.CutRange
set_option linter.unusedVariables false
set_option linter.unusedSimpArgs false
namespace Go.Proofs.Ytilhdelijdkjpaa
open Go Go.RowKit Go.Maps Sac

set_option maxRecDepth 100000 in
set_option maxHeartbeats 2000000 in
theorem fit_any {acc : Bs → Bool} {col : Colour} {ci b : Nat} {w : World} {c : Core} (s : Value) (bs : Bs) (valid : Int) (ht : Tinted col w) (h : CoreAt acc col ci w b c) (hok : CoreIn c) (hs : RB w s bs) (hlen : bs.length ≤ 4096) (hv : -1 ≤ valid ∧ valid ≤ 4294967295) :
    Calls Try.prog 110 #[.pointer (some ⟨b, 0, none⟩), .agg #[s, .int .i64 valid]] w fun e w' => e = .returned (.bool (fit acc c (bs, valid))) ∧ Below w.heap.size w w' := by
  obtain ⟨fv, wi, lo, va, pb, pp, cm, tn, sn, dc, h⟩ := h
  obtain ⟨sa, sl, sc, rfl⟩ := hs.form
  obtain ⟨la, ll, lc, rfl⟩ := h.hlo.form
  obtain ⟨f, rfl, hent, hcall⟩ := h.hacc.form
  have hb1 : Below w.heap.size w (w.alloc (.cells #[.slice sa sl sc, .int .i64 valid] 116)) := (Below.refl _ w).alloc (Nat.le_refl _) _
  have hB : Blk (w.alloc (.cells #[.slice sa sl sc, .int .i64 valid] 116)) w.heap.size 116 [.slice sa sl sc, .int .i64 valid] := Blk.new w [.slice sa sl sc, .int .i64 valid] 116
  obtain ⟨w1, hw1⟩ : ∃ w1, w.alloc (.cells #[.slice sa sl sc, .int .i64 valid] 116) = w1 := ⟨_, rfl⟩
  obtain ⟨B, hBB⟩ : ∃ B, w.heap.size = B := ⟨_, rfl⟩
  rw [hw1] at hb1 hB
  rw [hBB] at hB
  have ht1 := ht.below hb1
  have hc1 : CoreRaw acc col ci w1 b c (.func (.func f) #[] #[]) wi (.slice la ll lc) va pb pp cm tn sn dc := h.ext (G := fun _ => False) (Ext.below ht hb1) ht (fun _ h => h)
  have hs1 := hs.below hb1
  have hcl := clone_any (.slice sa sl sc) bs w1.drew (show RB w1.drew _ _ from hs1) (by omega)
  obtain ⟨d0, d1, d2, d3, d4, d5, d6, d7, d8, d9, d10, d11, d12, d13, d14, d15, d16⟩ := hc1.cells
  have p0 := hB.cell 0
  have p1 := hB.cell 1
  simp only [List.getElem?_cons_zero, List.getElem?_cons_succ] at p0 p1
  have HT1 := Lib.hid ht1
  have HC1 := Lib.hid hc1
  have HB1 := Lib.hid hb1
  have HB := Lib.hid hB
  have HS1 := Lib.hid hs1
  have HCL := Lib.hid hcl
  have HCA := Lib.hid hcall
  have HOK := Lib.hid hok
  have HW1 := Lib.hid hw1
  have HBB := Lib.hid hBB
  have hbl := hc1.hblk.lt
  clear ht h hs hb1 hB hw1 ht1 hc1 hs1 hcl hcall hok d0 d1 d2 d5 d6 d7 d8 d9 d10 d11 d12 d15 d16 hBB
  go_enter Try.func110, Try.ntmps110
  go_wp2_with fail
  rw [HW1.out, HBB.out]
  go_cut [15] from 7 to 15 (fun t15 wx => t15 = .bool (!acc bs) ∧ Hid (Below w1.heap.size w1 wx))
  case first =>
    go_region_law (first
      | (go_simp; go_at_call 62; refine HCL.out.mono ?_; rintro e w2 ⟨v2, rfl, hbuf, hb0⟩; have hb2 : Below w1.heap.size w1 w2 := (Below.refl _ w1).drew.trans hb0; have e3 : w2.cell? ⟨b, 3, none⟩ = some (.func (.func f) #[] #[]) := (hb2.cell (p := ⟨b, 3, none⟩) hbl).trans d3; have HCA2 := Lib.hid (HCA.out w2 v2 bs hbuf.rb); have HB2 := Lib.hid hb2; clear hb0 hb2 hbuf)
      | (go_simp; refine HCA2.out.mono ?_; rintro e w3 ⟨rfl, hb3⟩)
      | fail)
    all_goals
      go_wp2_with fail
      go_meet
      exact ⟨rfl, HB2.out.trans (hb3.mono HB2.out.size)⟩
  case rest =>
    obtain ⟨rfl, HX⟩ := hcut
    obtain ⟨av, hav⟩ : ∃ av, acc bs = av := ⟨_, rfl⟩
    rw [hav]
    have HAV := Lib.hid hav
    clear hav d3 d4 d13 d14 p0 p1
    cases av
    · go_wp2_with fail
      go_ret
      exact ⟨by simp [fit, HAV.out], HB1.out.trans (HX.out.mono HB1.out.size)⟩
    · have ht2 := HT1.out.below HX.out
      have hc2 : CoreRaw acc col ci wc b c (.func (.func f) #[] #[]) wi (.slice la ll lc) va pb pp cm tn sn dc := HC1.out.ext (G := fun _ => False) (Ext.below HT1.out HX.out) HT1.out (fun _ h => h)
      have hB2 := HB.out.below HX.out HB.out.lt
      have hs2 := HS1.out.below HX.out
      obtain ⟨d0, d1, d2, d3, d4, d5, d6, d7, d8, d9, d10, d11, d12, d13, d14, d15, d16⟩ := hc2.cells
      have p0 := hB2.cell 0
      have p1 := hB2.cell 1
      simp only [List.getElem?_cons_zero, List.getElem?_cons_succ] at p0 p1
      have heq := equal_any _ _ _ _ wc.drew (show RB wc.drew _ _ from hs2) (show RB wc.drew _ _ from hc2.hlo)
      have hpr := prepared_any valid (ht2.below (Below.refl _ wc).drew) ⟨_, _, _, _, _, _, _, _, _, _, hc2.ext (G := fun _ => False) (Ext.below ht2 (Below.refl _ wc).drew) ht2 (fun _ h => h)⟩ HOK.out hv
      have HEQ := Lib.hid heq
      have HPR := Lib.hid hpr
      have HT2 := Lib.hid ht2
      have HC2 := Lib.hid hc2
      have HB2 := Lib.hid hB2
      have HS2 := Lib.hid hs2
      have HXX := Lib.hid (HB1.out.trans (HX.out.mono HB1.out.size))
      clear heq hpr ht2 hc2 hB2 hs2 d0 d1 d2 d3 d5 d6 d7 d8 d9 d10 d11 d12 d15 d16
      by_cases hlk : c.lock < 0
      · go_wp2_with fail
        go_region
        all_goals
          go_wp2_with fail
          go_ret
          exact ⟨by simp [fit, HAV.out, hlk], HXX.out.drew⟩
      · obtain ⟨ev, hev⟩ : ∃ ev, (bs == c.locked) = ev := ⟨_, rfl⟩
        rw [hev] at HEQ
        have HEV := Lib.hid hev
        clear hev
        have hll : ¬ c.lock < 0 := hlk
        have hlb : decide (c.lock < 0) = false := decide_eq_false hll
        go_wp2_with fail
        go_region_held3 (fun w' => w'.cell? ⟨b, 13, none⟩ = some (.int .i64 c.lock) ∧ w'.cell? ⟨B, 0, none⟩ = some (.slice sa sl sc) ∧ w'.cell? ⟨b, 14, none⟩ = some (.slice la ll lc)) (first | exact ⟨d13, p0, d14⟩ | assumption)
          (first | (go_at_call 71; refine HEQ.out.mono ?_; rintro e w2 ⟨rfl, rfl⟩))
        cases ev
        · clear d4 d13 d14 p0
          go_wp2_with fail
          refine HPR.out.mono ?_
          rintro e w5 ⟨hb5, v5, rfl, hrb5⟩
          clear p1
          have hb5' : Below wc.heap.size wc w5 := (Below.refl _ wc).drew.trans hb5
          have hc5 : CoreRaw acc col ci w5 b c (.func (.func f) #[] #[]) wi (.slice la ll lc) va pb pp cm tn sn dc := HC2.out.ext (G := fun _ => False) (Ext.below HT2.out hb5') HT2.out (fun _ h => h)
          have hB5 := HB2.out.below hb5' HB2.out.lt
          have hs5 := HS2.out.below hb5'
          obtain ⟨_, _, _, _, d4, _, _, _, _, _, _, _, _, d13, _, _, _⟩ := hc5.cells
          have p0 := hB5.cell 0
          have p1 := hB5.cell 1
          simp only [List.getElem?_cons_zero, List.getElem?_cons_succ] at p0 p1
          have heq5 := equal_any v5 _ _ _ w5.drew (show RB w5.drew _ _ from hrb5) (show RB w5.drew _ _ from hs5)
          have HEQ5 := Lib.hid heq5
          have HX5 := Lib.hid (HXX.out.trans (hb5'.mono HXX.out.size))
          clear heq5 hb5 hb5' hc5 hB5 hs5 hrb5 HPR HEQ
          by_cases h1 : c.lock ≤ valid
          · by_cases h2 : valid < c.view
            · cases hpv : prepared c valid with
              | none =>
                rw [hpv] at HEQ5
                have HPV := Lib.hid hpv
                have hb1 : decide (c.lock ≤ valid) = true := decide_eq_true h1
                have hb2 : decide (valid < c.view) = true := decide_eq_true h2
                clear hpv
                go_wp2_with fail
                go_region
                all_goals
                  go_wp2_with fail
                  go_ret
                  exact ⟨by simp [fit, HAV.out, HEV.out, HPV.out]; exact hll, HX5.out.drew⟩
              | some pv =>
                rw [hpv] at HEQ5
                have HPV := Lib.hid hpv
                clear hpv
                obtain ⟨qv, hqv⟩ : ∃ qv, (pv == bs) = qv := ⟨_, rfl⟩
                have HEQ6 : Hid (Calls Try.prog 71 #[v5, .slice sa sl sc] w5.drew fun e w' => e = .returned (.bool qv) ∧ w' = w5.drew) := by rw [← hqv]; exact HEQ5.out
                have HQV := Lib.hid hqv
                clear hqv HEQ5
                have hb1 : decide (c.lock ≤ valid) = true := decide_eq_true h1
                have hb2 : decide (valid < c.view) = true := decide_eq_true h2
                go_wp2_with fail
                go_region_held3 (fun w' => w'.cell? ⟨b, 13, none⟩ = some (.int .i64 c.lock) ∧ w'.cell? ⟨b, 4, none⟩ = some (.int .i64 c.view) ∧ w'.cell? ⟨B, 0, none⟩ = some (.slice sa sl sc) ∧ w'.cell? ⟨B, 1, none⟩ = some (.int .i64 valid)) (first | exact ⟨d13, d4, p0, p1⟩ | assumption)
                  (first | (go_at_call 71; refine HEQ6.out.mono ?_; rintro e w6 ⟨rfl, rfl⟩))
                go_wp2_with fail
                go_ret
                exact ⟨ret_bool (by simp [fit, HAV.out, HEV.out, HPV.out, HQV.out, h1, h2]; exact fun h => absurd h (by omega)), HX5.out.drew⟩
            · have h2' : ¬ valid < c.view := h2
              have hb1 : decide (c.lock ≤ valid) = true := decide_eq_true h1
              have hb2 : decide (valid < c.view) = false := decide_eq_false h2
              go_wp2_with fail
              go_region
              all_goals
                go_wp2_with fail
                go_ret
                exact ⟨by simp [fit, HAV.out, HEV.out, h2']; omega, HX5.out.drew⟩
          · have h1' : ¬ c.lock ≤ valid := h1
            have hb1 : decide (c.lock ≤ valid) = false := decide_eq_false h1
            go_wp2_with fail
            go_region
            all_goals
              go_wp2_with fail
              go_ret
              exact ⟨by simp [fit, HAV.out, HEV.out, h1']; omega, HX5.out.drew⟩
        · go_wp2_with fail
          go_ret
          exact ⟨by simp [fit, HAV.out, HEV.out], HXX.out.drew⟩

end Go.Proofs.Ytilhdelijdkjpaa
