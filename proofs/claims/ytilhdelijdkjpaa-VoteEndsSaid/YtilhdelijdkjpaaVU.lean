/-
  turn: it goes to a view to which f + 1 others have gone.
-/
import Derived.Test.YtilhdelijdkjpaaVV
import Derived.Test.YtilhdelijdkjpaaVE
set_option linter.unusedVariables false
set_option linter.unusedSimpArgs false
namespace Go.Proofs.Ytilhdelijdkjpaa
open Go Go.RowKit Go.Maps Sac

set_option maxRecDepth 100000 in
set_option maxHeartbeats 2000000 in
theorem turn_any {acc : Bs → Bool} {col : Colour} {ci b : Nat} {w : World} {c : Core} (ht : Tinted col w) (h : CoreAt acc col ci w b c) (hok : CoreIn c) :
    Calls Try.prog 88 #[.pointer (some ⟨b, 0, none⟩)] w (StepPost acc (turnC c) col ci b w) := by
  obtain ⟨fv, wi, lo, va, pb, pp, cm, tn, sn, dc, h⟩ := h
  obtain ⟨_, _, _, _, _, _, _, _, _, _, _, d11, _⟩ := h.cells
  obtain ⟨e1, l, hm, hr⟩ := id h.hsn
  have hln : c.seen.length ≤ 64 := by
    have := srt_length (hr.srt hm.srt) hok.seen (by omega)
    omega
  have hv := vals_any (some sn) w
  have hs := valss_any sn l c.seen w hm hr (by rw [hr.length]; omega)
  obtain ⟨xs, hxs⟩ : ∃ xs, views c = xs := ⟨_, rfl⟩
  have hxs2 : sortI (c.seen.map (·.2)) = xs := hxs
  rw [hxs2] at hs
  have hxl : xs.length ≤ 64 := by rw [← hxs]; unfold views; rw [(perm_sortI _).length_eq, List.length_map]; exact hln
  obtain ⟨n, hn⟩ : ∃ n, xs.length = n := ⟨_, rfl⟩
  rw [hn] at hxl
  have h1 : IntKind.i64.wrap (c.n - 1) = c.n - 1 := by rw [IntKind.wrap_i64]; have := hok.n; omega
  have h2 : (c.n - 1).tdiv 3 = faults c.n := by rw [Int.tdiv_eq_ediv_of_nonneg (by have := hok.n; omega)]; rfl
  have hfb : 0 ≤ faults c.n ∧ faults c.n ≤ 64 := by unfold faults; have := hok.n; omega
  have h3 : IntKind.i64.wrap (faults c.n) = faults c.n := by rw [IntKind.wrap_i64]; omega
  have HT := Lib.hid ht
  have HC := Lib.hid h
  have HOK := Lib.hid hok
  have HN := Lib.hid hn
  have HXS := Lib.hid hxs
  clear ht h hok hn hxs hxs2 e1 hm hr hln
  go_enter Try.func88, Try.ntmps88
  go_wp2_with fail
  refine hv.mono ?_
  rintro e w1 ⟨rfl, rfl⟩
  go_wp2_with fail
  refine hs.mono ?_
  rintro e w2 ⟨v, rfl, hown, hb⟩
  obtain ⟨ka, kc, rfl, hkc, hcell⟩ := hown.form
  rw [HN.out] at hkc hcell ⊢
  have ht2 := HT.out.below hb
  have hc2 : CoreRaw acc col ci w2 b c fv wi lo va pb pp cm tn sn dc := HC.out.ext (G := fun _ => False) (Ext.below HT.out hb) HT.out (fun _ h => h)
  obtain ⟨d0, _, _, _, d4, _, _, _, _, _, _, _, _, _, _, _, _⟩ := hc2.cells
  have f4 := hc2.hblk.frozen 4
  have HCE := Lib.hid hcell
  have HB := Lib.hid hb
  have HT2 := Lib.hid ht2
  have HC2 := Lib.hid hc2
  clear hown hcell hb hv hs d11 ht2 hc2
  by_cases hle : (n : Int) ≤ faults c.n
  · have hlb : decide ((n : Int) ≤ faults c.n) = true := decide_eq_true hle
    go_wp2_with fail
    go_region
    all_goals
      go_wp2_with fail
      go_ret
      show StepPost _ (turnC c) _ _ _ _ _ _
      rw [show turnC c = none by unfold turnC; rw [HXS.out]; dsimp only; rw [if_pos (by rw [HN.out]; exact hle)]]
      exact ⟨rfl, HB.out.drew⟩
  · have hlb : decide ((n : Int) ≤ faults c.n) = false := decide_eq_false hle
    obtain ⟨i, hi⟩ : ∃ i : Nat, n - 1 - (faults c.n).toNat = i := ⟨_, rfl⟩
    have hii : (n : Int) - 1 - faults c.n = (i : Int) := by omega
    have hin : i < n := by omega
    obtain ⟨g, rfl, hbg, hg, c0⟩ := HCE.out i hin
    obtain ⟨x, hx⟩ : ∃ x, xs.getD i 0 = x := ⟨_, rfl⟩
    rw [hx] at c0
    have k1 : IntKind.i64.wrap ((n : Int) - 1) = (n : Int) - 1 := by rw [IntKind.wrap_i64]; omega
    have k2 : IntKind.i64.wrap ((n : Int) - 1 - faults c.n) = (i : Int) := by rw [hii, IntKind.wrap_i64]; omega
    have k3 : (i : Int) < (n : Int) := by omega
    have k4 : (0 : Int) ≤ (i : Int) := by omega
    have hxv : xs.getD (xs.length - 1 - (faults c.n).toNat) 0 = x := by rw [HN.out, hi]; exact hx
    have HXV := Lib.hid hxv
    clear hii hi hx hxv
    have htc : turnC c = if x ≤ c.view then none else some { c with view := x } := by
      unfold turnC
      rw [HXS.out]
      dsimp only
      rw [if_neg (by rw [HN.out]; exact hle), HXV.out]
    have HTC := Lib.hid htc
    clear htc
    by_cases hxc : x ≤ c.view
    · have hxb : decide (x ≤ c.view) = true := decide_eq_true hxc
      go_wp2_with fail
      go_region
      all_goals
        go_wp2_with fail
        go_ret
        show StepPost _ (turnC c) _ _ _ _ _ _
        rw [HTC.out, if_pos hxc]
        exact ⟨rfl, HB.out.drew⟩
    · have hxb : decide (x ≤ c.view) = false := decide_eq_false hxc
      have hbs := (HC2.out.hblk.set 4 (.int .i64 x)).drew
      have hO3 : Only (· = b) w2 (w2.setCell ⟨b, 4, none⟩ (.int .i64 x)).drew := ((Only.refl (· = b) w2).setCell (fun _ => rfl) _).drew
      have hE3 := Ext.own HT2.out HC2.out hO3 ⟨_, hbs⟩
      have hc3 : CoreRaw acc col ci (w2.setCell ⟨b, 4, none⟩ (.int .i64 x)).drew b { c with view := x } fv wi lo va pb pp cm tn sn dc :=
        HC2.out.own hE3 HT2.out hbs (HC2.out.hwi.ext hE3 HT2.out) (HC2.out.hlo.ext hE3 HT2.out) (HC2.out.hva.ext hE3 HT2.out) rfl rfl rfl rfl rfl rfl
      have HC3 := Lib.hid hc3
      have HE3 : Hid (Ext (fun q => q.1 = ci) col w col _) := (Ext.below HT.out HB.out).trans (hE3.mono (fun q e => by rw [e]))
      clear hbs hO3 hE3 hc3
      go_wp2_with fail
      go_region
      all_goals
        go_wp2_with fail
        go_ret
        show StepPost _ (turnC c) _ _ _ _ _ _
        rw [HTC.out, if_neg (by omega)]
        exact ⟨rfl, col, HE3.out, _, _, _, _, _, _, _, _, _, _, HC3.out⟩

end Go.Proofs.Ytilhdelijdkjpaa
