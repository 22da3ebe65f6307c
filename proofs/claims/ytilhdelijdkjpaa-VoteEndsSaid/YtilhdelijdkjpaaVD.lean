/-
  decide.
-/
import Derived.Test.YtilhdelijdkjpaaVE
import Derived.Deep.CutRange
set_option linter.unusedVariables false
set_option linter.unusedSimpArgs false
namespace Go.Proofs.Ytilhdelijdkjpaa
open Go Go.RowKit Go.Maps Sac

theorem findSome_none {α β : Type} {f : α → Option β} {l : List α} (h : ∀ x ∈ l, f x = none) : l.findSome? f = none := by
  induction l with
  | nil => rfl
  | cons x l ih => rw [List.findSome?_cons, h x (by simp)]; exact ih (fun y hy => h y (by simp [hy]))
theorem findSome_at {α β : Type} [Inhabited α] {f : α → Option β} {b : β} : ∀ {l : List α} {j : Nat}, j < l.length → (∀ i, i < j → f (l.getD i default) = none) → f (l.getD j default) = some b → l.findSome? f = some b
  | [], j, h, _, _ => by simp at h
  | x :: l, 0, _, _, h => by
    rw [List.findSome?_cons]
    simp only [List.getD_cons_zero] at h
    rw [h]
  | x :: l, j + 1, hj, h1, h2 => by
    have h0 := h1 0 (by omega)
    simp only [List.getD_cons_zero] at h0
    rw [List.findSome?_cons, h0]
    simp only [List.getD_cons_succ] at h2
    exact findSome_at (by simpa using hj) (fun i hi => by have := h1 (i + 1) (by omega); simpa only [List.getD_cons_succ] using this) h2

theorem inner_at {α : Type} {m : List (Int × List (Int × α))} (hs : Srt m) {j : Nat} (hj : j < m.length) : inner m (m.getD j default).1 = (m.getD j default).2 := by
  unfold inner
  have : ((m.getD j default).1, (m.getD j default).2) ∈ m := by
    rw [List.getD_eq_getElem?_getD, List.getElem?_eq_getElem hj]
    exact List.getElem_mem _
  rw [lookM_of_mem hs this]; rfl
theorem keys_at {α : Type} [Inhabited α] {m : List (Int × α)} {j : Nat} (hj : j < m.length) : (m.map (·.1)).getD j 0 = (m.getD j default).1 := by
  rw [List.getD_eq_getElem?_getD, List.getElem?_map, List.getD_eq_getElem?_getD, List.getElem?_eq_getElem hj]; rfl

set_option maxRecDepth 100000 in
set_option maxHeartbeats 4000000 in
theorem decide_any {acc : Bs → Bool} {col : Colour} {ci b : Nat} {w : World} {c : Core} (ht : Tinted col w) (h : CoreAt acc col ci w b c) (hok : CoreIn c) :
    Calls Try.prog 92 #[.pointer (some ⟨b, 0, none⟩)] w fun e w' => e = .returned (.bool (decideC c).decided) ∧ Ext (fun q => q.1 = ci) col w col w' ∧ CoreAt acc col ci w' b (decideC c) := by
  obtain ⟨fv, wi, lo, va, pb, pp, cm, tn, sn, dc, h⟩ := h
  obtain ⟨_, _, _, _, _, _, _, _, _, d9, _⟩ := h.cells
  have hkk := viewsk_any (some cm) w
  obtain ⟨hcc, lo2, hmo, hr, hinj⟩ := id h.hcm
  have hsr := h.hcm.srts
  have hln : c.commits.length ≤ 10000000000 := by
    have := srt_length hsr.1 (a := 0) (b := 4294967295) (fun q hq => ⟨(hok.commits q hq).1, (hok.commits q hq).2.1⟩) (by omega)
    omega
  have hss := viewss_any cm lo2 w hmo (by rw [hr.length]; exact hln)
  rw [hr.keys] at hss
  obtain ⟨n, hn⟩ : ∃ n, c.commits.length = n := ⟨_, rfl⟩
  have HT := Lib.hid ht
  have HC := Lib.hid h
  have HOK := Lib.hid hok
  have HSR := Lib.hid hsr
  have HN := Lib.hid hn
  have hn2 : n ≤ 10000000000 := by rw [← hn]; exact hln
  clear ht h hok hcc hmo hr hinj hsr hln hn
  go_enter Try.func92, Try.ntmps92
  go_wp2_with fail
  refine hkk.mono ?_
  rintro e w1 ⟨rfl, rfl⟩
  go_wp2_with fail
  refine hss.mono ?_
  rintro e w2 ⟨v, rfl, hown, hb⟩
  obtain ⟨ka, kc, rfl, hkc, hcell⟩ := hown.form
  rw [List.length_map, HN.out] at hkc hcell ⊢
  have HCE := Lib.hid hcell
  have HB := Lib.hid hb
  clear hown hcell hb hkk hss d9
  go_wp2_with fail
  go_loopw [14] (fun u wr => ∃ j : Nat, j ≤ n ∧ u = .int .i64 j ∧ Hid (∀ i, i < j → count (c.commits.getD i default).2 (quorum c.n) = none) ∧ Hid (Below w2.heap.size w2 wr)) (fun u _ => n - (intOf u).toNat)
  case atStart => exact ⟨0, Nat.zero_le _, rfl, fun i hi => by omega, Below.refl _ _⟩
  case round =>
    obtain ⟨j, hj, rfl, HA, HW⟩ := hrel
    have hbw := HB.out.trans (HW.out.mono HB.out.size)
    have ht2 := HT.out.below hbw
    have hc2 : CoreRaw acc col ci wr b c fv wi lo va pb pp cm tn sn dc := HC.out.ext (G := fun _ => False) (Ext.below HT.out hbw) HT.out (fun _ h => h)
    obtain ⟨d0, _, _, _, _, _, _, _, _, d9, _, _, d12, _, _, d15, d16⟩ := hc2.cells
    have HBW := Lib.hid hbw
    have HT2 := Lib.hid ht2
    have HC2 := Lib.hid hc2
    by_cases hlt : (j : Int) < (n : Int)
    · obtain ⟨g, rfl, hbg, hg, c0⟩ := HCE.out j (by omega)
      rw [keys_at (by rw [HN.out]; omega)] at c0
      obtain ⟨⟨x, t⟩, hx⟩ : ∃ e, c.commits.getD j default = e := ⟨_, rfl⟩
      have hmem : (x, t) ∈ c.commits := by
        rw [← hx, List.getD_eq_getElem?_getD, List.getElem?_eq_getElem (by rw [HN.out]; omega)]
        exact List.getElem_mem _
      rw [hx] at c0
      dsimp only at c0
      have k0 : wr.cell? ⟨g, j, none⟩ = _ := (HW.out.cell (p := ⟨g, j, none⟩) hg).trans c0
      have hin : inner c.commits x = t := by
        have := inner_at HSR.out.1 (j := j) (by rw [HN.out]; omega)
        rw [hx] at this; exact this
      have hxv := HOK.out.commits _ hmem
      dsimp only at hxv
      obtain ⟨mv, hl, hT⟩ := (hc2.hcm.drew ht2).look (view := x) (wf64_mk (by omega) (by omega))
      rw [hin] at hT
      have hq := quorum_any c.n wr.drew (by have := HOK.out.n; omega)
      have hsm := inner_small HOK.out.commits HSR.out.2 x
      rw [hin] at hsm
      have hct := count_any (quorum c.n) hT hsm
      have HQ := Lib.hid hq
      have HCT := Lib.hid hct
      have HX := Lib.hid hx
      clear hx hmem c0 hin hT hq hsm hct hbw ht2 hc2 d12 d15 d16
      go_upto_region 4 with fail
      go_cut [5, 6, 18] from 15 to 41 (fun t5 t6 t18 wx => ∃ v5, t5 = v5 ∧ t6 = .bool (count t (quorum c.n)).isSome ∧ Hid (Below wr.heap.size wr wx) ∧ Hid (RB wx v5 ((count t (quorum c.n)).getD [])))
      case first =>
        go_region_law (first
          | (go_simp; go_at_call 113; refine HQ.out.mono ?_; rintro e wq ⟨rfl, rfl⟩)
          | (go_simp; go_at_call 112; refine HCT.out.mono ?_; rintro e w5 ⟨hb5, v5, rfl, hrb5⟩))
        all_goals
          go_wp2_with fail
          go_meet
          exact ⟨v5, rfl, rfl, (Below.refl _ wr).drew.trans hb5, hrb5⟩
      case rest =>
        obtain ⟨v5, rfl, rfl, HB5, HR5⟩ := hcut
        obtain ⟨o, ho⟩ : ∃ o, count t (quorum c.n) = o := ⟨_, rfl⟩
        rw [ho] at HR5 ⊢
        have HO := Lib.hid ho
        clear ho d0 d9 k0 hl HQ HCT
        cases o with
        | none =>
          go_wp2_with fail
          go_roundw
          case rel => exact ⟨j + 1, by omega, by go_num, fun i hi => by
            rcases Nat.lt_or_ge i j with h | h
            · exact HA.out i h
            · obtain rfl : i = j := by omega
              rw [HX.out]; exact HO.out, HW.out.trans (HB5.out.mono HW.out.size)⟩
          case measure => simp [intOf]; omega
        | some vs =>
          have hag : agreed c = some vs := by
            unfold agreed
            exact findSome_at (j := j) (by rw [HN.out]; omega) (fun i hi => HA.out i hi) (by rw [HX.out]; exact HO.out)
          obtain ⟨sa, sl, sc, rfl⟩ := HR5.out.form
          have ht5 := HT2.out.below HB5.out
          have hc5 : CoreRaw acc col ci wc b c fv wi lo va pb pp cm tn sn dc := HC2.out.ext (G := fun _ => False) (Ext.below HT2.out HB5.out) HT2.out (fun _ h => h)
          have f15 := hc5.hblk.frozen 15
          have f16 := hc5.hblk.frozen 16
          have d15 := hc5.hblk.cell 15
          have d16 := hc5.hblk.cell 16
          simp only [List.getElem?_cons_zero, List.getElem?_cons_succ] at d15 d16
          have hbs := (hc5.hblk.set 15 (.bool true)).set 16 (.slice sa sl sc)
          have hO3 : Only (· = b) wc ((wc.setCell ⟨b, 15, none⟩ (.bool true)).setCell ⟨b, 16, none⟩ (.slice sa sl sc)) := ((Only.refl (· = b) wc).setCell (fun _ => rfl) _).setCell (fun _ => rfl) _
          have hE3 := Ext.own ht5 hc5 hO3 ⟨_, hbs⟩
          have hc3 : CoreRaw acc col ci ((wc.setCell ⟨b, 15, none⟩ (.bool true)).setCell ⟨b, 16, none⟩ (.slice sa sl sc)) b { c with decided := true, value := vs } fv wi lo (.slice sa sl sc) pb pp cm tn sn dc :=
            hc5.own hE3 ht5 hbs (hc5.hwi.ext hE3 ht5) (hc5.hlo.ext hE3 ht5) (HR5.out.ext hE3 ht5) rfl rfl rfl rfl rfl rfl
          have HC3 := Lib.hid hc3
          have HAG := Lib.hid hag
          have HE3 : Hid (Ext (fun q => q.1 = ci) col w col _) := ((Ext.below HT.out HBW.out).trans (Ext.below HT2.out HB5.out)).trans (hE3.mono (fun q e => by rw [e]))
          clear hag ht5 hc5 hbs hO3 hE3 hc3
          go_wp2_with fail
          go_ret
          have hd : decideC c = { c with decided := true, value := vs } := by unfold decideC; rw [HAG.out]
          rw [hd]
          exact ⟨rfl, HE3.out, _, _, _, _, _, _, _, _, _, _, HC3.out⟩
    · obtain rfl : j = n := by omega
      have hag : agreed c = none := by
        unfold agreed
        refine findSome_none fun p hp => ?_
        obtain ⟨i, hi, rfl⟩ := List.getElem_of_mem hp
        have := HA.out i (by rw [← HN.out]; exact hi)
        rwa [List.getD_eq_getElem?_getD, List.getElem?_eq_getElem hi] at this
      have HAG := Lib.hid hag
      have hdt : TMap wr.drew (.map (some dc)) c.deciders := by
        obtain ⟨e1, l, e2, e3⟩ := hc2.hdc
        exact .inr ⟨dc, l, rfl, e2.same rfl, e3.mono (fun v y hq => hq.below (Below.refl _ wr).drew)⟩
      have hsd : c.deciders.length ≤ 1000 := by
        obtain ⟨e1, l, e2, e3⟩ := hc2.hdc
        have := srt_length (e3.srt e2.srt) HOK.out.deciders (by omega)
        omega
      have hct := count_any (faults c.n + 1) hdt hsd
      obtain ⟨o, ho⟩ : ∃ o, count c.deciders (faults c.n + 1) = o := ⟨_, rfl⟩
      rw [ho] at hct
      have HO := Lib.hid ho
      have HCT := Lib.hid hct
      have h1 : IntKind.i64.wrap (c.n - 1) = c.n - 1 := by rw [IntKind.wrap_i64]; have := HOK.out.n; omega
      have h2 : (c.n - 1).tdiv 3 = faults c.n := by rw [Int.tdiv_eq_ediv_of_nonneg (by have := HOK.out.n; omega)]; rfl
      have hfb : 0 ≤ faults c.n ∧ faults c.n ≤ 64 := by unfold faults; have := HOK.out.n; omega
      have h3 : IntKind.i64.wrap (faults c.n) = faults c.n := by rw [IntKind.wrap_i64]; omega
      have h4 : IntKind.i64.wrap (faults c.n + 1) = faults c.n + 1 := by rw [IntKind.wrap_i64]; omega
      have f15 := hc2.hblk.frozen 15
      have f16 := hc2.hblk.frozen 16
      clear hag hdt hsd hct ho hbw ht2 hc2 d9
      go_upto_region 9 with fail
      go_cut [42] from 43 to 62 (fun t42 wx => Hid (Ext (fun q => q.1 = ci) col w col wx) ∧ Hid (CoreAt acc col ci wx b (decideC c)))
      case first =>
        go_region_law (first
          | (go_simp; go_at_call 112; refine HCT.out.mono ?_; rintro e w5 ⟨hb5, v5, rfl, hrb5⟩; obtain ⟨sa, sl, sc, rfl⟩ := hrb5.form; have hb5' : Below wr.heap.size wr w5 := (Below.refl _ wr).drew.trans hb5; have g15 := (hb5'.cell (p := ⟨b, 15, none⟩) HC2.out.hblk.lt).trans d15; have g16 := (hb5'.cell (p := ⟨b, 16, none⟩) HC2.out.hblk.lt).trans d16; have f15' := (HC2.out.hblk.below hb5' HC2.out.hblk.lt).frozen 15; have f16' := (HC2.out.hblk.below hb5' HC2.out.hblk.lt).frozen 16; have HB5 := Lib.hid hb5'; have HR5 := Lib.hid hrb5; clear hb5 hb5' hrb5)
          | fail)
        all_goals
          go_wp2_with fail
          go_meet
          have ht5 := HT2.out.below HB5.out
          have hc5 : CoreRaw acc col ci w5 b c fv wi lo va pb pp cm tn sn dc := HC2.out.ext (G := fun _ => False) (Ext.below HT2.out HB5.out) HT2.out (fun _ h => h)
          have hbs := (hc5.hblk.set 16 (.slice sa sl sc)).set 15 (.bool o.isSome)
          have hO3 : Only (· = b) w5 ((w5.setCell ⟨b, 16, none⟩ (.slice sa sl sc)).setCell ⟨b, 15, none⟩ (.bool o.isSome)) := ((Only.refl (· = b) w5).setCell (fun _ => rfl) _).setCell (fun _ => rfl) _
          have hE3 := Ext.own ht5 hc5 hO3 ⟨_, hbs⟩
          have hc3 : CoreRaw acc col ci ((w5.setCell ⟨b, 16, none⟩ (.slice sa sl sc)).setCell ⟨b, 15, none⟩ (.bool o.isSome)) b { c with decided := o.isSome, value := o.getD [] } fv wi lo (.slice sa sl sc) pb pp cm tn sn dc :=
            hc5.own hE3 ht5 hbs (hc5.hwi.ext hE3 ht5) (hc5.hlo.ext hE3 ht5) (HR5.out.ext hE3 ht5) rfl rfl rfl rfl rfl rfl
          have hd : decideC c = { c with decided := o.isSome, value := o.getD [] } := by
            unfold decideC
            rw [HAG.out]
            dsimp only
            rw [HO.out]
            cases o <;> rfl
          refine ⟨((Ext.below HT.out HBW.out).trans (Ext.below HT2.out HB5.out)).trans (hE3.mono (fun q e => by rw [e])), ?_⟩
          show CoreAt acc col ci _ b (decideC c)
          rw [hd]
          exact ⟨_, _, _, _, _, _, _, _, _, _, hc3⟩
      case rest =>
        obtain ⟨HE9, HC9⟩ := hcut
        have hx : wc.cell? ⟨b, 15, none⟩ = some (.bool (decideC c).decided) := by
          obtain ⟨fv2, wi2, lo2, va2, pb2, pp2, cm2, tn2, sn2, dc2, h9⟩ := HC9.out
          exact h9.hblk.cell 15
        clear d0 d12 d15 d16 f15 f16
        go_wp2_with fail
        go_ret
        exact ⟨rfl, HE9.out, HC9.out⟩

end Go.Proofs.Ytilhdelijdkjpaa
