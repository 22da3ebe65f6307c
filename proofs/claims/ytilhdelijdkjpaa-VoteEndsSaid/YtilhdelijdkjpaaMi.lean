/-
  mine: a core's own votes of a kind, rising by views.
-/
import Derived.Test.YtilhdelijdkjpaaRw
import Derived.Test.YtilhdelijdkjpaaVD
set_option linter.unusedVariables false
set_option linter.unusedSimpArgs false
namespace Go.Proofs.Ytilhdelijdkjpaa
open Go Go.RowKit Go.Maps Sac

theorem mine_step (c : Core) (kind : Int) (m : List (Int × TellM)) {j : Nat} (hj : j < m.length) :
    mine c kind (m.take (j + 1)) = mine c kind (m.take j) ++ (match lookM (m.getD j default).2 c.me with | none => [] | some v => [⟨kind, c.me, c.slot, (m.getD j default).1, -1, v⟩]) := by
  rw [List.take_add_one, List.getElem?_eq_getElem hj, List.getD_eq_getElem?_getD, List.getElem?_eq_getElem hj]
  unfold mine
  rw [List.filterMap_append]
  congr 1
  simp only [Option.toList_some, List.filterMap_cons, List.filterMap_nil, Option.getD_some]
  cases lookM m[j].2 c.me <;> rfl
theorem mine_length (c : Core) (kind : Int) (m : List (Int × TellM)) : (mine c kind m).length ≤ m.length := List.length_filterMap_le _ _

/-- The votes' values lie in blocks of their own, from base on. -/
def VFresh (base : Nat) (L : List VV) : Prop := ∀ p ∈ L, ∀ k, p.sl.ownBlock = some k → base ≤ k
/-- What mine hands back. -/
def VotesPost (l : List Vt) (w : World) (e : Ending) (w' : World) : Prop := ∃ v L, e = .returned v ∧ VOwn w' w.heap.size v L ∧ VGood w' L ∧ L.map (·.vt) = l ∧ Below w.heap.size w w'

def MinePost (l : List Vt) (w : World) (e : Ending) (w' : World) : Prop := ∃ v L, e = .returned v ∧ VOwn w' w.heap.size v L ∧ VGood w' L ∧ L.map (·.vt) = l ∧ Below w.heap.size w w' ∧ VFresh w.heap.size L

set_option maxRecDepth 100000 in
set_option maxHeartbeats 4000000 in
theorem mine_fresh {acc : Bs → Bool} {col : Colour} {ci b p ob : Nat} {w : World} {c : Core} {m : List (Int × TellM)} (kind : Int) (ht : Tinted col w) (h : CoreAt acc col ci w b c) (hm : ViewsAt col ci p w ob m) (hok : MapsOk m) (hme : 1 ≤ c.me ∧ c.me ≤ 64) (hlen : ∀ q ∈ m, ∀ r ∈ q.2, r.2.length ≤ 10000000000000) :
    Calls Try.prog 59 #[.pointer (some ⟨b, 0, none⟩), .int .i64 kind, .map (some ob)] w (MinePost (mine c kind m) w) := by
  obtain ⟨fv, wi, lo, va, pb, pp, cm, tn, sn, dc, h⟩ := h
  have hkk := viewsk_any (some ob) w
  obtain ⟨hcc, lo2, hmo, hr, hinj⟩ := id hm
  have hsr := hm.srts
  have hln : m.length ≤ 10000000000 := by
    have := srt_length hsr.1 (a := 0) (b := 4294967295) (fun q hq => ⟨(hok q hq).1, (hok q hq).2.1⟩) (by omega)
    omega
  have hss := viewss_any ob lo2 w hmo (by rw [hr.length]; exact hln)
  rw [hr.keys] at hss
  obtain ⟨n, hn⟩ : ∃ n, m.length = n := ⟨_, rfl⟩
  have HT := Lib.hid ht
  have HC := Lib.hid h
  have HM := Lib.hid hm
  have HOK := Lib.hid hok
  have HME := Lib.hid hme
  have HLEN := Lib.hid hlen
  have HSR := Lib.hid hsr
  have HN := Lib.hid hn
  have hn2 : n ≤ 10000000000 := by rw [← hn]; exact hln
  clear ht h hm hok hme hlen hcc hmo hr hinj hsr hln hn
  go_enter Try.func59, Try.ntmps59
  go_wp2_with fail
  refine hkk.mono ?_
  rintro e w1 ⟨rfl, rfl⟩
  go_wp2_with fail
  refine hss.mono ?_
  rintro e w2 ⟨v, rfl, hown, hb⟩
  obtain ⟨ka, kc, rfl, hkc, hcell⟩ := hown.form
  rw [List.length_map, HN.out] at hkc hcell ⊢
  have HCE := Lib.hid hcell
  have HB := Lib.hid hb
  clear hown hcell hb hkk hss
  go_wp2_with fail
  go_loopw [7, 16] (fun out u wr => ∃ (j : Nat) (L : List VV), j ≤ n ∧ u = .int .i64 j ∧ Hid (VOwn wr w2.heap.size out L) ∧ Hid (VGood wr L) ∧ Hid (L.map (·.vt) = mine c kind (m.take j)) ∧ Hid (Below w2.heap.size w2 wr) ∧ Hid (VFresh w2.heap.size L)) (fun _ u _ => n - (intOf u).toNat)
  case atStart => exact ⟨0, [], Nat.zero_le _, rfl, VOwn.nil _ _, VGood.nil _, rfl, Below.refl _ _, fun p hp => by cases hp⟩
  case round =>
    obtain ⟨j, L, hj, rfl, HO, HG, HL, HW, HFR⟩ := hrel
    have hbw := HB.out.trans (HW.out.mono HB.out.size)
    have ht2 := HT.out.below hbw
    have hE0 : Ext (fun _ => False) col w col wr := Ext.below HT.out hbw
    have hc2 : CoreRaw acc col ci wr b c fv wi lo va pb pp cm tn sn dc := HC.out.ext hE0 HT.out (fun _ h => h)
    have hm2 : ViewsAt col ci p wr ob m := HM.out.ext hE0 HT.out (fun h => h)
    have d1 : wr.cell? ⟨b, 1, none⟩ = some (.int .i64 c.me) := hc2.hblk.cell 1
    have d2 : wr.cell? ⟨b, 2, none⟩ = some (.int .i64 c.slot) := hc2.hblk.cell 2
    have HBW := Lib.hid hbw
    have HT2 := Lib.hid ht2
    have HC2 := Lib.hid hc2
    by_cases hlt : (j : Int) < (n : Int)
    · obtain ⟨g, rfl, hbg, hg, c0⟩ := HCE.out j (by omega)
      rw [keys_at (by rw [HN.out]; omega)] at c0
      obtain ⟨⟨x, t⟩, hx⟩ : ∃ e, m.getD j default = e := ⟨_, rfl⟩
      have hmem : (x, t) ∈ m := by
        rw [← hx, List.getD_eq_getElem?_getD, List.getElem?_eq_getElem (by rw [HN.out]; omega)]
        exact List.getElem_mem _
      rw [hx] at c0
      dsimp only at c0
      have k0 : wr.cell? ⟨g, j, none⟩ = _ := (HW.out.cell (p := ⟨g, j, none⟩) hg).trans c0
      have hin : inner m x = t := by
        have := inner_at HSR.out.1 (j := j) (by rw [HN.out]; omega)
        rw [hx] at this; exact this
      have hxv := HOK.out _ hmem
      dsimp only at hxv
      obtain ⟨mv, hl, hT⟩ := (hm2.drew ht2).look (view := x) (wf64_mk (by omega) (by omega))
      rw [hin] at hT
      obtain ⟨vv, hl2, hrb⟩ := hT.look (who := c.me) (wf64_mk (by have := HME.out; omega) (by have := HME.out; omega))
      have hvl : ((lookM t c.me).getD []).length ≤ 10000000000000 := by
        cases hq : lookM t c.me with
        | none => simp
        | some y => exact HLEN.out _ hmem _ (lookM_mem hq)
      have hst := mine_step c kind m (j := j) (by rw [HN.out]; omega)
      rw [hx] at hst
      dsimp only at hst
      obtain ⟨o, ho⟩ : ∃ o, lookM t c.me = o := ⟨_, rfl⟩
      rw [ho] at hl2 hrb hvl hst
      have HST := Lib.hid hst
      have HRB := Lib.hid hrb
      have HVL := Lib.hid hvl
      clear hx hmem c0 hin hT hbw ht2 hm2 hE0 hxv hrb ho hvl hst hc2
      go_upto_region 5 with fail
      go_cut [10, 11, 20] from 17 to 48 (fun t10 t11 t20 wx => t10 = vv ∧ t11 = .bool o.isSome ∧ wx = wr.drew)
      case first =>
        go_region
        all_goals
          go_wp2_with fail
          go_meet
          exact ⟨rfl, rfl, rfl⟩
      case rest =>
        obtain ⟨rfl, rfl, rfl⟩ := hcut
        clear d1 d2 k0 hl hl2
        cases o with
        | none =>
          go_wp2_with fail
          go_roundw
          case rel => exact ⟨j + 1, L, by omega, by go_num, HO.out, HG.out, by show _ = _; rw [HST.out, HL.out, List.append_nil], HW.out.drew, HFR⟩
          case measure => simp [intOf]; omega
        | some vs =>
          obtain ⟨sa, sl, sc, rfl⟩ := RB.form HRB.out
          obtain ⟨oa, oc, rfl, ho1, ho2⟩ := HO.out.form
          obtain ⟨LN, hLN⟩ : ∃ LN, L.length = LN := ⟨_, rfl⟩
          have hLN2 : LN ≤ n := by
            have e := congrArg List.length HL.out
            rw [List.length_map] at e
            have e2 := mine_length c kind (m.take j)
            rw [List.length_take, HN.out] at e2
            omega
          have hO := HO.out
          rw [hLN] at hO ho1
          have HO2 := Lib.hid hO
          have HLN := Lib.hid hLN
          have d1 : wr.drew.cell? ⟨b, 1, none⟩ = some (.int .i64 c.me) := HC2.out.hblk.cell 1
          have d2 : wr.drew.cell? ⟨b, 2, none⟩ = some (.int .i64 c.slot) := HC2.out.hblk.cell 2
          have HCL := Lib.hid (clone_any (.slice sa sl sc) vs wr.drew.drew HRB.out (by have := HVL.out; simpa using this))
          rw [hLN]
          clear hLN hO
          go_wp2_with fail
          go_region_law (first
            | (go_simp; go_at_call 62; refine HCL.out.mono ?_; rintro e w5 ⟨v5, rfl, hbuf, hb0⟩; obtain ⟨ya, yn, yc, rfl⟩ := RB.form hbuf.rb; have HBUF := Lib.hid hbuf; have hb5 : Below wr.heap.size wr w5 := (Below.refl _ wr).drew.drew.trans hb0; have g1 : w5.cell? ⟨b, 1, none⟩ = some (.int .i64 c.me) := (hb5.cell (p := ⟨b, 1, none⟩) HC2.out.hblk.lt).trans d1; have g2 : w5.cell? ⟨b, 2, none⟩ = some (.int .i64 c.slot) := (hb5.cell (p := ⟨b, 2, none⟩) HC2.out.hblk.lt).trans d2; have HB5 := Lib.hid hb5; have HOW := Lib.hid (HO2.out.below (hb5.alloc hb5.size (.cells #[.int .i64 kind, .int .i64 c.me, .int .i64 c.slot, .int .i64 x, .int .i64 (-1), .slice ya yn yc] 31))); have HSRC := Lib.hid (VSrc.one (w := w5.alloc (.cells #[.int .i64 kind, .int .i64 c.me, .int .i64 c.slot, .int .i64 x, .int .i64 (-1), .slice ya yn yc] 31)) (g := w5.heap.size) ⟨⟨kind, c.me, c.slot, x, -1, vs⟩, ya, yn, yc⟩ (Blk.new w5 _ _)); clear hbuf hb0 hb5)
            | (refine step_append_votes rfl (.tmp 32) (.tmp 46) rfl w2.heap.size (.slice oa LN oc) L rfl HOW.out (.slice (some ⟨w5.heap.size, 0, none⟩) 1 1) [⟨⟨kind, c.me, c.slot, x, -1, vs⟩, ya, yn, yc⟩] rfl HSRC.out (by rw [HLN.out, List.length_singleton]; omega) (by rw [World.size_alloc]; exact Nat.le_trans HW.out.size (Nat.le_trans HB5.out.size (Nat.le_succ _))) ?_; intro v' w7 hown hgr hf; have HOWN := Lib.hid hown; have HGR := Lib.hid hgr; clear hown hgr hf)
            | fail)
          all_goals
            go_wp2_with fail
            go_roundw
            case measure => simp [intOf]; omega
            case rel =>
              have hba : Below wr.heap.size wr (w5.alloc (.cells #[.int .i64 kind, .int .i64 c.me, .int .i64 c.slot, .int .i64 x, .int .i64 (-1), .slice ya yn yc] 31)) := HB5.out.alloc HB5.out.size _
              have hsz : w2.heap.size ≤ (w5.alloc (.cells #[.int .i64 kind, .int .i64 c.me, .int .i64 c.slot, .int .i64 x, .int .i64 (-1), .slice ya yn yc] 31)).heap.size := Nat.le_trans HW.out.size hba.size
              refine ⟨j + 1, L ++ [⟨⟨kind, c.me, c.slot, x, -1, vs⟩, ya, yn, yc⟩], by omega, by go_num, HOWN, ?_, ?_, ?_, ?_⟩
              · show VGood _ _
                refine VGood.append ((HG.out.below hba).grown HOW.out HGR.out) ?_
                refine VGood.grown (L := L) (M := [⟨⟨kind, c.me, c.slot, x, -1, vs⟩, ya, yn, yc⟩]) ?_ HOW.out HGR.out
                intro q hq
                obtain rfl := List.mem_singleton.1 hq
                exact HBUF.out.rb.below ((Below.refl _ w5).alloc (Nat.le_refl _) _)
              · show _ = _
                rw [List.map_append, HST.out, HL.out]
                rfl
              · show Below _ _ _
                exact (HW.out.trans (hba.mono HW.out.size)).trans (HOW.out.grown_below hsz HGR.out)
              · intro q hq k hk
                rcases List.mem_append.1 hq with hq | hq
                · exact HFR.out q hq k hk
                · obtain rfl := List.mem_singleton.1 hq
                  exact Nat.le_trans HW.out.size (HBUF.out.lt hk).1
    · obtain rfl : j = n := by omega
      obtain ⟨oa, oc, rfl, ho1, ho2⟩ := HO.out.form
      clear d1 d2
      go_wp2_with fail
      go_ret
      refine ⟨_, L, rfl, own_base HO.out HB.out.size, HG.out, ?_, HBW.out, fun p hp k hk => Nat.le_trans HB.out.size (HFR.out p hp k hk)⟩
      rw [HL.out, List.take_of_length_le (by rw [HN.out]; omega)]

theorem mine_any {acc : Bs → Bool} {col : Colour} {ci b p ob : Nat} {w : World} {c : Core} {m : List (Int × TellM)} (kind : Int) (ht : Tinted col w) (h : CoreAt acc col ci w b c) (hm : ViewsAt col ci p w ob m) (hok : MapsOk m) (hme : 1 ≤ c.me ∧ c.me ≤ 64) (hlen : ∀ q ∈ m, ∀ r ∈ q.2, r.2.length ≤ 10000000000000) :
    Calls Try.prog 59 #[.pointer (some ⟨b, 0, none⟩), .int .i64 kind, .map (some ob)] w (VotesPost (mine c kind m) w) :=
  (mine_fresh kind ht h hm hok hme hlen).mono fun e w' ⟨v, L, h1, h2, h3, h4, h5, _⟩ => ⟨v, L, h1, h2, h3, h4, h5⟩

end Go.Proofs.Ytilhdelijdkjpaa
