/-
  told.count: the value that at least so many peers told.
-/
import Derived.Test.YtilhdelijdkjpaaVK
import Derived.Maps.Ext
set_option linter.unusedVariables false
set_option linter.unusedSimpArgs false
namespace Go.Proofs.Ytilhdelijdkjpaa
open Go Go.RowKit Go.Maps Sac

/-- Of the told keys so many tell this value. -/
def tellsK (t : TellM) (bs : Bs) (k : Int) : Bool := match lookM t k with | some b => b == bs | none => false
theorem countP_keys {t : TellM} (hs : Srt t) (bs : Bs) : (t.map (·.1)).countP (tellsK t bs) = howMany t bs := by
  rw [List.countP_map, howMany]
  refine List.countP_congr fun p hp => ?_
  show tellsK t bs p.1 = true ↔ _
  rw [tellsK, lookM_of_mem hs hp]
theorem howMany_perm {t : TellM} (hs : Srt t) (bs : Bs) {ss : List Int} (h : ss.Perm (t.map (·.1))) : ss.countP (tellsK t bs) = howMany t bs := by
  rw [h.countP_eq, countP_keys hs]

theorem count_none {t : TellM} {least : Int} (h : ∀ i, i < t.length → (howMany t (t.getD i default).2 : Int) < least) : count t least = none := by
  unfold count
  rw [Option.map_eq_none_iff, List.find?_eq_none]
  intro p hp
  obtain ⟨i, hi, rfl⟩ := List.getElem_of_mem hp
  have := h i hi
  rw [List.getD_eq_getElem?_getD, List.getElem?_eq_getElem hi] at this
  simpa using this
theorem count_some : ∀ {t u : TellM} {least : Int} {j : Nat}, j < u.length → (∀ i, i < j → (howMany t (u.getD i default).2 : Int) < least) → least ≤ (howMany t (u.getD j default).2 : Int) →
    (u.find? (fun p => decide (least ≤ (howMany t p.2 : Int)))).map (·.2) = some (u.getD j default).2 := by
  intro t u
  induction u with
  | nil => intro least j h; simp at h
  | cons p u ih =>
    intro least j hj h1 h2
    cases j with
    | zero =>
      simp only [List.getD_cons_zero] at h2 ⊢
      rw [List.find?_cons_of_pos (by simpa using h2)]; rfl
    | succ j =>
      have h0 := h1 0 (by omega)
      simp only [List.getD_cons_zero] at h0
      rw [List.find?_cons_of_neg (by simpa using h0)]
      simp only [List.getD_cons_succ] at h2 ⊢
      exact ih (by simpa using hj) (fun i hi => by have := h1 (i + 1) (by omega); simpa only [List.getD_cons_succ] using this) h2

/-- A told map as a value: none, or one that lies there. -/
def TMap (w : World) (mv : Value) (t : TellM) : Prop := (mv = .map none ∧ t = []) ∨ ∃ ib l, mv = .map (some ib) ∧ MapAt Try.prog 3 w ib l ∧ RelM (RB w) l t
/-- What count hands back. -/
def CountPost (o : Option Bs) (w : World) (e : Ending) (w' : World) : Prop := Below w.heap.size w w' ∧ ∃ v, e = .returned (.tuple #[v, .bool o.isSome]) ∧ RB w' v (o.getD [])

set_option maxRecDepth 100000 in
set_option maxHeartbeats 2000000 in
theorem count_nil (least : Int) (w : World) : Calls Try.prog 112 #[.map none, .int .i64 least] w (CountPost none w) := by
  have hk := toldk_any none w
  have hs := toldn_any w
  go_enter Try.func112, Try.ntmps112
  go_wp2_with fail
  refine hk.mono ?_
  rintro e w1 ⟨rfl, rfl⟩
  go_wp2_with fail
  refine hs.mono ?_
  rintro e w2 ⟨rfl, hb⟩
  go_wp2_with fail
  refine wp_loop_rounds 1 ?_
  rw [rounds_succ]
  go_wp2_with fail
  go_ret2
  exact ⟨hb, _, rfl, RB.nil _⟩

theorem keyedI : Keyed Try.prog 3 := int_keyed Try.underlying3

set_option maxRecDepth 100000 in
set_option maxHeartbeats 4000000 in
theorem count_map (ib : Nat) (l : List (Int × Value)) (t : TellM) (least : Int) (w : World) (hm : MapAt Try.prog 3 w ib l) (hr : RelM (RB w) l t) (n : Nat) (hn : t.length = n) (hlen : n ≤ 1000) :
    Calls Try.prog 112 #[.map (some ib), .int .i64 least] w (CountPost (count t least) w) := by
  have hk := toldk_any (some ib) w
  have hln : l.length = n := by rw [hr.length]; exact hn
  have hs := tolds_any ib l w hm (by omega)
  have hsrt := hr.srt hm.srt
  have hkeys := hr.keys
  rw [hkeys] at hs
  have HM := Lib.hid hm
  have HR := Lib.hid hr
  have HS := Lib.hid hsrt
  have HN := Lib.hid hn
  have HK := Lib.hid hkeys
  have HL := Lib.hid hln
  clear hm hr hsrt hn hkeys hln
  go_enter Try.func112, Try.ntmps112
  go_wp2_with fail
  refine hk.mono ?_
  rintro e w1 ⟨rfl, rfl⟩
  go_wp2_with fail
  refine hs.mono ?_
  rintro e w2 ⟨v, rfl, hown, hb⟩
  obtain ⟨ka, kc, rfl, hkc, hcell⟩ := hown.form
  rw [List.length_map, HN.out] at hkc hcell ⊢
  have HC := Lib.hid hcell
  have HB := Lib.hid hb
  clear hown hcell hb hk hs
  go_wp2_with fail
  go_loopw [15] (fun u wr => ∃ j : Nat, j ≤ n ∧ u = .int .i64 j ∧ Hid (∀ i, i < j → (howMany t (t.getD i default).2 : Int) < least) ∧ Hid (Below w2.heap.size w2 wr)) (fun u _ => n - (intOf u).toNat)
  case atStart => exact ⟨0, Nat.zero_le _, rfl, fun i hi => by omega, Below.refl _ _⟩
  case round =>
    obtain ⟨j, hj, rfl, HA, HW⟩ := hrel
    by_cases hlt : (j : Int) < (n : Int)
    · obtain ⟨g, rfl, hbg, hg, c0⟩ := HC.out j (by omega)
      obtain ⟨⟨x, bs⟩, hx⟩ : ∃ e, t.getD j default = e := ⟨_, rfl⟩
      have hmem : (x, bs) ∈ t := by
        rw [← hx, List.getD_eq_getElem?_getD, List.getElem?_eq_getElem (by rw [HN.out]; omega)]
        exact List.getElem_mem _
      have hkx : (t.map (·.1)).getD j 0 = x := by
        rw [List.getD_eq_getElem?_getD, List.getElem?_map]
        rw [List.getD_eq_getElem?_getD] at hx
        rw [List.getElem?_eq_getElem (by rw [HN.out]; omega)] at hx ⊢
        simp at hx
        simp [hx]
      rw [hkx] at c0
      have k0 : wr.cell? ⟨g, j, none⟩ = _ := (HW.out.cell (p := ⟨g, j, none⟩) hg).trans c0
      have hlk := lookM_of_mem HS.out hmem
      have HX := Lib.hid hx
      have hHW : Below w.heap.size w wr := HB.out.trans (HW.out.mono HB.out.size)
      have HHW := Lib.hid hHW
      have HMr : Hid (MapAt Try.prog 3 wr ib l) := HM.out.below hHW HM.out.lt
      rcases HR.out.lookM x with ⟨_, h0⟩ | ⟨xv, y, hlx, hly, hRB⟩
      · rw [hlk] at h0; cases h0
      · obtain rfl : bs = y := by rw [hlk] at hly; exact Option.some.inj hly
        have hkw : (Lit.int .i64 x).wf = true := HM.out.keys _ (lookM_mem hlx)
        have HKW := Lib.hid hkw
        have HLX := Lib.hid hlx
        have HRB := Lib.hid hRB
        clear hx hmem hkx c0 hlk hly hRB hHW hkw hlx
        go_wp2_with (first
          | (at_range; refine wpList_range_own _ rfl _ 108 rfl 3 29 keyedI Try.underlying108 _ ib l.length _ rfl HMr.out.own ?_; intro w0 hrg0 hg0 hs0)
          | fail)
        go_frame
        obtain ⟨r, hr0⟩ : ∃ r, wr.heap.size = r := ⟨_, rfl⟩
        have HR0 : Hid (w2.heap.size ≤ r) := by rw [← hr0]; exact HW.out.size
        have hW0 : Hid (Below w2.heap.size w2 w0) := ((Only.below (F := fun k => w2.heap.size ≤ k) HW.out).grown hg0 (fun k e _ => by cases e)).toBelow (Nat.le_refl _) (fun _ h => h)
        rw [hr0] at hrg0 ⊢
        have HRG0 := Lib.hid hrg0
        have hsz : Maps.size (datM l) = n := by rw [size_datM]; exact HL.out
        have HSZ := Lib.hid hsz
        clear hr0 hg0 hs0 hrg0 hsz HMr k0
        go_loopw [8] (fun nv wr2 => ∃ (left : Lit → Bool) (cnt : Nat) (ss : List Int) (c : Nat), nv = .int .i64 c ∧ c + cnt ≤ n ∧ Hid (c = ss.countP (tellsK t bs)) ∧ Hid (wr2.ranges Try.prog 3 raw ib r l.length (datM l) left cnt) ∧ Hid (CollectedI (datM l) left ss) ∧ Hid (Below w2.heap.size w2 wr2)) (fun _ wr2 => wr2.rangeLeft ib r)
        case atStart => exact ⟨_, _, [], 0, rfl, by rw [HSZ.out]; omega, rfl, HRG0.out, CollectedI.start _, hW0.out⟩
        case round =>
          obtain ⟨left, cnt, ss, c, rfl, hcn, HCC, HRG, HCO, HV⟩ := hrel
          clear HRG0 hW0
          go_wp2_with (first
            | (at_next; refine wpList_next_ranges _ rfl _ rfl 3 keyedI raw (Value.int .i64) id (fun key kl hk => by obtain ⟨x, hx, _⟩ := Maps.keyOf_i64 Try.underlying3 hk; exact ⟨x, hx⟩) (fun v _ _ => ⟨v, rfl⟩) ib r l.length _ _ _ rfl HRG.out ?_ ?_)
            | fail)
          · intro hc0 hl0
            have hc : c = howMany t bs := by
              have hp := HCO.out.perm HM.out.own keyedI Try.underlying3 hl0
              rw [intKeys_datM, HK.out] at hp
              rw [HCC.out, howMany_perm HS.out bs hp]
            have HCN := Lib.hid hc
            have HMq : Hid (MapAt Try.prog 3 wr ib l) := HM.out.below (HB.out.trans (HV.out.mono HB.out.size)) HM.out.lt
            have hl1 := HMq.out.lookOne Try.underlying3 Try.underlying108 (Try.zeroValue29 wr) HKW.out
            rw [HLX.out] at hl1
            have hl2 : (Instr.lookup 108 (.map (some ib)) (.int .i64 x) false).run Try.prog wr = .ok xv wr := hl1
            clear hc hc0 hl0 hl1
            by_cases hge : least ≤ (c : Int)
            · go_wp2_with fail
              go_ret2
              have hcs := count_some (t := t) (u := t) (least := least) (j := j) (by rw [HN.out]; omega) HA.out (by rw [HX.out, ← HCN.out]; exact hge)
              rw [HX.out] at hcs
              have hcs : count t least = some bs := hcs
              rw [hcs]
              have hbw := HB.out.trans (HV.out.mono HB.out.size)
              exact ⟨hbw, _, rfl, HRB.out.below hbw⟩
            · go_wp2_with fail
              go_roundw
              case rel => exact ⟨j + 1, by omega, by go_num, fun i hi => by
                rcases Nat.lt_or_ge i j with h | h
                · exact HA.out i h
                · obtain rfl : i = j := by omega
                  rw [HX.out, ← HCN.out]; omega, HV.out⟩
              case measure => simp [intOf]; omega
          · intro x2 c2 kl2 yd yp w3 cnt3 hkey hlk2 hv hat hrg3 hlt3 hg3 hs3 hen
            obtain ⟨x2', ex, rfl, hwf2⟩ := Maps.keyOf_i64 Try.underlying3 hkey
            obtain rfl : x2 = x2' := encZ_inj ex
            simp only [raw, Option.some.injEq, id, Prod.mk.injEq] at hv
            obtain ⟨rfl, rfl⟩ := hv
            have hat2 := hat (.lit (.bool true))
            rw [datM_atKey] at hat2
            have hlx2 : lookM l x2 = some c2 := by
              cases hl : lookM l x2 with
              | none => rw [hl] at hat2; simp at hat2
              | some v => rw [hl] at hat2; simp at hat2; rw [hat2]
            have HCO2 := Lib.hid (HCO.out.step hlk2 hat)
            have hV3 : Below w2.heap.size w2 w3 := ((Only.below (F := fun k => w2.heap.size ≤ k) HV.out).grown hg3 (fun k e _ => by cases e; exact HR0.out)).toBelow (Nat.le_refl _) (fun _ h => h)
            have hB3 := HB.out.trans (hV3.mono HB.out.size)
            rcases HR.out.lookM x2 with ⟨h0, _⟩ | ⟨v2, b2, hl2, hlt2, hRB2⟩
            · rw [hlx2] at h0; cases h0
            · obtain rfl : c2 = v2 := by rw [hlx2] at hl2; exact Option.some.inj hl2
              have HMq : Hid (MapAt Try.prog 3 w3 ib l) := HM.out.below hB3 HM.out.lt
              have hl1 := HMq.out.lookOne Try.underlying3 Try.underlying108 (Try.zeroValue29 w3) HKW.out
              rw [HLX.out] at hl1
              have hl3 : (Instr.lookup 108 (.map (some ib)) (.int .i64 x) false).run Try.prog w3 = .ok xv w3 := hl1
              have heq := equal_any c2 xv b2 bs w3 (hRB2.below hB3) (HRB.out.below hB3)
              have HTK : Hid (tellsK t bs x2 = (b2 == bs)) := by show _ = _; rw [tellsK, hlt2]
              have HV3 := Lib.hid hV3
              have HRG3 := Lib.hid hrg3
              have HEQ := Lib.hid heq
              have hen2 : (Instr.entry (.pointer (some ⟨r, 0, none⟩))).run Try.prog w3 = .ok (.tuple #[.int .i64 x2, c2]) w3 := hen
              clear hat hat2 hlx2 hl2 hlt2 hRB2 hl1 hen hkey hlk2 hwf2 ex hV3 hB3 heq hg3 hs3 hrg3
              go_wp2_with fail
              refine HEQ.out.mono ?_
              rintro e w4 ⟨rfl, rfl⟩
              cases hbb : (b2 == bs)
              · have HBB := Lib.hid hbb
                clear hbb
                go_wp2_with fail
                go_roundw
                case rel => exact ⟨_, cnt3, ss ++ [x2], c, rfl, by omega, by show _ = _; rw [List.countP_append, HCC.out]; simp [HTK.out, HBB.out], HRG3.out, HCO2.out, HV3.out⟩
                case measure => rw [HRG3.out.left_eq, HRG.out.left_eq]; exact hlt3
              · have HBB := Lib.hid hbb
                clear hbb
                go_wp2_with fail
                go_roundw
                case rel => exact ⟨_, cnt3, ss ++ [x2], c + 1, by go_num, by omega, by show _ = _; rw [List.countP_append, HCC.out]; simp [HTK.out, HBB.out], HRG3.out, HCO2.out, HV3.out⟩
                case measure => rw [HRG3.out.left_eq, HRG.out.left_eq]; exact hlt3
    · obtain rfl : j = n := by omega
      go_wp2_with fail
      go_ret2
      rw [count_none (fun i hi => HA.out i (by rw [← HN.out]; exact hi))]
      exact ⟨HB.out.trans (HW.out.mono HB.out.size), _, rfl, RB.nil _⟩

theorem count_any {mv : Value} {t : TellM} (least : Int) {w : World} (h : TMap w mv t) (hlen : t.length ≤ 1000) :
    Calls Try.prog 112 #[mv, .int .i64 least] w (CountPost (count t least) w) := by
  rcases h with ⟨rfl, rfl⟩ | ⟨ib, l, rfl, hm, hr⟩
  · exact count_nil least w
  · exact count_map ib l t least w hm hr _ rfl hlen

end Go.Proofs.Ytilhdelijdkjpaa
