/-
  The reader's votes.
-/
import Derived.Test.YtilhdelijdkjpaaRf
set_option linter.unusedVariables false
set_option linter.unusedSimpArgs false
namespace Go.Proofs.Ytilhdelijdkjpaa
open Go Go.RowKit Go.Maps Sac

/-- A core's own votes of a kind, read. -/
def votesR (me cview : Int) : Nat → Int → RdS → List (Int × TellM) → RdS × List (Int × TellM)
  | 0, _, r, m => (r, m)
  | k + 1, last, r, m =>
    if (takeR (fourR (fourR r).2).1 (fourR (fourR r).2).2).2.2 = true ∨ ((fourR r).1 : Int) ≤ last ∨ cview < ((fourR r).1 : Int) then (((takeR (fourR (fourR r).2).1 (fourR (fourR r).2).2).2.1, true), m)
    else votesR me cview k (fourR r).1 (takeR (fourR (fourR r).2).1 (fourR (fourR r).2).2).2 ((setV m (fourR r).1 me (takeR (fourR (fourR r).2).1 (fourR (fourR r).2).2).1).getD m)

theorem takeR_len (n : Nat) (r : RdS) : (takeR n r).2.1.length ≤ r.1.length ∧ (takeR n r).1.length ≤ r.1.length := by
  unfold takeR
  split
  · exact ⟨Nat.le_refl _, Nat.zero_le _⟩
  · rw [List.length_drop, List.length_take]; omega
theorem RAt.lt {w : World} {B : Nat} {r : RdS} (h : RAt w B r) : ∀ x ∈ r.1, x < 256 := by
  obtain ⟨v, _, hr⟩ := h
  exact hr.lt
theorem ext_or {col col' : Colour} {w w' : World} {a : Nat × Nat} (b : Nat × Nat) (h : Ext (· = a) col w col' w') : Ext (fun q => q = a ∨ q = b) col w col' w' := h.mono fun _ e => .inl e
theorem RAt.ext {col col' : Colour} {w w' : World} {G : Nat × Nat → Prop} {B : Nat} {q : Nat × Nat} {r : RdS} (h : RAt w B r) (hE : Ext G col w col' w') (ht : Tinted col w) (hB : col B = some q) (hq : ¬ G q) : RAt w' B r := by
  obtain ⟨v, hb, hr⟩ := h
  exact ⟨v, hb.same (hE.block hb.lt (fun q' e => by rw [hB] at e; cases e; exact hq)), hr.ext hE ht⟩

set_option maxRecDepth 100000 in
set_option maxHeartbeats 4000000 in
theorem rvotes_any {col : Colour} {ci p : Nat} {B b ob : Nat} {w : World} {cs : List Value} {me cview : Int} {m : List (Int × TellM)} (r : RdS) (hp : p ≤ 6) (hp0 : p ≠ 0) (ht : Tinted col w) (hB : col B = some (ci, 7)) (h : RAt w B r) (hlen : r.1.length ≤ 1000000000000)
    (hb : Blk w b 110 cs) (hcb : col b = some (ci, 0)) (h1 : cs[1]? = some (.int .i64 me)) (h4 : cs[4]? = some (.int .i64 cview)) (hme : 1 ≤ me ∧ me ≤ 64) (hm : ViewsAt col ci p w ob m) (hok : MapsOk m) :
    Calls Try.prog 67 #[.pointer (some ⟨B, 0, none⟩), .pointer (some ⟨b, 0, none⟩), .map (some ob)] w fun e w' => e = .returned (.tuple #[]) ∧ ∃ col', Ext (fun q => q = (ci, 7) ∨ q = (ci, p)) col w col' w' ∧
      RAt w' B (votesR me cview (fourR r).1 (-1) (fourR r).2 m).1 ∧ ViewsAt col' ci p w' ob (votesR me cview (fourR r).1 (-1) (fourR r).2 m).2 ∧ MapsOk (votesR me cview (fourR r).1 (-1) (fourR r).2 m).2 := by
  have hfo := rfour_any r ht hB h hlen
  have hklt := fourR_lt h.lt
  have hrl := (takeR_len 4 r).1
  obtain ⟨⟨k, r1⟩, hk⟩ : ∃ x, fourR r = x := ⟨_, rfl⟩
  have hr1 : r1.1.length ≤ 1000000000000 := by
    have : r1 = (takeR 4 r).2 := by unfold fourR at hk; exact (congrArg Prod.snd hk).symm
    rw [this]; omega
  rw [hk] at hfo hklt ⊢
  dsimp only at hfo hklt hr1 ⊢
  obtain ⟨⟨rF, mF⟩, hF⟩ : ∃ x, votesR me cview k (-1) r1 m = x := ⟨_, rfl⟩
  rw [hF]
  dsimp only
  have HFO := Lib.hid hfo
  have HT := Lib.hid ht
  have HCB := Lib.hid hB
  have HBL := Lib.hid hb
  have HCC := Lib.hid hcb
  have H1 := Lib.hid h1
  have H4 := Lib.hid h4
  have HM := Lib.hid hm
  have HOK := Lib.hid hok
  have HF := Lib.hid hF
  have hne : ((ci, 0) : Nat × Nat) ≠ (ci, 7) := by simp
  have hnp : ((ci, 0) : Nat × Nat) ≠ (ci, p) := by simp; omega
  have hn7 : ((ci, p) : Nat × Nat) ≠ (ci, 7) := by simp; omega
  clear hfo ht hB h hlen hb hcb h1 h4 hm hok hk hF hrl hp0
  go_enter Try.func67, Try.ntmps67
  go_wp2_with fail
  refine HFO.out.mono ?_
  rintro e w1 ⟨rfl, hra, hE⟩
  have HV0 : Hid (ViewsAt col ci p w1 ob m) := HM.out.ext hE HT.out hn7
  have HRA := Lib.hid hra
  have HE : Hid (Ext (fun q => q = (ci, 7) ∨ q = (ci, p)) col w col w1) := ext_or (ci, p) hE
  clear hra hE HFO
  go_wp2_with fail
  go_loopw [6, 11] (fun t6 u wr => ∃ (i : Nat) (last : Int) (rr : RdS) (mm : List (Int × TellM)) (colr : Colour), i ≤ k ∧ u = .int .i64 (i : Int) ∧ t6 = .int .i64 last ∧ Hid (votesR me cview (k - i) last rr mm = (rF, mF)) ∧ Hid (rr.1.length ≤ 1000000000000) ∧ Hid (MapsOk mm) ∧ Hid (RAt wr B rr) ∧ Hid (ViewsAt colr ci p wr ob mm) ∧ Hid (Ext (fun q => q = (ci, 7) ∨ q = (ci, p)) col w colr wr)) (fun _ u _ => k - (intOf u).toNat)
  case atStart => exact ⟨0, -1, r1, m, col, Nat.zero_le _, rfl, rfl, HF, hr1, HOK, HRA, HV0, HE⟩
  case round =>
    obtain ⟨i, last, rr, mm, colr, hi, rfl, rfl, HF2, HL2, HOK2, HRA2, HV2, HE2⟩ := hrel
    clear HF HOK HRA HV0 HE hr1
    by_cases hlt : (i : Int) < (k : Int)
    · have hT2 := HE2.out.tint
      have hB2 : colr B = some (ci, 7) := (HE2.out.old B (HT.out.lo B _ HCB.out)).trans HCB.out
      have hb2 : Blk _ b _ _ := HBL.out.same (HE2.out.block HBL.out.lt (fun q e => by rw [HCC.out] at e; cases e; rintro (e | e); exact hne e; exact hnp e))
      have hcb2 : colr b = some (ci, 0) := (HE2.out.old b HBL.out.lt).trans HCC.out
      have HT2 := Lib.hid hT2
      have HB2 := Lib.hid hB2
      have HBL2 := Lib.hid hb2
      have HCB2 := Lib.hid hcb2
      have H256 := Lib.hid HRA2.out.lt
      -- the plain step
      obtain ⟨j, hj⟩ : ∃ j, k - i = j + 1 := ⟨k - i - 1, by omega⟩
      have hF3 := HF2.out
      rw [hj] at hF3
      unfold votesR at hF3
      have hfo := rfour_any rr hT2 hB2 HRA2.out HL2.out
      have hl3 : (fourR rr).2.1.length ≤ rr.1.length := (takeR_len 4 rr).1
      have hvl := fourR_lt HRA2.out.lt
      obtain ⟨⟨vw, r3⟩, h3⟩ : ∃ x, fourR rr = x := ⟨_, rfl⟩
      rw [h3] at hF3 hfo hl3 hvl
      dsimp only at hF3 hfo hl3 hvl
      have hl4 : (fourR r3).2.1.length ≤ r3.1.length := (takeR_len 4 r3).1
      obtain ⟨⟨ln, r4⟩, h4⟩ : ∃ x, fourR r3 = x := ⟨_, rfl⟩
      rw [h4] at hF3 hl4
      dsimp only at hF3 hl4
      have hl5 := takeR_len ln r4
      obtain ⟨⟨vb, r5⟩, h5⟩ : ∃ x, takeR ln r4 = x := ⟨_, rfl⟩
      rw [h5] at hF3 hl5
      dsimp only at hF3 hl5
      have HF3 := Lib.hid hF3
      have HFO := Lib.hid hfo
      have HLL : Hid (r3.1.length ≤ 1000000000000 ∧ r4.1.length ≤ 1000000000000 ∧ r5.1.length ≤ 1000000000000 ∧ vb.length ≤ 1000000000000) := by
        have := HL2.out
        exact ⟨by omega, by omega, by omega, by omega⟩
      have HH4 := Lib.hid h4
      have HH5 := Lib.hid h5
      clear hT2 hB2 hb2 hcb2 hF3 hfo hl3 hl4 hl5 h3 h4 h5 HRA2
      go_wp2_with fail
      refine HFO.out.mono ?_
      rintro e w3 ⟨rfl, hra3, hE3⟩
      have hV3 := HV2.out.ext hE3 HT2.out hn7
      have hb3 : Blk w3 b _ _ := HBL2.out.same (hE3.block HBL2.out.lt (fun q e => by rw [HCB2.out] at e; cases e; exact hne))
      have hfo4 := rfour_any r3 hE3.tint HB2.out hra3 HLL.out.1
      have hlnl := fourR_lt hra3.lt
      rw [HH4.out] at hfo4 hlnl
      dsimp only at hfo4 hlnl
      have HFO4 := Lib.hid hfo4
      have HV3 := Lib.hid hV3
      have HBL3 := Lib.hid hb3
      have HT3 := Lib.hid hE3.tint
      have HE3 : Hid (Ext (fun q => q = (ci, 7) ∨ q = (ci, p)) col w colr w3) := HE2.out.trans (ext_or (ci, p) hE3)
      clear hra3 hE3 hV3 hb3 hfo4 HFO HV2 HE2 HBL2 HT2
      go_wp2_with fail
      refine HFO4.out.mono ?_
      rintro e w4 ⟨rfl, hra4, hE4⟩
      have hV4 := HV3.out.ext hE4 HT3.out hn7
      have hb4 : Blk w4 b _ _ := HBL3.out.same (hE4.block HBL3.out.lt (fun q e => by rw [HCB2.out] at e; cases e; exact hne))
      have htk := rtake_any ln r4 hE4.tint HB2.out hra4 (by omega) HLL.out.2.1
      rw [HH5.out] at htk
      dsimp only at htk
      have HTK := Lib.hid htk
      have HV4 := Lib.hid hV4
      have HBL4 := Lib.hid hb4
      have HT4 := Lib.hid hE4.tint
      have HE4 : Hid (Ext (fun q => q = (ci, 7) ∨ q = (ci, p)) col w colr w4) := HE3.out.trans (ext_or (ci, p) hE4)
      clear hra4 hE4 hV4 hb4 htk HFO4 HV3 HE3 HBL3 HT3
      go_wp2_with fail
      refine HTK.out.mono ?_
      rintro e w5 ⟨v5, rfl, hrb5, hra5, hE5⟩
      obtain ⟨ya, yn, yc, rfl⟩ := RB.form hrb5
      have hV5 := HV4.out.ext hE5 HT4.out hn7
      have hb5 : Blk w5 b _ _ := HBL4.out.same (hE5.block HBL4.out.lt (fun q e => by rw [HCB2.out] at e; cases e; exact hne))
      obtain ⟨rbs, rbad⟩ := r5
      obtain ⟨rv, hrb, hrr⟩ := hra5
      have d1 : w5.cell? ⟨b, 1, none⟩ = some (.int .i64 me) := (hb5.cell 1).trans H1.out
      have d4 : w5.cell? ⟨b, 4, none⟩ = some (.int .i64 cview) := (hb5.cell 4).trans H4.out
      have c1 := hrb.cell 1
      have f1 := hrb.frozen 1
      simp only [List.getElem?_cons_zero, List.getElem?_cons_succ] at c1
      have HRB5 := Lib.hid hrb5
      have HRK := Lib.hid hrb
      have HRR := Lib.hid hrr
      have HV5 := Lib.hid hV5
      have HT5 := Lib.hid hE5.tint
      have HE5 : Hid (Ext (fun q => q = (ci, 7) ∨ q = (ci, p)) col w colr w5) := HE4.out.trans (ext_or (ci, p) hE5)
      clear hrb5 hrb hrr hE5 hV5 hb5 HTK HV4 HE4 HBL4 HT4
      obtain ⟨x1, hx1⟩ : ∃ x, decide ((vw : Int) ≤ last) = x := ⟨_, rfl⟩
      obtain ⟨x2, hx2⟩ : ∃ x, decide (cview < (vw : Int)) = x := ⟨_, rfl⟩
      have HBAD : Hid ((rbad || x1 || x2) = true → (rF, mF) = ((rbs, true), mm)) := fun hx => by
        have := HF3.out
        rw [if_pos] at this
        · exact this.symm
        · rw [Bool.or_eq_true, Bool.or_eq_true] at hx
          rcases hx with (hx | hx) | hx
          · exact .inl hx
          · rw [hx] at hx1; exact .inr (.inl (of_decide_eq_true hx1))
          · rw [hx] at hx2; exact .inr (.inr (of_decide_eq_true hx2))
      have stop : ∀ w6, w6 = w5.setCell ⟨B, 1, none⟩ (.bool true) → (rbad || x1 || x2) = true → ∃ col', Ext (fun q => q = (ci, 7) ∨ q = (ci, p)) col w col' w6 ∧ RAt w6 B rF ∧ ViewsAt col' ci p w6 ob mF ∧ MapsOk mF := fun w6 e6 hx => by
        have e := HBAD.out hx
        injection e with e1 e2
        subst e1 e2 e6
        have hE6 : Ext (· = (ci, 7)) colr w5 colr (w5.setCell ⟨B, 1, none⟩ (.bool true)) := Ext.blk HT5.out HB2.out ((Only.refl (· = B) w5).setCell (fun _ => rfl) _) (HRK.out.set 1 _) (by decide)
        exact ⟨colr, HE5.out.trans (ext_or (ci, p) hE6), ⟨rv, HRK.out.set 1 _, HRR.out.boxed HRK.out (by decide) 1 _⟩, HV5.out.ext hE6 HT5.out hn7, HOK2.out⟩
      have STOP := Lib.hid stop
      clear stop
      have goOn : rbad = false → x1 = false → x2 = false → votesR me cview j vw (rbs, false) ((setV mm vw me vb).getD mm) = (rF, mF) := fun e0 e1 e2 => by
        have := HF3.out
        rw [if_neg] at this
        · rw [← this, e0]
        · rw [e1] at hx1
          rw [e2] at hx2
          rintro (h | h | h)
          · rw [e0] at h; cases h
          · exact of_decide_eq_false hx1 h
          · exact of_decide_eq_false hx2 h
      have GOON := Lib.hid goOn
      have HRBB := Lib.hid (show RAt w5 B (rbs, rbad) from ⟨rv, HRK.out, HRR.out⟩)
      clear goOn HF3 HBAD HF2
      cases rbad
      case true =>
        go_wp2_with fail
        refine bodyPost_ret (results_none rfl _ _ _) rfl ?_
        exact ⟨rfl, STOP.out _ rfl rfl⟩
      case false =>
        cases x1
        case true =>
          go_wp2_with fail
          refine bodyPost_ret (results_none rfl _ _ _) rfl ?_
          exact ⟨rfl, STOP.out _ rfl rfl⟩
        case false =>
          cases x2
          case true =>
            go_wp2_with fail
            refine bodyPost_ret (results_none rfl _ _ _) rfl ?_
            exact ⟨rfl, STOP.out _ rfl rfl⟩
          case false =>
            have hset := set_any (vw : Int) me (.slice ya yn yc) vb HT5.out HV5.out HOK2.out ⟨by omega, by omega⟩ hme HRB5.out (by have := HLL.out; omega)
            have hgo := GOON.out rfl rfl rfl
            obtain ⟨o, ho⟩ : ∃ o, setV mm vw me vb = o := ⟨_, rfl⟩
            rw [ho] at hset hgo
            have hokm : MapsOk (o.getD mm) := by
              cases o with
              | none => exact HOK2.out
              | some m' =>
                obtain ⟨_, rfl⟩ := setV_some ho
                exact mapsOk_put HOK2.out ⟨by omega, by omega⟩ hme _
            have HSET := Lib.hid hset
            have HGO := Lib.hid hgo
            have HOKM := Lib.hid hokm
            clear hset hgo hokm ho GOON STOP
            go_wp2_with fail
            refine HSET.out.mono ?_
            rintro e w6 hp6
            have hx : (∃ bb, e = .returned (.bool bb)) ∧ ∃ col6, Ext (· = (ci, p)) colr w5 col6 w6 ∧ ViewsAt col6 ci p w6 ob (o.getD mm) := by
              cases o with
              | none =>
                obtain ⟨rfl, rfl⟩ := hp6
                exact ⟨⟨_, rfl⟩, colr, Ext.refl HT5.out, HV5.out⟩
              | some m' =>
                obtain ⟨rfl, col6, hE6, hV6⟩ := hp6
                exact ⟨⟨_, rfl⟩, col6, hE6, hV6⟩
            obtain ⟨⟨bb, rfl⟩, col6, hE6, hV6⟩ := hx
            have HV6 := Lib.hid hV6
            have HRA6 := Lib.hid (HRBB.out.ext hE6 HT5.out HB2.out (fun e => hn7 e.symm))
            have HE6 : Hid (Ext (fun q => q = (ci, 7) ∨ q = (ci, p)) col w col6 w6) := HE5.out.trans (hE6.mono (fun q e => .inr e))
            clear hp6 hE6 hV6 HSET d1 d4 c1 f1
            go_wp2_with fail
            exact ⟨⟨i + 1, vw, (rbs, false), o.getD mm, col6, by omega, by push_cast; rfl, rfl, by rw [show k - (i + 1) = j by omega]; exact HGO, by have := HLL.out; exact this.2.2.1, HOKM, HRA6, HV6, HE6⟩, by simp [intOf]; omega⟩
    · obtain rfl : i = k := by omega
      have hF3 := HF2.out
      rw [Nat.sub_self] at hF3
      unfold votesR at hF3
      injection hF3 with e1 e2
      have HE1 := Lib.hid e1
      have HE2' := Lib.hid e2
      clear e1 e2 HF2
      go_wp2_with fail
      go_end0
      rw [← HE1.out, ← HE2'.out]
      exact ⟨rfl, colr, HE2.out, HRA2.out, HV2.out, HOK2.out⟩
end Go.Proofs.Ytilhdelijdkjpaa
