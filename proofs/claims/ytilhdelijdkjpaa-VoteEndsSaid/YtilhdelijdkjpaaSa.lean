/-
  Says: what a core told.
-/
import Derived.Test.YtilhdelijdkjpaaMi
import Derived.Test.YtilhdelijdkjpaaVKn
import Derived.Deep.CutBlock
set_option linter.unusedVariables false
set_option linter.unusedSimpArgs false
namespace Go.Proofs.Ytilhdelijdkjpaa
open Go Go.RowKit Go.Maps Sac

/-- The first thing that a core says. -/
def says0 (c : Core) : List Vt := if c.decided then [⟨4, c.me, c.slot, 0, -1, c.value⟩] else [⟨5, c.me, c.slot, c.view, -1, []⟩]
/-- .. the second one. -/
def says1 (c : Core) : List Vt := match lookM c.proposals c.view with
    | some p => if c.decided = false ∧ proposer c c.view = c.me then [⟨1, c.me, c.slot, c.view, p.2, p.1⟩] else []
    | none => []

/-- A row under way. -/
structure RowAt (w0 wx : World) (v : Value) (l : List Vt) : Prop where
  row : ∃ L, VOwn wx w0.heap.size v L ∧ VGood wx L ∧ L.map (·.vt) = l
  below : Below w0.heap.size w0 wx
theorem RowAt.form {w0 wx : World} {v : Value} {l : List Vt} (h : RowAt w0 wx v l) : ∃ (a : Option Addr) (cap : Nat), v = .slice a l.length cap := by
  obtain ⟨L, h1, _, h3⟩ := h.row
  obtain ⟨a, cap, e, _⟩ := h1.form
  refine ⟨a, cap, ?_⟩
  rw [e, ← h3, List.length_map]
theorem RowAt.nil (w : World) : RowAt w w (.slice none 0 0) [] := ⟨⟨[], VOwn.nil _ _, VGood.nil _, rfl⟩, Below.refl _ _⟩
theorem RowAt.moved {w0 w1 w2 : World} {v : Value} {l : List Vt} (h : RowAt w0 w1 v l) (hb : Below w1.heap.size w1 w2) : RowAt w0 w2 v l := by
  obtain ⟨⟨L, h1, h2, h3⟩, h4⟩ := h
  exact ⟨⟨L, h1.below hb, h2.below hb, h3⟩, h4.trans (hb.mono h4.size)⟩
/-- More votes are appended. -/
theorem RowAt.more {w0 wx w' : World} {v v' : Value} {l : List Vt} {L M : List VV} (h1 : VOwn wx w0.heap.size v L) (h2 : VGood wx L) (h3 : L.map (·.vt) = l) (hb : Below w0.heap.size w0 wx) (hM : VGood wx M) (hown : VOwn w' w0.heap.size v' (L ++ M)) (hg : wx.grownBy w' v.ownBlock) : RowAt w0 w' v' (l ++ M.map (·.vt)) :=
  ⟨⟨L ++ M, hown, (h2.grown h1 hg).append (hM.grown h1 hg), by rw [List.map_append, h3]⟩, hb.trans (h1.grown_below hb.size hg)⟩

set_option maxRecDepth 100000 in
set_option maxHeartbeats 8000000 in
theorem says_any {acc : Bs → Bool} {col : Colour} {ci b : Nat} {w : World} {c : Core} (ht : Tinted col w) (h : CoreAt acc col ci w b c) (hok : CoreOk c) :
    Calls Try.prog 23 #[.pointer (some ⟨b, 0, none⟩)] w fun e w' => ∃ v, e = .returned v ∧ RowAt w w' v (says c) := by
  have HCA := Lib.hid h
  obtain ⟨fv, wi, lo, va, pb, pp, cm, tn, sn, dc, h⟩ := h
  have d1 := h.hblk.cell 1
  have d2 := h.hblk.cell 2
  have d4 := h.hblk.cell 4
  have d15 := h.hblk.cell 15
  have d16 := h.hblk.cell 16
  simp only [List.getElem?_cons_zero, List.getElem?_cons_succ] at d1 d2 d4 d15 d16
  obtain ⟨dv, hdv⟩ : ∃ dv, c.decided = dv := ⟨_, rfl⟩
  rw [hdv] at d15
  obtain ⟨sa, sl, sc, rfl⟩ := RB.form h.hva
  have hcl := clone_any (.slice sa sl sc) c.value w.drew h.hva (by have := hok.inn.len0.2.2; omega)
  have HT := Lib.hid ht
  have HC := Lib.hid h
  have HOK := Lib.hid hok
  have HDV := Lib.hid hdv
  have HCL := Lib.hid hcl
  have hblt := h.hblk.lt
  have HBLT := Lib.hid hblt
  clear ht h hok hdv hcl hblt
  go_enter Try.func23, Try.ntmps23
  go_upto_if 11 with (fail)
  go_cut [3] from 12 to 45 (fun t3 wx => Hid (RowAt w wx t3 (says0 c)))
  case first =>
    cases dv
    case true =>
      have HS0 : Hid ([⟨4, c.me, c.slot, 0, -1, c.value⟩] = says0 c) := by
        show _ = _
        unfold says0
        rw [HDV.out]
        rfl
      go_wp2_with fail
      go_region_held3 (fun w' => w'.cell? ⟨b, 1, none⟩ = some (.int .i64 c.me) ∧ w'.cell? ⟨b, 2, none⟩ = some (.int .i64 c.slot) ∧ w'.cell? ⟨b, 16, none⟩ = some (.slice sa sl sc)) (first | exact ⟨d1, d2, d16⟩ | exact ⟨g1, g2, g16⟩ | exact ⟨a1, a2, a16⟩ | exact ⟨k1, k2, k16⟩ | assumption)
        (first
          | (go_at_call 62; refine HCL.out.mono ?_; rintro e w5 ⟨v5, rfl, hbuf, hb0⟩; obtain ⟨ya, yn, yc, rfl⟩ := RB.form hbuf.rb; have hb5 : Below w.heap.size w w5 := (Below.refl _ w).drew.trans hb0; have g1 : w5.cell? ⟨b, 1, none⟩ = some (.int .i64 c.me) := (hb5.cell (p := ⟨b, 1, none⟩) HBLT.out).trans d1; have g2 : w5.cell? ⟨b, 2, none⟩ = some (.int .i64 c.slot) := (hb5.cell (p := ⟨b, 2, none⟩) HBLT.out).trans d2; have g16 : w5.cell? ⟨b, 16, none⟩ = some (.slice sa sl sc) := (hb5.cell (p := ⟨b, 16, none⟩) HBLT.out).trans d16; have a1 := Lib.cell?_alloc_some (.cells #[.int .i64 4, .int .i64 c.me, .int .i64 c.slot, .int .i64 0, .int .i64 (-1), .slice ya yn yc] 31) g1; have a2 := Lib.cell?_alloc_some (.cells #[.int .i64 4, .int .i64 c.me, .int .i64 c.slot, .int .i64 0, .int .i64 (-1), .slice ya yn yc] 31) g2; have a16 := Lib.cell?_alloc_some (.cells #[.int .i64 4, .int .i64 c.me, .int .i64 c.slot, .int .i64 0, .int .i64 (-1), .slice ya yn yc] 31) g16; have HBUF := Lib.hid hbuf.rb; have HB5 := Lib.hid hb5; clear hbuf hb0 hb5)
          | (refine step_append_votes rfl (.tmp 12) (.tmp 27) rfl w.heap.size (.slice none 0 0) [] rfl (VOwn.nil _ _) (.slice (some ⟨w5.heap.size, 0, none⟩) 1 1) [⟨⟨4, c.me, c.slot, 0, -1, c.value⟩, ya, yn, yc⟩] rfl (VSrc.one (w := w5.alloc (.cells #[.int .i64 4, .int .i64 c.me, .int .i64 c.slot, .int .i64 0, .int .i64 (-1), .slice ya yn yc] 31)) (g := w5.heap.size) ⟨⟨4, c.me, c.slot, 0, -1, c.value⟩, ya, yn, yc⟩ (Blk.new w5 _ _)) (by simp) (Nat.le_trans HB5.out.size (by simp)) ?_; intro v' w7 hown hgr hf; have hkb : Blk w7 b _ _ := (HC.out.hblk.below (HB5.out.alloc HB5.out.size (.cells #[.int .i64 4, .int .i64 c.me, .int .i64 c.slot, .int .i64 0, .int .i64 (-1), .slice ya yn yc] 31)) HBLT.out).same (VOwn.cell (VOwn.nil _ w.heap.size) hgr (HC.out.hblk.below (HB5.out.alloc HB5.out.size (.cells #[.int .i64 4, .int .i64 c.me, .int .i64 c.slot, .int .i64 0, .int .i64 (-1), .slice ya yn yc] 31)) HBLT.out) (by decide)); have k1 : w7.cell? ⟨b, 1, none⟩ = some (.int .i64 c.me) := hkb.cell 1; have k2 : w7.cell? ⟨b, 2, none⟩ = some (.int .i64 c.slot) := hkb.cell 2; have k16 : w7.cell? ⟨b, 16, none⟩ = some (.slice sa sl sc) := hkb.cell 16; have HX : Hid (RowAt w w7 v' (says0 c)) := HS0.out ▸ RowAt.more (wx := w5.alloc (.cells #[.int .i64 4, .int .i64 c.me, .int .i64 c.slot, .int .i64 0, .int .i64 (-1), .slice ya yn yc] 31)) (VOwn.nil _ _) (VGood.nil _) rfl (HB5.out.alloc HB5.out.size _) (fun q hq => by obtain rfl := List.mem_singleton.1 hq; exact HBUF.out.below ((Below.refl _ w5).alloc (Nat.le_refl _) _)) hown hgr; clear hown hgr hf hkb))
      all_goals
        go_wp2_with fail
        go_meet
        exact HX
    case false =>
      go_wp2_with fail
      have HS0 : Hid ([⟨5, c.me, c.slot, c.view, -1, []⟩] = says0 c) := by
        show _ = _
        unfold says0
        rw [HDV.out]
        rfl
      go_region_law (first
        | (refine step_append_votes rfl (.tmp 29) (.tmp 43) rfl w.heap.size (.slice none 0 0) [] rfl (VOwn.nil _ _) (.slice (some ⟨w.heap.size, 0, none⟩) 1 1) [⟨⟨5, c.me, c.slot, c.view, -1, []⟩, none, 0, 0⟩] rfl (VSrc.one (w := (w.alloc (.cells #[.int .i64 5, .int .i64 c.me, .int .i64 c.slot, .int .i64 c.view, .int .i64 (-1), .slice none 0 0] 31)).drew) (g := w.heap.size) ⟨⟨5, c.me, c.slot, c.view, -1, []⟩, none, 0, 0⟩ (Blk.new w _ _)) (by simp) (by simp) ?_; intro v' w7 hown hgr hf; have HX : Hid (RowAt w w7 v' (says0 c)) := HS0.out ▸ RowAt.more (wx := (w.alloc (.cells #[.int .i64 5, .int .i64 c.me, .int .i64 c.slot, .int .i64 c.view, .int .i64 (-1), .slice none 0 0] 31)).drew) (VOwn.nil _ _) (VGood.nil _) rfl (((Below.refl _ w).alloc (Nat.le_refl _) _).drew) (fun q hq => by obtain rfl := List.mem_singleton.1 hq; exact RB.nil _) hown hgr; clear hown hgr hf)
        | fail)
      all_goals
        go_wp2_with fail
        go_meet
        exact HX
  case rest =>
    rename World => w3
    have HR0 := hcut
    have hbw := HR0.out.below
    have htw := HT.out.below hbw
    have hcw : CoreRaw acc col ci w3 b c fv wi lo (.slice sa sl sc) pb pp cm tn sn dc := HC.out.ext (G := fun _ => False) (Ext.below HT.out hbw) HT.out (fun _ h => h)
    have HTW := Lib.hid htw
    have HCW := Lib.hid hcw
    clear d1 d2 d4 d15 d16 HCL hcut
    have d4 := hcw.hblk.cell 4
    have d7 := hcw.hblk.cell 7
    simp only [List.getElem?_cons_zero, List.getElem?_cons_succ] at d4 d7
    have hvw : (Lit.int .i64 c.view).wf = true := wf64_mk (by have := HOK.out.inn.view; omega) (by have := HOK.out.inn.view; omega)
    obtain ⟨sa2, sl2, sc2, hlk, hrs⟩ := (hcw.hpb.drew htw).look (view := c.view) hvw
    obtain ⟨tv, htv⟩ : ∃ tv, (lookM c.proposals c.view).isSome = tv := ⟨_, rfl⟩
    obtain ⟨⟨bs, valid⟩, hbv⟩ : ∃ x, (lookM c.proposals c.view).getD ([], 0) = x := ⟨_, rfl⟩
    rw [htv, hbv] at hlk
    rw [hbv] at hrs
    dsimp only at hlk hrs
    have hrs1 : RB w3 (.slice sa2 sl2 sc2) bs := hrs
    have hb0 : Below w3.heap.size w3 (w3.alloc (.cells #[.slice none 0 0, .int .i64 0] 116)).drew := ((Below.refl _ w3).alloc (Nat.le_refl _) _).drew
    obtain ⟨B, hBB⟩ : ∃ B, w3.heap.size = B := ⟨_, rfl⟩
    have e7 := Lib.cell?_alloc_some (.cells #[.slice none 0 0, .int .i64 0] 116) d7
    have e4 := Lib.cell?_alloc_some (.cells #[.slice none 0 0, .int .i64 0] 116) d4
    have hlkd : (Instr.lookup 104 (.map (some pb)) (.int .i64 c.view) true).run Try.prog (w3.alloc (.cells #[.slice none 0 0, .int .i64 0] 116)).drew = .ok (.tuple #[.agg #[.slice sa2 sl2 sc2, .int .i64 valid], .bool tv]) (w3.alloc (.cells #[.slice none 0 0, .int .i64 0] 116)).drew := by
      obtain ⟨hc, l, hm, hr⟩ := hcw.hpb
      have l1 := (hm.same (w' := w3.drew) rfl).lookTwo Try.underlying3 Try.underlying104 (Try.zeroValue116 w3.drew) (x := c.view) hvw
      have l2 := (hm.below hb0 hm.lt).lookTwo Try.underlying3 Try.underlying104 (Try.zeroValue116 _) (x := c.view) hvw
      rw [hlk] at l1
      have e := congrArg (fun r : Result Value => match r with | .ok v _ => some v | _ => none) l1
      rw [l2]
      simp only [Option.some.injEq] at e
      rw [← e]
    have hlen : bs.length ≤ 4096 := by
      cases hq : lookM c.proposals c.view with
      | none => rw [hq] at hbv; cases hbv; exact Nat.zero_le _
      | some y => rw [hq] at hbv; have := HOK.out.inn.len1 _ (lookM_mem hq); simp only [Option.getD_some] at hbv; rw [hbv] at this; exact this.1
    have hs1 : says1 c = if (tv && !dv && decide (proposer c c.view = c.me)) = true then [⟨1, c.me, c.slot, c.view, valid, bs⟩] else [] := by
      unfold says1
      rw [HDV.out]
      cases hq : lookM c.proposals c.view with
      | none => rw [hq] at htv; subst htv; rfl
      | some y =>
        rw [hq] at htv hbv
        subst htv
        simp only [Option.getD_some] at hbv
        rw [hbv]
        cases dv <;> simp
    have HS1 := Lib.hid hs1
    have HLEN := Lib.hid hlen
    have HRS := Lib.hid hrs1
    have HBB := Lib.hid hBB
    obtain ⟨oa, oc, rfl⟩ := HR0.out.form
    clear hbw htw hcw hvw htv hbv hrs hrs1 hb0 hBB hlen hs1
    go_upto_region 7 with fail
    go_cut [4, 5, 45] from 46 to 57 (fun t4 t5 t45 wx => t4 = .pointer (some ⟨B, 0, none⟩) ∧ t5 = .bool tv ∧ Hid (Below w3.heap.size w3 wx) ∧ Hid (Blk wx B 116 [.slice sa2 sl2 sc2, .int .i64 valid]))
    case first =>
      go_region
      all_goals
        go_wp2_with fail
        go_meet
        exact ⟨by rw [HBB.out], rfl, ((Below.refl _ w3).alloc (Nat.le_refl _) _).drew, HBB.out ▸ Blk.new w3 [.slice sa2 sl2 sc2, .int .i64 valid] _⟩
    case rest =>
      obtain ⟨rfl, rfl, HB1, HBX⟩ := hcut
      rename World => w4
      have htw := HTW.out.below HB1.out
      have hcw : CoreRaw acc col ci w4 b c fv wi lo (.slice sa sl sc) pb pp cm tn sn dc := HCW.out.ext (G := fun _ => False) (Ext.below HTW.out HB1.out) HTW.out (fun _ h => h)
      have HR1 := Lib.hid (HR0.out.moved HB1.out)
      have HRS4 := Lib.hid (HRS.out.below HB1.out)
      clear d4 d7 hlk e7 e4 hlkd
      have d0 := hcw.hblk.cell 0
      have d1 := hcw.hblk.cell 1
      have d2 := hcw.hblk.cell 2
      have d4 := hcw.hblk.cell 4
      have d15 := hcw.hblk.cell 15
      simp only [List.getElem?_cons_zero, List.getElem?_cons_succ] at d0 d1 d2 d4 d15
      rw [HDV.out] at d15
      have hpr := proposer_raw b c.n c.slot c.view w4.drew d0 d2 HOK.out.inn.n HOK.out.inn.slot HOK.out.inn.view
      obtain ⟨P, hP⟩ : ∃ P, proposer c c.view = P := ⟨_, rfl⟩
      rw [show 1 + (c.slot + c.view) % c.n = P from hP] at hpr
      rw [hP] at HS1
      have HPR := Lib.hid hpr
      have HTW4 := Lib.hid htw
      have HCW4 := Lib.hid hcw
      have hbd : Hid (Below w4.heap.size w4 w4.drew) := (Below.refl _ w4).drew
      have hbl : Hid (b < w4.heap.size) := hcw.hblk.lt
      clear hpr hP htw hcw HR0 HTW HCW HRS
      go_upto_region 8 with fail
      go_cut [77] from 57 to 78 (fun t77 wx => t77 = .bool (tv && !dv && decide (P = c.me)) ∧ Hid (Below w4.heap.size w4 wx))
      case first =>
        cases tv
        case false =>
          go_region
          all_goals
            go_wp2_with fail
            go_meet
            exact ⟨rfl, hbd⟩
        case true =>
          cases dv
          case true =>
            go_region
            all_goals
              go_wp2_with fail
              go_meet
              exact ⟨rfl, hbd⟩
          case false =>
            obtain ⟨x, hx⟩ : ∃ x, (P == c.me) = x := ⟨_, rfl⟩
            have HX : Hid (decide (P = c.me) = x) := by
              show _ = _
              rw [← hx]
              rfl
            go_region_held3 (fun w' => w'.cell? ⟨b, 4, none⟩ = some (.int .i64 c.view) ∧ w'.cell? ⟨b, 1, none⟩ = some (.int .i64 c.me) ∧ w'.cell? ⟨b, 15, none⟩ = some (.bool false) ∧ Hid (Below w4.heap.size w4 w')) (first | exact ⟨d4, d1, d15, hbd⟩ | exact ⟨g4, g1, g15, HB5⟩ | assumption)
              (first | (go_at_call 63; refine HPR.out.mono ?_; rintro e w5 ⟨rfl, hb5⟩; have g1 : w5.cell? ⟨b, 1, none⟩ = some (.int .i64 c.me) := (hb5.cell (p := ⟨b, 1, none⟩) hbl.out).trans d1; have g4 : w5.cell? ⟨b, 4, none⟩ = some (.int .i64 c.view) := (hb5.cell (p := ⟨b, 4, none⟩) hbl.out).trans d4; have g15 : w5.cell? ⟨b, 15, none⟩ = some (.bool false) := (hb5.cell (p := ⟨b, 15, none⟩) hbl.out).trans d15; have HB5 : Hid (Below w4.heap.size w4 w5) := (Below.refl _ w4).drew.trans hb5; clear hb5))
            all_goals
              go_wp2_with fail
              go_meet
              exact ⟨by rw [HX.out]; rfl, HB5⟩
      case rest =>
        obtain ⟨rfl, HB4⟩ := hcut
        rename World => w5
        have htw := HTW4.out.below HB4.out
        have hcw : CoreRaw acc col ci w5 b c fv wi lo (.slice sa sl sc) pb pp cm tn sn dc := HCW4.out.ext (G := fun _ => False) (Ext.below HTW4.out HB4.out) HTW4.out (fun _ h => h)
        have HR2 := Lib.hid (HR1.out.moved HB4.out)
        have HRS5 := Lib.hid (HRS4.out.below HB4.out)
        have hbx := HBX.out.below HB4.out HBX.out.lt
        clear d0 d1 d2 d4 d15 hbd hbl HPR
        have d1 := hcw.hblk.cell 1
        have d2 := hcw.hblk.cell 2
        have d4 := hcw.hblk.cell 4
        have x0 := hbx.cell 0
        have x1 := hbx.cell 1
        simp only [List.getElem?_cons_zero, List.getElem?_cons_succ] at d1 d2 d4 x0 x1
        obtain ⟨cd, hcd⟩ : ∃ cd, (tv && !dv && decide (P = c.me)) = cd := ⟨_, rfl⟩
        rw [hcd] at HS1 ⊢
        obtain ⟨S0, hS0⟩ : ∃ S0, says0 c = S0 := ⟨_, rfl⟩
        obtain ⟨N0, hN0⟩ : ∃ N0, S0.length = N0 := ⟨_, rfl⟩
        rw [hS0] at HR2 ⊢
        rw [hN0] at HR2 ⊢
        have hN1 : N0 ≤ 1 := by
          rw [← hN0, ← hS0]
          unfold says0
          split <;> exact Nat.le_refl _
        have HS0 := Lib.hid hS0
        have HN0 := Lib.hid hN0
        have HTW5 := Lib.hid htw
        have HCW5 := Lib.hid hcw
        have HBX5 := Lib.hid hbx
        clear hcd hS0 hN0 htw hcw hbx HR1 HRS4 HBX HTW4 HCW4
        go_upto_if 77 with (fail)
        go_cut [3] from 78 to 99 (fun t3 wx => Hid (RowAt w wx t3 (S0 ++ says1 c)))
        case first =>
          cases cd
          case false =>
            go_wp2_with fail
            go_meet
            show RowAt _ _ _ _
            rw [HS1.out, if_neg (by decide), List.append_nil]
            exact HR2.out
          case true =>
            obtain ⟨⟨L0, ho0, hg0, hv0⟩, hbw5⟩ := HR2.out
            have HO0 := Lib.hid ho0
            have HG0 := Lib.hid hg0
            have HV0 := Lib.hid hv0
            have HBW5 := Lib.hid hbw5
            have hL0 : L0.length = N0 := by rw [← HN0.out, ← hv0, List.length_map]
            have HL0 := Lib.hid hL0
            have HSS : Hid (S0 ++ says1 c = S0 ++ [((fun ya yn yc => ⟨⟨1, c.me, c.slot, c.view, valid, bs⟩, ya, yn, yc⟩) : Option Addr → Nat → Nat → VV) none 0 0].map (·.vt)) := by
              show _ = _
              rw [HS1.out, if_pos rfl]
              rfl
            have HCL := Lib.hid (clone_any (.slice sa2 sl2 sc2) bs w5.drew HRS5.out (by have := HLEN.out; omega))
            have HBL : Hid (b < w5.heap.size) := HCW5.out.hblk.lt
            have HXL : Hid (B < w5.heap.size) := HBX5.out.lt
            clear ho0 hg0 hv0 hbw5 hL0
            go_wp2_with fail
            go_region_held3 (fun w' => w'.cell? ⟨b, 1, none⟩ = some (.int .i64 c.me) ∧ w'.cell? ⟨b, 2, none⟩ = some (.int .i64 c.slot) ∧ w'.cell? ⟨b, 4, none⟩ = some (.int .i64 c.view) ∧ w'.cell? ⟨B, 0, none⟩ = some (.slice sa2 sl2 sc2) ∧ w'.cell? ⟨B, 1, none⟩ = some (.int .i64 valid)) (first | exact ⟨d1, d2, d4, x0, x1⟩ | exact ⟨g1, g2, g4, y0, y1⟩ | exact ⟨a1, a2, a4, z0, z1⟩ | exact ⟨k1, k2, k4, q0, q1⟩ | assumption)
              (first
                | (go_at_call 62; refine HCL.out.mono ?_; rintro e w6 ⟨v6, rfl, hbuf, hb0⟩; obtain ⟨ya, yn, yc, rfl⟩ := RB.form hbuf.rb; have hb6 : Below w5.heap.size w5 w6 := (Below.refl _ w5).drew.trans hb0; have g1 : w6.cell? ⟨b, 1, none⟩ = some (.int .i64 c.me) := (hb6.cell (p := ⟨b, 1, none⟩) HBL.out).trans d1; have g2 : w6.cell? ⟨b, 2, none⟩ = some (.int .i64 c.slot) := (hb6.cell (p := ⟨b, 2, none⟩) HBL.out).trans d2; have g4 : w6.cell? ⟨b, 4, none⟩ = some (.int .i64 c.view) := (hb6.cell (p := ⟨b, 4, none⟩) HBL.out).trans d4; have y0 : w6.cell? ⟨B, 0, none⟩ = some (.slice sa2 sl2 sc2) := (hb6.cell (p := ⟨B, 0, none⟩) HXL.out).trans x0; have y1 : w6.cell? ⟨B, 1, none⟩ = some (.int .i64 valid) := (hb6.cell (p := ⟨B, 1, none⟩) HXL.out).trans x1; have a1 := Lib.cell?_alloc_some (.cells #[.int .i64 1, .int .i64 c.me, .int .i64 c.slot, .int .i64 c.view, .int .i64 valid, .slice ya yn yc] 31) g1; have a2 := Lib.cell?_alloc_some (.cells #[.int .i64 1, .int .i64 c.me, .int .i64 c.slot, .int .i64 c.view, .int .i64 valid, .slice ya yn yc] 31) g2; have a4 := Lib.cell?_alloc_some (.cells #[.int .i64 1, .int .i64 c.me, .int .i64 c.slot, .int .i64 c.view, .int .i64 valid, .slice ya yn yc] 31) g4; have z0 := Lib.cell?_alloc_some (.cells #[.int .i64 1, .int .i64 c.me, .int .i64 c.slot, .int .i64 c.view, .int .i64 valid, .slice ya yn yc] 31) y0; have z1 := Lib.cell?_alloc_some (.cells #[.int .i64 1, .int .i64 c.me, .int .i64 c.slot, .int .i64 c.view, .int .i64 valid, .slice ya yn yc] 31) y1; have HBUF := Lib.hid hbuf.rb; have HB6 := Lib.hid hb6; clear hbuf hb0 hb6)
                | (refine step_append_votes rfl (.tmp 78) (.tmp 97) rfl w.heap.size (.slice oa N0 oc) L0 rfl (HO0.out.below (HB6.out.alloc HB6.out.size (.cells #[.int .i64 1, .int .i64 c.me, .int .i64 c.slot, .int .i64 c.view, .int .i64 valid, .slice ya yn yc] 31))) (.slice (some ⟨w6.heap.size, 0, none⟩) 1 1) [⟨⟨1, c.me, c.slot, c.view, valid, bs⟩, ya, yn, yc⟩] rfl (VSrc.one (w := w6.alloc (.cells #[.int .i64 1, .int .i64 c.me, .int .i64 c.slot, .int .i64 c.view, .int .i64 valid, .slice ya yn yc] 31)) (g := w6.heap.size) ⟨⟨1, c.me, c.slot, c.view, valid, bs⟩, ya, yn, yc⟩ (Blk.new w6 _ _)) (by rw [HL0.out, List.length_singleton]; omega) (Nat.le_trans HBW5.out.size (Nat.le_trans HB6.out.size (by simp))) ?_; intro v' w7 hown hgr hf; have hoo := HO0.out.below (HB6.out.alloc HB6.out.size (.cells #[.int .i64 1, .int .i64 c.me, .int .i64 c.slot, .int .i64 c.view, .int .i64 valid, .slice ya yn yc] 31)); have hkb : Blk w7 b _ _ := (HCW5.out.hblk.below (HB6.out.alloc HB6.out.size (.cells #[.int .i64 1, .int .i64 c.me, .int .i64 c.slot, .int .i64 c.view, .int .i64 valid, .slice ya yn yc] 31)) HBL.out).same (hoo.cell hgr (HCW5.out.hblk.below (HB6.out.alloc HB6.out.size (.cells #[.int .i64 1, .int .i64 c.me, .int .i64 c.slot, .int .i64 c.view, .int .i64 valid, .slice ya yn yc] 31)) HBL.out) (by decide)); have hkx : Blk w7 B _ _ := (HBX5.out.below (HB6.out.alloc HB6.out.size (.cells #[.int .i64 1, .int .i64 c.me, .int .i64 c.slot, .int .i64 c.view, .int .i64 valid, .slice ya yn yc] 31)) HXL.out).same (hoo.cell hgr (HBX5.out.below (HB6.out.alloc HB6.out.size (.cells #[.int .i64 1, .int .i64 c.me, .int .i64 c.slot, .int .i64 c.view, .int .i64 valid, .slice ya yn yc] 31)) HXL.out) (by decide)); have k1 : w7.cell? ⟨b, 1, none⟩ = some (.int .i64 c.me) := hkb.cell 1; have k2 : w7.cell? ⟨b, 2, none⟩ = some (.int .i64 c.slot) := hkb.cell 2; have k4 : w7.cell? ⟨b, 4, none⟩ = some (.int .i64 c.view) := hkb.cell 4; have q0 : w7.cell? ⟨B, 0, none⟩ = some (.slice sa2 sl2 sc2) := hkx.cell 0; have q1 : w7.cell? ⟨B, 1, none⟩ = some (.int .i64 valid) := hkx.cell 1; clear hoo hkb hkx; have HOWN := Lib.hid hown; have HGR := Lib.hid hgr; clear hown hgr hf))
            all_goals
              go_wp2_with fail
              go_meet
              show RowAt _ _ _ _
              rw [HSS.out]
              exact RowAt.more (wx := w6.alloc (.cells #[.int .i64 1, .int .i64 c.me, .int .i64 c.slot, .int .i64 c.view, .int .i64 valid, .slice ya yn yc] 31)) (M := [⟨⟨1, c.me, c.slot, c.view, valid, bs⟩, ya, yn, yc⟩]) (HO0.out.below (HB6.out.alloc HB6.out.size _)) (HG0.out.below (HB6.out.alloc HB6.out.size _)) HV0.out (HBW5.out.trans ((HB6.out.alloc HB6.out.size _).mono HBW5.out.size)) (fun q hq => by obtain rfl := List.mem_singleton.1 hq; exact HBUF.out.below ((Below.refl _ w6).alloc (Nat.le_refl _) _)) HOWN.out HGR.out
        case rest =>
          rename World => w8
          have HR3 := hcut
          clear hcut d1 d2 d4 x0 x1 HR2 HRS5 HTW5 HCW5 HBX5
          obtain ⟨S1, hS1⟩ : ∃ S1, S0 ++ says1 c = S1 := ⟨_, rfl⟩
          rw [hS1] at HR3
          have hN2 : S1.length ≤ 2 := by
            rw [← hS1, List.length_append, HN0.out, HS1.out]
            split
            · rw [List.length_singleton]; omega
            · rw [List.length_nil]; omega
          have HSA : Hid (S1 = says0 c ++ says1 c) := by
            show _ = _
            rw [← hS1, HS0.out]
          clear hS1 HS1
          obtain ⟨⟨L, ho, hg, hv⟩, hbw⟩ := HR3.out
          obtain ⟨NL, hNL⟩ : ∃ NL, L.length = NL := ⟨_, rfl⟩
          have hNL2 : NL ≤ 2 := by rw [← hNL, ← List.length_map (f := fun q : VV => q.vt)]; rw [hv]; exact hN2
          obtain ⟨pa, pc, rfl, _, _⟩ := ho.form
          rw [hNL] at ho ⊢
          have htw := HT.out.below hbw
          have hcw : CoreRaw acc col ci w8 b c fv wi lo (.slice sa sl sc) pb pp cm tn sn dc := HC.out.ext (G := fun _ => False) (Ext.below HT.out hbw) HT.out (fun _ h => h)
          have d8 := hcw.hblk.cell 8
          simp only [List.getElem?_cons_zero, List.getElem?_cons_succ] at d8
          have hln2 : c.prepares.length ≤ 10000000000 := by
            have := srt_length hcw.hpp.srts.1 (a := 0) (b := 4294967295) (fun q hq => ⟨(HOK.out.inn.prepares q hq).1, (HOK.out.inn.prepares q hq).2.1⟩) (by omega)
            omega
          have hln3 : c.commits.length ≤ 10000000000 := by
            have := srt_length hcw.hcm.srts.1 (a := 0) (b := 4294967295) (fun q hq => ⟨(HOK.out.inn.commits q hq).1, (HOK.out.inn.commits q hq).2.1⟩) (by omega)
            omega
          have HM2 := Lib.hid (mine_any (acc := acc) 2 htw ⟨_, _, _, _, _, _, _, _, _, _, hcw⟩ hcw.hpp HOK.out.inn.prepares (by have := HOK.out.inn.me; have := HOK.out.inn.n; omega) (fun q hq r hr => by have := HOK.out.inn.len2 q hq r hr; omega))
          have HO := Lib.hid ho
          have HG := Lib.hid hg
          have HV := Lib.hid hv
          have HBW := Lib.hid hbw
          have HNL := Lib.hid hNL
          have HTW := Lib.hid htw
          have HCW := Lib.hid hcw
          clear ho hg hv hbw htw hcw hNL hN2 HR3
          go_wp2_with fail
          refine HM2.out.mono ?_
          rintro e w9 ⟨v9, M, rfl, hown9, hg9, hv9, hb9⟩
          obtain ⟨ma, mc, rfl, _, _⟩ := hown9.form
          obtain ⟨NM, hNM⟩ : ∃ NM, M.length = NM := ⟨_, rfl⟩
          have hNM2 : NM ≤ 10000000000 := by
            have e := congrArg List.length hv9
            rw [List.length_map] at e
            have := mine_length c 2 c.prepares
            omega
          have hsrc := hown9.src
          rw [hNM] at hsrc ⊢
          have HSRC := Lib.hid hsrc
          have HO9 := Lib.hid (HO.out.below hb9)
          have HG9 := Lib.hid (HG.out.below hb9)
          have HBW9 := Lib.hid (HBW.out.trans (hb9.mono HBW.out.size))
          have HGM := Lib.hid hg9
          have HVM := Lib.hid hv9
          have HNM := Lib.hid hNM
          clear hown9 hg9 hv9 hb9 hsrc hNM HM2 d8 HO HG HBW HTW HCW
          go_wp2_with (first | (refine wpList_append_votes _ rfl (.tmp 99) (.tmp 105) rfl w.heap.size _ L rfl HO9.out _ M rfl HSRC.out (by rw [HNL.out, HNM.out]; omega) HBW9.out.size ?_; intro v' wA hown hgr hf; have hRA := RowAt.more HO9.out HG9.out HV.out HBW9.out HGM.out hown hgr; rw [HVM.out] at hRA; have HRA := Lib.hid hRA; have HOA := Lib.hid hown; have HGA := Lib.hid ((HG9.out.grown HO9.out hgr).append (HGM.out.grown HO9.out hgr)); obtain ⟨xa, xc, rfl, _, _⟩ := hown.form; obtain ⟨NA, hNA⟩ : ∃ NA, (L ++ M).length = NA := ⟨_, rfl⟩; have hNA2 : NA ≤ 20000000000 := (by rw [← hNA, List.length_append, HNL.out, HNM.out]; omega); rw [hNA] at HOA; rw [hNA]; have hbA := hRA.below; have htw := HT.out.below hbA; have hcw : CoreRaw acc col ci wA b c fv wi lo (.slice sa sl sc) pb pp cm tn sn dc := HC.out.ext (G := fun _ => False) (Ext.below HT.out hbA) HT.out (fun _ h => h); have d9 : wA.cell? ⟨b, 9, none⟩ = some (.map (some cm)) := hcw.hblk.cell 9; have HM3 := Lib.hid (mine_any (acc := acc) 3 htw ⟨_, _, _, _, _, _, _, _, _, _, hcw⟩ hcw.hcm HOK.out.inn.commits (by have := HOK.out.inn.me; have := HOK.out.inn.n; omega) (fun q hq r hr => by have := HOK.out.inn.len3 q hq r hr; omega)); have HVA : Hid ((L ++ M).map (·.vt) = S1 ++ mine c 2 c.prepares) := (by show _ = _; rw [List.map_append, HV.out, HVM.out]); have HBA := Lib.hid hbA; have HNA := Lib.hid hNA; clear hown hgr hf hRA hNA hbA htw hcw))
          refine HM3.out.mono ?_
          rintro e wB ⟨vB, M3, rfl, hownB, hgB, hvB, hbB⟩
          obtain ⟨mb, md, rfl, _, _⟩ := hownB.form
          obtain ⟨NB, hNB⟩ : ∃ NB, M3.length = NB := ⟨_, rfl⟩
          have hNB2 : NB ≤ 10000000000 := by
            have e := congrArg List.length hvB
            rw [List.length_map] at e
            have := mine_length c 3 c.commits
            omega
          have hsrcB := hownB.src
          rw [hNB] at hsrcB ⊢
          have HSRB := Lib.hid hsrcB
          have HOB := Lib.hid (HOA.out.below hbB)
          have HGB := Lib.hid (HGA.out.below hbB)
          have HBB2 := Lib.hid (HBA.out.trans (hbB.mono HBA.out.size))
          have HGM3 := Lib.hid hgB
          have HVM3 := Lib.hid hvB
          have HNB := Lib.hid hNB
          clear hownB hgB hvB hbB hsrcB hNB HM3 d9
          go_wp2_with (first | (refine wpList_append_votes _ rfl (.tmp 107) (.tmp 113) rfl w.heap.size _ (L ++ M) rfl HOB.out _ M3 rfl HSRB.out (by rw [HNA.out, HNB.out]; omega) HBB2.out.size ?_; intro v' wC hown hgr hf; have hRC := RowAt.more HOB.out HGB.out HVA.out HBB2.out HGM3.out hown hgr; rw [HVM3.out] at hRC; have HRC := Lib.hid hRC; clear hown hgr hf hRC))
          go_ret
          refine ⟨_, rfl, ?_⟩
          have he : says c = S1 ++ mine c 2 c.prepares ++ mine c 3 c.commits := by rw [HSA.out]; rfl
          rw [he]
          exact HRC.out
end Go.Proofs.Ytilhdelijdkjpaa
