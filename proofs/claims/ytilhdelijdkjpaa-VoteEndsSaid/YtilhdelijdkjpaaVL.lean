/-
  Late, Wish.
-/
import Derived.Test.YtilhdelijdkjpaaVO
set_option linter.unusedVariables false
set_option linter.unusedSimpArgs false
namespace Go.Proofs.Ytilhdelijdkjpaa
open Go Go.RowKit Go.Maps Sac

/-- A core behind a call: in order, and this one. -/
def ActPost (acc : Bs → Bool) (c' : Core) (col : Colour) (ci b : Nat) (w : World) (e : Ending) (w' : World) : Prop :=
  (∃ v, e = .returned v) ∧ CoreOk c' ∧ ∃ col', Ext (fun q => q.1 = ci) col w col' w' ∧ CoreAt acc col' ci w' b c'

theorem late_ok {c : Core} (hok : CoreOk c) (h : c.view < 1048576) : CoreOk { c with view := c.view + 1 } := by
  have hi := hok.inn
  have hv := hi.view
  exact ⟨⟨hi.n, hi.me, hi.slot, ⟨by show 0 ≤ c.view + 1; omega, by show c.view + 1 ≤ 4294967295; omega⟩, hi.lock, hi.props, hi.prepares, hi.commits, hi.turns, hi.deciders, hi.seen, hi.len1, hi.len2, hi.len3, hi.len0, hi.len6⟩, hok.seen⟩
theorem wish_ok {c : Core} (hok : CoreOk c) {v : Bs} (h : v.length ≤ 4096) : CoreOk { c with wish := v, wishes := true } := by
  have hi := hok.inn
  exact ⟨⟨hi.n, hi.me, hi.slot, hi.view, hi.lock, hi.props, hi.prepares, hi.commits, hi.turns, hi.deciders, hi.seen, hi.len1, hi.len2, hi.len3, ⟨h, hi.len0.2⟩, hi.len6⟩, hok.seen⟩

set_option maxRecDepth 100000 in
set_option maxHeartbeats 2000000 in
theorem late_any {acc : Bs → Bool} {col : Colour} {ci b : Nat} {w : World} {c : Core} (ht : Tinted col w) (h : CoreAt acc col ci w b c) (hok : CoreOk c) :
    Calls Try.prog 20 #[.pointer (some ⟨b, 0, none⟩)] w (ActPost acc (lateC acc c) col ci b w) := by
  have HCA := Lib.hid h
  obtain ⟨fv, wi, lo, va, pb, pp, cm, tn, sn, dc, h⟩ := h
  have d4 := h.cells.2.2.2.2.1
  have d15 := h.cells.2.2.2.2.2.2.2.2.2.2.2.2.2.2.2.1
  have f4 := h.hblk.frozen 4
  obtain ⟨dv, hdv⟩ : ∃ dv, c.decided = dv := ⟨_, rfl⟩
  rw [hdv] at d15
  have HT := Lib.hid ht
  have HC := Lib.hid h
  have HOK := Lib.hid hok
  have HDV := Lib.hid hdv
  clear ht h hok hdv
  cases dv
  · by_cases hv : c.view < 1048576
    · have hvb : decide (c.view < 1048576) = true := decide_eq_true hv
      have h1 : IntKind.i64.wrap (c.view + 1) = c.view + 1 := by rw [IntKind.wrap_i64]; have := HOK.out.inn.view; omega
      have hbs := HC.out.hblk.set 4 (.int .i64 (c.view + 1))
      have hO3 : Only (· = b) w (w.setCell ⟨b, 4, none⟩ (.int .i64 (c.view + 1))) := (Only.refl (· = b) w).setCell (fun _ => rfl) _
      have hE3 := Ext.own HT.out HC.out hO3 ⟨_, hbs⟩
      have hc3 : CoreRaw acc col ci (w.setCell ⟨b, 4, none⟩ (.int .i64 (c.view + 1))) b { c with view := c.view + 1 } fv wi lo va pb pp cm tn sn dc :=
        HC.out.own hE3 HT.out hbs (HC.out.hwi.ext hE3 HT.out) (HC.out.hlo.ext hE3 HT.out) (HC.out.hva.ext hE3 HT.out) rfl rfl rfl rfl rfl rfl
      have HA := Lib.hid (act_any hE3.tint ⟨_, _, _, _, _, _, _, _, _, _, hc3⟩ (late_ok HOK.out hv))
      have HE3 : Hid (Ext (fun q => q.1 = ci) col w col _) := hE3.mono (fun q e => by rw [e])
      have hl : lateC acc c = act acc { c with view := c.view + 1 } := by unfold lateC; rw [if_pos ⟨HDV.out, hv⟩]
      rw [hl]
      clear hbs hO3 hE3 hc3 hl
      go_enter Try.func20, Try.ntmps20
      go_wp2_with fail
      refine HA.out.mono ?_
      rintro e w5 ⟨⟨v, rfl⟩, h5, col5, hE5, hC5⟩
      have HX := Lib.hid (And.intro h5 (And.intro (HE3.out.trans hE5) hC5))
      clear h5 hE5 hC5
      go_wp2_with fail
      go_end0
      exact ⟨⟨_, rfl⟩, HX.out.1, col5, HX.out.2.1, HX.out.2.2⟩
    · have hvb : decide (c.view < 1048576) = false := decide_eq_false hv
      have hl : lateC acc c = c := by unfold lateC; rw [if_neg (fun h => hv h.2)]
      rw [hl]
      clear hl
      go_enter Try.func20, Try.ntmps20
      go_wp2_with fail
      go_end0
      exact ⟨⟨_, rfl⟩, HOK.out, col, Ext.refl HT.out, HCA.out⟩
  · have hl : lateC acc c = c := by unfold lateC; rw [if_neg (fun h => by rw [HDV.out] at h; exact absurd h.1 (by decide))]
    rw [hl]
    clear hl
    go_enter Try.func20, Try.ntmps20
    go_wp2_with fail
    go_end0
    exact ⟨⟨_, rfl⟩, HOK.out, col, Ext.refl HT.out, HCA.out⟩

set_option maxRecDepth 100000 in
set_option maxHeartbeats 2000000 in
theorem wish_any {acc : Bs → Bool} {col : Colour} {ci b : Nat} {w : World} {c : Core} (v : Value) (bs : Bs) (ht : Tinted col w) (h : CoreAt acc col ci w b c) (hok : CoreOk c) (hb : IB w v bs) :
    Calls Try.prog 19 #[.pointer (some ⟨b, 0, none⟩), v] w (ActPost acc (wishC acc c bs) col ci b w) := by
  have HCA := Lib.hid h
  obtain ⟨fv, wi, lo, va, pb, pp, cm, tn, sn, dc, h⟩ := h
  have d6 := h.cells.2.2.2.2.2.2.1
  obtain ⟨dv, hdv⟩ : ∃ dv, c.wishes = dv := ⟨_, rfl⟩
  rw [hdv] at d6
  obtain ⟨sa, cap, rfl, hb2⟩ := id hb
  obtain ⟨n, hn⟩ : ∃ n, bs.length = n := ⟨_, rfl⟩
  rw [hn] at hb ⊢
  have HT := Lib.hid ht
  have HC := Lib.hid h
  have HOK := Lib.hid hok
  have HDV := Lib.hid hdv
  have HB := Lib.hid hb
  have HN := Lib.hid hn
  clear ht h hok hdv hb hb2 hn
  cases dv
  · by_cases hv : (4096 : Int) < n
    · have hvb : decide ((4096 : Int) < n) = true := decide_eq_true hv
      have hl : wishC acc c bs = c := by unfold wishC; rw [if_pos (.inr (by have := HN.out; omega))]
      rw [hl]
      clear hl
      go_enter Try.func19, Try.ntmps19
      go_wp2_with fail
      refine bodyPost_ret (results_none rfl _ _ _) rfl ?_
      exact ⟨⟨_, rfl⟩, HOK.out, col, Ext.refl HT.out, HCA.out⟩
    · have hvb : decide ((4096 : Int) < n) = false := decide_eq_false hv
      have hv2 : (n : Int) ≤ 4096 := by omega
      have hcl := clone_in (.slice sa n cap) bs w HB.out (by have := HN.out; omega)
      have HCL := Lib.hid hcl
      have hl : wishC acc c bs = act acc { c with wish := bs, wishes := true } := by unfold wishC; rw [if_neg (by rw [HDV.out]; have := HN.out; simp; omega)]
      rw [hl]
      clear hcl hl
      go_enter Try.func19, Try.ntmps19
      go_wp2_with fail
      refine HCL.out.mono ?_
      rintro e w2 ⟨v2, rfl, hbuf, hb2⟩
      have ht2 := HT.out.below hb2
      have hc2 : CoreRaw acc col ci w2 b c fv wi lo va pb pp cm tn sn dc := HC.out.ext (G := fun _ => False) (Ext.below HT.out hb2) HT.out (fun _ h => h)
      have d5 := hc2.cells.2.2.2.2.2.1
      have g6 := hc2.cells.2.2.2.2.2.2.1
      have f5 := hc2.hblk.frozen 5
      have f6 := hc2.hblk.frozen 6
      rw [HDV.out] at g6
      obtain ⟨qa, qn, qc, hqf⟩ := RB.form hc2.hwi
      rw [hqf] at d5
      have hrb := hbuf.rb
      obtain ⟨ra, rn, rc, rfl⟩ := RB.form hrb
      have hbs := (hc2.hblk.set 5 (.slice ra rn rc)).set 6 (.bool true)
      have hO3 : Only (· = b) w2 ((w2.setCell ⟨b, 5, none⟩ (.slice ra rn rc)).setCell ⟨b, 6, none⟩ (.bool true)) := ((Only.refl (· = b) w2).setCell (fun _ => rfl) _).setCell (fun _ => rfl) _
      have hE3 := Ext.own ht2 hc2 hO3 ⟨_, hbs⟩
      have hc3 : CoreRaw acc col ci ((w2.setCell ⟨b, 5, none⟩ (.slice ra rn rc)).setCell ⟨b, 6, none⟩ (.bool true)) b { c with wish := bs, wishes := true } fv (.slice ra rn rc) lo va pb pp cm tn sn dc :=
        hc2.own hE3 ht2 hbs (hrb.ext hE3 ht2) (hc2.hlo.ext hE3 ht2) (hc2.hva.ext hE3 ht2) rfl rfl rfl rfl rfl rfl
      have HA := Lib.hid (act_any hE3.tint ⟨_, _, _, _, _, _, _, _, _, _, hc3⟩ (wish_ok HOK.out (by have := HN.out; omega)))
      have HE3 : Hid (Ext (fun q => q.1 = ci) col w col _) := (Ext.below HT.out hb2).trans (hE3.mono (fun q e => by rw [e]))
      clear hbs hO3 hE3 hc3 hbuf hb2 ht2 hc2 hqf hrb d6
      go_wp2_with fail
      refine HA.out.mono ?_
      rintro e w5 ⟨⟨v, rfl⟩, h5, col5, hE5, hC5⟩
      have HX := Lib.hid (And.intro h5 (And.intro (HE3.out.trans hE5) hC5))
      clear h5 hE5 hC5
      go_wp2_with fail
      go_end0
      exact ⟨⟨_, rfl⟩, HX.out.1, col5, HX.out.2.1, HX.out.2.2⟩
  · have hl : wishC acc c bs = c := by unfold wishC; rw [if_pos (.inl HDV.out)]
    rw [hl]
    clear hl
    go_enter Try.func19, Try.ntmps19
    go_wp2_with fail
    refine bodyPost_ret (results_none rfl _ _ _) rfl ?_
    exact ⟨⟨_, rfl⟩, HOK.out, col, Ext.refl HT.out, HCA.out⟩

end Go.Proofs.Ytilhdelijdkjpaa
