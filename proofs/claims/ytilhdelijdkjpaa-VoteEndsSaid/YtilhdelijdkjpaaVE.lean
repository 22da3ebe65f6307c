/-
  What a core does by itself: commit.
-/
import Derived.Test.YtilhdelijdkjpaaVQ
set_option linter.unusedVariables false
set_option linter.unusedSimpArgs false
namespace Go.Proofs.Ytilhdelijdkjpaa
open Go Go.RowKit Go.Maps Sac

/-- What one of a core's deeds hands back: it did nothing, or the core is another one. -/
def StepPost (acc : Bs → Bool) (o : Option Core) (col : Colour) (ci b : Nat) (w : World) (e : Ending) (w' : World) : Prop :=
  match o with
  | none => e = .returned (.bool false) ∧ Below w.heap.size w w'
  | some c' => e = .returned (.bool true) ∧ ∃ col', Ext (fun q => q.1 = ci) col w col' w' ∧ CoreAt acc col' ci w' b c'

theorem RB.form {w : World} {v : Value} {bs : Bs} (h : RB w v bs) : ∃ a n c, v = .slice a n c := by
  obtain ⟨a, cap, e, _⟩ := h
  exact ⟨a, _, cap, e⟩

theorem TMap.look {w : World} {mv : Value} {t : TellM} (h : TMap w mv t) {who : Int} (hw : (Lit.int .i64 who).wf = true) :
    ∃ v, (Instr.lookup 108 mv (.int .i64 who) true).run Try.prog w = .ok (.tuple #[v, .bool (lookM t who).isSome]) w ∧ RB w v ((lookM t who).getD []) := by
  rcases h with ⟨rfl, rfl⟩ | ⟨ib, l, rfl, hm, hr⟩
  · exact ⟨_, nomap2 who w hw, RB.nil w⟩
  · have l2 := hm.lookTwo Try.underlying3 Try.underlying108 (Try.zeroValue29 w) hw
    rcases hr.lookM who with ⟨h1, h2⟩ | ⟨x, y, h1, h2, h3⟩
    · rw [h1] at l2
      rw [h2]
      exact ⟨_, l2, RB.nil w⟩
    · rw [h1] at l2
      rw [h2]
      exact ⟨_, l2, h3⟩

set_option maxRecDepth 100000 in
set_option maxHeartbeats 2000000 in
theorem commit_any {acc : Bs → Bool} {col : Colour} {ci b : Nat} {w : World} {c : Core} (ht : Tinted col w) (h : CoreAt acc col ci w b c) (hok : CoreIn c) (hl : ∀ v, prepared c c.view = some v → v.length ≤ 4096) :
    Calls Try.prog 91 #[.pointer (some ⟨b, 0, none⟩)] w (StepPost acc (commitC c) col ci b w) := by
  have hp := prepared_any c.view ht h hok (by have := hok.view; omega)
  obtain ⟨fv, wi, lo, va, pb, pp, cm, tn, sn, dc, h⟩ := h
  obtain ⟨_, _, _, _, c4, _⟩ := h.cells
  have HP := Lib.hid hp
  have HT := Lib.hid ht
  have HC := Lib.hid h
  have HOK := Lib.hid hok
  have HL := Lib.hid hl
  clear hp ht h hok hl
  go_enter Try.func91, Try.ntmps91
  go_wp2_with fail
  refine HP.out.mono ?_
  rintro e w2 ⟨hb2, v2, rfl, hrb⟩
  have HB2 := Lib.hid hb2
  have HRB := Lib.hid hrb
  have ht2 := HT.out.below hb2
  have hc2 : CoreRaw acc col ci w2 b c fv wi lo va pb pp cm tn sn dc := HC.out.ext (G := fun _ => False) (Ext.below HT.out hb2) HT.out (fun _ h => h)
  obtain ⟨d0, d1, d2, d3, d4, d5, d6, d7, d8, d9, d10, d11, d12, d13, d14, d15, d16⟩ := hc2.cells
  obtain ⟨mv, hlk, hTM⟩ := (hc2.hcm.drew ht2).look (view := c.view) (wf64_mk (by have := HOK.out.view; omega) (by have := HOK.out.view; omega))
  obtain ⟨dv, hlk2, _⟩ := hTM.look (who := c.me) (wf64_mk (by have := HOK.out.me; omega) (by have := HOK.out.me; have := HOK.out.n; omega))
  obtain ⟨dn, hdn⟩ : ∃ dn, (lookM (inner c.commits c.view) c.me).isSome = dn := ⟨_, rfl⟩
  rw [hdn] at hlk2
  have HDN := Lib.hid hdn
  have HT2 := Lib.hid ht2
  have HC2 := Lib.hid hc2
  clear hb2 hrb ht2 hc2 hTM c4 d0 d2 d3 d5 d6 d7 d8 d10 d11 d12 d13 d14 d15 d16 hdn
  cases hpc : prepared c c.view with
  | none =>
    rw [hpc] at HRB
    have HPC := Lib.hid hpc
    clear hpc
    cases dn
    all_goals
      go_wp2_with fail
      go_region
      all_goals
        go_wp2_with fail
        go_ret
        show StepPost _ (commitC c) _ _ _ _ _ _
        rw [show commitC c = none by unfold commitC; rw [HPC.out]]
        exact ⟨rfl, HB2.out.drew⟩
  | some value =>
    rw [hpc] at HRB
    have HPC := Lib.hid hpc
    have hvl := HL.out value hpc
    clear hpc
    cases dn
    case true =>
      go_wp2_with fail
      go_region
      all_goals
        go_wp2_with fail
        go_ret
        show StepPost _ (commitC c) _ _ _ _ _ _
        rw [show commitC c = none by unfold commitC; rw [HPC.out]; simp [HDN.out]]
        exact ⟨rfl, HB2.out.drew⟩
    case false =>
      have hln : lookM (inner c.commits c.view) c.me = none := by
        have := HDN.out
        cases hx : lookM (inner c.commits c.view) c.me with
        | none => rfl
        | some _ => rw [hx] at this; cases this
      obtain ⟨sa, sl, sc, rfl⟩ := HRB.out.form
      have f13 := HC2.out.hblk.frozen 13
      have f14 := HC2.out.hblk.frozen 14
      have d13 := HC2.out.hblk.cell 13
      have d14 := HC2.out.hblk.cell 14
      simp only [List.getElem?_cons_zero, List.getElem?_cons_succ] at d13 d14
      have hbs := (HC2.out.hblk.set 13 (.int .i64 c.view)).set 14 (.slice sa sl sc)
      obtain ⟨w3, hw3⟩ : ∃ w3, ((w2.setCell ⟨b, 13, none⟩ (.int .i64 c.view)).setCell ⟨b, 14, none⟩ (.slice sa sl sc)).drew = w3 := ⟨_, rfl⟩
      have hbs := hbs.drew
      rw [hw3] at hbs
      have hO3 : Only (· = b) w2 w3 := by rw [← hw3]; exact (((Only.refl (· = b) w2).setCell (fun _ => rfl) _).setCell (fun _ => rfl) _).drew
      have hE3 := Ext.own HT2.out HC2.out hO3 ⟨_, hbs⟩
      have hc3 : CoreRaw acc col ci w3 b { c with lock := c.view, locked := value } fv wi (.slice sa sl sc) va pb pp cm tn sn dc :=
        HC2.out.own hE3 HT2.out hbs (HC2.out.hwi.ext hE3 HT2.out) (HRB.out.ext hE3 HT2.out) (HC2.out.hva.ext hE3 HT2.out) rfl rfl rfl rfl rfl rfl
      obtain ⟨_, g1, _, _, g4, _, _, _, _, g9, _⟩ := hc3.cells
      have hE4 : Ext (fun _ => False) col w3 col w3.drew := Ext.below hE3.tint (Below.refl _ w3).drew
      have hc4 := hc3.ext hE4 hE3.tint (fun _ h => h)
      have hsv : setV c.commits c.view c.me value = some (putM c.view (putM c.me value (inner c.commits c.view)) c.commits) := by unfold setV; rw [hln]
      have hset := set_any c.view c.me (.slice sa sl sc) value hE4.tint hc4.hcm HOK.out.commits HOK.out.view (by have := HOK.out.me; have := HOK.out.n; omega) hc4.hlo (by omega)
      rw [hsv] at hset
      have HW3 := Lib.hid hw3
      have HE4 := Lib.hid (And.intro (hE3.mono (H := fun q => q.1 = ci) (fun q e => by rw [e])) (hE4.mono (H := fun q => q.1 = ci) (fun q h => h.elim)))
      have HC4 := Lib.hid hc4
      have HSET := Lib.hid hset
      have HSV := Lib.hid hsv
      clear hbs hw3 hO3 hE3 hc3 hset hE4 hc4 hsv hln
      go_wp2_with fail
      go_region
      all_goals
        go_wp2_with fail
        rw [HW3.out]
        rename_i Kc hKc
        clear f13 f14 d13 d14 d1 d4 d9 hlk hlk2
        go_region_law (first
          | (go_simp; go_at_call 87; refine HSET.out.mono ?_; rintro e w5 ⟨rfl, col5, hE5, hV5⟩)
          | fail)
        all_goals
          refine hKc _ _ ?_
          go_wp2_with fail
          go_ret
          show StepPost _ (commitC c) _ _ _ _ _ _
          rw [show commitC c = some { c with commits := putM c.view (putM c.me value (inner c.commits c.view)) c.commits, lock := c.view, locked := value } by unfold commitC; rw [HPC.out]; simp [HDN.out, HSV.out]]
          refine ⟨rfl, col5, ?_, _, _, _, _, _, _, _, _, _, _, HC4.out.part3 hE5 HE4.out.2.tint hV5⟩
          exact (((Ext.below HT.out HB2.out).trans HE4.out.1).trans HE4.out.2).trans (hE5.mono (fun q e => by rw [e]))

end Go.Proofs.Ytilhdelijdkjpaa
