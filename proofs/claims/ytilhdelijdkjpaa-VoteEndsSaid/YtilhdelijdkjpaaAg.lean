/-
  agree: do the right ones agree?
-/
import Derived.Test.YtilhdelijdkjpaaBg
import Derived.Test.YtilhdelijdkjpaaGl
set_option linter.unusedVariables false
set_option linter.unusedSimpArgs false
namespace Go.Proofs.Ytilhdelijdkjpaa
open Go Go.RowKit Go.Maps Sac

/-- What agree has seen. -/
def Seen (l : List Core) (wrong : List Bool) (o : Option Bs) : Prop := ∀ y, o = some y → ∃ (j : Nat) (d : Core), l[j]? = some d ∧ wrong[j]? = some false ∧ d.decided = true ∧ d.value = y
theorem not_calls {w : World} {v : Value} {bs : Bs} (h : RB w v bs) : Calls Try.prog 15 #[v] w fun e w' => e = .returned (.bool (notV bs)) ∧ Below w.heap.size w w' := by
  obtain ⟨f, hf, _, h2⟩ := not_acc.form
  cases hf
  exact h2 w v bs h

set_option maxRecDepth 100000 in
set_option maxHeartbeats 8000000 in
theorem agree_any (n : Nat) (slot : Int) {col : Colour} {w0 w : World} {pb : Nat} {v : Value} {bl : List Nat} {l : List Core} {wrong : List Bool} (hn : 4 ≤ n ∧ n ≤ 10)
    (hP : PAt col w0 w pb v bl l wrong) (hL : LInv n slot wrong notV l) :
    Calls Try.prog 30 #[.pointer (some ⟨pb, 0, none⟩)] w fun e w' => e = .returned (.bool true) ∧ Below w.heap.size w w' := by
  obtain ⟨va, vc, rfl, hvc⟩ := hP.peers.form
  rw [hL.len] at hP hvc
  obtain ⟨wb, hB1, hB2, hc2, hw2⟩ := hP.pblk
  rw [hL.wlen] at hB1
  have c1 := hB1.cell 1
  have c2 := hB1.cell 2
  simp only [List.getElem?_cons_succ, List.getElem?_cons_zero] at c1 c2
  have HP := Lib.hid hP
  have HL := Lib.hid hL
  have HB2 := Lib.hid hB2
  clear hP hL hB1 hB2 hc2 hw2
  go_enter Try.func30, Try.ntmps30
  go_wp2_with fail
  go_loopw [3, 4, 14] (fun f th u wr => ∃ (i : Nat) (o : Option Bs), i ≤ n ∧ u = .int .i64 (i : Int) ∧ f = .string (strB (o.getD [])) ∧ th = .bool o.isSome ∧ Hid (Below w.heap.size w wr) ∧ Hid (Seen l wrong o)) (fun _ _ u _ => n - (vint u).toNat)
  case atStart => exact ⟨0, none, Nat.zero_le _, rfl, rfl, rfl, Below.refl _ _, fun y e => by cases e⟩
  case round =>
    obtain ⟨i, o, hi, rfl, rfl, rfl, HB, HS⟩ := hrel
    by_cases hlt : (i : Int) < (n : Int)
    · rename World => wr
      have hPr := HP.out.moved HB.out
      obtain ⟨g, cap, b, c, hv, hgt, hbt, hct, hCt, hok⟩ := hPr.peers.at_ (i := i) (by rw [HL.out.len]; omega)
      injection hv with e1 e2 e3
      subst e1 e3
      clear e2
      obtain ⟨wf, hwf⟩ : ∃ x, wrong[i]? = some x := ⟨_, List.getElem?_eq_getElem (by rw [HL.out.wlen]; omega)⟩
      have d2 := HB2.out.cell i
      rw [List.getElem?_map, hwf, Option.map_some] at d2
      have HDE := Lib.hid (decided_any hPr.peers.tint hCt hok)
      have HWF := Lib.hid hwf
      have HCT := Lib.hid hct
      clear hPr hbt hct hCt hok hwf
      go_wp2_with fail
      refine HDE.out.mono ?_
      rintro e w2 ⟨hb2, rv, rfl, hrb⟩
      obtain ⟨ra, rn, rc, rfl⟩ := RB.form hrb
      have HB3 := Lib.hid (HB.out.trans (hb2.mono HB.out.size))
      have g2 : w2.cell? ⟨pb, 2, none⟩ = some (.slice (some ⟨wb, 0, none⟩) n n) := cell_moved c2 HB3.out
      have g3 : w2.cell? ⟨wb, i, none⟩ = some (.bool wf) := cell_moved d2 HB3.out
      obtain ⟨dv, hdv⟩ : ∃ x, c.decided = x := ⟨_, rfl⟩
      rw [hdv] at hrb ⊢
      have HDV := Lib.hid hdv
      have HRB := Lib.hid hrb
      clear hb2 hrb hdv d2 hgt
      cases wf with
      | true =>
        go_wp2_with fail
        exact ⟨⟨i + 1, o, by omega, by push_cast; rfl, rfl, rfl, HB3, HS⟩, by simp [vint]; omega⟩
      | false =>
        cases dv with
        | false =>
          go_wp2_with fail
          exact ⟨⟨i + 1, o, by omega, by push_cast; rfl, rfl, rfl, HB3, HS⟩, by simp [vint]; omega⟩
        | true =>
          have hag := HL.out.agree HCT.out HCT.out HWF.out HWF.out HDV.out HDV.out
          have hrb : RB w2 (.slice ra rn rc) c.value := HRB.out
          have HNO := Lib.hid (not_calls hrb)
          rw [hag.2] at HNO
          obtain ⟨y, hy⟩ : ∃ y, c.value = y := ⟨_, rfl⟩
          have HS2 : Hid (Seen l wrong (some y)) := fun z e => by cases e; exact ⟨i, c, HCT.out, HWF.out, HDV.out, hy⟩
          have HO : Hid (o = none ∨ o = some y) := by
            cases o with
            | none => exact .inl rfl
            | some z =>
              obtain ⟨j, d, h1, h2, h3, h4⟩ := HS.out z rfl
              exact .inr (by rw [← h4, ← hy, (HL.out.agree h1 HCT.out h2 HWF.out h3 HDV.out).1])
          rw [hy] at hrb
          have HR2 := Lib.hid hrb
          clear hag hrb hy HRB HS
          rcases HO.out with rfl | rfl
          all_goals
            go_wp2_with fail
            refine HNO.out.mono ?_
            rintro e w3 ⟨rfl, hb3⟩
            have hst := rb_str (HR2.out.below hb3)
            have HB4 := Lib.hid (HB3.out.trans (hb3.mono HB3.out.size))
            clear hb3
            go_wp2_with fail
            exact ⟨⟨i + 1, some y, by omega, by push_cast; rfl, rfl, rfl, HB4, HS2⟩, by simp [vint]; omega⟩
    · obtain rfl : n = i := by omega
      go_wp2_with fail
      go_ret
      exact ⟨rfl, HB.out⟩
end Go.Proofs.Ytilhdelijdkjpaa
