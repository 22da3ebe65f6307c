/-
  know: what a peer told is known, if it is new.
-/
import Derived.Test.YtilhdelijdkjpaaVL
set_option linter.unusedVariables false
set_option linter.unusedSimpArgs false
namespace Go.Proofs.Ytilhdelijdkjpaa
open Go Go.RowKit Go.Maps Sac

/-- A vote as a value. -/
abbrev voteV (k : Int) (v : Vt) (s : Value) : Value := .agg #[.int .i64 k, .int .i64 v.frm, .int .i64 v.slot, .int .i64 v.view, .int .i64 v.valid, s]
/-- A vote's numbers and its value are within bounds. -/
structure VtIn (v : Vt) : Prop where
  frm : 1 ≤ v.frm ∧ v.frm ≤ 64
  slot : 0 ≤ v.slot ∧ v.slot ≤ 256
  view : 0 ≤ v.view ∧ v.view ≤ 1048576
  valid : -1 ≤ v.valid ∧ v.valid ≤ 1048576
  len : v.value.length ≤ 4096

set_option maxRecDepth 100000 in
set_option maxHeartbeats 2000000 in
theorem know_2 {acc : Bs → Bool} {col : Colour} {ci b : Nat} {w : World} {c : Core} (v : Vt) (s : Value) (hk : v.kind = 2) (ht : Tinted col w) (h : CoreAt acc col ci w b c) (hok : CoreOk c) (hv : VtIn v) (hs : IB w s v.value) :
    Calls Try.prog 60 #[.pointer (some ⟨b, 0, none⟩), voteV 2 v s] w (StepPost acc (know c v) col ci b w) := by
  obtain ⟨fv, wi, lo, va, pb, pp, cm, tn, sn, dc, h⟩ := h
  obtain ⟨sa, sl, sc, rfl⟩ := IB.form hs
  obtain ⟨B, hBB⟩ : ∃ B, w.heap.size = B := ⟨_, rfl⟩
  obtain ⟨W1, hW1⟩ : ∃ W1, w.alloc (.cells #[.int .i64 2, .int .i64 v.frm, .int .i64 v.slot, .int .i64 v.view, .int .i64 v.valid, .slice sa sl sc] 31) = W1 := ⟨_, rfl⟩
  have hB1 : Below w.heap.size w W1 := by rw [← hW1]; exact (Below.refl _ w).alloc (Nat.le_refl _) _
  have hbx : Blk W1 B 31 [.int .i64 2, .int .i64 v.frm, .int .i64 v.slot, .int .i64 v.view, .int .i64 v.valid, .slice sa sl sc] := by rw [← hW1, ← hBB]; exact Blk.new w _ _
  have p0 := hbx.cell 0
  have p1 := hbx.cell 1
  have p3 := hbx.cell 3
  have p5 := hbx.cell 5
  simp only [List.getElem?_cons_zero, List.getElem?_cons_succ] at p0 p1 p3 p5
  have ht1 := ht.below hB1
  have hc1 : CoreRaw acc col ci W1 b c fv wi lo va pb pp cm tn sn dc := h.ext (G := fun _ => False) (Ext.below ht hB1) ht (fun _ h => h)
  have hbd : Below W1.heap.size W1 W1.drew := (Below.refl _ W1).drew
  have htd := ht1.below hbd
  have hcd : CoreRaw acc col ci W1.drew b c fv wi lo va pb pp cm tn sn dc := hc1.ext (G := fun _ => False) (Ext.below ht1 hbd) ht1 (fun _ h => h)
  have hB1d : Below w.heap.size w W1.drew := hB1.drew
  have dN := hc1.hblk.cell 8
  simp only [List.getElem?_cons_zero, List.getElem?_cons_succ] at dN
  have hset := set_in v.view v.frm (.slice sa sl sc) v.value htd hcd.hpp hok.inn.prepares ⟨hv.view.1, by have := hv.view; omega⟩ hv.frm (hs.below hB1d) (by have := hv.len; omega)
  obtain ⟨o, ho⟩ : ∃ o, setV c.prepares v.view v.frm v.value = o := ⟨_, rfl⟩
  rw [ho] at hset
  have hkn : know c v = o.map fun m => { c with prepares := m } := by unfold know; rw [hk, ← ho]; rfl
  rw [hkn]
  have HSET := Lib.hid hset
  have HT := Lib.hid ht
  have HTD := Lib.hid htd
  have HCD := Lib.hid hcd
  have HB1D := Lib.hid hB1d
  have HW1 := Lib.hid hW1
  have HBB := Lib.hid hBB
  clear ht h hok hv hs hbx ht1 hc1 hbd htd hcd hB1 hB1d hset hkn ho hk
  cases o with
  | none =>
    go_enter Try.func60, Try.ntmps60
    go_wp2_with fail
    rename_i Kc hKc
    go_region_law (first
      | (go_simp; go_at_call 87; refine HSET.out.mono ?_; rintro e w5 ⟨rfl, rfl⟩)
      | fail)
    all_goals
      refine hKc _ _ ?_
      go_wp2_with fail
      go_ret
      exact ⟨rfl, HB1D.out⟩
  | some m' =>
    go_enter Try.func60, Try.ntmps60
    go_wp2_with fail
    rename_i Kc hKc
    go_region_law (first
      | (go_simp; go_at_call 87; refine HSET.out.mono ?_; rintro e w5 ⟨rfl, col5, hE5, hV5⟩)
      | fail)
    all_goals
      refine hKc _ _ ?_
      go_wp2_with fail
      go_ret
      exact ⟨rfl, col5, (Ext.below HT.out HB1D.out).trans (hE5.mono (fun q e => by rw [e])), _, _, _, _, _, _, _, _, _, _, HCD.out.part2 hE5 HTD.out hV5⟩

set_option maxRecDepth 100000 in
set_option maxHeartbeats 2000000 in
theorem know_3 {acc : Bs → Bool} {col : Colour} {ci b : Nat} {w : World} {c : Core} (v : Vt) (s : Value) (hk : v.kind = 3) (ht : Tinted col w) (h : CoreAt acc col ci w b c) (hok : CoreOk c) (hv : VtIn v) (hs : IB w s v.value) :
    Calls Try.prog 60 #[.pointer (some ⟨b, 0, none⟩), voteV 3 v s] w (StepPost acc (know c v) col ci b w) := by
  obtain ⟨fv, wi, lo, va, pb, pp, cm, tn, sn, dc, h⟩ := h
  obtain ⟨sa, sl, sc, rfl⟩ := IB.form hs
  obtain ⟨B, hBB⟩ : ∃ B, w.heap.size = B := ⟨_, rfl⟩
  obtain ⟨W1, hW1⟩ : ∃ W1, w.alloc (.cells #[.int .i64 3, .int .i64 v.frm, .int .i64 v.slot, .int .i64 v.view, .int .i64 v.valid, .slice sa sl sc] 31) = W1 := ⟨_, rfl⟩
  have hB1 : Below w.heap.size w W1 := by rw [← hW1]; exact (Below.refl _ w).alloc (Nat.le_refl _) _
  have hbx : Blk W1 B 31 [.int .i64 3, .int .i64 v.frm, .int .i64 v.slot, .int .i64 v.view, .int .i64 v.valid, .slice sa sl sc] := by rw [← hW1, ← hBB]; exact Blk.new w _ _
  have p0 := hbx.cell 0
  have p1 := hbx.cell 1
  have p3 := hbx.cell 3
  have p5 := hbx.cell 5
  simp only [List.getElem?_cons_zero, List.getElem?_cons_succ] at p0 p1 p3 p5
  have ht1 := ht.below hB1
  have hc1 : CoreRaw acc col ci W1 b c fv wi lo va pb pp cm tn sn dc := h.ext (G := fun _ => False) (Ext.below ht hB1) ht (fun _ h => h)
  have hbd : Below W1.heap.size W1 W1.drew := (Below.refl _ W1).drew
  have htd := ht1.below hbd
  have hcd : CoreRaw acc col ci W1.drew b c fv wi lo va pb pp cm tn sn dc := hc1.ext (G := fun _ => False) (Ext.below ht1 hbd) ht1 (fun _ h => h)
  have hB1d : Below w.heap.size w W1.drew := hB1.drew
  have dN := hc1.hblk.cell 9
  simp only [List.getElem?_cons_zero, List.getElem?_cons_succ] at dN
  have hset := set_in v.view v.frm (.slice sa sl sc) v.value htd hcd.hcm hok.inn.commits ⟨hv.view.1, by have := hv.view; omega⟩ hv.frm (hs.below hB1d) (by have := hv.len; omega)
  obtain ⟨o, ho⟩ : ∃ o, setV c.commits v.view v.frm v.value = o := ⟨_, rfl⟩
  rw [ho] at hset
  have hkn : know c v = o.map fun m => { c with commits := m } := by unfold know; rw [hk, ← ho]; rfl
  rw [hkn]
  have HSET := Lib.hid hset
  have HT := Lib.hid ht
  have HTD := Lib.hid htd
  have HCD := Lib.hid hcd
  have HB1D := Lib.hid hB1d
  have HW1 := Lib.hid hW1
  have HBB := Lib.hid hBB
  clear ht h hok hv hs hbx ht1 hc1 hbd htd hcd hB1 hB1d hset hkn ho hk
  cases o with
  | none =>
    go_enter Try.func60, Try.ntmps60
    go_wp2_with fail
    rename_i Kc hKc
    go_region_law (first
      | (go_simp; go_at_call 87; refine HSET.out.mono ?_; rintro e w5 ⟨rfl, rfl⟩)
      | fail)
    all_goals
      refine hKc _ _ ?_
      go_wp2_with fail
      go_ret
      exact ⟨rfl, HB1D.out⟩
  | some m' =>
    go_enter Try.func60, Try.ntmps60
    go_wp2_with fail
    rename_i Kc hKc
    go_region_law (first
      | (go_simp; go_at_call 87; refine HSET.out.mono ?_; rintro e w5 ⟨rfl, col5, hE5, hV5⟩)
      | fail)
    all_goals
      refine hKc _ _ ?_
      go_wp2_with fail
      go_ret
      exact ⟨rfl, col5, (Ext.below HT.out HB1D.out).trans (hE5.mono (fun q e => by rw [e])), _, _, _, _, _, _, _, _, _, _, HCD.out.part3 hE5 HTD.out hV5⟩

set_option maxRecDepth 100000 in
set_option maxHeartbeats 2000000 in
theorem know_5 {acc : Bs → Bool} {col : Colour} {ci b : Nat} {w : World} {c : Core} (v : Vt) (s : Value) (hk : v.kind = 5) (ht : Tinted col w) (h : CoreAt acc col ci w b c) (hok : CoreOk c) (hv : VtIn v) (hs : IB w s v.value) :
    Calls Try.prog 60 #[.pointer (some ⟨b, 0, none⟩), voteV 5 v s] w (StepPost acc (know c v) col ci b w) := by
  obtain ⟨fv, wi, lo, va, pb, pp, cm, tn, sn, dc, h⟩ := h
  obtain ⟨sa, sl, sc, rfl⟩ := IB.form hs
  obtain ⟨B, hBB⟩ : ∃ B, w.heap.size = B := ⟨_, rfl⟩
  obtain ⟨W1, hW1⟩ : ∃ W1, w.alloc (.cells #[.int .i64 5, .int .i64 v.frm, .int .i64 v.slot, .int .i64 v.view, .int .i64 v.valid, .slice sa sl sc] 31) = W1 := ⟨_, rfl⟩
  have hB1 : Below w.heap.size w W1 := by rw [← hW1]; exact (Below.refl _ w).alloc (Nat.le_refl _) _
  have hbx : Blk W1 B 31 [.int .i64 5, .int .i64 v.frm, .int .i64 v.slot, .int .i64 v.view, .int .i64 v.valid, .slice sa sl sc] := by rw [← hW1, ← hBB]; exact Blk.new w _ _
  have p0 := hbx.cell 0
  have p1 := hbx.cell 1
  have p3 := hbx.cell 3
  have p5 := hbx.cell 5
  simp only [List.getElem?_cons_zero, List.getElem?_cons_succ] at p0 p1 p3 p5
  have ht1 := ht.below hB1
  have hc1 : CoreRaw acc col ci W1 b c fv wi lo va pb pp cm tn sn dc := h.ext (G := fun _ => False) (Ext.below ht hB1) ht (fun _ h => h)
  have hbd : Below W1.heap.size W1 W1.drew := (Below.refl _ W1).drew
  have htd := ht1.below hbd
  have hcd : CoreRaw acc col ci W1.drew b c fv wi lo va pb pp cm tn sn dc := hc1.ext (G := fun _ => False) (Ext.below ht1 hbd) ht1 (fun _ h => h)
  have hB1d : Below w.heap.size w W1.drew := hB1.drew
  have dN := hc1.hblk.cell 10
  simp only [List.getElem?_cons_zero, List.getElem?_cons_succ] at dN
  have hset := set_in v.view v.frm (.slice sa sl sc) v.value htd hcd.htn hok.inn.turns ⟨hv.view.1, by have := hv.view; omega⟩ hv.frm (hs.below hB1d) (by have := hv.len; omega)
  obtain ⟨o, ho⟩ : ∃ o, setV c.turns v.view v.frm v.value = o := ⟨_, rfl⟩
  rw [ho] at hset
  have hkn : know c v = o.map fun m => { c with turns := m } := by unfold know; rw [hk, ← ho]; rfl
  rw [hkn]
  have HSET := Lib.hid hset
  have HT := Lib.hid ht
  have HTD := Lib.hid htd
  have HCD := Lib.hid hcd
  have HB1D := Lib.hid hB1d
  have HW1 := Lib.hid hW1
  have HBB := Lib.hid hBB
  clear ht h hok hv hs hbx ht1 hc1 hbd htd hcd hB1 hB1d hset hkn ho hk
  cases o with
  | none =>
    go_enter Try.func60, Try.ntmps60
    go_wp2_with fail
    rename_i Kc hKc
    go_region_law (first
      | (go_simp; go_at_call 87; refine HSET.out.mono ?_; rintro e w5 ⟨rfl, rfl⟩)
      | fail)
    all_goals
      refine hKc _ _ ?_
      go_wp2_with fail
      go_ret
      exact ⟨rfl, HB1D.out⟩
  | some m' =>
    go_enter Try.func60, Try.ntmps60
    go_wp2_with fail
    rename_i Kc hKc
    go_region_law (first
      | (go_simp; go_at_call 87; refine HSET.out.mono ?_; rintro e w5 ⟨rfl, col5, hE5, hV5⟩)
      | fail)
    all_goals
      refine hKc _ _ ?_
      go_wp2_with fail
      go_ret
      exact ⟨rfl, col5, (Ext.below HT.out HB1D.out).trans (hE5.mono (fun q e => by rw [e])), _, _, _, _, _, _, _, _, _, _, HCD.out.part4 hE5 HTD.out hV5⟩

end Go.Proofs.Ytilhdelijdkjpaa
