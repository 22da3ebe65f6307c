/-
  step: one of VoteAgrees' steps.
-/
import Derived.Test.YtilhdelijdkjpaaBg
import Derived.Test.YtilhdelijdkjpaaGl
import Derived.Deep.QuietTactic
import Derived.BigQuiet
import Derived.StillTailTactics
import Derived.Deep.RegionLaw
import Derived.Deep.RegionHeld3
set_option linter.unusedVariables false
set_option linter.unusedSimpArgs false
namespace Go.Proofs.Ytilhdelijdkjpaa
open Go Go.RowKit Go.Maps Sac

def stepV (s : StpP) (vs ss : Value) : Value := .agg #[.int .i64 s.kind, .int .i64 s.frm, .int .i64 s.to, .int .i64 s.nn, .int .i64 s.vote.kind, .int .i64 s.vote.frm, .int .i64 s.vote.slot, .int .i64 s.vote.view, .int .i64 s.vote.valid, vs, ss]
/-- The blocks of colours from 1000 on, which are no core's, stay. -/
def Hold (col : Colour) (w : World) (col' : Colour) (w' : World) : Prop := ∀ k q, col k = some q → 1000 ≤ q.1 → col' k = some q ∧ w'.heap[k]? = w.heap[k]?
theorem Hold.refl (col : Colour) (w : World) : Hold col w col w := fun _ _ h _ => ⟨h, rfl⟩
theorem Hold.trans {c1 c2 c3 : Colour} {w1 w2 w3 : World} (h : Hold c1 w1 c2 w2) (k : Hold c2 w2 c3 w3) : Hold c1 w1 c3 w3 := fun b q hq hl => by
  obtain ⟨h1, h2⟩ := h b q hq hl
  obtain ⟨h3, h4⟩ := k b q h1 hl
  exact ⟨h3, h4.trans h2⟩
theorem Hold.below {col : Colour} {w w' : World} (ht : Tinted col w) (hb : Below w.heap.size w w') : Hold col w col w' := fun b q hq _ => ⟨hq, hb.block b (ht.lo b q hq)⟩
theorem Hold.ext {col col' : Colour} {w w' : World} {i : Nat} (ht : Tinted col w) (hE : Ext (fun q => q.1 = i) col w col' w') (hi : i < 1000) : Hold col w col' w' := fun b q hq hl =>
  ⟨(hE.old b (ht.lo b q hq)).trans hq, hE.only.block b (ht.lo b q hq) (fun ⟨q', e1, e2⟩ => by rw [hq] at e1; injection e1 with e1; subst e1; have e2 : q.1 = i := e2; omega)⟩
theorem Hold.put {col : Colour} {w : World} {g : Nat} (hg : col g = none) (i : Nat) (v : Value) : Hold col w col (w.setCell ⟨g, i, none⟩ v) := fun b q hq _ =>
  ⟨hq, heap_setCell_other _ _ _ _ (fun e => by have e : b = g := e; rw [e, hg] at hq; cases hq)⟩
def StpPost (wrong : List Bool) (w0 : World) (pb : Nat) (J : List Core → Prop) (col0 : Colour) (wI : World) (e : Ending) (w' : World) : Prop :=
  e = .returned (.bool true) ∧ ∃ col v bl l, PAt col w0 w' pb v bl l wrong ∧ J l ∧ Hold col0 wI col w'
/-- Between the Takes of what one peer says. -/
def StpLoop (wrong : List Bool) (w0 : World) (pb : Nat) (v : Value) (bl : List Nat) (l : List Core) (I : List Core → Prop) (T : List Core → Vt → Prop) (rv : Value) (vs : List Vt) (col0 : Colour) (wI : World) (wx : World) : Prop :=
  ∃ col l', PAt col w0 wx pb v bl l' wrong ∧ I l' ∧ Told col wx rv vs ∧ (∀ u, T l u → T l' u) ∧ Hold col0 wI col wx
theorem tmod_nat (x : Int) {n : Nat} (hn : 0 < n) : ∃ r : Nat, (IntKind.u64.wrap x).tmod (n : Int) = (r : Int) ∧ r < n := by
  refine ⟨((IntKind.u64.wrap x).tmod (n : Int)).toNat, ?_⟩
  rw [IntKind.wrap_u64, Int.tmod_eq_emod_of_nonneg (by omega)]
  have h1 := Int.emod_nonneg (x % 18446744073709551616) (show (n : Int) ≠ 0 by omega)
  have h2 := Int.emod_lt_of_pos (x % 18446744073709551616) (show (0 : Int) < (n : Int) by omega)
  omega

theorem wf_bd {x : Int} (h : (Lit.int .i64 x).wf = true) : -9223372036854775808 ≤ x ∧ x ≤ 9223372036854775807 := by
  simp only [Lit.wf, Bool.and_eq_true, decide_eq_true_eq] at h
  have e1 : IntKind.i64.min = -9223372036854775808 := rfl
  have e2 : IntKind.i64.max = 9223372036854775807 := rfl
  omega
theorem cell_ext {G : Nat × Nat → Prop} {col col' : Colour} {w w' : World} {p : Addr} {u : Value} (h : w.cell? p = some u) (hE : Ext G col w col' w') (hc : col p.block = none) : w'.cell? p = some u :=
  (World.cell?_of_block (hE.only.block p.block (cell_lt h) (fun ⟨q, e, _⟩ => by rw [hc] at e; cases e))).trans h
theorem POwn.frozen {w : World} {base : Nat} {v : Value} {bl : List Nat} (h : POwn w base v bl) {g i m cap : Nat} (hv : v = .slice (some ⟨g, 0, none⟩) m cap) : w.frozen? ⟨g, i, none⟩ = false := by
  subst hv
  obtain ⟨_, ⟨e0, _⟩ | ⟨g', cap', rest, e1, hgb, hB, hn, hc, hl⟩⟩ := own_elim h
  · cases e0
  · injection e1 with e1
    injection e1 with e1
    injection e1 with e1
    subst e1
    exact hB.frozen i
theorem below_drewN (w : World) (k : Nat) : Below w.heap.size w (w.drewN k) := ⟨rfl, rfl, rfl, Nat.le_refl _, fun _ _ => rfl⟩

set_option maxRecDepth 100000 in
set_option maxHeartbeats 8000000 in
theorem step_any (n : Nat) (slot : Int) (s : StpP) (vs ss : Value) {col : Colour} {w0 w : World} {pb : Nat} {v : Value} {bl : List Nat} {l : List Core} {wrong : List Bool} (hn : 4 ≤ n ∧ n ≤ 10) (hs : 0 ≤ slot ∧ slot ≤ 256)
    {W : Bs → Prop} {I J : List Core → Prop} {T : List Core → Vt → Prop} (hK : Kept n slot wrong W I J T)
    (hP : PAt col w0 w pb v bl l wrong) (hI : I l) (hW : s.kind = 4 → W s.value) (hvs : IB w vs s.vote.value) (hss : IB w ss s.value) (hwf : (Lit.int .i64 s.vote.kind).wf = true ∧ (Lit.int .i64 s.vote.view).wf = true ∧ (Lit.int .i64 s.vote.valid).wf = true) :
    Calls Try.prog 29 #[.pointer (some ⟨pb, 0, none⟩), .agg #[.int .i64 s.kind, .int .i64 s.frm, .int .i64 s.to, .int .i64 s.nn, .int .i64 s.vote.kind, .int .i64 s.vote.frm, .int .i64 s.vote.slot, .int .i64 s.vote.view, .int .i64 s.vote.valid, vs, ss], .int .i64 slot] w (StpPost wrong w0 pb J col w) := by
  have hL := hK.inv hI
  obtain ⟨va, vl, vc, rfl⟩ := IB.form hvs
  obtain ⟨sa, sl, sc, rfl⟩ := IB.form hss
  obtain ⟨⟨vk, vfr, vsl, vvw, vvd, vval⟩, hv0⟩ : ∃ x, s.vote = x := ⟨_, rfl⟩
  obtain ⟨kd, hkd⟩ : ∃ x, s.kind = x := ⟨_, rfl⟩
  obtain ⟨sf, hsf⟩ : ∃ x, s.frm = x := ⟨_, rfl⟩
  obtain ⟨st, hst⟩ : ∃ x, s.to = x := ⟨_, rfl⟩
  obtain ⟨sn, hsn⟩ : ∃ x, s.nn = x := ⟨_, rfl⟩
  obtain ⟨sv, hsv⟩ : ∃ x, s.value = x := ⟨_, rfl⟩
  rw [hv0] at hvs hwf
  rw [hsv] at hss
  rw [hkd, hsv] at hW
  rw [hv0, hkd, hsf, hst, hsn]
  clear hv0 hkd hsf hst hsn hsv
  obtain ⟨fr, hfr, hfrl⟩ := tmod_nat sf (show 0 < n by omega)
  obtain ⟨tw, htw, htwl⟩ := tmod_nat st (show 0 < n by omega)
  have x1 : IntKind.u64.wrap (n : Int) = (n : Int) := by rw [IntKind.wrap_u64]; omega
  have x2 : IntKind.u64.wrap (fr : Int) = (fr : Int) := by rw [IntKind.wrap_u64]; omega
  have x3 : IntKind.u64.wrap (tw : Int) = (tw : Int) := by rw [IntKind.wrap_u64]; omega
  have x4 : IntKind.i64.wrap (fr : Int) = (fr : Int) := by rw [IntKind.wrap_i64]; omega
  have x5 : IntKind.i64.wrap (tw : Int) = (tw : Int) := by rw [IntKind.wrap_i64]; omega
  have y1 : (n : Int) ≠ 0 := by omega
  have y2 : ((n : Int) == 0) = false := by simp; omega
  have y3 : n ≠ 0 := by omega
  obtain ⟨wb, hB1, hB2, hc2, hw2⟩ := hP.pblk
  rw [hL.wlen] at hB1
  have hpl := hB1.lt
  have c0 : (w.alloc (.cells #[.int .i64 kd, .int .i64 sf, .int .i64 st, .int .i64 sn, .int .i64 vk, .int .i64 vfr, .int .i64 vsl, .int .i64 vvw, .int .i64 vvd, .slice va vl vc, .slice sa sl sc] 57)).drew.cell? ⟨pb, 0, none⟩ = some (.int .i64 (n : Int)) := (hB1.alloc _).cell 0
  have c0' : (w.alloc (.cells #[.int .i64 kd, .int .i64 sf, .int .i64 st, .int .i64 sn, .int .i64 vk, .int .i64 vfr, .int .i64 vsl, .int .i64 vvw, .int .i64 vvd, .slice va vl vc, .slice sa sl sc] 57)).cell? ⟨pb, 0, none⟩ = some (.int .i64 (n : Int)) := (hB1.alloc _).cell 0
  have HP0 := Lib.hid (hP.moved ((Below.refl _ w).alloc (Nat.le_refl _) (.cells #[.int .i64 kd, .int .i64 sf, .int .i64 st, .int .i64 sn, .int .i64 vk, .int .i64 vfr, .int .i64 vsl, .int .i64 vvw, .int .i64 vvd, .slice va vl vc, .slice sa sl sc] 57)))
  have HVS0 := Lib.hid (hvs.below ((Below.refl _ w).alloc (Nat.le_refl _) (.cells #[.int .i64 kd, .int .i64 sf, .int .i64 st, .int .i64 sn, .int .i64 vk, .int .i64 vfr, .int .i64 vsl, .int .i64 vvw, .int .i64 vvd, .slice va vl vc, .slice sa sl sc] 57)))
  have HSS0 := Lib.hid (hss.below ((Below.refl _ w).alloc (Nat.le_refl _) (.cells #[.int .i64 kd, .int .i64 sf, .int .i64 st, .int .i64 sn, .int .i64 vk, .int .i64 vfr, .int .i64 vsl, .int .i64 vvw, .int .i64 vvd, .slice va vl vc, .slice sa sl sc] 57)))
  have HL := Lib.hid hL
  have HPI := Lib.hid hP
  have HK := Lib.hid hK
  have HI := Lib.hid hI
  have HW := Lib.hid hW
  have HWF := Lib.hid hwf
  clear hP hL hB1 hB2 hc2 hw2 hvs hss hwf hK hI hW
  go_enter Try.func29, Try.ntmps29
  go_wp2_with fail
  go_quiet (fail)
  obtain ⟨W1, hW1⟩ : ∃ W1, (w.alloc (.cells #[.int .i64 kd, .int .i64 sf, .int .i64 st, .int .i64 sn, .int .i64 vk, .int .i64 vfr, .int .i64 vsl, .int .i64 vvw, .int .i64 vvd, .slice va vl vc, .slice sa sl sc] 57)).drewN nq = W1 := ⟨_, rfl⟩
  have hbx : Blk W1 w.heap.size 57 [.int .i64 kd, .int .i64 sf, .int .i64 st, .int .i64 sn, .int .i64 vk, .int .i64 vfr, .int .i64 vsl, .int .i64 vvw, .int .i64 vvd, .slice va vl vc, .slice sa sl sc] := hW1 ▸ Blk.new w _ _
  have HP := Lib.hid (hW1 ▸ HP0.out.moved (below_drewN _ nq) : PAt col w0 W1 pb v bl l wrong)
  have HVS := Lib.hid (hW1 ▸ HVS0.out.below (below_drewN _ nq) : IB W1 (.slice va vl vc) vval)
  have HSS := Lib.hid (hW1 ▸ HSS0.out.below (below_drewN _ nq) : IB W1 (.slice sa sl sc) sv)
  have HH1 : Hid (Hold col w col W1) := hW1 ▸ ((Hold.below HPI.out.peers.tint ((Below.refl _ w).alloc (Nat.le_refl _) _)).trans (Hold.below (HP0.out.peers.tint) (below_drewN _ nq)))
  rw [hW1]
  clear hW1 HPI HP0 HVS0 HSS0 c0 c0' hpl
  have b0 := hbx.cell 0
  have b1 := hbx.cell 1
  have b2 := hbx.cell 2
  have b3 := hbx.cell 3
  have b4 := hbx.cell 4
  have b5 := hbx.cell 5
  have b6 := hbx.cell 6
  have b7 := hbx.cell 7
  have b8 := hbx.cell 8
  have b9 := hbx.cell 9
  have b10 := hbx.cell 10
  simp only [List.getElem?_cons_succ, List.getElem?_cons_zero] at b0 b1 b2 b3 b4 b5 b6 b7 b8 b9 b10
  obtain ⟨g, cap, b, c, rfl, hgt, hbt, hct, hCt, hokt⟩ := HP.out.peers.at_ (i := tw) (by rw [HL.out.len]; exact htwl)
  obtain ⟨g2, cap2, bf, cf, hv2, hgf, hbf, hcf, hCf, hokf⟩ := HP.out.peers.at_ (i := fr) (by rw [HL.out.len]; exact hfrl)
  injection hv2 with e1 e2 e3
  injection e1 with e1
  injection e1 with e1
  subst e1 e3
  clear e2
  rw [HL.out.len] at HP
  obtain ⟨wb, hB1, hB2, hc2, hw2⟩ := HP.out.pblk
  rw [HL.out.wlen] at hB1
  have c0 := hB1.cell 0
  have c1 := hB1.cell 1
  have c2 := hB1.cell 2
  simp only [List.getElem?_cons_succ, List.getElem?_cons_zero] at c0 c1 c2
  have d2 := hB2.cell fr
  obtain ⟨wf, hwf⟩ : ∃ x, wrong[fr]? = some x := ⟨_, List.getElem?_eq_getElem (by rw [HL.out.wlen]; exact hfrl)⟩
  rw [List.getElem?_map, hwf, Option.map_some] at d2
  have HWR := Lib.hid hwf
  have HT := Lib.hid HP.out.peers.tint
  have HBT := Lib.hid hbt
  have HCT := Lib.hid hct
  have HBF := Lib.hid hbf
  have HCF := Lib.hid hcf
  have HCAT := Lib.hid hCt
  have HCAF := Lib.hid hCf
  have HOKT := Lib.hid hokt
  have HOKF := Lib.hid hokf
  clear hB1 hB2 hc2 hw2 hwf hbt hct hbf hcf hCt hCf hokt hokf hbx
  by_cases k1 : kd = 1
  · subst k1
    have HLA := Lib.hid (late_any HT.out HCAT.out HOKT.out)
    go_wp2_with fail
    refine HLA.out.mono ?_
    rintro e w2 ⟨⟨ev, rfl⟩, hok2, col2, hE2, hC2⟩
    have HX : Hid (StpPost wrong w0 pb J col w (.returned (.bool true)) w2) := ⟨rfl, col2, _, _, _, HP.out.step HCT.out HBT.out hE2 hC2 hok2, HK.out.late HI.out HCT.out, HH1.out.trans (Hold.ext HT.out hE2 (by omega))⟩
    clear hok2 hE2 hC2
    go_wp2_with fail
    go_ret
    exact HX.out
  by_cases k4 : kd = 4
  · subst k4
    have HWS := Lib.hid (HW.out rfl)
    clear HW
    have HWI := Lib.hid (wish_any (.slice sa sl sc) sv (HT.out.below (Below.refl _ W1).drew) (HCAT.out.below HT.out (Below.refl _ W1).drew) HOKT.out (HSS.out.below (Below.refl _ W1).drew))
    go_wp2_with fail
    go_still_tail 9, (by kernel_rfl)
    change wpList _ _ _ _ _ W1.drew
    go_wp2_with fail
    refine HWI.out.mono ?_
    rintro e w2 ⟨⟨ev, rfl⟩, hok2, col2, hE2, hC2⟩
    have HX : Hid (StpPost wrong w0 pb J col w (.returned (.bool true)) w2) := ⟨rfl, col2, _, _, _, (HP.out.moved (Below.refl _ W1).drew).step HCT.out HBT.out hE2 hC2 hok2, HK.out.keep (HK.out.wish HWS.out HI.out HCT.out), HH1.out.trans ((Hold.below HT.out (Below.refl _ W1).drew).trans (Hold.ext (HT.out.below (Below.refl _ W1).drew) hE2 (by omega)))⟩
    clear hok2 hE2 hC2
    go_wp2_with fail
    go_ret
    exact HX.out
  by_cases k3 : kd = 3
  · subst k3
    cases wf with
    | false =>
      go_wp2_with fail
      go_ret
      exact ⟨rfl, col, _, _, _, HP.out, HK.out.keep HI.out, HH1.out⟩
    | true =>
      have z1 : IntKind.i64.wrap ((fr : Int) + 1) = (fr : Int) + 1 := by rw [IntKind.wrap_i64]; omega
      go_wp2_with fail
      obtain ⟨W2, hW2⟩ : ∃ W2, W1.alloc (.cells #[.int .i64 vk, .int .i64 ((fr : Int) + 1), .int .i64 slot, .int .i64 vvw, .int .i64 vvd, .slice va vl vc] 31) = W2 := ⟨_, rfl⟩
      have hbV : Below W1.heap.size W1 W2 := hW2 ▸ (Below.refl _ W1).alloc (Nat.le_refl _) _
      have hkV : Blk W2 W1.heap.size 31 [.int .i64 vk, .int .i64 ((fr : Int) + 1), .int .i64 slot, .int .i64 vvw, .int .i64 vvd, .slice va vl vc] := hW2 ▸ Blk.new W1 _ _
      rw [hW2]
      clear hW2
      have v0 := hkV.cell 0
      have v1 := hkV.cell 1
      have v2 := hkV.cell 2
      have v3 := hkV.cell 3
      have v4 := hkV.cell 4
      have v5 := hkV.cell 5
      simp only [List.getElem?_cons_succ, List.getElem?_cons_zero] at v0 v1 v2 v3 v4 v5
      have g1 : W2.cell? ⟨pb, 1, none⟩ = some (.slice (some ⟨g, 0, none⟩) n cap) := cell_moved c1 hbV
      have g2 : W2.cell? ⟨g, tw, none⟩ = some (ptr b) := cell_moved hgt hbV
      have hbD : Below W1.heap.size W1 W2.drew := hbV.drew
      have HBV := Lib.hid hbD
      have HTK := Lib.hid (take_any (⟨vk, (fr : Int) + 1, slot, vvw, vvd, vval⟩ : Vt) (.slice va vl vc) (HT.out.below hbD) (HCAT.out.below HT.out hbD) HOKT.out (vtWf_of (wf_bd HWF.out.1) (by show _ ≤ (fr : Int) + 1 ∧ (fr : Int) + 1 ≤ _; omega) (by show _ ≤ slot ∧ slot ≤ _; omega) (wf_bd HWF.out.2.1) (wf_bd HWF.out.2.2)) (HVS.out.below hbD))
      clear hbV hbD hkV
      go_still_tail 8, (by kernel_rfl)
      change wpList _ _ _ _ _ W2.drew
      go_wp2_with fail
      refine HTK.out.mono ?_
      rintro e w2 ⟨rfl, hok2, col2, hE2, hC2⟩
      have HX : Hid (StpPost wrong w0 pb J col w (.returned (.bool true)) w2) := ⟨rfl, col2, _, _, _, (HP.out.moved HBV.out).step HCT.out HBT.out hE2 hC2 hok2, HK.out.keep (HK.out.take HI.out HCT.out (HK.out.wrongs HI.out HWR.out rfl)).1, HH1.out.trans ((Hold.below HT.out HBV.out).trans (Hold.ext (HT.out.below HBV.out) hE2 (by omega)))⟩
      clear hok2 hE2 hC2
      go_wp2_with fail
      go_ret
      exact HX.out
  by_cases k2 : kd = 2
  · subst k2
    have hloc := HL.out.loc HCT.out
    have z2 : IntKind.i64.wrap ((tw : Int) + 1) = (tw : Int) + 1 := by rw [IntKind.wrap_i64]; omega
    have HBYOK := Lib.hid hloc.byOk
    have HAN := Lib.hid hloc.anew
    have HBY := Lib.hid (bytes_any (HT.out.below (Below.refl _ W1).drew) (HCAT.out.below HT.out (Below.refl _ W1).drew) hloc.byOk)
    have HCG := Lib.hid (HP.out.peers.unc g rfl)
    have HUN := Lib.hid HP.out.unc.1
    clear hloc
    go_wp2_with fail
    go_region_held3 (fun w' => w'.cell? ⟨pb, 0, none⟩ = some (.int .i64 (n : Int)) ∧ w'.cell? ⟨pb, 1, none⟩ = some (.slice (some ⟨g, 0, none⟩) n cap) ∧ w'.cell? ⟨g, tw, none⟩ = some (ptr b)) (first | exact ⟨c0, c1, hgt⟩ | exact ⟨g0, g1, g2⟩ | exact ⟨q0, q1, q2⟩ | assumption)
      (first
        | (go_at_call 16; refine HBY.out.mono ?_; rintro e wE ⟨bv, rfl, hbuf, hbE⟩; obtain ⟨oa, on, oc, rfl⟩ := RB.form hbuf.rb; have hbE2 : Below W1.heap.size W1 wE := (Below.refl _ W1).drew.trans hbE; have g0 : wE.cell? ⟨pb, 0, none⟩ = some (.int .i64 (n : Int)) := cell_moved c0 hbE2; have g1 : wE.cell? ⟨pb, 1, none⟩ = some (.slice (some ⟨g, 0, none⟩) n cap) := cell_moved c1 hbE2; have g2 : wE.cell? ⟨g, tw, none⟩ = some (ptr b) := cell_moved hgt hbE2; have HBE := Lib.hid hbE2; have HOF := Lib.hid (of_any (acc := notV) tw (.slice oa on oc) (bytesC c) (HT.out.below hbE2) not_acc (n := (n : Int)) (me := (tw : Int) + 1) (slot := slot) (by omega) (by omega) hs hbuf.rb HBYOK.out.all); rw [HAN.out] at HOF; clear hbuf hbE hbE2)
        | (go_at_call 25; refine HOF.out.mono ?_; rintro e wF ⟨b', col', rfl, hbb, hE, hC⟩; have q0 : wF.cell? ⟨pb, 0, none⟩ = some (.int .i64 (n : Int)) := cell_ext g0 hE HUN.out; have q1 : wF.cell? ⟨pb, 1, none⟩ = some (.slice (some ⟨g, 0, none⟩) n cap) := cell_ext g1 hE HUN.out; have q2 : wF.cell? ⟨g, tw, none⟩ = some (ptr b) := cell_ext g2 hE HCG.out; have q3 : wF.frozen? ⟨g, tw, none⟩ = false := POwn.frozen (own_ext (HP.out.moved HBE.out).own hE (HP.out.moved HBE.out).peers.unc) rfl; have HQ4 : Hid (col' g = none) := (hE.old g (cell_lt g2)).trans HCG.out; have HE := Lib.hid hE; have HC := Lib.hid hC; clear hE hC hbb))
    all_goals
      have HX : Hid (StpPost wrong w0 pb J col w (.returned (.bool true)) (wF.setCell ⟨g, tw, none⟩ (ptr b'))) := ⟨rfl, col', _, _, _, (HP.out.moved HBE.out).put HCT.out HE.out HC.out (HL.out.anew HCT.out |>.loc (List.getElem?_set_self (List.getElem?_eq_some_iff.1 HCT.out).1)).ok, HK.out.keep (HK.out.anew HI.out HCT.out), HH1.out.trans ((Hold.below HT.out HBE.out).trans ((Hold.ext (HT.out.below HBE.out) HE.out (by omega)).trans (Hold.put HQ4.out tw (ptr b'))))⟩
      go_wp2_with fail
      go_ret
      exact HX.out
  by_cases k0 : kd = 0
  · subst k0
    cases wf with
    | true =>
      go_wp2_with fail
      go_ret
      exact ⟨rfl, col, _, _, _, HP.out, HK.out.keep HI.out, HH1.out⟩
    | false =>
      have HSY := Lib.hid (says_any HT.out HCAF.out HOKF.out)
      go_wp2_with fail
      refine HSY.out.mono ?_
      rintro e w2 ⟨rv, rfl, hrow⟩
      have hb2 : Below W1.heap.size W1 w2 := hrow.below
      have HTO := Lib.hid (Told.of hrow HT.out)
      obtain ⟨ra, rc, rfl, hrc⟩ := HTO.out.form
      have HSL := Lib.hid (says_len HOKF.out HCAF.out.srt)
      obtain ⟨N, hN⟩ : ∃ N, (Sac.says cf).length = N := ⟨_, rfl⟩
      rw [hN] at HTO hrc HSL
      rw [hN]
      have hNl : N ≤ 30000000000 := HSL.out
      have HN := Lib.hid hN
      have HST : Hid (StpLoop wrong w0 pb (.slice (some ⟨g, 0, none⟩) n cap) bl l I T (.slice ra N rc) (Sac.says cf) col w w2) := ⟨col, l, HP.out.moved hb2, HI.out, HTO.out, (fun _ h => h), HH1.out.trans (Hold.below HT.out hb2)⟩
      have HTV : Hid (∀ x ∈ Sac.says cf, T l x) := fun x hx => HK.out.says HI.out HCF.out HWR.out hx
      clear hrow hb2 hN HTO b0 b1 b2 b3 b4 b5 b6 b7 b8 b9 b10 c0 c1 c2 d2 hgt hgf HT HCAT HCAF HP HVS HSS HL HCT HCF HSY HI HW
      go_wp2_with fail
      go_loopw [56] (fun u wx => ∃ i : Nat, i ≤ N ∧ u = .int .i64 (i : Int) ∧ Hid (StpLoop wrong w0 pb (.slice (some ⟨g, 0, none⟩) n cap) bl l I T (.slice ra N rc) (Sac.says cf) col w wx)) (fun u _ => N - (vint u).toNat)
      case atStart => exact ⟨0, Nat.zero_le _, rfl, HST⟩
      case round =>
        obtain ⟨i, hi, rfl, HB⟩ := hrel
        by_cases hlt : (i : Int) < (N : Int)
        · rename World => wx
          obtain ⟨colx, lx, hPx, hIx, hTx, hle, hho⟩ := HB.out
          have hLx := HK.out.inv hIx
          obtain ⟨g', cap', p, hv', hvi, hcs, hrb⟩ := hTx.at_ (i := i) (by rw [HN.out]; omega)
          rw [HN.out] at hv'
          injection hv' with e1 e2 e3
          subst e1 e3
          clear e2
          obtain ⟨⟨qk, qf, qs, qv, qd, ql⟩, ya, yn, yc⟩ := p
          have v0 : wx.cell? ⟨g', i * 6, none⟩ = some (.int .i64 qk) := hcs 0 (by omega)
          have v1 : wx.cell? ⟨g', i * 6 + 1, none⟩ = some (.int .i64 qf) := hcs 1 (by omega)
          have v2 : wx.cell? ⟨g', i * 6 + 2, none⟩ = some (.int .i64 qs) := hcs 2 (by omega)
          have v3 : wx.cell? ⟨g', i * 6 + 3, none⟩ = some (.int .i64 qv) := hcs 3 (by omega)
          have v4 : wx.cell? ⟨g', i * 6 + 4, none⟩ = some (.int .i64 qd) := hcs 4 (by omega)
          have v5 : wx.cell? ⟨g', i * 6 + 5, none⟩ = some (.slice ya yn yc) := hcs 5 (by omega)
          have hmem : (⟨qk, qf, qs, qv, qd, ql⟩ : Vt) ∈ Sac.says cf := List.mem_of_getElem? hvi
          clear hcs
          go_upto_region 8 with (fail)
          obtain ⟨W2, hW2⟩ : ∃ W2, wx.alloc (.cells #[.int .i64 qk, .int .i64 qf, .int .i64 qs, .int .i64 qv, .int .i64 qd, .slice ya yn yc] 31) = W2 := ⟨_, rfl⟩
          have hbV : Below wx.heap.size wx W2 := hW2 ▸ (Below.refl _ wx).alloc (Nat.le_refl _) _
          have hkV : Blk W2 wx.heap.size 31 [.int .i64 qk, .int .i64 qf, .int .i64 qs, .int .i64 qv, .int .i64 qd, .slice ya yn yc] := hW2 ▸ Blk.new wx _ _
          rw [hW2]
          clear hW2 v0 v1 v2 v3 v4 v5
          have v0 := hkV.cell 0
          have v1 := hkV.cell 1
          have v2 := hkV.cell 2
          have v3 := hkV.cell 3
          have v4 := hkV.cell 4
          have v5 := hkV.cell 5
          simp only [List.getElem?_cons_succ, List.getElem?_cons_zero] at v0 v1 v2 v3 v4 v5
          have hPD := hPx.moved hbV.drew
          obtain ⟨gx, capx, bx, cx, hvx, hgx, hbx, hcx, hCx, hokx⟩ := hPD.peers.at_ (i := tw) (by rw [hLx.len]; exact htwl)
          injection hvx with e1 e2 e3
          injection e1 with e1
          injection e1 with e1
          subst e1
          clear e2 e3
          obtain ⟨wb2, hB1, _⟩ := hPx.pblk
          have g1 : W2.cell? ⟨pb, 1, none⟩ = some (.slice (some ⟨g, 0, none⟩) n cap) := cell_moved (hB1.cell 1) hbV
          have g2 : W2.cell? ⟨g, tw, none⟩ = some (ptr bx) := hgx
          have HPD := Lib.hid hPD
          have HIX := Lib.hid hIx
          have HCX := Lib.hid hcx
          have HBX := Lib.hid hbx
          have HLE := Lib.hid hle
          have HHO := Lib.hid (hho.trans (Hold.below hPx.peers.tint hbV.drew))
          have HTX := Lib.hid (Told.ext hTx (Ext.below (G := fun _ => False) hPx.peers.tint hbV.drew) hPx.peers.tint)
          have HTR := Lib.hid (hle _ (HTV.out _ hmem))
          have HTK := Lib.hid (take_any (⟨qk, qf, qs, qv, qd, ql⟩ : Vt) (.slice ya yn yc) hPD.peers.tint hCx hokx (says_wf HOKF.out hmem) (IB.below hrb.ib hbV.drew))
          clear hbV hkV hPD hPx hLx hIx hTx hle hho hcx hbx hCx hokx hB1 hrb hvi hmem HB hgx
          go_still_tail 8, (by kernel_rfl)
          change wpList _ _ _ _ _ W2.drew
          go_wp2_with fail
          refine HTK.out.mono ?_
          rintro e w3 ⟨rfl, hok3, col3, hE3, hC3⟩
          have HX : Hid (StpLoop wrong w0 pb (.slice (some ⟨g, 0, none⟩) n cap) bl l I T (.slice (some ⟨g', 0, none⟩) N rc) (Sac.says cf) col w w3) := ⟨col3, _, HPD.out.step HCX.out HBX.out hE3 hC3 hok3, (HK.out.take HIX.out HCX.out HTR.out).1, Told.ext HTX.out hE3 HPD.out.peers.tint, (fun u hu => (HK.out.take HIX.out HCX.out HTR.out).2 u (HLE.out u hu)), HHO.out.trans (Hold.ext HPD.out.peers.tint hE3 (by omega))⟩
          clear hok3 hE3 hC3
          go_wp2_with fail
          exact ⟨⟨i + 1, by omega, by push_cast; rfl, HX⟩, by simp [vint]; omega⟩
        · obtain rfl : N = i := by omega
          go_wp2_with fail
          go_ret
          obtain ⟨colx, lx, hPx, hIx, _, _, hho⟩ := HB.out
          exact ⟨rfl, colx, _, _, lx, hPx, HK.out.keep hIx, hho⟩
  by_cases k5 : kd = 5
  · subst k5
    have HSY := Lib.hid (says_any HT.out HCAF.out HOKF.out)
    go_wp2_with fail
    refine HSY.out.mono ?_
    rintro e w2 ⟨rv, rfl, hrow⟩
    have hb2 : Below W1.heap.size W1 w2 := hrow.below
    have HB2 := Lib.hid hb2
    have HTO := Lib.hid (Told.of hrow HT.out)
    obtain ⟨ra, rc, rfl, hrc⟩ := HTO.out.form
    have HSL := Lib.hid (says_len HOKF.out HCAF.out.srt)
    obtain ⟨N, hN⟩ : ∃ N, (Sac.says cf).length = N := ⟨_, rfl⟩
    rw [hN] at HTO hrc HSL
    rw [hN]
    have hNl : N ≤ 30000000000 := HSL.out
    have HN := Lib.hid hN
    have g1 : w2.cell? ⟨pb, 1, none⟩ = some (.slice (some ⟨g, 0, none⟩) n cap) := cell_moved c1 hb2
    have g2 : w2.cell? ⟨g, tw, none⟩ = some (ptr b) := cell_moved hgt hb2
    have g3 : w2.cell? ⟨pb, 2, none⟩ = some (.slice (some ⟨wb, 0, none⟩) n n) := cell_moved c2 hb2
    have g4 : w2.cell? ⟨wb, fr, none⟩ = some (.bool wf) := cell_moved d2 hb2
    have g5 : w2.cell? ⟨w.heap.size, 3, none⟩ = some (.int .i64 sn) := cell_moved b3 hb2
    clear hrow hb2 hN
    cases wf with
    | true =>
      go_wp2_with fail
      go_ret
      exact ⟨rfl, col, _, _, _, HP.out.moved HB2.out, HK.out.keep HI.out, HH1.out.trans (Hold.below HT.out HB2.out)⟩
    | false =>
      by_cases hN0 : N = 0
      · have hd : decide ((0 : Int) < (N : Int)) = false := decide_eq_false (by omega)
        go_wp2_with fail
        go_ret
        exact ⟨rfl, col, _, _, _, HP.out.moved HB2.out, HK.out.keep HI.out, HH1.out.trans (Hold.below HT.out HB2.out)⟩
      · have hd : decide ((0 : Int) < (N : Int)) = true := decide_eq_true (by omega)
        obtain ⟨ri, hri, hril⟩ := tmod_nat sn (show 0 < N by omega)
        obtain ⟨g', cap', p, hv', hvi, hcs, hrb⟩ := HTO.out.at_ (i := ri) (by rw [HN.out]; exact hril)
        injection hv' with e1 e2 e3
        subst e1 e3
        clear e2
        obtain ⟨⟨qk, qf, qs, qv, qd, ql⟩, ya, yn, yc⟩ := p
        have v0 : w2.cell? ⟨g', ri * 6, none⟩ = some (.int .i64 qk) := hcs 0 (by omega)
        have v1 : w2.cell? ⟨g', ri * 6 + 1, none⟩ = some (.int .i64 qf) := hcs 1 (by omega)
        have v2 : w2.cell? ⟨g', ri * 6 + 2, none⟩ = some (.int .i64 qs) := hcs 2 (by omega)
        have v3 : w2.cell? ⟨g', ri * 6 + 3, none⟩ = some (.int .i64 qv) := hcs 3 (by omega)
        have v4 : w2.cell? ⟨g', ri * 6 + 4, none⟩ = some (.int .i64 qd) := hcs 4 (by omega)
        have v5 : w2.cell? ⟨g', ri * 6 + 5, none⟩ = some (.slice ya yn yc) := hcs 5 (by omega)
        have hmem : (⟨qk, qf, qs, qv, qd, ql⟩ : Vt) ∈ Sac.says cf := List.mem_of_getElem? hvi
        have z1 : IntKind.u64.wrap (N : Int) = (N : Int) := by rw [IntKind.wrap_u64]; omega
        have z2 : IntKind.u64.wrap (ri : Int) = (ri : Int) := by rw [IntKind.wrap_u64]; omega
        have z3 : IntKind.i64.wrap (ri : Int) = (ri : Int) := by rw [IntKind.wrap_i64]; omega
        have z4 : (N : Int) ≠ 0 := by omega
        have z5 : ((N : Int) == 0) = false := by simp; omega
        have hbD : Below W1.heap.size W1 w2.drew := HB2.out.drew
        have HBV := Lib.hid hbD
        have HTR := Lib.hid (HK.out.says HI.out HCF.out HWR.out hmem)
        have HTK := Lib.hid (take_any (⟨qk, qf, qs, qv, qd, ql⟩ : Vt) (.slice ya yn yc) (HT.out.below hbD) (HCAT.out.below HT.out hbD) HOKT.out (says_wf HOKF.out hmem) (IB.below hrb.ib (Below.refl _ w2).drew))
        clear hbD hmem hvi hcs hrb
        go_wp2_with fail
        go_still_tail 18, (by kernel_rfl)
        change wpList _ _ _ _ _ w2.drew
        go_wp2_with fail
        refine HTK.out.mono ?_
        rintro e w3 ⟨rfl, hok3, col3, hE3, hC3⟩
        have HX : Hid (StpPost wrong w0 pb J col w (.returned (.bool true)) w3) := ⟨rfl, col3, _, _, _, (HP.out.moved HBV.out).step HCT.out HBT.out hE3 hC3 hok3, HK.out.keep (HK.out.take HI.out HCT.out HTR.out).1, HH1.out.trans ((Hold.below HT.out HBV.out).trans (Hold.ext (HT.out.below HBV.out) hE3 (by omega)))⟩
        clear hok3 hE3 hC3
        go_wp2_with fail
        go_ret
        exact HX.out
  have e0 : (kd == 0) = false := by simp; omega
  have e1 : (kd == 1) = false := by simp; omega
  have e2 : (kd == 2) = false := by simp; omega
  have e3 : (kd == 3) = false := by simp; omega
  have e4 : (kd == 4) = false := by simp; omega
  have e5 : (kd == 5) = false := by simp; omega
  go_wp2_with fail
  go_ret
  exact ⟨rfl, col, _, _, _, HP.out, HK.out.keep HI.out, HH1.out⟩
end Go.Proofs.Ytilhdelijdkjpaa
