/-
  The law VoteAgrees, walked.
-/
import Derived.Test.YtilhdelijdkjpaaSt
import Derived.Test.YtilhdelijdkjpaaAg
set_option linter.unusedVariables false
set_option linter.unusedSimpArgs false
namespace Go.Proofs.Ytilhdelijdkjpaa
open Go Go.RowKit Go.Maps Sac

theorem StpsAt.moved {w wr : World} {a : Option Addr} {len cap : Nat} {F : Nat → StpP} (h : StpsAt w a len cap F) (hb : Below w.heap.size w wr) : StpsAt wr a len cap F :=
  ⟨h.1, h.2.1, h.2.2.1, fun ad e i hi => (h.2.2.2 ad e i hi).moved hb⟩
def AgrLoop (n : Nat) (slot : Int) (wrong : List Bool) (w0 : World) (pb : Nat) (wr : World) : Prop := ∃ col v bl l, PAt col w0 wr pb v bl l wrong ∧ LInv n slot wrong notV l

set_option linter.all false in
set_option maxRecDepth 100000 in
set_option maxHeartbeats 8000000 in
theorem agrees_walk (a0 a1 : Int) (a2 : Option Addr) (len2 cap2 : Nat) (z2 : List Int) (a3 : Option Addr) (len3 cap3 : Nat) (F : Nat → StpP) (w : World)
    (hz : (a2 = none ∧ len2 = 0 ∧ cap2 = 0 ∧ z2 = []) ∨ ∃ x, a2 = some x ∧ len2 ≤ cap2 ∧ cap2 ≤ maxLen ∧ z2.length = cap2 ∧ (∀ i, i < z2.length → w.cell? (x.add i) = some (.int .i64 (z2.getD i 0))) ∧ ∀ n ∈ z2, (Lit.int .i64 n).wf = true)
    (h3 : StpsAt w a3 len3 cap3 F) :
    Calls Try.prog 5 #[.int .i64 a0, .int .i64 a1, .slice a2 len2 cap2, .slice a3 len3 cap3] w fun e w' => e = .returned (.bool true) ∧ Below w.heap.size w w' := by
  obtain ⟨r0, hr0, hr0l⟩ := tmod_nat a0 (show 0 < 7 by omega)
  obtain ⟨r1, hr1, hr1l⟩ := tmod_nat a1 (show 0 < 257 by omega)
  have hr0 : (IntKind.u64.wrap a0).tmod 7 = (r0 : Int) := hr0
  have hr1 : (IntKind.u64.wrap a1).tmod 257 = (r1 : Int) := hr1
  obtain ⟨n0, hn0⟩ : ∃ n0 : Nat, 4 + r0 = n0 := ⟨_, rfl⟩
  have hn4 : 4 ≤ n0 ∧ n0 ≤ 10 := by omega
  have x1 : IntKind.u64.wrap (r0 : Int) = (r0 : Int) := by rw [IntKind.wrap_u64]; omega
  have x2 : IntKind.i64.wrap (r0 : Int) = (r0 : Int) := by rw [IntKind.wrap_i64]; omega
  have x3 : IntKind.i64.wrap (4 + (r0 : Int)) = (n0 : Int) := by rw [IntKind.wrap_i64]; omega
  have x4 : IntKind.u64.wrap (r1 : Int) = (r1 : Int) := by rw [IntKind.wrap_u64]; omega
  have x5 : IntKind.i64.wrap (r1 : Int) = (r1 : Int) := by rw [IntKind.wrap_i64]; omega
  have HZ := Lib.hid hz
  have H3 := Lib.hid h3
  clear hz h3 hn0
  have hlv := Lib.hid (lives_any w)
  go_enter Try.func5, Try.ntmps5
  go_wp2_with fail
  refine hlv.out.mono ?_
  rintro e wA ⟨rfl, hbA⟩
  have HBA := Lib.hid hbA
  have HFS := Lib.hid (fewSteps_any a3 len3 cap3 F wA (H3.out.moved hbA))
  clear hbA
  go_wp2_with fail
  refine HFS.out.mono ?_
  rintro e wB ⟨r, rfl, hbB, hfew⟩
  have HBB := Lib.hid (HBA.out.trans (hbB.mono HBA.out.size))
  have HLB := Lib.hid (lives_any wB)
  clear hbB
  have hend : ∀ wC, Below wB.heap.size wB wC → Below w.heap.size w wC := fun wC h => HBB.out.trans (h.mono HBB.out.size)
  have HEND := Lib.hid hend
  clear hend
  cases r with
  | false =>
    go_wp2_with fail
    refine HLB.out.mono ?_
    rintro e wC ⟨rfl, hbC⟩
    have HC := Lib.hid (HEND.out wC hbC)
    clear hbC
    go_wp2_with fail
    go_ret
    exact ⟨rfl, HC.out⟩
  | true =>
    by_cases hlong : (20 : Int) < (len2 : Int)
    · have hd : decide ((20 : Int) < (len2 : Int)) = true := decide_eq_true hlong
      go_wp2_with fail
      refine HLB.out.mono ?_
      rintro e wC ⟨rfl, hbC⟩
      have HC := Lib.hid (HEND.out wC hbC)
      clear hbC
      go_wp2_with fail
      go_ret
      exact ⟨rfl, HC.out⟩
    · have hd : decide ((20 : Int) < (len2 : Int)) = false := decide_eq_false hlong
      have HBG := Lib.hid (begin_any n0 (r1 : Int) a2 len2 cap2 z2 wB hn4 (by omega) (by omega) (by
        rcases HZ.out with h | ⟨x, e1, e2, e3, e4, e5, e6⟩
        · exact .inl h
        · exact .inr ⟨x, e1, e2, e3, e4, fun i hi => cell_moved (e5 i hi) HBB.out, e6⟩))
      have hl3 : len3 ≤ 250 := (hfew rfl).1
      clear hfew
      go_wp2_with fail
      refine HBG.out.mono ?_
      rintro e wC ⟨pb, rfl, col, v, bl, wrong, hwl, hwc, hP⟩
      have hpp : ptr pb = .pointer (some ⟨pb, 0, none⟩) := rfl
      rw [hpp]
      clear hpp
      have HAL : Hid (AgrLoop n0 (r1 : Int) wrong wB pb wC) := ⟨col, v, bl, _, hP, LInv.start (by omega) (by omega) hwl hwc⟩
      clear hP hwl hwc
      go_wp2_with fail
      go_loopw [40] (fun u wr => ∃ i : Nat, i ≤ len3 ∧ u = .int .i64 (i : Int) ∧ Hid (AgrLoop n0 (r1 : Int) wrong wB pb wr)) (fun u _ => len3 - (vint u).toNat)
      case atStart => exact ⟨0, Nat.zero_le _, rfl, HAL⟩
      case round =>
        obtain ⟨i, hi, rfl, HB⟩ := hrel
        by_cases hlt : (i : Int) < (len3 : Int)
        · rename World => wr
          obtain ⟨col, v, bl, l, hP, hL⟩ := HB.out
          have hz1 : IntKind.i64.wrap ((i : Int) + 1) = (i : Int) + 1 := by rw [IntKind.wrap_i64]; omega
          obtain ⟨ad, rfl⟩ : ∃ ad, a3 = some ad := by
            cases a3 with
            | none => have := H3.out.2.2.1 rfl; omega
            | some ad => exact ⟨ad, rfl⟩
          have hat := (H3.out.2.2.2 ad rfl i (by omega)).moved (HEND.out wr hP.fresh.below)
          obtain ⟨⟨kd, sf, st, sn, ⟨vk, vfr, vsl, vvw, vvd, vval⟩, sval⟩, hs⟩ : ∃ s, F i = s := ⟨_, rfl⟩
          rw [hs] at hat
          clear hs
          have hwv := hat.wfv
          obtain ⟨vs, ss, ⟨c0, c1, c2, c3, c4, c5, c6, c7, c8, c9, c10⟩, hvs, hss⟩ := hat.cells
          obtain ⟨va, vl, vc, rfl⟩ := IB.form hvs
          obtain ⟨sa, sl, sc, rfl⟩ := IB.form hss
          dsimp only at c0 c1 c2 c3 c4 c5 c6 c7 c8 c9 c10 hvs hss hwv
          have HP := Lib.hid hP
          have HL := Lib.hid hL
          have HVS := Lib.hid hvs
          have HSS := Lib.hid hss
          have HWV := Lib.hid hwv
          clear hat hwv hvs hss hP hL HB
          go_upto_region 9 with (fail)
          obtain ⟨W2, hW2⟩ : ∃ W2, wr.alloc (.cells #[.int .i64 kd, .int .i64 sf, .int .i64 st, .int .i64 sn, .int .i64 vk, .int .i64 vfr, .int .i64 vsl, .int .i64 vvw, .int .i64 vvd, .slice va vl vc, .slice sa sl sc] 57) = W2 := ⟨_, rfl⟩
          have hbV : Below wr.heap.size wr W2 := hW2 ▸ (Below.refl _ wr).alloc (Nat.le_refl _) _
          have hkV : Blk W2 wr.heap.size 57 [.int .i64 kd, .int .i64 sf, .int .i64 st, .int .i64 sn, .int .i64 vk, .int .i64 vfr, .int .i64 vsl, .int .i64 vvw, .int .i64 vvd, .slice va vl vc, .slice sa sl sc] := hW2 ▸ Blk.new wr _ _
          obtain ⟨G, hG⟩ : ∃ G, wr.heap.size = G := ⟨_, rfl⟩
          rw [hW2, hG]
          rw [hG] at hkV
          have HSP := Lib.hid (step_any n0 (r1 : Int) ⟨kd, sf, st, sn, ⟨vk, vfr, vsl, vvw, vvd, vval⟩, sval⟩ (.slice va vl vc) (.slice sa sl sc) hn4 (by omega) (LInv.kept n0 (r1 : Int) wrong) (HP.out.moved hbV) HL.out (fun _ => trivial) (HVS.out.below hbV) (HSS.out.below hbV) ⟨HWV.out.1, HWV.out.2.2.2.1, HWV.out.2.2.2.2⟩)
          have b0 := hkV.cell 0
          have b1 := hkV.cell 1
          have b2 := hkV.cell 2
          have b3 := hkV.cell 3
          have b4 := hkV.cell 4
          have b5 := hkV.cell 5
          have b6 := hkV.cell 6
          have b7 := hkV.cell 7
          have b8 := hkV.cell 8
          have b9 := hkV.cell 9
          have b10 := hkV.cell 10
          simp only [List.getElem?_cons_succ, List.getElem?_cons_zero] at b0 b1 b2 b3 b4 b5 b6 b7 b8 b9 b10
          clear hW2 hG hbV hkV c0 c1 c2 c3 c4 c5 c6 c7 c8 c9 c10 HVS HSS HWV
          go_wp2_with fail
          refine HSP.out.mono ?_
          rintro e w2 ⟨rfl, col2, v2, bl2, l2, hP2, hL2⟩
          have HAG := Lib.hid (agree_any n0 (r1 : Int) hn4 hP2 hL2)
          have HP2 := Lib.hid hP2
          have HL2 := Lib.hid hL2
          clear hP2 hL2
          go_wp2_with fail
          refine HAG.out.mono ?_
          rintro e w3 ⟨rfl, hb3⟩
          have HX : Hid (AgrLoop n0 (r1 : Int) wrong wB pb w3) := ⟨col2, v2, bl2, l2, HP2.out.moved hb3, HL2.out⟩
          clear hb3
          go_wp2_with fail
          go_roundw
          case rel => exact ⟨i + 1, by omega, by push_cast; rfl, HX⟩
          case measure => simp [vint]; omega
        · obtain rfl : i = len3 := by omega
          go_wp2_with fail
          go_ret
          obtain ⟨col, v, bl, l, hP, hL⟩ := HB.out
          exact ⟨rfl, HEND.out _ hP.fresh.below⟩
end Go.Proofs.Ytilhdelijdkjpaa
