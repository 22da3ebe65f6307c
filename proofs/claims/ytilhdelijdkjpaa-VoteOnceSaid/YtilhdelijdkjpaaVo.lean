/-
  The law VoteOnce, walked.
-/
import Derived.Test.YtilhdelijdkjpaaSt
import Derived.Test.YtilhdelijdkjpaaMo
set_option linter.unusedVariables false
set_option linter.unusedSimpArgs false
namespace Go.Proofs.Ytilhdelijdkjpaa
open Go Go.RowKit Go.Maps Sac

theorem StpsAt.moved {w wr : World} {a : Option Addr} {len cap : Nat} {F : Nat → StpP} (h : StpsAt w a len cap F) (hb : Below w.heap.size w wr) : StpsAt wr a len cap F :=
  ⟨h.1, h.2.1, h.2.2.1, fun ad e i hi => (h.2.2.2 ad e i hi).moved hb⟩
theorem PAt.other {G : Nat × Nat → Prop} {col col' : Colour} {w0 w w' : World} {pb : Nat} {v : Value} {bl : List Nat} {l : List Core} {wrong : List Bool} (h : PAt col w0 w pb v bl l wrong) (hE : Ext G col w col' w') (hg : ∀ j p, j < l.length → ¬ G (j, p)) : PAt col' w0 w' pb v bl l wrong := by
  obtain ⟨wb, hB1, hB2, hc2, hw2⟩ := h.pblk
  exact ⟨⟨wb, blk_ext hB1 hE h.unc.1, blk_ext hB2 hE hc2, by rw [hE.old wb hB2.lt]; exact hc2, hw2⟩, own_ext h.own hE h.peers.unc, h.peers.other hE hg, h.fresh.step hE, by rw [hE.old pb hB1.lt]; exact h.unc.1, h.unc.2⟩
/-- The map that is made has a colour of its own. -/
theorem ext_made {col : Colour} {w : World} (ht : Tinted col w) : Ext (fun q => q.1 = 1000) col w (fun k => if k = w.heap.size then some (1000, 0) else col k) (w.alloc (.map #[] 0)) := by
  have hc : ∀ k, k < w.heap.size → (fun k => if k = w.heap.size then some ((1000 : Nat), (0 : Nat)) else col k) k = col k := fun k hk => if_neg (by omega)
  refine ⟨hc, (Only.refl _ w).alloc _, fun k q hk e => ?_, fun k q e => ?_, fun k q e hE => ?_⟩
  · by_cases h : k = w.heap.size
    · rw [if_pos h] at e; injection e with e; rw [← e]
    · rw [if_neg h] at e; have := ht.lo k q e; omega
  · have hs : (w.alloc (.map #[] 0)).heap.size = w.heap.size + 1 := by simp
    by_cases h : k = w.heap.size
    · omega
    · rw [if_neg h] at e; have := ht.lo k q e; omega
  · obtain ⟨cs, fr, he⟩ := hE
    by_cases h : k = w.heap.size
    · rw [h, heap_alloc_new] at he; cases he
    · rw [if_neg h] at e
      rw [heap_alloc_old _ _ (ht.lo k q e)] at he
      exact ht.nb k q e ⟨cs, fr, he⟩
theorem ext_note {col : Colour} {w w' : World} {mb k : Nat} {S : Int → Int → Int → Option Bs} (ht : Tinted col w) (hc : col mb = some (1000, 0)) (hg : w.grownBy w' (some mb)) (hn : NoteAt w' mb k S) : Ext (fun q => q.1 = 1000) col w col w' := by
  have hO : Only (fun k => ∃ q, col k = some q ∧ q.1 = 1000) w w' := (Only.refl _ w).grown hg (fun k e _ => by cases e; exact ⟨_, hc, rfl⟩)
  refine ⟨fun _ _ => rfl, hO, fun k q hk e => by have := ht.lo k q e; omega, fun k q e => Nat.lt_of_lt_of_le (ht.lo k q e) hO.size, fun k q e hE => ?_⟩
  by_cases hk : k = mb
  · subst hk
    obtain ⟨D, ⟨es, clock, hb, _⟩, _⟩ := hn
    obtain ⟨cs, fr, he⟩ := hE
    rw [hb] at he; cases he
  · obtain ⟨cs, fr, he⟩ := hE
    exact ht.nb k q e ⟨cs, fr, (hg.block k (ht.lo k q e) (fun e => hk (Option.some.inj e))).symm.trans he⟩
/-- The peers and what was noted of them, in memory. -/
structure OAt (n : Nat) (slot : Int) (wrong : List Bool) (w0 : World) (pb mb : Nat) (col : Colour) (v : Value) (bl : List Nat) (l : List Core) (S : Int → Int → Int → Option Bs) (k : Nat) (wr : World) : Prop where
  p : PAt col w0 wr pb v bl l wrong
  inv : OInv n slot wrong S l
  said : NoteAt wr mb k S
  tinge : col mb = some (1000, 0)
theorem OAt.moved {n : Nat} {slot : Int} {wrong : List Bool} {w0 : World} {pb mb : Nat} {col : Colour} {v : Value} {bl : List Nat} {l : List Core} {S : Int → Int → Int → Option Bs} {k : Nat} {wr wx : World} (h : OAt n slot wrong w0 pb mb col v bl l S k wr) (hb : Below wr.heap.size wr wx) : OAt n slot wrong w0 pb mb col v bl l S k wx :=
  ⟨h.p.moved hb, h.inv, h.said.below hb, h.tinge⟩
/-- So many entries at most. -/
def bnd (i j q : Nat) : Nat := i * 300000000000 + j * 30000000000 + q
theorem bnd_eq (i j q : Nat) : bnd i j q = i * 300000000000 + j * 30000000000 + q := rfl
theorem bnd_one {i j q k : Nat} (h : k ≤ bnd i j q) : k + 1 ≤ bnd i j (q + 1) := by have e1 := bnd_eq i j q; have e2 := bnd_eq i j (q + 1); omega
theorem bnd_skip {i j q k : Nat} (h : k ≤ bnd i j q) : k ≤ bnd i j (q + 1) := by have e1 := bnd_eq i j q; have e2 := bnd_eq i j (q + 1); omega
theorem bnd_row {i j q k : Nat} (h : k ≤ bnd i j q) (hq : q ≤ 30000000000) : k ≤ bnd i (j + 1) 0 := by have e1 := bnd_eq i j q; have e2 := bnd_eq i (j + 1) 0; omega
theorem bnd_step {i j k : Nat} (h : k ≤ bnd i j 0) (hj : j ≤ 10) : k ≤ bnd (i + 1) 0 0 := by have e1 := bnd_eq i j 0; have e2 := bnd_eq (i + 1) 0 0; omega
theorem bnd_max {i j q k : Nat} (h : k ≤ bnd i j q) (hi : i ≤ 250) (hj : j ≤ 10) (hq : q ≤ 30000000000) : k < maxLen := by
  rw [bnd_eq] at h
  have h1 : k < 100000000000000 := by omega
  exact Nat.lt_trans h1 (of_decide_eq_true (by kernel_rfl))
def OnceLoop (n : Nat) (slot : Int) (wrong : List Bool) (w0 : World) (pb mb : Nat) (m : Nat) (wr : World) : Prop := ∃ col v bl l S k, OAt n slot wrong w0 pb mb col v bl l S k wr ∧ k ≤ m
/-- Within a step: the peers stay as they are. -/
def OnceIn (n : Nat) (slot : Int) (wrong : List Bool) (w0 : World) (pb mb : Nat) (col : Colour) (v : Value) (bl : List Nat) (l : List Core) (m : Nat) (wr : World) : Prop := ∃ S k, OAt n slot wrong w0 pb mb col v bl l S k wr ∧ k ≤ m
/-- A vote is noted. -/
theorem OAt.more {n : Nat} {slot : Int} {wrong : List Bool} {w0 : World} {pb mb : Nat} {col : Colour} {v : Value} {bl : List Nat} {l : List Core} {S : Int → Int → Int → Option Bs} {k : Nat} {wr wx : World} (h : OAt n slot wrong w0 pb mb col v bl l S k wr) (hn : n ≤ 10) {j : Nat} {c : Core} (hj : l[j]? = some c) {kd vw : Int} {s : Bs} (ho : ownKV c kd vw = some s) {k' : Nat} (hno : NoteAt wx mb k' (note S (j : Int) kd vw s)) (hg : wr.grownBy wx (some mb)) :
    OAt n slot wrong w0 pb mb col v bl l (note S (j : Int) kd vw s) k' wx ∧ Ext (fun q => q.1 = 1000) col wr col wx := by
  have hE := ext_note h.p.peers.tint h.tinge hg hno
  exact ⟨⟨h.p.other hE (fun j p hl e => by have e : j = 1000 := e; rw [h.inv.1.len] at hl; omega), ⟨h.inv.1, h.inv.2.note hj ho⟩, hno, h.tinge⟩, hE⟩

set_option linter.all false in
set_option maxRecDepth 100000 in
set_option maxHeartbeats 8000000 in
theorem once_walk (a0 a1 : Int) (a2 : Option Addr) (len2 cap2 : Nat) (z2 : List Int) (a3 : Option Addr) (len3 cap3 : Nat) (F : Nat → StpP) (w : World)
    (hz : (a2 = none ∧ len2 = 0 ∧ cap2 = 0 ∧ z2 = []) ∨ ∃ x, a2 = some x ∧ len2 ≤ cap2 ∧ cap2 ≤ maxLen ∧ z2.length = cap2 ∧ (∀ i, i < z2.length → w.cell? (x.add i) = some (.int .i64 (z2.getD i 0))) ∧ ∀ n ∈ z2, (Lit.int .i64 n).wf = true)
    (h3 : StpsAt w a3 len3 cap3 F) :
    Calls Try.prog 6 #[.int .i64 a0, .int .i64 a1, .slice a2 len2 cap2, .slice a3 len3 cap3] w fun e w' => e = .returned (.bool true) ∧ Below w.heap.size w w' := by
  obtain ⟨r0, hr0, hr0l⟩ := tmod_nat a0 (show 0 < 7 by omega)
  obtain ⟨r1, hr1, hr1l⟩ := tmod_nat a1 (show 0 < 257 by omega)
  have hr0 : (IntKind.u64.wrap a0).tmod 7 = (r0 : Int) := hr0
  have hr1 : (IntKind.u64.wrap a1).tmod 257 = (r1 : Int) := hr1
  obtain ⟨n0, hn0⟩ : ∃ n0 : Nat, 4 + r0 = n0 := ⟨_, rfl⟩
  have hn4 : 4 ≤ n0 ∧ n0 ≤ 10 := by omega
  have x1 : IntKind.u64.wrap (r0 : Int) = (r0 : Int) := by rw [IntKind.wrap_u64]; omega
  have x2 : IntKind.i64.wrap (r0 : Int) = (r0 : Int) := by rw [IntKind.wrap_i64]; omega
  have x3 : IntKind.i64.wrap (4 + (r0 : Int)) = (n0 : Int) := by rw [IntKind.wrap_i64]; omega
  have x4 : IntKind.u64.wrap (r1 : Int) = (r1 : Int) := by rw [IntKind.wrap_u64]; omega
  have x5 : IntKind.i64.wrap (r1 : Int) = (r1 : Int) := by rw [IntKind.wrap_i64]; omega
  have HZ := Lib.hid hz
  have H3 := Lib.hid h3
  clear hz h3 hn0
  have hlv := Lib.hid (lives_any w)
  go_enter Try.func6, Try.ntmps6
  go_wp2_with fail
  refine hlv.out.mono ?_
  rintro e wA ⟨rfl, hbA⟩
  have HBA := Lib.hid hbA
  have HFS := Lib.hid (fewSteps_any a3 len3 cap3 F wA (H3.out.moved hbA))
  clear hbA
  go_wp2_with fail
  refine HFS.out.mono ?_
  rintro e wB ⟨r, rfl, hbB, hfew⟩
  have HBB := Lib.hid (HBA.out.trans (hbB.mono HBA.out.size))
  have HLB := Lib.hid (lives_any wB)
  clear hbB
  have hend : ∀ wC, Below wB.heap.size wB wC → Below w.heap.size w wC := fun wC h => HBB.out.trans (h.mono HBB.out.size)
  have HEND := Lib.hid hend
  clear hend
  cases r with
  | false =>
    go_wp2_with fail
    refine HLB.out.mono ?_
    rintro e wC ⟨rfl, hbC⟩
    have HC := Lib.hid (HEND.out wC hbC)
    clear hbC
    go_wp2_with fail
    go_ret
    exact ⟨rfl, HC.out⟩
  | true =>
    by_cases hlong : (20 : Int) < (len2 : Int)
    · have hd : decide ((20 : Int) < (len2 : Int)) = true := decide_eq_true hlong
      go_wp2_with fail
      refine HLB.out.mono ?_
      rintro e wC ⟨rfl, hbC⟩
      have HC := Lib.hid (HEND.out wC hbC)
      clear hbC
      go_wp2_with fail
      go_ret
      exact ⟨rfl, HC.out⟩
    · have hd : decide ((20 : Int) < (len2 : Int)) = false := decide_eq_false hlong
      have HBG := Lib.hid (begin_any n0 (r1 : Int) a2 len2 cap2 z2 wB hn4 (by omega) (by omega) (by
        rcases HZ.out with h | ⟨x, e1, e2, e3, e4, e5, e6⟩
        · exact .inl h
        · exact .inr ⟨x, e1, e2, e3, e4, fun i hi => cell_moved (e5 i hi) HBB.out, e6⟩))
      have hl3 : len3 ≤ 250 := (hfew rfl).1
      clear hfew
      go_wp2_with fail
      refine HBG.out.mono ?_
      rintro e wC ⟨pb, rfl, col, v, bl, wrong, hwl, hwc, hP⟩
      have hpp : ptr pb = .pointer (some ⟨pb, 0, none⟩) := rfl
      rw [hpp]
      clear hpp
      obtain ⟨mb, hmb⟩ : ∃ x, wC.heap.size = x := ⟨_, rfl⟩
      obtain ⟨wM, hwM⟩ : ∃ x, wC.alloc (.map #[] 0) = x := ⟨_, rfl⟩
      have HAL : Hid (OnceLoop n0 (r1 : Int) wrong wB pb mb (bnd 0 0 0) wM) := by
        have hE := ext_made (col := col) hP.peers.tint
        have hl : (cores n0 (r1 : Int) n0).length = n0 := cores_length _ _ _
        have hn := NoteAt.made wC
        rw [hwM] at hE hn
        rw [hmb] at hE hn
        exact ⟨_, v, bl, _, _, 0, ⟨hP.other hE (fun j p hj e => by have e : j = 1000 := e; rw [hl] at hj; omega), ⟨LInv.start (by omega) (by omega) hwl hwc, fun i k v s e => by cases e⟩, hn, if_pos rfl⟩, Nat.zero_le _⟩
      clear hP hwl hwc
      have hmm : (Instr.makeMap 60 none).run Try.prog wC = .ok (.map (some mb)) wM := by rw [← hmb, ← hwM]; rfl
      clear hwM hmb
      go_wp2_with fail
      go_loopw [49] (fun u wr => ∃ i : Nat, i ≤ len3 ∧ u = .int .i64 (i : Int) ∧ Hid (OnceLoop n0 (r1 : Int) wrong wB pb mb (bnd i 0 0) wr)) (fun u _ => len3 - (vint u).toNat)
      case atStart => exact ⟨0, Nat.zero_le _, rfl, HAL⟩
      case round =>
        obtain ⟨i, hi, rfl, HB⟩ := hrel
        by_cases hlt : (i : Int) < (len3 : Int)
        · rename World => wr
          obtain ⟨col, v, bl, l, S, k, hO, hk⟩ := HB.out
          have hP := hO.p
          have hL := hO.inv
          have HNO := Lib.hid hO.said
          have HTG := Lib.hid hO.tinge
          have HKL := Lib.hid hk
          clear hO hk
          have hz1 : IntKind.i64.wrap ((i : Int) + 1) = (i : Int) + 1 := by rw [IntKind.wrap_i64]; omega
          obtain ⟨ad, rfl⟩ : ∃ ad, a3 = some ad := by
            cases a3 with
            | none => have := H3.out.2.2.1 rfl; omega
            | some ad => exact ⟨ad, rfl⟩
          have hat := (H3.out.2.2.2 ad rfl i (by omega)).moved (HEND.out wr hP.fresh.below)
          obtain ⟨⟨kd, sf, st, sn, ⟨vk, vfr, vsl, vvw, vvd, vval⟩, sval⟩, hs⟩ : ∃ s, F i = s := ⟨_, rfl⟩
          rw [hs] at hat
          clear hs
          have hwv := hat.wfv
          obtain ⟨vs, ss, ⟨c0, c1, c2, c3, c4, c5, c6, c7, c8, c9, c10⟩, hvs, hss⟩ := hat.cells
          obtain ⟨va, vl, vc, rfl⟩ := IB.form hvs
          obtain ⟨sa, sl, sc, rfl⟩ := IB.form hss
          dsimp only at c0 c1 c2 c3 c4 c5 c6 c7 c8 c9 c10 hvs hss hwv
          have HP := Lib.hid hP
          have HL := Lib.hid hL
          have HVS := Lib.hid hvs
          have HSS := Lib.hid hss
          have HWV := Lib.hid hwv
          clear hat hwv hvs hss hP hL HB
          go_upto_region 10 with (fail)
          obtain ⟨W2, hW2⟩ : ∃ W2, wr.alloc (.cells #[.int .i64 kd, .int .i64 sf, .int .i64 st, .int .i64 sn, .int .i64 vk, .int .i64 vfr, .int .i64 vsl, .int .i64 vvw, .int .i64 vvd, .slice va vl vc, .slice sa sl sc] 57) = W2 := ⟨_, rfl⟩
          have hbV : Below wr.heap.size wr W2 := hW2 ▸ (Below.refl _ wr).alloc (Nat.le_refl _) _
          have hkV : Blk W2 wr.heap.size 57 [.int .i64 kd, .int .i64 sf, .int .i64 st, .int .i64 sn, .int .i64 vk, .int .i64 vfr, .int .i64 vsl, .int .i64 vvw, .int .i64 vvd, .slice va vl vc, .slice sa sl sc] := hW2 ▸ Blk.new wr _ _
          obtain ⟨G, hG⟩ : ∃ G, wr.heap.size = G := ⟨_, rfl⟩
          rw [hW2, hG]
          rw [hG] at hkV
          have HSP := Lib.hid (step_any n0 (r1 : Int) ⟨kd, sf, st, sn, ⟨vk, vfr, vsl, vvw, vvd, vval⟩, sval⟩ (.slice va vl vc) (.slice sa sl sc) hn4 (by omega) (OInv.kept n0 (r1 : Int) wrong S) (HP.out.moved hbV) HL.out (fun _ => trivial) (HVS.out.below hbV) (HSS.out.below hbV) ⟨HWV.out.1, HWV.out.2.2.2.1, HWV.out.2.2.2.2⟩)
          have HNV := Lib.hid (HNO.out.below hbV)
          have HPT := Lib.hid (HP.out.moved hbV).peers.tint
          have b0 := hkV.cell 0
          have b1 := hkV.cell 1
          have b2 := hkV.cell 2
          have b3 := hkV.cell 3
          have b4 := hkV.cell 4
          have b5 := hkV.cell 5
          have b6 := hkV.cell 6
          have b7 := hkV.cell 7
          have b8 := hkV.cell 8
          have b9 := hkV.cell 9
          have b10 := hkV.cell 10
          simp only [List.getElem?_cons_succ, List.getElem?_cons_zero] at b0 b1 b2 b3 b4 b5 b6 b7 b8 b9 b10
          clear hW2 hG hbV hkV c0 c1 c2 c3 c4 c5 c6 c7 c8 c9 c10 HVS HSS HWV
          go_wp2_with fail
          refine HSP.out.mono ?_
          rintro e w2 ⟨rfl, col2, v2, bl2, l2, hP2, hL2, hH⟩
          have hO2 : OAt n0 (r1 : Int) wrong wB pb mb col2 v2 bl2 l2 S k w2 := ⟨hP2, hL2, HNV.out.same (hH mb _ HTG.out (by decide)).2, (hH mb _ HTG.out (by decide)).1⟩
          obtain ⟨g, cap, hv2, hcap⟩ : ∃ g cap, v2 = .slice (some ⟨g, 0, none⟩) n0 cap ∧ True := by
            obtain ⟨g, cap, _, _, e, _⟩ := hP2.peers.at_ (i := 0) (by rw [hL2.1.len]; omega)
            exact ⟨g, cap, by rw [e, hL2.1.len], trivial⟩
          subst hv2
          clear hcap
          obtain ⟨wb2, hB1, _⟩ := hP2.pblk
          have c1 := hB1.cell 1
          simp only [List.getElem?_cons_succ, List.getElem?_cons_zero] at c1
          have HIN : Hid (OnceIn n0 (r1 : Int) wrong wB pb mb col2 (.slice (some ⟨g, 0, none⟩) n0 cap) bl2 l2 (bnd i 0 0) w2) := ⟨S, k, hO2, HKL.out⟩
          clear hP2 hL2 hH hO2 hB1 HP HL HNO HTG HKL HNV HPT HSP b0 b1 b2 b3 b4 b5 b6 b7 b8 b9 b10
          go_wp2_with fail
          go_loopw [63] (fun u wr => ∃ j : Nat, j ≤ n0 ∧ u = .int .i64 (j : Int) ∧ Hid (OnceIn n0 (r1 : Int) wrong wB pb mb col2 (.slice (some ⟨g, 0, none⟩) n0 cap) bl2 l2 (bnd i j 0) wr)) (fun u _ => n0 - (vint u).toNat)
          case atStart => exact ⟨0, Nat.zero_le _, rfl, HIN⟩
          case round =>
            obtain ⟨j, hj, rfl, HJ⟩ := hrel
            rename World => wj
            have hz2 : IntKind.i64.wrap ((j : Int) + 1) = (j : Int) + 1 := by rw [IntKind.wrap_i64]; omega
            clear HIN
            by_cases hltj : (j : Int) < (n0 : Int)
            · obtain ⟨S2, k2, hO, hk2⟩ := HJ.out
              obtain ⟨g', cap', b, c, hv', hgt, hbt, hct, hCt, hok⟩ := hO.p.peers.at_ (i := j) (by rw [hO.inv.1.len]; omega)
              injection hv' with e1 e2 e3
              injection e1 with e1
              injection e1 with e1
              subst e1
              clear e2 e3
              have HSY := Lib.hid (says_any hO.p.peers.tint hCt hok)
              have HSL := Lib.hid (says_len hok hCt.srt)
              have HOK := Lib.hid hok
              have HCT := Lib.hid hct
              have HO := Lib.hid hO
              have HK2 := Lib.hid hk2
              clear HJ hbt hct hCt hok hO hk2
              go_wp2_with fail
              refine HSY.out.mono ?_
              rintro e w4 ⟨rv, rfl, hrow⟩
              have hb4 : Below wj.heap.size wj w4 := hrow.below
              have HTO := Lib.hid (Told.of hrow HO.out.p.peers.tint)
              obtain ⟨ra, rc, rfl, hrc⟩ := HTO.out.form
              obtain ⟨N, hN⟩ : ∃ N, (Sac.says c).length = N := ⟨_, rfl⟩
              rw [hN] at HTO hrc HSL
              rw [hN]
              have hNl : N ≤ 30000000000 := HSL.out
              have HN := Lib.hid hN
              have HST : Hid (OnceIn n0 (r1 : Int) wrong wB pb mb col2 (.slice (some ⟨g, 0, none⟩) n0 cap) bl2 l2 (bnd i j 0) w4) := ⟨S2, k2, HO.out.moved hb4, HK2.out⟩
              clear hrow hb4 hN HSY hgt HO HK2
              go_wp2_with fail
              go_loopw [71] (fun u wx => ∃ q : Nat, q ≤ N ∧ u = .int .i64 (q : Int) ∧ Hid (OnceIn n0 (r1 : Int) wrong wB pb mb col2 (.slice (some ⟨g, 0, none⟩) n0 cap) bl2 l2 (bnd i j q) wx) ∧ Hid (Told col2 wx (.slice ra N rc) (Sac.says c))) (fun u _ => N - (vint u).toNat)
              case atStart => exact ⟨0, Nat.zero_le _, rfl, HST, HTO⟩
              case round =>
                obtain ⟨q, hq, rfl, HQ, HTQ⟩ := hrel
                rename World => wq
                have hz3 : IntKind.i64.wrap ((q : Int) + 1) = (q : Int) + 1 := by rw [IntKind.wrap_i64]; omega
                clear HST HTO
                by_cases hltq : (q : Int) < (N : Int)
                · obtain ⟨S3, k3, hO, hk3⟩ := HQ.out
                  obtain ⟨g2, cap2', p, hv', hvi, hcs, hrb⟩ := HTQ.out.at_ (i := q) (by rw [HN.out]; omega)
                  rw [HN.out] at hv'
                  injection hv' with e1 e2 e3
                  subst e1 e3
                  clear e2
                  obtain ⟨⟨qk, qf, qs, qv, qd, ql⟩, ya, yn, yc⟩ := p
                  have v0 : wq.cell? ⟨g2, q * 6, none⟩ = some (.int .i64 qk) := hcs 0 (by omega)
                  have v1 : wq.cell? ⟨g2, q * 6 + 1, none⟩ = some (.int .i64 qf) := hcs 1 (by omega)
                  have v2 : wq.cell? ⟨g2, q * 6 + 2, none⟩ = some (.int .i64 qs) := hcs 2 (by omega)
                  have v3 : wq.cell? ⟨g2, q * 6 + 3, none⟩ = some (.int .i64 qv) := hcs 3 (by omega)
                  have v4 : wq.cell? ⟨g2, q * 6 + 4, none⟩ = some (.int .i64 qd) := hcs 4 (by omega)
                  have v5 : wq.cell? ⟨g2, q * 6 + 5, none⟩ = some (.slice ya yn yc) := hcs 5 (by omega)
                  have hmem : (⟨qk, qf, qs, qv, qd, ql⟩ : Vt) ∈ Sac.says c := List.mem_of_getElem? hvi
                  have HME := Lib.hid hmem
                  have HRB := Lib.hid hrb
                  have HO := Lib.hid hO
                  have HK3 := Lib.hid hk3
                  clear hcs hmem hvi hrb hO hk3 HQ
                  go_upto_region 18 with (fail)
                  obtain ⟨W3, hW3⟩ : ∃ W3, wq.alloc (.cells #[.int .i64 qk, .int .i64 qf, .int .i64 qs, .int .i64 qv, .int .i64 qd, .slice ya yn yc] 31) = W3 := ⟨_, rfl⟩
                  have hbV : Below wq.heap.size wq W3 := hW3 ▸ (Below.refl _ wq).alloc (Nat.le_refl _) _
                  have hkV : Blk W3 wq.heap.size 31 [.int .i64 qk, .int .i64 qf, .int .i64 qs, .int .i64 qv, .int .i64 qd, .slice ya yn yc] := hW3 ▸ Blk.new wq _ _
                  obtain ⟨vb, hvb⟩ : ∃ x, wq.heap.size = x := ⟨_, rfl⟩
                  rw [hW3, hvb]
                  rw [hvb] at hkV
                  have HTW := Lib.hid (Told.ext HTQ.out (Ext.below (G := fun _ => False) HO.out.p.peers.tint hbV) HO.out.p.peers.tint)
                  have HOW := Lib.hid (HO.out.moved hbV)
                  have HRW := Lib.hid (HRB.out.below hbV)
                  have HKV := Lib.hid hkV
                  clear hW3 hvb v0 v1 v2 v3 v4 v5 hbV HTQ HO HRB
                  have v0 := hkV.cell 0
                  have v3 := hkV.cell 3
                  have v5 := hkV.cell 5
                  simp only [List.getElem?_cons_succ, List.getElem?_cons_zero] at v0 v3 v5
                  clear hkV
                  by_cases hkd : qk = 2 ∨ qk = 3
                  · have HOWN := Lib.hid (says_ownKV (HOW.out.inv.1.loc HCT.out) HME.out hkd)
                    rcases hkd with rfl | rfl
                    · go_upto_region 20 with (fail)
                      obtain ⟨W4, hW4⟩ : ∃ W4, W3.alloc (.cells #[.int .i64 (j : Int), .int .i64 2, .int .i64 qv] 66) = W4 := ⟨_, rfl⟩
                      have hbW : Below W3.heap.size W3 W4 := hW4 ▸ (Below.refl _ W3).alloc (Nat.le_refl _) _
                      have hkW : Blk W4 W3.heap.size 66 [.int .i64 (j : Int), .int .i64 2, .int .i64 qv] := hW4 ▸ Blk.new W3 _ _
                      obtain ⟨pl, hpl⟩ : ∃ x, W3.heap.size = x := ⟨_, rfl⟩
                      rw [hW4, hpl]
                      rw [hpl] at hkW
                      have p0 := hkW.cell 0
                      have p1 := hkW.cell 1
                      have p2 := hkW.cell 2
                      have v5 := (HKV.out.below hbW HKV.out.lt).cell 5
                      simp only [List.getElem?_cons_succ, List.getElem?_cons_zero] at p0 p1 p2 v5
                      have HO4 := Lib.hid (HOW.out.moved hbW)
                      have HT4 := Lib.hid (Told.ext HTW.out (Ext.below (G := fun _ => False) HOW.out.p.peers.tint hbW) HOW.out.p.peers.tint)
                      have hstr : (convert 29 9 (.slice ya yn yc)).run Try.prog W4 = .ok (.string (strB ql)) W4 := rb_str (HRW.out.below hbW)
                      have hwj : (Lit.int .i64 (j : Int)).wf = true := wf64_mk (by omega) (by omega)
                      have hwk : (Lit.int .i64 2).wf = true := by decide
                      have hwv : (Lit.int .i64 qv).wf = true := wf64_mk (by have h : 0 ≤ qv ∧ qv ≤ 1048576 := ownKV_in (HOW.out.inv.1.loc HCT.out) HOWN.out; omega) (by have h : 0 ≤ qv ∧ qv ≤ 1048576 := ownKV_in (HOW.out.inv.1.loc HCT.out) HOWN.out; omega)
                      have hlook := HO4.out.said.look hwj hwk hwv
                      have hk3m : k3 < maxLen := bnd_max HK3.out (by omega) (by omega) (by omega)
                      obtain ⟨w5, hput, hno5, hg5⟩ := HO4.out.said.put hk3m hwj hwk hwv (HRW.out.lt : ∀ x ∈ ql, x < 256)
                      obtain ⟨hO5, hE5⟩ := HO4.out.more hn4.2 HCT.out HOWN.out hno5 hg5
                      have HX : Hid (OnceIn n0 (r1 : Int) wrong wB pb mb col2 (.slice (some ⟨g, 0, none⟩) n0 cap) bl2 l2 (bnd i j (q + 1)) w5) := ⟨_, _, hO5, bnd_one HK3.out⟩
                      have HT5 := Lib.hid (Told.ext HT4.out hE5 HO4.out.p.peers.tint)
                      have hsame : ∀ s, S3 (j : Int) 2 qv = some s → s = ql := fun s e => HO4.out.inv.2.eq HCT.out e HOWN.out
                      clear hk3m hW4 hpl hbW hkW hwj hwk hwv hno5 hg5 hO5 hE5 HOW HTW HRW HKV v0 v3
                      cases hS : S3 (j : Int) 2 qv with
                      | none =>
                        rw [hS] at hlook
                        have hlook : (Instr.lookup 60 (.map (some mb)) (.agg #[.int .i64 (j : Int), .int .i64 2, .int .i64 qv]) true).run Try.prog W4 = .ok (.tuple #[.string ⟨#[]⟩, .bool false]) W4 := hlook
                        clear hS hsame
                        go_wp2_with fail
                        go_roundw
                        case rel => exact ⟨q + 1, by omega, by push_cast; rfl, HX, HT5⟩
                        case measure => simp [vint]; omega
                      | some s =>
                        rw [hS] at hlook
                        obtain rfl := hsame s hS
                        have hlook : (Instr.lookup 60 (.map (some mb)) (.agg #[.int .i64 (j : Int), .int .i64 2, .int .i64 qv]) true).run Try.prog W4 = .ok (.tuple #[.string (strB s), .bool true]) W4 := hlook
                        clear hS hsame
                        go_wp2_with fail
                        go_roundw
                        case rel => exact ⟨q + 1, by omega, by push_cast; rfl, HX, HT5⟩
                        case measure => simp [vint]; omega
                    · go_upto_region 20 with (fail)
                      obtain ⟨W4, hW4⟩ : ∃ W4, W3.alloc (.cells #[.int .i64 (j : Int), .int .i64 3, .int .i64 qv] 66) = W4 := ⟨_, rfl⟩
                      have hbW : Below W3.heap.size W3 W4 := hW4 ▸ (Below.refl _ W3).alloc (Nat.le_refl _) _
                      have hkW : Blk W4 W3.heap.size 66 [.int .i64 (j : Int), .int .i64 3, .int .i64 qv] := hW4 ▸ Blk.new W3 _ _
                      obtain ⟨pl, hpl⟩ : ∃ x, W3.heap.size = x := ⟨_, rfl⟩
                      rw [hW4, hpl]
                      rw [hpl] at hkW
                      have p0 := hkW.cell 0
                      have p1 := hkW.cell 1
                      have p2 := hkW.cell 2
                      have v5 := (HKV.out.below hbW HKV.out.lt).cell 5
                      simp only [List.getElem?_cons_succ, List.getElem?_cons_zero] at p0 p1 p2 v5
                      have HO4 := Lib.hid (HOW.out.moved hbW)
                      have HT4 := Lib.hid (Told.ext HTW.out (Ext.below (G := fun _ => False) HOW.out.p.peers.tint hbW) HOW.out.p.peers.tint)
                      have hstr : (convert 29 9 (.slice ya yn yc)).run Try.prog W4 = .ok (.string (strB ql)) W4 := rb_str (HRW.out.below hbW)
                      have hwj : (Lit.int .i64 (j : Int)).wf = true := wf64_mk (by omega) (by omega)
                      have hwk : (Lit.int .i64 3).wf = true := by decide
                      have hwv : (Lit.int .i64 qv).wf = true := wf64_mk (by have h : 0 ≤ qv ∧ qv ≤ 1048576 := ownKV_in (HOW.out.inv.1.loc HCT.out) HOWN.out; omega) (by have h : 0 ≤ qv ∧ qv ≤ 1048576 := ownKV_in (HOW.out.inv.1.loc HCT.out) HOWN.out; omega)
                      have hlook := HO4.out.said.look hwj hwk hwv
                      have hk3m : k3 < maxLen := bnd_max HK3.out (by omega) (by omega) (by omega)
                      obtain ⟨w5, hput, hno5, hg5⟩ := HO4.out.said.put hk3m hwj hwk hwv (HRW.out.lt : ∀ x ∈ ql, x < 256)
                      obtain ⟨hO5, hE5⟩ := HO4.out.more hn4.2 HCT.out HOWN.out hno5 hg5
                      have HX : Hid (OnceIn n0 (r1 : Int) wrong wB pb mb col2 (.slice (some ⟨g, 0, none⟩) n0 cap) bl2 l2 (bnd i j (q + 1)) w5) := ⟨_, _, hO5, bnd_one HK3.out⟩
                      have HT5 := Lib.hid (Told.ext HT4.out hE5 HO4.out.p.peers.tint)
                      have hsame : ∀ s, S3 (j : Int) 3 qv = some s → s = ql := fun s e => HO4.out.inv.2.eq HCT.out e HOWN.out
                      clear hk3m hW4 hpl hbW hkW hwj hwk hwv hno5 hg5 hO5 hE5 HOW HTW HRW HKV v0 v3
                      cases hS : S3 (j : Int) 3 qv with
                      | none =>
                        rw [hS] at hlook
                        have hlook : (Instr.lookup 60 (.map (some mb)) (.agg #[.int .i64 (j : Int), .int .i64 3, .int .i64 qv]) true).run Try.prog W4 = .ok (.tuple #[.string ⟨#[]⟩, .bool false]) W4 := hlook
                        clear hS hsame
                        go_wp2_with fail
                        go_roundw
                        case rel => exact ⟨q + 1, by omega, by push_cast; rfl, HX, HT5⟩
                        case measure => simp [vint]; omega
                      | some s =>
                        rw [hS] at hlook
                        obtain rfl := hsame s hS
                        have hlook : (Instr.lookup 60 (.map (some mb)) (.agg #[.int .i64 (j : Int), .int .i64 3, .int .i64 qv]) true).run Try.prog W4 = .ok (.tuple #[.string (strB s), .bool true]) W4 := hlook
                        clear hS hsame
                        go_wp2_with fail
                        go_roundw
                        case rel => exact ⟨q + 1, by omega, by push_cast; rfl, HX, HT5⟩
                        case measure => simp [vint]; omega
                  · have k2 : (qk == 2) = false := by simp; omega
                    have k3 : (qk == 3) = false := by simp; omega
                    have m2 : (qk != 2) = true := by simp; omega
                    have m3 : (qk != 3) = true := by simp; omega
                    have n2 : ¬ qk = 2 := fun e => hkd (.inl e)
                    have n3 : ¬ qk = 3 := fun e => hkd (.inr e)
                    clear hkd
                    have HX : Hid (OnceIn n0 (r1 : Int) wrong wB pb mb col2 (.slice (some ⟨g, 0, none⟩) n0 cap) bl2 l2 (bnd i j (q + 1)) W3) := ⟨S3, _, HOW.out, bnd_skip HK3.out⟩
                    go_wp2_with fail
                    go_roundw
                    case rel => exact ⟨q + 1, by omega, by push_cast; rfl, HX, HTW⟩
                    case measure => simp [vint]; omega
                · obtain rfl : N = q := by omega
                  have HX : Hid (OnceIn n0 (r1 : Int) wrong wB pb mb col2 (.slice (some ⟨g, 0, none⟩) n0 cap) bl2 l2 (bnd i (j + 1) 0) wq) := by
                    obtain ⟨S3, k3, hO, hk3⟩ := HQ.out
                    exact ⟨S3, k3, hO, bnd_row hk3 hNl⟩
                  go_wp2_with fail
                  go_roundw
                  case rel => exact ⟨j + 1, by omega, by push_cast; rfl, HX⟩
                  case measure => simp [vint]; omega
            · obtain rfl : n0 = j := by omega
              have HX : Hid (OnceLoop n0 (r1 : Int) wrong wB pb mb (bnd (i + 1) 0 0) wj) := by
                obtain ⟨S3, k3, hO, hk3⟩ := HJ.out
                exact ⟨_, _, _, _, S3, k3, hO, bnd_step hk3 hn4.2⟩
              go_wp2_with fail
              go_roundw
              case rel => exact ⟨i + 1, by omega, by push_cast; rfl, HX⟩
              case measure => simp [vint]; omega
        · obtain rfl : i = len3 := by omega
          rename World => wr
          go_wp2_with fail
          go_ret
          obtain ⟨col, v, bl, l, S, k, hO, _⟩ := HB.out
          exact ⟨rfl, HEND.out _ hO.p.fresh.below⟩
end Go.Proofs.Ytilhdelijdkjpaa
