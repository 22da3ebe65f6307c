/-
  Grown: how much of what lasts there is.
-/
import Derived.Test.YtilhdelijdkjpaaAc
import Derived.Test.YtilhdelijdkjpaaAr
set_option linter.unusedVariables false
set_option linter.unusedSimpArgs false
namespace Go.Proofs.Ytilhdelijdkjpaa
open Go Go.RowKit Go.Maps Sac

/-- Of a view's key: did peer me tell something in it? -/
def saidK (m : List (Int × TellM)) (me k : Int) : Bool := match lookM m k with | some t => (lookM t me).isSome | none => false
theorem countP_said {m : List (Int × TellM)} (hs : Srt m) (me : Int) {ss : List Int} (h : ss.Perm (m.map (·.1))) : ss.countP (saidK m me) = m.countP (fun p => (lookM p.2 me).isSome) := by
  rw [h.countP_eq, List.countP_map]
  refine List.countP_congr fun p hp => ?_
  show saidK m me p.1 = true ↔ _
  rw [saidK, lookM_of_mem hs (show (p.1, p.2) ∈ m from hp)]
def grownV (c : Core) : Value := .agg #[.int .i64 c.view, .int .i64 ((c.prepares.countP fun p => (lookM p.2 c.me).isSome : Nat) : Int), .int .i64 ((c.commits.countP fun p => (lookM p.2 c.me).isSome : Nat) : Int)]

theorem grown_setCell (w : World) (a : Addr) (u : Value) : w.grownBy (w.setCell a u) (some a.block) :=
  ⟨rfl, rfl, rfl, by simp [World.setCell], fun k _ hne => heap_setCell_other _ _ _ _ (fun e => hne (by rw [e]))⟩
/-- An element of the views' map, as the walk asks for it. -/
theorem view_elem {col : Colour} {ci p ob : Nat} {w wr : World} {l : List (Int × Value)} {m : List (Int × TellM)} (ht : Tinted col w) (hb : Below w.heap.size w wr) (hr : RelM (fun v t => ∃ ib, v = Value.map (some ib) ∧ ib ≠ ob ∧ t ≠ [] ∧ ToldAt col ci p w ib t) l m) {x : Int} {c2 : Value} (hx : lookM l x = some c2) {me : Int} (hwf : (Lit.int .i64 me).wf = true) :
    ∃ v bb, (Instr.lookup 108 c2 (.int .i64 me) true).run Try.prog wr = .ok (.tuple #[v, .bool bb]) wr ∧ saidK m me x = bb := by
  rcases hr.lookM x with ⟨h0, _⟩ | ⟨v2, t, hl2, hlt2, ib, rfl, _, _, hT⟩
  · rw [hx] at h0; cases h0
  · obtain rfl : c2 = .map (some ib) := by rw [hx] at hl2; exact Option.some.inj hl2
    obtain ⟨_, l2, hm, hrel⟩ := ToldAt.ext (Ext.below (G := fun _ => False) ht hb) ht (fun h => h) hT
    obtain ⟨v, hrun, _⟩ := TMap.look (.inr ⟨ib, l2, rfl, hm, hrel⟩) hwf
    refine ⟨v, _, hrun, ?_⟩
    unfold saidK
    rw [hlt2]

set_option maxRecDepth 100000 in
set_option maxHeartbeats 8000000 in
theorem grown_any {acc : Bs → Bool} {col : Colour} {ci b : Nat} {w : World} {c : Core} (ht : Tinted col w) (h : CoreAt acc col ci w b c) (hok : CoreOk c) :
    Calls Try.prog 17 #[.pointer (some ⟨b, 0, none⟩)] w fun e w' => e = .returned (grownV c) ∧ Below w.heap.size w w' := by
  obtain ⟨fv, wi, lo, va, pb, pp, cm, tn, sn, dc, h⟩ := h
  have d1 := h.hblk.cell 1
  have d4 := h.hblk.cell 4
  have d8 := h.hblk.cell 8
  have d9 := h.hblk.cell 9
  simp only [List.getElem?_cons_succ, List.getElem?_cons_zero] at d1 d4 d8 d9
  have hbl := h.hblk.lt
  obtain ⟨_, lp, hmp, hrp, _⟩ := id h.hpp
  obtain ⟨_, lc, hmc, hrc, _⟩ := id h.hcm
  have hsp := h.hpp.srts
  have hsc := h.hcm.srts
  have hlp : c.prepares.length ≤ 10000000000 := by
    have := srt_length hsp.1 (a := 0) (b := 4294967295) (fun q hq => ⟨(hok.inn.prepares q hq).1, (hok.inn.prepares q hq).2.1⟩) (by omega)
    omega
  have hlc : c.commits.length ≤ 10000000000 := by
    have := srt_length hsc.1 (a := 0) (b := 4294967295) (fun q hq => ⟨(hok.inn.commits q hq).1, (hok.inn.commits q hq).2.1⟩) (by omega)
    omega
  have hwf : (Lit.int .i64 c.me).wf = true := wf64_mk (by have := hok.inn.me; omega) (by have := hok.inn.me; have := hok.inn.n; omega)
  unfold grownV
  obtain ⟨me, hme⟩ : ∃ x, c.me = x := ⟨_, rfl⟩
  obtain ⟨vw, hvw⟩ : ∃ x, c.view = x := ⟨_, rfl⟩
  obtain ⟨P, hP⟩ : ∃ x, c.prepares = x := ⟨_, rfl⟩
  obtain ⟨C, hC⟩ : ∃ x, c.commits = x := ⟨_, rfl⟩
  rw [hme] at d1 hwf ⊢
  rw [hvw] at d4 ⊢
  rw [hP] at hrp hsp hlp ⊢
  rw [hC] at hrc hsc hlc ⊢
  have HT := Lib.hid ht
  have HMP := Lib.hid hmp
  have HMC := Lib.hid hmc
  have HRP := Lib.hid hrp
  have HRC := Lib.hid hrc
  have HSP := Lib.hid hsp
  have HSC := Lib.hid hsc
  have HWF := Lib.hid hwf
  have HBL := Lib.hid hbl
  clear ht hmp hmc hrp hrc hsp hsc hwf hbl h hok hme hvw hP hC
  go_enter Try.func17, Try.ntmps17
  go_upto_region 1 with (fail)
  obtain ⟨W1, hW1⟩ : ∃ W1, w.alloc (.cells #[.int .i64 0, .int .i64 0, .int .i64 0] 35) = W1 := ⟨_, rfl⟩
  have hb1 : Below w.heap.size w W1 := hW1 ▸ (Below.refl _ w).alloc (Nat.le_refl _) _
  have hk1 : Blk W1 w.heap.size 35 [.int .i64 0, .int .i64 0, .int .i64 0] := hW1 ▸ Blk.new w _ _
  rw [hW1]
  clear hW1
  have e1 := d1
  have e9 := d9
  have d1 := cell_moved d1 hb1
  have d4 := cell_moved d4 hb1
  have d8 := cell_moved d8 hb1
  have d9 := cell_moved d9 hb1
  go_upto_region 4 with (fail)
  obtain ⟨W2, hW2⟩ : ∃ W2, W1.alloc (.cells #[.int .i64 vw, .int .i64 0, .int .i64 0] 35) = W2 := ⟨_, rfl⟩
  have hb2 : Below W1.heap.size W1 W2 := hW2 ▸ (Below.refl _ W1).alloc (Nat.le_refl _) _
  have hk2 : Blk W2 W1.heap.size 35 [.int .i64 vw, .int .i64 0, .int .i64 0] := hW2 ▸ Blk.new W1 _ _
  have hr2 : Blk W2 w.heap.size 35 [.int .i64 0, .int .i64 0, .int .i64 0] := hk1.below hb2 hk1.lt
  have hB2 : Below w.heap.size w W2 := hb1.trans (hb2.mono hb1.size)
  obtain ⟨g, hg⟩ : ∃ g, W1.heap.size = g := ⟨_, rfl⟩
  have hgw : w.heap.size < g := by rw [← hg]; exact hk1.lt
  have hgl : g < W2.heap.size := by rw [← hg]; exact hk2.lt
  have d1 := cell_moved d1 hb2
  have d8 := cell_moved d8 hb2
  have d9 := cell_moved d9 hb2
  rw [hg] at hk2
  rw [hW2, hg]
  have HMr : Hid (MapAt Try.prog 3 W2 pp lp) := HMP.out.below hB2 HMP.out.lt
  have HB2 := Lib.hid hB2
  have HK2 := Lib.hid hk2
  have HR2 := Lib.hid hr2
  have HGW := Lib.hid hgw
  have HGL := Lib.hid hgl
  have hnp : Maps.size (datM lp) = P.length := by rw [size_datM]; exact HRP.out.length
  have hnc : Maps.size (datM lc) = C.length := by rw [size_datM]; exact HRC.out.length
  obtain ⟨np, hnp2⟩ : ∃ x, P.length = x := ⟨_, rfl⟩
  obtain ⟨nc, hnc2⟩ : ∃ x, C.length = x := ⟨_, rfl⟩
  rw [hnp2] at hnp hlp
  rw [hnc2] at hnc hlc
  have HNP := Lib.hid hnp
  have HNC := Lib.hid hnc
  have HLP := Lib.hid hlp
  have HLC := Lib.hid hlc
  clear hb1 hk1 hW2 hb2 hk2 hr2 hB2 hg hgw hgl hnp hnc hlp hlc hnp2 hnc2
  go_wp2_with (first
    | (at_range; refine wpList_range_own _ rfl _ 105 rfl 3 108 keyedI Try.underlying105 _ pp lp.length _ rfl HMr.out.own ?_; intro w0 hrg0 hg0 hs0)
    | fail)
  go_frame
  obtain ⟨r, hr0⟩ : ∃ r, W2.heap.size = r := ⟨_, rfl⟩
  have hW0 : Below W2.heap.size W2 w0 := ((Only.refl (F := fun k => W2.heap.size ≤ k) W2).grown hg0 (fun k e _ => by cases e)).toBelow (Nat.le_refl _) (fun _ h => h)
  have HG0 : Hid (Blk w0 g 35 [.int .i64 vw, .int .i64 0, .int .i64 0]) := HK2.out.below hW0 HGL.out
  have HRS0 : Hid (Blk w0 w.heap.size 35 [.int .i64 0, .int .i64 0, .int .i64 0]) := HR2.out.below hW0 HR2.out.lt
  have HB0 : Hid (Below w.heap.size w w0) := HB2.out.trans (hW0.mono HB2.out.size)
  have HRW : Hid (w.heap.size ≤ r ∧ g < r) := by rw [← hr0]; exact ⟨HB2.out.size, HGL.out⟩
  rw [hr0] at hrg0 ⊢
  have HRG0 := Lib.hid hrg0
  clear hr0 hg0 hs0 hrg0 hW0 HMr HK2 HR2 HB2 HGL
  go_loopw [5] (fun _ wr => ∃ (left : Lit → Bool) (cnt : Nat) (ss : List Int) (k : Nat), k + cnt ≤ np ∧ Hid (k = ss.countP (saidK P me)) ∧ Hid (wr.ranges Try.prog 3 raw pp r lp.length (datM lp) left cnt) ∧ Hid (CollectedI (datM lp) left ss) ∧ Hid (Blk wr g 35 [.int .i64 vw, .int .i64 (k : Int), .int .i64 0]) ∧ Hid (Blk wr w.heap.size 35 [.int .i64 0, .int .i64 0, .int .i64 0]) ∧ Hid (Below w.heap.size w wr)) (fun _ wr => wr.rangeLeft pp r)
  case atStart => exact ⟨_, _, [], 0, by rw [HNP.out]; omega, rfl, HRG0.out, CollectedI.start _, HG0.out, HRS0.out, HB0.out⟩
  case round =>
    rename World => wr
    obtain ⟨left, cnt, ss, k, hkn, HCC, HRG, HCO, HG, HRS, HB⟩ := hrel
    clear HRG0 HG0 HRS0 HB0
    go_wp2_with (first
      | (at_next; refine wpList_next_ranges _ rfl _ rfl 3 keyedI raw (Value.int .i64) id (fun key kl hk => by obtain ⟨x, hx, _⟩ := Maps.keyOf_i64 Try.underlying3 hk; exact ⟨x, hx⟩) (fun v _ _ => ⟨v, rfl⟩) pp r lp.length _ _ _ rfl HRG.out ?_ ?_)
      | fail)
    · intro hc0 hl0
      have hkP : k = P.countP (fun p => (lookM p.2 me).isSome) := by
        have hp := HCO.out.perm HMP.out.own keyedI Try.underlying3 hl0
        rw [intKeys_datM, HRP.out.keys] at hp
        rw [HCC.out, countP_said HSP.out.1 me hp]
      obtain ⟨kP, hkk⟩ : ∃ x, k = x := ⟨_, rfl⟩
      rw [hkk] at hkP HG
      have HKP := Lib.hid hkP
      have HLEP : Hid (kP ≤ 10000000000) := hkk ▸ (Nat.le_trans (Nat.le_trans (Nat.le_add_right _ _) hkn) HLP.out)
      clear hkP hkk hc0 hl0 HCC HRG HCO hkn
      have HK2 := HG
      have HR2 := HRS
      have HB2 := HB
      have HGL : Hid (g < wr.heap.size) := HG.out.lt
      have HMr : Hid (MapAt Try.prog 3 wr cm lc) := HMC.out.below HB.out HMC.out.lt
      clear HG HRS HB HRW
      have d9 := cell_moved e9 HB2.out
      go_wp2_with (first
        | (at_range; refine wpList_range_own _ rfl _ 105 rfl 3 108 keyedI Try.underlying105 _ cm lc.length _ rfl HMr.out.own ?_; intro w0 hrg0 hg0 hs0)
        | fail)
      go_frame
      obtain ⟨r, hr0⟩ : ∃ r, wr.heap.size = r := ⟨_, rfl⟩
      have hW0 : Below wr.heap.size wr w0 := ((Only.refl (F := fun k => wr.heap.size ≤ k) wr).grown hg0 (fun k e _ => by cases e)).toBelow (Nat.le_refl _) (fun _ h => h)
      have HG0 : Hid (Blk w0 g 35 [.int .i64 vw, .int .i64 (kP : Int), .int .i64 0]) := HK2.out.below hW0 HGL.out
      have HRS0 : Hid (Blk w0 w.heap.size 35 [.int .i64 0, .int .i64 0, .int .i64 0]) := HR2.out.below hW0 HR2.out.lt
      have HB0 : Hid (Below w.heap.size w w0) := HB2.out.trans (hW0.mono HB2.out.size)
      have HRW : Hid (w.heap.size ≤ r ∧ g < r) := by rw [← hr0]; exact ⟨HB2.out.size, HGL.out⟩
      rw [hr0] at hrg0 ⊢
      have HRG0 := Lib.hid hrg0
      clear hr0 hg0 hs0 hrg0 hW0 HMr HK2 HR2 HB2 HGL
      go_loopw [9] (fun _ wr => ∃ (left : Lit → Bool) (cnt : Nat) (ss : List Int) (k : Nat), k + cnt ≤ nc ∧ Hid (k = ss.countP (saidK C me)) ∧ Hid (wr.ranges Try.prog 3 raw cm r lc.length (datM lc) left cnt) ∧ Hid (CollectedI (datM lc) left ss) ∧ Hid (Blk wr g 35 [.int .i64 vw, .int .i64 (kP : Int), .int .i64 (k : Int)]) ∧ Hid (Blk wr w.heap.size 35 [.int .i64 0, .int .i64 0, .int .i64 0]) ∧ Hid (Below w.heap.size w wr)) (fun _ wr => wr.rangeLeft cm r)
      case atStart => exact ⟨_, _, [], 0, by rw [HNC.out]; omega, rfl, HRG0.out, CollectedI.start _, HG0.out, HRS0.out, HB0.out⟩
      case round =>
        rename World => wq
        obtain ⟨left, cnt, ss, k, hkn, HCC, HRG, HCO, HG, HRS, HB⟩ := hrel
        clear HRG0 HG0 HRS0 HB0
        go_wp2_with (first
          | (at_next; refine wpList_next_ranges _ rfl _ rfl 3 keyedI raw (Value.int .i64) id (fun key kl hk => by obtain ⟨x, hx, _⟩ := Maps.keyOf_i64 Try.underlying3 hk; exact ⟨x, hx⟩) (fun v _ _ => ⟨v, rfl⟩) cm r lc.length _ _ _ rfl HRG.out ?_ ?_)
          | fail)
        · intro hc0 hl0
          have hkC : k = C.countP (fun p => (lookM p.2 me).isSome) := by
            have hp := HCO.out.perm HMC.out.own keyedI Try.underlying3 hl0
            rw [intKeys_datM, HRC.out.keys] at hp
            rw [HCC.out, countP_said HSC.out.1 me hp]
          obtain ⟨kC, hkk⟩ : ∃ x, k = x := ⟨_, rfl⟩
          rw [hkk] at hkC HG
          have HKC := Lib.hid hkC
          have HLEC : Hid (kC ≤ 10000000000) := hkk ▸ (Nat.le_trans (Nat.le_trans (Nat.le_add_right _ _) hkn) HLC.out)
          clear hkC hkk hc0 hl0 HCC HRG HCO hkn
          have f0 := HG.out.cell 0
          have f1 := HG.out.cell 1
          have f2 := HG.out.cell 2
          have z0 := HRS.out.frozen 0
          have z1 := HRS.out.frozen 1
          have z2 := HRS.out.frozen 2
          have q0 := HRS.out.cell 0
          have q1 := HRS.out.cell 1
          have q2 := HRS.out.cell 2
          simp only [List.getElem?_cons_succ, List.getElem?_cons_zero] at f0 f1 f2 q0 q1 q2
          go_wp2_with fail
          obtain ⟨WF, hWF⟩ : ∃ x, ((wq.setCell ⟨w.heap.size, 0, none⟩ (.int .i64 vw)).setCell ⟨w.heap.size, 1, none⟩ (.int .i64 (kP : Int))).setCell ⟨w.heap.size, 2, none⟩ (.int .i64 (kC : Int)) = x := ⟨_, rfl⟩
          have hkF : Blk WF w.heap.size 35 [.int .i64 vw, .int .i64 (kP : Int), .int .i64 (kC : Int)] := hWF ▸ (((HRS.out.set 0 (.int .i64 vw)).set 1 (.int .i64 (kP : Int))).set 2 (.int .i64 (kC : Int)))
          have hbF : Below w.heap.size w WF := hWF ▸ (((HB.out.setCell (p := ⟨w.heap.size, 0, none⟩) (Nat.le_refl _) _).setCell (p := ⟨w.heap.size, 1, none⟩) (Nat.le_refl _) _).setCell (p := ⟨w.heap.size, 2, none⟩) (Nat.le_refl _) _)
          rw [hWF]
          clear hWF
          rw [← HKP.out, ← HKC.out]
          try simp only [Exit.inBlock, Exit.then]
          refine bodyPost_ret (results_cell_row rfl _ _ w.heap.size 35 _ (0, 0) _ rfl hkF Try.underlying35 rfl (by kernel_rfl)) rfl ?_
          exact ⟨rfl, hbF⟩
  
        · intro x2 c2 kl2 yd yp w3 cnt3 hkey hlk2 hv hat hrg3 hlt3 hg3 hs3 hen
          obtain ⟨x2', ex, rfl, hwf2⟩ := Maps.keyOf_i64 Try.underlying3 hkey
          obtain rfl : x2 = x2' := encZ_inj ex
          simp only [raw, Option.some.injEq, id, Prod.mk.injEq] at hv
          obtain ⟨rfl, rfl⟩ := hv
          have hat2 := hat (.lit (.bool true))
          rw [datM_atKey] at hat2
          have hlx2 : lookM lc x2 = some c2 := by
            cases hl : lookM lc x2 with
            | none => rw [hl] at hat2; simp at hat2
            | some v => rw [hl] at hat2; simp at hat2; rw [hat2]
          have HCO2 := Lib.hid (HCO.out.step hlk2 hat)
          have hB3 : Below w.heap.size w w3 := HB.out.grown hg3 HB.out.size (fun q e => by cases e; exact HRW.out.1)
          have hG3 : Blk w3 g 35 [.int .i64 vw, .int .i64 (kP : Int), .int .i64 (k : Int)] := HG.out.same (hg3.block g HG.out.lt (fun e => by have := HRW.out.2; injection e with e; omega))
          have hR3 : Blk w3 w.heap.size 35 [.int .i64 0, .int .i64 0, .int .i64 0] := HRS.out.same (hg3.block _ HRS.out.lt (fun e => by have := HRW.out.2; have := HGW.out; injection e with e; omega))
          obtain ⟨ev, bb, hrun, hbb⟩ := view_elem HT.out hB3 HRC.out hlx2 HWF.out
          have d1 := cell_moved e1 hB3
          have g1 := hG3.cell 2
          simp only [List.getElem?_cons_succ, List.getElem?_cons_zero] at g1
          have HBB := Lib.hid hbb
          have HB3 := Lib.hid hB3
          have HG3 := Lib.hid hG3
          have HR3 := Lib.hid hR3
          have HRG3 := Lib.hid hrg3
          have HRGL : Hid (w3.rangeLeft cm r < wq.rangeLeft cm r) := by rw [hrg3.left_eq, HRG.out.left_eq]; exact hlt3
          have hz : IntKind.i64.wrap ((k : Int) + 1) = (k : Int) + 1 := by rw [IntKind.wrap_i64]; have := HLC.out; omega
          have hfz : w3.frozen? ⟨g, 2, none⟩ = false := hG3.frozen 2
          have hen2 : (Instr.entry (.pointer (some ⟨r, 0, none⟩))).run Try.prog w3 = .ok (.tuple #[.int .i64 x2, c2]) w3 := hen
          have HLT := Lib.hid hlt3
          clear hat hat2 hlx2 hen hlt3 hkey hlk2 hwf2 ex hB3 hG3 hR3 hg3 hs3 hrg3 hbb
          cases bb
          · go_wp2_with fail
            go_roundw
            case rel => exact ⟨_, cnt3, ss ++ [x2], k, by have := HLT.out; omega, by show _ = _; rw [List.countP_append, HCC.out]; simp [HBB.out], HRG3.out, HCO2.out, HG3.out, HR3.out, HB3.out⟩
            case measure => exact HRGL.out
          · have HX := Lib.hid (HRG3.out.kept (grown_setCell w3 ⟨g, 2, none⟩ (.int .i64 ((k : Int) + 1))) (fun e => by have e : cm = g := Option.some.inj e; have := HMC.out.lt; have := HGW.out; omega) (fun e => by have e : r = g := Option.some.inj e; have := HRW.out.2; omega))
            go_wp2_with fail
            go_roundw
            case rel => exact ⟨_, cnt3, ss ++ [x2], k + 1, by have := HLT.out; omega, by show _ = _; rw [List.countP_append, HCC.out]; simp [HBB.out], HX.out, HCO2.out, by push_cast; exact HG3.out.set 2 _, HR3.out.other _ _ (by have := HGW.out; show w.heap.size ≠ g; omega), HB3.out.setCell (by have := HGW.out; show w.heap.size ≤ g; omega) _⟩
            case measure => rw [HX.out.left_eq, HRG.out.left_eq]; exact HLT.out

    · intro x2 c2 kl2 yd yp w3 cnt3 hkey hlk2 hv hat hrg3 hlt3 hg3 hs3 hen
      obtain ⟨x2', ex, rfl, hwf2⟩ := Maps.keyOf_i64 Try.underlying3 hkey
      obtain rfl : x2 = x2' := encZ_inj ex
      simp only [raw, Option.some.injEq, id, Prod.mk.injEq] at hv
      obtain ⟨rfl, rfl⟩ := hv
      have hat2 := hat (.lit (.bool true))
      rw [datM_atKey] at hat2
      have hlx2 : lookM lp x2 = some c2 := by
        cases hl : lookM lp x2 with
        | none => rw [hl] at hat2; simp at hat2
        | some v => rw [hl] at hat2; simp at hat2; rw [hat2]
      have HCO2 := Lib.hid (HCO.out.step hlk2 hat)
      have hB3 : Below w.heap.size w w3 := HB.out.grown hg3 HB.out.size (fun q e => by cases e; exact HRW.out.1)
      have hG3 : Blk w3 g 35 [.int .i64 vw, .int .i64 (k : Int), .int .i64 0] := HG.out.same (hg3.block g HG.out.lt (fun e => by have := HRW.out.2; injection e with e; omega))
      have hR3 : Blk w3 w.heap.size 35 [.int .i64 0, .int .i64 0, .int .i64 0] := HRS.out.same (hg3.block _ HRS.out.lt (fun e => by have := HRW.out.2; have := HGW.out; injection e with e; omega))
      obtain ⟨ev, bb, hrun, hbb⟩ := view_elem HT.out hB3 HRP.out hlx2 HWF.out
      have d1 := cell_moved e1 hB3
      have g1 := hG3.cell 1
      simp only [List.getElem?_cons_succ, List.getElem?_cons_zero] at g1
      have HBB := Lib.hid hbb
      have HB3 := Lib.hid hB3
      have HG3 := Lib.hid hG3
      have HR3 := Lib.hid hR3
      have HRG3 := Lib.hid hrg3
      have HRGL : Hid (w3.rangeLeft pp r < wr.rangeLeft pp r) := by rw [hrg3.left_eq, HRG.out.left_eq]; exact hlt3
      have hz : IntKind.i64.wrap ((k : Int) + 1) = (k : Int) + 1 := by rw [IntKind.wrap_i64]; have := HLP.out; omega
      have hfz : w3.frozen? ⟨g, 1, none⟩ = false := hG3.frozen 1
      have hen2 : (Instr.entry (.pointer (some ⟨r, 0, none⟩))).run Try.prog w3 = .ok (.tuple #[.int .i64 x2, c2]) w3 := hen
      have HLT := Lib.hid hlt3
      clear hat hat2 hlx2 hen hlt3 hkey hlk2 hwf2 ex hB3 hG3 hR3 hg3 hs3 hrg3 hbb
      cases bb
      · go_wp2_with fail
        go_roundw
        case rel => exact ⟨_, cnt3, ss ++ [x2], k, by have := HLT.out; omega, by show _ = _; rw [List.countP_append, HCC.out]; simp [HBB.out], HRG3.out, HCO2.out, HG3.out, HR3.out, HB3.out⟩
        case measure => exact HRGL.out
      · have HX := Lib.hid (HRG3.out.kept (grown_setCell w3 ⟨g, 1, none⟩ (.int .i64 ((k : Int) + 1))) (fun e => by have e : pp = g := Option.some.inj e; have := HMP.out.lt; have := HGW.out; omega) (fun e => by have e : r = g := Option.some.inj e; have := HRW.out.2; omega))
        go_wp2_with fail
        go_roundw
        case rel => exact ⟨_, cnt3, ss ++ [x2], k + 1, by have := HLT.out; omega, by show _ = _; rw [List.countP_append, HCC.out]; simp [HBB.out], HX.out, HCO2.out, by push_cast; exact HG3.out.set 1 _, HR3.out.other _ _ (by have := HGW.out; show w.heap.size ≠ g; omega), HB3.out.setCell (by have := HGW.out; show w.heap.size ≤ g; omega) _⟩
        case measure => rw [HX.out.left_eq, HRG.out.left_eq]; exact HLT.out

set_option maxRecDepth 100000 in
set_option maxHeartbeats 8000000 in
theorem grown_nil (w : World) : Calls Try.prog 17 #[.pointer none] w fun e w' => e = .returned (.agg #[.int .i64 0, .int .i64 0, .int .i64 0]) ∧ Below w.heap.size w w' := by
  go_enter Try.func17, Try.ntmps17
  go_upto_region 1 with (fail)
  obtain ⟨W1, hW1⟩ : ∃ W1, w.alloc (.cells #[.int .i64 0, .int .i64 0, .int .i64 0] 35) = W1 := ⟨_, rfl⟩
  have hb1 : Below w.heap.size w W1 := hW1 ▸ (Below.refl _ w).alloc (Nat.le_refl _) _
  have hk1 : Blk W1 w.heap.size 35 [.int .i64 0, .int .i64 0, .int .i64 0] := hW1 ▸ Blk.new w _ _
  rw [hW1]
  clear hW1
  have z0 := hk1.frozen 0
  have z1 := hk1.frozen 1
  have z2 := hk1.frozen 2
  have q0 := hk1.cell 0
  have q1 := hk1.cell 1
  have q2 := hk1.cell 2
  simp only [List.getElem?_cons_succ, List.getElem?_cons_zero] at q0 q1 q2
  have HB1 := Lib.hid hb1
  have HK1 := Lib.hid hk1
  clear hb1 hk1
  go_wp2_with fail
  obtain ⟨WF, hWF⟩ : ∃ x, ((W1.setCell ⟨w.heap.size, 0, none⟩ (.int .i64 0)).setCell ⟨w.heap.size, 1, none⟩ (.int .i64 0)).setCell ⟨w.heap.size, 2, none⟩ (.int .i64 0) = x := ⟨_, rfl⟩
  have hkF : Blk WF w.heap.size 35 [.int .i64 0, .int .i64 0, .int .i64 0] := hWF ▸ (((HK1.out.set 0 (.int .i64 0)).set 1 (.int .i64 0)).set 2 (.int .i64 0))
  have hbF : Below w.heap.size w WF := hWF ▸ (((HB1.out.setCell (p := ⟨w.heap.size, 0, none⟩) (Nat.le_refl _) _).setCell (p := ⟨w.heap.size, 1, none⟩) (Nat.le_refl _) _).setCell (p := ⟨w.heap.size, 2, none⟩) (Nat.le_refl _) _)
  rw [hWF]
  clear hWF
  try simp only [Exit.inBlock, Exit.then]
  refine bodyPost_ret (results_cell_row rfl _ _ w.heap.size 35 _ (0, 0) _ rfl hkF Try.underlying35 rfl (by kernel_rfl)) rfl ?_
  exact ⟨rfl, hbF⟩
end Go.Proofs.Ytilhdelijdkjpaa
