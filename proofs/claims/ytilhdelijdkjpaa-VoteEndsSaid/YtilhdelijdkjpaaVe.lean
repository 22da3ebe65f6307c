/-
  The law VoteEnds, walked.
-/
import Derived.Test.YtilhdelijdkjpaaSt
import Derived.Test.YtilhdelijdkjpaaAg
import Derived.Test.YtilhdelijdkjpaaLa
set_option linter.unusedVariables false
set_option linter.unusedSimpArgs false
namespace Go.Proofs.Ytilhdelijdkjpaa
open Go Go.RowKit Go.Maps Sac

set_option maxRecDepth 100000 in
set_option maxHeartbeats 4000000 in
theorem not_ib {w : World} {v : Value} {bs : Bs} (h : IB w v bs) : Calls Try.prog 15 #[v] w fun e w' => e = .returned (.bool (notV bs)) ∧ Below w.heap.size w w' := by
  obtain ⟨a, cap, rfl, h1, h2, h3, h4, h5⟩ := h
  cases bs with
  | nil =>
    go_enter Try.func15, Try.ntmps15
    go_wp2_with fail
    go_ret
    exact ⟨rfl, Below.refl _ _⟩
  | cons x l =>
    obtain ⟨ad, rfl, hc⟩ := h4 (by simp)
    have hc2 : w.cell? ad = some (.int .u8 (x : Int)) := hc 0 _ rfl
    obtain ⟨n, hn⟩ : ∃ n, l.length = n := ⟨_, rfl⟩
    have hlen : (x :: l).length = n + 1 := by rw [List.length_cons, hn]
    rw [hlen] at h1 ⊢
    have hx : ((x : Int) != 33) = (x != 33) := by rw [Bool.eq_iff_iff]; simp; omega
    obtain ⟨r, hr⟩ : ∃ r, (x != 33) = r := ⟨_, rfl⟩
    have hnv : notV (x :: l) = r := hr
    rw [hr] at hx
    rw [hnv]
    have e0 : decide (((n + 1 : Nat) : Int) = 0) = false := decide_eq_false (by omega)
    have e1 : (((n + 1 : Nat) : Int) == 0) = false := by simp; omega
    have e2 : (1 : Int) ≤ ((n + 1 : Nat) : Int) := by omega
    clear hc h3 h4 h5 hr hnv hlen hn
    go_enter Try.func15, Try.ntmps15
    go_wp2_with fail
    go_ret
    exact ⟨rfl, Below.refl _ _⟩

theorem StpsAt.moved {w wr : World} {a : Option Addr} {len cap : Nat} {F : Nat → StpP} (h : StpsAt w a len cap F) (hb : Below w.heap.size w wr) : StpsAt wr a len cap F :=
  ⟨h.1, h.2.1, h.2.2.1, fun ad e i hi => (h.2.2.2 ad e i hi).moved hb⟩
/-- What is kept among the right peers. -/
def GInv (n : Nat) (slot : Int) (wrong : List Bool) (k : Int) (l : List Core) : Prop := EInv n slot wrong k l ∧ ∀ c ∈ l, PvOk c
theorem GInv.kept (n : Nat) (slot : Int) (wrong : List Bool) (k : Int) : Kept n slot wrong (fun x => notV x = true) (GInv n slot wrong k) (GInv n slot wrong (k + 1)) (ETrue n slot wrong) where
  inv h := h.1.inv
  keep h := ⟨h.1.same (by omega), h.2⟩
  take h hi hv := ⟨⟨(h.1.take hi hv).1, mem_set_all h.2 (((h.1.inv.loc hi).keep_take _).pv (h.2 _ (List.mem_of_getElem? hi)))⟩, (h.1.take hi hv).2⟩
  late h hi := ⟨h.1.late hi, mem_set_all h.2 ((h.1.inv.loc hi).keep_late.pv (h.2 _ (List.mem_of_getElem? hi)))⟩
  wish hx h hi := ⟨h.1.wishes hi hx, mem_set_all h.2 (((h.1.inv.loc hi).keep_wish _).pv (h.2 _ (List.mem_of_getElem? hi)))⟩
  anew h hi := ⟨h.1.anew hi, mem_set_all h.2 (fun p hp => by cases hp)⟩
  says h hi _ hv := h.1.says hi hv
  wrongs h hw _ := absurd hw (h.1.nowrong _)
theorem late_view {n : Nat} {me slot : Int} {c : Core} (h : Loc n me slot c) (hd : c.decided = false) (hv : c.view < 1048576) : c.view + 1 ≤ (lateC notV c).view := by
  unfold lateC
  rw [if_pos ⟨hd, hv⟩]
  exact ((h.rise (v := c.view + 1) (by omega) (by omega)).keep_act (acc := notV)).view
/-- The first j have wishes; their views are at most m. -/
structure WInv (n : Nat) (slot : Int) (wrong : List Bool) (k : Int) (j : Nat) (m : Int) (l : List Core) : Prop where
  gi : GInv n slot wrong k l
  mi : 0 ≤ m ∧ m ≤ k
  wi : ∀ (i : Nat) (c : Core), i < j → l[i]? = some c → c.wishes = true ∧ c.view ≤ m
theorem WInv.next {n : Nat} {slot : Int} {wrong : List Bool} {k m : Int} {j : Nat} {l : List Core} (h : WInv n slot wrong k j m l) {c : Core} (hj : l[j]? = some c) {x : Bs} (hx : notV x = true) (hxl : x.length ≤ 4096) : WInv n slot wrong k (j + 1) (max m (wishC notV c x).view) (l.set j (wishC notV c x)) := by
  have hg := (GInv.kept n slot wrong k).wish hx h.gi hj
  have hl := h.gi.1.inv.loc hj
  have hm := h.mi
  have hjl := (List.getElem?_eq_some_iff.1 hj).1
  have hv := hg.1.view _ (List.mem_of_getElem? (List.getElem?_set_self hjl))
  refine ⟨hg, by omega, fun i d hi hd => ?_⟩
  by_cases e : j = i
  · subst e
    rw [List.getElem?_set_self hjl] at hd
    injection hd with hd
    rw [← hd]
    exact ⟨wish_wishes hl hxl, by omega⟩
  · rw [List.getElem?_set_ne e] at hd
    have := h.wi i d (by omega) hd
    exact ⟨this.1, by omega⟩
theorem WInv.last {n : Nat} {slot : Int} {wrong : List Bool} {k m : Int} {l : List Core} (h : WInv n slot wrong k n m l) : FInv n slot wrong m l := by
  have hall : ∀ c ∈ l, c.wishes = true ∧ c.view ≤ m := fun c hc => by
    obtain ⟨i, hi⟩ := List.mem_iff_getElem?.1 hc
    exact h.wi i c (h.gi.1.inv.lt hi) hi
  exact ⟨⟨h.gi.1.inv, h.gi.1.nowrong, h.gi.1.still, h.gi.1.wish, fun c hc => (hall c hc).2, h.gi.1.props, h.gi.1.seen⟩, h.gi.2, fun c hc => (hall c hc).1⟩
def roundK (n : Nat) : Nat → List Core → List Core
  | 0, l => l
  | r + 1, l => roundN (roundK n r l) n
theorem votesN_take (l : List Core) (vs : List Vt) {q : Nat} {v : Vt} (h : vs[q]? = some v) : votesN l (vs.take (q + 1)) = tellN (votesN l (vs.take q)) v l.length := by
  unfold votesN
  rw [List.take_add_one, h, List.foldl_append]
  show tellN (votesN l (vs.take q)) v (votesN l (vs.take q)).length = _
  rw [votesN_len]
  rfl
/-- The peers in memory, of whom the list is l. -/
def EAt (n : Nat) (g cap : Nat) (bl : List Nat) (wrong : List Bool) (w0 : World) (pb : Nat) (l : List Core) (wr : World) : Prop := ∃ col, PAt col w0 wr pb (.slice (some ⟨g, 0, none⟩) n cap) bl l wrong
theorem EAt.moved {n g cap pb : Nat} {bl : List Nat} {wrong : List Bool} {w0 wr wx : World} {l : List Core} (h : EAt n g cap bl wrong w0 pb l wr) (hb : Below wr.heap.size wr wx) : EAt n g cap bl wrong w0 pb l wx := by
  obtain ⟨col, h⟩ := h
  exact ⟨col, h.moved hb⟩
theorem EAt.len {n g cap pb : Nat} {bl : List Nat} {wrong : List Bool} {w0 wr : World} {l : List Core} (h : EAt n g cap bl wrong w0 pb l wr) : l.length = n := by
  obtain ⟨col, h⟩ := h
  obtain ⟨a, cap', e, _⟩ := h.peers.form
  injection e with _ e2 _
  exact e2.symm
/-- A core in them. -/
theorem EAt.core {n g cap pb : Nat} {bl : List Nat} {wrong : List Bool} {w0 wr : World} {l : List Core} (h : EAt n g cap bl wrong w0 pb l wr) {i : Nat} (hi : i < n) : ∃ (col : Colour) (b : Nat) (c : Core), PAt col w0 wr pb (.slice (some ⟨g, 0, none⟩) n cap) bl l wrong ∧ l[i]? = some c ∧ bl[i]? = some b ∧ wr.cell? ⟨g, i, none⟩ = some (ptr b) ∧ CoreAt notV col i wr b c ∧ CoreOk c := by
  have hlen := h.len
  obtain ⟨col, h⟩ := h
  obtain ⟨g', cap', b, c, hv, hgt, hbt, hct, hC, hok⟩ := h.peers.at_ (i := i) (by rw [hlen]; exact hi)
  injection hv with e1 e2 e3
  injection e1 with e1
  injection e1 with e1
  subst e1
  exact ⟨col, b, c, h, hct, hbt, hgt, hC, hok⟩
theorem EAt.c1 {n g cap pb : Nat} {bl : List Nat} {wrong : List Bool} {w0 wr : World} {l : List Core} (h : EAt n g cap bl wrong w0 pb l wr) : wr.cell? ⟨pb, 1, none⟩ = some (.slice (some ⟨g, 0, none⟩) n cap) := by
  obtain ⟨col, h⟩ := h
  obtain ⟨wb, hB1, _⟩ := h.pblk
  exact hB1.cell 1

/-- While a vote is told: the first ib have heard it. -/
def BSt (n g cap : Nat) (bl : List Nat) (wrong : List Bool) (w0 : World) (pb : Nat) (l : List Core) (v : Vt) (rv : Value) (vs : List Vt) (sl : Value) (X ib : Nat) (wx : World) : Prop := ∃ col, PAt col w0 wx pb (.slice (some ⟨g, 0, none⟩) n cap) bl (tellN l v ib) wrong ∧ Told col wx rv vs ∧ RB wx sl v.value ∧ Blk wx X 31 [.int .i64 v.kind, .int .i64 v.frm, .int .i64 v.slot, .int .i64 v.view, .int .i64 v.valid, sl] ∧ col X = none
theorem stage_all {V : Int} {t : Nat} {l : List Core} (ht : 2 ≤ t) (h : Stage V t l) : All1 l := by
  match t, ht, h with
  | t + 2, _, h => exact h
/-- Between the last views. -/
def VSt (n g cap : Nat) (bl : List Nat) (wrong : List Bool) (w0 : World) (pb : Nat) (slot : Int) (m t : Nat) (wx : World) : Prop := ∃ l, EAt n g cap bl wrong w0 pb l wx ∧ FInv n slot wrong ((m + t : Nat) : Int) l ∧ Stage ((m + t : Nat) : Int) t l
/-- A core on its way to a view. -/
def LSt (n g cap : Nat) (bl : List Nat) (wrong : List Bool) (w0 : World) (pb : Nat) (V : Int) (l : List Core) (q : Nat) (c : Core) (k : Nat) (wy : World) : Prop := EAt n g cap bl wrong w0 pb (l.set q (lateN k c)) wy ∧ ∀ j, j < k → (lateN j c).decided = false ∧ (lateN j c).view < V

set_option linter.all false in
set_option maxRecDepth 100000 in
set_option maxHeartbeats 16000000 in
theorem ends_walk (a0 a1 : Int) (a2 : Option Addr) (len2 cap2 : Nat) (F : Nat → StpP) (w : World) (h3 : StpsAt w a2 len2 cap2 F) :
    Calls Try.prog 7 #[.int .i64 a0, .int .i64 a1, .slice a2 len2 cap2] w fun e w' => e = .returned (.bool true) ∧ Below w.heap.size w w' := by
  obtain ⟨r0, hr0, hr0l⟩ := tmod_nat a0 (show 0 < 7 by omega)
  obtain ⟨r1, hr1, hr1l⟩ := tmod_nat a1 (show 0 < 257 by omega)
  have hr0 : (IntKind.u64.wrap a0).tmod 7 = (r0 : Int) := hr0
  have hr1 : (IntKind.u64.wrap a1).tmod 257 = (r1 : Int) := hr1
  obtain ⟨n0, hn0⟩ : ∃ n0 : Nat, 4 + r0 = n0 := ⟨_, rfl⟩
  have hn4 : 4 ≤ n0 ∧ n0 ≤ 10 := by omega
  have x1 : IntKind.u64.wrap (r0 : Int) = (r0 : Int) := by rw [IntKind.wrap_u64]; omega
  have x2 : IntKind.i64.wrap (r0 : Int) = (r0 : Int) := by rw [IntKind.wrap_i64]; omega
  have x3 : IntKind.i64.wrap (4 + (r0 : Int)) = (n0 : Int) := by rw [IntKind.wrap_i64]; omega
  have x4 : IntKind.u64.wrap (r1 : Int) = (r1 : Int) := by rw [IntKind.wrap_u64]; omega
  have x5 : IntKind.i64.wrap (r1 : Int) = (r1 : Int) := by rw [IntKind.wrap_i64]; omega
  have H3 := Lib.hid h3
  clear h3 hn0
  have hlv := Lib.hid (lives_any w)
  go_enter Try.func7, Try.ntmps7
  go_wp2_with fail
  refine hlv.out.mono ?_
  rintro e wA ⟨rfl, hbA⟩
  have HBA := Lib.hid hbA
  have HFS := Lib.hid (fewSteps_any a2 len2 cap2 F wA (H3.out.moved hbA))
  clear hbA
  go_wp2_with fail
  refine HFS.out.mono ?_
  rintro e wB ⟨r, rfl, hbB, hfew⟩
  have HBB := Lib.hid (HBA.out.trans (hbB.mono HBA.out.size))
  have HLB := Lib.hid (lives_any wB)
  clear hbB
  have hend : ∀ wC, Below wB.heap.size wB wC → Below w.heap.size w wC := fun wC h => HBB.out.trans (h.mono HBB.out.size)
  have HEND := Lib.hid hend
  clear hend
  cases r with
  | false =>
    go_wp2_with fail
    refine HLB.out.mono ?_
    rintro e wC ⟨rfl, hbC⟩
    have HC := Lib.hid (HEND.out wC hbC)
    clear hbC
    go_wp2_with fail
    go_ret
    exact ⟨rfl, HC.out⟩
  | true =>
    have HBG := Lib.hid (begin_any n0 (r1 : Int) none 0 0 [] wB hn4 (by omega) (by omega) (.inl ⟨rfl, rfl, rfl, rfl⟩))
    have hl3 : len2 ≤ 250 := (hfew rfl).1
    clear hfew
    go_wp2_with fail
    refine HBG.out.mono ?_
    rintro e wC ⟨pb, rfl, col, v, bl, wrong, hwl, ⟨_, hwc⟩, hP⟩
    have hpp : ptr pb = .pointer (some ⟨pb, 0, none⟩) := rfl
    rw [hpp]
    clear hpp
    have HAL : Hid (∃ col v bl l, PAt col wB wC pb v bl l wrong ∧ GInv n0 (r1 : Int) wrong (0 : Nat) l) := ⟨col, v, bl, _, hP, EInv.start (by omega) (by omega) hwl (by omega), fun c hc => by
      obtain ⟨i, _, rfl⟩ := List.mem_map.1 hc
      exact fun p hp => by cases hp⟩
    clear hP hwl hwc
    go_wp2_with fail
    go_loopw [50] (fun u wr => ∃ i : Nat, i ≤ len2 ∧ u = .int .i64 (i : Int) ∧ Hid (∃ col v bl l, PAt col wB wr pb v bl l wrong ∧ GInv n0 (r1 : Int) wrong (i : Int) l)) (fun u _ => len2 - (vint u).toNat)
    case atStart => exact ⟨0, Nat.zero_le _, rfl, HAL⟩
    case round =>
      obtain ⟨i, hi, rfl, HB⟩ := hrel
      rename World => wr
      clear HAL
      by_cases hlt : (i : Int) < (len2 : Int)
      · have hz1 : IntKind.i64.wrap ((i : Int) + 1) = (i : Int) + 1 := by rw [IntKind.wrap_i64]; omega
        obtain ⟨col, v, bl, l, hP, hL⟩ := HB.out
        obtain ⟨ad, rfl⟩ : ∃ ad, a2 = some ad := by
          cases a2 with
          | none => have := H3.out.2.2.1 rfl; omega
          | some ad => exact ⟨ad, rfl⟩
        have hat := (H3.out.2.2.2 ad rfl i (by omega)).moved (HEND.out wr hP.fresh.below)
        obtain ⟨⟨kd, sf, st, sn, ⟨vk, vfr, vsl, vvw, vvd, vval⟩, sval⟩, hs⟩ : ∃ s, F i = s := ⟨_, rfl⟩
        rw [hs] at hat
        clear hs
        have hwv := hat.wfv
        obtain ⟨vs, ss, ⟨c0, c1, c2, c3, c4, c5, c6, c7, c8, c9, c10⟩, hvs, hss⟩ := hat.cells
        obtain ⟨va, vl, vc, rfl⟩ := IB.form hvs
        obtain ⟨sa, sl, sc, rfl⟩ := IB.form hss
        dsimp only at c0 c1 c2 c3 c4 c5 c6 c7 c8 c9 c10 hvs hss hwv
        have HP := Lib.hid hP
        have HL := Lib.hid hL
        have HVS := Lib.hid hvs
        have HSS := Lib.hid hss
        have HWV := Lib.hid hwv
        clear hat hwv hvs hss hP hL HB
        go_upto_region 9 with (fail)
        obtain ⟨W2, hW2⟩ : ∃ W2, wr.alloc (.cells #[.int .i64 kd, .int .i64 sf, .int .i64 st, .int .i64 sn, .int .i64 vk, .int .i64 vfr, .int .i64 vsl, .int .i64 vvw, .int .i64 vvd, .slice va vl vc, .slice sa sl sc] 57) = W2 := ⟨_, rfl⟩
        have hbV : Below wr.heap.size wr W2 := hW2 ▸ (Below.refl _ wr).alloc (Nat.le_refl _) _
        have hkV : Blk W2 wr.heap.size 57 [.int .i64 kd, .int .i64 sf, .int .i64 st, .int .i64 sn, .int .i64 vk, .int .i64 vfr, .int .i64 vsl, .int .i64 vvw, .int .i64 vvd, .slice va vl vc, .slice sa sl sc] := hW2 ▸ Blk.new wr _ _
        obtain ⟨G, hG⟩ : ∃ G, wr.heap.size = G := ⟨_, rfl⟩
        rw [hW2, hG]
        rw [hG] at hkV
        have HP2 := Lib.hid (HP.out.moved hbV)
        have HVS2 := Lib.hid (HVS.out.below hbV)
        have HSS2 := Lib.hid (HSS.out.below hbV)
        have HKV := Lib.hid hkV
        have b0 := hkV.cell 0
        have b1 := hkV.cell 1
        have b2 := hkV.cell 2
        have b3 := hkV.cell 3
        have b4 := hkV.cell 4
        have b5 := hkV.cell 5
        have b6 := hkV.cell 6
        have b7 := hkV.cell 7
        have b8 := hkV.cell 8
        have b9 := hkV.cell 9
        have b10 := hkV.cell 10
        simp only [List.getElem?_cons_succ, List.getElem?_cons_zero] at b0 b1 b2 b3 b4 b5 b6 b7 b8 b9 b10
        clear hW2 hG hbV hkV c0 c1 c2 c3 c4 c5 c6 c7 c8 c9 c10 HVS HSS HP
        by_cases k4 : kd = 4
        · subst k4
          have HNO := Lib.hid (not_ib HSS2.out)
          obtain ⟨nv, hnv⟩ : ∃ x, notV sval = x := ⟨_, rfl⟩
          rw [hnv] at HNO
          have HNV := Lib.hid hnv
          clear hnv
          go_wp2_with fail
          refine HNO.out.mono ?_
          rintro e W3 ⟨rfl, hb3⟩
          cases nv with
          | false =>
            have HX : Hid (∃ col v bl l, PAt col wB W3 pb v bl l wrong ∧ GInv n0 (r1 : Int) wrong ((i + 1 : Nat) : Int) l) := ⟨col, v, bl, l, HP2.out.moved hb3, HL.out.1.same (by push_cast; omega), HL.out.2⟩
            clear hb3
            go_wp2_with fail
            go_roundw
            case rel => exact ⟨i + 1, by omega, by push_cast; rfl, HX⟩
            case measure => simp [vint]; omega
          | true =>
            have HSP := Lib.hid (step_any n0 (r1 : Int) ⟨4, sf, st, sn, ⟨vk, vfr, vsl, vvw, vvd, vval⟩, sval⟩ (.slice va vl vc) (.slice sa sl sc) hn4 (by omega) (GInv.kept n0 (r1 : Int) wrong (i : Int)) (HP2.out.moved hb3) HL.out (fun _ => HNV.out) (HVS2.out.below hb3) (HSS2.out.below hb3) ⟨HWV.out.1, HWV.out.2.2.2.1, HWV.out.2.2.2.2⟩)
            have b0 := cell_moved b0 hb3
            have b1 := cell_moved b1 hb3
            have b2 := cell_moved b2 hb3
            have b3 := cell_moved b3 hb3
            have b4 := cell_moved b4 hb3
            have b5 := cell_moved b5 hb3
            have b6 := cell_moved b6 hb3
            have b7 := cell_moved b7 hb3
            have b8 := cell_moved b8 hb3
            have b9 := cell_moved b9 hb3
            have b10 := cell_moved b10 hb3
            clear hb3 HVS2 HSS2 HP2 HKV
            go_wp2_with fail
            refine HSP.out.mono ?_
            rintro e w2 ⟨rfl, col2, v2, bl2, l2, hP2, hL2, _⟩
            have HX : Hid (∃ col v bl l, PAt col wB w2 pb v bl l wrong ∧ GInv n0 (r1 : Int) wrong ((i + 1 : Nat) : Int) l) := ⟨col2, v2, bl2, l2, hP2, by push_cast; exact hL2⟩
            clear hP2 hL2
            go_wp2_with fail
            go_roundw
            case rel => exact ⟨i + 1, by omega, by push_cast; rfl, HX⟩
            case measure => simp [vint]; omega
        · have k4b : (kd == 4) = false := by simp; omega
          have HSP := Lib.hid (step_any n0 (r1 : Int) ⟨kd, sf, st, sn, ⟨vk, vfr, vsl, vvw, vvd, vval⟩, sval⟩ (.slice va vl vc) (.slice sa sl sc) hn4 (by omega) (GInv.kept n0 (r1 : Int) wrong (i : Int)) HP2.out HL.out (fun e => absurd e k4) HVS2.out HSS2.out ⟨HWV.out.1, HWV.out.2.2.2.1, HWV.out.2.2.2.2⟩)
          clear HVS2 HSS2 HP2 HKV
          go_wp2_with fail
          refine HSP.out.mono ?_
          rintro e w2 ⟨rfl, col2, v2, bl2, l2, hP2, hL2, _⟩
          have HX : Hid (∃ col v bl l, PAt col wB w2 pb v bl l wrong ∧ GInv n0 (r1 : Int) wrong ((i + 1 : Nat) : Int) l) := ⟨col2, v2, bl2, l2, hP2, by push_cast; exact hL2⟩
          clear hP2 hL2
          go_wp2_with fail
          go_roundw
          case rel => exact ⟨i + 1, by omega, by push_cast; rfl, HX⟩
          case measure => simp [vint]; omega
      · obtain rfl : i = len2 := by omega
        obtain ⟨col, v, bl, l, hP, hL⟩ := HB.out
        obtain ⟨g, cap, hv2⟩ : ∃ g cap, v = .slice (some ⟨g, 0, none⟩) n0 cap := by
          obtain ⟨g, cap, _, _, e, _⟩ := hP.peers.at_ (i := 0) (by rw [hL.1.inv.len]; omega)
          exact ⟨g, cap, by rw [e, hL.1.inv.len]⟩
        subst hv2
        have HE : Hid (∃ l, EAt n0 g cap bl wrong wB pb l wr ∧ WInv n0 (r1 : Int) wrong (i : Int) 0 0 l) := ⟨l, ⟨col, hP⟩, hL, by omega, fun i c hi => absurd hi (Nat.not_lt_zero _)⟩
        have c1 := EAt.c1 ⟨col, hP⟩
        clear hP hL HB
        go_wp2_with fail
        go_loopw [10, 74] (fun t10 u wx => ∃ (j m : Nat), j ≤ n0 ∧ m ≤ i ∧ u = .int .i64 (j : Int) ∧ t10 = .int .i64 (m : Int) ∧ Hid (∃ l, EAt n0 g cap bl wrong wB pb l wx ∧ WInv n0 (r1 : Int) wrong (i : Int) j (m : Int) l)) (fun _ u _ => n0 - (vint u).toNat)
        case atStart => exact ⟨0, 0, Nat.zero_le _, Nat.zero_le _, rfl, rfl, HE⟩
        case round =>
          obtain ⟨j, m, hj, hm, rfl, rfl, HJ⟩ := hrel
          rename World => wj
          clear HE c1
          by_cases hltj : (j : Int) < (n0 : Int)
          · have hzj : IntKind.i64.wrap ((j : Int) + 1) = (j : Int) + 1 := by rw [IntKind.wrap_i64]; omega
            have x8 : IntKind.u8.wrap (j : Int) = (j : Int) := by rw [IntKind.wrap_u8]; omega
            obtain ⟨l, hE, hW⟩ := HJ.out
            obtain ⟨col, b, c, hP, hct, hbt, hgt, hCt, hok⟩ := hE.core (i := j) (by omega)
            have hbV : Below wj.heap.size wj (wj.alloc (.cells #[.int .u8 119, .int .u8 (j : Int)] 5)) := (Below.refl _ wj).alloc (Nat.le_refl _) _
            have hkV : Blk (wj.alloc (.cells #[.int .u8 119, .int .u8 (j : Int)] 5)) wj.heap.size 5 [.int .u8 119, .int .u8 (j : Int)] := Blk.new wj [.int .u8 119, .int .u8 (j : Int)] _
            have hrb : RB (wj.alloc (.cells #[.int .u8 119, .int .u8 (j : Int)] 5)) (.slice (some ⟨wj.heap.size, 0, none⟩) 2 2) [119, j] :=
              ⟨_, 2, rfl, by show 2 ≤ 2; omega, by decide, (fun e => by cases e), Blk.rd (rest := []) hkV, fun x hx => by
                rcases List.mem_cons.1 hx with rfl | hx
                · decide
                · rw [List.mem_singleton.1 hx]; omega⟩
            have HWI := Lib.hid (wish_any (.slice (some ⟨wj.heap.size, 0, none⟩) 2 2) [119, j] (hP.peers.tint.below hbV) (hCt.below hP.peers.tint hbV) hok hrb.ib)
            have HP := Lib.hid (hP.moved hbV)
            have HW := Lib.hid hW
            have HCT := Lib.hid hct
            have HBT := Lib.hid hbt
            clear hP hct hbt hCt hok hbV hkV hrb hE hW HJ
            go_wp2_with fail
            refine HWI.out.mono ?_
            rintro e w2 ⟨⟨ev, rfl⟩, hok2, col2, hE2, hC2⟩
            have HVI := Lib.hid (view_any hC2)
            have hvk := (HW.out.next HCT.out (x := [119, j]) rfl (by show 2 ≤ 4096; omega))
            obtain ⟨q, hq⟩ : ∃ q : Nat, (wishC notV c [119, j]).view = (q : Int) := ⟨(wishC notV c [119, j]).view.toNat, by have := hok2.inn.view; omega⟩
            have hmx : max (m : Int) (q : Int) = ((max m q : Nat) : Int) := by omega
            rw [hq, hmx] at hvk
            have hmq : max m q ≤ i := by have := hvk.mi.2; omega
            have HX : Hid (∃ l, EAt n0 g cap bl wrong wB pb l w2 ∧ WInv n0 (r1 : Int) wrong (i : Int) (j + 1) ((max m q : Nat) : Int) l) := ⟨_, ⟨col2, HP.out.step HCT.out HBT.out hE2 hC2 hok2⟩, hvk⟩
            rw [hq] at HVI
            clear hok2 hE2 hC2 hvk hq HP HW HCT HBT HWI
            go_wp2_with fail
            refine HVI.out.mono ?_
            rintro e w3 ⟨rfl, rfl⟩
            go_wp2_with fail
            exact ⟨⟨j + 1, max m q, by omega, hmq, by push_cast; rfl, rfl, HX⟩, by simp [vint]; omega⟩
          · obtain rfl : n0 = j := by omega
            obtain ⟨l, hE, hW⟩ := HJ.out
            have HF : Hid (FInv n0 (r1 : Int) wrong (m : Int) l) := hW.last
            have HE := Lib.hid hE
            clear hE hW HJ
            have HST : Hid (VSt n0 g cap bl wrong wB pb (r1 : Int) m 0 wj) := ⟨l, HE.out, by rw [Nat.add_zero]; exact HF.out, trivial⟩
            obtain ⟨m1, hm1⟩ : ∃ m1, m + 1 = m1 := ⟨_, rfl⟩
            have hw1 : IntKind.i64.wrap ((m : Int) + 1) = (m1 : Int) := by rw [IntKind.wrap_i64]; omega
            have HM1 := Lib.hid hm1
            clear hm1 HF HE
            go_wp2_with fail
            clear hw1
            go_loopw [13] (fun t13 wx => ∃ t vw : Nat, t ≤ n0 + 1 ∧ t13 = .int .i64 (vw : Int) ∧ Hid (vw = m + 1 + t) ∧ Hid (VSt n0 g cap bl wrong wB pb (r1 : Int) m t wx)) (fun t13 _ => m + n0 + 2 - (vint t13).toNat)
            case atStart => exact ⟨0, m1, Nat.zero_le _, rfl, HM1.out.symm, HST⟩
            case round =>
              obtain ⟨t, vw, ht, rfl, HVW, HS⟩ := hrel
              rename World => wv
              clear HST
              obtain ⟨mn, hmn⟩ : ∃ x, m + n0 = x := ⟨_, rfl⟩
              obtain ⟨me, hme⟩ : ∃ x, mn + 1 = x := ⟨_, rfl⟩
              have hw2 : IntKind.i64.wrap ((m : Int) + (n0 : Int)) = (mn : Int) := by rw [IntKind.wrap_i64]; omega
              have hw3 : IntKind.i64.wrap ((mn : Int) + 1) = (me : Int) := by rw [IntKind.wrap_i64]; omega
              have HMN := Lib.hid (And.intro hmn hme)
              clear hmn hme
              by_cases hle : (vw : Int) ≤ (me : Int)
              · have hle2 : t ≤ n0 := by have := HMN.out; have := HVW.out; omega
                obtain ⟨vx, hvx⟩ : ∃ x, vw + 1 = x := ⟨_, rfl⟩
                have hw4 : IntKind.i64.wrap ((vw : Int) + 1) = (vx : Int) := by rw [IntKind.wrap_i64]; have := HVW.out; omega
                have HVX := Lib.hid hvx
                clear hvx
                obtain ⟨l, hE, hF, hSt⟩ := HS.out
                have hc1 := hE.c1
                have HF := Lib.hid hF
                have HSt := Lib.hid hSt
                have HE0 : Hid (∃ l', EAt n0 g cap bl wrong wB pb l' wv ∧ GoSt (((m + t : Nat) : Int) + 1) l 0 l') := ⟨l, hE, GoSt.start _ l⟩
                clear hE hF hSt HS
                go_wp2_with fail
                clear hw2 hw3 hc1 hle
                go_loopw [104] (fun u wx => ∃ q : Nat, q ≤ n0 ∧ u = .int .i64 (q : Int) ∧ Hid (∃ l', EAt n0 g cap bl wrong wB pb l' wx ∧ GoSt (((m + t : Nat) : Int) + 1) l q l')) (fun u _ => n0 - (vint u).toNat)
                case atStart => exact ⟨0, Nat.zero_le _, rfl, HE0⟩
                case round =>
                  obtain ⟨q, hq, rfl, HQ⟩ := hrel
                  rename World => wq
                  clear HE0
                  by_cases hltq : (q : Int) < (n0 : Int)
                  · have hzq : IntKind.i64.wrap ((q : Int) + 1) = (q : Int) + 1 := by rw [IntKind.wrap_i64]; omega
                    obtain ⟨l', hE, hG⟩ := HQ.out
                    obtain ⟨col, b, c, hP, hct, hbt, hgt, hCt, hok⟩ := hE.core (i := q) (by omega)
                    have hc0 : l[q]? = some c := by
                      obtain ⟨c0, hc0⟩ := HF.out.at_ (a := q) (by omega)
                      rw [hc0, (hG.2 q c0 c hc0 hct).2 (Nat.le_refl _)]
                    have hP0 : PAt col wB wq pb (.slice (some ⟨g, 0, none⟩) n0 cap) bl (l'.set q (lateN 0 c)) wrong := by
                      show PAt col wB wq pb _ bl (l'.set q c) wrong
                      rw [set_same hct]; exact hP
                    have HL5 : Hid (LSt n0 g cap bl wrong wB pb (((m + t : Nat) : Int) + 1) l' q c 0 wq) := ⟨⟨col, hP0⟩, fun j hj => absurd hj (Nat.not_lt_zero _)⟩
                    have HC0 := Lib.hid hc0
                    have HG := Lib.hid hG
                    have HBT := Lib.hid hbt
                    have HCT := Lib.hid hct
                    clear hE hG hP hct hbt hCt hok hc0 hP0 HQ
                    go_wp2_with fail
                    clear hgt
                    go_loopw [17] (fun _ wy => ∃ k : Nat, Hid (LSt n0 g cap bl wrong wB pb (((m + t : Nat) : Int) + 1) l' q c k wy)) (fun _ wy => vw - (vint ((wy.cell? ⟨b, 4, none⟩).getD undef)).toNat)
                    case atStart => exact ⟨0, HL5⟩
                    case round =>
                      obtain ⟨k, HK⟩ := hrel
                      rename World => wy
                      clear HL5
                      obtain ⟨hE, hbefore⟩ := HK.out
                      obtain ⟨col, hP⟩ := hE
                      have hlq : q < l'.length := (List.getElem?_eq_some_iff.1 HCT.out).1
                      have hself : (l'.set q (lateN k c))[q]? = some (lateN k c) := List.getElem?_set_self hlq
                      have hC := hP.peers.core q _ b hself HBT.out
                      have hok := hP.peers.ok _ (List.mem_of_getElem? hself)
                      obtain ⟨cur, hcur⟩ : ∃ x, lateN k c = x := ⟨_, rfl⟩
                      rw [hcur] at hself hC hok hP
                      obtain ⟨vq, hvq⟩ : ∃ x : Nat, cur.view = (x : Int) := ⟨cur.view.toNat, by have := hok.inn.view; omega⟩
                      have hvc : wy.cell? ⟨b, 4, none⟩ = some (.int .i64 (vq : Int)) := by
                        obtain ⟨fv, wi, lo, va, pb', pp, cm, tn, sn, dc, h⟩ := hC
                        have := h.hblk.cell 4
                        simp only [List.getElem?_cons_succ, List.getElem?_cons_zero] at this
                        rw [this, hvq]
                      have HVC := Lib.hid hvc
                      have HVI := Lib.hid (view_any hC)
                      rw [hvq] at HVI
                      have HDE := Lib.hid (decided_any hP.peers.tint hC hok)
                      have HP := Lib.hid hP
                      have HBF := Lib.hid hbefore
                      have HCU := Lib.hid hcur
                      have HVQ := Lib.hid hvq
                      have HSE := Lib.hid hself
                      have HLQ := Lib.hid hlq
                      clear hP hbefore hself hC hok hcur hvq hvc HK hlq
                      by_cases hvl : (vq : Int) < (vw : Int)
                      · obtain ⟨dv, hdv⟩ : ∃ x, cur.decided = x := ⟨_, rfl⟩
                        rw [hdv] at HDE
                        have HDV := Lib.hid hdv
                        clear hdv
                        go_wp2_with fail
                        refine HVI.out.mono ?_
                        rintro e w5 ⟨rfl, rfl⟩
                        go_wp2_with fail
                        refine HDE.out.mono ?_
                        rintro e w6 ⟨hb6, rv, rfl, hrb⟩
                        obtain ⟨ra, rn, rc, rfl⟩ := RB.form hrb
                        cases dv with
                        | true =>
                          have HX : Hid (∃ l'', EAt n0 g cap bl wrong wB pb l'' w6 ∧ GoSt (((m + t : Nat) : Int) + 1) l (q + 1) l'') := ⟨_, ⟨col, HP.out.moved hb6⟩, HG.out.next HC0.out ⟨k, HCU.out.symm, HBF.out, .inl HDV.out⟩⟩
                          clear hb6 hrb
                          go_wp2_with fail
                          go_roundw
                          case rel => exact ⟨q + 1, by omega, by push_cast; rfl, HX⟩
                          case measure => simp [vint]; omega
                        | false =>
                          have hP6 := HP.out.moved hb6
                          have hC6 := hP6.peers.core q _ b HSE.out HBT.out
                          have hok6 := hP6.peers.ok cur (List.mem_of_getElem? HSE.out)
                          have HLA := Lib.hid (late_any hP6.peers.tint hC6 hok6)
                          have HP6 := Lib.hid hP6
                          clear hb6 hrb hP6 hC6 hok6
                          go_wp2_with fail
                          refine HLA.out.mono ?_
                          rintro e w7 ⟨⟨ev, rfl⟩, hok7, col7, hE7, hC7⟩
                          have hP7 := HP6.out.step HSE.out HBT.out hE7 hC7 hok7
                          rw [List.set_set] at hP7
                          have hloc : Loc n0 ((q : Int) + 1) (r1 : Int) cur := by
                            obtain ⟨h8, h9⟩ := (HF.out.up (V' := ((m + t : Nat) : Int) + 1) (by omega)).lateN HC0.out k HBF.out
                            rw [← HCU.out]
                            exact h8.e.inv.loc (List.getElem?_set_self (List.getElem?_eq_some_iff.1 HC0.out).1)
                          have hlv := late_view hloc HDV.out (by rw [HVQ.out]; have := HVW.out; omega)
                          have hHX : LSt n0 g cap bl wrong wB pb (((m + t : Nat) : Int) + 1) l' q c (k + 1) w7 := ⟨⟨col7, by
                            show PAt col7 wB w7 pb _ bl (l'.set q (lateC notV (lateN k c))) wrong
                            rw [HCU.out]; exact hP7⟩, fun j hj => by
                            rcases Nat.lt_or_ge j k with h | h
                            · exact HBF.out j h
                            · obtain rfl : j = k := by omega
                              rw [HCU.out]
                              exact ⟨HDV.out, by rw [HVQ.out]; have := HVW.out; omega⟩⟩
                          have HX := Lib.hid hHX
                          have hnv : ∃ y : Nat, w7.cell? ⟨b, 4, none⟩ = some (.int .i64 (y : Int)) ∧ vq < y := by
                            refine ⟨(lateC notV cur).view.toNat, ?_, by have := HVQ.out; omega⟩
                            obtain ⟨fv, wi, lo, va, pb', pp, cm, tn, sn, dc, h⟩ := hC7
                            have := h.hblk.cell 4
                            simp only [List.getElem?_cons_succ, List.getElem?_cons_zero] at this
                            rw [this]
                            have hv7 := hok7.inn.view
                            rw [Int.toNat_of_nonneg hv7.1]
                          obtain ⟨y, hy, hyl⟩ := hnv
                          have HY := Lib.hid hy
                          clear hok7 hE7 hC7 hP7 hloc hlv hHX hy
                          go_wp2_with fail
                          go_roundw
                          case rel => exact ⟨k + 1, HX⟩
                          case measure =>
                            rw [HY.out, HVC.out]
                            simp only [Option.getD_some, vint, Int.toNat_natCast]
                            omega
                      · have HX : Hid (∃ l'', EAt n0 g cap bl wrong wB pb l'' wy ∧ GoSt (((m + t : Nat) : Int) + 1) l (q + 1) l'') := ⟨_, ⟨col, HP.out⟩, HG.out.next HC0.out ⟨k, HCU.out.symm, HBF.out, .inr (by rw [HVQ.out]; have := HVW.out; omega)⟩⟩
                        go_wp2_with fail
                        refine HVI.out.mono ?_
                        rintro e w5 ⟨rfl, rfl⟩
                        go_wp2_with fail
                        go_roundw
                        case rel => exact ⟨q + 1, by omega, by push_cast; rfl, HX⟩
                        case measure => simp [vint]; omega
                  · obtain rfl : n0 = q := by omega
                    obtain ⟨lg, hE, hG⟩ := HQ.out
                    have HG := Lib.hid hG
                    have HE6 : Hid (EAt n0 g cap bl wrong wB pb (roundK n0 0 lg) wq) := hE
                    clear hE hG HQ
                    go_wp2_with fail
                    go_loopw [121] (fun u wx => ∃ r : Nat, r ≤ 4 ∧ u = .int .i64 (r : Int) ∧ Hid (EAt n0 g cap bl wrong wB pb (roundK n0 r lg) wx)) (fun u _ => 4 - (vint u).toNat)
                    case atStart => exact ⟨0, by decide, rfl, HE6⟩
                    case round =>
                      obtain ⟨r, hr, rfl, HR⟩ := hrel
                      rename World => ws
                      clear HE6
                      by_cases hltr : (r : Int) < 4
                      · have hzr : IntKind.i64.wrap ((r : Int) + 1) = (r : Int) + 1 := by rw [IntKind.wrap_i64]; omega
                        obtain ⟨lr, hlr⟩ : ∃ x, roundK n0 r lg = x := ⟨_, rfl⟩
                        rw [hlr] at HR
                        have HLR := Lib.hid hlr
                        have hc1 := HR.out.c1
                        have HE7 : Hid (EAt n0 g cap bl wrong wB pb (roundN lr 0) ws) := HR.out
                        clear hlr HR
                        go_wp2_with fail
                        clear hc1
                        go_loopw [128] (fun u wx => ∃ a : Nat, a ≤ n0 ∧ u = .int .i64 (a : Int) ∧ Hid (EAt n0 g cap bl wrong wB pb (roundN lr a) wx)) (fun u _ => n0 - (vint u).toNat)
                        case atStart => exact ⟨0, Nat.zero_le _, rfl, HE7⟩
                        case round =>
                          obtain ⟨a, ha, rfl, HA⟩ := hrel
                          rename World => wa
                          clear HE7
                          by_cases hlta : (a : Int) < (n0 : Int)
                          · have hza : IntKind.i64.wrap ((a : Int) + 1) = (a : Int) + 1 := by rw [IntKind.wrap_i64]; omega
                            obtain ⟨la, hla⟩ : ∃ x, roundN lr a = x := ⟨_, rfl⟩
                            rw [hla] at HA
                            obtain ⟨col, b, c, hP, hct, hbt, hgt, hCt, hok⟩ := HA.out.core (i := a) (by omega)
                            have HSY := Lib.hid (says_any hP.peers.tint hCt hok)
                            have HWF : Hid (∀ v ∈ Sac.says c, VtWf v) := fun v hv => says_wf hok hv
                            obtain ⟨vs, hvs⟩ : ∃ vs, Sac.says c = vs := ⟨_, rfl⟩
                            rw [hvs] at HSY HWF
                            have hnx : roundN lr (a + 1) = votesN la vs := by
                              rw [roundN_succ, hla]
                              unfold tellsAt
                              rw [hct]
                              show votesN la (Sac.says c) = _
                              rw [hvs]
                            obtain ⟨N, hN⟩ : ∃ N, vs.length = N := ⟨_, rfl⟩
                            have hNb : N ≤ 30000000000 := by rw [← hN, ← hvs]; exact says_len hok hCt.srt
                            have hlal : la.length = n0 := HA.out.len
                            have HNX := Lib.hid hnx
                            have HN := Lib.hid hN
                            have HLL := Lib.hid hlal
                            have HP := Lib.hid hP
                            clear hP hct hbt hCt hok hvs hnx hN hlal hla HA
                            go_wp2_with fail
                            refine HSY.out.mono ?_
                            rintro e w5 ⟨vr, rfl, hrow⟩
                            have hb5 := hrow.below
                            have HT5 := Lib.hid (Told.of hrow HP.out.peers.tint)
                            obtain ⟨ta, tc, rfl, htc⟩ := HT5.out.form
                            rw [HN.out] at HT5 htc ⊢
                            have HE8 : Hid (∃ col, PAt col wB w5 pb (.slice (some ⟨g, 0, none⟩) n0 cap) bl (votesN la (vs.take 0)) wrong ∧ Told col w5 (.slice ta N tc) vs) := ⟨col, HP.out.moved hb5, HT5.out⟩
                            clear hrow hb5 HT5 HSY HP hgt
                            go_wp2_with fail
                            go_loopw [135] (fun u wx => ∃ q : Nat, q ≤ N ∧ u = .int .i64 (q : Int) ∧ Hid (∃ col, PAt col wB wx pb (.slice (some ⟨g, 0, none⟩) n0 cap) bl (votesN la (vs.take q)) wrong ∧ Told col wx (.slice ta N tc) vs)) (fun u _ => N - (vint u).toNat)
                            case atStart => exact ⟨0, Nat.zero_le _, rfl, HE8⟩
                            case round =>
                              obtain ⟨qv, hqv, rfl, HV⟩ := hrel
                              rename World => wu
                              clear HE8
                              by_cases hltv : (qv : Int) < (N : Int)
                              · have hzv : IntKind.i64.wrap ((qv : Int) + 1) = (qv : Int) + 1 := by rw [IntKind.wrap_i64]; omega
                                obtain ⟨colv, hPv, hTv⟩ := HV.out
                                obtain ⟨gv, capv, p, e1, e2, hcs, hrb⟩ := hTv.at_ (i := qv) (by rw [HN.out]; omega)
                                rw [HN.out] at e1
                                injection e1 with e3 e5 e4
                                subst e3 e4
                                clear e5
                                obtain ⟨⟨qk, qf, qs, qw, qd, ql⟩, ya, yn, yc⟩ := p
                                have v0 : wu.cell? ⟨gv, qv * 6, none⟩ = some (.int .i64 qk) := hcs 0 (by omega)
                                have v1 : wu.cell? ⟨gv, qv * 6 + 1, none⟩ = some (.int .i64 qf) := hcs 1 (by omega)
                                have v2 : wu.cell? ⟨gv, qv * 6 + 2, none⟩ = some (.int .i64 qs) := hcs 2 (by omega)
                                have v3 : wu.cell? ⟨gv, qv * 6 + 3, none⟩ = some (.int .i64 qw) := hcs 3 (by omega)
                                have v4 : wu.cell? ⟨gv, qv * 6 + 4, none⟩ = some (.int .i64 qd) := hcs 4 (by omega)
                                have v5 : wu.cell? ⟨gv, qv * 6 + 5, none⟩ = some (.slice ya yn yc) := hcs 5 (by omega)
                                obtain ⟨lv, hlv⟩ : ∃ x, votesN la (vs.take qv) = x := ⟨_, rfl⟩
                                have hnx2 : votesN la (vs.take (qv + 1)) = tellN lv (⟨qk, qf, qs, qw, qd, ql⟩ : Vt) n0 := by rw [votesN_take la vs e2, hlv, HLL.out]
                                have hwf : VtWf (⟨qk, qf, qs, qw, qd, ql⟩ : Vt) := HWF.out _ (List.mem_of_getElem? e2)
                                rw [hlv] at hPv
                                have HPV := Lib.hid hPv
                                have HTV := Lib.hid hTv
                                have HRV : Hid (RB wu (.slice ya yn yc) ql) := hrb
                                have HNX2 := Lib.hid hnx2
                                have HW2 := Lib.hid hwf
                                clear hcs hrb e2 hlv hnx2 hwf hPv hTv HV
                                go_upto_region 39 with (fail)
                                obtain ⟨W9, hW9⟩ : ∃ W9, wu.alloc (.cells #[.int .i64 qk, .int .i64 qf, .int .i64 qs, .int .i64 qw, .int .i64 qd, .slice ya yn yc] 31) = W9 := ⟨_, rfl⟩
                                have hbW : Below wu.heap.size wu W9 := hW9 ▸ (Below.refl _ wu).alloc (Nat.le_refl _) _
                                have hkV : Blk W9 wu.heap.size 31 [.int .i64 qk, .int .i64 qf, .int .i64 qs, .int .i64 qw, .int .i64 qd, .slice ya yn yc] := hW9 ▸ Blk.new wu _ _
                                obtain ⟨X, hX⟩ : ∃ X, wu.heap.size = X := ⟨_, rfl⟩
                                have hxn : colv X = none := by
                                  cases hq : colv X with
                                  | none => rfl
                                  | some q => have := HPV.out.peers.tint.lo X q hq; omega
                                rw [hW9, hX]
                                rw [hX] at hkV
                                have hP9 := HPV.out.moved hbW
                                have hc1 : W9.cell? ⟨pb, 1, none⟩ = some (.slice (some ⟨g, 0, none⟩) n0 cap) := EAt.c1 ⟨colv, hP9⟩
                                have HE9 : Hid (BSt n0 g cap bl wrong wB pb lv (⟨qk, qf, qs, qw, qd, ql⟩ : Vt) (.slice (some ⟨gv, 0, none⟩) N tc) vs (.slice ya yn yc) X 0 W9) := ⟨colv, hP9, Told.ext HTV.out (Ext.below (G := fun _ => False) HPV.out.peers.tint hbW) HPV.out.peers.tint, HRV.out.below hbW, hkV, hxn⟩
                                clear hW9 hX hbW hkV hxn hP9 v0 v1 v2 v3 v4 v5 HPV HTV HRV
                                go_wp2_with fail
                                clear hc1
                                go_loopw [144] (fun u wx => ∃ ib : Nat, ib ≤ n0 ∧ u = .int .i64 (ib : Int) ∧ Hid (BSt n0 g cap bl wrong wB pb lv (⟨qk, qf, qs, qw, qd, ql⟩ : Vt) (.slice (some ⟨gv, 0, none⟩) N tc) vs (.slice ya yn yc) X ib wx)) (fun u _ => n0 - (vint u).toNat)
                                case atStart => exact ⟨0, Nat.zero_le _, rfl, HE9⟩
                                case round =>
                                  obtain ⟨ib, hib, rfl, HI⟩ := hrel
                                  rename World => wi
                                  clear HE9
                                  by_cases hltb : (ib : Int) < (n0 : Int)
                                  · have hzb : IntKind.i64.wrap ((ib : Int) + 1) = (ib : Int) + 1 := by rw [IntKind.wrap_i64]; omega
                                    obtain ⟨colb, hPb, hTb, hRb, hXb, hNb⟩ := HI.out
                                    have hlenb : (tellN lv (⟨qk, qf, qs, qw, qd, ql⟩ : Vt) ib).length = n0 := EAt.len ⟨colb, hPb⟩
                                    obtain ⟨g2, cap2', bb, cb, e1, kb, hbb, hcb, hCb, hokb⟩ := hPb.peers.at_ (i := ib) (by rw [hlenb]; omega)
                                    injection e1 with e1 e6 e7
                                    injection e1 with e1
                                    injection e1 with e1
                                    subst e1
                                    have hst : tellN lv (⟨qk, qf, qs, qw, qd, ql⟩ : Vt) (ib + 1) = (tellN lv (⟨qk, qf, qs, qw, qd, ql⟩ : Vt) ib).set ib (takeC notV cb (⟨qk, qf, qs, qw, qd, ql⟩ : Vt)).1 := by
                                      rw [tellN_succ]
                                      unfold takeAt
                                      rw [hcb]
                                    have x0 := hXb.cell 0
                                    have x1 := hXb.cell 1
                                    have x2 := hXb.cell 2
                                    have x3 := hXb.cell 3
                                    have x4 := hXb.cell 4
                                    have x5 := hXb.cell 5
                                    simp only [List.getElem?_cons_succ, List.getElem?_cons_zero] at x0 x1 x2 x3 x4 x5
                                    have HTK := Lib.hid (take_any (⟨qk, qf, qs, qw, qd, ql⟩ : Vt) (.slice ya yn yc) hPb.peers.tint hCb hokb HW2.out hRb.ib)
                                    have HPB := Lib.hid hPb
                                    have HTB := Lib.hid hTb
                                    have HRB := Lib.hid hRb
                                    have HXB := Lib.hid hXb
                                    have HNB := Lib.hid hNb
                                    have HBB2 := Lib.hid hbb
                                    have HCB := Lib.hid hcb
                                    have HSTT := Lib.hid hst
                                    clear hPb hTb hRb hXb hNb hlenb hbb hcb hCb hokb hst e6 e7 HI
                                    go_wp2_with fail
                                    refine HTK.out.mono ?_
                                    rintro e w7 ⟨rfl, hok7, col7, hE7, hC7⟩
                                    have HX : Hid (BSt n0 g cap bl wrong wB pb lv (⟨qk, qf, qs, qw, qd, ql⟩ : Vt) (.slice (some ⟨gv, 0, none⟩) N tc) vs (.slice ya yn yc) X (ib + 1) w7) := ⟨col7, by rw [HSTT.out]; exact HPB.out.step HCB.out HBB2.out hE7 hC7 hok7, Told.ext HTB.out hE7 HPB.out.peers.tint, HRB.out.ext hE7 HPB.out.peers.tint, blk_ext HXB.out hE7 HNB.out, (hE7.old X HXB.out.lt).trans HNB.out⟩
                                    clear hok7 hE7 hC7
                                    go_wp2_with fail
                                    go_roundw
                                    case rel => exact ⟨ib + 1, by omega, by push_cast; rfl, HX⟩
                                    case measure => simp [vint]; omega
                                  · obtain rfl : n0 = ib := by omega
                                    have HX : Hid (∃ col, PAt col wB wi pb (.slice (some ⟨g, 0, none⟩) n0 cap) bl (votesN la (vs.take (qv + 1))) wrong ∧ Told col wi (.slice (some ⟨gv, 0, none⟩) N tc) vs) := by
                                      obtain ⟨colb, hPb, hTb, _⟩ := HI.out
                                      exact ⟨colb, by rw [HNX2.out]; exact hPb, hTb⟩
                                    go_wp2_with fail
                                    go_roundw
                                    case rel => exact ⟨qv + 1, by omega, by push_cast; rfl, HX⟩
                                    case measure => simp [vint]; omega
                              · obtain rfl : N = qv := by omega
                                have HX : Hid (EAt n0 g cap bl wrong wB pb (roundN lr (a + 1)) wu) := by
                                  obtain ⟨colv, hPv, _⟩ := HV.out
                                  rw [List.take_of_length_le (by rw [HN.out]; exact Nat.le_refl _)] at hPv
                                  exact ⟨colv, by rw [HNX.out]; exact hPv⟩
                                go_wp2_with fail
                                go_roundw
                                case rel => exact ⟨a + 1, by omega, by push_cast; rfl, HX⟩
                                case measure => simp [vint]; omega
                          · obtain rfl : n0 = a := by omega
                            have HX : Hid (EAt n0 g cap bl wrong wB pb (roundK n0 (r + 1) lg) wa) := by
                              show EAt n0 g cap bl wrong wB pb (roundN (roundK n0 r lg) n0) wa
                              rw [HLR.out]; exact HA.out
                            go_wp2_with fail
                            go_roundw
                            case rel => exact ⟨r + 1, by omega, by push_cast; rfl, HX⟩
                            case measure => simp [vint]; omega
                      · obtain rfl : r = 4 := by omega
                        have HX : Hid (VSt n0 g cap bl wrong wB pb (r1 : Int) m (t + 1) ws) := by
                          obtain ⟨h8, h9⟩ := HF.out.view_on (by omega) HSt.out HG.out
                          have ee : ((m + (t + 1) : Nat) : Int) = ((m + t : Nat) : Int) + 1 := by omega
                          exact ⟨_, HR.out, by rw [ee]; exact h8, by rw [ee]; exact h9⟩
                        go_wp2_with fail
                        go_roundw
                        case rel => exact ⟨t + 1, vx, by omega, rfl, by have h1 := HVX.out; have h2 := HVW.out; show vx = m + 1 + (t + 1); omega, HX⟩
                        case measure => have h1 := HVX.out; have h2 := HVW.out; simp [vint]; omega
              · have htn : t = n0 + 1 := by have := HMN.out; have := HVW.out; omega
                subst htn
                obtain ⟨l, hE, hF, hSt⟩ := HS.out
                have hall : All1 l := stage_all (t := n0 + 1) (by omega) hSt
                have hc1 := hE.c1
                have HE10 := Lib.hid hE
                have HALL := Lib.hid hall
                have HF := Lib.hid hF
                clear hE hF hSt hall HS
                go_wp2_with fail
                clear hw2 hw3 hc1 hle
                go_loopw [160] (fun u wx => ∃ q : Nat, q ≤ n0 ∧ u = .int .i64 (q : Int) ∧ Hid (EAt n0 g cap bl wrong wB pb l wx)) (fun u _ => n0 - (vint u).toNat)
                case atStart => exact ⟨0, Nat.zero_le _, rfl, HE10⟩
                case round =>
                  obtain ⟨q, hq, rfl, HQ⟩ := hrel
                  rename World => wq
                  clear HE10
                  by_cases hltq : (q : Int) < (n0 : Int)
                  · have hzq : IntKind.i64.wrap ((q : Int) + 1) = (q : Int) + 1 := by rw [IntKind.wrap_i64]; omega
                    obtain ⟨col, b, c, hP, hct, hbt, hgt, hCt, hok⟩ := HQ.out.core (i := q) (by omega)
                    have HDE := Lib.hid (decided_any hP.peers.tint hCt hok)
                    rw [HALL.out c (List.mem_of_getElem? hct)] at HDE
                    clear hP hct hbt hCt hok
                    go_wp2_with fail
                    refine HDE.out.mono ?_
                    rintro e w6 ⟨hb6, rv, rfl, hrb⟩
                    obtain ⟨ra, rn, rc, rfl⟩ := RB.form hrb
                    have HX : Hid (EAt n0 g cap bl wrong wB pb l w6) := HQ.out.moved hb6
                    clear hb6 hrb
                    go_wp2_with fail
                    go_roundw
                    case rel => exact ⟨q + 1, by omega, by push_cast; rfl, HX⟩
                    case measure => simp [vint]; omega
                  · obtain rfl : n0 = q := by omega
                    obtain ⟨col, hP⟩ := HQ.out
                    have HAG := Lib.hid (agree_any n0 (r1 : Int) hn4 hP HF.out.e.inv)
                    have HP := Lib.hid hP
                    clear hP
                    go_wp2_with fail
                    refine HAG.out.mono ?_
                    rintro e w7 ⟨rfl, hb7⟩
                    have HX := Lib.hid (HEND.out _ (HP.out.moved hb7).fresh.below)
                    clear hb7
                    go_wp2_with fail
                    go_ret
                    exact ⟨rfl, HX.out⟩
end Go.Proofs.Ytilhdelijdkjpaa
