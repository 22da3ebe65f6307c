/-
  lives: four peers who tell one another.
-/
import Derived.Test.YtilhdelijdkjpaaPe
import Derived.Test.YtilhdelijdkjpaaPC
import Derived.Lib.SlBytesConst
set_option linter.unusedVariables false
set_option linter.unusedSimpArgs false
namespace Go.Proofs.Ytilhdelijdkjpaa
open Go Go.RowKit Go.Maps Sac

theorem peers_nil (acc : Bs → Bool) (w : World) : Peers acc (fun _ => none) w (.slice none 0 0) [] [] :=
  ⟨⟨0, World.ownsRow_nil _ _ _ _⟩, fun k hk => (by cases hk), tint_none w, rfl, fun i c b h => (by cases h), fun c h => (by cases h)⟩
def cores0 (i : Nat) : List Core := (List.range i).map fun k : Nat => newCore 4 ((k : Int) + 1) 0
theorem cores0_succ (i : Nat) : cores0 (i + 1) = cores0 i ++ [newCore 4 ((i : Int) + 1) 0] := by
  unfold cores0
  rw [List.range_succ, List.map_append]
  rfl
theorem cores0_length (i : Nat) : (cores0 i).length = i := by
  unfold cores0
  rw [List.length_map, List.length_range]
theorem newCore_ok {n me slot : Int} (hn : 4 ≤ n ∧ n ≤ 64) (hm : 1 ≤ me ∧ me ≤ n) (hs : 0 ≤ slot ∧ slot ≤ 256) : CoreOk (newCore n me slot) := (newCore_loc hn hm hs).ok

theorem conv_lit (w : World) : (convert 29 29 (.slice (some ⟨w.heap.size, 0, none⟩) 1 1)).run Try.prog (w.alloc (.cells #[.int .u8 119] 5)) = .ok (.slice (some ⟨w.heap.size, 0, none⟩) 1 1) (w.alloc (.cells #[.int .u8 119] 5 (1, 2))) :=
  Lib.run_convert_bytes_const w 29 5 #[.int .u8 119] 1 1 Try.underlying29 Try.underlying5
theorem rb_mark (w : World) : RB (w.alloc (.cells #[.int .u8 119] 5 (1, 2))) (.slice (some ⟨w.heap.size, 0, none⟩) 1 1) [119] :=
  ⟨some ⟨w.heap.size, 0, none⟩, 1, rfl, Nat.le_refl 1, by decide, (fun h => by cases h), fun _ => ⟨_, rfl, ⟨_, _, heap_alloc_new w _⟩, fun j u hu => by rw [add_zero, Nat.zero_add, World.cell?_alloc_mark, List.getElem?_toArray]; exact hu⟩, fun y hy => by rw [List.mem_singleton.1 hy]; decide⟩
/-- What the peers are behind so many rounds, tellers, votes. -/
def rounds : Nat → List Core → List Core
  | 0, l => l
  | r + 1, l => livesRound anyV (rounds r l)
def aStep (l : List Core) (i : Nat) : List Core := match l[i]? with
  | some a => (says a).foldl (fun l v => tellAll anyV l v) l
  | none => l
def aState (l : List Core) (i : Nat) : List Core := (List.range i).foldl aStep l
theorem aState_succ (l : List Core) (i : Nat) : aState l (i + 1) = aStep (aState l i) i := by
  unfold aState
  rw [List.range_succ, List.foldl_append]
  rfl
def vState (vs : List Vt) (l : List Core) (i : Nat) : List Core := (vs.take i).foldl (fun l v => tellAll anyV l v) l
theorem vState_succ {vs : List Vt} {l : List Core} {i : Nat} {v : Vt} (h : vs[i]? = some v) : vState vs l (i + 1) = tellAll anyV (vState vs l i) v := by
  unfold vState
  rw [List.take_add_one, h, List.foldl_append]
  rfl
theorem vState_all {vs : List Vt} {l : List Core} {i : Nat} (h : vs.length ≤ i) : vState vs l i = vs.foldl (fun l v => tellAll anyV l v) l := by
  unfold vState
  rw [List.take_of_length_le h]
def bState (v : Vt) (l : List Core) (k : Nat) : List Core := (l.take k).map (fun c => (takeC anyV c v).1) ++ l.drop k
theorem tellAll_length (l : List Core) (v : Vt) : (tellAll anyV l v).length = l.length := List.length_map _
theorem bState_length (v : Vt) (l : List Core) (k : Nat) : (bState v l k).length = l.length := by
  unfold bState
  rw [List.length_append, List.length_map, ← List.length_append, List.take_append_drop]
theorem bState_at {v : Vt} {l : List Core} {k : Nat} (hk : k < l.length) : (bState v l k)[k]? = some l[k] := by
  unfold bState
  rw [List.getElem?_append_right (by rw [List.length_map, List.length_take]; omega), List.length_map, List.length_take, Nat.min_eq_left (by omega), Nat.sub_self, List.getElem?_drop, Nat.add_zero, List.getElem?_eq_getElem hk]
theorem bState_succ {v : Vt} {l : List Core} {k : Nat} (hk : k < l.length) : bState v l (k + 1) = (bState v l k).set k (takeC anyV l[k] v).1 := by
  unfold bState
  have hl : ((l.take k).map (fun c => (takeC anyV c v).1)).length = k := by rw [List.length_map, List.length_take]; omega
  rw [List.set_append_right _ _ (by rw [hl]; exact Nat.le_refl _), hl, Nat.sub_self, List.take_add_one, List.getElem?_eq_getElem hk, List.map_append, List.drop_eq_getElem_cons hk, List.append_assoc]
  rfl
theorem bState_zero (v : Vt) (l : List Core) : bState v l 0 = l := rfl
theorem bState_all {v : Vt} {l : List Core} {k : Nat} (h : l.length ≤ k) : bState v l k = tellAll anyV l v := by
  unfold bState tellAll
  rw [List.take_of_length_le h, List.drop_of_length_le h, List.append_nil]
theorem foldl_length (vs : List Vt) : ∀ l : List Core, (vs.foldl (fun l v => tellAll anyV l v) l).length = l.length := by
  induction vs with
  | nil => intro l; rfl
  | cons v vs ih => intro l; rw [List.foldl_cons, ih, tellAll_length]
theorem aStep_length (l : List Core) (i : Nat) : (aStep l i).length = l.length := by
  unfold aStep
  split
  · exact foldl_length _ _
  · rfl
theorem aState_length (l : List Core) : ∀ i, (aState l i).length = l.length
  | 0 => rfl
  | i + 1 => by rw [aState_succ, aStep_length, aState_length l i]
theorem round_is (l : List Core) : livesRound anyV l = aState l l.length := rfl
theorem rounds_length (l : List Core) : ∀ r, (rounds r l).length = l.length
  | 0 => rfl
  | r + 1 => by
    show (livesRound anyV (rounds r l)).length = _
    rw [round_is, aState_length, rounds_length l r]
theorem vState_length (vs : List Vt) (l : List Core) (i : Nat) : (vState vs l i).length = l.length := foldl_length _ _
theorem start_is (x : Core) : (cores0 4).set 0 x = [x, newCore 4 2 0, newCore 4 3 0, newCore 4 4 0] := rfl

set_option maxRecDepth 100000 in
set_option maxHeartbeats 8000000 in
theorem lives_any (w : World) : Calls Try.prog 12 #[] w fun e w' => e = .returned (.bool true) ∧ Below w.heap.size w w' := by
  go_enter Try.func12, Try.ntmps12
  go_wp2_with fail
  go_loopw [1, 12] (fun t1 u wr => ∃ (i : Nat) (bl : List Nat) (col : Colour), i ≤ 4 ∧ u = .int .i64 (i : Int) ∧ Hid (POwn wr w.heap.size t1 bl) ∧ Hid (Peers anyV col wr t1 bl (cores0 i)) ∧ Hid (Fresh0 w col wr)) (fun _ u _ => 4 - (intOf u).toNat)
  case atStart => exact ⟨0, [], fun _ => none, by decide, rfl, World.ownsRow_nil _ _ _ _, peers_nil _ _, Below.refl _ _, fun _ _ => rfl⟩
  case round =>
    obtain ⟨i, bl, col, hi, rfl, HO, HP, HF⟩ := hrel
    by_cases hlt : (i : Int) < 4
    · have hnew := new_any (acc := anyV) i (n := 4) (me := (i : Int) + 1) (slot := 0) HP.out.tint any_acc (by decide) (by omega) (by decide)
      have HNEW := Lib.hid hnew
      obtain ⟨oa, oc, rfl, _⟩ := HP.out.form
      have hbl : bl.length = i := HP.out.len.trans (cores0_length i)
      rw [cores0_length] at HO HP ⊢
      have HBLL := Lib.hid hbl
      clear hnew hbl
      go_wp2_with fail
      refine HNEW.out.mono ?_
      rintro e w2 ⟨b, col2, rfl, hbs, hE2, hC2⟩
      have hP2 := HP.out.other hE2 (fun j p hj e => by rw [cores0_length] at hj; have : j = i := e; omega)
      have hF2 := HF.out.step hE2
      have hO2 := own_ext HO.out hE2 HP.out.unc
      have hal : Below w2.heap.size w2 (w2.alloc (.cells #[ptr b] 26)) := (Below.refl _ w2).alloc (Nat.le_refl _) _
      have HP3 := Lib.hid (hP2.moved hal)
      have HF3 := Lib.hid (hF2.moved (hal.mono hF2.below.size))
      have HO3 : Hid (POwn (w2.alloc (.cells #[ptr b] 26)) w.heap.size (.slice oa i oc) bl) := own_only hO2 (Only.below (F := fun _ => False) hal) (fun _ _ h => h)
      have HC3 := Lib.hid (hC2.below hE2.tint hal)
      clear hP2 hF2 hO2 hal hE2 hC2 hbs HNEW HO HP HF
      go_wp2_with (first | (refine wpList_append_core _ rfl (.tmp 20) (.tmp 22) rfl w.heap.size _ bl rfl HO3.out w2.heap.size b rfl (Blk.new w2 [ptr b] _) (by rw [HBLL.out]; omega) HF3.out.below.size ?_; intro v' w' hown hgr hf hety; have hP4 := HP3.out.snoc (by rw [cores0_length]; exact HC3.out) (newCore_ok (by decide) (by omega) (by decide)) hown hgr hf hety; rw [← cores0_succ] at hP4; have HP4 := Lib.hid hP4; have HO4 := Lib.hid hown; have HF4 := Lib.hid (HF3.out.moved ((⟨hgr.os, hgr.tape, hgr.output, hgr.size, fun k hk => hgr.block k (Nat.lt_of_lt_of_le hk HF3.out.below.size) fun e => (by have := (HO3.out.lt k e.symm).1; omega)⟩ : Below w.heap.size _ _))); clear hown hgr hf hety hP4))
      exact ⟨⟨i + 1, bl ++ [b], col2, by omega, by push_cast; rfl, HO4, HP4, HF4⟩, by simp [intOf]; omega⟩
    · obtain rfl : i = 4 := by omega
      obtain ⟨g, cap, b0, c0, e1, k0, hb0, hc0, hC0, hok0⟩ := HP.out.at_ (i := 0) (by rw [cores0_length]; decide)
      have hc0' : c0 = newCore 4 1 0 := by
        have : (cores0 4)[0]? = some (newCore 4 1 0) := rfl
        rw [this] at hc0
        exact (Option.some.inj hc0).symm
      subst hc0' e1
      rw [cores0_length] at HP HO ⊢
      have HRL := Lib.hid (rb_mark wr)
      have hal : Below wr.heap.size wr (wr.alloc (.cells #[.int .u8 119] 5 (1, 2))) := (Below.refl _ wr).alloc (Nat.le_refl _) _
      have hP1 := HP.out.moved hal
      have HF1 := Lib.hid (HF.out.moved (hal.mono HF.out.below.size))
      have HW := Lib.hid (wish_any (.slice (some ⟨wr.heap.size, 0, none⟩) 1 1) [119] hP1.tint (hC0.below HP.out.tint hal) hok0 HRL.out.ib)
      have HP1 := Lib.hid hP1
      have HB0 := Lib.hid hb0
      have hcv := conv_lit wr
      clear hal hP1 hC0 hok0 hc0 hb0 HP HF HO
      go_wp2_with fail
      refine HW.out.mono ?_
      rintro e w2 ⟨⟨ev, rfl⟩, hok2, col2, hE2, hC2⟩
      have hP2 := HP1.out.step (by rw [cores0_length]; decide) HB0.out hE2 hC2 hok2
      rw [start_is] at hP2
      have HP2 : Hid (Peers anyV col2 w2 (.slice (some ⟨g, 0, none⟩) 4 cap) bl livesStart) := hP2
      have HF2 := Lib.hid (HF1.out.step hE2)
      clear hok2 hE2 hC2 hP2 HP1 HF1 HW HRL HB0 k0 hcv
      go_wp2_with fail
      go_loopw [31] (fun u wr => ∃ (r : Nat) (col : Colour), r ≤ 4 ∧ u = .int .i64 (r : Int) ∧ Hid (Peers anyV col wr (.slice (some ⟨g, 0, none⟩) 4 cap) bl (rounds r livesStart)) ∧ Hid (Fresh0 w col wr)) (fun u _ => 4 - (intOf u).toNat)
      case atStart => exact ⟨0, col2, by decide, rfl, HP2, HF2⟩
      case round =>
        obtain ⟨r, colr, hr, rfl, HPr, HFr⟩ := hrel
        clear HP2 HF2
        by_cases hlr : (r : Int) < 4
        · obtain ⟨lr, hlr2⟩ : ∃ lr, rounds r livesStart = lr := ⟨_, rfl⟩
          have hl4 : lr.length = 4 := by rw [← hlr2, rounds_length]; rfl
          have hnx : rounds (r + 1) livesStart = aState lr 4 := by show livesRound anyV (rounds r livesStart) = _; rw [hlr2, round_is, hl4]
          rw [hlr2] at HPr
          have HL4 := Lib.hid hl4
          have HNX := Lib.hid hnx
          clear hlr2 hl4 hnx
          go_wp2_with fail
          go_loopw [35] (fun u wr => ∃ (i : Nat) (col : Colour), i ≤ 4 ∧ u = .int .i64 (i : Int) ∧ Hid (Peers anyV col wr (.slice (some ⟨g, 0, none⟩) 4 cap) bl (aState lr i)) ∧ Hid (Fresh0 w col wr)) (fun u _ => 4 - (intOf u).toNat)
          case atStart => exact ⟨0, colr, by decide, rfl, HPr, HFr⟩
          case round =>
            obtain ⟨ia, cola, hia, rfl, HPa, HFa⟩ := hrel
            clear HPr HFr
            by_cases hla : (ia : Int) < 4
            · obtain ⟨la, hla2⟩ : ∃ la, aState lr ia = la := ⟨_, rfl⟩
              have hla4 : la.length = 4 := by rw [← hla2, aState_length, HL4.out]
              rw [hla2] at HPa
              obtain ⟨g', cap', ba, ca, e1, k0, hba, hca, hCa, hoka⟩ := HPa.out.at_ (i := ia) (by rw [hla4]; omega)
              have e2 : g' = g := by injection e1 with e1 _ _; injection e1 with e1; injection e1 with e1; exact e1.symm
              subst e2
              have hnx : aState lr (ia + 1) = vState (says ca) la (says ca).length := by
                rw [aState_succ, hla2, vState_all (Nat.le_refl _)]
                unfold aStep
                rw [hca]
              have HSA := Lib.hid (says_any HPa.out.tint hCa hoka)
              have HWF : Hid (∀ v ∈ says ca, VtWf v) := fun v hv => says_wf hoka hv
              obtain ⟨vs, hvs⟩ : ∃ vs, says ca = vs := ⟨_, rfl⟩
              rw [hvs] at hnx HSA HWF
              obtain ⟨N, hN⟩ : ∃ N, vs.length = N := ⟨_, rfl⟩
              have hNb : N ≤ 30000000000 := by
                rw [← hN, ← hvs]
                exact says_len hoka hCa.srt
              rw [hN] at hnx
              have HNX2 := Lib.hid hnx
              have HN := Lib.hid hN
              have HLA4 := Lib.hid hla4
              clear hla2 hla4 hca hCa hoka hnx hvs hN e1 hba
              go_wp2_with fail
              refine HSA.out.mono ?_
              rintro e w5 ⟨vr, rfl, hrow⟩
              have hb5 := hrow.below
              have HT5 := Lib.hid ((Told.of hrow HPa.out.tint))
              obtain ⟨ta, tc, rfl, htc⟩ := HT5.out.form
              have HP5 := Lib.hid (HPa.out.moved hb5)
              have HF5 := Lib.hid (HFa.out.moved (hb5.mono HFa.out.below.size))
              rw [HN.out] at HT5 htc ⊢
              clear hrow hb5 HPa HFa HSA k0
              go_wp2_with fail
              go_loopw [42] (fun u wr => ∃ (i : Nat) (col : Colour), i ≤ N ∧ u = .int .i64 (i : Int) ∧ Hid (Peers anyV col wr (.slice (some ⟨g', 0, none⟩) 4 cap) bl (vState vs la i)) ∧ Hid (Fresh0 w col wr) ∧ Hid (Told col wr (.slice ta N tc) vs)) (fun u _ => N - (intOf u).toNat)
              case atStart => exact ⟨0, cola, Nat.zero_le _, rfl, HP5, HF5, HT5⟩
              case round =>
                obtain ⟨iv, colv, hiv, rfl, HPv, HFv, HTv⟩ := hrel
                clear HP5 HF5 HT5
                by_cases hlv : (iv : Int) < (N : Int)
                · obtain ⟨gv, capv, p, e1, e2, hcs, hrb⟩ := HTv.out.at_ (i := iv) (by rw [HN.out]; omega)
                  rw [HN.out] at e1
                  injection e1 with e3 _ e4
                  subst e3 e4
                  have k0 : wr.cell? ⟨gv, iv * 6, none⟩ = some (.int .i64 p.vt.kind) := hcs 0 (by decide)
                  have k1 : wr.cell? ⟨gv, iv * 6 + 1, none⟩ = some (.int .i64 p.vt.frm) := hcs 1 (by decide)
                  have k2 : wr.cell? ⟨gv, iv * 6 + 2, none⟩ = some (.int .i64 p.vt.slot) := hcs 2 (by decide)
                  have k3 : wr.cell? ⟨gv, iv * 6 + 3, none⟩ = some (.int .i64 p.vt.view) := hcs 3 (by decide)
                  have k4 : wr.cell? ⟨gv, iv * 6 + 4, none⟩ = some (.int .i64 p.vt.valid) := hcs 4 (by decide)
                  have k5 : wr.cell? ⟨gv, iv * 6 + 5, none⟩ = some (.slice p.a p.n p.c) := hcs 5 (by decide)
                  obtain ⟨lv, hlv2⟩ : ∃ lv, vState vs la iv = lv := ⟨_, rfl⟩
                  have hlv4 : lv.length = 4 := by rw [← hlv2, vState_length, HLA4.out]
                  have hnx : vState vs la (iv + 1) = bState p.vt lv 4 := by rw [vState_succ e2, hlv2, bState_all (by rw [hlv4]; exact Nat.le_refl _)]
                  rw [hlv2] at HPv
                  have hwf := HWF.out p.vt (List.mem_of_getElem? e2)
                  obtain ⟨X, hX⟩ : ∃ X, wr.heap.size = X := ⟨_, rfl⟩
                  obtain ⟨W, hW⟩ : ∃ W, wr.alloc (.cells #[.int .i64 p.vt.kind, .int .i64 p.vt.frm, .int .i64 p.vt.slot, .int .i64 p.vt.view, .int .i64 p.vt.valid, .slice p.a p.n p.c] 31) = W := ⟨_, rfl⟩
                  have hbW : Below wr.heap.size wr W := by rw [← hW]; exact (Below.refl _ wr).alloc (Nat.le_refl _) _
                  have hbx : Blk W X 31 [.int .i64 p.vt.kind, .int .i64 p.vt.frm, .int .i64 p.vt.slot, .int .i64 p.vt.view, .int .i64 p.vt.valid, .slice p.a p.n p.c] := by rw [← hW, ← hX]; exact Blk.new wr _ _
                  have hxn : colv X = none := by
                    cases hq : colv X with
                    | none => rfl
                    | some q => have := HPv.out.tint.lo X q hq; omega
                  have HPW := Lib.hid (HPv.out.moved hbW)
                  have HFW := Lib.hid (HFv.out.moved (hbW.mono HFv.out.below.size))
                  have HTW := Lib.hid (HTv.out.ext (Ext.below (G := fun _ => False) HPv.out.tint hbW) HPv.out.tint)
                  have HRW := Lib.hid (hrb.below hbW)
                  have HBX := Lib.hid hbx
                  have HXN := Lib.hid hxn
                  have HWF2 := Lib.hid hwf
                  have HNX3 := Lib.hid hnx
                  have HLV4 := Lib.hid hlv4
                  clear hcs hrb e2 hlv2 hlv4 hnx hwf hbW hbx hxn HPv HFv HTv
                  go_wp2_with fail
                  clear hX hW k0 k1 k2 k3 k4 k5
                  go_loopw [48] (fun u wr => ∃ (i : Nat) (col : Colour), i ≤ 4 ∧ u = .int .i64 (i : Int) ∧ Hid (Peers anyV col wr (.slice (some ⟨g', 0, none⟩) 4 cap) bl (bState p.vt lv i)) ∧ Hid (Fresh0 w col wr) ∧ Hid (Told col wr (.slice (some ⟨gv, 0, none⟩) N tc) vs) ∧ Hid (RB wr (.slice p.a p.n p.c) p.vt.value) ∧ Hid (Blk wr X 31 [.int .i64 p.vt.kind, .int .i64 p.vt.frm, .int .i64 p.vt.slot, .int .i64 p.vt.view, .int .i64 p.vt.valid, .slice p.a p.n p.c]) ∧ Hid (col X = none)) (fun u _ => 4 - (intOf u).toNat)
                  case atStart => exact ⟨0, colv, by decide, rfl, HPW, HFW, HTW, HRW, HBX, HXN⟩
                  case round =>
                    obtain ⟨ib, colb, hib, rfl, HPb, HFb, HTb, HRb, HXb, HNb⟩ := hrel
                    clear HPW HFW HTW HRW HBX HXN
                    by_cases hlb : (ib : Int) < 4
                    · have hbl4 : ib < lv.length := by rw [HLV4.out]; omega
                      obtain ⟨g2, cap2, bb, cb, e1, kb, hbb, hcb, hCb, hokb⟩ := HPb.out.at_ (i := ib) (by rw [bState_length]; exact hbl4)
                      have e2 : g2 = g' := by injection e1 with e1 _ _; injection e1 with e1; injection e1 with e1; exact e1.symm
                      subst e2
                      have hcb2 : cb = lv[ib] := by rw [bState_at hbl4] at hcb; exact (Option.some.inj hcb).symm
                      have hst := bState_succ (v := p.vt) hbl4
                      rw [← hcb2] at hst
                      have x0 := HXb.out.cell 0
                      have x1 := HXb.out.cell 1
                      have x2 := HXb.out.cell 2
                      have x3 := HXb.out.cell 3
                      have x4 := HXb.out.cell 4
                      have x5 := HXb.out.cell 5
                      simp only [List.getElem?_cons_zero, List.getElem?_cons_succ] at x0 x1 x2 x3 x4 x5
                      have HTK := Lib.hid (take_any p.vt (.slice p.a p.n p.c) HPb.out.tint hCb hokb HWF2.out HRb.out.ib)
                      have HST := Lib.hid hst
                      have HBB := Lib.hid hbb
                      have HBL := Lib.hid hbl4
                      clear e1 hbb hcb hCb hokb hcb2 hst hbl4
                      go_wp2_with fail
                      refine HTK.out.mono ?_
                      rintro e w7 ⟨rfl, hok7, col7, hE7, hC7⟩
                      have hP7 := HPb.out.step (by rw [bState_length]; exact HBL.out) HBB.out hE7 hC7 hok7
                      rw [← HST.out] at hP7
                      have HP7 := Lib.hid hP7
                      have HF7 := Lib.hid (HFb.out.step hE7)
                      have HT7 := Lib.hid (HTb.out.ext hE7 HPb.out.tint)
                      have HR7 := Lib.hid (HRb.out.ext hE7 HPb.out.tint)
                      have HX7 := Lib.hid (HXb.out.same (hE7.block HXb.out.lt (fun q e => by rw [HNb.out] at e; cases e)))
                      have HN7 : Hid (col7 X = none) := (hE7.old X HXb.out.lt).trans HNb.out
                      clear hok7 hE7 hC7 hP7 HPb HFb HTb HRb HXb HNb HTK kb x0 x1 x2 x3 x4 x5
                      go_wp2_with fail
                      exact ⟨⟨ib + 1, col7, by omega, by push_cast; rfl, HP7, HF7, HT7, HR7, HX7, HN7⟩, by simp [intOf]; omega⟩
                    · obtain rfl : ib = 4 := by omega
                      rw [← HNX3.out] at HPb
                      go_wp2_with fail
                      exact ⟨⟨iv + 1, colb, by omega, by push_cast; rfl, HPb, HFb, HTb⟩, by simp [intOf]; omega⟩
                · obtain rfl : iv = N := by omega
                  rw [← HNX2.out] at HPv
                  go_wp2_with fail
                  exact ⟨⟨ia + 1, colv, by omega, by push_cast; rfl, HPv, HFv⟩, by simp [intOf]; omega⟩
            · obtain rfl : ia = 4 := by omega
              rw [← HNX.out] at HPa
              go_wp2_with fail
              exact ⟨⟨r + 1, cola, by omega, by push_cast; rfl, HPa, HFa⟩, by simp [intOf]; omega⟩
        · obtain rfl : r = 4 := by omega
          obtain ⟨g2, cap2, b3, c3, e1, k3, hb3, hc3, hC3, hok3⟩ := HPr.out.at_ (i := 3) (by rw [rounds_length]; decide)
          have e2 : g2 = g := by injection e1 with e1 _ _; injection e1 with e1; injection e1 with e1; exact e1.symm
          subst e2
          have hend : decidedC c3 = some [119] := by
            have h1 := lives_end
            rw [show livesEnd = rounds 4 livesStart from rfl, hc3] at h1
            exact Option.some.inj h1
          have hd : c3.decided = true ∧ c3.value = [119] := by
            unfold decidedC at hend
            split at hend
            · rename_i hd
              exact ⟨hd, Option.some.inj hend⟩
            · cases hend
          have hDC := decided_any HPr.out.tint hC3 hok3
          rw [hd.1, if_pos rfl, hd.2] at hDC
          have HDC := Lib.hid hDC
          clear e1 hc3 hC3 hok3 hend hd hDC hb3
          go_wp2_with fail
          refine HDC.out.mono ?_
          rintro e w9 ⟨hb9, v9, rfl, hrb9⟩
          have hs := rb_str hrb9
          have HB9 := Lib.hid (HFr.out.below.trans (hb9.mono HFr.out.below.size))
          clear hb9 hrb9 HDC
          have hsd : strB [119] = ByteArray.mk #[119] := by decide
          rw [hsd] at hs
          clear hsd k3
          go_wp2_with fail
          go_ret
          exact ⟨rfl, HB9.out⟩
end Go.Proofs.Ytilhdelijdkjpaa
