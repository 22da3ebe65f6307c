import Derived.Test.YtilhdelijdkjpaaLi
import Derived.Test.YtilhdelijdkjpaaAr
import Derived.Deep.RegionLaw
import Derived.Deep.RegionWith
import Derived.StillTailTactics
set_option linter.unusedVariables false
set_option linter.unusedSimpArgs false
/-
  begin: n peers, of whom at most f are wrong.
-/
namespace Go.Proofs.Ytilhdelijdkjpaa
open Go Go.RowKit Go.Maps Sac

/-- The peers' struct: how many, their cores (in the slice v, at the blocks bl), which are wrong. -/
structure PAt (col : Colour) (w0 w : World) (pb : Nat) (v : Value) (bl : List Nat) (l : List Core) (wrong : List Bool) : Prop where
  pblk : ∃ wb, Blk w pb 64 [.int .i64 (wrong.length : Int), v, .slice (some ⟨wb, 0, none⟩) wrong.length wrong.length] ∧ Blk w wb 4 (wrong.map Value.bool) ∧ col wb = none ∧ w0.heap.size ≤ wb
  own : POwn w w0.heap.size v bl
  peers : Peers notV col w v bl l
  fresh : Fresh0 w0 col w
  unc : col pb = none ∧ w0.heap.size ≤ pb
def cores (n : Nat) (slot : Int) (k : Nat) : List Core := (List.range k).map fun i : Nat => newCore n ((i : Int) + 1) slot
theorem cores_succ (n : Nat) (slot : Int) (k : Nat) : cores n slot (k + 1) = cores n slot k ++ [newCore n ((k : Int) + 1) slot] := by
  unfold cores
  rw [List.range_succ, List.map_append]
  rfl
theorem cores_length (n : Nat) (slot : Int) (k : Nat) : (cores n slot k).length = k := by
  unfold cores
  rw [List.length_map, List.length_range]

theorem Tinted.kept {col : Colour} {w w' : World} {F : Nat → Prop} (ht : Tinted col w) (hO : Only F w w') (hF : ∀ k, F k → col k = none) : Tinted col w' :=
  ⟨fun k q e => Nat.lt_of_lt_of_le (ht.lo k q e) hO.size, fun k q e hE => by
    by_cases hk : F k
    · rw [hF k hk] at e; cases e
    · exact ht.nb k q e (hE.same (hO.block k (ht.lo k q e) hk).symm)⟩
/-- A step that writes only blocks of no core, which hold no bytes: the peers stay. -/
theorem Peers.kept {acc : Bs → Bool} {col : Colour} {w w' : World} {v : Value} {bl : List Nat} {l : List Core} {F : Nat → Prop} (h : Peers acc col w v bl l) (hO : Only F w w') (hF : ∀ k, F k → col k = none ∧ k < w.heap.size ∧ ¬ Ety w k 5 ∧ ¬ Ety w' k 5) (hv : ∀ k, v.ownBlock = some k → ¬ F k) : Peers acc col w' v bl l := by
  obtain ⟨base, hrow⟩ := h.row
  exact ⟨⟨base, own_only hrow hO hv⟩, h.unc, h.tint.kept hO (fun k hk => (hF k hk).1), h.len, fun j cj bj hj hbj => ((h.core j cj bj hj hbj).kept h.tint hO hF).1, h.ok⟩
theorem POwn.ne {w : World} {base : Nat} {v : Value} {bl : List Nat} (h : POwn w base v bl) {k' : Nat} {e : TypeId} {cs : List Value} (hb : Blk w k' e cs) (hne : 26 ≠ e) {k : Nat} (hk : v.ownBlock = some k) : k ≠ k' := by
  obtain ⟨_, h0 | ⟨g, c1, r1, e2, _, hB1, _⟩⟩ := own_elim h
  · rw [h0.1] at hk; cases hk
  · rw [e2] at hk
    injection hk with hk
    subst hk
    exact hB1.ety.ne hb hne
theorem blk_ext {G : Nat × Nat → Prop} {col col' : Colour} {w w' : World} {k : Nat} {e : TypeId} {cs : List Value} (h : Blk w k e cs) (hE : Ext G col w col' w') (hc : col k = none) : Blk w' k e cs :=
  h.only hE.only (fun ⟨q, e, _⟩ => by rw [hc] at e; cases e)
theorem blk_grown {w w' : World} {k : Nat} {e : TypeId} {cs : List Value} {row : Option Nat} (h : Blk w k e cs) (hg : w.grownBy w' row) (hn : row ≠ some k) : Blk w' k e cs :=
  h.same (hg.block k h.lt (fun e => hn e.symm))

/-- One core more. -/
theorem PAt.more {col col' : Colour} {w0 wr w2 w4 : World} {pb b : Nat} {v v' : Value} {bl : List Nat} {l : List Core} {wrong : List Bool} {c : Core} {o : Obj} {i : Nat} (h : PAt col w0 wr pb v bl l wrong) (hi : l.length = i)
    (hE : Ext (fun q => q.1 = i) col wr.drew col' w2) (hC : CoreAt notV col' i w2 b c) (hok : CoreOk c) (hown : POwn w4 w0.heap.size v' (bl ++ [b])) (hg : (w2.alloc o).grownBy w4 v.ownBlock)
    (hf : ∀ k, v'.ownBlock = some k → v.ownBlock = some k ∨ (w2.alloc o).heap.size ≤ k) (hety : ∀ k, v.ownBlock = some k → Ety w4 k 26) :
    PAt col' w0 (w4.setCell ⟨pb, 1, none⟩ v') pb v' (bl ++ [b]) (l ++ [c]) wrong := by
  subst hi
  obtain ⟨wb, hB1, hB2, hc2, hw2⟩ := h.pblk
  have hD : Below wr.heap.size wr wr.drew := (Below.refl _ wr).drew
  have hP2 := (h.peers.moved hD).other hE (fun j p hj e => by dsimp only at e; omega)
  have hP3 := hP2.moved ((Below.refl _ w2).alloc (Nat.le_refl _) o)
  have hC3 := hC.below hE.tint ((Below.refl _ w2).alloc (Nat.le_refl _) o)
  have hP4 := hP3.snoc hC3 hok hown hg hf hety
  have cp : col' pb = none := by rw [hE.old pb hB1.lt]; exact h.unc.1
  have cw : col' wb = none := by rw [hE.old wb hB2.lt]; exact hc2
  have hO2 : POwn w2 w0.heap.size v bl := own_ext (own_only h.own (Only.below (F := fun _ => False) hD) (fun _ _ hf => hf)) hE h.peers.unc
  have n1 : v.ownBlock ≠ some pb := fun e => h.own.ne hB1 (by decide) e rfl
  have n2 : v.ownBlock ≠ some wb := fun e => h.own.ne hB2 (by decide) e rfl
  have q1 : Blk w4 pb _ _ := blk_grown ((blk_ext hB1.drew hE h.unc.1).alloc o) hg n1
  have q2 : Blk w4 wb _ _ := blk_grown ((blk_ext hB2.drew hE hc2).alloc o) hg n2
  have hs : Only (fun k => k = pb) w4 (w4.setCell ⟨pb, 1, none⟩ v') := (Only.refl (fun k => k = pb) w4).setCell (p := ⟨pb, 1, none⟩) (fun _ => rfl) v'
  have q3 := q1.set 1 v'
  refine ⟨⟨wb, q3, q2.other _ _ (q2.ety.ne q1 (by decide)), cw, hw2⟩, own_only hown hs (fun k hk e => hown.ne q1 (by decide) hk e), hP4.kept hs (fun k e => ?_) (fun k hk e => hown.ne q1 (by decide) hk e), ?_, cp, h.unc.2⟩
  · subst e
    exact ⟨cp, q1.lt, fun hE => absurd (Ety.uniq hE q1.ety) (by decide), fun hE => absurd (Ety.uniq hE q3.ety) (by decide)⟩
  · have f2 := (h.fresh.moved (hD.mono h.fresh.below.size)).step hE
    refine f2.moved ?_
    have hb0 := f2.below.size
    refine Below.setCell ?_ h.unc.2 v'
    exact ((Only.refl (fun k => w0.heap.size ≤ k) w2).alloc o |>.grown hg (fun k e _ => (h.own.lt k e).1)).toBelow hb0 (fun _ hk => hk)

theorem step_append_core {w : World} {ops : Array Oper} {o : Oper} {a : Act} {K : Act → World → Prop} {Q : Exit → Act → World → Prop} {E : Prop} (hg : o.guard = none) (s x : Operand)
    (hop : o.op = Op.call { callee := Callee.builtin Builtin.append, args := #[s, x], argTypes := #[61, 61] })
    (base : Nat) (v : Value) (bl : List Nat) (hs : a.eval s = v) (hown : POwn w base v bl) (g b : Nat) (hx : a.eval x = .slice (some ⟨g, 0, none⟩) 1 1) (hgb : Blk w g 26 [ptr b]) (hlen : bl.length ≤ 1000) (hbase : base ≤ w.heap.size)
    (h : ∀ v' w', POwn w' base v' (bl ++ [b]) → w.grownBy w' v.ownBlock → (∀ k, v'.ownBlock = some k → v.ownBlock = some k ∨ w.heap.size ≤ k) → (∀ k, v.ownBlock = some k → Ety w' k 26) → K (a.put o.dst v') w') :
    if Region.wanted o (yielded ops a.tmps) = true then Oper.wp Try.prog o a w K Q else E := by
  rw [if_pos (by simp [Region.wanted, hg])]
  obtain ⟨v', w', hr, h1, h2, h3, h4⟩ := append_core w base o.type v bl hown g b hgb hlen hbase
  unfold Oper.wp execOp
  simp only [hop, resolve, invoke, builtin, Sem.run_bind, Sem.run_pure, Result.andThen_ok, List.map_toArray, List.map_cons, List.map_nil, hs, hx, hr]
  exact h v' w' h1 h2 h3 h4

theorem countP_set_true : ∀ (l : List Bool) (i : Nat), (l.set i true).countP id ≤ l.countP id + 1
  | [], _ => by simp
  | b :: l, 0 => by cases b <;> simp
  | b :: l, i + 1 => by
    have := countP_set_true l i
    rw [List.set_cons_succ, List.countP_cons, List.countP_cons]
    omega

/-- Between begin's first rounds: which are wrong. -/
def BegAt (n wb pb : Nat) (w : World) (i : Nat) (wr : World) : Prop := ∃ wrong : List Bool, wrong.length = n ∧ (wrong.countP id ≤ (n - 1) / 3 ∧ wrong.countP id ≤ i) ∧ Blk wr wb 4 (wrong.map Value.bool) ∧ Blk wr pb 64 [.int .i64 (n : Int), .slice none 0 0, .slice (some ⟨wb, 0, none⟩) n n] ∧ Below w.heap.size w wr

theorem beg_start {n wb : Nat} {w wM : World} (h : Blk wM wb 4 (List.replicate n (Value.bool false))) (hb : Below w.heap.size w wM) : BegAt n wb wM.heap.size w 0 (wM.alloc (.cells #[.int .i64 (n : Int), .slice none 0 0, .slice (some ⟨wb, 0, none⟩) n n] 64)) :=
  ⟨List.replicate n false, List.length_replicate, ⟨by rw [List.countP_replicate]; simp, by rw [List.countP_replicate]; simp⟩, by rw [List.map_replicate]; exact h.alloc _, Blk.new _ _ _, hb.alloc hb.size _⟩
theorem BegAt.up {n wb pb i : Nat} {w wr : World} (h : BegAt n wb pb w i wr) : BegAt n wb pb w (i + 1) wr := by
  obtain ⟨wrong, h1, h2, h3⟩ := h
  exact ⟨wrong, h1, ⟨h2.1, Nat.le_succ_of_le h2.2⟩, h3⟩
theorem beg_next {n wb pb k z i : Nat} {w wr : World} {wrong : List Bool} (h1 : wrong.length = n) (hci : wrong.countP id ≤ i) (hB1 : Blk wr wb 4 (wrong.map Value.bool)) (hB2 : Blk wr pb 64 [.int .i64 (n : Int), .slice none 0 0, .slice (some ⟨wb, 0, none⟩) n n]) (hBel : Below w.heap.size w wr)
    (hk : (wrong.take n).countP id = k) (hq : (k : Int) < ((n : Int) - 1) / 3) (hwb : w.heap.size ≤ wb) : BegAt n wb pb w (i + 1) ((wr.setCell ⟨wb, z, none⟩ (.bool true)).drew) := by
  refine ⟨wrong.set z true, by rw [List.length_set]; exact h1, ?_, ?_, hB2.other _ _ (hB2.ety.ne hB1 (by decide)), (hBel.setCell hwb _).drew⟩
  · have := countP_set_true wrong z
    rw [← h1, List.take_length] at hk
    exact ⟨by omega, by omega⟩
  · rw [List.map_set]
    exact hB1.set z _
theorem beg_peers {n wb pb : Nat} {slot : Int} {w wr : World} {wrong : List Bool} (h1 : wrong.length = n) (hB1 : Blk wr wb 4 (wrong.map Value.bool)) (hB2 : Blk wr pb 64 [.int .i64 (n : Int), .slice none 0 0, .slice (some ⟨wb, 0, none⟩) n n]) (hBel : Below w.heap.size w wr)
    (hwb : w.heap.size ≤ wb) (hpb : w.heap.size ≤ pb) : ∃ col v bl, PAt col w wr pb v bl (cores n slot 0) wrong := by
  subst h1
  exact ⟨fun _ => none, _, [], ⟨wb, hB2, hB1, rfl, hwb⟩, World.ownsRow_nil _ _ _ _, ⟨⟨w.heap.size, World.ownsRow_nil _ _ _ _⟩, fun k hk => (by cases hk), tint_none _, rfl, fun i c b hi => (by cases hi), fun c hc => (by cases hc)⟩, ⟨hBel, fun _ _ => rfl⟩, rfl, hpb⟩
def BegPost (n : Nat) (slot : Int) (len : Nat) (w : World) (e : Ending) (w' : World) : Prop := ∃ pb, e = .returned (ptr pb) ∧ ∃ col v bl wrong, wrong.length = n ∧ (wrong.countP id ≤ (n - 1) / 3 ∧ wrong.countP id ≤ len) ∧ PAt col w w' pb v bl (cores n slot n) wrong
def vint : Value → Int
  | .int _ x => x
  | _ => 0
set_option maxRecDepth 100000 in
set_option maxHeartbeats 8000000 in
theorem begin_any (n : Nat) (slot : Int) (a : Option Addr) (len cap : Nat) (zs : List Int) (w : World) (hn : 4 ≤ n ∧ n ≤ 10) (hs : 0 ≤ slot ∧ slot ≤ 256) (hlen : len ≤ 20)
    (hz : (a = none ∧ len = 0 ∧ cap = 0 ∧ zs = []) ∨ ∃ x, a = some x ∧ len ≤ cap ∧ cap ≤ maxLen ∧ zs.length = cap ∧ (∀ i, i < zs.length → w.cell? (x.add i) = some (.int .i64 (zs.getD i 0))) ∧ ∀ n ∈ zs, (Lit.int .i64 n).wf = true) :
    Calls Try.prog 28 #[.int .i64 (n : Int), .int .i64 slot, .slice a len cap] w (BegPost n slot len w) := by
  have HZ := Lib.hid hz
  clear hz
  go_enter Try.func28, Try.ntmps28
  go_wp2_with (first | (refine wpList_make_blk _ rfl (.tmp 15) (.tmp 15) 62 rfl 4 (.bool false) 1 Try.underlying62 (by kernel_rfl) rfl .i64 .i64 (n : Int) (n : Int) n rfl rfl rfl rfl (by omega) (by unfold maxLen; omega) ?_; intro wM hblkM hbM; have HBLKM := Lib.hid hblkM; have HBM := Lib.hid hbM; clear hblkM hbM))
  go_loopw [21] (fun u wr => ∃ i : Nat, i ≤ len ∧ u = .int .i64 (i : Int) ∧ Hid (BegAt n w.heap.size wM.heap.size w i wr)) (fun u _ => len - (vint u).toNat)
  case atStart => exact ⟨0, Nat.zero_le _, rfl, beg_start HBLKM.out HBM.out⟩
  case round =>
    obtain ⟨i, hi, rfl, HB⟩ := hrel
    obtain ⟨wrong, hwl, hwc, hB1, hB2, hBel⟩ := HB.out
    by_cases hlt : (i : Int) < (len : Int)
    · obtain ⟨x, z, rfl, hz, hzw⟩ : ∃ x z, a = some x ∧ wr.cell? (x.add i) = some (.int .i64 z) ∧ (Lit.int .i64 z).wf = true := by
        rcases HZ.out with ⟨_, rfl, _⟩ | ⟨x, rfl, h1, h2, h3, h4, h5⟩
        · omega
        · have hil : i < zs.length := by omega
          exact ⟨x, zs.getD i 0, rfl, (World.cell?_of_block (w := w) (hBel.block _ (cell_lt (h4 i hil)))).trans (h4 i hil), h5 _ (by rw [List.getD_eq_getElem?_getD, List.getElem?_eq_getElem hil]; exact List.getElem_mem hil)⟩
      have HWL := Lib.hid hwl
      have HWC := Lib.hid hwc
      have HB1 := Lib.hid hB1
      have HB2 := Lib.hid hB2
      have HBEL := Lib.hid hBel
      have hc2 := hB2.cell 2
      have hc0 := hB2.cell 0
      simp only [List.getElem?_cons_succ, List.getElem?_cons_zero] at hc2 hc0
      obtain ⟨zr, hzr⟩ : ∃ zr : Nat, (IntKind.u64.wrap z).tmod (n : Int) = (zr : Int) := ⟨((IntKind.u64.wrap z).tmod (n : Int)).toNat, by rw [IntKind.wrap_u64, Int.tmod_eq_emod_of_nonneg (by omega)]; have := Int.emod_nonneg (z % 18446744073709551616) (show (n : Int) ≠ 0 by omega); omega⟩
      have hzrl : zr < n := by
        rw [IntKind.wrap_u64, Int.tmod_eq_emod_of_nonneg (by omega)] at hzr
        have := Int.emod_lt_of_pos (z % 18446744073709551616) (show (0 : Int) < (n : Int) by omega)
        omega
      have x4 : IntKind.u64.wrap (n : Int) = (n : Int) := by rw [IntKind.wrap_u64]; omega
      have x5 : IntKind.u64.wrap (zr : Int) = (zr : Int) := by rw [IntKind.wrap_u64]; omega
      have x6 : IntKind.i64.wrap (zr : Int) = (zr : Int) := by rw [IntKind.wrap_i64]; omega
      have y1 : (n : Int) ≠ 0 := by omega
      have y2 : ((n : Int) == 0) = false := by simp; omega
      have y3 : n ≠ 0 := by omega
      clear hwl hwc hB1 hB2 hBel
      go_wp2_with fail
      go_loopw [10, 30] (fun u v wr' => ∃ j k : Nat, j ≤ n ∧ k ≤ j ∧ u = .int .i64 (k : Int) ∧ v = .int .i64 (j : Int) ∧ Hid ((wrong.take j).countP id = k) ∧ wr' = wr) (fun _ v _ => n - (vint v).toNat)
      case atStart => exact ⟨0, 0, Nat.zero_le _, Nat.le_refl _, rfl, rfl, rfl, rfl⟩
      case round =>
        obtain ⟨j, k, hj, hkj, rfl, rfl, HK, rfl⟩ := hrel
        by_cases hjn : (j : Int) < (n : Int)
        · obtain ⟨b, hb⟩ : ∃ b, wrong[j]? = some b := ⟨_, List.getElem?_eq_getElem (by have := HWL.out; omega)⟩
          have hcj := HB1.out.cell j
          rw [List.getElem?_map, hb, Option.map_some] at hcj
          have hcnt : (wrong.take (j + 1)).countP id = (wrong.take j).countP id + (if b then 1 else 0) := by
            rw [List.take_add_one, List.countP_append, hb]
            cases b <;> rfl
          have HC := Lib.hid hcnt
          have HBJ := Lib.hid hb
          clear hcnt hb
          cases b with
          | true =>
            go_wp2_with fail
            exact ⟨⟨j + 1, k + 1, by omega, by omega, by push_cast; rfl, by push_cast; rfl, by show _ = _; rw [HC.out, HK.out]; rfl, trivial⟩, by simp [vint]; omega⟩
          | false =>
            go_wp2_with fail
            exact ⟨⟨j + 1, k, by omega, by omega, rfl, by push_cast; rfl, by show _ = _; rw [HC.out, HK.out]; rfl, trivial⟩, by simp [vint]; omega⟩
        · obtain rfl : n = j := by omega
          by_cases hq : (k : Int) < ((n : Int) - 1) / 3
          · have hd : decide ((k : Int) < ((n : Int) - 1) / 3) = true := decide_eq_true hq
            have hcz : wr.drew.cell? ⟨w.heap.size, zr, none⟩ = some (.bool (wrong.getD zr false)) := by
              show wr.cell? _ = _
              rw [HB1.out.cell, List.getElem?_map, List.getElem?_eq_getElem (by have := HWL.out; omega), Option.map_some, List.getD_eq_getElem?_getD, List.getElem?_eq_getElem (by have := HWL.out; omega)]
              rfl
            have hfz : wr.drew.frozen? ⟨w.heap.size, zr, none⟩ = false := HB1.out.frozen _
            go_wp2_with fail
            go_still_tail 11, (by kernel_rfl)
            change wpList _ _ _ _ _ wr.drew
            go_wp2_with fail
            exact ⟨⟨i + 1, by omega, by push_cast; rfl, beg_next HWL.out HWC.out.2 HB1.out HB2.out HBEL.out HK.out hq (Nat.le_refl _)⟩, by simp [vint]; omega⟩
          · have hd : decide ((k : Int) < ((n : Int) - 1) / 3) = false := decide_eq_false hq
            go_wp2_with fail
            exact ⟨⟨i + 1, by omega, by push_cast; rfl, HB.out.up⟩, by simp [vint]; omega⟩
    · obtain rfl : i = len := by omega
      have HN := Lib.hid hwl
      have HC := Lib.hid hwc
      have HP := Lib.hid (beg_peers (slot := slot) hwl hB1 hB2 hBel (Nat.le_refl _) (Nat.le_of_lt HBLKM.out.lt))
      clear HB hwl hwc hB1 hB2 hBel HZ HBM HBLKM
      go_wp2_with fail
      go_loopw [56] (fun u wx => ∃ i : Nat, i ≤ n ∧ u = .int .i64 (i : Int) ∧ Hid (∃ col v bl, PAt col w wx wM.heap.size v bl (cores n slot i) wrong)) (fun u _ => n - (vint u).toNat)
      case atStart => exact ⟨0, Nat.zero_le _, rfl, HP.out⟩
      case round =>
        obtain ⟨i, hi, rfl, HB⟩ := hrel
        by_cases hlt : (i : Int) < (n : Int)
        · rename World => wx
          obtain ⟨col, v, bl, hP⟩ := HB.out
          have hln : bl.length = i := by rw [hP.peers.len, cores_length]
          obtain ⟨va, vc, rfl, hvc⟩ := hP.own.form
          rw [hln] at hP hvc
          obtain ⟨wb, hB1, hB2, hc2, hw2⟩ := hP.pblk
          have c1 : wx.cell? ⟨wM.heap.size, 1, none⟩ = some (.slice va i vc) := hB1.cell 1
          have d1 : wx.drew.cell? ⟨wM.heap.size, 1, none⟩ = some (.slice va i vc) := hB1.cell 1
          have HPP := Lib.hid hP
          have HB1 := Lib.hid hB1
          have HLN := Lib.hid hln
          have HNEW := Lib.hid (new_any (acc := notV) i (w := wx.drew) (n := (n : Int)) (me := (i : Int) + 1) (slot := slot) (hP.peers.moved ((Below.refl _ wx).drew)).tint not_acc (by omega) (by omega) hs)
          have x1 : IntKind.i64.wrap ((i : Int) + 1) = (i : Int) + 1 := by rw [IntKind.wrap_i64]; omega
          have HOK := Lib.hid (newCore_ok (n := (n : Int)) (me := (i : Int) + 1) (slot := slot) (by omega) (by omega) hs)
          clear hB1 hB2 hc2 hw2 hP hln HB HP
          go_wp2_with fail
          go_region_law
            (first
              | (go_simp; go_at_call 14; refine HNEW.out.mono ?_; rintro e w2 ⟨b, col', rfl, hbb, hE, hC⟩; have g1 : w2.cell? ⟨wM.heap.size, 1, none⟩ = some (.slice va i vc) := (blk_ext HB1.out.drew hE HPP.out.unc.1).cell 1; have a1 := Lib.cell?_alloc_some (.cells #[ptr b] 26) g1; have HE := Lib.hid hE; have HCC := Lib.hid hC; clear hE hC hbb)
              | (refine step_append_core rfl (.tmp 63) (.tmp 69) rfl w.heap.size (.slice va i vc) bl rfl ((own_ext (own_only HPP.out.own (Only.below (F := fun _ => False) ((Below.refl _ wx).drew)) (fun _ _ hf => hf)) HE.out HPP.out.peers.unc |> fun h => own_only h ((Only.refl (fun _ => False) w2).alloc (.cells #[ptr b] 26)) (fun _ _ hf => hf))) w2.heap.size b rfl (Blk.new w2 [ptr b] 26) (by rw [HLN.out]; omega) (Nat.le_trans ((HPP.out.fresh.moved ((Below.refl _ wx).drew.mono HPP.out.fresh.below.size)).step HE.out).below.size (by simp)) ?_; intro v' w7 hown hgr hf hety; obtain ⟨ya, yc, rfl, hy1, hy2⟩ := hown.form; have hkb : Blk w7 wM.heap.size _ _ := blk_grown ((blk_ext HB1.out.drew HE.out HPP.out.unc.1).alloc (.cells #[ptr b] 26)) hgr (fun e => HPP.out.own.ne HB1.out (by decide) e rfl); have k1 : w7.cell? ⟨wM.heap.size, 1, none⟩ = some (.slice va i vc) := hkb.cell 1; have k2 := hkb.frozen 1; have HX := Lib.hid (PAt.more HPP.out (cores_length n slot i) HE.out HCC.out HOK.out hown hgr hf hety); clear hown hgr hf hety hkb)
              | fail)
          all_goals
            go_wp2_with fail
            have hx7 := HX.out
            rw [List.length_append, List.length_singleton, ← cores_succ] at hx7
            exact ⟨⟨i + 1, by omega, by push_cast; rfl, col', _, bl ++ [b], hx7⟩, by simp [vint]; omega⟩
        · obtain rfl : n = i := by omega
          go_wp2_with fail
          go_ret
          obtain ⟨col, v, bl, hP⟩ := HB.out
          exact ⟨_, rfl, col, v, bl, wrong, HN.out, HC.out, hP⟩
end Go.Proofs.Ytilhdelijdkjpaa
/-
  The peers' struct: what a step leaves of it.
-/
namespace Go.Proofs.Ytilhdelijdkjpaa
open Go Go.RowKit Go.Maps Sac

theorem PAt.moved {col : Colour} {w0 w w' : World} {pb : Nat} {v : Value} {bl : List Nat} {l : List Core} {wrong : List Bool} (h : PAt col w0 w pb v bl l wrong) (hb : Below w.heap.size w w') : PAt col w0 w' pb v bl l wrong := by
  obtain ⟨wb, hB1, hB2, hc2, hw2⟩ := h.pblk
  exact ⟨⟨wb, hB1.below hb hB1.lt, hB2.below hb hB2.lt, hc2, hw2⟩, own_only h.own (Only.below (F := fun _ => False) hb) (fun _ _ hf => hf), h.peers.moved hb, h.fresh.moved (hb.mono h.fresh.below.size), h.unc⟩
theorem PAt.step {col col' : Colour} {w0 w w' : World} {pb : Nat} {v : Value} {bl : List Nat} {l : List Core} {wrong : List Bool} (h : PAt col w0 w pb v bl l wrong) {i b : Nat} {c c' : Core} (hi : l[i]? = some c) (hb : bl[i]? = some b)
    (hE : Ext (fun q => q.1 = i) col w col' w') (hC : CoreAt notV col' i w' b c') (hok : CoreOk c') : PAt col' w0 w' pb v bl (l.set i c') wrong := by
  obtain ⟨wb, hB1, hB2, hc2, hw2⟩ := h.pblk
  exact ⟨⟨wb, blk_ext hB1 hE h.unc.1, blk_ext hB2 hE hc2, by rw [hE.old wb hB2.lt]; exact hc2, hw2⟩, own_ext h.own hE h.peers.unc, h.peers.step (List.getElem?_eq_some_iff.1 hi).1 hb hE hC hok, h.fresh.step hE, by rw [hE.old pb hB1.lt]; exact h.unc.1, h.unc.2⟩
/-- Another core at a place: the pointer in the row is written anew. -/
theorem PAt.put {col col' : Colour} {w0 w w2 : World} {pb g m cap b' : Nat} {bl : List Nat} {l : List Core} {wrong : List Bool} (h : PAt col w0 w pb (.slice (some ⟨g, 0, none⟩) m cap) bl l wrong) {i : Nat} {c c' : Core} (hi : l[i]? = some c)
    (hE : Ext (fun q => q.1 = i) col w col' w2) (hC : CoreAt notV col' i w2 b' c') (hok : CoreOk c') : PAt col' w0 (w2.setCell ⟨g, i, none⟩ (ptr b')) pb (.slice (some ⟨g, 0, none⟩) m cap) (bl.set i b') (l.set i c') wrong := by
  obtain ⟨wb, hB1, hB2, hc2, hw2⟩ := h.pblk
  have hil : i < bl.length := by rw [h.peers.len]; exact (List.getElem?_eq_some_iff.1 hi).1
  have cp : col' pb = none := by rw [hE.old pb hB1.lt]; exact h.unc.1
  have cw : col' wb = none := by rw [hE.old wb hB2.lt]; exact hc2
  have q1 : Blk w2 pb _ _ := blk_ext hB1 hE h.unc.1
  have q2 : Blk w2 wb _ _ := blk_ext hB2 hE hc2
  have hO2 : POwn w2 w0.heap.size _ bl := own_ext h.own hE h.peers.unc
  have cg : col' g = none := by rw [hE.old g (own_block_lt h.own rfl)]; exact h.peers.unc g rfl
  have hu : ∀ k, (Value.slice (some ⟨g, 0, none⟩) m cap).ownBlock = some k → col' k = none := fun k hk => by cases hk; exact cg
  have n1 : g ≠ pb := hO2.ne q1 (by decide) rfl
  have n2 : g ≠ wb := hO2.ne q2 (by decide) rfl
  have hx := hO2
  obtain ⟨hxl, ⟨e0, _⟩ | ⟨g', cap', rest, e1, hgb, hB, hn, hc, hl⟩⟩ := own_elim hx
  · cases e0
  · injection e1 with e1 e2 e3
    injection e1 with e1
    injection e1 with e1
    subst e1 e2 e3
    have hs : Only (fun k => k = g) w2 (w2.setCell ⟨g, i, none⟩ (ptr b')) := (Only.refl (fun k => k = g) w2).setCell (p := ⟨g, i, none⟩) (fun _ => rfl) _
    have q3 : Blk (w2.setCell ⟨g, i, none⟩ (ptr b')) g 26 ((bl.set i b').map ptr ++ rest) := by
      have := hB.set i (ptr b')
      rwa [List.set_append_left _ _ (by rw [List.length_map]; exact hil), ← List.map_set] at this
    have hown : POwn (w2.setCell ⟨g, i, none⟩ (ptr b')) w0.heap.size (.slice (some ⟨g, 0, none⟩) bl.length cap) (bl.set i b') := by
      have := own_intro (n := (bl.set i b').length) hgb q3 (by rw [List.length_set]; exact hn) hc (by rw [← hl]; simp) (by simp)
      unfold POwn
      rw [List.length_set] at this ⊢
      exact this
    have hF : ∀ k, k = g → col' k = none ∧ k < w2.heap.size ∧ ¬ Ety w2 k 5 ∧ ¬ Ety (w2.setCell ⟨g, i, none⟩ (ptr b')) k 5 := fun k e => by
      subst e
      exact ⟨cg, hB.lt, fun hE => absurd (Ety.uniq hE hB.ety) (by decide), fun hE => absurd (Ety.uniq hE q3.ety) (by decide)⟩
    refine ⟨⟨wb, q1.other _ _ (fun e => n1 e.symm), q2.other _ _ (fun e => n2 e.symm), cw, hw2⟩, hown, ⟨⟨_, hown⟩, hu, hE.tint.kept hs (fun k e => (hF k e).1), by rw [List.length_set, List.length_set]; exact h.peers.len, fun j cj bj hj hbj => ?_, fun d hd => ?_⟩, (h.fresh.step hE).moved ((Below.refl _ w2).setCell hgb _), cp, h.unc.2⟩
    · rw [List.getElem?_set] at hj hbj
      by_cases e : i = j
      · subst e
        rw [if_pos rfl, if_pos (List.getElem?_eq_some_iff.1 hi).1] at hj
        rw [if_pos rfl, if_pos hil] at hbj
        rw [← Option.some.inj hj, ← Option.some.inj hbj]
        exact (hC.kept hE.tint hs hF).1
      · rw [if_neg e] at hj hbj
        exact (((h.peers.core j cj bj hj hbj).ext hE h.peers.tint (fun p hp => e hp.symm)).kept hE.tint hs hF).1
    · rcases List.mem_or_eq_of_mem_set hd with h2 | h2
      · exact h.peers.ok d h2
      · rw [h2]; exact hok
end Go.Proofs.Ytilhdelijdkjpaa
