/-
  SHA-256: a hash, New, Add.
-/
import Derived.Test.YthefednendgclaaGreatSha2
import Derived.Test.YthefednendgclaaGreatBuf
import Derived.Deep.LoopGhost
set_option linter.unusedVariables false
set_option linter.unusedSimpArgs false
namespace Go.Proofs.YthefednendgclaaGreat
open Go Go.RowKit Sac

/-- The state behind all whole blocks, and what is left. -/
def eat (st rest : List Nat) : List Nat × List Nat := (Sha.blocks (rest.length / 64) st rest, rest.drop (64 * (rest.length / 64)))
theorem eat_lt {st rest : List Nat} (h : rest.length < 64) : eat st rest = (st, rest) := by
  unfold eat
  rw [Nat.div_eq_of_lt h]
  rfl
theorem eat_ge {st rest : List Nat} (h : 64 ≤ rest.length) : eat st rest = eat (Sha.block st (rest.take 64)) (rest.drop 64) := by
  unfold eat
  obtain ⟨k, hk⟩ : ∃ k, rest.length / 64 = k + 1 := ⟨rest.length / 64 - 1, by omega⟩
  have h2 : (rest.drop 64).length / 64 = k := by rw [List.length_drop]; omega
  rw [hk, h2, List.drop_drop, show 64 * (k + 1) = 64 + 64 * k by omega]
  rfl

/-- Block h holds a hash, of the walk's own. -/
def HashAt (w : World) (base h : Nat) (st rest : List Nat) (n : Nat) : Prop := ∃ v : Value, Blk w h 219 (st.map w32 ++ [v, .int .i64 (n : Int)]) ∧ base ≤ h ∧ Buf w base v rest ∧ st.length = 8 ∧ ∀ x ∈ st, x < Sha.M
theorem HashAt.below {w w' : World} {base h n : Nat} {st rest : List Nat} (hh : HashAt w base h st rest n) (hb : Below w.heap.size w w') : HashAt w' base h st rest n := by
  obtain ⟨v, h1, h2, h3, h4⟩ := hh
  exact ⟨v, h1.below hb h1.lt, h2, h3.below hb, h4⟩
theorem HashAt.lt {w : World} {base h n : Nat} {st rest : List Nat} (hh : HashAt w base h st rest n) : base ≤ h ∧ h < w.heap.size := by
  obtain ⟨v, h1, h2, _⟩ := hh
  exact ⟨h2, h1.lt⟩
theorem block_length (st b : List Nat) (h : st.length = 8) : (Sha.block st b).length = 8 := by
  have hr : ∀ (ks ws v : List Nat), v.length = 8 → (Sha.rounds ks ws v).length = 8 := by
    intro ks
    induction ks with
    | nil => intro ws v h; simpa [Sha.rounds] using h
    | cons k ks ih =>
      intro ws v h
      cases ws with
      | nil => simpa [Sha.rounds] using h
      | cons x ws => rw [Sha.rounds]; exact ih ws _ rfl
  unfold Sha.block
  rw [List.length_zipWith, h, hr _ _ _ h]; rfl
theorem block_lt (st b : List Nat) : ∀ x ∈ Sha.block st b, x < Sha.M := by
  intro x hx
  unfold Sha.block at hx
  obtain ⟨i, hi, rfl⟩ := List.getElem_of_mem hx
  rw [List.getElem_zipWith]
  exact Sha.mod_lt _

set_option maxRecDepth 100000 in
set_option maxHeartbeats 4000000 in
theorem hnew_any (w : World) : Calls Tryz.prog 154 #[] w fun e w' => ∃ h, e = .returned (.pointer (some ⟨h, 0, none⟩)) ∧ HashAt w' w.heap.size h Sha.H0 [] 0 ∧ Below w.heap.size w w' := by
  go_enter Tryz.func154, Tryz.ntmps154
  go_wp2_with fail
  refine (first_any w).mono ?_
  rintro e w2 ⟨rfl, hb2⟩
  have HB2 := Lib.hid hb2
  clear hb2
  go_wp2_with (first | (with_reducible refine wpList_build rfl 219 _ rfl (by kernel_rfl) ?_; generalize hE : Option.getD (Program.built _ _ _) #[] = E; obtain rfl : E = (List.map w32 Sha.H0 ++ [Value.slice none 0 0, Value.int .i64 0]).toArray := hE.symm.trans (by kernel_rfl); clear hE))
  go_ret
  exact ⟨_, rfl, ⟨.slice none 0 0, Blk.new w2 _ _, HB2.out.size, Buf.nil _ _, rfl, by decide⟩, HB2.out.alloc HB2.out.size _⟩

set_option maxRecDepth 100000 in
set_option maxHeartbeats 4000000 in
theorem hadd_any (base h : Nat) (st rest : List Nat) (n : Nat) (bv : Value) (bs : List Nat) (w : World) (hh : HashAt w base h st rest n) (hb : RB w bv bs) (hbase : base ≤ w.heap.size) (hlen : rest.length + bs.length ≤ 1000000) (hn : (n : Int) + bs.length ≤ 1000000) :
    Calls Tryz.prog 155 #[.pointer (some ⟨h, 0, none⟩), bv] w fun e w' => e = .returned (.tuple #[]) ∧ HashAt w' base h (eat st (rest ++ bs)).1 (eat st (rest ++ bs)).2 (n + bs.length) ∧ Below base w w' := by
  obtain ⟨v, hB, hbh, hv, hst, hsw⟩ := hh
  obtain ⟨ba, bc, rfl, hbl, hbc, hbn, hbr, hbx⟩ := id hb
  have HRB := Lib.hid hb
  have HB := Lib.hid hB
  have HV := Lib.hid hv
  have HST := Lib.hid hst
  have HSW := Lib.hid hsw
  obtain ⟨bl, hbl'⟩ : ∃ bl, bs.length = bl := ⟨_, rfl⟩
  rw [hbl'] at hbl hn hlen
  have HBL := Lib.hid hbl'
  have c8 : w.cell? ⟨h, 8, none⟩ = some v := by rw [hB.cell, List.getElem?_append_right (by simp [hst])]; simp [hst]
  have c9 : w.cell? ⟨h, 9, none⟩ = some (.int .i64 (n : Int)) := by rw [hB.cell, List.getElem?_append_right (by simp [hst])]; simp [hst]
  have f9 := hB.frozen 9
  rw [hbl']
  have hne : ∀ k, v.ownBlock = some k → k ≠ h := fun k hk e => by
    obtain ⟨cs, fr, hc⟩ := (hv.lt hk).2.2
    subst e
    unfold Blk at hB
    rw [hB] at hc
    injection hc with hc
    injection hc with _ he _
    exact absurd he (by decide)
  have hB1 := hB.set 9 (.int .i64 ((n : Int) + (bl : Int)))
  have e9 : (List.map w32 st ++ [v, Value.int IntKind.i64 (n : Int)]).set 9 (.int .i64 ((n : Int) + (bl : Int))) = List.map w32 st ++ [v, .int .i64 ((n + bl : Nat) : Int)] := by
    rw [List.set_append_right _ _ (by simp [hst])]; simp [hst]
  rw [e9] at hB1
  obtain ⟨w1, hw1⟩ : ∃ w1, w.setCell ⟨h, 9, none⟩ (.int .i64 ((n : Int) + (bl : Int))) = w1 := ⟨_, rfl⟩
  rw [hw1] at hB1
  have hV1 : Buf w1 base v rest := hv.same fun k hk => by rw [← hw1]; exact heap_setCell_other _ _ _ _ (hne k hk)
  have hR1 : RB w1 (.slice ba bl bc) bs := by
    rw [← hbl']
    refine ⟨ba, bc, rfl, by omega, hbc, hbn, ?_, hbx⟩
    rw [← hw1]
    exact hbr.setCell hB (by decide) 9 _
  have hb1 : Below base w w1 := hw1 ▸ (Below.refl _ _).setCell (p := ⟨h, 9, none⟩) hbh _
  have c81 : w1.cell? ⟨h, 8, none⟩ = some v := by rw [hB1.cell, List.getElem?_append_right (by simp [hst])]; simp [hst]
  have HB1 := Lib.hid hB1
  have HV1 := Lib.hid hV1
  have HR1 := Lib.hid hR1
  have HW1 := Lib.hid hb1
  have HNE := Lib.hid hne
  have hbase1 : base ≤ w1.heap.size := Nat.le_trans hbase hb1.size
  clear hB hv hst hsw hb hbn hbr hbx hbl' hB1 e9 hV1 hR1 hb1 hne HB HV HRB
  obtain ⟨L, hL⟩ : ∃ L, (rest ++ bs).length = L := ⟨_, rfl⟩
  have HL := Lib.hid hL
  clear hL
  go_enter Tryz.func155, Tryz.ntmps155
  go_wp2_with (first | (refine wpList_append_buf w1 rfl (.tmp 19) (.tmp 20) rfl base v rest rfl HV1.out (.slice ba bl bc) bs rfl HR1.out (by have := HBL.out; omega) hbase1 ?_; intro v' w2 hbuf hgr hf; obtain ⟨ra, rc, hvv, hr1, hr2⟩ := hbuf.slice; rw [HL.out] at hvv; subst hvv; have HU2 := Lib.hid hbuf; have HB2 : Hid (Blk w2 h 219 (List.map w32 st ++ [v, .int .i64 ((n + bl : Nat) : Int)])) := HB1.out.same (hgr.block h HB1.out.lt (fun e => HNE.out h e.symm rfl)); have HW2 : Hid (Below base w w2) := below_grown HW1.out hgr (fun k hk => (HV1.out.lt hk).1) hbase1; have c82 : w2.cell? ⟨h, 8, none⟩ = some v := (by rw [HB2.out.cell, List.getElem?_append_right (by simp [HST.out])]; simp [HST.out]); have f82 := HB2.out.frozen 8; clear hbuf hgr hf hr1 hr2))
  have HH : Hid (HashAt (w2.setCell ⟨h, 8, none⟩ (.slice ra L rc)) base h st (rest ++ bs) (n + bl)) := by
    have hB3 := HB2.out.set 8 (.slice ra L rc)
    have e8 : (List.map w32 st ++ [v, Value.int IntKind.i64 ((n + bl : Nat) : Int)]).set 8 (.slice ra L rc) = List.map w32 st ++ [.slice ra L rc, .int .i64 ((n + bl : Nat) : Int)] := by
      rw [List.set_append_right _ _ (by simp [HST.out])]; simp [HST.out]
    rw [e8] at hB3
    refine ⟨_, hB3, hbh, HU2.out.same fun k hk => heap_setCell_other _ _ _ _ ?_, HST.out, HSW.out⟩
    intro e
    obtain ⟨cs, fr, hc⟩ := (HU2.out.lt hk).2.2
    have hb := HB2.out
    unfold Blk at hb
    rw [e, hb] at hc
    injection hc with hc
    injection hc with _ he _
    exact absurd he (by decide)
  have HW3 : Hid (Below base w (w2.setCell ⟨h, 8, none⟩ (.slice ra L rc))) := HW2.out.setCell (p := ⟨h, 8, none⟩) hbh _
  generalize w2.setCell ⟨h, 8, none⟩ (.slice ra L rc) = w3 at HH HW3 ⊢
  clear HB2 HU2 HW2 c82 f82 HB1 HV1 HR1 HW1 HNE c8 c9 f9 c81
  obtain ⟨all, hall⟩ : ∃ all, rest ++ bs = all := ⟨_, rfl⟩
  have hal : all.length ≤ 1000000 := by rw [← hall, List.length_append, HBL.out]; exact hlen
  rw [hall] at HH
  have HALL := Lib.hid hall
  clear hall
  clear hw1 HST HSW HL
  go_loopg [24] (all.length + 1) (fun gk _ wr => ∃ st' rest', (rest'.length : Int) < gk ∧ (rest'.length : Int) ≤ 1000000 ∧ Hid (HashAt wr base h st' rest' (n + bl)) ∧ Hid (Below base w wr) ∧ Hid (eat st' rest' = eat st all))
  case atStart => exact ⟨st, all, by omega, by omega, HH.out, HW3.out, rfl⟩
  case round =>
    obtain ⟨st', rest', hgk, hr6, HA, HW, HE⟩ := hrel
    clear HH HW3
    obtain ⟨v', hB, _, hv, hst, hsw⟩ := HA.out
    have c8 : wr.cell? ⟨h, 8, none⟩ = some v' := by rw [hB.cell, List.getElem?_append_right (by simp [hst])]; simp [hst]
    by_cases h64 : 64 ≤ rest'.length
    · obtain ⟨g, off, cap, rfl, hc1, hc2, hrd⟩ := hv.form (by intro h0; rw [h0] at h64; simp at h64)
      have hblk := block_any h st' [.slice (some ⟨g, off, none⟩) rest'.length cap, .int .i64 ((n + bl : Nat) : Int)] ⟨g, off, none⟩ cap (rest'.take 64) wr.drew hst hsw hB.drew (by rw [List.length_take]; omega) (fun x hx => hv.1 x (List.mem_of_mem_take hx)) (by rw [List.map_take]; exact hrd.take 64) (by omega)
      have HK := Lib.hid hblk
      have HV := Lib.hid hv
      have hne : g ≠ h := fun e => by
        obtain ⟨cs, fr, hc⟩ := (hv.lt (k := g) rfl).2.2
        subst e
        unfold Blk at hB
        rw [hB] at hc
        injection hc with hc
        injection hc with _ he _
        exact absurd he (by decide)
      have HNE := Lib.hid hne
      have HST := Lib.hid hst
      have h64i : (64 : Int) ≤ (rest'.length : Int) := by omega
      have hcapi : (64 : Int) ≤ (cap : Int) := by omega
      clear hblk hv hrd hne hB hsw hst
      go_wp2_with fail
      go_still_tail 8, (by kernel_rfl)
      change wpList _ _ _ _ _ wr.drew
      go_wp2_with fail
      refine HK.out.mono ?_
      rintro e w4 ⟨rfl, hB4, ho4⟩
      have HB4 := Lib.hid hB4
      have HV4 : Hid (Buf w4 base (.slice (some ⟨g, off, none⟩) rest'.length cap) rest') := HV.out.same fun k hk => by
        injection hk with hk
        exact ho4.block k ((HV.out.lt (k := k) (by rw [← hk]; rfl)).2.1) (by rw [← hk]; exact HNE.out)
      have HW4 : Hid (Below base w w4) := (bel_drew HW.out).trans (ho4.toBelow (by have := (HV.out.lt (k := g) rfl); show base ≤ wr.heap.size; omega) (fun k hk => by rw [hk]; exact hbh))
      have c84 : w4.cell? ⟨h, 8, none⟩ = some (.slice (some ⟨g, off, none⟩) rest'.length cap) := by rw [hB4.cell, List.getElem?_append_right (by simp [block_length _ _ HST.out])]; simp [block_length _ _ HST.out]
      have f84 := hB4.frozen 8
      clear hB4 ho4 HV HW HK c8 HA
      have HFIN : ∀ (v5 : Value), (∀ k, v5.ownBlock = some k → k = g) → Buf w4 base v5 (rest'.drop 64) → HashAt (w4.setCell ⟨h, 8, none⟩ v5) base h (Sha.block st' (rest'.take 64)) (rest'.drop 64) (n + bl) := fun v5 hk5 hb5 => by
        have hB5 := HB4.out.set 8 v5
        have e8 : (List.map w32 (Sha.block st' (rest'.take 64)) ++ [Value.slice (some ⟨g, off, none⟩) rest'.length cap, Value.int IntKind.i64 ((n + bl : Nat) : Int)]).set 8 v5 = List.map w32 (Sha.block st' (rest'.take 64)) ++ [v5, .int .i64 ((n + bl : Nat) : Int)] := by
          rw [List.set_append_right _ _ (by simp [block_length _ _ HST.out])]; simp [block_length _ _ HST.out]
        rw [e8] at hB5
        exact ⟨_, hB5, hbh, hb5.same fun k hk => heap_setCell_other _ _ _ _ (by rw [hk5 k hk]; exact HNE.out), block_length _ _ HST.out, block_lt _ _⟩
      have HFN := Lib.hid HFIN
      clear HFIN
      by_cases hc0 : cap = 64
      · subst hc0
        have hl0 : rest'.length = 64 := by omega
        have hd0 : rest'.drop 64 = [] := List.drop_eq_nil_of_le (by omega)
        have HD := Lib.hid hd0
        have HLL := Lib.hid hl0
        rw [hl0] at c84
        clear hd0 hl0
        go_wp2_with fail
        go_roundg 1
        case measure => omega
        case rel => exact ⟨Sha.block st' (rest'.take 64), rest'.drop 64, by rw [HD.out]; decide, by rw [HD.out]; decide, HFN.out _ (fun k hk => by injection hk with hk; exact hk.symm) (by rw [HD.out]; exact HV4.out.drop0), HW4.out.setCell (p := ⟨h, 8, none⟩) hbh _, by show _ = _; rw [← eat_ge h64]; exact HE.out⟩
      · have hc1 : cap - 64 ≠ 0 := by omega
        go_wp2_with fail
        go_roundg (rest'.length - 63)
        case measure => omega
        case rel => exact ⟨Sha.block st' (rest'.take 64), rest'.drop 64, by rw [List.length_drop]; omega, by rw [List.length_drop]; omega, HFN.out _ (fun k hk => by injection hk with hk; exact hk.symm) (HV4.out.drop 64 h64), HW4.out.setCell (p := ⟨h, 8, none⟩) hbh _, by show _ = _; rw [← eat_ge h64]; exact HE.out⟩
    · have hlt : rest'.length < 64 := by omega
      obtain ⟨ra, rc, rfl, hr1, hr2⟩ := hv.slice
      have hge : decide ((64 : Int) ≤ (rest'.length : Int)) = false := decide_eq_false (by omega)
      clear hB hv hst hsw
      go_wp2_with fail
      go_end0
      refine ⟨rfl, ?_, HW.out⟩
      rw [HALL.out, ← HE.out, eat_lt hlt]
      exact HA.out
end Go.Proofs.YthefednendgclaaGreat
