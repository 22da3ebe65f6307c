/-
  The law QueuePlays: its walk.
-/
import Derived.Test.YtdbpcogbednokaaDp
import Derived.Deep.CutRange
import Derived.Deep.CutBlock
set_option linter.unusedVariables false
set_option linter.unusedSimpArgs false
namespace Go.Proofs.Ytdbpcogbednokaa
open Go.RowKit

set_option maxRecDepth 100000 in
set_option maxHeartbeats 1000000 in
theorem plays_long (a : Option Addr) (len cap : Nat) (w : World) (hlong : (120 : Int) < (len : Int)) :
    Calls Try.prog 7 #[.slice a len cap] w (Gives (.bool true) fun w' => Below w.heap.size w w') := by
  go_enter Try.func7, Try.ntmps7
  go_wp2_with fail
  refine (lives_any _).mono ?_
  rintro e w1 ⟨rfl, hb1⟩
  go_wp2_with fail
  refine (lives_any _).mono ?_
  rintro e w2 ⟨rfl, hb2⟩
  go_wp2_with fail
  go_ret
  exact ⟨rfl, hb1.trans (hb2.mono hb1.size)⟩

set_option maxRecDepth 100000 in
set_option maxHeartbeats 4000000 in
theorem plays_some (a : Option Addr) (len cap : Nat) (K U X : Nat → Int) (w : World) (hlong : ¬ (120 : Int) < (len : Int)) (hA : Acts w a len K U X) :
    Calls Try.prog 7 #[.slice a len cap] w (Gives (.bool true) fun w' => Below w.heap.size w w') := by
  have HA := Lib.hid hA
  clear hA
  go_enter Try.func7, Try.ntmps7
  go_wp2_with fail
  refine (lives_any _).mono ?_
  rintro e w1 ⟨rfl, hb1⟩
  go_wp2_with fail
  refine (new_any w1).mono ?_
  rintro e w2 ⟨rfl, hb2, hQ2⟩
  obtain ⟨B, hB⟩ : ∃ B, w1.heap.size = B := ⟨_, rfl⟩
  have hwB : w.heap.size ≤ B := by rw [← hB]; exact hb1.size
  have hB2 : B ≤ w2.heap.size := by rw [← hB]; exact hb2.size
  have HW2 : Hid (Below w.heap.size w w2) := hb1.trans (hb2.mono hb1.size)
  rw [hB] at hQ2 ⊢
  have HI : Hid (BothF (fun k => B ≤ k ∧ k < w2.heap.size) (.slice none 0 0) B B w2.heap.size (sortS []) [] 0 (w2.alloc (.cells #[.slice none 0 0] 40))) := by
    refine ⟨hQ2.narrow2.only ((Only.refl (fun _ => False) w2).alloc _) (fun _ _ h => h), ⟨Blk.new w2 [.slice none 0 0] 40, World.ownsRow_nil _ _ _ _, fun k hk => (by cases hk), ⟨⟨fun h => (by omega), hB2⟩, fun k hk => (by cases hk)⟩⟩, fun k hk => ⟨hk.1, by rw [World.size_alloc]; omega⟩, by rw [World.size_alloc]; omega⟩
  have HW3 : Hid (Below w.heap.size w (w2.alloc (.cells #[.slice none 0 0] 40))) := HW2.out.alloc (by omega) _
  obtain ⟨bw, hbw⟩ : ∃ bw, w2.heap.size = bw := ⟨_, rfl⟩
  have HBW := Lib.hid hbw
  clear hQ2 hb1 hb2 hB HW2 hbw
  go_wp2_with fail
  rw [HBW.out]
  rw [HBW.out] at HI
  go_loopw [38] (fun u wr => ∃ (k m : Nat) (F : Nat → Prop) (v : Value) (D : List (Int × Int)), k ≤ len ∧ u = .int .i64 k ∧ D.length ≤ k ∧ m ≤ k ∧ Hid (BothF F v B B bw (sortS D) D m wr) ∧ Hid (Below w.heap.size w wr)) (fun u _ => len - (intOf u).toNat)
  case atStart => exact ⟨0, 0, _, _, [], Nat.zero_le _, rfl, Nat.le_refl _, Nat.le_refl _, HI.out, HW3.out⟩
  case round =>
    obtain ⟨k, m, F, v, D, hk, rfl, hDk, hm, HQ, HW⟩ := hrel
    clear HI HW3 HBW
    by_cases hlt : (k : Int) < (len : Int)
    · obtain ⟨b, off, rfl, hbl, hcells⟩ : ∃ b off, a = some ⟨b, off, none⟩ ∧ b < w.heap.size ∧ ∀ i, i < len → w.cell? ⟨b, off + i * 3, none⟩ = some (.int .i64 (K i)) ∧ w.cell? ⟨b, off + i * 3 + 1, none⟩ = some (.int .i64 (U i)) ∧ w.cell? ⟨b, off + i * 3 + 2, none⟩ = some (.int .i64 (X i)) := by
        rcases HA.out with h | h
        · omega
        · exact h
      obtain ⟨c0, c1, c2⟩ := hcells k (by omega)
      obtain ⟨kd, hkd⟩ : ∃ x, K k = x := ⟨_, rfl⟩
      obtain ⟨du, hdu⟩ : ∃ x, U k = x := ⟨_, rfl⟩
      obtain ⟨ax, hax⟩ : ∃ x, X k = x := ⟨_, rfl⟩
      have k0 : wr.cell? ⟨b, off + k * 3, none⟩ = some (.int .i64 kd) := by rw [← hkd, ← c0]; exact HW.out.cell (p := ⟨b, off + k * 3, none⟩) hbl
      have k1 : wr.cell? ⟨b, off + k * 3 + 1, none⟩ = some (.int .i64 du) := by rw [← hdu, ← c1]; exact HW.out.cell (p := ⟨b, off + k * 3 + 1, none⟩) hbl
      have k2 : wr.cell? ⟨b, off + k * 3 + 2, none⟩ = some (.int .i64 ax) := by rw [← hax, ← c2]; exact HW.out.cell (p := ⟨b, off + k * 3 + 2, none⟩) hbl
      have HB0 : Hid (BothF F v B B bw (sortS D) D m (wr.alloc (.cells #[.int .i64 kd, .int .i64 du, .int .i64 ax] 42))) := HQ.out.below ((Below.refl _ wr).alloc (Nat.le_refl _) _)
      have HWB : Hid (Below w.heap.size w (wr.alloc (.cells #[.int .i64 kd, .int .i64 du, .int .i64 ax] 42))) := HW.out.alloc HW.out.size _
      have HBA : Hid (Blk (wr.alloc (.cells #[.int .i64 kd, .int .i64 du, .int .i64 ax] 42)) wr.heap.size 42 [.int .i64 kd, .int .i64 du, .int .i64 ax]) := Blk.new wr [.int .i64 kd, .int .i64 du, .int .i64 ax] 42
      have HFA : Hid (¬ F wr.heap.size) := fun h => by have := (HQ.out.lo _ h).2; omega
      clear c0 c1 c2 hcells hkd hdu hax HQ HW
      go_upto_block 2 with fail
      generalize hwa : wr.alloc (.cells #[.int .i64 kd, .int .i64 du, .int .i64 ax] 42) = wa at HB0 HWB HBA ⊢
      obtain ⟨ba, hba⟩ : ∃ ba, wr.heap.size = ba := ⟨_, rfl⟩
      rw [hba] at HBA HFA ⊢
      have a1 := HBA.out.cell 1
      have a2 := HBA.out.cell 2
      simp only [List.getElem?_cons_zero, List.getElem?_cons_succ] at a1 a2
      clear hwa hba k0 k1 k2
      go_cut [7, 8, 9, 10, 11, 12, 13, 15] from 43 to 152 (fun t7 t8 t9 t10 t11 t12 t13 t15 wx => ∃ (F' : Nat → Prop) (v' : Value) (D' : List (Int × Int)) (m' : Nat), D'.length ≤ k + 1 ∧ m' ≤ k + 1 ∧ Hid (BothF F' v' B B bw (sortS D') D' m' wx) ∧ Hid (Below w.heap.size w wx))
      case first =>
        by_cases h0 : kd = 0
        · have hk0 : (kd == 0) = true := by rw [h0]; rfl
          subst h0
          by_cases hr : du < 0 ∨ 1099511627776 < du
          · have hd1 : decide (0 ≤ du) = false ∨ decide (du ≤ 1099511627776) = false := by rcases hr with h | h <;> simp <;> omega
            by_cases hn : du < 0
            · have hn2 : ¬ (0 ≤ du) := by omega
              go_wp2_with fail
              refine (put_range B du ax wa hr).mono ?_
              rintro e wa ⟨rfl, rfl⟩
              go_wp2_with fail
              go_meet
              exact ⟨F, v, D, m, by omega, by omega, HB0.out, HWB.out⟩
            · have hn2 : 0 ≤ du := by omega
              have hn3 : ¬ (du ≤ 1099511627776) := by omega
              go_wp2_with fail
              refine (put_range B du ax wa hr).mono ?_
              rintro e wa ⟨rfl, rfl⟩
              go_wp2_with fail
              go_meet
              exact ⟨F, v, D, m, by omega, by omega, HB0.out, HWB.out⟩
          · have hn2 : 0 ≤ du := by omega
            have hn3 : du ≤ 1099511627776 := by omega
            go_wp2_with fail
            refine (put_ok du ax hn2 hn3 HB0.out.q (by rw [length_sortS]; omega) (by omega)).mono ?_
            rintro e w5 ⟨rfl, hp⟩
            have HP := HB0.out.put hp
            have HB5 := Lib.hid HP.1
            have HW5 : Hid (Below w.heap.size w w5) := HWB.out.trans (HP.2.mono hwB)
            have HBA5 : Hid (Blk w5 ba 42 [.int .i64 0, .int .i64 du, .int .i64 ax]) := HBA.out.only hp.1 HFA.out
            have b1 := HBA5.out.cell 1
            have b2 := HBA5.out.cell 2
            simp only [List.getElem?_cons_zero, List.getElem?_cons_succ] at b1 b2
            obtain ⟨n, hn⟩ : ∃ n, D.length = n := ⟨_, rfl⟩
            have HN := Lib.hid hn
            obtain ⟨av, cv, rfl, q0, hbw, hD2⟩ := HB5.out.d.read hn
            have q1 := Lib.cell?_alloc_some (.cells #[.int .i64 du, .int .i64 ax] 44) q0
            obtain ⟨i0, hi0, hz0, hz1, hz2⟩ := info_parts info44
            have hown0 : (w5.alloc (.cells #[.int .i64 du, .int .i64 ax] 44)).ownsRow 0 44 2 (.slice av n cv) n (enc2 D) := by
              have h : w5.ownsRow 0 44 2 (.slice av n cv) D.length (enc2 D) := HB5.out.d.own
              rw [hn] at h
              exact own_only h ((Only.refl (fun _ => False) w5).alloc _) (fun _ _ h => h)
            have HBW5 : Hid (Blk (w5.alloc (.cells #[.int .i64 du, .int .i64 ax] 44)) bw 40 [.slice av n cv]) := HB5.out.d.blk.alloc _
            have HNE : Hid (∀ j, (Value.slice av n cv).ownBlock = some j → bw ≠ j) := fun j e => (HB5.out.d.ne j e).symm
            have hn100 : (n : Int) ≤ 100000 := by omega
            clear hp HP a1 a2 hD2 hn HBA
            go_wp2_with fail
            go_region_law (first
              | (refine step_append_own rfl (.tmp 77) (.tmp 83) 38 rfl 0 44 i0 _ 2 16 Try.underlying38 hi0 hz0 hz1 hz2 rfl (by decide) (.slice av n cv) n (enc2 D) rfl hown0 ⟨w5.heap.size, 0, none⟩ 1 1 (enc2 [(du, ax)]) rfl rfl (news_one (Blk.new w5 [.int .i64 du, .int .i64 ax] 44)) (enc2_one _) (by unfold maxLen; omega) (by omega) (Nat.zero_le _) ?_; intro v6 w6 hown6 hg6 hf6; obtain ⟨a6, c6, rfl⟩ := own_form hown6; have HBW6 : Hid (Blk w6 bw 40 [.slice av n cv]) := grown_keep2 hg6 HBW5.out HNE.out; have q6 := HBW6.out.cell 0; have f6 := HBW6.out.frozen 0; have HS := Lib.hid (And.intro hown6 (And.intro hg6 hf6)))
              | fail)
            all_goals
              have HX := HB5.out.push ((Only.refl _ w5).alloc _).drew HS.out.2.1 HS.out.1 (by rw [HN.out]) HS.out.2.2
              have HXB := Lib.hid HX.1
              have HXW : Hid (Below w.heap.size w (w6.setCell ⟨bw, 0, none⟩ (.slice a6 (n + 1) c6))) := HW5.out.trans (HX.2.mono hwB)
              clear q0 q1 q6 f6 hown0 hown6 hg6 hf6 HX
              go_wp2_with fail
              go_meet
              exact ⟨_, _, D ++ [(du, ax)], m + 1, by simp; omega, by omega, by rw [sortS_snoc]; exact HXB.out, HXW.out⟩
        · by_cases h1 : kd = 1
          · have hk0 : (kd == 0) = false := by rw [beq_eq_false_iff_ne]; exact h0
            have hk1 : (kd == 1) = true := by rw [h1]; rfl
            subst h1
            by_cases hz : D = []
            · subst hz
              obtain ⟨av, cv, rfl, q0, hbw, hD2⟩ := HB0.out.d.read (n := 0) rfl
              have HDN := Lib.hid hD2
              clear hD2
              go_wp2_with fail
              refine (next_none du HB0.out.q).mono ?_
              rintro e wa ⟨rfl, rfl⟩
              go_wp2_with fail
              refine (rnext_nil bw av cv du wa q0 hbw).mono ?_
              rintro e w5 ⟨rfl, hb5⟩
              have HB5 := Lib.hid (HB0.out.below hb5)
              have HW5 : Hid (Below w.heap.size w w5) := HWB.out.trans (hb5.mono HWB.out.size)
              clear hb5
              go_wp2_with fail
              go_meet
              exact ⟨_, _, [], m, by simp, by omega, HB5.out, HW5.out⟩
            · obtain ⟨i, hi, hn⟩ := firstTo_next hz
              have hsn := sortS_next D i hn
              obtain ⟨⟨d, x⟩, he⟩ : ∃ e, D.getD i default = e := ⟨_, rfl⟩
              rw [he] at hsn
              have hil := hn.1
              obtain ⟨n, hn0⟩ : ∃ n, D.length = n := ⟨_, rfl⟩
              have HN := Lib.hid hn0
              have HSN := Lib.hid hsn
              have HE := Lib.hid he
              have HIX := Lib.hid hi
              have hq := HB0.out.q
              rw [hsn] at hq
              have HQ := Lib.hid hq
              clear hq hsn he hi hn hz
              by_cases hdu : du < d
              · obtain ⟨av, cv, rfl, q0, hbw, hD2⟩ := HB0.out.d.read hn0
                have HDN := Lib.hid hD2
                clear hD2
                go_wp2_with fail
                refine (next_early du hdu HQ.out).mono ?_
                rintro e wa ⟨rfl, rfl⟩
                go_wp2_with fail
                refine (rnext_early bw av n cv D du wa HN.out (by omega) q0 hbw HDN.out i (by rw [← HN.out]; exact HIX.out) (by omega) d (by rw [HE.out]) hdu).mono ?_
                rintro e w5 ⟨rfl, hb5⟩
                have HB5 := Lib.hid (HB0.out.below hb5)
                have HW5 : Hid (Below w.heap.size w w5) := HWB.out.trans (hb5.mono HWB.out.size)
                clear hb5
                go_wp2_with fail
                go_meet
                exact ⟨_, _, D, m, by omega, by omega, HB5.out, HW5.out⟩
              · go_wp2_with fail
                refine (next_some du (by omega) HQ.out).mono ?_
                rintro e w5 ⟨rfl, hO5, hQ5⟩
                have HT := HB0.out.take hO5 hQ5
                have HB5 := Lib.hid HT.1
                have HW5 : Hid (Below w.heap.size w w5) := HWB.out.trans (HT.2.mono hwB)
                have HBA5 : Hid (Blk w5 ba 42 [.int .i64 1, .int .i64 du, .int .i64 ax]) := HBA.out.only hO5 HFA.out
                have b1 := HBA5.out.cell 1
                have b2 := HBA5.out.cell 2
                simp only [List.getElem?_cons_zero, List.getElem?_cons_succ] at b1 b2
                clear hO5 hQ5 HT a1 a2
                go_wp2_with fail
                refine (rnext_ok du HB5.out.d (by omega) i HIX.out hil d x HE.out (by omega)).mono ?_
                rintro e w6 ⟨rfl, v6, hs6⟩
                have HT := HB5.out.step hs6
                have HB6 := Lib.hid HT.1
                have HW6 : Hid (Below w.heap.size w w6) := HW5.out.trans (HT.2.mono hwB)
                clear HT hs6 b1 b2
                go_wp2_with fail
                go_meet
                exact ⟨_, _, D.eraseIdx i, m, by rw [List.length_eraseIdx_of_lt hil]; omega, by omega, HB6.out, HW6.out⟩
          · by_cases h2 : kd = 2
            · have hk0 : (kd == 0) = false := by rw [beq_eq_false_iff_ne]; exact h0
              have hk1 : (kd == 1) = false := by rw [beq_eq_false_iff_ne]; exact h1
              have hk2 : (kd == 2) = true := by rw [h2]; rfl
              have hdr := drop_any ba ax HB0.out.q a2 HBA.out.lt HFA.out
              obtain ⟨n, hn⟩ : ∃ n, D.length = n := ⟨_, rfl⟩
              obtain ⟨R, hR⟩ : ∃ R, D.filter (keptS ax) = R := ⟨_, rfl⟩
              obtain ⟨nr, hnr⟩ : ∃ nr, R.length = nr := ⟨_, rfl⟩
              rw [← sortS_filter, length_sortS, length_sortS, hn, hR, hnr] at hdr
              have HN := Lib.hid hn
              have HR := Lib.hid hR
              have HNR := Lib.hid hnr
              have HDR := Lib.hid hdr
              have hnrn : nr ≤ n := by rw [← hnr, ← hR, ← hn]; exact List.length_filter_le _ _
              have hn100 : (n : Int) ≤ 100000 := by omega
              subst h2
              clear hn hR hnr hdr
              go_wp2_with fail
              refine HDR.out.mono ?_
              rintro e w5 ⟨rfl, hO5, hQ5⟩
              have HT := HB0.out.take hO5 hQ5
              have HB5 := Lib.hid HT.1
              have HW5 : Hid (Below w.heap.size w w5) := HWB.out.trans (HT.2.mono hwB)
              have HBA5 : Hid (Blk w5 ba 42 [.int .i64 2, .int .i64 du, .int .i64 ax]) := HBA.out.only hO5 HFA.out
              obtain ⟨av, cv, rfl, q0, hbw, hD2⟩ := HB5.out.d.read HN.out
              have HD2 := Lib.hid hD2
              have HQ0 := Lib.hid q0
              clear hO5 hQ5 HT a1 a2 hD2 HBA HDR HB0 HWB
              go_wp2_with fail
              go_loopw [13, 121] (fun vr u wr2 => ∃ (j nj : Nat) (Rj : List (Int × Int)) (ar : Option Addr) (cr : Nat), j ≤ n ∧ u = .int .i64 j ∧ vr = .slice ar nj cr ∧ nj ≤ j ∧ Hid (Rj.length = nj) ∧ Hid (Rj = (D.take j).filter (keptS ax)) ∧ Hid (DOwn wr2 w5.heap.size (.slice ar nj cr) Rj) ∧ Hid (Below w5.heap.size w5 wr2)) (fun _ u _ => n - (intOf u).toNat)
              case atStart => exact ⟨0, 0, [], none, 0, Nat.zero_le _, rfl, rfl, Nat.le_refl _, rfl, rfl, World.ownsRow_nil _ _ _ _, Below.refl _ _⟩
              case round =>
                obtain ⟨j, nj, Rj, ar, cr, hj, rfl, rfl, hnj, HRL, HRJ, HO, HV⟩ := hrel
                clear q0
                by_cases hlt2 : (j : Int) < (n : Int)
                · obtain ⟨g, rfl, hg, c0, c1⟩ := HD2.out j (by rw [HN.out]; omega)
                  obtain ⟨⟨d, x⟩, he⟩ : ∃ e, D.getD j default = e := ⟨_, rfl⟩
                  rw [he] at c0 c1
                  dsimp only at c0 c1
                  have p0 : wr.cell? ⟨g, j * 2, none⟩ = _ := (HV.out.cell (p := ⟨g, j * 2, none⟩) hg).trans c0
                  have p1 : wr.cell? ⟨g, j * 2 + 1, none⟩ = _ := (HV.out.cell (p := ⟨g, j * 2 + 1, none⟩) hg).trans c1
                  have HBx : Hid (Blk wr ba 42 [.int .i64 2, .int .i64 du, .int .i64 ax]) := HBA5.out.below HV.out HBA5.out.lt
                  have b2 := Lib.cell?_alloc_some (.cells #[.int .i64 d, .int .i64 x] 44) (HBx.out.cell 2)
                  have HTK : Hid (D.take (j + 1) = D.take j ++ [(d, x)]) := by
                    show _ = _
                    rw [List.take_add_one]
                    congr 1
                    rw [List.getD_eq_getElem?_getD] at he
                    rw [List.getElem?_eq_getElem (by rw [HN.out]; omega)] at he ⊢
                    rw [← he]; rfl
                  clear c0 c1 he
                  cases hs : same4 x ax
                  · have hs1 : ((IntKind.u64.wrap x).tmod 4 == (IntKind.u64.wrap ax).tmod 4) = false := hs
                    have hs2 : ((IntKind.u64.wrap x).tmod 4 != (IntKind.u64.wrap ax).tmod 4) = true := by rw [bne, hs1]; rfl
                    have HKS : Hid (keptS ax (d, x) = true) := by show _ = _; rw [keptS, hs]; rfl
                    have hsz := HV.out.size
                    have hlR : (Rj.length : Int) + 1 ≤ 200000 := by rw [HRL.out]; omega
                    clear hs
                    go_wp2_with (refine wpList_append_d rfl (.tmp 134) (.tmp 136) rfl w5.heap.size (.slice ar nj cr) Rj rfl (own_only HO.out (((Only.refl (fun _ => False) wr).alloc _).alloc _) (fun _ _ h => h)) ⟨wr.heap.size + 1, 0, none⟩ 1 1 [(d, x)] rfl rfl (news_one (Blk.new' (wr.alloc _) [.int .i64 d, .int .i64 x] 44 _ (by simp))) hlR (by simp; omega) ?_; intro v3 w6 hown6 hg6 hf6; obtain ⟨a3, c3, rfl, -, -⟩ := DOwn.form (n := nj + 1) hown6 (by rw [List.length_append, HRL.out]; rfl))
                    have HO6 := Lib.hid hown6
                    have HV6 : Hid (Below w5.heap.size w5 w6) := ((((Only.below (F := fun k => w5.heap.size ≤ k) HV.out).alloc _).alloc _).grown hg6 (fun k hk _ => (HO.out.lt k hk).1)).toBelow (Nat.le_refl _) (fun _ h => h)
                    clear hown6 hg6 hf6
                    go_roundw
                    case rel => exact ⟨j + 1, nj + 1, Rj ++ [(d, x)], a3, c3, by omega, by go_num, rfl, by omega, by show _ = _; rw [List.length_append, HRL.out]; rfl, by show _ = _; rw [HTK.out, List.filter_append, ← HRJ.out]; simp [HKS.out], HO6.out, HV6.out⟩
                    case measure => simp [intOf]; omega
                  · have hs1 : ((IntKind.u64.wrap x).tmod 4 == (IntKind.u64.wrap ax).tmod 4) = true := hs
                    have hs2 : ((IntKind.u64.wrap x).tmod 4 != (IntKind.u64.wrap ax).tmod 4) = false := by rw [bne, hs1]; rfl
                    have HKS : Hid (keptS ax (d, x) = false) := by show _ = _; rw [keptS, hs]; rfl
                    clear hs
                    go_wp2_with fail
                    go_roundw
                    case rel => exact ⟨j + 1, nj, Rj, ar, cr, by omega, by go_num, rfl, by omega, HRL.out, by show _ = _; rw [HTK.out, List.filter_append, ← HRJ.out]; simp [HKS.out], own_only HO.out ((Only.refl (fun _ => False) wr).alloc _) (fun _ _ h => h), HV.out.alloc HV.out.size _⟩
                    case measure => simp [intOf]; omega
                · obtain rfl : j = n := by omega
                  have hRR : Rj = R := by rw [HRJ.out, List.take_of_length_le (by rw [HN.out]; exact Nat.le_refl _), HR.out]
                  have hnn : nj = nr := by rw [← HRL.out, hRR, HNR.out]
                  subst hRR
                  subst hnn
                  have hwr : IntKind.i64.wrap ((j : Int) - (nj : Int)) = (j : Int) - (nj : Int) := by rw [IntKind.wrap_i64]; omega
                  have q1 : wr.cell? ⟨bw, 0, none⟩ = _ := (HV.out.cell (p := ⟨bw, 0, none⟩) hbw).trans HQ0.out
                  have HBW2 := HB5.out.d.blk.below HV.out hbw
                  have f1 := HBW2.frozen 0
                  have hne : ∀ k, (Value.slice ar nj cr).ownBlock = some k → k ≠ bw := fun k hk => by have := (HO.out.lt k hk).1; omega
                  have HX := HB5.out.doc (w' := wr.setCell ⟨bw, 0, none⟩ (.slice ar nj cr)) (v' := .slice ar nj cr) (D' := Rj) (Only.setCell (Only.below HV.out) (p := ⟨bw, 0, none⟩) (fun _ => .inl rfl) _) (HBW2.set 0 _) (own_base (own_only HO.out (Only.setCell (Only.refl (· = bw) wr) (p := ⟨bw, 0, none⟩) (fun _ => rfl) _) (fun k hk e => hne k hk e)) (Nat.zero_le _)) (fun k hk => .inr (HO.out.lt k hk).1)
                  have HXB := Lib.hid HX.1
                  have HXW : Hid (Below w.heap.size w (wr.setCell ⟨bw, 0, none⟩ (.slice ar nj cr))) := HW5.out.trans (HX.2.mono hwB)
                  have hjk : j ≤ k := by rw [← HN.out]; exact hDk
                  clear HX HBW2 hne HB5 hlt2
                  go_wp2_with fail
                  go_meet
                  exact ⟨_, _, Rj, m, by rw [HRL.out]; omega, by omega, by rw [← HR.out, sortS_filter] at *; exact HXB.out, HXW.out⟩
            · have hk0 : (kd == 0) = false := by rw [beq_eq_false_iff_ne]; exact h0
              have hk1 : (kd == 1) = false := by rw [beq_eq_false_iff_ne]; exact h1
              have hk2 : (kd == 2) = false := by rw [beq_eq_false_iff_ne]; exact h2
              go_wp2_with fail
              go_meet
              exact ⟨F, v, D, m, by omega, by omega, HB0.out, HWB.out⟩
      case rest =>
        obtain ⟨F', v', D', m', hD', hm', HB6, HW6⟩ := hcut
        clear HB0 HWB HBA HFA a1 a2
        obtain ⟨n, hn⟩ : ∃ n, D'.length = n := ⟨_, rfl⟩
        have HN := Lib.hid hn
        have hn100 : (n : Int) ≤ 100000 := by omega
        have hnk : n ≤ k + 1 := by omega
        obtain ⟨dv, ok, hd1, hd2⟩ := dues_any HB6.out (by omega)
        clear hn hD'
        go_wp2_with fail
        refine hd1.mono ?_
        rintro e wc ⟨rfl, rfl⟩
        go_wp2_with fail
        refine hd2.mono ?_
        rintro e w7 ⟨rfl, hb7⟩
        have HB7 : Hid (BothF F' v' B B bw (sortS D') D' m' w7.drew) := (HB6.out.below hb7).below ((Below.refl _ w7).drew)
        have HW7 : Hid (Below w.heap.size w w7.drew) := (HW6.out.trans (hb7.mono HW6.out.size)).drew
        obtain ⟨av, cv, rfl, q0, hbw, hD2⟩ := HB7.out.d.read HN.out
        have hlq := qlen_any HB7.out.q
        rw [length_sortS, HN.out] at hlq
        have hall := rall_any HB7.out.d (by rw [HN.out]; exact hn100)
        have HLQ := Lib.hid hlq
        have HALL := Lib.hid hall
        clear hd1 hd2 hb7 HB6 HW6 hD2 hlq hall
        go_wp2_with fail
        have hSn : (sortS D').length = n := by rw [length_sortS]; exact HN.out
        have HSN := Lib.hid hSn
        clear hSn
        go_region_held3 (fun w' => w'.cell? ⟨bw, 0, none⟩ = some (.slice av n cv)) (first | exact q0 | exact q8 | exact q9)
          (first
            | (go_at_call 12; refine HLQ.out.mono ?_; rintro e wq ⟨rfl, rfl⟩)
            | (go_at_call 22; refine HALL.out.mono ?_; rintro e w8 ⟨vv, rfl, hown8, hb8⟩; obtain ⟨a8, c8, rfl, hD8, -⟩ := DOwn.form (n := n) hown8 HSN.out; have HTL := Lib.hid (tells_any (HB7.out.below hb8).q n c8 a8 HSN.out hn100 hD8 (fun g e => (hown8.lt g (by rw [e]; rfl)).2)); have HB8 := Lib.hid hb8; have q8 : w8.cell? ⟨bw, 0, none⟩ = some (.slice av n cv) := (hb8.cell (p := ⟨bw, 0, none⟩) hbw).trans q0)
            | (go_at_call 21; refine HTL.out.mono ?_; rintro e w9 ⟨rfl, hb9⟩; have HB9 := Lib.hid hb9; have q9 : w9.cell? ⟨bw, 0, none⟩ = some (.slice av n cv) := (hb9.cell (p := ⟨bw, 0, none⟩) (Nat.lt_of_lt_of_le hbw HB8.out.size)).trans q8))
        have HBE : Hid (BothF F' (.slice av n cv) B B bw (sortS D') D' m' w9) := (HB7.out.below HB8.out).below HB9.out
        have HWE : Hid (Below w.heap.size w w9) := HW7.out.trans ((HB8.out.trans (HB9.out.mono HB8.out.size)).mono HW7.out.size)
        clear q0 q8 q9
        go_wp2_with fail
        go_roundw
        case rel => exact ⟨k + 1, m', F', _, D', by omega, by go_num, by rw [HN.out]; exact hnk, hm', HBE.out, HWE.out⟩
        case measure => simp [intOf]; omega
    · obtain rfl : k = len := by omega
      clear HA
      go_wp2_with fail
      refine (next_nil 1 wr).mono ?_
      rintro e wr ⟨rfl, rfl⟩
      go_wp2_with fail
      refine (due_nil wr).mono ?_
      rintro e wr ⟨rfl, rfl⟩
      go_wp2_with fail
      refine (each_nil wr _).mono ?_
      rintro e wr ⟨rfl, rfl⟩
      go_wp2_with (first
        | (go_at_call 10; refine (put_nil 1 1 _).mono ?_; rintro e w ⟨rfl, rfl⟩)
        | (go_at_call 12; refine (qlen_nil _).mono ?_; rintro e w ⟨rfl, rfl⟩)
        | (go_at_call 17; refine (drop_nil _).mono ?_; rintro e w5 ⟨rfl, hb5⟩))
      go_ret
      exact ⟨rfl, HW.out.trans (hb5.mono HW.out.size)⟩

theorem plays_any (a : Option Addr) (len cap : Nat) (K U X : Nat → Int) (w : World) (hA : Acts w a len K U X) :
    Calls Try.prog 7 #[.slice a len cap] w (Gives (.bool true) fun w' => Below w.heap.size w w') := by
  by_cases hlong : (120 : Int) < (len : Int)
  · exact plays_long a len cap w hlong
  · exact plays_some a len cap K U X w hlong hA

end Go.Proofs.Ytdbpcogbednokaa
