/-
  The law QueueEach: its walk.
-/
import Derived.Test.YtdbpcogbednokaaQx
import Derived.Test.YtdbpcogbednokaaOrders
namespace Go.Proofs.Ytdbpcogbednokaa
open Go.RowKit

theorem NOwn.get {w : World} {base : Nat} {a : Option Addr} {n c : Nat} {xs : List Int} (h : NOwn w base (.slice a n c) xs) {i : Nat} (hi : i < xs.length) : ∃ g, a = some ⟨g, 0, none⟩ ∧ g < w.heap.size ∧ w.cell? ⟨g, i, none⟩ = some (.int .i64 (xs.getD i 0)) := by
  obtain ⟨_, ⟨_, h0, _⟩ | ⟨g, cap, rest, e, _, hB, _⟩⟩ := own_elim h
  · omega
  · injection e with e1 e2 e3
    refine ⟨g, e1, hB.lt, ?_⟩
    rw [hB.cell, List.getElem?_append_left (by rw [List.length_map]; exact hi), List.getElem?_map, List.getD_eq_getElem?_getD, List.getElem?_eq_getElem hi]
    rfl
theorem take_getD {S : List (Int × Int)} {k i : Nat} (h : i < k) : ((S.take k).map (·.2)).getD i 0 = (S.map (·.2)).getD i 0 := by
  simp [List.getD_eq_getElem?_getD, h]
theorem QAt.narrow {F : Nat → Prop} {bq : Nat} {S : List (Int × Int)} {m : Nat} {w : World} (hQ : QAt F bq S m w) : QAt (fun k => F k ∧ k < w.heap.size) bq S m w := by
  obtain ⟨v, L, last, T, hR, h⟩ := hQ
  exact ⟨v, L, last, T, ⟨hR.blk, hR.own, hR.ne, ⟨⟨hR.mine.1, hR.blk.lt⟩, fun k hk => ⟨hR.mine.2 k hk, (hR.own.lt k hk).2⟩⟩, hR.heap⟩, h⟩

set_option maxHeartbeats 1000000 in
theorem qeach_long (a : Option Addr) (len cap : Nat) (stop : Int) (w : World) (hlong : (300 : Int) < (len : Int)) :
    Calls Try.prog 6 #[.slice a len cap, .int .i64 stop] w (Gives (.bool true) fun w' => Below w.heap.size w w') := by
  have hb0 := (Below.refl w.heap.size w).alloc (Nat.le_refl _) (Obj.cells #[.int .i64 stop] 3)
  go_enter Try.func6, Try.ntmps6
  go_wp2_with fail
  refine (lives_any _).mono ?_
  rintro e w1 ⟨rfl, hb1⟩
  go_wp2_with fail
  refine (lives_any _).mono ?_
  rintro e w2 ⟨rfl, hb2⟩
  go_wp2_with fail
  go_ret
  exact ⟨rfl, (hb0.trans (hb1.mono hb0.size)).trans (hb2.mono (Nat.le_trans hb0.size hb1.size))⟩

set_option maxRecDepth 100000 in
set_option maxHeartbeats 4000000 in
theorem qeach_some (a : Option Addr) (len cap : Nat) (zs : List Int) (stop : Int) (w : World) (hlong : ¬ (300 : Int) < (len : Int))
    (hcell : ∀ i, i < len → ∃ b off, a = some ⟨b, off, none⟩ ∧ b < w.heap.size ∧ w.cell? ⟨b, off + i, none⟩ = some (.int .i64 (zs.getD i 0))) :
    Calls Try.prog 6 #[.slice a len cap, .int .i64 stop] w (Gives (.bool true) fun w' => Below w.heap.size w w') := by
  have HC := Lib.hid hcell
  have HL := Lib.hid hlong
  have hb0 := (Below.refl w.heap.size w).alloc (Nat.le_refl _) (Obj.cells #[.int .i64 stop] 3)
  have hs0 : Blk (w.alloc (.cells #[.int .i64 stop] 3)) w.heap.size 3 [.int .i64 stop] := Blk.new w [.int .i64 stop] 3
  obtain ⟨bs, hbs⟩ : ∃ bs, w.heap.size = bs := ⟨_, rfl⟩
  have HBS := Lib.hid hbs
  have HB0 := Lib.hid hb0
  have HS0 := Lib.hid hs0
  clear hcell hb0 hs0 hbs
  go_enter Try.func6, Try.ntmps6
  go_wp2_with fail
  refine (lives_any _).mono ?_
  rintro e w1 ⟨rfl, hb1⟩
  have HS1 : Hid (Blk w1 w.heap.size 3 [.int .i64 stop]) := HS0.out.below hb1 HS0.out.lt
  have HB1 : Hid (Below w.heap.size w w1) := HB0.out.trans (hb1.mono HB0.out.size)
  rw [HBS.out] at HS1 ⊢
  clear hb1 HB0 HS0
  go_wp2_with fail
  refine (new_b w1).mono ?_
  rintro e w2 ⟨rfl, hb2, hQ2⟩
  obtain ⟨B, hB⟩ : ∃ B, w1.heap.size = B := ⟨_, rfl⟩
  have HS2 : Hid (Blk w2 bs 3 [.int .i64 stop]) := HS1.out.below hb2 HS1.out.lt
  have hbB : w.heap.size ≤ B := by rw [← hB]; exact HB1.out.size
  have hsB : bs < B := by rw [← hB]; exact HS1.out.lt
  have HB2 := Lib.hid (HB1.out.trans (hb2.mono HB1.out.size))
  rw [hB] at hQ2 ⊢
  have HQ2 := Lib.hid hQ2
  clear hQ2 hB hb2 HS1 HB1
  go_wp2_with fail
  go_loopw [27] (fun v wr => ∃ k m : Nat, k ≤ len ∧ v = .int .i64 k ∧ m ≤ k ∧ Hid (QB B B (puts zs k) m wr) ∧ Hid (Below w.heap.size w wr) ∧ Hid (Blk wr bs 3 [.int .i64 stop])) (fun v _ => len - (intOf v).toNat)
  case atStart => exact ⟨0, 0, by omega, rfl, by omega, HQ2.out, HB2.out, HS2.out⟩
  case round =>
    obtain ⟨k, m, hk, rfl, hm, HQ, HW, HSW⟩ := hrel
    have hl1 := length_puts zs k
    clear HQ2 HB2 HS2
    by_cases hlt : (k : Int) < (len : Int)
    · obtain ⟨b, off, rfl, hbw, hck0⟩ := HC.out k (by omega)
      obtain ⟨z, hz⟩ : ∃ z, zs.getD k 0 = z := ⟨_, rfl⟩
      have hck : wr.cell? ⟨b, off + k, none⟩ = some (.int .i64 z) := by
        rw [← hz, ← hck0]; exact HW.out.cell hbw
      have HZ := Lib.hid hz
      clear hz hck0
      by_cases h0 : z < 0 ∨ 1099511627776 < z
      · have HE : Hid (puts zs (k + 1) = puts zs k) := by
          show _ = _
          rw [puts, HZ.out, if_neg (by rw [okDue_iff]; omega)]
        go_wp2_with fail
        refine (put_range B z k wr h0).mono ?_
        rintro e wr ⟨rfl, rfl⟩
        go_wp2_with fail
        go_roundw
        case rel => exact ⟨k + 1, m, by omega, by go_num, by omega, by rw [HE.out]; exact HQ.out, HW.out, HSW.out⟩
        case measure => simp [intOf]; omega
      · have HE : Hid (puts zs (k + 1) = ins z k (puts zs k)) := by
          show _ = _
          rw [puts, HZ.out, if_pos (by rw [okDue_iff]; omega)]
        go_wp2_with fail
        refine (put_b z k (by omega) (by omega) HQ.out (by omega) (by omega)).mono ?_
        rintro e w3 ⟨rfl, hb3, hQ3⟩
        have HQ3 := Lib.hid hQ3
        have HB3 := Lib.hid (HW.out.trans (hb3.mono hbB))
        have HS3 : Hid (Blk w3 bs 3 [.int .i64 stop]) := HSW.out.below hb3 hsB
        clear hQ3 hb3
        go_wp2_with fail
        go_roundw
        case rel => exact ⟨k + 1, m + 1, by omega, by go_num, by omega, by rw [HE.out]; exact HQ3.out, HB3.out, HS3.out⟩
        case measure => simp [intOf]; omega
    · obtain rfl : k = len := by omega
      obtain ⟨S, hS⟩ : ∃ S, puts zs k = S := ⟨_, rfl⟩
      have HD : Hid (∀ e ∈ S, e.1 ≤ 1099511627776) := fun e he => by
        obtain ⟨i, _, rfl, hok⟩ := mem_puts zs k e (hS ▸ he)
        rw [okDue_iff] at hok
        exact hok.2
      rw [hS] at hl1 HQ
      clear hS hlt
      have HA : Hid (QAt (fun j => B ≤ j ∧ j < wr.heap.size) B S m ((wr.alloc (.cells #[.slice none 0 0] 22)).alloc (.cells #[.slice none 0 0] 22))) := HQ.out.1.narrow.only (((Only.refl (fun _ => False) wr).alloc _).alloc _) (fun _ _ h => h)
      have HBa : Hid (Blk ((wr.alloc (.cells #[.slice none 0 0] 22)).alloc (.cells #[.slice none 0 0] 22)) wr.heap.size 22 [.slice none 0 0]) := (Blk.new wr [.slice none 0 0] 22).alloc _
      have HBb : Hid (Blk ((wr.alloc (.cells #[.slice none 0 0] 22)).alloc (.cells #[.slice none 0 0] 22)) (wr.heap.size + 1) 22 [.slice none 0 0]) := Blk.new' (wr.alloc _) [.slice none 0 0] 22 _ (by simp)
      have HSs : Hid (Blk ((wr.alloc (.cells #[.slice none 0 0] 22)).alloc (.cells #[.slice none 0 0] 22)) bs 3 [.int .i64 stop]) := (HSW.out.alloc _).alloc _
      have HBw := Lib.hid ((HW.out.alloc HW.out.size (.cells #[.slice none 0 0] 22)).alloc (by have := HW.out.size; simp; omega) (.cells #[.slice none 0 0] 22))
      obtain ⟨ba, hba⟩ : ∃ ba, wr.heap.size = ba := ⟨_, rfl⟩
      have hBa : B ≤ ba := by rw [← hba]; exact HQ.out.2
      rw [hba] at HA HBa HBb
      have HBA := Lib.hid hba
      clear hba HQ HW HSW
      obtain ⟨N, hN⟩ : ∃ N, S.length = N := ⟨_, rfl⟩
      have HN := Lib.hid hN
      have hNb : N ≤ 300 := by omega
      clear hN hl1
      go_wp2_with fail
      rw [HBA.out]
      have hsz2 : ((wr.alloc (.cells #[.slice none 0 0] 22)).alloc (.cells #[.slice none 0 0] 22)).heap.size = ba + 2 := by simp [HBA.out]
      refine (each1_any HA.out ba HBa.out).mono ?_
      rw [hsz2]
      rintro e w4 ⟨rfl, v1, Z1, hZ1, hbv1, hown1, hO1⟩
      obtain ⟨x1, c1, rfl⟩ := hown1.form (m := N) (by rw [List.length_map]; exact HN.out)
      have h4 := hO1.size
      rw [hsz2] at h4
      have hba4 : ba < w4.heap.size := by omega
      have HA4 : Hid (QAt (fun j => B ≤ j ∧ j < ba) B S m (w4.alloc (.cells #[.int .i64 0] 3))) := (HA.out.only hO1 (fun j h1 h2 => by omega)).only ((Only.refl (fun _ => False) w4).alloc _) (fun _ _ h => h)
      have HBa4 : Hid (Blk (w4.alloc (.cells #[.int .i64 0] 3)) ba 22 [.slice x1 N c1]) := hbv1.alloc _
      have HBb4 : Hid (Blk (w4.alloc (.cells #[.int .i64 0] 3)) (ba + 1) 22 [.slice none 0 0]) := (HBb.out.only hO1 (by omega)).alloc _
      have HSs4 : Hid (Blk (w4.alloc (.cells #[.int .i64 0] 3)) bs 3 [.int .i64 stop]) := (HSs.out.only hO1 (by omega)).alloc _
      have HBn4 : Hid (Blk (w4.alloc (.cells #[.int .i64 0] 3)) w4.heap.size 3 [.int .i64 0]) := Blk.new w4 [.int .i64 0] 3
      have HO4 : Hid (NOwn (w4.alloc (.cells #[.int .i64 0] 3)) Z1 (.slice x1 N c1) (S.map (·.2))) := hown1.alloc _
      have HOB : Hid (∀ j, (Value.slice x1 N c1).ownBlock = some j → Z1 ≤ j ∧ j < w4.heap.size) := fun j hj => hown1.lt j hj
      have HZ1 : Hid (ba + 2 ≤ Z1) := hZ1
      have HBw4 : Hid (Below w.heap.size w (w4.alloc (.cells #[.int .i64 0] 3))) := (HBw.out.trans (hO1.toBelow HBw.out.size (fun j h => by omega))).alloc (by omega) _
      obtain ⟨bn, hbn⟩ : ∃ bn, w4.heap.size = bn := ⟨_, rfl⟩
      rw [hbn] at HBn4 HOB hba4 h4
      have HBN := Lib.hid hbn
      clear hown1 hO1 hbv1 HA HBa HBb HSs HBw hsz2 hZ1 hbn
      go_wp2_with fail
      rw [HBN.out]
      have hsz5 : (w4.alloc (.cells #[.int .i64 0] 3)).heap.size = bn + 1 := by simp [HBN.out]
      refine (each2_any HA4.out bn (ba + 1) bs stop HBn4.out HBb4.out HSs4.out (by omega) (by omega) (by omega)).mono ?_
      rw [hsz5]
      rintro e w6 ⟨rfl, v2, Z2, kk, hZ2, hk2, hmin, hbv2, hown2, hbn2, hbs2, hO2⟩
      obtain ⟨x2, c2, rfl⟩ := hown2.form (m := kk) (by rw [List.length_map, List.length_take]; omega)
      rw [HN.out] at hk2 hmin
      have HA6 : Hid (QAt (fun j => B ≤ j ∧ j < ba) B S m w6) := HA4.out.only hO2 (fun j h1 h2 => by omega)
      have HBa6 : Hid (Blk w6 ba 22 [.slice x1 N c1]) := HBa4.out.only hO2 (by omega)
      have HO6 : Hid (NOwn w6 Z1 (.slice x1 N c1) (S.map (·.2))) := own_only HO4.out hO2 (fun j hj h => by have := HOB.out j hj; have := HZ1.out; omega)
      have HP6 : Hid (NOwn w6 Z2 (.slice x2 kk c2) ((S.take kk).map (·.2))) := hown2
      have HBw6 : Hid (Below w.heap.size w w6) := HBw4.out.trans (hO2.toBelow HBw4.out.size (fun j h => by omega))
      have HBb6 := Lib.hid hbv2
      have HM6 := Lib.hid hmin
      have a0 := HBa6.out.cell 0
      have b0 := hbv2.cell 0
      have n0 := hbn2.cell 0
      have s0 := hbs2.cell 0
      simp only [List.getElem?_cons_zero] at a0 b0 n0 s0
      have hq := qlen_any (HA6.out.only ((Only.refl (fun _ => False) w6).drew) (fun _ _ h => h))
      rw [HN.out] at hq
      clear hown2 hO2 HO4 HOB HBw4 HA4 HBa4 HBb4 HBn4 HSs4 hsz5 hbv2 hbn2 hbs2
      go_wp2_with fail
      go_region_held3 (fun w' => w'.cell? ⟨ba, 0, none⟩ = some (.slice x1 N c1) ∧ w'.cell? ⟨bn, 0, none⟩ = some (.int .i64 (kk : Int)) ∧ w'.cell? ⟨bs, 0, none⟩ = some (.int .i64 stop)) (simp [go_sem, a0, n0, s0]) (first | (go_at_call 12; refine hq.mono ?_; rintro e w ⟨rfl, rfl⟩))
      have HW7 : Hid (Only (fun _ => False) w6 w6.drew) := (Only.refl _ w6).drew
      obtain ⟨w7, hw7⟩ : ∃ w7, w6.drew = w7 := ⟨_, rfl⟩
      rw [hw7] at HW7 ⊢
      clear hw7 hq hmin
      have b7 := (HBb6.out.only HW7.out (fun h => h)).cell 0
      simp only [List.getElem?_cons_zero] at b7
      go_wp2_with fail
      go_loopw [11, 59] (fun _ v wr2 => ∃ i : Nat, i ≤ kk ∧ v = .int .i64 (i : Int) ∧ Hid (Only (fun _ => False) w6 wr2)) (fun _ v _ => kk - (intOf v).toNat)
      case atStart => exact ⟨0, Nat.zero_le _, rfl, HW7.out⟩
      case round =>
        obtain ⟨i, hi, rfl, HR⟩ := hrel
        have p0 := (HBa6.out.only HR.out (fun h => h)).cell 0
        have p1 := (HBb6.out.only HR.out (fun h => h)).cell 0
        simp only [List.getElem?_cons_zero] at p0 p1
        clear a0 b0 n0 s0 b7
        by_cases hlt3 : (i : Int) < (kk : Int)
        · obtain ⟨y, hy⟩ : ∃ y, (S.map (·.2)).getD i 0 = y := ⟨_, rfl⟩
          obtain ⟨ga, rfl, hga, ca⟩ := HO6.out.get (i := i) (by rw [List.length_map, HN.out]; omega)
          obtain ⟨gb, rfl, hgb, cb⟩ := HP6.out.get (i := i) (by rw [List.length_map, List.length_take, HN.out]; omega)
          rw [hy] at ca
          rw [take_getD (by omega), hy] at cb
          have p2 := (World.cell?_of_block (a := ⟨ga, i, none⟩) (HR.out.block ga hga fun h => h)).trans ca
          have p3 := (World.cell?_of_block (a := ⟨gb, i, none⟩) (HR.out.block gb hgb fun h => h)).trans cb
          clear ca cb hga hgb hy
          have hiN : (i : Int) < (N : Int) := by omega
          have hi00 : (0 : Int) ≤ (i : Int) := by omega
          go_wp2_with fail
          go_region_held3 (fun w' => w'.cell? ⟨ba, 0, none⟩ = some (.slice (some ⟨ga, 0, none⟩) N c1) ∧ w'.cell? ⟨ba + 1, 0, none⟩ = some (.slice (some ⟨gb, 0, none⟩) kk c2) ∧ w'.cell? ⟨ga, i, none⟩ = some (.int .i64 y) ∧ w'.cell? ⟨gb, i, none⟩ = some (.int .i64 y)) (simp [go_sem, p0, p1, p2, p3]) (first | fail)
          go_wp2_with fail
          go_roundw
          case rel => exact ⟨i + 1, by omega, by go_num, HR.out.drew⟩
          case measure => simp [intOf]; omega
        · have HA9 : Hid (QAt (fun j => B ≤ j ∧ j < ba) B S m wr) := HA6.out.only HR.out (fun _ _ h => h)
          have HO9 : Hid (NOwn wr Z1 (.slice x1 N c1) (S.map (·.2))) := own_only HO6.out HR.out (fun _ _ h => h)
          have HB9 : Hid (Below w.heap.size w wr) := HBw6.out.trans (HR.out.toBelow HBw6.out.size (fun _ h => h.elim))
          clear HBb6 HP6 p1
          go_wp2_with fail
          clear p0
          go_loopw [13, 14, 15, 74] (fun _ _ _ v wr3 => ∃ j : Nat, j ≤ N ∧ v = .int .i64 (j : Int) ∧ Hid (QAt (fun j => B ≤ j ∧ j < ba) B (S.drop j) m wr3) ∧ Hid (NOwn wr3 Z1 (.slice x1 N c1) (S.map (·.2))) ∧ Hid (Below w.heap.size w wr3)) (fun _ _ _ v _ => N - (intOf v).toNat)
          case atStart => exact ⟨0, Nat.zero_le _, rfl, HA9.out, HO9.out, HB9.out⟩
          case round =>
            obtain ⟨j, hj, rfl, HQ, HN3, HW3⟩ := hrel
            by_cases hlt4 : (j : Int) < (N : Int)
            · have hjS : j < S.length := by rw [HN.out]; omega
              obtain ⟨⟨d, x⟩, he⟩ : ∃ e, S[j] = e := ⟨_, rfl⟩
              have hd : d ≤ 1099511627776 := HD.out (d, x) (he ▸ List.getElem_mem hjS)
              have hdr : S.drop j = (d, x) :: S.drop (j + 1) := by rw [List.drop_eq_getElem_cons hjS, he]
              obtain ⟨ga, rfl, hga, ca⟩ := HN3.out.get (i := j) (by rw [List.length_map]; exact hjS)
              have hx : (S.map (·.2)).getD j 0 = x := by
                rw [List.getD_eq_getElem?_getD, List.getElem?_map, List.getElem?_eq_getElem hjS, he]; rfl
              rw [hx] at ca
              rw [hdr] at HQ
              clear hx he hdr hga
              go_wp2_with fail
              refine (next_some 1099511627776 hd HQ.out).mono ?_
              rintro e w4 ⟨rfl, hO4, hQ4⟩
              have HQ4 := Lib.hid hQ4
              have HN4 : Hid (NOwn w4 Z1 (.slice (some ⟨ga, 0, none⟩) N c1) (S.map (·.2))) := own_only HN3.out hO4 (fun q hq h => by have := (HN3.out.lt q hq).1; have := HZ1.out; omega)
              have HW4 : Hid (Below w.heap.size w w4) := HW3.out.trans (hO4.toBelow HW3.out.size (fun q h => by omega))
              clear hO4 hQ4 ca
              go_wp2_with fail
              go_roundw
              case rel => exact ⟨j + 1, by omega, by go_num, HQ4.out, HN4.out, HW4.out⟩
              case measure => simp [intOf]; omega
            · have hz : S.drop j = [] := List.drop_eq_nil_of_le (by rw [HN.out]; omega)
              rw [hz] at HQ
              clear hz
              go_wp2_with fail
              refine (qlen_any HQ.out).mono ?_
              rintro e wr ⟨rfl, rfl⟩
              go_wp2_with fail
              go_ret
              exact ⟨by simp, HW3.out⟩
theorem queach_any (a : Option Addr) (len cap : Nat) (zs : List Int) (stop : Int) (w : World) (hI : Ints w a len zs) :
    Calls Try.prog 6 #[.slice a len cap, .int .i64 stop] w (Gives (.bool true) fun w' => Below w.heap.size w w') := by
  by_cases hlong : (300 : Int) < (len : Int)
  · exact qeach_long a len cap stop w hlong
  rcases hI with rfl | ⟨b, off, rfl, hbw, hcell⟩
  · exact qeach_some a 0 cap zs stop w hlong (fun i hi => by omega)
  · exact qeach_some _ len cap zs stop w hlong (fun i hi => ⟨b, off, rfl, hbw, hcell i hi⟩)
end Go.Proofs.Ytdbpcogbednokaa
