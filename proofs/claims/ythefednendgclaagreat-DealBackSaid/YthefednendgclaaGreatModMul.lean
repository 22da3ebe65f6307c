/-
  The ring's own functions: Mul.
-/
import Derived.Test.YthefednendgclaaGreatModAdd
set_option linter.unusedVariables false
set_option linter.unusedSimpArgs false
namespace Go.Proofs.YthefednendgclaaGreat
open Go Go.RowKit Sac

set_option maxRecDepth 100000 in
set_option maxHeartbeats 4000000 in
theorem rmul_any (r m : Nat) (a b : Option Addr) (len cap lenb capb n k : Nat) (w : World) (h : RingAt w r m) (hn : NatS w a len n) (hk : NatS w b lenb k) :
    Calls Tryz.prog 49 #[.pointer (some ⟨r, 0, none⟩), .agg #[.slice a len cap], .agg #[.slice b lenb capb]] w (RetS (n * k % m) w) := by
  have HN := Lib.hid hn
  have HK := Lib.hid hk
  have HR := Lib.hid h
  have hl1 := hn.2
  have hl2 := hk.2
  obtain ⟨ma, ml, mc, hB, hM, h2⟩ := h
  clear hn hk hM
  by_cases h32 : m < 4294967296
  · rw [if_pos h32] at hB
    have h32i : (m : Int) < 4294967296 := by omega
    have hm0 : ((m : Int) == 0) = false := by rw [beq_eq_false_iff_ne]; omega
    have hmn : 0 < m := by omega
    have hmd : decide (0 < m) = true := by rw [decide_eq_true_iff]; exact hmn
    have HB := Lib.hid hB
    have cW : ∀ o1 o2 o3, (((w.alloc o1).alloc o2).alloc o3).cell? ⟨r, 1, none⟩ = some (.int .u64 (m : Int)) := fun o1 o2 o3 => (((hB.alloc o1).alloc o2).alloc o3).cell 1
    clear hB
    go_enter Tryz.func49, Tryz.ntmps49
    go_wp2_with fail
    obtain ⟨s, hs⟩ : ∃ s, s = w.heap.size := ⟨_, rfl⟩
    have hbx := BX.make w (.slice a len cap) (.slice b lenb capb) (.slice none 0 0)
    generalize (((w.alloc (Obj.cells #[Value.slice a len cap] 36)).alloc (Obj.cells #[Value.slice b lenb capb] 36)).alloc (Obj.cells #[Value.slice none 0 0] 36)) = w1 at hbx ⊢
    rw [← hs] at hbx ⊢
    have HS := Lib.hid hs
    have HX1 := Lib.hid hbx
    have HN1 := Lib.hid (HN.out.below (hs ▸ hbx.1))
    have HK1 := Lib.hid (HK.out.below (hs ▸ hbx.1))
    have HR1 := Lib.hid (HR.out.below (hs ▸ hbx.1))
    have HB1 := Lib.hid (HB.out.below (hs ▸ hbx.1) HB.out.lt)
    clear hbx hs
    have ca := HX1.out.2.1.cell
    have cb := HX1.out.2.2.1.cell
    have c1 := HB1.out.cell 1
    simp only [List.getElem?_cons_succ, List.getElem?_cons_zero] at c1
    go_wp2_with fail
    have hpq : ∀ (x y : Nat), x % m * (y % m) < 18446744073709551616 := fun x y => by
      have h1 : x % m < m := Nat.mod_lt _ hmn
      have h2 : y % m < m := Nat.mod_lt _ hmn
      have := Nat.mul_le_mul (show x % m ≤ 4294967295 by omega) (show y % m ≤ 4294967295 by omega)
      omega
    refine (uint_any a len cap n w1 HN1.out.1 (by omega)).mono ?_
    rintro e w2 ⟨hb2, hlo, hhi⟩
    have HX2 := Lib.hid (HX1.out.below hb2)
    have HN2 := Lib.hid (HN1.out.below hb2)
    have HK2 := Lib.hid (HK1.out.below hb2)
    have HR2 := Lib.hid (HR1.out.below hb2)
    have HB2 := Lib.hid (HB1.out.below hb2 HB1.out.lt)
    clear hb2 ca cb c1 cW
    have cb := HX2.out.2.2.1.cell
    by_cases hn64 : n < 18446744073709551616
    · obtain rfl := hlo hn64
      clear hlo hhi
      go_wp2_with fail
      refine (uint_any b lenb capb k w2 HK2.out.1 (by omega)).mono ?_
      rintro e w3 ⟨hb3, hlo, hhi⟩
      have HX3 := Lib.hid (HX2.out.below hb3)
      have HN3 := Lib.hid (HN2.out.below hb3)
      have HK3 := Lib.hid (HK2.out.below hb3)
      have HR3 := Lib.hid (HR2.out.below hb3)
      have HB3 := Lib.hid (HB2.out.below hb3 HB2.out.lt)
      clear hb3 cb
      have ca := HX3.out.2.1.cell
      have cb := HX3.out.2.2.1.cell
      have c1 := HB3.out.cell 1
      simp only [List.getElem?_cons_succ, List.getElem?_cons_zero] at c1
      by_cases hk64 : k < 18446744073709551616
      · obtain rfl := hlo hk64
        clear hlo hhi
        obtain ⟨xm, hxm⟩ : ∃ xm, xm = n % m := ⟨_, rfl⟩
        obtain ⟨ym, hym⟩ : ∃ ym, ym = k % m := ⟨_, rfl⟩
        obtain ⟨xy, hxy⟩ : ∃ xy, xy = xm * ym := ⟨_, rfl⟩
        obtain ⟨z, hz⟩ : ∃ z, z = xy % m := ⟨_, rfl⟩
        have hxm3 : (n : Int) % (m : Int) = (xm : Int) := by rw [hxm]; push_cast; rfl
        have hym3 : (k : Int) % (m : Int) = (ym : Int) := by rw [hym]; push_cast; rfl
        have hxy3 : (xm : Int) * (ym : Int) = (xy : Int) := by rw [hxy]; push_cast; rfl
        have hz3 : (xy : Int) % (m : Int) = (z : Int) := by rw [hz]; push_cast; rfl
        have hxl : xm < m := by rw [hxm]; exact Nat.mod_lt _ hmn
        have hyl : ym < m := by rw [hym]; exact Nat.mod_lt _ hmn
        have hzl : z < m := by rw [hz]; exact Nat.mod_lt _ hmn
        have hxyl : xy < 18446744073709551616 := by rw [hxy, hxm, hym]; exact hpq n k
        have wr2 : IntKind.u64.wrap (xm : Int) = (xm : Int) := wraps_u64 _ (by omega) (by omega)
        have wr3 : IntKind.u64.wrap (ym : Int) = (ym : Int) := wraps_u64 _ (by omega) (by omega)
        have wr4 : IntKind.u64.wrap (z : Int) = (z : Int) := wraps_u64 _ (by omega) (by omega)
        have tm1 : (n : Int).tmod m = (xm : Int) := by rw [Int.tmod_eq_emod_of_nonneg (by omega)]; exact hxm3
        have tm2 : (k : Int).tmod m = (ym : Int) := by rw [Int.tmod_eq_emod_of_nonneg (by omega)]; exact hym3
        have tm3 : (xy : Int).tmod m = (z : Int) := by rw [Int.tmod_eq_emod_of_nonneg (by omega)]; exact hz3
        have hm1 : (m : Int) ≠ 0 := by omega
        have hm3 : m ≠ 0 := by omega
        have wr1 : IntKind.u64.wrap (xy : Int) = (xy : Int) := wraps_u64 _ (by omega) (by omega)
        have HZ : Hid (z = n * k % m) := by show _ = _; rw [hz, hxy, hxm, hym, ← Nat.mul_mod]
        clear hxm hym hxy hz hpq
        go_wp2_with fail
        have hrs : r < s := by rw [HS.out]; exact HR.out.lt
        have hsl : s + 1 + 1 < w3.heap.size := HX3.out.2.2.2.lt
        go_region_held3 (fun w' => w'.cell? ⟨r, 1, none⟩ = some (.int .u64 (m : Int))) (first | assumption | exact hst _)
          (first
            | (go_at_call 13; refine (new_any z _ (by omega)).mono ?_; rintro e w4 ⟨sa, sl, sc, rfl, hZZ, hb4⟩; have HX4 := Lib.hid (HX3.out.drew.below hb4); have c4 : w4.cell? ⟨r, 1, none⟩ = some (.int .u64 (m : Int)) := (hb4.cell (p := ⟨r, 1, none⟩) (by show r < w3.heap.size; omega)).trans c1; have cr := HX4.out.2.2.2.cell; have fr := HX4.out.2.2.2.frozen; have hst : ∀ v, (w4.setCell ⟨s + 1 + 1, 0, none⟩ v).cell? ⟨r, 1, none⟩ = some (.int .u64 (m : Int)) := fun v => (cell_other v (show r ≠ s + 1 + 1 by omega)).trans c4; have HZZ := Lib.hid hZZ; clear hZZ hb4))
        all_goals go_wp2_with fail
        all_goals
          have hB : Blk w4 (s + 1 + 1) 36 [.slice none 0 0] := HX4.out.2.2.2
          refine ret_nat rfl rfl (hB.set 0 _) (⟨sa, sl, sc, rfl, ⟨?_, ?_⟩, ?_⟩ : RetS (n * k % m) w _ _)
          · rw [← HZ.out]; exact HZZ.out.setCell hB (by decide) 0 _
          · have := HZZ.out.fit (k := 1) (by unfold W; omega); omega
          · rw [← HS.out]; exact HX4.out.1.setCell (p := ⟨s + 1 + 1, 0, none⟩) (by show s ≤ s + 1 + 1; omega) _
      · obtain rfl := hhi (by omega)
        clear hlo hhi
        go_wp2_with fail
        refine (mul_any a b len cap lenb capb n k w3 HN3.out.1 HK3.out.1 (by omega) (by omega)).mono ?_
        rintro e w4 ⟨ra, rl, rc, rfl, hA, hb4⟩
        have hrl := hA.fit (mul_pow HN3.out.1.lt HK3.out.1.lt)
        have HX4 := Lib.hid (HX3.out.below hb4)
        have HR4 := Lib.hid (HR3.out.below hb4)
        have HA := Lib.hid hA
        clear hA hb4
        go_wp2_with fail
        refine (of_any r m ra rl rc (n * k) w4 HR4.out HA.out (by omega)).mono ?_
        rintro e w5 ⟨sa, sl, sc, rfl, hZ, hb5⟩
        have HX5 := Lib.hid (HX4.out.below hb5)
        have HZ5 := Lib.hid hZ
        clear hZ hb5
        have cr := HX5.out.2.2.2.cell
        have fr := HX5.out.2.2.2.frozen
        go_wp2_with fail
        have hB : Blk w5 (s + 1 + 1) 36 [.slice none 0 0] := HX5.out.2.2.2
        refine ret_nat rfl rfl (hB.set 0 _) (⟨sa, sl, sc, rfl, ⟨HZ5.out.1.setCell hB (by decide) 0 _, HZ5.out.2⟩, ?_⟩ : RetS (n * k % m) w _ _)
        rw [← HS.out]; exact HX5.out.1.setCell (p := ⟨s + 1 + 1, 0, none⟩) (by show s ≤ s + 1 + 1; omega) _
    · obtain rfl := hhi (by omega)
      clear hlo hhi
      go_wp2_with fail
      refine (uint_any b lenb capb k w2 HK2.out.1 (by omega)).mono ?_
      rintro e w3 ⟨hb3, hlo, hhi⟩
      have HX3 := Lib.hid (HX2.out.below hb3)
      have HN3 := Lib.hid (HN2.out.below hb3)
      have HK3 := Lib.hid (HK2.out.below hb3)
      have HR3 := Lib.hid (HR2.out.below hb3)
      have HB3 := Lib.hid (HB2.out.below hb3 HB2.out.lt)
      clear hb3 cb
      have ca := HX3.out.2.1.cell
      have cb := HX3.out.2.2.1.cell
      by_cases hk64 : k < 18446744073709551616
      · obtain rfl := hlo hk64
        clear hlo hhi
        go_wp2_with fail
        refine (mul_any a b len cap lenb capb n k w3 HN3.out.1 HK3.out.1 (by omega) (by omega)).mono ?_
        rintro e w4 ⟨ra, rl, rc, rfl, hA, hb4⟩
        have hrl := hA.fit (mul_pow HN3.out.1.lt HK3.out.1.lt)
        have HX4 := Lib.hid (HX3.out.below hb4)
        have HR4 := Lib.hid (HR3.out.below hb4)
        have HA := Lib.hid hA
        clear hA hb4
        go_wp2_with fail
        refine (of_any r m ra rl rc (n * k) w4 HR4.out HA.out (by omega)).mono ?_
        rintro e w5 ⟨sa, sl, sc, rfl, hZ, hb5⟩
        have HX5 := Lib.hid (HX4.out.below hb5)
        have HZ5 := Lib.hid hZ
        clear hZ hb5
        have cr := HX5.out.2.2.2.cell
        have fr := HX5.out.2.2.2.frozen
        go_wp2_with fail
        have hB : Blk w5 (s + 1 + 1) 36 [.slice none 0 0] := HX5.out.2.2.2
        refine ret_nat rfl rfl (hB.set 0 _) (⟨sa, sl, sc, rfl, ⟨HZ5.out.1.setCell hB (by decide) 0 _, HZ5.out.2⟩, ?_⟩ : RetS (n * k % m) w _ _)
        rw [← HS.out]; exact HX5.out.1.setCell (p := ⟨s + 1 + 1, 0, none⟩) (by show s ≤ s + 1 + 1; omega) _
      · obtain rfl := hhi (by omega)
        clear hlo hhi
        go_wp2_with fail
        refine (mul_any a b len cap lenb capb n k w3 HN3.out.1 HK3.out.1 (by omega) (by omega)).mono ?_
        rintro e w4 ⟨ra, rl, rc, rfl, hA, hb4⟩
        have hrl := hA.fit (mul_pow HN3.out.1.lt HK3.out.1.lt)
        have HX4 := Lib.hid (HX3.out.below hb4)
        have HR4 := Lib.hid (HR3.out.below hb4)
        have HA := Lib.hid hA
        clear hA hb4
        go_wp2_with fail
        refine (of_any r m ra rl rc (n * k) w4 HR4.out HA.out (by omega)).mono ?_
        rintro e w5 ⟨sa, sl, sc, rfl, hZ, hb5⟩
        have HX5 := Lib.hid (HX4.out.below hb5)
        have HZ5 := Lib.hid hZ
        clear hZ hb5
        have cr := HX5.out.2.2.2.cell
        have fr := HX5.out.2.2.2.frozen
        go_wp2_with fail
        have hB : Blk w5 (s + 1 + 1) 36 [.slice none 0 0] := HX5.out.2.2.2
        refine ret_nat rfl rfl (hB.set 0 _) (⟨sa, sl, sc, rfl, ⟨HZ5.out.1.setCell hB (by decide) 0 _, HZ5.out.2⟩, ?_⟩ : RetS (n * k % m) w _ _)
        rw [← HS.out]; exact HX5.out.1.setCell (p := ⟨s + 1 + 1, 0, none⟩) (by show s ≤ s + 1 + 1; omega) _
  · rw [if_neg h32] at hB
    have HB := Lib.hid hB
    have cW : ∀ o1 o2 o3, (((w.alloc o1).alloc o2).alloc o3).cell? ⟨r, 1, none⟩ = some (.int .u64 (0 : Int)) := fun o1 o2 o3 => (((hB.alloc o1).alloc o2).alloc o3).cell 1
    clear hB
    go_enter Tryz.func49, Tryz.ntmps49
    go_wp2_with fail
    obtain ⟨s, hs⟩ : ∃ s, s = w.heap.size := ⟨_, rfl⟩
    have hbx := BX.make w (.slice a len cap) (.slice b lenb capb) (.slice none 0 0)
    generalize (((w.alloc (Obj.cells #[Value.slice a len cap] 36)).alloc (Obj.cells #[Value.slice b lenb capb] 36)).alloc (Obj.cells #[Value.slice none 0 0] 36)) = w1 at hbx ⊢
    rw [← hs] at hbx ⊢
    have HS := Lib.hid hs
    have HX1 := Lib.hid hbx
    have HN1 := Lib.hid (HN.out.below (hs ▸ hbx.1))
    have HK1 := Lib.hid (HK.out.below (hs ▸ hbx.1))
    have HR1 := Lib.hid (HR.out.below (hs ▸ hbx.1))
    have HB1 := Lib.hid (HB.out.below (hs ▸ hbx.1) HB.out.lt)
    clear hbx hs
    have ca := HX1.out.2.1.cell
    have cb := HX1.out.2.2.1.cell
    have c1 := HB1.out.cell 1
    simp only [List.getElem?_cons_succ, List.getElem?_cons_zero] at c1
    go_wp2_with fail
    refine (mul_any a b len cap lenb capb n k w1 HN1.out.1 HK1.out.1 (by omega) (by omega)).mono ?_
    rintro e w4 ⟨ra, rl, rc, rfl, hA, hb4⟩
    have hrl := hA.fit (mul_pow HN1.out.1.lt HK1.out.1.lt)
    have HX4 := Lib.hid (HX1.out.below hb4)
    have HR4 := Lib.hid (HR1.out.below hb4)
    have HA := Lib.hid hA
    clear hA hb4
    go_wp2_with fail
    refine (of_any r m ra rl rc (n * k) w4 HR4.out HA.out (by omega)).mono ?_
    rintro e w5 ⟨sa, sl, sc, rfl, hZ, hb5⟩
    have HX5 := Lib.hid (HX4.out.below hb5)
    have HZ5 := Lib.hid hZ
    clear hZ hb5
    have cr := HX5.out.2.2.2.cell
    have fr := HX5.out.2.2.2.frozen
    go_wp2_with fail
    have hB : Blk w5 (s + 1 + 1) 36 [.slice none 0 0] := HX5.out.2.2.2
    refine ret_nat rfl rfl (hB.set 0 _) (⟨sa, sl, sc, rfl, ⟨HZ5.out.1.setCell hB (by decide) 0 _, HZ5.out.2⟩, ?_⟩ : RetS (n * k % m) w _ _)
    rw [← HS.out]; exact HX5.out.1.setCell (p := ⟨s + 1 + 1, 0, none⟩) (by show s ≤ s + 1 + 1; omega) _

end Go.Proofs.YthefednendgclaaGreat
