/-
  The number that a row of bytes is: nat.FromBytes.
-/
import Derived.Test.YthefednendgclaaLaw10
set_option linter.unusedVariables false
set_option linter.unusedSimpArgs false
namespace Go.Proofs.Ythefednendgclaa
open Go Go.RowKit Sac

theorem word_digit {c : List Nat} (hw : Words c) (k : Nat) : c.getD k 0 = val c / W ^ k % W := by
  rw [val_div hw]
  obtain ⟨R, hR⟩ := drop_two c k
  rw [hR, Nat.add_mul_mod_self_left, Nat.mod_eq_of_lt (words_get hw k)]
theorem from_room {y s x : Nat} (hy : y < 2 ^ (8 * s)) (hs : s < 4) (hx : x < 256) : y + 2 ^ (8 * s) * x < W := by
  unfold W
  have key : 2 ^ (8 * s) * 256 ≤ 4294967296 := by
    rcases (by omega : s = 0 ∨ s = 1 ∨ s = 2 ∨ s = 3) with rfl | rfl | rfl | rfl <;> decide
  generalize 2 ^ (8 * s) = p at hy key ⊢
  have h := Nat.mul_le_mul_left p (show x + 1 ≤ 256 from hx)
  rw [Nat.mul_add] at h
  omega
theorem from_step {c : List Nat} {n i x : Nat} (hw : Words c) (hv : val c = n % 256 ^ i) (hk : i / 4 < c.length) (hx : n / 256 ^ i % 256 = x) :
    c.getD (i / 4) 0 < 2 ^ (8 * (i % 4)) ∧ Words (c.set (i / 4) (c.getD (i / 4) 0 + 2 ^ (8 * (i % 4)) * x)) ∧ val (c.set (i / 4) (c.getD (i / 4) 0 + 2 ^ (8 * (i % 4)) * x)) = n % 256 ^ (i + 1) := by
  have e : (256 : Nat) ^ i = W ^ (i / 4) * 2 ^ (8 * (i % 4)) := by
    have h1 : W = 256 ^ 4 := by decide
    have h2 : (2 : Nat) ^ (8 * (i % 4)) = 256 ^ (i % 4) := by rw [Nat.pow_mul]
    rw [h1, h2, ← Nat.pow_mul, ← Nat.pow_add]
    congr 1
    omega
  have hlt : val c < 256 ^ i := hv ▸ Nat.mod_lt _ (Nat.pow_pos (by decide))
  have hy : c.getD (i / 4) 0 < 2 ^ (8 * (i % 4)) := by
    rw [word_digit hw]
    refine Nat.lt_of_le_of_lt (Nat.mod_le _ _) (Nat.div_lt_of_lt_mul ?_)
    rw [← e]; exact hlt
  have hx256 : x < 256 := hx ▸ Nat.mod_lt _ (by decide)
  refine ⟨hy, words_set hw _ _ ?_, ?_⟩
  · exact from_room hy (Nat.mod_lt _ (by decide)) hx256
  · have h := val_set c (i / 4) (c.getD (i / 4) 0 + 2 ^ (8 * (i % 4)) * x) hk
    rw [Nat.mul_add, ← Nat.mul_assoc, ← e, hv] at h
    rw [Nat.mod_pow_succ, hx]
    omega
theorem RdC.of_rd {w : World} {e : TypeId} {a : Option Addr} {vs : List Value} (h : Rd w e a vs) : RdC w a vs := fun hn => by
  obtain ⟨ad, h1, _, h3⟩ := h hn
  exact ⟨ad, h1, h3⟩
theorem RdC.take {w : World} {a : Option Addr} {vs : List Value} (h : RdC w a vs) (k : Nat) : RdC w a (vs.take k) := fun hn => by
  obtain ⟨ad, h1, h3⟩ := h (fun e => hn (by rw [e, List.take_nil]))
  refine ⟨ad, h1, fun j u hu => h3 j u ?_⟩
  rw [List.getElem?_take] at hu
  split at hu
  · exact hu
  · cases hu
theorem RdC.drop {w : World} {ad : Addr} {vs : List Value} (h : RdC w (some ad) vs) (k : Nat) : RdC w (some (ad.add k)) (vs.drop k) := fun hn => by
  obtain ⟨ad', e1, hc⟩ := h (fun e => hn (by rw [e, List.drop_nil]))
  obtain rfl := Option.some.inj e1
  refine ⟨_, rfl, fun j u hu => ?_⟩
  rw [Addr.add_add]
  exact hc (k + j) u (by rw [List.getElem?_drop] at hu; exact hu)
theorem rd_byteN {w : World} {a : Option Addr} {sz n : Nat} (h : RdC w a ((be sz n).map by8)) {j : Nat} (hj : j < sz) :
    ∃ ad x, a = some ad ∧ w.cell? (ad.add j) = some (.int .u8 ((x : Nat) : Int)) ∧ x < 256 ∧ n / 256 ^ (sz - 1 - j) % 256 = x := by
  obtain ⟨ad, h1, h3⟩ := h.at_ (k := j) (by rw [List.length_map, be_length]; exact hj)
  have e : ((be sz n).map by8)[j]'(by rw [List.length_map, be_length]; exact hj) = .int .u8 (((be sz n).getD j 0 : Nat) : Int) := by
    rw [List.getElem_map, List.getD_eq_getElem?_getD, List.getElem?_eq_getElem (by rw [be_length]; exact hj)]; rfl
  rw [e, be_get sz n j hj] at h3
  exact ⟨ad, _, h1, h3, Nat.mod_lt _ (by decide), rfl⟩

set_option maxRecDepth 100000 in
set_option maxHeartbeats 1000000 in
theorem frombytes_any (a : Option Addr) (sz cap n : Nat) (w : World) (h : RdC w a ((be sz n).map by8)) (hc : (sz : Int) ≤ cap) (hs1 : (sz : Int) ≤ 128) (hn : n < 256 ^ sz) :
    Calls Try.prog 115 #[.slice a sz cap] w fun e w' => ∃ b l c, e = .returned (.tuple #[.agg #[.slice b l c], .int .i64 0]) ∧ NatS w' b l n ∧ Below w.heap.size w w' := by
  have HR := Lib.hid h
  have HN := Lib.hid hn
  obtain ⟨m, hm⟩ : ∃ m : Nat, ((sz : Int) + 3) / 4 = (m : Int) := ⟨(sz + 3) / 4, by omega⟩
  have HM : Hid (4 * m ≤ sz + 3 ∧ sz ≤ 4 * m) := by show _ ∧ _; omega
  obtain ⟨s, hs⟩ : ∃ s, s = w.heap.size := ⟨_, rfl⟩
  have hbA := (Below.refl _ w).alloc (Nat.le_refl _) (Obj.cells #[Value.slice none 0 0] 33)
  have hBK : Blk (w.alloc (Obj.cells #[Value.slice none 0 0] 33)) s 33 [.slice none 0 0] := Blk.new' w _ _ s hs
  have hsz : 2 * ((sz : Int)) ≤ 256 := by omega
  clear h hn
  go_enter Try.func115, Try.ntmps115
  go_wp2_with first | fail | (refine wpList_make_blk _ rfl _ _ _ rfl 130 (.int .u32 0) 4 Try.underlying31 Try.infoWord rfl _ _ _ _ m rfl rfl hm hm (by omega) (by unfold maxLen; omega) ?_)
  intro w3
  rw [← hs]
  generalize w.alloc (Obj.cells #[Value.slice none 0 0] 33) = w1 at hbA hBK ⊢
  intro hB3 hb3
  have HBA : Hid (Below s w w1) := hs.symm ▸ hbA
  have HBK := Lib.hid hBK
  have HSS := Lib.hid hs
  clear hbA hBK hs
  obtain ⟨g, hg⟩ : ∃ g, s + 1 = g := ⟨_, rfl⟩
  rw [hg] at hB3 hb3 ⊢
  have hsg : s < g := by omega
  have HG := Lib.hid hsg
  have HB3 := Lib.hid (HBA.out.trans (hb3.mono (Nat.le_of_lt hsg)))
  have HBK3 := Lib.hid (HBK.out.below hb3 hsg)
  have HC3 := Lib.hid hB3
  clear hsg hg hb3 hB3 HBA HBK
  go_wp2_with fail
  go_loopw [18] (fun iv wr => ∃ (i : Nat) (c : List Nat), i ≤ sz ∧ iv = .int .i64 (i : Int) ∧ Hid (Words c ∧ c.length = m ∧ val c = n % 256 ^ i) ∧ Hid (Blk wr g 130 (c.map wd)) ∧ Hid (Below s w wr) ∧ Hid (Blk wr s 33 [.slice none 0 0])) (fun iv _ => sz - (intOf iv).toNat)
  case atStart => exact ⟨0, List.replicate m 0, Nat.zero_le _, rfl, ⟨words_replicate m, List.length_replicate, by rw [val_replicate, Nat.pow_zero, Nat.mod_one]⟩, (by show Blk _ _ _ _; rw [List.map_replicate]; exact HC3.out), HB3.out, HBK3.out⟩
  case round =>
    clear HB3 HBK3 HC3
    obtain ⟨i, c, hi, rfl, HC, HBL, HB, HK⟩ := hrel
    by_cases hlt : i < sz
    · obtain ⟨ad, x, rfl, cx, hx256, hx⟩ := rd_byteN (HR.out.below (HSS.out ▸ HB.out)) (j := sz - 1 - i) (by omega)
      rw [show sz - 1 - (sz - 1 - i) = i by omega] at hx
      have hk : i / 4 < c.length := by rw [HC.out.2.1]; have := HM.out; omega
      obtain ⟨hy, hw2, hv2⟩ := from_step HC.out.1 HC.out.2.2 hk hx
      have HW2 := Lib.hid (And.intro hw2 hv2)
      obtain ⟨y, hyy⟩ : ∃ y, c.getD (i / 4) 0 = y := ⟨_, rfl⟩
      rw [hyy] at hy
      have HYY := Lib.hid hyy
      have cy : wr.cell? ⟨g, i / 4, none⟩ = some (.int .u32 (y : Int)) := by
        rw [HBL.out.cell, List.getElem?_map, List.getElem?_eq_getElem hk, ← hyy, List.getD_eq_getElem?_getD, List.getElem?_eq_getElem hk]; rfl
      have hfr := HBL.out.frozen (i / 4)
      have hor := or_shl32 y x (8 * (i % 4)) 8 hy hx256 (by omega)
      obtain ⟨z, hz⟩ : ∃ z, y + 2 ^ (8 * (i % 4)) * x = z := ⟨_, rfl⟩
      rw [hz] at hor
      have HZ := Lib.hid hz
      obtain ⟨k, hkk⟩ : ∃ k, i / 4 = k := ⟨_, rfl⟩
      obtain ⟨r, hrr⟩ : ∃ r, i % 4 = r := ⟨_, rfl⟩
      have HKR := Lib.hid (And.intro hkk hrr)
      have hm4 : (k : Int) < (m : Int) := by have := HC.out.2.1; omega
      have q1 : (i : Int) / 4 = (k : Int) := by omega
      have q2 : IntKind.i64.wrap (k : Int) = (k : Int) := i64_small _ (by omega) (by omega)
      have q3 : (i : Int) % 4 = (r : Int) := by omega
      have q4 : IntKind.i64.wrap (r : Int) = (r : Int) := i64_small _ (by omega) (by omega)
      have q5 : IntKind.i64.wrap (8 * (r : Int)) = ((8 * r : Nat) : Int) := by rw [i64_small _ (by omega) (by omega)]; omega
      have q6 : Int.tdiv (i : Int) 4 = (k : Int) := by rw [Int.tdiv_eq_ediv_of_nonneg (by omega)]; exact q1
      have q7 : Int.tmod (i : Int) 4 = (r : Int) := by rw [Int.tmod_eq_emod_of_nonneg (by omega)]; exact q3
      rw [hkk] at cy hfr
      rw [hrr] at hor
      have HOR : Hid (bits .or .u32 (y : Int) ((x : Int) * 2 ^ (8 * r) % 4294967296) = (z : Int)) := hor
      clear hw2 hv2 hyy hy hx hz hk hkk hrr
      go_wp2_with fail
      go_still_tail 13, (by kernel_rfl)
      go_simp
      go_wp2_with fail
      obtain ⟨rfl, rfl⟩ := HKR.out
      refine ⟨⟨i + 1, c.set (i / 4) z, by omega, rfl, ?_, ?_, (HB.out.setCell (p := ⟨g, i / 4, none⟩) (Nat.le_of_lt HG.out) _).drew, HK.out.other _ _ (by show s ≠ g; have := HG.out; omega)⟩, ?_⟩
      · have h2 := HW2.out
        rw [HYY.out, HZ.out] at h2
        exact ⟨h2.1, by rw [List.length_set]; exact HC.out.2.1, h2.2⟩
      · have h1 := HBL.out.set (i / 4) (Value.int IntKind.u32 (z : Int))
        rw [set_map wd c (i / 4) z _ (by unfold wd; rfl)] at h1
        show Blk _ _ _ _
        rw [HOR.out]
        exact h1.drew
      · simp only [intOf]; omega
    · obtain rfl : i = sz := by omega
      go_wp2_with fail
      refine (trim_any (some ⟨g, 0, none⟩) m m c wr HC.out.2.1 (by omega) (by omega) HC.out.1 (Blk.rd (rest := []) (by rw [List.append_nil]; exact HBL.out))).mono ?_
      rw [HC.out.2.2, Nat.mod_eq_of_lt HN.out]
      rintro e w4 ⟨b, l, cp, rfl, hn, hb4⟩
      have HN4 : Hid (NatS w4 b l n) := NatS.fit (k := 32) hn (Nat.lt_of_lt_of_le HN.out (by rw [show W = 256 ^ 4 from rfl, ← Nat.pow_mul]; exact Nat.pow_le_pow_right (by decide) (by omega))) (by decide)
      have hK4 := HK.out.below hb4 HK.out.lt
      have HK4 := Lib.hid hK4
      have HB4 := Lib.hid (HB.out.trans (hb4.mono (Nat.le_of_lt HK.out.lt)))
      have q0 := hK4.cell 0
      have f0 := hK4.frozen 0
      simp only [List.getElem?_cons_zero] at q0
      clear hn hb4 hK4
      go_wp2_with fail
      exact ret_nat_tmp rfl rfl rfl (HK4.out.set 0 _) ⟨b, l, cp, rfl, HN4.out.set HK4.out 0 _, HSS.out ▸ HB4.out.setCell (Nat.le_refl _) _⟩
end Go.Proofs.Ythefednendgclaa
