import Derived.Test.YthefednendgclaaGreatSha3
import Derived.Test.YthefednendgclaaGreatNGE
import Derived.Deep.RegionHeld3
set_option linter.unusedVariables false
set_option linter.unusedSimpArgs false
/-
  SHA-256: Copy, Sum.
-/
namespace Go.Proofs.YthefednendgclaaGreat
open Go Go.RowKit Sac

set_option maxRecDepth 100000 in
set_option maxHeartbeats 4000000 in
theorem hcopy_any (base h : Nat) (st rest : List Nat) (n : Nat) (w : World) (hh : HashAt w base h st rest n) (hlen : rest.length ≤ 1000000) :
    Calls Tryz.prog 162 #[.pointer (some ⟨h, 0, none⟩)] w fun e w' => ∃ h', e = .returned (.pointer (some ⟨h', 0, none⟩)) ∧ HashAt w' w.heap.size h' st rest n ∧ Below w.heap.size w w' := by
  obtain ⟨v, hB, hbh, hv, hst, hsw⟩ := hh
  have hstl : ∃ v0 v1 v2 v3 v4 v5 v6 v7, st = [v0, v1, v2, v3, v4, v5, v6, v7] := by
    match st, hst with
    | [a0, a1, a2, a3, a4, a5, a6, a7], _ => exact ⟨_, _, _, _, _, _, _, _, rfl⟩
  obtain ⟨v0, v1, v2, v3, v4, v5, v6, v7, rfl⟩ := hstl
  have hRB := hv.rb
  have hlt := hB.lt
  have hcs : ∀ i u, ([v0, v1, v2, v3, v4, v5, v6, v7].map w32 ++ [v, .int .i64 (n : Int)])[i]? = some u → ∀ w', BB w w' → w'.cell? ⟨h, i, none⟩ = some u := fun i u hu w' hb => (hb.cell hlt).trans ((hB.cell i).trans hu)
  have g0 := hcs 0 _ rfl
  have g1 := hcs 1 _ rfl
  have g2 := hcs 2 _ rfl
  have g3 := hcs 3 _ rfl
  have g4 := hcs 4 _ rfl
  have g5 := hcs 5 _ rfl
  have g6 := hcs 6 _ rfl
  have g7 := hcs 7 _ rfl
  have g8 := hcs 8 _ rfl
  have g9 := hcs 9 _ rfl
  obtain ⟨L, hL⟩ : ∃ L, rest.length = L := ⟨_, rfl⟩
  have HL := Lib.hid hL
  have hK : Buf (w.alloc (Obj.cells #[] 5)).drew w.heap.size (.slice (some ⟨w.heap.size, 0, none⟩) 0 0) [] :=
    ⟨fun x hx => (by cases hx), .inr ⟨w.heap.size, 0, 0, [], [], rfl, Nat.le_refl _, Blk.new w [] 5, rfl, ⟨Nat.le_refl _, Nat.zero_le _⟩, by decide⟩⟩
  have hbb : BB w (w.alloc (Obj.cells #[] 5)).drew := BB.drew (BB.alloc (BB.refl _))
  have HK := Lib.hid hK
  have HR := Lib.hid (hRB.below hbb)
  have hsz : w.heap.size ≤ (w.alloc (Obj.cells #[] 5)).drew.heap.size := hbb.size
  have HSW := Lib.hid hsw
  clear hcs hB hv hst hsw hRB hlt hL hK
  unfold w32 at g0 g1 g2 g3 g4 g5 g6 g7
  go_enter Tryz.func162, Tryz.ntmps162
  go_wp2_with fail
  go_region_held3 (fun w' => BB w w') (first | assumption | exact BB.drew (BB.refl _) | exact BB.alloc (by assumption) | exact BB.alloc (BB.drew (BB.refl _)) | exact BB.drew (BB.alloc (BB.refl _)))
    (first
      | (refine step_append_buf rfl (.tmp 9) (.tmp 13) rfl w.heap.size _ [] rfl HK.out v rest rfl HR.out (by rw [List.length_nil, Nat.zero_add]; omega) hsz ?_; intro v' w2 hbuf hgr hf; rw [List.nil_append] at hbuf; obtain ⟨ra, rc, hvv, hr1, hr2⟩ := hbuf.slice; rw [HL.out] at hvv; subst hvv; have HU2 := Lib.hid hbuf; have hb2 : BB w w2 := below_grown hbb hgr (fun k hk => (HK.out.lt hk).1) hsz; clear hbuf hgr hf hr1 hr2))
  go_wp2_with fail
  go_ret
  exact ⟨_, rfl, ⟨.slice ra L rc, Blk.new w2 ([v0, v1, v2, v3, v4, v5, v6, v7].map w32 ++ [.slice ra L rc, .int .i64 (n : Int)]) 219, hb2.size, HU2.out.below ((Below.refl _ w2).alloc (Nat.le_refl _) _), rfl, HSW.out⟩, BB.alloc hb2⟩

theorem rb_lit (w : World) (x : Nat) (hx : x < 256) (v : Value) (hv : v = .int .u8 (x : Int)) : RB (w.alloc (Obj.cells #[v] 5)) (.slice (some ⟨w.heap.size, 0, none⟩) 1 1) [x] := by
  subst hv
  exact ⟨some ⟨w.heap.size, 0, none⟩, 1, rfl, Nat.le_refl 1, by decide, (fun h => by cases h), Blk.rd (rest := []) (Blk.new w [.int .u8 (x : Int)] 5), fun y hy => by rw [List.mem_singleton.1 hy]; exact hx⟩

theorem rb_lit4 (w : World) (x : Nat) (v0 v1 v2 v3 : Value) (h0 : v0 = by8 (x / 16777216 % 256)) (h1 : v1 = by8 (x / 65536 % 256)) (h2 : v2 = by8 (x / 256 % 256)) (h3 : v3 = by8 (x % 256)) :
    RB (w.alloc (Obj.cells #[v0, v1, v2, v3] 5)) (.slice (some ⟨w.heap.size, 0, none⟩) 4 4) (Sha.be4 x) := by
  subst h0 h1 h2 h3
  refine ⟨some ⟨w.heap.size, 0, none⟩, 4, rfl, Nat.le_refl 4, by decide, (fun h => by cases h), Blk.rd (rest := []) (Blk.new w [by8 (x / 16777216 % 256), by8 (x / 65536 % 256), by8 (x / 256 % 256), by8 (x % 256)] 5), fun y hy => ?_⟩
  simp [Sha.be4] at hy
  rcases hy with rfl | rfl | rfl | rfl <;> omega
theorem run_index_state (w : World) (cs : Array Value) (i : Nat) (v : Value) (hi : i < 8) (hv : cs[i]? = some v) : (Instr.index 216 (.agg cs) (.int .i64 (i : Int))).run Tryz.prog w = .ok v w := by
  have hsz : (sizeOf 106).run Tryz.prog w = .ok 1 w := by kernel_rfl
  have hag : (isAgg 106).run Tryz.prog w = .ok false w := by kernel_rfl
  have hr : (0 : Int) ≤ (i : Int) ∧ (i : Int) < ((8 : Nat) : Int) := by omega
  simp [Instr.index, run_underlying Tryz.underlying216, asIntOf, hi, part, hag, hsz, hv, go_sem]

/-- What is put behind n bytes: the zeros, and the first k bytes of the length, from its top. -/
def tailTo (n k : Nat) : List Nat := 128 :: (List.replicate ((119 - n % 64) % 64) 0 ++ (Sha.len8 n).take k)
theorem tailTo_length (n k : Nat) (hk : k ≤ 8) : (tailTo n k).length = 1 + (119 - n % 64) % 64 + k := by
  unfold tailTo
  simp [Sha.len8]; omega
theorem tailTo_snoc (n k : Nat) (hk : k < 8) : tailTo n (k + 1) = tailTo n k ++ [n * 8 / 2 ^ (8 * (7 - k)) % 256] := by
  unfold tailTo
  have h : (Sha.len8 n).take (k + 1) = (Sha.len8 n).take k ++ [n * 8 / 2 ^ (8 * (7 - k)) % 256] := by
    match k, hk with
    | 0, _ | 1, _ | 2, _ | 3, _ | 4, _ | 5, _ | 6, _ => rfl
    | 7, _ => simp [Sha.len8]
  rw [h]; simp
theorem tailTo_end (n : Nat) : tailTo n 8 = Sha.tail n := by unfold tailTo Sha.tail; simp [Sha.len8]

set_option maxRecDepth 100000 in
set_option maxHeartbeats 4000000 in
theorem hsum_any (base h : Nat) (st rest : List Nat) (n : Nat) (w : World) (hh : HashAt w base h st rest n) (hlen : rest.length < 64) (hn : (n : Int) ≤ 900000) :
    Calls Tryz.prog 158 #[.pointer (some ⟨h, 0, none⟩)] w fun e w' => ∃ v, e = .returned v ∧ Buf w' w.heap.size v ((eat st (rest ++ Sha.tail n)).1.flatMap Sha.be4) ∧ Below w.heap.size w w' := by
  have HH := Lib.hid hh
  clear hh
  go_enter Tryz.func158, Tryz.ntmps158
  go_wp2_with fail
  refine (hcopy_any base h st rest n w HH.out (by omega)).mono ?_
  rintro e w2 ⟨c, rfl, hC, hb2⟩
  have HC2 := Lib.hid hC
  have HB2 := Lib.hid hb2
  have c9 : w2.cell? ⟨h, 9, none⟩ = some (.int .i64 (n : Int)) := by
    obtain ⟨v, hB, _, _, hst, _⟩ := HH.out
    rw [(hB.below hb2 hB.lt).cell, List.getElem?_append_right (by simp [hst])]; simp [hst]
  have G9 : ∀ w', Below w.heap.size w w' → w'.cell? ⟨h, 9, none⟩ = some (.int .i64 (n : Int)) := fun w' hb => by
    obtain ⟨v, hB, _, _, hst, _⟩ := HH.out
    rw [(hB.below hb hB.lt).cell, List.getElem?_append_right (by simp [hst])]; simp [hst]
  obtain ⟨q, hq⟩ : ∃ q, q = n % 64 := ⟨_, rfl⟩
  have t1 : (n : Int).tmod 64 = (q : Int) := by rw [Int.tmod_eq_emod_of_nonneg (by omega)]; omega
  obtain ⟨p, hp⟩ : ∃ p, p = (119 - q) % 64 := ⟨_, rfl⟩
  have t2 : ((119 : Int) - (q : Int)).tmod 64 = (p : Int) := by rw [Int.tmod_eq_emod_of_nonneg (by omega)]; omega
  have t3 : (n : Int) % 64 = (q : Int) := by omega
  have t4 : ((119 : Int) - (q : Int)) % 64 = (p : Int) := by omega
  have hp64 : (p : Int) < 64 := by omega
  have hq64 : (q : Int) < 64 := by omega
  have HPQ : Hid (q = n % 64 ∧ p = (119 - q) % 64) := ⟨hq, hp⟩
  clear hC hb2 hq hp
  obtain ⟨E, hE⟩ : ∃ E, E = w2.heap.size := ⟨_, rfl⟩
  have HEE := Lib.hid hE
  go_wp2_with first | fail | (refine wpList_make_blk _ rfl _ _ _ rfl 5 (.int .u8 0) 1 Tryz.underlying91 Tryz.infoByte rfl _ _ _ _ (1 + p) rfl rfl (by omega) (by omega) (by omega) (by unfold maxLen; omega) ?_; intro w3 hB3 hb3; have HE3 := Lib.hid hB3; have HB3 := Lib.hid hb3; have cE := hB3.cell 0; rw [List.getElem?_replicate, if_pos (by omega)] at cE; have fE := hB3.frozen 0; clear hB3 hb3)
  rw [← hE] at HE3 HB3 ⊢
  clear hE
  have hU3 : Buf (w3.setCell ⟨E, 0, none⟩ (.int .u8 128)) E (.slice (some ⟨E, 0, none⟩) (1 + p) (1 + p)) (tailTo n 0) := by
    have hl := tailTo_length n 0 (by decide)
    rw [← HPQ.out.1, ← HPQ.out.2, Nat.add_zero] at hl
    refine ⟨fun x hx => ?_, .inr ⟨E, 0, 1 + p, [], [], by rw [hl], Nat.le_refl _, ?_, rfl, ⟨by rw [hl]; exact Nat.le_refl _, by rw [hl]; exact Nat.le_refl _⟩, by omega⟩⟩
    · unfold tailTo at hx
      simp at hx
      rcases hx with rfl | ⟨_, rfl⟩ <;> decide
    · have h1 := HE3.out.set 0 (.int .u8 128)
      have e : (List.replicate (1 + p) (Value.int IntKind.u8 0)).set 0 (.int .u8 128) = [] ++ (tailTo n 0).map by8 ++ [] := by
        unfold tailTo
        rw [← HPQ.out.1, ← HPQ.out.2, Nat.add_comm 1 p, List.replicate_succ]
        simp [by8]
      rw [e] at h1
      exact h1
  have HU3 := Lib.hid hU3
  have HB4 : Hid (Below E w2 (w3.setCell ⟨E, 0, none⟩ (.int .u8 128))) := HB3.out.setCell (p := ⟨E, 0, none⟩) (Nat.le_refl _) _
  clear hU3 cE fE HE3 HB3 c9
  generalize w3.setCell ⟨E, 0, none⟩ (.int .u8 128) = w4 at HU3 HB4 ⊢
  go_loopw [4, 5] (fun ev iv wr => ∃ k : Nat, (k : Int) ≤ 8 ∧ iv = .int .i64 (7 - (k : Int)) ∧ Hid (Buf wr E ev (tailTo n k)) ∧ Hid (Below E w2 wr)) (fun _ iv _ => (intOf iv + 1).toNat)
  case atStart => exact ⟨0, by omega, rfl, HU3.out, HB4.out⟩
  case round =>
    clear HU3 HB4
    obtain ⟨k, hk, rfl, HU, HB⟩ := hrel
    have hbel : Below w.heap.size w wr := HB2.out.trans (HB.out.mono (by rw [HEE.out]; exact HB2.out.size))
    have c9 := G9 wr hbel
    have c9' : ∀ o, (wr.alloc o).cell? ⟨h, 9, none⟩ = some (.int .i64 (n : Int)) := fun o => G9 _ (hbel.alloc hbel.size _)
    by_cases hlt : (k : Int) < 8
    · have hge : decide ((0 : Int) ≤ 7 - (k : Int)) = true := decide_eq_true (by omega)
      obtain ⟨x, hx⟩ : ∃ x, x = n * 8 / 2 ^ (8 * (7 - k)) % 256 := ⟨_, rfl⟩
      have hxc : ((n : Int) * 8 / 2 ^ (8 * (7 - k)) % 256) = (x : Int) := by rw [hx]; push_cast; rfl
      have hx8 : x < 256 := by rw [hx]; exact Nat.mod_lt _ (by decide)
      have hR := rb_lit wr x hx8 (.int .u8 ((n : Int) * 8 / 2 ^ (8 * (7 - k)) % 256)) (by rw [hxc])
      have HR := Lib.hid hR
      have HX : Hid (tailTo n (k + 1) = tailTo n k ++ [x]) := by show _ = _; rw [hx]; exact tailTo_snoc n k (by omega)
      obtain ⟨ea, ec, rfl, he1, he2⟩ := HU.out.slice
      obtain ⟨el, hel⟩ : ∃ el, (tailTo n k).length = el := ⟨_, rfl⟩
      have hel' : el ≤ 72 := by rw [← hel, tailTo_length n k (by omega)]; omega
      rw [hel] at HU he1
      rw [hel]
      have HUA := Lib.hid (HU.out.below ((Below.refl _ wr).alloc (Nat.le_refl _) (Obj.cells #[Value.int .u8 ((n : Int) * 8 / 2 ^ (8 * (7 - k)) % 256)] 5)))
      have hEw : E ≤ (wr.alloc (Obj.cells #[Value.int .u8 ((n : Int) * 8 / 2 ^ (8 * (7 - k)) % 256)] 5)).heap.size := by
        have := HB.out.size
        rw [← HEE.out] at this
        exact Nat.le_trans this (by simp)
      have HBA : Hid (Below E w2 (wr.alloc (Obj.cells #[Value.int .u8 ((n : Int) * 8 / 2 ^ (8 * (7 - k)) % 256)] 5))) := HB.out.alloc (by have := HB.out.size; have := HEE.out; omega) _
      have HEL := Lib.hid hel
      clear hR hx hxc hel hx8
      go_wp2_with (first | (refine wpList_append_buf _ rfl (.tmp 28) (.tmp 39) rfl E _ (tailTo n k) rfl HUA.out (.slice (some ⟨wr.heap.size, 0, none⟩) 1 1) [x] rfl HR.out (by rw [HEL.out, List.length_singleton]; omega) hEw ?_; intro v' w5 hbuf hgr hf; have HU5 := Lib.hid hbuf; have HB5 : Hid (Below E w2 w5) := below_grown HBA.out hgr (fun k hk => (HUA.out.lt hk).1) hEw; clear hbuf hgr hf))
      go_roundw
      case rel =>
        exact ⟨k + 1, by omega, by congr 1; omega, HX.out.symm ▸ HU5.out, HB5.out⟩
      case measure => simp [intOf]; omega
    · have hk8 : k = 8 := by omega
      subst hk8
      rw [tailTo_end] at HU
      have HH2 := Lib.hid (HC2.out.below (w' := wr) (HEE.out ▸ HB.out))
      have htl : (Sha.tail n).length ≤ 72 := by
        have := tailTo_length n 8 (by decide)
        rw [tailTo_end] at this
        omega
      have hadd := hadd_any w.heap.size c st rest n u4 (Sha.tail n) wr HH2.out HU.out.rb hbel.size (by omega) (by omega)
      have HAD := Lib.hid hadd
      have HBL := Lib.hid hbel
      clear hadd hbel htl c9 c9'
      go_wp2_with fail
      refine HAD.out.mono ?_
      rintro e w5 ⟨rfl, hh5, hb5⟩
      have HB5 : Hid (Below w.heap.size w w5) := HBL.out.trans hb5
      obtain ⟨st2, hst2⟩ : ∃ st2, (eat st (rest ++ Sha.tail n)).1 = st2 := ⟨_, rfl⟩
      rw [hst2] at hh5
      have HST2 := Lib.hid hst2
      obtain ⟨v5, hB5, _, _, hst5, hsw5⟩ := hh5
      have hstl : ∃ v0 v1 v2 v3 v4 v5 v6 v7, st2 = [v0, v1, v2, v3, v4, v5, v6, v7] := by
        match st2, hst5 with
        | [a0, a1, a2, a3, a4, a5, a6, a7], _ => exact ⟨_, _, _, _, _, _, _, _, rfl⟩
      have HSW5 := Lib.hid hsw5
      have HS5 := Lib.hid hst5
      have HBK := Lib.hid hB5
      clear hB5 hst2 hb5 HBL HAD HH2 hst5 hsw5
      obtain ⟨v0, v1, v2, v3, v4, v5, v6, v7, rfl⟩ := hstl
      have c0 : w5.cell? ⟨c, 0, none⟩ = some (.int .u32 (v0 : Int)) := HBK.out.cell 0
      have c1 : w5.cell? ⟨c, 1, none⟩ = some (.int .u32 (v1 : Int)) := HBK.out.cell 1
      have c2 : w5.cell? ⟨c, 2, none⟩ = some (.int .u32 (v2 : Int)) := HBK.out.cell 2
      have c3 : w5.cell? ⟨c, 3, none⟩ = some (.int .u32 (v3 : Int)) := HBK.out.cell 3
      have c4 : w5.cell? ⟨c, 4, none⟩ = some (.int .u32 (v4 : Int)) := HBK.out.cell 4
      have c5 : w5.cell? ⟨c, 5, none⟩ = some (.int .u32 (v5 : Int)) := HBK.out.cell 5
      have c6 : w5.cell? ⟨c, 6, none⟩ = some (.int .u32 (v6 : Int)) := HBK.out.cell 6
      have c7 : w5.cell? ⟨c, 7, none⟩ = some (.int .u32 (v7 : Int)) := HBK.out.cell 7
      obtain ⟨KA, hKA⟩ : ∃ KA : Array Value, #[Value.int IntKind.u32 (v0 : Int), Value.int IntKind.u32 (v1 : Int), Value.int IntKind.u32 (v2 : Int), Value.int IntKind.u32 (v3 : Int), Value.int IntKind.u32 (v4 : Int), Value.int IntKind.u32 (v5 : Int), Value.int IntKind.u32 (v6 : Int), Value.int IntKind.u32 (v7 : Int)] = KA := ⟨_, rfl⟩
      have HKA : Hid (([v0, v1, v2, v3, v4, v5, v6, v7].map w32).toArray = KA) := hKA
      have HB5' := Lib.hid HB5.out
      go_wp2_with fail
      clear hKA c0 c1 c2 c3 c4 c5 c6 c7 HB5 HBK
      go_loopw [6, 48] (fun ov iv wr => ∃ i : Nat, (i : Int) ≤ 8 ∧ iv = .int .i64 (i : Int) ∧ Hid (Buf wr w.heap.size ov (([v0, v1, v2, v3, v4, v5, v6, v7].take i).flatMap Sha.be4)) ∧ Hid (Below w.heap.size w wr)) (fun _ iv _ => 8 - (intOf iv).toNat)
      case atStart => exact ⟨0, by omega, rfl, Buf.nil _ _, HB5'.out⟩
      case round =>
        clear HB5'
        obtain ⟨i, hi, rfl, HU, HB⟩ := hrel
        by_cases hlt : (i : Int) < 8
        · obtain ⟨x, hx⟩ : ∃ x, [v0, v1, v2, v3, v4, v5, v6, v7].getD i 0 = x := ⟨_, rfl⟩
          have hki : KA[i]? = some (.int .u32 (x : Int)) := by
            rw [← HKA.out, ← hx]
            have : i < [v0, v1, v2, v3, v4, v5, v6, v7].length := by show i < 8; omega
            simp only [List.getElem?_toArray, List.getElem?_map, List.getElem?_eq_getElem this, List.getD_eq_getElem?_getD]
            rfl
          have hix : ∀ w', (Instr.index 216 (.agg KA) (.int .i64 (i : Int))).run Tryz.prog w' = .ok (.int .u32 (x : Int)) w' := fun w' => run_index_state w' KA i _ (by omega) hki
          have hxl : x < 4294967296 := by rw [← hx]; exact getD_lt (by decide) HSW5.out i
          have HX : Hid (([v0, v1, v2, v3, v4, v5, v6, v7].take (i + 1)).flatMap Sha.be4 = ([v0, v1, v2, v3, v4, v5, v6, v7].take i).flatMap Sha.be4 ++ Sha.be4 x) := by
            have : i < [v0, v1, v2, v3, v4, v5, v6, v7].length := by show i < 8; omega
            show _ = _
            rw [List.take_succ_eq_append_getElem this, List.flatMap_append, ← hx, List.getD_eq_getElem?_getD, List.getElem?_eq_getElem this]
            simp
          obtain ⟨oa, oc, rfl, ho1, ho2⟩ := HU.out.slice
          obtain ⟨ol, hol⟩ : ∃ ol, (([v0, v1, v2, v3, v4, v5, v6, v7].take i).flatMap Sha.be4).length = ol := ⟨_, rfl⟩
          have hol' : ol = 4 * i := by
            rw [← hol]
            have h8 : ([v0, v1, v2, v3, v4, v5, v6, v7].take i).length = i := by rw [List.length_take]; show min i 8 = i; omega
            have : ∀ l : List Nat, (l.flatMap Sha.be4).length = 4 * l.length := by
              intro l
              induction l with
              | nil => rfl
              | cons a l ih => rw [List.flatMap_cons, List.length_append, ih]; simp [Sha.be4]; omega
            rw [this, h8]
          rw [hol] at HU ho1
          rw [hol]
          have HOL := Lib.hid hol
          clear hol hki hx
          have HR := Lib.hid (rb_lit4 wr x (Value.int .u8 ((x : Int) / 16777216)) (Value.int .u8 ((x : Int) / 65536 % 256)) (Value.int .u8 ((x : Int) / 256 % 256)) (Value.int .u8 ((x : Int) % 256)) (by unfold by8; congr 1; omega) (by unfold by8; congr 1) (by unfold by8; congr 1) (by unfold by8; congr 1))
          have HUA := Lib.hid (HU.out.below ((Below.refl _ wr).alloc (Nat.le_refl _) (Obj.cells #[Value.int .u8 ((x : Int) / 16777216), Value.int .u8 ((x : Int) / 65536 % 256), Value.int .u8 ((x : Int) / 256 % 256), Value.int .u8 ((x : Int) % 256)] 5)))
          have hEw : w.heap.size ≤ (wr.alloc (Obj.cells #[Value.int .u8 ((x : Int) / 16777216), Value.int .u8 ((x : Int) / 65536 % 256), Value.int .u8 ((x : Int) / 256 % 256), Value.int .u8 ((x : Int) % 256)] 5)).heap.size := Nat.le_trans HB.out.size (by simp)
          have HBA : Hid (Below w.heap.size w (wr.alloc (Obj.cells #[Value.int .u8 ((x : Int) / 16777216), Value.int .u8 ((x : Int) / 65536 % 256), Value.int .u8 ((x : Int) / 256 % 256), Value.int .u8 ((x : Int) % 256)] 5))) := HB.out.alloc HB.out.size _
          go_wp2_with (first | (refine wpList_append_buf _ rfl (.tmp 51) (.tmp 63) rfl w.heap.size _ (([v0, v1, v2, v3, v4, v5, v6, v7].take i).flatMap Sha.be4) rfl HUA.out (.slice (some ⟨wr.heap.size, 0, none⟩) 4 4) (Sha.be4 x) rfl HR.out (by rw [HOL.out]; show ol + 4 ≤ 100000000; omega) hEw ?_; intro v' w6 hbuf hgr hf; have HU5 := Lib.hid hbuf; have HB6 : Hid (Below w.heap.size w w6) := below_grown HBA.out hgr (fun k hk => (HUA.out.lt hk).1) hEw; clear hbuf hgr hf))
          go_roundw
          case rel => exact ⟨i + 1, by omega, by go_num, HX.out.symm ▸ HU5.out, HB6.out⟩
          case measure => simp [intOf]; omega
        · have hi8 : i = 8 := by omega
          subst hi8
          go_wp2_with fail
          go_ret
          refine ⟨_, rfl, ?_, HB.out⟩
          rw [HST2.out]
          exact HU.out
end Go.Proofs.YthefednendgclaaGreat
/-
  SHA-256: the sum of all parts.
-/
namespace Go.Proofs.YthefednendgclaaGreat
open Go Go.RowKit Sac

theorem eat_rest_lt (st rest : List Nat) : (eat st rest).2.length < 64 := by
  unfold eat
  rw [List.length_drop]
  omega
theorem eat_append : ∀ (n : Nat) (st a b : List Nat), a.length ≤ n → eat (eat st a).1 ((eat st a).2 ++ b) = eat st (a ++ b)
  | n, st, a, b, hn => by
    by_cases h : a.length < 64
    · rw [eat_lt h]
    · have h64 : 64 ≤ a.length := by omega
      match n, hn with
      | 0, hn => omega
      | n + 1, hn =>
        have ih := eat_append n (Sha.block st (a.take 64)) (a.drop 64) b (by rw [List.length_drop]; omega)
        rw [eat_ge h64, ih, eat_ge (rest := a ++ b) (by rw [List.length_append]; omega), List.take_append_of_le_length h64, List.drop_append_of_le_length h64]
theorem eat_sum (m : List Nat) : (eat (eat Sha.H0 m).1 ((eat Sha.H0 m).2 ++ Sha.tail m.length)).1.flatMap Sha.be4 = Sha.sum m := by
  rw [eat_append _ _ _ _ (Nat.le_refl _)]
  rfl

/-- A row of slices of bytes. -/
def PartsAt (w : World) (a : Option Addr) (ps : List (List Nat)) : Prop := ∃ vs : List Value, vs.length = ps.length ∧ Rd w 91 a vs ∧ ∀ i (h : i < ps.length), ∃ v, vs[i]? = some v ∧ RB w v ps[i]
theorem PartsAt.below {w w' : World} {a : Option Addr} {ps : List (List Nat)} (h : PartsAt w a ps) (hb : Below w.heap.size w w') : PartsAt w' a ps := by
  obtain ⟨vs, hl, hr, hv⟩ := h
  refine ⟨vs, hl, hr.below hb, fun i hi => ?_⟩
  obtain ⟨v, h1, h2⟩ := hv i hi
  exact ⟨v, h1, h2.below hb⟩
theorem PartsAt.get {w : World} {a : Option Addr} {ps : List (List Nat)} (h : PartsAt w a ps) {i : Nat} (hi : i < ps.length) : ∃ ad v, a = some ad ∧ w.cell? (ad.add i) = some v ∧ RB w v ps[i] := by
  obtain ⟨vs, hl, hr, hv⟩ := h
  obtain ⟨ad, h1, _, h3⟩ := hr.at_ (k := i) (by omega)
  obtain ⟨v, h4, h5⟩ := hv i hi
  refine ⟨ad, v, h1, ?_, h5⟩
  rw [h3, ← h4, List.getElem?_eq_getElem (by omega)]

theorem take_flatten_succ (ps : List (List Nat)) (i : Nat) (hi : i < ps.length) : (ps.take (i + 1)).flatten = (ps.take i).flatten ++ ps[i] := by
  rw [List.take_succ_eq_append_getElem hi, List.flatten_append]; simp
theorem take_flatten_le (ps : List (List Nat)) (i : Nat) : (ps.take i).flatten.length ≤ ps.flatten.length := by
  have h : ps = ps.take i ++ ps.drop i := (List.take_append_drop i ps).symm
  have h2 : ps.flatten = (ps.take i).flatten ++ (ps.drop i).flatten := by rw [← List.flatten_append, ← h]
  rw [h2, List.length_append]; omega

set_option maxRecDepth 100000 in
set_option maxHeartbeats 4000000 in
theorem ssum_any (pa : Option Addr) (plen pcap : Nat) (ps : List (List Nat)) (w : World) (hp : PartsAt w pa ps) (hl : ps.length = plen) (hc : (plen : Int) ≤ 1000) (ht : ps.flatten.length ≤ 900000) :
    Calls Tryz.prog 157 #[.slice pa plen pcap] w fun e w' => ∃ v, e = .returned v ∧ Buf w' w.heap.size v (Sha.sum ps.flatten) ∧ Below w.heap.size w w' := by
  have HP := Lib.hid hp
  have HL := Lib.hid hl
  have HT := Lib.hid ht
  clear hp hl ht
  go_enter Tryz.func157, Tryz.ntmps157
  go_wp2_with fail
  refine (hnew_any w).mono ?_
  rintro e w2 ⟨h, rfl, hH, hb2⟩
  have HH2 := Lib.hid hH
  have HB2 := Lib.hid hb2
  clear hH hb2
  go_wp2_with fail
  go_loopw [9] (fun iv wr => ∃ i : Nat, (i : Int) ≤ plen ∧ iv = .int .i64 (i : Int) ∧ Hid (HashAt wr w.heap.size h (eat Sha.H0 (ps.take i).flatten).1 (eat Sha.H0 (ps.take i).flatten).2 (ps.take i).flatten.length) ∧ Hid (Below w.heap.size w wr)) (fun iv _ => plen - (intOf iv).toNat)
  case atStart => exact ⟨0, by omega, rfl, by rw [show eat Sha.H0 (List.take 0 ps).flatten = (Sha.H0, []) from eat_lt (by simp)]; exact HH2.out, HB2.out⟩
  case round =>
    clear HH2 HB2
    obtain ⟨i, hi, rfl, HH, HB⟩ := hrel
    by_cases hlt : (i : Int) < plen
    · have hil : i < ps.length := by rw [HL.out]; omega
      obtain ⟨ad, v, rfl, cv, hrb⟩ := (HP.out.below HB.out).get hil
      have hle := take_flatten_le ps (i + 1)
      rw [take_flatten_succ ps i hil, List.length_append] at hle
      have hmi := eat_rest_lt Sha.H0 (ps.take i).flatten
      have hTT := HT.out
      have hadd := hadd_any w.heap.size h _ _ _ v ps[i] wr HH.out hrb HB.out.size (by omega) (by omega)
      rw [eat_append _ _ _ _ (Nat.le_refl _), ← take_flatten_succ ps i hil] at hadd
      have e : (ps.take i).flatten.length + ps[i].length = (ps.take (i + 1)).flatten.length := by rw [take_flatten_succ ps i hil, List.length_append]
      rw [e] at hadd
      obtain ⟨va, vc, rfl, hx1, hx2, hx3, hx4, hx5⟩ := hrb
      obtain ⟨vl, hvl⟩ : ∃ vl, ps[i].length = vl := ⟨_, rfl⟩
      rw [hvl] at hadd cv
      have HA := Lib.hid hadd
      clear hadd e hvl hle hmi hTT hx1 hx2 hx3 hx4 hx5 hil
      go_wp2_with fail
      refine HA.out.mono ?_
      rintro e w4 ⟨rfl, hh4, hb4⟩
      have HH4 := Lib.hid hh4
      have HB4 : Hid (Below w.heap.size w w4) := HB.out.trans hb4
      clear hh4 hb4 HA HB HH cv
      go_wp2_with fail
      go_roundw
      case rel => exact ⟨i + 1, by omega, by go_num, HH4.out, HB4.out⟩
      case measure => simp [intOf]; omega
    · have hi' : i = plen := by omega
      subst hi'
      have e : ps.take i = ps := List.take_of_length_le (by rw [HL.out]; exact Nat.le_refl _)
      rw [e] at HH
      have hs := hsum_any w.heap.size h _ _ _ wr HH.out (eat_rest_lt _ _) (by have := HT.out; omega)
      rw [eat_sum] at hs
      have HS := Lib.hid hs
      clear hs e
      go_wp2_with fail
      refine HS.out.mono ?_
      rintro e w4 ⟨v, rfl, hbuf, hb4⟩
      have HU : Hid (Buf w4 w.heap.size v (Sha.sum ps.flatten)) := hbuf.base HB.out.size
      have HB4 : Hid (Below w.heap.size w w4) := HB.out.trans (hb4.mono HB.out.size)
      clear hbuf hb4 HS
      go_wp2_with fail
      go_ret
      exact ⟨v, rfl, HU.out, HB4.out⟩
end Go.Proofs.YthefednendgclaaGreat
/-
  Sums with a key: pad.
-/
namespace Go.Proofs.YthefednendgclaaGreat
open Go Go.RowKit Sac

theorem b_xor8 (a b : Nat) (ha : a < 256) (hb : b < 256) : Go.bits .xor .u8 (a : Int) (b : Int) = ((a ^^^ b : Nat) : Int) := by
  have h1 : (BitVec.ofInt 8 (a : Int)).toNat = a := by rw [BitVec.ofInt_natCast, BitVec.toNat_ofNat]; exact Nat.mod_eq_of_lt ha
  have h2 : (BitVec.ofInt 8 (b : Int)).toNat = b := by rw [BitVec.ofInt_natCast, BitVec.toNat_ofNat]; exact Nat.mod_eq_of_lt hb
  have h3 : (BitVec.ofInt 8 (a : Int) ^^^ BitVec.ofInt 8 (b : Int)).toNat = a ^^^ b := by rw [BitVec.toNat_xor, h1, h2]
  have h4 : a ^^^ b < 256 := Nat.xor_lt_two_pow (n := 8) ha hb
  unfold Go.bits
  show IntKind.u8.wrap ((BitVec.ofInt 8 (a : Int) ^^^ BitVec.ofInt 8 (b : Int)).toNat : Int) = _
  rw [h3, IntKind.wrap_u8]
  omega

def padk (key : List Nat) : List Nat := key ++ List.replicate (64 - key.length) 0
theorem splice_padk (key : List Nat) : splice (List.replicate 64 (Value.int .u8 0)) 0 (key.map by8) = (padk key).map by8 := by
  generalize h64 : 64 = n
  unfold splice padk
  rw [List.take_zero, List.nil_append, Nat.zero_add, List.drop_replicate, List.length_map, List.map_append, List.map_replicate, h64]
  rfl
theorem padk_length {key : List Nat} (h : key.length ≤ 64) : (padk key).length = 64 := by simp [padk]; omega
theorem padk_lt {key : List Nat} (h : ∀ x ∈ key, x < 256) : ∀ x ∈ padk key, x < 256 := fun x hx => by
  rcases List.mem_append.1 hx with h' | h'
  · exact h x h'
  · rw [List.eq_of_mem_replicate h']; decide
theorem pad_eq {key : List Nat} (x : Nat) (h : key.length ≤ 64) : Sha.pad key x = (padk key).map (· ^^^ x) := by
  unfold Sha.pad
  rw [if_neg (by omega)]; rfl
/-- The first i bytes done. -/
def xorTo (l : List Nat) (x i : Nat) : List Nat := (l.take i).map (· ^^^ x) ++ l.drop i
theorem xorTo_zero (l : List Nat) (x : Nat) : xorTo l x 0 = l := rfl
theorem xorTo_end (l : List Nat) (x i : Nat) (h : l.length ≤ i) : xorTo l x i = l.map (· ^^^ x) := by
  unfold xorTo
  rw [List.take_of_length_le h, List.drop_of_length_le h, List.append_nil]
theorem xorTo_get {l : List Nat} {x i : Nat} (h : i < l.length) : (xorTo l x i)[i]? = some (l.getD i 0) := by
  unfold xorTo
  rw [List.getElem?_append_right (by simp; omega), List.getElem?_drop]
  simp [List.getD_eq_getElem?_getD, h, Nat.min_eq_left (Nat.le_of_lt h)]
theorem xorTo_set {l : List Nat} {x i : Nat} (h : i < l.length) : (xorTo l x i).set i (l.getD i 0 ^^^ x) = xorTo l x (i + 1) := by
  unfold xorTo
  rw [List.set_append_right _ _ (by simp; omega), List.take_succ_eq_append_getElem h, List.map_append, List.append_assoc]
  congr 1
  have e : l.drop i = l[i] :: l.drop (i + 1) := List.drop_eq_getElem_cons h
  have hl : i - ((l.take i).map (· ^^^ x)).length = 0 := by simp; omega
  rw [hl, e, show l.getD i 0 = l[i] by rw [List.getD_eq_getElem?_getD, List.getElem?_eq_getElem h]; rfl]
  rfl
theorem xorTo_length (l : List Nat) (x i : Nat) : (xorTo l x i).length = l.length := by
  unfold xorTo
  simp; omega

set_option maxRecDepth 100000 in
set_option maxHeartbeats 4000000 in
theorem pad_any (kv : Value) (key : List Nat) (x : Nat) (w : World) (hk : RB w kv key) (hl : key.length ≤ 64) (hx : x < 256) :
    Calls Tryz.prog 156 #[kv, .int .u8 (x : Int)] w fun e w' => ∃ v, e = .returned v ∧ Buf w' w.heap.size v (Sha.pad key x) ∧ Below w.heap.size w w' := by
  have HK := Lib.hid hk
  obtain ⟨ka, kc, rfl, hk1, hk2, hk3, hk4, hk5⟩ := hk
  obtain ⟨kl, hkl⟩ : ∃ kl, key.length = kl := ⟨_, rfl⟩
  rw [hkl] at hk1 hl
  rw [hkl]
  have e1 : decide ((64 : Int) < (kl : Int)) = false := decide_eq_false (by omega)
  have HKL := Lib.hid hkl
  have HRD := Lib.hid hk4
  have HB := Lib.hid hk5
  have HKN := Lib.hid hk3
  clear hk3 hk4 hk5 hkl
  go_enter Tryz.func156, Tryz.ntmps156
  go_wp2_with (first
    | (refine wpList_make_blk _ rfl _ _ _ rfl 5 (.int .u8 0) 1 Tryz.underlying91 Tryz.infoByte rfl _ _ _ _ 64 rfl rfl (by omega) (by omega) (by omega) (by unfold maxLen; omega) ?_; intro w3 hB3 hb3; have HE3 := Lib.hid hB3; have HB3 := Lib.hid hb3; clear hB3 hb3)
    | (refine wpList_copy_splice rfl (.tmp 14) (.tmp 15) 91 91 rfl 5 Tryz.underlying91 (by kernel_rfl) (some ⟨w.heap.size, 0, none⟩) ka 64 64 kl kc rfl rfl w.heap.size 0 (List.replicate 64 (.int .u8 0)) 5 HE3.out (key.map by8) (by rw [List.length_map, HKL.out]; exact (Nat.min_eq_left hl).symm) (fun hp => ⟨rfl, by obtain ⟨ad, h1, _, h3⟩ := (HRD.out.below HB3.out) (by intro h0; rw [h0] at hp; exact absurd hp (Nat.lt_irrefl _)); exact ⟨ad, h1, h3⟩⟩) (by rw [List.length_map, HKL.out, List.length_replicate]; omega) (fun v hv => by obtain ⟨y, _, rfl⟩ := List.mem_map.1 hv; rfl) w.heap.size w HB3.out (Nat.le_refl _) ?_; intro w4 hg4 hb4; have HG4 : Hid (Blk w4 w.heap.size 5 ((padk key).map by8)) := (by have e := splice_padk key; have h5 := hg4.out; rw [e] at h5; exact h5); have HB4 := Lib.hid hb4; clear hg4 hb4))
  have HPL := Lib.hid (padk_length (key := key) (by rw [HKL.out]; exact hl))
  have HPB := Lib.hid (padk_lt HB.out)
  go_loopw [19] (fun iv wr => ∃ i : Nat, (i : Int) ≤ 64 ∧ iv = .int .i64 (i : Int) ∧ Hid (Blk wr w.heap.size 5 ((xorTo (padk key) x i).map by8)) ∧ Hid (Below w.heap.size w wr)) (fun iv _ => 64 - (intOf iv).toNat)
  case atStart => exact ⟨0, by omega, rfl, HG4.out, HB4.out⟩
  case round =>
    clear HG4 HB4 HE3 HB3
    obtain ⟨i, hi, rfl, HG, HW⟩ := hrel
    by_cases hlt : (i : Int) < 64
    · obtain ⟨y, hy⟩ : ∃ y, (padk key).getD i 0 = y := ⟨_, rfl⟩
      have hil : i < (padk key).length := by rw [HPL.out]; omega
      have cy : wr.cell? ⟨w.heap.size, i, none⟩ = some (.int .u8 (y : Int)) := by rw [HG.out.cell, List.getElem?_map, xorTo_get hil, hy]; rfl
      have fy := HG.out.frozen i
      have hy8 : y < 256 := by rw [← hy]; exact getD_lt (by decide) HPB.out i
      have hbx := b_xor8 y x hy8 hx
      have HY : Hid ((xorTo (padk key) x i).set i (y ^^^ x) = xorTo (padk key) x (i + 1)) := by show _ = _; rw [← hy]; exact xorTo_set hil
      clear hil hy hy8
      go_wp2_with fail
      go_roundw
      case rel =>
        refine ⟨i + 1, by omega, by go_num, ?_, HW.out.setCell (p := ⟨w.heap.size, i, none⟩) (Nat.le_refl _) _⟩
        have h1 := HG.out.set i (.int .u8 ((y ^^^ x : Nat) : Int))
        have e : (List.map by8 (xorTo (padk key) x i)).set i (.int .u8 ((y ^^^ x : Nat) : Int)) = List.map by8 (xorTo (padk key) x (i + 1)) := by
          rw [← HY.out, List.map_set]; rfl
        rw [e] at h1
        exact h1
      case measure => simp [intOf]; omega
    · have hi' : i = 64 := by omega
      subst hi'
      rw [xorTo_end _ _ _ (by rw [HPL.out]; exact Nat.le_refl _), ← pad_eq x (by rw [HKL.out]; exact hl)] at HG
      go_wp2_with fail
      go_ret
      have hl64 : (Sha.pad key x).length = 64 := by rw [pad_eq x (by rw [HKL.out]; exact hl), List.length_map, HPL.out]
      refine ⟨_, rfl, ⟨fun z hz => ?_, .inr ⟨w.heap.size, 0, 64, [], [], by rw [hl64]; rfl, Nat.le_refl _, by rw [List.nil_append, List.append_nil]; exact HG.out, rfl, ⟨by rw [hl64]; exact Nat.le_refl _, by rw [hl64]; exact Nat.le_refl _⟩, by decide⟩⟩, HW.out⟩
      rw [pad_eq x (by rw [HKL.out]; exact hl)] at hz
      obtain ⟨u, hu, rfl⟩ := List.mem_map.1 hz
      exact Nat.xor_lt_two_pow (n := 8) (HPB.out u hu) hx
end Go.Proofs.YthefednendgclaaGreat
/-
  Sums with a key: Tag, Extract, Expand of at most 32 bytes, Derive.
-/
namespace Go.Proofs.YthefednendgclaaGreat
open Go Go.RowKit Sac

theorem parts_lit2 (w : World) (v0 v1 : Value) (p0 p1 : List Nat) (h0 : RB w v0 p0) (h1 : RB w v1 p1) : PartsAt (w.alloc (Obj.cells #[v0, v1] 91)) (some ⟨w.heap.size, 0, none⟩) [p0, p1] := by
  have hb := (Below.refl _ w).alloc (Nat.le_refl _) (Obj.cells #[v0, v1] 91)
  refine ⟨[v0, v1], rfl, Blk.rd (rest := []) (Blk.new w [v0, v1] 91), fun i hi => ?_⟩
  have hi' : i < 2 := hi
  match i, hi' with
  | 0, _ => exact ⟨v0, rfl, h0.below hb⟩
  | 1, _ => exact ⟨v1, rfl, h1.below hb⟩
theorem parts_lit1 (w : World) (v0 : Value) (p0 : List Nat) (h0 : RB w v0 p0) : PartsAt (w.alloc (Obj.cells #[v0] 91)) (some ⟨w.heap.size, 0, none⟩) [p0] := by
  have hb := (Below.refl _ w).alloc (Nat.le_refl _) (Obj.cells #[v0] 91)
  refine ⟨[v0], rfl, Blk.rd (rest := []) (Blk.new w [v0] 91), fun i hi => ?_⟩
  obtain rfl : i = 0 := by simp at hi; omega
  exact ⟨v0, rfl, h0.below hb⟩
theorem parts_lit3 (w : World) (v0 v1 v2 : Value) (p0 p1 p2 : List Nat) (h0 : RB w v0 p0) (h1 : RB w v1 p1) (h2 : RB w v2 p2) : PartsAt (w.alloc (Obj.cells #[v0, v1, v2] 91)) (some ⟨w.heap.size, 0, none⟩) [p0, p1, p2] := by
  have hb := (Below.refl _ w).alloc (Nat.le_refl _) (Obj.cells #[v0, v1, v2] 91)
  refine ⟨[v0, v1, v2], rfl, Blk.rd (rest := []) (Blk.new w [v0, v1, v2] 91), fun i hi => ?_⟩
  have hi' : i < 3 := hi
  match i, hi' with
  | 0, _ => exact ⟨v0, rfl, h0.below hb⟩
  | 1, _ => exact ⟨v1, rfl, h1.below hb⟩
  | 2, _ => exact ⟨v2, rfl, h2.below hb⟩
theorem sum_length (m : List Nat) : (Sha.sum m).length = 32 := by
  have hb : ∀ (k : Nat) (s b : List Nat), s.length = 8 → (Sha.blocks k s b).length = 8 := by
    intro k
    induction k with
    | zero => intro s b h; exact h
    | succ k ih => intro s b h; rw [Sha.blocks]; exact ih _ _ (block_length _ _ h)
  have hf : ∀ l : List Nat, (l.flatMap Sha.be4).length = 4 * l.length := by
    intro l
    induction l with
    | nil => rfl
    | cons a l ih => rw [List.flatMap_cons, List.length_append, ih]; simp [Sha.be4]; omega
  unfold Sha.sum
  rw [hf, hb _ _ _ rfl]
theorem shapad_length {key : List Nat} (x : Nat) (h : key.length ≤ 64) : (Sha.pad key x).length = 64 := by rw [pad_eq x h, List.length_map, padk_length h]

set_option maxRecDepth 100000 in
set_option maxHeartbeats 4000000 in
theorem tag_any (kv : Value) (key : List Nat) (pa : Option Addr) (plen pcap : Nat) (ps : List (List Nat)) (w : World) (hk : RB w kv key) (hkl : key.length ≤ 64) (hp : PartsAt w pa ps) (hl : ps.length = plen) (hc : (plen : Int) ≤ 1000) (ht : ps.flatten.length ≤ 100000) :
    Calls Tryz.prog 145 #[kv, .slice pa plen pcap] w fun e w' => ∃ v, e = .returned v ∧ Buf w' w.heap.size v (Sha.tag key ps.flatten) ∧ Below w.heap.size w w' := by
  have HP := Lib.hid hp
  have HK := Lib.hid hk
  have HL := Lib.hid hl
  have HT := Lib.hid ht
  have HKL := Lib.hid hkl
  clear hp hk hl ht hkl
  go_enter Tryz.func145, Tryz.ntmps145
  go_wp2_with fail
  refine (hnew_any w).mono ?_
  rintro e w2 ⟨h, rfl, hH, hb2⟩
  have HH2 := Lib.hid hH
  have HB2 := Lib.hid hb2
  clear hH hb2
  go_wp2_with fail
  refine (pad_any kv key 54 w2 (HK.out.below HB2.out) HKL.out (by decide)).mono ?_
  rintro e w3 ⟨v1, rfl, hbuf, hb3⟩
  have HH3 := Lib.hid (HH2.out.below hb3)
  have HB3 : Hid (Below w.heap.size w w3) := HB2.out.trans (hb3.mono HB2.out.size)
  have HU3 := Lib.hid hbuf.rb
  clear hbuf hb3 HH2 HB2
  go_wp2_with fail
  have hadd := hadd_any w.heap.size h _ _ _ v1 _ w3 HH3.out HU3.out HB3.out.size (by rw [shapad_length _ HKL.out]; decide) (by rw [shapad_length _ HKL.out]; decide)
  rw [List.nil_append] at hadd
  refine hadd.mono ?_
  rintro e w4 ⟨rfl, hh4, hb4⟩
  have HH4 := Lib.hid hh4
  have HB4 : Hid (Below w.heap.size w w4) := HB3.out.trans hb4
  clear hh4 hb4 hadd HH3 HB3 HU3
  go_wp2_with fail
  obtain ⟨A, hA⟩ : ∃ A, Sha.pad key 54 = A := ⟨_, rfl⟩
  have hAl : A.length = 64 := by rw [← hA, shapad_length _ HKL.out]
  rw [hA] at HH4
  have HA := Lib.hid hA
  clear hA
  go_loopw [15] (fun iv wr => ∃ i : Nat, (i : Int) ≤ plen ∧ iv = .int .i64 (i : Int) ∧ Hid (HashAt wr w.heap.size h (eat Sha.H0 (A ++ (ps.take i).flatten)).1 (eat Sha.H0 (A ++ (ps.take i).flatten)).2 (A ++ (ps.take i).flatten).length) ∧ Hid (Below w.heap.size w wr)) (fun iv _ => plen - (intOf iv).toNat)
  case atStart => exact ⟨0, by omega, rfl, by rw [show (List.take 0 ps).flatten = [] from rfl, List.append_nil]; rw [Nat.zero_add] at HH4; exact HH4.out, HB4.out⟩
  case round =>
    clear HH4 HB4
    obtain ⟨i, hi, rfl, HH, HB⟩ := hrel
    by_cases hlt : (i : Int) < plen
    · have hil : i < ps.length := by rw [HL.out]; omega
      obtain ⟨ad, v, rfl, cv, hrb⟩ := (HP.out.below HB.out).get hil
      have hle := take_flatten_le ps (i + 1)
      rw [take_flatten_succ ps i hil, List.length_append] at hle
      have hmi := eat_rest_lt Sha.H0 (A ++ (ps.take i).flatten)
      have hTT := HT.out
      have hadd := hadd_any w.heap.size h _ _ _ v ps[i] wr HH.out hrb HB.out.size (by omega) (by rw [List.length_append]; omega)
      rw [eat_append _ _ _ _ (Nat.le_refl _), List.append_assoc, ← take_flatten_succ ps i hil] at hadd
      have e : (A ++ (ps.take i).flatten).length + ps[i].length = (A ++ (ps.take (i + 1)).flatten).length := by rw [take_flatten_succ ps i hil, List.length_append, List.length_append, List.length_append]; omega
      rw [e] at hadd
      obtain ⟨va, vc, rfl, hx1, hx2, hx3, hx4, hx5⟩ := hrb
      obtain ⟨vl, hvl⟩ : ∃ vl, ps[i].length = vl := ⟨_, rfl⟩
      rw [hvl] at hadd cv
      have HAD := Lib.hid hadd
      clear hadd e hvl hle hmi hTT hx1 hx2 hx3 hx4 hx5 hil
      go_wp2_with fail
      refine HAD.out.mono ?_
      rintro e w5 ⟨rfl, hh5, hb5⟩
      have HH5 := Lib.hid hh5
      have HB5 : Hid (Below w.heap.size w w5) := HB.out.trans hb5
      clear hh5 hb5 HAD HB HH cv
      go_wp2_with fail
      go_roundw
      case rel => exact ⟨i + 1, by omega, by go_num, HH5.out, HB5.out⟩
      case measure => simp [intOf]; omega
    · have hi' : i = plen := by omega
      subst hi'
      have e : ps.take i = ps := List.take_of_length_le (by rw [HL.out]; exact Nat.le_refl _)
      rw [e] at HH
      clear e
      go_wp2_with fail
      refine (pad_any kv key 92 wr (HK.out.below HB.out) HKL.out (by decide)).mono ?_
      rintro e w5 ⟨v2, rfl, hbuf, hb5⟩
      have HH5 := Lib.hid (HH.out.below hb5)
      have HB5 : Hid (Below w.heap.size w w5) := HB.out.trans (hb5.mono HB.out.size)
      have HU5 := Lib.hid hbuf.rb
      clear hbuf hb5 HH HB
      have hs := hsum_any w.heap.size h _ _ _ w5 HH5.out (eat_rest_lt _ _) (by have := HT.out; rw [List.length_append]; omega)
      rw [eat_sum] at hs
      have HS := Lib.hid hs
      clear hs
      go_wp2_with fail
      refine HS.out.mono ?_
      rintro e w6 ⟨v3, rfl, hbuf, hb6⟩
      have HB6 : Hid (Below w.heap.size w w6) := HB5.out.trans (hb6.mono HB5.out.size)
      have HU6 := Lib.hid (HU5.out.below hb6)
      have HV6 := Lib.hid hbuf.rb
      clear hbuf hb6 HS HH5 HB5 HU5
      obtain ⟨a2, c2, hv2, _⟩ := id HU6.out
      obtain ⟨a3, c3, hv3, _⟩ := id HV6.out
      rw [shapad_length _ HKL.out] at hv2
      rw [sum_length] at hv3
      subst hv2 hv3
      have HPP := Lib.hid (parts_lit2 w6 _ _ _ _ HU6.out HV6.out)
      have HB7 : Hid (Below w.heap.size w (w6.alloc (Obj.cells #[.slice a2 64 c2, .slice a3 32 c3] 91))) := HB6.out.alloc HB6.out.size _
      have hs := ssum_any (some ⟨w6.heap.size, 0, none⟩) 2 2 _ _ HPP.out rfl (by decide) (by simp [shapad_length _ HKL.out, sum_length])
      have HS := Lib.hid hs
      clear hs
      go_wp2_with fail
      refine HS.out.mono ?_
      rintro e w8 ⟨v8, rfl, hbuf, hb8⟩
      have HB8 : Hid (Below w.heap.size w w8) := HB7.out.trans (hb8.mono HB7.out.size)
      have HU8 := Lib.hid (hbuf.base HB7.out.size)
      clear hbuf hb8 HS
      go_wp2_with fail
      go_ret
      refine ⟨v8, rfl, ?_, HB8.out⟩
      have h9 := HU8.out
      rw [← HA.out] at h9
      simpa [Sha.tag] using h9

theorem tag_length (key msg : List Nat) : (Sha.tag key msg).length = 32 := sum_length _

set_option maxRecDepth 100000 in
set_option maxHeartbeats 4000000 in
theorem extract_any (kv : Value) (key : List Nat) (sa : Option Addr) (sl sc : Nat) (sec : List Nat) (w : World) (hk : RB w kv key) (hkl : key.length ≤ 64) (hs : RB w (.slice sa sl sc) sec) (ht : sec.length ≤ 100000) :
    Calls Tryz.prog 124 #[kv, .slice sa sl sc] w fun e w' => ∃ v, e = .returned v ∧ Buf w' w.heap.size v (Sha.tag key sec) ∧ Below w.heap.size w w' := by
  have hb := (Below.refl _ w).alloc (Nat.le_refl _) (Obj.cells #[Value.slice sa sl sc] 91)
  have hT := tag_any kv key (some ⟨w.heap.size, 0, none⟩) 1 1 [sec] _ (hk.below hb) hkl (parts_lit1 w _ _ hs) rfl (by decide) (by simpa using ht)
  have HT := Lib.hid hT
  have HB := Lib.hid hb
  clear hT hb hk hs ht
  go_enter Tryz.func124, Tryz.ntmps124
  go_wp2_with fail
  refine HT.out.mono ?_
  rintro e w2 ⟨v, rfl, hbuf, hb2⟩
  have HU := Lib.hid (hbuf.base HB.out.size)
  have HB2 := Lib.hid (HB.out.trans (hb2.mono HB.out.size))
  clear hbuf hb2 HT
  go_wp2_with fail
  go_ret
  exact ⟨v, rfl, by have := HU.out; simpa using this, HB2.out⟩

set_option maxRecDepth 100000 in
set_option maxHeartbeats 4000000 in
theorem expand_any (kv : Value) (key : List Nat) (ia : Option Addr) (il ic : Nat) (info : List Nat) (n : Nat) (w : World) (hk : RB w kv key) (hkl : key.length ≤ 64) (hs : RB w (.slice ia il ic) info) (ht : info.length ≤ 1000) (h1 : 0 < n) (h2 : n ≤ 32) :
    Calls Tryz.prog 123 #[kv, .slice ia il ic, .int .i64 (n : Int)] w fun e w' => ∃ v, e = .returned (.tuple #[v, .int .i64 0]) ∧ Buf w' w.heap.size v ((Sha.tag key (info ++ [1])).take n) ∧ Below w.heap.size w w' := by
  have HK := Lib.hid hk
  have HI := Lib.hid hs
  have HT := Lib.hid ht
  have HKL := Lib.hid hkl
  have e1 : decide ((n : Int) < 0) = false := decide_eq_false (by omega)
  have e2 : decide ((8160 : Int) < (n : Int)) = false := decide_eq_false (by omega)
  clear hk hs ht hkl
  go_enter Tryz.func123, Tryz.ntmps123
  go_wp2_with fail
  go_loopw [8, 9, 10] (fun ov lv iv wr => Hid (Below w.heap.size w wr) ∧ ((ov = .slice none 0 0 ∧ lv = .slice none 0 0 ∧ iv = .int .u8 1) ∨ (iv = .int .u8 2 ∧ Hid (Buf wr w.heap.size ov (Sha.tag key (info ++ [1])))))) (fun _ _ iv _ => 3 - (intOf iv).toNat)
  case atStart => exact ⟨Below.refl _ _, .inl ⟨rfl, rfl, rfl⟩⟩
  case round =>
    obtain ⟨HB, ⟨rfl, rfl, rfl⟩ | ⟨rfl, HU⟩⟩ := hrel
    · have hn0 : decide ((0 : Int) < (n : Int)) = true := decide_eq_true (by omega)
      have hb1 : Below wr.heap.size wr (wr.alloc (Obj.cells #[Value.int .u8 1] 5)) := (Below.refl _ wr).alloc (Nat.le_refl _) _
      have hk1 : RB (wr.alloc (Obj.cells #[Value.int .u8 1] 5)) (.slice (some ⟨wr.heap.size, 0, none⟩) 1 1) [1] := rb_lit wr 1 (by decide) (.int .u8 1) rfl
      have hP := parts_lit3 _ (.slice none 0 0) (.slice ia il ic) (.slice (some ⟨wr.heap.size, 0, none⟩) 1 1) [] info [1] (RB.nil _) ((HI.out.below HB.out).below hb1) hk1
      have hb2 : Below (wr.alloc (Obj.cells #[Value.int .u8 1] 5)).heap.size (wr.alloc (Obj.cells #[Value.int .u8 1] 5)) ((wr.alloc (Obj.cells #[Value.int .u8 1] 5)).alloc (Obj.cells #[Value.slice none 0 0, Value.slice ia il ic, Value.slice (some ⟨wr.heap.size, 0, none⟩) 1 1] 91)) := (Below.refl _ _).alloc (Nat.le_refl _) _
      rw [show (wr.alloc (Obj.cells #[Value.int .u8 1] 5)).heap.size = wr.heap.size + 1 by simp] at hP
      have hT := tag_any kv key _ 3 3 [[], info, [1]] _ (((HK.out.below HB.out).below hb1).below hb2) HKL.out hP rfl (by decide) (by have := HT.out; simp; omega)
      have HTG := Lib.hid hT
      have HB2 : Hid (Below w.heap.size w ((wr.alloc (Obj.cells #[Value.int .u8 1] 5)).alloc (Obj.cells #[Value.slice none 0 0, Value.slice ia il ic, Value.slice (some ⟨wr.heap.size, 0, none⟩) 1 1] 91))) := (HB.out.trans (hb1.mono HB.out.size)).trans (hb2.mono (Nat.le_trans HB.out.size hb1.size))
      clear hT hP hk1 hb1 hb2
      go_wp2_with fail
      refine HTG.out.mono ?_
      rintro e w3 ⟨v, rfl, hbuf, hb3⟩
      have HB3 : Hid (Below w.heap.size w w3) := HB2.out.trans (hb3.mono HB2.out.size)
      have hf : ([[], info, [1]] : List (List Nat)).flatten = info ++ [1] := by simp
      rw [hf] at hbuf
      obtain ⟨va, vc, hv, _⟩ := id hbuf.rb
      rw [tag_length] at hv
      subst hv
      have HR3 := Lib.hid hbuf.rb
      clear hbuf hb3 HTG HB2 HB hf
      go_wp2_with (first | (refine wpList_append_buf w3 rfl (.tmp 30) (.tmp 31) rfl w.heap.size (.slice none 0 0) [] rfl (Buf.nil _ _) (.slice va 32 vc) (Sha.tag key (info ++ [1])) rfl HR3.out (by rw [tag_length]; decide) HB3.out.size ?_; intro v' w5 hbuf hgr hf; rw [List.nil_append] at hbuf; have HU5 := Lib.hid hbuf; have HB5 : Hid (Below w.heap.size w w5) := below_grown HB3.out hgr (fun k hk => by cases hk) HB3.out.size; clear hbuf hgr hf))
      go_roundw
      case rel => exact ⟨HB5.out, .inr ⟨rfl, HU5.out⟩⟩
      case measure => simp [intOf]
    · obtain ⟨g, off, cap, rfl, hc1, hc2, hrd⟩ := HU.out.form (by intro h; have := tag_length key (info ++ [1]); rw [h] at this; simp at this)
      rw [tag_length] at HU hc1
      rw [tag_length]
      have hn0 : decide ((32 : Int) < (n : Int)) = false := decide_eq_false (by omega)
      have hnc : (n : Int) ≤ cap := by omega
      clear hrd
      go_wp2_with fail
      refine bodyPost_ret (results_tmp2 rfl _ _ _) rfl ?_
      refine ⟨_, rfl, ?_, HB.out⟩
      obtain ⟨h0, ⟨hh, _⟩ | ⟨g', off', cap', pre, post, hh, q1, q2, q3, q4, q5⟩⟩ := HU.out
      · cases hh
      · injection hh with e1 e2 e3
        have e1 := Option.some.inj e1
        injection e1 with e1 e4
        subst e1 e3 e4
        have htl := tag_length key (info ++ [1])
        have htn : ((Sha.tag key (info ++ [1])).take n).length = n := by rw [List.length_take, htl]; omega
        refine ⟨fun x hx => h0 x (List.mem_of_mem_take hx), .inr ⟨g, off, n, pre, ((Sha.tag key (info ++ [1])).drop n).map by8 ++ post, ?_, q1, ?_, q3, ⟨?_, ?_⟩, by omega⟩⟩
        · rw [htn]; rfl
        · have e : pre ++ List.map by8 ((Sha.tag key (info ++ [1])).take n) ++ (List.map by8 ((Sha.tag key (info ++ [1])).drop n) ++ post) = pre ++ List.map by8 (Sha.tag key (info ++ [1])) ++ post := by
            rw [List.append_assoc pre, ← List.append_assoc (List.map by8 _), ← List.map_append, List.take_append_drop, ← List.append_assoc]
          rw [e]; exact q2
        · rw [htn]; exact Nat.le_refl _
        · rw [htn]; omega

set_option maxRecDepth 100000 in
set_option maxHeartbeats 4000000 in
/-- What is derived of nothing. -/
theorem derive_any (sa : Option Addr) (sl sc : Nat) (sec : List Nat) (ia : Option Addr) (il ic : Nat) (info : List Nat) (n : Nat) (w : World) (hsec : RB w (.slice sa sl sc) sec) (hts : sec.length ≤ 1000) (hs : RB w (.slice ia il ic) info) (ht : info.length ≤ 1000) (h1 : 0 < n) (h2 : n ≤ 32) :
    Calls Tryz.prog 90 #[.slice none 0 0, .slice sa sl sc, .slice ia il ic, .int .i64 (n : Int)] w fun e w' => ∃ v, e = .returned (.tuple #[v, .int .i64 0]) ∧ Buf w' w.heap.size v ((Sha.tag (Sha.tag [] sec) (info ++ [1])).take n) ∧ Below w.heap.size w w' := by
  have HE := Lib.hid (extract_any (.slice none 0 0) [] sa sl sc sec w (RB.nil _) (by decide) hsec (by omega))
  have HI := Lib.hid hs
  have HT := Lib.hid ht
  clear hsec hs ht
  go_enter Tryz.func90, Tryz.ntmps90
  go_wp2_with fail
  refine HE.out.mono ?_
  rintro e w2 ⟨v, rfl, hbuf, hb2⟩
  have HX := Lib.hid (expand_any v _ ia il ic info n w2 hbuf.rb (by rw [tag_length]; decide) (HI.out.below hb2) HT.out h1 h2)
  have HB2 := Lib.hid hb2
  clear hbuf hb2 HE
  go_wp2_with fail
  refine HX.out.mono ?_
  rintro e w3 ⟨v3, rfl, hbuf, hb3⟩
  have HU := Lib.hid (hbuf.base HB2.out.size)
  have HB3 := Lib.hid (HB2.out.trans (hb3.mono HB2.out.size))
  clear hbuf hb3 HX
  go_wp2_with fail
  refine bodyPost_ret (results_tmp2 rfl _ _ _) rfl ?_
  exact ⟨v3, rfl, HU.out, HB3.out⟩
end Go.Proofs.YthefednendgclaaGreat
