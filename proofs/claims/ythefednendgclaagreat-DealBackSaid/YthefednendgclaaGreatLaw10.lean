import Derived.Test.YthefednendgclaaGreatNGE
import Derived.Test.YthefednendgclaaGreatLaw9
import Derived.Test.YthefednendgclaaGreatCurve2
set_option linter.unusedVariables false
set_option linter.unusedSimpArgs false
/-
  Small numbers as a row of numbers.
-/
namespace Go.Proofs.YthefednendgclaaGreat
open Go Go.RowKit Sac

/-- Words of 64 bits, as they are read. -/
def w64 (x : Nat) : Value := .int .u64 (x : Int)

/-- The slice at a holds the cells vs; of the block's type nothing is said. -/
def RdC (w : World) (a : Option Addr) (vs : List Value) : Prop := vs ≠ [] → ∃ ad, a = some ad ∧ ∀ j u, vs[j]? = some u → w.cell? (ad.add j) = some u
theorem RdC.below {w w' : World} {a : Option Addr} {vs : List Value} (h : RdC w a vs) (hb : Below w.heap.size w w') : RdC w' a vs := fun hne => by
  obtain ⟨ad, h1, h2⟩ := h hne
  exact ⟨ad, h1, fun j u hj => (BB.cell hb (World.block_lt_of_cell? _ _ (h2 j u hj))).trans (h2 j u hj)⟩
theorem RdC.of_rd {w : World} {e : TypeId} {a : Option Addr} {vs : List Value} (h : Rd w e a vs) : RdC w a vs := fun hn => by
  obtain ⟨ad, h1, _, h3⟩ := h hn
  exact ⟨ad, h1, h3⟩
theorem RdC.take {w : World} {a : Option Addr} {vs : List Value} (h : RdC w a vs) (k : Nat) : RdC w a (vs.take k) := fun hn => by
  obtain ⟨ad, h1, h3⟩ := h (fun e => hn (by rw [e, List.take_nil]))
  refine ⟨ad, h1, fun j u hu => h3 j u ?_⟩
  rw [List.getElem?_take] at hu
  split at hu
  · exact hu
  · cases hu
theorem RdC.drop {w : World} {ad : Addr} {vs : List Value} (h : RdC w (some ad) vs) (k : Nat) : RdC w (some (ad.add k)) (vs.drop k) := fun hn => by
  obtain ⟨ad', e1, hc⟩ := h (fun e => hn (by rw [e, List.drop_nil]))
  obtain rfl := Option.some.inj e1
  refine ⟨_, rfl, fun j u hu => ?_⟩
  rw [Addr.add_add]
  exact hc (k + j) u (by rw [List.getElem?_drop] at hu; exact hu)
theorem RdC.at_ {w : World} {a : Option Addr} {vs : List Value} (h : RdC w a vs) {k : Nat} (hk : k < vs.length) : ∃ ad, a = some ad ∧ w.cell? (ad.add k) = some vs[k] := by
  obtain ⟨ad, h1, hc⟩ := h (by intro h0; subst h0; simp at hk)
  exact ⟨ad, h1, hc k _ (List.getElem?_eq_getElem hk)⟩
theorem RdC.of_blk {w : World} {k : Nat} {e : TypeId} {cs : List Value} (h : Blk w k e cs) : RdC w (some ⟨k, 0, none⟩) cs := fun _ => ⟨_, rfl, fun j u hj => by
  have : ((⟨k, 0, none⟩ : Addr).add j) = ⟨k, j, none⟩ := by unfold Addr.add; split <;> simp_all
  rw [this, h.cell j]; exact hj⟩
/-- What the frame tells of a slice of words that came in. -/
theorem words_in {w : World} {a : Option Addr} {len cap : Nat} {zs : List Int}
    (h : (a = none ∧ len = 0 ∧ cap = 0 ∧ zs = []) ∨ ∃ x, a = some x ∧ len ≤ cap ∧ cap ≤ maxLen ∧ zs.length = cap ∧ (∀ i, i < zs.length → w.cell? (x.add i) = some (.int .u64 (zs.getD i 0))) ∧ ∀ n ∈ zs, (Lit.int .u64 n).wf = true) :
    ∃ l : List Nat, RdC w a (l.map w64) ∧ l.length = len ∧ (len : Int) ≤ cap ∧ ∀ x ∈ l, x < 18446744073709551616 := by
  rcases h with ⟨rfl, rfl, rfl, rfl⟩ | ⟨x, rfl, h1, _, h3, h4, h5⟩
  · exact ⟨[], fun h => absurd rfl h, rfl, by omega, by simp⟩
  · have hw : ∀ n ∈ zs, 0 ≤ n ∧ n < 18446744073709551616 := fun n hn => by
      have := h5 n hn
      simp only [Lit.wf, Bool.and_eq_true, decide_eq_true_eq] at this
      have e1 : IntKind.u64.min = 0 := rfl
      have e2 : IntKind.u64.max = 18446744073709551615 := rfl
      omega
    refine ⟨(zs.take len).map Int.toNat, fun _ => ⟨x, rfl, fun j u hj => ?_⟩, by simp; omega, by omega, fun y hy => ?_⟩
    · rw [List.map_map, List.getElem?_map] at hj
      obtain ⟨z, hz, hzu⟩ := Option.map_eq_some_iff.1 hj
      have hzz : zs[j]? = some z := by rw [List.getElem?_take] at hz; split at hz; exact hz; cases hz
      obtain ⟨hjl, hje⟩ := List.getElem?_eq_some_iff.1 hzz
      rw [h4 j hjl, ← hzu, List.getD_eq_getElem?_getD, hzz]
      have := hw z (List.mem_of_getElem? hzz)
      show some (Value.int .u64 z) = some (Value.int .u64 ((z.toNat : Nat) : Int))
      rw [Int.toNat_of_nonneg this.1]
    · obtain ⟨z, hz, rfl⟩ := List.mem_map.1 hy
      have := hw z (List.mem_of_mem_take hz)
      omega
theorem word_in {n : Int} (h : (Lit.int .u64 n).wf = true) : ∃ x : Nat, n = (x : Int) ∧ x < 18446744073709551616 := by
  simp only [Lit.wf, Bool.and_eq_true, decide_eq_true_eq] at h
  have e1 : IntKind.u64.min = 0 := rfl
  have e2 : IntKind.u64.max = 18446744073709551615 := rfl
  exact ⟨n.toNat, by omega, by omega⟩

set_option maxRecDepth 100000 in
set_option maxHeartbeats 4000000 in
theorem nums_any (a : Option Addr) (len cap : Nat) (l : List Nat) (w : World) (hr : RdC w a (l.map w64)) (hl : l.length = len) (hc : (len : Int) ≤ cap) (hlen : (len : Int) ≤ 10000) (hx : ∀ x ∈ l, x < 18446744073709551616) :
    Calls Tryz.prog 10 #[.slice a len cap] w (RetRow l w) := by
  obtain ⟨s, hs⟩ : ∃ s, s = w.heap.size := ⟨_, rfl⟩
  have HE0 := Lib.hid ((GE.init w s hs).pushNil)
  have HR := Lib.hid hr
  have HL := Lib.hid hl
  have HX := Lib.hid hx
  have HS := Lib.hid hs
  clear hr hl hx hs
  go_enter Tryz.func10, Tryz.ntmps10
  go_wp2_with fail
  go_loopw [3, 8] (fun v iv wr => ∃ i : Nat, (i : Int) ≤ len ∧ iv = .int .i64 (i : Int) ∧ Hid (GE w wr s [rowI s v (l.take i)] [])) (fun _ iv _ => len - (intOf iv).toNat)
  case atStart => exact ⟨0, by omega, rfl, HE0.out⟩
  case round =>
    clear HE0
    obtain ⟨i, hi, rfl, HE⟩ := hrel
    by_cases hlt : (i : Int) < len
    · have hil : i < l.length := by rw [HL.out]; omega
      obtain ⟨ad, rfl, cx⟩ := (HR.out.below (HS.out ▸ HE.out.bel)).at_ (k := i) (by simpa using hil)
      obtain ⟨x, hx⟩ : ∃ x, l.getD i 0 = x := ⟨_, rfl⟩
      have hlx : (l.map w64)[i]'(by simpa using hil) = .int .u64 (x : Int) := by
        rw [List.getElem_map, ← hx, List.getD_eq_getElem?_getD, List.getElem?_eq_getElem hil]; rfl
      rw [hlx] at cx
      have hx64 : x < 18446744073709551616 := by rw [← hx, List.getD_eq_getElem?_getD, List.getElem?_eq_getElem hil]; exact HX.out _ (List.getElem_mem hil)
      have HTS : Hid (l.take (i + 1) = l.take i ++ [x]) := by
        show _ = _
        rw [List.take_succ_eq_append_getElem hil, ← hx, List.getD_eq_getElem?_getD, List.getElem?_eq_getElem hil]; rfl
      have HXX := Lib.hid hx64
      have HTL : Hid ((l.take i).length = i) := by show _ = _; rw [List.length_take]; omega
      clear hx hlx hil hx64
      go_wp2_with fail
      refine (new_s x wr HXX.out).mono ?_
      rintro e w2 ⟨xa, xl, xc, rfl, hn, hb2⟩
      have HE2 := Lib.hid (HE.out.below hb2)
      have hbx := (Below.refl _ w2).alloc (Nat.le_refl _) (Obj.cells #[Value.slice xa xl xc] 36)
      have HE3 := Lib.hid (HE2.out.below hbx)
      have HN3 := Lib.hid (hn.below hbx)
      have cR := (Blk.new w2 [Value.slice xa xl xc] 36).cell 0
      simp only [List.getElem?_cons_zero] at cR
      obtain ⟨va, vc, rfl, hv1, hv2, _, _⟩ := (HE3.out.row 0 rfl).form
      rw [HTL.out] at hv1 HE3
      rw [HTL.out]
      clear hn hb2 HE HE2 hbx cx
      go_wp2_with (first | (refine wpList_append_nat _ rfl (.tmp 12) (.tmp 15) rfl s _ (l.take i) rfl (HE3.out.row 0 rfl) ⟨w2.heap.size, 0, none⟩ 1 x xa xl xc rfl cR HN3.out (by rw [HTL.out]; omega) HE3.out.base ?_; intro v' w4 hown hgr hf; have HE4 := Lib.hid (HE3.out.append 0 rfl hgr hf hown); clear hown hgr hf))
      go_roundw
      case rel => exact ⟨i + 1, by omega, by go_num, HTS.out.symm ▸ HE4.out⟩
      case measure => simp [intOf]; omega
    · have hi' : i = len := by omega
      subst hi'
      rw [List.take_of_length_le (by rw [HL.out]; exact Nat.le_refl _)] at HE
      go_wp2_with fail
      go_ret
      exact ⟨_, rfl, HS.out ▸ HE.out.row 0 rfl, HS.out ▸ HE.out.bel⟩
end Go.Proofs.YthefednendgclaaGreat
/-
  The law's group, of numbers that are as said.
-/
namespace Go.Proofs.YthefednendgclaaGreat
open Go Go.RowKit Sac NT

/-- Which of the three groups. -/
def kOf (n : Int) : Nat := ((IntKind.u64.wrap n).tmod 3).toNat
theorem kOf_cases (n : Int) : ((IntKind.u64.wrap n).tmod 3 = 0 ∧ kOf n = 0) ∨ ((IntKind.u64.wrap n).tmod 3 = 1 ∧ kOf n = 1) ∨ ((IntKind.u64.wrap n).tmod 3 = 2 ∧ kOf n = 2) := by
  have h0 : 0 ≤ IntKind.u64.wrap n := by
    show 0 ≤ n % 18446744073709551616
    omega
  unfold kOf
  generalize IntKind.u64.wrap n = m at h0 ⊢
  rw [Int.tmod_eq_emod_of_nonneg h0]
  omega

theorem gG_one : ∀ k, 1 < gG k
  | 0 => by decide
  | 1 => by decide
  | _ + 2 => by show 1 < 262144; decide
theorem gQ_64 : ∀ k, 64 < gQ k
  | 0 => by decide
  | 1 => by decide
  | _ + 2 => by show 64 < Q60; decide
theorem gS_eq : ∀ k, (blen (gP k) + 7) / 8 = gS k
  | 0 => by decide +kernel
  | 1 => by decide +kernel
  | _ + 2 => by show (blen 20752587082923246163 + 7) / 8 = 9; decide +kernel
theorem gS_le : ∀ k, gS k ≤ 9
  | 0 => by decide
  | 1 => by decide
  | _ + 2 => by show 9 ≤ 9; decide
theorem gH_of (k : Nat) : ofBytes (gP k) ((Sha.tag (Sha.tag [] []) [104, 0, 1]).take (gS k + 8)) ^ gT k % gP k = gH k := by
  have h1 : (Sha.tag (Sha.tag [] []) [104, 0, 1]).take (gS k + 8) = hBytes.take (gS k + 8) := by
    rw [← derived32, List.take_take, Nat.min_eq_left (by have := gS_le k; omega)]
  rw [h1, gN_eq, gH_eq]

/-- A group of the law. -/
def LG (w : World) (g k : Nat) : Prop := GroupAt w g (gP k) (gQ k) (gG k) (gH k) (gS k)

set_option maxRecDepth 100000 in
set_option maxHeartbeats 4000000 in
theorem group_of (k : Nat) (n : Int) (w : World) (hn : Calls Tryz.prog 41 #[.int .i64 n, .slice none 0 0] w (NumPost k (.slice none 0 0) w)) :
    Calls Tryz.prog 8 #[.int .i64 n, .slice none 0 0] w fun e w' => ∃ g, e = .returned (.pointer (some ⟨g, 0, none⟩)) ∧ LG w' g k ∧ Below w.heap.size w w' := by
  have HN := Lib.hid hn
  clear hn
  go_enter Tryz.func8, Tryz.ntmps8
  go_wp2_with fail
  refine HN.out.mono ?_
  rintro e w2 ⟨pa, pl, pc, qa, ql, qc, ga, gl, gc, cv, rfl, hP, hQ, hG, prP, prQ, hb2⟩
  have HH := Lib.hid (And.intro hP (And.intro hQ (And.intro hG (And.intro prP (And.intro prQ hb2)))))
  clear hP hQ hG prP prQ hb2
  go_wp2_with fail
  obtain ⟨hP, hQ, hG, prP, prQ, hb2⟩ := HH.out
  have h250 : 79228162514264337593543950336 < 2 ^ 250 := by decide
  refine (gnew_any (gP k) (gQ k) (gG k) (gT k) (gH k) (gS k) cv pa pl pc qa ql qc ga gl gc w2 hP hQ hG prP prQ (Nat.lt_trans (gP_lt k) h250) (Nat.lt_trans (gQ_lt k) (by decide)) (gG_one k) (gG_lt k) (gQ_64 k) (gT_eq k) ⟨Nat.ne_of_gt (Nat.lt_trans (by decide) (gG_one k)), gG_lt k, gG_pow k⟩ (gS_eq k) (Nat.le_trans (gS_le k) (by decide)) (gH_of k) (gH_one k)).mono ?_
  rintro e w3 ⟨g, rfl, hg, hb3⟩
  have HG := Lib.hid hg
  have HB := Lib.hid (hb2.trans (hb3.mono hb2.size))
  clear hP hQ hG prP prQ hb2 hg hb3 HH HN h250
  go_wp2_with fail
  go_ret
  exact ⟨g, rfl, HG.out, HB.out⟩
end Go.Proofs.YthefednendgclaaGreat
/-
  The law's group: for whatever number.
-/
namespace Go.Proofs.YthefednendgclaaGreat
open Go Go.RowKit Sac NT

theorem group_any (n : Int) (w : World) :
    Calls Tryz.prog 8 #[.int .i64 n, .slice none 0 0] w fun e w' => ∃ g, e = .returned (.pointer (some ⟨g, 0, none⟩)) ∧ LG w' g (kOf n) ∧ Below w.heap.size w w' := by
  rcases kOf_cases n with ⟨h1, h2⟩ | ⟨h1, h2⟩ | ⟨h1, h2⟩
  · rw [h2]; exact group_of 0 n w (numbers0 n w h1)
  · rw [h2]; exact group_of 1 n w (numbers1 n w h1)
  · rw [h2]; exact group_of 2 n w (numbers2 n w h1)
end Go.Proofs.YthefednendgclaaGreat
/-
  The law's field; the chapter's example.
-/
namespace Go.Proofs.YthefednendgclaaGreat
open Go Go.RowKit Sac NT

set_option maxRecDepth 100000 in
set_option maxHeartbeats 4000000 in
theorem field_any (n : Int) (w : World) :
    Calls Tryz.prog 38 #[.int .i64 n] w fun e w' => ∃ r, e = .returned (.pointer (some ⟨r, 0, none⟩)) ∧ RingAt w' r (gQ (kOf n)) ∧ Below w.heap.size w w' := by
  go_enter Tryz.func38, Tryz.ntmps38
  go_wp2_with fail
  refine (group_any n w).mono ?_
  rintro e w2 ⟨g, rfl, hg, hb2⟩
  have HG := Lib.hid hg
  have HB2 := Lib.hid hb2
  clear hg hb2
  go_wp2_with fail
  refine (gfield_any g _ _ _ _ _ w2 HG.out).mono ?_
  rintro e w3 ⟨r, rfl, hr, hb3⟩
  have HR := Lib.hid hr
  have HB3 := Lib.hid (HB2.out.trans (hb3.mono HB2.out.size))
  clear hr hb3
  go_wp2_with fail
  go_ret
  exact ⟨r, rfl, HR.out, HB3.out⟩

set_option maxRecDepth 100000 in
set_option maxHeartbeats 4000000 in
theorem lives_any (w : World) : Calls Tryz.prog 7 #[] w fun e w' => e = .returned (.bool true) ∧ Below w.heap.size w w' := by
  go_enter Tryz.func7, Tryz.ntmps7
  go_wp2_with fail
  refine (field_any 0 w).mono ?_
  rintro e w2 ⟨r, rfl, hr, hb2⟩
  have HR2 := Lib.hid hr
  have HB2 := Lib.hid hb2
  have HBX : Hid (Blk (w2.alloc (Obj.cells #[.int .u64 3, .int .u64 2, .int .u64 1] 23)) w2.heap.size 23 [.int .u64 3, .int .u64 2, .int .u64 1]) := Blk.new w2 _ _
  have HB3 := Lib.hid ((Below.refl _ w2).alloc (Nat.le_refl _) (Obj.cells #[Value.int .u64 3, Value.int .u64 2, Value.int .u64 1] 23))
  clear hr hb2
  go_wp2_with fail
  obtain ⟨wx, hwx⟩ : ∃ wx, w2.alloc (Obj.cells #[Value.int .u64 3, Value.int .u64 2, Value.int .u64 1] 23) = wx := ⟨_, rfl⟩
  obtain ⟨B, hB⟩ : ∃ B, B = w2.heap.size := ⟨_, rfl⟩
  rw [hwx, ← hB]
  rw [hwx, ← hB] at HBX
  rw [hwx] at HB3
  have HRX := Lib.hid (HR2.out.below HB3.out)
  have HB0 := Lib.hid (HB2.out.trans (HB3.out.mono HB2.out.size))
  clear hwx hB HB3 HB2 HR2
  refine (nums_any (some ⟨B, 0, none⟩) 3 3 [3, 2, 1] wx (RdC.of_blk HBX.out) rfl (by decide) (by decide) (by decide)).mono ?_
  rintro e w3 ⟨v, rfl, hrow, hb3⟩
  obtain ⟨pa, pc, rfl, hp1, hp2, hat, _⟩ := hrow.form
  have HAT3 := Lib.hid hat
  have HR3 := Lib.hid (HRX.out.below hb3)
  have HB4 := Lib.hid (HB0.out.trans (hb3.mono HB0.out.size))
  clear hrow hb3 hat hp1 hp2 HRX HB0 HBX
  go_wp2_with fail
  refine (new_s 2 w3 (by decide)).mono ?_
  rintro e w4 ⟨xa, xl, xc, rfl, hx, hb4⟩
  have HX4 := Lib.hid hx
  have HR4 := Lib.hid (HR3.out.below hb4)
  have HAT4 := Lib.hid (HAT3.out.below hb4)
  have HB5 := Lib.hid (HB4.out.trans (hb4.mono HB4.out.size))
  clear hx hb4 HR3 HAT3 HB4
  go_wp2_with fail
  refine (eval_any r _ pa 3 pc [3, 2, 1] xa xl xc 2 w4 HR4.out HAT4.out rfl (by decide) HX4.out).mono ?_
  rintro e w5 ⟨ya, yl, yc, rfl, hy, hb5⟩
  have hv : evalm (gQ (kOf 0)) [3, 2, 1] (2 % gQ (kOf 0)) = 11 := by
    have : kOf 0 = 0 := by decide
    rw [this]; decide
  rw [hv] at hy
  have HY5 := Lib.hid hy
  have HB6 := Lib.hid (HB5.out.trans (hb5.mono HB5.out.size))
  clear hy hb5 HB5 HX4 HR4 HAT4
  go_wp2_with fail
  refine (new_s 11 w5 (by decide)).mono ?_
  rintro e w6 ⟨za, zl, zc, rfl, hz, hb6⟩
  have HZ6 := Lib.hid hz
  have HY6 := Lib.hid (HY5.out.below hb6)
  have HB7 := Lib.hid (HB6.out.trans (hb6.mono HB6.out.size))
  clear hz hb6 HB6 HY5
  go_wp2_with fail
  refine (cmp_s ya za yl yc zl zc 11 11 w6 HY6.out HZ6.out).mono ?_
  rw [cmp_self]
  rintro e w7 ⟨rfl, hb7⟩
  have HB8 := Lib.hid (HB7.out.trans (hb7.mono HB7.out.size))
  clear hb7 HB7
  go_wp2_with fail
  go_ret
  exact ⟨rfl, HB8.out⟩
end Go.Proofs.YthefednendgclaaGreat
