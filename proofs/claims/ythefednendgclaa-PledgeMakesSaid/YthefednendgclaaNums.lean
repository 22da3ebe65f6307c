/-
  Small numbers as a row of numbers.
-/
import Derived.Test.YthefednendgclaaNGE
set_option linter.unusedVariables false
set_option linter.unusedSimpArgs false
namespace Go.Proofs.Ythefednendgclaa
open Go Go.RowKit Sac

/-- Words of 64 bits, as they are read. -/
def w64 (x : Nat) : Value := .int .u64 (x : Int)

/-- The slice at a holds the cells vs; of the block's type nothing is said. -/
def RdC (w : World) (a : Option Addr) (vs : List Value) : Prop := vs ≠ [] → ∃ ad, a = some ad ∧ ∀ j u, vs[j]? = some u → w.cell? (ad.add j) = some u
theorem RdC.below {w w' : World} {a : Option Addr} {vs : List Value} (h : RdC w a vs) (hb : Below w.heap.size w w') : RdC w' a vs := fun hne => by
  obtain ⟨ad, h1, h2⟩ := h hne
  exact ⟨ad, h1, fun j u hj => (BB.cell hb (World.block_lt_of_cell? _ _ (h2 j u hj))).trans (h2 j u hj)⟩
theorem RdC.at_ {w : World} {a : Option Addr} {vs : List Value} (h : RdC w a vs) {k : Nat} (hk : k < vs.length) : ∃ ad, a = some ad ∧ w.cell? (ad.add k) = some vs[k] := by
  obtain ⟨ad, h1, hc⟩ := h (by intro h0; subst h0; simp at hk)
  exact ⟨ad, h1, hc k _ (List.getElem?_eq_getElem hk)⟩
theorem RdC.of_blk {w : World} {k : Nat} {e : TypeId} {cs : List Value} (h : Blk w k e cs) : RdC w (some ⟨k, 0, none⟩) cs := fun _ => ⟨_, rfl, fun j u hj => by
  have : ((⟨k, 0, none⟩ : Addr).add j) = ⟨k, j, none⟩ := by unfold Addr.add; split <;> simp_all
  rw [this, h.cell j]; exact hj⟩
/-- What the frame tells of a slice of words that came in. -/
theorem words_in {w : World} {a : Option Addr} {len cap : Nat} {zs : List Int}
    (h : (a = none ∧ len = 0 ∧ cap = 0 ∧ zs = []) ∨ ∃ x, a = some x ∧ len ≤ cap ∧ cap ≤ maxLen ∧ zs.length = cap ∧ (∀ i, i < zs.length → w.cell? (x.add i) = some (.int .u64 (zs.getD i 0))) ∧ ∀ n ∈ zs, (Lit.int .u64 n).wf = true) :
    ∃ l : List Nat, RdC w a (l.map w64) ∧ l.length = len ∧ (len : Int) ≤ cap ∧ ∀ x ∈ l, x < 18446744073709551616 := by
  rcases h with ⟨rfl, rfl, rfl, rfl⟩ | ⟨x, rfl, h1, _, h3, h4, h5⟩
  · exact ⟨[], fun h => absurd rfl h, rfl, by omega, by simp⟩
  · have hw : ∀ n ∈ zs, 0 ≤ n ∧ n < 18446744073709551616 := fun n hn => by
      have := h5 n hn
      simp only [Lit.wf, Bool.and_eq_true, decide_eq_true_eq] at this
      have e1 : IntKind.u64.min = 0 := rfl
      have e2 : IntKind.u64.max = 18446744073709551615 := rfl
      omega
    refine ⟨(zs.take len).map Int.toNat, fun _ => ⟨x, rfl, fun j u hj => ?_⟩, by simp; omega, by omega, fun y hy => ?_⟩
    · rw [List.map_map, List.getElem?_map] at hj
      obtain ⟨z, hz, hzu⟩ := Option.map_eq_some_iff.1 hj
      have hzz : zs[j]? = some z := by rw [List.getElem?_take] at hz; split at hz; exact hz; cases hz
      obtain ⟨hjl, hje⟩ := List.getElem?_eq_some_iff.1 hzz
      rw [h4 j hjl, ← hzu, List.getD_eq_getElem?_getD, hzz]
      have := hw z (List.mem_of_getElem? hzz)
      show some (Value.int .u64 z) = some (Value.int .u64 ((z.toNat : Nat) : Int))
      rw [Int.toNat_of_nonneg this.1]
    · obtain ⟨z, hz, rfl⟩ := List.mem_map.1 hy
      have := hw z (List.mem_of_mem_take hz)
      omega
theorem word_in {n : Int} (h : (Lit.int .u64 n).wf = true) : ∃ x : Nat, n = (x : Int) ∧ x < 18446744073709551616 := by
  simp only [Lit.wf, Bool.and_eq_true, decide_eq_true_eq] at h
  have e1 : IntKind.u64.min = 0 := rfl
  have e2 : IntKind.u64.max = 18446744073709551615 := rfl
  exact ⟨n.toNat, by omega, by omega⟩

set_option maxRecDepth 100000 in
set_option maxHeartbeats 4000000 in
theorem nums_any (a : Option Addr) (len cap : Nat) (l : List Nat) (w : World) (hr : RdC w a (l.map w64)) (hl : l.length = len) (hc : (len : Int) ≤ cap) (hlen : (len : Int) ≤ 10000) (hx : ∀ x ∈ l, x < 18446744073709551616) :
    Calls Try.prog 19 #[.slice a len cap] w (RetRow l w) := by
  obtain ⟨s, hs⟩ : ∃ s, s = w.heap.size := ⟨_, rfl⟩
  have HE0 := Lib.hid ((GE.init w s hs).pushNil)
  have HR := Lib.hid hr
  have HL := Lib.hid hl
  have HX := Lib.hid hx
  have HS := Lib.hid hs
  clear hr hl hx hs
  go_enter Try.func19, Try.ntmps19
  go_wp2_with fail
  go_loopw [3, 8] (fun v iv wr => ∃ i : Nat, (i : Int) ≤ len ∧ iv = .int .i64 (i : Int) ∧ Hid (GE w wr s [rowI s v (l.take i)] [])) (fun _ iv _ => len - (intOf iv).toNat)
  case atStart => exact ⟨0, by omega, rfl, HE0.out⟩
  case round =>
    clear HE0
    obtain ⟨i, hi, rfl, HE⟩ := hrel
    by_cases hlt : (i : Int) < len
    · have hil : i < l.length := by rw [HL.out]; omega
      obtain ⟨ad, rfl, cx⟩ := (HR.out.below (HS.out ▸ HE.out.bel)).at_ (k := i) (by simpa using hil)
      obtain ⟨x, hx⟩ : ∃ x, l.getD i 0 = x := ⟨_, rfl⟩
      have hlx : (l.map w64)[i]'(by simpa using hil) = .int .u64 (x : Int) := by
        rw [List.getElem_map, ← hx, List.getD_eq_getElem?_getD, List.getElem?_eq_getElem hil]; rfl
      rw [hlx] at cx
      have hx64 : x < 18446744073709551616 := by rw [← hx, List.getD_eq_getElem?_getD, List.getElem?_eq_getElem hil]; exact HX.out _ (List.getElem_mem hil)
      have HTS : Hid (l.take (i + 1) = l.take i ++ [x]) := by
        show _ = _
        rw [List.take_succ_eq_append_getElem hil, ← hx, List.getD_eq_getElem?_getD, List.getElem?_eq_getElem hil]; rfl
      have HXX := Lib.hid hx64
      have HTL : Hid ((l.take i).length = i) := by show _ = _; rw [List.length_take]; omega
      clear hx hlx hil hx64
      go_wp2_with fail
      refine (new_s x wr HXX.out).mono ?_
      rintro e w2 ⟨xa, xl, xc, rfl, hn, hb2⟩
      have HE2 := Lib.hid (HE.out.below hb2)
      have hbx := (Below.refl _ w2).alloc (Nat.le_refl _) (Obj.cells #[Value.slice xa xl xc] 33)
      have HE3 := Lib.hid (HE2.out.below hbx)
      have HN3 := Lib.hid (hn.below hbx)
      have cR := (Blk.new w2 [Value.slice xa xl xc] 33).cell 0
      simp only [List.getElem?_cons_zero] at cR
      obtain ⟨va, vc, rfl, hv1, hv2, _, _⟩ := (HE3.out.row 0 rfl).form
      rw [HTL.out] at hv1 HE3
      rw [HTL.out]
      clear hn hb2 HE HE2 hbx cx
      go_wp2_with (first | (refine wpList_append_nat _ rfl (.tmp 12) (.tmp 15) rfl s _ (l.take i) rfl (HE3.out.row 0 rfl) ⟨w2.heap.size, 0, none⟩ 1 x xa xl xc rfl cR HN3.out (by rw [HTL.out]; omega) HE3.out.base ?_; intro v' w4 hown hgr hf; have HE4 := Lib.hid (HE3.out.append 0 rfl hgr hf hown); clear hown hgr hf))
      go_roundw
      case rel => exact ⟨i + 1, by omega, by go_num, HTS.out.symm ▸ HE4.out⟩
      case measure => simp [intOf]; omega
    · have hi' : i = len := by omega
      subst hi'
      rw [List.take_of_length_le (by rw [HL.out]; exact Nat.le_refl _)] at HE
      go_wp2_with fail
      go_ret
      exact ⟨_, rfl, HS.out ▸ HE.out.row 0 rfl, HS.out ▸ HE.out.bel⟩
end Go.Proofs.Ythefednendgclaa
