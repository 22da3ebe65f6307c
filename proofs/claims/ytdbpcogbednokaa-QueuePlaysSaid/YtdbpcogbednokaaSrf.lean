/-
  slices.SortedFunc of the items, and (*Queue).Each: the body is told of all, in order, till it says no.
-/
import Derived.Test.YtdbpcogbednokaaAps
import Derived.Shelf.SlSortCmp.NoneTotal
namespace Go.Proofs.Ytdbpcogbednokaa
open Go.RowKit Go.Shelf

/-- What slices.SortedFunc hands back: the items in order, in a row of its own. -/
def SortedRow (w : World) (base : Nat) (v : Value) (T : List Item) : Prop := ∃ (a : Option Addr) (cap : Nat), v = .slice a T.length cap ∧ (T.length : Int) ≤ cap ∧ IRd w.heap.size w a T ∧ ∀ g, a = some ⟨g, 0, none⟩ → base ≤ g

set_option maxHeartbeats 1000000 in
theorem sortedFunc_any (Bs : Nat) (a : Option Addr) (cap : Nat) (L T : List Item) (hT : L.Perm T) (hS : Sorted T) (hreach : (L.length : Int) ≤ 100000) (w : World) (hBs : Bs < w.heap.size)
    (hc : w.cell? ⟨Bs, 0, none⟩ = some (.slice a L.length cap)) (hR : IRd w.heap.size w a L) :
    Calls Try.prog 26 #[.func (.func 40) #[] #[.pointer (some ⟨Bs, 0, none⟩)], .func (.func 28) #[] #[]] w fun e w' => ∃ v, e = .returned v ∧ SortedRow w' w.heap.size v T ∧ Below w.heap.size w w' := by
  have hcol := collect_any Bs a cap L hreach w hBs hc hR
  go_enter Try.func26, Try.ntmps26
  go_wp2_with fail
  refine hcol.mono ?_
  rintro e w2 ⟨v, rfl, hown, hb⟩
  obtain ⟨hx, ⟨rfl, h0, h1⟩ | ⟨g, cap2, rest, rfl, hg, hB, hn, hcm, hl⟩⟩ := own_elim hown
  · have hL : L = [] := List.eq_nil_of_length_eq_zero h0
    have hTn : T = [] := by rw [hL] at hT; exact hT.symm.eq_nil
    subst hTn
    clear hcol hown
    go_wp2_with fail
    refine (AnyF.slices_SortFunc_none Try.sortIt none 0 (.func (.func 28) #[] #[]) w2).mono ?_
    rintro e w3 ⟨rfl, rfl⟩
    go_wp2_with fail
    go_ret
    exact ⟨_, rfl, ⟨none, 0, rfl, by simp, fun i hi => by simp at hi, fun g e => by cases e⟩, hb⟩
  · obtain ⟨m, hm⟩ : ∃ m, L.length = m := ⟨_, rfl⟩
    have hown2 : IOwn w2 w.heap.size (.slice (some ⟨g, 0, none⟩) m cap2) L := by rw [← hm]; exact hown
    have HO := Lib.hid hown2
    have HM := Lib.hid hm
    have hTl : T.length = m := by rw [← hT.length_eq, hm]
    have hcap2 : m ≤ cap2 := by omega
    rw [hm] at hreach ⊢
    clear hcol hown hown2 hx hn hcm hl hB hm
    go_wp2_with fail
    refine (isort_any w.heap.size g m cap2 L T hT hS w2 HM.out HO.out (by omega)).mono ?_
    rintro e w3 ⟨rfl, hrow, hb3⟩
    go_wp2_with fail
    go_ret
    have hbb := hb3 w.heap.size hg hb.size
    exact ⟨_, rfl, ⟨_, cap2, by rw [hTl]; rfl, by omega, fun i hi => ⟨g, rfl, hrow.1, hrow.2 i hi⟩, fun g' e => by cases e; exact hg⟩, hb.trans hbb⟩

/-- What lay between base and W0's end lies as it lay. -/
def Prot (base : Nat) (W0 W W' : World) : Prop := ∀ k, base ≤ k → k < W0.heap.size → W'.heap[k]? = W.heap[k]?
set_option maxRecDepth 100000 in
set_option maxHeartbeats 2000000 in
theorem qeach_raw (bq : Nat) (a : Option Addr) (cap : Nat) (L T : List Item) (hT : L.Perm T) (hS : Sorted T) (hreach : (L.length : Int) ≤ 100000) (w : World) (q0 : w.cell? ⟨bq, 0, none⟩ = some (.slice a L.length cap)) (hR : IRd w.heap.size w a L)
    (fy : Nat) (cb : Array Value) (ey : ∀ args w, (callFunc fy args).run Try.prog w = .ok (.enter fy args) w) (J Jx : World → List Item → World → Prop)
    (hJ0 : ∀ W0, Below w.heap.size w W0 → J W0 [] W0) (hAl : ∀ W0 pre W o, J W0 pre W → W0.heap.size ≤ W.heap.size → J W0 pre (W.alloc o))
    (hY : ∀ W0 pre x W, Below w.heap.size w W0 → J W0 pre W → pre.length < T.length → W0.heap.size ≤ W.heap.size → pre ++ [x] = T.take (pre.length + 1) → Calls Try.prog fy (#[.int .i64 x.due, .int .i64 x.x] ++ cb) W fun e W' =>
      ((e = .returned (.bool true) ∧ J W0 (pre ++ [x]) W') ∨ (e = .returned (.bool false) ∧ Jx W0 (pre ++ [x]) W')) ∧ Prot w.heap.size W0 W W' ∧ W.heap.size ≤ W'.heap.size) :
    Calls Try.prog 13 #[.pointer (some ⟨bq, 0, none⟩), .func (.func fy) #[] cb] w fun e w' => e = .returned (.tuple #[]) ∧ ∃ W0, Below w.heap.size w W0 ∧ (J W0 T w' ∨ ∃ k, k ≤ T.length ∧ Jx W0 (T.take k) w') := by
  have HY := Lib.hid hY
  have HAl := Lib.hid hAl
  have HJ0 := Lib.hid hJ0
  have HR := Lib.hid hR
  obtain ⟨m, hm⟩ : ∃ m, L.length = m := ⟨_, rfl⟩
  rw [hm] at q0 hreach
  have HM := Lib.hid hm
  clear hY hAl hJ0 hR hm
  go_enter Try.func13, Try.ntmps13
  go_wp2_with fail
  refine (values_any a m cap w).mono ?_
  rintro e w1 ⟨rfl, hw1⟩
  have hb1 : Below w.heap.size w w1 := by rw [hw1]; exact (Below.refl _ w).alloc (Nat.le_refl _) _
  have hc1 : w1.cell? ⟨w.heap.size, 0, none⟩ = some (.slice a L.length cap) := by rw [hw1, HM.out]; exact (Blk.new w [.slice a m cap] 52).cell 0
  have hl1 : w.heap.size < w1.heap.size := by rw [hw1]; simp
  clear hw1 q0
  go_wp2_with fail
  refine (sortedFunc_any w.heap.size a cap L T hT hS (by rw [HM.out]; exact hreach) w1 hl1 hc1 (fun i hi => by
    obtain ⟨g, e, hg, h⟩ := (HR.out.below hb1) i hi
    exact ⟨g, e, by omega, h⟩)).mono ?_
  rintro e W0 ⟨v, rfl, ⟨a2, cap2, rfl, hcap2, hR2, hg2⟩, hb2⟩
  have HB0 : Hid (Below w.heap.size w W0) := hb1.trans (hb2.mono (by omega))
  have HG2 : Hid (∀ g, a2 = some ⟨g, 0, none⟩ → w.heap.size ≤ g) := fun g e => by have := hg2 g e; omega
  obtain ⟨N, hN⟩ : ∃ N, T.length = N := ⟨_, rfl⟩
  have hNm : N ≤ 100000 := by have := hT.length_eq; rw [HM.out] at this; omega
  rw [hN] at hcap2 ⊢
  have HR2 := Lib.hid hR2
  have HN := Lib.hid hN
  clear hN hR2 hg2 hb2 hc1 hb1 hl1
  go_wp2_with fail
  go_loopw [17] (fun iv wr => ∃ i : Nat, i ≤ N ∧ iv = .int .i64 (i : Int) ∧ Hid (J W0 (T.take i) wr) ∧ Hid (Prot w.heap.size W0 W0 wr) ∧ Hid (W0.heap.size ≤ wr.heap.size)) (fun iv _ => N - (intOf iv).toNat)
  case atStart => exact ⟨0, Nat.zero_le _, rfl, HJ0.out W0 HB0.out, fun _ _ _ => rfl, Nat.le_refl _⟩
  case round =>
    obtain ⟨i, hi, rfl, HJ, HP, HZ⟩ := hrel
    by_cases hlt : (i : Int) < (N : Int)
    · obtain ⟨g, rfl, hg, c0, c1, c2⟩ := HR2.out i (by rw [HN.out]; omega)
      have hgb := HG2.out g rfl
      have hsame := HP.out g hgb hg
      have k0 : wr.cell? ⟨g, i * 3, none⟩ = _ := (World.cell?_of_block (a := ⟨g, i * 3, none⟩) hsame).trans c0
      have k1 : wr.cell? ⟨g, i * 3 + 1, none⟩ = _ := (World.cell?_of_block (a := ⟨g, i * 3 + 1, none⟩) hsame).trans c1
      have k2 : wr.cell? ⟨g, i * 3 + 2, none⟩ = _ := (World.cell?_of_block (a := ⟨g, i * 3 + 2, none⟩) hsame).trans c2
      obtain ⟨x, hx⟩ : ∃ x, T.getD i default = x := ⟨_, rfl⟩
      rw [hx] at k0 k1 k2
      have HX := Lib.hid hx
      obtain ⟨d, nu, xx⟩ := x
      dsimp only at k0 k1 k2
      have hs : T.take i ++ [⟨d, nu, xx⟩] = T.take (i + 1) := by rw [take_succ_getD (by rw [HN.out]; omega), HX.out]
      have hyy := HY.out W0 (T.take i) ⟨d, nu, xx⟩ (wr.alloc (.cells #[.int .i64 d, .int .i64 nu, .int .i64 xx] 58)) HB0.out (HAl.out _ _ _ _ HJ.out HZ.out) (by rw [List.length_take, HN.out]; omega) (by rw [World.size_alloc]; exact Nat.le_succ_of_le HZ.out) (by rw [List.length_take, HN.out, Nat.min_eq_left (by omega)]; exact hs)
      rw [hs] at hyy
      have HYY := Lib.hid hyy
      have HZ1 : Hid (W0.heap.size ≤ (wr.alloc (.cells #[.int .i64 d, .int .i64 nu, .int .i64 xx] 58)).heap.size) := by show _ ≤ _; rw [World.size_alloc]; exact Nat.le_succ_of_le HZ.out
      have HP1 : Hid (Prot w.heap.size W0 W0 (wr.alloc (.cells #[.int .i64 d, .int .i64 nu, .int .i64 xx] 58))) := fun k h1 h2 => (Below.heap_alloc _ _ k (Nat.lt_of_lt_of_le h2 HZ.out)).trans (HP.out k h1 h2)
      clear hs hyy hx c0 c1 c2 hsame hgb hg HJ HP HZ
      go_wp2_with fail
      refine HYY.out.mono ?_
      rintro e W3 ⟨⟨rfl, hJ3⟩ | ⟨rfl, hJx⟩, hP3, hZ3⟩
      · have HJ3 := Lib.hid hJ3
        have HP3 : Hid (Prot w.heap.size W0 W0 W3) := fun k h1 h2 => (hP3 k h1 h2).trans (HP1.out k h1 h2)
        have HZ3 : Hid (W0.heap.size ≤ W3.heap.size) := Nat.le_trans HZ1.out hZ3
        clear hJ3 hP3 hZ3
        go_wp2_with fail
        go_roundw
        case rel => exact ⟨i + 1, by omega, by go_num, HJ3.out, HP3.out, HZ3.out⟩
        case measure => simp [intOf]; omega
      · go_wp2_with fail
        refine bodyPost_ret (results_none rfl _ _ _) rfl ?_
        exact ⟨rfl, W0, HB0.out, .inr ⟨i + 1, by rw [HN.out]; omega, hJx⟩⟩
    · go_wp2_with fail
      go_end0
      exact ⟨rfl, W0, HB0.out, .inl (by
        have h := HJ.out
        rwa [List.take_of_length_le (by rw [HN.out]; omega)] at h)⟩
end Go.Proofs.Ytdbpcogbednokaa
