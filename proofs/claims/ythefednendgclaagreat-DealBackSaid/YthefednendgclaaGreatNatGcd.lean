/-
  The numbers' own functions: Gcd.
-/
import Derived.Test.YthefednendgclaaGreatNatDiv
import Derived.Deep.LoopGhost
set_option linter.unusedVariables false
set_option linter.unusedSimpArgs false
namespace Go.Proofs.YthefednendgclaaGreat
open Go Go.RowKit Sac

theorem NatAt.lt {w : World} {a : Option Addr} {len n : Nat} (h : NatAt w a len n) : n < W ^ len := by
  obtain ⟨l, rfl, h2, _, rfl, _⟩ := h
  exact val_lt h2
theorem NatAt.len_le {w w' : World} {a b : Option Addr} {len lenb n m : Nat} (h : NatAt w a len n) (k : NatAt w' b lenb m) (hnm : n ≤ m) : len ≤ lenb :=
  h.fit (Nat.lt_of_le_of_lt hnm k.lt)

set_option maxRecDepth 100000 in
set_option maxHeartbeats 1000000 in
theorem gcd_any (a b : Option Addr) (len cap lenb capb n m : Nat) (w : World) (hn : NatAt w a len n) (hm : NatAt w b lenb m) (hlen : (len : Int) ≤ 10000) (hlenb : (lenb : Int) ≤ 10000) :
    Calls Tryz.prog 153 #[.agg #[.slice a len cap], .agg #[.slice b lenb capb]] w (RetNat (Nat.gcd n m) w) := by
  have HN := Lib.hid hn
  have HM := Lib.hid hm
  clear hn hm
  go_enter Tryz.func153, Tryz.ntmps153
  go_wp2_with fail
  have hbx := BX.make w (.slice a len cap) (.slice b lenb capb) (.slice none 0 0)
  generalize (((w.alloc (Obj.cells #[Value.slice a len cap] 36)).alloc (Obj.cells #[Value.slice b lenb capb] 36)).alloc (Obj.cells #[Value.slice none 0 0] 36)) = w1 at hbx ⊢
  obtain ⟨s, hs⟩ : ∃ s, s = w.heap.size := ⟨_, rfl⟩
  rw [← hs] at hbx ⊢
  have HS := Lib.hid hs
  have HX1 := Lib.hid hbx
  have HN1 := Lib.hid (HN.out.below (hs ▸ hbx.1))
  have HM1 := Lib.hid (HM.out.below (hs ▸ hbx.1))
  clear hbx hs HN HM
  go_loopg [7] m (fun gk v wr => ∃ (a' b' : Option Addr) (la ca lb cb x y : Nat), (y : Int) ≤ gk ∧ (la : Int) ≤ 10000 ∧ (lb : Int) ≤ 10000 ∧ Hid (BX w wr s (.slice a' la ca) (.slice b' lb cb) (.slice none 0 0)) ∧ Hid (NatAt wr a' la x) ∧ Hid (NatAt wr b' lb y) ∧ Hid (Nat.gcd x y = Nat.gcd n m))
  case atStart => exact ⟨a, b, len, cap, lenb, capb, n, m, by omega, hlen, hlenb, HX1.out, HN1.out, HM1.out, rfl⟩
  case round =>
    obtain ⟨a', b', la, lca, lb, lcb, x, y, hgk, hla, hlb, HX, HN, HM, HG⟩ := hrel
    clear HX1 HN1 HM1
    have ca := HX.out.2.1.cell
    have cb := HX.out.2.2.1.cell
    have cr := HX.out.2.2.2.cell
    have fa := HX.out.2.1.frozen
    have fb := HX.out.2.2.1.frozen
    have fr := HX.out.2.2.2.frozen
    go_wp2_with fail
    refine (zero_any b' lb lcb y wr HM.out).mono ?_
    rintro e w3 ⟨rfl, hb3⟩
    have HX3 := Lib.hid (HX.out.below hb3)
    have HN3 := Lib.hid (HN.out.below hb3)
    have HM3 := Lib.hid (HM.out.below hb3)
    clear hb3 ca cb cr fa fb fr
    have ca := HX3.out.2.1.cell
    have cb := HX3.out.2.2.1.cell
    have cr := HX3.out.2.2.2.cell
    have fa := HX3.out.2.1.frozen
    have fb := HX3.out.2.2.1.frozen
    have fr := HX3.out.2.2.2.frozen
    by_cases hy0 : y = 0
    · subst hy0
      go_wp2_with fail
      have hg := HG.out
      rw [Nat.gcd_zero_right] at hg
      have hB : Blk w3 (s + 1 + 1) 36 [.slice none 0 0] := HX3.out.2.2.2
      refine ret_nat rfl rfl (hB.set 0 _) ⟨a', la, lca, rfl, ?_, ?_⟩
      · rw [← hg]; exact HN3.out.setCell hB (by decide) 0 _
      · rw [← HS.out]
        exact HX3.out.1.setCell (p := ⟨s + 1 + 1, 0, none⟩) (by show s ≤ s + 1 + 1; omega) _
    · have hy0b : (y == 0) = false := by rw [beq_eq_false_iff_ne]; exact hy0
      go_wp2_with fail
      have G1 : ∀ w', BB w3 w' → w'.cell? ⟨s, 0, none⟩ = some (.slice a' la lca) := fun w' h => (h.cell HX3.out.2.1.lt).trans ca
      have G2 : ∀ w', BB w3 w' → w'.cell? ⟨s + 1, 0, none⟩ = some (.slice b' lb lcb) := fun w' h => (h.cell HX3.out.2.2.1.lt).trans cb
      have CC : ∀ w', BB w3 w' → Calls Tryz.prog 67 #[.agg #[.slice a' la lca], .agg #[.slice b' lb lcb]] w' fun e w'' => ∃ ra rl rc sa sl sc, e = .returned (.tuple #[.agg #[.slice ra rl rc], .agg #[.slice sa sl sc], .int .i64 0]) ∧
          NatAt w'' ra rl (x / y) ∧ NatAt w'' sa sl (x % y) ∧ Below w'.heap.size w' w'' := fun w' h => by
        have := div_any a' b' la lca lb lcb x y w' (HN3.out.below h) (HM3.out.below h) hla hlb
        unfold DivPost at this
        rwa [if_neg hy0, if_neg hy0] at this
      refine (CC w3 (BB.refl _)).mono ?_
      rintro e w4 ⟨ra, rl, rc, sa, sl, sc, rfl, hq, hr, hb4⟩
      have HX4 := Lib.hid (HX3.out.below hb4)
      have HM4 := Lib.hid (HM3.out.below hb4)
      have HR := Lib.hid hr
      clear hq hr hb4 ca cb cr fa fb fr G1 G2 CC
      have ca := HX4.out.2.1.cell
      have cb := HX4.out.2.2.1.cell
      have fa := HX4.out.2.1.frozen
      have fb := HX4.out.2.2.1.frozen
      go_wp2_with fail
      obtain ⟨w5, h5⟩ : ∃ w5 : World, ((w4.alloc (Obj.cells #[Value.slice ra rl rc] 36)).alloc (Obj.cells #[Value.slice sa sl sc] 36)) = w5 := ⟨_, rfl⟩
      have b5 : BB w4 w5 := h5 ▸ BB.alloc (BB.alloc (BB.refl _))
      have cr5 : w5.cell? ⟨w4.heap.size + 1, 0, none⟩ = some (.slice sa sl sc) := by
        rw [← h5]; exact (Blk.new' _ [Value.slice sa sl sc] 36 _ (by simp)).cell 0
      have HX5 : Hid (BX w w5 s (.slice a' la lca) (.slice b' lb lcb) (.slice none 0 0)) := HX4.out.below b5
      have HM5 := Lib.hid (HM4.out.below b5)
      have HR5 := Lib.hid (HR.out.below b5)
      have hsl := HX4.out.2.2.2.lt
      rw [h5]
      clear h5 b5 ca cb fa fb
      have ca := HX5.out.2.1.cell
      have cb := HX5.out.2.2.1.cell
      have fa := HX5.out.2.1.frozen
      have fb := HX5.out.2.2.1.frozen
      have e1 : w4.heap.size + 1 ≠ s := by omega
      have e2 : s ≠ w4.heap.size + 1 := by omega
      have e3 : w4.heap.size + 1 ≠ s + 1 := by omega
      have e4 : s + 1 ≠ w4.heap.size + 1 := by omega
      go_region
      all_goals go_wp2_with fail
      have hmod : x % y < y := Nat.mod_lt _ (by omega)
      go_roundg (x % y)
      case measure => omega
      case rel =>
        obtain ⟨h1, h2, h3, h4⟩ := HX5.out
        have q1 : Blk w5 s 36 [.slice a' la lca] := h2
        have q2 : Blk w5 (s + 1) 36 [.slice b' lb lcb] := h3
        have q3 : Blk w5 (s + 1 + 1) 36 [.slice none 0 0] := h4
        have p1 := (q1.set 0 (Value.slice b' lb lcb)).other ⟨s + 1, 0, none⟩ (Value.slice sa sl sc) (by show s ≠ s + 1; omega)
        have p2 := (q2.other ⟨s, 0, none⟩ (Value.slice b' lb lcb) (by show s + 1 ≠ s; omega)).set 0 (Value.slice sa sl sc)
        have p3 := (q3.other ⟨s, 0, none⟩ (Value.slice b' lb lcb) (by show s + 1 + 1 ≠ s; omega)).other ⟨s + 1, 0, none⟩ (Value.slice sa sl sc) (by show s + 1 + 1 ≠ s + 1; omega)
        have hbel : Below s w ((w5.setCell ⟨s, 0, none⟩ (Value.slice b' lb lcb)).setCell ⟨s + 1, 0, none⟩ (Value.slice sa sl sc)) :=
          (h1.setCell (p := ⟨s, 0, none⟩) (Nat.le_refl s) _).setCell (p := ⟨s + 1, 0, none⟩) (by show s ≤ s + 1; omega) _
        have q2' := q2.other ⟨s, 0, none⟩ (Value.slice b' lb lcb) (by show s + 1 ≠ s; omega)
        refine ⟨b', sa, lb, lcb, sl, sc, y, x % y, by omega, hlb, ?_, ⟨⟨hbel.os, hbel.tape, hbel.output, hbel.size, hbel.block⟩, p1, p2, p3⟩, ?_, ?_, ?_⟩
        · have := HR5.out.len_le HM5.out (Nat.le_of_lt hmod); omega
        · exact (HM5.out.setCell q1 (by decide) 0 _).setCell q2' (by decide) 0 _
        · exact (HR5.out.setCell q1 (by decide) 0 _).setCell q2' (by decide) 0 _
        · show Nat.gcd y (x % y) = _
          rw [Nat.gcd_comm y, ← Nat.gcd_rec, Nat.gcd_comm]; exact HG.out

end Go.Proofs.YthefednendgclaaGreat
