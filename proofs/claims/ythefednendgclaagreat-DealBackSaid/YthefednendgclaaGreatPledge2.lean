import Derived.Test.YthefednendgclaaGreatMulti
import Derived.Test.YthefednendgclaaGreatBoxRow
import Derived.Deep.RegionLaw
set_option linter.unusedVariables false
set_option linter.unusedSimpArgs false
/-
  Pledges: those of a polynomial, with masks and bare.
-/
namespace Go.Proofs.YthefednendgclaaGreat
open Go Go.RowKit Sac

def allG (P G H : Nat) (p m : List Nat) : List Nat := (List.range (max p.length m.length)).map fun i => multi P [G, H] [p.getD i 0, m.getD i 0]
theorem allG_length (P G H : Nat) (p m : List Nat) : (allG P G H p m).length = max p.length m.length := by simp [allG]
theorem allG_get (P G H : Nat) (p m : List Nat) (i : Nat) (h : i < max p.length m.length) : (allG P G H p m).getD i 0 = multi P [G, H] [p.getD i 0, m.getD i 0] := by
  simp [allG, List.getD_eq_getElem?_getD, List.getElem?_map, List.getElem?_range h]
theorem allG_eq (k : Nat) (p m : List Nat) : allG (gP k) (gG k) (gH k) p m = allP k p m := by
  unfold allG allP
  congr 1
  funext i
  exact multi_two _ _ _ _ _
theorem getD_small {p : List Nat} (h : ∀ a ∈ p, a < 2 ^ 1000) (i : Nat) : p.getD i 0 < 2 ^ 1000 := by
  rw [List.getD_eq_getElem?_getD]
  by_cases hi : i < p.length
  · rw [List.getElem?_eq_getElem hi]; exact h _ (List.getElem_mem hi)
  · rw [List.getElem?_eq_none (by omega)]; exact two_pos 1000

set_option maxRecDepth 100000 in
set_option maxHeartbeats 4000000 in
theorem pall_any (g P Q G H sz : Nat) (a : Option Addr) (len cap : Nat) (p : List Nat) (b : Option Addr) (lenb capb : Nat) (p' : List Nat) (w : World) (hr : GroupAt w g P Q G H sz) (hP1 : 1 < P) (hps : ∀ a ∈ p, a < 2 ^ 1000) (hps' : ∀ a ∈ p', a < 2 ^ 1000) (h : NatsAt w a p) (hl : p.length = len) (hc : (len : Int) ≤ 10000) (h' : NatsAt w b p') (hl' : p'.length = lenb) (hc' : (lenb : Int) ≤ 10000) :
    Calls Tryz.prog 74 #[.pointer (some ⟨g, 0, none⟩), .slice a len cap, .slice b lenb capb] w (RetRow (allG P G H p p') w) := by
  obtain ⟨s, hs⟩ : ∃ s, s = w.heap.size := ⟨_, rfl⟩
  have HE0 := Lib.hid ((GE.init w s hs).pushNil)
  have HP := Lib.hid h
  have HP' := Lib.hid h'
  have HR := Lib.hid hr
  have HL := Lib.hid hl
  have HL' := Lib.hid hl'
  have HC := Lib.hid (And.intro hP1 (And.intro (getD_small hps) (getD_small hps')))
  have HS := Lib.hid hs
  obtain ⟨m, hm⟩ : ∃ m, m = max len lenb := ⟨_, rfl⟩
  have hmi : max (len : Int) (lenb : Int) = (m : Int) := by rw [hm]; omega
  have hm1 : (m : Int) ≤ 10000 := by omega
  have HM := Lib.hid hm
  clear hr h h' hl hl' hs hm hP1 hps hps'
  go_enter Tryz.func74, Tryz.ntmps74
  go_wp2_with fail
  go_loopw [7, 16] (fun v iv wr => ∃ i : Nat, (i : Int) ≤ m ∧ iv = .int .i64 (i : Int) ∧ Hid (GE w wr s [rowI s v ((allG P G H p p').take i)] [])) (fun _ iv _ => m - (intOf iv).toNat)
  case atStart => exact ⟨0, by omega, rfl, HE0.out⟩
  case round =>
    clear HE0
    obtain ⟨i, hi, rfl, HE⟩ := hrel
    have hal : (allG P G H p p').length = m := by rw [allG_length, HL.out, HL'.out, HM.out]
    have hb0 : BB w wr := by have := HE.out.bel; rw [HS.out] at this; exact this
    by_cases hlt : (i : Int) < m
    · have hil : i < (allG P G H p p').length := by rw [hal]; omega
      have HTS : Hid ((allG P G H p p').take (i + 1) = (allG P G H p p').take i ++ [multi P [G, H] [p.getD i 0, p'.getD i 0]]) := by
        show _ = _
        have := allG_get P G H p p' i (by rw [allG_length] at hil; exact hil)
        rw [List.getD_eq_getElem?_getD, List.getElem?_eq_getElem hil] at this
        rw [List.take_succ_eq_append_getElem hil, ← this]; rfl
      have HTL : Hid (((allG P G H p p').take i).length = i) := by show _ = _; rw [List.length_take, hal]; omega
      clear hil hal
      go_wp2_with fail
      refine (pat_any a len cap i p wr (HP.out.below hb0) HL.out hc (by omega)).mono ?_
      rintro e w2 ⟨xa, xl, xc, rfl, hx, hb2⟩
      have HX2 := Lib.hid hx
      have HE2 := Lib.hid (HE.out.below hb2)
      have hbb2 : BB w w2 := BB.step hb0 hb2
      clear hx hb2
      go_wp2_with fail
      refine (pat_any b lenb capb i p' w2 (HP'.out.below hbb2) HL'.out hc' (by omega)).mono ?_
      rintro e w3 ⟨ya, yl, yc, rfl, hy, hb3⟩
      have HY3 := Lib.hid hy
      have HX3 := Lib.hid (HX2.out.below hb3)
      have HE3 := Lib.hid (HE2.out.below hb3)
      have hbb3 : BB w w3 := BB.step hbb2 hb3
      clear hy hb3
      go_wp2_with fail
      refine (pof_any g P Q G H sz xa xl xc _ ya yl yc _ w3 (HR.out.below hbb3) HC.out.1 HX3.out HY3.out (HC.out.2.1 i) (HC.out.2.2 i)).mono ?_
      rintro e w4 ⟨za, zl, zc, rfl, hz, hb4⟩
      have HE4 := Lib.hid (HE3.out.below hb4)
      have hbx := (Below.refl _ w4).alloc (Nat.le_refl _) (Obj.cells #[Value.slice za zl zc] 36)
      have HE5 := Lib.hid (HE4.out.below hbx)
      have HZ5 := Lib.hid (hz.below hbx)
      have cR := (Blk.new w4 [Value.slice za zl zc] 36).cell 0
      simp only [List.getElem?_cons_zero] at cR
      obtain ⟨va, vc, rfl, hv1, hv2, _, _⟩ := (HE5.out.row 0 rfl).form
      rw [HTL.out] at hv1 HE5
      rw [HTL.out]
      clear hz hb4 HE HE2 HE3 HE4 hbx hbb2 hbb3 hb0 HX2 HX3 HY3
      go_wp2_with (first | (refine wpList_append_nat _ rfl (.tmp 19) (.tmp 28) rfl s _ ((allG P G H p p').take i) rfl (HE5.out.row 0 rfl) ⟨w4.heap.size, 0, none⟩ 1 (multi P [G, H] [p.getD i 0, p'.getD i 0]) za zl zc rfl cR HZ5.out (by rw [HTL.out]; omega) HE5.out.base ?_; intro v' w6 hown hgr hf; have HE6 := Lib.hid (HE5.out.append 0 rfl hgr hf hown); clear hown hgr hf))
      go_roundw
      case rel => exact ⟨i + 1, by omega, by go_num, HTS.out.symm ▸ HE6.out⟩
      case measure => simp [intOf]; omega
    · have hi' : i = m := by omega
      subst hi'
      rw [List.take_of_length_le (by rw [hal]; exact Nat.le_refl _)] at HE
      go_wp2_with fail
      go_ret
      exact ⟨_, rfl, HS.out ▸ HE.out.row 0 rfl, HS.out ▸ HE.out.bel⟩
end Go.Proofs.YthefednendgclaaGreat
/-
  Pledges: bare ones; what they are at a place; whether a value opens or fits them.
-/
namespace Go.Proofs.YthefednendgclaaGreat
open Go Go.RowKit Sac

set_option maxRecDepth 100000 in
set_option maxHeartbeats 4000000 in
theorem patx_any (g P Q G H sz : Nat) (a : Option Addr) (len cap : Nat) (p : List Nat) (xa : Option Addr) (xl xc x : Nat) (w : World) (hr : GroupAt w g P Q G H sz) (h : NatsAt w a p) (hl : p.length = len) (hc : (len : Int) ≤ 10000) (hx : NatS w xa xl x) :
    Calls Tryz.prog 109 #[.pointer (some ⟨g, 0, none⟩), .slice a len cap, .agg #[.slice xa xl xc]] w (RetS (evalx P p (x % Q)) w) := by
  obtain ⟨s, hs⟩ : ∃ s, s = w.heap.size := ⟨_, rfl⟩
  have hbA := (Below.refl _ w).alloc (Nat.le_refl _) (Obj.cells #[Value.slice xa xl xc] 36)
  have hbB : BB (w.alloc (Obj.cells #[Value.slice xa xl xc] 36)) ((w.alloc (Obj.cells #[Value.slice xa xl xc] 36)).alloc (Obj.cells #[Value.slice none 0 0] 36)) := BB.alloc (BB.refl _)
  have E1 := (NE.init w s hs).alloc s hs hx (c := xc)
  have HE2 := Lib.hid (E1.alloc (s + 1) (by rw [hs]; simp) (natS_nil _) (c := 0))
  have hbAB : BB w ((w.alloc (Obj.cells #[Value.slice xa xl xc] 36)).alloc (Obj.cells #[Value.slice none 0 0] 36)) := BB.step hbA hbB
  have HX := Lib.hid (hx.below hbAB)
  have HR := Lib.hid (hr.below hbAB)
  have HP := Lib.hid (h.below hbAB)
  have HL := Lib.hid hl
  have HS := Lib.hid hs
  clear hr h hl hx E1 hbA hbB hbAB
  go_enter Tryz.func109, Tryz.ntmps109
  go_wp2_with fail
  rw [← hs]
  clear hs
  generalize (w.alloc (Obj.cells #[Value.slice xa xl xc] 36)).alloc (Obj.cells #[Value.slice none 0 0] 36) = w1 at HE2 HX HR HP ⊢
  refine (evalexp_any g P Q G H sz a len cap p xa xl xc x w1 HR.out HP.out HL.out hc HX.out).mono ?_
  rintro e w3 ⟨za, zl, zc, rfl, hz, hb3⟩
  have HE4 := Lib.hid (HE2.out.below hb3)
  have HZ := Lib.hid hz
  obtain ⟨_, _, _, c1, f1, _⟩ := HE4.out.box 1 rfl
  clear hz hb3
  go_wp2_with fail
  exact (HE4.out.set 1 rfl HZ.out (c := zc)).ret HS.out (i := 1) rfl rfl rfl
end Go.Proofs.YthefednendgclaaGreat
/-
  Pledges: Join of two rows.
-/
namespace Go.Proofs.YthefednendgclaaGreat
open Go Go.RowKit Sac

/-- What there is, joined with the first k of a row. -/
def jF (P : Nat) (out c : List Nat) : Nat → List Nat
  | 0 => out
  | k + 1 => if k = (jF P out c k).length then jF P out c k ++ [1 * c.getD k 0 % P] else (jF P out c k).set k ((jF P out c k).getD k 0 * c.getD k 0 % P)
theorem jF_length (P : Nat) (out c : List Nat) : ∀ k, (jF P out c k).length = max out.length k
  | 0 => by simp [jF]
  | k + 1 => by
    have ih := jF_length P out c k
    unfold jF
    split
    · rename_i h
      rw [List.length_append, List.length_singleton]; omega
    · rename_i h
      rw [List.length_set]; omega
/-- Two rows, joined. -/
def join2 (P : Nat) (c d : List Nat) : List Nat := jF P (jF P [] c c.length) d d.length
def joinAt (P : Nat) (c d : List Nat) : Nat → List Nat
  | 0 => []
  | 1 => jF P [] c c.length
  | _ => join2 P c d

set_option maxRecDepth 100000 in
set_option maxHeartbeats 8000000 in
theorem pjoin_any (g P Q G H sz : Nat) (l : Nat) (a1 : Option Addr) (n1 c1 : Nat) (c : List Nat) (a2 : Option Addr) (n2 c2 : Nat) (d : List Nat) (w : World) (hr : GroupAt w g P Q G H sz)
    (hl : Blk w l 32 [.slice a1 n1 c1, .slice a2 n2 c2]) (h1 : NatsAt w a1 c) (hl1 : c.length = n1) (hc1 : (n1 : Int) ≤ 10000) (h2 : NatsAt w a2 d) (hl2 : d.length = n2) (hc2 : (n2 : Int) ≤ 10000) :
    Calls Tryz.prog 32 #[.pointer (some ⟨g, 0, none⟩), .slice (some ⟨l, 0, none⟩) 2 2] w (RetRow (join2 P c d) w) := by
  obtain ⟨s, hs⟩ : ∃ s, s = w.heap.size := ⟨_, rfl⟩
  have HE0 := Lib.hid ((GE.init w s hs).pushNil)
  have HG := Lib.hid hr
  have HB := Lib.hid hl
  have HS := Lib.hid hs
  have H1 := Lib.hid (And.intro h1 hl1)
  have H2 := Lib.hid (And.intro h2 hl2)
  clear hr hl h1 h2 hl1 hl2 hs
  go_enter Tryz.func32, Tryz.ntmps32
  go_wp2_with fail
  go_loopw [5, 14] (fun v iv wr => ∃ t : Nat, (t : Int) ≤ 2 ∧ iv = .int .i64 (t : Int) ∧ Hid (GE w wr s [rowI s v (joinAt P c d t)] [])) (fun _ iv _ => 2 - (intOf iv).toNat)
  case atStart => exact ⟨0, by omega, rfl, HE0.out⟩
  case round =>
    clear HE0
    obtain ⟨t, ht, rfl, HE⟩ := hrel
    have hb0 : BB w wr := by have := HE.out.bel; rw [HS.out] at this; exact this
    by_cases hlt : (t : Int) < 2
    · -- the row at hand
      obtain ⟨ra, rn, rc, r, hcell, hrow, hrl, hrc, hnext, hout⟩ : ∃ (ra : Option Addr) (rn rc : Nat) (r : List Nat), wr.cell? ⟨l, t, none⟩ = some (.slice ra rn rc) ∧ NatsAt w ra r ∧ r.length = rn ∧ (rn : Int) ≤ 10000 ∧ jF P (joinAt P c d t) r rn = joinAt P c d (t + 1) ∧ ((joinAt P c d t).length : Int) ≤ 10000 := by
        have hB := HB.out.below hb0 HB.out.lt
        have h2 : t = 0 ∨ t = 1 := by omega
        rcases h2 with rfl | rfl
        · exact ⟨a1, n1, c1, c, hB.cell 0, H1.out.1, H1.out.2, hc1, by rw [← H1.out.2]; rfl, by show ((([] : List Nat).length : Nat) : Int) ≤ 10000; decide⟩
        · exact ⟨a2, n2, c2, d, hB.cell 1, H2.out.1, H2.out.2, hc2, by rw [← H2.out.2]; rfl, by show (((jF P [] c c.length).length : Nat) : Int) ≤ 10000; rw [jF_length, H1.out.2]; simp; omega⟩
      obtain ⟨o, ho⟩ : ∃ o, joinAt P c d t = o := ⟨_, rfl⟩
      rw [ho] at HE hnext hout
      have HN := Lib.hid hnext
      have HO := Lib.hid hout
      have HRow := Lib.hid hrow
      have HRL := Lib.hid hrl
      have ht0 : (0 : Int) ≤ (t : Int) := by omega
      clear hnext hrow hrl ho hout
      go_wp2_with fail
      clear hcell
      go_loopw [5, 20] (fun v iv wr' => ∃ k : Nat, (k : Int) ≤ rn ∧ iv = .int .i64 (k : Int) ∧ Hid (GE w wr' s [rowI s v (jF P o r k)] [])) (fun _ iv _ => rn - (intOf iv).toNat)
      case atStart => exact ⟨0, by omega, rfl, HE.out⟩
      case round =>
        clear HE
        obtain ⟨k, hk, rfl, HE⟩ := hrel
        have hb1 : BB w wr := by have := HE.out.bel; rw [HS.out] at this; exact this
        by_cases hltk : (k : Int) < rn
        · have hkl : k < r.length := by rw [HRL.out]; omega
          obtain ⟨y, hy⟩ : ∃ y, r.getD k 0 = y := ⟨_, rfl⟩
          obtain ⟨ad, xa, xl, xc, hadr, _, cx, Nx⟩ := (HRow.out.below hb1).get hkl
          subst hadr
          rw [hy] at Nx
          have HY := Lib.hid hy
          obtain ⟨Z, hZ⟩ : ∃ Z, Z = wr.heap.size := ⟨_, rfl⟩
          have HE2 := Lib.hid (HE.out.alloc Z hZ Nx (c := xc))
          obtain ⟨L, hL⟩ : ∃ L, (jF P o r k).length = L := ⟨_, rfl⟩
          have hkL : k ≤ L := by rw [← hL, jF_length]; omega
          have hLm : (L : Int) ≤ 20000 := by have h3 := HO.out; rw [← hL, jF_length]; omega
          have HLL := Lib.hid hL
          obtain ⟨va, vc, hve, hv1, hv2, _, _⟩ := (HE.out.row 0 rfl).form
          subst hve
          rw [hL] at hv1 HE2 ⊢
          clear Nx hy hkl HE hb1 hL
          by_cases hkl : k = L
          · subst hkl
            have HREL : Hid (jF P o r (k + 1) = (jF P o r k ++ [1]).set k ((jF P o r k ++ [1]).getD k 0 * y % P)) := by
              show _ = _
              have e1 : (jF P o r k ++ [1]).getD k 0 = 1 := by
                rw [List.getD_eq_getElem?_getD, List.getElem?_append_right (by rw [HLL.out]; exact Nat.le_refl _), HLL.out, Nat.sub_self]; rfl
              rw [e1]
              conv => lhs; unfold jF
              rw [if_pos HLL.out.symm, List.set_append_right _ _ (by rw [HLL.out]; exact Nat.le_refl _), HLL.out, Nat.sub_self, HY.out]; rfl
            go_wp2_with fail
            rw [← hZ]
            clear hZ cx
            generalize wr.alloc (Obj.cells #[Value.slice xa xl xc] 36) = wa at HE2 ⊢
            refine (new_s 1 wa (by decide)).mono ?_
            rintro e w3 ⟨ba, bl, bc, rfl, hn, hb3⟩
            have HE3 := Lib.hid (HE2.out.below hb3)
            have hbx := (Below.refl _ w3).alloc (Nat.le_refl _) (Obj.cells #[Value.slice ba bl bc] 36)
            have HE4 := Lib.hid (HE3.out.below hbx)
            have HB4 := Lib.hid (hn.below hbx)
            have cR := (Blk.new w3 [Value.slice ba bl bc] 36).cell 0
            simp only [List.getElem?_cons_zero] at cR
            clear hn hb3 hbx HE2 HE3
            go_wp2_with (first | (refine wpList_append_nat _ rfl (.tmp 29) (.tmp 31) rfl s _ (jF P o r k) rfl (HE4.out.row 0 rfl) ⟨w3.heap.size, 0, none⟩ 1 1 ba bl bc rfl cR HB4.out (by rw [HLL.out]; omega) HE4.out.base ?_; intro v' wb hown hgr hf; have HEr := Lib.hid (HE4.out.append 0 rfl hgr hf hown); clear hown hgr hf))
            have HN2 : Hid ((jF P o r k ++ [1]).length = k + 1) := by show _ = _; rw [List.length_append, List.length_singleton, HLL.out]
            clear HE4 HB4 cR
            have k1 : (k : Int) < (k : Int) + 1 := by omega
            obtain ⟨va', vc', hve, hw1, hw2, _, hgo⟩ := (HEr.out.row 0 rfl).form
            subst hve
            obtain ⟨q, hqe, _⟩ := hgo (fun e => by have h := HN2.out; rw [e] at h; change 0 = _ at h; omega)
            subst hqe
            obtain ⟨oa, ol, oc, cO, fO, NO⟩ := (HEr.out.row 0 rfl).get (j := k) (by have h9 := HN2.out; omega)
            obtain ⟨za, zl, zc, gZ, NZ⟩ := HEr.out.get 1 rfl
            rw [HN2.out] at HEr
            rw [HN2.out]
            have gO : ∀ w', BB wb w' → w'.cell? ⟨q, k, none⟩ = some (.slice oa ol oc) := fun w' h => (h.cell (World.block_lt_of_cell? _ _ cO)).trans cO
            have gF : ∀ w', BB wb w' → w'.frozen? ⟨q, k, none⟩ = false := fun w' h => (BB.frozens h _ (World.block_lt_of_cell? _ _ cO)).trans fO
            have HNO := Lib.hid NO
            have HNZ := Lib.hid NZ
            have hbw : BB w wb := by have := HEr.out.bel; rw [HS.out] at this; exact this
            have HGr := Lib.hid (HG.out.below hbw)
            have cO0 := gO wb.drew (BB.drew (BB.refl _))
            have cZ0 := gZ wb.drew (BB.drew (BB.refl _))
            have k0 : (0 : Int) ≤ (k : Int) := by omega
            clear NO NZ hw1 hw2 hgo cO fO hbw
            go_wp2_with fail
            go_region_law (first | (go_simp; go_at_call 52; refine (gmul_any g P Q G H sz oa za ol oc zl zc _ _ wb.drew HGr.out.drew HNO.out.drew HNZ.out.drew).mono ?_; rintro e w5 ⟨ta, tl, tc, rfl, ht5, hb5⟩; have hbb5 : BB wb w5 := BB.step (BB.drew (BB.refl wb)) hb5; have HT5 := Lib.hid ht5; have HE5 := Lib.hid (HEr.out.below hbb5); have cO5 := gO _ hbb5; have fO5 := gF _ hbb5; clear ht5 hb5))
            all_goals (
              have HE6 := Lib.hid (HE5.out.setRow 0 rfl (j := k) (by have h9 := HN2.out; omega) HT5.out (c := tc))
              go_wp2_with fail
              go_roundw
              case rel => exact ⟨k + 1, by omega, by go_num, by have h7 := HE6.out.take 1; rw [← HREL.out] at h7; exact h7⟩
              case measure => simp [intOf]; omega)
          · have HREL : Hid (jF P o r (k + 1) = (jF P o r k).set k ((jF P o r k).getD k 0 * y % P)) := by
              show _ = _
              conv => lhs; unfold jF
              rw [if_neg (by rw [HLL.out]; exact hkl), HY.out]
            have hkn : ((k : Int) == (L : Int)) = false := by rw [beq_eq_false_iff_ne]; omega
            have k1 : (k : Int) < (L : Int) := by omega
            go_wp2_with fail
            rw [← hZ]
            clear hZ cx
            generalize wr.alloc (Obj.cells #[Value.slice xa xl xc] 36) = wb at HE2 ⊢
            have HEr := HE2
            have HN2 := HLL
            clear HE2
            obtain ⟨va', vc', hve, hw1, hw2, _, hgo⟩ := (HEr.out.row 0 rfl).form
            injection hve with hve1 hve2 hve3
            subst hve1 hve3
            clear hve2
            obtain ⟨q, hqe, _⟩ := hgo (fun e => by have h := HN2.out; rw [e] at h; change 0 = _ at h; omega)
            subst hqe
            obtain ⟨oa, ol, oc, cO, fO, NO⟩ := (HEr.out.row 0 rfl).get (j := k) (by have h9 := HN2.out; omega)
            obtain ⟨za, zl, zc, gZ, NZ⟩ := HEr.out.get 1 rfl
            have gO : ∀ w', BB wb w' → w'.cell? ⟨q, k, none⟩ = some (.slice oa ol oc) := fun w' h => (h.cell (World.block_lt_of_cell? _ _ cO)).trans cO
            have gF : ∀ w', BB wb w' → w'.frozen? ⟨q, k, none⟩ = false := fun w' h => (BB.frozens h _ (World.block_lt_of_cell? _ _ cO)).trans fO
            have HNO := Lib.hid NO
            have HNZ := Lib.hid NZ
            have hbw : BB w wb := by have := HEr.out.bel; rw [HS.out] at this; exact this
            have HGr := Lib.hid (HG.out.below hbw)
            have cO0 := gO wb.drew (BB.drew (BB.refl _))
            have cZ0 := gZ wb.drew (BB.drew (BB.refl _))
            have k0 : (0 : Int) ≤ (k : Int) := by omega
            clear NO NZ hw1 hw2 hgo cO fO hbw
            go_wp2_with fail
            go_region_law (first | (go_simp; go_at_call 52; refine (gmul_any g P Q G H sz oa za ol oc zl zc _ _ wb.drew HGr.out.drew HNO.out.drew HNZ.out.drew).mono ?_; rintro e w5 ⟨ta, tl, tc, rfl, ht5, hb5⟩; have hbb5 : BB wb w5 := BB.step (BB.drew (BB.refl wb)) hb5; have HT5 := Lib.hid ht5; have HE5 := Lib.hid (HEr.out.below hbb5); have cO5 := gO _ hbb5; have fO5 := gF _ hbb5; clear ht5 hb5))
            all_goals (
              have HE6 := Lib.hid (HE5.out.setRow 0 rfl (j := k) (by have h9 := HN2.out; omega) HT5.out (c := tc))
              go_wp2_with fail
              go_roundw
              case rel => exact ⟨k + 1, by omega, by go_num, by have h7 := HE6.out.take 1; rw [← HREL.out] at h7; exact h7⟩
              case measure => simp [intOf]; omega)
        · have hk' : k = rn := by omega
          subst hk'
          rw [HN.out] at HE
          go_wp2_with fail
          go_roundw
          case rel => exact ⟨t + 1, by omega, by go_num, HE.out⟩
          case measure => simp [intOf]; omega
    · have ht' : t = 2 := by omega
      subst ht'
      go_wp2_with fail
      go_ret
      exact ⟨_, rfl, HS.out ▸ HE.out.row 0 rfl, HS.out ▸ HE.out.bel⟩
end Go.Proofs.YthefednendgclaaGreat
/-
  Pledges that are joined are those of the sums. (Plain.)
-/
namespace Go.Proofs.YthefednendgclaaGreat
open Go Go.RowKit Sac NT

theorem jF_get (P : Nat) (out c : List Nat) : ∀ k i, (jF P out c k).getD i 0 = if i < k then (if i < out.length then out.getD i 0 * c.getD i 0 % P else 1 * c.getD i 0 % P) else out.getD i 0
  | 0, i => by simp [jF]
  | k + 1, i => by
    have ih := jF_get P out c k
    have hl := jF_length P out c k
    unfold jF
    by_cases h : k = (jF P out c k).length
    · rw [if_pos h]
      by_cases hi : i < k
      · rw [List.getD_eq_getElem?_getD, List.getElem?_append_left (by omega), ← List.getD_eq_getElem?_getD, ih, if_pos hi, if_pos (by omega : i < k + 1)]
      · by_cases he : i = k
        · subst he
          rw [List.getD_eq_getElem?_getD, List.getElem?_append_right (by omega), ← h, Nat.sub_self, if_pos (by omega), if_neg (by omega)]; rfl
        · rw [List.getD_eq_getElem?_getD, List.getElem?_append_right (by omega), List.getElem?_eq_none (by simp; omega), if_neg (by omega), List.getD_eq_getElem?_getD, List.getElem?_eq_none (by omega)]
    · rw [if_neg h]
      by_cases he : i = k
      · subst he
        rw [List.getD_eq_getElem?_getD, List.getElem?_set_self (by omega), if_pos (by omega), if_pos (by omega), ih, if_neg (by omega)]; rfl
      · rw [List.getD_eq_getElem?_getD, List.getElem?_set_ne (by omega), ← List.getD_eq_getElem?_getD, ih]
        by_cases hi : i < k
        · rw [if_pos hi, if_pos (by omega : i < k + 1)]
        · rw [if_neg hi, if_neg (by omega : ¬ i < k + 1)]
theorem join2_length (P : Nat) (c d : List Nat) : (join2 P c d).length = max c.length d.length := by
  unfold join2; rw [jF_length, jF_length]; simp
theorem pdg_lt (k s r : Nat) : pdg k s r < gP k := Nat.mod_lt _ (by have := gP_one k; omega)
theorem pdg_zero (k : Nat) : pdg k 0 0 = 1 := by unfold pdg; rw [Nat.pow_zero, Nat.pow_zero, Nat.mul_one, Nat.mod_eq_of_lt (gP_one k)]
theorem getD_out {l : List Nat} {i : Nat} (h : l.length ≤ i) : l.getD i 0 = 0 := by rw [List.getD_eq_getElem?_getD, List.getElem?_eq_none h]; rfl
/-- What is joined is what the sums make. -/
theorem join_sums (k : Nat) (a b c d : List Nat) : join2 (gP k) (allP k a b) (allP k c d) = allP k (addl (gQ k) a c) (addl (gQ k) b d) := by
  have hlen : (join2 (gP k) (allP k a b) (allP k c d)).length = (allP k (addl (gQ k) a c) (addl (gQ k) b d)).length := by
    rw [join2_length, allP_length, allP_length, allP_length, addl_length, addl_length]; omega
  refine List.ext_getElem hlen fun i h1 h2 => ?_
  have e : ∀ (l : List Nat) (h : i < l.length), l[i] = l.getD i 0 := fun l h => by rw [List.getD_eq_getElem?_getD, List.getElem?_eq_getElem h]; rfl
  rw [e _ h1, e _ h2]
  rw [allP_length, addl_length, addl_length] at h2
  have ea : ∀ (x y : List Nat), (addl (gQ k) x y).getD i 0 = (x.getD i 0 + y.getD i 0) % gQ k := fun x y => by
    by_cases h : i < max x.length y.length
    · exact addl_get _ _ _ _ h
    · rw [getD_out (by rw [addl_length]; omega), getD_out (l := x) (by omega), getD_out (l := y) (by omega), Nat.zero_mod]
  have ep : ∀ (x y : List Nat), i < (allP k x y).length → (allP k x y).getD i 0 = pdg k (x.getD i 0) (y.getD i 0) := fun x y h => allP_get k x y i (by rw [← allP_length k x y]; exact h)
  have en : ∀ (x y : List Nat), ¬ i < (allP k x y).length → pdg k (x.getD i 0) (y.getD i 0) = 1 := fun x y h => by
    rw [allP_length] at h
    rw [getD_out (l := x) (by omega), getD_out (l := y) (by omega), pdg_zero]
  rw [allP_get k _ _ i (by rw [addl_length, addl_length]; omega), ea, ea, ← pdg_mod, ← pdg_mul]
  unfold join2
  rw [jF_get, jF_get, jF_length]
  by_cases hx : i < (allP k a b).length <;> by_cases hy : i < (allP k c d).length
  · rw [if_pos hy, if_pos (by simp; omega), if_pos hx, if_neg (by simp), ep _ _ hx, ep _ _ hy, Nat.one_mul, Nat.mod_eq_of_lt (pdg_lt _ _ _)]
  · rw [if_neg hy, if_pos hx, if_neg (by simp), ep _ _ hx, en _ _ hy, Nat.one_mul, Nat.mul_one]
  · rw [if_pos hy, if_neg (by simp; omega), en _ _ hx, ep _ _ hy]
  · rw [allP_length] at hx hy; omega
end Go.Proofs.YthefednendgclaaGreat
