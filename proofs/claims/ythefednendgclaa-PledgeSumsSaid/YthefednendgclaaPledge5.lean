/-
  Pledges: Join of two rows.
-/
import Derived.Test.YthefednendgclaaPledge1
import Derived.Test.YthefednendgclaaBoxRow
import Derived.Deep.RegionLaw
set_option linter.unusedVariables false
set_option linter.unusedSimpArgs false
namespace Go.Proofs.Ythefednendgclaa
open Go Go.RowKit Sac

/-- What there is, joined with the first k of a row. -/
def jF (P : Nat) (out c : List Nat) : Nat → List Nat
  | 0 => out
  | k + 1 => if k = (jF P out c k).length then jF P out c k ++ [1 * c.getD k 0 % P] else (jF P out c k).set k ((jF P out c k).getD k 0 * c.getD k 0 % P)
theorem jF_length (P : Nat) (out c : List Nat) : ∀ k, (jF P out c k).length = max out.length k
  | 0 => by simp [jF]
  | k + 1 => by
    have ih := jF_length P out c k
    unfold jF
    split
    · rename_i h
      rw [List.length_append, List.length_singleton]; omega
    · rename_i h
      rw [List.length_set]; omega
/-- Two rows, joined. -/
def join2 (P : Nat) (c d : List Nat) : List Nat := jF P (jF P [] c c.length) d d.length
def joinAt (P : Nat) (c d : List Nat) : Nat → List Nat
  | 0 => []
  | 1 => jF P [] c c.length
  | _ => join2 P c d

set_option maxRecDepth 100000 in
set_option maxHeartbeats 8000000 in
theorem pjoin_any (g P Q G H sz : Nat) (l : Nat) (a1 : Option Addr) (n1 c1 : Nat) (c : List Nat) (a2 : Option Addr) (n2 c2 : Nat) (d : List Nat) (w : World) (hr : GroupAt w g P Q G H sz)
    (hl : Blk w l 29 [.slice a1 n1 c1, .slice a2 n2 c2]) (h1 : NatsAt w a1 c) (hl1 : c.length = n1) (hc1 : (n1 : Int) ≤ 10000) (h2 : NatsAt w a2 d) (hl2 : d.length = n2) (hc2 : (n2 : Int) ≤ 10000) :
    Calls Try.prog 41 #[.pointer (some ⟨g, 0, none⟩), .slice (some ⟨l, 0, none⟩) 2 2] w (RetRow (join2 P c d) w) := by
  obtain ⟨s, hs⟩ : ∃ s, s = w.heap.size := ⟨_, rfl⟩
  have HE0 := Lib.hid ((GE.init w s hs).pushNil)
  have HG := Lib.hid hr
  have HB := Lib.hid hl
  have HS := Lib.hid hs
  have H1 := Lib.hid (And.intro h1 hl1)
  have H2 := Lib.hid (And.intro h2 hl2)
  clear hr hl h1 h2 hl1 hl2 hs
  go_enter Try.func41, Try.ntmps41
  go_wp2_with fail
  go_loopw [5, 14] (fun v iv wr => ∃ t : Nat, (t : Int) ≤ 2 ∧ iv = .int .i64 (t : Int) ∧ Hid (GE w wr s [rowI s v (joinAt P c d t)] [])) (fun _ iv _ => 2 - (intOf iv).toNat)
  case atStart => exact ⟨0, by omega, rfl, HE0.out⟩
  case round =>
    clear HE0
    obtain ⟨t, ht, rfl, HE⟩ := hrel
    have hb0 : BB w wr := by have := HE.out.bel; rw [HS.out] at this; exact this
    by_cases hlt : (t : Int) < 2
    · -- the row at hand
      obtain ⟨ra, rn, rc, r, hcell, hrow, hrl, hrc, hnext, hout⟩ : ∃ (ra : Option Addr) (rn rc : Nat) (r : List Nat), wr.cell? ⟨l, t, none⟩ = some (.slice ra rn rc) ∧ NatsAt w ra r ∧ r.length = rn ∧ (rn : Int) ≤ 10000 ∧ jF P (joinAt P c d t) r rn = joinAt P c d (t + 1) ∧ ((joinAt P c d t).length : Int) ≤ 10000 := by
        have hB := HB.out.below hb0 HB.out.lt
        have h2 : t = 0 ∨ t = 1 := by omega
        rcases h2 with rfl | rfl
        · exact ⟨a1, n1, c1, c, hB.cell 0, H1.out.1, H1.out.2, hc1, by rw [← H1.out.2]; rfl, by show ((([] : List Nat).length : Nat) : Int) ≤ 10000; decide⟩
        · exact ⟨a2, n2, c2, d, hB.cell 1, H2.out.1, H2.out.2, hc2, by rw [← H2.out.2]; rfl, by show (((jF P [] c c.length).length : Nat) : Int) ≤ 10000; rw [jF_length, H1.out.2]; simp; omega⟩
      obtain ⟨o, ho⟩ : ∃ o, joinAt P c d t = o := ⟨_, rfl⟩
      rw [ho] at HE hnext hout
      have HN := Lib.hid hnext
      have HO := Lib.hid hout
      have HRow := Lib.hid hrow
      have HRL := Lib.hid hrl
      have ht0 : (0 : Int) ≤ (t : Int) := by omega
      clear hnext hrow hrl ho hout
      go_wp2_with fail
      clear hcell
      go_loopw [5, 20] (fun v iv wr' => ∃ k : Nat, (k : Int) ≤ rn ∧ iv = .int .i64 (k : Int) ∧ Hid (GE w wr' s [rowI s v (jF P o r k)] [])) (fun _ iv _ => rn - (intOf iv).toNat)
      case atStart => exact ⟨0, by omega, rfl, HE.out⟩
      case round =>
        clear HE
        obtain ⟨k, hk, rfl, HE⟩ := hrel
        have hb1 : BB w wr := by have := HE.out.bel; rw [HS.out] at this; exact this
        by_cases hltk : (k : Int) < rn
        · have hkl : k < r.length := by rw [HRL.out]; omega
          obtain ⟨y, hy⟩ : ∃ y, r.getD k 0 = y := ⟨_, rfl⟩
          obtain ⟨ad, xa, xl, xc, hadr, _, cx, Nx⟩ := (HRow.out.below hb1).get hkl
          subst hadr
          rw [hy] at Nx
          have HY := Lib.hid hy
          obtain ⟨Z, hZ⟩ : ∃ Z, Z = wr.heap.size := ⟨_, rfl⟩
          have HE2 := Lib.hid (HE.out.alloc Z hZ Nx (c := xc))
          obtain ⟨L, hL⟩ : ∃ L, (jF P o r k).length = L := ⟨_, rfl⟩
          have hkL : k ≤ L := by rw [← hL, jF_length]; omega
          have hLm : (L : Int) ≤ 20000 := by have h3 := HO.out; rw [← hL, jF_length]; omega
          have HLL := Lib.hid hL
          obtain ⟨va, vc, hve, hv1, hv2, _, _⟩ := (HE.out.row 0 rfl).form
          subst hve
          rw [hL] at hv1 HE2 ⊢
          clear Nx hy hkl HE hb1 hL
          by_cases hkl : k = L
          · subst hkl
            have HREL : Hid (jF P o r (k + 1) = (jF P o r k ++ [1]).set k ((jF P o r k ++ [1]).getD k 0 * y % P)) := by
              show _ = _
              have e1 : (jF P o r k ++ [1]).getD k 0 = 1 := by
                rw [List.getD_eq_getElem?_getD, List.getElem?_append_right (by rw [HLL.out]; exact Nat.le_refl _), HLL.out, Nat.sub_self]; rfl
              rw [e1]
              conv => lhs; unfold jF
              rw [if_pos HLL.out.symm, List.set_append_right _ _ (by rw [HLL.out]; exact Nat.le_refl _), HLL.out, Nat.sub_self, HY.out]; rfl
            go_wp2_with fail
            rw [← hZ]
            clear hZ cx
            generalize wr.alloc (Obj.cells #[Value.slice xa xl xc] 33) = wa at HE2 ⊢
            refine (new_s 1 wa (by decide)).mono ?_
            rintro e w3 ⟨ba, bl, bc, rfl, hn, hb3⟩
            have HE3 := Lib.hid (HE2.out.below hb3)
            have hbx := (Below.refl _ w3).alloc (Nat.le_refl _) (Obj.cells #[Value.slice ba bl bc] 33)
            have HE4 := Lib.hid (HE3.out.below hbx)
            have HB4 := Lib.hid (hn.below hbx)
            have cR := (Blk.new w3 [Value.slice ba bl bc] 33).cell 0
            simp only [List.getElem?_cons_zero] at cR
            clear hn hb3 hbx HE2 HE3
            go_wp2_with (first | (refine wpList_append_nat _ rfl (.tmp 29) (.tmp 31) rfl s _ (jF P o r k) rfl (HE4.out.row 0 rfl) ⟨w3.heap.size, 0, none⟩ 1 1 ba bl bc rfl cR HB4.out (by rw [HLL.out]; omega) HE4.out.base ?_; intro v' wb hown hgr hf; have HEr := Lib.hid (HE4.out.append 0 rfl hgr hf hown); clear hown hgr hf))
            have HN2 : Hid ((jF P o r k ++ [1]).length = k + 1) := by show _ = _; rw [List.length_append, List.length_singleton, HLL.out]
            clear HE4 HB4 cR
            have k1 : (k : Int) < (k : Int) + 1 := by omega
            obtain ⟨va', vc', hve, hw1, hw2, _, hgo⟩ := (HEr.out.row 0 rfl).form
            subst hve
            obtain ⟨q, hqe, _⟩ := hgo (fun e => by have h := HN2.out; rw [e] at h; change 0 = _ at h; omega)
            subst hqe
            obtain ⟨oa, ol, oc, cO, fO, NO⟩ := (HEr.out.row 0 rfl).get (j := k) (by have h9 := HN2.out; omega)
            obtain ⟨za, zl, zc, gZ, NZ⟩ := HEr.out.get 1 rfl
            rw [HN2.out] at HEr
            rw [HN2.out]
            have gO : ∀ w', BB wb w' → w'.cell? ⟨q, k, none⟩ = some (.slice oa ol oc) := fun w' h => (h.cell (World.block_lt_of_cell? _ _ cO)).trans cO
            have gF : ∀ w', BB wb w' → w'.frozen? ⟨q, k, none⟩ = false := fun w' h => (BB.frozens h _ (World.block_lt_of_cell? _ _ cO)).trans fO
            have HNO := Lib.hid NO
            have HNZ := Lib.hid NZ
            have hbw : BB w wb := by have := HEr.out.bel; rw [HS.out] at this; exact this
            have HGr := Lib.hid (HG.out.below hbw)
            have cO0 := gO wb.drew (BB.drew (BB.refl _))
            have cZ0 := gZ wb.drew (BB.drew (BB.refl _))
            have k0 : (0 : Int) ≤ (k : Int) := by omega
            clear NO NZ hw1 hw2 hgo cO fO hbw
            go_wp2_with fail
            go_region_law (first | (go_simp; go_at_call 87; refine (gmul_any g P Q G H sz oa za ol oc zl zc _ _ wb.drew HGr.out.drew HNO.out.drew HNZ.out.drew).mono ?_; rintro e w5 ⟨ta, tl, tc, rfl, ht5, hb5⟩; have hbb5 : BB wb w5 := BB.step (BB.drew (BB.refl wb)) hb5; have HT5 := Lib.hid ht5; have HE5 := Lib.hid (HEr.out.below hbb5); have cO5 := gO _ hbb5; have fO5 := gF _ hbb5; clear ht5 hb5))
            all_goals (
              have HE6 := Lib.hid (HE5.out.setRow 0 rfl (j := k) (by have h9 := HN2.out; omega) HT5.out (c := tc))
              go_wp2_with fail
              go_roundw
              case rel => exact ⟨k + 1, by omega, by go_num, by have h7 := HE6.out.take 1; rw [← HREL.out] at h7; exact h7⟩
              case measure => simp [intOf]; omega)
          · have HREL : Hid (jF P o r (k + 1) = (jF P o r k).set k ((jF P o r k).getD k 0 * y % P)) := by
              show _ = _
              conv => lhs; unfold jF
              rw [if_neg (by rw [HLL.out]; exact hkl), HY.out]
            have hkn : ((k : Int) == (L : Int)) = false := by rw [beq_eq_false_iff_ne]; omega
            have k1 : (k : Int) < (L : Int) := by omega
            go_wp2_with fail
            rw [← hZ]
            clear hZ cx
            generalize wr.alloc (Obj.cells #[Value.slice xa xl xc] 33) = wb at HE2 ⊢
            have HEr := HE2
            have HN2 := HLL
            clear HE2
            obtain ⟨va', vc', hve, hw1, hw2, _, hgo⟩ := (HEr.out.row 0 rfl).form
            injection hve with hve1 hve2 hve3
            subst hve1 hve3
            clear hve2
            obtain ⟨q, hqe, _⟩ := hgo (fun e => by have h := HN2.out; rw [e] at h; change 0 = _ at h; omega)
            subst hqe
            obtain ⟨oa, ol, oc, cO, fO, NO⟩ := (HEr.out.row 0 rfl).get (j := k) (by have h9 := HN2.out; omega)
            obtain ⟨za, zl, zc, gZ, NZ⟩ := HEr.out.get 1 rfl
            have gO : ∀ w', BB wb w' → w'.cell? ⟨q, k, none⟩ = some (.slice oa ol oc) := fun w' h => (h.cell (World.block_lt_of_cell? _ _ cO)).trans cO
            have gF : ∀ w', BB wb w' → w'.frozen? ⟨q, k, none⟩ = false := fun w' h => (BB.frozens h _ (World.block_lt_of_cell? _ _ cO)).trans fO
            have HNO := Lib.hid NO
            have HNZ := Lib.hid NZ
            have hbw : BB w wb := by have := HEr.out.bel; rw [HS.out] at this; exact this
            have HGr := Lib.hid (HG.out.below hbw)
            have cO0 := gO wb.drew (BB.drew (BB.refl _))
            have cZ0 := gZ wb.drew (BB.drew (BB.refl _))
            have k0 : (0 : Int) ≤ (k : Int) := by omega
            clear NO NZ hw1 hw2 hgo cO fO hbw
            go_wp2_with fail
            go_region_law (first | (go_simp; go_at_call 87; refine (gmul_any g P Q G H sz oa za ol oc zl zc _ _ wb.drew HGr.out.drew HNO.out.drew HNZ.out.drew).mono ?_; rintro e w5 ⟨ta, tl, tc, rfl, ht5, hb5⟩; have hbb5 : BB wb w5 := BB.step (BB.drew (BB.refl wb)) hb5; have HT5 := Lib.hid ht5; have HE5 := Lib.hid (HEr.out.below hbb5); have cO5 := gO _ hbb5; have fO5 := gF _ hbb5; clear ht5 hb5))
            all_goals (
              have HE6 := Lib.hid (HE5.out.setRow 0 rfl (j := k) (by have h9 := HN2.out; omega) HT5.out (c := tc))
              go_wp2_with fail
              go_roundw
              case rel => exact ⟨k + 1, by omega, by go_num, by have h7 := HE6.out.take 1; rw [← HREL.out] at h7; exact h7⟩
              case measure => simp [intOf]; omega)
        · have hk' : k = rn := by omega
          subst hk'
          rw [HN.out] at HE
          go_wp2_with fail
          go_roundw
          case rel => exact ⟨t + 1, by omega, by go_num, HE.out⟩
          case measure => simp [intOf]; omega
    · have ht' : t = 2 := by omega
      subst ht'
      go_wp2_with fail
      go_ret
      exact ⟨_, rfl, HS.out ▸ HE.out.row 0 rfl, HS.out ▸ HE.out.bel⟩
end Go.Proofs.Ythefednendgclaa
