import Derived.Test.YthefednendgclaaGreatNGE
import Derived.Test.YthefednendgclaaGreatPledgeL
import Derived.Test.YthefednendgclaaGreatCertA
import Derived.Test.YthefednendgclaaGreatModInv
import Derived.Deep.RegionHeld3
import Derived.Deep.RegionLaw
import Derived.Deep.CutRange
set_option linter.unusedVariables false
set_option linter.unusedSimpArgs false
/-
  Places: whether they are unlike.
-/
namespace Go.Proofs.YthefednendgclaaGreat
open Go Go.RowKit Sac

/-- What places tells: 10 of none, 0 of unlike ones, else 11. -/
def PlacesPost (q : Nat) (xs : List Nat) (w : World) (e : Ending) (w' : World) : Prop := ∃ c : Int, e = .returned (.int .i64 c) ∧ ((xs.length = 0 ∧ c = 10) ∨ (0 < xs.length ∧ Dis q xs ∧ c = 0) ∨ (0 < xs.length ∧ ¬ Dis q xs ∧ c = 11)) ∧ Below w.heap.size w w'

set_option maxRecDepth 100000 in
set_option maxHeartbeats 4000000 in
theorem places_any (r q : Nat) (a : Option Addr) (len cap : Nat) (xs : List Nat) (w : World) (hr : RingAt w r q) (h : NatsAt w a xs) (hl : xs.length = len) (hcc : (len : Int) ≤ cap) (hc : (len : Int) ≤ 10000) :
    Calls Tryz.prog 127 #[.pointer (some ⟨r, 0, none⟩), .slice a len cap] w (PlacesPost q xs w) := by
  have HR := Lib.hid hr
  have HP := Lib.hid h
  have HL := Lib.hid hl
  by_cases h0 : (len : Int) = 0
  · have e0 : ((len : Int) == 0) = true := by rw [h0]; rfl
    have hx : xs.length = 0 := by omega
    have HX := Lib.hid hx
    clear hr h hl hx h0
    go_enter Tryz.func127, Tryz.ntmps127
    go_wp2_with fail
    go_ret
    exact ⟨10, rfl, .inl ⟨HX.out, rfl⟩, Below.refl _ _⟩
  have e0 : ((len : Int) == 0) = false := by rw [beq_eq_false_iff_ne]; exact h0
  have hpos : 0 < xs.length := by omega
  have HPOS := Lib.hid hpos
  obtain ⟨ad, _, _, _, rfl, _, _, _⟩ := h.get (k := 0) hpos
  obtain ⟨s, hs⟩ : ∃ s, s = w.heap.size := ⟨_, rfl⟩
  have HE0 := Lib.hid (NE.init w s hs)
  have HS := Lib.hid hs
  clear hr h hl hpos hs h0
  go_enter Tryz.func127, Tryz.ntmps127
  go_wp2_with fail
  go_loopw [18] (fun iv wr => ∃ i : Nat, (i : Int) ≤ len ∧ iv = .int .i64 (i : Int) ∧ Hid (∀ i' j, j < i' → i' < i → xs.getD i' 0 % q ≠ xs.getD j 0 % q) ∧ Hid (NE w wr s [] [])) (fun iv _ => len - (intOf iv).toNat)
  case atStart => exact ⟨0, by omega, rfl, (fun i' j h1 h2 => by omega), HE0.out⟩
  case round =>
    clear HE0
    obtain ⟨i, hi, rfl, HD, HE⟩ := hrel
    have hb0 : BB w wr := by have := HE.out.bel; rw [HS.out] at this; exact this
    by_cases hlt : (i : Int) < len
    · have hil : i < xs.length := by rw [HL.out]; omega
      obtain ⟨x, hx⟩ : ∃ x, xs.getD i 0 = x := ⟨_, rfl⟩
      obtain ⟨_, xa, xl, xc, he, _, cx, Nx⟩ := (HP.out.below hb0).get hil
      injection he with he
      subst he
      rw [hx] at Nx
      have HX := Lib.hid hx
      have hcap : (i : Int) ≤ cap := by omega
      obtain ⟨Z, hZ⟩ : ∃ Z, Z = wr.heap.size := ⟨_, rfl⟩
      have HE2 := Lib.hid (HE.out.alloc Z hZ Nx (c := xc))
      clear Nx hx hil HE hb0
      go_wp2_with fail
      rw [← hZ]
      clear hZ cx
      generalize wr.alloc (Obj.cells #[Value.slice xa xl xc] 36) = w2 at HE2 ⊢
      go_loopw [27] (fun iv wr => ∃ j : Nat, (j : Int) ≤ i ∧ iv = .int .i64 (j : Int) ∧ Hid (∀ j', j' < j → x % q ≠ xs.getD j' 0 % q) ∧ Hid (NE w wr s [(Z, x)] [])) (fun iv _ => i - (intOf iv).toNat)
      case atStart => exact ⟨0, by omega, rfl, (fun j' h => by omega), HE2.out⟩
      case round =>
        clear HE2
        obtain ⟨j, hj, rfl, HDJ, HE⟩ := hrel
        have hb0 : BB w wr := by have := HE.out.bel; rw [HS.out] at this; exact this
        by_cases hlj : (j : Int) < i
        · have hjl : j < xs.length := by rw [HL.out]; omega
          have hjlen : (j : Int) < len := by omega
          obtain ⟨y, hy⟩ : ∃ y, xs.getD j 0 = y := ⟨_, rfl⟩
          obtain ⟨_, ya, yl, yc, he, _, cy, Ny⟩ := (HP.out.below hb0).get hjl
          injection he with he
          subst he
          rw [hy] at Ny
          have HY := Lib.hid hy
          obtain ⟨Y, hY⟩ : ∃ Y, Y = wr.heap.size := ⟨_, rfl⟩
          have HE2 := Lib.hid (HE.out.alloc Y hY Ny (c := yc))
          clear Ny hy hjl HE hb0
          go_wp2_with fail
          rw [← hY]
          clear hY cy
          generalize wr.alloc (Obj.cells #[Value.slice ya yl yc] 36) = w3 at HE2 ⊢
          obtain ⟨xa, xl, xc, gX, NX⟩ := HE2.out.get 0 rfl
          obtain ⟨ya, yl, yc, gY, NY⟩ := HE2.out.get 1 rfl
          have HNX := Lib.hid NX
          have HNY := Lib.hid NY
          have hb3 : BB w w3 := by have := HE2.out.bel; rw [HS.out] at this; exact this
          have HR3 := Lib.hid (HR.out.below hb3)
          clear NX NY hb3
          go_wp2_with fail
          go_region_held3 (fun w' => BB w3 w') (first | assumption | exact BB.drew (BB.refl _))
            (first
              | (go_at_call 31; refine (cmp_s ta ua tl tc ul uc _ _ w5 (HT4.out.below hb45) HU5.out).mono ?_; rintro e w6 ⟨rfl, hb6⟩; have hbb6 : BB w3 w6 := BB.step hbb5 hb6; clear hb6)
              | (go_at_call 25; have _h := HT4; refine (of_s r q ya yl yc y w4 (HR3.out.below hbb4) (HNY.out.below hbb4)).mono ?_; rintro e w5 ⟨ua, ul, uc, rfl, hu, hb45⟩; have hbb5 : BB w3 w5 := BB.step hbb4 hb45; have HU5 := Lib.hid hu; clear hu)
              | (go_at_call 25; refine (of_s r q xa xl xc x w3.drew HR3.out.drew HNX.out.drew).mono ?_; rintro e w4 ⟨ta, tl, tc, rfl, ht, hb4⟩; have hbb4 : BB w3 w4 := BB.step (BB.drew (BB.refl w3)) hb4; have HT4 := Lib.hid ht; clear ht hb4))
          have HE6 := Lib.hid (HE2.out.below hbb6)
          by_cases hxy : x % q = y % q
          · have hcm : (cmpNat (x % q) (y % q) == 0) = true := by rw [hxy, cmp_self]; rfl
            go_wp2_with fail
            go_ret
            refine ⟨11, rfl, .inr (.inr ⟨HPOS.out, fun hd => ?_, rfl⟩), HS.out ▸ HE6.out.bel⟩
            exact hd i j (by omega) (by rw [HL.out]; omega) (by rw [HX.out, HY.out]; exact hxy)
          · have hcm : (cmpNat (x % q) (y % q) == 0) = false := cmp_ne hxy
            go_wp2_with fail
            go_roundw
            case rel => exact ⟨j + 1, by omega, by go_num, (fun j' hj' => by
              rcases Nat.lt_or_ge j' j with h5 | h5
              · exact HDJ.out j' h5
              · obtain rfl : j' = j := by omega
                rw [HY.out]; exact hxy), HE6.out.pop⟩
            case measure => simp [intOf]; omega
        · have hj' : j = i := by omega
          subst hj'
          go_wp2_with fail
          go_roundw
          case rel => exact ⟨j + 1, by omega, by go_num, (fun i' j' h1 h2 => by
            rcases Nat.lt_or_ge i' j with h5 | h5
            · exact HD.out i' j' h1 h5
            · obtain rfl : i' = j := by omega
              rw [HX.out]; exact HDJ.out j' h1), HE.out.take 0⟩
          case measure => simp [intOf]; omega
    · have hi' : i = len := by omega
      subst hi'
      go_wp2_with fail
      go_ret
      exact ⟨0, rfl, .inr (.inl ⟨HPOS.out, (fun i' j h1 h2 => HD.out i' j h1 (by rw [← HL.out]; exact h2)), rfl⟩), HS.out ▸ HE.out.bel⟩
end Go.Proofs.YthefednendgclaaGreat
/-
  Places: how much each counts.
-/
namespace Go.Proofs.YthefednendgclaaGreat
open Go Go.RowKit Sac NT

/-- What weights tells: the weights, or why there are none. -/
def WeightsPost (q : Nat) (xs : List Nat) (x : Nat) (w : World) (e : Ending) (w' : World) : Prop := ∃ (v : Value) (c : Int), e = .returned (.tuple #[v, .int .i64 c]) ∧ Below w.heap.size w w' ∧
  ((xs.length = 0 ∧ c = 10 ∧ v = .slice none 0 0) ∨ (0 < xs.length ∧ ¬ Dis q xs ∧ c = 11 ∧ v = .slice none 0 0) ∨ (0 < xs.length ∧ Dis q xs ∧ c = 0 ∧ NatsOwn w' w.heap.size v (wts q xs x)))

set_option maxRecDepth 100000 in
set_option maxHeartbeats 8000000 in
theorem weights_any (r q : Nat) (a : Option Addr) (len cap : Nat) (xs : List Nat) (xa : Option Addr) (xl xc x : Nat) (w : World) (hq : Prime q) (hr : RingAt w r q) (h : NatsAt w a xs) (hl : xs.length = len) (hcc : (len : Int) ≤ cap) (hc : (len : Int) ≤ 10000) (hx : NatS w xa xl x) :
    Calls Tryz.prog 95 #[.pointer (some ⟨r, 0, none⟩), .slice a len cap, .agg #[.slice xa xl xc]] w (WeightsPost q xs x w) := by
  obtain ⟨s, hs⟩ : ∃ s, s = w.heap.size := ⟨_, rfl⟩
  have HE1 := Lib.hid ((GE.init w s hs).alloc s hs hx (c := xc))
  have hbA := (Below.refl _ w).alloc (Nat.le_refl _) (Obj.cells #[Value.slice xa xl xc] 36)
  have HR := Lib.hid hr
  have HP := Lib.hid h
  have HL := Lib.hid hl
  have HS := Lib.hid hs
  have HQ := Lib.hid hq
  have HR1 := Lib.hid (hr.below hbA)
  have HP1 := Lib.hid (h.below hbA)
  clear hr h hl hx hbA hq
  go_enter Tryz.func95, Tryz.ntmps95
  go_wp2_with fail
  rw [← hs]
  clear hs
  generalize w.alloc (Obj.cells #[Value.slice xa xl xc] 36) = w1 at HE1 HR1 HP1 ⊢
  refine (places_any r q a len cap xs w1 HR1.out HP1.out HL.out hcc hc).mono ?_
  rintro e w2 ⟨c, rfl, hcases, hb2⟩
  have HE2 := Lib.hid (HE1.out.below hb2)
  clear hb2 HE1
  rcases hcases with ⟨h0, rfl⟩ | ⟨h0, hd, rfl⟩ | ⟨h0, hd, rfl⟩
  · have H0 := Lib.hid h0
    clear h0
    go_wp2_with fail
    go_ret2
    exact ⟨_, _, rfl, HS.out ▸ HE2.out.bel, .inl ⟨H0.out, rfl, rfl⟩⟩
  · have HD := Lib.hid hd
    have hpos : (0 : Int) < (len : Int) := by rw [← HL.out]; omega
    have H0 := Lib.hid h0
    clear hd h0
    have HE3 := Lib.hid HE2.out.pushNil
    clear HE2
    go_wp2_with fail
    go_loopw [9, 26] (fun v iv wr => ∃ i : Nat, (i : Int) ≤ len ∧ iv = .int .i64 (i : Int) ∧ Hid (GE w wr s [boxI s x, rowI s v ((wts q xs x).take i)] [])) (fun _ iv _ => len - (intOf iv).toNat)
    case atStart => exact ⟨0, by omega, rfl, HE3.out⟩
    case round =>
      clear HE3
      obtain ⟨i, hi, rfl, HE⟩ := hrel
      by_cases hlt : (i : Int) < len
      · have hil : i < xs.length := by rw [HL.out]; omega
        have hb0 : BB w wr := by have := HE.out.bel; rw [HS.out] at this; exact this
        obtain ⟨ai, hai⟩ : ∃ ai, xs.getD i 0 = ai := ⟨_, rfl⟩
        obtain ⟨ad, ba, bl, bc, hadr, _, cx, Nx⟩ := (HP.out.below hb0).get hil
        subst hadr
        rw [hai] at Nx
        have HAI := Lib.hid hai
        obtain ⟨Z, hZ⟩ : ∃ Z, Z = wr.heap.size := ⟨_, rfl⟩
        have HTL : Hid (((wts q xs x).take i).length = i) := by show _ = _; rw [List.length_take, wts_length]; omega
        have HE2 := Lib.hid (HE.out.alloc Z hZ Nx (c := bc))
        obtain ⟨va, vc, rfl, hv1, hv2, _, _⟩ := (HE.out.row 1 rfl).form
        rw [HTL.out] at hv1 HE2 ⊢
        clear Nx hai hil HE hb0
        go_wp2_with fail
        rw [← hZ]
        clear hZ cx
        generalize wr.alloc (Obj.cells #[Value.slice ba bl bc] 36) = w3 at HE2 ⊢
        refine (new_s 1 w3 (by decide)).mono ?_
        rintro e w4 ⟨oa, ol, oc, rfl, ho, hb4⟩
        have HE4 := Lib.hid (HE2.out.below hb4)
        have HO4 := Lib.hid ho
        have hb5 : BB w w4 := by have := HE4.out.bel; rw [HS.out] at this; exact this
        have HR4 := Lib.hid (HR.out.below hb5)
        clear hb4 ho HE2 hb5
        go_wp2_with fail
        refine (of_s r q oa ol oc 1 w4 HR4.out HO4.out).mono ?_
        rintro e w5 ⟨ua, ul, uc, rfl, hu, hb5⟩
        have HE5 := Lib.hid (HE4.out.below hb5)
        have HR5 := Lib.hid (HR4.out.below hb5)
        have HU5 := Lib.hid hu
        clear hb5 hu HE4 HR4 HO4
        go_wp2_with fail
        refine (new_s 1 w5 (by decide)).mono ?_
        rintro e w6 ⟨oa, ol, oc, rfl, ho, hb6⟩
        have HE6 := Lib.hid (HE5.out.below hb6)
        have HR6 := Lib.hid (HR5.out.below hb6)
        have HU6 := Lib.hid (HU5.out.below hb6)
        have HO6 := Lib.hid ho
        clear hb6 ho HE5 HR5 HU5
        go_wp2_with fail
        refine (of_s r q oa ol oc 1 w6 HR6.out HO6.out).mono ?_
        rintro e w7 ⟨da, dl, dc, rfl, hd, hb7⟩
        have HU7 := Lib.hid (HU6.out.below hb7)
        obtain ⟨D, hD⟩ : ∃ D, D = w7.heap.size := ⟨_, rfl⟩
        have hbD := (Below.refl _ w7).alloc (Nat.le_refl _) (Obj.cells #[Value.slice ua ul uc] 36)
        have HE8 := Lib.hid (((HE6.out.below hb7).alloc D hD HU7.out (c := uc)).alloc (D + 1) (by rw [hD]; simp) (hd.below hbD) (c := dc))
        clear hb7 hd hbD HE6 HR6 HU6 HU7 HO6
        go_wp2_with fail
        rw [← hD]
        clear hD
        generalize (w7.alloc (Obj.cells #[Value.slice ua ul uc] 36)).alloc (Obj.cells #[Value.slice da dl dc] 36) = w8 at HE8 ⊢
        go_loopw [39] (fun iv wr => ∃ t : Nat, (t : Int) ≤ len ∧ iv = .int .i64 (t : Int) ∧ Hid (GE w wr s [boxI s x, rowI s (.slice va i vc) ((wts q xs x).take i), boxI Z ai, boxI D (upF q x xs i t), boxI (D + 1) (upF q ai xs i t)] [])) (fun iv _ => len - (intOf iv).toNat)
        case atStart => exact ⟨0, by omega, rfl, HE8.out⟩
        case round =>
          clear HE8
          obtain ⟨t, ht, rfl, HE⟩ := hrel
          by_cases hltt : (t : Int) < len
          · have htl : t < xs.length := by rw [HL.out]; omega
            have hb0 : BB w wr := by have := HE.out.bel; rw [HS.out] at this; exact this
            obtain ⟨bb, hbb⟩ : ∃ bb, xs.getD t 0 = bb := ⟨_, rfl⟩
            obtain ⟨_, ya, yl, yc, he, _, cy, Ny⟩ := (HP.out.below hb0).get htl
            injection he with he
            subst he
            rw [hbb] at Ny
            have HBB := Lib.hid hbb
            obtain ⟨Y, hY⟩ : ∃ Y, Y = wr.heap.size := ⟨_, rfl⟩
            have HE2 := Lib.hid (HE.out.alloc Y hY Ny (c := yc))
            by_cases hti : t = i
            · subst hti
              have hne : ((t : Int) != (t : Int)) = false := by simp
              clear Ny hbb htl HE hb0
              go_wp2_with fail
              go_roundw
              case rel => exact ⟨t + 1, by omega, by go_num, by have := HE2.out.take 5; unfold upF; rw [if_pos rfl, if_pos rfl]; exact this⟩
              case measure => simp [intOf]; omega
            · have hne : ((t : Int) != (i : Int)) = true := by rw [bne_iff_ne]; omega
              have HTI := Lib.hid hti
              clear Ny hbb htl HE hb0 hti
              go_wp2_with fail
              rw [← hY]
              clear hY cy
              generalize wr.alloc (Obj.cells #[Value.slice ya yl yc] 36) = w9 at HE2 ⊢
              have hu1 : upF q x xs i (t + 1) = upF q x xs i t * subm q x bb % q := by rw [← HBB.out]; conv => lhs; unfold upF; rw [if_neg HTI.out]
              have hu2 : upF q ai xs i (t + 1) = upF q ai xs i t * subm q ai bb % q := by rw [← HBB.out]; conv => lhs; unfold upF; rw [if_neg HTI.out]
              have HU1 := Lib.hid hu1
              have HU2 := Lib.hid hu2
              clear hu1 hu2
              go_cut [39] from 39 to 61 (fun t39 wx => t39 = .int .i64 (t : Int) ∧ Hid (GE w wx s [boxI s x, rowI s (.slice va i vc) ((wts q xs x).take i), boxI Z ai, boxI D (upF q x xs i (t + 1)), boxI (D + 1) (upF q ai xs i t), boxI Y bb] []))
              case first =>
                obtain ⟨fa, fl, fc, gF, NF⟩ := HE2.out.get 0 rfl
                obtain ⟨ka, kl, kc, gK, NK⟩ := HE2.out.get 3 rfl
                obtain ⟨ya, yl, yc, gY, NY⟩ := HE2.out.get 5 rfl
                have HNF := Lib.hid NF
                have HNK := Lib.hid NK
                have HNY := Lib.hid NY
                have cF0 := gF w9.drew (BB.drew (BB.refl _))
                have cK0 := gK w9.drew (BB.drew (BB.refl _))
                have cY0 := gY w9.drew (BB.drew (BB.refl _))
                have hbw : BB w w9 := by have := HE2.out.bel; rw [HS.out] at this; exact this
                have HRw := Lib.hid (HR.out.below hbw)
                clear NF NK NY hbw
                go_region_law (first
                  | (go_simp; go_at_call 54; refine (rsub_any r q fa ya fl fc yl yc _ _ w9.drew HRw.out.drew HNF.out.drew HNY.out.drew).mono ?_; rintro e w20 ⟨sa, sl, sc, rfl, hs1, hb20⟩; have hbb20 : BB w9 w20 := BB.step (BB.drew (BB.refl w9)) hb20; have HS1 := Lib.hid hs1; have cK20 := gK _ hbb20; clear hs1 hb20)
                  | (go_simp; go_at_call 49; refine (rmul_any r q ka sa kl kc sl sc _ _ w20 (HRw.out.below hbb20) (HNK.out.below hbb20) HS1.out).mono ?_; rintro e w21 ⟨ma, ml, mc, rfl, hm1, hb21⟩; have hbb21 : BB w9 w21 := BB.step hbb20 hb21; have HM1 := Lib.hid hm1; have HE21 := Lib.hid (HE2.out.below hbb21); have cK21 := gK _ hbb21; obtain ⟨_, _, _, _, fK21, _⟩ := HE21.out.box 3 rfl; clear hm1 hb21))
                all_goals (
                  have HE6 := Lib.hid (HE21.out.set 3 rfl HM1.out (c := mc))
                  rw [← HU1.out] at HE6
                  go_wp2_with fail
                  go_meet
                  exact ⟨rfl, HE6.out⟩)
              case rest =>
                obtain ⟨rfl, HE3⟩ := hcut
                clear HE2
                obtain ⟨fa, fl, fc, gF, NF⟩ := HE3.out.get 2 rfl
                obtain ⟨ka, kl, kc, gK, NK⟩ := HE3.out.get 4 rfl
                obtain ⟨ya, yl, yc, gY, NY⟩ := HE3.out.get 5 rfl
                have HNF := Lib.hid NF
                have HNK := Lib.hid NK
                have HNY := Lib.hid NY
                have cF0 := gF wc.drew (BB.drew (BB.refl _))
                have cK0 := gK wc.drew (BB.drew (BB.refl _))
                have cY0 := gY wc.drew (BB.drew (BB.refl _))
                have hbw : BB w wc := by have := HE3.out.bel; rw [HS.out] at this; exact this
                have HRw := Lib.hid (HR.out.below hbw)
                clear NF NK NY hbw
                go_wp2_with fail
                go_region_law (first
                  | (go_simp; go_at_call 54; refine (rsub_any r q fa ya fl fc yl yc _ _ wc.drew HRw.out.drew HNF.out.drew HNY.out.drew).mono ?_; rintro e w30 ⟨sa, sl, sc, rfl, hs1, hb30⟩; have hbb30 : BB wc w30 := BB.step (BB.drew (BB.refl wc)) hb30; have HS1 := Lib.hid hs1; have cK30 := gK _ hbb30; clear hs1 hb30)
                  | (go_simp; go_at_call 49; refine (rmul_any r q ka sa kl kc sl sc _ _ w30 (HRw.out.below hbb30) (HNK.out.below hbb30) HS1.out).mono ?_; rintro e w31 ⟨ma, ml, mc, rfl, hm1, hb31⟩; have hbb31 : BB wc w31 := BB.step hbb30 hb31; have HM1 := Lib.hid hm1; have HE31 := Lib.hid (HE3.out.below hbb31); have cK31 := gK _ hbb31; obtain ⟨_, _, _, _, fK31, _⟩ := HE31.out.box 4 rfl; clear hm1 hb31))
                all_goals (
                  have HE6 := Lib.hid (HE31.out.set 4 rfl HM1.out (c := mc))
                  rw [← HU2.out] at HE6
                  go_wp2_with fail
                  go_roundw
                  case rel => exact ⟨t + 1, by omega, by go_num, HE6.out.take 5⟩
                  case measure => simp [intOf]; omega)
          · have ht' : t = len := by omega
            subst ht'
            have hb0 : BB w wr := by have := HE.out.bel; rw [HS.out] at this; exact this
            have hil : i < xs.length := by rw [HL.out]; omega
            obtain ⟨ea, el, ec, cE, _, NE'⟩ := HE.out.box 4 rfl
            have HNE := Lib.hid NE'
            have HRr := Lib.hid (HR.out.below hb0)
            have hg : Nat.gcd q (upF q ai xs i t) = 1 := by
              have := down_unit HQ.out HD.out hil
              rw [HAI.out, HL.out] at this; exact this
            have HGG := Lib.hid hg
            have HTS : Hid ((wts q xs x).take (i + 1) = (wts q xs x).take i ++ [wt q xs x i]) := by
              show _ = _
              have hwl : i < (wts q xs x).length := by rw [wts_length]; exact hil
              rw [List.take_succ_eq_append_getElem hwl]
              have := wts_get q xs x i hil
              rw [List.getD_eq_getElem?_getD, List.getElem?_eq_getElem hwl] at this
              rw [← this]; rfl
            clear NE' hb0 hg hil
            go_wp2_with fail
            refine (rinv_any r q ea el ec _ wr HRr.out HNE.out).mono ?_
            rintro e w9 ⟨z, za, zl, zc, rfl, hz, hz1, _, hb9⟩
            rw [if_pos HGG.out]
            have HWT : Hid (upF q x xs i t * z % q = wt q xs x i) := by
              show _ = _
              obtain ⟨h3, h4⟩ := hz1 HGG.out
              unfold wt
              rw [HAI.out, HL.out, invq_eq h3 h4]
            obtain ⟨M, hM⟩ : ∃ M, M = w9.heap.size := ⟨_, rfl⟩
            have HE9 := Lib.hid ((HE.out.below hb9).alloc M hM hz (c := zc))
            have HR9 := Lib.hid ((HRr.out.below hb9).below ((Below.refl _ w9).alloc (Nat.le_refl _) (Obj.cells #[Value.slice za zl zc] 36)))
            obtain ⟨ua, ul, uc, cU, _, NU⟩ := HE9.out.box 3 rfl
            have HNU := Lib.hid NU
            have HNZ := Lib.hid (hz.below ((Below.refl _ w9).alloc (Nat.le_refl _) (Obj.cells #[Value.slice za zl zc] 36)))
            clear hz hz1 hb9 cE HE HNE HRr HGG NU
            go_wp2_with fail
            clear hM cU
            generalize w9.alloc (Obj.cells #[Value.slice za zl zc] 36) = w10 at HE9 HR9 HNU HNZ ⊢
            refine (rmul_any r q ua za ul uc zl zc _ _ w10 HR9.out HNU.out HNZ.out).mono ?_
            rw [HWT.out]
            rintro e w11 ⟨ma, ml, mc, rfl, hm, hb11⟩
            have hbx := (Below.refl _ w11).alloc (Nat.le_refl _) (Obj.cells #[Value.slice ma ml mc] 36)
            have HE12 := Lib.hid ((HE9.out.below hb11).below hbx)
            have HM12 := Lib.hid (hm.below hbx)
            have cR := (Blk.new w11 [Value.slice ma ml mc] 36).cell 0
            simp only [List.getElem?_cons_zero] at cR
            clear hm hb11 hbx HE9 HNU HNZ HR9
            go_wp2_with (first | (refine wpList_append_nat _ rfl (.tmp 71) (.tmp 76) rfl s _ ((wts q xs x).take i) rfl (HE12.out.row 1 rfl) ⟨w11.heap.size, 0, none⟩ 1 (wt q xs x i) ma ml mc rfl cR HM12.out (by rw [HTL.out]; omega) HE12.out.base ?_; intro v' w13 hown hgr hf; have HE13 := Lib.hid (HE12.out.append 1 rfl hgr hf hown); clear hown hgr hf))
            go_roundw
            case rel => exact ⟨i + 1, by omega, by go_num, HTS.out.symm ▸ HE13.out.take 2⟩
            case measure => simp [intOf]; omega
      · have hi' : i = len := by omega
        subst hi'
        go_wp2_with fail
        go_ret2
        refine ⟨_, _, rfl, HS.out ▸ HE.out.bel, .inr (.inr ⟨H0.out, HD.out, rfl, ?_⟩)⟩
        have h9 := HE.out.row 1 rfl
        rw [List.take_of_length_le (by rw [wts_length, HL.out]; exact Nat.le_refl _), HS.out] at h9
        exact h9
  · have HD := Lib.hid hd
    have H0 := Lib.hid h0
    clear hd h0
    go_wp2_with fail
    go_ret2
    exact ⟨_, _, rfl, HS.out ▸ HE2.out.bel, .inr (.inl ⟨H0.out, HD.out, rfl, rfl⟩)⟩
end Go.Proofs.YthefednendgclaaGreat
