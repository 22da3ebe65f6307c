/-
  Places: whether they are unlike.
-/
import Derived.Test.YthefednendgclaaNGE
import Derived.Test.YthefednendgclaaPledgeL
import Derived.Test.YthefednendgclaaCertA
import Derived.Deep.RegionHeld3
set_option linter.unusedVariables false
set_option linter.unusedSimpArgs false
namespace Go.Proofs.Ythefednendgclaa
open Go Go.RowKit Sac

/-- What places tells: 10 of none, 0 of unlike ones, else 11. -/
def PlacesPost (q : Nat) (xs : List Nat) (w : World) (e : Ending) (w' : World) : Prop := ∃ c : Int, e = .returned (.int .i64 c) ∧ ((xs.length = 0 ∧ c = 10) ∨ (0 < xs.length ∧ Dis q xs ∧ c = 0) ∨ (0 < xs.length ∧ ¬ Dis q xs ∧ c = 11)) ∧ Below w.heap.size w w'

set_option maxRecDepth 100000 in
set_option maxHeartbeats 4000000 in
theorem places_any (r q : Nat) (a : Option Addr) (len cap : Nat) (xs : List Nat) (w : World) (hr : RingAt w r q) (h : NatsAt w a xs) (hl : xs.length = len) (hcc : (len : Int) ≤ cap) (hc : (len : Int) ≤ 10000) :
    Calls Try.prog 93 #[.pointer (some ⟨r, 0, none⟩), .slice a len cap] w (PlacesPost q xs w) := by
  have HR := Lib.hid hr
  have HP := Lib.hid h
  have HL := Lib.hid hl
  by_cases h0 : (len : Int) = 0
  · have e0 : ((len : Int) == 0) = true := by rw [h0]; rfl
    have hx : xs.length = 0 := by omega
    have HX := Lib.hid hx
    clear hr h hl hx h0
    go_enter Try.func93, Try.ntmps93
    go_wp2_with fail
    go_ret
    exact ⟨10, rfl, .inl ⟨HX.out, rfl⟩, Below.refl _ _⟩
  have e0 : ((len : Int) == 0) = false := by rw [beq_eq_false_iff_ne]; exact h0
  have hpos : 0 < xs.length := by omega
  have HPOS := Lib.hid hpos
  obtain ⟨ad, _, _, _, rfl, _, _, _⟩ := h.get (k := 0) hpos
  obtain ⟨s, hs⟩ : ∃ s, s = w.heap.size := ⟨_, rfl⟩
  have HE0 := Lib.hid (NE.init w s hs)
  have HS := Lib.hid hs
  clear hr h hl hpos hs h0
  go_enter Try.func93, Try.ntmps93
  go_wp2_with fail
  go_loopw [18] (fun iv wr => ∃ i : Nat, (i : Int) ≤ len ∧ iv = .int .i64 (i : Int) ∧ Hid (∀ i' j, j < i' → i' < i → xs.getD i' 0 % q ≠ xs.getD j 0 % q) ∧ Hid (NE w wr s [] [])) (fun iv _ => len - (intOf iv).toNat)
  case atStart => exact ⟨0, by omega, rfl, (fun i' j h1 h2 => by omega), HE0.out⟩
  case round =>
    clear HE0
    obtain ⟨i, hi, rfl, HD, HE⟩ := hrel
    have hb0 : BB w wr := by have := HE.out.bel; rw [HS.out] at this; exact this
    by_cases hlt : (i : Int) < len
    · have hil : i < xs.length := by rw [HL.out]; omega
      obtain ⟨x, hx⟩ : ∃ x, xs.getD i 0 = x := ⟨_, rfl⟩
      obtain ⟨_, xa, xl, xc, he, _, cx, Nx⟩ := (HP.out.below hb0).get hil
      injection he with he
      subst he
      rw [hx] at Nx
      have HX := Lib.hid hx
      have hcap : (i : Int) ≤ cap := by omega
      obtain ⟨Z, hZ⟩ : ∃ Z, Z = wr.heap.size := ⟨_, rfl⟩
      have HE2 := Lib.hid (HE.out.alloc Z hZ Nx (c := xc))
      clear Nx hx hil HE hb0
      go_wp2_with fail
      rw [← hZ]
      clear hZ cx
      generalize wr.alloc (Obj.cells #[Value.slice xa xl xc] 33) = w2 at HE2 ⊢
      go_loopw [27] (fun iv wr => ∃ j : Nat, (j : Int) ≤ i ∧ iv = .int .i64 (j : Int) ∧ Hid (∀ j', j' < j → x % q ≠ xs.getD j' 0 % q) ∧ Hid (NE w wr s [(Z, x)] [])) (fun iv _ => i - (intOf iv).toNat)
      case atStart => exact ⟨0, by omega, rfl, (fun j' h => by omega), HE2.out⟩
      case round =>
        clear HE2
        obtain ⟨j, hj, rfl, HDJ, HE⟩ := hrel
        have hb0 : BB w wr := by have := HE.out.bel; rw [HS.out] at this; exact this
        by_cases hlj : (j : Int) < i
        · have hjl : j < xs.length := by rw [HL.out]; omega
          have hjlen : (j : Int) < len := by omega
          obtain ⟨y, hy⟩ : ∃ y, xs.getD j 0 = y := ⟨_, rfl⟩
          obtain ⟨_, ya, yl, yc, he, _, cy, Ny⟩ := (HP.out.below hb0).get hjl
          injection he with he
          subst he
          rw [hy] at Ny
          have HY := Lib.hid hy
          obtain ⟨Y, hY⟩ : ∃ Y, Y = wr.heap.size := ⟨_, rfl⟩
          have HE2 := Lib.hid (HE.out.alloc Y hY Ny (c := yc))
          clear Ny hy hjl HE hb0
          go_wp2_with fail
          rw [← hY]
          clear hY cy
          generalize wr.alloc (Obj.cells #[Value.slice ya yl yc] 33) = w3 at HE2 ⊢
          obtain ⟨xa, xl, xc, gX, NX⟩ := HE2.out.get 0 rfl
          obtain ⟨ya, yl, yc, gY, NY⟩ := HE2.out.get 1 rfl
          have HNX := Lib.hid NX
          have HNY := Lib.hid NY
          have hb3 : BB w w3 := by have := HE2.out.bel; rw [HS.out] at this; exact this
          have HR3 := Lib.hid (HR.out.below hb3)
          clear NX NY hb3
          go_wp2_with fail
          go_region_held3 (fun w' => BB w3 w') (first | assumption | exact BB.drew (BB.refl _))
            (first
              | (go_at_call 25; refine (cmp_s ta ua tl tc ul uc _ _ w5 (HT4.out.below hb45) HU5.out).mono ?_; rintro e w6 ⟨rfl, hb6⟩; have hbb6 : BB w3 w6 := BB.step hbb5 hb6; clear hb6)
              | (go_at_call 73; have _h := HT4; refine (of_s r q ya yl yc y w4 (HR3.out.below hbb4) (HNY.out.below hbb4)).mono ?_; rintro e w5 ⟨ua, ul, uc, rfl, hu, hb45⟩; have hbb5 : BB w3 w5 := BB.step hbb4 hb45; have HU5 := Lib.hid hu; clear hu)
              | (go_at_call 73; refine (of_s r q xa xl xc x w3.drew HR3.out.drew HNX.out.drew).mono ?_; rintro e w4 ⟨ta, tl, tc, rfl, ht, hb4⟩; have hbb4 : BB w3 w4 := BB.step (BB.drew (BB.refl w3)) hb4; have HT4 := Lib.hid ht; clear ht hb4))
          have HE6 := Lib.hid (HE2.out.below hbb6)
          by_cases hxy : x % q = y % q
          · have hcm : (cmpNat (x % q) (y % q) == 0) = true := by rw [hxy, cmp_self]; rfl
            go_wp2_with fail
            go_ret
            refine ⟨11, rfl, .inr (.inr ⟨HPOS.out, fun hd => ?_, rfl⟩), HS.out ▸ HE6.out.bel⟩
            exact hd i j (by omega) (by rw [HL.out]; omega) (by rw [HX.out, HY.out]; exact hxy)
          · have hcm : (cmpNat (x % q) (y % q) == 0) = false := cmp_ne hxy
            go_wp2_with fail
            go_roundw
            case rel => exact ⟨j + 1, by omega, by go_num, (fun j' hj' => by
              rcases Nat.lt_or_ge j' j with h5 | h5
              · exact HDJ.out j' h5
              · obtain rfl : j' = j := by omega
                rw [HY.out]; exact hxy), HE6.out.pop⟩
            case measure => simp [intOf]; omega
        · have hj' : j = i := by omega
          subst hj'
          go_wp2_with fail
          go_roundw
          case rel => exact ⟨j + 1, by omega, by go_num, (fun i' j' h1 h2 => by
            rcases Nat.lt_or_ge i' j with h5 | h5
            · exact HD.out i' j' h1 h5
            · obtain rfl : i' = j := by omega
              rw [HX.out]; exact HDJ.out j' h1), HE.out.take 0⟩
          case measure => simp [intOf]; omega
    · have hi' : i = len := by omega
      subst hi'
      go_wp2_with fail
      go_ret
      exact ⟨0, rfl, .inr (.inl ⟨HPOS.out, (fun i' j h1 h2 => HD.out i' j h1 (by rw [← HL.out]; exact h2)), rfl⟩), HS.out ▸ HE.out.bel⟩
end Go.Proofs.Ythefednendgclaa
