/-
  Groups: Multi, the product of powers.
-/
import Derived.Test.YthefednendgclaaGrpA
import Derived.Test.YthefednendgclaaNGE
import Derived.Test.YthefednendgclaaNatA
import Derived.Test.YthefednendgclaaPledgeL
set_option linter.unusedVariables false
set_option linter.unusedSimpArgs false
namespace Go.Proofs.Ythefednendgclaa
open Go Go.RowKit Sac

theorem blen_le {n k : Nat} (h : n < 2 ^ k) : blen n ≤ k := by
  unfold blen
  split
  · exact Nat.zero_le _
  · rename_i h0
    exact (Nat.log2_lt h0).2 h
theorem lt_blen (n : Nat) : n < 2 ^ blen n := by
  unfold blen
  split
  · rename_i h0; rw [h0]; decide
  · exact Nat.lt_log2_self
def mostF (es : List Nat) : Nat → Nat
  | 0 => 0
  | k + 1 => max (mostF es k) (blen (es.getD k 0))
theorem mostF_le {es : List Nat} {b : Nat} (h : ∀ e ∈ es, e < 2 ^ b) : ∀ k, k ≤ es.length → mostF es k ≤ b
  | 0, _ => Nat.zero_le _
  | k + 1, hk => by
    have ih := mostF_le h k (by omega)
    have : blen (es.getD k 0) ≤ b := blen_le (by rw [List.getD_eq_getElem?_getD, List.getElem?_eq_getElem (by omega : k < es.length)]; exact h _ (List.getElem_mem _))
    unfold mostF
    omega
theorem mostF_ge (es : List Nat) : ∀ k i, i < k → blen (es.getD i 0) ≤ mostF es k
  | k + 1, i, hi => by
    unfold mostF
    by_cases h : i = k
    · subst h; omega
    · have := mostF_ge es k i (by omega); omega
theorem mostF_all (es : List Nat) : ∀ e ∈ es, e < 2 ^ mostF es es.length := by
  intro e he
  obtain ⟨i, hi, rfl⟩ := List.getElem_of_mem he
  have h1 := mostF_ge es es.length i hi
  rw [List.getD_eq_getElem?_getD, List.getElem?_eq_getElem hi] at h1
  exact Nat.lt_of_lt_of_le (lt_blen _) (Nat.pow_le_pow_right (by decide) h1)
theorem multi_sq {P : Nat} (hP : 1 < P) (bs es : List Nat) : sqF P (mostF es es.length) bs es (mostF es es.length) = multi P bs es := by
  rw [sqF_eq hP _ bs es (mostF_all es) _ (Nat.le_refl _), Nat.sub_self]; rfl

/-- A product of powers that is there. -/
def RetNE (n : Nat) (w : World) (e : Ending) (w' : World) : Prop := ∃ (a : Option Addr) (l c : Nat), e = .returned (.tuple #[.agg #[.slice a l c], .int .i64 0]) ∧ NatS w' a l n ∧ Below w.heap.size w w'

set_option maxRecDepth 100000 in
set_option maxHeartbeats 4000000 in
theorem multi_any (g P Q G H sz : Nat) (a : Option Addr) (len cap : Nat) (bs : List Nat) (b : Option Addr) (capb : Nat) (es : List Nat) (w : World) (h : GroupAt w g P Q G H sz) (hP1 : 1 < P) (hb : NatsAt w a bs) (hbl : bs.length = len) (he : NatsAt w b es) (hel : es.length = len) (hc : (len : Int) ≤ 1000) (hsm : ∀ e ∈ es, e < 2 ^ 1000) :
    Calls Try.prog 119 #[.pointer (some ⟨g, 0, none⟩), .slice a len cap, .slice b len capb] w (RetNE (multi P bs es) w) := by
  obtain ⟨rp, rq, ga, gl, gc, ha, hl, hcc, hB, hP, hQ, hG, hH⟩ := h
  obtain ⟨s, hs⟩ : ∃ s, s = w.heap.size := ⟨_, rfl⟩
  have HE0 := Lib.hid ((NE.init w s hs).alloc s hs (natS_nil w) (c := 0))
  have HS := Lib.hid hs
  have HP := Lib.hid hP
  have HB := Lib.hid hB
  have HBS := Lib.hid hb
  have HES := Lib.hid he
  have HBL := Lib.hid hbl
  have HEL := Lib.hid hel
  have HP1 := Lib.hid hP1
  have HML := Lib.hid (mostF_le hsm)
  have hnn : ((len : Int) != (len : Int)) = false := by simp
  clear hP hQ hG hH hB hb he hbl hel hsm hP1
  go_enter Try.func119, Try.ntmps119
  go_wp2_with fail
  rw [← hs]
  clear hs hnn
  generalize w.alloc (Obj.cells #[Value.slice none 0 0] 33) = w1 at HE0 ⊢
  go_loopw [8, 27] (fun mv iv wr => ∃ i : Nat, (i : Int) ≤ len ∧ mv = .int .i64 ((mostF es i : Nat) : Int) ∧ iv = .int .i64 (i : Int) ∧ Hid (NE w wr s [(s, 0)] [])) (fun _ iv _ => len - (intOf iv).toNat)
  case atStart => exact ⟨0, by omega, rfl, rfl, HE0.out⟩
  case round =>
    clear HE0
    obtain ⟨i, hi, rfl, rfl, HE⟩ := hrel
    have hb0 : BB w wr := by have := HE.out.bel; rw [HS.out] at this; exact this
    by_cases hlt : (i : Int) < len
    · have hil : i < es.length := by rw [HEL.out]; omega
      obtain ⟨e, hee⟩ : ∃ e, es.getD i 0 = e := ⟨_, rfl⟩
      obtain ⟨ad, xa, xl, xc, hadr, _, cx, Nx⟩ := (HES.out.below hb0).get hil
      subst hadr
      rw [hee] at Nx
      have hmx : max ((mostF es i : Nat) : Int) ((blen e : Nat) : Int) = ((mostF es (i + 1) : Nat) : Int) := by
        show _ = ((max (mostF es i) (blen (es.getD i 0)) : Nat) : Int)
        rw [hee]; omega
      obtain ⟨Z, hZ⟩ : ∃ Z, Z = wr.heap.size := ⟨_, rfl⟩
      have HE2 := Lib.hid (HE.out.alloc Z hZ Nx (c := xc))
      have HX := Lib.hid (Nx.below ((Below.refl _ wr).alloc (Nat.le_refl _) (Obj.cells #[Value.slice xa xl xc] 33)))
      clear Nx hil HE hb0 hee
      go_wp2_with fail
      clear hZ cx
      generalize wr.alloc (Obj.cells #[Value.slice xa xl xc] 33) = w2 at HE2 HX ⊢
      refine (bits_any xa xl xc e w2 HX.out.1 (by have := HX.out.2; omega)).mono ?_
      rintro e' w3 ⟨rfl, hb3⟩
      have HE3 := Lib.hid (HE2.out.below hb3)
      clear hb3 HX HE2
      go_wp2_with fail
      go_roundw
      case rel => exact ⟨i + 1, by omega, by first | rfl | exact congrArg _ hmx, by go_num, HE3.out.take 1⟩
      case measure => simp [intOf]; omega
    · have hi' : i = len := by omega
      subst hi'
      obtain ⟨M, hM⟩ : ∃ M, mostF es i = M := ⟨_, rfl⟩
      have hM1 : (M : Int) ≤ 1000 := by have := HML.out i (by rw [HEL.out]; exact Nat.le_refl _); omega
      rw [hM]
      have HM := Lib.hid hM
      clear hM
      go_wp2_with fail
      refine (new_s 1 wr (by decide)).mono ?_
      rintro e' w2 ⟨oa, ol, oc, rfl, ho, hb2⟩
      obtain ⟨O, hO⟩ : ∃ O, O = w2.heap.size := ⟨_, rfl⟩
      have HE2 := Lib.hid ((HE.out.below hb2).alloc O hO ho (c := oc))
      clear hb2 ho HE
      go_wp2_with fail
      rw [← hO]
      clear hO hb0
      generalize w2.alloc (Obj.cells #[Value.slice oa ol oc] 33) = w3 at HE2 ⊢
      go_loopw [12] (fun iv wr => ∃ k : Nat, (k : Int) ≤ M ∧ iv = .int .i64 ((k : Int) - 1) ∧ Hid (NE w wr s [(s, 0), (O, sqF P M bs es (M - k))] [])) (fun iv _ => (intOf iv + 1).toNat)
      case atStart => exact ⟨M, by omega, rfl, by rw [Nat.sub_self]; exact HE2.out⟩
      case round =>
        clear HE2
        obtain ⟨k, hk, rfl, HE⟩ := hrel
        have hb0 : BB w wr := by have := HE.out.bel; rw [HS.out] at this; exact this
        by_cases hk0 : k = 0
        · subst hk0
          rw [Nat.sub_zero] at HE
          obtain ⟨oa, ol, oc, cO, _, NO⟩ := HE.out.box 1 rfl
          obtain ⟨_, _, _, cr, fr, _⟩ := HE.out.box 0 rfl
          have HNO := Lib.hid NO
          clear NO hb0
          go_wp2_with fail
          have HE5 := HE.out.set 0 rfl HNO.out (c := oc)
          obtain ⟨ra, rl, rc, hB, hN⟩ := HE5.at_ 0 rfl
          refine ret_nat_tmp rfl rfl rfl hB (⟨ra, rl, rc, rfl, ?_, HS.out ▸ HE5.bel⟩ : RetNE (multi P bs es) w _ _)
          rw [← multi_sq HP1.out bs es, HEL.out, HM.out]; exact hN
        · obtain ⟨j, rfl⟩ : ∃ j, k = j + 1 := ⟨k - 1, by omega⟩
          have hj : (((j + 1 : Nat) : Int) - 1) = (j : Int) := by omega
          rw [hj]
          obtain ⟨o, ho⟩ : ∃ o, sqF P M bs es (M - (j + 1)) = o := ⟨_, rfl⟩
          rw [ho] at HE
          have HO := Lib.hid ho
          obtain ⟨oa, ol, oc, cO, _, NO⟩ := HE.out.box 1 rfl
          have HNO := Lib.hid NO
          have c0 := (HB.out.below hb0 HB.out.lt).cell 0
          simp only [List.getElem?_cons_zero] at c0
          have HP0 := Lib.hid (HP.out.below hb0)
          clear NO hb0 ho hk0
          go_wp2_with fail
          go_still_tail 6, (by kernel_rfl)
          change wpList _ _ _ _ _ wr.drew
          go_wp2_with fail
          refine (rmul_any rp P oa oa ol oc ol oc o o wr.drew HP0.out.drew HNO.out.drew HNO.out.drew).mono ?_
          rintro e' w4 ⟨ta, tl, tc, rfl, ht, hb4⟩
          have HE4 := Lib.hid (HE.out.drew.below hb4)
          have HT := Lib.hid ht
          obtain ⟨_, _, _, cr, fr, _⟩ := HE4.out.box 1 rfl
          have HE5 := Lib.hid (HE4.out.set 1 rfl HT.out (c := tc))
          clear ht hb4 c0 cO HE HNO HP0
          go_wp2_with fail
          generalize w4.setCell ⟨O, 0, none⟩ (.slice ta tl tc) = w5 at HE5 ⊢
          clear cr fr HE4 HT
          go_loopw [52] (fun iv wr => ∃ t : Nat, (t : Int) ≤ i ∧ iv = .int .i64 (t : Int) ∧ Hid (NE w wr s [(s, 0), (O, bitF P j bs es (o * o % P) t)] [])) (fun iv _ => i - (intOf iv).toNat)
          case atStart => exact ⟨0, by omega, rfl, HE5.out⟩
          case round =>
            clear HE5
            obtain ⟨t, ht, rfl, HE⟩ := hrel
            have hb0 : BB w wr := by have := HE.out.bel; rw [HS.out] at this; exact this
            by_cases hlt : (t : Int) < i
            · have htl : t < es.length := by rw [HEL.out]; omega
              have htb : t < bs.length := by rw [HBL.out]; omega
              obtain ⟨e, hee⟩ : ∃ e, es.getD t 0 = e := ⟨_, rfl⟩
              obtain ⟨ad, xa, xl, xc, hadr, _, cx, Nx⟩ := (HES.out.below hb0).get htl
              subst hadr
              rw [hee] at Nx
              obtain ⟨Z, hZ⟩ : ∃ Z, Z = wr.heap.size := ⟨_, rfl⟩
              have HE2 := Lib.hid (HE.out.alloc Z hZ Nx (c := xc))
              have HX := Lib.hid (Nx.below ((Below.refl _ wr).alloc (Nat.le_refl _) (Obj.cells #[Value.slice xa xl xc] 33)))
              have HEE := Lib.hid hee
              clear Nx htl HE hb0 hee
              go_wp2_with fail
              clear hZ cx
              generalize wr.alloc (Obj.cells #[Value.slice xa xl xc] 33) = w6 at HE2 HX ⊢
              refine (bit_any xa xl xc e j w6 HX.out.1 (by have := HX.out.2; omega) (by omega)).mono ?_
              rintro e' w7 ⟨rfl, hb7⟩
              have HE3 := Lib.hid (HE2.out.below hb7)
              clear hb7 HX HE2
              by_cases hbit : e / 2 ^ j % 2 = 1
              · rw [hbit]
                have hb0 : BB w w7 := by have := HE3.out.bel; rw [HS.out] at this; exact this
                obtain ⟨oa, ol, oc, cO, _, NO⟩ := HE3.out.box 1 rfl
                obtain ⟨bd, ya, yl, yc, hbdr, _, cy, Ny⟩ := (HBS.out.below hb0).get htb
                subst hbdr
                have c0 := (HB.out.below hb0 HB.out.lt).cell 0
                simp only [List.getElem?_cons_zero] at c0
                have HP0 := Lib.hid (HP.out.below hb0)
                have HNO := Lib.hid NO
                have HNY := Lib.hid Ny
                clear NO Ny hb0
                go_wp2_with fail
                go_still_tail 9, (by kernel_rfl)
                change wpList _ _ _ _ _ w7.drew
                go_wp2_with fail
                refine (rmul_any rp P oa ya ol oc yl yc _ _ w7.drew HP0.out.drew HNO.out.drew HNY.out.drew).mono ?_
                rintro e' w8 ⟨ta, tl, tc, rfl, ht, hb8⟩
                have HE4 := Lib.hid (HE3.out.drew.below hb8)
                have HT := Lib.hid ht
                obtain ⟨_, _, _, cr, fr, _⟩ := HE4.out.box 1 rfl
                have HE5 := Lib.hid (HE4.out.set 1 rfl HT.out (c := tc))
                clear ht hb8 c0 cO cy HE3 HNO HNY HP0
                go_wp2_with fail
                go_roundw
                case rel => exact ⟨t + 1, by omega, by go_num, by have := HE5.out.take 2; rw [bitF, HEE.out, if_pos hbit]; exact this⟩
                case measure => simp [intOf]; omega
              · have hb2 : e / 2 ^ j % 2 = 0 := by omega
                rw [hb2]
                go_wp2_with fail
                go_roundw
                case rel => exact ⟨t + 1, by omega, by go_num, by have := HE3.out.take 2; rw [bitF, HEE.out, if_neg hbit]; exact this⟩
                case measure => simp [intOf]; omega
            · have ht' : t = i := by omega
              subst ht'
              go_wp2_with fail
              go_roundw
              case rel => exact ⟨j, by omega, by rfl, by rw [show M - j = M - (j + 1) + 1 by omega, sqF, HO.out, show M - 1 - (M - (j + 1)) = j by omega, HEL.out]; exact HE.out⟩
              case measure => first | (simp [intOf]; done) | (simp [intOf]; omega)
end Go.Proofs.Ythefednendgclaa
