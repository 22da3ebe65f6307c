import Derived.Test.YthefednendgclaaGreatGrpA
import Derived.Test.YthefednendgclaaGreatNGE
import Derived.Test.YthefednendgclaaGreatNatA
import Derived.Test.YthefednendgclaaGreatPledgeL
import Derived.Test.YthefednendgclaaGreatCurve2
import Derived.Test.YthefednendgclaaGreatBoxRow
import Derived.Deep.CutRange
set_option linter.unusedVariables false
set_option linter.unusedSimpArgs false
/-
  Groups: Multi, the product of powers.
-/
namespace Go.Proofs.YthefednendgclaaGreat
open Go Go.RowKit Sac

theorem blen_le {n k : Nat} (h : n < 2 ^ k) : blen n ≤ k := by
  unfold blen
  split
  · exact Nat.zero_le _
  · rename_i h0
    exact (Nat.log2_lt h0).2 h
theorem lt_blen (n : Nat) : n < 2 ^ blen n := by
  unfold blen
  split
  · rename_i h0; rw [h0]; decide
  · exact Nat.lt_log2_self
def mostF (es : List Nat) : Nat → Nat
  | 0 => 0
  | k + 1 => max (mostF es k) (blen (es.getD k 0))
theorem mostF_le {es : List Nat} {b : Nat} (h : ∀ e ∈ es, e < 2 ^ b) : ∀ k, k ≤ es.length → mostF es k ≤ b
  | 0, _ => Nat.zero_le _
  | k + 1, hk => by
    have ih := mostF_le h k (by omega)
    have : blen (es.getD k 0) ≤ b := blen_le (by rw [List.getD_eq_getElem?_getD, List.getElem?_eq_getElem (by omega : k < es.length)]; exact h _ (List.getElem_mem _))
    unfold mostF
    omega
theorem mostF_ge (es : List Nat) : ∀ k i, i < k → blen (es.getD i 0) ≤ mostF es k
  | k + 1, i, hi => by
    unfold mostF
    by_cases h : i = k
    · subst h; omega
    · have := mostF_ge es k i (by omega); omega
theorem mostF_all (es : List Nat) : ∀ e ∈ es, e < 2 ^ mostF es es.length := by
  intro e he
  obtain ⟨i, hi, rfl⟩ := List.getElem_of_mem he
  have h1 := mostF_ge es es.length i hi
  rw [List.getD_eq_getElem?_getD, List.getElem?_eq_getElem hi] at h1
  exact Nat.lt_of_lt_of_le (lt_blen _) (Nat.pow_le_pow_right (by decide) h1)
theorem multi_sq {P : Nat} (hP : 1 < P) (bs es : List Nat) : sqF P (mostF es es.length) bs es (mostF es es.length) = multi P bs es := by
  rw [sqF_eq hP _ bs es (mostF_all es) _ (Nat.le_refl _), Nat.sub_self]; rfl

/-- A product of powers that is there. -/
def RetNE (n : Nat) (w : World) (e : Ending) (w' : World) : Prop := ∃ (a : Option Addr) (l c : Nat), e = .returned (.tuple #[.agg #[.slice a l c], .int .i64 0]) ∧ NatS w' a l n ∧ Below w.heap.size w w'

set_option maxRecDepth 100000 in
set_option maxHeartbeats 4000000 in
theorem multi_any (g P Q G H sz : Nat) (a : Option Addr) (len cap : Nat) (bs : List Nat) (b : Option Addr) (capb : Nat) (es : List Nat) (w : World) (h : GroupAt w g P Q G H sz) (hP1 : 1 < P) (hb : NatsAt w a bs) (hbl : bs.length = len) (he : NatsAt w b es) (hel : es.length = len) (hc : (len : Int) ≤ 1000) (hsm : ∀ e ∈ es, e < 2 ^ 1000) :
    Calls Tryz.prog 133 #[.pointer (some ⟨g, 0, none⟩), .slice a len cap, .slice b len capb] w (RetNE (multi P bs es) w) := by
  obtain ⟨rp, rq, ga, gl, gc, ha, hl, hcc, hB, hP, hQ, hG, hH⟩ := h
  obtain ⟨s, hs⟩ : ∃ s, s = w.heap.size := ⟨_, rfl⟩
  have HE0 := Lib.hid ((NE.init w s hs).alloc s hs (natS_nil w) (c := 0))
  have HS := Lib.hid hs
  have HP := Lib.hid hP
  have HB := Lib.hid hB
  have HBS := Lib.hid hb
  have HES := Lib.hid he
  have HBL := Lib.hid hbl
  have HEL := Lib.hid hel
  have HP1 := Lib.hid hP1
  have HML := Lib.hid (mostF_le hsm)
  have hnn : ((len : Int) != (len : Int)) = false := by simp
  clear hP hQ hG hH hB hb he hbl hel hsm hP1
  go_enter Tryz.func133, Tryz.ntmps133
  go_wp2_with fail
  rw [← hs]
  clear hs hnn
  generalize w.alloc (Obj.cells #[Value.slice none 0 0] 36) = w1 at HE0 ⊢
  go_loopw [8, 27] (fun mv iv wr => ∃ i : Nat, (i : Int) ≤ len ∧ mv = .int .i64 ((mostF es i : Nat) : Int) ∧ iv = .int .i64 (i : Int) ∧ Hid (NE w wr s [(s, 0)] [])) (fun _ iv _ => len - (intOf iv).toNat)
  case atStart => exact ⟨0, by omega, rfl, rfl, HE0.out⟩
  case round =>
    clear HE0
    obtain ⟨i, hi, rfl, rfl, HE⟩ := hrel
    have hb0 : BB w wr := by have := HE.out.bel; rw [HS.out] at this; exact this
    by_cases hlt : (i : Int) < len
    · have hil : i < es.length := by rw [HEL.out]; omega
      obtain ⟨e, hee⟩ : ∃ e, es.getD i 0 = e := ⟨_, rfl⟩
      obtain ⟨ad, xa, xl, xc, hadr, _, cx, Nx⟩ := (HES.out.below hb0).get hil
      subst hadr
      rw [hee] at Nx
      have hmx : max ((mostF es i : Nat) : Int) ((blen e : Nat) : Int) = ((mostF es (i + 1) : Nat) : Int) := by
        show _ = ((max (mostF es i) (blen (es.getD i 0)) : Nat) : Int)
        rw [hee]; omega
      obtain ⟨Z, hZ⟩ : ∃ Z, Z = wr.heap.size := ⟨_, rfl⟩
      have HE2 := Lib.hid (HE.out.alloc Z hZ Nx (c := xc))
      have HX := Lib.hid (Nx.below ((Below.refl _ wr).alloc (Nat.le_refl _) (Obj.cells #[Value.slice xa xl xc] 36)))
      clear Nx hil HE hb0 hee
      go_wp2_with fail
      clear hZ cx
      generalize wr.alloc (Obj.cells #[Value.slice xa xl xc] 36) = w2 at HE2 HX ⊢
      refine (bits_any xa xl xc e w2 HX.out.1 (by have := HX.out.2; omega)).mono ?_
      rintro e' w3 ⟨rfl, hb3⟩
      have HE3 := Lib.hid (HE2.out.below hb3)
      clear hb3 HX HE2
      go_wp2_with fail
      go_roundw
      case rel => exact ⟨i + 1, by omega, by first | rfl | exact congrArg _ hmx, by go_num, HE3.out.take 1⟩
      case measure => simp [intOf]; omega
    · have hi' : i = len := by omega
      subst hi'
      obtain ⟨M, hM⟩ : ∃ M, mostF es i = M := ⟨_, rfl⟩
      have hM1 : (M : Int) ≤ 1000 := by have := HML.out i (by rw [HEL.out]; exact Nat.le_refl _); omega
      rw [hM]
      have HM := Lib.hid hM
      clear hM
      go_wp2_with fail
      refine (new_s 1 wr (by decide)).mono ?_
      rintro e' w2 ⟨oa, ol, oc, rfl, ho, hb2⟩
      obtain ⟨O, hO⟩ : ∃ O, O = w2.heap.size := ⟨_, rfl⟩
      have HE2 := Lib.hid ((HE.out.below hb2).alloc O hO ho (c := oc))
      clear hb2 ho HE
      go_wp2_with fail
      rw [← hO]
      clear hO hb0
      generalize w2.alloc (Obj.cells #[Value.slice oa ol oc] 36) = w3 at HE2 ⊢
      go_loopw [12] (fun iv wr => ∃ k : Nat, (k : Int) ≤ M ∧ iv = .int .i64 ((k : Int) - 1) ∧ Hid (NE w wr s [(s, 0), (O, sqF P M bs es (M - k))] [])) (fun iv _ => (intOf iv + 1).toNat)
      case atStart => exact ⟨M, by omega, rfl, by rw [Nat.sub_self]; exact HE2.out⟩
      case round =>
        clear HE2
        obtain ⟨k, hk, rfl, HE⟩ := hrel
        have hb0 : BB w wr := by have := HE.out.bel; rw [HS.out] at this; exact this
        by_cases hk0 : k = 0
        · subst hk0
          rw [Nat.sub_zero] at HE
          obtain ⟨oa, ol, oc, cO, _, NO⟩ := HE.out.box 1 rfl
          obtain ⟨_, _, _, cr, fr, _⟩ := HE.out.box 0 rfl
          have HNO := Lib.hid NO
          clear NO hb0
          go_wp2_with fail
          have HE5 := HE.out.set 0 rfl HNO.out (c := oc)
          obtain ⟨ra, rl, rc, hB, hN⟩ := HE5.at_ 0 rfl
          refine ret_nat_tmp rfl rfl rfl hB (⟨ra, rl, rc, rfl, ?_, HS.out ▸ HE5.bel⟩ : RetNE (multi P bs es) w _ _)
          rw [← multi_sq HP1.out bs es, HEL.out, HM.out]; exact hN
        · obtain ⟨j, rfl⟩ : ∃ j, k = j + 1 := ⟨k - 1, by omega⟩
          have hj : (((j + 1 : Nat) : Int) - 1) = (j : Int) := by omega
          rw [hj]
          obtain ⟨o, ho⟩ : ∃ o, sqF P M bs es (M - (j + 1)) = o := ⟨_, rfl⟩
          rw [ho] at HE
          have HO := Lib.hid ho
          obtain ⟨oa, ol, oc, cO, _, NO⟩ := HE.out.box 1 rfl
          have HNO := Lib.hid NO
          have c0 := (HB.out.below hb0 HB.out.lt).cell 0
          simp only [List.getElem?_cons_zero] at c0
          have HP0 := Lib.hid (HP.out.below hb0)
          clear NO hb0 ho hk0
          go_wp2_with fail
          go_still_tail 6, (by kernel_rfl)
          change wpList _ _ _ _ _ wr.drew
          go_wp2_with fail
          refine (rmul_any rp P oa oa ol oc ol oc o o wr.drew HP0.out.drew HNO.out.drew HNO.out.drew).mono ?_
          rintro e' w4 ⟨ta, tl, tc, rfl, ht, hb4⟩
          have HE4 := Lib.hid (HE.out.drew.below hb4)
          have HT := Lib.hid ht
          obtain ⟨_, _, _, cr, fr, _⟩ := HE4.out.box 1 rfl
          have HE5 := Lib.hid (HE4.out.set 1 rfl HT.out (c := tc))
          clear ht hb4 c0 cO HE HNO HP0
          go_wp2_with fail
          generalize w4.setCell ⟨O, 0, none⟩ (.slice ta tl tc) = w5 at HE5 ⊢
          clear cr fr HE4 HT
          go_loopw [52] (fun iv wr => ∃ t : Nat, (t : Int) ≤ i ∧ iv = .int .i64 (t : Int) ∧ Hid (NE w wr s [(s, 0), (O, bitF P j bs es (o * o % P) t)] [])) (fun iv _ => i - (intOf iv).toNat)
          case atStart => exact ⟨0, by omega, rfl, HE5.out⟩
          case round =>
            clear HE5
            obtain ⟨t, ht, rfl, HE⟩ := hrel
            have hb0 : BB w wr := by have := HE.out.bel; rw [HS.out] at this; exact this
            by_cases hlt : (t : Int) < i
            · have htl : t < es.length := by rw [HEL.out]; omega
              have htb : t < bs.length := by rw [HBL.out]; omega
              obtain ⟨e, hee⟩ : ∃ e, es.getD t 0 = e := ⟨_, rfl⟩
              obtain ⟨ad, xa, xl, xc, hadr, _, cx, Nx⟩ := (HES.out.below hb0).get htl
              subst hadr
              rw [hee] at Nx
              obtain ⟨Z, hZ⟩ : ∃ Z, Z = wr.heap.size := ⟨_, rfl⟩
              have HE2 := Lib.hid (HE.out.alloc Z hZ Nx (c := xc))
              have HX := Lib.hid (Nx.below ((Below.refl _ wr).alloc (Nat.le_refl _) (Obj.cells #[Value.slice xa xl xc] 36)))
              have HEE := Lib.hid hee
              clear Nx htl HE hb0 hee
              go_wp2_with fail
              clear hZ cx
              generalize wr.alloc (Obj.cells #[Value.slice xa xl xc] 36) = w6 at HE2 HX ⊢
              refine (bit_any xa xl xc e j w6 HX.out.1 (by have := HX.out.2; omega) (by omega)).mono ?_
              rintro e' w7 ⟨rfl, hb7⟩
              have HE3 := Lib.hid (HE2.out.below hb7)
              clear hb7 HX HE2
              by_cases hbit : e / 2 ^ j % 2 = 1
              · rw [hbit]
                have hb0 : BB w w7 := by have := HE3.out.bel; rw [HS.out] at this; exact this
                obtain ⟨oa, ol, oc, cO, _, NO⟩ := HE3.out.box 1 rfl
                obtain ⟨bd, ya, yl, yc, hbdr, _, cy, Ny⟩ := (HBS.out.below hb0).get htb
                subst hbdr
                have c0 := (HB.out.below hb0 HB.out.lt).cell 0
                simp only [List.getElem?_cons_zero] at c0
                have HP0 := Lib.hid (HP.out.below hb0)
                have HNO := Lib.hid NO
                have HNY := Lib.hid Ny
                clear NO Ny hb0
                go_wp2_with fail
                go_still_tail 9, (by kernel_rfl)
                change wpList _ _ _ _ _ w7.drew
                go_wp2_with fail
                refine (rmul_any rp P oa ya ol oc yl yc _ _ w7.drew HP0.out.drew HNO.out.drew HNY.out.drew).mono ?_
                rintro e' w8 ⟨ta, tl, tc, rfl, ht, hb8⟩
                have HE4 := Lib.hid (HE3.out.drew.below hb8)
                have HT := Lib.hid ht
                obtain ⟨_, _, _, cr, fr, _⟩ := HE4.out.box 1 rfl
                have HE5 := Lib.hid (HE4.out.set 1 rfl HT.out (c := tc))
                clear ht hb8 c0 cO cy HE3 HNO HNY HP0
                go_wp2_with fail
                go_roundw
                case rel => exact ⟨t + 1, by omega, by go_num, by have := HE5.out.take 2; rw [bitF, HEE.out, if_pos hbit]; exact this⟩
                case measure => simp [intOf]; omega
              · have hb2 : e / 2 ^ j % 2 = 0 := by omega
                rw [hb2]
                go_wp2_with fail
                go_roundw
                case rel => exact ⟨t + 1, by omega, by go_num, by have := HE3.out.take 2; rw [bitF, HEE.out, if_neg hbit]; exact this⟩
                case measure => simp [intOf]; omega
            · have ht' : t = i := by omega
              subst ht'
              go_wp2_with fail
              go_roundw
              case rel => exact ⟨j, by omega, by rfl, by rw [show M - j = M - (j + 1) + 1 by omega, sqF, HO.out, show M - 1 - (M - (j + 1)) = j by omega, HEL.out]; exact HE.out⟩
              case measure => first | (simp [intOf]; done) | (simp [intOf]; omega)
end Go.Proofs.YthefednendgclaaGreat
/-
  Pledges: a coefficient, a pledge.
-/
namespace Go.Proofs.YthefednendgclaaGreat
open Go Go.RowKit Sac

attribute [local go_sem] cell_alloc_lt frozen_alloc_lt le_two le_three lt_two lt_three lt_four cell_new2 frozen_new2 cell_new3 frozen_new3

set_option maxRecDepth 100000 in
set_option maxHeartbeats 4000000 in
theorem pat_any (a : Option Addr) (len cap i : Nat) (p : List Nat) (w : World) (h : NatsAt w a p) (hl : p.length = len) (hc : (len : Int) ≤ 10000) (hi : (i : Int) ≤ 100000) :
    Calls Tryz.prog 111 #[.slice a len cap, .int .i64 (i : Int)] w (RetS (p.getD i 0) w) := by
  have HL := Lib.hid hl
  clear hl
  by_cases hlt : (i : Int) < len
  · have hil : i < p.length := by rw [HL.out]; omega
    obtain ⟨x, hx⟩ : ∃ x, p.getD i 0 = x := ⟨_, rfl⟩
    obtain ⟨ad, xa, xl, xc, rfl, he, cx, Nx⟩ := h.get hil
    rw [hx] at Nx ⊢
    have HX := Lib.hid Nx
    have cx' : ∀ o, (w.alloc o).cell? (ad.add i) = some (.slice xa xl xc) := fun o => (World.cell?_alloc_some w _ o (by rw [cx]; rfl)).trans cx
    clear Nx he hil h hx
    go_enter Tryz.func111, Tryz.ntmps111
    go_wp2_with fail
    have hb := (Below.refl _ w).alloc (Nat.le_refl _) (Obj.cells #[Value.slice xa xl xc] 36)
    exact ret_nat rfl rfl (Blk.new w _ _) ⟨xa, xl, xc, rfl, HX.out.below hb, hb⟩
  · have hge : p.getD i 0 = 0 := by
      rw [List.getD_eq_getElem?_getD, List.getElem?_eq_none (by rw [HL.out]; omega)]; rfl
    rw [hge]
    have hd : decide ((i : Int) < (len : Int)) = false := decide_eq_false hlt
    clear h hge
    go_enter Tryz.func111, Tryz.ntmps111
    go_wp2_with fail
    have hb := (Below.refl _ w).alloc (Nat.le_refl _) (Obj.cells #[Value.slice none 0 0] 36)
    exact ret_nat rfl rfl (Blk.new w _ _) ⟨none, 0, 0, rfl, natS_nil _, hb⟩

theorem natsAt_new {w : World} {x : Option Addr} {ns : List Nat} {o : Obj} (hn : NatsAt w x ns) : NatsAt (w.alloc o) x ns := hn.below ((Below.refl _ w).alloc (Nat.le_refl _) _)
theorem natS_drew' {w : World} {x : Option Addr} {l n : Nat} (h : NatS w x l n) : NatS w.drew x l n := h
theorem natsAt_drew' {w : World} {x : Option Addr} {ns : List Nat} (h : NatsAt w x ns) : NatsAt w.drew x ns := h
theorem natsAt_two {w : World} {x0 x1 : Option Addr} {l0 l1 c0 c1 m0 m1 k : Nat} (h0 : NatS w x0 l0 m0) (h1 : NatS w x1 l1 m1) (hk : k = w.heap.size) :
    NatsAt (w.alloc (.cells #[.slice x0 l0 c0, .slice x1 l1 c1] 36)) (some ⟨k, 0, none⟩) [m0, m1] := by
  have hB := Blk.new' w [.slice x0 l0 c0, .slice x1 l1 c1] 36 k hk
  refine ⟨[.slice x0 l0 c0, .slice x1 l1 c1], rfl, Blk.rd (rest := []) hB, fun i hi => ?_⟩
  have hi' : i < 2 := hi
  match i, hi' with
  | 0, _ => exact ⟨_, _, _, rfl, natS_new h0⟩
  | 1, _ => exact ⟨_, _, _, rfl, natS_new h1⟩

set_option maxRecDepth 100000 in
set_option maxHeartbeats 8000000 in
theorem pof_any (g P Q G H sz : Nat) (xa : Option Addr) (xl xc x : Nat) (ya : Option Addr) (yl yc y : Nat) (w : World) (h : GroupAt w g P Q G H sz) (hP1 : 1 < P) (hx : NatS w xa xl x) (hy : NatS w ya yl y) (hxs : x < 2 ^ 1000) (hys : y < 2 ^ 1000) :
    Calls Tryz.prog 110 #[.pointer (some ⟨g, 0, none⟩), .agg #[.slice xa xl xc], .agg #[.slice ya yl yc]] w (RetS (multi P [G, H] [x, y]) w) := by
  obtain ⟨s, hs⟩ : ∃ s, s = w.heap.size := ⟨_, rfl⟩
  have hbA := (Below.refl _ w).alloc (Nat.le_refl _) (Obj.cells #[Value.slice xa xl xc] 36)
  have hbB : BB (w.alloc (Obj.cells #[Value.slice xa xl xc] 36)) ((w.alloc (Obj.cells #[Value.slice xa xl xc] 36)).alloc (Obj.cells #[Value.slice ya yl yc] 36)) := BB.alloc (BB.refl _)
  have hbC : BB ((w.alloc (Obj.cells #[Value.slice xa xl xc] 36)).alloc (Obj.cells #[Value.slice ya yl yc] 36)) (((w.alloc (Obj.cells #[Value.slice xa xl xc] 36)).alloc (Obj.cells #[Value.slice ya yl yc] 36)).alloc (Obj.cells #[Value.slice none 0 0] 36)) := BB.alloc (BB.refl _)
  have hbAC := BB.step (BB.step hbA hbB) hbC
  have E1 := (NE.init w s hs).alloc s hs hx (c := xc)
  have E2 := E1.alloc (s + 1) (by rw [hs]; simp) (hy.below hbA) (c := yc)
  have HE3 := Lib.hid (E2.alloc (s + 1 + 1) (by rw [hs]; simp) (natS_nil _) (c := 0))
  have HG := Lib.hid (h.below hbAC)
  have HS := Lib.hid hs
  have HC := Lib.hid (And.intro hP1 (And.intro hxs hys))
  clear h hx hy E1 E2 hbA hbB hbC hbAC hP1 hxs hys
  go_enter Tryz.func110, Tryz.ntmps110
  go_wp2_with fail
  rw [← hs]
  clear hs
  generalize ((w.alloc (Obj.cells #[Value.slice xa xl xc] 36)).alloc (Obj.cells #[Value.slice ya yl yc] 36)).alloc (Obj.cells #[Value.slice none 0 0] 36) = w1 at HE3 HG ⊢
  obtain ⟨xa, xl, xc, gX, NX⟩ := HE3.out.get 0 rfl
  obtain ⟨ya, yl, yc, gY, NY⟩ := HE3.out.get 1 rfl
  have HX := Lib.hid NX
  have HY := Lib.hid NY
  clear NX NY
  go_cut [7] from 13 to 24 (fun t7 wx => ∃ (D : Nat), t7 = .pointer (some ⟨D, 0, none⟩) ∧ Hid (BB w1 wx) ∧ Hid (NB wx D (multi P [G, H] [x, y])) ∧ Hid (w1.heap.size ≤ D))
  case first =>
    go_region_held3 (fun w' => BB w1 w') (repeat' (first | assumption | exact BB.refl _ | apply BB.drew | apply BB.alloc | (refine BB.setCell ?_ (by first | exact Nat.le_refl _ | (simp; done) | (simp; omega) | omega)) | (refine BB.step ?_ (by assumption))))
      (first
        | (go_at_call 133; refine (multi_any g P Q G H sz _ 2 _ [G, H] _ _ [x, y] _ (HG.out.below (by repeat' (first | assumption | exact BB.refl _ | apply BB.drew | apply BB.alloc | (refine BB.setCell ?_ (by first | exact Nat.le_refl _ | (simp; done) | (simp; omega) | omega)) | (refine BB.step ?_ (by assumption))))) HC.out.1 (by repeat' (first | with_reducible exact HG3.out | with_reducible exact HH4.out | with_reducible exact HX.out | with_reducible exact HY.out | (with_reducible refine natsAt_two ?_ ?_ ?_; rotate_left 2; focus (first | rfl | (simp; done))) | with_reducible refine natsAt_new ?_ | with_reducible refine natS_new ?_ | with_reducible refine NatsAt.below ?_ HB4.out | with_reducible refine NatsAt.below ?_ HB3.out | with_reducible refine NatS.below ?_ HB4.out | with_reducible refine NatS.below ?_ HB3.out | with_reducible refine natS_drew' ?_ | with_reducible refine natsAt_drew' ?_)) rfl (by repeat' (first | with_reducible exact HG3.out | with_reducible exact HH4.out | with_reducible exact HX.out | with_reducible exact HY.out | (with_reducible refine natsAt_two ?_ ?_ ?_; rotate_left 2; focus (first | rfl | (simp; done))) | with_reducible refine natsAt_new ?_ | with_reducible refine natS_new ?_ | with_reducible refine NatsAt.below ?_ HB4.out | with_reducible refine NatsAt.below ?_ HB3.out | with_reducible refine NatS.below ?_ HB4.out | with_reducible refine NatS.below ?_ HB3.out | with_reducible refine natS_drew' ?_ | with_reducible refine natsAt_drew' ?_)) rfl (by decide) (by intro e he; simp only [List.mem_cons, List.not_mem_nil, or_false] at he; rcases he with rfl | rfl; exact HC.out.2.1; exact HC.out.2.2)).mono ?_; rintro e w5 ⟨ma, ml, mc, rfl, hm, hb5⟩; have HM5 := Lib.hid hm; have HB5 := Lib.hid hb5; have bb5 : BB w1 w5 := (by repeat' (first | assumption | exact BB.refl _ | apply BB.drew | apply BB.alloc | (refine BB.setCell ?_ (by first | exact Nat.le_refl _ | (simp; done) | (simp; omega) | omega)) | (refine BB.step ?_ (by assumption)))); have g5 : w1.heap.size ≤ w5.heap.size := bb5.size; (try ((first | (have q5 := zbi0 q4 hb5; clear q4c q4f q4) | (have q5 := zbi1 q4 hb5; clear q4c q4f q4) | (have q5 := zbi2 q4 hb5; clear q4c q4f q4) | (have q5 := zbi3 q4 hb5; clear q4c q4f q4) | (have q5 := zb_f hb5) | (have q5 := zb_e hb5) | (have q5 := zb_d hb5) | (have q5 := zb_c hb5) | (have q5 := zb_b hb5) | (have q5 := zb_a hb5)); have q5c := ZB.cell q5; have q5f := ZB.frozen q5)); clear hm)
        | (go_at_call 46; refine (gh_any g P Q G H sz _ (HG.out.below (by repeat' (first | assumption | exact BB.refl _ | apply BB.drew | apply BB.alloc | (refine BB.setCell ?_ (by first | exact Nat.le_refl _ | (simp; done) | (simp; omega) | omega)) | (refine BB.step ?_ (by assumption)))))).mono ?_; rintro e w4 ⟨ha, hl, hc, rfl, hh, hb4⟩; have HH4 := Lib.hid hh; have HB4 := Lib.hid hb4; have bb4 : BB w1 w4 := (by repeat' (first | assumption | exact BB.refl _ | apply BB.drew | apply BB.alloc | (refine BB.setCell ?_ (by first | exact Nat.le_refl _ | (simp; done) | (simp; omega) | omega)) | (refine BB.step ?_ (by assumption)))); have g4 : w1.heap.size ≤ w4.heap.size := bb4.size; (try ((first | (have q4 := zbi0 q3 hb4; clear q3c q3f q3) | (have q4 := zbi1 q3 hb4; clear q3c q3f q3) | (have q4 := zbi2 q3 hb4; clear q3c q3f q3) | (have q4 := zbi3 q3 hb4; clear q3c q3f q3) | (have q4 := zb_f hb4) | (have q4 := zb_e hb4) | (have q4 := zb_d hb4) | (have q4 := zb_c hb4) | (have q4 := zb_b hb4) | (have q4 := zb_a hb4)); have q4c := ZB.cell q4; have q4f := ZB.frozen q4)); clear hh)
        | (go_at_call 45; refine (gg_any g P Q G H sz _ (HG.out.below (by repeat' (first | assumption | exact BB.refl _ | apply BB.drew | apply BB.alloc | (refine BB.setCell ?_ (by first | exact Nat.le_refl _ | (simp; done) | (simp; omega) | omega)) | (refine BB.step ?_ (by assumption)))))).mono ?_; rintro e w3 ⟨ga, gl, gc, rfl, hg, hb3⟩; have HG3 := Lib.hid hg; have HB3 := Lib.hid hb3; have bb3 : BB w1 w3 := (by repeat' (first | assumption | exact BB.refl _ | apply BB.drew | apply BB.alloc | (refine BB.setCell ?_ (by first | exact Nat.le_refl _ | (simp; done) | (simp; omega) | omega)) | (refine BB.step ?_ (by assumption)))); have g3 : w1.heap.size ≤ w3.heap.size := bb3.size; (try ((first | (have q3 := zb_fd hb3) | (have q3 := zb_ed hb3) | (have q3 := zb_dd hb3) | (have q3 := zb_cd hb3) | (have q3 := zb_bd hb3) | (have q3 := zb_ad hb3)); have q3c := ZB.cell q3; have q3f := ZB.frozen q3)); clear hg))
    all_goals (
      go_wp2_with fail
      go_meet
      refine ⟨_, rfl, ?_, ?_, ?_⟩
      · show BB w1 _
        repeat' (first | assumption | exact BB.refl _ | apply BB.drew | apply BB.alloc | (refine BB.setCell ?_ (by first | exact Nat.le_refl _ | (simp; done) | (simp; omega) | omega)) | (refine BB.step ?_ (by assumption)))
      · show NB _ _ _
        repeat' (first | exact HM5.out | exact ZB.box q5 | (refine NB.put ?_ ?_) | (refine NB.new ?_ ?_; rotate_left; focus (first | rfl | (simp [World.setCell]; done))) | refine NB.alloc ?_ | refine HasBox.alloc ?_ | refine natS_new ?_)
      · show _ ≤ _
        first | exact Nat.le_refl _ | omega)
  case rest =>
    obtain ⟨D, rfl, HB, HN, HD⟩ := hcut
    have HE4 := Lib.hid (HE3.out.below HB.out)
    obtain ⟨da, dl, dc, cD, _, ND⟩ := HN.out.box
    obtain ⟨_, _, _, cr, fr, _⟩ := HE4.out.box 2 rfl
    have HND := Lib.hid ND
    clear ND HB HN HD HE3
    go_wp2_with fail
    exact (HE4.out.set 2 rfl HND.out (c := dc)).ret HS.out (i := 2) rfl rfl rfl
end Go.Proofs.YthefednendgclaaGreat
