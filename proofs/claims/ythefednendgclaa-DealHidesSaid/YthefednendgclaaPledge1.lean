/-
  Pledges: a coefficient, a pledge.
-/
import Derived.Test.YthefednendgclaaMulti
import Derived.Test.YthefednendgclaaGrpA
import Derived.Test.YthefednendgclaaCurve2
import Derived.Test.YthefednendgclaaBoxRow
import Derived.Deep.CutRange
set_option linter.unusedVariables false
set_option linter.unusedSimpArgs false
namespace Go.Proofs.Ythefednendgclaa
open Go Go.RowKit Sac

attribute [local go_sem] cell_alloc_lt frozen_alloc_lt le_two le_three lt_two lt_three lt_four cell_new2 frozen_new2 cell_new3 frozen_new3

set_option maxRecDepth 100000 in
set_option maxHeartbeats 4000000 in
theorem pat_any (a : Option Addr) (len cap i : Nat) (p : List Nat) (w : World) (h : NatsAt w a p) (hl : p.length = len) (hc : (len : Int) ≤ 10000) (hi : (i : Int) ≤ 100000) :
    Calls Try.prog 101 #[.slice a len cap, .int .i64 (i : Int)] w (RetS (p.getD i 0) w) := by
  have HL := Lib.hid hl
  clear hl
  by_cases hlt : (i : Int) < len
  · have hil : i < p.length := by rw [HL.out]; omega
    obtain ⟨x, hx⟩ : ∃ x, p.getD i 0 = x := ⟨_, rfl⟩
    obtain ⟨ad, xa, xl, xc, rfl, he, cx, Nx⟩ := h.get hil
    rw [hx] at Nx ⊢
    have HX := Lib.hid Nx
    have cx' : ∀ o, (w.alloc o).cell? (ad.add i) = some (.slice xa xl xc) := fun o => (World.cell?_alloc_some w _ o (by rw [cx]; rfl)).trans cx
    clear Nx he hil h hx
    go_enter Try.func101, Try.ntmps101
    go_wp2_with fail
    have hb := (Below.refl _ w).alloc (Nat.le_refl _) (Obj.cells #[Value.slice xa xl xc] 33)
    exact ret_nat rfl rfl (Blk.new w _ _) ⟨xa, xl, xc, rfl, HX.out.below hb, hb⟩
  · have hge : p.getD i 0 = 0 := by
      rw [List.getD_eq_getElem?_getD, List.getElem?_eq_none (by rw [HL.out]; omega)]; rfl
    rw [hge]
    have hd : decide ((i : Int) < (len : Int)) = false := decide_eq_false hlt
    clear h hge
    go_enter Try.func101, Try.ntmps101
    go_wp2_with fail
    have hb := (Below.refl _ w).alloc (Nat.le_refl _) (Obj.cells #[Value.slice none 0 0] 33)
    exact ret_nat rfl rfl (Blk.new w _ _) ⟨none, 0, 0, rfl, natS_nil _, hb⟩

theorem natsAt_new {w : World} {x : Option Addr} {ns : List Nat} {o : Obj} (hn : NatsAt w x ns) : NatsAt (w.alloc o) x ns := hn.below ((Below.refl _ w).alloc (Nat.le_refl _) _)
theorem natS_drew' {w : World} {x : Option Addr} {l n : Nat} (h : NatS w x l n) : NatS w.drew x l n := h
theorem natsAt_drew' {w : World} {x : Option Addr} {ns : List Nat} (h : NatsAt w x ns) : NatsAt w.drew x ns := h
theorem natsAt_two {w : World} {x0 x1 : Option Addr} {l0 l1 c0 c1 m0 m1 k : Nat} (h0 : NatS w x0 l0 m0) (h1 : NatS w x1 l1 m1) (hk : k = w.heap.size) :
    NatsAt (w.alloc (.cells #[.slice x0 l0 c0, .slice x1 l1 c1] 33)) (some ⟨k, 0, none⟩) [m0, m1] := by
  have hB := Blk.new' w [.slice x0 l0 c0, .slice x1 l1 c1] 33 k hk
  refine ⟨[.slice x0 l0 c0, .slice x1 l1 c1], rfl, Blk.rd (rest := []) hB, fun i hi => ?_⟩
  have hi' : i < 2 := hi
  match i, hi' with
  | 0, _ => exact ⟨_, _, _, rfl, natS_new h0⟩
  | 1, _ => exact ⟨_, _, _, rfl, natS_new h1⟩

set_option maxRecDepth 100000 in
set_option maxHeartbeats 8000000 in
theorem pof_any (g P Q G H sz : Nat) (xa : Option Addr) (xl xc x : Nat) (ya : Option Addr) (yl yc y : Nat) (w : World) (h : GroupAt w g P Q G H sz) (hP1 : 1 < P) (hx : NatS w xa xl x) (hy : NatS w ya yl y) (hxs : x < 2 ^ 1000) (hys : y < 2 ^ 1000) :
    Calls Try.prog 79 #[.pointer (some ⟨g, 0, none⟩), .agg #[.slice xa xl xc], .agg #[.slice ya yl yc]] w (RetS (multi P [G, H] [x, y]) w) := by
  obtain ⟨s, hs⟩ : ∃ s, s = w.heap.size := ⟨_, rfl⟩
  have hbA := (Below.refl _ w).alloc (Nat.le_refl _) (Obj.cells #[Value.slice xa xl xc] 33)
  have hbB : BB (w.alloc (Obj.cells #[Value.slice xa xl xc] 33)) ((w.alloc (Obj.cells #[Value.slice xa xl xc] 33)).alloc (Obj.cells #[Value.slice ya yl yc] 33)) := BB.alloc (BB.refl _)
  have hbC : BB ((w.alloc (Obj.cells #[Value.slice xa xl xc] 33)).alloc (Obj.cells #[Value.slice ya yl yc] 33)) (((w.alloc (Obj.cells #[Value.slice xa xl xc] 33)).alloc (Obj.cells #[Value.slice ya yl yc] 33)).alloc (Obj.cells #[Value.slice none 0 0] 33)) := BB.alloc (BB.refl _)
  have hbAC := BB.step (BB.step hbA hbB) hbC
  have E1 := (NE.init w s hs).alloc s hs hx (c := xc)
  have E2 := E1.alloc (s + 1) (by rw [hs]; simp) (hy.below hbA) (c := yc)
  have HE3 := Lib.hid (E2.alloc (s + 1 + 1) (by rw [hs]; simp) (natS_nil _) (c := 0))
  have HG := Lib.hid (h.below hbAC)
  have HS := Lib.hid hs
  have HC := Lib.hid (And.intro hP1 (And.intro hxs hys))
  clear h hx hy E1 E2 hbA hbB hbC hbAC hP1 hxs hys
  go_enter Try.func79, Try.ntmps79
  go_wp2_with fail
  rw [← hs]
  clear hs
  generalize ((w.alloc (Obj.cells #[Value.slice xa xl xc] 33)).alloc (Obj.cells #[Value.slice ya yl yc] 33)).alloc (Obj.cells #[Value.slice none 0 0] 33) = w1 at HE3 HG ⊢
  obtain ⟨xa, xl, xc, gX, NX⟩ := HE3.out.get 0 rfl
  obtain ⟨ya, yl, yc, gY, NY⟩ := HE3.out.get 1 rfl
  have HX := Lib.hid NX
  have HY := Lib.hid NY
  clear NX NY
  go_cut [7] from 13 to 24 (fun t7 wx => ∃ (D : Nat), t7 = .pointer (some ⟨D, 0, none⟩) ∧ Hid (BB w1 wx) ∧ Hid (NB wx D (multi P [G, H] [x, y])) ∧ Hid (w1.heap.size ≤ D))
  case first =>
    go_region_held3 (fun w' => BB w1 w') (repeat' (first | assumption | exact BB.refl _ | apply BB.drew | apply BB.alloc | (refine BB.setCell ?_ (by first | exact Nat.le_refl _ | (simp; done) | (simp; omega) | omega)) | (refine BB.step ?_ (by assumption))))
      (first
        | (go_at_call 119; refine (multi_any g P Q G H sz _ 2 _ [G, H] _ _ [x, y] _ (HG.out.below (by repeat' (first | assumption | exact BB.refl _ | apply BB.drew | apply BB.alloc | (refine BB.setCell ?_ (by first | exact Nat.le_refl _ | (simp; done) | (simp; omega) | omega)) | (refine BB.step ?_ (by assumption))))) HC.out.1 (by repeat' (first | with_reducible exact HG3.out | with_reducible exact HH4.out | with_reducible exact HX.out | with_reducible exact HY.out | (with_reducible refine natsAt_two ?_ ?_ ?_; rotate_left 2; focus (first | rfl | (simp; done))) | with_reducible refine natsAt_new ?_ | with_reducible refine natS_new ?_ | with_reducible refine NatsAt.below ?_ HB4.out | with_reducible refine NatsAt.below ?_ HB3.out | with_reducible refine NatS.below ?_ HB4.out | with_reducible refine NatS.below ?_ HB3.out | with_reducible refine natS_drew' ?_ | with_reducible refine natsAt_drew' ?_)) rfl (by repeat' (first | with_reducible exact HG3.out | with_reducible exact HH4.out | with_reducible exact HX.out | with_reducible exact HY.out | (with_reducible refine natsAt_two ?_ ?_ ?_; rotate_left 2; focus (first | rfl | (simp; done))) | with_reducible refine natsAt_new ?_ | with_reducible refine natS_new ?_ | with_reducible refine NatsAt.below ?_ HB4.out | with_reducible refine NatsAt.below ?_ HB3.out | with_reducible refine NatS.below ?_ HB4.out | with_reducible refine NatS.below ?_ HB3.out | with_reducible refine natS_drew' ?_ | with_reducible refine natsAt_drew' ?_)) rfl (by decide) (by intro e he; simp only [List.mem_cons, List.not_mem_nil, or_false] at he; rcases he with rfl | rfl; exact HC.out.2.1; exact HC.out.2.2)).mono ?_; rintro e w5 ⟨ma, ml, mc, rfl, hm, hb5⟩; have HM5 := Lib.hid hm; have HB5 := Lib.hid hb5; have bb5 : BB w1 w5 := (by repeat' (first | assumption | exact BB.refl _ | apply BB.drew | apply BB.alloc | (refine BB.setCell ?_ (by first | exact Nat.le_refl _ | (simp; done) | (simp; omega) | omega)) | (refine BB.step ?_ (by assumption)))); have g5 : w1.heap.size ≤ w5.heap.size := bb5.size; (try ((first | (have q5 := zbi0 q4 hb5; clear q4c q4f q4) | (have q5 := zbi1 q4 hb5; clear q4c q4f q4) | (have q5 := zbi2 q4 hb5; clear q4c q4f q4) | (have q5 := zbi3 q4 hb5; clear q4c q4f q4) | (have q5 := zb_f hb5) | (have q5 := zb_e hb5) | (have q5 := zb_d hb5) | (have q5 := zb_c hb5) | (have q5 := zb_b hb5) | (have q5 := zb_a hb5)); have q5c := ZB.cell q5; have q5f := ZB.frozen q5)); clear hm)
        | (go_at_call 76; refine (gh_any g P Q G H sz _ (HG.out.below (by repeat' (first | assumption | exact BB.refl _ | apply BB.drew | apply BB.alloc | (refine BB.setCell ?_ (by first | exact Nat.le_refl _ | (simp; done) | (simp; omega) | omega)) | (refine BB.step ?_ (by assumption)))))).mono ?_; rintro e w4 ⟨ha, hl, hc, rfl, hh, hb4⟩; have HH4 := Lib.hid hh; have HB4 := Lib.hid hb4; have bb4 : BB w1 w4 := (by repeat' (first | assumption | exact BB.refl _ | apply BB.drew | apply BB.alloc | (refine BB.setCell ?_ (by first | exact Nat.le_refl _ | (simp; done) | (simp; omega) | omega)) | (refine BB.step ?_ (by assumption)))); have g4 : w1.heap.size ≤ w4.heap.size := bb4.size; (try ((first | (have q4 := zbi0 q3 hb4; clear q3c q3f q3) | (have q4 := zbi1 q3 hb4; clear q3c q3f q3) | (have q4 := zbi2 q3 hb4; clear q3c q3f q3) | (have q4 := zbi3 q3 hb4; clear q3c q3f q3) | (have q4 := zb_f hb4) | (have q4 := zb_e hb4) | (have q4 := zb_d hb4) | (have q4 := zb_c hb4) | (have q4 := zb_b hb4) | (have q4 := zb_a hb4)); have q4c := ZB.cell q4; have q4f := ZB.frozen q4)); clear hh)
        | (go_at_call 22; refine (gg_any g P Q G H sz _ (HG.out.below (by repeat' (first | assumption | exact BB.refl _ | apply BB.drew | apply BB.alloc | (refine BB.setCell ?_ (by first | exact Nat.le_refl _ | (simp; done) | (simp; omega) | omega)) | (refine BB.step ?_ (by assumption)))))).mono ?_; rintro e w3 ⟨ga, gl, gc, rfl, hg, hb3⟩; have HG3 := Lib.hid hg; have HB3 := Lib.hid hb3; have bb3 : BB w1 w3 := (by repeat' (first | assumption | exact BB.refl _ | apply BB.drew | apply BB.alloc | (refine BB.setCell ?_ (by first | exact Nat.le_refl _ | (simp; done) | (simp; omega) | omega)) | (refine BB.step ?_ (by assumption)))); have g3 : w1.heap.size ≤ w3.heap.size := bb3.size; (try ((first | (have q3 := zb_fd hb3) | (have q3 := zb_ed hb3) | (have q3 := zb_dd hb3) | (have q3 := zb_cd hb3) | (have q3 := zb_bd hb3) | (have q3 := zb_ad hb3)); have q3c := ZB.cell q3; have q3f := ZB.frozen q3)); clear hg))
    all_goals (
      go_wp2_with fail
      go_meet
      refine ⟨_, rfl, ?_, ?_, ?_⟩
      · show BB w1 _
        repeat' (first | assumption | exact BB.refl _ | apply BB.drew | apply BB.alloc | (refine BB.setCell ?_ (by first | exact Nat.le_refl _ | (simp; done) | (simp; omega) | omega)) | (refine BB.step ?_ (by assumption)))
      · show NB _ _ _
        repeat' (first | exact HM5.out | exact ZB.box q5 | (refine NB.put ?_ ?_) | (refine NB.new ?_ ?_; rotate_left; focus (first | rfl | (simp [World.setCell]; done))) | refine NB.alloc ?_ | refine HasBox.alloc ?_ | refine natS_new ?_)
      · show _ ≤ _
        first | exact Nat.le_refl _ | omega)
  case rest =>
    obtain ⟨D, rfl, HB, HN, HD⟩ := hcut
    have HE4 := Lib.hid (HE3.out.below HB.out)
    obtain ⟨da, dl, dc, cD, _, ND⟩ := HN.out.box
    obtain ⟨_, _, _, cr, fr, _⟩ := HE4.out.box 2 rfl
    have HND := Lib.hid ND
    clear ND HB HN HD HE3
    go_wp2_with fail
    exact (HE4.out.set 2 rfl HND.out (c := dc)).ret HS.out (i := 2) rfl rfl rfl
end Go.Proofs.Ythefednendgclaa
