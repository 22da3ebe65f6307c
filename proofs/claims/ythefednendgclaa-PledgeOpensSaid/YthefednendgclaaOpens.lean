/-
  The law PledgeOpens: it returns true.
-/
import Derived.Test.YthefednendgclaaLaw13
import Derived.Test.YthefednendgclaaPledge4
import Derived.Test.YthefednendgclaaBoxRow
import Derived.Deep.CutRange
set_option linter.unusedVariables false
set_option linter.unusedSimpArgs false
namespace Go.Proofs.Ythefednendgclaa
open Go Go.RowKit Sac NT

set_option maxRecDepth 100000 in
set_option maxHeartbeats 8000000 in
theorem opens_any (n : Int) (a : Option Addr) (len cap : Nat) (l : List Nat) (b : Option Addr) (lenb capb : Nat) (m : List Nat) (x y : Nat) (w : World)
    (ha : RdC w a (l.map w64)) (hl : l.length = len) (hc : (len : Int) ≤ cap) (hx : ∀ y ∈ l, y < 18446744073709551616)
    (hb : RdC w b (m.map w64)) (hm : m.length = lenb) (hcb : (lenb : Int) ≤ capb) (hy : ∀ y ∈ m, y < 18446744073709551616) (hxx : x < 18446744073709551616) (hyy : y < 18446744073709551616) :
    Calls Try.prog 8 #[.int .i64 n, .slice a len cap, .slice b lenb capb, .int .u64 (x : Int), .int .u64 (y : Int)] w fun e w' => e = .returned (.bool true) ∧ Below w.heap.size w w' := by
  have HA := Lib.hid (And.intro ha (And.intro hl (And.intro hc hx)))
  have HM := Lib.hid (And.intro hb (And.intro hm (And.intro hcb hy)))
  have HXX := Lib.hid hxx
  have HYY := Lib.hid hyy
  clear ha hl hc hx hb hm hcb hy hxx hyy
  by_cases h8 : (8 : Int) < (len : Int)
  · go_enter Try.func8, Try.ntmps8
    go_wp2_with fail
    refine (lives13_any w).mono ?_
    rintro e w2 ⟨rfl, hb2⟩
    have HB2 := Lib.hid hb2
    clear hb2
    go_wp2_with fail
    refine (lives13_any w2).mono ?_
    rintro e w3 ⟨rfl, hb3⟩
    have HB3 := Lib.hid (HB2.out.trans (hb3.mono HB2.out.size))
    clear hb3
    go_wp2_with fail
    go_ret
    exact ⟨rfl, HB3.out⟩
  by_cases h8' : (8 : Int) < (lenb : Int)
  · go_enter Try.func8, Try.ntmps8
    go_wp2_with fail
    refine (lives13_any w).mono ?_
    rintro e w2 ⟨rfl, hb2⟩
    have HB2 := Lib.hid hb2
    clear hb2
    go_wp2_with fail
    refine (lives13_any w2).mono ?_
    rintro e w3 ⟨rfl, hb3⟩
    have HB3 := Lib.hid (HB2.out.trans (hb3.mono HB2.out.size))
    clear hb3
    go_wp2_with fail
    go_ret
    exact ⟨rfl, HB3.out⟩
  obtain ⟨s, hs⟩ : ∃ s, s = w.heap.size := ⟨_, rfl⟩
  obtain ⟨k, hk⟩ : ∃ k, kOf n = k := ⟨_, rfl⟩
  have HE0 := Lib.hid (GE.init w s hs)
  have HS := Lib.hid hs
  have HK := Lib.hid hk
  clear hs hk
  go_enter Try.func8, Try.ntmps8
  go_wp2_with fail
  refine (lives13_any w).mono ?_
  rintro e w2 ⟨rfl, hb2⟩
  have HE2 := Lib.hid (HE0.out.below hb2)
  clear hb2 HE0
  go_wp2_with fail
  refine (group_any n w2).mono ?_
  rintro e w3 ⟨g, rfl, hg, hb3⟩
  have HE3 := Lib.hid ((HE2.out.below hb3).add (P := fun w => GroupAt w g (gP k) (gQ k) (gG k) (gH k) (gS k)) (groupAt_stays (by decide) (by decide) (by decide)) (by rw [← HK.out]; exact hg))
  clear hb3 HE2 hg
  go_wp2_with fail
  refine (gfield_any g _ _ _ _ _ w3 (HE3.out.has 0 rfl)).mono ?_
  rintro e w4 ⟨r, rfl, hr, hb4⟩
  have HE4 := Lib.hid ((HE3.out.below hb4).add (ringAt_stays (by decide) (by decide)) hr)
  clear hb4 HE3 hr
  obtain ⟨F, hF⟩ : ∃ F : List (World → Prop), F = [fun w => GroupAt w g (gP k) (gQ k) (gG k) (gH k) (gS k), fun w => RingAt w r (gQ k)] := ⟨_, rfl⟩
  have f0 : Hid (F[0]? = some (fun w => GroupAt w g (gP k) (gQ k) (gG k) (gH k) (gS k))) := by show _ = _; rw [hF]; rfl
  have f1 : Hid (F[1]? = some (fun w => RingAt w r (gQ k))) := by show _ = _; rw [hF]; rfl
  have HE5 : Hid (GE w w4 s [] F) := by rw [hF]; exact HE4.out
  clear HE4 hF
  go_wp2_with fail
  refine (nums_any a len cap l w4 (HA.out.1.below (HS.out ▸ HE5.out.bel)) HA.out.2.1 HA.out.2.2.1 (by omega) HA.out.2.2.2).mono ?_
  rintro e w5 ⟨v, rfl, hrow, hb5⟩
  obtain ⟨pa, pc, rfl, hp1, hp2, hat, _⟩ := hrow.form
  have HE6 := Lib.hid (HE5.out.pushRow hb5 hrow)
  rw [HA.out.2.1] at HE6 ⊢
  clear hb5 hrow hat hp1 hp2 HE5
  go_wp2_with fail
  refine (nums_any b lenb capb m w5 (HM.out.1.below (HS.out ▸ HE6.out.bel)) HM.out.2.1 HM.out.2.2.1 (by omega) HM.out.2.2.2).mono ?_
  rintro e w6 ⟨v, rfl, hrow, hb6⟩
  obtain ⟨qa, qc, rfl, hp1, hp2, hat, _⟩ := hrow.form
  have HE7 := Lib.hid (HE6.out.pushRow hb6 hrow)
  rw [HM.out.2.1] at HE7 ⊢
  clear hb6 hrow hat hp1 hp2 HE6
  go_wp2_with fail
  refine (new_s x w6 HXX.out).mono ?_
  rintro e w7 ⟨ya, yl, yc, rfl, hY, hb7⟩
  obtain ⟨Y, hYs⟩ : ∃ Y, Y = w7.heap.size := ⟨_, rfl⟩
  have HE8 := Lib.hid ((HE7.out.below hb7).alloc Y hYs hY (c := yc))
  clear hb7 hY HE7
  go_wp2_with fail
  rw [← hYs]
  clear hYs
  generalize w7.alloc (Obj.cells #[Value.slice ya yl yc] 33) = w8 at HE8 ⊢
  obtain ⟨A, hA⟩ : ∃ A, evalm (gQ k) l (x % gQ k) = A := ⟨_, rfl⟩
  obtain ⟨B, hB⟩ : ∃ B, evalm (gQ k) m (x % gQ k) = B := ⟨_, rfl⟩
  have HAE := Lib.hid hA
  have HBE := Lib.hid hB
  have hR := HE8.out.has 1 f1.out
  have hP := (HE8.out.row 0 rfl).toAt
  have hQ := (HE8.out.row 1 rfl).toAt
  obtain ⟨ya, yl, yc, gY, NY⟩ := HE8.out.get 2 rfl
  have CP : ∀ w', BB w8 w' → Calls Try.prog 23 #[.pointer (some ⟨r, 0, none⟩), .slice pa len pc, .agg #[.slice ya yl yc]] w' (RetS A w') := fun w' h => by
    rw [← hA]; exact eval_any r _ pa len pc l ya yl yc x w' (hR.below h) (hP.below h) HA.out.2.1 (by omega) (NY.below h)
  have CQ : ∀ w', BB w8 w' → Calls Try.prog 23 #[.pointer (some ⟨r, 0, none⟩), .slice qa lenb qc, .agg #[.slice ya yl yc]] w' (RetS B w') := fun w' h => by
    rw [← hB]; exact eval_any r _ qa lenb qc m ya yl yc x w' (hR.below h) (hQ.below h) HM.out.2.1 (by omega) (NY.below h)
  clear hA hB hR hP hQ NY
  go_wp2_with fail
  go_cut [16, 17] from 46 to 53 (fun t17 t18 wx => ∃ (D E : Nat), t17 = .pointer (some ⟨D, 0, none⟩) ∧ t18 = .pointer (some ⟨E, 0, none⟩) ∧ Hid (BB w8 wx) ∧ Hid (NB wx D A) ∧ Hid (NB wx E B) ∧ Hid (D ≠ E) ∧ Hid (w8.heap.size ≤ D) ∧ Hid (w8.heap.size ≤ E))
  case first =>
    go_region_held3 (fun w' => BB w8 w') (repeat' (first | assumption | exact BB.refl _ | apply BB.drew | apply BB.alloc | (refine BB.setCell ?_ (by first | exact Nat.le_refl _ | (simp; done) | (simp; omega) | omega)) | (refine BB.step ?_ (by assumption))))
      (first
        | (go_at_call 23; (with_reducible refine (CQ w10 (by repeat' (first | assumption | exact BB.refl _ | apply BB.drew | apply BB.alloc | (refine BB.setCell ?_ (by first | exact Nat.le_refl _ | (simp; done) | (simp; omega) | omega)) | (refine BB.step ?_ (by assumption))))).mono ?_); rintro e w11 ⟨ba, bl, bc, rfl, hNB, hb11⟩; have HNB11 := Lib.hid hNB; have bb11 : BB w8 w11 := (by repeat' (first | assumption | exact BB.refl _ | apply BB.drew | apply BB.alloc | (refine BB.setCell ?_ (by first | exact Nat.le_refl _ | (simp; done) | (simp; omega) | omega)) | (refine BB.step ?_ (by assumption)))); have g11 : w8.heap.size ≤ w11.heap.size := bb11.size; clear hNB; try (have b1' := Blk.below b1 hb11 (Nat.lt_of_lt_of_le b1.lt (by simp)); have b1c := b1'.cell 0; have b1f := b1'.frozen 0; have b1ca := fun o => (b1'.alloc o).cell 0; have b1fa := fun o => (b1'.alloc o).frozen 0; simp only [List.getElem?_cons_zero] at b1c b1ca; have n1 := b1'.lt; have n1a := Nat.ne_of_lt n1; have n1b := Nat.ne_of_gt n1); try (have b2' := Blk.below b2 hb11 (Nat.lt_of_lt_of_le b2.lt (by simp)); have b2c := b2'.cell 0; have b2f := b2'.frozen 0; have b2ca := fun o => (b2'.alloc o).cell 0; have b2fa := fun o => (b2'.alloc o).frozen 0; simp only [List.getElem?_cons_zero] at b2c b2ca; have n2 := b2'.lt; have n2a := Nat.ne_of_lt n2; have n2b := Nat.ne_of_gt n2))
        | (go_at_call 23; (with_reducible refine (CQ (w10.alloc (Obj.cells #[Value.slice none 0 0] 33)) (by repeat' (first | assumption | exact BB.refl _ | apply BB.drew | apply BB.alloc | (refine BB.setCell ?_ (by first | exact Nat.le_refl _ | (simp; done) | (simp; omega) | omega)) | (refine BB.step ?_ (by assumption))))).mono ?_); rintro e w11 ⟨ba, bl, bc, rfl, hNB, hb11⟩; have HNB11 := Lib.hid hNB; have bb11 : BB w8 w11 := (by repeat' (first | assumption | exact BB.refl _ | apply BB.drew | apply BB.alloc | (refine BB.setCell ?_ (by first | exact Nat.le_refl _ | (simp; done) | (simp; omega) | omega)) | (refine BB.step ?_ (by assumption)))); have g11 : w8.heap.size ≤ w11.heap.size := bb11.size; clear hNB; have d1 := (Blk.new w10 [Value.slice none 0 0] 33).below hb11 (by simp); have d1c := d1.cell 0; have d1f := d1.frozen 0; have d1ca := fun o => (d1.alloc o).cell 0; have d1fa := fun o => (d1.alloc o).frozen 0; simp only [List.getElem?_cons_zero] at d1c d1ca; have m1 := d1.lt; have m1a := Nat.ne_of_lt m1; have m1b := Nat.ne_of_gt m1; try (have b1' := Blk.below (b1.alloc (Obj.cells #[Value.slice none 0 0] 33)) hb11 (b1.alloc (Obj.cells #[Value.slice none 0 0] 33)).lt; have b1c := b1'.cell 0; have b1f := b1'.frozen 0; have b1ca := fun o => (b1'.alloc o).cell 0; have b1fa := fun o => (b1'.alloc o).frozen 0; simp only [List.getElem?_cons_zero] at b1c b1ca; have n1 := b1'.lt; have n1a := Nat.ne_of_lt n1; have n1b := Nat.ne_of_gt n1); try (have b2' := Blk.below b2 hb11 (Nat.lt_of_lt_of_le b2.lt (by simp)); have b2c := b2'.cell 0; have b2f := b2'.frozen 0; have b2ca := fun o => (b2'.alloc o).cell 0; have b2fa := fun o => (b2'.alloc o).frozen 0; simp only [List.getElem?_cons_zero] at b2c b2ca; have n2 := b2'.lt; have n2a := Nat.ne_of_lt n2; have n2b := Nat.ne_of_gt n2))
        | (go_at_call 23; (with_reducible refine (CQ ((w10.alloc (Obj.cells #[Value.slice none 0 0] 33)).alloc (Obj.cells #[Value.slice none 0 0] 33)) (by repeat' (first | assumption | exact BB.refl _ | apply BB.drew | apply BB.alloc | (refine BB.setCell ?_ (by first | exact Nat.le_refl _ | (simp; done) | (simp; omega) | omega)) | (refine BB.step ?_ (by assumption))))).mono ?_); rintro e w11 ⟨ba, bl, bc, rfl, hNB, hb11⟩; have HNB11 := Lib.hid hNB; have bb11 : BB w8 w11 := (by repeat' (first | assumption | exact BB.refl _ | apply BB.drew | apply BB.alloc | (refine BB.setCell ?_ (by first | exact Nat.le_refl _ | (simp; done) | (simp; omega) | omega)) | (refine BB.step ?_ (by assumption)))); have g11 : w8.heap.size ≤ w11.heap.size := bb11.size; clear hNB; have d1 := ((Blk.new w10 [Value.slice none 0 0] 33).alloc (Obj.cells #[Value.slice none 0 0] 33)).below hb11 (by simp; omega); have d2 := (Blk.new' (w10.alloc (Obj.cells #[Value.slice none 0 0] 33)) [Value.slice none 0 0] 33 (w10.heap.size + 1) (by simp)).below hb11 (by simp); have d1c := d1.cell 0; have d1f := d1.frozen 0; have d2c := d2.cell 0; have d2f := d2.frozen 0; simp only [List.getElem?_cons_zero] at d1c d2c)
        | (go_at_call 23; (with_reducible refine (CP w8.drew (by repeat' (first | assumption | exact BB.refl _ | apply BB.drew | apply BB.alloc | (refine BB.setCell ?_ (by first | exact Nat.le_refl _ | (simp; done) | (simp; omega) | omega)) | (refine BB.step ?_ (by assumption))))).mono ?_); rintro e w10 ⟨aa, al, ac, rfl, hNA, hb10⟩; have HNA10 := Lib.hid hNA; have bb10 : BB w8 w10 := (by repeat' (first | assumption | exact BB.refl _ | apply BB.drew | apply BB.alloc | (refine BB.setCell ?_ (by first | exact Nat.le_refl _ | (simp; done) | (simp; omega) | omega)) | (refine BB.step ?_ (by assumption)))); have g10 : w8.heap.size ≤ w10.heap.size := bb10.size; clear hNA)
        | (go_at_call 23; (with_reducible refine (CP (w8.alloc (Obj.cells #[Value.slice none 0 0] 33)).drew (by repeat' (first | assumption | exact BB.refl _ | apply BB.drew | apply BB.alloc | (refine BB.setCell ?_ (by first | exact Nat.le_refl _ | (simp; done) | (simp; omega) | omega)) | (refine BB.step ?_ (by assumption))))).mono ?_); rintro e w10 ⟨aa, al, ac, rfl, hNA, hb10⟩; have HNA10 := Lib.hid hNA; have bb10 : BB w8 w10 := (by repeat' (first | assumption | exact BB.refl _ | apply BB.drew | apply BB.alloc | (refine BB.setCell ?_ (by first | exact Nat.le_refl _ | (simp; done) | (simp; omega) | omega)) | (refine BB.step ?_ (by assumption)))); have g10 : w8.heap.size ≤ w10.heap.size := bb10.size; clear hNA; obtain ⟨b1, _, _⟩ := k_one (w := w8) (v := .slice none 0 0) (e := 33) hb10; have l1 := b1.lt; have l1a := Nat.ne_of_lt l1; have l1b := Nat.ne_of_gt l1)
        | (go_at_call 23; (with_reducible refine (CP ((w8.alloc (Obj.cells #[Value.slice none 0 0] 33)).alloc (Obj.cells #[Value.slice none 0 0] 33)).drew (by repeat' (first | assumption | exact BB.refl _ | apply BB.drew | apply BB.alloc | (refine BB.setCell ?_ (by first | exact Nat.le_refl _ | (simp; done) | (simp; omega) | omega)) | (refine BB.step ?_ (by assumption))))).mono ?_); rintro e w10 ⟨aa, al, ac, rfl, hNA, hb10⟩; have HNA10 := Lib.hid hNA; have bb10 : BB w8 w10 := (by repeat' (first | assumption | exact BB.refl _ | apply BB.drew | apply BB.alloc | (refine BB.setCell ?_ (by first | exact Nat.le_refl _ | (simp; done) | (simp; omega) | omega)) | (refine BB.step ?_ (by assumption)))); have g10 : w8.heap.size ≤ w10.heap.size := bb10.size; clear hNA; obtain ⟨b1, b2, _⟩ := k_two (w := w8) (v := .slice none 0 0) (e := 33) (v' := .slice none 0 0) (e' := 33) hb10))
    all_goals (
      go_wp2_with fail
      go_meet
      refine ⟨_, _, rfl, rfl, ?_, ?_, ?_, ?_, ?_, ?_⟩
      · show BB w8 _
        repeat' (first | assumption | exact BB.refl _ | apply BB.drew | apply BB.alloc | (refine BB.setCell ?_ (by first | exact Nat.le_refl _ | (simp; done) | (simp; omega) | omega)) | (refine BB.step ?_ (by assumption)))
      · show NB _ _ A
        repeat' (first | exact HNB11.out | exact HNA10.out | exact ⟨_, b1'⟩ | exact ⟨_, b2'⟩ | exact ⟨_, d1⟩ | exact ⟨_, d2⟩ | (refine NB.put ?_ ?_) | (refine NB.new ?_ ?_; rotate_left; focus (first | rfl | (simp [World.setCell]; done))) | (refine NB.other ?_ ?_ ?_; rotate_left 2; omega) | refine NB.alloc ?_ | (refine HasBox.new ?_; focus (first | rfl | (simp [World.setCell]; done))) | refine HasBox.alloc ?_ | refine HasBox.set ?_ | (refine natS_box ?_ ?_) | refine natS_new ?_ | refine NatS.below ?_ hb11)
      · show NB _ _ B
        repeat' (first | exact HNB11.out | exact HNA10.out | exact ⟨_, b1'⟩ | exact ⟨_, b2'⟩ | exact ⟨_, d1⟩ | exact ⟨_, d2⟩ | (refine NB.put ?_ ?_) | (refine NB.new ?_ ?_; rotate_left; focus (first | rfl | (simp [World.setCell]; done))) | (refine NB.other ?_ ?_ ?_; rotate_left 2; omega) | refine NB.alloc ?_ | (refine HasBox.new ?_; focus (first | rfl | (simp [World.setCell]; done))) | refine HasBox.alloc ?_ | refine HasBox.set ?_ | (refine natS_box ?_ ?_) | refine natS_new ?_ | refine NatS.below ?_ hb11)
      · show _ ≠ _
        omega
      · show _ ≤ _
        omega
      · show _ ≤ _
        omega)
  case rest =>
    obtain ⟨D, E, rfl, rfl, HBc, HDc, HEc, HNE, hD, hE⟩ := hcut
    have HE2 := Lib.hid (GE.two HE8.out HBc.out HDc.out HEc.out HNE.out hD.out hE.out)
    clear HE8 HBc HDc HEc HNE hD hE CP CQ gY ya yl yc
    obtain ⟨da, dl, dc, gD, ND⟩ := HE2.out.get 3 rfl
    have HND := Lib.hid ND
    have HR := Lib.hid (HE2.out.has 1 f1.out)
    clear ND
    generalize wc = wa at HE2 gD HND HR ⊢
    obtain ⟨o, ho⟩ : ∃ o, (A + y) % gQ k = o := ⟨_, rfl⟩
    have HO := Lib.hid ho
    clear ho
    go_wp2_with fail
    go_cut [18] from 54 to 58 (fun t18 wx => ∃ (T : Nat), t18 = .pointer (some ⟨T, 0, none⟩) ∧ Hid (BB wa wx) ∧ Hid (NB wx T o) ∧ Hid (wa.heap.size ≤ T))
    case first =>
      go_region_held3 (fun w' => BB wa w') (repeat' (first | assumption | exact BB.refl _ | apply BB.drew | apply BB.alloc | (refine BB.setCell ?_ (by first | exact Nat.le_refl _ | (simp; done) | (simp; omega) | omega)) | (refine BB.step ?_ (by assumption))))
        (first
          | (go_at_call 27; refine (radd_any r _ da ba dl dc bl bc A y _ (HR.out.below (by repeat' (first | assumption | exact BB.refl _ | apply BB.drew | apply BB.alloc | (refine BB.setCell ?_ (by first | exact Nat.le_refl _ | (simp; done) | (simp; omega) | omega)) | (refine BB.step ?_ (by assumption))))) (HND.out.below (by repeat' (first | assumption | exact BB.refl _ | apply BB.drew | apply BB.alloc | (refine BB.setCell ?_ (by first | exact Nat.le_refl _ | (simp; done) | (simp; omega) | omega)) | (refine BB.step ?_ (by assumption))))) (by repeat' (first | with_reducible exact HN11.out | with_reducible refine natS_new ?_))).mono ?_; rw [HO.out]; rintro e w12 ⟨ca, cl, cc, rfl, hm, hb12⟩; have HM12 := Lib.hid hm; have bb12 : BB wa w12 := (by repeat' (first | assumption | exact BB.refl _ | apply BB.drew | apply BB.alloc | (refine BB.setCell ?_ (by first | exact Nat.le_refl _ | (simp; done) | (simp; omega) | omega)) | (refine BB.step ?_ (by assumption)))); have g12 : wa.heap.size ≤ w12.heap.size := bb12.size; (try ((first | (have q12 := zbi0 q11 hb12; clear q11c q11f q11) | (have q12 := zbi1 q11 hb12; clear q11c q11f q11) | (have q12 := zb_a hb12)); have q12c := ZB.cell q12; have q12f := ZB.frozen q12)); clear hm)
          | (go_at_call 20; refine (new_s y _ HYY.out).mono ?_; rintro e w11 ⟨ba, bl, bc, rfl, hn, hb11⟩; have HN11 := Lib.hid hn; have bb11 : BB wa w11 := (by repeat' (first | assumption | exact BB.refl _ | apply BB.drew | apply BB.alloc | (refine BB.setCell ?_ (by first | exact Nat.le_refl _ | (simp; done) | (simp; omega) | omega)) | (refine BB.step ?_ (by assumption)))); have g11 : wa.heap.size ≤ w11.heap.size := bb11.size; (try ((first | (have q11 := zb_ad hb11)); have q11c := ZB.cell q11; have q11f := ZB.frozen q11)); clear hn))
      all_goals (
        go_wp2_with fail
        go_meet
        refine ⟨_, rfl, ?_, ?_, ?_⟩
        · show BB wa _
          repeat' (first | assumption | exact BB.refl _ | apply BB.drew | apply BB.alloc | (refine BB.setCell ?_ (by first | exact Nat.le_refl _ | (simp; done) | (simp; omega) | omega)) | (refine BB.step ?_ (by assumption)))
        · show NB _ _ _
          repeat' (first | exact HM12.out | exact ZB.box q12 | (refine NB.put ?_ ?_) | (refine NB.new ?_ ?_; rotate_left; focus (first | rfl | (simp [World.setCell]; done))) | refine NB.alloc ?_ | refine HasBox.alloc ?_ | refine natS_new ?_)
        · show _ ≤ _
          first | exact Nat.le_refl _ | omega)
    case rest =>
      obtain ⟨T, rfl, HBc, HTc, hT⟩ := hcut
      have HE3 := Lib.hid (GE.one HE2.out HBc.out HTc.out hT.out)
      clear HE2 HBc HTc hT gD HND HR da dl dc
      obtain ⟨ya, yl, yc, gY, NY⟩ := HE3.out.get 2 rfl
      obtain ⟨da, dl, dc, gD, ND⟩ := HE3.out.get 3 rfl
      obtain ⟨ea, el, ec, gE, NE⟩ := HE3.out.get 4 rfl
      obtain ⟨ta, tl, tc, gT, NT⟩ := HE3.out.get 5 rfl
      have HNY := Lib.hid NY
      have HND := Lib.hid ND
      have HNE := Lib.hid NE
      have HNT := Lib.hid NT
      have HG := Lib.hid (HE3.out.has 0 f0.out)
      have HP := Lib.hid (HE3.out.row 0 rfl).toAt
      have HQ := Lib.hid (HE3.out.row 1 rfl).toAt
      have hoq : o < gQ k := HO.out ▸ Nat.mod_lt _ (gQ_pos k)
      have hAq : A < gQ k := HAE.out ▸ evalm_lt (gQ_pos k) l _
      have hBq : B < gQ k := HBE.out ▸ evalm_lt (gQ_pos k) m _
      have h1000 : 18446744073709551616 < 2 ^ 1000 := @lt_twop _ 65 1000 (show 18446744073709551616 < 2 ^ 65 by decide) (by decide)
      have HSM := Lib.hid (show o < 2 ^ 1000 ∧ A < 2 ^ 1000 ∧ B < 2 ^ 1000 ∧ (∀ a ∈ l, a < 2 ^ 1000) ∧ (∀ a ∈ m, a < 2 ^ 1000) from
        ⟨Nat.lt_trans (Nat.lt_trans hoq (gQ_lt k)) h1000, Nat.lt_trans (Nat.lt_trans hAq (gQ_lt k)) h1000, Nat.lt_trans (Nat.lt_trans hBq (gQ_lt k)) h1000, fun a ha => Nat.lt_trans (HA.out.2.2.2 a ha) h1000, fun a ha => Nat.lt_trans (HM.out.2.2.2 a ha) h1000⟩)
      obtain ⟨b0, hb0⟩ : ∃ b0, decide (o = A) = b0 := ⟨_, rfl⟩
      have HF2 : Hid (decide (evalx (gP k) (l.map fun a => gG k ^ a % gP k) (x % gQ k) = gG k ^ o % gP k) = b0) := by
        show _ = _
        rw [← hb0]; exact decide_eq_decide.2 (by rw [fits_iff k l x o hoq, HAE.out])
      have HF1 : Hid (decide (evalx (gP k) (l.map fun a => gG k ^ a % gP k) (x % gQ k) = gG k ^ A % gP k) = true) := by
        show _ = _
        exact decide_eq_true ((fits_iff k l x A hAq).2 HAE.out.symm)
      have HO2 : Hid (decide (evalx (gP k) (allG (gP k) (gG k) (gH k) l m) (x % gQ k) = multi (gP k) [gG k, gH k] [o, B]) = b0) := by
        show _ = _
        rw [← hb0, allG_eq, ← HBE.out]; exact decide_eq_decide.2 (by rw [opens_iff k l m x o hoq, HAE.out])
      have HO1 : Hid (decide (evalx (gP k) (allG (gP k) (gG k) (gH k) l m) (x % gQ k) = multi (gP k) [gG k, gH k] [A, B]) = true) := by
        show _ = _
        rw [allG_eq, ← HBE.out]; exact decide_eq_true ((opens_iff k l m x A hAq).2 HAE.out.symm)
      have HCC : Hid ((cmpNat o A == 0) = b0) := by
        show _ = _
        rw [cmp_eq_dec, hb0]
      have HLL : Hid ((l.map fun a => gG k ^ a % gP k).length = len) := by
        show _ = _
        rw [List.length_map]; exact HA.out.2.1
      have HLA : Hid ((((allG (gP k) (gG k) (gH k) l m).length : Nat) : Int) ≤ 10000) := by
        show _ ≤ _
        rw [allG_length, HA.out.2.1, HM.out.2.1]; omega
      clear NY ND NE NT hoq hAq hBq h1000 hb0
      go_wp2_with fail
      go_region_held3 (fun w' => BB wc w') (first | assumption | exact BB.drew (BB.refl _))
        (first
          | (go_at_call 52; refine (pfits_any g _ _ _ _ _ sa len sc (l.map fun a => gG k ^ a % gP k) ya yl yc x ta tl tc o w21 (HG.out.below hbb21) HSA.out HLL.out (by omega) (HNY.out.below hbb21) (HNT.out.below hbb21)).mono ?_; rw [HF2.out]; rintro e w22 ⟨rfl, hb22⟩; have hbb22 : BB wc w22 := BB.step hbb21 hb22; clear hb22)
          | (go_at_call 54; refine (pbare_any g _ _ _ _ _ pa len pc l wc.drew HG.out.drew (HP.out.below (BB.drew (BB.refl _))) HA.out.2.1 (by omega)).mono ?_; rintro e w21 ⟨v, rfl, hrow, hb21⟩; obtain ⟨sa, sc, rfl, _, _, hsat, _⟩ := hrow.form; rw [List.length_map, HA.out.2.1]; have hbb21 : BB wc w21 := BB.step (BB.drew (BB.refl wc)) hb21; have HSA := Lib.hid hsat; clear hrow hsat hb21))
      clear hbb21 HSA HF2
      go_wp2_with fail
      go_region_held3 (fun w' => BB wc w') (first | assumption | exact BB.drew (by assumption))
        (first
          | (go_at_call 51; refine (popens_any g _ _ _ _ _ (gP_one k) sa _ sc (allG (gP k) (gG k) (gH k) l m) ya yl yc x ta tl tc o ea el ec B w31 (HG.out.below hbb31) HSA.out rfl HLA.out (HNY.out.below hbb31) (HNT.out.below hbb31) (HNE.out.below hbb31) HSM.out.1 HSM.out.2.2.1).mono ?_; rw [HO2.out]; rintro e w32 ⟨rfl, hb32⟩; have hbb32 : BB wc w32 := BB.step hbb31 hb32; clear hb32)
          | (go_at_call 42; refine (pall_any g _ _ _ _ _ pa len pc l qa lenb qc m w22.drew (HG.out.below (BB.drew hbb22)) (gP_one k) HSM.out.2.2.2.1 HSM.out.2.2.2.2 (HP.out.below (BB.drew hbb22)) HA.out.2.1 (by omega) (HQ.out.below (BB.drew hbb22)) HM.out.2.1 (by omega)).mono ?_; rintro e w31 ⟨v, rfl, hrow, hb31⟩; obtain ⟨sa, sc, rfl, _, _, hsat, _⟩ := hrow.form; have hbb31 : BB wc w31 := BB.step (BB.drew hbb22) hb31; have HSA := Lib.hid hsat; clear hrow hsat hb31))
      clear hbb31 HSA HO2
      go_wp2_with fail
      go_region_held3 (fun w' => BB wc w') (first | assumption | exact BB.drew (by assumption))
        (first
          | (go_at_call 25; have _h := HQ45; refine (cmp_s ta da tl tc dl dc o A w45 (HNT.out.below hbb45) (HND.out.below hbb45)).mono ?_; rintro e w46 ⟨rfl, hb46⟩; have hbb46 : BB wc w46 := BB.step hbb45 hb46; have hc2 := HCC.out; clear hb46)
          | (go_at_call 25; refine (cmp_s ta da tl tc dl dc o A w44 (HNT.out.below hbb44) (HND.out.below hbb44)).mono ?_; rintro e w45 ⟨rfl, hb45⟩; have hbb45 : BB wc w45 := BB.step hbb44 hb45; have hc1 := HCC.out; have HQ45 := HNT; clear hb45)
          | (go_at_call 52; refine (pfits_any g _ _ _ _ _ sb len sd (l.map fun a => gG k ^ a % gP k) ya yl yc x da dl dc A w43 (HG.out.below hbb43) HSB.out HLL.out (by omega) (HNY.out.below hbb43) (HND.out.below hbb43)).mono ?_; rw [HF1.out]; rintro e w44 ⟨rfl, hb44⟩; have hbb44 : BB wc w44 := BB.step hbb43 hb44; clear hb44)
          | (go_at_call 54; refine (pbare_any g _ _ _ _ _ pa len pc l w42 (HG.out.below hbb42) (HP.out.below hbb42) HA.out.2.1 (by omega)).mono ?_; rintro e w43 ⟨v, rfl, hrow, hb43⟩; obtain ⟨sb, sd, rfl, _, _, hsat, _⟩ := hrow.form; rw [List.length_map, HA.out.2.1]; have hbb43 : BB wc w43 := BB.step hbb42 hb43; have HSB := Lib.hid hsat; clear hrow hsat hb43)
          | (go_at_call 51; refine (popens_any g _ _ _ _ _ (gP_one k) sa _ sc (allG (gP k) (gG k) (gH k) l m) ya yl yc x da dl dc A ea el ec B w41 (HG.out.below hbb41) HSA.out rfl HLA.out (HNY.out.below hbb41) (HND.out.below hbb41) (HNE.out.below hbb41) HSM.out.2.1 HSM.out.2.2.1).mono ?_; rw [HO1.out]; rintro e w42 ⟨rfl, hb42⟩; have hbb42 : BB wc w42 := BB.step hbb41 hb42; clear hb42)
          | (go_at_call 42; refine (pall_any g _ _ _ _ _ pa len pc l qa lenb qc m w32.drew (HG.out.below (BB.drew hbb32)) (gP_one k) HSM.out.2.2.2.1 HSM.out.2.2.2.2 (HP.out.below (BB.drew hbb32)) HA.out.2.1 (by omega) (HQ.out.below (BB.drew hbb32)) HM.out.2.1 (by omega)).mono ?_; rintro e w41 ⟨v, rfl, hrow, hb41⟩; obtain ⟨sa, sc, rfl, _, _, hsat, _⟩ := hrow.form; have hbb41 : BB wc w41 := BB.step (BB.drew hbb32) hb41; have HSA := Lib.hid hsat; clear hrow hsat hb41))
      go_wp2_with fail
      go_ret
      exact ⟨rfl, HS.out ▸ HE3.out.bel.trans (Below.mono hbb46 HE3.out.base)⟩

/-- The same, as the frame asks it. -/
theorem opens_walk (a0 : Int) (a1 : Option Addr) (len1 cap1 : Nat) (z1 : List Int) (a2 : Option Addr) (len2 cap2 : Nat) (z2 : List Int) (a3 a4 : Int) (w : World)
    (w1 : (a1 = none ∧ len1 = 0 ∧ cap1 = 0 ∧ z1 = []) ∨ ∃ x, a1 = some x ∧ len1 ≤ cap1 ∧ cap1 ≤ maxLen ∧ z1.length = cap1 ∧ (∀ i, i < z1.length → w.cell? (x.add i) = some (.int .u64 (z1.getD i 0))) ∧ ∀ n ∈ z1, (Lit.int .u64 n).wf = true)
    (w2 : (a2 = none ∧ len2 = 0 ∧ cap2 = 0 ∧ z2 = []) ∨ ∃ x, a2 = some x ∧ len2 ≤ cap2 ∧ cap2 ≤ maxLen ∧ z2.length = cap2 ∧ (∀ i, i < z2.length → w.cell? (x.add i) = some (.int .u64 (z2.getD i 0))) ∧ ∀ n ∈ z2, (Lit.int .u64 n).wf = true)
    (w3 : (Lit.int .u64 a3).wf = true) (w4 : (Lit.int .u64 a4).wf = true) :
    Calls Try.prog 8 #[.int .i64 a0, .slice a1 len1 cap1, .slice a2 len2 cap2, .int .u64 a3, .int .u64 a4] w fun e w' => e = .returned (.bool true) ∧ Below w.heap.size w w' := by
  obtain ⟨l, h1, h2, h3, h4⟩ := words_in w1
  obtain ⟨m, g1, g2, g3, g4⟩ := words_in w2
  obtain ⟨x, rfl, hx⟩ := word_in w3
  obtain ⟨y, rfl, hy⟩ := word_in w4
  exact opens_any a0 a1 len1 cap1 l a2 len2 cap2 m x y w h1 h2 h3 h4 g1 g2 g3 g4 hx hy
end Go.Proofs.Ythefednendgclaa
