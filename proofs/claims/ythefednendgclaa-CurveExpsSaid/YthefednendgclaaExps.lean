/-
  The law CurveExps: it returns true.
-/
import Derived.Test.YthefednendgclaaLaw10
import Derived.Test.YthefednendgclaaCurve3
import Derived.Test.YthefednendgclaaBoxRow
import Derived.Test.YthefednendgclaaCurveL
import Derived.Deep.CutRange
set_option linter.unusedVariables false
set_option linter.unusedSimpArgs false
namespace Go.Proofs.Ythefednendgclaa
open Go Go.RowKit Sac NT

set_option maxRecDepth 100000 in
set_option maxHeartbeats 8000000 in
theorem exps_any (n : Int) (a : Option Addr) (len cap : Nat) (l : List Nat) (b : Option Addr) (lenb capb : Nat) (m : List Nat) (x : Nat) (w : World)
    (ha : RdC w a (l.map w64)) (hl : l.length = len) (hc : (len : Int) ≤ cap) (hx : ∀ y ∈ l, y < 18446744073709551616)
    (hb : RdC w b (m.map w64)) (hm : m.length = lenb) (hcb : (lenb : Int) ≤ capb) (hy : ∀ y ∈ m, y < 18446744073709551616) (hxx : x < 18446744073709551616) :
    Calls Try.prog 3 #[.int .i64 n, .slice a len cap, .slice b lenb capb, .int .u64 (x : Int)] w fun e w' => e = .returned (.bool true) ∧ Below w.heap.size w w' := by
  have HA := Lib.hid (And.intro ha (And.intro hl (And.intro hc hx)))
  have HM := Lib.hid (And.intro hb (And.intro hm (And.intro hcb hy)))
  have HXX := Lib.hid hxx
  clear ha hl hc hx hb hm hcb hy hxx
  by_cases h8 : (8 : Int) < (len : Int)
  · go_enter Try.func3, Try.ntmps3
    go_wp2_with fail
    refine (lives_any w).mono ?_
    rintro e w2 ⟨rfl, hb2⟩
    have HB2 := Lib.hid hb2
    clear hb2
    go_wp2_with fail
    refine (lives_any w2).mono ?_
    rintro e w3 ⟨rfl, hb3⟩
    have HB3 := Lib.hid (HB2.out.trans (hb3.mono HB2.out.size))
    clear hb3
    go_wp2_with fail
    go_ret
    exact ⟨rfl, HB3.out⟩
  by_cases h8' : (8 : Int) < (lenb : Int)
  · go_enter Try.func3, Try.ntmps3
    go_wp2_with fail
    refine (lives_any w).mono ?_
    rintro e w2 ⟨rfl, hb2⟩
    have HB2 := Lib.hid hb2
    clear hb2
    go_wp2_with fail
    refine (lives_any w2).mono ?_
    rintro e w3 ⟨rfl, hb3⟩
    have HB3 := Lib.hid (HB2.out.trans (hb3.mono HB2.out.size))
    clear hb3
    go_wp2_with fail
    go_ret
    exact ⟨rfl, HB3.out⟩
  obtain ⟨s, hs⟩ : ∃ s, s = w.heap.size := ⟨_, rfl⟩
  obtain ⟨k, hk⟩ : ∃ k, kOf n = k := ⟨_, rfl⟩
  have HE0 := Lib.hid (GE.init w s hs)
  have HS := Lib.hid hs
  have HK := Lib.hid hk
  clear hs hk
  go_enter Try.func3, Try.ntmps3
  go_wp2_with fail
  refine (lives_any w).mono ?_
  rintro e w2 ⟨rfl, hb2⟩
  have HE2 := Lib.hid (HE0.out.below hb2)
  clear hb2 HE0
  go_wp2_with fail
  refine (group_any n w2).mono ?_
  rintro e w3 ⟨g, rfl, hg, hb3⟩
  have HE3 := Lib.hid ((HE2.out.below hb3).add (P := fun w => GroupAt w g (gP k) (gQ k) (gG k) (gH k) (gS k)) (groupAt_stays (by decide) (by decide) (by decide)) (by rw [← HK.out]; exact hg))
  clear hb3 HE2 hg
  go_wp2_with fail
  refine (gfield_any g _ _ _ _ _ w3 (HE3.out.has 0 rfl)).mono ?_
  rintro e w4 ⟨r, rfl, hr, hb4⟩
  have HE4 := Lib.hid ((HE3.out.below hb4).add (ringAt_stays (by decide) (by decide)) hr)
  clear hb4 HE3 hr
  obtain ⟨F, hF⟩ : ∃ F : List (World → Prop), F = [fun w => GroupAt w g (gP k) (gQ k) (gG k) (gH k) (gS k), fun w => RingAt w r (gQ k)] := ⟨_, rfl⟩
  have f0 : Hid (F[0]? = some (fun w => GroupAt w g (gP k) (gQ k) (gG k) (gH k) (gS k))) := by show _ = _; rw [hF]; rfl
  have f1 : Hid (F[1]? = some (fun w => RingAt w r (gQ k))) := by show _ = _; rw [hF]; rfl
  have HE5 : Hid (GE w w4 s [] F) := by rw [hF]; exact HE4.out
  clear HE4 hF
  go_wp2_with fail
  refine (nums_any a len cap l w4 (HA.out.1.below (HS.out ▸ HE5.out.bel)) HA.out.2.1 HA.out.2.2.1 (by omega) HA.out.2.2.2).mono ?_
  rintro e w5 ⟨v, rfl, hrow, hb5⟩
  obtain ⟨pa, pc, rfl, hp1, hp2, hat, _⟩ := hrow.form
  have HE6 := Lib.hid (HE5.out.pushRow hb5 hrow)
  rw [HA.out.2.1] at HE6 ⊢
  clear hb5 hrow hat hp1 hp2 HE5
  go_wp2_with fail
  refine (nums_any b lenb capb m w5 (HM.out.1.below (HS.out ▸ HE6.out.bel)) HM.out.2.1 HM.out.2.2.1 (by omega) HM.out.2.2.2).mono ?_
  rintro e w6 ⟨v, rfl, hrow, hb6⟩
  obtain ⟨qa, qc, rfl, hp1, hp2, hat, _⟩ := hrow.form
  have HE7 := Lib.hid (HE6.out.pushRow hb6 hrow)
  rw [HM.out.2.1] at HE7 ⊢
  clear hb6 hrow hat hp1 hp2 HE6
  go_wp2_with fail
  refine (new_s x w6 HXX.out).mono ?_
  rintro e w7 ⟨ya, yl, yc, rfl, hY, hb7⟩
  obtain ⟨Y, hYs⟩ : ∃ Y, Y = w7.heap.size := ⟨_, rfl⟩
  have HE8 := Lib.hid ((HE7.out.below hb7).alloc Y hYs hY (c := yc))
  clear hb7 hY HE7
  go_wp2_with fail
  rw [← hYs]
  clear hYs
  generalize w7.alloc (Obj.cells #[Value.slice ya yl yc] 33) = w8 at HE8 ⊢
  have HE9 := Lib.hid HE8.out.pushNil
  clear HE8
  go_loopw [14, 46] (fun v iv wr => ∃ i : Nat, (i : Int) ≤ len ∧ iv = .int .i64 (i : Int) ∧ Hid (GE w wr s [rowI s (.slice pa len pc) l, rowI s (.slice qa lenb qc) m, boxI Y x, rowI s v ((l.take i).map fun a => gG k ^ a % gP k)] F)) (fun _ iv _ => len - (intOf iv).toNat)
  case atStart => exact ⟨0, by omega, rfl, HE9.out⟩
  case round =>
    clear HE9
    obtain ⟨i, hi, rfl, HE⟩ := hrel
    by_cases hlt : (i : Int) < len
    · have hil : i < l.length := by rw [HA.out.2.1]; omega
      obtain ⟨y, hy⟩ : ∃ y, l.getD i 0 = y := ⟨_, rfl⟩
      obtain ⟨ad, xa, xl, xc, hadr, _, cx, Nx⟩ := (HE.out.row 0 rfl).toAt.get hil
      subst hadr
      rw [hy] at Nx
      have HTS : Hid ((l.take (i + 1)).map (fun a => gG k ^ a % gP k) = (l.take i).map (fun a => gG k ^ a % gP k) ++ [gG k ^ y % gP k]) := by
        show _ = _
        rw [List.take_succ_eq_append_getElem hil, List.map_append, ← hy, List.getD_eq_getElem?_getD, List.getElem?_eq_getElem hil]; rfl
      have HTL : Hid (((l.take i).map (fun a => gG k ^ a % gP k)).length = i) := by show _ = _; rw [List.length_map, List.length_take]; omega
      obtain ⟨Z, hZ⟩ : ∃ Z, Z = wr.heap.size := ⟨_, rfl⟩
      have HE2 := Lib.hid (HE.out.alloc Z hZ Nx (c := xc))
      obtain ⟨va, vc, rfl, hv1, hv2, _, _⟩ := (HE.out.row 3 rfl).form
      rw [HTL.out] at hv1 HE2 ⊢
      clear Nx hy hil HE
      go_wp2_with fail
      rw [← hZ]
      clear hZ cx
      generalize wr.alloc (Obj.cells #[Value.slice xa xl xc] 33) = w9 at HE2 ⊢
      obtain ⟨za, zl, zc, gZ, NZ⟩ := HE2.out.get 4 rfl
      have HNZ := Lib.hid NZ
      have HG9 := Lib.hid (HE2.out.has 0 f0.out)
      clear NZ
      go_wp2_with fail
      go_region_held3 (fun w' => w'.cell? ⟨Z, 0, none⟩ = some (.slice za zl zc)) (first | assumption | exact gZ _ (BB.drew (BB.refl _)) | exact gZ _ (BB.alloc (by assumption)))
        (first
          | (refine step_append_nat rfl (.tmp 50) (.tmp 56) rfl s _ _ rfl (HE12.out.row 3 rfl) ⟨w11.heap.size, 0, none⟩ 1 _ ta tl tc rfl cR HT12.out (by rw [HTL.out]; omega) HE12.out.base ?_; intro v' w13 hown hgr hf; have HE13 := Lib.hid (HE12.out.append 3 rfl hgr hf hown); have cS13 := (HE12.out.grownBox 3 rfl 4 rfl (by decide) hgr).trans (gZ _ (BB.alloc hbb11)); clear hown hgr hf)
          | (go_at_call 21; refine (gexp_any g _ _ _ _ _ oa za ol oc zl zc _ _ w10 (HG9.out.below hbb10) HO10.out (HNZ.out.below hbb10)).mono ?_; rintro e w11 ⟨ta, tl, tc, rfl, ht, hb11⟩; have hbb11 : BB w9 w11 := BB.step hbb10 hb11; have cZ11 := gZ _ hbb11; have hbx := (Below.refl _ w11).alloc (Nat.le_refl _) (Obj.cells #[Value.slice ta tl tc] 33); have HT12 := Lib.hid (ht.below hbx); have HE12 := Lib.hid ((HE2.out.below hbb11).below hbx); have cR := (Blk.new w11 [Value.slice ta tl tc] 33).cell 0; simp only [List.getElem?_cons_zero] at cR; clear ht hb11 hbx)
          | (go_at_call 22; refine (gg_any g _ _ _ _ _ w9.drew HG9.out.drew).mono ?_; rintro e w10 ⟨oa, ol, oc, rfl, ho, hb10⟩; have hbb10 : BB w9 w10 := BB.step (BB.drew (BB.refl w9)) hb10; have HO10 := Lib.hid ho; have cZ10 := gZ _ hbb10; clear ho hb10))
      go_wp2_with fail
      go_roundw
      case rel => exact ⟨i + 1, by omega, by go_num, HTS.out.symm ▸ HE13.out.take 4⟩
      case measure => simp [intOf]; omega
    · have hi' : i = len := by omega
      subst hi'
      rw [List.take_of_length_le (by rw [HA.out.2.1]; exact Nat.le_refl _)] at HE
      obtain ⟨va, vc, rfl, hv1, hv2, hvat, _⟩ := (HE.out.row 3 rfl).form
      rw [List.length_map, HA.out.2.1] at HE ⊢
      obtain ⟨A, hA⟩ : ∃ A, evalm (gQ k) l (x % gQ k) = A := ⟨_, rfl⟩
      obtain ⟨B, hB⟩ : ∃ B, evalm (gQ k) m (x % gQ k) = B := ⟨_, rfl⟩
      have HAE := Lib.hid hA
      have HBE := Lib.hid hB
      have hR := HE.out.has 1 f1.out
      have hP := (HE.out.row 0 rfl).toAt
      have hQ := (HE.out.row 1 rfl).toAt
      obtain ⟨ya, yl, yc, gY, NY⟩ := HE.out.get 2 rfl
      have CP : ∀ w', BB wr w' → Calls Try.prog 23 #[.pointer (some ⟨r, 0, none⟩), .slice pa i pc, .agg #[.slice ya yl yc]] w' (RetS A w') := fun w' h => by
        rw [← hA]; exact eval_any r _ pa i pc l ya yl yc x w' (hR.below h) (hP.below h) HA.out.2.1 (by omega) (NY.below h)
      have CQ : ∀ w', BB wr w' → Calls Try.prog 23 #[.pointer (some ⟨r, 0, none⟩), .slice qa lenb qc, .agg #[.slice ya yl yc]] w' (RetS B w') := fun w' h => by
        rw [← hB]; exact eval_any r _ qa lenb qc m ya yl yc x w' (hR.below h) (hQ.below h) HM.out.2.1 (by omega) (NY.below h)
      clear hA hB hv1 hv2 hvat hR hP hQ NY
      go_wp2_with fail
      go_cut [17, 18] from 59 to 66 (fun t17 t18 wx => ∃ (D E : Nat), t17 = .pointer (some ⟨D, 0, none⟩) ∧ t18 = .pointer (some ⟨E, 0, none⟩) ∧ Hid (BB wr wx) ∧ Hid (NB wx D A) ∧ Hid (NB wx E B) ∧ Hid (D ≠ E) ∧ Hid (wr.heap.size ≤ D) ∧ Hid (wr.heap.size ≤ E))
      case first =>
        go_region_held3 (fun w' => BB wr w') (repeat' (first | assumption | exact BB.refl _ | apply BB.drew | apply BB.alloc | (refine BB.setCell ?_ (by first | exact Nat.le_refl _ | (simp; done) | (simp; omega) | omega)) | (refine BB.step ?_ (by assumption))))
          (first
            | (go_at_call 23; (with_reducible refine (CQ w10 (by repeat' (first | assumption | exact BB.refl _ | apply BB.drew | apply BB.alloc | (refine BB.setCell ?_ (by first | exact Nat.le_refl _ | (simp; done) | (simp; omega) | omega)) | (refine BB.step ?_ (by assumption))))).mono ?_); rintro e w11 ⟨ba, bl, bc, rfl, hNB, hb11⟩; have HNB11 := Lib.hid hNB; have bb11 : BB wr w11 := (by repeat' (first | assumption | exact BB.refl _ | apply BB.drew | apply BB.alloc | (refine BB.setCell ?_ (by first | exact Nat.le_refl _ | (simp; done) | (simp; omega) | omega)) | (refine BB.step ?_ (by assumption)))); have g11 : wr.heap.size ≤ w11.heap.size := bb11.size; clear hNB; try (have b1' := Blk.below b1 hb11 (Nat.lt_of_lt_of_le b1.lt (by simp)); have b1c := b1'.cell 0; have b1f := b1'.frozen 0; have b1ca := fun o => (b1'.alloc o).cell 0; have b1fa := fun o => (b1'.alloc o).frozen 0; simp only [List.getElem?_cons_zero] at b1c b1ca; have n1 := b1'.lt; have n1a := Nat.ne_of_lt n1; have n1b := Nat.ne_of_gt n1); try (have b2' := Blk.below b2 hb11 (Nat.lt_of_lt_of_le b2.lt (by simp)); have b2c := b2'.cell 0; have b2f := b2'.frozen 0; have b2ca := fun o => (b2'.alloc o).cell 0; have b2fa := fun o => (b2'.alloc o).frozen 0; simp only [List.getElem?_cons_zero] at b2c b2ca; have n2 := b2'.lt; have n2a := Nat.ne_of_lt n2; have n2b := Nat.ne_of_gt n2))
            | (go_at_call 23; (with_reducible refine (CQ (w10.alloc (Obj.cells #[Value.slice none 0 0] 33)) (by repeat' (first | assumption | exact BB.refl _ | apply BB.drew | apply BB.alloc | (refine BB.setCell ?_ (by first | exact Nat.le_refl _ | (simp; done) | (simp; omega) | omega)) | (refine BB.step ?_ (by assumption))))).mono ?_); rintro e w11 ⟨ba, bl, bc, rfl, hNB, hb11⟩; have HNB11 := Lib.hid hNB; have bb11 : BB wr w11 := (by repeat' (first | assumption | exact BB.refl _ | apply BB.drew | apply BB.alloc | (refine BB.setCell ?_ (by first | exact Nat.le_refl _ | (simp; done) | (simp; omega) | omega)) | (refine BB.step ?_ (by assumption)))); have g11 : wr.heap.size ≤ w11.heap.size := bb11.size; clear hNB; have d1 := (Blk.new w10 [Value.slice none 0 0] 33).below hb11 (by simp); have d1c := d1.cell 0; have d1f := d1.frozen 0; have d1ca := fun o => (d1.alloc o).cell 0; have d1fa := fun o => (d1.alloc o).frozen 0; simp only [List.getElem?_cons_zero] at d1c d1ca; have m1 := d1.lt; have m1a := Nat.ne_of_lt m1; have m1b := Nat.ne_of_gt m1; try (have b1' := Blk.below (b1.alloc (Obj.cells #[Value.slice none 0 0] 33)) hb11 (b1.alloc (Obj.cells #[Value.slice none 0 0] 33)).lt; have b1c := b1'.cell 0; have b1f := b1'.frozen 0; have b1ca := fun o => (b1'.alloc o).cell 0; have b1fa := fun o => (b1'.alloc o).frozen 0; simp only [List.getElem?_cons_zero] at b1c b1ca; have n1 := b1'.lt; have n1a := Nat.ne_of_lt n1; have n1b := Nat.ne_of_gt n1); try (have b2' := Blk.below b2 hb11 (Nat.lt_of_lt_of_le b2.lt (by simp)); have b2c := b2'.cell 0; have b2f := b2'.frozen 0; have b2ca := fun o => (b2'.alloc o).cell 0; have b2fa := fun o => (b2'.alloc o).frozen 0; simp only [List.getElem?_cons_zero] at b2c b2ca; have n2 := b2'.lt; have n2a := Nat.ne_of_lt n2; have n2b := Nat.ne_of_gt n2))
            | (go_at_call 23; (with_reducible refine (CQ ((w10.alloc (Obj.cells #[Value.slice none 0 0] 33)).alloc (Obj.cells #[Value.slice none 0 0] 33)) (by repeat' (first | assumption | exact BB.refl _ | apply BB.drew | apply BB.alloc | (refine BB.setCell ?_ (by first | exact Nat.le_refl _ | (simp; done) | (simp; omega) | omega)) | (refine BB.step ?_ (by assumption))))).mono ?_); rintro e w11 ⟨ba, bl, bc, rfl, hNB, hb11⟩; have HNB11 := Lib.hid hNB; have bb11 : BB wr w11 := (by repeat' (first | assumption | exact BB.refl _ | apply BB.drew | apply BB.alloc | (refine BB.setCell ?_ (by first | exact Nat.le_refl _ | (simp; done) | (simp; omega) | omega)) | (refine BB.step ?_ (by assumption)))); have g11 : wr.heap.size ≤ w11.heap.size := bb11.size; clear hNB; have d1 := ((Blk.new w10 [Value.slice none 0 0] 33).alloc (Obj.cells #[Value.slice none 0 0] 33)).below hb11 (by simp; omega); have d2 := (Blk.new' (w10.alloc (Obj.cells #[Value.slice none 0 0] 33)) [Value.slice none 0 0] 33 (w10.heap.size + 1) (by simp)).below hb11 (by simp); have d1c := d1.cell 0; have d1f := d1.frozen 0; have d2c := d2.cell 0; have d2f := d2.frozen 0; simp only [List.getElem?_cons_zero] at d1c d2c)
            | (go_at_call 23; (with_reducible refine (CP wr.drew (by repeat' (first | assumption | exact BB.refl _ | apply BB.drew | apply BB.alloc | (refine BB.setCell ?_ (by first | exact Nat.le_refl _ | (simp; done) | (simp; omega) | omega)) | (refine BB.step ?_ (by assumption))))).mono ?_); rintro e w10 ⟨aa, al, ac, rfl, hNA, hb10⟩; have HNA10 := Lib.hid hNA; have bb10 : BB wr w10 := (by repeat' (first | assumption | exact BB.refl _ | apply BB.drew | apply BB.alloc | (refine BB.setCell ?_ (by first | exact Nat.le_refl _ | (simp; done) | (simp; omega) | omega)) | (refine BB.step ?_ (by assumption)))); have g10 : wr.heap.size ≤ w10.heap.size := bb10.size; clear hNA)
            | (go_at_call 23; (with_reducible refine (CP (wr.alloc (Obj.cells #[Value.slice none 0 0] 33)).drew (by repeat' (first | assumption | exact BB.refl _ | apply BB.drew | apply BB.alloc | (refine BB.setCell ?_ (by first | exact Nat.le_refl _ | (simp; done) | (simp; omega) | omega)) | (refine BB.step ?_ (by assumption))))).mono ?_); rintro e w10 ⟨aa, al, ac, rfl, hNA, hb10⟩; have HNA10 := Lib.hid hNA; have bb10 : BB wr w10 := (by repeat' (first | assumption | exact BB.refl _ | apply BB.drew | apply BB.alloc | (refine BB.setCell ?_ (by first | exact Nat.le_refl _ | (simp; done) | (simp; omega) | omega)) | (refine BB.step ?_ (by assumption)))); have g10 : wr.heap.size ≤ w10.heap.size := bb10.size; clear hNA; obtain ⟨b1, _, _⟩ := k_one (w := wr) (v := .slice none 0 0) (e := 33) hb10; have l1 := b1.lt; have l1a := Nat.ne_of_lt l1; have l1b := Nat.ne_of_gt l1)
            | (go_at_call 23; (with_reducible refine (CP ((wr.alloc (Obj.cells #[Value.slice none 0 0] 33)).alloc (Obj.cells #[Value.slice none 0 0] 33)).drew (by repeat' (first | assumption | exact BB.refl _ | apply BB.drew | apply BB.alloc | (refine BB.setCell ?_ (by first | exact Nat.le_refl _ | (simp; done) | (simp; omega) | omega)) | (refine BB.step ?_ (by assumption))))).mono ?_); rintro e w10 ⟨aa, al, ac, rfl, hNA, hb10⟩; have HNA10 := Lib.hid hNA; have bb10 : BB wr w10 := (by repeat' (first | assumption | exact BB.refl _ | apply BB.drew | apply BB.alloc | (refine BB.setCell ?_ (by first | exact Nat.le_refl _ | (simp; done) | (simp; omega) | omega)) | (refine BB.step ?_ (by assumption)))); have g10 : wr.heap.size ≤ w10.heap.size := bb10.size; clear hNA; obtain ⟨b1, b2, _⟩ := k_two (w := wr) (v := .slice none 0 0) (e := 33) (v' := .slice none 0 0) (e' := 33) hb10))
        all_goals (
          go_wp2_with fail
          go_meet
          refine ⟨_, _, rfl, rfl, ?_, ?_, ?_, ?_, ?_, ?_⟩
          · show BB wr _
            repeat' (first | assumption | exact BB.refl _ | apply BB.drew | apply BB.alloc | (refine BB.setCell ?_ (by first | exact Nat.le_refl _ | (simp; done) | (simp; omega) | omega)) | (refine BB.step ?_ (by assumption)))
          · show NB _ _ A
            repeat' (first | exact HNB11.out | exact HNA10.out | exact ⟨_, b1'⟩ | exact ⟨_, b2'⟩ | exact ⟨_, d1⟩ | exact ⟨_, d2⟩ | (refine NB.put ?_ ?_) | (refine NB.new ?_ ?_; rotate_left; focus (first | rfl | (simp [World.setCell]; done))) | (refine NB.other ?_ ?_ ?_; rotate_left 2; omega) | refine NB.alloc ?_ | (refine HasBox.new ?_; focus (first | rfl | (simp [World.setCell]; done))) | refine HasBox.alloc ?_ | refine HasBox.set ?_ | (refine natS_box ?_ ?_) | refine natS_new ?_ | refine NatS.below ?_ hb11)
          · show NB _ _ B
            repeat' (first | exact HNB11.out | exact HNA10.out | exact ⟨_, b1'⟩ | exact ⟨_, b2'⟩ | exact ⟨_, d1⟩ | exact ⟨_, d2⟩ | (refine NB.put ?_ ?_) | (refine NB.new ?_ ?_; rotate_left; focus (first | rfl | (simp [World.setCell]; done))) | (refine NB.other ?_ ?_ ?_; rotate_left 2; omega) | refine NB.alloc ?_ | (refine HasBox.new ?_; focus (first | rfl | (simp [World.setCell]; done))) | refine HasBox.alloc ?_ | refine HasBox.set ?_ | (refine natS_box ?_ ?_) | refine natS_new ?_ | refine NatS.below ?_ hb11)
          · show _ ≠ _
            omega
          · show _ ≤ _
            omega
          · show _ ≤ _
            omega)
      case rest =>
        obtain ⟨D, E, rfl, rfl, HBc, HDc, HEc, HNE, hD, hE⟩ := hcut
        have HE2 := Lib.hid (GE.two HE.out HBc.out HDc.out HEc.out HNE.out hD.out hE.out)
        clear HE HBc HDc HEc HNE hD hE CP CQ gY ya yl yc
        obtain ⟨ya, yl, yc, gY, NY⟩ := HE2.out.get 2 rfl
        obtain ⟨da, dl, dc, gD, ND⟩ := HE2.out.get 4 rfl
        obtain ⟨ea, el, ec, gE, NE⟩ := HE2.out.get 5 rfl
        have HNY := Lib.hid NY
        have HND := Lib.hid ND
        have HNE := Lib.hid NE
        have HG := Lib.hid (HE2.out.has 0 f0.out)
        have HR := Lib.hid (HE2.out.has 1 f1.out)
        have HP := Lib.hid (HE2.out.row 0 rfl).toAt
        have HQ := Lib.hid (HE2.out.row 1 rfl).toAt
        have HC := Lib.hid (HE2.out.row 3 rfl).toAt
        have hci : (l.map (fun a => gG k ^ a % gP k)).length = i := by rw [List.length_map]; exact HA.out.2.1
        have HCL := Lib.hid hci
        clear NY ND NE hci
        go_wp2_with fail
        go_region_held3 (fun w' => BB wc w') (first | assumption | exact BB.drew (BB.refl _))
          (first
            | (go_at_call 25; have _h := HS17; refine (cmp_s va2 ta2 vl2 vc2 tl2 tc2 _ _ w18 (HV17.out.below hb18) HT18.out).mono ?_; rw [exps_add (gQ_pos k), HAE.out, HBE.out, cmp_self]; rintro e w19 ⟨rfl, hb19⟩; have hbb19 : BB wc w19 := BB.step hbb18 hb19; clear hb18 hb19)
            | (go_at_call 27; refine (radd_any r _ da ea dl dc el ec A B w17 (HR.out.below hbb17) (HND.out.below hbb17) (HNE.out.below hbb17)).mono ?_; rintro e w18 ⟨ta2, tl2, tc2, rfl, ht2, hb18⟩; have hbb18 : BB wc w18 := BB.step hbb17 hb18; have HT18 := Lib.hid ht2; clear ht2)
            | (go_at_call 23; refine (eval_any r _ sa _ sc (addl (gQ k) l m) ya yl yc x w16 (HR.out.below hbb16) HSA.out rfl (by rw [addl_length, HA.out.2.1, HM.out.2.1]; omega) (HNY.out.below hbb16)).mono ?_; rintro e w17 ⟨va2, vl2, vc2, rfl, hv2, hb17⟩; have hbb17 : BB wc w17 := BB.step hbb16 hb17; have HV17 := Lib.hid hv2; have HS17 := HSA; clear hv2 hb17)
            | (go_at_call 26; refine (cadd_any r _ pa i pc l qa lenb qc m w15 (HR.out.below hbb15) (HP.out.below hbb15) HA.out.2.1 (by omega) (HQ.out.below hbb15) HM.out.2.1 (by omega)).mono ?_; rintro e w16 ⟨v, rfl, hrow, hb16⟩; obtain ⟨sa, sc, rfl, _, _, hsat, _⟩ := hrow.form; have hbb16 : BB wc w16 := BB.step hbb15 hb16; have HSA := Lib.hid hsat; clear hrow hsat hb16)
            | (go_at_call 25; refine (cmp_s ua ta ul uc tl tc _ _ w14 (HU12.out.below hb1214) HT14.out).mono ?_; rw [exps_base, HAE.out, cmp_self]; rintro e w15 ⟨rfl, hb15⟩; have hbb15 : BB wc w15 := BB.step hbb14 hb15; clear hb15)
            | (go_at_call 21; refine (gexp_any g _ _ _ _ _ oa da ol oc dl dc _ _ w13 (HG.out.below hbb13) HO13.out (HND.out.below hbb13)).mono ?_; rintro e w14 ⟨ta, tl, tc, rfl, ht, hb14⟩; have hbb14 : BB wc w14 := BB.step hbb13 hb14; have hb1214 : BB w12 w14 := BB.step hb1213 hb14; have HT14 := Lib.hid ht; clear ht hb14)
            | (go_at_call 22; refine (gg_any g _ _ _ _ _ w12 (HG.out.below hbb12)).mono ?_; rintro e w13 ⟨oa, ol, oc, rfl, ho, hb1213⟩; have hbb13 : BB wc w13 := BB.step hbb12 hb1213; have HO13 := Lib.hid ho; clear ho)
            | (go_at_call 24; refine (evalexp_any g _ _ _ _ _ va i vc (l.map (fun a => gG k ^ a % gP k)) ya yl yc x wc.drew HG.out.drew (HC.out.below (BB.drew (BB.refl _))) HCL.out (by omega) HNY.out.drew).mono ?_; rintro e w12 ⟨ua, ul, uc, rfl, hu, hb12⟩; have hbb12 : BB wc w12 := BB.step (BB.drew (BB.refl wc)) hb12; have HU12 := Lib.hid hu; clear hu hb12))
        clear hb1214 hb1213 HS17 HU12 HT14 HO13 HSA HV17 HT18 hbb12 hbb13 hbb14 hbb15 hbb16 hbb17 hbb18
        go_wp2_with fail
        by_cases h1 : (0 : Int) < (i : Int)
        · by_cases h2 : (0 : Int) < (lenb : Int)
          · have h1n : 0 < i := by omega
            have h2n : 0 < lenb := by omega
            have h1d : decide ((0 : Int) < (i : Int)) = true := decide_eq_true h1
            have h2d : decide ((0 : Int) < (lenb : Int)) = true := decide_eq_true h2
            go_region_held3 (fun w' => BB wc w') (first | assumption | exact BB.drew (by assumption))
              (first
                | (go_at_call 25; refine (cmp_s va2 ta2 vl2 vc2 tl2 tc2 _ _ w18 (HV17.out.below hb18) HT18.out).mono ?_; rw [exps_mul (gQ_pos k) _ _ _ (by rw [HM.out.2.1]; omega), HAE.out, HBE.out, cmp_self]; rintro e w20 ⟨rfl, hb20⟩; have hbb20 : BB wc w20 := BB.step hbb18 hb20; clear hb18 hb20)
                | (go_at_call 29; refine (rmul_any r _ da ea dl dc el ec A B w17 (HR.out.below hbb17) (HND.out.below hbb17) (HNE.out.below hbb17)).mono ?_; rintro e w18 ⟨ta2, tl2, tc2, rfl, ht2, hb18⟩; have hbb18 : BB wc w18 := BB.step hbb17 hb18; have HT18 := Lib.hid ht2; clear ht2)
                | (go_at_call 23; refine (eval_any r _ sa _ sc (mull (gQ k) l m) ya yl yc x w16 (HR.out.below hbb16) HSA.out rfl (by rw [mull_length, HA.out.2.1, HM.out.2.1]; omega) (HNY.out.below hbb16)).mono ?_; rintro e w17 ⟨va2, vl2, vc2, rfl, hv2, hb17⟩; have hbb17 : BB wc w17 := BB.step hbb16 hb17; have HV17 := Lib.hid hv2; clear hv2 hb17)
                | (go_at_call 28; refine (cmul_any r _ pa i pc l qa lenb qc m w19.drew (HR.out.below (BB.drew hbb19)) (HP.out.below (BB.drew hbb19)) HA.out.2.1 (by omega) (HQ.out.below (BB.drew hbb19)) HM.out.2.1 (by omega) h1 h2).mono ?_; rintro e w16 ⟨v, rfl, hrow, hb16⟩; obtain ⟨sa, sc, rfl, _, _, hsat, _⟩ := hrow.form; have hbb16 : BB wc w16 := BB.step (BB.drew hbb19) hb16; have HSA := Lib.hid hsat; clear hrow hsat hb16))
            go_wp2_with fail
            refine (cadd_any r _ pa i pc l qa lenb qc m w20 (HR.out.below hbb20) (HP.out.below hbb20) HA.out.2.1 (by omega) (HQ.out.below hbb20) HM.out.2.1 (by omega)).mono ?_
            rintro e wz ⟨v, rfl, hrow, hbz⟩
            obtain ⟨sz, scz, rfl, _, _, _, _⟩ := hrow.form
            have HBZ := Lib.hid (Below.trans HE2.out.bel (Below.mono (BB.step hbb20 hbz) HE2.out.base))
            obtain ⟨N, hN⟩ : ∃ N, (addl (gQ k) l m).length = N := ⟨_, rfl⟩
            have hmi : max (i : Int) (lenb : Int) = (N : Int) := by rw [← hN, addl_length, HA.out.2.1, HM.out.2.1]; omega
            rw [hN]
            clear hrow hbz hN
            go_wp2_with fail
            go_ret
            exact ⟨rfl, HS.out ▸ HBZ.out⟩
          · have h2' : decide ((0 : Int) < (lenb : Int)) = false := decide_eq_false h2
            have h2n : decide (0 < lenb) = false := decide_eq_false (by omega)
            have h1n : 0 < i := by omega
            go_quiet (fail)
            go_wp2_with fail
            refine (cadd_any r _ pa i pc l qa lenb qc m (w19.drewN nq) (HR.out.below (below_drewN hbb19 nq)) (HP.out.below (below_drewN hbb19 nq)) HA.out.2.1 (by omega) (HQ.out.below (below_drewN hbb19 nq)) HM.out.2.1 (by omega)).mono ?_
            rintro e wz ⟨v, rfl, hrow, hbz⟩
            obtain ⟨sz, scz, rfl, _, _, _, _⟩ := hrow.form
            have HBZ := Lib.hid (Below.trans HE2.out.bel (Below.mono (BB.step (below_drewN hbb19 nq) hbz) HE2.out.base))
            obtain ⟨N, hN⟩ : ∃ N, (addl (gQ k) l m).length = N := ⟨_, rfl⟩
            have hmi : max (i : Int) (lenb : Int) = (N : Int) := by rw [← hN, addl_length, HA.out.2.1, HM.out.2.1]; omega
            rw [hN]
            clear hrow hbz hN
            go_wp2_with fail
            go_ret
            exact ⟨rfl, HS.out ▸ HBZ.out⟩
        · have h1' : decide ((0 : Int) < (i : Int)) = false := decide_eq_false h1
          have h1n : decide (0 < i) = false := decide_eq_false (by omega)
          go_quiet (fail)
          go_wp2_with fail
          refine (cadd_any r _ pa i pc l qa lenb qc m (w19.drewN nq) (HR.out.below (below_drewN hbb19 nq)) (HP.out.below (below_drewN hbb19 nq)) HA.out.2.1 (by omega) (HQ.out.below (below_drewN hbb19 nq)) HM.out.2.1 (by omega)).mono ?_
          rintro e wz ⟨v, rfl, hrow, hbz⟩
          obtain ⟨sz, scz, rfl, _, _, _, _⟩ := hrow.form
          have HBZ := Lib.hid (Below.trans HE2.out.bel (Below.mono (BB.step (below_drewN hbb19 nq) hbz) HE2.out.base))
          obtain ⟨N, hN⟩ : ∃ N, (addl (gQ k) l m).length = N := ⟨_, rfl⟩
          have hmi : max (i : Int) (lenb : Int) = (N : Int) := by rw [← hN, addl_length, HA.out.2.1, HM.out.2.1]; omega
          rw [hN]
          clear hrow hbz hN
          go_wp2_with fail
          go_ret
          exact ⟨rfl, HS.out ▸ HBZ.out⟩

/-- The same, as the frame asks it. -/
theorem exps_walk (a0 : Int) (a1 : Option Addr) (len1 cap1 : Nat) (z1 : List Int) (a2 : Option Addr) (len2 cap2 : Nat) (z2 : List Int) (a3 : Int) (w : World)
    (w1 : (a1 = none ∧ len1 = 0 ∧ cap1 = 0 ∧ z1 = []) ∨ ∃ x, a1 = some x ∧ len1 ≤ cap1 ∧ cap1 ≤ maxLen ∧ z1.length = cap1 ∧ (∀ i, i < z1.length → w.cell? (x.add i) = some (.int .u64 (z1.getD i 0))) ∧ ∀ n ∈ z1, (Lit.int .u64 n).wf = true)
    (w2 : (a2 = none ∧ len2 = 0 ∧ cap2 = 0 ∧ z2 = []) ∨ ∃ x, a2 = some x ∧ len2 ≤ cap2 ∧ cap2 ≤ maxLen ∧ z2.length = cap2 ∧ (∀ i, i < z2.length → w.cell? (x.add i) = some (.int .u64 (z2.getD i 0))) ∧ ∀ n ∈ z2, (Lit.int .u64 n).wf = true)
    (w3 : (Lit.int .u64 a3).wf = true) :
    Calls Try.prog 3 #[.int .i64 a0, .slice a1 len1 cap1, .slice a2 len2 cap2, .int .u64 a3] w fun e w' => e = .returned (.bool true) ∧ Below w.heap.size w w' := by
  obtain ⟨l, h1, h2, h3, h4⟩ := words_in w1
  obtain ⟨m, g1, g2, g3, g4⟩ := words_in w2
  obtain ⟨x, rfl, hx⟩ := word_in w3
  exact exps_any a0 a1 len1 cap1 l a2 len2 cap2 m x w h1 h2 h3 h4 g1 g2 g3 g4 hx
end Go.Proofs.Ythefednendgclaa
