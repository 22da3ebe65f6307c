/-
  The law CurveShares: it returns true.
-/
import Derived.Test.YthefednendgclaaLaw10
import Derived.Test.YthefednendgclaaJoin
import Derived.Test.YthefednendgclaaBoxRow
set_option linter.unusedVariables false
set_option linter.unusedSimpArgs false
namespace Go.Proofs.Ythefednendgclaa
open Go Go.RowKit Sac NT

set_option maxRecDepth 100000 in
set_option maxHeartbeats 8000000 in
theorem shares_any (n : Int) (a : Option Addr) (len cap : Nat) (l : List Nat) (b : Option Addr) (lenb capb : Nat) (m : List Nat) (x : Nat) (w : World)
    (ha : RdC w a (l.map w64)) (hl : l.length = len) (hc : (len : Int) ≤ cap) (hx : ∀ y ∈ l, y < 18446744073709551616)
    (hb : RdC w b (m.map w64)) (hm : m.length = lenb) (hcb : (lenb : Int) ≤ capb) (hy : ∀ y ∈ m, y < 18446744073709551616) (hxx : x < 18446744073709551616) :
    Calls Try.prog 11 #[.int .i64 n, .slice a len cap, .slice b lenb capb, .int .u64 (x : Int)] w fun e w' => e = .returned (.bool true) ∧ Below w.heap.size w w' := by
  have HA := Lib.hid (And.intro ha (And.intro hl (And.intro hc hx)))
  have HM := Lib.hid (And.intro hb (And.intro hm (And.intro hcb hy)))
  have HXX := Lib.hid hxx
  clear ha hl hc hx hb hm hcb hy hxx
  by_cases h8 : (6 : Int) < (len : Int)
  · go_enter Try.func11, Try.ntmps11
    go_wp2_with fail
    refine (lives_any w).mono ?_
    rintro e w2 ⟨rfl, hb2⟩
    have HB2 := Lib.hid hb2
    clear hb2
    go_wp2_with fail
    refine (lives_any w2).mono ?_
    rintro e w3 ⟨rfl, hb3⟩
    have HB3 := Lib.hid (HB2.out.trans (hb3.mono HB2.out.size))
    clear hb3
    go_wp2_with fail
    go_ret
    exact ⟨rfl, HB3.out⟩
  by_cases h8' : (len : Int) < (lenb : Int)
  · go_enter Try.func11, Try.ntmps11
    go_wp2_with fail
    refine (lives_any w).mono ?_
    rintro e w2 ⟨rfl, hb2⟩
    have HB2 := Lib.hid hb2
    clear hb2
    go_wp2_with fail
    refine (lives_any w2).mono ?_
    rintro e w3 ⟨rfl, hb3⟩
    have HB3 := Lib.hid (HB2.out.trans (hb3.mono HB2.out.size))
    clear hb3
    go_wp2_with fail
    go_ret
    exact ⟨rfl, HB3.out⟩
  obtain ⟨s, hs⟩ : ∃ s, s = w.heap.size := ⟨_, rfl⟩
  obtain ⟨k, hk⟩ : ∃ k, kOf n = k := ⟨_, rfl⟩
  have HE0 := Lib.hid (GE.init w s hs)
  have HS := Lib.hid hs
  have HK := Lib.hid hk
  clear hs hk
  go_enter Try.func11, Try.ntmps11
  go_wp2_with fail
  refine (lives_any w).mono ?_
  rintro e w2 ⟨rfl, hb2⟩
  have HE2 := Lib.hid (HE0.out.below hb2)
  clear hb2 HE0
  go_wp2_with fail
  refine (group_any n w2).mono ?_
  rintro e w3 ⟨g, rfl, hg, hb3⟩
  have HE3 := Lib.hid ((HE2.out.below hb3).add (P := fun w => GroupAt w g (gP k) (gQ k) (gG k) (gH k) (gS k)) (groupAt_stays (by decide) (by decide) (by decide)) (by rw [← HK.out]; exact hg))
  clear hb3 HE2 hg
  go_wp2_with fail
  refine (gfield_any g _ _ _ _ _ w3 (HE3.out.has 0 rfl)).mono ?_
  rintro e w4 ⟨r, rfl, hr, hb4⟩
  have HE4 := Lib.hid ((HE3.out.below hb4).add (ringAt_stays (by decide) (by decide)) hr)
  clear hb4 HE3 hr
  obtain ⟨F, hF⟩ : ∃ F : List (World → Prop), F = [fun w => GroupAt w g (gP k) (gQ k) (gG k) (gH k) (gS k), fun w => RingAt w r (gQ k)] := ⟨_, rfl⟩
  have f0 : Hid (F[0]? = some (fun w => GroupAt w g (gP k) (gQ k) (gG k) (gH k) (gS k))) := by show _ = _; rw [hF]; rfl
  have f1 : Hid (F[1]? = some (fun w => RingAt w r (gQ k))) := by show _ = _; rw [hF]; rfl
  have HE5 : Hid (GE w w4 s [] F) := by rw [hF]; exact HE4.out
  clear HE4 hF
  go_wp2_with fail
  refine (nums_any a len cap l w4 (HA.out.1.below (HS.out ▸ HE5.out.bel)) HA.out.2.1 HA.out.2.2.1 (by omega) HA.out.2.2.2).mono ?_
  rintro e w5 ⟨v, rfl, hrow, hb5⟩
  obtain ⟨pa, pc, rfl, hp1, hp2, hat, _⟩ := hrow.form
  have HE6 := Lib.hid (HE5.out.pushRow hb5 hrow)
  rw [HA.out.2.1] at HE6 hp1 ⊢
  have HPC : Hid ((len : Int) ≤ pc) := by show (_ : Int) ≤ _; omega
  clear hb5 hrow hat hp1 hp2 HE5
  go_wp2_with fail
  refine (nums_any b lenb capb m w5 (HM.out.1.below (HS.out ▸ HE6.out.bel)) HM.out.2.1 HM.out.2.2.1 (by omega) HM.out.2.2.2).mono ?_
  rintro e w6 ⟨v, rfl, hrow, hb6⟩
  obtain ⟨qa, qc, rfl, hp1, hp2, hat, _⟩ := hrow.form
  have HE7 := Lib.hid (HE6.out.pushRow hb6 hrow)
  rw [HM.out.2.1] at HE7 ⊢
  clear hb6 hrow hat hp1 hp2 HE6
  have HE9 := Lib.hid (HE7.out.pushNil.pushNil)
  clear HE7
  go_wp2_with fail
  go_loopw [13, 14, 50] (fun v1 v2 iv wr => ∃ i : Nat, (i : Int) ≤ len ∧ iv = .int .i64 (i : Int) ∧ Hid (GE w wr s [rowI s (.slice pa len pc) l, rowI s (.slice qa lenb qc) m, rowI s v1 ((l.take i).map fun z => evalm (gQ k) m (z % gQ k)), rowI s v2 (((l.take i).map fun z => evalm (gQ k) m (z % gQ k)).map fun v => gG k ^ v % gP k)] F)) (fun _ _ iv _ => len - (intOf iv).toNat)
  case atStart => exact ⟨0, by omega, rfl, HE9.out⟩
  case round =>
    clear HE9
    obtain ⟨i, hi, rfl, HE⟩ := hrel
    by_cases hlt : (i : Int) < len
    · have hil : i < l.length := by rw [HA.out.2.1]; omega
      obtain ⟨y, hy⟩ : ∃ y, l.getD i 0 = y := ⟨_, rfl⟩
      obtain ⟨Y, hYv⟩ : ∃ Y, evalm (gQ k) m (y % gQ k) = Y := ⟨_, rfl⟩
      obtain ⟨ad, xa, xl, xc, hadr, _, cx, Nx⟩ := (HE.out.row 0 rfl).toAt.get hil
      subst hadr
      rw [hy] at Nx
      obtain ⟨T, hT⟩ : ∃ T, (l.take i).map (fun z => evalm (gQ k) m (z % gQ k)) = T := ⟨_, rfl⟩
      have HTS : Hid ((l.take (i + 1)).map (fun z => evalm (gQ k) m (z % gQ k)) = T ++ [Y]) := by
        show _ = _
        rw [List.take_succ_eq_append_getElem hil, List.map_append, hT, ← hYv, ← hy, List.getD_eq_getElem?_getD, List.getElem?_eq_getElem hil]; rfl
      have HTL : Hid (T.length = i) := by show _ = _; rw [← hT, List.length_map, List.length_take]; omega
      have HTM : Hid ((T.map fun v => gG k ^ v % gP k).length = i) := by show _ = _; rw [List.length_map]; exact HTL.out
      have HYV := Lib.hid hYv
      rw [hT] at HE
      obtain ⟨Z, hZ⟩ : ∃ Z, Z = wr.heap.size := ⟨_, rfl⟩
      have hbZ := (Below.refl _ wr).alloc (Nat.le_refl _) (Obj.cells #[Value.slice xa xl xc] 33)
      have HE2 := Lib.hid (HE.out.alloc Z hZ Nx (c := xc))
      have HNX := Lib.hid (Nx.below hbZ)
      obtain ⟨va, vc, rfl, hv1, hv2, _, _⟩ := (HE.out.row 2 rfl).form
      obtain ⟨za, zc, rfl, hz1, hz2, _, _⟩ := (HE.out.row 3 rfl).form
      rw [HTL.out] at hv1 HE2 ⊢
      rw [HTM.out] at hz1 HE2 ⊢
      clear Nx hy hil HE hYv hT hbZ
      go_wp2_with fail
      rw [← hZ]
      clear hZ cx
      generalize wr.alloc (Obj.cells #[Value.slice xa xl xc] 33) = w9 at HE2 HNX ⊢
      with_reducible refine (eval_any r (gQ k) qa lenb qc m xa xl xc y w9 (HE2.out.has 1 f1.out) (HE2.out.row 1 rfl).toAt HM.out.2.1 (by omega) HNX.out).mono ?_
      rw [HYV.out]
      rintro e w10 ⟨ea, el, ec, rfl, he, hb10⟩
      obtain ⟨V, hV⟩ : ∃ V, V = w10.heap.size := ⟨_, rfl⟩
      have hbV := (Below.refl _ w10).alloc (Nat.le_refl _) (Obj.cells #[Value.slice ea el ec] 33)
      have hbx : BB w10 ((w10.alloc (Obj.cells #[Value.slice ea el ec] 33)).alloc (Obj.cells #[Value.slice ea el ec] 33)) := BB.alloc hbV
      have HE12 := Lib.hid (((HE2.out.below hb10).alloc V hV he (c := ec)).below ((Below.refl _ _).alloc (Nat.le_refl _) (Obj.cells #[Value.slice ea el ec] 33)))
      have HN12 := Lib.hid (he.below hbx)
      have cR := (Blk.new' (w10.alloc (Obj.cells #[Value.slice ea el ec] 33)) [Value.slice ea el ec] 33 (w10.heap.size + 1) (by simp)).cell 0
      simp only [List.getElem?_cons_zero] at cR
      have HV := Lib.hid hV
      clear he hb10 HE2 HNX hbV hbx hV
      go_wp2_with (first | (refine wpList_append_nat _ rfl (.tmp 58) (.tmp 60) rfl s _ T rfl (HE12.out.row 2 rfl) ⟨w10.heap.size + 1, 0, none⟩ 1 Y ea el ec rfl cR HN12.out (by rw [HTL.out]; omega) HE12.out.base ?_; intro v' w13 hown hgr hf; have HE13 := Lib.hid (HE12.out.append 2 rfl hgr hf hown); clear hown hgr hf))
      rw [← HV.out]
      clear HE12 HN12 cR HV
      obtain ⟨fa, fl, fc, gV, NV⟩ := HE13.out.get 5 rfl
      have HNV := Lib.hid NV
      have HG13 := Lib.hid (HE13.out.has 0 f0.out)
      clear NV
      go_region_held3 (fun w' => w'.cell? ⟨V, 0, none⟩ = some (.slice fa fl fc)) (first | assumption | exact gV _ (BB.drew (BB.refl _)) | exact gV _ (BB.alloc (by assumption)))
        (first
          | (refine step_append_nat rfl (.tmp 62) (.tmp 68) rfl s _ _ rfl (HE16.out.row 3 rfl) ⟨w15.heap.size, 0, none⟩ 1 _ ta tl tc rfl cR HT16.out (by rw [HTM.out]; omega) HE16.out.base ?_; intro v'' w17 hown hgr hf; have HE17 := Lib.hid (HE16.out.append 3 rfl hgr hf hown); have cS17 := (HE16.out.grownBox 3 rfl 5 rfl (by decide) hgr).trans (gV _ (BB.alloc hbb15)); clear hown hgr hf)
          | (go_at_call 21; refine (gexp_any g _ _ _ _ _ oa fa ol oc fl fc _ _ w14 (HG13.out.below hbb14) HO14.out (HNV.out.below hbb14)).mono ?_; rintro e w15 ⟨ta, tl, tc, rfl, ht, hb15⟩; have hbb15 : BB w13 w15 := BB.step hbb14 hb15; have cZ15 := gV _ hbb15; have hbx := (Below.refl _ w15).alloc (Nat.le_refl _) (Obj.cells #[Value.slice ta tl tc] 33); have HT16 := Lib.hid (ht.below hbx); have HE16 := Lib.hid ((HE13.out.below hbb15).below hbx); have cR := (Blk.new w15 [Value.slice ta tl tc] 33).cell 0; simp only [List.getElem?_cons_zero] at cR; clear ht hb15 hbx)
          | (go_at_call 22; refine (gg_any g _ _ _ _ _ w13.drew HG13.out.drew).mono ?_; rintro e w14 ⟨oa, ol, oc, rfl, ho, hb14⟩; have hbb14 : BB w13 w14 := BB.step (BB.drew (BB.refl w13)) hb14; have HO14 := Lib.hid ho; have cZ14 := gV _ hbb14; clear ho hb14))
      go_wp2_with fail
      go_roundw
      case rel => exact ⟨i + 1, by omega, by go_num, by have := HE17.out.take 4; rw [HTS.out, List.map_append]; exact this⟩
      case measure => simp [intOf]; omega
    · have hi' : i = len := by omega
      subst hi'
      rw [List.take_of_length_le (by rw [HA.out.2.1]; exact Nat.le_refl _)] at HE
      obtain ⟨ys, hys⟩ : ∃ ys, l.map (fun z => evalm (gQ k) m (z % gQ k)) = ys := ⟨_, rfl⟩
      have HYS := Lib.hid hys
      have HYL : Hid (ys.length = i) := by show _ = _; rw [← hys, List.length_map]; exact HA.out.2.1
      obtain ⟨zs', hzs⟩ : ∃ zs', ys.map (fun v => gG k ^ v % gP k) = zs' := ⟨_, rfl⟩
      have HZS := Lib.hid hzs
      have HZL : Hid (zs'.length = i) := by show _ = _; rw [← hzs, List.length_map]; exact HYL.out
      rw [hys, hzs] at HE
      obtain ⟨va, vc, rfl, hv1, hv2, _, _⟩ := (HE.out.row 2 rfl).form
      obtain ⟨za, zc, rfl, hz1, hz2, _, _⟩ := (HE.out.row 3 rfl).form
      rw [HYL.out] at hv1 HE ⊢
      rw [HZL.out] at hz1 HE ⊢
      have HVC : Hid ((i : Int) ≤ vc) := by show (_ : Int) ≤ _; omega
      have HZC : Hid ((i : Int) ≤ zc) := by show (_ : Int) ≤ _; omega
      clear hys hzs hv1 hv2 hz1 hz2
      go_wp2_with fail
      refine (new_s x wr HXX.out).mono ?_
      rintro e w20 ⟨xa, xl, xc, rfl, hX, hb20⟩
      have HE20 := Lib.hid (HE.out.below hb20)
      have HX20 := Lib.hid hX
      clear hX hb20 HE
      go_wp2_with fail
      refine (join_any r (gQ k) pa i pc l va i vc ys xa xl xc x w20 (gQ_prime k) (HE20.out.has 1 f1.out) (HE20.out.row 0 rfl).toAt HA.out.2.1 HPC.out (by omega) (HE20.out.row 2 rfl).toAt HYL.out HVC.out HX20.out).mono ?_
      rintro e w21 ⟨ja, jl, jc, c, rfl, hb21, hcs⟩
      have HJ : Hid (NatS w21 ja jl (if c = 0 then wsum (gQ k) ys (wts (gQ k) l x) l.length else 0)) := by
        show NatS _ _ _ _
        rcases hcs with ⟨_, h, hn⟩ | ⟨_, _, h, hn⟩ | ⟨_, _, _, h, hn⟩ | ⟨_, _, _, h, hn⟩ <;> (subst h; exact hn)
      have HC : Hid ((l.length = 0 ∧ c = 10) ∨ (0 < l.length ∧ ¬ Dis (gQ k) l ∧ c = 11) ∨ (0 < l.length ∧ Dis (gQ k) l ∧ c = 0)) := by
        show _ ∨ _
        rcases hcs with ⟨h1, h, _⟩ | ⟨_, h1, _, _⟩ | ⟨h1, _, h2, h, _⟩ | ⟨h1, _, h2, h, _⟩
        · exact .inl ⟨h1, h⟩
        · exact absurd HA.out.2.1 h1
        · exact .inr (.inl ⟨h1, h2, h⟩)
        · exact .inr (.inr ⟨h1, h2, h⟩)
      obtain ⟨A, hA⟩ : ∃ A, A = w21.heap.size := ⟨_, rfl⟩
      have HE22 := Lib.hid ((HE20.out.below hb21).alloc A hA HJ.out (c := jc))
      clear hcs hb21 HE20 HX20 HJ
      go_wp2_with fail
      rw [← hA]
      clear hA
      generalize w21.alloc (Obj.cells #[Value.slice ja jl jc] 33) = w22 at HE22 ⊢
      refine (new_s x w22 HXX.out).mono ?_
      rintro e w23 ⟨xa, xl, xc, rfl, hX, hb23⟩
      have HE23 := Lib.hid (HE22.out.below hb23)
      have HX23 := Lib.hid hX
      clear hX hb23 HE22
      go_wp2_with fail
      refine (joinexp_any g (gP k) (gQ k) (gG k) (gH k) (gS k) pa i pc l za i zc zs' xa xl xc x w23 (gQ_prime k) (HE23.out.has 0 f0.out) (HE23.out.row 0 rfl).toAt HA.out.2.1 HPC.out (by omega) (HE23.out.row 3 rfl).toAt HZL.out HZC.out HX23.out).mono ?_
      rintro e w24 ⟨ja, jl, jc, c', rfl, hb24, hcs⟩
      have HJ : Hid (NatS w24 ja jl (if c = 0 then wprod (gP k) zs' (wts (gQ k) l x) l.length else 0) ∧ c' = c) := by
        show _ ∧ _
        rcases HC.out with ⟨h1, h⟩ | ⟨h1, h2, h⟩ | ⟨h1, h2, h⟩ <;> subst h <;> rcases hcs with ⟨k1, h, hn⟩ | ⟨_, k1, _, _⟩ | ⟨k1, _, k2, h, hn⟩ | ⟨k1, _, k2, h, hn⟩
        all_goals first | exact absurd HA.out.2.1 k1 | (exfalso; omega) | exact absurd k2 h2 | exact absurd h2 k2 | exact ⟨hn, h⟩
      obtain ⟨hJ, rfl⟩ := HJ.out
      obtain ⟨B, hB⟩ : ∃ B, B = w24.heap.size := ⟨_, rfl⟩
      have HE25 := Lib.hid ((HE23.out.below hb24).alloc B hB hJ (c := jc))
      clear hcs hb24 HE23 HX23 HJ hJ
      rcases HC.out with ⟨h1, h⟩ | ⟨h1, h2, h⟩ | ⟨h1, h2, h⟩
      · subst h
        clear h1 HC hB
        go_wp2_with fail
        go_ret
        exact ⟨rfl, HS.out ▸ HE25.out.bel⟩
      · subst h
        clear h1 h2 HC hB
        go_wp2_with fail
        go_ret
        exact ⟨rfl, HS.out ▸ HE25.out.bel⟩
      · subst h
        obtain ⟨W1, hW1⟩ : ∃ W1, evalm (gQ k) m (x % gQ k) = W1 := ⟨_, rfl⟩
        have e1 : wsum (gQ k) ys (wts (gQ k) l x) l.length = W1 := by
          rw [← HYS.out, ← hW1]
          exact share_field (gQ_prime k) h2 m (by rw [HM.out.2.1, HA.out.2.1]; omega) x
        have e2 : wprod (gP k) zs' (wts (gQ k) l x) l.length = gG k ^ W1 % gP k := by
          rw [← HZS.out, ← HYS.out, ← hW1]
          exact share_base k h2 m (by rw [HM.out.2.1, HA.out.2.1]; omega) x
        have HW1 := Lib.hid hW1
        rw [if_pos rfl, if_pos rfl, e1, e2] at HE25
        clear h1 h2 HC hW1 e1 e2
        go_wp2_with fail
        rw [← hB]
        clear hB
        generalize w24.alloc (Obj.cells #[Value.slice ja jl jc] 33) = w25 at HE25 ⊢
        refine (new_s x w25 HXX.out).mono ?_
        rintro e w26 ⟨xa, xl, xc, rfl, hX, hb26⟩
        have HE26 := Lib.hid (HE25.out.below hb26)
        have HX26 := Lib.hid hX
        clear hX hb26 HE25
        go_wp2_with fail
        refine (eval_any r (gQ k) qa lenb qc m xa xl xc x w26 (HE26.out.has 1 f1.out) (HE26.out.row 1 rfl).toAt HM.out.2.1 (by omega) HX26.out).mono ?_
        rw [HW1.out]
        rintro e w27 ⟨ea, el, ec, rfl, he, hb27⟩
        obtain ⟨E, hE⟩ : ∃ E, E = w27.heap.size := ⟨_, rfl⟩
        have HE28 := Lib.hid ((HE26.out.below hb27).alloc E hE he (c := ec))
        clear he hb27 HE26 HX26
        go_wp2_with fail
        rw [← hE]
        clear hE
        generalize w27.alloc (Obj.cells #[Value.slice ea el ec] 33) = w28 at HE28 ⊢
        obtain ⟨aa, al, ac, gA, NA⟩ := HE28.out.get 4 rfl
        obtain ⟨ba, bl, bc, gB, NB1⟩ := HE28.out.get 5 rfl
        obtain ⟨ea, el, ec, gE, NE1⟩ := HE28.out.get 6 rfl
        have HNA := Lib.hid NA
        have HNB := Lib.hid NB1
        have HNE := Lib.hid NE1
        have HG := Lib.hid (HE28.out.has 0 f0.out)
        clear NA NB1 NE1
        go_region_held3 (fun w' => BB w28 w') (first | assumption | exact BB.drew (BB.refl _))
          (first
            | (go_at_call 25; refine (cmp_s ba ta bl bc tl tc _ _ w31 (HNB.out.below hbb31) HT31.out).mono ?_; rw [cmp_self]; rintro e w32 ⟨rfl, hb32⟩; have hbb32 : BB w28 w32 := BB.step hbb31 hb32; clear hb32)
            | (go_at_call 21; refine (gexp_any g _ _ _ _ _ oa ea ol oc el ec _ _ w30 (HG.out.below hbb30) HO30.out (HNE.out.below hbb30)).mono ?_; rintro e w31 ⟨ta, tl, tc, rfl, ht, hb31⟩; have hbb31 : BB w28 w31 := BB.step hbb30 hb31; have HT31 := Lib.hid ht; clear ht hb31)
            | (go_at_call 22; refine (gg_any g _ _ _ _ _ w29 (HG.out.below hbb29)).mono ?_; rintro e w30 ⟨oa, ol, oc, rfl, ho, hb30⟩; have hbb30 : BB w28 w30 := BB.step hbb29 hb30; have HO30 := Lib.hid ho; clear ho hb30)
            | (go_at_call 25; refine (cmp_s aa ea al ac el ec _ _ w28.drew HNA.out.drew HNE.out.drew).mono ?_; rw [cmp_self]; rintro e w29 ⟨rfl, hb29⟩; have hbb29 : BB w28 w29 := BB.step (BB.drew (BB.refl w28)) hb29; clear hb29))
        have HB := Lib.hid (Below.trans HE28.out.bel (Below.mono hbb32 HE28.out.base))
        go_wp2_with fail
        go_ret
        exact ⟨rfl, HS.out ▸ HB.out⟩

/-- The same, as the frame asks it. -/
theorem shares_walk (a0 : Int) (a1 : Option Addr) (len1 cap1 : Nat) (z1 : List Int) (a2 : Option Addr) (len2 cap2 : Nat) (z2 : List Int) (a3 : Int) (w : World)
    (w1 : (a1 = none ∧ len1 = 0 ∧ cap1 = 0 ∧ z1 = []) ∨ ∃ x, a1 = some x ∧ len1 ≤ cap1 ∧ cap1 ≤ maxLen ∧ z1.length = cap1 ∧ (∀ i, i < z1.length → w.cell? (x.add i) = some (.int .u64 (z1.getD i 0))) ∧ ∀ n ∈ z1, (Lit.int .u64 n).wf = true)
    (w2 : (a2 = none ∧ len2 = 0 ∧ cap2 = 0 ∧ z2 = []) ∨ ∃ x, a2 = some x ∧ len2 ≤ cap2 ∧ cap2 ≤ maxLen ∧ z2.length = cap2 ∧ (∀ i, i < z2.length → w.cell? (x.add i) = some (.int .u64 (z2.getD i 0))) ∧ ∀ n ∈ z2, (Lit.int .u64 n).wf = true)
    (w3 : (Lit.int .u64 a3).wf = true) :
    Calls Try.prog 11 #[.int .i64 a0, .slice a1 len1 cap1, .slice a2 len2 cap2, .int .u64 a3] w fun e w' => e = .returned (.bool true) ∧ Below w.heap.size w w' := by
  obtain ⟨l, h1, h2, h3, h4⟩ := words_in w1
  obtain ⟨m, h5, h6, h7, h8⟩ := words_in w2
  obtain ⟨x, rfl, hx⟩ := word_in w3
  exact shares_any a0 a1 len1 cap1 l a2 len2 cap2 m x w h1 h2 h3 h4 h5 h6 h7 h8 hx
end Go.Proofs.Ythefednendgclaa
