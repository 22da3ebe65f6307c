/-
  The law CurveThrough: it returns true.
-/
import Derived.Test.YthefednendgclaaLaw10
import Derived.Test.YthefednendgclaaThr
set_option linter.unusedVariables false
set_option linter.unusedSimpArgs false
namespace Go.Proofs.Ythefednendgclaa
open Go Go.RowKit Sac NT

/-- The first numbers brought below q. -/
def redF (q : Nat) (m : List Nat) (i : Nat) : List Nat := (m.take i).map (· % q) ++ m.drop i
theorem redF_zero (q : Nat) (m : List Nat) : redF q m 0 = m := by simp [redF]
theorem redF_length (q : Nat) (m : List Nat) (i : Nat) : (redF q m i).length = m.length := by simp [redF]; omega
theorem redF_full (q : Nat) (m : List Nat) : redF q m m.length = m.map (· % q) := by simp [redF]
theorem redF_get {q : Nat} {m : List Nat} {i : Nat} (hi : i < m.length) : (redF q m i).getD i 0 = m.getD i 0 := by
  unfold redF
  have hl : ((m.take i).map (· % q)).length = i := by simp; omega
  rw [List.getD_eq_getElem?_getD, List.getElem?_append_right (by omega), hl, Nat.sub_self, List.getElem?_drop, Nat.add_zero, List.getD_eq_getElem?_getD]
theorem redF_succ {q : Nat} {m : List Nat} {i : Nat} (hi : i < m.length) : (redF q m i).set i (m.getD i 0 % q) = redF q m (i + 1) := by
  unfold redF
  have hl : ((m.take i).map (· % q)).length = i := by simp; omega
  have hg : m.getD i 0 = m[i] := by rw [List.getD_eq_getElem?_getD, List.getElem?_eq_getElem hi]; rfl
  rw [List.set_append_right _ _ (by omega), hl, Nat.sub_self, List.drop_eq_getElem_cons hi, List.set_cons_zero, List.take_succ_eq_append_getElem hi, List.map_append, List.append_assoc, hg]
  rfl

set_option maxRecDepth 100000 in
set_option maxHeartbeats 4000000 in
/-- The same numbers are the same. -/
theorem same_yes (a : Option Addr) (len cap : Nat) (b : Option Addr) (capb : Nat) (xs : List Nat) (w : World) (h : NatsAt w a xs) (hl : xs.length = len) (hcc : (len : Int) ≤ cap) (hc : (len : Int) ≤ 10000) (h' : NatsAt w b xs) (hcb : (len : Int) ≤ capb) :
    Calls Try.prog 75 #[.slice a len cap, .slice b len capb] w fun e w' => e = .returned (.bool true) ∧ Below w.heap.size w w' := by
  have HP := Lib.hid h
  have HP' := Lib.hid h'
  have HL := Lib.hid hl
  have e1 : ((len : Int) != (len : Int)) = false := by simp
  clear h h' hl
  go_enter Try.func75, Try.ntmps75
  go_wp2_with fail
  go_loopw [13] (fun iv wr => ∃ i : Nat, (i : Int) ≤ len ∧ iv = .int .i64 (i : Int) ∧ Hid (BB w wr)) (fun iv _ => len - (intOf iv).toNat)
  case atStart => exact ⟨0, by omega, rfl, BB.refl _⟩
  case round =>
    obtain ⟨i, hi, rfl, HB⟩ := hrel
    by_cases hlt : (i : Int) < len
    · have hil : i < xs.length := by rw [HL.out]; omega
      obtain ⟨ad, xa, xl, xc, hadr, _, cx, Nx⟩ := (HP.out.below HB.out).get hil
      subst hadr
      obtain ⟨bd, ya, yl, yc, hadr, _, cy, Ny⟩ := (HP'.out.below HB.out).get hil
      subst hadr
      have gX : ∀ w', BB wr w' → w'.cell? (ad.add i) = some (.slice xa xl xc) := fun w' h => (h.cell (World.block_lt_of_cell? _ _ cx)).trans cx
      have gY : ∀ w', BB wr w' → w'.cell? (bd.add i) = some (.slice ya yl yc) := fun w' h => (h.cell (World.block_lt_of_cell? _ _ cy)).trans cy
      have HNX := Lib.hid Nx
      have HNY := Lib.hid Ny
      have bi0 : (0 : Int) ≤ (i : Int) := by omega
      clear Nx Ny cx cy hil
      go_wp2_with fail
      go_region_held3 (fun w' => BB wr w') (first | assumption | exact BB.drew (BB.refl _))
        (first
          | (go_at_call 25; refine (cmp_s xa ya xl xc yl yc _ _ wr.drew HNX.out.drew HNY.out.drew).mono ?_; rw [cmp_self]; rintro e w2 ⟨rfl, hb2⟩; have hbb2 : BB wr w2 := BB.step (BB.drew (BB.refl wr)) hb2; clear hb2))
      go_wp2_with fail
      go_roundw
      case rel => exact ⟨i + 1, by omega, by go_num, BB.step HB.out hbb2⟩
      case measure => simp [intOf]; omega
    · have hi' : i = len := by omega
      subst hi'
      go_wp2_with fail
      go_ret
      exact ⟨rfl, HB.out⟩

set_option maxRecDepth 100000 in
set_option maxHeartbeats 8000000 in
theorem thru_any (n : Int) (a : Option Addr) (len cap : Nat) (l : List Nat) (b : Option Addr) (lenb capb : Nat) (m : List Nat) (w : World)
    (ha : RdC w a (l.map w64)) (hl : l.length = len) (hc : (len : Int) ≤ cap) (hx : ∀ y ∈ l, y < 18446744073709551616)
    (hb : RdC w b (m.map w64)) (hm : m.length = lenb) (hcb : (lenb : Int) ≤ capb) (hy : ∀ y ∈ m, y < 18446744073709551616) :
    Calls Try.prog 13 #[.int .i64 n, .slice a len cap, .slice b lenb capb] w fun e w' => e = .returned (.bool true) ∧ Below w.heap.size w w' := by
  have HA := Lib.hid (And.intro ha (And.intro hl (And.intro hc hx)))
  have HM := Lib.hid (And.intro hb (And.intro hm (And.intro hcb hy)))
  clear ha hl hc hx hb hm hcb hy
  by_cases h8 : (8 : Int) < (len : Int)
  · go_enter Try.func13, Try.ntmps13
    go_wp2_with fail
    refine (lives_any w).mono ?_
    rintro e w2 ⟨rfl, hb2⟩
    have HB2 := Lib.hid hb2
    clear hb2
    go_wp2_with fail
    refine (lives_any w2).mono ?_
    rintro e w3 ⟨rfl, hb3⟩
    have HB3 := Lib.hid (HB2.out.trans (hb3.mono HB2.out.size))
    clear hb3
    go_wp2_with fail
    go_ret
    exact ⟨rfl, HB3.out⟩
  by_cases h8' : (len : Int) < (lenb : Int)
  · go_enter Try.func13, Try.ntmps13
    go_wp2_with fail
    refine (lives_any w).mono ?_
    rintro e w2 ⟨rfl, hb2⟩
    have HB2 := Lib.hid hb2
    clear hb2
    go_wp2_with fail
    refine (lives_any w2).mono ?_
    rintro e w3 ⟨rfl, hb3⟩
    have HB3 := Lib.hid (HB2.out.trans (hb3.mono HB2.out.size))
    clear hb3
    go_wp2_with fail
    go_ret
    exact ⟨rfl, HB3.out⟩
  obtain ⟨s, hs⟩ : ∃ s, s = w.heap.size := ⟨_, rfl⟩
  obtain ⟨k, hk⟩ : ∃ k, kOf n = k := ⟨_, rfl⟩
  obtain ⟨q, hq⟩ : ∃ q, gQ k = q := ⟨_, rfl⟩
  have HQ : Hid (Prime q) := by show Prime q; rw [← hq]; exact gQ_prime k
  have HE0 := Lib.hid (GE.init w s hs)
  have HS := Lib.hid hs
  have HK := Lib.hid (show gQ (kOf n) = q by rw [hk, hq])
  clear hs hk hq
  go_enter Try.func13, Try.ntmps13
  go_wp2_with fail
  refine (lives_any w).mono ?_
  rintro e w2 ⟨rfl, hb2⟩
  have HE2 := Lib.hid (HE0.out.below hb2)
  clear hb2 HE0
  go_wp2_with fail
  refine (field_any n w2).mono ?_
  rintro e w3 ⟨r, rfl, hr, hb3⟩
  rw [HK.out] at hr
  have HE3 := Lib.hid ((HE2.out.below hb3).add (P := fun w => RingAt w r q) (ringAt_stays (by decide) (by decide)) hr)
  clear hb3 HE2 hr
  obtain ⟨F, hF⟩ : ∃ F : List (World → Prop), F = [fun w => RingAt w r q] := ⟨_, rfl⟩
  have f0 : Hid (F[0]? = some (fun w => RingAt w r q)) := by show _ = _; rw [hF]; rfl
  have HE5 : Hid (GE w w3 s [] F) := by rw [hF]; exact HE3.out
  clear HE3 hF
  go_wp2_with fail
  refine (nums_any a len cap l w3 (HA.out.1.below (HS.out ▸ HE5.out.bel)) HA.out.2.1 HA.out.2.2.1 (by omega) HA.out.2.2.2).mono ?_
  rintro e w5 ⟨v, rfl, hrow, hb5⟩
  obtain ⟨pa, pc, rfl, hp1, hp2, hat, _⟩ := hrow.form
  have HE6 := Lib.hid (HE5.out.pushRow hb5 hrow)
  rw [HA.out.2.1] at HE6 hp1 ⊢
  have HPC : Hid ((len : Int) ≤ pc) := by show (_ : Int) ≤ _; omega
  clear hb5 hrow hat hp1 hp2 HE5
  go_wp2_with fail
  refine (nums_any b lenb capb m w5 (HM.out.1.below (HS.out ▸ HE6.out.bel)) HM.out.2.1 HM.out.2.2.1 (by omega) HM.out.2.2.2).mono ?_
  rintro e w6 ⟨v, rfl, hrow, hb6⟩
  obtain ⟨qa, qc, rfl, hp1, hp2, hat, _⟩ := hrow.form
  have HE7 := Lib.hid (HE6.out.pushRow hb6 hrow)
  rw [HM.out.2.1] at HE7 hp1 ⊢
  have HQC : Hid ((lenb : Int) ≤ qc) := by show (_ : Int) ≤ _; omega
  have HE8 : Hid (GE w w6 s [rowI s (.slice pa len pc) l, rowI s (.slice qa lenb qc) (redF q m 0)] F) := by rw [redF_zero]; exact HE7.out
  clear hb6 hrow hat hp1 hp2 HE6 HE7
  go_wp2_with fail
  go_loopw [43] (fun iv wr => ∃ i : Nat, (i : Int) ≤ lenb ∧ iv = .int .i64 (i : Int) ∧ Hid (GE w wr s [rowI s (.slice pa len pc) l, rowI s (.slice qa lenb qc) (redF q m i)] F)) (fun iv _ => lenb - (intOf iv).toNat)
  case atStart => exact ⟨0, by omega, rfl, HE8.out⟩
  case round =>
    clear HE8
    obtain ⟨i, hi, rfl, HE⟩ := hrel
    by_cases hlt : (i : Int) < lenb
    · have hil : i < m.length := by rw [HM.out.2.1]; omega
      have hir : i < (redF q m i).length := by rw [redF_length]; exact hil
      obtain ⟨qa', qc', e, _, _, _, hg⟩ := (HE.out.row 1 rfl).form
      injection e with e1 e2 e3
      subst e1
      obtain ⟨gq, hg1, _⟩ := hg (by intro h0; rw [h0] at hir; exact absurd hir (by simp))
      subst hg1
      obtain ⟨ua, ul, uc, cU, fU, NU⟩ := (HE.out.row 1 rfl).get hir
      rw [redF_get hil] at NU
      have HNU := Lib.hid NU
      have HR := Lib.hid (HE.out.has 0 f0.out)
      have HIR := Lib.hid hir
      have HIL := Lib.hid hil
      have bi0 : (0 : Int) ≤ (i : Int) := by omega
      have bi1 : (i : Int) ≤ (qc : Int) := by have := HQC.out; omega
      clear e2 e3 hg NU hir hil fU
      go_wp2_with fail
      refine (of_s r q ua ul uc _ wr HR.out HNU.out).mono ?_
      rintro e w8 ⟨va, vl, vc, rfl, hv, hb8⟩
      have HE9 := Lib.hid (HE.out.below hb8)
      obtain ⟨_, _, _, cV, fV, _⟩ := (HE9.out.row 1 rfl).get HIR.out
      have HV := Lib.hid hv
      clear hb8 hv HE HR HNU cU
      go_wp2_with fail
      go_roundw
      case rel => exact ⟨i + 1, by omega, by go_num, by have := HE9.out.setRow 1 rfl HIR.out HV.out (c := vc); rw [redF_succ HIL.out] at this; exact this⟩
      case measure => simp [intOf]; omega
    · have hi' : i = lenb := by omega
      subst hi'
      obtain ⟨M, hMM⟩ : ∃ M, m.map (· % q) = M := ⟨_, rfl⟩
      have hfull : redF q m i = M := by rw [← hMM, ← redF_full, HM.out.2.1]
      have HML : Hid (M.length = i) := by show _ = _; rw [← hMM, List.length_map]; exact HM.out.2.1
      have HMQ : Hid (∀ c ∈ M, c < q) := by
        show ∀ c ∈ M, c < q
        intro c hc
        rw [← hMM] at hc
        obtain ⟨y, _, rfl⟩ := List.mem_map.1 hc
        exact Nat.mod_lt _ (by have := HQ.out.1; omega)
      have HE9 := Lib.hid ((hfull ▸ HE.out).pushNil)
      clear HE hMM hfull
      go_wp2_with fail
      go_loopw [11, 58] (fun v iv wr => ∃ j : Nat, (j : Int) ≤ len ∧ iv = .int .i64 (j : Int) ∧ Hid (GE w wr s [rowI s (.slice pa len pc) l, rowI s (.slice qa i qc) M, rowI s v ((l.take j).map fun z => evalm q M (z % q))] F)) (fun _ iv _ => len - (intOf iv).toNat)
      case atStart => exact ⟨0, by omega, rfl, HE9.out⟩
      case round =>
        clear HE9
        obtain ⟨j, hj, rfl, HE⟩ := hrel
        by_cases hlt : (j : Int) < len
        · have hjl : j < l.length := by rw [HA.out.2.1]; omega
          obtain ⟨y, hy⟩ : ∃ y, l.getD j 0 = y := ⟨_, rfl⟩
          obtain ⟨Y, hYv⟩ : ∃ Y, evalm q M (y % q) = Y := ⟨_, rfl⟩
          obtain ⟨ad, xa, xl, xc, hadr, _, cx, Nx⟩ := (HE.out.row 0 rfl).toAt.get hjl
          subst hadr
          rw [hy] at Nx
          obtain ⟨T, hT⟩ : ∃ T, (l.take j).map (fun z => evalm q M (z % q)) = T := ⟨_, rfl⟩
          have HTS : Hid ((l.take (j + 1)).map (fun z => evalm q M (z % q)) = T ++ [Y]) := by
            show _ = _
            rw [List.take_succ_eq_append_getElem hjl, List.map_append, hT, ← hYv, ← hy, List.getD_eq_getElem?_getD, List.getElem?_eq_getElem hjl]; rfl
          have HTL : Hid (T.length = j) := by show _ = _; rw [← hT, List.length_map, List.length_take]; omega
          have HYV := Lib.hid hYv
          rw [hT] at HE
          obtain ⟨Z, hZ⟩ : ∃ Z, Z = wr.heap.size := ⟨_, rfl⟩
          have hbZ := (Below.refl _ wr).alloc (Nat.le_refl _) (Obj.cells #[Value.slice xa xl xc] 33)
          have HE2 := Lib.hid (HE.out.alloc Z hZ Nx (c := xc))
          have HNX := Lib.hid (Nx.below hbZ)
          obtain ⟨va, vc, rfl, hv1, hv2, _, _⟩ := (HE.out.row 2 rfl).form
          rw [HTL.out] at hv1 HE2 ⊢
          clear Nx hy hjl HE hYv hT hbZ
          go_wp2_with fail
          rw [← hZ]
          clear hZ cx
          generalize wr.alloc (Obj.cells #[Value.slice xa xl xc] 33) = w9 at HE2 HNX ⊢
          with_reducible refine (eval_any r q qa i qc M xa xl xc y w9 (HE2.out.has 0 f0.out) (HE2.out.row 1 rfl).toAt HML.out (by omega) HNX.out).mono ?_
          rw [HYV.out]
          rintro e w10 ⟨ea, el, ec, rfl, he, hb10⟩
          have hbx := (Below.refl _ w10).alloc (Nat.le_refl _) (Obj.cells #[Value.slice ea el ec] 33)
          have HE12 := Lib.hid ((HE2.out.below hb10).below hbx)
          have HN12 := Lib.hid (he.below hbx)
          have cR := (Blk.new w10 [Value.slice ea el ec] 33).cell 0
          simp only [List.getElem?_cons_zero] at cR
          clear he hb10 HE2 HNX hbx
          go_wp2_with (first | (refine wpList_append_nat _ rfl (.tmp 62) (.tmp 67) rfl s _ T rfl (HE12.out.row 2 rfl) ⟨w10.heap.size, 0, none⟩ 1 Y ea el ec rfl cR HN12.out (by rw [HTL.out]; omega) HE12.out.base ?_; intro v' w13 hown hgr hf; have HE13 := Lib.hid (HE12.out.append 2 rfl hgr hf hown); clear hown hgr hf))
          go_roundw
          case rel => exact ⟨j + 1, by omega, by go_num, by have := HE13.out.take 3; rw [HTS.out]; exact this⟩
          case measure => simp [intOf]; omega
        · have hj' : j = len := by omega
          subst hj'
          rw [List.take_of_length_le (by rw [HA.out.2.1]; exact Nat.le_refl _)] at HE
          obtain ⟨ys, hys⟩ : ∃ ys, l.map (fun z => evalm q M (z % q)) = ys := ⟨_, rfl⟩
          have HYS := Lib.hid hys
          have HYL : Hid (ys.length = j) := by show _ = _; rw [← hys, List.length_map]; exact HA.out.2.1
          rw [hys] at HE
          obtain ⟨va, vc, rfl, hv1, hv2, _, _⟩ := (HE.out.row 2 rfl).form
          rw [HYL.out] at hv1 HE ⊢
          have HVC : Hid ((j : Int) ≤ vc) := by show (_ : Int) ≤ _; omega
          clear hys hv1 hv2
          go_wp2_with fail
          refine (through_any r q pa j pc l va j vc ys wr HQ.out (HE.out.has 0 f0.out) (HE.out.row 0 rfl).toAt HA.out.2.1 HPC.out (by omega) (HE.out.row 2 rfl).toAt HYL.out HVC.out).mono ?_
          rintro e w20 ⟨v, c, rfl, hb20, hcs⟩
          rcases hcs with ⟨h0, rfl, rfl⟩ | ⟨_, h1, _, _⟩ | ⟨_, _, _, rfl, rfl⟩ | ⟨h0, _, h2, rfl, hrow⟩
          · have hl0 : ((j : Int) == 0) = true := by rw [← HA.out.2.1, h0]; rfl
            have HB := Lib.hid ((HE.out.below hb20).bel)
            clear h0 hb20 HE
            go_wp2_with fail
            go_ret
            exact ⟨rfl, HS.out ▸ HB.out⟩
          · exact absurd HA.out.2.1 h1
          · have HB := Lib.hid ((HE.out.below hb20).bel)
            clear hb20 HE
            go_wp2_with fail
            go_ret
            exact ⟨rfl, HS.out ▸ HB.out⟩
          · have hle : M.length ≤ l.length := by rw [HML.out, HA.out.2.1]; omega
            obtain ⟨R, hR⟩ : ∃ R, thrF q l ys l.length = R := ⟨_, rfl⟩
            have HRE : Hid (R = M ++ List.replicate (j - i) 0) := by
              show _ = _
              have := thr_eq HQ.out h2 M hle HMQ.out
              rw [HYS.out, hR, HA.out.2.1, HML.out] at this; exact this
            have HRV : Hid (∀ z, evalm q R (z % q) = evalm q M (z % q)) := by
              intro z
              have := thr_at HQ.out h2 M hle z
              rw [HYS.out, hR] at this; exact this
            have HRL : Hid (R.length = j) := by show _ = _; rw [HRE.out]; simp [HML.out]; omega
            rw [hR] at hrow
            obtain ⟨ta, tc, rfl, ht1, ht2, _, _⟩ := hrow.form
            have HE21 := Lib.hid (HE.out.pushRow hb20 hrow)
            rw [HRL.out] at HE21 ht1 ⊢
            have HTC : Hid ((j : Int) ≤ tc) := by show (_ : Int) ≤ _; omega
            clear h0 h2 hle hR hrow hb20 HE ht1 ht2
            go_wp2_with fail
            go_loopw [92] (fun iv wr => ∃ t : Nat, (t : Int) ≤ j ∧ iv = .int .i64 (t : Int) ∧ Hid (GE w wr s [rowI s (.slice pa j pc) l, rowI s (.slice qa i qc) M, rowI s (.slice va j vc) ys, rowI s (.slice ta j tc) R] F)) (fun iv _ => j - (intOf iv).toNat)
            case atStart => exact ⟨0, by omega, rfl, HE21.out⟩
            case round =>
              clear HE21
              obtain ⟨t, ht, rfl, HE⟩ := hrel
              by_cases hlt : (t : Int) < j
              · have htl : t < l.length := by rw [HA.out.2.1]; omega
                obtain ⟨y, hy⟩ : ∃ y, l.getD t 0 = y := ⟨_, rfl⟩
                obtain ⟨Y, hYv⟩ : ∃ Y, evalm q M (y % q) = Y := ⟨_, rfl⟩
                obtain ⟨ad, xa, xl, xc, hadr, _, cx, Nx⟩ := (HE.out.row 0 rfl).toAt.get htl
                subst hadr
                rw [hy] at Nx
                obtain ⟨bd, za, zl, zc, hadr, _, cz, Nz⟩ := (HE.out.row 2 rfl).toAt.get (k := t) (by rw [HYL.out]; omega)
                subst hadr
                have hyt : ys.getD t 0 = Y := by
                  rw [← HYS.out, ← hYv, ← hy]
                  simp [List.getD_eq_getElem?_getD, List.getElem?_map, List.getElem?_eq_getElem htl]
                rw [hyt] at Nz
                have HEV : Hid (evalm q R (y % q) = Y) := by show _ = _; rw [HRV.out, hYv]
                obtain ⟨Z, hZ⟩ : ∃ Z, Z = wr.heap.size := ⟨_, rfl⟩
                have hbZ := (Below.refl _ wr).alloc (Nat.le_refl _) (Obj.cells #[Value.slice xa xl xc] 33)
                have HE2 := Lib.hid (HE.out.alloc Z hZ Nx (c := xc))
                have HNX := Lib.hid (Nx.below hbZ)
                have HNZ := Lib.hid (Nz.below hbZ)
                have gZ0 : ∀ w', BB (wr.alloc (Obj.cells #[Value.slice xa xl xc] 33)) w' → w'.cell? (bd.add t) = some (.slice za zl zc) := fun w' h => ((BB.step hbZ h).cell (World.block_lt_of_cell? _ _ cz)).trans cz
                have bi0 : (0 : Int) ≤ (t : Int) := by omega
                clear Nx Nz hy htl HE hYv hyt hbZ cz
                go_wp2_with fail
                rw [← hZ]
                clear hZ cx
                generalize wr.alloc (Obj.cells #[Value.slice xa xl xc] 33) = w9 at HE2 HNX HNZ gZ0 ⊢
                obtain ⟨xa, xl, xc, gX, NX⟩ := HE2.out.get 4 rfl
                have HNX' := Lib.hid NX
                have HR9 := Lib.hid (HE2.out.has 0 f0.out)
                have HT9 := Lib.hid (HE2.out.row 3 rfl).toAt
                clear NX HNX
                go_region_held3 (fun w' => BB w9 w') (first | assumption | exact BB.drew (BB.refl _))
                  (first
                    | (go_at_call 25; refine (cmp_s ea za el ec zl zc Y Y w10 HE10.out (HNZ.out.below hbb10)).mono ?_; rw [cmp_self]; rintro e w11 ⟨rfl, hb11⟩; have hbb11 : BB w9 w11 := BB.step hbb10 hb11; clear hb11)
                    | (go_at_call 23; refine (eval_any r q ta j tc R xa xl xc y w9.drew HR9.out.drew (HT9.out.below (BB.drew (BB.refl _))) HRL.out (by omega) HNX'.out.drew).mono ?_; rw [HEV.out]; rintro e w10 ⟨ea, el, ec, rfl, he, hb10⟩; have hbb10 : BB w9 w10 := BB.step (BB.drew (BB.refl w9)) hb10; have HE10 := Lib.hid he; clear he hb10))
                have HE12 := Lib.hid (HE2.out.below hbb11)
                go_wp2_with fail
                go_roundw
                case rel => exact ⟨t + 1, by omega, by go_num, HE12.out.take 4⟩
                case measure => simp [intOf]; omega
              · have ht' : t = j := by omega
                subst ht'
                have HE22 : Hid (GE w wr s [rowI s (.slice pa t pc) l, rowI s (.slice qa i qc) (M ++ List.replicate 0 0), rowI s (.slice va t vc) ys, rowI s (.slice ta t tc) R] F) := by
                  show GE _ _ _ _ _
                  have : M ++ List.replicate 0 0 = M := List.append_nil M
                  rw [this]; exact HE.out
                have HIC : Hid ((i : Int) ≤ qc) := HQC
                clear HE
                go_wp2_with fail
                go_loopw [9] (fun v wr => ∃ (u : Nat) (ca : Option Addr) (cc : Nat), ((i + u : Nat) : Int) ≤ t ∧ v = .slice ca (i + u) cc ∧ Hid (((i + u : Nat) : Int) ≤ cc) ∧ Hid (GE w wr s [rowI s (.slice pa t pc) l, rowI s v (M ++ List.replicate u 0), rowI s (.slice va t vc) ys, rowI s (.slice ta t tc) R] F)) (fun v _ => match v with | .slice _ n _ => t - n | _ => 0)
                case atStart => exact ⟨0, qa, qc, by omega, rfl, HIC.out, HE22.out⟩
                case round =>
                  clear HE22
                  obtain ⟨u, ca, cc, hu, rfl, HUC, HE⟩ := hrel
                  obtain ⟨N, hN⟩ : ∃ N, i + u = N := ⟨_, rfl⟩
                  rw [hN] at hu HUC HE ⊢
                  have HNN := Lib.hid hN
                  clear hN
                  by_cases hlt : (N : Int) < t
                  · have HUL : Hid ((M ++ List.replicate u 0).length = N) := by show _ = _; simp [HML.out, HNN.out]
                    have hbx := (Below.refl _ wr).alloc (Nat.le_refl _) (Obj.cells #[Value.slice none 0 0] 33)
                    have HE12 := Lib.hid (HE.out.below hbx)
                    have cR := (Blk.new wr [Value.slice none 0 0] 33).cell 0
                    simp only [List.getElem?_cons_zero] at cR
                    clear HE hbx
                    go_wp2_with (first | (refine wpList_append_nat _ rfl (.tmp 113) (.tmp 115) rfl s _ (M ++ List.replicate u 0) rfl (HE12.out.row 1 rfl) ⟨wr.heap.size, 0, none⟩ 1 0 none 0 0 rfl cR (natS_nil _) (by rw [HUL.out]; omega) HE12.out.base ?_; intro v' w13 hown hgr hf; have HO := Lib.hid hown; have HE13 := Lib.hid (HE12.out.append 1 rfl hgr hf hown); clear hown hgr hf))
                    go_roundw
                    case rel =>
                      have hsn : M ++ List.replicate u 0 ++ [0] = M ++ List.replicate (u + 1) 0 := by rw [List.append_assoc, ← List.replicate_succ']
                      have h13 := HE13.out
                      have ho := HO.out
                      rw [hsn] at h13 ho
                      obtain ⟨fa, fc, e1, e2, _, _, _⟩ := ho.form
                      have hln : (M ++ List.replicate (u + 1) 0).length = i + (u + 1) := by simp [HML.out]
                      rw [hln] at e1 e2
                      exact ⟨u + 1, fa, fc, by have := HNN.out; omega, e1, by show (_ : Int) ≤ _; omega, h13.take 4⟩
                    case measure =>
                      obtain ⟨fa, fc, e1, _, _, _, _⟩ := HO.out.form
                      have hln : (M ++ List.replicate u 0 ++ [0]).length = N + 1 := by rw [List.length_append, HUL.out]; rfl
                      rw [hln] at e1
                      subst e1
                      show t - (N + 1) < t - N
                      omega
                  · have hnt : N = t := by omega
                    subst hnt
                    have hui : u = N - i := by have := HNN.out; omega
                    have HE14 : Hid (GE w wr s [rowI s (.slice pa N pc) l, rowI s (.slice ca N cc) R, rowI s (.slice va N vc) ys, rowI s (.slice ta N tc) R] F) := by
                      show GE _ _ _ _ _
                      have h := HE.out
                      rw [hui, ← HRE.out] at h; exact h
                    clear HE hui
                    go_wp2_with fail
                    refine (same_yes ta N tc ca cc R wr (HE14.out.row 3 rfl).toAt HRL.out HTC.out (by omega) (HE14.out.row 1 rfl).toAt HUC.out).mono ?_
                    rintro e w15 ⟨rfl, hb15⟩
                    have HB := Lib.hid ((HE14.out.below hb15).bel)
                    clear hb15 HE14
                    go_wp2_with fail
                    go_ret
                    exact ⟨rfl, HS.out ▸ HB.out⟩

/-- The same, as the frame asks it. -/
theorem thru_walk (a0 : Int) (a1 : Option Addr) (len1 cap1 : Nat) (z1 : List Int) (a2 : Option Addr) (len2 cap2 : Nat) (z2 : List Int) (w : World)
    (w1 : (a1 = none ∧ len1 = 0 ∧ cap1 = 0 ∧ z1 = []) ∨ ∃ x, a1 = some x ∧ len1 ≤ cap1 ∧ cap1 ≤ maxLen ∧ z1.length = cap1 ∧ (∀ i, i < z1.length → w.cell? (x.add i) = some (.int .u64 (z1.getD i 0))) ∧ ∀ n ∈ z1, (Lit.int .u64 n).wf = true)
    (w2 : (a2 = none ∧ len2 = 0 ∧ cap2 = 0 ∧ z2 = []) ∨ ∃ x, a2 = some x ∧ len2 ≤ cap2 ∧ cap2 ≤ maxLen ∧ z2.length = cap2 ∧ (∀ i, i < z2.length → w.cell? (x.add i) = some (.int .u64 (z2.getD i 0))) ∧ ∀ n ∈ z2, (Lit.int .u64 n).wf = true) :
    Calls Try.prog 13 #[.int .i64 a0, .slice a1 len1 cap1, .slice a2 len2 cap2] w fun e w' => e = .returned (.bool true) ∧ Below w.heap.size w w' := by
  obtain ⟨l, h1, h2, h3, h4⟩ := words_in w1
  obtain ⟨m, h5, h6, h7, h8⟩ := words_in w2
  exact thru_any a0 a1 len1 cap1 l a2 len2 cap2 m w h1 h2 h3 h4 h5 h6 h7 h8
end Go.Proofs.Ythefednendgclaa
