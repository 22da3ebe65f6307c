/-
  What goes through values at places, as the document joins it: in the field and in the exponent.
-/
import Derived.Test.YthefednendgclaaGreatRefW
import Derived.Test.YthefednendgclaaGreatRefK
import Derived.Test.YthefednendgclaaGreatShareL
set_option linter.unusedVariables false
set_option linter.unusedSimpArgs false
namespace Go.Proofs.YthefednendgclaaGreat
open Go Go.RowKit Sac NT

def tabJN (B0 : Nat) (v0 : Value) (v1 : Value) (v2 : Value) (v3 : Value) (v4 : Value) (n5 : Nat) (v6 : Value) (v7 : Value) (v8 : Value) (v9 : Value) (v10 : Value) (n11 : Nat) (v12 : Value) (n13 : Nat) (p14 : Fk (KpQ B0)) : List (Fk (KpQ B0)) := [.val v0, .val v1, .val v2, .val v3, .val v4, Fk.bn n5, .val v6, .val v7, .val v8, .val v9, .val v10, Fk.bn n11, .val v12, Fk.bn n13, p14]
def dstJN : List (Option Tmp) := [some 17, some 18, some 19, some 20, some 21, some 22, some 23, some 24, some 25, some 26, some 27, some 28, some 29, some 30, some 9]
def preJN : List (List Nat) := [[], [], [], [], [], [1, 2, 3, 4], [], [], [6, 7], [6, 7, 8], [], [1, 2, 3, 4, 5, 6, 7, 8, 9, 10], [], [0, 1, 2, 3, 4, 5, 6, 7, 8, 9, 10, 11, 12], [0, 1, 2, 3, 4, 5, 6, 7, 8, 9, 10, 11, 12, 13]]
def maskJN : List Bool := [false, false, false, false, false, false, false, false, false, true, false, false, false, false, false, false, false, true, true, true, true, true, true, true, true, true, true, true, true, true, true, false, false]
def tabJX (B0 : Nat) (v0 : Value) (v1 : Value) (v2 : Value) (v3 : Value) (v4 : Value) (v5 : Value) (v6 : Value) (v7 : Value) (v8 : Value) (v9 : Value) (v10 : Value) (v11 : Value) (n12 : Nat) (n13 : Nat) (n14 : Nat) (p15 : Fk (KpQ B0)) : List (Fk (KpQ B0)) := [.val v0, .val v1, .val v2, .val v3, .val v4, .val v5, .val v6, .val v7, .val v8, .val v9, .val v10, .val v11, Fk.bn n12, Fk.bn n13, Fk.bn n14, p15]
def dstJX : List (Option Tmp) := [some 17, some 18, some 19, some 20, some 21, some 22, some 23, some 24, some 25, some 26, some 27, some 28, some 29, some 30, some 31, some 9]
def preJX : List (List Nat) := [[], [], [], [], [], [3, 4], [3, 4, 5], [], [7], [], [], [], [7, 8, 9, 10, 11], [2, 3, 4, 5, 6, 7, 8, 9, 10, 11, 12], [0, 1, 2, 3, 4, 5, 6, 7, 8, 9, 10, 11, 12, 13], [0, 1, 2, 3, 4, 5, 6, 7, 8, 9, 10, 11, 12, 13, 14]]
def maskJX : List Bool := [false, false, false, false, false, false, false, false, false, true, false, false, false, false, false, false, false, true, true, true, true, true, true, true, true, true, true, true, true, true, true, true, false, false]

theorem wprod_lt' {P : Nat} (hP : 1 < P) (ys ws : List Nat) : ∀ k, wprod P ys ws k < P
  | 0 => hP
  | k + 1 => Nat.mod_lt _ (by omega)
theorem wt_lt {q : Nat} (hq : 0 < q) (xs : List Nat) (x i : Nat) : wt q xs x i < q := Nat.mod_lt _ hq
set_option maxRecDepth 100000 in
set_option maxHeartbeats 4000000 in
theorem bjoin10_any (qv v : Value) (ua : Option Addr) (len uc : Nat) (xv : Value) (q x : Nat) (xs ys : List Nat) (w : World) (hqv : BN w qv q) (hv : BRow w v xs) (hu : BRow w (.slice ua len uc) ys) (hxv : BN w xv x) (hq : Prime q) (hql : Bt.len q ≤ 400) (hd : Dis q xs) (hlx : xs.length = len) (hly : ys.length = len) (hys : ∀ a ∈ ys, Bt.len a ≤ 400) (hc : (len : Int) ≤ 10000) (hcu : (len : Int) ≤ uc) :
    Calls Tryz.prog 21 #[qv, v, .slice ua len uc, xv] w (RetB (wsum q ys (wts q xs x) len) w) := by
  have HQ0 : Hid (0 < q) := by show _ < _; have := hq.1; omega
  have HC : Hid (Prime q ∧ Bt.len q ≤ 400 ∧ Dis q xs ∧ (xs.length : Int) ≤ 10000) := ⟨hq, hql, hd, by rw [hlx]; exact hc⟩
  have HLN := Lib.hid (And.intro hlx hly)
  have HYS := Lib.hid hys
  have HVL : Hid (∃ (va : Option Addr) (vc : Nat), v = .slice va len vc) := by
    obtain ⟨va, vc, e, _⟩ := hv.form
    rw [hlx] at e
    exact ⟨va, vc, e⟩
  obtain ⟨s, hss⟩ : ∃ s, s = w.heap.size := ⟨_, rfl⟩
  have hbw := (Below.refl _ w).alloc (Nat.le_refl _) (Obj.cells #[] 4)
  have HQ := Lib.hid (hqv.below hbw)
  have HV := Lib.hid (hv.below hbw)
  have HU := Lib.hid (hu.below hbw)
  have HX := Lib.hid (hxv.below hbw)
  have HBW := Lib.hid hbw
  have HZ0 : Hid (BN (w.alloc (Obj.cells #[] 4)) (.slice (some ⟨w.heap.size, 0, none⟩) 0 0) 0) := BN.mk' (BitsAt.zero _ _ _) rfl (Nat.le_refl _) (by decide) (by decide)
  clear hqv hv hu hxv hbw hq hql hd hlx hly hys
  obtain ⟨va, vc, rfl⟩ := HVL.out
  go_enter Tryz.func21, Tryz.ntmps21
  go_wp2_with fail
  rw [← hss] at HZ0 HBW ⊢
  have HSS := Lib.hid hss
  clear hss
  generalize w.alloc (Obj.cells #[] 4) = w1 at HQ HV HU HX HBW HZ0 ⊢
  obtain ⟨v, hvv⟩ : ∃ v, Value.slice va len vc = v := ⟨_, rfl⟩
  rw [hvv] at HV ⊢
  clear hvv HVL
  go_loopw [9, 14] (fun ov iv wr => ∃ (i : Nat) (y : Value) (o : Nat), y = ov ∧ i ≤ len ∧ iv = .int .i64 (i : Int) ∧ Hid (BN wr y o ∧ o = wsum q ys (wts q xs x) i) ∧ Hid (BB w1 wr)) (fun _ iv _ => len - (intOf iv).toNat)
  case atStart => exact ⟨0, _, 0, rfl, Nat.zero_le _, rfl, ⟨HZ0.out, rfl⟩, BB.refl _⟩
  case round =>
    obtain ⟨i, y, o, rfl, hi, rfl, HO, HBR⟩ := hrel
    by_cases hlt : (i : Int) < (len : Int)
    · obtain ⟨uad, hua⟩ : ∃ uad, ua = some uad := by
        obtain ⟨ad, _, _, _, e, _⟩ := HU.out.get (j := i) (by rw [HLN.out.2]; omega)
        exact ⟨ad, e⟩
      subst hua
      have hi2 : i < xs.length := by rw [HLN.out.1]; omega
      have hi3 : i < ys.length := by rw [HLN.out.2]; omega
      obtain ⟨uad', ca, cl, cc, eu, gC, nC⟩ := HU.out.get hi3
      obtain rfl : uad = uad' := Option.some.inj eu
      obtain ⟨c, hcx⟩ : ∃ c, ys.getD i 0 = c := ⟨_, rfl⟩
      have HCL : Hid (Bt.len c ≤ 400) := by show _ ≤ _; rw [← hcx, List.getD_eq_getElem?_getD, List.getElem?_eq_getElem hi3]; exact HYS.out _ (List.getElem_mem hi3)
      rw [hcx] at nC
      have HN := Lib.hid nC
      have HOL : Hid (Bt.len o ≤ 400) := by show _ ≤ _; rw [HO.out.2]; exact Nat.le_trans (Bt.len_mono (Nat.le_of_lt (wsum_lt HQ0.out _ _ _))) HC.out.2.1
      have HWL : Hid (Bt.len (wt q xs x i) ≤ 400) := Nat.le_trans (Bt.len_mono (Nat.le_of_lt (wt_lt HQ0.out _ _ _))) HC.out.2.1
      have HDL : Hid (Bt.len (wt q xs x i * c % q) ≤ 400) := Nat.le_trans (len_mod _ HQ0.out) HC.out.2.1
      have HNX : Hid ((o + wt q xs x i * c % q) % q = wsum q ys (wts q xs x) (i + 1)) := by
        show _ = (wsum q ys (wts q xs x) i + ys.getD i 0 * (wts q xs x).getD i 0 % q) % q
        rw [wts_get _ _ _ _ hi2, hcx, HO.out.2, Nat.mul_comm c]
      clear hi3 nC hcx eu
      go_wp2_with fail
      refine wp_region_mixB (fun l g w' => (BB wr w') ∧ (l 14 = false → g 9 = y)) (GF (tabJN 0 (y) (qv) (v) (.int .i64 (i : Int)) (xv) (wt q xs x i) (.slice (some uad) len uc) (.int .i64 (i : Int)) (.pointer (some (uad.add i))) (.slice ca cl cc) (qv) (wt q xs x i * c % q) (qv) ((o + wt q xs x i * c % q) % q) (Fk.bn ((o + wt q xs x i * c % q) % q)))) maskJN dstJN preJN (by kernel_rfl) (by kernel_rfl) rfl (by kernel_rfl) (by kernel_rfl) (by kernel_rfl) (by kernel_rfl) ⟨BB.drew (BB.refl _), fun _ => rfl⟩ ?_ ?_
      · refine StepsMB.cons (fun l g' wu hB hl hn hp K hK => ?_) ?_
        · have hbb := hB.1; have hov := hB.2 (hn 14 (by decide)); simp only [mkM, maskJN, mixM, Nat.reduceAdd, hov] at hK ⊢; clear hov; simp only [Act.put, List.setIfInBounds_toArray, List.set_cons_zero, List.set_cons_succ] at hK; go_simp; exact hK.out _ _ ⟨hB.1, fun h => (updG_ne (by decide)).trans (hB.2 (by rw [setL_ne (by decide)] at h; exact h))⟩ GF.same rfl
        refine StepsMB.cons (fun l g' wu hB hl hn hp K hK => ?_) ?_
        · have hbb := hB.1; have hov := hB.2 (hn 14 (by decide)); simp only [mkM, maskJN, mixM, Nat.reduceAdd, hov] at hK ⊢; clear hov; simp only [Act.put, List.setIfInBounds_toArray, List.set_cons_zero, List.set_cons_succ] at hK; go_simp; exact hK.out _ _ ⟨hB.1, fun h => (updG_ne (by decide)).trans (hB.2 (by rw [setL_ne (by decide)] at h; exact h))⟩ GF.same rfl
        refine StepsMB.cons (fun l g' wu hB hl hn hp K hK => ?_) ?_
        · have hbb := hB.1; have hov := hB.2 (hn 14 (by decide)); simp only [mkM, maskJN, mixM, Nat.reduceAdd, hov] at hK ⊢; clear hov; simp only [Act.put, List.setIfInBounds_toArray, List.set_cons_zero, List.set_cons_succ] at hK; go_simp; exact hK.out _ _ ⟨hB.1, fun h => (updG_ne (by decide)).trans (hB.2 (by rw [setL_ne (by decide)] at h; exact h))⟩ GF.same rfl
        refine StepsMB.cons (fun l g' wu hB hl hn hp K hK => ?_) ?_
        · have hbb := hB.1; have hov := hB.2 (hn 14 (by decide)); simp only [mkM, maskJN, mixM, Nat.reduceAdd, hov] at hK ⊢; clear hov; simp only [Act.put, List.setIfInBounds_toArray, List.set_cons_zero, List.set_cons_succ] at hK; go_simp; exact hK.out _ _ ⟨hB.1, fun h => (updG_ne (by decide)).trans (hB.2 (by rw [setL_ne (by decide)] at h; exact h))⟩ GF.same rfl
        refine StepsMB.cons (fun l g' wu hB hl hn hp K hK => ?_) ?_
        · have hbb := hB.1; have hov := hB.2 (hn 14 (by decide)); simp only [mkM, maskJN, mixM, Nat.reduceAdd, hov] at hK ⊢; clear hov; simp only [Act.put, List.setIfInBounds_toArray, List.set_cons_zero, List.set_cons_succ] at hK; go_simp; exact hK.out _ _ ⟨hB.1, fun h => (updG_ne (by decide)).trans (hB.2 (by rw [setL_ne (by decide)] at h; exact h))⟩ GF.same rfl
        refine StepsMB.cons (fun l g' wu hB hl hn hp K hK => ?_) ?_
        · have hbb := hB.1; have hov := hB.2 (hn 14 (by decide)); have e1 : g' 18 = qv := (hp 1 (by decide)).2; have e2 : g' 19 = v := (hp 2 (by decide)).2; have e3 : g' 20 = .int .i64 (i : Int) := (hp 3 (by decide)).2; have e4 : g' 21 = xv := (hp 4 (by decide)).2; simp only [mkM, maskJN, mixM, Nat.reduceAdd, hov, e1, e2, e3, e4] at hK ⊢; clear hov e1 e2 e3 e4; simp only [Act.put, List.setIfInBounds_toArray, List.set_cons_zero, List.set_cons_succ] at hK; go_simp; go_at_call 63; refine (bweight_any qv v xv q xs i x _ ((HQ.out.below HBR.out).below hbb) ((HV.out.below HBR.out).below hbb) ((HX.out.below HBR.out).below hbb) HC.out.1 HC.out.2.1 HC.out.2.2.1 hi2 HC.out.2.2.2).mono ?_; rintro e w7 ⟨z, rfl, hz, hb⟩; go_wp2_with fail; exact hK.out _ _ ⟨BB.step hbb hb, fun h => (updG_ne (by decide)).trans (hB.2 (by rw [setL_ne (by decide)] at h; exact h))⟩ (GF.below hb) hz
        refine StepsMB.cons (fun l g' wu hB hl hn hp K hK => ?_) ?_
        · have hbb := hB.1; have hov := hB.2 (hn 14 (by decide)); simp only [mkM, maskJN, mixM, Nat.reduceAdd, hov] at hK ⊢; clear hov; simp only [Act.put, List.setIfInBounds_toArray, List.set_cons_zero, List.set_cons_succ] at hK; go_simp; exact hK.out _ _ ⟨hB.1, fun h => (updG_ne (by decide)).trans (hB.2 (by rw [setL_ne (by decide)] at h; exact h))⟩ GF.same rfl
        refine StepsMB.cons (fun l g' wu hB hl hn hp K hK => ?_) ?_
        · have hbb := hB.1; have hov := hB.2 (hn 14 (by decide)); simp only [mkM, maskJN, mixM, Nat.reduceAdd, hov] at hK ⊢; clear hov; simp only [Act.put, List.setIfInBounds_toArray, List.set_cons_zero, List.set_cons_succ] at hK; go_simp; exact hK.out _ _ ⟨hB.1, fun h => (updG_ne (by decide)).trans (hB.2 (by rw [setL_ne (by decide)] at h; exact h))⟩ GF.same rfl
        refine StepsMB.cons (fun l g' wu hB hl hn hp K hK => ?_) ?_
        · have hbb := hB.1; have hov := hB.2 (hn 14 (by decide)); have e6 : g' 23 = .slice (some uad) len uc := (hp 6 (by decide)).2; have e7 : g' 24 = .int .i64 (i : Int) := (hp 7 (by decide)).2; simp only [mkM, maskJN, mixM, Nat.reduceAdd, hov, e6, e7] at hK ⊢; clear hov e6 e7; simp only [Act.put, List.setIfInBounds_toArray, List.set_cons_zero, List.set_cons_succ] at hK; go_simp; exact hK.out _ _ ⟨hB.1, fun h => (updG_ne (by decide)).trans (hB.2 (by rw [setL_ne (by decide)] at h; exact h))⟩ GF.same rfl
        refine StepsMB.cons (fun l g' wu hB hl hn hp K hK => ?_) ?_
        · have hbb := hB.1; have hov := hB.2 (hn 14 (by decide)); have e8 : g' 25 = .pointer (some (uad.add i)) := (hp 8 (by decide)).2; have hc := gC _ (BB.step HBR.out hbb); simp only [mkM, maskJN, mixM, Nat.reduceAdd, hov, e8] at hK ⊢; clear hov e8; simp only [Act.put, List.setIfInBounds_toArray, List.set_cons_zero, List.set_cons_succ] at hK; go_simp; exact hK.out _ _ ⟨hB.1, fun h => (updG_ne (by decide)).trans (hB.2 (by rw [setL_ne (by decide)] at h; exact h))⟩ GF.same rfl
        refine StepsMB.cons (fun l g' wu hB hl hn hp K hK => ?_) ?_
        · have hbb := hB.1; have hov := hB.2 (hn 14 (by decide)); simp only [mkM, maskJN, mixM, Nat.reduceAdd, hov] at hK ⊢; clear hov; simp only [Act.put, List.setIfInBounds_toArray, List.set_cons_zero, List.set_cons_succ] at hK; go_simp; exact hK.out _ _ ⟨hB.1, fun h => (updG_ne (by decide)).trans (hB.2 (by rw [setL_ne (by decide)] at h; exact h))⟩ GF.same rfl
        refine StepsMB.cons (fun l g' wu hB hl hn hp K hK => ?_) ?_
        · have hbb := hB.1; have hov := hB.2 (hn 14 (by decide)); have h5 : BN wu (g' 22) (wt q xs x i) := (hp 5 (by decide)).2; have e9 : g' 26 = .slice ca cl cc := (hp 9 (by decide)).2; have e10 : g' 27 = qv := (hp 10 (by decide)).2; simp only [mkM, maskJN, mixM, Nat.reduceAdd, hov, e9, e10] at hK ⊢; clear hov e9 e10; simp only [Act.put, List.setIfInBounds_toArray, List.set_cons_zero, List.set_cons_succ] at hK; go_simp; go_at_call 62; refine (brmul_any _ _ _ _ _ q _ h5 ((HN.out.below HBR.out).below hbb) ((HQ.out.below HBR.out).below hbb) HQ0.out HC.out.2.1 HWL.out HCL.out).mono ?_; rintro e w7 ⟨z, rfl, hz, hb⟩; go_wp2_with fail; exact hK.out _ _ ⟨BB.step hbb hb, fun h => (updG_ne (by decide)).trans (hB.2 (by rw [setL_ne (by decide)] at h; exact h))⟩ (GF.below hb) hz
        refine StepsMB.cons (fun l g' wu hB hl hn hp K hK => ?_) ?_
        · have hbb := hB.1; have hov := hB.2 (hn 14 (by decide)); simp only [mkM, maskJN, mixM, Nat.reduceAdd, hov] at hK ⊢; clear hov; simp only [Act.put, List.setIfInBounds_toArray, List.set_cons_zero, List.set_cons_succ] at hK; go_simp; exact hK.out _ _ ⟨hB.1, fun h => (updG_ne (by decide)).trans (hB.2 (by rw [setL_ne (by decide)] at h; exact h))⟩ GF.same rfl
        refine StepsMB.cons (fun l g' wu hB hl hn hp K hK => ?_) ?_
        · have hbb := hB.1; have hov := hB.2 (hn 14 (by decide)); have e0 : g' 17 = y := (hp 0 (by decide)).2; have h11 : BN wu (g' 28) (wt q xs x i * c % q) := (hp 11 (by decide)).2; have e12 : g' 29 = qv := (hp 12 (by decide)).2; simp only [mkM, maskJN, mixM, Nat.reduceAdd, hov, e0, e12] at hK ⊢; clear hov e0 e12; simp only [Act.put, List.setIfInBounds_toArray, List.set_cons_zero, List.set_cons_succ] at hK; go_simp; go_at_call 61; refine (bradd_any _ _ _ _ _ q _ (HO.out.1.below hbb) h11 ((HQ.out.below HBR.out).below hbb) HQ0.out HC.out.2.1 HOL.out HDL.out).mono ?_; rintro e w7 ⟨z, rfl, hz, hb⟩; go_wp2_with fail; exact hK.out _ _ ⟨BB.step hbb hb, fun h => (updG_ne (by decide)).trans (hB.2 (by rw [setL_ne (by decide)] at h; exact h))⟩ (GF.below hb) hz
        refine StepsMB.cons (fun l g' wu hB hl hn hp K hK => ?_) ?_
        · have hbb := hB.1; have hov := hB.2 hl; have h13 : BN wu (g' 30) ((o + wt q xs x i * c % q) % q) := (hp 13 (by decide)).2; simp only [mkM, maskJN, mixM, Nat.reduceAdd, hov] at hK ⊢; clear hov; simp only [Act.put, List.setIfInBounds_toArray, List.set_cons_zero, List.set_cons_succ] at hK; go_simp; exact hK.out _ _ ⟨hB.1, (fun h => by rw [setL_eq] at h; cases h)⟩ GF.same h13
        exact StepsMB.nil
      · intro l g' wu hall hB hG
        have h14 : BN wu (g' 9) ((o + wt q xs x i * c % q) % q) := hG 14 (by decide)
        have hbu : BB wr wu := hB.1
        obtain ⟨nv, hnv⟩ : ∃ nv, g' 9 = nv := ⟨_, rfl⟩
        rw [hnv] at h14
        have H7 := Lib.hid h14
        have HBU := Lib.hid (BB.step HBR.out hbu)
        simp only [mkM, maskJN, mixM, Nat.reduceAdd, hnv]
        clear hG hall hB h14 hnv hbu
        go_wp2_with fail
        go_roundw
        case rel => exact ⟨i + 1, nv, _, rfl, by omega, by go_num, ⟨H7.out, HNX.out⟩, HBU.out⟩
        case measure => simp [intOf]; omega
    · obtain rfl : i = len := by omega
      go_wp2_with fail
      go_ret
      exact ⟨_, rfl, HO.out.2 ▸ HO.out.1, HSS.out ▸ HBW.out.trans (Below.mono HBR.out (by rw [HSS.out]; exact HBW.out.size))⟩

set_option maxRecDepth 100000 in
set_option maxHeartbeats 4000000 in
theorem bjoinexp10_any (gv v : Value) (ua : Option Addr) (len uc : Nat) (xv : Value) (P Q G H x : Nat) (xs ys : List Nat) (w : World) (hg : BG w gv P Q G H) (hv : BRow w v xs) (hu : BRow w (.slice ua len uc) ys) (hxv : BN w xv x) (hq : Prime Q) (hql : Bt.len Q ≤ 400) (hP : 1 < P) (hPl : Bt.len P ≤ 400) (hd : Dis Q xs) (hlx : xs.length = len) (hly : ys.length = len) (hys : ∀ a ∈ ys, Bt.len a ≤ 400) (hc : (len : Int) ≤ 10000) (hcu : (len : Int) ≤ uc) :
    Calls Tryz.prog 22 #[gv, v, .slice ua len uc, xv] w (RetB (wprod P ys (wts Q xs x) len) w) := by
  have HC : Hid (Prime Q ∧ Bt.len Q ≤ 400 ∧ Dis Q xs ∧ (xs.length : Int) ≤ 10000) := ⟨hq, hql, hd, by rw [hlx]; exact hc⟩
  have HPP : Hid (0 < P ∧ Bt.len P ≤ 400) := ⟨by omega, hPl⟩
  have HP1 := Lib.hid hP
  have HLN := Lib.hid (And.intro hlx hly)
  have HYS := Lib.hid hys
  have HVL : Hid (∃ (va : Option Addr) (vc : Nat), v = .slice va len vc) := by
    obtain ⟨va, vc, e, _⟩ := hv.form
    rw [hlx] at e
    exact ⟨va, vc, e⟩
  obtain ⟨pa, pl, pc, qa, ql, qc, ga, gl, gc, ja, jl, jc, rfl, h1, h2, h3, h4⟩ := hg
  obtain ⟨s, hss⟩ : ∃ s, s = w.heap.size := ⟨_, rfl⟩
  have hbw := (Below.refl _ w).alloc (Nat.le_refl _) (Obj.cells #[Value.slice pa pl pc, Value.slice qa ql qc, Value.slice ga gl gc, Value.slice ja jl jc] 30)
  have hE : Blk (w.alloc (Obj.cells #[Value.slice pa pl pc, Value.slice qa ql qc, Value.slice ga gl gc, Value.slice ja jl jc] 30)) s 30 [.slice pa pl pc, .slice qa ql qc, .slice ga gl gc, .slice ja jl jc] := Blk.new' w _ _ s hss
  have HG0 := Lib.hid (And.intro (h1.below hbw) (And.intro (h2.below hbw) (And.intro (h3.below hbw) (h4.below hbw))))
  have HV0 := Lib.hid (hv.below hbw)
  have HU0 := Lib.hid (hu.below hbw)
  have HX0 := Lib.hid (hxv.below hbw)
  have HBW0 := Lib.hid hbw
  clear hv hu hxv hbw hq hql hd hlx hly hys h1 h2 h3 h4 hP hPl
  obtain ⟨va, vc, rfl⟩ := HVL.out
  go_enter Tryz.func22, Tryz.ntmps22
  go_wp2_with fail
  rw [← hss] at HBW0 ⊢
  have HSS := Lib.hid hss
  clear hss
  generalize w.alloc (Obj.cells #[Value.slice pa pl pc, Value.slice qa ql qc, Value.slice ga gl gc, Value.slice ja jl jc] 30) = w0 at hE HG0 HV0 HU0 HX0 HBW0 ⊢
  refine (bsmall_any 1 w0 (by decide)).mono ?_
  rintro e w1 ⟨o0, rfl, ho0, hb1⟩
  have HZ0 := Lib.hid ho0
  have hE1 := hE.below hb1 hE.lt
  have HV := Lib.hid (HV0.out.below hb1)
  have HU := Lib.hid (HU0.out.below hb1)
  have HX := Lib.hid (HX0.out.below hb1)
  have HQ := Lib.hid (HG0.out.2.1.below hb1)
  have HBW := Lib.hid (HBW0.out.trans (hb1.mono (by rw [HSS.out]; exact HBW0.out.size)))
  have kP : ∀ w', BB w1 w' → w'.cell? ⟨s, 0, none⟩ = some (.slice pa pl pc) := fun w' hb => (BB.cell hb hE1.lt).trans (hE1.cell 0)
  have kQ : ∀ w', BB w1 w' → w'.cell? ⟨s, 1, none⟩ = some (.slice qa ql qc) := fun w' hb => (BB.cell hb hE1.lt).trans (hE1.cell 1)
  have kG : ∀ w', BB w1 w' → w'.cell? ⟨s, 2, none⟩ = some (.slice ga gl gc) := fun w' hb => (BB.cell hb hE1.lt).trans (hE1.cell 2)
  have kH : ∀ w', BB w1 w' → w'.cell? ⟨s, 3, none⟩ = some (.slice ja jl jc) := fun w' hb => (BB.cell hb hE1.lt).trans (hE1.cell 3)
  have HBG : Hid (∀ w', BB w1 w' → BG w' (.agg #[.slice pa pl pc, .slice qa ql qc, .slice ga gl gc, .slice ja jl jc]) P Q G H) := fun w' h => ⟨pa, pl, pc, qa, ql, qc, ga, gl, gc, ja, jl, jc, rfl, (HG0.out.1.below hb1).below h, (HG0.out.2.1.below hb1).below h, (HG0.out.2.2.1.below hb1).below h, (HG0.out.2.2.2.below hb1).below h⟩
  clear ho0 hE hE1 hb1 HV0 HU0 HX0 HBW0 HG0
  go_wp2_with fail
  obtain ⟨v, hvv⟩ : ∃ v, Value.slice va len vc = v := ⟨_, rfl⟩
  rw [hvv] at HV ⊢
  clear hvv HVL
  go_loopw [9, 14] (fun ov iv wr => ∃ (i : Nat) (y : Value) (o : Nat), y = ov ∧ i ≤ len ∧ iv = .int .i64 (i : Int) ∧ Hid (BN wr y o ∧ o = wprod P ys (wts Q xs x) i) ∧ Hid (BB w1 wr)) (fun _ iv _ => len - (intOf iv).toNat)
  case atStart => exact ⟨0, _, 1, rfl, Nat.zero_le _, rfl, ⟨HZ0.out, rfl⟩, BB.refl _⟩
  case round =>
    obtain ⟨i, y, o, rfl, hi, rfl, HO, HBR⟩ := hrel
    by_cases hlt : (i : Int) < (len : Int)
    · obtain ⟨uad, hua⟩ : ∃ uad, ua = some uad := by
        obtain ⟨ad, _, _, _, e, _⟩ := HU.out.get (j := i) (by rw [HLN.out.2]; omega)
        exact ⟨ad, e⟩
      subst hua
      have hi2 : i < xs.length := by rw [HLN.out.1]; omega
      have hi3 : i < ys.length := by rw [HLN.out.2]; omega
      obtain ⟨uad', ca, cl, cc, eu, gC, nC⟩ := HU.out.get hi3
      obtain rfl : uad = uad' := Option.some.inj eu
      obtain ⟨c, hcx⟩ : ∃ c, ys.getD i 0 = c := ⟨_, rfl⟩
      have HCL : Hid (Bt.len c ≤ 400) := by show _ ≤ _; rw [← hcx, List.getD_eq_getElem?_getD, List.getElem?_eq_getElem hi3]; exact HYS.out _ (List.getElem_mem hi3)
      rw [hcx] at nC
      have HN := Lib.hid nC
      have HOL : Hid (Bt.len o ≤ 400) := by show _ ≤ _; rw [HO.out.2]; exact Nat.le_trans (Bt.len_mono (Nat.le_of_lt (wprod_lt' HP1.out _ _ _))) HPP.out.2
      have HDL : Hid (Bt.len (c ^ wt Q xs x i % P) ≤ 400) := Nat.le_trans (len_mod _ HPP.out.1) HPP.out.2
      have HNX : Hid (o * (c ^ wt Q xs x i % P) % P = wprod P ys (wts Q xs x) (i + 1)) := by
        show _ = wprod P ys (wts Q xs x) i * (ys.getD i 0 ^ (wts Q xs x).getD i 0 % P) % P
        rw [wts_get _ _ _ _ hi2, hcx, HO.out.2]
      clear hi3 nC hcx eu
      go_wp2_with fail
      refine wp_region_mixB (fun l g w' => (BB wr w') ∧ (l 15 = false → g 9 = y)) (GF (tabJX 0 (.agg #[.slice pa pl pc, .slice qa ql qc, .slice ga gl gc, .slice ja jl jc]) (y) (.agg #[.slice pa pl pc, .slice qa ql qc, .slice ga gl gc, .slice ja jl jc]) (.slice (some uad) len uc) (.int .i64 (i : Int)) (.pointer (some (uad.add i))) (.slice ca cl cc) (.pointer (some ⟨s, 1, none⟩)) (.slice qa ql qc) (v) (.int .i64 (i : Int)) (xv) (wt Q xs x i) (c ^ wt Q xs x i % P) (o * (c ^ wt Q xs x i % P) % P) (Fk.bn (o * (c ^ wt Q xs x i % P) % P)))) maskJX dstJX preJX (by kernel_rfl) (by kernel_rfl) rfl (by kernel_rfl) (by kernel_rfl) (by kernel_rfl) (by kernel_rfl) ⟨BB.drew (BB.refl _), fun _ => rfl⟩ ?_ ?_
      · refine StepsMB.cons (fun l g' wu hB hl hn hp K hK => ?_) ?_
        · have hbb := hB.1; have hov := hB.2 (hn 15 (by decide)); have c0 := kP _ (BB.step HBR.out hbb); have c1 := kQ _ (BB.step HBR.out hbb); have c2 := kG _ (BB.step HBR.out hbb); have c3 := kH _ (BB.step HBR.out hbb); simp only [mkM, maskJX, mixM, Nat.reduceAdd, hov] at hK ⊢; clear hov; simp only [Act.put, List.setIfInBounds_toArray, List.set_cons_zero, List.set_cons_succ] at hK; go_simp; exact hK.out _ _ ⟨hB.1, fun h => (updG_ne (by decide)).trans (hB.2 (by rw [setL_ne (by decide)] at h; exact h))⟩ GF.same rfl
        refine StepsMB.cons (fun l g' wu hB hl hn hp K hK => ?_) ?_
        · have hbb := hB.1; have hov := hB.2 (hn 15 (by decide)); simp only [mkM, maskJX, mixM, Nat.reduceAdd, hov] at hK ⊢; clear hov; simp only [Act.put, List.setIfInBounds_toArray, List.set_cons_zero, List.set_cons_succ] at hK; go_simp; exact hK.out _ _ ⟨hB.1, fun h => (updG_ne (by decide)).trans (hB.2 (by rw [setL_ne (by decide)] at h; exact h))⟩ GF.same rfl
        refine StepsMB.cons (fun l g' wu hB hl hn hp K hK => ?_) ?_
        · have hbb := hB.1; have hov := hB.2 (hn 15 (by decide)); have c0 := kP _ (BB.step HBR.out hbb); have c1 := kQ _ (BB.step HBR.out hbb); have c2 := kG _ (BB.step HBR.out hbb); have c3 := kH _ (BB.step HBR.out hbb); simp only [mkM, maskJX, mixM, Nat.reduceAdd, hov] at hK ⊢; clear hov; simp only [Act.put, List.setIfInBounds_toArray, List.set_cons_zero, List.set_cons_succ] at hK; go_simp; exact hK.out _ _ ⟨hB.1, fun h => (updG_ne (by decide)).trans (hB.2 (by rw [setL_ne (by decide)] at h; exact h))⟩ GF.same rfl
        refine StepsMB.cons (fun l g' wu hB hl hn hp K hK => ?_) ?_
        · have hbb := hB.1; have hov := hB.2 (hn 15 (by decide)); simp only [mkM, maskJX, mixM, Nat.reduceAdd, hov] at hK ⊢; clear hov; simp only [Act.put, List.setIfInBounds_toArray, List.set_cons_zero, List.set_cons_succ] at hK; go_simp; exact hK.out _ _ ⟨hB.1, fun h => (updG_ne (by decide)).trans (hB.2 (by rw [setL_ne (by decide)] at h; exact h))⟩ GF.same rfl
        refine StepsMB.cons (fun l g' wu hB hl hn hp K hK => ?_) ?_
        · have hbb := hB.1; have hov := hB.2 (hn 15 (by decide)); simp only [mkM, maskJX, mixM, Nat.reduceAdd, hov] at hK ⊢; clear hov; simp only [Act.put, List.setIfInBounds_toArray, List.set_cons_zero, List.set_cons_succ] at hK; go_simp; exact hK.out _ _ ⟨hB.1, fun h => (updG_ne (by decide)).trans (hB.2 (by rw [setL_ne (by decide)] at h; exact h))⟩ GF.same rfl
        refine StepsMB.cons (fun l g' wu hB hl hn hp K hK => ?_) ?_
        · have hbb := hB.1; have hov := hB.2 (hn 15 (by decide)); have e3 : g' 20 = .slice (some uad) len uc := (hp 3 (by decide)).2; have e4 : g' 21 = .int .i64 (i : Int) := (hp 4 (by decide)).2; simp only [mkM, maskJX, mixM, Nat.reduceAdd, hov, e3, e4] at hK ⊢; clear hov e3 e4; simp only [Act.put, List.setIfInBounds_toArray, List.set_cons_zero, List.set_cons_succ] at hK; go_simp; exact hK.out _ _ ⟨hB.1, fun h => (updG_ne (by decide)).trans (hB.2 (by rw [setL_ne (by decide)] at h; exact h))⟩ GF.same rfl
        refine StepsMB.cons (fun l g' wu hB hl hn hp K hK => ?_) ?_
        · have hbb := hB.1; have hov := hB.2 (hn 15 (by decide)); have e5 : g' 22 = .pointer (some (uad.add i)) := (hp 5 (by decide)).2; have hc := gC _ (BB.step HBR.out hbb); simp only [mkM, maskJX, mixM, Nat.reduceAdd, hov, e5] at hK ⊢; clear hov e5; simp only [Act.put, List.setIfInBounds_toArray, List.set_cons_zero, List.set_cons_succ] at hK; go_simp; exact hK.out _ _ ⟨hB.1, fun h => (updG_ne (by decide)).trans (hB.2 (by rw [setL_ne (by decide)] at h; exact h))⟩ GF.same rfl
        refine StepsMB.cons (fun l g' wu hB hl hn hp K hK => ?_) ?_
        · have hbb := hB.1; have hov := hB.2 (hn 15 (by decide)); simp only [mkM, maskJX, mixM, Nat.reduceAdd, hov] at hK ⊢; clear hov; simp only [Act.put, List.setIfInBounds_toArray, List.set_cons_zero, List.set_cons_succ] at hK; go_simp; exact hK.out _ _ ⟨hB.1, fun h => (updG_ne (by decide)).trans (hB.2 (by rw [setL_ne (by decide)] at h; exact h))⟩ GF.same rfl
        refine StepsMB.cons (fun l g' wu hB hl hn hp K hK => ?_) ?_
        · have hbb := hB.1; have hov := hB.2 (hn 15 (by decide)); have e7 : g' 24 = .pointer (some ⟨s, 1, none⟩) := (hp 7 (by decide)).2; have hc := kQ _ (BB.step HBR.out hbb); simp only [mkM, maskJX, mixM, Nat.reduceAdd, hov, e7] at hK ⊢; clear hov e7; simp only [Act.put, List.setIfInBounds_toArray, List.set_cons_zero, List.set_cons_succ] at hK; go_simp; exact hK.out _ _ ⟨hB.1, fun h => (updG_ne (by decide)).trans (hB.2 (by rw [setL_ne (by decide)] at h; exact h))⟩ GF.same rfl
        refine StepsMB.cons (fun l g' wu hB hl hn hp K hK => ?_) ?_
        · have hbb := hB.1; have hov := hB.2 (hn 15 (by decide)); simp only [mkM, maskJX, mixM, Nat.reduceAdd, hov] at hK ⊢; clear hov; simp only [Act.put, List.setIfInBounds_toArray, List.set_cons_zero, List.set_cons_succ] at hK; go_simp; exact hK.out _ _ ⟨hB.1, fun h => (updG_ne (by decide)).trans (hB.2 (by rw [setL_ne (by decide)] at h; exact h))⟩ GF.same rfl
        refine StepsMB.cons (fun l g' wu hB hl hn hp K hK => ?_) ?_
        · have hbb := hB.1; have hov := hB.2 (hn 15 (by decide)); simp only [mkM, maskJX, mixM, Nat.reduceAdd, hov] at hK ⊢; clear hov; simp only [Act.put, List.setIfInBounds_toArray, List.set_cons_zero, List.set_cons_succ] at hK; go_simp; exact hK.out _ _ ⟨hB.1, fun h => (updG_ne (by decide)).trans (hB.2 (by rw [setL_ne (by decide)] at h; exact h))⟩ GF.same rfl
        refine StepsMB.cons (fun l g' wu hB hl hn hp K hK => ?_) ?_
        · have hbb := hB.1; have hov := hB.2 (hn 15 (by decide)); simp only [mkM, maskJX, mixM, Nat.reduceAdd, hov] at hK ⊢; clear hov; simp only [Act.put, List.setIfInBounds_toArray, List.set_cons_zero, List.set_cons_succ] at hK; go_simp; exact hK.out _ _ ⟨hB.1, fun h => (updG_ne (by decide)).trans (hB.2 (by rw [setL_ne (by decide)] at h; exact h))⟩ GF.same rfl
        refine StepsMB.cons (fun l g' wu hB hl hn hp K hK => ?_) ?_
        · have hbb := hB.1; have hov := hB.2 (hn 15 (by decide)); have e8 : g' 25 = .slice qa ql qc := (hp 8 (by decide)).2; have e9 : g' 26 = v := (hp 9 (by decide)).2; have e10 : g' 27 = .int .i64 (i : Int) := (hp 10 (by decide)).2; have e11 : g' 28 = xv := (hp 11 (by decide)).2; simp only [mkM, maskJX, mixM, Nat.reduceAdd, hov, e8, e9, e10, e11] at hK ⊢; clear hov e8 e9 e10 e11; simp only [Act.put, List.setIfInBounds_toArray, List.set_cons_zero, List.set_cons_succ] at hK; go_simp; go_at_call 63; refine (bweight_any _ v xv Q xs i x _ ((HQ.out.below HBR.out).below hbb) ((HV.out.below HBR.out).below hbb) ((HX.out.below HBR.out).below hbb) HC.out.1 HC.out.2.1 HC.out.2.2.1 hi2 HC.out.2.2.2).mono ?_; rintro e w7 ⟨z, rfl, hz, hb⟩; go_wp2_with fail; exact hK.out _ _ ⟨BB.step hbb hb, fun h => (updG_ne (by decide)).trans (hB.2 (by rw [setL_ne (by decide)] at h; exact h))⟩ (GF.below hb) hz
        refine StepsMB.cons (fun l g' wu hB hl hn hp K hK => ?_) ?_
        · have hbb := hB.1; have hov := hB.2 (hn 15 (by decide)); have e2 : g' 19 = .agg #[.slice pa pl pc, .slice qa ql qc, .slice ga gl gc, .slice ja jl jc] := (hp 2 (by decide)).2; have e6 : g' 23 = .slice ca cl cc := (hp 6 (by decide)).2; have h12 : BN wu (g' 29) (wt Q xs x i) := (hp 12 (by decide)).2; simp only [mkM, maskJX, mixM, Nat.reduceAdd, hov, e2, e6] at hK ⊢; clear hov e2 e6; simp only [Act.put, List.setIfInBounds_toArray, List.set_cons_zero, List.set_cons_succ] at hK; go_simp; go_at_call 65; refine (bgexp_any _ _ _ P Q G H c (wt Q xs x i) _ (HBG.out _ (BB.step HBR.out hbb)) ((HN.out.below HBR.out).below hbb) h12 HPP.out.1 HPP.out.2).mono ?_; rintro e w7 ⟨z, rfl, hz, hb⟩; go_wp2_with fail; exact hK.out _ _ ⟨BB.step hbb hb, fun h => (updG_ne (by decide)).trans (hB.2 (by rw [setL_ne (by decide)] at h; exact h))⟩ (GF.below hb) hz
        refine StepsMB.cons (fun l g' wu hB hl hn hp K hK => ?_) ?_
        · have hbb := hB.1; have hov := hB.2 (hn 15 (by decide)); have e0 : g' 17 = .agg #[.slice pa pl pc, .slice qa ql qc, .slice ga gl gc, .slice ja jl jc] := (hp 0 (by decide)).2; have e1 : g' 18 = y := (hp 1 (by decide)).2; have h13 : BN wu (g' 30) (c ^ wt Q xs x i % P) := (hp 13 (by decide)).2; simp only [mkM, maskJX, mixM, Nat.reduceAdd, hov, e0, e1] at hK ⊢; clear hov e0 e1; simp only [Act.put, List.setIfInBounds_toArray, List.set_cons_zero, List.set_cons_succ] at hK; go_simp; go_at_call 64; refine (bgmul_any _ _ _ P Q G H o (c ^ wt Q xs x i % P) _ (HBG.out _ (BB.step HBR.out hbb)) (HO.out.1.below hbb) h13 HPP.out.1 HPP.out.2 HOL.out HDL.out).mono ?_; rintro e w7 ⟨z, rfl, hz, hb⟩; go_wp2_with fail; exact hK.out _ _ ⟨BB.step hbb hb, fun h => (updG_ne (by decide)).trans (hB.2 (by rw [setL_ne (by decide)] at h; exact h))⟩ (GF.below hb) hz
        refine StepsMB.cons (fun l g' wu hB hl hn hp K hK => ?_) ?_
        · have hbb := hB.1; have hov := hB.2 hl; have h14 : BN wu (g' 31) (o * (c ^ wt Q xs x i % P) % P) := (hp 14 (by decide)).2; simp only [mkM, maskJX, mixM, Nat.reduceAdd, hov] at hK ⊢; clear hov; simp only [Act.put, List.setIfInBounds_toArray, List.set_cons_zero, List.set_cons_succ] at hK; go_simp; exact hK.out _ _ ⟨hB.1, (fun h => by rw [setL_eq] at h; cases h)⟩ GF.same h14
        exact StepsMB.nil
      · intro l g' wu hall hB hG
        have h15 : BN wu (g' 9) (o * (c ^ wt Q xs x i % P) % P) := hG 15 (by decide)
        have hbu : BB wr wu := hB.1
        obtain ⟨nv, hnv⟩ : ∃ nv, g' 9 = nv := ⟨_, rfl⟩
        rw [hnv] at h15
        have H7 := Lib.hid h15
        have HBU := Lib.hid (BB.step HBR.out hbu)
        simp only [mkM, maskJX, mixM, Nat.reduceAdd, hnv]
        clear hG hall hB h15 hnv hbu
        go_wp2_with fail
        go_roundw
        case rel => exact ⟨i + 1, nv, _, rfl, by omega, by go_num, ⟨H7.out, HNX.out⟩, HBU.out⟩
        case measure => simp [intOf]; omega
    · obtain rfl : i = len := by omega
      go_wp2_with fail
      go_ret
      exact ⟨_, rfl, HO.out.2 ▸ HO.out.1, HSS.out ▸ HBW.out.trans (Below.mono HBR.out (by rw [HSS.out]; exact HBW.out.size))⟩
end Go.Proofs.YthefednendgclaaGreat
