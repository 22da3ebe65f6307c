/-
  Chains of primes: Holds, where all is right.
-/
import Derived.Test.YthefednendgclaaCertPow
set_option linter.unusedVariables false
set_option linter.unusedSimpArgs false
namespace Go.Proofs.Ythefednendgclaa
open Go Go.RowKit Sac

theorem blk_stays {B : Nat} {T e : TypeId} {k : Nat} {cs : List Value} (hne : e ≠ T) : Stays B T (fun w => Blk w k e cs) := fun _ _ h hb => h.blk hne hb

theorem two250 : 2 ^ 250 ≤ W ^ 1000 := Nat.le_trans (m := W ^ 8) (by decide) (@wpow_le 8 1000 (by decide))
theorem cmp_ge {n m : Nat} (h : m ≤ n) : decide (cmpNat n m < 0) = false := by
  rw [decide_eq_false_iff_not]; unfold cmpNat; rw [if_neg (by omega)]; split <;> decide

set_option maxRecDepth 100000 in
set_option maxHeartbeats 8000000 in
theorem holds_yes (na : Option Addr) (nl nc N : Nat) (ba : Option Addr) (bl bc base : Nat) (pa : Option Addr) (pl pc : Nat) (ps ws : List Nat) (da : Option Addr) (dl dc : Nat) (behind : List Nat) (w : World)
    (hN : NatS w na nl N) (hB : NatS w ba bl base) (hP : NatsAt w pa ps) (hpl : ps.length = pl) (hpc : (pl : Int) ≤ pc) (hD : NatsAt w da behind) (hdl : behind.length = dl) (hdm : (dl : Int) ≤ 1000) (hdc : (dl : Int) ≤ dc) (hS : StepOk N base ps ws behind) :
    Calls Try.prog 149 #[.agg #[.slice na nl nc, .slice ba bl bc, .slice pa pl pc], .slice da dl dc] w fun e w' => e = .returned (.bool true) ∧ Below w.heap.size w w' := by
  obtain ⟨s, hsz⟩ : ∃ s, s = w.heap.size := ⟨_, rfl⟩
  obtain ⟨ad, _, _, _, rfl, _, _, _⟩ := hP.get (k := 0) (by have := hS.ne; omega)
  have hb1 := (Below.refl _ w).alloc (Nat.le_refl _) (Obj.cells #[Value.slice na nl nc, Value.slice ba bl bc, Value.slice (some ad) pl pc] 172)
  have E1 := ((((((NE.init w s hsz).add (natS_stays (by decide)) hN).add (natS_stays (by decide)) hB).add (natsLow_stays (by decide)) (hsz ▸ hP.toLow)).add (natsLow_stays (by decide)) (hsz ▸ hD.toLow)).below hb1).add (blk_stays (by decide)) (Blk.new' w _ _ s hsz)
  have HE1 := Lib.hid E1
  have HS := Lib.hid hS
  have HPL := Lib.hid hpl
  have HDL := Lib.hid hdl
  have HSZ := Lib.hid hsz
  have hpl1 : (1 : Int) ≤ pl := by have := hS.ne; omega
  have hpl2 : (pl : Int) ≤ 32 := by have := hS.le; omega
  have e1 : decide ((pl : Int) < 1) = false := decide_eq_false (by omega)
  have e2 : decide ((32 : Int) < (pl : Int)) = false := decide_eq_false (by omega)
  have hN2 : decide (cmpNat N 2 < 0) = false := cmp_ge hS.two
  clear hN hB hP hD hS hb1 E1 hpl hdl
  go_enter Try.func149, Try.ntmps149
  go_wp2_with fail
  rw [← hsz]
  clear hsz
  generalize (w.alloc (Obj.cells #[Value.slice na nl nc, Value.slice ba bl bc, Value.slice (some ad) pl pc] 172)) = w1 at HE1 ⊢
  refine (new_s 1 w1 (by omega)).mono ?_
  rintro e w2 ⟨oa, ol, oc, rfl, hO, hb2⟩
  obtain ⟨O, hOs⟩ : ∃ O, O = w2.heap.size := ⟨_, rfl⟩
  have HE3 := Lib.hid ((HE1.out.below hb2).alloc O hOs hO (c := oc))
  clear HE1 hb2 hO
  go_wp2_with fail
  rw [← hOs]
  generalize w2.alloc (Obj.cells #[Value.slice oa ol oc] 33) = w3 at HE3 ⊢
  clear hOs
  have bs := HE3.out.has 4 rfl
  have gs0 : ∀ w', BB w3 w' → w'.cell? ⟨s, 0, none⟩ = some (.slice na nl nc) := fun w' h => (h.cell bs.lt).trans (bs.cell 0)
  have gs2 : ∀ w', BB w3 w' → w'.cell? ⟨s, 2, none⟩ = some (.slice (some ad) pl pc) := fun w' h => (h.cell bs.lt).trans (bs.cell 2)
  have HNN := Lib.hid (HE3.out.has 0 rfl)
  clear bs
  go_region_held3 (fun w' => BB w3 w') (first | assumption | exact BB.drew (BB.refl _))
    (first
      | (go_at_call 20; refine (new_s 2 w3.drew (by decide)).mono ?_; rintro e w4 ⟨ta, tl, tc, rfl, hT, hb4⟩; have hbb4 : BB w3 w4 := BB.step (BB.drew (BB.refl w3)) hb4; have HT4 := Lib.hid hT; clear hT hb4)
      | (go_at_call 25; refine (cmp_s na ta nl nc tl tc N 2 w4 (HNN.out.below hbb4) HT4.out).mono ?_; rintro e w5 ⟨rfl, hb5⟩; have hbb5 : BB w3 w5 := BB.step hbb4 hb5; clear hb5))
  have HE5 := Lib.hid (HE3.out.below hbb5)
  have gs0' : ∀ w', BB w5 w' → w'.cell? ⟨s, 0, none⟩ = some (.slice na nl nc) := fun w' h => gs0 w' (BB.step hbb5 h)
  have gs1 : ∀ w', BB w5 w' → w'.cell? ⟨s, 1, none⟩ = some (.slice ba bl bc) := fun w' h => (h.cell (HE5.out.has 4 rfl).lt).trans ((HE5.out.has 4 rfl).cell 1)
  have gs2' : ∀ w', BB w5 w' → w'.cell? ⟨s, 2, none⟩ = some (.slice (some ad) pl pc) := fun w' h => gs2 w' (BB.step hbb5 h)
  obtain ⟨oa, ol, oc, gO, No⟩ := HE5.out.get 0 rfl
  have HO5 := Lib.hid No
  have HN5 := Lib.hid (HE5.out.has 0 rfl)
  have HB5 := Lib.hid (HE5.out.has 1 rfl)
  have s0 := gs0' w5 (BB.refl _)
  have cO := gO w5 (BB.refl _)
  clear gs0 gs2 HE3 HNN No hbb4 hbb5 HT4 hN2
  go_wp2_with fail
  refine (sub_s na oa nl nc ol oc N 1 w5 HN5.out HO5.out).mono ?_
  rintro e w6 ⟨la, ll, lc, rfl, hL, hb6⟩
  obtain ⟨L, hLs⟩ : ∃ L, L = w6.heap.size := ⟨_, rfl⟩
  have HE7 := Lib.hid ((HE5.out.below hb6).alloc L hLs hL (c := lc))
  have gs0 := fun w' h => gs0' w' (BB.step (BB.step (BB.refl _) hb6) h)
  clear hL s0 cO HE5 HN5 HB5 HO5 gs0'
  have s0 : ∀ o, (w6.alloc o).cell? ⟨s, 0, none⟩ = some (.slice na nl nc) := fun o => gs0 _ (BB.alloc (BB.refl _))
  go_wp2_with fail
  rw [← hLs]
  have hb7 : BB w5 (w6.alloc (Obj.cells #[Value.slice la ll lc] 33)) := BB.alloc (BB.step (BB.refl _) hb6)
  clear s0 gs0 hb6
  generalize w6.alloc (Obj.cells #[Value.slice la ll lc] 33) = w7 at HE7 hb7 ⊢
  clear hLs
  refine (modnew_any na nl nc N w7 (HE7.out.has 0 rfl) HS.out.two).mono ?_
  rintro e w8 ⟨r, rfl, hR, hb8⟩
  have hbb8 : BB w5 w8 := BB.step hb7 hb8
  have HE8 := Lib.hid ((HE7.out.below hb8).add (ringAt_stays (by decide) (by decide)) hR)
  have gs0 : ∀ w', BB w8 w' → w'.cell? ⟨s, 0, none⟩ = some (.slice na nl nc) := fun w' h => (h.cell (HE8.out.has 4 rfl).lt).trans ((HE8.out.has 4 rfl).cell 0)
  have gs1' : ∀ w', BB w8 w' → w'.cell? ⟨s, 1, none⟩ = some (.slice ba bl bc) := fun w' h => gs1 w' (BB.step hbb8 h)
  have gs2 : ∀ w', BB w8 w' → w'.cell? ⟨s, 2, none⟩ = some (.slice (some ad) pl pc) := fun w' h => gs2' w' (BB.step hbb8 h)
  clear gs1 gs2' gO hR hb8 hb7 HE7 hbb8
  obtain ⟨oa, ol, oc, gO, No⟩ := HE8.out.get 0 rfl
  obtain ⟨la, ll, lc, gL, Nl⟩ := HE8.out.get 1 rfl
  have HO8 := Lib.hid No
  have HL8 := Lib.hid Nl
  clear No Nl
  go_wp2_with fail
  have h1N : 1 % N = 1 := Nat.mod_eq_of_lt (by have := HS.out.two; omega)
  have hone : Hid (base ^ (N - 1) % N = 1) := HS.out.one
  go_region_held3 (fun w' => BB w8 w') (first | assumption | exact BB.drew (BB.refl _))
    (first
      | (go_at_call 85; refine (rexp_any r N ba la bl bc ll lc base (N - 1) w8.drew (HE8.out.has 5 rfl).drew (HE8.out.has 1 rfl).drew HL8.out.drew).mono ?_; rintro e w9 ⟨ta, tl, tc, rfl, hT, hb9⟩; have hbb9 : BB w8 w9 := BB.step (BB.drew (BB.refl w8)) hb9; have HT9 := Lib.hid hT; clear hT hb9)
      | (go_at_call 25; refine (cmp_s ta oa tl tc ol oc _ 1 w9 HT9.out (HO8.out.below hbb9)).mono ?_; rw [hone.out, cmp_self]; rintro e w10 ⟨rfl, hb10⟩; have hbb10 : BB w8 w10 := BB.step hbb9 hb10; clear hb10))
  have HE10 := Lib.hid (HE8.out.below hbb10)
  have cO := gO w10 hbb10
  have c2 := gs2 w10 hbb10
  have c2' : ∀ o, (w10.alloc o).cell? ⟨s, 2, none⟩ = some (.slice (some ad) pl pc) := fun o => gs2 _ (BB.alloc hbb10)
  obtain ⟨f, hf⟩ : ∃ f, f = w10.heap.size := ⟨_, rfl⟩
  have HE11 := Lib.hid (HE10.out.alloc f hf (HO8.out.below hbb10) (c := oc))
  clear hbb9 hbb10 HT9 HE10
  go_wp2_with fail
  rw [← hf]
  generalize w10.alloc (Obj.cells #[Value.slice oa ol oc] 33) = w11 at HE11 ⊢
  obtain ⟨F, hF⟩ : ∃ F : List (World → Prop), F = [fun w => NatS w na nl N, fun w => NatS w ba bl base, fun w => NatsLow s w (some ad) ps, fun w => NatsLow s w da behind, fun w => Blk w s 172 [.slice na nl nc, .slice ba bl bc, .slice (some ad) pl pc], fun w => RingAt w r N] := ⟨_, rfl⟩
  have HE12 : Hid (NE w w11 s [(O, 1), (L, N - 1), (f, prodl (ws.take 0))] F) := by rw [hF]; exact HE11.out
  have f0 : Hid (F[0]? = some (fun w => NatS w na nl N)) := by show _ = _; rw [hF]; rfl
  have f1 : Hid (F[1]? = some (fun w => NatS w ba bl base)) := by show _ = _; rw [hF]; rfl
  have f2 : Hid (F[2]? = some (fun w => NatsLow s w (some ad) ps)) := by show _ = _; rw [hF]; rfl
  have f3 : Hid (F[3]? = some (fun w => NatsLow s w da behind)) := by show _ = _; rw [hF]; rfl
  have f4 : Hid (F[4]? = some (fun w => Blk w s 172 [.slice na nl nc, .slice ba bl bc, .slice (some ad) pl pc])) := by show _ = _; rw [hF]; rfl
  have f5 : Hid (F[5]? = some (fun w => RingAt w r N)) := by show _ = _; rw [hF]; rfl
  clear hF HE11 hf HE8 gs0 gs1' gs2 gO gL HO8 HL8 h1N hone cO c2 c2'
  go_loopw [66] (fun iv wr => ∃ i : Nat, (i : Int) ≤ pl ∧ iv = .int .i64 (i : Int) ∧ Hid (NE w wr s [(O, 1), (L, N - 1), (f, prodl (ws.take i))] F)) (fun iv _ => pl - (intOf iv).toNat)
  case atStart => exact ⟨0, by omega, rfl, HE12.out⟩
  case round =>
    clear HE12
    obtain ⟨i, hi, rfl, HE⟩ := hrel
    by_cases hlt : (i : Int) < pl
    · have hil : i < ps.length := by rw [HPL.out]; omega
      obtain ⟨p, hp⟩ : ∃ p, ps.getD i 0 = p := ⟨_, rfl⟩
      obtain ⟨_, xa, xl, xc, he, _, cp, Np⟩ := (HE.out.has 2 f2.out).1.get hil
      injection he with he
      subst he
      rw [hp] at Np
      have HPr : Hid (PrOk N base behind p (ws.getD i 0)) := by have := HS.out.each i hil; rw [hp] at this; exact this
      have HNp := Lib.hid Np
      have HPI := Lib.hid hp
      have bs := HE.out.has 4 f4.out
      have c2' : ∀ o, (wr.alloc o).cell? ⟨s, 2, none⟩ = some (.slice (some ad) pl pc) := fun o => (bs.alloc o).cell 2
      have hcap : (i : Int) ≤ pc := by omega
      obtain ⟨Z, hZ⟩ : ∃ Z, Z = wr.heap.size := ⟨_, rfl⟩
      have HE2 := Lib.hid (HE.out.alloc Z hZ Np (c := xc))
      have HNp2 : Hid (NatS (wr.alloc (Obj.cells #[Value.slice xa xl xc] 33)) xa xl p) := Np.below ((Below.refl _ wr).alloc (Nat.le_refl _) _)
      clear Np bs hp hil HE
      go_wp2_with fail
      rw [← hZ]
      clear hZ c2' cp HNp
      generalize wr.alloc (Obj.cells #[Value.slice xa xl xc] 33) = w12 at HE2 HNp2 ⊢
      go_loopw [76] (fun iv wr => ∃ j : Nat, (j : Int) ≤ i ∧ iv = .int .i64 (j : Int) ∧ Hid (NE w wr s ([(O, 1), (L, N - 1), (f, prodl (ws.take i))] ++ [(Z, p)]) F)) (fun iv _ => i - (intOf iv).toNat)
      case atStart => exact ⟨0, by omega, rfl, HE2.out⟩
      case round =>
        clear HE2 HNp2
        obtain ⟨j, hj, rfl, HE⟩ := hrel
        by_cases hlj : (j : Int) < i
        · have hjl : j < ps.length := by rw [HPL.out]; omega
          obtain ⟨q, hq⟩ : ∃ q, ps.getD j 0 = q := ⟨_, rfl⟩
          obtain ⟨_, ya, yl, yc, he, _, cq, Nq⟩ := (HE.out.has 2 f2.out).1.get hjl
          injection he with he
          subst he
          rw [hq] at Nq
          have hqp : (cmpNat q p == 0) = false := cmp_ne (by rw [← hq, ← HPI.out]; exact HS.out.nd j i (by omega) (by rw [HPL.out]; omega))
          obtain ⟨xa, xl, xc, gp, Np⟩ := HE.out.get 3 rfl
          have cp' : ∀ o, (wr.alloc o).cell? ⟨Z, 0, none⟩ = some (.slice xa xl xc) := fun o => gp _ (BB.alloc (BB.refl _))
          have hjlen : (j : Int) < pl := by omega
          obtain ⟨Y, hY⟩ : ∃ Y, Y = wr.heap.size := ⟨_, rfl⟩
          have hb := (Below.refl _ wr).alloc (Nat.le_refl _) (Obj.cells #[Value.slice ya yl yc] 33)
          have HE3 := Lib.hid (HE.out.alloc Y hY Nq (c := yc))
          have HNp := Lib.hid (Np.below hb)
          have HNq := Lib.hid (Nq.below hb)
          clear Nq Np hq hjl HE gp hb
          go_wp2_with fail
          clear cp' cq hY
          generalize wr.alloc (Obj.cells #[Value.slice ya yl yc] 33) = w13 at HE3 HNp HNq ⊢
          refine (cmp_s ya xa yl yc xl xc q p w13 HNq.out HNp.out).mono ?_
          rintro e w14 ⟨rfl, hb14⟩
          have HE4 := Lib.hid (HE3.out.below hb14)
          clear hb14 HE3 HNq HNp
          go_wp2_with fail
          go_roundw
          case rel => exact ⟨j + 1, by omega, by go_num, HE4.out.pop⟩
          case measure => simp [intOf]; omega
        · have hj' : j = i := by omega
          subst hj'
          obtain ⟨xa, xl, xc, gp, Np⟩ := HE.out.get 3 rfl
          have HNp := Lib.hid Np
          have hp2 : decide (cmpNat p 2 < 0) = false := cmp_ge HPr.out.two
          clear Np
          go_wp2_with fail
          go_region_held3 (fun w' => BB wr w') (first | assumption | exact BB.drew (BB.refl _))
            (first
              | (go_at_call 151; refine (known_yes xa xl xc p da dl dc behind wr.drew HNp.out.drew (HE.out.has 3 f3.out).1 HDL.out hdm hdc HPr.out.small).mono ?_; rintro e w13 ⟨rfl, hb13⟩; have hbb13 : BB wr w13 := BB.step (BB.drew (BB.refl wr)) hb13; clear hb13)
              | (go_at_call 20; refine (new_s 2 w13 (by decide)).mono ?_; rintro e w14 ⟨ta, tl, tc, rfl, hT, hb14⟩; have hbb14 : BB wr w14 := BB.step hbb13 hb14; have HT14 := Lib.hid hT; clear hT hb14)
              | (go_at_call 25; refine (cmp_s xa ta xl xc tl tc p 2 w14 (HNp.out.below hbb14) HT14.out).mono ?_; rintro e w15 ⟨rfl, hb15⟩; have hbb15 : BB wr w15 := BB.step hbb14 hb15; clear hb15))
          obtain ⟨k, m, hk1, hk2, hk3⟩ := HPr.out.pw
          have HE15 := Lib.hid (HE.out.below hbb15)
          have HNp15 := Lib.hid (HNp.out.below hbb15)
          have cp15 := gp w15 hbb15
          obtain ⟨la, ll, lc, gL, Nl⟩ := HE15.out.get 1 rfl
          have cL15 := gL w15 (BB.refl _)
          have HL15 := Lib.hid Nl
          have hm0 : 0 < m := by rcases Nat.eq_zero_or_pos m with h | h; · rw [h, Nat.zero_mod] at hk2; exact absurd rfl hk2
                                 · exact h
          have hN1000 : N < W ^ 1000 := @lt_wpow _ _ 1000 (HE15.out.has 0 f0.out).1.lt (by have := (HE15.out.has 0 f0.out).2; omega)
          have hpw : p ^ (k + 1) < W ^ 1000 := by
            have h1 : p ^ (k + 1) ≤ p ^ (k + 1) * m := Nat.le_mul_of_pos_right _ hm0
            rw [← hk1] at h1
            omega
          have HK := Lib.hid (show N - 1 = p ^ (k + 1) * m ∧ m % p ≠ 0 ∧ ws.getD j 0 = p ^ (k + 1) ∧ p ^ (k + 1) < W ^ 1000 from ⟨hk1, hk2, hk3, hpw⟩)
          obtain ⟨v, hv⟩ : ∃ v, p ^ (k + 1) = v := ⟨_, rfl⟩
          have hv0 : (v == 0) = false := by
            rw [beq_eq_false_iff_ne, ← hv]
            have : 0 < p ^ (k + 1) := Nat.pow_pos (by have := HPr.out.two; omega)
            omega
          have HV : Hid (prodl (ws.take j) * v = prodl (ws.take (j + 1)) ∧ prodl (ws.take j) * v < W ^ 1000) := by
            have hjl : j < ws.length := by rw [HS.out.len, HPL.out]; omega
            have h1 : prodl (ws.take j) * v = prodl (ws.take (j + 1)) := by
              rw [List.take_succ_eq_append_getElem hjl, prodl_snoc, ← hv, ← hk3, List.getD_eq_getElem?_getD, List.getElem?_eq_getElem hjl]; rfl
            exact ⟨h1, by rw [h1]; exact Nat.lt_of_lt_of_le (HS.out.size (j + 1)) two250⟩
          clear hbb15 hbb14 hbb13 gp hp2 HT14 hk1 hk2 hk3 hm0 hN1000 hpw HE HNp Nl
          go_wp2_with fail
          refine (power_yes la ll lc (N - 1) xa xl xc p k m w15 HL15.out HNp15.out HPr.out.two HK.out.1 HK.out.2.1 HK.out.2.2.2).mono ?_
          rw [hv]
          rintro e w16 ⟨va, vl, vc, rfl, hV, hb16⟩
          obtain ⟨V, hVs⟩ : ∃ V, V = w16.heap.size := ⟨_, rfl⟩
          have HE17 := Lib.hid ((HE15.out.below hb16).alloc V hVs hV (c := vc))
          have HV17 : Hid (NatS (w16.alloc (Obj.cells #[Value.slice va vl vc] 33)) va vl v) := hV.below ((Below.refl _ w16).alloc (Nat.le_refl _) _)
          clear hV hb16 cp15 cL15 gL HE15 HNp15 HL15
          go_wp2_with fail
          rw [← hVs]
          clear hVs
          generalize w16.alloc (Obj.cells #[Value.slice va vl vc] 33) = w17 at HE17 HV17 ⊢
          refine (zero_s va vl vc v w17 HV17.out).mono ?_
          rintro e w18 ⟨rfl, hb18⟩
          have HE18 := Lib.hid (HE17.out.below hb18)
          clear hb18 HE17 HV17
          obtain ⟨fa, fl, fc, cf, ff, Nf⟩ := HE18.out.box 2 rfl
          obtain ⟨va, vl, vc, cv, _, Nv⟩ := HE18.out.box 4 rfl
          have HNf := Lib.hid Nf
          have HNv := Lib.hid Nv
          clear Nf Nv
          go_wp2_with fail
          refine (mul_s fa va fl fc vl vc _ v w18 HNf.out HNv.out HV.out.2).mono ?_
          rw [HV.out.1]
          rintro e w19 ⟨ya, yl, yc, rfl, hY, hb19⟩
          have HE19 := Lib.hid (HE18.out.below hb19)
          have HY19 := Lib.hid hY
          clear hb19 hY HNf HNv cf ff cv HE18
          obtain ⟨_, _, _, cf, ff, _⟩ := HE19.out.box 2 rfl
          obtain ⟨la, ll, lc, gL, Nl⟩ := HE19.out.get 1 rfl
          obtain ⟨xa, xl, xc, gp, Np⟩ := HE19.out.get 3 rfl
          have cL19 := gL w19 (BB.refl _)
          have cp19 := gp w19 (BB.refl _)
          have cL19' : ∀ v, (w19.setCell ⟨f, 0, none⟩ v).cell? ⟨L, 0, none⟩ = some (.slice la ll lc) := fun v => (cell_other v (show L ≠ f from HE19.out.ne 1 2 rfl rfl (by decide))).trans cL19
          have cp19' : ∀ v, (w19.setCell ⟨f, 0, none⟩ v).cell? ⟨Z, 0, none⟩ = some (.slice xa xl xc) := fun v => (cell_other v (show Z ≠ f from HE19.out.ne 3 2 rfl rfl (by decide))).trans cp19
          have HE20 := Lib.hid ((HE19.out.set 2 rfl HY19.out (c := yc)).take 4)
          have HL20 := Lib.hid (HE19.out.natSet 2 rfl Nl (.slice ya yl yc))
          have HP20 := Lib.hid (HE19.out.natSet 2 rfl Np (.slice ya yl yc))
          clear HE19 HY19 Nl Np gL gp cL19 cp19
          go_wp2_with fail
          clear cL19' cp19' cf ff
          generalize w19.setCell ⟨f, 0, none⟩ (.slice ya yl yc) = w20 at HE20 HL20 HP20 ⊢
          refine (div_s la xa ll lc xl xc (N - 1) p w20 HL20.out HP20.out (by have := HPr.out.two; omega)).mono ?_
          rintro e w21 ⟨qa, ql, qc, ra, rl, rc, rfl, hq, hr, hb21⟩
          have hbq := (Below.refl _ w21).alloc (Nat.le_refl _) (Obj.cells #[Value.slice qa ql qc] 33)
          obtain ⟨T, hT⟩ : ∃ T, T = w21.heap.size := ⟨_, rfl⟩
          have HE22 := Lib.hid (((HE20.out.below hb21).alloc T hT hq (c := qc)).alloc (T + 1) (by rw [hT]; simp) (hr.below hbq) (c := rc))
          clear HE20 HL20 HP20 hb21 hbq hq hr
          go_wp2_with fail
          rw [← hT]
          clear hT
          generalize ((w21.alloc (Obj.cells #[Value.slice qa ql qc] 33)).alloc (Obj.cells #[Value.slice ra rl rc] 33)) = w22 at HE22 ⊢
          obtain ⟨oa, ol, oc, gO, No⟩ := HE22.out.get 0 rfl
          obtain ⟨ta, tl, tc, gT, Nt⟩ := HE22.out.get 4 rfl
          have bs := HE22.out.has 4 f4.out
          have gs0 : ∀ w', BB w22 w' → w'.cell? ⟨s, 0, none⟩ = some (.slice na nl nc) := fun w' h => (h.cell bs.lt).trans (bs.cell 0)
          have gs1 : ∀ w', BB w22 w' → w'.cell? ⟨s, 1, none⟩ = some (.slice ba bl bc) := fun w' h => (h.cell bs.lt).trans (bs.cell 1)
          have HNo := Lib.hid No
          have HNt := Lib.hid Nt
          have HNN := Lib.hid (HE22.out.has 0 f0.out)
          have HNB := Lib.hid (HE22.out.has 1 f1.out)
          have HRR := Lib.hid (HE22.out.has 5 f5.out)
          have hgc := Lib.hid HPr.out.gc
          have hN0 : 0 < N := by have := HS.out.two; omega
          clear No Nt bs
          go_region_held3 (fun w' => BB w22 w') (first | assumption | exact BB.drew (BB.refl _))
            (first
              | (go_at_call 85; refine (rexp_any r N ba ta bl bc tl tc base ((N - 1) / p) w22.drew HRR.out.drew HNB.out.drew HNt.out.drew).mono ?_; rintro e w23 ⟨ya, yl, yc, rfl, hY, hb23⟩; have hbb23 : BB w22 w23 := BB.step (BB.drew (BB.refl w22)) hb23; have HY23 := Lib.hid hY; clear hY hb23)
              | (go_at_call 78; refine (rsub_any r N ya oa yl yc ol oc _ 1 w23 (HRR.out.below hbb23) HY23.out (HNo.out.below hbb23)).mono ?_; rintro e w24 ⟨za, zl, zc, rfl, hZ, hb24⟩; have hbb24 : BB w22 w24 := BB.step hbb23 hb24; have HZ24 := Lib.hid hZ; clear hZ hb24)
              | (go_at_call 153; refine (gcd_s za na zl zc nl nc _ N w24 HZ24.out (HNN.out.below hbb24) hN0).mono ?_; rw [hgc.out]; rintro e w25 ⟨ga, gl, gc, rfl, hG, hb25⟩; have hbb25 : BB w22 w25 := BB.step hbb24 hb25; have HG25 := Lib.hid hG; clear hG hb25)
              | (go_at_call 25; refine (cmp_s ga oa gl gc ol oc 1 1 w25 HG25.out (HNo.out.below hbb25)).mono ?_; rw [cmp_self]; rintro e w26 ⟨rfl, hb26⟩; have hbb26 : BB w22 w26 := BB.step hbb25 hb26; clear hb26))
          have HE26 := Lib.hid (HE22.out.below hbb26)
          clear hbb23 hbb24 hbb25 hbb26 HNo HNt HNN HNB HRR gs0 gs1 gO gT HE22 HY23 HZ24 HG25
          go_wp2_with fail
          go_roundw
          case rel => exact ⟨j + 1, by omega, by go_num, HE26.out.take 3⟩
          case measure => simp [intOf]; omega
    · have hi' : i = pl := by omega
      subst hi'
      obtain ⟨fa, fl, fc, gF, Nf⟩ := HE.out.get 2 rfl
      have hpr : prodl (ws.take i) = prodl ws := by rw [List.take_of_length_le (by rw [HS.out.len, HPL.out]; exact Nat.le_refl _)]
      have hpl2 : prodl ws < 2 ^ 250 := by have := HS.out.size i; rwa [hpr] at this
      have hmul : prodl ws * prodl ws < W ^ 1000 := @lt_wpow _ 16 1000 (Nat.lt_of_lt_of_le (Nat.mul_lt_mul'' hpl2 hpl2) (by decide)) (by decide)
      rw [hpr] at Nf
      have HNf := Lib.hid Nf
      have HNN := Lib.hid (HE.out.has 0 f0.out)
      have HML := Lib.hid hmul
      have bs := HE.out.has 4 f4.out
      have gs0 : ∀ w', BB wr w' → w'.cell? ⟨s, 0, none⟩ = some (.slice na nl nc) := fun w' h => (h.cell bs.lt).trans (bs.cell 0)
      have hgt : cmpNat (prodl ws * prodl ws) N = 1 := by
        have := HS.out.big
        unfold cmpNat
        rw [if_neg (by omega), if_pos this]
      have HGT := Lib.hid hgt
      clear Nf hpl2 hmul hpr bs hgt
      go_wp2_with fail
      go_region_held3 (fun w' => BB wr w') (first | assumption | exact BB.drew (BB.refl _))
        (first
          | (go_at_call 92; refine (mul_s fa fa fl fc fl fc _ _ wr.drew HNf.out.drew HNf.out.drew HML.out).mono ?_; rintro e w13 ⟨ta, tl, tc, rfl, hT, hb13⟩; have hbb13 : BB wr w13 := BB.step (BB.drew (BB.refl wr)) hb13; have HT13 := Lib.hid hT; clear hT hb13)
          | (go_at_call 25; refine (cmp_s ta na tl tc nl nc _ N w13 HT13.out (HNN.out.below hbb13)).mono ?_; rw [HGT.out]; rintro e w14 ⟨rfl, hb14⟩; have hbb14 : BB wr w14 := BB.step hbb13 hb14; clear hb14))
      have HE14 := Lib.hid (HE.out.below hbb14)
      clear hbb13 hbb14 HT13
      go_wp2_with fail
      go_ret
      exact ⟨rfl, HSZ.out ▸ HE14.out.bel⟩
end Go.Proofs.Ythefednendgclaa
