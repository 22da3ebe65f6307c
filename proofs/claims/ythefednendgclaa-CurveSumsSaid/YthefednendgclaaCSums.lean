/-
  The law CurveSums: it returns true.
-/
import Derived.Test.YthefednendgclaaLaw10
import Derived.Test.YthefednendgclaaWeights
set_option linter.unusedVariables false
set_option linter.unusedSimpArgs false
namespace Go.Proofs.Ythefednendgclaa
open Go Go.RowKit Sac NT

set_option maxRecDepth 100000 in
set_option maxHeartbeats 8000000 in
theorem csums_any (n : Int) (a : Option Addr) (len cap : Nat) (l : List Nat) (x : Nat) (w : World)
    (ha : RdC w a (l.map w64)) (hl : l.length = len) (hc : (len : Int) ≤ cap) (hx : ∀ y ∈ l, y < 18446744073709551616) (hxx : x < 18446744073709551616) :
    Calls Try.prog 4 #[.int .i64 n, .slice a len cap, .int .u64 (x : Int)] w fun e w' => e = .returned (.bool true) ∧ Below w.heap.size w w' := by
  have HA := Lib.hid (And.intro ha (And.intro hl (And.intro hc hx)))
  have HXX := Lib.hid hxx
  clear ha hl hc hx hxx
  by_cases h8 : (12 : Int) < (len : Int)
  · go_enter Try.func4, Try.ntmps4
    go_wp2_with fail
    refine (lives_any w).mono ?_
    rintro e w2 ⟨rfl, hb2⟩
    have HB2 := Lib.hid hb2
    clear hb2
    go_wp2_with fail
    refine (lives_any w2).mono ?_
    rintro e w3 ⟨rfl, hb3⟩
    have HB3 := Lib.hid (HB2.out.trans (hb3.mono HB2.out.size))
    clear hb3
    go_wp2_with fail
    go_ret
    exact ⟨rfl, HB3.out⟩
  obtain ⟨s, hs⟩ : ∃ s, s = w.heap.size := ⟨_, rfl⟩
  obtain ⟨k, hk⟩ : ∃ k, kOf n = k := ⟨_, rfl⟩
  have HE0 := Lib.hid (GE.init w s hs)
  have HS := Lib.hid hs
  have HK := Lib.hid hk
  clear hs hk
  go_enter Try.func4, Try.ntmps4
  go_wp2_with fail
  refine (lives_any w).mono ?_
  rintro e w2 ⟨rfl, hb2⟩
  have HE2 := Lib.hid (HE0.out.below hb2)
  clear hb2 HE0
  go_wp2_with fail
  refine (field_any n w2).mono ?_
  rintro e w3 ⟨r, rfl, hr, hb3⟩
  rw [HK.out] at hr
  have HE3 := Lib.hid (HE2.out.below hb3)
  have HR3 := Lib.hid hr
  clear hb3 HE2 hr
  go_wp2_with fail
  refine (nums_any a len cap l w3 (HA.out.1.below (HS.out ▸ HE3.out.bel)) HA.out.2.1 HA.out.2.2.1 (by omega) HA.out.2.2.2).mono ?_
  rintro e w4 ⟨v, rfl, hrow, hb4⟩
  obtain ⟨pa, pc, rfl, hp1, _, hat, _⟩ := hrow.form
  have HE4 := Lib.hid (HE3.out.pushRow hb4 hrow)
  have HR4 := Lib.hid (HR3.out.below hb4)
  rw [HA.out.2.1] at HE4 hp1 ⊢
  clear hb4 hrow hat HE3 HR3
  go_wp2_with fail
  refine (new_s x w4 HXX.out).mono ?_
  rintro e w5 ⟨ya, yl, yc, rfl, hY, hb5⟩
  have HE5 := Lib.hid (HE4.out.below hb5)
  have HR5 := Lib.hid (HR4.out.below hb5)
  have HY5 := Lib.hid hY
  have hpc : (len : Int) ≤ pc := by omega
  clear hb5 hY HE4 HR4 hp1
  go_wp2_with fail
  refine (weights_any r (gQ k) pa len pc l ya yl yc x w5 (gQ_prime k) HR5.out (HE5.out.row 0 rfl).toAt HA.out.2.1 hpc (by omega) HY5.out).mono ?_
  rintro e w6 ⟨v, c, rfl, hb6, hcs⟩
  have HE6 := Lib.hid (HE5.out.below hb6)
  have HR6 := Lib.hid (HR5.out.below hb6)
  clear HY5
  rcases hcs with ⟨h0, rfl, rfl⟩ | ⟨h0, hd, rfl, rfl⟩ | ⟨h0, hd, rfl, hrow⟩
  · have hl0 : (len : Int) = 0 := by rw [← HA.out.2.1, h0]; rfl
    have hl1 : ((len : Int) == 0) = true := by rw [hl0]; rfl
    clear hb6 h0
    go_wp2_with fail
    go_ret
    exact ⟨rfl, HS.out ▸ HE6.out.bel⟩
  · clear hb6 h0 hd
    go_wp2_with fail
    go_ret
    exact ⟨rfl, HS.out ▸ HE6.out.bel⟩
  · obtain ⟨wa, wc', rfl, _, _, _, _⟩ := hrow.form
    have hsum := sum_one (gQ_prime k) hd h0 x
    have HSUM := Lib.hid hsum
    have hrl : (wts (gQ k) l x).length = len := by rw [wts_length]; exact HA.out.2.1
    have HRL := Lib.hid hrl
    have HE7 := Lib.hid ((HE5.out.pushRow hb6 hrow).add (P := fun w => RingAt w r (gQ k)) (ringAt_stays (by decide) (by decide)) HR6.out)
    obtain ⟨T, hT⟩ : ∃ T, T = w6.heap.size := ⟨_, rfl⟩
    rw [hrl] at HE7 ⊢
    obtain ⟨ws, hws⟩ : ∃ ws, wts (gQ k) l x = ws := ⟨_, rfl⟩
    rw [hws] at HE7 HRL HSUM
    have HE8 := Lib.hid (HE7.out.alloc T hT (natS_nil w6) (c := 0))
    clear hb6 h0 hd hrow hsum hrl hws HE7 HE6 HR6 HE5 HR5
    go_wp2_with fail
    rw [← hT]
    clear hT
    generalize w6.alloc (Obj.cells #[Value.slice none 0 0] 33) = w7 at HE8 ⊢
    obtain ⟨F, hF⟩ : ∃ F : List (World → Prop), F = [fun w => RingAt w r (gQ k)] := ⟨_, rfl⟩
    have f0 : Hid (F[0]? = some (fun w => RingAt w r (gQ k))) := by show _ = _; rw [hF]; rfl
    have HE9 : Hid (GE w w7 s [rowI s (.slice pa len pc) l, rowI s (.slice wa len wc') ws, boxI T (sumF (gQ k) ws 0 0)] F) := by rw [hF]; exact HE8.out
    clear HE8 hF
    go_loopw [50] (fun iv wr => ∃ i : Nat, (i : Int) ≤ len ∧ iv = .int .i64 (i : Int) ∧ Hid (GE w wr s [rowI s (.slice pa len pc) l, rowI s (.slice wa len wc') ws, boxI T (sumF (gQ k) ws 0 i)] F)) (fun iv _ => len - (intOf iv).toNat)
    case atStart => exact ⟨0, by omega, rfl, HE9.out⟩
    case round =>
      clear HE9
      obtain ⟨i, hi, rfl, HE⟩ := hrel
      by_cases hlt : (i : Int) < len
      · have hil : i < ws.length := by rw [HRL.out]; omega
        obtain ⟨y, hy⟩ : ∃ y, ws.getD i 0 = y := ⟨_, rfl⟩
        obtain ⟨ad, xa, xl, xc, hadr, _, cx, Nx⟩ := (HE.out.row 1 rfl).toAt.get hil
        subst hadr
        rw [hy] at Nx
        have HY := Lib.hid hy
        obtain ⟨Z, hZ⟩ : ∃ Z, Z = wr.heap.size := ⟨_, rfl⟩
        have hbZ := (Below.refl _ wr).alloc (Nat.le_refl _) (Obj.cells #[Value.slice xa xl xc] 33)
        have HE2 := Lib.hid (HE.out.alloc Z hZ Nx (c := xc))
        have HR2 := Lib.hid ((HE.out.has 0 f0.out).below hbZ)
        have HX2 := Lib.hid (Nx.below hbZ)
        obtain ⟨oa, ol, oc, cO, _, NO⟩ := HE2.out.box 2 rfl
        have HNO := Lib.hid NO
        clear Nx hy hil HE hbZ NO
        go_wp2_with fail
        clear hZ cx cO
        generalize wr.alloc (Obj.cells #[Value.slice xa xl xc] 33) = w9 at HE2 HR2 HX2 HNO ⊢
        refine (radd_any r _ oa xa ol oc xl xc _ _ w9 HR2.out HNO.out HX2.out).mono ?_
        rintro e w10 ⟨ma, ml, mc, rfl, hm, hb10⟩
        have HE10 := Lib.hid (HE2.out.below hb10)
        have HM10 := Lib.hid hm
        obtain ⟨_, _, _, cT, fT, _⟩ := HE10.out.box 2 rfl
        have HE11 := Lib.hid (HE10.out.set 2 rfl HM10.out (c := mc))
        clear hm hb10 HE2 HR2 HX2 HNO HE10
        go_wp2_with fail
        go_roundw
        case rel => exact ⟨i + 1, by omega, by go_num, by have := HE11.out.take 3; rw [← HY.out] at this; exact this⟩
        case measure => simp [intOf]; omega
      · have hi' : i = len := by omega
        subst hi'
        rw [HA.out.2.1] at HSUM
        obtain ⟨oa, ol, oc, gO, NO⟩ := HE.out.get 2 rfl
        rw [HSUM.out] at NO
        have HNO := Lib.hid NO
        clear NO
        go_wp2_with fail
        go_region_held3 (fun w' => BB wr w') (first | assumption | exact BB.drew (BB.refl _))
          (first
            | (go_at_call 25; refine (cmp_s oa ta ol oc tl tc 1 1 w9 (HNO.out.below hbb9) HT9.out).mono ?_; rw [cmp_self]; rintro e w10 ⟨rfl, hb10⟩; have hbb10 : BB wr w10 := BB.step hbb9 hb10; clear hb10)
            | (go_at_call 20; refine (new_s 1 wr.drew (by decide)).mono ?_; rintro e w9 ⟨ta, tl, tc, rfl, ht, hb9⟩; have hbb9 : BB wr w9 := BB.step (BB.drew (BB.refl wr)) hb9; have HT9 := Lib.hid ht; clear ht hb9))
        go_wp2_with fail
        go_ret
        exact ⟨rfl, HS.out ▸ HE.out.bel.trans (Below.mono hbb10 HE.out.base)⟩

/-- The same, as the frame asks it. -/
theorem csums_walk (a0 : Int) (a1 : Option Addr) (len1 cap1 : Nat) (z1 : List Int) (a2 : Int) (w : World)
    (w1 : (a1 = none ∧ len1 = 0 ∧ cap1 = 0 ∧ z1 = []) ∨ ∃ x, a1 = some x ∧ len1 ≤ cap1 ∧ cap1 ≤ maxLen ∧ z1.length = cap1 ∧ (∀ i, i < z1.length → w.cell? (x.add i) = some (.int .u64 (z1.getD i 0))) ∧ ∀ n ∈ z1, (Lit.int .u64 n).wf = true)
    (w2 : (Lit.int .u64 a2).wf = true) :
    Calls Try.prog 4 #[.int .i64 a0, .slice a1 len1 cap1, .int .u64 a2] w fun e w' => e = .returned (.bool true) ∧ Below w.heap.size w w' := by
  obtain ⟨l, h1, h2, h3, h4⟩ := words_in w1
  obtain ⟨x, rfl, hx⟩ := word_in w2
  exact csums_any a0 a1 len1 cap1 l x w h1 h2 h3 h4 hx
end Go.Proofs.Ythefednendgclaa
