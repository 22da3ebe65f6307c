/-
  The polynomial through places: Through.
-/
import Derived.Test.YthefednendgclaaPlainB
import Derived.Test.YthefednendgclaaLaw9
import Derived.Test.YthefednendgclaaJoin
import Derived.Test.YthefednendgclaaCurve1
import Derived.Deep.RegionHeld3
import Derived.Deep.RegionLaw
set_option linter.unusedVariables false
set_option linter.unusedSimpArgs false
namespace Go.Proofs.Ythefednendgclaa
open Go Go.RowKit Sac NT

/-- Some of the things, in another order. -/
theorem GE.pick {w wr : World} {s : Nat} {L L' : List Itm} {F : List (World → Prop)} (h : GE w wr s L F) (f : Nat → Nat) (hf : ∀ i j, i < L'.length → j < L'.length → f i = f j → i = j) (hL : ∀ (i : Nat) (t : Itm), L'[i]? = some t → L[f i]? = some t) : GE w wr s L' F :=
  ⟨h.bel, fun i t hi => h.its (f i) t (hL i t hi), fun i j p q hi hj hne => h.apart (f i) (f j) p q (hL i p hi) (hL j q hj) (fun e => hne (hf i j (List.getElem?_eq_some_iff.1 hi).1 (List.getElem?_eq_some_iff.1 hj).1 e)), h.stay, h.fact, h.base⟩
theorem GE.sub4 {w wr : World} {s : Nat} {F : List (World → Prop)} {t0 t1 t2 t3 t4 t5 : Itm} (h : GE w wr s [t0, t1, t2, t3, t4, t5] F) : GE w wr s [t0, t1, t5, t3] F :=
  h.pick (fun i => if i = 2 then 5 else i) (fun i j hi hj e => by
    have hi' : i < 4 := hi
    have hj' : j < 4 := hj
    have e' : (if i = 2 then 5 else i) = (if j = 2 then 5 else j) := e
    split at e' <;> split at e' <;> omega) (fun i t hi => by
    match i, hi with
    | 0, hi => exact hi
    | 1, hi => exact hi
    | 2, hi => exact hi
    | 3, hi => exact hi
    | n + 4, hi => simp at hi)
theorem GE.last {w wr : World} {s : Nat} {F : List (World → Prop)} {t0 t1 t2 t3 t4 t5 : Itm} (h : GE w wr s [t0, t1, t2, t3, t4, t5] F) : GE w wr s [t5] F :=
  h.pick (fun i => i + 5) (fun i j _ _ e => by have e' : i + 5 = j + 5 := e; omega) (fun i t hi => by
    match i, hi with
    | 0, hi => exact hi
    | n + 1, hi => simp at hi)

/-- What Through tells: the polynomial, or why there is none. -/
def ThrPost (q : Nat) (xs ys : List Nat) (ny : Nat) (w : World) (e : Ending) (w' : World) : Prop := ∃ (v : Value) (c : Int), e = .returned (.tuple #[v, .int .i64 c]) ∧ Below w.heap.size w w' ∧
  ((xs.length = 0 ∧ c = 10 ∧ v = .slice none 0 0) ∨ (0 < xs.length ∧ xs.length ≠ ny ∧ c = 1 ∧ v = .slice none 0 0) ∨ (0 < xs.length ∧ xs.length = ny ∧ ¬ Dis q xs ∧ c = 11 ∧ v = .slice none 0 0) ∨ (0 < xs.length ∧ xs.length = ny ∧ Dis q xs ∧ c = 0 ∧ NatsOwn w' w.heap.size v (thrF q xs ys xs.length)))

set_option maxRecDepth 100000 in
set_option maxHeartbeats 8000000 in
theorem through_any (r q : Nat) (a : Option Addr) (len cap : Nat) (xs : List Nat) (b : Option Addr) (lenb capb : Nat) (ys : List Nat) (w : World) (hq : Prime q) (hr : RingAt w r q) (h : NatsAt w a xs) (hl : xs.length = len) (hcc : (len : Int) ≤ cap) (hc : (len : Int) ≤ 5000) (h' : NatsAt w b ys) (hl' : ys.length = lenb) (hcb : (lenb : Int) ≤ capb) :
    Calls Try.prog 74 #[.pointer (some ⟨r, 0, none⟩), .slice a len cap, .slice b lenb capb] w (ThrPost q xs ys lenb w) := by
  obtain ⟨s, hs⟩ : ∃ s, s = w.heap.size := ⟨_, rfl⟩
  have HE0 := Lib.hid (GE.init w s hs)
  have HR := Lib.hid hr
  have HP := Lib.hid h
  have HY := Lib.hid h'
  have HL := Lib.hid hl
  have HL' := Lib.hid hl'
  have HS := Lib.hid hs
  have HQ := Lib.hid hq
  clear hr h h' hl hl' hs hq
  go_enter Try.func74, Try.ntmps74
  go_wp2_with fail
  refine (both_any r q a len cap xs b lenb capb none 0 0 0 w HQ.out HR.out HP.out HL.out hcc (by omega) (natS_nil w)).mono ?_
  rintro e w2 ⟨v, c, rfl, hb2, hcs⟩
  have HE2 := Lib.hid (HE0.out.below hb2)
  have HB2 := Lib.hid hb2
  clear hb2 HE0
  rcases hcs with ⟨h0, rfl, rfl⟩ | ⟨h0, h1, rfl, rfl⟩ | ⟨h0, h1, h2, rfl, rfl⟩ | ⟨h0, h1, h2, rfl, _⟩
  · have HC := Lib.hid h0
    clear h0
    go_wp2_with fail
    go_ret2
    exact ⟨_, _, rfl, HB2.out, .inl ⟨HC.out, rfl, rfl⟩⟩
  · have HC := Lib.hid (And.intro h0 h1)
    clear h0 h1
    go_wp2_with fail
    go_ret2
    exact ⟨_, _, rfl, HB2.out, .inr (.inl ⟨HC.out.1, HC.out.2, rfl, rfl⟩)⟩
  · have HC := Lib.hid (And.intro h0 (And.intro h1 h2))
    clear h0 h1 h2
    go_wp2_with fail
    go_ret2
    exact ⟨_, _, rfl, HB2.out, .inr (.inr (.inl ⟨HC.out.1, HC.out.2.1, HC.out.2.2, rfl, rfl⟩))⟩
  · have hll : len = lenb := by rw [← HL.out]; exact h1
    subst hll
    have HPOS := Lib.hid h0
    have HD := Lib.hid h2
    obtain ⟨ad, _, _, _, rfl, _, _, _⟩ := HP.out.get (k := 0) h0
    obtain ⟨bd, _, _, _, rfl, _, _, _⟩ := HY.out.get (k := 0) (by rw [HL'.out, ← HL.out]; exact h0)
    clear h0 h1 h2 HB2
    go_wp2_with first | fail | (refine wpList_make_nats _ rfl _ _ rfl _ _ _ _ len rfl rfl rfl rfl (by omega) ?_)
    intro w3 hrow hbel
    obtain ⟨O, hO⟩ : ∃ O, O = w2.heap.size := ⟨_, rfl⟩
    have hrep : List.replicate len 0 = thrF q xs ys 0 := by rw [← HL.out]; rfl
    have HE3 := Lib.hid (HE2.out.pushRow hbel hrow)
    rw [← hO, hrep] at HE3
    rw [← hO]
    clear hrow hbel hO hrep HE2
    go_wp2_with fail
    go_loopw [10, 35] (fun v iv wr => ∃ i : Nat, (i : Int) ≤ len ∧ iv = .int .i64 (i : Int) ∧ Hid (GE w wr s [rowI s v (thrF q xs ys i)] [])) (fun _ iv _ => len - (intOf iv).toNat)
    case atStart => exact ⟨0, by omega, rfl, HE3.out⟩
    case round =>
      clear HE3
      obtain ⟨i, hi, rfl, HE⟩ := hrel
      by_cases hlt : (i : Int) < len
      · have hil : i < xs.length := by rw [HL.out]; omega
        have hb0 : BB w wr := by have := HE.out.bel; rw [HS.out] at this; exact this
        obtain ⟨oa, oc, rfl, ho1, ho2, _, _⟩ := (HE.out.row 0 rfl).form
        have hol : (thrF q xs ys i).length = len := by rw [thr_length i (by omega)]; exact HL.out
        rw [hol] at HE ho1 ⊢
        have HOL := Lib.hid hol
        have HOC : Hid ((len : Int) ≤ oc) := by show (_ : Int) ≤ _; omega
        obtain ⟨ai, hai⟩ : ∃ ai, xs.getD i 0 = ai := ⟨_, rfl⟩
        obtain ⟨_, xa, xl, xc, he, _, cx, Nx⟩ := (HP.out.below hb0).get hil
        injection he with he
        subst he
        rw [hai] at Nx
        have HAI := Lib.hid hai
        have hcap : (i : Int) ≤ cap := by omega
        obtain ⟨Z, hZ⟩ : ∃ Z, Z = wr.heap.size := ⟨_, rfl⟩
        have hbZ := (Below.refl _ wr).alloc (Nat.le_refl _) (Obj.cells #[Value.slice xa xl xc] 33)
        have HE2 := Lib.hid (HE.out.alloc Z hZ Nx (c := xc))
        have HR2 := Lib.hid ((HR.out.below hb0).below hbZ)
        clear Nx hai hil HE hb0 hbZ hol ho1 ho2
        go_wp2_with fail
        rw [← hZ]
        clear hZ cx
        generalize wr.alloc (Obj.cells #[Value.slice xa xl xc] 33) = w5 at HE2 HR2 ⊢
        refine (new_s 1 w5 (by decide)).mono ?_
        rintro e w6 ⟨ua, ul, uc, rfl, hu, hb6⟩
        have HE6 := Lib.hid (HE2.out.below hb6)
        have HR6 := Lib.hid (HR2.out.below hb6)
        have HU6 := Lib.hid hu
        clear hu hb6 HE2 HR2
        go_wp2_with fail
        refine (of_s r q ua ul uc 1 w6 HR6.out HU6.out).mono ?_
        rintro e w7 ⟨pa, pl, pc, rfl, hp, hb7⟩
        obtain ⟨K, hK⟩ : ∃ K, K = w7.heap.size := ⟨_, rfl⟩
        have hbx := (Below.refl _ w7).alloc (Nat.le_refl _) (Obj.cells #[Value.slice pa pl pc] 33)
        have HE8 := Lib.hid ((HE6.out.below hb7).pushRow hbx (NatsOwn.lit (c := pc) w7.heap.size K hK (by rw [hK]; exact Nat.le_refl _) hp))
        have HR8 := Lib.hid ((HR6.out.below hb7).below hbx)
        clear hp hb7 hbx HE6 HR6 HU6
        go_wp2_with fail
        rw [← hK]
        clear hK
        generalize w7.alloc (Obj.cells #[Value.slice pa pl pc] 33) = w8 at HE8 HR8 ⊢
        refine (new_s 1 w8 (by decide)).mono ?_
        rintro e w9 ⟨ua, ul, uc, rfl, hu, hb9⟩
        have HE9 := Lib.hid (HE8.out.below hb9)
        have HR9 := Lib.hid (HR8.out.below hb9)
        have HU9 := Lib.hid hu
        clear hu hb9 HE8 HR8
        go_wp2_with fail
        refine (of_s r q ua ul uc 1 w9 HR9.out HU9.out).mono ?_
        rintro e w10 ⟨da, dl, dc, rfl, hd, hb10⟩
        obtain ⟨D, hDD⟩ : ∃ D, D = w10.heap.size := ⟨_, rfl⟩
        have HE11 := Lib.hid ((HE9.out.below hb10).alloc D hDD hd (c := dc))
        clear hd hb10 HE9 HR9 HU9
        go_wp2_with fail
        rw [← hDD]
        clear hDD
        generalize w10.alloc (Obj.cells #[Value.slice da dl dc] 33) = w11 at HE11 ⊢
        go_loopw [13, 49] (fun pv iv wr => ∃ t : Nat, (t : Int) ≤ len ∧ iv = .int .i64 (t : Int) ∧ Hid (GE w wr s [rowI s (.slice oa len oc) (thrF q xs ys i), boxI Z ai, rowI s pv (pF q xs i t), boxI D (upF q ai xs i t)] [])) (fun _ iv _ => len - (intOf iv).toNat)
        case atStart => exact ⟨0, by omega, rfl, HE11.out⟩
        case round =>
          clear HE11
          obtain ⟨t, ht, rfl, HE⟩ := hrel
          obtain ⟨P, hP⟩ : ∃ P, pF q xs i t = P := ⟨_, rfl⟩
          obtain ⟨pn, hpn⟩ : ∃ pn, P.length = pn := ⟨_, rfl⟩
          have hpn0 : (0 : Int) < pn := by have := pF_pos q xs i t; rw [hP, hpn] at this; omega
          have hpn1 : (pn : Int) ≤ 5001 := by have := pF_le q xs i t; rw [hP, hpn] at this; omega
          obtain ⟨pa, pc, rfl, hp1, hp2, _, _⟩ := (HE.out.row 2 rfl).form
          rw [hP] at HE hp1 ⊢
          rw [hpn] at HE hp1 ⊢
          have HPP := Lib.hid hP
          have HPN := Lib.hid hpn
          clear hP hpn hp1 hp2
          by_cases hltt : (t : Int) < len
          · have htl : t < xs.length := by rw [HL.out]; omega
            have hb0 : BB w wr := by have := HE.out.bel; rw [HS.out] at this; exact this
            obtain ⟨bb, hbb⟩ : ∃ bb, xs.getD t 0 = bb := ⟨_, rfl⟩
            obtain ⟨_, ya, yl, yc, he, _, cy, Ny⟩ := (HP.out.below hb0).get htl
            injection he with he
            subst he
            rw [hbb] at Ny
            have HBB := Lib.hid hbb
            obtain ⟨Y, hY⟩ : ∃ Y, Y = wr.heap.size := ⟨_, rfl⟩
            have hbY := (Below.refl _ wr).alloc (Nat.le_refl _) (Obj.cells #[Value.slice ya yl yc] 33)
            have HE2 := Lib.hid (HE.out.alloc Y hY Ny (c := yc))
            by_cases hti : t = i
            · subst hti
              have hne : ((t : Int) != (t : Int)) = false := by simp
              have e1 : pF q xs t (t + 1) = P := by rw [← HPP.out]; conv => lhs; unfold pF; rw [if_pos rfl]
              have e2 : upF q ai xs t (t + 1) = upF q ai xs t t := by conv => lhs; unfold upF; rw [if_pos rfl]
              have HE1' := Lib.hid e1
              have HE2' := Lib.hid e2
              clear Ny hbb htl HE hb0 e1 e2 hbY
              go_wp2_with fail
              go_roundw
              case rel => exact ⟨t + 1, by omega, by go_num, by rw [HE1'.out, HE2'.out]; exact HE2.out.take 4⟩
              case measure => simp [intOf]; omega
            · have hne : ((t : Int) != (i : Int)) = true := by rw [bne_iff_ne]; omega
              have hu1 : pF q xs i (t + 1) = mull q P [subm q 0 bb, 1] := by rw [← HBB.out, ← HPP.out]; conv => lhs; unfold pF; rw [if_neg hti]
              have hu2 : upF q ai xs i (t + 1) = upF q ai xs i t * subm q ai bb % q := by rw [← HBB.out]; conv => lhs; unfold upF; rw [if_neg hti]
              have HU1 := Lib.hid hu1
              have HU2 := Lib.hid hu2
              have HNY := Lib.hid (Ny.below hbY)
              have HRY := Lib.hid ((HR.out.below hb0).below hbY)
              clear Ny hbb htl HE hb0 hti hu1 hu2 hbY
              go_wp2_with fail
              rw [← hY]
              clear hY cy
              generalize wr.alloc (Obj.cells #[Value.slice ya yl yc] 33) = w12 at HE2 HNY HRY ⊢
              with_reducible refine (rsub_any r q none ya 0 0 yl yc 0 bb w12 HRY.out (natS_nil w12) HNY.out).mono ?_
              rintro e w13 ⟨sa, sl, sc, rfl, hs1, hb13⟩
              have HE13 := Lib.hid (HE2.out.below hb13)
              have HR13 := Lib.hid (HRY.out.below hb13)
              have HS13 := Lib.hid hs1
              clear hs1 hb13 HE2 HNY HRY
              go_wp2_with fail
              refine (new_s 1 w13 (by decide)).mono ?_
              rintro e w14 ⟨va, vl, vc, rfl, hv, hb14⟩
              obtain ⟨M, hM⟩ : ∃ M, M = w14.heap.size := ⟨_, rfl⟩
              have hbM := (Below.refl _ w14).alloc (Nat.le_refl _) (Obj.cells #[Value.slice sa sl sc, Value.slice va vl vc] 33)
              have HE15 := Lib.hid ((HE13.out.below hb14).below hbM)
              have HR15 := Lib.hid ((HR13.out.below hb14).below hbM)
              have HM15 := Lib.hid (NatsOwn.lit2 (c := sc) (c' := vc) w14.heap.size M hM (by rw [hM]; exact Nat.le_refl _) (HS13.out.below hb14) hv).toAt
              clear hv hb14 hbM HE13 HR13 HS13
              go_wp2_with fail
              rw [← hM]
              clear hM
              generalize w14.alloc (Obj.cells #[Value.slice sa sl sc, Value.slice va vl vc] 33) = w15 at HE15 HR15 HM15 ⊢
              refine (cmul_any r q pa pn pc P (some ⟨M, 0, none⟩) 2 2 [subm q 0 bb, 1] w15 HR15.out (HE15.out.row 2 rfl).toAt HPN.out (by omega) HM15.out rfl (by decide) hpn0 (by decide)).mono ?_
              rintro e w16 ⟨v, rfl, hrow, hb16⟩
              have HE16 := Lib.hid (HE15.out.pushRow hb16 hrow)
              have HR16 := Lib.hid (HR15.out.below hb16)
              clear hrow hb16 HE15 HR15 HM15
              obtain ⟨fa, fl, fc, gF, NF⟩ := HE16.out.get 1 rfl
              obtain ⟨ka, kl, kc, gK, NK⟩ := HE16.out.get 3 rfl
              obtain ⟨ya, yl, yc, gY, NY⟩ := HE16.out.get 4 rfl
              have HNF := Lib.hid NF
              have HNK := Lib.hid NK
              have HNY := Lib.hid NY
              have cF0 := gF w16.drew (BB.drew (BB.refl _))
              have cK0 := gK w16.drew (BB.drew (BB.refl _))
              have cY0 := gY w16.drew (BB.drew (BB.refl _))
              clear NF NK NY
              go_wp2_with fail
              go_region_law (first
                | (go_simp; go_at_call 78; refine (rsub_any r q fa ya fl fc yl yc _ _ w16.drew HR16.out.drew HNF.out.drew HNY.out.drew).mono ?_; rintro e w30 ⟨sa, sl, sc, rfl, hs1, hb30⟩; have hbb30 : BB w16 w30 := BB.step (BB.drew (BB.refl w16)) hb30; have HS1 := Lib.hid hs1; have cK30 := gK _ hbb30; clear hs1 hb30)
                | (go_simp; go_at_call 29; refine (rmul_any r q ka sa kl kc sl sc _ _ w30 (HR16.out.below hbb30) (HNK.out.below hbb30) HS1.out).mono ?_; rintro e w31 ⟨ma, ml, mc, rfl, hm1, hb31⟩; have hbb31 : BB w16 w31 := BB.step hbb30 hb31; have HM1 := Lib.hid hm1; have HE31 := Lib.hid (HE16.out.below hbb31); have cK31 := gK _ hbb31; obtain ⟨_, _, _, _, fK31, _⟩ := HE31.out.box 3 rfl; clear hm1 hb31))
              all_goals (
                have HE6 := Lib.hid (HE31.out.set 3 rfl HM1.out (c := mc))
                rw [← HU2.out, ← HU1.out] at HE6
                go_wp2_with fail
                go_roundw
                case rel => exact ⟨t + 1, by omega, by go_num, GE.sub4 HE6.out⟩
                case measure => simp [intOf]; omega)
          · have ht' : t = len := by omega
            subst ht'
            have hb0 : BB w wr := by have := HE.out.bel; rw [HS.out] at this; exact this
            have hil : i < xs.length := by rw [HL.out]; omega
            obtain ⟨ea, el, ec, cE, _, NE'⟩ := HE.out.box 3 rfl
            have HNE := Lib.hid NE'
            have HRr := Lib.hid (HR.out.below hb0)
            have hg : Nat.gcd q (upF q ai xs i t) = 1 := by
              have := down_unit HQ.out HD.out hil
              rw [HAI.out, HL.out] at this; exact this
            have HGG := Lib.hid hg
            have hpt : pn = t := by rw [← HPN.out, ← HPP.out]; have := pF_full (q := q) (xs := xs) hil; rw [HL.out] at this; exact this
            subst hpt
            obtain ⟨yy, hyy⟩ : ∃ yy, ys.getD i 0 = yy := ⟨_, rfl⟩
            obtain ⟨_, ya, yl, yc, he, _, cy, Ny⟩ := (HY.out.below hb0).get (k := i) (by rw [HL'.out]; omega)
            injection he with he
            subst he
            rw [hyy] at Ny
            have HYY := Lib.hid hyy
            have HNYr := Lib.hid Ny
            have gY0 : ∀ w', BB wr w' → w'.cell? (bd.add i) = some (.slice ya yl yc) := fun w' h => (h.cell (World.block_lt_of_cell? _ _ cy)).trans cy
            clear NE' hb0 hg hil hyy Ny cy
            go_wp2_with fail
            refine (rinv_any r q ea el ec _ wr HRr.out HNE.out).mono ?_
            rintro e w9 ⟨z, za, zl, zc, rfl, hz, hz1, _, hb9⟩
            rw [if_pos HGG.out]
            have HCF : Hid (yy * z % q = cF q xs ys i) := by
              show _ = _
              obtain ⟨h3, h4⟩ := hz1 HGG.out
              unfold cF
              rw [HYY.out, HAI.out, HL.out, invq_eq h3 h4]
            obtain ⟨M, hM⟩ : ∃ M, M = w9.heap.size := ⟨_, rfl⟩
            have hbM := (Below.refl _ w9).alloc (Nat.le_refl _) (Obj.cells #[Value.slice za zl zc] 33)
            have hb9M : BB wr (w9.alloc (Obj.cells #[Value.slice za zl zc] 33)) := BB.step hb9 hbM
            have HE9 := Lib.hid ((HE.out.below hb9).alloc M hM hz (c := zc))
            have HR9 := Lib.hid (HRr.out.below hb9M)
            have HN9 := Lib.hid (HNYr.out.below hb9M)
            have gY : ∀ w', BB (w9.alloc (Obj.cells #[Value.slice za zl zc] 33)) w' → w'.cell? (bd.add i) = some (.slice ya yl yc) := fun w' h => gY0 w' (BB.step hb9M h)
            clear hz hz1 hb9 cE HE HNE HRr HGG gY0 HNYr hbM hb9M
            go_wp2_with fail
            rw [← hM]
            clear hM
            generalize w9.alloc (Obj.cells #[Value.slice za zl zc] 33) = w10 at HE9 HR9 HN9 gY ⊢
            obtain ⟨za, zl, zc, gZ, NZ⟩ := HE9.out.get 4 rfl
            have HNZ := Lib.hid NZ
            have HML : Hid ((mull q P [yy * z % q]).length = pn) := by show _ = _; rw [mull_length, HPN.out]; simp
            have HPR := Lib.hid (HE9.out.row 2 rfl).toAt
            have HOR := Lib.hid (HE9.out.row 0 rfl).toAt
            have bi0 : (0 : Int) ≤ (i : Int) := by omega
            have bi1 : (i : Int) < (pn : Int) := by omega
            have bi2 : (i : Int) ≤ (capb : Int) := by omega
            clear NZ
            go_region_held3 (fun w' => BB w10 w') (first | assumption | exact BB.drew (BB.refl _) | exact BB.alloc (by assumption))
              (first
                | (go_at_call 26; refine (cadd_any r q oa pn oc (thrF q xs ys i) va pn vc (mull q P [yy * z % q]) w23 (HR9.out.below hbb23) (HOR.out.below hbb23) HOL.out (by omega) HV23.out HML.out (by omega)).mono ?_; rintro e w24 ⟨v24, rfl, hrow, hb24⟩; have hbb24 : BB w10 w24 := BB.step hbb23 hb24; have HE24 := Lib.hid ((HE9.out.below hbb23).pushRow hb24 hrow); clear hrow hb24)
                | (go_at_call 28; refine (cmul_any r q pa pn pc P (some ⟨w21.heap.size, 0, none⟩) 1 1 [yy * z % q] (w21.alloc (Obj.cells #[Value.slice ma ml mc] 33)) (HR9.out.below hbb22) (HPR.out.below hbb22) HPN.out (by omega) HM22.out rfl (by decide) hpn0 (by decide)).mono ?_; rintro e w23 ⟨v23, rfl, hrow, hb23⟩; obtain ⟨va, vc, rfl, _, _, hvat, _⟩ := hrow.form; rw [HML.out]; have hbb23 : BB w10 w23 := BB.step hbb22 hb23; have HV23 := Lib.hid hvat; clear hrow hvat hb23)
                | (go_at_call 29; refine (rmul_any r q ya za yl yc zl zc yy z w10.drew HR9.out.drew HN9.out.drew HNZ.out.drew).mono ?_; rintro e w21 ⟨ma, ml, mc, rfl, hm, hb21⟩; have hbb21 : BB w10 w21 := BB.step (BB.drew (BB.refl w10)) hb21; have hbb22 : BB w10 (w21.alloc (Obj.cells #[Value.slice ma ml mc] 33)) := BB.alloc hbb21; have HM22 := Lib.hid (NatsOwn.lit (c := mc) w21.heap.size w21.heap.size rfl (Nat.le_refl _) hm).toAt; clear hm hb21))
            go_wp2_with fail
            go_roundw
            case rel => exact ⟨i + 1, by omega, by go_num, (by
              have h6 := GE.last HE24.out
              have e1 : thrF q xs ys (i + 1) = addl q (thrF q xs ys i) (mull q P [yy * z % q]) := by rw [HCF.out, ← HPP.out, ← HL.out]; rfl
              rw [e1]; exact h6)⟩
            case measure => simp [intOf]; omega
      · have hi' : i = len := by omega
        subst hi'
        obtain ⟨oa, oc, rfl, ho1, ho2, _, _⟩ := (HE.out.row 0 rfl).form
        go_wp2_with fail
        go_ret2
        exact ⟨_, _, rfl, HS.out ▸ HE.out.bel, .inr (.inr (.inr ⟨HPOS.out, HL.out, HD.out, rfl, by have := HE.out.row 0 rfl; rw [HS.out] at this; rw [HL.out]; exact this⟩))⟩
end Go.Proofs.Ythefednendgclaa
