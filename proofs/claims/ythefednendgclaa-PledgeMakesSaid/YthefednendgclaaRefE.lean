import Derived.Test.YthefednendgclaaRefB
import Derived.Test.YthefednendgclaaCurveG
import Derived.Test.YthefednendgclaaGrpA
import Derived.Test.YthefednendgclaaGrp3
import Derived.Test.YthefednendgclaaInvF
set_option linter.unusedVariables false
set_option linter.unusedSimpArgs false
/-
  The document's group of a group; its polynomial in the exponent; rows compared with its rows.
-/
namespace Go.Proofs.Ythefednendgclaa
open Go Go.RowKit Sac


theorem ret_bg {fn : Func} {p : Tmp} {R : Ending → World → Prop} {tmps : Array Value} {w : World} {g : Nat} {a b c d : Value} (h : fn.results = #[.cell p 62]) (hp : tmps.getD p undef = .pointer (some ⟨g, 0, none⟩))
    (hB : Blk w g 62 [a, b, c, d]) (hR : R (.returned (.agg #[a, b, c, d])) w) : bodyPost Try.prog fn R .ret { tmps, defers := [] } w :=
  bodyPost_ret (results_cell_row h _ _ g 62 #[a, b, c, d] (0, 0) _ hp hB Try.underlying62 rfl (by kernel_rfl)) rfl hR
/-- The document's group handed back. -/
def RetBG (P Q G H : Nat) (w : World) (e : Ending) (w' : World) : Prop := ∃ v, e = .returned v ∧ BG w' v P Q G H ∧ Below w.heap.size w w'

set_option maxRecDepth 100000 in
set_option maxHeartbeats 4000000 in
theorem bref_any (g P Q G H sz : Nat) (w : World) (hg : GroupAt w g P Q G H sz) (hP : nbytes P ≤ 120) (hQ : nbytes Q ≤ 120) (hG : nbytes G ≤ 120) (hH : nbytes H ≤ 120) :
    Calls Try.prog 43 #[.pointer (some ⟨g, 0, none⟩)] w (RetBG P Q G H w) := by
  have hbA := (Below.refl _ w).alloc (Nat.le_refl _) (Obj.cells #[Value.slice none 0 0, Value.slice none 0 0, Value.slice none 0 0, Value.slice none 0 0] 62)
  obtain ⟨s, hs⟩ : ∃ s, s = w.heap.size := ⟨_, rfl⟩
  have HO1 : Hid (Blk (w.alloc (Obj.cells #[Value.slice none 0 0, Value.slice none 0 0, Value.slice none 0 0, Value.slice none 0 0] 62)) s 62 [.slice none 0 0, .slice none 0 0, .slice none 0 0, .slice none 0 0]) := Blk.new' w _ _ s hs
  have HG1 := Lib.hid (hg.below hbA)
  have HB1 : Hid (Below s w (w.alloc (Obj.cells #[Value.slice none 0 0, Value.slice none 0 0, Value.slice none 0 0, Value.slice none 0 0] 62))) := hs.symm ▸ hbA
  have HL := Lib.hid (And.intro hP (And.intro hQ (And.intro hG hH)))
  have HS := Lib.hid hs
  clear hg hbA hP hQ hG hH
  go_enter Try.func43, Try.ntmps43
  go_wp2_with fail
  rw [← hs]
  clear hs
  generalize w.alloc (Obj.cells #[Value.slice none 0 0, Value.slice none 0 0, Value.slice none 0 0, Value.slice none 0 0] 62) = w1 at HO1 HG1 HB1 ⊢
  refine (gp_any g P Q G H sz w1 HG1.out).mono ?_
  rintro e w2 ⟨xa, xl, xc, rfl, hx, hb⟩
  have HX := Lib.hid hx
  have HG2 := Lib.hid (HG1.out.below hb)
  have HO2 := Lib.hid (HO1.out.below hb HO1.out.lt)
  have HB2 := Lib.hid (HB1.out.trans (hb.mono (Nat.le_of_lt HO1.out.lt)))
  clear hx hb HG1 HO1 HB1
  go_wp2_with fail
  refine (num_any xa xl xc P w2 HX.out HL.out.1).mono ?_
  rintro e w3 ⟨pv, rfl, hp, hb⟩
  have HP3 := Lib.hid hp
  have HG3 := Lib.hid (HG2.out.below hb)
  have HO3 := Lib.hid (HO2.out.below hb HO2.out.lt)
  have HB3 := Lib.hid (HB2.out.trans (hb.mono (Nat.le_of_lt HO2.out.lt)))
  clear hp hb HG2 HO2 HB2 HX
  go_wp2_with fail
  refine (gfield_any g P Q G H sz w3 HG3.out).mono ?_
  rintro e w4 ⟨r, rfl, hr, hb⟩
  have HR4 := Lib.hid hr
  have HP4 := Lib.hid (HP3.out.below hb)
  have HG4 := Lib.hid (HG3.out.below hb)
  have HO4 := Lib.hid (HO3.out.below hb HO3.out.lt)
  have HB4 := Lib.hid (HB3.out.trans (hb.mono (Nat.le_of_lt HO3.out.lt)))
  clear hr hb HG3 HO3 HB3 HP3
  go_wp2_with fail
  refine (modulus_any r Q w4 HR4.out).mono ?_
  rintro e w5 ⟨xa, xl, xc, rfl, hx, hb⟩
  have HX := Lib.hid hx
  have HP5 := Lib.hid (HP4.out.below hb)
  have HG5 := Lib.hid (HG4.out.below hb)
  have HO5 := Lib.hid (HO4.out.below hb HO4.out.lt)
  have HB5 := Lib.hid (HB4.out.trans (hb.mono (Nat.le_of_lt HO4.out.lt)))
  clear hx hb HG4 HO4 HB4 HP4 HR4
  go_wp2_with fail
  refine (num_any xa xl xc Q w5 HX.out HL.out.2.1).mono ?_
  rintro e w6 ⟨qv, rfl, hp, hb⟩
  have HQ6 := Lib.hid hp
  have HP6 := Lib.hid (HP5.out.below hb)
  have HG6 := Lib.hid (HG5.out.below hb)
  have HO6 := Lib.hid (HO5.out.below hb HO5.out.lt)
  have HB6 := Lib.hid (HB5.out.trans (hb.mono (Nat.le_of_lt HO5.out.lt)))
  clear hp hb HG5 HO5 HB5 HX HP5
  go_wp2_with fail
  refine (gg_any g P Q G H sz w6 HG6.out).mono ?_
  rintro e w7 ⟨xa, xl, xc, rfl, hx, hb⟩
  have HX := Lib.hid hx
  have HP7 := Lib.hid (HP6.out.below hb)
  have HQ7 := Lib.hid (HQ6.out.below hb)
  have HG7 := Lib.hid (HG6.out.below hb)
  have HO7 := Lib.hid (HO6.out.below hb HO6.out.lt)
  have HB7 := Lib.hid (HB6.out.trans (hb.mono (Nat.le_of_lt HO6.out.lt)))
  clear hx hb HG6 HO6 HB6 HP6 HQ6
  go_wp2_with fail
  refine (num_any xa xl xc G w7 HX.out HL.out.2.2.1).mono ?_
  rintro e w8 ⟨gv, rfl, hp, hb⟩
  have HV8 := Lib.hid hp
  have HP8 := Lib.hid (HP7.out.below hb)
  have HQ8 := Lib.hid (HQ7.out.below hb)
  have HG8 := Lib.hid (HG7.out.below hb)
  have HO8 := Lib.hid (HO7.out.below hb HO7.out.lt)
  have HB8 := Lib.hid (HB7.out.trans (hb.mono (Nat.le_of_lt HO7.out.lt)))
  clear hp hb HG7 HO7 HB7 HX HP7 HQ7
  go_wp2_with fail
  refine (gh_any g P Q G H sz w8 HG8.out).mono ?_
  rintro e w9 ⟨xa, xl, xc, rfl, hx, hb⟩
  have HX := Lib.hid hx
  have HP9 := Lib.hid (HP8.out.below hb)
  have HQ9 := Lib.hid (HQ8.out.below hb)
  have HV9 := Lib.hid (HV8.out.below hb)
  have HO9 := Lib.hid (HO8.out.below hb HO8.out.lt)
  have HB9 := Lib.hid (HB8.out.trans (hb.mono (Nat.le_of_lt HO8.out.lt)))
  clear hx hb HG8 HO8 HB8 HP8 HQ8 HV8
  go_wp2_with fail
  refine (num_any xa xl xc H w9 HX.out HL.out.2.2.2).mono ?_
  rintro e w10 ⟨hv, rfl, hp, hb⟩
  have HH := hp
  have hP := HP9.out.below hb
  have hQ := HQ9.out.below hb
  have hV := HV9.out.below hb
  have HO := Lib.hid (HO9.out.below hb HO9.out.lt)
  have HB := Lib.hid (HB9.out.trans (hb.mono (Nat.le_of_lt HO9.out.lt)))
  clear hp hb HO9 HB9 HX HP9 HQ9 HV9
  obtain ⟨pa, pc, rfl, _, _, _, _⟩ := id hP
  obtain ⟨qa, qc, rfl, _, _, _, _⟩ := id hQ
  obtain ⟨ga, gc, rfl, _, _, _, _⟩ := id hV
  obtain ⟨ja, jc, rfl, _, _, _, _⟩ := id HH
  obtain ⟨pl, e1⟩ : ∃ pl, Bt.len P = pl := ⟨_, rfl⟩
  obtain ⟨ql, e2⟩ : ∃ ql, Bt.len Q = ql := ⟨_, rfl⟩
  obtain ⟨gl, e3⟩ : ∃ gl, Bt.len G = gl := ⟨_, rfl⟩
  obtain ⟨jl, e4⟩ : ∃ jl, Bt.len H = jl := ⟨_, rfl⟩
  rw [e1] at hP
  rw [e2] at hQ
  rw [e3] at hV
  rw [e4] at HH
  rw [e1, e2, e3, e4]
  have HP := Lib.hid hP
  have HQ := Lib.hid hQ
  have HV := Lib.hid hV
  have HJ := Lib.hid HH
  have c0 := HO.out.cell 0
  have c1 := HO.out.cell 1
  have c2 := HO.out.cell 2
  have c3 := HO.out.cell 3
  have f0 := HO.out.frozen 0
  have f1 := HO.out.frozen 1
  have f2 := HO.out.frozen 2
  have f3 := HO.out.frozen 3
  simp only [List.getElem?_cons_zero, List.getElem?_cons_succ] at c0 c1 c2 c3
  clear hP hQ hV HH e1 e2 e3 e4
  go_wp2_with fail
  have hB1 := HO.out.set 0 (.slice pa pl pc)
  have hB2 := hB1.set 1 (.slice qa ql qc)
  have hB3 := hB2.set 2 (.slice ga gl gc)
  have hB4 := hB3.set 3 (.slice ja jl jc)
  have hst : ∀ {u : Value} {m : Nat}, BN w10 u m → BN ((((w10.setCell ⟨s, 0, none⟩ (.slice pa pl pc)).setCell ⟨s, 1, none⟩ (.slice qa ql qc)).setCell ⟨s, 2, none⟩ (.slice ga gl gc)).setCell ⟨s, 3, none⟩ (.slice ja jl jc)) u m := fun h => by
    have k1 : ∀ (w : World) (cs : List Value) (o : Nat) (v : Value) {u : Value} {m : Nat}, Blk w s 62 cs → BN w u m → BN (w.setCell ⟨s, o, none⟩ v) u m := fun w cs o v {u m} hB h => h.same fun k hk => heap_setCell_other _ _ _ _ (hk.ne hB (by decide))
    exact k1 _ _ _ _ hB3 (k1 _ _ _ _ hB2 (k1 _ _ _ _ hB1 (k1 _ _ _ _ HO.out h)))
  exact ret_bg rfl rfl hB4 ⟨_, rfl, ⟨pa, pl, pc, qa, ql, qc, ga, gl, gc, ja, jl, jc, rfl, hst HP.out, hst HQ.out, hst HV.out, hst HJ.out⟩, HS.out ▸ (((HB.out.setCell (p := ⟨s, 0, none⟩) (Nat.le_refl s) _).setCell (p := ⟨s, 1, none⟩) (Nat.le_refl s) _).setCell (p := ⟨s, 2, none⟩) (Nat.le_refl s) _).setCell (p := ⟨s, 3, none⟩) (Nat.le_refl s) _⟩

theorem evalx_drop {P x i : Nat} {c : List Nat} (h : i < c.length) : evalx P (c.drop i) x = evalx P (c.drop (i + 1)) x ^ x % P * c.getD i 0 % P := by
  rw [List.drop_eq_getElem_cons h]
  have : c.getD i 0 = c[i] := by rw [List.getD_eq_getElem?_getD, List.getElem?_eq_getElem h]; rfl
  rw [this]; rfl

set_option maxRecDepth 100000 in
set_option maxHeartbeats 4000000 in
theorem bevalx_any (g v u : Value) (P Q G H x : Nat) (p : List Nat) (w : World) (hg : BG w g P Q G H) (hv : BRow w v p) (hu : BN w u x) (hP0 : 0 < P) (hL : Bt.len P ≤ 400) (hQ0 : 0 < Q) (hLQ : Bt.len Q ≤ 400) (hps : ∀ a ∈ p, Bt.len a ≤ 400) (hc : (p.length : Int) ≤ 10000) :
    Calls Try.prog 44 #[g, v, u] w (RetB (evalx P p (x % Q)) w) := by
  obtain ⟨pa, pl, pc, qa, ql, qc, ga, gl, gc, ja, jl, jc, rfl, hP, hQ, hG, hH⟩ := hg
  have hbA := (Below.refl _ w).alloc (Nat.le_refl _) (Obj.cells #[Value.slice pa pl pc, Value.slice qa ql qc, Value.slice ga gl gc, Value.slice ja jl jc] 62)
  have hB : Blk (w.alloc (Obj.cells #[Value.slice pa pl pc, Value.slice qa ql qc, Value.slice ga gl gc, Value.slice ja jl jc] 62)) w.heap.size 62 [.slice pa pl pc, .slice qa ql qc, .slice ga gl gc, .slice ja jl jc] := Blk.new w _ _
  obtain ⟨s, hs⟩ : ∃ s, s = w.heap.size := ⟨_, rfl⟩
  rw [← hs] at hB
  have HP1 := Lib.hid (hP.below hbA)
  have HQ1 := Lib.hid (hQ.below hbA)
  have HG1 := Lib.hid (hG.below hbA)
  have HH1 := Lib.hid (hH.below hbA)
  have HB1 := Lib.hid hbA
  clear hP hQ hG hH hbA
  have HV1 := Lib.hid (hv.below HB1.out)
  have HU1 := Lib.hid (hu.below HB1.out)
  obtain ⟨len, hlen⟩ : ∃ len, p.length = len := ⟨_, rfl⟩
  obtain ⟨a, cap, rfl, hcap⟩ := hv.form
  have HLN := Lib.hid hlen
  have HPS := Lib.hid hps
  rw [hlen] at HV1 hcap hc ⊢
  have hcap' : (len : Int) ≤ cap := by omega
  clear hv hu hlen hps
  go_enter Try.func44, Try.ntmps44
  go_wp2_with fail
  rw [← hs]
  clear hs
  generalize w.alloc (Obj.cells #[Value.slice pa pl pc, Value.slice qa ql qc, Value.slice ga gl gc, Value.slice ja jl jc] 62) = w1 at hB HP1 HQ1 HG1 HH1 HB1 HV1 HU1 ⊢
  have gP : ∀ w', BB w1 w' → w'.cell? ⟨s, 0, none⟩ = some (.slice pa pl pc) := fun w' hb => (BB.cell hb hB.lt).trans (hB.cell 0)
  have gQ : ∀ w', BB w1 w' → w'.cell? ⟨s, 1, none⟩ = some (.slice qa ql qc) := fun w' hb => (BB.cell hb hB.lt).trans (hB.cell 1)
  have gG : ∀ w', BB w1 w' → w'.cell? ⟨s, 2, none⟩ = some (.slice ga gl gc) := fun w' hb => (BB.cell hb hB.lt).trans (hB.cell 2)
  have gH : ∀ w', BB w1 w' → w'.cell? ⟨s, 3, none⟩ = some (.slice ja jl jc) := fun w' hb => (BB.cell hb hB.lt).trans (hB.cell 3)
  clear hB
  refine (bsmall_any 1 w1 (by decide)).mono ?_
  rintro e w2 ⟨o, rfl, ho, hb⟩
  have HO2 := Lib.hid ho
  have hbb2 : BB w1 w2 := hb
  have cQ := gQ w2 hbb2
  clear ho hb
  go_wp2_with fail
  refine (rof_any u (.slice qa ql qc) x Q w2 (HU1.out.below hbb2) (HQ1.out.below hbb2) hQ0 (by omega)).mono ?_
  rintro e w3 ⟨xv, rfl, hx, hb⟩
  have HX3 := Lib.hid hx
  have HO3 := Lib.hid (HO2.out.below hb)
  have hbb3 : BB w1 w3 := BB.step hbb2 hb
  obtain ⟨xq, hxq⟩ : ∃ xq, x % Q = xq := ⟨_, rfl⟩
  rw [hxq] at HX3 ⊢
  have HXQ := Lib.hid hxq
  clear hx hb HO2 cQ hxq
  go_wp2_with fail
  go_loopw [7, 8] (fun ov iv wr => ∃ (j : Nat) (z : Value), z = ov ∧ j ≤ len ∧ iv = .int .i64 ((j : Int) - 1) ∧ Hid (BN wr z (evalx P (p.drop j) xq)) ∧ Hid (BB w3 wr)) (fun _ iv _ => ((intOf iv) + 1).toNat)
  case atStart => exact ⟨len, _, rfl, Nat.le_refl _, rfl, (by rw [List.drop_eq_nil_of_le (by rw [HLN.out]; exact Nat.le_refl _)]; exact HO3.out), BB.refl _⟩
  case round =>
    clear HO3
    obtain ⟨j, z, rfl, hj, rfl, HZ, HBR⟩ := hrel
    by_cases hj0 : j = 0
    · subst hj0
      rw [List.drop_zero] at HZ
      go_wp2_with fail
      go_ret
      exact ⟨z, rfl, (by first | exact HZ.out | (rw [HXQ.out]; exact HZ.out)), HB1.out.trans (Below.mono (BB.step hbb3 HBR.out) HB1.out.size)⟩
    · obtain ⟨i, rfl⟩ : ∃ i, j = i + 1 := ⟨j - 1, by omega⟩
      rw [show (((i + 1 : Nat) : Int) - 1) = (i : Int) by omega]
      have hil : i < p.length := by rw [HLN.out]; omega
      have hst := evalx_drop (P := P) (x := xq) hil
      have hbr : BB w1 wr := BB.step hbb3 HBR.out
      obtain ⟨ad, ca, cl, cc, rfl, gC, nC⟩ := (HV1.out.below hbr).get hil
      obtain ⟨c, hcx⟩ : ∃ c, p.getD i 0 = c := ⟨_, rfl⟩
      have hcl : Bt.len c ≤ 400 := by rw [← hcx, List.getD_eq_getElem?_getD, List.getElem?_eq_getElem hil]; exact HPS.out _ (List.getElem_mem hil)
      rw [hcx] at nC hst
      obtain ⟨o, ho⟩ : ∃ o, evalx P (p.drop (i + 1)) xq = o := ⟨_, rfl⟩
      rw [ho] at hst HZ
      have HC := Lib.hid nC
      have HST := Lib.hid hst
      have HCL := Lib.hid hcl
      have hP1 : ∀ w', BB wr w' → w'.cell? ⟨s, 0, none⟩ = some (.slice pa pl pc) := fun w' h => gP w' (BB.step hbr h)
      have hQ1 : ∀ w', BB wr w' → w'.cell? ⟨s, 1, none⟩ = some (.slice qa ql qc) := fun w' h => gQ w' (BB.step hbr h)
      have hG1 : ∀ w', BB wr w' → w'.cell? ⟨s, 2, none⟩ = some (.slice ga gl gc) := fun w' h => gG w' (BB.step hbr h)
      have hH1 : ∀ w', BB wr w' → w'.cell? ⟨s, 3, none⟩ = some (.slice ja jl jc) := fun w' h => gH w' (BB.step hbr h)
      have HBG : Hid (∀ w', BB wr w' → BG w' (.agg #[.slice pa pl pc, .slice qa ql qc, .slice ga gl gc, .slice ja jl jc]) P Q G H) := fun w' h => ⟨pa, pl, pc, qa, ql, qc, ga, gl, gc, ja, jl, jc, rfl, HP1.out.below (BB.step hbr h), HQ1.out.below (BB.step hbr h), HG1.out.below (BB.step hbr h), HH1.out.below (BB.step hbr h)⟩
      have HXR := Lib.hid (HX3.out.below HBR.out)
      have b0 : (0 : Int) ≤ (i : Int) := by omega
      have b1 : (i : Int) < (len : Int) := by omega
      have b2 : (i : Int) ≤ (cap : Int) := by omega
      clear hcx hcl nC hst ho hil hj0
      go_wp2_with fail
      go_region_held3 (fun w' => BB wr w') (first | assumption | exact BB.drew (BB.refl _))
        (first
          | (go_at_call 103; refine (bgmul_any _ y5 (.slice ca cl cc) P Q G H (o ^ xq % P) c w5 (HBG.out w5 hbb5) HE5.out (HC.out.below hbb5) hP0 hL (Nat.le_trans (len_mod _ hP0) hL) HCL.out).mono ?_; rintro e w6 ⟨y6, rfl, hy, hb6⟩; have hbb6 : BB wr w6 := BB.step hbb5 hb6; have HY6 := Lib.hid hy; clear hy hb6)
          | (go_at_call 50; refine (bgexp_any _ z xv P Q G H o xq wr.drew (HBG.out _ (BB.drew (BB.refl _))) (HZ.out.below (BB.drew (BB.refl _))) (HXR.out.below (BB.drew (BB.refl _))) hP0 hL).mono ?_; rintro e w5 ⟨y5, rfl, hy, hb5⟩; have hbb5 : BB wr w5 := BB.step (BB.drew (BB.refl wr)) hb5; have HE5 := Lib.hid hy; clear hy hb5))
      go_wp2_with fail
      go_roundw
      case rel => exact ⟨i, _, rfl, by omega, rfl, HST.out.symm ▸ HY6.out, BB.step HBR.out hbb6⟩
      case measure => simp only [intOf]; omega
def tabSA (v0 : Value) (v1 : Value) (v2 : Value) (v3 : Value) (v4 : Value) (v5 : Value) (v6 : Value) (v7 : Value) (v8 : Value) (v9 : Value) : List (Fk KpN) := [.val v0, .val v1, .val v2, .val v3, .val v4, .val v5, .val v6, .val v7, .val v8, .val v9]
def dstSA : List (Option Tmp) := [some 16, some 17, some 18, some 19, some 20, some 21, some 22, some 23, some 24, some 25]
def preSA : List (List Nat) := [[], [], [0, 1], [0, 1, 2], [], [], [4, 5], [4, 5, 6], [0, 1, 2, 3, 4, 5, 6, 7], [0, 1, 2, 3, 4, 5, 6, 7, 8]]
def maskSA : List Bool := [false, false, false, false, false, false, false, false, false, false, false, false, false, false, false, false, true, true, true, true, true, true, true, true, true, true, false]

set_option maxRecDepth 100000 in
set_option maxHeartbeats 4000000 in
theorem same13_any (a : Option Addr) (len cap : Nat) (ns : List Nat) (v : Value) (ms : List Nat) (w : World) (h : NatsAt w a ns) (hl : ns.length = len) (hcc : (len : Int) ≤ cap) (hc : (len : Int) ≤ 10000) (hv : BRow w v ms) :
    Calls Try.prog 55 #[.slice a len cap, v] w fun e w' => e = .returned (.bool (decide (ns = ms))) ∧ Below w.heap.size w w' := by
  have HA := Lib.hid h
  have HV := Lib.hid hv
  have HL := Lib.hid hl
  obtain ⟨b, capb, rfl, hcb⟩ := hv.form
  obtain ⟨lenb, hlb⟩ : ∃ lenb, ms.length = lenb := ⟨_, rfl⟩
  have HLB := Lib.hid hlb
  rw [hlb] at HV hcb ⊢
  clear h hl hv hlb
  by_cases hne : lenb = len
  · obtain rfl : len = lenb := hne.symm
    have hn1 : ((len : Int) != (len : Int)) = false := by simp
    have hcb' : (len : Int) ≤ capb := by omega
    go_enter Try.func55, Try.ntmps55
    go_wp2_with fail
    go_loopw [13] (fun iv wr => ∃ i : Nat, (i : Int) ≤ len ∧ iv = .int .i64 (i : Int) ∧ Hid (∀ j, j < i → ns.getD j 0 = ms.getD j 0) ∧ Hid (Below w.heap.size w wr)) (fun iv _ => len - (intOf iv).toNat)
    case atStart => exact ⟨0, by omega, rfl, (fun j h => by omega), Below.refl _ _⟩
    case round =>
      obtain ⟨i, hi, rfl, HM, HB⟩ := hrel
      by_cases hlt : (i : Int) < len
      · obtain ⟨ad, xa, xl, xc, rfl, he, cx, nx⟩ := (HA.out.below HB.out).get (k := i) (by rw [HL.out]; omega)
        obtain ⟨bd, ya, yl, yc, rfl, gY, ny⟩ := (HV.out.below HB.out).get (j := i) (by rw [HLB.out]; omega)
        have gX : ∀ w', BB wr w' → w'.cell? (ad.add i) = some (.slice xa xl xc) := fun w' hb => (BB.cell hb (by rw [block_add]; exact he.lt)).trans cx
        obtain ⟨x, hx⟩ : ∃ x, ns.getD i 0 = x := ⟨_, rfl⟩
        obtain ⟨y, hy⟩ : ∃ y, ms.getD i 0 = y := ⟨_, rfl⟩
        rw [hx] at nx
        rw [hy] at ny
        have HX := Lib.hid hx
        have HY := Lib.hid hy
        have NX := Lib.hid nx
        have NY := Lib.hid ny
        have b0 : (0 : Int) ≤ (i : Int) := by omega
        have b2 : (i : Int) ≤ (cap : Int) := by omega
        have b3 : (i : Int) ≤ (capb : Int) := by omega
        clear he cx nx ny hx hy
        go_wp2_with fail
        refine wp_region_mix (fun _ w' => BB wr w') (GF (tabSA (.slice (some ad) len cap) (.int .i64 (i : Int)) (.pointer (some (ad.add i))) (.agg #[.slice xa xl xc]) (.slice (some bd) len capb) (.int .i64 (i : Int)) (.pointer (some (bd.add i))) (.slice ya yl yc) (.bool (decide (x = y))) (.bool (!decide (x = y))))) maskSA dstSA preSA (by kernel_rfl) (by kernel_rfl) rfl (by kernel_rfl) (by kernel_rfl) (by kernel_rfl) (by kernel_rfl) (BB.drew (BB.refl _)) ?_ ?_
        · refine StepsM.cons (fun l g' wu hB hl hn hp K hK => ?_) ?_
          · simp only [mkM, maskSA, mixM, Nat.reduceAdd] at hK ⊢; simp only [Act.put, List.setIfInBounds_toArray, List.set_cons_zero, List.set_cons_succ] at hK; go_simp; exact hK.out _ _ hB GF.same rfl
          refine StepsM.cons (fun l g' wu hB hl hn hp K hK => ?_) ?_
          · simp only [mkM, maskSA, mixM, Nat.reduceAdd] at hK ⊢; simp only [Act.put, List.setIfInBounds_toArray, List.set_cons_zero, List.set_cons_succ] at hK; go_simp; exact hK.out _ _ hB GF.same rfl
          refine StepsM.cons (fun l g' wu hB hl hn hp K hK => ?_) ?_
          · have e0 : g' 16 = .slice (some ad) len cap := (hp 0 (by decide)).2; have e1 : g' 17 = .int .i64 (i : Int) := (hp 1 (by decide)).2; simp only [mkM, maskSA, mixM, Nat.reduceAdd, e0, e1] at hK ⊢; clear e0 e1; simp only [Act.put, List.setIfInBounds_toArray, List.set_cons_zero, List.set_cons_succ] at hK; go_simp; exact hK.out _ _ hB GF.same rfl
          refine StepsM.cons (fun l g' wu hB hl hn hp K hK => ?_) ?_
          · have hbb := hB; have e2 : g' 18 = .pointer (some (ad.add i)) := (hp 2 (by decide)).2; have hc := gX _ hbb; simp only [mkM, maskSA, mixM, Nat.reduceAdd, e2] at hK ⊢; clear e2; simp only [Act.put, List.setIfInBounds_toArray, List.set_cons_zero, List.set_cons_succ] at hK; go_simp; exact hK.out _ _ hB GF.same rfl
          refine StepsM.cons (fun l g' wu hB hl hn hp K hK => ?_) ?_
          · simp only [mkM, maskSA, mixM, Nat.reduceAdd] at hK ⊢; simp only [Act.put, List.setIfInBounds_toArray, List.set_cons_zero, List.set_cons_succ] at hK; go_simp; exact hK.out _ _ hB GF.same rfl
          refine StepsM.cons (fun l g' wu hB hl hn hp K hK => ?_) ?_
          · simp only [mkM, maskSA, mixM, Nat.reduceAdd] at hK ⊢; simp only [Act.put, List.setIfInBounds_toArray, List.set_cons_zero, List.set_cons_succ] at hK; go_simp; exact hK.out _ _ hB GF.same rfl
          refine StepsM.cons (fun l g' wu hB hl hn hp K hK => ?_) ?_
          · have e4 : g' 20 = .slice (some bd) len capb := (hp 4 (by decide)).2; have e5 : g' 21 = .int .i64 (i : Int) := (hp 5 (by decide)).2; simp only [mkM, maskSA, mixM, Nat.reduceAdd, e4, e5] at hK ⊢; clear e4 e5; simp only [Act.put, List.setIfInBounds_toArray, List.set_cons_zero, List.set_cons_succ] at hK; go_simp; exact hK.out _ _ hB GF.same rfl
          refine StepsM.cons (fun l g' wu hB hl hn hp K hK => ?_) ?_
          · have hbb := hB; have e6 : g' 22 = .pointer (some (bd.add i)) := (hp 6 (by decide)).2; have hc := gY _ hbb; simp only [mkM, maskSA, mixM, Nat.reduceAdd, e6] at hK ⊢; clear e6; simp only [Act.put, List.setIfInBounds_toArray, List.set_cons_zero, List.set_cons_succ] at hK; go_simp; exact hK.out _ _ hB GF.same rfl
          refine StepsM.cons (fun l g' wu hB hl hn hp K hK => ?_) ?_
          · have hbb := hB; have e3 : g' 19 = .agg #[.slice xa xl xc] := (hp 3 (by decide)).2; have e7 : g' 23 = .slice ya yl yc := (hp 7 (by decide)).2; simp only [mkM, maskSA, mixM, Nat.reduceAdd, e3, e7] at hK ⊢; clear e3 e7; simp only [Act.put, List.setIfInBounds_toArray, List.set_cons_zero, List.set_cons_succ] at hK; go_simp; go_at_call 36; refine (same_any xa xl xc x _ y _ (NX.out.below hbb) (NY.out.below hbb)).mono ?_; rintro e w7 ⟨rfl, hb⟩; go_wp2_with fail; exact hK.out _ _ (BB.step hbb hb) (GF.below hb) rfl
          refine StepsM.cons (fun l g' wu hB hl hn hp K hK => ?_) ?_
          · have e8 : g' 24 = .bool (decide (x = y)) := (hp 8 (by decide)).2; simp only [mkM, maskSA, mixM, Nat.reduceAdd, e8] at hK ⊢; clear e8; simp only [Act.put, List.setIfInBounds_toArray, List.set_cons_zero, List.set_cons_succ] at hK; go_simp; exact hK.out _ _ hB GF.same rfl
          exact StepsM.nil
        · intro l g' wu hall hB hG
          have e9 : g' 25 = .bool (!decide (x = y)) := hG 9 (by decide)
          have HBU := Lib.hid (HB.out.trans (Below.mono hB HB.out.size))
          simp only [mkM, maskSA, mixM, Nat.reduceAdd, e9]
          clear hG hall e9
          by_cases hxy : x = y
          · have HXY := Lib.hid hxy
            have hd : decide (x = y) = true := decide_eq_true hxy
            rw [hd]
            clear hxy hd
            go_wp2_with fail
            go_roundw
            case rel => exact ⟨i + 1, by omega, by go_num, (fun j hj => by
              rcases Nat.lt_or_ge j i with h5 | h5
              · exact HM.out j h5
              · obtain rfl : j = i := by omega
                rw [HX.out, HY.out]; exact HXY.out), HBU.out⟩
            case measure => simp [intOf]; omega
          · have HXY := Lib.hid hxy
            have hd : decide (x = y) = false := decide_eq_false hxy
            rw [hd]
            clear hxy hd
            go_wp2_with fail
            go_ret
            exact ⟨ret_bool (decide_eq_false (fun h => HXY.out (by rw [← HX.out, ← HY.out, h]))).symm, HBU.out⟩
      · have hi' : i = len := by omega
        obtain rfl : len = i := hi'.symm
        go_wp2_with fail
        go_ret
        refine ⟨ret_bool (decide_eq_true (List.ext_getElem (by rw [HL.out, HLB.out]) (fun j h1 h2 => ?_))).symm, HB.out⟩
        have := HM.out j (by rw [← HL.out]; exact h1)
        simpa [List.getD_eq_getElem?_getD, h1, h2] using this
  · have hn1 : ((len : Int) != (lenb : Int)) = true := by rw [bne_iff_ne]; omega
    have HNE := Lib.hid hne
    clear hne
    go_enter Try.func55, Try.ntmps55
    go_wp2_with fail
    go_ret
    exact ⟨ret_bool (decide_eq_false (fun h => HNE.out (by rw [← HLB.out, ← HL.out, h]))).symm, Below.refl _ _⟩
end Go.Proofs.Ythefednendgclaa
/-
  Member of whatever number; Members of whatever row.
-/
namespace Go.Proofs.Ythefednendgclaa
open Go Go.RowKit Sac

theorem cmp_dge {n m : Nat} (h : m ≤ n) : decide (cmpNat n m < 0) = false := by
  rw [decide_eq_false_iff_not]; unfold cmpNat; rw [if_neg (by omega)]; split <;> decide
def tabMEA (v0 : Value) (v1 : Value) (v2 : Value) (v3 : Value) (v4 : Value) (v5 : Value) (v6 : Value) (v7 : Value) (v8 : Value) (v9 : Value) (v10 : Value) (v11 : Value) (v12 : Value) (v13 : Value) (v14 : Value) (v15 : Value) (v16 : Value) (v17 : Value) (v18 : Value) (v19 : Value) (v20 : Value) (v21 : Value) (v22 : Value) (v23 : Value) (v24 : Value) (v25 : Value) (v26 : Value) (v27 : Value) (v28 : Value) (v29 : Value) (v30 : Value) : List (Fk KpN) := [.val v0, .val v1, .val v2, .val v3, .val v4, .val v5, .val v6, .val v7, .val v8, .val v9, .val v10, .val v11, .val v12, .val v13, .val v14, .val v15, .val v16, .val v17, .val v18, .val v19, .val v20, .val v21, .val v22, .val v23, .val v24, .val v25, .val v26, .val v27, .val v28, .val v29, .val v30]
def dstMEA : List (Option Tmp) := [some 5, some 6, some 7, some 8, some 9, some 10, some 11, some 12, some 13, some 14, some 15, some 16, some 17, some 18, some 19, some 20, some 21, some 22, some 23, some 24, some 25, some 26, some 27, some 28, some 29, some 30, some 31, some 32, some 33, some 34, some 4]
def preMEA : List (List Nat) := [[], [0], [0, 1], [0, 1, 2], [0, 1, 2, 3], [0, 1, 2, 3, 4], [0, 1, 2, 3, 4, 5], [0, 1, 2, 3, 4, 5, 6], [0, 1, 2, 3, 4, 5, 6, 7], [0, 1, 2, 3, 4, 5, 6, 7], [0, 1, 2, 3, 4, 5, 6, 7, 9], [0, 1, 2, 3, 4, 5, 6, 7, 8, 9, 10], [0, 1, 2, 3, 4, 5, 6, 7, 8, 9, 10, 11], [0, 1, 2, 3, 4, 5, 6, 7, 8, 9, 10, 11, 12], [0, 1, 2, 3, 4, 5, 6, 7, 8, 9, 10, 11, 12, 13], [0, 1, 2, 3, 4, 5, 6, 7, 8, 9, 10, 11, 12, 13, 14], [0, 1, 2, 3, 4, 5, 6, 7, 8, 9, 10, 11, 12, 13, 14, 15], [0, 1, 2, 3, 4, 5, 6, 7, 8, 9, 10, 11, 12, 13, 14, 15, 16], [0, 1, 2, 3, 4, 5, 6, 7, 8, 9, 10, 11, 12, 13, 14, 15, 16, 17], [0, 1, 2, 3, 4, 5, 6, 7, 8, 9, 10, 11, 12, 13, 14], [0, 1, 2, 3, 4, 5, 6, 7, 8, 9, 10, 11, 12, 13, 14], [0, 1, 2, 3, 4, 5, 6, 7, 8, 9, 10, 11, 12, 13, 14, 20], [0, 1, 2, 3, 4, 5, 6, 7, 8, 9, 10, 11, 12, 13, 14, 20, 21], [0, 1, 2, 3, 4, 5, 6, 7, 8, 9, 10, 11, 12, 13, 14, 20, 21, 22], [0, 1, 2, 3, 4, 5, 6, 7, 8, 9, 10, 11, 12, 13, 14, 20, 21, 22, 23], [0, 1, 2, 3, 4, 5, 6, 7, 8, 9, 10, 11, 12, 13, 14, 15, 16, 17, 18, 19, 20, 21, 22, 23, 24], [0, 1, 2, 3, 4, 5, 6, 7, 8, 9, 10, 11, 12, 13, 14, 15, 16, 17, 18, 19, 20, 21, 22, 23, 24, 25], [0, 1, 2, 3, 4, 5, 6, 7, 8, 9, 10, 11, 12, 13, 14, 15, 16, 17, 18, 19, 20, 21, 22, 23, 24, 25, 26], [0, 1, 2, 3, 4, 5, 6, 7, 8, 9, 10, 11, 12, 13, 14, 15, 16, 17, 18, 19, 20, 21, 22, 23, 24, 25, 26, 27], [0, 1, 2, 3, 4, 5, 6, 7, 8, 9, 10, 11, 12, 13, 14, 15, 16, 17, 18, 19, 20, 21, 22, 23, 24, 25, 26, 27, 28], [0, 1, 2, 3, 4, 5, 6, 7, 8, 9, 10, 11, 12, 13, 14, 15, 16, 17, 18, 19, 20, 21, 22, 23, 24, 25, 26, 27, 28, 29]]
def maskMEA : List Bool := [false, false, false, false, true, true, true, true, true, true, true, true, true, true, true, true, true, true, true, true, true, true, true, true, true, true, true, true, true, true, true, true, true, true, true]
def tabMEB (v0 : Value) (v1 : Value) (v2 : Value) (v3 : Value) (v4 : Value) (v5 : Value) (v6 : Value) (v7 : Value) (v8 : Value) (v9 : Value) (n10 : Nat) (v11 : Value) (v12 : Value) (v13 : Value) (v14 : Value) (v15 : Value) (v16 : Value) (v17 : Value) (v18 : Value) (v19 : Value) (v20 : Value) (v21 : Value) (v22 : Value) (v23 : Value) (v24 : Value) (v25 : Value) (v26 : Value) (v27 : Value) (v28 : Value) (v29 : Value) (v30 : Value) : List (Fk KpN) := [.val v0, .val v1, .val v2, .val v3, .val v4, .val v5, .val v6, .val v7, .val v8, .val v9, Fk.nat (fun _ _ h => h) n10, .val v11, .val v12, .val v13, .val v14, .val v15, .val v16, .val v17, .val v18, .val v19, .val v20, .val v21, .val v22, .val v23, .val v24, .val v25, .val v26, .val v27, .val v28, .val v29, .val v30]
def dstMEB : List (Option Tmp) := [some 5, some 6, some 7, some 8, some 9, some 10, some 11, some 12, some 13, some 14, some 15, some 16, some 17, some 18, some 19, some 20, some 21, some 22, some 23, some 24, some 25, some 26, some 27, some 28, some 29, some 30, some 31, some 32, some 33, some 34, some 4]
def preMEB : List (List Nat) := [[], [0], [0, 1], [0, 1, 2], [0, 1, 2, 3], [0, 1, 2, 3, 4], [0, 1, 2, 3, 4, 5], [0, 1, 2, 3, 4, 5, 6], [0, 1, 2, 3, 4, 5, 6, 7], [0, 1, 2, 3, 4, 5, 6, 7], [0, 1, 2, 3, 4, 5, 6, 7, 9], [0, 1, 2, 3, 4, 5, 6, 7, 8, 9, 10], [0, 1, 2, 3, 4, 5, 6, 7, 8, 9, 10, 11], [0, 1, 2, 3, 4, 5, 6, 7, 8, 9, 10, 11, 12], [0, 1, 2, 3, 4, 5, 6, 7, 8, 9, 10, 11, 12, 13], [0, 1, 2, 3, 4, 5, 6, 7, 8, 9, 10, 11, 12, 13, 14], [0, 1, 2, 3, 4, 5, 6, 7, 8, 9, 10, 11, 12, 13, 14, 15], [0, 1, 2, 3, 4, 5, 6, 7, 8, 9, 10, 11, 12, 13, 14, 15, 16], [0, 1, 2, 3, 4, 5, 6, 7, 8, 9, 10, 11, 12, 13, 14, 15, 16, 17], [0, 1, 2, 3, 4, 5, 6, 7, 8, 9, 10, 11, 12, 13, 14], [0, 1, 2, 3, 4, 5, 6, 7, 8, 9, 10, 11, 12, 13, 14], [0, 1, 2, 3, 4, 5, 6, 7, 8, 9, 10, 11, 12, 13, 14, 20], [0, 1, 2, 3, 4, 5, 6, 7, 8, 9, 10, 11, 12, 13, 14, 20, 21], [0, 1, 2, 3, 4, 5, 6, 7, 8, 9, 10, 11, 12, 13, 14, 20, 21, 22], [0, 1, 2, 3, 4, 5, 6, 7, 8, 9, 10, 11, 12, 13, 14, 20, 21, 22, 23], [0, 1, 2, 3, 4, 5, 6, 7, 8, 9, 10, 11, 12, 13, 14, 15, 16, 17, 18, 19, 20, 21, 22, 23, 24], [0, 1, 2, 3, 4, 5, 6, 7, 8, 9, 10, 11, 12, 13, 14, 15, 16, 17, 18, 19, 20, 21, 22, 23, 24, 25], [0, 1, 2, 3, 4, 5, 6, 7, 8, 9, 10, 11, 12, 13, 14, 15, 16, 17, 18, 19, 20, 21, 22, 23, 24, 25, 26], [0, 1, 2, 3, 4, 5, 6, 7, 8, 9, 10, 11, 12, 13, 14, 15, 16, 17, 18, 19, 20, 21, 22, 23, 24, 25, 26, 27], [0, 1, 2, 3, 4, 5, 6, 7, 8, 9, 10, 11, 12, 13, 14, 15, 16, 17, 18, 19, 20, 21, 22, 23, 24, 25, 26, 27, 28], [0, 1, 2, 3, 4, 5, 6, 7, 8, 9, 10, 11, 12, 13, 14, 15, 16, 17, 18, 19, 20, 21, 22, 23, 24, 25, 26, 27, 28, 29]]
def maskMEB : List Bool := [false, false, false, false, true, true, true, true, true, true, true, true, true, true, true, true, true, true, true, true, true, true, true, true, true, true, true, true, true, true, true, true, true, true, true]
def tabMEC (v0 : Value) (v1 : Value) (v2 : Value) (v3 : Value) (v4 : Value) (v5 : Value) (v6 : Value) (v7 : Value) (v8 : Value) (v9 : Value) (n10 : Nat) (v11 : Value) (v12 : Value) (v13 : Value) (v14 : Value) (v15 : Value) (v16 : Value) (v17 : Value) (v18 : Value) (v19 : Value) (v20 : Value) (v21 : Value) (v22 : Value) (v23 : Value) (n24 : Nat) (n25 : Nat) (n26 : Nat) (v27 : Value) (v28 : Value) (v29 : Value) (v30 : Value) : List (Fk KpN) := [.val v0, .val v1, .val v2, .val v3, .val v4, .val v5, .val v6, .val v7, .val v8, .val v9, Fk.nat (fun _ _ h => h) n10, .val v11, .val v12, .val v13, .val v14, .val v15, .val v16, .val v17, .val v18, .val v19, .val v20, .val v21, .val v22, .val v23, Fk.nat (fun _ _ h => h) n24, Fk.nat (fun _ _ h => h) n25, Fk.nat (fun _ _ h => h) n26, .val v27, .val v28, .val v29, .val v30]
def dstMEC : List (Option Tmp) := [some 5, some 6, some 7, some 8, some 9, some 10, some 11, some 12, some 13, some 14, some 15, some 16, some 17, some 18, some 19, some 20, some 21, some 22, some 23, some 24, some 25, some 26, some 27, some 28, some 29, some 30, some 31, some 32, some 33, some 34, some 4]
def preMEC : List (List Nat) := [[], [0], [0, 1], [0, 1, 2], [0, 1, 2, 3], [0, 1, 2, 3, 4], [0, 1, 2, 3, 4, 5], [0, 1, 2, 3, 4, 5, 6], [0, 1, 2, 3, 4, 5, 6, 7], [0, 1, 2, 3, 4, 5, 6, 7], [0, 1, 2, 3, 4, 5, 6, 7, 9], [0, 1, 2, 3, 4, 5, 6, 7, 8, 9, 10], [0, 1, 2, 3, 4, 5, 6, 7, 8, 9, 10, 11], [0, 1, 2, 3, 4, 5, 6, 7, 8, 9, 10, 11, 12], [0, 1, 2, 3, 4, 5, 6, 7, 8, 9, 10, 11, 12, 13], [0, 1, 2, 3, 4, 5, 6, 7, 8, 9, 10, 11, 12, 13, 14], [0, 1, 2, 3, 4, 5, 6, 7, 8, 9, 10, 11, 12, 13, 14, 15], [0, 1, 2, 3, 4, 5, 6, 7, 8, 9, 10, 11, 12, 13, 14, 15, 16], [0, 1, 2, 3, 4, 5, 6, 7, 8, 9, 10, 11, 12, 13, 14, 15, 16, 17], [0, 1, 2, 3, 4, 5, 6, 7, 8, 9, 10, 11, 12, 13, 14], [0, 1, 2, 3, 4, 5, 6, 7, 8, 9, 10, 11, 12, 13, 14], [0, 1, 2, 3, 4, 5, 6, 7, 8, 9, 10, 11, 12, 13, 14, 20], [0, 1, 2, 3, 4, 5, 6, 7, 8, 9, 10, 11, 12, 13, 14, 20, 21], [0, 1, 2, 3, 4, 5, 6, 7, 8, 9, 10, 11, 12, 13, 14, 20, 21, 22], [0, 1, 2, 3, 4, 5, 6, 7, 8, 9, 10, 11, 12, 13, 14, 20, 21, 22, 23], [0, 1, 2, 3, 4, 5, 6, 7, 8, 9, 10, 11, 12, 13, 14, 15, 16, 17, 18, 19, 20, 21, 22, 23, 24], [0, 1, 2, 3, 4, 5, 6, 7, 8, 9, 10, 11, 12, 13, 14, 15, 16, 17, 18, 19, 20, 21, 22, 23, 24, 25], [0, 1, 2, 3, 4, 5, 6, 7, 8, 9, 10, 11, 12, 13, 14, 15, 16, 17, 18, 19, 20, 21, 22, 23, 24, 25, 26], [0, 1, 2, 3, 4, 5, 6, 7, 8, 9, 10, 11, 12, 13, 14, 15, 16, 17, 18, 19, 20, 21, 22, 23, 24, 25, 26, 27], [0, 1, 2, 3, 4, 5, 6, 7, 8, 9, 10, 11, 12, 13, 14, 15, 16, 17, 18, 19, 20, 21, 22, 23, 24, 25, 26, 27, 28], [0, 1, 2, 3, 4, 5, 6, 7, 8, 9, 10, 11, 12, 13, 14, 15, 16, 17, 18, 19, 20, 21, 22, 23, 24, 25, 26, 27, 28, 29]]
def maskMEC : List Bool := [false, false, false, false, true, true, true, true, true, true, true, true, true, true, true, true, true, true, true, true, true, true, true, true, true, true, true, true, true, true, true, true, true, true, true]

set_option maxRecDepth 100000 in
set_option maxHeartbeats 4000000 in
theorem gmember_any (g P Q G H sz : Nat) (a : Option Addr) (len cap n : Nat) (w : World) (h : GroupAt w g P Q G H sz) (hn : NatS w a len n) :
    Calls Try.prog 47 #[.pointer (some ⟨g, 0, none⟩), .agg #[.slice a len cap]] w fun e w' => e = .returned (.bool (decide (IsMember P Q n))) ∧ Below w.heap.size w w' := by
  have hb1 := (Below.refl _ w).alloc (Nat.le_refl _) (Obj.cells #[Value.slice a len cap] 33)
  have hG1 := h.below hb1
  have HG := Lib.hid hG1
  have HN := Lib.hid (hn.below hb1)
  have HB := Lib.hid hb1
  obtain ⟨s, hs⟩ : ∃ s, s = w.heap.size := ⟨_, rfl⟩
  have hbs : Blk (w.alloc (Obj.cells #[Value.slice a len cap] 33)) s 33 [.slice a len cap] := Blk.new' w _ _ s hs
  obtain ⟨rp, rq, ga, gl, gc, ha, hl, hc, hBg, hP, hQ, _, _⟩ := hG1
  have HP := Lib.hid hP
  have HQ := Lib.hid hQ
  have g0 : ∀ w', BB (w.alloc (Obj.cells #[Value.slice a len cap] 33)) w' → w'.cell? ⟨g, 0, none⟩ = some (.pointer (some ⟨rp, 0, none⟩)) := fun w' h => (h.cell hBg.lt).trans (hBg.cell 0)
  have g1 : ∀ w', BB (w.alloc (Obj.cells #[Value.slice a len cap] 33)) w' → w'.cell? ⟨g, 1, none⟩ = some (.pointer (some ⟨rq, 0, none⟩)) := fun w' h => (h.cell hBg.lt).trans (hBg.cell 1)
  have gA : ∀ w', BB (w.alloc (Obj.cells #[Value.slice a len cap] 33)) w' → w'.cell? ⟨s, 0, none⟩ = some (.slice a len cap) := fun w' h => (h.cell hbs.lt).trans (hbs.cell 0)
  clear h hn hb1 hP hQ hBg hbs
  go_enter Try.func47, Try.ntmps47
  go_wp2_with fail
  rw [← hs]
  clear hs
  generalize w.alloc (Obj.cells #[Value.slice a len cap] 33) = w1 at HG HN HB HP HQ g0 g1 gA ⊢
  by_cases hz0 : n = 0
  · have hz : (n == 0) = true := by rw [hz0]; rfl
    have HZ := Lib.hid hz0
    clear hz0
    refine wp_region_mix (fun _ w' => BB w1 w') (GF (tabMEA (.pointer (some ⟨g, 0, none⟩)) (.bool true) (.bool true) (.agg #[.slice a len cap]) (.bool true) (.bool false) (.bool false) (.bool false) (undef) (undef) (undef) (undef) (undef) (.bool false) (.bool false) (undef) (undef) (undef) (undef) (undef) (undef) (undef) (undef) (undef) (undef) (undef) (undef) (undef) (undef) (.bool false) (.bool false))) maskMEA dstMEA preMEA (by kernel_rfl) (by kernel_rfl) rfl (by kernel_rfl) (by kernel_rfl) (by kernel_rfl) (by kernel_rfl) (BB.drew (BB.refl _)) ?_ ?_
    · refine StepsM.cons (fun l g' wu hB hl hn hp K hK => ?_) ?_
      · simp only [mkM, maskMEA, mixM, Nat.reduceAdd] at hK ⊢; simp only [Act.put, List.setIfInBounds_toArray, List.set_cons_zero, List.set_cons_succ] at hK; go_simp; exact hK.out _ _ hB GF.same rfl
      refine StepsM.cons (fun l g' wu hB hl hn hp K hK => ?_) ?_
      · have e0 : g' 5 = .pointer (some ⟨g, 0, none⟩) := (hp 0 (by decide)).2; simp only [mkM, maskMEA, mixM, Nat.reduceAdd, e0] at hK ⊢; clear e0; simp only [Act.put, List.setIfInBounds_toArray, List.set_cons_zero, List.set_cons_succ] at hK; go_simp; exact hK.out _ _ hB GF.same rfl
      refine StepsM.cons (fun l g' wu hB hl hn hp K hK => ?_) ?_
      · have e1 : g' 6 = .bool true := (hp 1 (by decide)).2; simp only [mkM, maskMEA, mixM, Nat.reduceAdd, e1] at hK ⊢; clear e1; simp only [Act.put, List.setIfInBounds_toArray, List.set_cons_zero, List.set_cons_succ] at hK; go_simp; exact hK.out _ _ hB GF.same rfl
      refine StepsM.cons (fun l g' wu hB hl hn hp K hK => ?_) ?_
      · have hbb := hB; have e2 : g' 7 = .bool true := (hp 2 (by decide)).2; have hc := gA _ hbb; simp only [mkM, maskMEA, mixM, Nat.reduceAdd, e2] at hK ⊢; clear e2; simp only [Act.put, List.setIfInBounds_toArray, List.set_cons_zero, List.set_cons_succ] at hK; go_simp; exact hK.out _ _ hB GF.same rfl
      refine StepsM.cons (fun l g' wu hB hl hn hp K hK => ?_) ?_
      · have hbb := hB; have e2 : g' 7 = .bool true := (hp 2 (by decide)).2; have e3 : g' 8 = .agg #[.slice a len cap] := (hp 3 (by decide)).2; simp only [mkM, maskMEA, mixM, Nat.reduceAdd, e2, e3] at hK ⊢; clear e2 e3; simp only [Act.put, List.setIfInBounds_toArray, List.set_cons_zero, List.set_cons_succ] at hK; go_simp; go_at_call 39; refine (zero_s a len cap n _ (HN.out.below hbb)).mono ?_; rw [hz]; rintro e w7 ⟨rfl, hb⟩; go_wp2_with fail; exact hK.out _ _ (BB.step hbb hb) (GF.below hb) rfl
      refine StepsM.cons (fun l g' wu hB hl hn hp K hK => ?_) ?_
      · have e2 : g' 7 = .bool true := (hp 2 (by decide)).2; have e4 : g' 9 = .bool true := (hp 4 (by decide)).2; simp only [mkM, maskMEA, mixM, Nat.reduceAdd, e2, e4] at hK ⊢; clear e2 e4; simp only [Act.put, List.setIfInBounds_toArray, List.set_cons_zero, List.set_cons_succ] at hK; go_simp; exact hK.out _ _ hB GF.same rfl
      refine StepsM.cons (fun l g' wu hB hl hn hp K hK => ?_) ?_
      · have e2 : g' 7 = .bool true := (hp 2 (by decide)).2; have e5 : g' 10 = .bool false := (hp 5 (by decide)).2; simp only [mkM, maskMEA, mixM, Nat.reduceAdd, e2, e5] at hK ⊢; clear e2 e5; simp only [Act.put, List.setIfInBounds_toArray, List.set_cons_zero, List.set_cons_succ] at hK; go_simp; exact hK.out _ _ hB GF.same rfl
      refine StepsM.cons (fun l g' wu hB hl hn hp K hK => ?_) ?_
      · have e6 : g' 11 = .bool false := (hp 6 (by decide)).2; simp only [mkM, maskMEA, mixM, Nat.reduceAdd, e6] at hK ⊢; clear e6; simp only [Act.put, List.setIfInBounds_toArray, List.set_cons_zero, List.set_cons_succ] at hK; go_simp; exact hK.out _ _ hB GF.same rfl
      refine StepsM.cons (fun l g' wu hB hl hn hp K hK => ?_) ?_
      · have e7 : g' 12 = .bool false := (hp 7 (by decide)).2; simp only [mkM, maskMEA, mixM, Nat.reduceAdd, e7] at hK ⊢; clear e7; simp only [Act.put, List.setIfInBounds_toArray, List.set_cons_zero, List.set_cons_succ] at hK; go_simp; exact hK.out _ _ hB GF.same rfl
      refine StepsM.cons (fun l g' wu hB hl hn hp K hK => ?_) ?_
      · have e7 : g' 12 = .bool false := (hp 7 (by decide)).2; simp only [mkM, maskMEA, mixM, Nat.reduceAdd, e7] at hK ⊢; clear e7; simp only [Act.put, List.setIfInBounds_toArray, List.set_cons_zero, List.set_cons_succ] at hK; go_simp; exact hK.out _ _ hB GF.same rfl
      refine StepsM.cons (fun l g' wu hB hl hn hp K hK => ?_) ?_
      · have e7 : g' 12 = .bool false := (hp 7 (by decide)).2; simp only [mkM, maskMEA, mixM, Nat.reduceAdd, e7] at hK ⊢; clear e7; simp only [Act.put, List.setIfInBounds_toArray, List.set_cons_zero, List.set_cons_succ] at hK; go_simp; exact hK.out _ _ hB GF.same rfl
      refine StepsM.cons (fun l g' wu hB hl hn hp K hK => ?_) ?_
      · have e7 : g' 12 = .bool false := (hp 7 (by decide)).2; simp only [mkM, maskMEA, mixM, Nat.reduceAdd, e7] at hK ⊢; clear e7; simp only [Act.put, List.setIfInBounds_toArray, List.set_cons_zero, List.set_cons_succ] at hK; go_simp; exact hK.out _ _ hB GF.same rfl
      refine StepsM.cons (fun l g' wu hB hl hn hp K hK => ?_) ?_
      · have e7 : g' 12 = .bool false := (hp 7 (by decide)).2; simp only [mkM, maskMEA, mixM, Nat.reduceAdd, e7] at hK ⊢; clear e7; simp only [Act.put, List.setIfInBounds_toArray, List.set_cons_zero, List.set_cons_succ] at hK; go_simp; exact hK.out _ _ hB GF.same rfl
      refine StepsM.cons (fun l g' wu hB hl hn hp K hK => ?_) ?_
      · have e7 : g' 12 = .bool false := (hp 7 (by decide)).2; simp only [mkM, maskMEA, mixM, Nat.reduceAdd, e7] at hK ⊢; clear e7; simp only [Act.put, List.setIfInBounds_toArray, List.set_cons_zero, List.set_cons_succ] at hK; go_simp; exact hK.out _ _ hB GF.same rfl
      refine StepsM.cons (fun l g' wu hB hl hn hp K hK => ?_) ?_
      · have e13 : g' 18 = .bool false := (hp 13 (by decide)).2; simp only [mkM, maskMEA, mixM, Nat.reduceAdd, e13] at hK ⊢; clear e13; simp only [Act.put, List.setIfInBounds_toArray, List.set_cons_zero, List.set_cons_succ] at hK; go_simp; exact hK.out _ _ hB GF.same rfl
      refine StepsM.cons (fun l g' wu hB hl hn hp K hK => ?_) ?_
      · have e14 : g' 19 = .bool false := (hp 14 (by decide)).2; simp only [mkM, maskMEA, mixM, Nat.reduceAdd, e14] at hK ⊢; clear e14; simp only [Act.put, List.setIfInBounds_toArray, List.set_cons_zero, List.set_cons_succ] at hK; go_simp; exact hK.out _ _ hB GF.same rfl
      refine StepsM.cons (fun l g' wu hB hl hn hp K hK => ?_) ?_
      · have e14 : g' 19 = .bool false := (hp 14 (by decide)).2; simp only [mkM, maskMEA, mixM, Nat.reduceAdd, e14] at hK ⊢; clear e14; simp only [Act.put, List.setIfInBounds_toArray, List.set_cons_zero, List.set_cons_succ] at hK; go_simp; exact hK.out _ _ hB GF.same rfl
      refine StepsM.cons (fun l g' wu hB hl hn hp K hK => ?_) ?_
      · have e14 : g' 19 = .bool false := (hp 14 (by decide)).2; simp only [mkM, maskMEA, mixM, Nat.reduceAdd, e14] at hK ⊢; clear e14; simp only [Act.put, List.setIfInBounds_toArray, List.set_cons_zero, List.set_cons_succ] at hK; go_simp; exact hK.out _ _ hB GF.same rfl
      refine StepsM.cons (fun l g' wu hB hl hn hp K hK => ?_) ?_
      · have e14 : g' 19 = .bool false := (hp 14 (by decide)).2; simp only [mkM, maskMEA, mixM, Nat.reduceAdd, e14] at hK ⊢; clear e14; simp only [Act.put, List.setIfInBounds_toArray, List.set_cons_zero, List.set_cons_succ] at hK; go_simp; exact hK.out _ _ hB GF.same rfl
      refine StepsM.cons (fun l g' wu hB hl hn hp K hK => ?_) ?_
      · have e14 : g' 19 = .bool false := (hp 14 (by decide)).2; simp only [mkM, maskMEA, mixM, Nat.reduceAdd, e14] at hK ⊢; clear e14; simp only [Act.put, List.setIfInBounds_toArray, List.set_cons_zero, List.set_cons_succ] at hK; go_simp; exact hK.out _ _ hB GF.same rfl
      refine StepsM.cons (fun l g' wu hB hl hn hp K hK => ?_) ?_
      · have e14 : g' 19 = .bool false := (hp 14 (by decide)).2; simp only [mkM, maskMEA, mixM, Nat.reduceAdd, e14] at hK ⊢; clear e14; simp only [Act.put, List.setIfInBounds_toArray, List.set_cons_zero, List.set_cons_succ] at hK; go_simp; exact hK.out _ _ hB GF.same rfl
      refine StepsM.cons (fun l g' wu hB hl hn hp K hK => ?_) ?_
      · have e14 : g' 19 = .bool false := (hp 14 (by decide)).2; simp only [mkM, maskMEA, mixM, Nat.reduceAdd, e14] at hK ⊢; clear e14; simp only [Act.put, List.setIfInBounds_toArray, List.set_cons_zero, List.set_cons_succ] at hK; go_simp; exact hK.out _ _ hB GF.same rfl
      refine StepsM.cons (fun l g' wu hB hl hn hp K hK => ?_) ?_
      · have e14 : g' 19 = .bool false := (hp 14 (by decide)).2; simp only [mkM, maskMEA, mixM, Nat.reduceAdd, e14] at hK ⊢; clear e14; simp only [Act.put, List.setIfInBounds_toArray, List.set_cons_zero, List.set_cons_succ] at hK; go_simp; exact hK.out _ _ hB GF.same rfl
      refine StepsM.cons (fun l g' wu hB hl hn hp K hK => ?_) ?_
      · have e14 : g' 19 = .bool false := (hp 14 (by decide)).2; simp only [mkM, maskMEA, mixM, Nat.reduceAdd, e14] at hK ⊢; clear e14; simp only [Act.put, List.setIfInBounds_toArray, List.set_cons_zero, List.set_cons_succ] at hK; go_simp; exact hK.out _ _ hB GF.same rfl
      refine StepsM.cons (fun l g' wu hB hl hn hp K hK => ?_) ?_
      · have e14 : g' 19 = .bool false := (hp 14 (by decide)).2; simp only [mkM, maskMEA, mixM, Nat.reduceAdd, e14] at hK ⊢; clear e14; simp only [Act.put, List.setIfInBounds_toArray, List.set_cons_zero, List.set_cons_succ] at hK; go_simp; exact hK.out _ _ hB GF.same rfl
      refine StepsM.cons (fun l g' wu hB hl hn hp K hK => ?_) ?_
      · have e14 : g' 19 = .bool false := (hp 14 (by decide)).2; simp only [mkM, maskMEA, mixM, Nat.reduceAdd, e14] at hK ⊢; clear e14; simp only [Act.put, List.setIfInBounds_toArray, List.set_cons_zero, List.set_cons_succ] at hK; go_simp; exact hK.out _ _ hB GF.same rfl
      refine StepsM.cons (fun l g' wu hB hl hn hp K hK => ?_) ?_
      · have e14 : g' 19 = .bool false := (hp 14 (by decide)).2; simp only [mkM, maskMEA, mixM, Nat.reduceAdd, e14] at hK ⊢; clear e14; simp only [Act.put, List.setIfInBounds_toArray, List.set_cons_zero, List.set_cons_succ] at hK; go_simp; exact hK.out _ _ hB GF.same rfl
      refine StepsM.cons (fun l g' wu hB hl hn hp K hK => ?_) ?_
      · have e14 : g' 19 = .bool false := (hp 14 (by decide)).2; simp only [mkM, maskMEA, mixM, Nat.reduceAdd, e14] at hK ⊢; clear e14; simp only [Act.put, List.setIfInBounds_toArray, List.set_cons_zero, List.set_cons_succ] at hK; go_simp; exact hK.out _ _ hB GF.same rfl
      refine StepsM.cons (fun l g' wu hB hl hn hp K hK => ?_) ?_
      · have e14 : g' 19 = .bool false := (hp 14 (by decide)).2; simp only [mkM, maskMEA, mixM, Nat.reduceAdd, e14] at hK ⊢; clear e14; simp only [Act.put, List.setIfInBounds_toArray, List.set_cons_zero, List.set_cons_succ] at hK; go_simp; exact hK.out _ _ hB GF.same rfl
      refine StepsM.cons (fun l g' wu hB hl hn hp K hK => ?_) ?_
      · have e14 : g' 19 = .bool false := (hp 14 (by decide)).2; simp only [mkM, maskMEA, mixM, Nat.reduceAdd, e14] at hK ⊢; clear e14; simp only [Act.put, List.setIfInBounds_toArray, List.set_cons_zero, List.set_cons_succ] at hK; go_simp; exact hK.out _ _ hB GF.same rfl
      refine StepsM.cons (fun l g' wu hB hl hn hp K hK => ?_) ?_
      · have e29 : g' 34 = .bool false := (hp 29 (by decide)).2; simp only [mkM, maskMEA, mixM, Nat.reduceAdd, e29] at hK ⊢; clear e29; simp only [Act.put, List.setIfInBounds_toArray, List.set_cons_zero, List.set_cons_succ] at hK; go_simp; exact hK.out _ _ hB GF.same rfl
      exact StepsM.nil
    · intro l g' wu hall hB hG
      have e30 : g' 4 = .bool false := hG 30 (by decide)
      simp only [mkM, maskMEA, mixM, Nat.reduceAdd, e30]
      clear hG hall e30
      go_wp2_with fail
      go_ret
      exact ⟨ret_bool (decide_eq_false (fun h => h.1 HZ.out)).symm, HB.out.trans (Below.mono hB HB.out.size)⟩
  · have hz : (n == 0) = false := by rw [beq_eq_false_iff_ne]; exact hz0
    have HZ := Lib.hid hz0
    clear hz0
    by_cases hc : P ≤ n
    · have hd := cmp_dge hc
      have HC := Lib.hid hc
      clear hc
      refine wp_region_mix (fun _ w' => BB w1 w') (GF (tabMEB (.pointer (some ⟨g, 0, none⟩)) (.bool true) (.bool true) (.agg #[.slice a len cap]) (.bool false) (.bool true) (.bool true) (.bool true) (.agg #[.slice a len cap]) (.pointer (some ⟨g, 0, none⟩)) (P) (.int .i64 (cmpNat n P)) (.bool false) (.bool false) (.bool false) (undef) (undef) (undef) (undef) (undef) (undef) (undef) (undef) (undef) (undef) (undef) (undef) (undef) (undef) (.bool false) (.bool false))) maskMEB dstMEB preMEB (by kernel_rfl) (by kernel_rfl) rfl (by kernel_rfl) (by kernel_rfl) (by kernel_rfl) (by kernel_rfl) (BB.drew (BB.refl _)) ?_ ?_
      · refine StepsM.cons (fun l g' wu hB hl hn hp K hK => ?_) ?_
        · simp only [mkM, maskMEB, mixM, Nat.reduceAdd] at hK ⊢; simp only [Act.put, List.setIfInBounds_toArray, List.set_cons_zero, List.set_cons_succ] at hK; go_simp; exact hK.out _ _ hB GF.same rfl
        refine StepsM.cons (fun l g' wu hB hl hn hp K hK => ?_) ?_
        · have e0 : g' 5 = .pointer (some ⟨g, 0, none⟩) := (hp 0 (by decide)).2; simp only [mkM, maskMEB, mixM, Nat.reduceAdd, e0] at hK ⊢; clear e0; simp only [Act.put, List.setIfInBounds_toArray, List.set_cons_zero, List.set_cons_succ] at hK; go_simp; exact hK.out _ _ hB GF.same rfl
        refine StepsM.cons (fun l g' wu hB hl hn hp K hK => ?_) ?_
        · have e1 : g' 6 = .bool true := (hp 1 (by decide)).2; simp only [mkM, maskMEB, mixM, Nat.reduceAdd, e1] at hK ⊢; clear e1; simp only [Act.put, List.setIfInBounds_toArray, List.set_cons_zero, List.set_cons_succ] at hK; go_simp; exact hK.out _ _ hB GF.same rfl
        refine StepsM.cons (fun l g' wu hB hl hn hp K hK => ?_) ?_
        · have hbb := hB; have e2 : g' 7 = .bool true := (hp 2 (by decide)).2; have hc := gA _ hbb; simp only [mkM, maskMEB, mixM, Nat.reduceAdd, e2] at hK ⊢; clear e2; simp only [Act.put, List.setIfInBounds_toArray, List.set_cons_zero, List.set_cons_succ] at hK; go_simp; exact hK.out _ _ hB GF.same rfl
        refine StepsM.cons (fun l g' wu hB hl hn hp K hK => ?_) ?_
        · have hbb := hB; have e2 : g' 7 = .bool true := (hp 2 (by decide)).2; have e3 : g' 8 = .agg #[.slice a len cap] := (hp 3 (by decide)).2; simp only [mkM, maskMEB, mixM, Nat.reduceAdd, e2, e3] at hK ⊢; clear e2 e3; simp only [Act.put, List.setIfInBounds_toArray, List.set_cons_zero, List.set_cons_succ] at hK; go_simp; go_at_call 39; refine (zero_s a len cap n _ (HN.out.below hbb)).mono ?_; rw [hz]; rintro e w7 ⟨rfl, hb⟩; go_wp2_with fail; exact hK.out _ _ (BB.step hbb hb) (GF.below hb) rfl
        refine StepsM.cons (fun l g' wu hB hl hn hp K hK => ?_) ?_
        · have e2 : g' 7 = .bool true := (hp 2 (by decide)).2; have e4 : g' 9 = .bool false := (hp 4 (by decide)).2; simp only [mkM, maskMEB, mixM, Nat.reduceAdd, e2, e4] at hK ⊢; clear e2 e4; simp only [Act.put, List.setIfInBounds_toArray, List.set_cons_zero, List.set_cons_succ] at hK; go_simp; exact hK.out _ _ hB GF.same rfl
        refine StepsM.cons (fun l g' wu hB hl hn hp K hK => ?_) ?_
        · have e2 : g' 7 = .bool true := (hp 2 (by decide)).2; have e5 : g' 10 = .bool true := (hp 5 (by decide)).2; simp only [mkM, maskMEB, mixM, Nat.reduceAdd, e2, e5] at hK ⊢; clear e2 e5; simp only [Act.put, List.setIfInBounds_toArray, List.set_cons_zero, List.set_cons_succ] at hK; go_simp; exact hK.out _ _ hB GF.same rfl
        refine StepsM.cons (fun l g' wu hB hl hn hp K hK => ?_) ?_
        · have e6 : g' 11 = .bool true := (hp 6 (by decide)).2; simp only [mkM, maskMEB, mixM, Nat.reduceAdd, e6] at hK ⊢; clear e6; simp only [Act.put, List.setIfInBounds_toArray, List.set_cons_zero, List.set_cons_succ] at hK; go_simp; exact hK.out _ _ hB GF.same rfl
        refine StepsM.cons (fun l g' wu hB hl hn hp K hK => ?_) ?_
        · have hbb := hB; have e7 : g' 12 = .bool true := (hp 7 (by decide)).2; have hc := gA _ hbb; simp only [mkM, maskMEB, mixM, Nat.reduceAdd, e7] at hK ⊢; clear e7; simp only [Act.put, List.setIfInBounds_toArray, List.set_cons_zero, List.set_cons_succ] at hK; go_simp; exact hK.out _ _ hB GF.same rfl
        refine StepsM.cons (fun l g' wu hB hl hn hp K hK => ?_) ?_
        · have e7 : g' 12 = .bool true := (hp 7 (by decide)).2; simp only [mkM, maskMEB, mixM, Nat.reduceAdd, e7] at hK ⊢; clear e7; simp only [Act.put, List.setIfInBounds_toArray, List.set_cons_zero, List.set_cons_succ] at hK; go_simp; exact hK.out _ _ hB GF.same rfl
        refine StepsM.cons (fun l g' wu hB hl hn hp K hK => ?_) ?_
        · have hbb := hB; have e7 : g' 12 = .bool true := (hp 7 (by decide)).2; have e9 : g' 14 = .pointer (some ⟨g, 0, none⟩) := (hp 9 (by decide)).2; simp only [mkM, maskMEB, mixM, Nat.reduceAdd, e7, e9] at hK ⊢; clear e7 e9; simp only [Act.put, List.setIfInBounds_toArray, List.set_cons_zero, List.set_cons_succ] at hK; go_simp; go_at_call 102; refine (gp_any g P Q G H sz _ (HG.out.below hbb)).mono ?_; rintro e w7 ⟨ta, tl, tc, rfl, hx, hb⟩; go_wp2_with fail; exact hK.out _ _ (BB.step hbb hb) (GF.below hb) ⟨ta, tl, tc, rfl, hx⟩
        refine StepsM.cons (fun l g' wu hB hl hn hp K hK => ?_) ?_
        · have hbb := hB; have e7 : g' 12 = .bool true := (hp 7 (by decide)).2; have e8 : g' 13 = .agg #[.slice a len cap] := (hp 8 (by decide)).2; obtain ⟨x10, l10, c10, e10, h10⟩ := (hp 10 (by decide)).2; have e10 : g' 15 = .agg #[.slice x10 l10 c10] := e10; simp only [mkM, maskMEB, mixM, Nat.reduceAdd, e7, e8, e10] at hK ⊢; clear e7 e8 e10; simp only [Act.put, List.setIfInBounds_toArray, List.set_cons_zero, List.set_cons_succ] at hK; go_simp; go_at_call 25; refine (cmp_s a x10 len cap l10 c10 n P _ (HN.out.below hbb) h10).mono ?_; rintro e w7 ⟨rfl, hb⟩; go_wp2_with fail; exact hK.out _ _ (BB.step hbb hb) (GF.below hb) rfl
        refine StepsM.cons (fun l g' wu hB hl hn hp K hK => ?_) ?_
        · have e7 : g' 12 = .bool true := (hp 7 (by decide)).2; have e11 : g' 16 = .int .i64 (cmpNat n P) := (hp 11 (by decide)).2; simp only [mkM, maskMEB, mixM, Nat.reduceAdd, e7, e11] at hK ⊢; clear e7 e11; simp only [Act.put, List.setIfInBounds_toArray, List.set_cons_zero, List.set_cons_succ] at hK; go_simp; exact hK.out _ _ hB GF.same rfl
        refine StepsM.cons (fun l g' wu hB hl hn hp K hK => ?_) ?_
        · have e7 : g' 12 = .bool true := (hp 7 (by decide)).2; have e12 : g' 17 = .bool false := (hp 12 (by decide)).2; simp only [mkM, maskMEB, mixM, Nat.reduceAdd, e7, e12] at hK ⊢; clear e7 e12; simp only [Act.put, List.setIfInBounds_toArray, List.set_cons_zero, List.set_cons_succ] at hK; go_simp; exact hK.out _ _ hB GF.same rfl
        refine StepsM.cons (fun l g' wu hB hl hn hp K hK => ?_) ?_
        · have e13 : g' 18 = .bool false := (hp 13 (by decide)).2; simp only [mkM, maskMEB, mixM, Nat.reduceAdd, e13] at hK ⊢; clear e13; simp only [Act.put, List.setIfInBounds_toArray, List.set_cons_zero, List.set_cons_succ] at hK; go_simp; exact hK.out _ _ hB GF.same rfl
        refine StepsM.cons (fun l g' wu hB hl hn hp K hK => ?_) ?_
        · have e14 : g' 19 = .bool false := (hp 14 (by decide)).2; simp only [mkM, maskMEB, mixM, Nat.reduceAdd, e14] at hK ⊢; clear e14; simp only [Act.put, List.setIfInBounds_toArray, List.set_cons_zero, List.set_cons_succ] at hK; go_simp; exact hK.out _ _ hB GF.same rfl
        refine StepsM.cons (fun l g' wu hB hl hn hp K hK => ?_) ?_
        · have e14 : g' 19 = .bool false := (hp 14 (by decide)).2; simp only [mkM, maskMEB, mixM, Nat.reduceAdd, e14] at hK ⊢; clear e14; simp only [Act.put, List.setIfInBounds_toArray, List.set_cons_zero, List.set_cons_succ] at hK; go_simp; exact hK.out _ _ hB GF.same rfl
        refine StepsM.cons (fun l g' wu hB hl hn hp K hK => ?_) ?_
        · have e14 : g' 19 = .bool false := (hp 14 (by decide)).2; simp only [mkM, maskMEB, mixM, Nat.reduceAdd, e14] at hK ⊢; clear e14; simp only [Act.put, List.setIfInBounds_toArray, List.set_cons_zero, List.set_cons_succ] at hK; go_simp; exact hK.out _ _ hB GF.same rfl
        refine StepsM.cons (fun l g' wu hB hl hn hp K hK => ?_) ?_
        · have e14 : g' 19 = .bool false := (hp 14 (by decide)).2; simp only [mkM, maskMEB, mixM, Nat.reduceAdd, e14] at hK ⊢; clear e14; simp only [Act.put, List.setIfInBounds_toArray, List.set_cons_zero, List.set_cons_succ] at hK; go_simp; exact hK.out _ _ hB GF.same rfl
        refine StepsM.cons (fun l g' wu hB hl hn hp K hK => ?_) ?_
        · have e14 : g' 19 = .bool false := (hp 14 (by decide)).2; simp only [mkM, maskMEB, mixM, Nat.reduceAdd, e14] at hK ⊢; clear e14; simp only [Act.put, List.setIfInBounds_toArray, List.set_cons_zero, List.set_cons_succ] at hK; go_simp; exact hK.out _ _ hB GF.same rfl
        refine StepsM.cons (fun l g' wu hB hl hn hp K hK => ?_) ?_
        · have e14 : g' 19 = .bool false := (hp 14 (by decide)).2; simp only [mkM, maskMEB, mixM, Nat.reduceAdd, e14] at hK ⊢; clear e14; simp only [Act.put, List.setIfInBounds_toArray, List.set_cons_zero, List.set_cons_succ] at hK; go_simp; exact hK.out _ _ hB GF.same rfl
        refine StepsM.cons (fun l g' wu hB hl hn hp K hK => ?_) ?_
        · have e14 : g' 19 = .bool false := (hp 14 (by decide)).2; simp only [mkM, maskMEB, mixM, Nat.reduceAdd, e14] at hK ⊢; clear e14; simp only [Act.put, List.setIfInBounds_toArray, List.set_cons_zero, List.set_cons_succ] at hK; go_simp; exact hK.out _ _ hB GF.same rfl
        refine StepsM.cons (fun l g' wu hB hl hn hp K hK => ?_) ?_
        · have e14 : g' 19 = .bool false := (hp 14 (by decide)).2; simp only [mkM, maskMEB, mixM, Nat.reduceAdd, e14] at hK ⊢; clear e14; simp only [Act.put, List.setIfInBounds_toArray, List.set_cons_zero, List.set_cons_succ] at hK; go_simp; exact hK.out _ _ hB GF.same rfl
        refine StepsM.cons (fun l g' wu hB hl hn hp K hK => ?_) ?_
        · have e14 : g' 19 = .bool false := (hp 14 (by decide)).2; simp only [mkM, maskMEB, mixM, Nat.reduceAdd, e14] at hK ⊢; clear e14; simp only [Act.put, List.setIfInBounds_toArray, List.set_cons_zero, List.set_cons_succ] at hK; go_simp; exact hK.out _ _ hB GF.same rfl
        refine StepsM.cons (fun l g' wu hB hl hn hp K hK => ?_) ?_
        · have e14 : g' 19 = .bool false := (hp 14 (by decide)).2; simp only [mkM, maskMEB, mixM, Nat.reduceAdd, e14] at hK ⊢; clear e14; simp only [Act.put, List.setIfInBounds_toArray, List.set_cons_zero, List.set_cons_succ] at hK; go_simp; exact hK.out _ _ hB GF.same rfl
        refine StepsM.cons (fun l g' wu hB hl hn hp K hK => ?_) ?_
        · have e14 : g' 19 = .bool false := (hp 14 (by decide)).2; simp only [mkM, maskMEB, mixM, Nat.reduceAdd, e14] at hK ⊢; clear e14; simp only [Act.put, List.setIfInBounds_toArray, List.set_cons_zero, List.set_cons_succ] at hK; go_simp; exact hK.out _ _ hB GF.same rfl
        refine StepsM.cons (fun l g' wu hB hl hn hp K hK => ?_) ?_
        · have e14 : g' 19 = .bool false := (hp 14 (by decide)).2; simp only [mkM, maskMEB, mixM, Nat.reduceAdd, e14] at hK ⊢; clear e14; simp only [Act.put, List.setIfInBounds_toArray, List.set_cons_zero, List.set_cons_succ] at hK; go_simp; exact hK.out _ _ hB GF.same rfl
        refine StepsM.cons (fun l g' wu hB hl hn hp K hK => ?_) ?_
        · have e14 : g' 19 = .bool false := (hp 14 (by decide)).2; simp only [mkM, maskMEB, mixM, Nat.reduceAdd, e14] at hK ⊢; clear e14; simp only [Act.put, List.setIfInBounds_toArray, List.set_cons_zero, List.set_cons_succ] at hK; go_simp; exact hK.out _ _ hB GF.same rfl
        refine StepsM.cons (fun l g' wu hB hl hn hp K hK => ?_) ?_
        · have e14 : g' 19 = .bool false := (hp 14 (by decide)).2; simp only [mkM, maskMEB, mixM, Nat.reduceAdd, e14] at hK ⊢; clear e14; simp only [Act.put, List.setIfInBounds_toArray, List.set_cons_zero, List.set_cons_succ] at hK; go_simp; exact hK.out _ _ hB GF.same rfl
        refine StepsM.cons (fun l g' wu hB hl hn hp K hK => ?_) ?_
        · have e14 : g' 19 = .bool false := (hp 14 (by decide)).2; simp only [mkM, maskMEB, mixM, Nat.reduceAdd, e14] at hK ⊢; clear e14; simp only [Act.put, List.setIfInBounds_toArray, List.set_cons_zero, List.set_cons_succ] at hK; go_simp; exact hK.out _ _ hB GF.same rfl
        refine StepsM.cons (fun l g' wu hB hl hn hp K hK => ?_) ?_
        · have e29 : g' 34 = .bool false := (hp 29 (by decide)).2; simp only [mkM, maskMEB, mixM, Nat.reduceAdd, e29] at hK ⊢; clear e29; simp only [Act.put, List.setIfInBounds_toArray, List.set_cons_zero, List.set_cons_succ] at hK; go_simp; exact hK.out _ _ hB GF.same rfl
        exact StepsM.nil
      · intro l g' wu hall hB hG
        have e30 : g' 4 = .bool false := hG 30 (by decide)
        simp only [mkM, maskMEB, mixM, Nat.reduceAdd, e30]
        clear hG hall e30
        go_wp2_with fail
        go_ret
        exact ⟨ret_bool (decide_eq_false (fun h => by have := h.2.1; have := HC.out; omega)).symm, HB.out.trans (Below.mono hB HB.out.size)⟩
    · have hc' : n < P := by omega
      have hd := cmp_lt hc'
      have HC := Lib.hid hc'
      clear hc hc'
      refine wp_region_mix (fun _ w' => BB w1 w') (GF (tabMEC (.pointer (some ⟨g, 0, none⟩)) (.bool true) (.bool true) (.agg #[.slice a len cap]) (.bool false) (.bool true) (.bool true) (.bool true) (.agg #[.slice a len cap]) (.pointer (some ⟨g, 0, none⟩)) (P) (.int .i64 (cmpNat n P)) (.bool true) (.bool true) (.bool true) (.pointer (some ⟨g, 0, none⟩)) (.pointer (some ⟨g, 0, none⟩)) (.pointer (some ⟨g, 0, none⟩)) (.pointer (some ⟨rp, 0, none⟩)) (.agg #[.slice a len cap]) (.pointer (some ⟨g, 0, none⟩)) (.pointer (some ⟨g, 0, none⟩)) (.pointer (some ⟨g, 1, none⟩)) (.pointer (some ⟨rq, 0, none⟩)) (Q) (n ^ Q % P) (1) (.int .i64 (cmpNat (n ^ Q % P) 1)) (.bool (cmpNat (n ^ Q % P) 1 == 0)) (.bool (cmpNat (n ^ Q % P) 1 == 0)) (.bool (cmpNat (n ^ Q % P) 1 == 0)))) maskMEC dstMEC preMEC (by kernel_rfl) (by kernel_rfl) rfl (by kernel_rfl) (by kernel_rfl) (by kernel_rfl) (by kernel_rfl) (BB.drew (BB.refl _)) ?_ ?_
      · refine StepsM.cons (fun l g' wu hB hl hn hp K hK => ?_) ?_
        · simp only [mkM, maskMEC, mixM, Nat.reduceAdd] at hK ⊢; simp only [Act.put, List.setIfInBounds_toArray, List.set_cons_zero, List.set_cons_succ] at hK; go_simp; exact hK.out _ _ hB GF.same rfl
        refine StepsM.cons (fun l g' wu hB hl hn hp K hK => ?_) ?_
        · have e0 : g' 5 = .pointer (some ⟨g, 0, none⟩) := (hp 0 (by decide)).2; simp only [mkM, maskMEC, mixM, Nat.reduceAdd, e0] at hK ⊢; clear e0; simp only [Act.put, List.setIfInBounds_toArray, List.set_cons_zero, List.set_cons_succ] at hK; go_simp; exact hK.out _ _ hB GF.same rfl
        refine StepsM.cons (fun l g' wu hB hl hn hp K hK => ?_) ?_
        · have e1 : g' 6 = .bool true := (hp 1 (by decide)).2; simp only [mkM, maskMEC, mixM, Nat.reduceAdd, e1] at hK ⊢; clear e1; simp only [Act.put, List.setIfInBounds_toArray, List.set_cons_zero, List.set_cons_succ] at hK; go_simp; exact hK.out _ _ hB GF.same rfl
        refine StepsM.cons (fun l g' wu hB hl hn hp K hK => ?_) ?_
        · have hbb := hB; have e2 : g' 7 = .bool true := (hp 2 (by decide)).2; have hc := gA _ hbb; simp only [mkM, maskMEC, mixM, Nat.reduceAdd, e2] at hK ⊢; clear e2; simp only [Act.put, List.setIfInBounds_toArray, List.set_cons_zero, List.set_cons_succ] at hK; go_simp; exact hK.out _ _ hB GF.same rfl
        refine StepsM.cons (fun l g' wu hB hl hn hp K hK => ?_) ?_
        · have hbb := hB; have e2 : g' 7 = .bool true := (hp 2 (by decide)).2; have e3 : g' 8 = .agg #[.slice a len cap] := (hp 3 (by decide)).2; simp only [mkM, maskMEC, mixM, Nat.reduceAdd, e2, e3] at hK ⊢; clear e2 e3; simp only [Act.put, List.setIfInBounds_toArray, List.set_cons_zero, List.set_cons_succ] at hK; go_simp; go_at_call 39; refine (zero_s a len cap n _ (HN.out.below hbb)).mono ?_; rw [hz]; rintro e w7 ⟨rfl, hb⟩; go_wp2_with fail; exact hK.out _ _ (BB.step hbb hb) (GF.below hb) rfl
        refine StepsM.cons (fun l g' wu hB hl hn hp K hK => ?_) ?_
        · have e2 : g' 7 = .bool true := (hp 2 (by decide)).2; have e4 : g' 9 = .bool false := (hp 4 (by decide)).2; simp only [mkM, maskMEC, mixM, Nat.reduceAdd, e2, e4] at hK ⊢; clear e2 e4; simp only [Act.put, List.setIfInBounds_toArray, List.set_cons_zero, List.set_cons_succ] at hK; go_simp; exact hK.out _ _ hB GF.same rfl
        refine StepsM.cons (fun l g' wu hB hl hn hp K hK => ?_) ?_
        · have e2 : g' 7 = .bool true := (hp 2 (by decide)).2; have e5 : g' 10 = .bool true := (hp 5 (by decide)).2; simp only [mkM, maskMEC, mixM, Nat.reduceAdd, e2, e5] at hK ⊢; clear e2 e5; simp only [Act.put, List.setIfInBounds_toArray, List.set_cons_zero, List.set_cons_succ] at hK; go_simp; exact hK.out _ _ hB GF.same rfl
        refine StepsM.cons (fun l g' wu hB hl hn hp K hK => ?_) ?_
        · have e6 : g' 11 = .bool true := (hp 6 (by decide)).2; simp only [mkM, maskMEC, mixM, Nat.reduceAdd, e6] at hK ⊢; clear e6; simp only [Act.put, List.setIfInBounds_toArray, List.set_cons_zero, List.set_cons_succ] at hK; go_simp; exact hK.out _ _ hB GF.same rfl
        refine StepsM.cons (fun l g' wu hB hl hn hp K hK => ?_) ?_
        · have hbb := hB; have e7 : g' 12 = .bool true := (hp 7 (by decide)).2; have hc := gA _ hbb; simp only [mkM, maskMEC, mixM, Nat.reduceAdd, e7] at hK ⊢; clear e7; simp only [Act.put, List.setIfInBounds_toArray, List.set_cons_zero, List.set_cons_succ] at hK; go_simp; exact hK.out _ _ hB GF.same rfl
        refine StepsM.cons (fun l g' wu hB hl hn hp K hK => ?_) ?_
        · have e7 : g' 12 = .bool true := (hp 7 (by decide)).2; simp only [mkM, maskMEC, mixM, Nat.reduceAdd, e7] at hK ⊢; clear e7; simp only [Act.put, List.setIfInBounds_toArray, List.set_cons_zero, List.set_cons_succ] at hK; go_simp; exact hK.out _ _ hB GF.same rfl
        refine StepsM.cons (fun l g' wu hB hl hn hp K hK => ?_) ?_
        · have hbb := hB; have e7 : g' 12 = .bool true := (hp 7 (by decide)).2; have e9 : g' 14 = .pointer (some ⟨g, 0, none⟩) := (hp 9 (by decide)).2; simp only [mkM, maskMEC, mixM, Nat.reduceAdd, e7, e9] at hK ⊢; clear e7 e9; simp only [Act.put, List.setIfInBounds_toArray, List.set_cons_zero, List.set_cons_succ] at hK; go_simp; go_at_call 102; refine (gp_any g P Q G H sz _ (HG.out.below hbb)).mono ?_; rintro e w7 ⟨ta, tl, tc, rfl, hx, hb⟩; go_wp2_with fail; exact hK.out _ _ (BB.step hbb hb) (GF.below hb) ⟨ta, tl, tc, rfl, hx⟩
        refine StepsM.cons (fun l g' wu hB hl hn hp K hK => ?_) ?_
        · have hbb := hB; have e7 : g' 12 = .bool true := (hp 7 (by decide)).2; have e8 : g' 13 = .agg #[.slice a len cap] := (hp 8 (by decide)).2; obtain ⟨x10, l10, c10, e10, h10⟩ := (hp 10 (by decide)).2; have e10 : g' 15 = .agg #[.slice x10 l10 c10] := e10; simp only [mkM, maskMEC, mixM, Nat.reduceAdd, e7, e8, e10] at hK ⊢; clear e7 e8 e10; simp only [Act.put, List.setIfInBounds_toArray, List.set_cons_zero, List.set_cons_succ] at hK; go_simp; go_at_call 25; refine (cmp_s a x10 len cap l10 c10 n P _ (HN.out.below hbb) h10).mono ?_; rintro e w7 ⟨rfl, hb⟩; go_wp2_with fail; exact hK.out _ _ (BB.step hbb hb) (GF.below hb) rfl
        refine StepsM.cons (fun l g' wu hB hl hn hp K hK => ?_) ?_
        · have e7 : g' 12 = .bool true := (hp 7 (by decide)).2; have e11 : g' 16 = .int .i64 (cmpNat n P) := (hp 11 (by decide)).2; simp only [mkM, maskMEC, mixM, Nat.reduceAdd, e7, e11] at hK ⊢; clear e7 e11; simp only [Act.put, List.setIfInBounds_toArray, List.set_cons_zero, List.set_cons_succ] at hK; go_simp; exact hK.out _ _ hB GF.same rfl
        refine StepsM.cons (fun l g' wu hB hl hn hp K hK => ?_) ?_
        · have e7 : g' 12 = .bool true := (hp 7 (by decide)).2; have e12 : g' 17 = .bool true := (hp 12 (by decide)).2; simp only [mkM, maskMEC, mixM, Nat.reduceAdd, e7, e12] at hK ⊢; clear e7 e12; simp only [Act.put, List.setIfInBounds_toArray, List.set_cons_zero, List.set_cons_succ] at hK; go_simp; exact hK.out _ _ hB GF.same rfl
        refine StepsM.cons (fun l g' wu hB hl hn hp K hK => ?_) ?_
        · have e13 : g' 18 = .bool true := (hp 13 (by decide)).2; simp only [mkM, maskMEC, mixM, Nat.reduceAdd, e13] at hK ⊢; clear e13; simp only [Act.put, List.setIfInBounds_toArray, List.set_cons_zero, List.set_cons_succ] at hK; go_simp; exact hK.out _ _ hB GF.same rfl
        refine StepsM.cons (fun l g' wu hB hl hn hp K hK => ?_) ?_
        · have e14 : g' 19 = .bool true := (hp 14 (by decide)).2; simp only [mkM, maskMEC, mixM, Nat.reduceAdd, e14] at hK ⊢; clear e14; simp only [Act.put, List.setIfInBounds_toArray, List.set_cons_zero, List.set_cons_succ] at hK; go_simp; exact hK.out _ _ hB GF.same rfl
        refine StepsM.cons (fun l g' wu hB hl hn hp K hK => ?_) ?_
        · have e14 : g' 19 = .bool true := (hp 14 (by decide)).2; have e15 : g' 20 = .pointer (some ⟨g, 0, none⟩) := (hp 15 (by decide)).2; simp only [mkM, maskMEC, mixM, Nat.reduceAdd, e14, e15] at hK ⊢; clear e14 e15; simp only [Act.put, List.setIfInBounds_toArray, List.set_cons_zero, List.set_cons_succ] at hK; go_simp; exact hK.out _ _ hB GF.same rfl
        refine StepsM.cons (fun l g' wu hB hl hn hp K hK => ?_) ?_
        · have e14 : g' 19 = .bool true := (hp 14 (by decide)).2; have e16 : g' 21 = .pointer (some ⟨g, 0, none⟩) := (hp 16 (by decide)).2; simp only [mkM, maskMEC, mixM, Nat.reduceAdd, e14, e16] at hK ⊢; clear e14 e16; simp only [Act.put, List.setIfInBounds_toArray, List.set_cons_zero, List.set_cons_succ] at hK; go_simp; exact hK.out _ _ hB GF.same rfl
        refine StepsM.cons (fun l g' wu hB hl hn hp K hK => ?_) ?_
        · have hbb := hB; have e14 : g' 19 = .bool true := (hp 14 (by decide)).2; have e17 : g' 22 = .pointer (some ⟨g, 0, none⟩) := (hp 17 (by decide)).2; have hc := g0 _ hbb; simp only [mkM, maskMEC, mixM, Nat.reduceAdd, e14, e17] at hK ⊢; clear e14 e17; simp only [Act.put, List.setIfInBounds_toArray, List.set_cons_zero, List.set_cons_succ] at hK; go_simp; exact hK.out _ _ hB GF.same rfl
        refine StepsM.cons (fun l g' wu hB hl hn hp K hK => ?_) ?_
        · have hbb := hB; have e14 : g' 19 = .bool true := (hp 14 (by decide)).2; have hc := gA _ hbb; simp only [mkM, maskMEC, mixM, Nat.reduceAdd, e14] at hK ⊢; clear e14; simp only [Act.put, List.setIfInBounds_toArray, List.set_cons_zero, List.set_cons_succ] at hK; go_simp; exact hK.out _ _ hB GF.same rfl
        refine StepsM.cons (fun l g' wu hB hl hn hp K hK => ?_) ?_
        · have e14 : g' 19 = .bool true := (hp 14 (by decide)).2; simp only [mkM, maskMEC, mixM, Nat.reduceAdd, e14] at hK ⊢; clear e14; simp only [Act.put, List.setIfInBounds_toArray, List.set_cons_zero, List.set_cons_succ] at hK; go_simp; exact hK.out _ _ hB GF.same rfl
        refine StepsM.cons (fun l g' wu hB hl hn hp K hK => ?_) ?_
        · have e14 : g' 19 = .bool true := (hp 14 (by decide)).2; have e20 : g' 25 = .pointer (some ⟨g, 0, none⟩) := (hp 20 (by decide)).2; simp only [mkM, maskMEC, mixM, Nat.reduceAdd, e14, e20] at hK ⊢; clear e14 e20; simp only [Act.put, List.setIfInBounds_toArray, List.set_cons_zero, List.set_cons_succ] at hK; go_simp; exact hK.out _ _ hB GF.same rfl
        refine StepsM.cons (fun l g' wu hB hl hn hp K hK => ?_) ?_
        · have e14 : g' 19 = .bool true := (hp 14 (by decide)).2; have e21 : g' 26 = .pointer (some ⟨g, 0, none⟩) := (hp 21 (by decide)).2; simp only [mkM, maskMEC, mixM, Nat.reduceAdd, e14, e21] at hK ⊢; clear e14 e21; simp only [Act.put, List.setIfInBounds_toArray, List.set_cons_zero, List.set_cons_succ] at hK; go_simp; exact hK.out _ _ hB GF.same rfl
        refine StepsM.cons (fun l g' wu hB hl hn hp K hK => ?_) ?_
        · have hbb := hB; have e14 : g' 19 = .bool true := (hp 14 (by decide)).2; have e22 : g' 27 = .pointer (some ⟨g, 1, none⟩) := (hp 22 (by decide)).2; have hc := g1 _ hbb; simp only [mkM, maskMEC, mixM, Nat.reduceAdd, e14, e22] at hK ⊢; clear e14 e22; simp only [Act.put, List.setIfInBounds_toArray, List.set_cons_zero, List.set_cons_succ] at hK; go_simp; exact hK.out _ _ hB GF.same rfl
        refine StepsM.cons (fun l g' wu hB hl hn hp K hK => ?_) ?_
        · have hbb := hB; have e14 : g' 19 = .bool true := (hp 14 (by decide)).2; have e23 : g' 28 = .pointer (some ⟨rq, 0, none⟩) := (hp 23 (by decide)).2; simp only [mkM, maskMEC, mixM, Nat.reduceAdd, e14, e23] at hK ⊢; clear e14 e23; simp only [Act.put, List.setIfInBounds_toArray, List.set_cons_zero, List.set_cons_succ] at hK; go_simp; go_at_call 33; refine (modulus_any rq Q _ (HQ.out.below hbb)).mono ?_; rintro e w7 ⟨ta, tl, tc, rfl, hx, hb⟩; go_wp2_with fail; exact hK.out _ _ (BB.step hbb hb) (GF.below hb) ⟨ta, tl, tc, rfl, hx⟩
        refine StepsM.cons (fun l g' wu hB hl hn hp K hK => ?_) ?_
        · have hbb := hB; have e14 : g' 19 = .bool true := (hp 14 (by decide)).2; have e18 : g' 23 = .pointer (some ⟨rp, 0, none⟩) := (hp 18 (by decide)).2; have e19 : g' 24 = .agg #[.slice a len cap] := (hp 19 (by decide)).2; obtain ⟨x24, l24, c24, e24, h24⟩ := (hp 24 (by decide)).2; have e24 : g' 29 = .agg #[.slice x24 l24 c24] := e24; simp only [mkM, maskMEC, mixM, Nat.reduceAdd, e14, e18, e19, e24] at hK ⊢; clear e14 e18 e19 e24; simp only [Act.put, List.setIfInBounds_toArray, List.set_cons_zero, List.set_cons_succ] at hK; go_simp; go_at_call 85; refine (rexp_any rp P a x24 len cap l24 c24 n Q _ (HP.out.below hbb) (HN.out.below hbb) h24).mono ?_; rintro e w7 ⟨ta, tl, tc, rfl, hx, hb⟩; go_wp2_with fail; exact hK.out _ _ (BB.step hbb hb) (GF.below hb) ⟨ta, tl, tc, rfl, hx⟩
        refine StepsM.cons (fun l g' wu hB hl hn hp K hK => ?_) ?_
        · have hbb := hB; have e14 : g' 19 = .bool true := (hp 14 (by decide)).2; simp only [mkM, maskMEC, mixM, Nat.reduceAdd, e14] at hK ⊢; clear e14; simp only [Act.put, List.setIfInBounds_toArray, List.set_cons_zero, List.set_cons_succ] at hK; go_simp; go_at_call 20; refine (new_s 1 _ (by decide)).mono ?_; rintro e w7 ⟨ta, tl, tc, rfl, hx, hb⟩; go_wp2_with fail; exact hK.out _ _ (BB.step hbb hb) (GF.below hb) ⟨ta, tl, tc, rfl, hx⟩
        refine StepsM.cons (fun l g' wu hB hl hn hp K hK => ?_) ?_
        · have hbb := hB; have e14 : g' 19 = .bool true := (hp 14 (by decide)).2; obtain ⟨x25, l25, c25, e25, h25⟩ := (hp 25 (by decide)).2; have e25 : g' 30 = .agg #[.slice x25 l25 c25] := e25; obtain ⟨x26, l26, c26, e26, h26⟩ := (hp 26 (by decide)).2; have e26 : g' 31 = .agg #[.slice x26 l26 c26] := e26; simp only [mkM, maskMEC, mixM, Nat.reduceAdd, e14, e25, e26] at hK ⊢; clear e14 e25 e26; simp only [Act.put, List.setIfInBounds_toArray, List.set_cons_zero, List.set_cons_succ] at hK; go_simp; go_at_call 25; refine (cmp_s x25 x26 l25 c25 l26 c26 _ 1 _ h25 h26).mono ?_; rintro e w7 ⟨rfl, hb⟩; go_wp2_with fail; exact hK.out _ _ (BB.step hbb hb) (GF.below hb) rfl
        refine StepsM.cons (fun l g' wu hB hl hn hp K hK => ?_) ?_
        · have e14 : g' 19 = .bool true := (hp 14 (by decide)).2; have e27 : g' 32 = .int .i64 (cmpNat (n ^ Q % P) 1) := (hp 27 (by decide)).2; simp only [mkM, maskMEC, mixM, Nat.reduceAdd, e14, e27] at hK ⊢; clear e14 e27; simp only [Act.put, List.setIfInBounds_toArray, List.set_cons_zero, List.set_cons_succ] at hK; go_simp; exact hK.out _ _ hB GF.same rfl
        refine StepsM.cons (fun l g' wu hB hl hn hp K hK => ?_) ?_
        · have e14 : g' 19 = .bool true := (hp 14 (by decide)).2; have e28 : g' 33 = .bool (cmpNat (n ^ Q % P) 1 == 0) := (hp 28 (by decide)).2; simp only [mkM, maskMEC, mixM, Nat.reduceAdd, e14, e28] at hK ⊢; clear e14 e28; simp only [Act.put, List.setIfInBounds_toArray, List.set_cons_zero, List.set_cons_succ] at hK; go_simp; exact hK.out _ _ hB GF.same rfl
        refine StepsM.cons (fun l g' wu hB hl hn hp K hK => ?_) ?_
        · have e29 : g' 34 = .bool (cmpNat (n ^ Q % P) 1 == 0) := (hp 29 (by decide)).2; simp only [mkM, maskMEC, mixM, Nat.reduceAdd, e29] at hK ⊢; clear e29; simp only [Act.put, List.setIfInBounds_toArray, List.set_cons_zero, List.set_cons_succ] at hK; go_simp; exact hK.out _ _ hB GF.same rfl
        exact StepsM.nil
      · intro l g' wu hall hB hG
        have e30 : g' 4 = .bool (cmpNat (n ^ Q % P) 1 == 0) := hG 30 (by decide)
        simp only [mkM, maskMEC, mixM, Nat.reduceAdd, e30]
        clear hG hall e30
        go_wp2_with fail
        go_ret
        refine ⟨ret_bool ?_, HB.out.trans (Below.mono hB HB.out.size)⟩
        rw [cmp_eq_dec]
        exact decide_eq_decide.2 ⟨fun h => ⟨HZ.out, HC.out, h⟩, fun h => h.2.2⟩

/-- All of them are members. -/
def AllM (P Q : Nat) (p : List Nat) : Prop := ∀ i, i < p.length → IsMember P Q (p.getD i 0)
instance (P Q : Nat) (p : List Nat) : Decidable (AllM P Q p) := by unfold AllM; exact inferInstance

set_option maxRecDepth 100000 in
set_option maxHeartbeats 4000000 in
theorem members_any (g P Q G H sz : Nat) (a : Option Addr) (len cap : Nat) (p : List Nat) (w : World) (h : GroupAt w g P Q G H sz) (hp : NatsAt w a p) (hl : p.length = len) (hcc : (len : Int) ≤ cap) (hc : (len : Int) ≤ 10000) :
    Calls Try.prog 53 #[.pointer (some ⟨g, 0, none⟩), .slice a len cap] w fun e w' => e = .returned (.bool (decide (AllM P Q p))) ∧ Below w.heap.size w w' := by
  have HG := Lib.hid h
  have HA := Lib.hid hp
  have HL := Lib.hid hl
  clear h hp hl
  go_enter Try.func53, Try.ntmps53
  go_wp2_with fail
  go_loopw [9] (fun iv wr => ∃ i : Nat, (i : Int) ≤ len ∧ iv = .int .i64 (i : Int) ∧ Hid (∀ j, j < i → IsMember P Q (p.getD j 0)) ∧ Hid (Below w.heap.size w wr)) (fun iv _ => len - (intOf iv).toNat)
  case atStart => exact ⟨0, by omega, rfl, (fun j h => by omega), Below.refl _ _⟩
  case round =>
    obtain ⟨i, hi, rfl, HM, HB⟩ := hrel
    by_cases hlt : (i : Int) < len
    · have hil : i < p.length := by rw [HL.out]; omega
      obtain ⟨ad, xa, xl, xc, rfl, _, cx, nx⟩ := (HA.out.below HB.out).get hil
      obtain ⟨x, hx⟩ : ∃ x, p.getD i 0 = x := ⟨_, rfl⟩
      rw [hx] at nx
      have HX := Lib.hid hx
      have HIL := Lib.hid hil
      have hbx := (Below.refl _ wr).alloc (Nat.le_refl _) (Obj.cells #[Value.slice xa xl xc] 33)
      have HN2 := Lib.hid (nx.below hbx)
      have HB2 := Lib.hid (HB.out.trans (hbx.mono HB.out.size))
      have HG2 := Lib.hid (HG.out.below HB2.out)
      clear hx nx hbx hil HB
      go_wp2_with fail
      clear cx
      generalize wr.alloc (Obj.cells #[Value.slice xa xl xc] 33) = w2 at HN2 HB2 HG2 ⊢
      refine (gmember_any g P Q G H sz xa xl xc x w2 HG2.out HN2.out).mono ?_
      rintro e w3 ⟨rfl, hb3⟩
      have HB3 := Lib.hid (HB2.out.trans (hb3.mono HB2.out.size))
      clear hb3
      by_cases hm : IsMember P Q x
      · have HMM := Lib.hid hm
        rw [decide_eq_true hm]
        clear hm
        go_wp2_with fail
        go_roundw
        case rel => exact ⟨i + 1, by omega, by go_num, (fun j hj => by
          rcases Nat.lt_or_ge j i with h5 | h5
          · exact HM.out j h5
          · obtain rfl : j = i := by omega
            rw [HX.out]; exact HMM.out), HB3.out⟩
        case measure => simp [intOf]; omega
      · have HMM := Lib.hid hm
        rw [decide_eq_false hm]
        clear hm
        go_wp2_with fail
        go_ret
        exact ⟨ret_bool (decide_eq_false (fun h => HMM.out (HX.out ▸ h i HIL.out))).symm, HB3.out⟩
    · have hi' : i = len := by omega
      subst hi'
      go_wp2_with fail
      go_ret
      exact ⟨ret_bool (decide_eq_true (fun j hj => HM.out j (by rw [← HL.out]; exact hj))).symm, HB.out⟩
end Go.Proofs.Ythefednendgclaa
