import Derived.Test.YthefednendgclaaDealT
import Derived.Test.YthefednendgclaaRefK
set_option linter.unusedVariables false
set_option linter.unusedSimpArgs false
/-
  The document's value of a polynomial.
-/
namespace Go.Proofs.Ythefednendgclaa
open Go Go.RowKit Sac NT

/-- Upwards: the sum, and the place's power. -/
def upw (q x : Nat) : List Nat → Nat → Nat → Nat
  | [], o, _ => o
  | c :: p, o, t => upw q x p ((o + c * t % q) % q) (t * x % q)
theorem upw_mo {q : Nat} (hq : 0 < q) (x : Nat) : ∀ (p : List Nat) (o t : Nat), o < q → Mo q (upw q x p o t) ((o : Int) + (t : Int) * Poly.ev (zs p) x)
  | [], o, t, h => (Mo.lt h).cg (Cg.of_eq (by simp [Poly.ev]))
  | c :: p, o, t, h => by
    refine (upw_mo hq x p ((o + c * t % q) % q) (t * x % q) (Nat.mod_lt _ hq)).cg ?_
    have h1 : Cg q (((o + c * t % q) % q : Nat) : Int) ((o : Int) + (c : Int) * (t : Int)) := (Mo.add hq (Cg.refl q (o : Int)) (Mo.mul hq (Cg.refl q (c : Int)) (Cg.refl q (t : Int))).2).2
    have h2 : Cg q ((t * x % q : Nat) : Int) ((t : Int) * (x : Int)) := (Mo.mul hq (Cg.refl q (t : Int)) (Cg.refl q (x : Int))).2
    refine (h1.add (h2.mul (Cg.refl q (Poly.ev (zs p) x)))).trans (Cg.of_eq ?_)
    simp only [zs_cons, Poly.ev]
    rw [Int.mul_add, Int.mul_comm (c : Int), Int.add_assoc, Int.mul_assoc]
theorem upw_eq {q : Nat} (hq : 0 < q) (p : List Nat) (x : Nat) : upw q x p 0 (1 % q) = evalm q p (x % q) := by
  refine (upw_mo hq x p 0 (1 % q) hq).uniq (evalm_mod hq p x) ?_
  have h1 : Cg q ((1 % q : Nat) : Int) 1 := Cg.mod 1
  exact ((Cg.refl q (0 : Int)).add (h1.mul (Cg.refl q _))).trans (Cg.of_eq (by simp))
theorem upw_drop {q x : Nat} {p : List Nat} {i o t : Nat} (h : i < p.length) : upw q x (p.drop i) o t = upw q x (p.drop (i + 1)) ((o + p.getD i 0 * t % q) % q) (t * x % q) := by
  rw [List.drop_eq_getElem_cons h, List.getD_eq_getElem?_getD, List.getElem?_eq_getElem h]
  rfl

set_option maxRecDepth 100000 in
set_option maxHeartbeats 4000000 in
theorem beval_any (qv v u : Value) (Q x : Nat) (p : List Nat) (w : World) (hq : BN w qv Q) (hv : BRow w v p) (hu : BN w u x) (hQ0 : 0 < Q) (hLQ : Bt.len Q ≤ 400) (hx : Bt.len x ≤ 400) (hps : ∀ a ∈ p, Bt.len a ≤ 400) (hc : (p.length : Int) ≤ 10000) :
    Calls Try.prog 109 #[qv, v, u] w (RetB (evalm Q p (x % Q)) w) := by
  obtain ⟨R, hR⟩ : ∃ R, evalm Q p (x % Q) = R := ⟨_, rfl⟩
  have HUR : Hid (upw Q x (p.drop 0) 0 (1 % Q) = R) := by show _ = _; rw [List.drop_zero, upw_eq hQ0, hR]
  rw [hR]
  clear hR
  have HQ := Lib.hid hq
  have HV := Lib.hid hv
  have HU := Lib.hid hu
  obtain ⟨len, hlen⟩ : ∃ len, p.length = len := ⟨_, rfl⟩
  obtain ⟨a, cap, rfl, hcap⟩ := hv.form
  have HLN := Lib.hid hlen
  have HPS := Lib.hid hps
  rw [hlen] at HV hcap hc ⊢
  have hcap' : (len : Int) ≤ cap := by omega
  clear hv hu hlen hps hq
  go_enter Try.func109, Try.ntmps109
  go_wp2_with fail
  have hbw := (Below.refl _ w).alloc (Nat.le_refl _) (Obj.cells #[] 4)
  generalize w.alloc (Obj.cells #[] 4) = w1 at hbw ⊢
  have HB1 := Lib.hid hbw
  have HQ1 := Lib.hid (HQ.out.below hbw)
  have HV1 := Lib.hid (HV.out.below hbw)
  have HU1 := Lib.hid (HU.out.below hbw)
  clear hbw HQ HV HU
  refine (bsmall_any 1 w1 (by decide)).mono ?_
  rintro e w2 ⟨o, rfl, ho, hb2⟩
  have HO2 := Lib.hid ho
  have HB2 := Lib.hid hb2
  clear ho hb2
  go_wp2_with fail
  refine (rof_any o qv 1 Q w2 HO2.out (HQ1.out.below HB2.out) hQ0 (by omega)).mono ?_
  rintro e w3 ⟨t0, rfl, ht, hb⟩
  have HT3 := Lib.hid ht
  have HB3 := Lib.hid (HB2.out.trans (hb.mono HB2.out.size))
  have HT1 := Lib.hid (Nat.le_trans (len_mod 1 hQ0) hLQ)
  clear ht hb HB2 HO2
  go_wp2_with fail
  have HQ3 := Lib.hid (HQ1.out.below HB3.out)
  have HV3 := Lib.hid (HV1.out.below HB3.out)
  have HU3 := Lib.hid (HU1.out.below HB3.out)
  have HBW := Lib.hid (HB1.out.trans (HB3.out.mono HB1.out.size))
  have HBS : Hid (w.heap.size ≤ w3.heap.size) := HBW.out.size
  clear HB3 HB1 HQ1 HV1 HU1
  generalize hs0 : w.heap.size = s0 at HBW HBS ⊢
  have HSE := Lib.hid hs0
  clear hs0
  go_loopw [7, 8, 17] (fun ov tv iv wr => ∃ (i : Nat) (y z : Value) (o t : Nat), y = ov ∧ z = tv ∧ i ≤ len ∧ iv = .int .i64 (i : Int) ∧ Hid (BN wr y o) ∧ Hid (BN wr z t) ∧ Hid (Bt.len o ≤ 400) ∧ Hid (Bt.len t ≤ 400) ∧ Hid (upw Q x (p.drop i) o t = R) ∧ Hid (BB w3 wr)) (fun _ _ iv _ => len - (intOf iv).toNat)
  case atStart => exact ⟨0, _, _, 0, 1 % Q, rfl, rfl, Nat.zero_le _, rfl, BN.mk' (BitsAt.zero _ _ _) rfl (Nat.le_refl _) (by decide) (by decide), HT3.out, (by show Bt.len 0 ≤ 400; decide), HT1.out, HUR.out, BB.refl _⟩
  case round =>
    clear HT3 HT1 HUR
    obtain ⟨i, y, z, o, t, rfl, rfl, hi, rfl, HY, HZ, HLO, HLT, HR, HBR⟩ := hrel
    by_cases hlt : (i : Int) < len
    · have hil : i < p.length := by rw [HLN.out]; omega
      have hst := HR.out
      rw [upw_drop hil] at hst
      obtain ⟨ad, ca, cl, cc, rfl, gC, nC⟩ := (HV3.out.below HBR.out).get hil
      obtain ⟨c, hcx⟩ : ∃ c, p.getD i 0 = c := ⟨_, rfl⟩
      have hcl : Bt.len c ≤ 400 := by rw [← hcx, List.getD_eq_getElem?_getD, List.getElem?_eq_getElem hil]; exact HPS.out _ (List.getElem_mem hil)
      rw [hcx] at nC hst
      have HC := Lib.hid nC
      have HST := Lib.hid hst
      have HCL := Lib.hid hcl
      have HQR := Lib.hid (HQ3.out.below HBR.out)
      have HUR := Lib.hid (HU3.out.below HBR.out)
      have cC := gC wr (BB.refl _)
      have b0 : (0 : Int) ≤ (i : Int) := by omega
      have b2 : (i : Int) ≤ (cap : Int) := by omega
      clear hcx hcl nC hst hil gC HR
      go_wp2_with fail
      refine (brmul_any (.slice ca cl cc) z qv c t Q wr HC.out HZ.out HQR.out hQ0 hLQ HCL.out HLT.out).mono ?_
      rintro e w4 ⟨y4, rfl, h4, hb4⟩
      obtain ⟨d, hd⟩ : ∃ d, c * t % Q = d := ⟨_, rfl⟩
      have HDL : Hid (Bt.len d ≤ 400) := hd ▸ Nat.le_trans (len_mod _ hQ0) hLQ
      rw [hd] at h4
      have HD4 := Lib.hid h4
      have HDD := Lib.hid hd
      have hbb4 : BB wr w4 := hb4
      clear h4 hb4 hd
      go_wp2_with fail
      refine (bradd_any y y4 qv o d Q w4 (HY.out.below hbb4) HD4.out (HQR.out.below hbb4) hQ0 hLQ HLO.out HDL.out).mono ?_
      rintro e w5 ⟨y5, rfl, h5, hb5⟩
      have HO5 := Lib.hid h5
      have hbb5 : BB wr w5 := BB.step hbb4 hb5
      clear h5 hb5
      go_wp2_with fail
      refine (brmul_any z u qv t x Q w5 (HZ.out.below hbb5) (HUR.out.below hbb5) (HQR.out.below hbb5) hQ0 hLQ HLT.out hx).mono ?_
      rintro e w6 ⟨y6, rfl, h6, hb6⟩
      have HO6 := Lib.hid (HO5.out.below hb6)
      have HT6 := Lib.hid h6
      have hbb6 : BB wr w6 := BB.step hbb5 hb6
      clear h6 hb6
      go_wp2_with fail
      go_roundw
      case rel => exact ⟨i + 1, _, _, _, _, rfl, rfl, by omega, by go_num, HO6.out, HT6.out, Nat.le_trans (len_mod _ hQ0) hLQ, Nat.le_trans (len_mod _ hQ0) hLQ, (by show _ = _; rw [← HDD.out]; exact HST.out), BB.step HBR.out hbb6⟩
      case measure => simp [intOf]; omega
    · have hi' : i = len := by omega
      subst hi'
      have hrr := HR.out
      rw [List.drop_eq_nil_of_le (by rw [HLN.out]; exact Nat.le_refl _)] at hrr
      have HRR : Hid (o = R) := hrr
      clear hrr
      go_wp2_with fail
      go_ret
      exact ⟨_, rfl, HRR.out ▸ HY.out, HSE.out ▸ HBW.out.trans (Below.mono HBR.out HBS.out)⟩
end Go.Proofs.Ythefednendgclaa
/-
  The document's share of a peer.
-/
namespace Go.Proofs.Ythefednendgclaa
open Go Go.RowKit Sac

theorem BN.sset {w : World} {v : Value} {n g : Nat} {T : TypeId} {cs : List Value} (h : BN w v n) (hB : Blk w g T cs) (hne : 4 ≠ T) (o : Nat) (u : Value) : BN (w.setCell ⟨g, o, none⟩ u) v n :=
  h.same fun k hk => heap_setCell_other _ _ _ _ (hk.ne hB hne)
theorem bn_slice {w : World} {v : Value} {n : Nat} (h : BN w v n) : ∃ (a : Option Addr) (l c : Nat), v = .slice a l c ∧ BN w (.slice a l c) n := by
  obtain ⟨a, cap, rfl, h2⟩ := id h
  exact ⟨a, _, cap, rfl, h⟩
def KpS (w w' : World) : Prop := ∀ v n, BN w v n → BN w' v n
def Fk.sbn (n : Nat) : Fk KpS := ⟨fun v w => BN w v n, fun _ _ _ hb h => h.below hb, true, fun _ v _ _ hk h => hk v n h⟩
def IsPairB (x y : Nat) (v : Value) (w : World) : Prop := ∃ (a : Option Addr) (l c : Nat) (a' : Option Addr) (l' c' : Nat), v = .agg #[.slice a l c, .slice a' l' c'] ∧ BN w (.slice a l c) x ∧ BN w (.slice a' l' c') y
def Fk.pairB (x y : Nat) : Fk KpS := ⟨IsPairB x y, fun _ _ _ hb ⟨a, l, c, a', l', c', e, h1, h2⟩ => ⟨a, l, c, a', l', c', e, h1.below hb, h2.below hb⟩, true, fun _ _ _ _ hk ⟨a, l, c, a', l', c', e, h1, h2⟩ => ⟨a, l, c, a', l', c', e, hk _ _ h1, hk _ _ h2⟩⟩
def PairBAt (w w' : World) (s x y : Nat) : Prop := ∃ (a : Option Addr) (l c : Nat) (a' : Option Addr) (l' c' : Nat), Blk w' (s + 1 + 1) 96 [.slice a l c, .slice a' l' c'] ∧ BN w' (.slice a l c) x ∧ BN w' (.slice a' l' c') y ∧ Below s w w'
theorem PairBAt.below {w w' w'' : World} {s x y : Nat} (h : PairBAt w w' s x y) (hb : Below w'.heap.size w' w'') : PairBAt w w'' s x y := by
  obtain ⟨a, l, c, a', l', c', h1, h2, h3, h4⟩ := h
  exact ⟨a, l, c, a', l', c', h1.below hb h1.lt, h2.below hb, h3.below hb, h4.trans (hb.mono (by have := h1.lt; omega))⟩
/-- A document's share handed back. -/
def RetSB (x y : Nat) (w : World) (e : Ending) (w' : World) : Prop := ∃ (a : Option Addr) (l c : Nat) (a' : Option Addr) (l' c' : Nat), e = .returned (.agg #[.slice a l c, .slice a' l' c']) ∧ BN w' (.slice a l c) x ∧ BN w' (.slice a' l' c') y ∧ Below w.heap.size w w'
theorem ret_bs {fn : Func} {p : Tmp} {R : Ending → World → Prop} {tmps : Array Value} {w : World} {g : Nat} {a b : Value} (h : fn.results = #[.cell p 96]) (hp : tmps.getD p undef = .pointer (some ⟨g, 0, none⟩))
    (hB : Blk w g 96 [a, b]) (hR : R (.returned (.agg #[a, b])) w) : bodyPost Try.prog fn R .ret { tmps, defers := [] } w :=
  bodyPost_ret (results_cell_row h _ _ g 96 #[a, b] (0, 0) _ hp hB Try.underlying96 rfl (by kernel_rfl)) rfl hR

def tabDO (v0 : Value) (v1 : Value) (v2 : Value) (v3 : Value) (v4 : Value) (p5 : Fk KpS) (v6 : Value) (v7 : Value) (v8 : Value) (v9 : Value) (v10 : Value) (p11 : Fk KpS) (p12 : Fk KpS) (last : Fk KpS) : List (Fk KpS) := [.val v0, .val v1, .val v2, .val v3, .val v4, p5, .val v6, .val v7, .val v8, .val v9, .val v10, p11, p12, last]
def dstDO : List (Option Tmp) := [some 11, some 12, some 13, some 14, some 15, some 16, some 17, some 18, some 19, some 20, some 21, some 22, some 23, none]
def preDO : List (List Nat) := [[], [0], [], [2], [], [0, 1, 2, 3, 4], [], [6], [], [8], [], [0, 1, 2, 3, 4, 5, 6, 7, 8, 9, 10], [0, 1, 2, 3, 4, 5, 6, 7, 8, 9, 10, 11], [0, 1, 2, 3, 4, 5, 6, 7, 8, 9, 10, 11, 12]]
def maskDO : List Bool := [false, false, false, false, false, false, false, false, false, false, false, true, true, true, true, true, true, true, true, true, true, true, true, true]

set_option maxRecDepth 100000 in
set_option maxHeartbeats 4000000 in
theorem bdof_any (gv : Value) (P Q G H : Nat) (va : Option Addr) (vl vc : Nat) (V : List Nat) (ma : Option Addr) (ml mc : Nat) (M : List Nat) (x : Nat) (w : World) (hg : BG w gv P Q G H) (h1 : x ≤ 64) (hQ0 : 0 < Q) (hLQ : Bt.len Q ≤ 400) (hV : BRow w (.slice va vl vc) V) (hM : BRow w (.slice ma ml mc) M) (hps : ∀ a ∈ V, Bt.len a ≤ 400) (hps' : ∀ a ∈ M, Bt.len a ≤ 400) (hcV : (V.length : Int) ≤ 10000) (hcM : (M.length : Int) ≤ 10000) :
    Calls Try.prog 66 #[.agg #[.slice va vl vc, .slice ma ml mc], gv, .int .i64 (x : Int)] w (RetSB (evalm Q V (x % Q)) (evalm Q M (x % Q)) w) := by
  obtain ⟨pa, pl, pc, qa, ql, qc, ga, gl, gc, ja, jl, jc, rfl, _, hQ, _, _⟩ := hg
  obtain ⟨A, hA⟩ : ∃ A, evalm Q V (x % Q) = A := ⟨_, rfl⟩
  obtain ⟨C, hC⟩ : ∃ C, evalm Q M (x % Q) = C := ⟨_, rfl⟩
  rw [hA, hC]
  have HA := Lib.hid hA
  have HC := Lib.hid hC
  clear hA hC
  have hlx : Bt.len x ≤ 400 := Nat.le_trans (Bt.len_mono (show x ≤ 64 from h1)) (by decide)
  have HL := Lib.hid (And.intro hQ0 (And.intro hLQ (And.intro hlx (And.intro hps (And.intro hps' (And.intro hcV hcM))))))
  have hx64 : x < 18446744073709551616 := by omega
  obtain ⟨s, hs⟩ : ∃ s, s = w.heap.size := ⟨_, rfl⟩
  have hbA := (Below.refl _ w).alloc (Nat.le_refl _) (Obj.cells #[Value.slice va vl vc, Value.slice ma ml mc] 86)
  have hbB : BB w ((w.alloc (Obj.cells #[Value.slice va vl vc, Value.slice ma ml mc] 86)).alloc (Obj.cells #[Value.slice pa pl pc, Value.slice qa ql qc, Value.slice ga gl gc, Value.slice ja jl jc] 62)) := BB.alloc hbA
  have hbC : BB w (((w.alloc (Obj.cells #[Value.slice va vl vc, Value.slice ma ml mc] 86)).alloc (Obj.cells #[Value.slice pa pl pc, Value.slice qa ql qc, Value.slice ga gl gc, Value.slice ja jl jc] 62)).alloc (Obj.cells #[Value.slice none 0 0, Value.slice none 0 0] 96)) := BB.alloc hbB
  have hD : Blk (((w.alloc (Obj.cells #[Value.slice va vl vc, Value.slice ma ml mc] 86)).alloc (Obj.cells #[Value.slice pa pl pc, Value.slice qa ql qc, Value.slice ga gl gc, Value.slice ja jl jc] 62)).alloc (Obj.cells #[Value.slice none 0 0, Value.slice none 0 0] 96)) s 86 [.slice va vl vc, .slice ma ml mc] := ((Blk.new' w _ _ s hs).alloc _).alloc _
  have hE : Blk (((w.alloc (Obj.cells #[Value.slice va vl vc, Value.slice ma ml mc] 86)).alloc (Obj.cells #[Value.slice pa pl pc, Value.slice qa ql qc, Value.slice ga gl gc, Value.slice ja jl jc] 62)).alloc (Obj.cells #[Value.slice none 0 0, Value.slice none 0 0] 96)) (s + 1) 62 [.slice pa pl pc, .slice qa ql qc, .slice ga gl gc, .slice ja jl jc] := (Blk.new' _ _ _ (s + 1) (by rw [hs]; simp)).alloc _
  have hS : Blk (((w.alloc (Obj.cells #[Value.slice va vl vc, Value.slice ma ml mc] 86)).alloc (Obj.cells #[Value.slice pa pl pc, Value.slice qa ql qc, Value.slice ga gl gc, Value.slice ja jl jc] 62)).alloc (Obj.cells #[Value.slice none 0 0, Value.slice none 0 0] 96)) (s + 1 + 1) 96 [.slice none 0 0, .slice none 0 0] := Blk.new' _ _ _ (s + 1 + 1) (by rw [hs]; simp)
  have HQ2 := Lib.hid (hQ.below hbC)
  have HV2 := Lib.hid (hV.below hbC)
  have HM2 := Lib.hid (hM.below hbC)
  have HB2 : Hid (Below s w (((w.alloc (Obj.cells #[Value.slice va vl vc, Value.slice ma ml mc] 86)).alloc (Obj.cells #[Value.slice pa pl pc, Value.slice qa ql qc, Value.slice ga gl gc, Value.slice ja jl jc] 62)).alloc (Obj.cells #[Value.slice none 0 0, Value.slice none 0 0] 96))) := hs.symm ▸ hbC
  have HSS := Lib.hid hs
  have HD2 := Lib.hid hD
  have HE2 := Lib.hid hE
  have HS2 := Lib.hid hS
  have hw : IntKind.u64.wrap (x : Int) = (x : Int) := wraps_u64 _ (by omega) (by omega)
  clear hQ hV hM hbA hbB hbC hD hE hS hQ0 hLQ hps hps' hcV hcM hlx
  go_enter Try.func66, Try.ntmps66
  go_wp2_with fail
  rw [← hs]
  clear hs
  generalize ((w.alloc (Obj.cells #[Value.slice va vl vc, Value.slice ma ml mc] 86)).alloc (Obj.cells #[Value.slice pa pl pc, Value.slice qa ql qc, Value.slice ga gl gc, Value.slice ja jl jc] 62)).alloc (Obj.cells #[Value.slice none 0 0, Value.slice none 0 0] 96) = w2 at HQ2 HV2 HM2 HB2 HD2 HE2 HS2 ⊢
  refine (bsmall_any x w2 hx64).mono ?_
  rintro e w4 ⟨xv, rfl, hx, hb4⟩
  have HX := Lib.hid hx
  have HQ := Lib.hid (HQ2.out.below hb4)
  have HV := Lib.hid (HV2.out.below hb4)
  have HM := Lib.hid (HM2.out.below hb4)
  have hD4 := HD2.out.below hb4 HD2.out.lt
  have hE4 := HE2.out.below hb4 HE2.out.lt
  have HS4 := Lib.hid (HS2.out.below hb4 HS2.out.lt)
  have HB4 := Lib.hid (HB2.out.trans (hb4.mono (Nat.le_of_lt HD2.out.lt)))
  have HZ4 : Hid (s ≤ w4.heap.size) := Nat.le_of_lt hD4.lt
  have k0 : ∀ w', BB w4 w' → w'.cell? ⟨s, 0, none⟩ = some (.slice va vl vc) := fun w' hb => (BB.cell hb hD4.lt).trans (hD4.cell 0)
  have k1 : ∀ w', BB w4 w' → w'.cell? ⟨s, 1, none⟩ = some (.slice ma ml mc) := fun w' hb => (BB.cell hb hD4.lt).trans (hD4.cell 1)
  have kq : ∀ w', BB w4 w' → w'.cell? ⟨s + 1, 1, none⟩ = some (.slice qa ql qc) := fun w' hb => (BB.cell hb hE4.lt).trans (hE4.cell 1)
  clear hb4 hx hD4 hE4 HQ2 HV2 HM2 HD2 HE2 HS2 HB2
  go_wp2_with fail
  refine wp_region_mix (fun l w' => l 13 = false → BB w4 w') (GF (tabDO (.pointer (some ⟨s + 1, 1, none⟩)) (.slice qa ql qc) (.pointer (some ⟨s, 0, none⟩)) (.slice va vl vc) (xv) (Fk.sbn A) (.pointer (some ⟨s + 1, 1, none⟩)) (.slice qa ql qc) (.pointer (some ⟨s, 1, none⟩)) (.slice ma ml mc) (xv) (Fk.sbn C) (Fk.pairB A C) (Fk.rel (fun _ w' => PairBAt w w' s A C) (fun _ _ _ hb h => h.below hb)))) maskDO dstDO preDO (by kernel_rfl) (by kernel_rfl) rfl (by kernel_rfl) (by kernel_rfl) (by kernel_rfl) (by kernel_rfl) (fun _ => BB.drew (BB.refl _)) ?_ ?_
  · refine StepsM.cons (fun l g' wu hB hl hn hp K hK => ?_) ?_
    · simp only [mkM, maskDO, mixM, Nat.reduceAdd] at hK ⊢; simp only [Act.put, List.setIfInBounds_toArray, List.set_cons_zero, List.set_cons_succ] at hK; go_simp; exact hK.out _ _ (fun h => hB (by simpa [setL] using h)) GF.same rfl
    refine StepsM.cons (fun l g' wu hB hl hn hp K hK => ?_) ?_
    · have hbb := hB (hn 13 (by decide)); have e0 : g' 11 = .pointer (some ⟨s + 1, 1, none⟩) := (hp 0 (by decide)).2; have hc := kq _ hbb; simp only [mkM, maskDO, mixM, Nat.reduceAdd, e0] at hK ⊢; clear e0; simp only [Act.put, List.setIfInBounds_toArray, List.set_cons_zero, List.set_cons_succ] at hK; go_simp; exact hK.out _ _ (fun h => hB (by simpa [setL] using h)) GF.same rfl
    refine StepsM.cons (fun l g' wu hB hl hn hp K hK => ?_) ?_
    · simp only [mkM, maskDO, mixM, Nat.reduceAdd] at hK ⊢; simp only [Act.put, List.setIfInBounds_toArray, List.set_cons_zero, List.set_cons_succ] at hK; go_simp; exact hK.out _ _ (fun h => hB (by simpa [setL] using h)) GF.same rfl
    refine StepsM.cons (fun l g' wu hB hl hn hp K hK => ?_) ?_
    · have hbb := hB (hn 13 (by decide)); have e2 : g' 13 = .pointer (some ⟨s, 0, none⟩) := (hp 2 (by decide)).2; have hc := k0 _ hbb; simp only [mkM, maskDO, mixM, Nat.reduceAdd, e2] at hK ⊢; clear e2; simp only [Act.put, List.setIfInBounds_toArray, List.set_cons_zero, List.set_cons_succ] at hK; go_simp; exact hK.out _ _ (fun h => hB (by simpa [setL] using h)) GF.same rfl
    refine StepsM.cons (fun l g' wu hB hl hn hp K hK => ?_) ?_
    · simp only [mkM, maskDO, mixM, Nat.reduceAdd] at hK ⊢; simp only [Act.put, List.setIfInBounds_toArray, List.set_cons_zero, List.set_cons_succ] at hK; go_simp; exact hK.out _ _ (fun h => hB (by simpa [setL] using h)) GF.same rfl
    refine StepsM.cons (fun l g' wu hB hl hn hp K hK => ?_) ?_
    · have e1 : g' 12 = .slice qa ql qc := (hp 1 (by decide)).2; have e3 : g' 14 = .slice va vl vc := (hp 3 (by decide)).2; have e4 : g' 15 = xv := (hp 4 (by decide)).2; have hbb := hB (hn 13 (by decide)); simp only [mkM, maskDO, mixM, Nat.reduceAdd, e1, e3, e4] at hK ⊢; clear e1 e3 e4; simp only [Act.put, List.setIfInBounds_toArray, List.set_cons_zero, List.set_cons_succ] at hK; go_simp; go_at_call 109; refine (beval_any (.slice qa ql qc) (.slice va vl vc) xv Q x V wu (HQ.out.below hbb) (HV.out.below hbb) (HX.out.below hbb) HL.out.1 HL.out.2.1 HL.out.2.2.1 HL.out.2.2.2.1 HL.out.2.2.2.2.2.1).mono ?_; rw [HA.out]; rintro e w7 ⟨z, rfl, hz, hb⟩; go_wp2_with fail; exact hK.out _ _ (fun _ => BB.step hbb hb) (GF.below hb) hz
    refine StepsM.cons (fun l g' wu hB hl hn hp K hK => ?_) ?_
    · simp only [mkM, maskDO, mixM, Nat.reduceAdd] at hK ⊢; simp only [Act.put, List.setIfInBounds_toArray, List.set_cons_zero, List.set_cons_succ] at hK; go_simp; exact hK.out _ _ (fun h => hB (by simpa [setL] using h)) GF.same rfl
    refine StepsM.cons (fun l g' wu hB hl hn hp K hK => ?_) ?_
    · have hbb := hB (hn 13 (by decide)); have e6 : g' 17 = .pointer (some ⟨s + 1, 1, none⟩) := (hp 6 (by decide)).2; have hc := kq _ hbb; simp only [mkM, maskDO, mixM, Nat.reduceAdd, e6] at hK ⊢; clear e6; simp only [Act.put, List.setIfInBounds_toArray, List.set_cons_zero, List.set_cons_succ] at hK; go_simp; exact hK.out _ _ (fun h => hB (by simpa [setL] using h)) GF.same rfl
    refine StepsM.cons (fun l g' wu hB hl hn hp K hK => ?_) ?_
    · simp only [mkM, maskDO, mixM, Nat.reduceAdd] at hK ⊢; simp only [Act.put, List.setIfInBounds_toArray, List.set_cons_zero, List.set_cons_succ] at hK; go_simp; exact hK.out _ _ (fun h => hB (by simpa [setL] using h)) GF.same rfl
    refine StepsM.cons (fun l g' wu hB hl hn hp K hK => ?_) ?_
    · have hbb := hB (hn 13 (by decide)); have e8 : g' 19 = .pointer (some ⟨s, 1, none⟩) := (hp 8 (by decide)).2; have hc := k1 _ hbb; simp only [mkM, maskDO, mixM, Nat.reduceAdd, e8] at hK ⊢; clear e8; simp only [Act.put, List.setIfInBounds_toArray, List.set_cons_zero, List.set_cons_succ] at hK; go_simp; exact hK.out _ _ (fun h => hB (by simpa [setL] using h)) GF.same rfl
    refine StepsM.cons (fun l g' wu hB hl hn hp K hK => ?_) ?_
    · simp only [mkM, maskDO, mixM, Nat.reduceAdd] at hK ⊢; simp only [Act.put, List.setIfInBounds_toArray, List.set_cons_zero, List.set_cons_succ] at hK; go_simp; exact hK.out _ _ (fun h => hB (by simpa [setL] using h)) GF.same rfl
    refine StepsM.cons (fun l g' wu hB hl hn hp K hK => ?_) ?_
    · have e7 : g' 18 = .slice qa ql qc := (hp 7 (by decide)).2; have e9 : g' 20 = .slice ma ml mc := (hp 9 (by decide)).2; have e10 : g' 21 = xv := (hp 10 (by decide)).2; have hbb := hB (hn 13 (by decide)); simp only [mkM, maskDO, mixM, Nat.reduceAdd, e7, e9, e10] at hK ⊢; clear e7 e9 e10; simp only [Act.put, List.setIfInBounds_toArray, List.set_cons_zero, List.set_cons_succ] at hK; go_simp; go_at_call 109; refine (beval_any (.slice qa ql qc) (.slice ma ml mc) xv Q x M wu (HQ.out.below hbb) (HM.out.below hbb) (HX.out.below hbb) HL.out.1 HL.out.2.1 HL.out.2.2.1 HL.out.2.2.2.2.1 HL.out.2.2.2.2.2.2).mono ?_; rw [HC.out]; rintro e w7 ⟨z, rfl, hz, hb⟩; go_wp2_with fail; exact hK.out _ _ (fun _ => BB.step hbb hb) (GF.below hb) hz
    refine StepsM.cons (fun l g' wu hB hl hn hp K hK => ?_) ?_
    · have h5 : BN wu (g' 16) A := (hp 5 (by decide)).2; have h11 : BN wu (g' 22) C := (hp 11 (by decide)).2; obtain ⟨a5, l5, c5, ez5, n5⟩ := bn_slice h5; obtain ⟨a11, l11, c11, ez11, n11⟩ := bn_slice h11; simp only [mkM, maskDO, mixM, Nat.reduceAdd, ez5, ez11] at hK ⊢; simp only [Act.put, List.setIfInBounds_toArray, List.set_cons_zero, List.set_cons_succ] at hK; go_simp; exact hK.out _ _ (fun h => hB (by simpa [setL] using h)) GF.same ⟨a5, l5, c5, a11, l11, c11, rfl, n5, n11⟩
    refine StepsM.cons (fun l g' wu hB hl hn hp K hK => ?_) ?_
    · have hbb := hB hl; have h12 : IsPairB A C (g' 23) wu := (hp 12 (by decide)).2; obtain ⟨a1, l1, c1, a2, l2, c2, ez, n1, n2⟩ := h12; have hBk := HS4.out.below hbb HS4.out.lt; have HBk := Lib.hid hBk; have q0 := hBk.cell 0; have q1 := hBk.cell 1; have f0 := hBk.frozen 0; have f1 := hBk.frozen 1; simp only [List.getElem?_cons_zero, List.getElem?_cons_succ] at q0 q1; clear hBk; simp only [mkM, maskDO, mixM, Nat.reduceAdd, ez] at hK ⊢; simp only [Act.put, List.setIfInBounds_toArray, List.set_cons_zero, List.set_cons_succ] at hK; go_simp; exact hK.out undef _ (fun h => by simp [setL] at h) (GF.kept rfl (fun _ _ hn => (hn.sset HBk.out (by decide) 0 _).sset (HBk.out.set 0 _) (by decide) 1 _)) (⟨a1, l1, c1, a2, l2, c2, (HBk.out.set 0 _).set 1 _, (n1.sset HBk.out (by decide) 0 _).sset (HBk.out.set 0 _) (by decide) 1 _, (n2.sset HBk.out (by decide) 0 _).sset (HBk.out.set 0 _) (by decide) 1 _, ((HB4.out.trans (Below.mono hbb HZ4.out)).setCell (p := ⟨s + 1 + 1, 0, none⟩) (le_two s) _).setCell (p := ⟨s + 1 + 1, 1, none⟩) (le_two s) _⟩)
    exact StepsM.nil
  · intro l g' wu hall hB hG
    have h13 : PairBAt w wu s A C := hG 13 (by decide)
    obtain ⟨a1, l1, c1, a2, l2, c2, hb, n1, n2, hbel⟩ := h13
    have HH := Lib.hid (And.intro hb (And.intro n1 (And.intro n2 hbel)))
    simp only [mkM, maskDO, mixM, Nat.reduceAdd]
    clear hG hall hB hb n1 n2 hbel
    go_wp2_with fail
    exact ret_bs rfl rfl HH.out.1 ⟨a1, l1, c1, a2, l2, c2, rfl, HH.out.2.1, HH.out.2.2.1, HSS.out ▸ HH.out.2.2.2⟩
end Go.Proofs.Ythefednendgclaa
/-
  The document's dealing while it is made: two rows of its own and the struct that holds them.
-/
namespace Go.Proofs.Ythefednendgclaa
open Go Go.RowKit Sac

theorem OwnN.grown {w w' : World} {s b : Nat} {va vb : Value} {V M : List Nat} (h : OwnN w s vb M) (ho : OwnN w b va V) (hg : w.grownBy w' va.ownBlock) (hne : ∀ k, vb.ownBlock = some k → va.ownBlock ≠ some k) : OwnN w' s vb M := by
  obtain ⟨xs, h1, h2⟩ := h
  refine ⟨xs, h1.kept hg ?_, fun i hi => ?_⟩
  · rcases hv : vb.ownBlock with _ | k
    · exact .inl rfl
    · exact .inr fun e => hne k hv e.symm
  · obtain ⟨za, zl, zc, e, hb⟩ := h2 i hi
    exact ⟨za, zl, zc, e, (OwnN.kpq (B0 := w.heap.size) ho (fun k hk => (ho.lt hk).2) hg).1 _ _ hb⟩
theorem OwnN.ety {w : World} {s k : Nat} {v : Value} {ns : List Nat} (h : OwnN w s v ns) (hk : v.ownBlock = some k) : Ety w k 48 := by
  obtain ⟨xs, ho, _⟩ := h
  obtain ⟨hx, ⟨rfl, _, _⟩ | ⟨g, cap, rest, rfl, _, hB, _, _, _⟩⟩ := own_elim ho
  · cases hk
  · have : g = k := Option.some.inj hk
    subst this
    exact hB.ety
theorem OwnN.dset {w : World} {s D : Nat} {v : Value} {ns : List Nat} {T : TypeId} {cs : List Value} (h : OwnN w s v ns) (hB : Blk w D T cs) (h1 : 48 ≠ T) (h2 : 4 ≠ T) (o : Nat) (u : Value) : OwnN (w.setCell ⟨D, o, none⟩ u) s v ns := by
  have hne : ∀ k, v.ownBlock = some k → k ≠ D := fun k hk => (h.ety hk).ne hB h1
  obtain ⟨xs, ho, hv⟩ := h
  refine ⟨xs, own_only (F := fun k => k = D) ho (Only.setCell (F := fun k => k = D) (a := w) (w := w) (Only.refl _ _) (p := ⟨D, o, none⟩) (fun _ => rfl) u) (fun k hk => hne k hk), fun i hi => ?_⟩
  obtain ⟨za, zl, zc, e, hb⟩ := hv i hi
  exact ⟨za, zl, zc, e, hb.sset hB h2 o u⟩
/-- The state of a dealing that is being made. -/
def DN (w0 : World) (s D : Nat) (va vb : Value) (V M : List Nat) (w : World) : Prop :=
  OwnN w s va V ∧ OwnN w s vb M ∧ (∀ k, va.ownBlock = some k → vb.ownBlock ≠ some k) ∧ Blk w D 86 [va, vb] ∧ Below s w0 w ∧ s ≤ D
theorem DN.below {w0 w w' : World} {s D : Nat} {va vb : Value} {V M : List Nat} (h : DN w0 s D va vb V M w) (hb : Below w.heap.size w w') : DN w0 s D va vb V M w' := by
  obtain ⟨h1, h2, h3, h4, h5, h6⟩ := h
  exact ⟨h1.below hb, h2.below hb, h3, h4.below hb h4.lt, h5.trans (hb.mono (Nat.le_of_lt (Nat.lt_of_le_of_lt h6 h4.lt))), h6⟩
/-- What an append to the first row leaves behind, ahead of the store. -/
def DA (w0 : World) (s D : Nat) (va vb v' : Value) (V M : List Nat) (w : World) : Prop :=
  OwnN w s v' V ∧ OwnN w s vb M ∧ (∀ k, v'.ownBlock = some k → vb.ownBlock ≠ some k) ∧ Blk w D 86 [va, vb] ∧ Below s w0 w ∧ s ≤ D
theorem DN.app0 {w0 w w' : World} {s D x : Nat} {va vb v' : Value} {V M : List Nat} (h : DN w0 s D va vb V M w) (hn : OwnN w' s v' (V ++ [x])) (hg : w.grownBy w' va.ownBlock) (hf : ∀ k, v'.ownBlock = some k → va.ownBlock = some k ∨ w.heap.size ≤ k) : DA w0 s D va vb v' (V ++ [x]) M w' := by
  obtain ⟨h1, h2, h3, h4, h5, h6⟩ := h
  refine ⟨hn, h2.grown h1 hg (fun k hk e => h3 k e hk), fun k hk e => ?_, h4.same (hg.block D h4.lt fun e => ?_), below_grown h5 hg (fun k hk => (h1.lt hk).1) (Nat.le_of_lt (Nat.lt_of_le_of_lt h6 h4.lt)), h6⟩
  · rcases hf k hk with h | h
    · exact h3 k h e
    · have := (h2.lt e).2; omega
  · exact absurd rfl ((h1.ety e.symm).ne h4 (by decide))
theorem DA.set0 {w0 w : World} {s D : Nat} {va vb v' : Value} {V M : List Nat} (h : DA w0 s D va vb v' V M w) : DN w0 s D v' vb V M (w.setCell ⟨D, 0, none⟩ v') := by
  obtain ⟨h1, h2, h3, h4, h5, h6⟩ := h
  exact ⟨h1.dset h4 (by decide) (by decide) 0 v', h2.dset h4 (by decide) (by decide) 0 v', h3, h4.set 0 v', h5.setCell (p := ⟨D, 0, none⟩) h6 v', h6⟩
/-- .. the second row. -/
def DA1 (w0 : World) (s D : Nat) (va vb v' : Value) (V M : List Nat) (w : World) : Prop :=
  OwnN w s va V ∧ OwnN w s v' M ∧ (∀ k, va.ownBlock = some k → v'.ownBlock ≠ some k) ∧ Blk w D 86 [va, vb] ∧ Below s w0 w ∧ s ≤ D
theorem DN.app1 {w0 w w' : World} {s D x : Nat} {va vb v' : Value} {V M : List Nat} (h : DN w0 s D va vb V M w) (hn : OwnN w' s v' (M ++ [x])) (hg : w.grownBy w' vb.ownBlock) (hf : ∀ k, v'.ownBlock = some k → vb.ownBlock = some k ∨ w.heap.size ≤ k) : DA1 w0 s D va vb v' V (M ++ [x]) w' := by
  obtain ⟨h1, h2, h3, h4, h5, h6⟩ := h
  refine ⟨h1.grown h2 hg h3, hn, fun k hk e => ?_, h4.same (hg.block D h4.lt fun e => ?_), below_grown h5 hg (fun k hk => (h2.lt hk).1) (Nat.le_of_lt (Nat.lt_of_le_of_lt h6 h4.lt)), h6⟩
  · rcases hf k e with h | h
    · exact h3 k hk h
    · have := (h1.lt hk).2; omega
  · exact absurd rfl ((h2.ety e.symm).ne h4 (by decide))
theorem DA1.set1 {w0 w : World} {s D : Nat} {va vb v' : Value} {V M : List Nat} (h : DA1 w0 s D va vb v' V M w) : DN w0 s D va v' V M (w.setCell ⟨D, 1, none⟩ v') := by
  obtain ⟨h1, h2, h3, h4, h5, h6⟩ := h
  exact ⟨h1.dset h4 (by decide) (by decide) 1 v', h2.dset h4 (by decide) (by decide) 1 v', h3, h4.set 1 v', h5.setCell (p := ⟨D, 1, none⟩) h6 v', h6⟩
end Go.Proofs.Ythefednendgclaa
