/-
  The law's dealing out of small numbers.
-/
import Derived.Test.YthefednendgclaaGreatLaw14
set_option linter.unusedVariables false
set_option linter.unusedSimpArgs false
namespace Go.Proofs.YthefednendgclaaGreat
open Go Go.RowKit Sac NT

/-- A dealing made: a group, a threshold of 1 to 6, two polynomials. -/
def MadePost (k S R : Nat) (w : World) (e : Ending) (w' : World) : Prop := ∃ (g T : Nat) (l : List Nat) (va : Option Addr) (ca : Nat) (vb : Option Addr) (cb : Nat), e = .returned (.tuple #[.pointer (some ⟨g, 0, none⟩), .int .i64 (T : Int), .agg #[.slice va T ca, .slice vb T cb], .bool true]) ∧
  1 ≤ T ∧ T ≤ 6 ∧ 2 * T ≤ l.length + 2 ∧ (T : Int) ≤ ca ∧ (T : Int) ≤ cb ∧ GroupAt w' g (gP k) (gQ k) (gG k) (gH k) (gS k) ∧ NatsAt w' va (dvF (gQ k) S l (T - 1)) ∧ NatsAt w' vb (dvF (gQ k) R (l.drop (T - 1)) (T - 1)) ∧ Below w.heap.size w w'
/-- The same, and how the threshold was found. -/
def MadePostT (t : Int) (k S R : Nat) (w : World) (e : Ending) (w' : World) : Prop := ∃ (g T : Nat) (l : List Nat) (va : Option Addr) (ca : Nat) (vb : Option Addr) (cb : Nat), e = .returned (.tuple #[.pointer (some ⟨g, 0, none⟩), .int .i64 (T : Int), .agg #[.slice va T ca, .slice vb T cb], .bool true]) ∧
  1 ≤ T ∧ T ≤ 6 ∧ 2 * T ≤ l.length + 2 ∧ (T : Int) ≤ ca ∧ (T : Int) ≤ cb ∧ GroupAt w' g (gP k) (gQ k) (gG k) (gH k) (gS k) ∧ NatsAt w' va (dvF (gQ k) S l (T - 1)) ∧ NatsAt w' vb (dvF (gQ k) R (l.drop (T - 1)) (T - 1)) ∧ Below w.heap.size w w' ∧ (T : Int) = 1 + IntKind.u64.wrap t % 6
def MadeAt (k S R T : Nat) (l : List Nat) (va : Option Addr) (ca : Nat) (vb : Option Addr) (cb : Nat) (g s : Nat) (w w' : World) : Prop := Blk w' s 56 [.slice va T ca, .slice vb T cb] ∧ NatsAt w' va (dvF (gQ k) S l (T - 1)) ∧ NatsAt w' vb (dvF (gQ k) R (l.drop (T - 1)) (T - 1)) ∧ GroupAt w' g (gP k) (gQ k) (gG k) (gH k) (gS k) ∧ Below s w w'
theorem MadeAt.below {k S R T : Nat} {l : List Nat} {va : Option Addr} {ca : Nat} {vb : Option Addr} {cb : Nat} {g s : Nat} {w w' w'' : World} (h : MadeAt k S R T l va ca vb cb g s w w') (hb : Below w'.heap.size w' w'') : MadeAt k S R T l va ca vb cb g s w w'' :=
  ⟨h.1.below hb h.1.lt, h.2.1.below hb, h.2.2.1.below hb, h.2.2.2.1.below hb, h.2.2.2.2.trans (hb.mono (Nat.le_of_lt h.1.lt))⟩
theorem MadeAt.mk {k S R T : Nat} {l : List Nat} {va : Option Addr} {ca : Nat} {vb : Option Addr} {cb : Nat} {g s : Nat} {w w' : World} {a b : Value} (hB : Blk w' s 56 [a, b]) (h1 : NatsAt w' va (dvF (gQ k) S l (T - 1))) (h2 : NatsAt w' vb (dvF (gQ k) R (l.drop (T - 1)) (T - 1))) (hg : GroupAt w' g (gP k) (gQ k) (gG k) (gH k) (gS k)) (hb : Below s w w') :
    MadeAt k S R T l va ca vb cb g s w ((w'.setCell ⟨s, 0, none⟩ (.slice va T ca)).setCell ⟨s, 1, none⟩ (.slice vb T cb)) := by
  have k1 : KT s 56 w' (w'.setCell ⟨s, 0, none⟩ (.slice va T ca)) := KT.set hB (Nat.le_refl _) 0 _
  have k2 : KT s 56 (w'.setCell ⟨s, 0, none⟩ (.slice va T ca)) ((w'.setCell ⟨s, 0, none⟩ (.slice va T ca)).setCell ⟨s, 1, none⟩ (.slice vb T cb)) := KT.set (hB.set 0 _) (Nat.le_refl _) 1 _
  exact ⟨(hB.set 0 _).set 1 _, (h1.kt (by decide) (by decide) k1).kt (by decide) (by decide) k2, (h2.kt (by decide) (by decide) k1).kt (by decide) (by decide) k2, (hg.kt (by decide) (by decide) (by decide) k1).kt (by decide) (by decide) (by decide) k2, (hb.setCell (p := ⟨s, 0, none⟩) (Nat.le_refl s) _).setCell (p := ⟨s, 1, none⟩) (Nat.le_refl s) _⟩
theorem ret_made {fn : Func} {p t u v : Tmp} {R : Ending → World → Prop} {tmps : Array Value} {w : World} {g : Nat} {x y a b c : Value} (h : fn.results = #[.tmp t, .tmp u, .cell p 56, .tmp v]) (hp : tmps.getD p undef = .pointer (some ⟨g, 0, none⟩)) (ht : tmps.getD t undef = a) (hu : tmps.getD u undef = b) (hv : tmps.getD v undef = c)
    (hB : Blk w g 56 [x, y]) (hR : R (.returned (.tuple #[a, b, .agg #[x, y], c])) w) : bodyPost Tryz.prog fn R .ret { tmps, defers := [] } w := by
  refine bodyPost_ret (v := .tuple #[a, b, .agg #[x, y], c]) ?_ rfl hR
  have hl := run_loadVar_row (P := Tryz.prog) (ty := 56) w g 56 #[x, y] (0, 0) _ hB Tryz.underlying56 rfl (by kernel_rfl)
  have e : (results fn tmps).run Tryz.prog w = ((asAddr (tmps.getD p undef)).run Tryz.prog w).andThen fun a' w₁ => ((loadVar 56 a').run Tryz.prog w₁).andThen fun v' w₂ => .ok (.tuple #[tmps.getD t undef, tmps.getD u undef, v', tmps.getD v undef]) w₂ := by
    simp only [results, h]
    simp [Sem.run_bind, Result.andThen]
  rw [e]
  simp only [hp, ht, hu, hv, asAddr, Sem.run_pure, Result.andThen_ok, hl]
def lenV : Value → Nat
  | .slice _ n _ => n
  | _ => 0
def tabMD (v0 : Value) (v1 : Value) (v2 : Value) (v3 : Value) (v4 : Value) (v5 : Value) (v6 : Value) (last : Fk KpN) (v8 : Value) : List (Fk KpN) := [.val v0, .val v1, .val v2, .val v3, .val v4, .val v5, .val v6, last, .val v8]
def dstMD : List (Option Tmp) := [some 55, some 56, some 57, some 58, some 59, some 10, some 11, none, some 13]
def preMD : List (List Nat) := [[], [], [], [], [3], [0], [0, 1, 5], [0, 1, 2, 5, 6], [0, 1, 2, 3, 4, 5, 6, 7]]
def maskMD : List Bool := [false, false, false, false, false, false, false, false, false, false, true, true, false, true, false, false, false, false, false, false, false, false, false, false, false, false, false, false, false, false, false, false, false, false, false, false, false, false, false, false, false, false, false, false, false, false, false, false, false, false, false, false, false, false, false, true, true, true, true, true]

set_option maxRecDepth 100000 in
set_option maxHeartbeats 4000000 in
theorem made_tany (n t : Int) (S R : Nat) (a : Option Addr) (len cap : Nat) (xs : List Nat) (w : World)
    (ha : RdC w a (xs.map w64)) (hl : xs.length = len) (hc : (len : Int) ≤ cap) (hx : ∀ y ∈ xs, y < 18446744073709551616) (hxx : S < 18446744073709551616) (hyy : R < 18446744073709551616) :
    Calls Tryz.prog 24 #[.int .i64 n, .int .i64 t, .int .u64 (S : Int), .int .u64 (R : Int), .slice a len cap] w (MadePostT t (kOf n) S R w) := by
  obtain ⟨k, hk⟩ : ∃ k, kOf n = k := ⟨_, rfl⟩
  rw [hk]
  have HK := Lib.hid hk
  clear hk
  obtain ⟨m, hm1, hm12, hm⟩ : ∃ m : Nat, m ≤ len ∧ m ≤ 12 ∧ min (len : Int) 12 = (m : Int) := ⟨min len 12, by omega, by omega, by omega⟩
  have HMM : Hid (RdC w a ((xs.take m).map w64) ∧ (xs.take m).length = m ∧ ∀ y ∈ xs.take m, y < 18446744073709551616) := ⟨by rw [List.map_take]; exact ha.take m, by rw [List.length_take]; omega, fun y hy => hx y (List.mem_of_mem_take hy)⟩
  have HXX := Lib.hid (And.intro hxx hyy)
  obtain ⟨v, hv, hv5⟩ : ∃ v : Nat, (IntKind.u64.wrap t) % 6 = (v : Int) ∧ v ≤ 5 := ⟨((IntKind.u64.wrap t) % 6).toNat, by omega, by omega⟩
  have hu0 : 0 ≤ IntKind.u64.wrap t := by show 0 ≤ t % 18446744073709551616; omega
  have v1 : Int.tmod (IntKind.u64.wrap t) 6 = (v : Int) := by rw [Int.tmod_eq_emod_of_nonneg hu0]; exact hv
  have v2 : IntKind.u64.wrap (v : Int) = (v : Int) := wraps_u64 _ (by omega) (by omega)
  have v3 : IntKind.i64.wrap (v : Int) = (v : Int) := i64_small _ (by omega) (by omega)
  have v4 : IntKind.i64.wrap (1 + (v : Int)) = 1 + (v : Int) := i64_small _ (by omega) (by omega)
  obtain ⟨s, hs⟩ : ∃ s, s = w.heap.size := ⟨_, rfl⟩
  have hbA := (Below.refl _ w).alloc (Nat.le_refl _) (Obj.cells #[Value.slice none 0 0, Value.slice none 0 0] 56)
  have hBD : Blk (w.alloc (Obj.cells #[Value.slice none 0 0, Value.slice none 0 0] 56)) s 56 [.slice none 0 0, .slice none 0 0] := Blk.new' w _ _ s hs
  have HB1 : Hid (Below s w (w.alloc (Obj.cells #[Value.slice none 0 0, Value.slice none 0 0] 56))) := hs.symm ▸ hbA
  have HBD1 := Lib.hid hBD
  have HSS := Lib.hid hs
  clear hbA hBD ha hl hx hxx hyy hu0
  go_enter Tryz.func24, Tryz.ntmps24
  go_wp2_with fail
  rw [← hs]
  clear hs
  generalize w.alloc (Obj.cells #[Value.slice none 0 0, Value.slice none 0 0] 56) = w1 at HB1 HBD1 ⊢
  refine (group_any n w1).mono ?_
  rintro e w2 ⟨g, rfl, hg, hb2⟩
  rw [HK.out] at hg
  have HG2 : Hid (GroupAt w2 g (gP k) (gQ k) (gG k) (gH k) (gS k)) := hg
  have HBD2 := Lib.hid (HBD1.out.below hb2 HBD1.out.lt)
  have HB2 := Lib.hid (HB1.out.trans (hb2.mono (Nat.le_of_lt HBD1.out.lt)))
  clear hg hb2 HB1 HBD1
  go_wp2_with fail
  obtain ⟨T, hT⟩ : ∃ T : Nat, 1 + (v : Int) = (T : Int) := ⟨v + 1, by omega⟩
  rw [hT]
  have HTV : Hid ((T : Int) = 1 + IntKind.u64.wrap t % 6) := by show _ = _; rw [hv]; exact hT.symm
  obtain ⟨s2, hs2⟩ : ∃ s2, s2 = w2.heap.size := ⟨_, rfl⟩
  have HE2 := Lib.hid (GE.init w2 s2 hs2)
  have HS2 := Lib.hid hs2
  refine (nums_any a m cap (xs.take m) w2 (HMM.out.1.below (HSS.out ▸ HB2.out)) HMM.out.2.1 (by omega) (by omega) HMM.out.2.2).mono ?_
  rintro e w3 ⟨lv, rfl, hrow, hb3⟩
  have HE3 := Lib.hid (HE2.out.pushRow hb3 hrow)
  have hlm : (xs.take m).length = m := HMM.out.2.1
  have t1 : IntKind.i64.wrap (2 * (T : Int)) = 2 * (T : Int) := i64_small _ (by omega) (by omega)
  have t2 : IntKind.i64.wrap (2 * (T : Int) - 2) = 2 * (T : Int) - 2 := i64_small _ (by omega) (by omega)
  have hT6 : (T : Int) ≤ 6 := by omega
  have hT1 : (1 : Int) ≤ T := by omega
  obtain ⟨l0, hl0⟩ : ∃ l0, xs.take m = l0 := ⟨_, rfl⟩
  rw [hl0] at HE3 hlm
  clear hrow hb3 hs2 HE2 v1 v2 v3 v4 hv hv5 hT hl0 HMM
  go_wp2_with fail
  go_loopw [15] (fun lv wr => ∃ (l : List Nat), (l.length : Int) ≤ 12 ∧ Hid (GE w2 wr s2 [rowI s2 lv l] [])) (fun lv _ => 12 - lenV lv)
  case atStart => exact ⟨l0, by omega, HE3.out⟩
  case round =>
    clear HE3
    obtain ⟨nl, hl12, HE⟩ := hrel
    obtain ⟨la, lc, rfl, hl1, hl2, hat, _⟩ := (HE.out.row 0 rfl).form
    have HAT := Lib.hid hat
    clear hat
    obtain ⟨N, hN⟩ : ∃ N, nl.length = N := ⟨_, rfl⟩
    have HN := Lib.hid hN
    rw [hN] at hl12 hl1 HE ⊢
    clear hN
    by_cases hlt : (N : Int) < 2 * (T : Int) - 2
    · have u1 : IntKind.u64.wrap (N : Int) = (N : Int) := wraps_u64 _ (by omega) (by omega)
      go_wp2_with fail
      refine (new_s N _ (by omega)).mono ?_
      rintro e w4 ⟨xa, xl, xc, rfl, hn, hb4⟩
      have HE4 := Lib.hid (HE.out.below hb4)
      have hbx := (Below.refl _ w4).alloc (Nat.le_refl _) (Obj.cells #[Value.slice xa xl xc] 36)
      have HE5 := Lib.hid (HE4.out.below hbx)
      have HN5 := Lib.hid (hn.below hbx)
      have cR := (Blk.new w4 [Value.slice xa xl xc] 36).cell 0
      simp only [List.getElem?_cons_zero] at cR
      clear hn hb4 HE4 hbx HE
      go_wp2_with (first | (refine wpList_append_nat _ rfl (.tmp 37) (.tmp 42) rfl s2 _ nl rfl (HE5.out.row 0 rfl) ⟨w4.heap.size, 0, none⟩ 1 N xa xl xc rfl cR HN5.out (by rw [HN.out]; omega) HE5.out.base ?_; intro v' w6 hown hgr hf; have HE6 := Lib.hid (HE5.out.append 0 rfl hgr hf hown); clear hown hgr hf))
      go_roundw
      case rel => exact ⟨nl ++ [N], by rw [List.length_append, HN.out]; simp; omega, HE6.out⟩
      case measure =>
        obtain ⟨pa, pc, e6, _⟩ := (HE6.out.row 0 rfl).form
        rw [List.length_append, HN.out] at e6
        simp only [e6, lenV, List.length_singleton]
        show 12 - (N + 1) < 12 - N
        omega
    · go_wp2_with fail
      refine (new_s S wr HXX.out.1).mono ?_
      rintro e w4 ⟨sa, sl, sc, rfl, hS, hb4⟩
      have HS4 := Lib.hid hS
      have hbb4 : BB wr w4 := hb4
      clear hS hb4
      go_wp2_with fail
      refine (new_s R w4 HXX.out.2).mono ?_
      rintro e w5 ⟨ua, ul, uc, rfl, hR, hb5⟩
      have HR5 := Lib.hid hR
      have HS5 := Lib.hid (HS4.out.below hb5)
      have hbb5 : BB wr w5 := BB.step hbb4 hb5
      have hbb2 : BB w2 w5 := (HS2.out ▸ HE.out.bel).trans (Below.mono hbb5 (HS2.out ▸ HE.out.bel).size)
      clear hR hb5 HS4 hbb4
      go_wp2_with fail
      refine (dnew_any g _ _ _ _ _ T sa sl sc S ua ul uc R la N lc nl w5 (HG2.out.below hbb2) (by omega) (by omega) HS5.out HR5.out (HAT.out.below hbb5) HN.out (by omega) (by omega) (by omega)).mono ?_
      rintro e w6 ⟨va, ca, vb, cb, rfl, hva, hvb, hV, hM, hb6⟩
      obtain ⟨D, hDs⟩ : ∃ D, D = w6.heap.size := ⟨_, rfl⟩
      have hbd := (Below.refl _ w6).alloc (Nat.le_refl _) (Obj.cells #[Value.slice va T ca, Value.slice vb T cb] 56)
      have hBd : Blk (w6.alloc (Obj.cells #[Value.slice va T ca, Value.slice vb T cb] 56)) D 56 [.slice va T ca, .slice vb T cb] := Blk.new' w6 _ _ D hDs
      have hbb9 : BB w2 (w6.alloc (Obj.cells #[Value.slice va T ca, Value.slice vb T cb] 56)) := BB.step (BB.step hbb2 hb6) hbd
      have HVM := Lib.hid (And.intro (hV.below hbd) (hM.below hbd))
      have HDs := Lib.hid hDs
      have HTT : Hid (1 ≤ T ∧ T ≤ 6 ∧ 2 * T ≤ nl.length + 2 ∧ (T : Int) ≤ ca ∧ (T : Int) ≤ cb) := ⟨by omega, by omega, by rw [HN.out]; omega, hva, hvb⟩
      clear hV hM hb6 hbd hDs hbb2 hbb5 hva hvb HS5 HR5
      go_wp2_with fail
      rw [← HDs.out]
      generalize w6.alloc (Obj.cells #[Value.slice va T ca, Value.slice vb T cb] 56) = w9 at hBd hbb9 HVM ⊢
      have HG := Lib.hid (HG2.out.below hbb9)
      have HO := Lib.hid (HBD2.out.below hbb9 HBD2.out.lt)
      have HB := Lib.hid (HB2.out.trans (Below.mono hbb9 (Nat.le_of_lt HBD2.out.lt)))
      have HSZ : Hid (s ≤ w9.heap.size) := Nat.le_of_lt HO.out.lt
      have k0 : ∀ w', BB w9 w' → w'.cell? ⟨D, 0, none⟩ = some (.slice va T ca) := fun w' hb => (BB.cell hb hBd.lt).trans (hBd.cell 0)
      have k1 : ∀ w', BB w9 w' → w'.cell? ⟨D, 1, none⟩ = some (.slice vb T cb) := fun w' hb => (BB.cell hb hBd.lt).trans (hBd.cell 1)
      clear hBd hbb9
      refine wp_region_mix (fun l w' => l 7 = false → BB w9 w') (GF (tabMD (.pointer (some ⟨g, 0, none⟩)) (.int .i64 (T : Int)) (.agg #[.slice va T ca, .slice vb T cb]) (.int .i64 0) (.bool true) (.pointer (some ⟨g, 0, none⟩)) (.int .i64 (T : Int)) (Fk.rel (fun _ w' => MadeAt k S R T nl va ca vb cb g s w w') (fun _ _ _ hb h => h.below hb)) (.bool true))) maskMD dstMD preMD (by kernel_rfl) (by kernel_rfl) rfl (by kernel_rfl) (by kernel_rfl) (by kernel_rfl) (by kernel_rfl) (fun _ => BB.drew (BB.refl _)) ?_ ?_
      · refine StepsM.cons (fun l g' wu hB hl hn hp K hK => ?_) ?_
        · simp only [mkM, maskMD, mixM, Nat.reduceAdd] at hK ⊢; simp only [Act.put, List.setIfInBounds_toArray, List.set_cons_zero, List.set_cons_succ] at hK; go_simp; exact hK.out _ _ (fun h => hB (by simpa [setL] using h)) GF.same rfl
        refine StepsM.cons (fun l g' wu hB hl hn hp K hK => ?_) ?_
        · simp only [mkM, maskMD, mixM, Nat.reduceAdd] at hK ⊢; simp only [Act.put, List.setIfInBounds_toArray, List.set_cons_zero, List.set_cons_succ] at hK; go_simp; exact hK.out _ _ (fun h => hB (by simpa [setL] using h)) GF.same rfl
        refine StepsM.cons (fun l g' wu hB hl hn hp K hK => ?_) ?_
        · have hbb := hB (hn 7 (by decide)); have c0 := k0 _ hbb; have c1 := k1 _ hbb; simp only [mkM, maskMD, mixM, Nat.reduceAdd] at hK ⊢; simp only [Act.put, List.setIfInBounds_toArray, List.set_cons_zero, List.set_cons_succ] at hK; go_simp; exact hK.out _ _ (fun h => hB (by simpa [setL] using h)) GF.same rfl
        refine StepsM.cons (fun l g' wu hB hl hn hp K hK => ?_) ?_
        · simp only [mkM, maskMD, mixM, Nat.reduceAdd] at hK ⊢; simp only [Act.put, List.setIfInBounds_toArray, List.set_cons_zero, List.set_cons_succ] at hK; go_simp; exact hK.out _ _ (fun h => hB (by simpa [setL] using h)) GF.same rfl
        refine StepsM.cons (fun l g' wu hB hl hn hp K hK => ?_) ?_
        · have e3 : g' 58 = .int .i64 0 := (hp 3 (by decide)).2; simp only [mkM, maskMD, mixM, Nat.reduceAdd, e3] at hK ⊢; clear e3; simp only [Act.put, List.setIfInBounds_toArray, List.set_cons_zero, List.set_cons_succ] at hK; go_simp; exact hK.out _ _ (fun h => hB (by simpa [setL] using h)) GF.same rfl
        refine StepsM.cons (fun l g' wu hB hl hn hp K hK => ?_) ?_
        · have e0 : g' 55 = .pointer (some ⟨g, 0, none⟩) := (hp 0 (by decide)).2; simp only [mkM, maskMD, mixM, Nat.reduceAdd, e0] at hK ⊢; clear e0; simp only [Act.put, List.setIfInBounds_toArray, List.set_cons_zero, List.set_cons_succ] at hK; go_simp; exact hK.out _ _ (fun h => hB (by simpa [setL] using h)) GF.same rfl
        refine StepsM.cons (fun l g' wu hB hl hn hp K hK => ?_) ?_
        · have e1 : g' 56 = .int .i64 (T : Int) := (hp 1 (by decide)).2; simp only [mkM, maskMD, mixM, Nat.reduceAdd, e1] at hK ⊢; clear e1; simp only [Act.put, List.setIfInBounds_toArray, List.set_cons_zero, List.set_cons_succ] at hK; go_simp; exact hK.out _ _ (fun h => hB (by simpa [setL] using h)) GF.same rfl
        refine StepsM.cons (fun l g' wu hB hl hn hp K hK => ?_) ?_
        · have hbb := hB hl; have e2 : g' 57 = .agg #[.slice va T ca, .slice vb T cb] := (hp 2 (by decide)).2; have hBk := HO.out.below hbb HO.out.lt; have HBk := Lib.hid hBk; have q0 := hBk.cell 0; have q1 := hBk.cell 1; have f0 := hBk.frozen 0; have f1 := hBk.frozen 1; simp only [List.getElem?_cons_zero, List.getElem?_cons_succ] at q0 q1; clear hBk; simp only [mkM, maskMD, mixM, Nat.reduceAdd, e2] at hK ⊢; clear e2; simp only [Act.put, List.setIfInBounds_toArray, List.set_cons_zero, List.set_cons_succ] at hK; go_simp; exact hK.out undef _ (fun h => by simp [setL] at h) (GF.kept rfl (fun _ _ _ hn => (hn.set HBk.out 0 _).set (HBk.out.set 0 _) 1 _)) (MadeAt.mk HBk.out (HVM.out.1.below hbb) (HVM.out.2.below hbb) (HG.out.below hbb) (HB.out.trans (Below.mono hbb HSZ.out)))
        refine StepsM.cons (fun l g' wu hB hl hn hp K hK => ?_) ?_
        · have e4 : g' 59 = .bool true := (hp 4 (by decide)).2; simp only [mkM, maskMD, mixM, Nat.reduceAdd, e4] at hK ⊢; clear e4; simp only [Act.put, List.setIfInBounds_toArray, List.set_cons_zero, List.set_cons_succ] at hK; go_simp; exact hK.out _ _ (fun h => hB (by simpa [setL] using h)) GF.same rfl
        exact StepsM.nil
      · intro l g' wu hall hB hG
        have h7 : MadeAt k S R T nl va ca vb cb g s w wu := hG 7 (by decide)
        have e5 : g' 10 = .pointer (some ⟨g, 0, none⟩) := hG 5 (by decide)
        have e6 : g' 11 = .int .i64 (T : Int) := hG 6 (by decide)
        have e8 : g' 13 = .bool true := hG 8 (by decide)
        have HH := Lib.hid h7
        simp only [mkM, maskMD, mixM, Nat.reduceAdd, e5, e6, e8]
        clear hG hall hB e5 e6 e8 h7
        go_wp2_with fail
        exact ret_made rfl rfl rfl rfl rfl HH.out.1 ⟨g, T, nl, va, ca, vb, cb, rfl, HTT.out.1, HTT.out.2.1, HTT.out.2.2.1, HTT.out.2.2.2.1, HTT.out.2.2.2.2, HH.out.2.2.2.1, HH.out.2.1, HH.out.2.2.1, HSS.out ▸ HH.out.2.2.2.2, HTV.out⟩
theorem made_any (n t : Int) (S R : Nat) (a : Option Addr) (len cap : Nat) (xs : List Nat) (w : World)
    (ha : RdC w a (xs.map w64)) (hl : xs.length = len) (hc : (len : Int) ≤ cap) (hx : ∀ y ∈ xs, y < 18446744073709551616) (hxx : S < 18446744073709551616) (hyy : R < 18446744073709551616) :
    Calls Tryz.prog 24 #[.int .i64 n, .int .i64 t, .int .u64 (S : Int), .int .u64 (R : Int), .slice a len cap] w (MadePost (kOf n) S R w) :=
  (made_tany n t S R a len cap xs w ha hl hc hx hxx hyy).mono fun _ _ ⟨g, T, l, va, ca, vb, cb, h1, h2, h3, h4, h5, h6, h7, h8, h9, h10, _⟩ => ⟨g, T, l, va, ca, vb, cb, h1, h2, h3, h4, h5, h6, h7, h8, h9, h10⟩
end Go.Proofs.YthefednendgclaaGreat
