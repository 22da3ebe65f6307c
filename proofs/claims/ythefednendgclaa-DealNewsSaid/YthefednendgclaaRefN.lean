/-
  The document's dealing.
-/
import Derived.Test.YthefednendgclaaRefD
set_option linter.unusedVariables false
set_option linter.unusedSimpArgs false
namespace Go.Proofs.Ythefednendgclaa
open Go Go.RowKit Sac

theorem OwnN.blk {w w' : World} {base k : Nat} {v : Value} {ns : List Nat} {T : TypeId} {cs : List Value} (h : OwnN w base v ns) (hg : w.grownBy w' v.ownBlock) (hB : Blk w k T cs) (hT : 48 ≠ T) : Blk w' k T cs :=
  hB.same (hg.block k hB.lt fun e => absurd rfl ((h.ety e.symm).ne hB hT))
theorem kpq_set {B0 D o : Nat} {w : World} {cs : List Value} {u : Value} (hB : Blk w D 86 cs) (hD : D < B0) : KpQ B0 w (w.setCell ⟨D, o, none⟩ u) :=
  ⟨fun _ _ hn => hn.sset hB (by decide) o u, fun q _ h1 _ h3 => (cell_other u (show q ≠ D by omega)).trans h3, by simp [World.setCell]⟩
theorem dvF_take {q S u j : Nat} {l : List Nat} (h : j < u) (hl : j < l.length) : (dvF q S l u).take (j + 1 + 1) = (dvF q S l u).take (j + 1) ++ [l.getD j 0 % q] := by
  rw [List.take_add_one]
  congr 1
  simp [dvF, List.getElem?_take, h, List.getD_eq_getElem?_getD, List.getElem?_eq_getElem hl]
def tabNV (B0 : Nat) (v0 v1 v2 v3 v4 : Value) (n5 : Nat) (p6 : Fk (KpQ B0)) (v8 : Value) : List (Fk (KpQ B0)) := [.val v0, .val v1, .val v2, .val v3, .val v4, Fk.bn n5, p6, .any, .val v8, .any]
def dstNV : List (Option Tmp) := [some 48, some 49, some 50, some 51, some 52, some 53, some 54, some 55, some 56, none]
def preNV : List (List Nat) := [[], [0], [], [], [3], [2, 3, 4], [2, 3, 4, 5], [0, 1, 2, 3, 4, 5, 6], [0, 1, 2, 3, 4, 5, 6, 7], [0, 1, 2, 3, 4, 5, 6, 7, 8]]
def maskNV : List Bool := [false, false, false, false, false, false, false, false, false, false, false, false, false, false, false, false, false, false, false, false, false, false, false, false, false, false, false, false, false, false, false, false, false, false, false, false, false, false, false, false, false, false, false, false, false, false, false, false, true, true, true, true, true, true, true, true, true, false, false, false, false, false, false, false, false, false, false]
def tabNM (B0 : Nat) (v0 v1 v2 v3 v4 : Value) (n5 : Nat) (p6 : Fk (KpQ B0)) (v8 : Value) : List (Fk (KpQ B0)) := [.val v0, .val v1, .val v2, .val v3, .val v4, Fk.bn n5, p6, .any, .val v8, .any]
def dstNM : List (Option Tmp) := [some 57, some 58, some 59, some 60, some 61, some 62, some 63, some 64, some 65, none]
def preNM : List (List Nat) := [[], [0], [], [], [3], [2, 3, 4], [2, 3, 4, 5], [0, 1, 2, 3, 4, 5, 6], [0, 1, 2, 3, 4, 5, 6, 7], [0, 1, 2, 3, 4, 5, 6, 7, 8]]
def maskNM : List Bool := [false, false, false, false, false, false, false, false, false, false, false, false, false, false, false, false, false, false, false, false, false, false, false, false, false, false, false, false, false, false, false, false, false, false, false, false, false, false, false, false, false, false, false, false, false, false, false, false, false, false, false, false, false, false, false, false, false, true, true, true, true, true, true, true, true, true, false]
theorem ret_bdeal {fn : Func} {p t : Tmp} {R : Ending → World → Prop} {tmps : Array Value} {w : World} {g : Nat} {x y v : Value} (h : fn.results = #[.cell p 86, .tmp t]) (hp : tmps.getD p undef = .pointer (some ⟨g, 0, none⟩)) (ht : tmps.getD t undef = v)
    (hB : Blk w g 86 [x, y]) (hR : R (.returned (.tuple #[.agg #[x, y], v])) w) : bodyPost Try.prog fn R .ret { tmps, defers := [] } w := by
  refine bodyPost_ret (v := .tuple #[.agg #[x, y], v]) ?_ rfl hR
  have hl := run_loadVar_row (P := Try.prog) (ty := 86) w g 86 #[x, y] (0, 0) _ hB Try.underlying86 rfl (by kernel_rfl)
  rw [results_cell_tmp h]
  simp only [hp, ht, asAddr, Sem.run_pure, Result.andThen_ok, hl]
/-- A document's dealing handed back. -/
def RetDB (Vs Ms : List Nat) (w : World) (e : Ending) (w' : World) : Prop := ∃ v u, e = .returned (.tuple #[.agg #[v, u], .int .i64 0]) ∧ BRow w' v Vs ∧ BRow w' u Ms ∧ Below w.heap.size w w'

set_option maxRecDepth 100000 in
set_option maxHeartbeats 4000000 in
theorem bdnew_any (gv sv mv : Value) (P Q G H S R t : Nat) (a : Option Addr) (len cap : Nat) (l : List Nat) (w : World) (hg : BG w gv P Q G H) (h1 : 1 ≤ t) (h2 : t ≤ 64) (hS : BN w sv S) (hR : BN w mv R) (hQ0 : 0 < Q) (hLQ : Bt.len Q ≤ 400) (h : BRow w (.slice a len cap) l) (hl : l.length = len) (hcc : (len : Int) ≤ cap) (hc : (len : Int) ≤ 10000) (hlen : 2 * t ≤ len + 2) :
    Calls Try.prog 61 #[gv, .int .i64 (t : Int), sv, mv, .slice a len cap] w (RetDB (dvF Q S l (t - 1)) (dvF Q R (l.drop (t - 1)) (t - 1)) w) := by
  obtain ⟨pa, pl, pc, qa, ql, qc, ga, gl, gc, ja, jl, jc, rfl, _, hQ, _, _⟩ := hg
  obtain ⟨s, hs⟩ : ∃ s, s = w.heap.size := ⟨_, rfl⟩
  have hbA := (Below.refl _ w).alloc (Nat.le_refl _) (Obj.cells #[Value.slice pa pl pc, Value.slice qa ql qc, Value.slice ga gl gc, Value.slice ja jl jc] 62)
  have hbB : BB w ((w.alloc (Obj.cells #[Value.slice pa pl pc, Value.slice qa ql qc, Value.slice ga gl gc, Value.slice ja jl jc] 62)).alloc (Obj.cells #[Value.slice none 0 0, Value.slice none 0 0] 86)) := BB.alloc hbA
  have hbC : BB w (((w.alloc (Obj.cells #[Value.slice pa pl pc, Value.slice qa ql qc, Value.slice ga gl gc, Value.slice ja jl jc] 62)).alloc (Obj.cells #[Value.slice none 0 0, Value.slice none 0 0] 86)).alloc (Obj.cells #[Value.slice none 0 0, Value.slice none 0 0] 86)) := BB.alloc hbB
  have hE : Blk (((w.alloc (Obj.cells #[Value.slice pa pl pc, Value.slice qa ql qc, Value.slice ga gl gc, Value.slice ja jl jc] 62)).alloc (Obj.cells #[Value.slice none 0 0, Value.slice none 0 0] 86)).alloc (Obj.cells #[Value.slice none 0 0, Value.slice none 0 0] 86)) s 62 [.slice pa pl pc, .slice qa ql qc, .slice ga gl gc, .slice ja jl jc] := ((Blk.new' w _ _ s hs).alloc _).alloc _
  have hO : Blk (((w.alloc (Obj.cells #[Value.slice pa pl pc, Value.slice qa ql qc, Value.slice ga gl gc, Value.slice ja jl jc] 62)).alloc (Obj.cells #[Value.slice none 0 0, Value.slice none 0 0] 86)).alloc (Obj.cells #[Value.slice none 0 0, Value.slice none 0 0] 86)) (s + 1) 86 [.slice none 0 0, .slice none 0 0] := (Blk.new' _ _ _ (s + 1) (by rw [hs]; simp)).alloc _
  have hD : Blk (((w.alloc (Obj.cells #[Value.slice pa pl pc, Value.slice qa ql qc, Value.slice ga gl gc, Value.slice ja jl jc] 62)).alloc (Obj.cells #[Value.slice none 0 0, Value.slice none 0 0] 86)).alloc (Obj.cells #[Value.slice none 0 0, Value.slice none 0 0] 86)) (s + 1 + 1) 86 [.slice none 0 0, .slice none 0 0] := Blk.new' _ _ _ (s + 1 + 1) (by rw [hs]; simp)
  have HDN : Hid (DN w s (s + 1 + 1) (.slice none 0 0) (.slice none 0 0) [] [] (((w.alloc (Obj.cells #[Value.slice pa pl pc, Value.slice qa ql qc, Value.slice ga gl gc, Value.slice ja jl jc] 62)).alloc (Obj.cells #[Value.slice none 0 0, Value.slice none 0 0] 86)).alloc (Obj.cells #[Value.slice none 0 0, Value.slice none 0 0] 86))) := ⟨OwnN.nil _ _, OwnN.nil _ _, (fun k hk => by cases hk), hD, (by rw [hs]; exact hbC), (by omega)⟩
  have HO := Lib.hid hO
  have HE := Lib.hid hE
  have HBC := Lib.hid hbC
  have HSS := Lib.hid hs
  clear hbA hbB hbC hE hO hD
  have HL := Lib.hid (And.intro h1 (And.intro h2 (And.intro hQ0 (And.intro hLQ (And.intro hl hlen)))))
  have HS := Lib.hid hS
  have HR := Lib.hid hR
  have HQ := Lib.hid hQ
  have HD := Lib.hid h
  obtain ⟨u, hu⟩ : ∃ u, t = u + 1 := ⟨t - 1, by omega⟩
  have HU := Lib.hid hu
  have htu : t - 1 = u := by omega
  rw [htu]
  have w1 : IntKind.i64.wrap ((t : Int) - 1) = (u : Int) := by rw [i64_small _ (by omega) (by omega)]; omega
  have w2 : IntKind.i64.wrap ((u : Int) + (t : Int)) = (u : Int) + (t : Int) := i64_small _ (by omega) (by omega)
  have w3 : IntKind.i64.wrap ((u : Int) + (t : Int) - 1) = (u : Int) + (u : Int) := by rw [i64_small _ (by omega) (by omega)]; omega
  have hnl : ¬ (len : Int) < (u : Int) + (u : Int) := by omega
  have dnl : decide ((len : Int) < (u : Int) + (u : Int)) = false := decide_eq_false hnl
  clear hQ hS hR h h1 h2 hQ0 hLQ hl hlen hu htu
  go_enter Try.func61, Try.ntmps61
  go_wp2_with fail
  rw [← hs]
  clear hs
  generalize ((w.alloc (Obj.cells #[Value.slice pa pl pc, Value.slice qa ql qc, Value.slice ga gl gc, Value.slice ja jl jc] 62)).alloc (Obj.cells #[Value.slice none 0 0, Value.slice none 0 0] 86)).alloc (Obj.cells #[Value.slice none 0 0, Value.slice none 0 0] 86) = w4 at HDN HO HE HBC ⊢
  obtain ⟨Vs, hVs⟩ : ∃ Vs, dvF Q S l u = Vs := ⟨_, rfl⟩
  obtain ⟨Ms, hMs⟩ : ∃ Ms, dvF Q R (l.drop u) u = Ms := ⟨_, rfl⟩
  have HVs := Lib.hid hVs
  have HMs := Lib.hid hMs
  go_loopw [13] (fun iv wr => ∃ (i : Nat) (va vb : Value), (i : Int) ≤ t ∧ iv = .int .i64 (i : Int) ∧ Hid (DN w s (s + 1 + 1) va vb (Vs.take i) (Ms.take i) wr) ∧ Hid (Blk wr (s + 1) 86 [.slice none 0 0, .slice none 0 0]) ∧ Hid (Blk wr s 62 [.slice pa pl pc, .slice qa ql qc, .slice ga gl gc, .slice ja jl jc])) (fun iv _ => t - (intOf iv).toNat)
  case atStart => exact ⟨0, _, _, by omega, rfl, (by rw [List.take_zero, List.take_zero]; exact HDN.out), HO.out, HE.out⟩
  case round =>
    clear HDN HO HE
    obtain ⟨i, va, vb, hi, rfl, HN, HO, HE⟩ := hrel
    by_cases hlt : (i : Int) < t
    · by_cases hi0 : (0 : Int) < (i : Int)
      · obtain ⟨j, hj⟩ : ∃ j, i = j + 1 := ⟨i - 1, by omega⟩
        obtain ⟨k, hk⟩ : ∃ k, u + j = k := ⟨_, rfl⟩
        have hju : j < u := by have := HU.out; omega
        have hjl : j < l.length := by have := HL.out.2.2.2.2; have := HU.out; omega
        have hkl : k < l.length := by have := HL.out.2.2.2.2; have := HU.out; omega
        have hjd : j < (l.drop u).length := by rw [List.length_drop]; omega
        have HLN : Hid (l.length = len) := HL.out.2.2.2.2.1
        have hbw : BB w wr := by have q := HN.out.2.2.2.2.1; rw [HSS.out] at q; exact q
        obtain ⟨ad, aa, al, ac, had, gA, nA⟩ := HD.out.get hjl
        obtain ⟨ad', ba, bl, bc, had', gB, nB⟩ := HD.out.get hkl
        obtain rfl : ad = ad' := Option.some.inj (had.symm.trans had')
        subst had
        obtain ⟨X, hX⟩ : ∃ X, l.getD j 0 = X := ⟨_, rfl⟩
        obtain ⟨Y, hY⟩ : ∃ Y, l.getD k 0 = Y := ⟨_, rfl⟩
        rw [hX] at nA
        rw [hY] at nB
        have hT1 : Vs.take (i + 1) = Vs.take i ++ [X % Q] := by rw [← HVs.out, hj, dvF_take hju hjl, hX]
        have hT2 : Ms.take (i + 1) = Ms.take i ++ [Y % Q] := by
          rw [← HMs.out, hj, dvF_take hju hjd, ← hY, ← hk]
          simp [List.getD_eq_getElem?_getD]
        have HT10 := Lib.hid hT1
        have HT20 := Lib.hid hT2
        have NA := Lib.hid nA
        have NB := Lib.hid nB
        have cA := gA wr hbw
        have cB := gB wr hbw
        have wj : IntKind.i64.wrap ((i : Int) - 1) = (j : Int) := by rw [i64_small _ (by omega) (by omega)]; omega
        have wk : IntKind.i64.wrap ((u : Int) + (i : Int)) = (u : Int) + (i : Int) := i64_small _ (by omega) (by omega)
        have wk1 : IntKind.i64.wrap ((u : Int) + (i : Int) - 1) = (k : Int) := by rw [i64_small _ (by omega) (by omega)]; omega
        have bj : (j : Int) < (len : Int) := by have := HLN.out; omega
        have bk : (k : Int) < (len : Int) := by have := HLN.out; omega
        clear hT1 hT2 nA nB gA gB hX hY hju hjl hkl hjd had' hk hj
        go_wp2_with fail
        rw [show decide (0 < i) = true from decide_eq_true (by omega)]
        have h64 : (t : Int) ≤ 64 := by have := HL.out.2.1; omega
        clear wj wk wk1 bj bk cA cB hbw
        generalize Value.slice aa al ac = av at NA ⊢
        generalize Value.slice ba bl bc = bv at NB ⊢
        obtain ⟨V, hV⟩ : ∃ V, Vs.take i = V := ⟨_, rfl⟩
        obtain ⟨M, hM⟩ : ∃ M, Ms.take i = M := ⟨_, rfl⟩
        obtain ⟨x, hx⟩ : ∃ x, X % Q = x := ⟨_, rfl⟩
        rw [hV, hM] at HN
        have HXX := Lib.hid hx
        have HQR : Hid (BN wr (.slice qa ql qc) Q) := HQ.out.below (by have q := HN.out.2.2.2.2.1; rw [HSS.out] at q; exact q)
        have HSR : Hid (BN wr av X) := NA.out.below (by have q := HN.out.2.2.2.2.1; rw [HSS.out] at q; exact q)
        have HVL : Hid (V.length ≤ 100000) := by show _ ≤ _; rw [← hV, List.length_take]; have := HL.out.2.1; omega
        have HVL1 : Hid (M.length ≤ 100000) := by show _ ≤ _; rw [← hM, List.length_take]; have := HL.out.2.1; omega
        obtain ⟨n1, hn1⟩ : ∃ n1, (V ++ [x]).length = n1 := ⟨_, rfl⟩
        have HV1 := Lib.hid hn1
        have HZ : Hid (s ≤ wr.heap.size) := Nat.le_of_lt HE.out.lt
        have HDL : Hid (s + 1 + 1 < wr.heap.size) := HN.out.2.2.2.1.lt
        have k0 : ∀ w', BB wr w' → w'.cell? ⟨s + 1 + 1, 0, none⟩ = some va := fun w' hb => (BB.cell hb HDL.out).trans (HN.out.2.2.2.1.cell 0)
        have kq : ∀ w', BB wr w' → w'.cell? ⟨s, 1, none⟩ = some (.slice qa ql qc) := fun w' hb => (BB.cell hb HE.out.lt).trans (HE.out.cell 1)
        have HT1 : Hid (Vs.take (i + 1) = V ++ [x]) := by show _ = _; rw [HT10.out, hV, hx]
        have HT2 : Hid (Ms.take (i + 1) = M ++ [Y % Q]) := by show _ = _; rw [HT20.out, hM]
        clear hV hM hx hn1
        refine wp_region_mixB (fun l g w' => (l 7 = false → BB wr w') ∧ (l 7 = true → l 9 = false → DA w s (s + 1 + 1) va vb (g 55) (V ++ [x]) M w' ∧ (Blk w' (s + 1) 86 [.slice none 0 0, .slice none 0 0] ∧ Blk w' s 62 [.slice pa pl pc, .slice qa ql qc, .slice ga gl gc, .slice ja jl jc])) ∧ (l 9 = true → ∃ v', DN w s (s + 1 + 1) v' vb (V ++ [x]) M w' ∧ (Blk w' (s + 1) 86 [.slice none 0 0, .slice none 0 0] ∧ Blk w' s 62 [.slice pa pl pc, .slice qa ql qc, .slice ga gl gc, .slice ja jl jc]))) (GF (tabNV wr.heap.size (.pointer (some ⟨s + 1 + 1, 0, none⟩)) (va) (av) (.pointer (some ⟨s, 1, none⟩)) (.slice qa ql qc) x (Fk.lit x) (.pointer (some ⟨s + 1 + 1, 0, none⟩)))) maskNV dstNV preNV (by kernel_rfl) (by kernel_rfl) rfl (by kernel_rfl) (by kernel_rfl) (by kernel_rfl) (by kernel_rfl) ⟨fun _ => BB.drew (BB.refl _), (fun h => by cases h), fun h => by cases h⟩ ?_ ?_
        · refine StepsMB.cons (fun l g' wu hB hl hn hp K hK => ?_) ?_
          · have hbb := hB.1 (hn 7 (by decide)); simp only [mkM, maskNV, mixM, Nat.reduceAdd] at hK ⊢; simp only [Act.put, List.setIfInBounds_toArray, List.set_cons_zero, List.set_cons_succ] at hK; go_simp; exact hK.out _ _ ⟨(fun h => hB.1 (by rw [setL_ne (by decide)] at h; exact h)), (fun h => by rw [setL_ne (by decide), hn 7 (by decide)] at h; cases h), fun h => by rw [setL_ne (by decide), hn 9 (by decide)] at h; cases h⟩ GF.same rfl
          refine StepsMB.cons (fun l g' wu hB hl hn hp K hK => ?_) ?_
          · have hbb := hB.1 (hn 7 (by decide)); have e0 : g' 48 = .pointer (some ⟨s + 1 + 1, 0, none⟩) := (hp 0 (by decide)).2; have hc := k0 _ hbb; simp only [mkM, maskNV, mixM, Nat.reduceAdd, e0] at hK ⊢; clear e0; simp only [Act.put, List.setIfInBounds_toArray, List.set_cons_zero, List.set_cons_succ] at hK; go_simp; exact hK.out _ _ ⟨(fun h => hB.1 (by rw [setL_ne (by decide)] at h; exact h)), (fun h => by rw [setL_ne (by decide), hn 7 (by decide)] at h; cases h), fun h => by rw [setL_ne (by decide), hn 9 (by decide)] at h; cases h⟩ GF.same rfl
          refine StepsMB.cons (fun l g' wu hB hl hn hp K hK => ?_) ?_
          · have hbb := hB.1 (hn 7 (by decide)); simp only [mkM, maskNV, mixM, Nat.reduceAdd] at hK ⊢; simp only [Act.put, List.setIfInBounds_toArray, List.set_cons_zero, List.set_cons_succ] at hK; go_simp; exact hK.out _ _ ⟨(fun h => hB.1 (by rw [setL_ne (by decide)] at h; exact h)), (fun h => by rw [setL_ne (by decide), hn 7 (by decide)] at h; cases h), fun h => by rw [setL_ne (by decide), hn 9 (by decide)] at h; cases h⟩ GF.same rfl
          refine StepsMB.cons (fun l g' wu hB hl hn hp K hK => ?_) ?_
          · have hbb := hB.1 (hn 7 (by decide)); simp only [mkM, maskNV, mixM, Nat.reduceAdd] at hK ⊢; simp only [Act.put, List.setIfInBounds_toArray, List.set_cons_zero, List.set_cons_succ] at hK; go_simp; exact hK.out _ _ ⟨(fun h => hB.1 (by rw [setL_ne (by decide)] at h; exact h)), (fun h => by rw [setL_ne (by decide), hn 7 (by decide)] at h; cases h), fun h => by rw [setL_ne (by decide), hn 9 (by decide)] at h; cases h⟩ GF.same rfl
          refine StepsMB.cons (fun l g' wu hB hl hn hp K hK => ?_) ?_
          · have hbb := hB.1 (hn 7 (by decide)); have e3 : g' 51 = .pointer (some ⟨s, 1, none⟩) := (hp 3 (by decide)).2; have hc := kq _ hbb; simp only [mkM, maskNV, mixM, Nat.reduceAdd, e3] at hK ⊢; clear e3; simp only [Act.put, List.setIfInBounds_toArray, List.set_cons_zero, List.set_cons_succ] at hK; go_simp; exact hK.out _ _ ⟨(fun h => hB.1 (by rw [setL_ne (by decide)] at h; exact h)), (fun h => by rw [setL_ne (by decide), hn 7 (by decide)] at h; cases h), fun h => by rw [setL_ne (by decide), hn 9 (by decide)] at h; cases h⟩ GF.same rfl
          refine StepsMB.cons (fun l g' wu hB hl hn hp K hK => ?_) ?_
          · have hbb := hB.1 (hn 7 (by decide)); have e2 : g' 50 = av := (hp 2 (by decide)).2; have e4 : g' 52 = .slice qa ql qc := (hp 4 (by decide)).2; simp only [mkM, maskNV, mixM, Nat.reduceAdd, e2, e4] at hK ⊢; clear e2 e4; simp only [Act.put, List.setIfInBounds_toArray, List.set_cons_zero, List.set_cons_succ] at hK; go_simp; go_at_call 96; refine (rof_any (av) (.slice qa ql qc) X Q wu (HSR.out.below hbb) (HQR.out.below hbb) HL.out.2.2.1 (Nat.le_trans HL.out.2.2.2.1 (by decide))).mono ?_; rw [HXX.out]; rintro e w7 ⟨z, rfl, hz, hb⟩; go_wp2_with fail; exact hK.out _ _ ⟨(fun _ => BB.step hbb hb), (fun h => by rw [setL_ne (by decide), hn 7 (by decide)] at h; cases h), fun h => by rw [setL_ne (by decide), hn 9 (by decide)] at h; cases h⟩ (GF.below hb) hz
          refine StepsMB.cons (fun l g' wu hB hl hn hp K hK => ?_) ?_
          · have hbb := hB.1 (hn 7 (by decide)); have h5 : BN wu (g' 53) x := (hp 5 (by decide)).2; obtain ⟨za, zl, zc, ez, hz⟩ := bn_slice h5; have hsz := hbb.size; have hb := (Below.refl _ wu).alloc (Nat.le_refl _) (Obj.cells #[.slice za zl zc] 48); simp only [mkM, maskNV, mixM, Nat.reduceAdd, ez] at hK ⊢; simp only [Act.put, List.setIfInBounds_toArray, List.set_cons_zero, List.set_cons_succ] at hK; go_simp; exact hK.out _ _ ⟨(fun _ => BB.step hbb hb), (fun h => by rw [setL_ne (by decide), hn 7 (by decide)] at h; cases h), fun h => by rw [setL_ne (by decide), hn 9 (by decide)] at h; cases h⟩ GF.alloc (IsLit.new hsz hz)
          refine StepsMB.cons (fun l g' wu hB hl hn hp K hK => ?_) ?_
          · have hbb := hB.1 hl; have e1 : g' 49 = va := (hp 1 (by decide)).2; have h6 : IsLit wr.heap.size x (g' 54) wu := (hp 6 (by decide)).2; obtain ⟨q, za, zl, zc, ez, hq1, hq2, hq3, hq4⟩ := h6; have HNU := HN.out.below hbb; have HOU := HNU.1; have hsz := HZ.out; have hsz2 := hbb.size; have HRB := And.intro (HO.out.below hbb HO.out.lt) (HE.out.below hbb HE.out.lt); simp only [mkM, maskNV, mixM, Nat.reduceAdd, e1, ez] at hK ⊢; clear e1; simp only [Act.put, List.setIfInBounds_toArray, List.set_cons_zero, List.set_cons_succ] at hK; refine wanted_go rfl ?_; refine wp_append_bn (.tmp 49) (.tmp 54) rfl s va V rfl HOU ⟨q, 0, none⟩ 1 x za zl zc rfl hq3 hq4 HVL.out (by omega) ?_; intro v9 w9 hown hgr hf; exact hK.out v9 w9 ⟨(fun h => by rw [setL_eq] at h; cases h), (fun _ _ => ⟨(by rw [updG_eq]; exact HNU.app0 hown hgr hf), HOU.blk hgr HRB.1 (by decide), HOU.blk hgr HRB.2 (by decide)⟩), fun h => by rw [setL_ne (by decide), hn 9 (by decide)] at h; cases h⟩ ((HOU.kpq (B0 := wr.heap.size) (fun k hk => (HN.out.1.lt hk).2) hgr).elim (fun a b => GF.kept rfl ⟨a, b⟩)) trivial
          refine StepsMB.cons (fun l g' wu hB hl hn hp K hK => ?_) ?_
          · have hA := hB.2.1 (hp 7 (by decide)).1 (hn 9 (by decide)); simp only [mkM, maskNV, mixM, Nat.reduceAdd] at hK ⊢; simp only [Act.put, List.setIfInBounds_toArray, List.set_cons_zero, List.set_cons_succ] at hK; go_simp; exact hK.out _ _ ⟨(fun h => by rw [setL_ne (by decide), (hp 7 (by decide)).1] at h; cases h), (fun _ _ => by rw [updG_ne (by decide)]; exact hA), fun h => by rw [setL_ne (by decide), hn 9 (by decide)] at h; cases h⟩ GF.same rfl
          refine StepsMB.cons (fun l g' wu hB hl hn hp K hK => ?_) ?_
          · have hA := hB.2.1 (hp 7 (by decide)).1 hl; have e8 : g' 56 = .pointer (some ⟨s + 1 + 1, 0, none⟩) := (hp 8 (by decide)).2; obtain ⟨ra, rc, ez, _⟩ := (OwnN.row hA.1.1).form; rw [HV1.out] at ez; rw [ez] at hA; have HA := Lib.hid hA; have q0 := hA.1.2.2.2.1.cell 0; have f0 := hA.1.2.2.2.1.frozen 0; simp only [List.getElem?_cons_zero, List.getElem?_cons_succ] at q0; clear hA; simp only [mkM, maskNV, mixM, Nat.reduceAdd, e8, ez] at hK ⊢; clear e8; simp only [Act.put, List.setIfInBounds_toArray, List.set_cons_zero, List.set_cons_succ] at hK; go_simp; exact hK.out undef _ ⟨(fun h => by rw [setL_ne (by decide), (hp 7 (by decide)).1] at h; cases h), (fun _ h => by rw [setL_eq] at h; cases h), fun _ => ⟨_, HA.out.1.set0, HA.out.2.1.other _ _ (by show s + 1 ≠ s + 1 + 1; omega), HA.out.2.2.other _ _ (by show s ≠ s + 1 + 1; omega)⟩⟩ (GF.kept rfl (kpq_set HA.out.1.2.2.2.1 HDL.out)) trivial
          exact StepsMB.nil
        intro lb g' wr2 hall hB _
        obtain ⟨v1, hN1, hR1⟩ := hB.2.2 (hall 9 (by decide))
        simp only [mkM, maskNV, mixM, Nat.reduceAdd]
        obtain ⟨V2, hV2⟩ : ∃ V2, V ++ [x] = V2 := ⟨_, rfl⟩
        rw [hV2] at hN1
        have HV22 := Lib.hid hV2
        have HN1 := Lib.hid hN1
        have HO1 := Lib.hid hR1.1
        have HE1 := Lib.hid hR1.2
        clear hB hall hN1 hR1 HN HO HE HZ HDL k0 kq HQR HSR hV2
        obtain ⟨x2, hx2⟩ : ∃ x2, Y % Q = x2 := ⟨_, rfl⟩
        have HXX1 := Lib.hid hx2
        have HQR1 : Hid (BN wr2 (.slice qa ql qc) Q) := HQ.out.below (by have q := HN1.out.2.2.2.2.1; rw [HSS.out] at q; exact q)
        have HMR1 : Hid (BN wr2 bv Y) := NB.out.below (by have q := HN1.out.2.2.2.2.1; rw [HSS.out] at q; exact q)
        obtain ⟨n2, hn2⟩ : ∃ n2, (M ++ [x2]).length = n2 := ⟨_, rfl⟩
        have HV2 := Lib.hid hn2
        have HZ1 : Hid (s ≤ wr2.heap.size) := Nat.le_of_lt HE1.out.lt
        have HDL1 : Hid (s + 1 + 1 < wr2.heap.size) := HN1.out.2.2.2.1.lt
        have k1 : ∀ w', BB wr2 w' → w'.cell? ⟨s + 1 + 1, 1, none⟩ = some vb := fun w' hb => (BB.cell hb HDL1.out).trans (HN1.out.2.2.2.1.cell 1)
        have kq1 : ∀ w', BB wr2 w' → w'.cell? ⟨s, 1, none⟩ = some (.slice qa ql qc) := fun w' hb => (BB.cell hb HE1.out.lt).trans (HE1.out.cell 1)
        clear hx2 hn2
        go_wp2_with fail
        refine wp_region_mixB (fun l g w' => (l 7 = false → BB wr2 w') ∧ (l 7 = true → l 9 = false → DA1 w s (s + 1 + 1) v1 vb (g 64) V2 (M ++ [x2]) w' ∧ (Blk w' (s + 1) 86 [.slice none 0 0, .slice none 0 0] ∧ Blk w' s 62 [.slice pa pl pc, .slice qa ql qc, .slice ga gl gc, .slice ja jl jc])) ∧ (l 9 = true → ∃ v', DN w s (s + 1 + 1) v1 v' V2 (M ++ [x2]) w' ∧ (Blk w' (s + 1) 86 [.slice none 0 0, .slice none 0 0] ∧ Blk w' s 62 [.slice pa pl pc, .slice qa ql qc, .slice ga gl gc, .slice ja jl jc]))) (GF (tabNM wr2.heap.size (.pointer (some ⟨s + 1 + 1, 1, none⟩)) (vb) (bv) (.pointer (some ⟨s, 1, none⟩)) (.slice qa ql qc) x2 (Fk.lit x2) (.pointer (some ⟨s + 1 + 1, 1, none⟩)))) maskNM dstNM preNM (by kernel_rfl) (by kernel_rfl) rfl (by kernel_rfl) (by kernel_rfl) (by kernel_rfl) (by kernel_rfl) ⟨fun _ => BB.drew (BB.refl _), (fun h => by cases h), fun h => by cases h⟩ ?_ ?_
        · refine StepsMB.cons (fun l g' wu hB hl hn hp K hK => ?_) ?_
          · have hbb := hB.1 (hn 7 (by decide)); simp only [mkM, maskNM, mixM, Nat.reduceAdd] at hK ⊢; simp only [Act.put, List.setIfInBounds_toArray, List.set_cons_zero, List.set_cons_succ] at hK; go_simp; exact hK.out _ _ ⟨(fun h => hB.1 (by rw [setL_ne (by decide)] at h; exact h)), (fun h => by rw [setL_ne (by decide), hn 7 (by decide)] at h; cases h), fun h => by rw [setL_ne (by decide), hn 9 (by decide)] at h; cases h⟩ GF.same rfl
          refine StepsMB.cons (fun l g' wu hB hl hn hp K hK => ?_) ?_
          · have hbb := hB.1 (hn 7 (by decide)); have e0 : g' 57 = .pointer (some ⟨s + 1 + 1, 1, none⟩) := (hp 0 (by decide)).2; have hc := k1 _ hbb; simp only [mkM, maskNM, mixM, Nat.reduceAdd, e0] at hK ⊢; clear e0; simp only [Act.put, List.setIfInBounds_toArray, List.set_cons_zero, List.set_cons_succ] at hK; go_simp; exact hK.out _ _ ⟨(fun h => hB.1 (by rw [setL_ne (by decide)] at h; exact h)), (fun h => by rw [setL_ne (by decide), hn 7 (by decide)] at h; cases h), fun h => by rw [setL_ne (by decide), hn 9 (by decide)] at h; cases h⟩ GF.same rfl
          refine StepsMB.cons (fun l g' wu hB hl hn hp K hK => ?_) ?_
          · have hbb := hB.1 (hn 7 (by decide)); simp only [mkM, maskNM, mixM, Nat.reduceAdd] at hK ⊢; simp only [Act.put, List.setIfInBounds_toArray, List.set_cons_zero, List.set_cons_succ] at hK; go_simp; exact hK.out _ _ ⟨(fun h => hB.1 (by rw [setL_ne (by decide)] at h; exact h)), (fun h => by rw [setL_ne (by decide), hn 7 (by decide)] at h; cases h), fun h => by rw [setL_ne (by decide), hn 9 (by decide)] at h; cases h⟩ GF.same rfl
          refine StepsMB.cons (fun l g' wu hB hl hn hp K hK => ?_) ?_
          · have hbb := hB.1 (hn 7 (by decide)); simp only [mkM, maskNM, mixM, Nat.reduceAdd] at hK ⊢; simp only [Act.put, List.setIfInBounds_toArray, List.set_cons_zero, List.set_cons_succ] at hK; go_simp; exact hK.out _ _ ⟨(fun h => hB.1 (by rw [setL_ne (by decide)] at h; exact h)), (fun h => by rw [setL_ne (by decide), hn 7 (by decide)] at h; cases h), fun h => by rw [setL_ne (by decide), hn 9 (by decide)] at h; cases h⟩ GF.same rfl
          refine StepsMB.cons (fun l g' wu hB hl hn hp K hK => ?_) ?_
          · have hbb := hB.1 (hn 7 (by decide)); have e3 : g' 60 = .pointer (some ⟨s, 1, none⟩) := (hp 3 (by decide)).2; have hc := kq1 _ hbb; simp only [mkM, maskNM, mixM, Nat.reduceAdd, e3] at hK ⊢; clear e3; simp only [Act.put, List.setIfInBounds_toArray, List.set_cons_zero, List.set_cons_succ] at hK; go_simp; exact hK.out _ _ ⟨(fun h => hB.1 (by rw [setL_ne (by decide)] at h; exact h)), (fun h => by rw [setL_ne (by decide), hn 7 (by decide)] at h; cases h), fun h => by rw [setL_ne (by decide), hn 9 (by decide)] at h; cases h⟩ GF.same rfl
          refine StepsMB.cons (fun l g' wu hB hl hn hp K hK => ?_) ?_
          · have hbb := hB.1 (hn 7 (by decide)); have e2 : g' 59 = bv := (hp 2 (by decide)).2; have e4 : g' 61 = .slice qa ql qc := (hp 4 (by decide)).2; simp only [mkM, maskNM, mixM, Nat.reduceAdd, e2, e4] at hK ⊢; clear e2 e4; simp only [Act.put, List.setIfInBounds_toArray, List.set_cons_zero, List.set_cons_succ] at hK; go_simp; go_at_call 96; refine (rof_any (bv) (.slice qa ql qc) Y Q wu (HMR1.out.below hbb) (HQR1.out.below hbb) HL.out.2.2.1 (Nat.le_trans HL.out.2.2.2.1 (by decide))).mono ?_; rw [HXX1.out]; rintro e w7 ⟨z, rfl, hz, hb⟩; go_wp2_with fail; exact hK.out _ _ ⟨(fun _ => BB.step hbb hb), (fun h => by rw [setL_ne (by decide), hn 7 (by decide)] at h; cases h), fun h => by rw [setL_ne (by decide), hn 9 (by decide)] at h; cases h⟩ (GF.below hb) hz
          refine StepsMB.cons (fun l g' wu hB hl hn hp K hK => ?_) ?_
          · have hbb := hB.1 (hn 7 (by decide)); have h5 : BN wu (g' 62) x2 := (hp 5 (by decide)).2; obtain ⟨za, zl, zc, ez, hz⟩ := bn_slice h5; have hsz := hbb.size; have hb := (Below.refl _ wu).alloc (Nat.le_refl _) (Obj.cells #[.slice za zl zc] 48); simp only [mkM, maskNM, mixM, Nat.reduceAdd, ez] at hK ⊢; simp only [Act.put, List.setIfInBounds_toArray, List.set_cons_zero, List.set_cons_succ] at hK; go_simp; exact hK.out _ _ ⟨(fun _ => BB.step hbb hb), (fun h => by rw [setL_ne (by decide), hn 7 (by decide)] at h; cases h), fun h => by rw [setL_ne (by decide), hn 9 (by decide)] at h; cases h⟩ GF.alloc (IsLit.new hsz hz)
          refine StepsMB.cons (fun l g' wu hB hl hn hp K hK => ?_) ?_
          · have hbb := hB.1 hl; have e1 : g' 58 = vb := (hp 1 (by decide)).2; have h6 : IsLit wr2.heap.size x2 (g' 63) wu := (hp 6 (by decide)).2; obtain ⟨q, za, zl, zc, ez, hq1, hq2, hq3, hq4⟩ := h6; have HNU := HN1.out.below hbb; have HOU := HNU.2.1; have hsz := HZ1.out; have hsz2 := hbb.size; have HRB := And.intro (HO1.out.below hbb HO1.out.lt) (HE1.out.below hbb HE1.out.lt); simp only [mkM, maskNM, mixM, Nat.reduceAdd, e1, ez] at hK ⊢; clear e1; simp only [Act.put, List.setIfInBounds_toArray, List.set_cons_zero, List.set_cons_succ] at hK; refine wanted_go rfl ?_; refine wp_append_bn (.tmp 58) (.tmp 63) rfl s vb M rfl HOU ⟨q, 0, none⟩ 1 x2 za zl zc rfl hq3 hq4 HVL1.out (by omega) ?_; intro v9 w9 hown hgr hf; exact hK.out v9 w9 ⟨(fun h => by rw [setL_eq] at h; cases h), (fun _ _ => ⟨(by rw [updG_eq]; exact HNU.app1 hown hgr hf), HOU.blk hgr HRB.1 (by decide), HOU.blk hgr HRB.2 (by decide)⟩), fun h => by rw [setL_ne (by decide), hn 9 (by decide)] at h; cases h⟩ ((HOU.kpq (B0 := wr2.heap.size) (fun k hk => (HN1.out.2.1.lt hk).2) hgr).elim (fun a b => GF.kept rfl ⟨a, b⟩)) trivial
          refine StepsMB.cons (fun l g' wu hB hl hn hp K hK => ?_) ?_
          · have hA := hB.2.1 (hp 7 (by decide)).1 (hn 9 (by decide)); simp only [mkM, maskNM, mixM, Nat.reduceAdd] at hK ⊢; simp only [Act.put, List.setIfInBounds_toArray, List.set_cons_zero, List.set_cons_succ] at hK; go_simp; exact hK.out _ _ ⟨(fun h => by rw [setL_ne (by decide), (hp 7 (by decide)).1] at h; cases h), (fun _ _ => by rw [updG_ne (by decide)]; exact hA), fun h => by rw [setL_ne (by decide), hn 9 (by decide)] at h; cases h⟩ GF.same rfl
          refine StepsMB.cons (fun l g' wu hB hl hn hp K hK => ?_) ?_
          · have hA := hB.2.1 (hp 7 (by decide)).1 hl; have e8 : g' 65 = .pointer (some ⟨s + 1 + 1, 1, none⟩) := (hp 8 (by decide)).2; obtain ⟨ra, rc, ez, _⟩ := (OwnN.row hA.1.2.1).form; rw [HV2.out] at ez; rw [ez] at hA; have HA := Lib.hid hA; have q0 := hA.1.2.2.2.1.cell 1; have f0 := hA.1.2.2.2.1.frozen 1; simp only [List.getElem?_cons_zero, List.getElem?_cons_succ] at q0; clear hA; simp only [mkM, maskNM, mixM, Nat.reduceAdd, e8, ez] at hK ⊢; clear e8; simp only [Act.put, List.setIfInBounds_toArray, List.set_cons_zero, List.set_cons_succ] at hK; go_simp; exact hK.out undef _ ⟨(fun h => by rw [setL_ne (by decide), (hp 7 (by decide)).1] at h; cases h), (fun _ h => by rw [setL_eq] at h; cases h), fun _ => ⟨_, HA.out.1.set1, HA.out.2.1.other _ _ (by show s + 1 ≠ s + 1 + 1; omega), HA.out.2.2.other _ _ (by show s ≠ s + 1 + 1; omega)⟩⟩ (GF.kept rfl (kpq_set HA.out.1.2.2.2.1 HDL1.out)) trivial
          exact StepsMB.nil
        intro lb2 g2 wr3 hall hB _
        obtain ⟨v2, hN2, hR2⟩ := hB.2.2 (hall 9 (by decide))
        simp only [mkM, maskNM, mixM, Nat.reduceAdd]
        have HN2 := Lib.hid hN2
        have HO2 := Lib.hid hR2.1
        have HE2 := Lib.hid hR2.2
        clear hB hall hN2 hR2
        go_wp2_with fail
        go_roundw
        case rel => exact ⟨i + 1, v1, v2, by omega, by go_num, (by rw [HT1.out, HV22.out, HT2.out, HXX1.out]; exact HN2.out), HO2.out, HE2.out⟩
        case measure => simp [intOf]; omega
      · obtain ⟨V, hV⟩ : ∃ V, Vs.take i = V := ⟨_, rfl⟩
        obtain ⟨M, hM⟩ : ∃ M, Ms.take i = M := ⟨_, rfl⟩
        obtain ⟨x, hx⟩ : ∃ x, S % Q = x := ⟨_, rfl⟩
        rw [hV, hM] at HN
        have HXX := Lib.hid hx
        have HQR : Hid (BN wr (.slice qa ql qc) Q) := HQ.out.below (by have q := HN.out.2.2.2.2.1; rw [HSS.out] at q; exact q)
        have HSR : Hid (BN wr sv S) := HS.out.below (by have q := HN.out.2.2.2.2.1; rw [HSS.out] at q; exact q)
        have HVL : Hid (V.length ≤ 100000) := by show _ ≤ _; rw [← hV, List.length_take]; have := HL.out.2.1; omega
        have HVL1 : Hid (M.length ≤ 100000) := by show _ ≤ _; rw [← hM, List.length_take]; have := HL.out.2.1; omega
        obtain ⟨n1, hn1⟩ : ∃ n1, (V ++ [x]).length = n1 := ⟨_, rfl⟩
        have HV1 := Lib.hid hn1
        have HZ : Hid (s ≤ wr.heap.size) := Nat.le_of_lt HE.out.lt
        have HDL : Hid (s + 1 + 1 < wr.heap.size) := HN.out.2.2.2.1.lt
        have k0 : ∀ w', BB wr w' → w'.cell? ⟨s + 1 + 1, 0, none⟩ = some va := fun w' hb => (BB.cell hb HDL.out).trans (HN.out.2.2.2.1.cell 0)
        have kq : ∀ w', BB wr w' → w'.cell? ⟨s, 1, none⟩ = some (.slice qa ql qc) := fun w' hb => (BB.cell hb HE.out.lt).trans (HE.out.cell 1)
        have HT1 : Hid (Vs.take (i + 1) = V ++ [x]) := by
          show _ = _
          have e0 : i = 0 := by omega
          rw [e0] at hV ⊢
          rw [← hV, ← HVs.out, ← hx]; rfl
        have HT2 : Hid (Ms.take (i + 1) = M ++ [R % Q]) := by
          show _ = _
          have e0 : i = 0 := by omega
          rw [e0] at hM ⊢
          rw [← hM, ← HMs.out]; rfl
        clear hV hM hx hn1
        go_wp2_with fail
        refine wp_region_mixB (fun l g w' => (l 7 = false → BB wr w') ∧ (l 7 = true → l 9 = false → DA w s (s + 1 + 1) va vb (g 55) (V ++ [x]) M w' ∧ (Blk w' (s + 1) 86 [.slice none 0 0, .slice none 0 0] ∧ Blk w' s 62 [.slice pa pl pc, .slice qa ql qc, .slice ga gl gc, .slice ja jl jc])) ∧ (l 9 = true → ∃ v', DN w s (s + 1 + 1) v' vb (V ++ [x]) M w' ∧ (Blk w' (s + 1) 86 [.slice none 0 0, .slice none 0 0] ∧ Blk w' s 62 [.slice pa pl pc, .slice qa ql qc, .slice ga gl gc, .slice ja jl jc]))) (GF (tabNV wr.heap.size (.pointer (some ⟨s + 1 + 1, 0, none⟩)) (va) (sv) (.pointer (some ⟨s, 1, none⟩)) (.slice qa ql qc) x (Fk.lit x) (.pointer (some ⟨s + 1 + 1, 0, none⟩)))) maskNV dstNV preNV (by kernel_rfl) (by kernel_rfl) rfl (by kernel_rfl) (by kernel_rfl) (by kernel_rfl) (by kernel_rfl) ⟨fun _ => BB.drew (BB.refl _), (fun h => by cases h), fun h => by cases h⟩ ?_ ?_
        · refine StepsMB.cons (fun l g' wu hB hl hn hp K hK => ?_) ?_
          · have hbb := hB.1 (hn 7 (by decide)); simp only [mkM, maskNV, mixM, Nat.reduceAdd] at hK ⊢; simp only [Act.put, List.setIfInBounds_toArray, List.set_cons_zero, List.set_cons_succ] at hK; go_simp; exact hK.out _ _ ⟨(fun h => hB.1 (by rw [setL_ne (by decide)] at h; exact h)), (fun h => by rw [setL_ne (by decide), hn 7 (by decide)] at h; cases h), fun h => by rw [setL_ne (by decide), hn 9 (by decide)] at h; cases h⟩ GF.same rfl
          refine StepsMB.cons (fun l g' wu hB hl hn hp K hK => ?_) ?_
          · have hbb := hB.1 (hn 7 (by decide)); have e0 : g' 48 = .pointer (some ⟨s + 1 + 1, 0, none⟩) := (hp 0 (by decide)).2; have hc := k0 _ hbb; simp only [mkM, maskNV, mixM, Nat.reduceAdd, e0] at hK ⊢; clear e0; simp only [Act.put, List.setIfInBounds_toArray, List.set_cons_zero, List.set_cons_succ] at hK; go_simp; exact hK.out _ _ ⟨(fun h => hB.1 (by rw [setL_ne (by decide)] at h; exact h)), (fun h => by rw [setL_ne (by decide), hn 7 (by decide)] at h; cases h), fun h => by rw [setL_ne (by decide), hn 9 (by decide)] at h; cases h⟩ GF.same rfl
          refine StepsMB.cons (fun l g' wu hB hl hn hp K hK => ?_) ?_
          · have hbb := hB.1 (hn 7 (by decide)); simp only [mkM, maskNV, mixM, Nat.reduceAdd] at hK ⊢; simp only [Act.put, List.setIfInBounds_toArray, List.set_cons_zero, List.set_cons_succ] at hK; go_simp; exact hK.out _ _ ⟨(fun h => hB.1 (by rw [setL_ne (by decide)] at h; exact h)), (fun h => by rw [setL_ne (by decide), hn 7 (by decide)] at h; cases h), fun h => by rw [setL_ne (by decide), hn 9 (by decide)] at h; cases h⟩ GF.same rfl
          refine StepsMB.cons (fun l g' wu hB hl hn hp K hK => ?_) ?_
          · have hbb := hB.1 (hn 7 (by decide)); simp only [mkM, maskNV, mixM, Nat.reduceAdd] at hK ⊢; simp only [Act.put, List.setIfInBounds_toArray, List.set_cons_zero, List.set_cons_succ] at hK; go_simp; exact hK.out _ _ ⟨(fun h => hB.1 (by rw [setL_ne (by decide)] at h; exact h)), (fun h => by rw [setL_ne (by decide), hn 7 (by decide)] at h; cases h), fun h => by rw [setL_ne (by decide), hn 9 (by decide)] at h; cases h⟩ GF.same rfl
          refine StepsMB.cons (fun l g' wu hB hl hn hp K hK => ?_) ?_
          · have hbb := hB.1 (hn 7 (by decide)); have e3 : g' 51 = .pointer (some ⟨s, 1, none⟩) := (hp 3 (by decide)).2; have hc := kq _ hbb; simp only [mkM, maskNV, mixM, Nat.reduceAdd, e3] at hK ⊢; clear e3; simp only [Act.put, List.setIfInBounds_toArray, List.set_cons_zero, List.set_cons_succ] at hK; go_simp; exact hK.out _ _ ⟨(fun h => hB.1 (by rw [setL_ne (by decide)] at h; exact h)), (fun h => by rw [setL_ne (by decide), hn 7 (by decide)] at h; cases h), fun h => by rw [setL_ne (by decide), hn 9 (by decide)] at h; cases h⟩ GF.same rfl
          refine StepsMB.cons (fun l g' wu hB hl hn hp K hK => ?_) ?_
          · have hbb := hB.1 (hn 7 (by decide)); have e2 : g' 50 = sv := (hp 2 (by decide)).2; have e4 : g' 52 = .slice qa ql qc := (hp 4 (by decide)).2; simp only [mkM, maskNV, mixM, Nat.reduceAdd, e2, e4] at hK ⊢; clear e2 e4; simp only [Act.put, List.setIfInBounds_toArray, List.set_cons_zero, List.set_cons_succ] at hK; go_simp; go_at_call 96; refine (rof_any (sv) (.slice qa ql qc) S Q wu (HSR.out.below hbb) (HQR.out.below hbb) HL.out.2.2.1 (Nat.le_trans HL.out.2.2.2.1 (by decide))).mono ?_; rw [HXX.out]; rintro e w7 ⟨z, rfl, hz, hb⟩; go_wp2_with fail; exact hK.out _ _ ⟨(fun _ => BB.step hbb hb), (fun h => by rw [setL_ne (by decide), hn 7 (by decide)] at h; cases h), fun h => by rw [setL_ne (by decide), hn 9 (by decide)] at h; cases h⟩ (GF.below hb) hz
          refine StepsMB.cons (fun l g' wu hB hl hn hp K hK => ?_) ?_
          · have hbb := hB.1 (hn 7 (by decide)); have h5 : BN wu (g' 53) x := (hp 5 (by decide)).2; obtain ⟨za, zl, zc, ez, hz⟩ := bn_slice h5; have hsz := hbb.size; have hb := (Below.refl _ wu).alloc (Nat.le_refl _) (Obj.cells #[.slice za zl zc] 48); simp only [mkM, maskNV, mixM, Nat.reduceAdd, ez] at hK ⊢; simp only [Act.put, List.setIfInBounds_toArray, List.set_cons_zero, List.set_cons_succ] at hK; go_simp; exact hK.out _ _ ⟨(fun _ => BB.step hbb hb), (fun h => by rw [setL_ne (by decide), hn 7 (by decide)] at h; cases h), fun h => by rw [setL_ne (by decide), hn 9 (by decide)] at h; cases h⟩ GF.alloc (IsLit.new hsz hz)
          refine StepsMB.cons (fun l g' wu hB hl hn hp K hK => ?_) ?_
          · have hbb := hB.1 hl; have e1 : g' 49 = va := (hp 1 (by decide)).2; have h6 : IsLit wr.heap.size x (g' 54) wu := (hp 6 (by decide)).2; obtain ⟨q, za, zl, zc, ez, hq1, hq2, hq3, hq4⟩ := h6; have HNU := HN.out.below hbb; have HOU := HNU.1; have hsz := HZ.out; have hsz2 := hbb.size; have HRB := And.intro (HO.out.below hbb HO.out.lt) (HE.out.below hbb HE.out.lt); simp only [mkM, maskNV, mixM, Nat.reduceAdd, e1, ez] at hK ⊢; clear e1; simp only [Act.put, List.setIfInBounds_toArray, List.set_cons_zero, List.set_cons_succ] at hK; refine wanted_go rfl ?_; refine wp_append_bn (.tmp 49) (.tmp 54) rfl s va V rfl HOU ⟨q, 0, none⟩ 1 x za zl zc rfl hq3 hq4 HVL.out (by omega) ?_; intro v9 w9 hown hgr hf; exact hK.out v9 w9 ⟨(fun h => by rw [setL_eq] at h; cases h), (fun _ _ => ⟨(by rw [updG_eq]; exact HNU.app0 hown hgr hf), HOU.blk hgr HRB.1 (by decide), HOU.blk hgr HRB.2 (by decide)⟩), fun h => by rw [setL_ne (by decide), hn 9 (by decide)] at h; cases h⟩ ((HOU.kpq (B0 := wr.heap.size) (fun k hk => (HN.out.1.lt hk).2) hgr).elim (fun a b => GF.kept rfl ⟨a, b⟩)) trivial
          refine StepsMB.cons (fun l g' wu hB hl hn hp K hK => ?_) ?_
          · have hA := hB.2.1 (hp 7 (by decide)).1 (hn 9 (by decide)); simp only [mkM, maskNV, mixM, Nat.reduceAdd] at hK ⊢; simp only [Act.put, List.setIfInBounds_toArray, List.set_cons_zero, List.set_cons_succ] at hK; go_simp; exact hK.out _ _ ⟨(fun h => by rw [setL_ne (by decide), (hp 7 (by decide)).1] at h; cases h), (fun _ _ => by rw [updG_ne (by decide)]; exact hA), fun h => by rw [setL_ne (by decide), hn 9 (by decide)] at h; cases h⟩ GF.same rfl
          refine StepsMB.cons (fun l g' wu hB hl hn hp K hK => ?_) ?_
          · have hA := hB.2.1 (hp 7 (by decide)).1 hl; have e8 : g' 56 = .pointer (some ⟨s + 1 + 1, 0, none⟩) := (hp 8 (by decide)).2; obtain ⟨ra, rc, ez, _⟩ := (OwnN.row hA.1.1).form; rw [HV1.out] at ez; rw [ez] at hA; have HA := Lib.hid hA; have q0 := hA.1.2.2.2.1.cell 0; have f0 := hA.1.2.2.2.1.frozen 0; simp only [List.getElem?_cons_zero, List.getElem?_cons_succ] at q0; clear hA; simp only [mkM, maskNV, mixM, Nat.reduceAdd, e8, ez] at hK ⊢; clear e8; simp only [Act.put, List.setIfInBounds_toArray, List.set_cons_zero, List.set_cons_succ] at hK; go_simp; exact hK.out undef _ ⟨(fun h => by rw [setL_ne (by decide), (hp 7 (by decide)).1] at h; cases h), (fun _ h => by rw [setL_eq] at h; cases h), fun _ => ⟨_, HA.out.1.set0, HA.out.2.1.other _ _ (by show s + 1 ≠ s + 1 + 1; omega), HA.out.2.2.other _ _ (by show s ≠ s + 1 + 1; omega)⟩⟩ (GF.kept rfl (kpq_set HA.out.1.2.2.2.1 HDL.out)) trivial
          exact StepsMB.nil
        intro lb g' wr2 hall hB _
        obtain ⟨v1, hN1, hR1⟩ := hB.2.2 (hall 9 (by decide))
        simp only [mkM, maskNV, mixM, Nat.reduceAdd]
        obtain ⟨V2, hV2⟩ : ∃ V2, V ++ [x] = V2 := ⟨_, rfl⟩
        rw [hV2] at hN1
        have HV22 := Lib.hid hV2
        have HN1 := Lib.hid hN1
        have HO1 := Lib.hid hR1.1
        have HE1 := Lib.hid hR1.2
        clear hB hall hN1 hR1 HN HO HE HZ HDL k0 kq HQR HSR hV2
        obtain ⟨x2, hx2⟩ : ∃ x2, R % Q = x2 := ⟨_, rfl⟩
        have HXX1 := Lib.hid hx2
        have HQR1 : Hid (BN wr2 (.slice qa ql qc) Q) := HQ.out.below (by have q := HN1.out.2.2.2.2.1; rw [HSS.out] at q; exact q)
        have HMR1 : Hid (BN wr2 mv R) := HR.out.below (by have q := HN1.out.2.2.2.2.1; rw [HSS.out] at q; exact q)
        obtain ⟨n2, hn2⟩ : ∃ n2, (M ++ [x2]).length = n2 := ⟨_, rfl⟩
        have HV2 := Lib.hid hn2
        have HZ1 : Hid (s ≤ wr2.heap.size) := Nat.le_of_lt HE1.out.lt
        have HDL1 : Hid (s + 1 + 1 < wr2.heap.size) := HN1.out.2.2.2.1.lt
        have k1 : ∀ w', BB wr2 w' → w'.cell? ⟨s + 1 + 1, 1, none⟩ = some vb := fun w' hb => (BB.cell hb HDL1.out).trans (HN1.out.2.2.2.1.cell 1)
        have kq1 : ∀ w', BB wr2 w' → w'.cell? ⟨s, 1, none⟩ = some (.slice qa ql qc) := fun w' hb => (BB.cell hb HE1.out.lt).trans (HE1.out.cell 1)
        clear hx2 hn2
        go_wp2_with fail
        refine wp_region_mixB (fun l g w' => (l 7 = false → BB wr2 w') ∧ (l 7 = true → l 9 = false → DA1 w s (s + 1 + 1) v1 vb (g 64) V2 (M ++ [x2]) w' ∧ (Blk w' (s + 1) 86 [.slice none 0 0, .slice none 0 0] ∧ Blk w' s 62 [.slice pa pl pc, .slice qa ql qc, .slice ga gl gc, .slice ja jl jc])) ∧ (l 9 = true → ∃ v', DN w s (s + 1 + 1) v1 v' V2 (M ++ [x2]) w' ∧ (Blk w' (s + 1) 86 [.slice none 0 0, .slice none 0 0] ∧ Blk w' s 62 [.slice pa pl pc, .slice qa ql qc, .slice ga gl gc, .slice ja jl jc]))) (GF (tabNM wr2.heap.size (.pointer (some ⟨s + 1 + 1, 1, none⟩)) (vb) (mv) (.pointer (some ⟨s, 1, none⟩)) (.slice qa ql qc) x2 (Fk.lit x2) (.pointer (some ⟨s + 1 + 1, 1, none⟩)))) maskNM dstNM preNM (by kernel_rfl) (by kernel_rfl) rfl (by kernel_rfl) (by kernel_rfl) (by kernel_rfl) (by kernel_rfl) ⟨fun _ => BB.drew (BB.refl _), (fun h => by cases h), fun h => by cases h⟩ ?_ ?_
        · refine StepsMB.cons (fun l g' wu hB hl hn hp K hK => ?_) ?_
          · have hbb := hB.1 (hn 7 (by decide)); simp only [mkM, maskNM, mixM, Nat.reduceAdd] at hK ⊢; simp only [Act.put, List.setIfInBounds_toArray, List.set_cons_zero, List.set_cons_succ] at hK; go_simp; exact hK.out _ _ ⟨(fun h => hB.1 (by rw [setL_ne (by decide)] at h; exact h)), (fun h => by rw [setL_ne (by decide), hn 7 (by decide)] at h; cases h), fun h => by rw [setL_ne (by decide), hn 9 (by decide)] at h; cases h⟩ GF.same rfl
          refine StepsMB.cons (fun l g' wu hB hl hn hp K hK => ?_) ?_
          · have hbb := hB.1 (hn 7 (by decide)); have e0 : g' 57 = .pointer (some ⟨s + 1 + 1, 1, none⟩) := (hp 0 (by decide)).2; have hc := k1 _ hbb; simp only [mkM, maskNM, mixM, Nat.reduceAdd, e0] at hK ⊢; clear e0; simp only [Act.put, List.setIfInBounds_toArray, List.set_cons_zero, List.set_cons_succ] at hK; go_simp; exact hK.out _ _ ⟨(fun h => hB.1 (by rw [setL_ne (by decide)] at h; exact h)), (fun h => by rw [setL_ne (by decide), hn 7 (by decide)] at h; cases h), fun h => by rw [setL_ne (by decide), hn 9 (by decide)] at h; cases h⟩ GF.same rfl
          refine StepsMB.cons (fun l g' wu hB hl hn hp K hK => ?_) ?_
          · have hbb := hB.1 (hn 7 (by decide)); simp only [mkM, maskNM, mixM, Nat.reduceAdd] at hK ⊢; simp only [Act.put, List.setIfInBounds_toArray, List.set_cons_zero, List.set_cons_succ] at hK; go_simp; exact hK.out _ _ ⟨(fun h => hB.1 (by rw [setL_ne (by decide)] at h; exact h)), (fun h => by rw [setL_ne (by decide), hn 7 (by decide)] at h; cases h), fun h => by rw [setL_ne (by decide), hn 9 (by decide)] at h; cases h⟩ GF.same rfl
          refine StepsMB.cons (fun l g' wu hB hl hn hp K hK => ?_) ?_
          · have hbb := hB.1 (hn 7 (by decide)); simp only [mkM, maskNM, mixM, Nat.reduceAdd] at hK ⊢; simp only [Act.put, List.setIfInBounds_toArray, List.set_cons_zero, List.set_cons_succ] at hK; go_simp; exact hK.out _ _ ⟨(fun h => hB.1 (by rw [setL_ne (by decide)] at h; exact h)), (fun h => by rw [setL_ne (by decide), hn 7 (by decide)] at h; cases h), fun h => by rw [setL_ne (by decide), hn 9 (by decide)] at h; cases h⟩ GF.same rfl
          refine StepsMB.cons (fun l g' wu hB hl hn hp K hK => ?_) ?_
          · have hbb := hB.1 (hn 7 (by decide)); have e3 : g' 60 = .pointer (some ⟨s, 1, none⟩) := (hp 3 (by decide)).2; have hc := kq1 _ hbb; simp only [mkM, maskNM, mixM, Nat.reduceAdd, e3] at hK ⊢; clear e3; simp only [Act.put, List.setIfInBounds_toArray, List.set_cons_zero, List.set_cons_succ] at hK; go_simp; exact hK.out _ _ ⟨(fun h => hB.1 (by rw [setL_ne (by decide)] at h; exact h)), (fun h => by rw [setL_ne (by decide), hn 7 (by decide)] at h; cases h), fun h => by rw [setL_ne (by decide), hn 9 (by decide)] at h; cases h⟩ GF.same rfl
          refine StepsMB.cons (fun l g' wu hB hl hn hp K hK => ?_) ?_
          · have hbb := hB.1 (hn 7 (by decide)); have e2 : g' 59 = mv := (hp 2 (by decide)).2; have e4 : g' 61 = .slice qa ql qc := (hp 4 (by decide)).2; simp only [mkM, maskNM, mixM, Nat.reduceAdd, e2, e4] at hK ⊢; clear e2 e4; simp only [Act.put, List.setIfInBounds_toArray, List.set_cons_zero, List.set_cons_succ] at hK; go_simp; go_at_call 96; refine (rof_any (mv) (.slice qa ql qc) R Q wu (HMR1.out.below hbb) (HQR1.out.below hbb) HL.out.2.2.1 (Nat.le_trans HL.out.2.2.2.1 (by decide))).mono ?_; rw [HXX1.out]; rintro e w7 ⟨z, rfl, hz, hb⟩; go_wp2_with fail; exact hK.out _ _ ⟨(fun _ => BB.step hbb hb), (fun h => by rw [setL_ne (by decide), hn 7 (by decide)] at h; cases h), fun h => by rw [setL_ne (by decide), hn 9 (by decide)] at h; cases h⟩ (GF.below hb) hz
          refine StepsMB.cons (fun l g' wu hB hl hn hp K hK => ?_) ?_
          · have hbb := hB.1 (hn 7 (by decide)); have h5 : BN wu (g' 62) x2 := (hp 5 (by decide)).2; obtain ⟨za, zl, zc, ez, hz⟩ := bn_slice h5; have hsz := hbb.size; have hb := (Below.refl _ wu).alloc (Nat.le_refl _) (Obj.cells #[.slice za zl zc] 48); simp only [mkM, maskNM, mixM, Nat.reduceAdd, ez] at hK ⊢; simp only [Act.put, List.setIfInBounds_toArray, List.set_cons_zero, List.set_cons_succ] at hK; go_simp; exact hK.out _ _ ⟨(fun _ => BB.step hbb hb), (fun h => by rw [setL_ne (by decide), hn 7 (by decide)] at h; cases h), fun h => by rw [setL_ne (by decide), hn 9 (by decide)] at h; cases h⟩ GF.alloc (IsLit.new hsz hz)
          refine StepsMB.cons (fun l g' wu hB hl hn hp K hK => ?_) ?_
          · have hbb := hB.1 hl; have e1 : g' 58 = vb := (hp 1 (by decide)).2; have h6 : IsLit wr2.heap.size x2 (g' 63) wu := (hp 6 (by decide)).2; obtain ⟨q, za, zl, zc, ez, hq1, hq2, hq3, hq4⟩ := h6; have HNU := HN1.out.below hbb; have HOU := HNU.2.1; have hsz := HZ1.out; have hsz2 := hbb.size; have HRB := And.intro (HO1.out.below hbb HO1.out.lt) (HE1.out.below hbb HE1.out.lt); simp only [mkM, maskNM, mixM, Nat.reduceAdd, e1, ez] at hK ⊢; clear e1; simp only [Act.put, List.setIfInBounds_toArray, List.set_cons_zero, List.set_cons_succ] at hK; refine wanted_go rfl ?_; refine wp_append_bn (.tmp 58) (.tmp 63) rfl s vb M rfl HOU ⟨q, 0, none⟩ 1 x2 za zl zc rfl hq3 hq4 HVL1.out (by omega) ?_; intro v9 w9 hown hgr hf; exact hK.out v9 w9 ⟨(fun h => by rw [setL_eq] at h; cases h), (fun _ _ => ⟨(by rw [updG_eq]; exact HNU.app1 hown hgr hf), HOU.blk hgr HRB.1 (by decide), HOU.blk hgr HRB.2 (by decide)⟩), fun h => by rw [setL_ne (by decide), hn 9 (by decide)] at h; cases h⟩ ((HOU.kpq (B0 := wr2.heap.size) (fun k hk => (HN1.out.2.1.lt hk).2) hgr).elim (fun a b => GF.kept rfl ⟨a, b⟩)) trivial
          refine StepsMB.cons (fun l g' wu hB hl hn hp K hK => ?_) ?_
          · have hA := hB.2.1 (hp 7 (by decide)).1 (hn 9 (by decide)); simp only [mkM, maskNM, mixM, Nat.reduceAdd] at hK ⊢; simp only [Act.put, List.setIfInBounds_toArray, List.set_cons_zero, List.set_cons_succ] at hK; go_simp; exact hK.out _ _ ⟨(fun h => by rw [setL_ne (by decide), (hp 7 (by decide)).1] at h; cases h), (fun _ _ => by rw [updG_ne (by decide)]; exact hA), fun h => by rw [setL_ne (by decide), hn 9 (by decide)] at h; cases h⟩ GF.same rfl
          refine StepsMB.cons (fun l g' wu hB hl hn hp K hK => ?_) ?_
          · have hA := hB.2.1 (hp 7 (by decide)).1 hl; have e8 : g' 65 = .pointer (some ⟨s + 1 + 1, 1, none⟩) := (hp 8 (by decide)).2; obtain ⟨ra, rc, ez, _⟩ := (OwnN.row hA.1.2.1).form; rw [HV2.out] at ez; rw [ez] at hA; have HA := Lib.hid hA; have q0 := hA.1.2.2.2.1.cell 1; have f0 := hA.1.2.2.2.1.frozen 1; simp only [List.getElem?_cons_zero, List.getElem?_cons_succ] at q0; clear hA; simp only [mkM, maskNM, mixM, Nat.reduceAdd, e8, ez] at hK ⊢; clear e8; simp only [Act.put, List.setIfInBounds_toArray, List.set_cons_zero, List.set_cons_succ] at hK; go_simp; exact hK.out undef _ ⟨(fun h => by rw [setL_ne (by decide), (hp 7 (by decide)).1] at h; cases h), (fun _ h => by rw [setL_eq] at h; cases h), fun _ => ⟨_, HA.out.1.set1, HA.out.2.1.other _ _ (by show s + 1 ≠ s + 1 + 1; omega), HA.out.2.2.other _ _ (by show s ≠ s + 1 + 1; omega)⟩⟩ (GF.kept rfl (kpq_set HA.out.1.2.2.2.1 HDL1.out)) trivial
          exact StepsMB.nil
        intro lb2 g2 wr3 hall hB _
        obtain ⟨v2, hN2, hR2⟩ := hB.2.2 (hall 9 (by decide))
        simp only [mkM, maskNM, mixM, Nat.reduceAdd]
        have HN2 := Lib.hid hN2
        have HO2 := Lib.hid hR2.1
        have HE2 := Lib.hid hR2.2
        clear hB hall hN2 hR2
        go_wp2_with fail
        go_roundw
        case rel => exact ⟨i + 1, v1, v2, by omega, by go_num, (by rw [HT1.out, HV22.out, HT2.out, HXX1.out]; exact HN2.out), HO2.out, HE2.out⟩
        case measure => simp [intOf]; omega
    · have hi' : i = t := by omega
      subst hi'
      have e1 : Vs.take i = Vs := List.take_of_length_le (by rw [← HVs.out, dvF_length (by have := HL.out.2.2.2.2; have := HU.out; omega)]; have := HU.out; omega)
      have e2 : Ms.take i = Ms := List.take_of_length_le (by rw [← HMs.out, dvF_length (by rw [List.length_drop]; have := HL.out.2.2.2.2; have := HU.out; omega)]; have := HU.out; omega)
      rw [e1, e2] at HN
      clear e1 e2
      obtain ⟨ra, rc, hr1, _⟩ := (OwnN.row HN.out.1).form
      obtain ⟨ma, mc, hm1, _⟩ := (OwnN.row HN.out.2.1).form
      obtain ⟨lv, hlv⟩ : ∃ lv, Vs.length = lv := ⟨_, rfl⟩
      obtain ⟨lm, hlm⟩ : ∃ lm, Ms.length = lm := ⟨_, rfl⟩
      rw [hlv] at hr1
      rw [hlm] at hm1
      subst hr1 hm1
      have hD := HN.out.2.2.2.1
      have hO := HO.out
      have q0 := hD.cell 0
      have q1 := hD.cell 1
      have o0 := hO.cell 0
      have o1 := hO.cell 1
      have of0 := hO.frozen 0
      have of1 := hO.frozen 1
      simp only [List.getElem?_cons_zero, List.getElem?_cons_succ] at q0 q1 o0 o1
      clear hD hO hlv hlm
      go_wp2_with fail
      have hB2 := (HO.out.set 0 (.slice ra lv rc)).set 1 (.slice ma lm mc)
      refine ret_bdeal rfl rfl rfl hB2 ⟨_, _, rfl, ?_, ?_, ?_⟩
      · exact ((HN.out.1.dset HO.out (by decide) (by decide) 0 _).dset (HO.out.set 0 _) (by decide) (by decide) 1 _).row
      · exact ((HN.out.2.1.dset HO.out (by decide) (by decide) 0 _).dset (HO.out.set 0 _) (by decide) (by decide) 1 _).row
      · exact HSS.out ▸ (HN.out.2.2.2.2.1.setCell (p := ⟨s + 1, 0, none⟩) (Nat.le_succ s) _).setCell (p := ⟨s + 1, 1, none⟩) (Nat.le_succ s) _
set_option maxRecDepth 100000 in
set_option maxHeartbeats 4000000 in
theorem bdnew_few (gv sv mv : Value) (P Q G H t : Nat) (a : Option Addr) (len cap : Nat) (w : World) (hg : BG w gv P Q G H) (h1 : 1 ≤ t) (h2 : t ≤ 64) (hc : (len : Int) ≤ 10000) (hlen : len + 2 < 2 * t) :
    Calls Try.prog 61 #[gv, .int .i64 (t : Int), sv, mv, .slice a len cap] w (DealNone 10 w) := by
  obtain ⟨pa, pl, pc, qa, ql, qc, ga, gl, gc, ja, jl, jc, rfl, _, _, _, _⟩ := hg
  obtain ⟨s, hs⟩ : ∃ s, s = w.heap.size := ⟨_, rfl⟩
  have hbA := (Below.refl _ w).alloc (Nat.le_refl _) (Obj.cells #[Value.slice pa pl pc, Value.slice qa ql qc, Value.slice ga gl gc, Value.slice ja jl jc] 62)
  have hbB : BB w ((w.alloc (Obj.cells #[Value.slice pa pl pc, Value.slice qa ql qc, Value.slice ga gl gc, Value.slice ja jl jc] 62)).alloc (Obj.cells #[Value.slice none 0 0, Value.slice none 0 0] 86)) := BB.alloc hbA
  have HO : Hid (Blk ((w.alloc (Obj.cells #[Value.slice pa pl pc, Value.slice qa ql qc, Value.slice ga gl gc, Value.slice ja jl jc] 62)).alloc (Obj.cells #[Value.slice none 0 0, Value.slice none 0 0] 86)) (s + 1) 86 [.slice none 0 0, .slice none 0 0]) := Blk.new' _ [.slice none 0 0, .slice none 0 0] _ (s + 1) (by rw [hs]; simp)
  have HB1 : Hid (Below s w ((w.alloc (Obj.cells #[Value.slice pa pl pc, Value.slice qa ql qc, Value.slice ga gl gc, Value.slice ja jl jc] 62)).alloc (Obj.cells #[Value.slice none 0 0, Value.slice none 0 0] 86))) := hs.symm ▸ hbB
  have HSS := Lib.hid hs
  obtain ⟨u, hu⟩ : ∃ u, t = u + 1 := ⟨t - 1, by omega⟩
  have w1 : IntKind.i64.wrap ((t : Int) - 1) = (u : Int) := by rw [i64_small _ (by omega) (by omega)]; omega
  have w2 : IntKind.i64.wrap ((u : Int) + (t : Int)) = (u : Int) + (t : Int) := i64_small _ (by omega) (by omega)
  have w3 : IntKind.i64.wrap ((u : Int) + (t : Int) - 1) = (u : Int) + (u : Int) := by rw [i64_small _ (by omega) (by omega)]; omega
  have dnl : decide ((len : Int) < (u : Int) + (u : Int)) = true := decide_eq_true (by omega)
  clear hbA hbB h1 h2 hu hlen
  go_enter Try.func61, Try.ntmps61
  have hO := HO.out
  have q0 := hO.cell 0
  have q1 := hO.cell 1
  have f0 := hO.frozen 0
  have f1 := hO.frozen 1
  simp only [List.getElem?_cons_zero, List.getElem?_cons_succ] at q0 q1
  clear hO
  go_wp2_with fail
  exact ret_bdeal rfl rfl rfl (hs ▸ HO.out) ⟨rfl, hs ▸ HB1.out⟩
end Go.Proofs.Ythefednendgclaa
