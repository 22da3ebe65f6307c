/-
  A share as the document's; the document's bytes of a share.
-/
import Derived.Test.YthefednendgclaaRefD
import Derived.Test.YthefednendgclaaDealC
import Derived.Test.YthefednendgclaaRefK
set_option linter.unusedVariables false
set_option linter.unusedSimpArgs false
namespace Go.Proofs.Ythefednendgclaa
open Go Go.RowKit Sac

def PairBA (w w' : World) (s x y : Nat) : Prop := ∃ (a : Option Addr) (l c : Nat) (a' : Option Addr) (l' c' : Nat), Blk w' (s + 1) 96 [.slice a l c, .slice a' l' c'] ∧ BN w' (.slice a l c) x ∧ BN w' (.slice a' l' c') y ∧ Below s w w'
theorem PairBA.below {w w' w'' : World} {s x y : Nat} (h : PairBA w w' s x y) (hb : Below w'.heap.size w' w'') : PairBA w w'' s x y := by
  obtain ⟨a, l, c, a', l', c', h1, h2, h3, h4⟩ := h
  exact ⟨a, l, c, a', l', c', h1.below hb h1.lt, h2.below hb, h3.below hb, h4.trans (hb.mono (by have := h1.lt; omega))⟩
def tabOF (v0 : Value) (v1 : Value) (p2 : Fk KpS) (v3 : Value) (v4 : Value) (p5 : Fk KpS) (p6 : Fk KpS) (last : Fk KpS) : List (Fk KpS) := [.val v0, .val v1, p2, .val v3, .val v4, p5, p6, last]
def dstOF : List (Option Tmp) := [some 3, some 4, some 5, some 6, some 7, some 8, some 9, none]
def preOF : List (List Nat) := [[], [0], [0, 1], [], [3], [0, 1, 2, 3, 4], [0, 1, 2, 3, 4, 5], [0, 1, 2, 3, 4, 5, 6]]
def maskOF : List Bool := [false, false, false, true, true, true, true, true, true, true]

set_option maxRecDepth 100000 in
set_option maxHeartbeats 4000000 in
theorem of14_any (sa : Option Addr) (sl sc x : Nat) (ra : Option Addr) (rl rc y : Nat) (w : World) (hs : NatS w sa sl x) (hr : NatS w ra rl y) (hx : nbytes x ≤ 120) (hy : nbytes y ≤ 120) :
    Calls Try.prog 72 #[.agg #[.slice sa sl sc, .slice ra rl rc]] w (RetSB x y w) := by
  obtain ⟨s, hss⟩ : ∃ s, s = w.heap.size := ⟨_, rfl⟩
  have hbA := (Below.refl _ w).alloc (Nat.le_refl _) (Obj.cells #[Value.slice sa sl sc, Value.slice ra rl rc] 90)
  have hbB : BB w ((w.alloc (Obj.cells #[Value.slice sa sl sc, Value.slice ra rl rc] 90)).alloc (Obj.cells #[Value.slice none 0 0, Value.slice none 0 0] 96)) := BB.alloc hbA
  have hD : Blk ((w.alloc (Obj.cells #[Value.slice sa sl sc, Value.slice ra rl rc] 90)).alloc (Obj.cells #[Value.slice none 0 0, Value.slice none 0 0] 96)) s 90 [.slice sa sl sc, .slice ra rl rc] := (Blk.new' w _ _ s hss).alloc _
  have hS : Blk ((w.alloc (Obj.cells #[Value.slice sa sl sc, Value.slice ra rl rc] 90)).alloc (Obj.cells #[Value.slice none 0 0, Value.slice none 0 0] 96)) (s + 1) 96 [.slice none 0 0, .slice none 0 0] := Blk.new' _ _ _ (s + 1) (by rw [hss]; simp)
  have HS := Lib.hid (hs.below hbB)
  have HR := Lib.hid (hr.below hbB)
  have HX := Lib.hid (And.intro hx hy)
  have HB4 : Hid (Below s w ((w.alloc (Obj.cells #[Value.slice sa sl sc, Value.slice ra rl rc] 90)).alloc (Obj.cells #[Value.slice none 0 0, Value.slice none 0 0] 96))) := hss.symm ▸ hbB
  have HSS := Lib.hid hss
  have HD := Lib.hid hD
  have HS4 := Lib.hid hS
  clear hs hr hx hy hbA hbB hD hS
  go_enter Try.func72, Try.ntmps72
  go_wp2_with fail
  rw [← hss]
  clear hss
  generalize (w.alloc (Obj.cells #[Value.slice sa sl sc, Value.slice ra rl rc] 90)).alloc (Obj.cells #[Value.slice none 0 0, Value.slice none 0 0] 96) = w2 at HS HR HB4 HD HS4 ⊢
  have HZ4 : Hid (s ≤ w2.heap.size) := Nat.le_of_lt HD.out.lt
  have k0 : ∀ w', BB w2 w' → w'.cell? ⟨s, 0, none⟩ = some (.slice sa sl sc) := fun w' hb => (BB.cell hb HD.out.lt).trans (HD.out.cell 0)
  have k1 : ∀ w', BB w2 w' → w'.cell? ⟨s, 1, none⟩ = some (.slice ra rl rc) := fun w' hb => (BB.cell hb HD.out.lt).trans (HD.out.cell 1)
  refine wp_region_mix (fun l w' => l 7 = false → BB w2 w') (GF (tabOF (.pointer (some ⟨s, 0, none⟩)) (.agg #[.slice sa sl sc]) (Fk.sbn x) (.pointer (some ⟨s, 1, none⟩)) (.agg #[.slice ra rl rc]) (Fk.sbn y) (Fk.pairB x y) (Fk.rel (fun _ w' => PairBA w w' s x y) (fun _ _ _ hb h => h.below hb)))) maskOF dstOF preOF (by kernel_rfl) (by kernel_rfl) rfl (by kernel_rfl) (by kernel_rfl) (by kernel_rfl) (by kernel_rfl) (fun _ => BB.drew (BB.refl _)) ?_ ?_
  · refine StepsM.cons (fun l g' wu hB hl hn hp K hK => ?_) ?_
    · simp only [mkM, maskOF, mixM, Nat.reduceAdd] at hK ⊢; simp only [Act.put, List.setIfInBounds_toArray, List.set_cons_zero, List.set_cons_succ] at hK; go_simp; exact hK.out _ _ (fun h => hB (by simpa [setL] using h)) GF.same rfl
    refine StepsM.cons (fun l g' wu hB hl hn hp K hK => ?_) ?_
    · have hbb := hB (hn 7 (by decide)); have e0 : g' 3 = .pointer (some ⟨s, 0, none⟩) := (hp 0 (by decide)).2; have hc := k0 _ hbb; simp only [mkM, maskOF, mixM, Nat.reduceAdd, e0] at hK ⊢; clear e0; simp only [Act.put, List.setIfInBounds_toArray, List.set_cons_zero, List.set_cons_succ] at hK; go_simp; exact hK.out _ _ (fun h => hB (by simpa [setL] using h)) GF.same rfl
    refine StepsM.cons (fun l g' wu hB hl hn hp K hK => ?_) ?_
    · have e1 : g' 4 = .agg #[.slice sa sl sc] := (hp 1 (by decide)).2; have hbb := hB (hn 7 (by decide)); simp only [mkM, maskOF, mixM, Nat.reduceAdd, e1] at hK ⊢; clear e1; simp only [Act.put, List.setIfInBounds_toArray, List.set_cons_zero, List.set_cons_succ] at hK; go_simp; go_at_call 32; refine (num_any sa sl sc x wu (HS.out.below hbb) HX.out.1).mono ?_; rintro e w7 ⟨z, rfl, hz, hb⟩; go_wp2_with fail; exact hK.out _ _ (fun _ => BB.step hbb hb) (GF.below hb) hz
    refine StepsM.cons (fun l g' wu hB hl hn hp K hK => ?_) ?_
    · simp only [mkM, maskOF, mixM, Nat.reduceAdd] at hK ⊢; simp only [Act.put, List.setIfInBounds_toArray, List.set_cons_zero, List.set_cons_succ] at hK; go_simp; exact hK.out _ _ (fun h => hB (by simpa [setL] using h)) GF.same rfl
    refine StepsM.cons (fun l g' wu hB hl hn hp K hK => ?_) ?_
    · have hbb := hB (hn 7 (by decide)); have e3 : g' 6 = .pointer (some ⟨s, 1, none⟩) := (hp 3 (by decide)).2; have hc := k1 _ hbb; simp only [mkM, maskOF, mixM, Nat.reduceAdd, e3] at hK ⊢; clear e3; simp only [Act.put, List.setIfInBounds_toArray, List.set_cons_zero, List.set_cons_succ] at hK; go_simp; exact hK.out _ _ (fun h => hB (by simpa [setL] using h)) GF.same rfl
    refine StepsM.cons (fun l g' wu hB hl hn hp K hK => ?_) ?_
    · have e4 : g' 7 = .agg #[.slice ra rl rc] := (hp 4 (by decide)).2; have hbb := hB (hn 7 (by decide)); simp only [mkM, maskOF, mixM, Nat.reduceAdd, e4] at hK ⊢; clear e4; simp only [Act.put, List.setIfInBounds_toArray, List.set_cons_zero, List.set_cons_succ] at hK; go_simp; go_at_call 32; refine (num_any ra rl rc y wu (HR.out.below hbb) HX.out.2).mono ?_; rintro e w7 ⟨z, rfl, hz, hb⟩; go_wp2_with fail; exact hK.out _ _ (fun _ => BB.step hbb hb) (GF.below hb) hz
    refine StepsM.cons (fun l g' wu hB hl hn hp K hK => ?_) ?_
    · have h2 : BN wu (g' 5) x := (hp 2 (by decide)).2; have h5 : BN wu (g' 8) y := (hp 5 (by decide)).2; obtain ⟨a5, l5, c5, ez5, n5⟩ := bn_slice h2; obtain ⟨a11, l11, c11, ez11, n11⟩ := bn_slice h5; simp only [mkM, maskOF, mixM, Nat.reduceAdd, ez5, ez11] at hK ⊢; simp only [Act.put, List.setIfInBounds_toArray, List.set_cons_zero, List.set_cons_succ] at hK; go_simp; exact hK.out _ _ (fun h => hB (by simpa [setL] using h)) GF.same ⟨a5, l5, c5, a11, l11, c11, rfl, n5, n11⟩
    refine StepsM.cons (fun l g' wu hB hl hn hp K hK => ?_) ?_
    · have hbb := hB hl; have h6 : IsPairB x y (g' 9) wu := (hp 6 (by decide)).2; obtain ⟨a1, l1, c1, a2, l2, c2, ez, n1, n2⟩ := h6; have hBk := HS4.out.below hbb HS4.out.lt; have HBk := Lib.hid hBk; have q0 := hBk.cell 0; have q1 := hBk.cell 1; have f0 := hBk.frozen 0; have f1 := hBk.frozen 1; simp only [List.getElem?_cons_zero, List.getElem?_cons_succ] at q0 q1; clear hBk; simp only [mkM, maskOF, mixM, Nat.reduceAdd, ez] at hK ⊢; simp only [Act.put, List.setIfInBounds_toArray, List.set_cons_zero, List.set_cons_succ] at hK; go_simp; exact hK.out undef _ (fun h => by simp [setL] at h) (GF.kept rfl (fun _ _ hn => (hn.sset HBk.out (by decide) 0 _).sset (HBk.out.set 0 _) (by decide) 1 _)) (⟨a1, l1, c1, a2, l2, c2, (HBk.out.set 0 _).set 1 _, (n1.sset HBk.out (by decide) 0 _).sset (HBk.out.set 0 _) (by decide) 1 _, (n2.sset HBk.out (by decide) 0 _).sset (HBk.out.set 0 _) (by decide) 1 _, ((HB4.out.trans (Below.mono hbb HZ4.out)).setCell (p := ⟨s + 1, 0, none⟩) (Nat.le_succ s) _).setCell (p := ⟨s + 1, 1, none⟩) (Nat.le_succ s) _⟩)
    exact StepsM.nil
  · intro l g' wu hall hB hG
    have h7 : PairBA w wu s x y := hG 7 (by decide)
    obtain ⟨a1, l1, c1, a2, l2, c2, hb, n1, n2, hbel⟩ := h7
    have HH := Lib.hid (And.intro hb (And.intro n1 (And.intro n2 hbel)))
    simp only [mkM, maskOF, mixM, Nat.reduceAdd]
    clear hG hall hB hb n1 n2 hbel
    go_wp2_with fail
    exact ret_bs rfl rfl HH.out.1 ⟨a1, l1, c1, a2, l2, c2, rfl, HH.out.2.1, HH.out.2.2.1, HSS.out ▸ HH.out.2.2.2⟩

theorem bn_len {w : World} {a : Option Addr} {l c n : Nat} (h : BN w (.slice a l c) n) : l = Bt.len n := by
  obtain ⟨a', c', e, _⟩ := h
  injection e
set_option maxRecDepth 100000 in
set_option maxHeartbeats 2000000 in
theorem bwidth_any (gv : Value) (P Q G H : Nat) (w : World) (hg : BG w gv P Q G H) :
    Calls Try.prog 135 #[gv] w fun e w' => e = .returned (.int .i64 ((nbytes Q : Nat) : Int)) ∧ Below w.heap.size w w' := by
  obtain ⟨pa, pl, pc, qa, ql, qc, ga, gl, gc, ja, jl, jc, rfl, _, hQ, _, _⟩ := hg
  have hql := bn_len hQ
  have hl := hQ.len
  rw [← hql] at hl
  have hnb : ((ql : Int) + 7) / 8 = ((nbytes Q : Nat) : Int) := by unfold nbytes; rw [← len_blen, ← hql]; omega
  have hwr : IntKind.i64.wrap ((ql : Int) + 7) = (ql : Int) + 7 := i64_small _ (by omega) (by omega)
  have hw2 : IntKind.i64.wrap ((nbytes Q : Nat) : Int) = ((nbytes Q : Nat) : Int) := by rw [← hnb]; exact i64_small _ (by omega) (by omega)
  have hw3 : Int.tdiv ((ql : Int) + 7) 8 = ((nbytes Q : Nat) : Int) := by rw [Int.tdiv_eq_ediv_of_nonneg (by omega)]; exact hnb
  have HB := Lib.hid ((Below.refl _ w).alloc (Nat.le_refl _) (Obj.cells #[Value.slice pa pl pc, Value.slice qa ql qc, Value.slice ga gl gc, Value.slice ja jl jc] 62))
  have HN := Lib.hid hnb
  clear hQ hql
  go_enter Try.func135, Try.ntmps135
  go_wp2_with fail
  go_ret
  exact ⟨by first | rfl | (simp [HN.out]), HB.out⟩
set_option maxRecDepth 100000 in
set_option maxHeartbeats 2000000 in
theorem bfixed_any (gv v : Value) (P Q G H x nb : Nat) (w : World) (hg : BG w gv P Q G H) (hv : BN w v x) (hnb : nbytes Q = nb) (hQ : nb ≤ 120) (hx : x < Q) :
    Calls Try.prog 116 #[gv, v] w fun e w' => ∃ q, w.heap.size ≤ q ∧ e = .returned (.slice (some ⟨q, 0, none⟩) nb nb) ∧ Blk w' q 5 ((be nb x).map by8) ∧ Below w.heap.size w w' := by
  have HX : Hid (x < 256 ^ nb) := hnb ▸ lt_nb hx
  have HNB := Lib.hid hnb
  obtain ⟨pa, pl, pc, qa, ql, qc, ga, gl, gc, ja, jl, jc, rfl, h1, h2, h3, h4⟩ := hg
  have hbA := (Below.refl _ w).alloc (Nat.le_refl _) (Obj.cells #[Value.slice pa pl pc, Value.slice qa ql qc, Value.slice ga gl gc, Value.slice ja jl jc] 62)
  have HG : Hid (BG (w.alloc (Obj.cells #[Value.slice pa pl pc, Value.slice qa ql qc, Value.slice ga gl gc, Value.slice ja jl jc] 62)) (.agg #[.slice pa pl pc, .slice qa ql qc, .slice ga gl gc, .slice ja jl jc]) P Q G H) := ⟨pa, pl, pc, qa, ql, qc, ga, gl, gc, ja, jl, jc, rfl, h1.below hbA, h2.below hbA, h3.below hbA, h4.below hbA⟩
  have HV := Lib.hid (hv.below hbA)
  have HB := Lib.hid hbA
  clear h1 h2 h3 h4 hv hbA hx hnb
  go_enter Try.func116, Try.ntmps116
  go_wp2_with fail
  generalize w.alloc (Obj.cells #[Value.slice pa pl pc, Value.slice qa ql qc, Value.slice ga gl gc, Value.slice ja jl jc] 62) = w1 at HG HV HB ⊢
  refine (bwidth_any _ P Q G H w1 HG.out).mono ?_
  rw [HNB.out]
  rintro e w2 ⟨rfl, hb2⟩
  have HV2 := Lib.hid (HV.out.below hb2)
  have HB2 := Lib.hid (HB.out.trans (hb2.mono HB.out.size))
  clear hb2
  go_wp2_with fail
  refine (bbytes_any v x nb w2 HV2.out (by omega) HX.out).mono ?_
  rintro e w3 ⟨q, hq, rfl, hBq, hb3⟩
  have HBQ := Lib.hid hBq
  have HQ := Lib.hid (Nat.le_trans HB2.out.size hq)
  have HB3 := Lib.hid (HB2.out.trans (hb3.mono HB2.out.size))
  clear hq hBq hb3
  go_wp2_with fail
  go_ret
  exact ⟨q, HQ.out, rfl, HBQ.out, HB3.out⟩
theorem wp_append_buf {o : Oper} {a : Act} {w : World} {K : Act → World → Prop} {Q : Exit → Act → World → Prop} (s x : Operand)
    (hop : o.op = Op.call { callee := Callee.builtin Builtin.append, args := #[s, x], argTypes := #[102, 102] })
    (base : Nat) (v : Value) (bs : List Nat) (hs : a.eval s = v) (h : Buf w base v bs) (xv : Value) (cs : List Nat) (hx : a.eval x = xv) (hr : RB w xv cs)
    (hlen : bs.length + cs.length ≤ 100000000) (hbase : base ≤ w.heap.size)
    (hk : ∀ v' w', Buf w' base v' (bs ++ cs) → w.grownBy w' v.ownBlock → (∀ k, v'.ownBlock = some k → v.ownBlock = some k ∨ w.heap.size ≤ k) → K (a.put o.dst v') w') : Oper.wp Try.prog o a w K Q := by
  obtain ⟨v', w', hr, h1, h2, h3⟩ := append_buf w base o.type v bs h xv cs hr hlen hbase
  unfold Oper.wp execOp
  simp only [hop, resolve, invoke, builtin, Sem.run_bind, Sem.run_pure, Result.andThen_ok, List.map_toArray, List.map_cons, List.map_nil, hs, hx, hr]
  exact hk v' w' h1 h2 h3
def tabB14 (v0 v1 v2 v4 v5 v6 : Value) : List (Fk KpS) := [.val v0, .val v1, .val v2, .any, .val v4, .val v5, .val v6, .any, .any, .any]
def dstB14 : List (Option Tmp) := [some 5, some 6, some 7, some 8, some 9, some 10, some 11, some 12, some 13, some 4]
def preB14 : List (List Nat) := [[], [], [1], [0, 1, 2], [], [], [5], [0, 1, 2, 3, 4, 5, 6], [0, 1, 2, 3, 4, 5, 6, 7], [0, 1, 2, 3, 4, 5, 6, 7, 8]]
def maskB14 : List Bool := [false, false, false, false, true, true, true, true, true, true, true, true, true, true]
set_option maxRecDepth 100000 in
set_option maxHeartbeats 4000000 in
theorem bby14_any (gv u v : Value) (P Q G H x y nb : Nat) (w : World) (hg : BG w gv P Q G H) (hu : BN w u x) (hv : BN w v y) (hnb : nbytes Q = nb) (hQ : nb ≤ 120) (hx : x < Q) (hy : y < Q) :
    Calls Try.prog 71 #[gv, .agg #[u, v]] w fun e w' => ∃ z, e = .returned z ∧ RB w' z (be nb x ++ be nb y) ∧ Below w.heap.size w w' := by
  have HNB := Lib.hid hnb
  have HXY := Lib.hid (And.intro hx hy)
  obtain ⟨pa, pl, pc, qa, ql, qc, ga, gl, gc, ja, jl, jc, rfl, h1, h2, h3, h4⟩ := hg
  obtain ⟨ua, ul, uc, rfl, hu⟩ := bn_slice hu
  obtain ⟨va, vl, vc, rfl, hv⟩ := bn_slice hv
  obtain ⟨s, hss⟩ : ∃ s, s = w.heap.size := ⟨_, rfl⟩
  have hbA := (Below.refl _ w).alloc (Nat.le_refl _) (Obj.cells #[Value.slice pa pl pc, Value.slice qa ql qc, Value.slice ga gl gc, Value.slice ja jl jc] 62)
  have hbB : BB w ((w.alloc (Obj.cells #[Value.slice pa pl pc, Value.slice qa ql qc, Value.slice ga gl gc, Value.slice ja jl jc] 62)).alloc (Obj.cells #[Value.slice ua ul uc, Value.slice va vl vc] 96)) := BB.alloc hbA
  have hE : Blk ((w.alloc (Obj.cells #[Value.slice pa pl pc, Value.slice qa ql qc, Value.slice ga gl gc, Value.slice ja jl jc] 62)).alloc (Obj.cells #[Value.slice ua ul uc, Value.slice va vl vc] 96)) s 62 [.slice pa pl pc, .slice qa ql qc, .slice ga gl gc, .slice ja jl jc] := (Blk.new' w _ _ s hss).alloc _
  have hD : Blk ((w.alloc (Obj.cells #[Value.slice pa pl pc, Value.slice qa ql qc, Value.slice ga gl gc, Value.slice ja jl jc] 62)).alloc (Obj.cells #[Value.slice ua ul uc, Value.slice va vl vc] 96)) (s + 1) 96 [.slice ua ul uc, .slice va vl vc] := Blk.new' _ _ _ (s + 1) (by rw [hss]; simp)
  have HG : Hid (∀ w', BB ((w.alloc (Obj.cells #[Value.slice pa pl pc, Value.slice qa ql qc, Value.slice ga gl gc, Value.slice ja jl jc] 62)).alloc (Obj.cells #[Value.slice ua ul uc, Value.slice va vl vc] 96)) w' → BG w' (.agg #[.slice pa pl pc, .slice qa ql qc, .slice ga gl gc, .slice ja jl jc]) P Q G H) := fun w' h => ⟨pa, pl, pc, qa, ql, qc, ga, gl, gc, ja, jl, jc, rfl, (h1.below hbB).below h, (h2.below hbB).below h, (h3.below hbB).below h, (h4.below hbB).below h⟩
  have HU := Lib.hid (hu.below hbB)
  have HV := Lib.hid (hv.below hbB)
  have HB1 := Lib.hid hbB
  clear h1 h2 h3 h4 hu hv hbA hx hy hnb hbB
  go_enter Try.func71, Try.ntmps71
  go_wp2_with fail
  rw [← hss]
  have HSS := Lib.hid hss
  clear hss
  generalize (w.alloc (Obj.cells #[Value.slice pa pl pc, Value.slice qa ql qc, Value.slice ga gl gc, Value.slice ja jl jc] 62)).alloc (Obj.cells #[Value.slice ua ul uc, Value.slice va vl vc] 96) = w1 at hE hD HG HU HV HB1 ⊢
  have kP : ∀ w', BB w1 w' → w'.cell? ⟨s, 0, none⟩ = some (.slice pa pl pc) := fun w' hb => (BB.cell hb hE.lt).trans (hE.cell 0)
  have kQ : ∀ w', BB w1 w' → w'.cell? ⟨s, 1, none⟩ = some (.slice qa ql qc) := fun w' hb => (BB.cell hb hE.lt).trans (hE.cell 1)
  have kG : ∀ w', BB w1 w' → w'.cell? ⟨s, 2, none⟩ = some (.slice ga gl gc) := fun w' hb => (BB.cell hb hE.lt).trans (hE.cell 2)
  have kH : ∀ w', BB w1 w' → w'.cell? ⟨s, 3, none⟩ = some (.slice ja jl jc) := fun w' hb => (BB.cell hb hE.lt).trans (hE.cell 3)
  have k0 : ∀ w', BB w1 w' → w'.cell? ⟨s + 1, 0, none⟩ = some (.slice ua ul uc) := fun w' hb => (BB.cell hb hD.lt).trans (hD.cell 0)
  have k1 : ∀ w', BB w1 w' → w'.cell? ⟨s + 1, 1, none⟩ = some (.slice va vl vc) := fun w' hb => (BB.cell hb hD.lt).trans (hD.cell 1)
  clear hE hD
  refine wp_region_mixB (fun l g w' => (l 8 = false → BB w1 w') ∧ (l 8 = false → l 3 = true → Buf w' w.heap.size (g 8) (be nb x)) ∧ (l 8 = false → l 7 = true → RB w' (g 12) (be nb y)) ∧ (l 8 = true → Buf w' w.heap.size (g 13) (be nb x ++ be nb y) ∧ Below w.heap.size w w') ∧ (l 9 = true → g 4 = g 13)) (GF (tabB14 (.agg #[.slice pa pl pc, .slice qa ql qc, .slice ga gl gc, .slice ja jl jc]) (.pointer (some ⟨s + 1, 0, none⟩)) (.slice ua ul uc) (.agg #[.slice pa pl pc, .slice qa ql qc, .slice ga gl gc, .slice ja jl jc]) (.pointer (some ⟨s + 1, 1, none⟩)) (.slice va vl vc))) maskB14 dstB14 preB14 (by kernel_rfl) (by kernel_rfl) rfl (by kernel_rfl) (by kernel_rfl) (by kernel_rfl) (by kernel_rfl) ⟨fun _ => BB.drew (BB.refl _), (fun _ h => by cases h), (fun _ h => by cases h), (fun h => by cases h), fun h => by cases h⟩ ?_ ?_
  · refine StepsMB.cons (fun l g' wu hB hl hn hp K hK => ?_) ?_
    · have h8 := hn 8 (by decide); have hbb := hB.1 h8; have c0 := kP _ hbb; have c1 := kQ _ hbb; have c2 := kG _ hbb; have c3 := kH _ hbb; simp only [mkM, maskB14, mixM, Nat.reduceAdd] at hK ⊢; simp only [Act.put, List.setIfInBounds_toArray, List.set_cons_zero, List.set_cons_succ] at hK; go_simp; exact hK.out _ _ ⟨fun _ => hbb, fun _ h3 => by rw [updG_ne (by decide)]; exact (hB.2.1 h8 (by rw [setL_ne (by decide)] at h3; exact h3)), fun _ h7 => by rw [updG_ne (by decide)]; exact (hB.2.2.1 h8 (by rw [setL_ne (by decide)] at h7; exact h7)), (fun h => by rw [setL_ne (by decide), h8] at h; cases h), fun h => by rw [setL_ne (by decide), hn 9 (by decide)] at h; cases h⟩ GF.same rfl
    refine StepsMB.cons (fun l g' wu hB hl hn hp K hK => ?_) ?_
    · have h8 := hn 8 (by decide); have hbb := hB.1 h8; simp only [mkM, maskB14, mixM, Nat.reduceAdd] at hK ⊢; simp only [Act.put, List.setIfInBounds_toArray, List.set_cons_zero, List.set_cons_succ] at hK; go_simp; exact hK.out _ _ ⟨fun _ => hbb, fun _ h3 => by rw [updG_ne (by decide)]; exact (hB.2.1 h8 (by rw [setL_ne (by decide)] at h3; exact h3)), fun _ h7 => by rw [updG_ne (by decide)]; exact (hB.2.2.1 h8 (by rw [setL_ne (by decide)] at h7; exact h7)), (fun h => by rw [setL_ne (by decide), h8] at h; cases h), fun h => by rw [setL_ne (by decide), hn 9 (by decide)] at h; cases h⟩ GF.same rfl
    refine StepsMB.cons (fun l g' wu hB hl hn hp K hK => ?_) ?_
    · have h8 := hn 8 (by decide); have hbb := hB.1 h8; have e1 : g' 6 = .pointer (some ⟨s + 1, 0, none⟩) := (hp 1 (by decide)).2; have c0 := k0 _ hbb; simp only [mkM, maskB14, mixM, Nat.reduceAdd, e1] at hK ⊢; clear e1; simp only [Act.put, List.setIfInBounds_toArray, List.set_cons_zero, List.set_cons_succ] at hK; go_simp; exact hK.out _ _ ⟨fun _ => hbb, fun _ h3 => by rw [updG_ne (by decide)]; exact (hB.2.1 h8 (by rw [setL_ne (by decide)] at h3; exact h3)), fun _ h7 => by rw [updG_ne (by decide)]; exact (hB.2.2.1 h8 (by rw [setL_ne (by decide)] at h7; exact h7)), (fun h => by rw [setL_ne (by decide), h8] at h; cases h), fun h => by rw [setL_ne (by decide), hn 9 (by decide)] at h; cases h⟩ GF.same rfl
    refine StepsMB.cons (fun l g' wu hB hl hn hp K hK => ?_) ?_
    · have h8 := hn 8 (by decide); have hbb := hB.1 h8; have e0 : g' 5 = .agg #[.slice pa pl pc, .slice qa ql qc, .slice ga gl gc, .slice ja jl jc] := (hp 0 (by decide)).2; have e2 : g' 7 = .slice ua ul uc := (hp 2 (by decide)).2; simp only [mkM, maskB14, mixM, Nat.reduceAdd, e0, e2] at hK ⊢; clear e0 e2; simp only [Act.put, List.setIfInBounds_toArray, List.set_cons_zero, List.set_cons_succ] at hK; go_simp; go_at_call 116; refine (bfixed_any _ _ P Q G H x nb _ (HG.out _ hbb) (HU.out.below hbb) HNB.out hQ HXY.out.1).mono ?_; rintro e w7 ⟨q, hq, rfl, hBq, hb⟩; go_wp2_with fail; exact hK.out _ _ ⟨fun _ => BB.step hbb hb, fun _ _ => by rw [updG_eq]; exact (Buf.of_blk hBq (Nat.le_trans HB1.out.size (Nat.le_trans hbb.size hq)) (be_length _ _) (by omega) (be_lt _ _)), fun _ h7 => by rw [updG_ne (by decide)]; exact (hB.2.2.1 h8 (by rw [setL_ne (by decide)] at h7; exact h7)).below hb, (fun h => by rw [setL_ne (by decide), h8] at h; cases h), fun h => by rw [setL_ne (by decide), hn 9 (by decide)] at h; cases h⟩ (GF.below hb) trivial
    refine StepsMB.cons (fun l g' wu hB hl hn hp K hK => ?_) ?_
    · have h8 := hn 8 (by decide); have hbb := hB.1 h8; have c0 := kP _ hbb; have c1 := kQ _ hbb; have c2 := kG _ hbb; have c3 := kH _ hbb; simp only [mkM, maskB14, mixM, Nat.reduceAdd] at hK ⊢; simp only [Act.put, List.setIfInBounds_toArray, List.set_cons_zero, List.set_cons_succ] at hK; go_simp; exact hK.out _ _ ⟨fun _ => hbb, fun _ h3 => by rw [updG_ne (by decide)]; exact (hB.2.1 h8 (by rw [setL_ne (by decide)] at h3; exact h3)), fun _ h7 => by rw [updG_ne (by decide)]; exact (hB.2.2.1 h8 (by rw [setL_ne (by decide)] at h7; exact h7)), (fun h => by rw [setL_ne (by decide), h8] at h; cases h), fun h => by rw [setL_ne (by decide), hn 9 (by decide)] at h; cases h⟩ GF.same rfl
    refine StepsMB.cons (fun l g' wu hB hl hn hp K hK => ?_) ?_
    · have h8 := hn 8 (by decide); have hbb := hB.1 h8; simp only [mkM, maskB14, mixM, Nat.reduceAdd] at hK ⊢; simp only [Act.put, List.setIfInBounds_toArray, List.set_cons_zero, List.set_cons_succ] at hK; go_simp; exact hK.out _ _ ⟨fun _ => hbb, fun _ h3 => by rw [updG_ne (by decide)]; exact (hB.2.1 h8 (by rw [setL_ne (by decide)] at h3; exact h3)), fun _ h7 => by rw [updG_ne (by decide)]; exact (hB.2.2.1 h8 (by rw [setL_ne (by decide)] at h7; exact h7)), (fun h => by rw [setL_ne (by decide), h8] at h; cases h), fun h => by rw [setL_ne (by decide), hn 9 (by decide)] at h; cases h⟩ GF.same rfl
    refine StepsMB.cons (fun l g' wu hB hl hn hp K hK => ?_) ?_
    · have h8 := hn 8 (by decide); have hbb := hB.1 h8; have e5 : g' 10 = .pointer (some ⟨s + 1, 1, none⟩) := (hp 5 (by decide)).2; have c0 := k1 _ hbb; simp only [mkM, maskB14, mixM, Nat.reduceAdd, e5] at hK ⊢; clear e5; simp only [Act.put, List.setIfInBounds_toArray, List.set_cons_zero, List.set_cons_succ] at hK; go_simp; exact hK.out _ _ ⟨fun _ => hbb, fun _ h3 => by rw [updG_ne (by decide)]; exact (hB.2.1 h8 (by rw [setL_ne (by decide)] at h3; exact h3)), fun _ h7 => by rw [updG_ne (by decide)]; exact (hB.2.2.1 h8 (by rw [setL_ne (by decide)] at h7; exact h7)), (fun h => by rw [setL_ne (by decide), h8] at h; cases h), fun h => by rw [setL_ne (by decide), hn 9 (by decide)] at h; cases h⟩ GF.same rfl
    refine StepsMB.cons (fun l g' wu hB hl hn hp K hK => ?_) ?_
    · have h8 := hn 8 (by decide); have hbb := hB.1 h8; have e4 : g' 9 = .agg #[.slice pa pl pc, .slice qa ql qc, .slice ga gl gc, .slice ja jl jc] := (hp 4 (by decide)).2; have e6 : g' 11 = .slice va vl vc := (hp 6 (by decide)).2; simp only [mkM, maskB14, mixM, Nat.reduceAdd, e4, e6] at hK ⊢; clear e4 e6; simp only [Act.put, List.setIfInBounds_toArray, List.set_cons_zero, List.set_cons_succ] at hK; go_simp; go_at_call 116; refine (bfixed_any _ _ P Q G H y nb _ (HG.out _ hbb) (HV.out.below hbb) HNB.out hQ HXY.out.2).mono ?_; rintro e w7 ⟨q, hq, rfl, hBq, hb⟩; go_wp2_with fail; exact hK.out _ _ ⟨fun _ => BB.step hbb hb, fun _ h3 => by rw [updG_ne (by decide)]; exact (hB.2.1 h8 (by rw [setL_ne (by decide)] at h3; exact h3)).below hb, fun _ _ => by rw [updG_eq]; exact (Buf.of_blk (base := 0) hBq (Nat.zero_le _) (be_length _ _) (by omega) (be_lt _ _)).rb, (fun h => by rw [setL_ne (by decide), h8] at h; cases h), fun h => by rw [setL_ne (by decide), hn 9 (by decide)] at h; cases h⟩ (GF.below hb) trivial
    refine StepsMB.cons (fun l g' wu hB hl hn hp K hK => ?_) ?_
    · have h8 := hl; have hbb := hB.1 h8; have hU := hB.2.1 h8 (hp 3 (by decide)).1; have hR := hB.2.2.1 h8 (hp 7 (by decide)).1; simp only [mkM, maskB14, mixM, Nat.reduceAdd] at hK ⊢; simp only [Act.put, List.setIfInBounds_toArray, List.set_cons_zero, List.set_cons_succ] at hK; refine wanted_go rfl ?_; refine wp_append_buf (.tmp 8) (.tmp 12) rfl w.heap.size (g' 8) (be nb x) rfl hU (g' 12) (be nb y) rfl hR (by rw [be_length, be_length]; omega) (Nat.le_trans HB1.out.size hbb.size) ?_; intro v' w9 hbuf hgr hf; exact hK.out v' w9 ⟨(fun h => by rw [setL_eq] at h; cases h), (fun h => by rw [setL_eq] at h; cases h), (fun h => by rw [setL_eq] at h; cases h), (fun _ => ⟨by rw [updG_eq]; exact hbuf, below_grown (HB1.out.trans (Below.mono hbb HB1.out.size)) hgr (fun k hk => (hU.lt hk).1) (Nat.le_trans HB1.out.size hbb.size)⟩), fun h => by rw [setL_ne (by decide), hn 9 (by decide)] at h; cases h⟩ (fun j hj u hu => by rcases j with _ | _ | _ | _ | _ | _ | _ | _ | _ | _ | j <;> first | exact hu | exact trivial | exact absurd rfl hj) trivial
    refine StepsMB.cons (fun l g' wu hB hl hn hp K hK => ?_) ?_
    · have h8 := (hp 8 (by decide)).1; simp only [mkM, maskB14, mixM, Nat.reduceAdd] at hK ⊢; simp only [Act.put, List.setIfInBounds_toArray, List.set_cons_zero, List.set_cons_succ] at hK; go_simp; exact hK.out _ _ ⟨(fun h => by rw [setL_ne (by decide), h8] at h; cases h), (fun h => by rw [setL_ne (by decide), h8] at h; cases h), (fun h => by rw [setL_ne (by decide), h8] at h; cases h), (fun _ => ⟨by rw [updG_ne (by decide)]; exact (hB.2.2.2.1 h8).1, (hB.2.2.2.1 h8).2⟩), fun _ => by rw [updG_eq, updG_ne (by decide)]⟩ GF.same trivial
    exact StepsMB.nil
  · intro l g' wu hall hB hG
    have h8 := hB.2.2.2.1 (hall 8 (by decide))
    have h9 := hB.2.2.2.2 (hall 9 (by decide))
    have HU := Lib.hid h8
    simp only [mkM, maskB14, mixM, Nat.reduceAdd, h9]
    clear hG hall hB h8 h9
    go_wp2_with fail
    go_ret
    exact ⟨_, rfl, HU.out.1.rb, HU.out.2⟩
end Go.Proofs.Ythefednendgclaa
