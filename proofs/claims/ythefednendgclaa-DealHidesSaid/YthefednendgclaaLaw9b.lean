/-
  The law's numbers: the third group.
-/
import Derived.Test.YthefednendgclaaLaw9a
import Derived.Test.YthefednendgclaaInvF
set_option linter.unusedVariables false
set_option linter.unusedSimpArgs false
namespace Go.Proofs.Ythefednendgclaa
open Go Go.RowKit Sac NT

attribute [local go_sem ↓] exec_store4
attribute [local go_sem] isRow4

/-- What a store into the parameters leaves as it is. -/
def KpA (w w' : World) : Prop := KpN w w' ∧ (∀ (y : Option Addr) (ns : List Nat), NatsAt w y ns → NatsAt w' y ns) ∧ ∀ (C : Nat) (st : List Stp), StepsAt w w.heap.size C st → StepsAt w' w'.heap.size C st
theorem kpA_s4 {w : World} {s : Nat} {a b c d : Value} (h : Row4 w s) : KpA w (S4p w (.pointer (some ⟨s, 0, none⟩)) (.agg #[a, b, c, d])) := ⟨fun _ _ _ hn => natS_s4 h hn, fun _ _ hn => natsAt_s4 h hn, fun _ _ hn => stepsAt_s4 h hn⟩
def fNat (n : Nat) : Fk KpA := Fk.nat (fun _ _ h => h.1) n
def IsNats (n : Nat) (ns : List Nat) (v : Value) (w : World) : Prop := ∃ k : Nat, v = .slice (some ⟨k, 0, none⟩) n n ∧ NatsAt w (some ⟨k, 0, none⟩) ns
def fNats (n : Nat) (ns : List Nat) : Fk KpA := ⟨IsNats n ns, fun _ _ _ hb ⟨k, e, h⟩ => ⟨k, e, h.below hb⟩, true, fun _ _ _ _ hk ⟨k, e, h⟩ => ⟨k, e, hk.2.1 _ _ h⟩⟩
def IsSteps (n : Nat) (st : List Stp) (v : Value) (w : World) : Prop := ∃ C : Nat, v = .slice (some ⟨C, 0, none⟩) n n ∧ StepsAt w w.heap.size C st
def fSteps (n : Nat) (st : List Stp) : Fk KpA := ⟨IsSteps n st, fun _ _ _ hb ⟨C, e, h⟩ => ⟨C, e, h.below hb⟩, true, fun _ _ _ _ hk ⟨C, e, h⟩ => ⟨C, e, hk.2.2 _ _ h⟩⟩
/-- One step of a certificate, as a value: the number x stands as it is. -/
def IsStep (x : Value) (b n : Nat) (ns : List Nat) (v : Value) (w : World) : Prop := ∃ (ba : Option Addr) (bl bc k : Nat), v = .agg #[x, .slice ba bl bc, .slice (some ⟨k, 0, none⟩) n n] ∧ NatS w ba bl b ∧ NatsAt w (some ⟨k, 0, none⟩) ns
def fStep (x : Value) (b n : Nat) (ns : List Nat) : Fk KpA := ⟨IsStep x b n ns, fun _ _ _ hb ⟨ba, bl, bc, k, e, h1, h2⟩ => ⟨ba, bl, bc, k, e, h1.below hb, h2.below hb⟩, true, fun _ _ _ _ hk ⟨ba, bl, bc, k, e, h1, h2⟩ => ⟨ba, bl, bc, k, e, hk.1 _ _ _ h1, hk.2.1 _ _ h2⟩⟩
/-- The parameters, as a value. -/
def IsPar (x y : Value) (n : Nat) (v : Value) (w : World) : Prop := ∃ (ga : Option Addr) (gl gc : Nat), v = .agg #[x, y, .slice ga gl gc, .slice none 0 0] ∧ NatS w ga gl n
def fPar (x y : Value) (n : Nat) : Fk KpA := ⟨IsPar x y n, fun _ _ _ hb ⟨ga, gl, gc, e, h⟩ => ⟨ga, gl, gc, e, h.below hb⟩, true, fun _ _ _ _ hk ⟨ga, gl, gc, e, h⟩ => ⟨ga, gl, gc, e, hk.1 _ _ _ h⟩⟩
/-- The parameters stand in their block. -/
def InRow (s : Nat) (x y : Value) (n : Nat) (_ : Value) (w : World) : Prop := ∃ (ga : Option Addr) (gl gc : Nat), Blk w s 123 [x, y, .slice ga gl gc, .slice none 0 0] ∧ NatS w ga gl n
def fRow (s : Nat) (x y : Value) (n : Nat) : Fk KpA := .rel (InRow s x y n) (fun _ _ _ hb ⟨ga, gl, gc, h1, h2⟩ => ⟨ga, gl, gc, h1.below hb h1.lt, h2.below hb⟩)
def tab2 (s : Nat) (p q : Value) : List (Fk KpA) := [.val (.agg #[p]), .val (.agg #[q]), fNat 262144, .val (.slice none 0 0), fPar p q 262144, .val (.agg #[q]), fNat 13, fNat 2, fNat 3, fNat 11, fNat 683, fNat 2971, fNats 5 [2, 3, 11, 683, 2971],
  fStep q 13 5 [2, 3, 11, 683, 2971], .val (.agg #[p]), fNat 2, .val (.agg #[q]), fNats 1 [1152921504606847009], fStep p 2 1 [1152921504606847009], fSteps 2 st2, fRow s p q 262144, fSteps 2 st2]
def dst2 : List (Option Tmp) := [some 33, some 34, some 35, some 36, some 37, some 38, some 39, some 40, some 41, some 42, some 43, some 44, some 45, some 46, some 47, some 48, some 49, some 50, some 51, some 52, none, some 5]
def mask2 : List Bool := [false, false, false, false, false, true, false, false, false, false, false, false, false, false, false, false, false, false, false, false, false, false, false, false, false, false, false, false, false, false, false, false, false, true, true, true, true, true, true, true, true, true, true, true, true, true, true, true, true, true, true, true, true]
def pre2 : List (List Nat) := [[], [], [], [], [0, 1, 2, 3], [], [], [], [], [], [], [], [7, 8, 9, 10, 11], [5, 6, 12], [], [], [], [16], [14, 15, 17], [13, 18], [4], [19]]
def BW (s : Nat) (w5 : World) (pa : Option Addr) (pl : Nat) (qa : Option Addr) (ql : Nat) (w' : World) : Prop := SB s w5 w' ∧ NatS w' pa pl 20752587082923246163 ∧ NatS w' qa ql 1152921504606847009
theorem BW.below {s : Nat} {w5 : World} {pa : Option Addr} {pl : Nat} {qa : Option Addr} {ql : Nat} {w' w'' : World} (h : BW s w5 pa pl qa ql w') (hb : Below w'.heap.size w' w'') : BW s w5 pa pl qa ql w'' := ⟨h.1.step hb, h.2.1.below hb, h.2.2.below hb⟩
theorem BW.alloc {s : Nat} {w5 : World} {pa : Option Addr} {pl : Nat} {qa : Option Addr} {ql : Nat} {w' : World} {o : Obj} (h : BW s w5 pa pl qa ql w') : BW s w5 pa pl qa ql (w'.alloc o) := h.below ((Below.refl _ w').alloc (Nat.le_refl _) _)
theorem BW.s4 {s : Nat} {w5 : World} {pa : Option Addr} {pl : Nat} {qa : Option Addr} {ql : Nat} {w' : World} {a b c d : Value} (h : BW s w5 pa pl qa ql w') : BW s w5 pa pl qa ql (S4p w' (.pointer (some ⟨s, 0, none⟩)) (.agg #[a, b, c, d])) := ⟨h.1.s4, natS_s4 h.1.row h.2.1, natS_s4 h.1.row h.2.2⟩

set_option maxRecDepth 100000 in
set_option maxHeartbeats 20000000 in
theorem numbers2 (n : Int) (w : World) (hk : (IntKind.u64.wrap n).tmod 3 = 2) :
    Calls Try.prog 83 #[.int .i64 n, .slice none 0 0] w (NumPost 2 (.slice none 0 0) w) := by
  obtain ⟨s, hs⟩ : ∃ s, s = w.heap.size := ⟨_, rfl⟩
  have hB0 : Blk (w.alloc (Obj.cells #[Value.slice none 0 0, Value.slice none 0 0, Value.slice none 0 0, Value.slice none 0 0] 123)) s 123 [.slice none 0 0, .slice none 0 0, .slice none 0 0, .slice none 0 0] := Blk.new' w _ _ s hs
  have hb0 : Below w.heap.size w (w.alloc (Obj.cells #[Value.slice none 0 0, Value.slice none 0 0, Value.slice none 0 0, Value.slice none 0 0] 123)) := (Below.refl _ w).alloc (Nat.le_refl _) _
  have HB0 := Lib.hid hB0
  have HW0 := Lib.hid hb0
  have HS := Lib.hid hs
  clear hB0 hb0
  go_enter Try.func83, Try.ntmps83
  go_wp2_with fail
  rw [← hs]
  clear hs
  generalize w.alloc (Obj.cells #[Value.slice none 0 0, Value.slice none 0 0, Value.slice none 0 0, Value.slice none 0 0] 123) = w1 at HB0 HW0 ⊢
  refine (new_s 1152921504606847009 w1 (by decide)).mono ?_
  rintro e w2 ⟨qa, ql, qc, rfl, hQ, hb2⟩
  have HQ2 := Lib.hid hQ
  have HBB2 : Hid (BB w1 w2) := hb2
  obtain ⟨w3, hw3⟩ : ∃ w3, w2.alloc (Obj.cells #[Value.slice qa ql qc] 33) = w3 := ⟨_, rfl⟩
  obtain ⟨QB, hQB⟩ : ∃ QB, QB = w2.heap.size := ⟨_, rfl⟩
  have hb3 : BB w2 w3 := hw3 ▸ BB.alloc (BB.refl _)
  have HBQ3 : Hid (Blk w3 QB 33 [.slice qa ql qc]) := by show Blk _ _ _ _; rw [← hw3, hQB]; exact Blk.new w2 _ _
  have HQ3 := Lib.hid (HQ2.out.below hb3)
  have HBB3 : Hid (BB w1 w3) := BB.step HBB2.out hb3
  clear hQ hb2 hb3 HQ2
  go_wp2_with fail
  try rw [hw3]
  try rw [← hQB]
  clear hw3 hQB
  refine (big_any 4831838208 595 w3 (by decide) (by decide)).mono ?_
  rintro e w4 ⟨pa, pl, pc, rfl, hP, hb4⟩
  have HP4 := Lib.hid hP
  have HBQ4 := Lib.hid (HBQ3.out.below hb4 HBQ3.out.lt)
  have HQ4 := Lib.hid (HQ3.out.below hb4)
  obtain ⟨w5, hw5⟩ : ∃ w5, w4.alloc (Obj.cells #[Value.slice pa pl pc] 33) = w5 := ⟨_, rfl⟩
  obtain ⟨PB, hPB⟩ : ∃ PB, PB = w4.heap.size := ⟨_, rfl⟩
  have hb5 : BB w4 w5 := hw5 ▸ BB.alloc (BB.refl _)
  have HBP5 : Hid (Blk w5 PB 33 [.slice pa pl pc]) := by show Blk _ _ _ _; rw [← hw5, hPB]; exact Blk.new w4 _ _
  have HBQ5 := Lib.hid (HBQ4.out.below hb5 HBQ4.out.lt)
  have HQ5 := Lib.hid (HQ4.out.below hb5)
  have HP5 := Lib.hid (HP4.out.below hb5)
  have HBB5 : Hid (BB w1 w5) := BB.step (BB.step HBB3.out hb4) hb5
  clear hP hb4 hb5 HP4 HBQ4 HQ4 HBQ3 HQ3
  go_wp2_with fail
  try rw [hw5]
  try rw [← hPB]
  clear hw5 hPB
  have bP := HBP5.out
  have bQ := HBQ5.out
  have hb5s := HB0.out.below HBB5.out HB0.out.lt
  have hsP : PB ≠ s := fun e => ety_ne bP hb5s (by decide) e
  have hsQ : QB ≠ s := fun e => ety_ne bQ hb5s (by decide) e
  have SP : ∀ w', SB s w5 w' → w'.cell? ⟨PB, 0, none⟩ = some (.slice pa pl pc) := fun w' h => (h.other bP hsP).cell 0
  have SQ : ∀ w', SB s w5 w' → w'.cell? ⟨QB, 0, none⟩ = some (.slice qa ql qc) := fun w' h => (h.other bQ hsQ).cell 0
  have RW : ∀ w', SB s w5 w' → StoreHere w' (.pointer (some ⟨s, 0, none⟩)) := fun w' h => h.here
  have hs50 : SB s w5 w5 := ⟨Only.refl _ _, _, _, _, _, hb5s⟩
  have hs5 : SB s w5 w5.drew := ⟨(Only.refl _ _).drew, _, _, _, _, hb5s⟩
  have N2h : ∀ w', Calls Try.prog 20 #[.int .u64 2] w' (RetS 2 w') := fun w' => new_s 2 w' (by decide)
  have N3h : ∀ w', Calls Try.prog 20 #[.int .u64 3] w' (RetS 3 w') := fun w' => new_s 3 w' (by decide)
  have N11h : ∀ w', Calls Try.prog 20 #[.int .u64 11] w' (RetS 11 w') := fun w' => new_s 11 w' (by decide)
  have N13h : ∀ w', Calls Try.prog 20 #[.int .u64 13] w' (RetS 13 w') := fun w' => new_s 13 w' (by decide)
  have N683h : ∀ w', Calls Try.prog 20 #[.int .u64 683] w' (RetS 683 w') := fun w' => new_s 683 w' (by decide)
  have N2971h : ∀ w', Calls Try.prog 20 #[.int .u64 2971] w' (RetS 2971 w') := fun w' => new_s 2971 w' (by decide)
  have N262144h : ∀ w', Calls Try.prog 20 #[.int .u64 262144] w' (RetS 262144 w') := fun w' => new_s 262144 w' (by decide)
  have HSL := Lib.hid (Nat.le_trans (Nat.le_of_lt HB0.out.lt) HBB5.out.size)
  clear bP bQ hb5s
  have hBW : BW s w5 pa pl qa ql w5.drew := ⟨hs5, HP5.out.drew, HQ5.out.drew⟩
  have HN := Lib.hid (And.intro N2h (And.intro N3h (And.intro N11h (And.intro N13h (And.intro N683h (And.intro N2971h N262144h))))))
  have HSS := Lib.hid (And.intro SP (And.intro SQ RW))
  clear N2h N3h N11h N13h N683h N2971h N262144h SP SQ RW hs50 hs5 HP5 HQ5 HB0 HBP5 HBQ5
  refine wp_region_mix (fun _ w' => BW s w5 pa pl qa ql w') (GF (tab2 s (.slice pa pl pc) (.slice qa ql qc))) mask2 dst2 pre2 (by kernel_rfl) (by kernel_rfl) rfl (by kernel_rfl) (by kernel_rfl) (by kernel_rfl) (by kernel_rfl) hBW ?_ ?_
  · clear hBW
    refine StepsM.cons (fun l g w' hB hl hn hp K hK => ?_) ?_
    · clear hl hn; have hc := HSS.out.1 _ hB.1; simp only [mkM, mask2, mixM, Nat.reduceAdd] at hK ⊢; simp only [Act.put, List.setIfInBounds_toArray, List.set_cons_zero, List.set_cons_succ] at hK; go_simp; clear hc; exact hK.out _ _ hB GF.same rfl
    refine StepsM.cons (fun l g w' hB hl hn hp K hK => ?_) ?_
    · clear hl hn; have hc := HSS.out.2.1 _ hB.1; simp only [mkM, mask2, mixM, Nat.reduceAdd] at hK ⊢; simp only [Act.put, List.setIfInBounds_toArray, List.set_cons_zero, List.set_cons_succ] at hK; go_simp; clear hc; exact hK.out _ _ hB GF.same rfl
    refine StepsM.cons (fun l g w' hB hl hn hp K hK => ?_) ?_
    · clear hl hn; simp only [mkM, mask2, mixM, Nat.reduceAdd] at hK ⊢; simp only [Act.put, List.setIfInBounds_toArray, List.set_cons_zero, List.set_cons_succ] at hK; go_simp; refine (HN.out.2.2.2.2.2.2 _).mono ?_; rintro e w7 ⟨xa, xl, xc, rfl, hx, hb⟩; go_wp2_with fail; exact hK.out _ _ (hB.below hb) (GF.below hb) ⟨xa, xl, xc, rfl, hx⟩
    refine StepsM.cons (fun l g w' hB hl hn hp K hK => ?_) ?_
    · clear hl hn; simp only [mkM, mask2, mixM, Nat.reduceAdd] at hK ⊢; simp only [Act.put, List.setIfInBounds_toArray, List.set_cons_zero, List.set_cons_succ] at hK; go_simp; exact hK.out _ _ hB GF.same rfl
    refine StepsM.cons (fun l g w' hB hl hn hp K hK => ?_) ?_
    · clear hl hn; have e0 : g 33 = .agg #[.slice pa pl pc] := (hp 0 (by decide)).2; have e1 : g 34 = .agg #[.slice qa ql qc] := (hp 1 (by decide)).2; obtain ⟨x2, l2, c2, e2, h2⟩ := (hp 2 (by decide)).2; have e2 : g 35 = .agg #[.slice x2 l2 c2] := e2; have e3 : g 36 = .slice none 0 0 := (hp 3 (by decide)).2; simp only [mkM, mask2, mixM, Nat.reduceAdd, e0, e1, e2, e3] at hK ⊢; clear e0 e1 e2 e3; simp only [Act.put, List.setIfInBounds_toArray, List.set_cons_zero, List.set_cons_succ] at hK; go_simp; exact hK.out _ _ hB GF.same ⟨x2, l2, c2, rfl, h2⟩
    refine StepsM.cons (fun l g w' hB hl hn hp K hK => ?_) ?_
    · clear hl hn; have hc := HSS.out.2.1 _ hB.1; simp only [mkM, mask2, mixM, Nat.reduceAdd] at hK ⊢; simp only [Act.put, List.setIfInBounds_toArray, List.set_cons_zero, List.set_cons_succ] at hK; go_simp; clear hc; exact hK.out _ _ hB GF.same rfl
    refine StepsM.cons (fun l g w' hB hl hn hp K hK => ?_) ?_
    · clear hl hn; simp only [mkM, mask2, mixM, Nat.reduceAdd] at hK ⊢; simp only [Act.put, List.setIfInBounds_toArray, List.set_cons_zero, List.set_cons_succ] at hK; go_simp; refine (HN.out.2.2.2.1 _).mono ?_; rintro e w7 ⟨xa, xl, xc, rfl, hx, hb⟩; go_wp2_with fail; exact hK.out _ _ (hB.below hb) (GF.below hb) ⟨xa, xl, xc, rfl, hx⟩
    refine StepsM.cons (fun l g w' hB hl hn hp K hK => ?_) ?_
    · clear hl hn; simp only [mkM, mask2, mixM, Nat.reduceAdd] at hK ⊢; simp only [Act.put, List.setIfInBounds_toArray, List.set_cons_zero, List.set_cons_succ] at hK; go_simp; refine (HN.out.1 _).mono ?_; rintro e w7 ⟨xa, xl, xc, rfl, hx, hb⟩; go_wp2_with fail; exact hK.out _ _ (hB.below hb) (GF.below hb) ⟨xa, xl, xc, rfl, hx⟩
    refine StepsM.cons (fun l g w' hB hl hn hp K hK => ?_) ?_
    · clear hl hn; simp only [mkM, mask2, mixM, Nat.reduceAdd] at hK ⊢; simp only [Act.put, List.setIfInBounds_toArray, List.set_cons_zero, List.set_cons_succ] at hK; go_simp; refine (HN.out.2.1 _).mono ?_; rintro e w7 ⟨xa, xl, xc, rfl, hx, hb⟩; go_wp2_with fail; exact hK.out _ _ (hB.below hb) (GF.below hb) ⟨xa, xl, xc, rfl, hx⟩
    refine StepsM.cons (fun l g w' hB hl hn hp K hK => ?_) ?_
    · clear hl hn; simp only [mkM, mask2, mixM, Nat.reduceAdd] at hK ⊢; simp only [Act.put, List.setIfInBounds_toArray, List.set_cons_zero, List.set_cons_succ] at hK; go_simp; refine (HN.out.2.2.1 _).mono ?_; rintro e w7 ⟨xa, xl, xc, rfl, hx, hb⟩; go_wp2_with fail; exact hK.out _ _ (hB.below hb) (GF.below hb) ⟨xa, xl, xc, rfl, hx⟩
    refine StepsM.cons (fun l g w' hB hl hn hp K hK => ?_) ?_
    · clear hl hn; simp only [mkM, mask2, mixM, Nat.reduceAdd] at hK ⊢; simp only [Act.put, List.setIfInBounds_toArray, List.set_cons_zero, List.set_cons_succ] at hK; go_simp; refine (HN.out.2.2.2.2.1 _).mono ?_; rintro e w7 ⟨xa, xl, xc, rfl, hx, hb⟩; go_wp2_with fail; exact hK.out _ _ (hB.below hb) (GF.below hb) ⟨xa, xl, xc, rfl, hx⟩
    refine StepsM.cons (fun l g w' hB hl hn hp K hK => ?_) ?_
    · clear hl hn; simp only [mkM, mask2, mixM, Nat.reduceAdd] at hK ⊢; simp only [Act.put, List.setIfInBounds_toArray, List.set_cons_zero, List.set_cons_succ] at hK; go_simp; refine (HN.out.2.2.2.2.2.1 _).mono ?_; rintro e w7 ⟨xa, xl, xc, rfl, hx, hb⟩; go_wp2_with fail; exact hK.out _ _ (hB.below hb) (GF.below hb) ⟨xa, xl, xc, rfl, hx⟩
    refine StepsM.cons (fun l g w' hB hl hn hp K hK => ?_) ?_
    · clear hl hn; obtain ⟨x0, l0, c0, e0, h0⟩ := (hp 7 (by decide)).2; have e0 : g 40 = .agg #[.slice x0 l0 c0] := e0; obtain ⟨x1, l1, c1, e1, h1⟩ := (hp 8 (by decide)).2; have e1 : g 41 = .agg #[.slice x1 l1 c1] := e1; obtain ⟨x2, l2, c2, e2, h2⟩ := (hp 9 (by decide)).2; have e2 : g 42 = .agg #[.slice x2 l2 c2] := e2; obtain ⟨x3, l3, c3, e3, h3⟩ := (hp 10 (by decide)).2; have e3 : g 43 = .agg #[.slice x3 l3 c3] := e3; obtain ⟨x4, l4, c4, e4, h4⟩ := (hp 11 (by decide)).2; have e4 : g 44 = .agg #[.slice x4 l4 c4] := e4; simp only [mkM, mask2, mixM, Nat.reduceAdd, e0, e1, e2, e3, e4] at hK ⊢; clear e0 e1 e2 e3 e4; simp only [Act.put, List.setIfInBounds_toArray, List.set_cons_zero, List.set_cons_succ] at hK; go_simp; exact hK.out _ _ hB.alloc GF.alloc ⟨_, rfl, natsAt_lit5 rfl h0 h1 h2 h3 h4⟩
    refine StepsM.cons (fun l g w' hB hl hn hp K hK => ?_) ?_
    · clear hl hn; have e0 : g 38 = .agg #[.slice qa ql qc] := (hp 5 (by decide)).2; obtain ⟨x1, l1, c1, e1, h1⟩ := (hp 6 (by decide)).2; have e1 : g 39 = .agg #[.slice x1 l1 c1] := e1; obtain ⟨k2, e2, h2⟩ := (hp 12 (by decide)).2; have e2 : g 45 = .slice (some ⟨k2, 0, none⟩) 5 5 := e2; simp only [mkM, mask2, mixM, Nat.reduceAdd, e0, e1, e2] at hK ⊢; clear e0 e1 e2; simp only [Act.put, List.setIfInBounds_toArray, List.set_cons_zero, List.set_cons_succ] at hK; go_simp; exact hK.out _ _ hB GF.same ⟨x1, l1, c1, k2, rfl, h1, h2⟩
    refine StepsM.cons (fun l g w' hB hl hn hp K hK => ?_) ?_
    · clear hl hn; have hc := HSS.out.1 _ hB.1; simp only [mkM, mask2, mixM, Nat.reduceAdd] at hK ⊢; simp only [Act.put, List.setIfInBounds_toArray, List.set_cons_zero, List.set_cons_succ] at hK; go_simp; clear hc; exact hK.out _ _ hB GF.same rfl
    refine StepsM.cons (fun l g w' hB hl hn hp K hK => ?_) ?_
    · clear hl hn; simp only [mkM, mask2, mixM, Nat.reduceAdd] at hK ⊢; simp only [Act.put, List.setIfInBounds_toArray, List.set_cons_zero, List.set_cons_succ] at hK; go_simp; refine (HN.out.1 _).mono ?_; rintro e w7 ⟨xa, xl, xc, rfl, hx, hb⟩; go_wp2_with fail; exact hK.out _ _ (hB.below hb) (GF.below hb) ⟨xa, xl, xc, rfl, hx⟩
    refine StepsM.cons (fun l g w' hB hl hn hp K hK => ?_) ?_
    · clear hl hn; have hc := HSS.out.2.1 _ hB.1; simp only [mkM, mask2, mixM, Nat.reduceAdd] at hK ⊢; simp only [Act.put, List.setIfInBounds_toArray, List.set_cons_zero, List.set_cons_succ] at hK; go_simp; clear hc; exact hK.out _ _ hB GF.same rfl
    refine StepsM.cons (fun l g w' hB hl hn hp K hK => ?_) ?_
    · clear hl hn; have e0 : g 49 = .agg #[.slice qa ql qc] := (hp 16 (by decide)).2; simp only [mkM, mask2, mixM, Nat.reduceAdd, e0] at hK ⊢; clear e0; simp only [Act.put, List.setIfInBounds_toArray, List.set_cons_zero, List.set_cons_succ] at hK; go_simp; exact hK.out _ _ hB.alloc GF.alloc ⟨_, rfl, natsAt_lit1 rfl hB.2.2⟩
    refine StepsM.cons (fun l g w' hB hl hn hp K hK => ?_) ?_
    · clear hl hn; have e0 : g 47 = .agg #[.slice pa pl pc] := (hp 14 (by decide)).2; obtain ⟨x1, l1, c1, e1, h1⟩ := (hp 15 (by decide)).2; have e1 : g 48 = .agg #[.slice x1 l1 c1] := e1; obtain ⟨k2, e2, h2⟩ := (hp 17 (by decide)).2; have e2 : g 50 = .slice (some ⟨k2, 0, none⟩) 1 1 := e2; simp only [mkM, mask2, mixM, Nat.reduceAdd, e0, e1, e2] at hK ⊢; clear e0 e1 e2; simp only [Act.put, List.setIfInBounds_toArray, List.set_cons_zero, List.set_cons_succ] at hK; go_simp; exact hK.out _ _ hB GF.same ⟨x1, l1, c1, k2, rfl, h1, h2⟩
    refine StepsM.cons (fun l g w' hB hl hn hp K hK => ?_) ?_
    · clear hl hn; obtain ⟨xa, xl, xc, kA, e0, hx, hA⟩ := (hp 13 (by decide)).2; have e0 : g 46 = .agg #[.slice qa ql qc, .slice xa xl xc, .slice (some ⟨kA, 0, none⟩) 5 5] := e0; obtain ⟨ya, yl, yc, kB, e1, hy, hBs⟩ := (hp 18 (by decide)).2; have e1 : g 51 = .agg #[.slice pa pl pc, .slice ya yl yc, .slice (some ⟨kB, 0, none⟩) 1 1] := e1; simp only [mkM, mask2, mixM, Nat.reduceAdd, e0, e1] at hK ⊢; clear e0 e1; simp only [Act.put, List.setIfInBounds_toArray, List.set_cons_zero, List.set_cons_succ] at hK; go_simp; exact hK.out _ _ hB.alloc GF.alloc ⟨_, rfl, steps2b rfl hB.2.2 hx hA hB.2.1 hy hBs⟩
    refine StepsM.cons (fun l g w' hB hl hn hp K hK => ?_) ?_
    · clear hl hn; have hrw := HSS.out.2.2 _ hB.1; obtain ⟨xa, xl, xc, e0, hx⟩ := (hp 4 (by decide)).2; have e0 : g 37 = .agg #[.slice pa pl pc, .slice qa ql qc, .slice xa xl xc, .slice none 0 0] := e0; simp only [mkM, mask2, mixM, Nat.reduceAdd, e0] at hK ⊢; clear e0; simp only [Act.put, List.setIfInBounds_toArray, List.set_cons_zero, List.set_cons_succ] at hK; go_simp; exact hK.out undef _ hB.s4 (GF.kept rfl (kpA_s4 hB.1.row)) ⟨xa, xl, xc, blk_s4 hB.1.row, natS_s4 hB.1.row hx⟩
    refine StepsM.cons (fun l g w' hB hl hn hp K hK => ?_) ?_
    · clear hl hn; obtain ⟨C, e0, hst⟩ := (hp 19 (by decide)).2; have e0 : g 52 = .slice (some ⟨C, 0, none⟩) 2 2 := e0; simp only [mkM, mask2, mixM, Nat.reduceAdd, e0] at hK ⊢; clear e0; simp only [Act.put, List.setIfInBounds_toArray, List.set_cons_zero, List.set_cons_succ] at hK; go_simp; exact hK.out _ _ hB GF.same ⟨C, rfl, hst⟩
    exact StepsM.nil
  · intro l g W _ hB hG
    obtain ⟨C, e5, hst⟩ := hG 21 (by decide)
    have e5 : g 5 = .slice (some ⟨C, 0, none⟩) 2 2 := e5
    obtain ⟨ga, gl, gc, hR, hg⟩ := hG 20 (by decide)
    simp only [mkM, mask2, mixM, Nat.reduceAdd, e5]
    clear e5 hG hBW HN HSS
    go_wp2_with fail
    exact leaf2 (C := C) (pa := pa) (pl := pl) (pc := pc) (qa := qa) (ql := ql) (qc := qc) (ga := ga) (gl := gl) (gc := gc) rfl rfl rfl hR hB.2.1 hB.2.2 hg hst
      (HW0.out.trans (Below.trans (Below.mono HBB5.out HW0.out.size) (HS.out ▸ SB.toBelow (w := w5) hB.1 HSL.out)))
end Go.Proofs.Ythefednendgclaa
