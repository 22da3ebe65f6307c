import Derived.Test.YthefednendgclaaGreatPledge2
import Derived.Test.YthefednendgclaaGreatGrpA
import Derived.Test.YthefednendgclaaGreatDeal2
import Derived.Test.YthefednendgclaaGreatCurve2
import Derived.Test.YthefednendgclaaGreatInvF
set_option linter.unusedVariables false
set_option linter.unusedSimpArgs false
/-
  Deal: which arguments are wrong, which peers there are; the pledges of a dealing.
-/
namespace Go.Proofs.YthefednendgclaaGreat
open Go Go.RowKit Sac

set_option maxRecDepth 100000 in
set_option maxHeartbeats 2000000 in
theorem wrong_any (g : Nat) (t : Int) (w : World) : Calls Tryz.prog 70 #[.pointer (some ⟨g, 0, none⟩), .int .i64 t] w fun e w' => e = .returned (.bool (decide (t < 1 ∨ 64 < t))) ∧ Below w.heap.size w w' := by
  by_cases h1 : t < 1
  · have d1 : decide (t < 1) = true := decide_eq_true h1
    have HR : Hid (decide (t < 1 ∨ 64 < t) = true) := decide_eq_true (.inl h1)
    rw [HR.out]
    clear HR
    go_enter Tryz.func70, Tryz.ntmps70
    go_wp2_with fail
    go_ret
    exact ⟨rfl, Below.refl _ _⟩
  · have d1 : decide (t < 1) = false := decide_eq_false h1
    by_cases h2 : (64 : Int) < t
    · have d2 : decide ((64 : Int) < t) = true := decide_eq_true h2
      have HR : Hid (decide (t < 1 ∨ 64 < t) = true) := decide_eq_true (.inr h2)
      rw [HR.out]
      clear HR
      go_enter Tryz.func70, Tryz.ntmps70
      go_wp2_with fail
      go_ret
      exact ⟨rfl, Below.refl _ _⟩
    · have d2 : decide ((64 : Int) < t) = false := decide_eq_false h2
      have HR : Hid (decide (t < 1 ∨ 64 < t) = false) := decide_eq_false (by omega)
      rw [HR.out]
      clear HR
      go_enter Tryz.func70, Tryz.ntmps70
      go_wp2_with fail
      go_ret
      exact ⟨rfl, Below.refl _ _⟩

set_option maxRecDepth 100000 in
set_option maxHeartbeats 2000000 in
theorem peer_any (n : Int) (w : World) : Calls Tryz.prog 68 #[.int .i64 n] w fun e w' => e = .returned (.bool (decide (1 ≤ n ∧ n ≤ 64))) ∧ Below w.heap.size w w' := by
  by_cases h1 : (1 : Int) ≤ n
  · have d1 : decide ((1 : Int) ≤ n) = true := decide_eq_true h1
    by_cases h2 : n ≤ 64
    · have d2 : decide (n ≤ 64) = true := decide_eq_true h2
      have HR : Hid (decide (1 ≤ n ∧ n ≤ 64) = true) := decide_eq_true ⟨h1, h2⟩
      rw [HR.out]
      clear HR
      go_enter Tryz.func68, Tryz.ntmps68
      go_wp2_with fail
      go_ret
      exact ⟨rfl, Below.refl _ _⟩
    · have d2 : decide (n ≤ 64) = false := decide_eq_false h2
      have HR : Hid (decide (1 ≤ n ∧ n ≤ 64) = false) := decide_eq_false (by omega)
      rw [HR.out]
      clear HR
      go_enter Tryz.func68, Tryz.ntmps68
      go_wp2_with fail
      go_ret
      exact ⟨rfl, Below.refl _ _⟩
  · have d1 : decide ((1 : Int) ≤ n) = false := decide_eq_false h1
    have HR : Hid (decide (1 ≤ n ∧ n ≤ 64) = false) := decide_eq_false (by omega)
    rw [HR.out]
    clear HR
    go_enter Tryz.func68, Tryz.ntmps68
    go_wp2_with fail
    go_ret
    exact ⟨rfl, Below.refl _ _⟩

set_option maxRecDepth 100000 in
set_option maxHeartbeats 2000000 in
theorem dpledges_any (g P Q G H sz : Nat) (va : Option Addr) (vl vc : Nat) (V : List Nat) (ma : Option Addr) (ml mc : Nat) (M : List Nat) (w : World) (hr : GroupAt w g P Q G H sz) (hP1 : 1 < P) (hps : ∀ a ∈ V, a < 2 ^ 1000) (hps' : ∀ a ∈ M, a < 2 ^ 1000) (h : NatsAt w va V) (hl : V.length = vl) (hc : (vl : Int) ≤ 10000) (h' : NatsAt w ma M) (hl' : M.length = ml) (hc' : (ml : Int) ≤ 10000) :
    Calls Tryz.prog 28 #[.agg #[.slice va vl vc, .slice ma ml mc], .pointer (some ⟨g, 0, none⟩)] w (RetRow (allG P G H V M) w) := by
  have hbA := (Below.refl _ w).alloc (Nat.le_refl _) (Obj.cells #[Value.slice va vl vc, Value.slice ma ml mc] 56)
  have hB : Blk (w.alloc (Obj.cells #[Value.slice va vl vc, Value.slice ma ml mc] 56)) w.heap.size 56 [.slice va vl vc, .slice ma ml mc] := Blk.new w _ _
  have HR := Lib.hid (hr.below hbA)
  have HV := Lib.hid (h.below hbA)
  have HM := Lib.hid (h'.below hbA)
  have HL := Lib.hid (And.intro hP1 (And.intro hps (And.intro hps' (And.intro hl hl'))))
  have HB := Lib.hid hbA
  clear hr hP1 hps hps' h hl h' hl' hbA
  go_enter Tryz.func28, Tryz.ntmps28
  go_wp2_with fail
  generalize w.alloc (Obj.cells #[Value.slice va vl vc, Value.slice ma ml mc] 56) = w1 at hB HR HV HM HB ⊢
  have c0 := hB.cell 0
  have c1 := hB.cell 1
  simp only [List.getElem?_cons_zero, List.getElem?_cons_succ] at c0 c1
  clear hB
  first
    | (refine (pall_any g P Q G H sz va vl vc V ma ml mc M w1 HR.out HL.out.1 HL.out.2.1 HL.out.2.2.1 HV.out HL.out.2.2.2.1 hc HM.out HL.out.2.2.2.2 hc').mono ?_)
    | (go_wp2_with fail; refine (pall_any g P Q G H sz va vl vc V ma ml mc M w1 HR.out HL.out.1 HL.out.2.1 HL.out.2.2.1 HV.out HL.out.2.2.2.1 hc HM.out HL.out.2.2.2.2 hc').mono ?_)
  rintro e w2 ⟨v, rfl, hrow, hb⟩
  have HO := Lib.hid hrow
  have HB2 := Lib.hid (HB.out.trans (hb.mono HB.out.size))
  clear hrow hb
  go_wp2_with fail
  go_ret
  exact ⟨_, rfl, HO.out.base HB.out.size, HB2.out⟩
end Go.Proofs.YthefednendgclaaGreat
/-
  Deal: a peer's share.
-/
namespace Go.Proofs.YthefednendgclaaGreat
open Go Go.RowKit Sac

def IsPair (x y : Nat) (v : Value) (w : World) : Prop := ∃ (a : Option Addr) (l c : Nat) (a' : Option Addr) (l' c' : Nat), v = .agg #[.slice a l c, .slice a' l' c'] ∧ NatS w a l x ∧ NatS w a' l' y
def Fk.pair (x y : Nat) : Fk KpN := ⟨IsPair x y, fun _ _ _ hb ⟨a, l, c, a', l', c', e, h1, h2⟩ => ⟨a, l, c, a', l', c', e, h1.below hb, h2.below hb⟩, true, fun _ _ _ _ hk ⟨a, l, c, a', l', c', e, h1, h2⟩ => ⟨a, l, c, a', l', c', e, hk _ _ _ h1, hk _ _ _ h2⟩⟩
def PairAt (w w' : World) (s x y : Nat) : Prop := ∃ (a : Option Addr) (l c : Nat) (a' : Option Addr) (l' c' : Nat), Blk w' (s + 1) 64 [.slice a l c, .slice a' l' c'] ∧ NatS w' a l x ∧ NatS w' a' l' y ∧ Below s w w'
theorem PairAt.below {w w' w'' : World} {s x y : Nat} (h : PairAt w w' s x y) (hb : Below w'.heap.size w' w'') : PairAt w w'' s x y := by
  obtain ⟨a, l, c, a', l', c', h1, h2, h3, h4⟩ := h
  exact ⟨a, l, c, a', l', c', h1.below hb h1.lt, h2.below hb, h3.below hb, h4.trans (hb.mono (by have := h1.lt; omega))⟩
/-- A share handed back. -/
def SharePost (x y : Nat) (w : World) (e : Ending) (w' : World) : Prop := ∃ (a : Option Addr) (l c : Nat) (a' : Option Addr) (l' c' : Nat), e = .returned (.tuple #[.agg #[.slice a l c, .slice a' l' c'], .int .i64 0]) ∧ NatS w' a l x ∧ NatS w' a' l' y ∧ Below w.heap.size w w'

def tabDS (v0 : Value) (v1 : Value) (v2 : Value) (v3 : Value) (n4 : Nat) (n5 : Nat) (v6 : Value) (v7 : Value) (v8 : Value) (v9 : Value) (n10 : Nat) (n11 : Nat) (p12 : Fk KpN) (last : Fk KpN) (v14 : Value) : List (Fk KpN) := [.val v0, .val v1, .val v2, .val v3, Fk.nat (fun _ _ h => h) n4, Fk.nat (fun _ _ h => h) n5, .val v6, .val v7, .val v8, .val v9, Fk.nat (fun _ _ h => h) n10, Fk.nat (fun _ _ h => h) n11, p12, last, .val v14]
def dstDS : List (Option Tmp) := [some 19, some 20, some 21, some 22, some 23, some 24, some 25, some 26, some 27, some 28, some 29, some 30, some 31, none, some 7]
def preDS : List (List Nat) := [[], [], [1], [], [3], [0, 1, 2, 3, 4], [], [], [7], [], [0, 1, 2, 3, 4, 5, 9], [0, 1, 2, 3, 4, 5, 6, 7, 8, 9, 10], [0, 1, 2, 3, 4, 5, 6, 7, 8, 9, 10, 11], [0, 1, 2, 3, 4, 5, 6, 7, 8, 9, 10, 11, 12], [0, 1, 2, 3, 4, 5, 6, 7, 8, 9, 10, 11, 12, 13]]
def maskDS : List Bool := [false, false, false, false, false, false, false, true, false, false, false, false, false, false, false, false, false, false, false, true, true, true, true, true, true, true, true, true, true, true, true, true]

set_option maxRecDepth 100000 in
set_option maxHeartbeats 4000000 in
theorem dshare_any (g P Q G H sz : Nat) (va : Option Addr) (vl vc : Nat) (V : List Nat) (ma : Option Addr) (ml mc : Nat) (M : List Nat) (n : Nat) (w : World) (hg : GroupAt w g P Q G H sz) (hn1 : 1 ≤ n) (hn2 : n ≤ 64) (h : NatsAt w va V) (hl : V.length = vl) (hc : (vl : Int) ≤ 10000) (h' : NatsAt w ma M) (hl' : M.length = ml) (hc' : (ml : Int) ≤ 10000) :
    Calls Tryz.prog 26 #[.agg #[.slice va vl vc, .slice ma ml mc], .pointer (some ⟨g, 0, none⟩), .int .i64 (n : Int)] w (SharePost (evalm Q V (n % Q)) (evalm Q M (n % Q)) w) := by
  obtain ⟨s, hs⟩ : ∃ s, s = w.heap.size := ⟨_, rfl⟩
  have hbA := (Below.refl _ w).alloc (Nat.le_refl _) (Obj.cells #[Value.slice va vl vc, Value.slice ma ml mc] 56)
  have hb2 : BB w ((w.alloc (Obj.cells #[Value.slice va vl vc, Value.slice ma ml mc] 56)).alloc (Obj.cells #[Value.slice none 0 0, Value.slice none 0 0] 64)) := BB.alloc hbA
  have hD : Blk ((w.alloc (Obj.cells #[Value.slice va vl vc, Value.slice ma ml mc] 56)).alloc (Obj.cells #[Value.slice none 0 0, Value.slice none 0 0] 64)) s 56 [.slice va vl vc, .slice ma ml mc] := (Blk.new' w _ _ s hs).alloc _
  have hS : Blk ((w.alloc (Obj.cells #[Value.slice va vl vc, Value.slice ma ml mc] 56)).alloc (Obj.cells #[Value.slice none 0 0, Value.slice none 0 0] 64)) (s + 1) 64 [.slice none 0 0, .slice none 0 0] := Blk.new' _ _ _ (s + 1) (by rw [hs]; simp)
  have HG2 := Lib.hid (hg.below hb2)
  have HV2 := Lib.hid (h.below hb2)
  have HM2 := Lib.hid (h'.below hb2)
  have HB2 : Hid (Below s w ((w.alloc (Obj.cells #[Value.slice va vl vc, Value.slice ma ml mc] 56)).alloc (Obj.cells #[Value.slice none 0 0, Value.slice none 0 0] 64))) := hs.symm ▸ hb2
  have HL := Lib.hid (And.intro hl hl')
  have HSS := Lib.hid hs
  have HD2 := Lib.hid hD
  have HS2 := Lib.hid hS
  have hpd : decide ((1 : Int) ≤ (n : Int) ∧ (n : Int) ≤ 64) = true := decide_eq_true (by omega)
  have HPD := Lib.hid hpd
  clear hg h hl h' hl' hbA hb2 hD hS hpd
  go_enter Tryz.func26, Tryz.ntmps26
  go_wp2_with fail
  rw [← hs]
  clear hs
  generalize (w.alloc (Obj.cells #[Value.slice va vl vc, Value.slice ma ml mc] 56)).alloc (Obj.cells #[Value.slice none 0 0, Value.slice none 0 0] 64) = w2 at HG2 HV2 HM2 HB2 HD2 HS2 ⊢
  refine (peer_any (n : Int) w2).mono ?_
  rw [HPD.out]
  rintro e w3 ⟨rfl, hb3⟩
  have HG3 := Lib.hid (HG2.out.below hb3)
  have HV3 := Lib.hid (HV2.out.below hb3)
  have HM3 := Lib.hid (HM2.out.below hb3)
  have HD3 := Lib.hid (HD2.out.below hb3 HD2.out.lt)
  have HS3 := Lib.hid (HS2.out.below hb3 HS2.out.lt)
  have HB3 := Lib.hid (HB2.out.trans (hb3.mono (Nat.le_of_lt HD2.out.lt)))
  clear hb3 HG2 HV2 HM2 HD2 HS2 HB2
  go_wp2_with fail
  refine (gfield_any g P Q G H sz w3 HG3.out).mono ?_
  rintro e w4 ⟨r, rfl, hr, hb4⟩
  have HR := Lib.hid hr
  have HV := Lib.hid (HV3.out.below hb4)
  have HM := Lib.hid (HM3.out.below hb4)
  have hD4 := HD3.out.below hb4 HD3.out.lt
  have HS4 := Lib.hid (HS3.out.below hb4 HS3.out.lt)
  have HB4 := Lib.hid (HB3.out.trans (hb4.mono (Nat.le_of_lt HD3.out.lt)))
  have HZ4 : Hid (s ≤ w4.heap.size) := Nat.le_of_lt hD4.lt
  have k0 : ∀ w', BB w4 w' → w'.cell? ⟨s, 0, none⟩ = some (.slice va vl vc) := fun w' hb => (BB.cell hb hD4.lt).trans (hD4.cell 0)
  have k1 : ∀ w', BB w4 w' → w'.cell? ⟨s, 1, none⟩ = some (.slice ma ml mc) := fun w' hb => (BB.cell hb hD4.lt).trans (hD4.cell 1)
  clear hb4 hr hD4 HG3 HV3 HM3 HD3 HS3 HB3
  go_wp2_with fail
  refine wp_region_mix (fun l w' => l 13 = false → BB w4 w') (GF (tabDS (.pointer (some ⟨r, 0, none⟩)) (.pointer (some ⟨s, 0, none⟩)) (.slice va vl vc) (.int .i64 (n : Int)) (n) (evalm Q V (n % Q)) (.pointer (some ⟨r, 0, none⟩)) (.pointer (some ⟨s, 1, none⟩)) (.slice ma ml mc) (.int .i64 (n : Int)) (n) (evalm Q M (n % Q)) (Fk.pair (evalm Q V (n % Q)) (evalm Q M (n % Q))) (Fk.rel (fun _ w' => PairAt w w' s (evalm Q V (n % Q)) (evalm Q M (n % Q))) (fun _ _ _ hb h => h.below hb)) (.int .i64 0))) maskDS dstDS preDS (by kernel_rfl) (by kernel_rfl) rfl (by kernel_rfl) (by kernel_rfl) (by kernel_rfl) (by kernel_rfl) (fun _ => BB.drew (BB.refl _)) ?_ ?_
  · refine StepsM.cons (fun l g' wu hB hl hn hp K hK => ?_) ?_
    · simp only [mkM, maskDS, mixM, Nat.reduceAdd] at hK ⊢; simp only [Act.put, List.setIfInBounds_toArray, List.set_cons_zero, List.set_cons_succ] at hK; go_simp; exact hK.out _ _ (fun h => hB (by simpa [setL] using h)) GF.same rfl
    refine StepsM.cons (fun l g' wu hB hl hn hp K hK => ?_) ?_
    · simp only [mkM, maskDS, mixM, Nat.reduceAdd] at hK ⊢; simp only [Act.put, List.setIfInBounds_toArray, List.set_cons_zero, List.set_cons_succ] at hK; go_simp; exact hK.out _ _ (fun h => hB (by simpa [setL] using h)) GF.same rfl
    refine StepsM.cons (fun l g' wu hB hl hn hp K hK => ?_) ?_
    · have hbb := hB (hn 13 (by decide)); have e1 : g' 20 = .pointer (some ⟨s, 0, none⟩) := (hp 1 (by decide)).2; have hc := k0 _ hbb; simp only [mkM, maskDS, mixM, Nat.reduceAdd, e1] at hK ⊢; clear e1; simp only [Act.put, List.setIfInBounds_toArray, List.set_cons_zero, List.set_cons_succ] at hK; go_simp; exact hK.out _ _ (fun h => hB (by simpa [setL] using h)) GF.same rfl
    refine StepsM.cons (fun l g' wu hB hl hn hp K hK => ?_) ?_
    · simp only [mkM, maskDS, mixM, Nat.reduceAdd] at hK ⊢; simp only [Act.put, List.setIfInBounds_toArray, List.set_cons_zero, List.set_cons_succ] at hK; go_simp; exact hK.out _ _ (fun h => hB (by simpa [setL] using h)) GF.same rfl
    refine StepsM.cons (fun l g' wu hB hl hn hp K hK => ?_) ?_
    · have hbb := hB (hn 13 (by decide)); have e3 : g' 22 = .int .i64 (n : Int) := (hp 3 (by decide)).2; simp only [mkM, maskDS, mixM, Nat.reduceAdd, e3] at hK ⊢; clear e3; simp only [Act.put, List.setIfInBounds_toArray, List.set_cons_zero, List.set_cons_succ] at hK; go_simp; go_at_call 69; refine (dat_any n _ (by omega)).mono ?_; rintro e w7 ⟨ta, tl, tc, rfl, hx, hb⟩; go_wp2_with fail; exact hK.out _ _ (fun _ => BB.step hbb hb) (GF.below hb) ⟨ta, tl, tc, rfl, hx⟩
    refine StepsM.cons (fun l g' wu hB hl hn hp K hK => ?_) ?_
    · have hbb := hB (hn 13 (by decide)); have e0 : g' 19 = .pointer (some ⟨r, 0, none⟩) := (hp 0 (by decide)).2; have e2 : g' 21 = .slice va vl vc := (hp 2 (by decide)).2; obtain ⟨x4, l4, c4, e4, h4⟩ := (hp 4 (by decide)).2; have e4 : g' 23 = .agg #[.slice x4 l4 c4] := e4; simp only [mkM, maskDS, mixM, Nat.reduceAdd, e0, e2, e4] at hK ⊢; clear e0 e2 e4; simp only [Act.put, List.setIfInBounds_toArray, List.set_cons_zero, List.set_cons_succ] at hK; go_simp; go_at_call 39; refine (eval_any r Q va vl vc V x4 l4 c4 n _ (HR.out.below hbb) (HV.out.below hbb) HL.out.1 (by omega) h4).mono ?_; rintro e w7 ⟨ta, tl, tc, rfl, hx, hb⟩; go_wp2_with fail; exact hK.out _ _ (fun _ => BB.step hbb hb) (GF.below hb) ⟨ta, tl, tc, rfl, hx⟩
    refine StepsM.cons (fun l g' wu hB hl hn hp K hK => ?_) ?_
    · simp only [mkM, maskDS, mixM, Nat.reduceAdd] at hK ⊢; simp only [Act.put, List.setIfInBounds_toArray, List.set_cons_zero, List.set_cons_succ] at hK; go_simp; exact hK.out _ _ (fun h => hB (by simpa [setL] using h)) GF.same rfl
    refine StepsM.cons (fun l g' wu hB hl hn hp K hK => ?_) ?_
    · simp only [mkM, maskDS, mixM, Nat.reduceAdd] at hK ⊢; simp only [Act.put, List.setIfInBounds_toArray, List.set_cons_zero, List.set_cons_succ] at hK; go_simp; exact hK.out _ _ (fun h => hB (by simpa [setL] using h)) GF.same rfl
    refine StepsM.cons (fun l g' wu hB hl hn hp K hK => ?_) ?_
    · have hbb := hB (hn 13 (by decide)); have e7 : g' 26 = .pointer (some ⟨s, 1, none⟩) := (hp 7 (by decide)).2; have hc := k1 _ hbb; simp only [mkM, maskDS, mixM, Nat.reduceAdd, e7] at hK ⊢; clear e7; simp only [Act.put, List.setIfInBounds_toArray, List.set_cons_zero, List.set_cons_succ] at hK; go_simp; exact hK.out _ _ (fun h => hB (by simpa [setL] using h)) GF.same rfl
    refine StepsM.cons (fun l g' wu hB hl hn hp K hK => ?_) ?_
    · simp only [mkM, maskDS, mixM, Nat.reduceAdd] at hK ⊢; simp only [Act.put, List.setIfInBounds_toArray, List.set_cons_zero, List.set_cons_succ] at hK; go_simp; exact hK.out _ _ (fun h => hB (by simpa [setL] using h)) GF.same rfl
    refine StepsM.cons (fun l g' wu hB hl hn hp K hK => ?_) ?_
    · have hbb := hB (hn 13 (by decide)); have e9 : g' 28 = .int .i64 (n : Int) := (hp 9 (by decide)).2; simp only [mkM, maskDS, mixM, Nat.reduceAdd, e9] at hK ⊢; clear e9; simp only [Act.put, List.setIfInBounds_toArray, List.set_cons_zero, List.set_cons_succ] at hK; go_simp; go_at_call 69; refine (dat_any n _ (by omega)).mono ?_; rintro e w7 ⟨ta, tl, tc, rfl, hx, hb⟩; go_wp2_with fail; exact hK.out _ _ (fun _ => BB.step hbb hb) (GF.below hb) ⟨ta, tl, tc, rfl, hx⟩
    refine StepsM.cons (fun l g' wu hB hl hn hp K hK => ?_) ?_
    · have hbb := hB (hn 13 (by decide)); have e6 : g' 25 = .pointer (some ⟨r, 0, none⟩) := (hp 6 (by decide)).2; have e8 : g' 27 = .slice ma ml mc := (hp 8 (by decide)).2; obtain ⟨x10, l10, c10, e10, h10⟩ := (hp 10 (by decide)).2; have e10 : g' 29 = .agg #[.slice x10 l10 c10] := e10; simp only [mkM, maskDS, mixM, Nat.reduceAdd, e6, e8, e10] at hK ⊢; clear e6 e8 e10; simp only [Act.put, List.setIfInBounds_toArray, List.set_cons_zero, List.set_cons_succ] at hK; go_simp; go_at_call 39; refine (eval_any r Q ma ml mc M x10 l10 c10 n _ (HR.out.below hbb) (HM.out.below hbb) HL.out.2 (by omega) h10).mono ?_; rintro e w7 ⟨ta, tl, tc, rfl, hx, hb⟩; go_wp2_with fail; exact hK.out _ _ (fun _ => BB.step hbb hb) (GF.below hb) ⟨ta, tl, tc, rfl, hx⟩
    refine StepsM.cons (fun l g' wu hB hl hn hp K hK => ?_) ?_
    · obtain ⟨x5, l5, c5, e5, h5⟩ := (hp 5 (by decide)).2; have e5 : g' 24 = .agg #[.slice x5 l5 c5] := e5; obtain ⟨x11, l11, c11, e11, h11⟩ := (hp 11 (by decide)).2; have e11 : g' 30 = .agg #[.slice x11 l11 c11] := e11; simp only [mkM, maskDS, mixM, Nat.reduceAdd, e5, e11] at hK ⊢; clear e5 e11; simp only [Act.put, List.setIfInBounds_toArray, List.set_cons_zero, List.set_cons_succ] at hK; go_simp; exact hK.out _ _ (fun h => hB (by simpa [setL] using h)) GF.same ⟨x5, l5, c5, x11, l11, c11, rfl, h5, h11⟩
    refine StepsM.cons (fun l g' wu hB hl hn hp K hK => ?_) ?_
    · have hbb := hB hl; have h12 : IsPair (evalm Q V (n % Q)) (evalm Q M (n % Q)) (g' 31) wu := (hp 12 (by decide)).2; obtain ⟨a1, l1, c1, a2, l2, c2, ez, n1, n2⟩ := h12; have hBk := HS4.out.below hbb HS4.out.lt; have HBk := Lib.hid hBk; have q0 := hBk.cell 0; have q1 := hBk.cell 1; have f0 := hBk.frozen 0; have f1 := hBk.frozen 1; simp only [List.getElem?_cons_zero, List.getElem?_cons_succ] at q0 q1; clear hBk; simp only [mkM, maskDS, mixM, Nat.reduceAdd, ez] at hK ⊢; simp only [Act.put, List.setIfInBounds_toArray, List.set_cons_zero, List.set_cons_succ] at hK; go_simp; exact hK.out undef _ (fun h => by simp [setL] at h) (GF.kept rfl (fun _ _ _ hn => (hn.set HBk.out 0 _).set (HBk.out.set 0 _) 1 _)) (⟨a1, l1, c1, a2, l2, c2, (HBk.out.set 0 _).set 1 _, (n1.set HBk.out 0 _).set (HBk.out.set 0 _) 1 _, (n2.set HBk.out 0 _).set (HBk.out.set 0 _) 1 _, ((HB4.out.trans (Below.mono hbb HZ4.out)).setCell (p := ⟨s + 1, 0, none⟩) (Nat.le_succ s) _).setCell (p := ⟨s + 1, 1, none⟩) (Nat.le_succ s) _⟩)
    refine StepsM.cons (fun l g' wu hB hl hn hp K hK => ?_) ?_
    · simp only [mkM, maskDS, mixM, Nat.reduceAdd] at hK ⊢; simp only [Act.put, List.setIfInBounds_toArray, List.set_cons_zero, List.set_cons_succ] at hK; go_simp; exact hK.out _ _ (fun h => hB (by simpa [setL] using h)) GF.same rfl
    exact StepsM.nil
  · intro l g' wu hall hB hG
    have h13 : PairAt w wu s (evalm Q V (n % Q)) (evalm Q M (n % Q)) := hG 13 (by decide)
    have e14 : g' 7 = .int .i64 0 := hG 14 (by decide)
    obtain ⟨a1, l1, c1, a2, l2, c2, hb, n1, n2, hbel⟩ := h13
    have HH := Lib.hid (And.intro hb (And.intro n1 (And.intro n2 hbel)))
    simp only [mkM, maskDS, mixM, Nat.reduceAdd, e14]
    clear hG hall hB e14 hb n1 n2 hbel
    go_wp2_with fail
    exact ret_share rfl rfl rfl HH.out.1 ⟨a1, l1, c1, a2, l2, c2, rfl, HH.out.2.1, HH.out.2.2.1, HSS.out ▸ HH.out.2.2.2⟩
end Go.Proofs.YthefednendgclaaGreat
/-
  Deal: a share of a peer that is none; a dealing that is refused.
-/
namespace Go.Proofs.YthefednendgclaaGreat
open Go Go.RowKit Sac

/-- A share refused. -/
def ShareNone (w : World) (e : Ending) (w' : World) : Prop := e = .returned (.tuple #[.agg #[.slice none 0 0, .slice none 0 0], .int .i64 1]) ∧ Below w.heap.size w w'

set_option maxRecDepth 100000 in
set_option maxHeartbeats 4000000 in
theorem dshare_none (g : Nat) (va : Option Addr) (vl vc : Nat) (ma : Option Addr) (ml mc : Nat) (n : Int) (w : World) (hn : ¬ (1 ≤ n ∧ n ≤ 64)) :
    Calls Tryz.prog 26 #[.agg #[.slice va vl vc, .slice ma ml mc], .pointer (some ⟨g, 0, none⟩), .int .i64 n] w (ShareNone w) := by
  obtain ⟨s, hs⟩ : ∃ s, s = w.heap.size := ⟨_, rfl⟩
  have hbA := (Below.refl _ w).alloc (Nat.le_refl _) (Obj.cells #[Value.slice va vl vc, Value.slice ma ml mc] 56)
  have hb2 : BB w ((w.alloc (Obj.cells #[Value.slice va vl vc, Value.slice ma ml mc] 56)).alloc (Obj.cells #[Value.slice none 0 0, Value.slice none 0 0] 64)) := BB.alloc hbA
  have hS : Blk ((w.alloc (Obj.cells #[Value.slice va vl vc, Value.slice ma ml mc] 56)).alloc (Obj.cells #[Value.slice none 0 0, Value.slice none 0 0] 64)) (s + 1) 64 [.slice none 0 0, .slice none 0 0] := Blk.new' _ _ _ (s + 1) (by rw [hs]; simp)
  have HB2 : Hid (Below s w ((w.alloc (Obj.cells #[Value.slice va vl vc, Value.slice ma ml mc] 56)).alloc (Obj.cells #[Value.slice none 0 0, Value.slice none 0 0] 64))) := hs.symm ▸ hb2
  have HSS := Lib.hid hs
  have HS2 := Lib.hid hS
  have HSZ : Hid (s ≤ ((w.alloc (Obj.cells #[Value.slice va vl vc, Value.slice ma ml mc] 56)).alloc (Obj.cells #[Value.slice none 0 0, Value.slice none 0 0] 64)).heap.size) := Nat.le_of_lt (Nat.lt_trans (Nat.lt_succ_self s) hS.lt)
  have hpd : decide ((1 : Int) ≤ n ∧ n ≤ 64) = false := decide_eq_false hn
  have HPD := Lib.hid hpd
  clear hn hbA hb2 hS hpd
  go_enter Tryz.func26, Tryz.ntmps26
  go_wp2_with fail
  rw [← hs]
  clear hs
  generalize (w.alloc (Obj.cells #[Value.slice va vl vc, Value.slice ma ml mc] 56)).alloc (Obj.cells #[Value.slice none 0 0, Value.slice none 0 0] 64) = w2 at HB2 HS2 HSZ ⊢
  refine (peer_any n w2).mono ?_
  rw [HPD.out]
  rintro e w3 ⟨rfl, hb3⟩
  have hS3 := HS2.out.below hb3 HS2.out.lt
  have HS3 := Lib.hid hS3
  have HB3 := Lib.hid (HB2.out.trans (hb3.mono HSZ.out))
  have q0 := hS3.cell 0
  have q1 := hS3.cell 1
  have f0 := hS3.frozen 0
  have f1 := hS3.frozen 1
  simp only [List.getElem?_cons_zero, List.getElem?_cons_succ] at q0 q1
  clear hb3 hS3 HS2 HB2
  go_wp2_with fail
  exact ret_share rfl rfl rfl ((HS3.out.set 0 _).set 1 _) ⟨rfl, HSS.out ▸ (HB3.out.setCell (p := ⟨s + 1, 0, none⟩) (Nat.le_succ s) _).setCell (p := ⟨s + 1, 1, none⟩) (Nat.le_succ s) _⟩
/-- A dealing refused. -/
def DealNone (k : Int) (w : World) (e : Ending) (w' : World) : Prop := e = .returned (.tuple #[.agg #[.slice none 0 0, .slice none 0 0], .int .i64 k]) ∧ Below w.heap.size w w'

set_option maxRecDepth 100000 in
set_option maxHeartbeats 4000000 in
theorem dnew_arg (g : Nat) (t : Int) (sa : Option Addr) (sl sc : Nat) (ra : Option Addr) (rl rc : Nat) (a : Option Addr) (len cap : Nat) (w : World) (ht : t < 1 ∨ 64 < t) :
    Calls Tryz.prog 66 #[.pointer (some ⟨g, 0, none⟩), .int .i64 t, .agg #[.slice sa sl sc], .agg #[.slice ra rl rc], .slice a len cap] w (DealNone 1 w) := by
  obtain ⟨s, hs⟩ : ∃ s, s = w.heap.size := ⟨_, rfl⟩
  have hbA := (Below.refl _ w).alloc (Nat.le_refl _) (Obj.cells #[Value.slice sa sl sc] 36)
  have hbB : BB w ((w.alloc (Obj.cells #[Value.slice sa sl sc] 36)).alloc (Obj.cells #[Value.slice ra rl rc] 36)) := BB.alloc hbA
  have hbC : BB w (((w.alloc (Obj.cells #[Value.slice sa sl sc] 36)).alloc (Obj.cells #[Value.slice ra rl rc] 36)).alloc (Obj.cells #[Value.slice none 0 0, Value.slice none 0 0] 56)) := BB.alloc hbB
  have HO1 : Hid (Blk (((w.alloc (Obj.cells #[Value.slice sa sl sc] 36)).alloc (Obj.cells #[Value.slice ra rl rc] 36)).alloc (Obj.cells #[Value.slice none 0 0, Value.slice none 0 0] 56)) (s + 1 + 1) 56 [.slice none 0 0, .slice none 0 0]) := Blk.new' _ [.slice none 0 0, .slice none 0 0] _ (s + 1 + 1) (by rw [hs]; simp)
  have HB1 : Hid (Below s w (((w.alloc (Obj.cells #[Value.slice sa sl sc] 36)).alloc (Obj.cells #[Value.slice ra rl rc] 36)).alloc (Obj.cells #[Value.slice none 0 0, Value.slice none 0 0] 56))) := hs.symm ▸ hbC
  have HSZ : Hid (s ≤ (((w.alloc (Obj.cells #[Value.slice sa sl sc] 36)).alloc (Obj.cells #[Value.slice ra rl rc] 36)).alloc (Obj.cells #[Value.slice none 0 0, Value.slice none 0 0] 56)).heap.size) := Nat.le_of_lt (Nat.lt_trans (show s < s + 1 + 1 by omega) HO1.out.lt)
  have HSS := Lib.hid hs
  have HPD : Hid (decide (t < 1 ∨ 64 < t) = true) := decide_eq_true ht
  clear hbA hbB hbC ht
  go_enter Tryz.func66, Tryz.ntmps66
  go_wp2_with fail
  rw [← hs]
  clear hs
  generalize ((w.alloc (Obj.cells #[Value.slice sa sl sc] 36)).alloc (Obj.cells #[Value.slice ra rl rc] 36)).alloc (Obj.cells #[Value.slice none 0 0, Value.slice none 0 0] 56) = w4 at HO1 HB1 HSZ ⊢
  refine (wrong_any g t w4).mono ?_
  rw [HPD.out]
  rintro e w5 ⟨rfl, hb5⟩
  have hO := HO1.out.below hb5 HO1.out.lt
  have HO := Lib.hid hO
  have HB5 := Lib.hid (HB1.out.trans (hb5.mono HSZ.out))
  have q0 := hO.cell 0
  have q1 := hO.cell 1
  have f0 := hO.frozen 0
  have f1 := hO.frozen 1
  simp only [List.getElem?_cons_zero, List.getElem?_cons_succ] at q0 q1
  clear hb5 hO HO1 HB1
  go_wp2_with fail
  exact ret_deal rfl rfl rfl ((HO.out.set 0 _).set 1 _) ⟨rfl, HSS.out ▸ (HB5.out.setCell (p := ⟨s + 1 + 1, 0, none⟩) (by show s ≤ s + 1 + 1; omega) _).setCell (p := ⟨s + 1 + 1, 1, none⟩) (by show s ≤ s + 1 + 1; omega) _⟩

set_option maxRecDepth 100000 in
set_option maxHeartbeats 4000000 in
theorem dnew_few (g : Nat) (t : Int) (sa : Option Addr) (sl sc : Nat) (ra : Option Addr) (rl rc : Nat) (a : Option Addr) (len cap : Nat) (w : World) (h1 : 1 ≤ t) (h2 : t ≤ 64) (hlen : (len : Int) < 2 * t - 2) :
    Calls Tryz.prog 66 #[.pointer (some ⟨g, 0, none⟩), .int .i64 t, .agg #[.slice sa sl sc], .agg #[.slice ra rl rc], .slice a len cap] w (DealNone 10 w) := by
  obtain ⟨s, hs⟩ : ∃ s, s = w.heap.size := ⟨_, rfl⟩
  have hbA := (Below.refl _ w).alloc (Nat.le_refl _) (Obj.cells #[Value.slice sa sl sc] 36)
  have hbB : BB w ((w.alloc (Obj.cells #[Value.slice sa sl sc] 36)).alloc (Obj.cells #[Value.slice ra rl rc] 36)) := BB.alloc hbA
  have hbC : BB w (((w.alloc (Obj.cells #[Value.slice sa sl sc] 36)).alloc (Obj.cells #[Value.slice ra rl rc] 36)).alloc (Obj.cells #[Value.slice none 0 0, Value.slice none 0 0] 56)) := BB.alloc hbB
  have HO1 : Hid (Blk (((w.alloc (Obj.cells #[Value.slice sa sl sc] 36)).alloc (Obj.cells #[Value.slice ra rl rc] 36)).alloc (Obj.cells #[Value.slice none 0 0, Value.slice none 0 0] 56)) (s + 1 + 1) 56 [.slice none 0 0, .slice none 0 0]) := Blk.new' _ [.slice none 0 0, .slice none 0 0] _ (s + 1 + 1) (by rw [hs]; simp)
  have HB1 : Hid (Below s w (((w.alloc (Obj.cells #[Value.slice sa sl sc] 36)).alloc (Obj.cells #[Value.slice ra rl rc] 36)).alloc (Obj.cells #[Value.slice none 0 0, Value.slice none 0 0] 56))) := hs.symm ▸ hbC
  have HSZ : Hid (s ≤ (((w.alloc (Obj.cells #[Value.slice sa sl sc] 36)).alloc (Obj.cells #[Value.slice ra rl rc] 36)).alloc (Obj.cells #[Value.slice none 0 0, Value.slice none 0 0] 56)).heap.size) := Nat.le_of_lt (Nat.lt_trans (show s < s + 1 + 1 by omega) HO1.out.lt)
  have HSS := Lib.hid hs
  have HPD : Hid (decide (t < 1 ∨ 64 < t) = false) := decide_eq_false (by omega)
  have w1 : IntKind.i64.wrap (2 * t) = 2 * t := i64_small _ (by omega) (by omega)
  have w2 : IntKind.i64.wrap (2 * t - 2) = 2 * t - 2 := i64_small _ (by omega) (by omega)
  have dnl : decide ((len : Int) < 2 * t - 2) = true := decide_eq_true hlen
  clear hbA hbB hbC h1 h2
  go_enter Tryz.func66, Tryz.ntmps66
  go_wp2_with fail
  rw [← hs]
  clear hs
  generalize ((w.alloc (Obj.cells #[Value.slice sa sl sc] 36)).alloc (Obj.cells #[Value.slice ra rl rc] 36)).alloc (Obj.cells #[Value.slice none 0 0, Value.slice none 0 0] 56) = w4 at HO1 HB1 HSZ ⊢
  refine (wrong_any g t w4).mono ?_
  rw [HPD.out]
  rintro e w5 ⟨rfl, hb5⟩
  have hO := HO1.out.below hb5 HO1.out.lt
  have HO := Lib.hid hO
  have HB5 := Lib.hid (HB1.out.trans (hb5.mono HSZ.out))
  have q0 := hO.cell 0
  have q1 := hO.cell 1
  have f0 := hO.frozen 0
  have f1 := hO.frozen 1
  simp only [List.getElem?_cons_zero, List.getElem?_cons_succ] at q0 q1
  clear hb5 hO HO1 HB1
  go_wp2_with fail
  exact ret_deal rfl rfl rfl ((HO.out.set 0 _).set 1 _) ⟨rfl, HSS.out ▸ (HB5.out.setCell (p := ⟨s + 1 + 1, 0, none⟩) (by show s ≤ s + 1 + 1; omega) _).setCell (p := ⟨s + 1 + 1, 1, none⟩) (by show s ≤ s + 1 + 1; omega) _⟩

end Go.Proofs.YthefednendgclaaGreat
