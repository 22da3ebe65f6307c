import Derived.Test.YthefednendgclaaGreatCurve2
import Derived.Test.YthefednendgclaaGreatInvF
import Derived.Test.YthefednendgclaaGreatPlainB
import Derived.Test.YthefednendgclaaGreatWeights
import Derived.Deep.RegionHeld3
set_option linter.unusedVariables false
set_option linter.unusedSimpArgs false
/-
  What goes through values: sums of values, each scaled by its weight, in the field and in the exponent.
-/
namespace Go.Proofs.YthefednendgclaaGreat
open Go Go.RowKit Sac NT
def tabWF (v0 : Value) (v1 : Value) (v2 : Value) (v3 : Value) (v4 : Value) (v5 : Value) (v6 : Value) (v7 : Value) (n8 : Nat) (n9 : Nat) (last : Fk KpN) : List (Fk KpN) := [.val v0, .val v1, .val v2, .val v3, .val v4, .val v5, .val v6, .val v7, Fk.nat (fun _ _ h => h) n8, Fk.nat (fun _ _ h => h) n9, last]
def dstWF : List (Option Tmp) := [some 22, some 23, some 24, some 25, some 26, some 27, some 28, some 29, some 30, some 31, none]
def preWF : List (List Nat) := [[], [], [], [], [], [], [4, 5], [4, 5, 6], [2, 3, 4, 5, 6, 7], [0, 1, 2, 3, 4, 5, 6, 7, 8], [0, 1, 2, 3, 4, 5, 6, 7, 8, 9]]
def maskWF : List Bool := [false, false, false, false, false, false, false, false, false, false, false, false, false, false, false, false, false, false, false, false, false, false, true, true, true, true, true, true, true, true, true, true, false, false]

set_option maxRecDepth 100000 in
set_option maxHeartbeats 4000000 in
theorem weighed_field (r q : Nat) (a : Option Addr) (len cap : Nat) (ys : List Nat) (wa : Option Addr) (wcap : Nat) (ws : List Nat) (na : Option Addr) (nl nc : Nat) (w : World) (hr : RingAt w r q) (h : NatsAt w a ys) (hl : ys.length = len) (hcc : (len : Int) ≤ cap) (hc : (len : Int) ≤ 10000) (hw : NatsAt w wa ws) (hwl : ws.length = len) (hn : NatS w na nl 0) :
    Calls Tryz.prog 48 #[.slice a len cap, .slice wa len wcap, .agg #[.slice na nl nc], .func (.func 49) #[.pointer (some ⟨r, 0, none⟩)] #[], .func (.func 33) #[.pointer (some ⟨r, 0, none⟩)] #[]] w (RetS (wsum q ys ws len) w) := by
  obtain ⟨s, hs⟩ : ∃ s, s = w.heap.size := ⟨_, rfl⟩
  have hbA := (Below.refl _ w).alloc (Nat.le_refl _) (Obj.cells #[Value.slice na nl nc] 36)
  have hbB : BB (w.alloc (Obj.cells #[Value.slice na nl nc] 36)) ((w.alloc (Obj.cells #[Value.slice na nl nc] 36)).alloc (Obj.cells #[Value.slice none 0 0] 36)) := BB.alloc (BB.refl _)
  have E1 := (GE.init w s hs).alloc s hs hn (c := nc)
  have E2 := E1.alloc (s + 1) (by rw [hs]; simp) (natS_nil _) (c := 0)
  have HE4 := Lib.hid (E2.alloc (s + 1 + 1) (by rw [hs]; simp) ((hn.below hbA).below hbB) (c := nc))
  have HR := Lib.hid hr
  have HP := Lib.hid h
  have HL := Lib.hid hl
  have HW := Lib.hid hw
  have HWL := Lib.hid hwl
  have HS := Lib.hid hs
  clear hr h hl hn hw hwl E1 E2 hbA hbB
  go_enter Tryz.func48, Tryz.ntmps48
  go_wp2_with fail
  rw [← hs]
  clear hs
  generalize ((w.alloc (Obj.cells #[Value.slice na nl nc] 36)).alloc (Obj.cells #[Value.slice none 0 0] 36)).alloc (Obj.cells #[Value.slice na nl nc] 36) = w1 at HE4 ⊢
  go_loopw [17] (fun iv wr => ∃ i : Nat, (i : Int) ≤ len ∧ iv = .int .i64 (i : Int) ∧ Hid (GE w wr s [boxI s 0, boxI (s + 1) 0, boxI (s + 1 + 1) (wsum q ys ws i)] [])) (fun iv _ => len - (intOf iv).toNat)
  case atStart => exact ⟨0, by omega, rfl, HE4.out⟩
  case round =>
    clear HE4
    obtain ⟨i, hi, rfl, HE⟩ := hrel
    have hb0 : BB w wr := by have := HE.out.bel; rw [HS.out] at this; exact this
    by_cases hlt : (i : Int) < len
    · have hil : i < ys.length := by rw [HL.out]; omega
      have hiw : i < ws.length := by rw [HWL.out]; omega
      obtain ⟨y, hy⟩ : ∃ y, ys.getD i 0 = y := ⟨_, rfl⟩
      obtain ⟨v, hv⟩ : ∃ v, ws.getD i 0 = v := ⟨_, rfl⟩
      obtain ⟨o, ho⟩ : ∃ o, wsum q ys ws i = o := ⟨_, rfl⟩
      obtain ⟨ad, ya, yl, yc, hadr, _, cy, Ny⟩ := (HP.out.below hb0).get hil
      subst hadr
      obtain ⟨wad, va, vl, vc, hadr, _, cw, Nv⟩ := (HW.out.below hb0).get hiw
      subst hadr
      rw [hy] at Ny
      rw [hv] at Nv
      rw [ho] at HE
      have HY := Lib.hid hy
      have HV := Lib.hid hv
      have HO := Lib.hid ho
      have hcap : (i : Int) ≤ cap := by omega
      obtain ⟨Z, hZ⟩ : ∃ Z, Z = wr.heap.size := ⟨_, rfl⟩
      have hbZ := (Below.refl _ wr).alloc (Nat.le_refl _) (Obj.cells #[Value.slice ya yl yc] 36)
      have HE2 := Lib.hid (HE.out.alloc Z hZ Ny (c := yc))
      have HR2 := Lib.hid ((HR.out.below hb0).below hbZ)
      have HV2 := Lib.hid (Nv.below hbZ)
      have gW0 : ∀ w', BB (wr.alloc (Obj.cells #[Value.slice ya yl yc] 36)) w' → w'.cell? (wad.add i) = some (.slice va vl vc) := fun w' h => ((BB.step hbZ h).cell (World.block_lt_of_cell? _ _ cw)).trans cw
      clear hil hiw hy hv ho HE Ny Nv hbZ hb0
      go_wp2_with fail
      rw [← hZ]
      clear hZ cy cw
      generalize wr.alloc (Obj.cells #[Value.slice ya yl yc] 36) = w2 at HE2 HR2 HV2 gW0 ⊢
      obtain ⟨oa, ol, oc, gO, No⟩ := HE2.out.get 2 rfl
      obtain ⟨ya, yl, yc, gY, Ny⟩ := HE2.out.get 3 rfl
      have gW := gW0
      have HNo := Lib.hid No
      have HNy := Lib.hid Ny
      have bi0 : (0 : Int) ≤ (i : Int) := by omega
      clear gW0 No Ny
      refine wp_region_mix (fun l w' => l 10 = false → BB w2 w') (GF (tabWF (.func (.func 33) #[.pointer (some ⟨r, 0, none⟩)] #[]) (.agg #[.slice oa ol oc]) (.func (.func 49) #[.pointer (some ⟨r, 0, none⟩)] #[]) (.agg #[.slice ya yl yc]) (.slice (some wad) len wcap) (.int .i64 (i : Int)) (.pointer (some (wad.add i))) (.agg #[.slice va vl vc]) ((y * v % q)) (((o + y * v % q) % q)) (Fk.rel (fun _ w' => GE w w' s [boxI s 0, boxI (s + 1) 0, boxI (s + 1 + 1) ((o + y * v % q) % q), boxI Z y] []) (fun _ _ _ hb h => h.below hb)))) maskWF dstWF preWF (by kernel_rfl) (by kernel_rfl) rfl (by kernel_rfl) (by kernel_rfl) (by kernel_rfl) (by kernel_rfl) (fun _ => BB.drew (BB.refl _)) ?_ ?_
      · refine StepsM.cons (fun l g' wu hB hl hn hp K hK => ?_) ?_
        · simp only [mkM, maskWF, mixM, Nat.reduceAdd] at hK ⊢; simp only [Act.put, List.setIfInBounds_toArray, List.set_cons_zero, List.set_cons_succ] at hK; go_simp; exact hK.out _ _ (fun h => hB (by simpa [setL] using h)) GF.same rfl
        refine StepsM.cons (fun l g' wu hB hl hn hp K hK => ?_) ?_
        · have hbb := hB (hn 10 (by decide)); have hc := gO _ hbb; simp only [mkM, maskWF, mixM, Nat.reduceAdd] at hK ⊢; simp only [Act.put, List.setIfInBounds_toArray, List.set_cons_zero, List.set_cons_succ] at hK; go_simp; exact hK.out _ _ (fun h => hB (by simpa [setL] using h)) GF.same rfl
        refine StepsM.cons (fun l g' wu hB hl hn hp K hK => ?_) ?_
        · simp only [mkM, maskWF, mixM, Nat.reduceAdd] at hK ⊢; simp only [Act.put, List.setIfInBounds_toArray, List.set_cons_zero, List.set_cons_succ] at hK; go_simp; exact hK.out _ _ (fun h => hB (by simpa [setL] using h)) GF.same rfl
        refine StepsM.cons (fun l g' wu hB hl hn hp K hK => ?_) ?_
        · have hbb := hB (hn 10 (by decide)); have hc := gY _ hbb; simp only [mkM, maskWF, mixM, Nat.reduceAdd] at hK ⊢; simp only [Act.put, List.setIfInBounds_toArray, List.set_cons_zero, List.set_cons_succ] at hK; go_simp; exact hK.out _ _ (fun h => hB (by simpa [setL] using h)) GF.same rfl
        refine StepsM.cons (fun l g' wu hB hl hn hp K hK => ?_) ?_
        · simp only [mkM, maskWF, mixM, Nat.reduceAdd] at hK ⊢; simp only [Act.put, List.setIfInBounds_toArray, List.set_cons_zero, List.set_cons_succ] at hK; go_simp; exact hK.out _ _ (fun h => hB (by simpa [setL] using h)) GF.same rfl
        refine StepsM.cons (fun l g' wu hB hl hn hp K hK => ?_) ?_
        · simp only [mkM, maskWF, mixM, Nat.reduceAdd] at hK ⊢; simp only [Act.put, List.setIfInBounds_toArray, List.set_cons_zero, List.set_cons_succ] at hK; go_simp; exact hK.out _ _ (fun h => hB (by simpa [setL] using h)) GF.same rfl
        refine StepsM.cons (fun l g' wu hB hl hn hp K hK => ?_) ?_
        · have e4 : g' 26 = .slice (some wad) len wcap := (hp 4 (by decide)).2; have e5 : g' 27 = .int .i64 (i : Int) := (hp 5 (by decide)).2; simp only [mkM, maskWF, mixM, Nat.reduceAdd, e4, e5] at hK ⊢; clear e4 e5; simp only [Act.put, List.setIfInBounds_toArray, List.set_cons_zero, List.set_cons_succ] at hK; go_simp; exact hK.out _ _ (fun h => hB (by simpa [setL] using h)) GF.same rfl
        refine StepsM.cons (fun l g' wu hB hl hn hp K hK => ?_) ?_
        · have hbb := hB (hn 10 (by decide)); have e6 : g' 28 = .pointer (some (wad.add i)) := (hp 6 (by decide)).2; have hc := gW _ hbb; simp only [mkM, maskWF, mixM, Nat.reduceAdd, e6] at hK ⊢; clear e6; simp only [Act.put, List.setIfInBounds_toArray, List.set_cons_zero, List.set_cons_succ] at hK; go_simp; exact hK.out _ _ (fun h => hB (by simpa [setL] using h)) GF.same rfl
        refine StepsM.cons (fun l g' wu hB hl hn hp K hK => ?_) ?_
        · have hbb := hB (hn 10 (by decide)); have e2 : g' 24 = .func (.func 49) #[.pointer (some ⟨r, 0, none⟩)] #[] := (hp 2 (by decide)).2; have e3 : g' 25 = .agg #[.slice ya yl yc] := (hp 3 (by decide)).2; have e7 : g' 29 = .agg #[.slice va vl vc] := (hp 7 (by decide)).2; simp only [mkM, maskWF, mixM, Nat.reduceAdd, e2, e3, e7] at hK ⊢; clear e2 e3 e7; simp only [Act.put, List.setIfInBounds_toArray, List.set_cons_zero, List.set_cons_succ] at hK; go_simp; go_at_call 49; refine (rmul_any r q ya va yl yc vl vc y v _ (HR2.out.below hbb) (HNy.out.below hbb) (HV2.out.below hbb)).mono ?_; rintro e w7 ⟨ta, tl, tc, rfl, hx, hb⟩; go_wp2_with fail; exact hK.out _ _ (fun _ => BB.step hbb hb) (GF.below hb) ⟨ta, tl, tc, rfl, hx⟩
        refine StepsM.cons (fun l g' wu hB hl hn hp K hK => ?_) ?_
        · have hbb := hB (hn 10 (by decide)); have e0 : g' 22 = .func (.func 33) #[.pointer (some ⟨r, 0, none⟩)] #[] := (hp 0 (by decide)).2; have e1 : g' 23 = .agg #[.slice oa ol oc] := (hp 1 (by decide)).2; obtain ⟨x8, l8, c8, e8, h8⟩ := (hp 8 (by decide)).2; have e8 : g' 30 = .agg #[.slice x8 l8 c8] := e8; simp only [mkM, maskWF, mixM, Nat.reduceAdd, e0, e1, e8] at hK ⊢; clear e0 e1 e8; simp only [Act.put, List.setIfInBounds_toArray, List.set_cons_zero, List.set_cons_succ] at hK; go_simp; go_at_call 33; refine (radd_any r q oa x8 ol oc l8 c8 o (y * v % q) _ (HR2.out.below hbb) (HNo.out.below hbb) h8).mono ?_; rintro e w7 ⟨ta, tl, tc, rfl, hx, hb⟩; go_wp2_with fail; exact hK.out _ _ (fun _ => BB.step hbb hb) (GF.below hb) ⟨ta, tl, tc, rfl, hx⟩
        refine StepsM.cons (fun l g' wu hB hl hn hp K hK => ?_) ?_
        · have hbb := hB hl; obtain ⟨x9, l9, c9, e9, h9⟩ := (hp 9 (by decide)).2; have e9 : g' 31 = .agg #[.slice x9 l9 c9] := e9; obtain ⟨_, _, _, c9c, f9, _⟩ := (HE2.out.below hbb).box 2 rfl; obtain ⟨_, _, _, hBk, _⟩ := (HE2.out.below hbb).nb 2 rfl; have hBk := Lib.hid hBk; have hE9 := Lib.hid ((HE2.out.below hbb).set 2 rfl h9 (c := c9)); simp only [mkM, maskWF, mixM, Nat.reduceAdd, e9] at hK ⊢; clear e9; simp only [Act.put, List.setIfInBounds_toArray, List.set_cons_zero, List.set_cons_succ] at hK; go_simp; exact hK.out undef _ (fun h => by simp [setL] at h) (GF.kept rfl (fun _ _ _ hn => hn.set hBk.out 0 _)) (hE9.out)
        exact StepsM.nil
      · intro l g' wu hall hB hG
        have hE : GE w wu s [boxI s 0, boxI (s + 1) 0, boxI (s + 1 + 1) ((o + y * v % q) % q), boxI Z y] [] := hG 10 (by decide)
        have HE9 := Lib.hid hE
        simp only [mkM, maskWF, mixM, Nat.reduceAdd]
        clear hG hB hall hE
        go_wp2_with fail
        go_roundw
        case rel => exact ⟨i + 1, by omega, by go_num, (by have := HE9.out.take 3; rw [← HY.out, ← HV.out, ← HO.out] at this; exact this)⟩
        case measure => simp [intOf]; omega
    · have hi' : i = len := by omega
      subst hi'
      obtain ⟨oa, ol, oc, co, _, No⟩ := HE.out.box 2 rfl
      obtain ⟨_, _, _, cr, fr, _⟩ := HE.out.box 1 rfl
      have HNo := Lib.hid No
      clear No hb0
      go_wp2_with fail
      exact (HE.out.set 1 rfl HNo.out (c := oc)).ret HS.out (i := 1) rfl rfl rfl

def tabWE (v0 : Value) (v1 : Value) (v2 : Value) (v3 : Value) (v4 : Value) (v5 : Value) (v6 : Value) (v7 : Value) (n8 : Nat) (n9 : Nat) (last : Fk KpN) : List (Fk KpN) := [.val v0, .val v1, .val v2, .val v3, .val v4, .val v5, .val v6, .val v7, Fk.nat (fun _ _ h => h) n8, Fk.nat (fun _ _ h => h) n9, last]
def dstWE : List (Option Tmp) := [some 22, some 23, some 24, some 25, some 26, some 27, some 28, some 29, some 30, some 31, none]
def preWE : List (List Nat) := [[], [], [], [], [], [], [4, 5], [4, 5, 6], [2, 3, 4, 5, 6, 7], [0, 1, 2, 3, 4, 5, 6, 7, 8], [0, 1, 2, 3, 4, 5, 6, 7, 8, 9]]
def maskWE : List Bool := [false, false, false, false, false, false, false, false, false, false, false, false, false, false, false, false, false, false, false, false, false, false, true, true, true, true, true, true, true, true, true, true, false, false]

set_option maxRecDepth 100000 in
set_option maxHeartbeats 4000000 in
theorem weighed_exp (g P Q G H sz : Nat) (a : Option Addr) (len cap : Nat) (ys : List Nat) (wa : Option Addr) (wcap : Nat) (ws : List Nat) (na : Option Addr) (nl nc : Nat) (w : World) (hr : GroupAt w g P Q G H sz) (h : NatsAt w a ys) (hl : ys.length = len) (hcc : (len : Int) ≤ cap) (hc : (len : Int) ≤ 10000) (hw : NatsAt w wa ws) (hwl : ws.length = len) (hn : NatS w na nl 1) :
    Calls Tryz.prog 48 #[.slice a len cap, .slice wa len wcap, .agg #[.slice na nl nc], .func (.func 51) #[.pointer (some ⟨g, 0, none⟩)] #[], .func (.func 52) #[.pointer (some ⟨g, 0, none⟩)] #[]] w (RetS (wprod P ys ws len) w) := by
  obtain ⟨s, hs⟩ : ∃ s, s = w.heap.size := ⟨_, rfl⟩
  have hbA := (Below.refl _ w).alloc (Nat.le_refl _) (Obj.cells #[Value.slice na nl nc] 36)
  have hbB : BB (w.alloc (Obj.cells #[Value.slice na nl nc] 36)) ((w.alloc (Obj.cells #[Value.slice na nl nc] 36)).alloc (Obj.cells #[Value.slice none 0 0] 36)) := BB.alloc (BB.refl _)
  have E1 := (GE.init w s hs).alloc s hs hn (c := nc)
  have E2 := E1.alloc (s + 1) (by rw [hs]; simp) (natS_nil _) (c := 0)
  have HE4 := Lib.hid (E2.alloc (s + 1 + 1) (by rw [hs]; simp) ((hn.below hbA).below hbB) (c := nc))
  have HR := Lib.hid hr
  have HP := Lib.hid h
  have HL := Lib.hid hl
  have HW := Lib.hid hw
  have HWL := Lib.hid hwl
  have HS := Lib.hid hs
  clear hr h hl hn hw hwl E1 E2 hbA hbB
  go_enter Tryz.func48, Tryz.ntmps48
  go_wp2_with fail
  rw [← hs]
  clear hs
  generalize ((w.alloc (Obj.cells #[Value.slice na nl nc] 36)).alloc (Obj.cells #[Value.slice none 0 0] 36)).alloc (Obj.cells #[Value.slice na nl nc] 36) = w1 at HE4 ⊢
  go_loopw [17] (fun iv wr => ∃ i : Nat, (i : Int) ≤ len ∧ iv = .int .i64 (i : Int) ∧ Hid (GE w wr s [boxI s 1, boxI (s + 1) 0, boxI (s + 1 + 1) (wprod P ys ws i)] [])) (fun iv _ => len - (intOf iv).toNat)
  case atStart => exact ⟨0, by omega, rfl, HE4.out⟩
  case round =>
    clear HE4
    obtain ⟨i, hi, rfl, HE⟩ := hrel
    have hb0 : BB w wr := by have := HE.out.bel; rw [HS.out] at this; exact this
    by_cases hlt : (i : Int) < len
    · have hil : i < ys.length := by rw [HL.out]; omega
      have hiw : i < ws.length := by rw [HWL.out]; omega
      obtain ⟨y, hy⟩ : ∃ y, ys.getD i 0 = y := ⟨_, rfl⟩
      obtain ⟨v, hv⟩ : ∃ v, ws.getD i 0 = v := ⟨_, rfl⟩
      obtain ⟨o, ho⟩ : ∃ o, wprod P ys ws i = o := ⟨_, rfl⟩
      obtain ⟨ad, ya, yl, yc, hadr, _, cy, Ny⟩ := (HP.out.below hb0).get hil
      subst hadr
      obtain ⟨wad, va, vl, vc, hadr, _, cw, Nv⟩ := (HW.out.below hb0).get hiw
      subst hadr
      rw [hy] at Ny
      rw [hv] at Nv
      rw [ho] at HE
      have HY := Lib.hid hy
      have HV := Lib.hid hv
      have HO := Lib.hid ho
      have hcap : (i : Int) ≤ cap := by omega
      obtain ⟨Z, hZ⟩ : ∃ Z, Z = wr.heap.size := ⟨_, rfl⟩
      have hbZ := (Below.refl _ wr).alloc (Nat.le_refl _) (Obj.cells #[Value.slice ya yl yc] 36)
      have HE2 := Lib.hid (HE.out.alloc Z hZ Ny (c := yc))
      have HR2 := Lib.hid ((HR.out.below hb0).below hbZ)
      have HV2 := Lib.hid (Nv.below hbZ)
      have gW0 : ∀ w', BB (wr.alloc (Obj.cells #[Value.slice ya yl yc] 36)) w' → w'.cell? (wad.add i) = some (.slice va vl vc) := fun w' h => ((BB.step hbZ h).cell (World.block_lt_of_cell? _ _ cw)).trans cw
      clear hil hiw hy hv ho HE Ny Nv hbZ hb0
      go_wp2_with fail
      rw [← hZ]
      clear hZ cy cw
      generalize wr.alloc (Obj.cells #[Value.slice ya yl yc] 36) = w2 at HE2 HR2 HV2 gW0 ⊢
      obtain ⟨oa, ol, oc, gO, No⟩ := HE2.out.get 2 rfl
      obtain ⟨ya, yl, yc, gY, Ny⟩ := HE2.out.get 3 rfl
      have gW := gW0
      have HNo := Lib.hid No
      have HNy := Lib.hid Ny
      have bi0 : (0 : Int) ≤ (i : Int) := by omega
      clear gW0 No Ny
      refine wp_region_mix (fun l w' => l 10 = false → BB w2 w') (GF (tabWE (.func (.func 52) #[.pointer (some ⟨g, 0, none⟩)] #[]) (.agg #[.slice oa ol oc]) (.func (.func 51) #[.pointer (some ⟨g, 0, none⟩)] #[]) (.agg #[.slice ya yl yc]) (.slice (some wad) len wcap) (.int .i64 (i : Int)) (.pointer (some (wad.add i))) (.agg #[.slice va vl vc]) ((y ^ v % P)) ((o * (y ^ v % P) % P)) (Fk.rel (fun _ w' => GE w w' s [boxI s 1, boxI (s + 1) 0, boxI (s + 1 + 1) (o * (y ^ v % P) % P), boxI Z y] []) (fun _ _ _ hb h => h.below hb)))) maskWE dstWE preWE (by kernel_rfl) (by kernel_rfl) rfl (by kernel_rfl) (by kernel_rfl) (by kernel_rfl) (by kernel_rfl) (fun _ => BB.drew (BB.refl _)) ?_ ?_
      · refine StepsM.cons (fun l g' wu hB hl hn hp K hK => ?_) ?_
        · simp only [mkM, maskWE, mixM, Nat.reduceAdd] at hK ⊢; simp only [Act.put, List.setIfInBounds_toArray, List.set_cons_zero, List.set_cons_succ] at hK; go_simp; exact hK.out _ _ (fun h => hB (by simpa [setL] using h)) GF.same rfl
        refine StepsM.cons (fun l g' wu hB hl hn hp K hK => ?_) ?_
        · have hbb := hB (hn 10 (by decide)); have hc := gO _ hbb; simp only [mkM, maskWE, mixM, Nat.reduceAdd] at hK ⊢; simp only [Act.put, List.setIfInBounds_toArray, List.set_cons_zero, List.set_cons_succ] at hK; go_simp; exact hK.out _ _ (fun h => hB (by simpa [setL] using h)) GF.same rfl
        refine StepsM.cons (fun l g' wu hB hl hn hp K hK => ?_) ?_
        · simp only [mkM, maskWE, mixM, Nat.reduceAdd] at hK ⊢; simp only [Act.put, List.setIfInBounds_toArray, List.set_cons_zero, List.set_cons_succ] at hK; go_simp; exact hK.out _ _ (fun h => hB (by simpa [setL] using h)) GF.same rfl
        refine StepsM.cons (fun l g' wu hB hl hn hp K hK => ?_) ?_
        · have hbb := hB (hn 10 (by decide)); have hc := gY _ hbb; simp only [mkM, maskWE, mixM, Nat.reduceAdd] at hK ⊢; simp only [Act.put, List.setIfInBounds_toArray, List.set_cons_zero, List.set_cons_succ] at hK; go_simp; exact hK.out _ _ (fun h => hB (by simpa [setL] using h)) GF.same rfl
        refine StepsM.cons (fun l g' wu hB hl hn hp K hK => ?_) ?_
        · simp only [mkM, maskWE, mixM, Nat.reduceAdd] at hK ⊢; simp only [Act.put, List.setIfInBounds_toArray, List.set_cons_zero, List.set_cons_succ] at hK; go_simp; exact hK.out _ _ (fun h => hB (by simpa [setL] using h)) GF.same rfl
        refine StepsM.cons (fun l g' wu hB hl hn hp K hK => ?_) ?_
        · simp only [mkM, maskWE, mixM, Nat.reduceAdd] at hK ⊢; simp only [Act.put, List.setIfInBounds_toArray, List.set_cons_zero, List.set_cons_succ] at hK; go_simp; exact hK.out _ _ (fun h => hB (by simpa [setL] using h)) GF.same rfl
        refine StepsM.cons (fun l g' wu hB hl hn hp K hK => ?_) ?_
        · have e4 : g' 26 = .slice (some wad) len wcap := (hp 4 (by decide)).2; have e5 : g' 27 = .int .i64 (i : Int) := (hp 5 (by decide)).2; simp only [mkM, maskWE, mixM, Nat.reduceAdd, e4, e5] at hK ⊢; clear e4 e5; simp only [Act.put, List.setIfInBounds_toArray, List.set_cons_zero, List.set_cons_succ] at hK; go_simp; exact hK.out _ _ (fun h => hB (by simpa [setL] using h)) GF.same rfl
        refine StepsM.cons (fun l g' wu hB hl hn hp K hK => ?_) ?_
        · have hbb := hB (hn 10 (by decide)); have e6 : g' 28 = .pointer (some (wad.add i)) := (hp 6 (by decide)).2; have hc := gW _ hbb; simp only [mkM, maskWE, mixM, Nat.reduceAdd, e6] at hK ⊢; clear e6; simp only [Act.put, List.setIfInBounds_toArray, List.set_cons_zero, List.set_cons_succ] at hK; go_simp; exact hK.out _ _ (fun h => hB (by simpa [setL] using h)) GF.same rfl
        refine StepsM.cons (fun l g' wu hB hl hn hp K hK => ?_) ?_
        · have hbb := hB (hn 10 (by decide)); have e2 : g' 24 = .func (.func 51) #[.pointer (some ⟨g, 0, none⟩)] #[] := (hp 2 (by decide)).2; have e3 : g' 25 = .agg #[.slice ya yl yc] := (hp 3 (by decide)).2; have e7 : g' 29 = .agg #[.slice va vl vc] := (hp 7 (by decide)).2; simp only [mkM, maskWE, mixM, Nat.reduceAdd, e2, e3, e7] at hK ⊢; clear e2 e3 e7; simp only [Act.put, List.setIfInBounds_toArray, List.set_cons_zero, List.set_cons_succ] at hK; go_simp; go_at_call 51; refine (gexp_any g P Q G H sz ya va yl yc vl vc y v _ (HR2.out.below hbb) (HNy.out.below hbb) (HV2.out.below hbb)).mono ?_; rintro e w7 ⟨ta, tl, tc, rfl, hx, hb⟩; go_wp2_with fail; exact hK.out _ _ (fun _ => BB.step hbb hb) (GF.below hb) ⟨ta, tl, tc, rfl, hx⟩
        refine StepsM.cons (fun l g' wu hB hl hn hp K hK => ?_) ?_
        · have hbb := hB (hn 10 (by decide)); have e0 : g' 22 = .func (.func 52) #[.pointer (some ⟨g, 0, none⟩)] #[] := (hp 0 (by decide)).2; have e1 : g' 23 = .agg #[.slice oa ol oc] := (hp 1 (by decide)).2; obtain ⟨x8, l8, c8, e8, h8⟩ := (hp 8 (by decide)).2; have e8 : g' 30 = .agg #[.slice x8 l8 c8] := e8; simp only [mkM, maskWE, mixM, Nat.reduceAdd, e0, e1, e8] at hK ⊢; clear e0 e1 e8; simp only [Act.put, List.setIfInBounds_toArray, List.set_cons_zero, List.set_cons_succ] at hK; go_simp; go_at_call 52; refine (gmul_any g P Q G H sz oa x8 ol oc l8 c8 o (y ^ v % P) _ (HR2.out.below hbb) (HNo.out.below hbb) h8).mono ?_; rintro e w7 ⟨ta, tl, tc, rfl, hx, hb⟩; go_wp2_with fail; exact hK.out _ _ (fun _ => BB.step hbb hb) (GF.below hb) ⟨ta, tl, tc, rfl, hx⟩
        refine StepsM.cons (fun l g' wu hB hl hn hp K hK => ?_) ?_
        · have hbb := hB hl; obtain ⟨x9, l9, c9, e9, h9⟩ := (hp 9 (by decide)).2; have e9 : g' 31 = .agg #[.slice x9 l9 c9] := e9; obtain ⟨_, _, _, c9c, f9, _⟩ := (HE2.out.below hbb).box 2 rfl; obtain ⟨_, _, _, hBk, _⟩ := (HE2.out.below hbb).nb 2 rfl; have hBk := Lib.hid hBk; have hE9 := Lib.hid ((HE2.out.below hbb).set 2 rfl h9 (c := c9)); simp only [mkM, maskWE, mixM, Nat.reduceAdd, e9] at hK ⊢; clear e9; simp only [Act.put, List.setIfInBounds_toArray, List.set_cons_zero, List.set_cons_succ] at hK; go_simp; exact hK.out undef _ (fun h => by simp [setL] at h) (GF.kept rfl (fun _ _ _ hn => hn.set hBk.out 0 _)) (hE9.out)
        exact StepsM.nil
      · intro l g' wu hall hB hG
        have hE : GE w wu s [boxI s 1, boxI (s + 1) 0, boxI (s + 1 + 1) (o * (y ^ v % P) % P), boxI Z y] [] := hG 10 (by decide)
        have HE9 := Lib.hid hE
        simp only [mkM, maskWE, mixM, Nat.reduceAdd]
        clear hG hB hall hE
        go_wp2_with fail
        go_roundw
        case rel => exact ⟨i + 1, by omega, by go_num, (by have := HE9.out.take 3; rw [← HY.out, ← HV.out, ← HO.out] at this; exact this)⟩
        case measure => simp [intOf]; omega
    · have hi' : i = len := by omega
      subst hi'
      obtain ⟨oa, ol, oc, co, _, No⟩ := HE.out.box 2 rfl
      obtain ⟨_, _, _, cr, fr, _⟩ := HE.out.box 1 rfl
      have HNo := Lib.hid No
      clear No hb0
      go_wp2_with fail
      exact (HE.out.set 1 rfl HNo.out (c := oc)).ret HS.out (i := 1) rfl rfl rfl

end Go.Proofs.YthefednendgclaaGreat
/-
  What goes through values: Join, JoinExp.
-/
namespace Go.Proofs.YthefednendgclaaGreat
open Go Go.RowKit Sac NT

/-- What both tells: the weights, or why there are none. -/
def BothPost (q : Nat) (xs : List Nat) (ny x : Nat) (w : World) (e : Ending) (w' : World) : Prop := ∃ (v : Value) (c : Int), e = .returned (.tuple #[v, .int .i64 c]) ∧ Below w.heap.size w w' ∧
  ((xs.length = 0 ∧ c = 10 ∧ v = .slice none 0 0) ∨ (0 < xs.length ∧ xs.length ≠ ny ∧ c = 1 ∧ v = .slice none 0 0) ∨ (0 < xs.length ∧ xs.length = ny ∧ ¬ Dis q xs ∧ c = 11 ∧ v = .slice none 0 0) ∨ (0 < xs.length ∧ xs.length = ny ∧ Dis q xs ∧ c = 0 ∧ NatsOwn w' w.heap.size v (wts q xs x)))

set_option maxRecDepth 100000 in
set_option maxHeartbeats 4000000 in
theorem both_any (r q : Nat) (a : Option Addr) (len cap : Nat) (xs : List Nat) (b : Option Addr) (lenb capb : Nat) (xa : Option Addr) (xl xc x : Nat) (w : World) (hq : Prime q) (hr : RingAt w r q) (h : NatsAt w a xs) (hl : xs.length = len) (hcc : (len : Int) ≤ cap) (hc : (len : Int) ≤ 10000) (hx : NatS w xa xl x) :
    Calls Tryz.prog 47 #[.pointer (some ⟨r, 0, none⟩), .slice a len cap, .slice b lenb capb, .agg #[.slice xa xl xc]] w (BothPost q xs lenb x w) := by
  obtain ⟨s, hs⟩ : ∃ s, s = w.heap.size := ⟨_, rfl⟩
  have HE1 := Lib.hid ((GE.init w s hs).alloc s hs hx (c := xc))
  have hbA := (Below.refl _ w).alloc (Nat.le_refl _) (Obj.cells #[Value.slice xa xl xc] 36)
  have HL := Lib.hid hl
  have HS := Lib.hid hs
  have HQ := Lib.hid hq
  have HR1 := Lib.hid (hr.below hbA)
  have HP1 := Lib.hid (h.below hbA)
  have HX1 := Lib.hid (hx.below hbA)
  clear hr h hl hx hbA hq
  by_cases h0 : (len : Int) = 0
  · have e0 : ((len : Int) == 0) = true := by rw [h0]; rfl
    have hx0 : xs.length = 0 := by rw [HL.out]; omega
    have HX0 := Lib.hid hx0
    clear h0 hx0
    go_enter Tryz.func47, Tryz.ntmps47
    go_wp2_with fail
    clear hs
    go_ret2
    exact ⟨_, _, rfl, HS.out ▸ HE1.out.bel, .inl ⟨HX0.out, rfl, rfl⟩⟩
  have e0 : ((len : Int) == 0) = false := by rw [beq_eq_false_iff_ne]; exact h0
  have hpos : 0 < xs.length := by rw [HL.out]; omega
  have HPOS := Lib.hid hpos
  clear hpos
  by_cases hn : len = lenb
  · subst hn
    have e1 : ((len : Int) != (len : Int)) = false := by simp
    clear h0
    go_enter Tryz.func47, Tryz.ntmps47
    go_wp2_with fail
    rw [← hs]
    clear hs
    obtain ⟨fa, fl, fc, cF, _, NF⟩ := HE1.out.box 0 rfl
    have HNF := Lib.hid NF
    clear NF
    generalize w.alloc (Obj.cells #[Value.slice xa xl xc] 36) = w1 at HE1 HR1 HP1 HX1 cF HNF ⊢
    first
      | (with_reducible refine (weights_any r q a len cap xs xa xl xc x w1 HQ.out HR1.out HP1.out HL.out hcc hc HX1.out).mono ?_)
      | (go_wp2_with fail; with_reducible refine (weights_any r q a len cap xs fa fl fc x w1 HQ.out HR1.out HP1.out HL.out hcc hc HNF.out).mono ?_)
    rintro e w2 ⟨v, c, rfl, hb2, hcs⟩
    have HB2 := Lib.hid hb2
    have HCS := Lib.hid hcs
    clear hb2 hcs cF
    go_wp2_with fail
    go_ret2
    refine ⟨v, c, rfl, HS.out ▸ (HE1.out.below HB2.out).bel, .inr (.inr ?_)⟩
    rcases HCS.out with ⟨h1, h2, h3⟩ | ⟨h1, h2, h3, h4⟩ | ⟨h1, h2, h3, h4⟩
    · exact absurd HPOS.out (by omega)
    · exact .inl ⟨h1, HL.out, h2, h3, h4⟩
    · exact .inr ⟨h1, HL.out, h2, h3, h4.base (HS.out ▸ HE1.out.base)⟩
  · have e1 : ((len : Int) != (lenb : Int)) = true := by rw [bne_iff_ne]; omega
    have HNE := Lib.hid (show xs.length ≠ lenb by rw [HL.out]; exact hn)
    clear h0 hn
    go_enter Tryz.func47, Tryz.ntmps47
    go_wp2_with fail
    clear hs
    go_ret2
    exact ⟨_, _, rfl, HS.out ▸ HE1.out.bel, .inr (.inl ⟨HPOS.out, HNE.out, rfl, rfl⟩)⟩

/-- What joining tells: a value, or why there is none. -/
def JoinPost (q : Nat) (xs : List Nat) (ny : Nat) (z : Nat) (w : World) (e : Ending) (w' : World) : Prop := ∃ (a : Option Addr) (l k : Nat) (c : Int), e = .returned (.tuple #[.agg #[.slice a l k], .int .i64 c]) ∧ Below w.heap.size w w' ∧
  ((xs.length = 0 ∧ c = 10 ∧ NatS w' a l 0) ∨ (0 < xs.length ∧ xs.length ≠ ny ∧ c = 1 ∧ NatS w' a l 0) ∨ (0 < xs.length ∧ xs.length = ny ∧ ¬ Dis q xs ∧ c = 11 ∧ NatS w' a l 0) ∨ (0 < xs.length ∧ xs.length = ny ∧ Dis q xs ∧ c = 0 ∧ NatS w' a l z))

theorem GE.retE {fn : Func} {p t : Tmp} {tmps : Array Value} {w wr : World} {s i k n : Nat} {L : List Itm} {F : List (World → Prop)} {c : Int} {D : Prop} {q : Nat} {xs : List Nat} {ny z : Nat} (h : GE w wr s L F) (hs : s = w.heap.size) (hi : L[i]? = some (boxI k n))
    (hr : fn.results = #[.cell p 36, .tmp t]) (hp : tmps.getD p undef = .pointer (some ⟨k, 0, none⟩)) (ht : tmps.getD t undef = .int .i64 c) (hd : D)
    (hD : D → ∀ (a : Option Addr) (l : Nat), NatS wr a l n → ((xs.length = 0 ∧ c = 10 ∧ NatS wr a l 0) ∨ (0 < xs.length ∧ xs.length ≠ ny ∧ c = 1 ∧ NatS wr a l 0) ∨ (0 < xs.length ∧ xs.length = ny ∧ ¬ Dis q xs ∧ c = 11 ∧ NatS wr a l 0) ∨ (0 < xs.length ∧ xs.length = ny ∧ Dis q xs ∧ c = 0 ∧ NatS wr a l z))) :
    bodyPost Tryz.prog fn (JoinPost q xs ny z w) .ret { tmps, defers := [] } wr := by
  obtain ⟨a, l, k', hB, hN⟩ := h.nb i hi
  exact ret_nat_tmp hr hp ht hB ⟨a, l, k', c, rfl, hs ▸ h.bel, hD hd a l hN⟩

set_option maxRecDepth 100000 in
set_option maxHeartbeats 4000000 in
theorem join_any (r q : Nat) (a : Option Addr) (len cap : Nat) (xs : List Nat) (b : Option Addr) (lenb capb : Nat) (ys : List Nat) (xa : Option Addr) (xl xc x : Nat) (w : World) (hq : Prime q) (hr : RingAt w r q) (h : NatsAt w a xs) (hl : xs.length = len) (hcc : (len : Int) ≤ cap) (hc : (len : Int) ≤ 10000)
    (h' : NatsAt w b ys) (hl' : ys.length = lenb) (hcc' : (lenb : Int) ≤ capb) (hx : NatS w xa xl x) :
    Calls Tryz.prog 11 #[.pointer (some ⟨r, 0, none⟩), .slice a len cap, .slice b lenb capb, .agg #[.slice xa xl xc]] w (JoinPost q xs lenb (wsum q ys (wts q xs x) xs.length) w) := by
  obtain ⟨s, hs⟩ : ∃ s, s = w.heap.size := ⟨_, rfl⟩
  have hbA := (Below.refl _ w).alloc (Nat.le_refl _) (Obj.cells #[Value.slice xa xl xc] 36)
  have hbB : BB w ((w.alloc (Obj.cells #[Value.slice xa xl xc] 36)).alloc (Obj.cells #[Value.slice none 0 0] 36)) := BB.alloc hbA
  have HE1 := Lib.hid (((GE.init w s hs).alloc s hs hx (c := xc)).alloc (s + 1) (by rw [hs]; simp) (natS_nil _) (c := 0))
  have HL := Lib.hid hl
  have HL' := Lib.hid hl'
  have HS := Lib.hid hs
  have HQ := Lib.hid hq
  have HR1 := Lib.hid (hr.below hbB)
  have HP1 := Lib.hid (h.below hbB)
  have HX1 := Lib.hid (hx.below hbB)
  have HY1 := Lib.hid (h'.below hbB)
  clear hr h h' hl hl' hx hbA hbB hq
  go_enter Tryz.func11, Tryz.ntmps11
  go_wp2_with fail
  rw [← hs]
  clear hs
  obtain ⟨fa, fl, fc, cF, _, NF⟩ := HE1.out.box 0 rfl
  have HNF := Lib.hid NF
  clear NF
  generalize (w.alloc (Obj.cells #[Value.slice xa xl xc] 36)).alloc (Obj.cells #[Value.slice none 0 0] 36) = w1 at HE1 HR1 HP1 HX1 HY1 cF HNF ⊢
  first
    | (with_reducible refine (both_any r q a len cap xs b lenb capb xa xl xc x w1 HQ.out HR1.out HP1.out HL.out hcc hc HX1.out).mono ?_)
    | (go_wp2_with fail; with_reducible refine (both_any r q a len cap xs b lenb capb fa fl fc x w1 HQ.out HR1.out HP1.out HL.out hcc hc HNF.out).mono ?_)
  rintro e w2 ⟨v, c, rfl, hb2, hcs⟩
  have HE2 := Lib.hid (HE1.out.below hb2)
  have HR2 := Lib.hid (HR1.out.below hb2)
  have HY2 := Lib.hid (HY1.out.below hb2)
  obtain ⟨_, _, _, c1, f1, _⟩ := HE2.out.box 1 rfl
  clear HR1 HP1 HY1 cF HNF
  rcases hcs with ⟨h0, rfl, rfl⟩ | ⟨h0, h1, rfl, rfl⟩ | ⟨h0, h1, h2, rfl, rfl⟩ | ⟨h0, h1, h2, rfl, hrow⟩
  · have HC := Lib.hid h0
    clear h0 hb2
    go_wp2_with fail
    exact (HE2.out.set 1 rfl (natS_nil w2) (c := 0)).retE HS.out (i := 1) rfl rfl rfl rfl HC.out (fun h a l hn => .inl ⟨h, rfl, hn⟩)
  · have HC := Lib.hid (And.intro h0 h1)
    clear h0 h1 hb2
    go_wp2_with fail
    exact (HE2.out.set 1 rfl (natS_nil w2) (c := 0)).retE HS.out (i := 1) rfl rfl rfl rfl HC.out (fun h a l hn => .inr (.inl ⟨h.1, h.2, rfl, hn⟩))
  · have HC := Lib.hid (And.intro h0 (And.intro h1 h2))
    clear h0 h1 h2 hb2
    go_wp2_with fail
    exact (HE2.out.set 1 rfl (natS_nil w2) (c := 0)).retE HS.out (i := 1) rfl rfl rfl rfl HC.out (fun h a l hn => .inr (.inr (.inl ⟨h.1, h.2.1, h.2.2, rfl, hn⟩)))
  · have HC := Lib.hid (And.intro h0 (And.intro h1 h2))
    obtain ⟨wa, wc', rfl, hw1, _, hat, _⟩ := hrow.form
    have HW := Lib.hid hat
    have hwl : (wts q xs x).length = lenb := by rw [wts_length]; exact h1
    have hlen : xs.length = lenb := h1
    have HWL := Lib.hid hwl
    have HLEN := Lib.hid hlen
    have hlc : (lenb : Int) ≤ 10000 := by have := HL.out; omega
    rw [hwl]
    rw [hlen]
    clear h0 h1 h2 hb2 hrow hat hwl hw1 hlen
    go_wp2_with fail
    refine (weighed_field r q b lenb capb ys wa wc' (wts q xs x) none 0 0 w2 HR2.out HY2.out HL'.out hcc' hlc HW.out HWL.out (natS_nil _)).mono ?_
    rintro e w3 ⟨za, zl, zc, rfl, hz, hb3⟩
    have HE3 := Lib.hid (HE2.out.below hb3)
    have HZ3 := Lib.hid hz
    clear hz hb3 c1 f1
    obtain ⟨_, _, _, c1, f1, _⟩ := HE3.out.box 1 rfl
    go_wp2_with fail
    exact (HE3.out.set 1 rfl HZ3.out (c := zc)).retE HS.out (i := 1) rfl rfl rfl rfl HC.out (fun h a l hn => .inr (.inr (.inr ⟨h.1, h.2.1, h.2.2, rfl, (by rw [HLEN.out]; exact hn)⟩)))

set_option maxRecDepth 100000 in
set_option maxHeartbeats 4000000 in
theorem joinexp_any (g P Q G H sz : Nat) (a : Option Addr) (len cap : Nat) (xs : List Nat) (b : Option Addr) (lenb capb : Nat) (ys : List Nat) (xa : Option Addr) (xl xc x : Nat) (w : World) (hq : Prime Q) (hr : GroupAt w g P Q G H sz) (h : NatsAt w a xs) (hl : xs.length = len) (hcc : (len : Int) ≤ cap) (hc : (len : Int) ≤ 10000)
    (h' : NatsAt w b ys) (hl' : ys.length = lenb) (hcc' : (lenb : Int) ≤ capb) (hx : NatS w xa xl x) :
    Calls Tryz.prog 14 #[.pointer (some ⟨g, 0, none⟩), .slice a len cap, .slice b lenb capb, .agg #[.slice xa xl xc]] w (JoinPost Q xs lenb (wprod P ys (wts Q xs x) xs.length) w) := by
  obtain ⟨s, hs⟩ : ∃ s, s = w.heap.size := ⟨_, rfl⟩
  have hbA := (Below.refl _ w).alloc (Nat.le_refl _) (Obj.cells #[Value.slice xa xl xc] 36)
  have hbB : BB w ((w.alloc (Obj.cells #[Value.slice xa xl xc] 36)).alloc (Obj.cells #[Value.slice none 0 0] 36)) := BB.alloc hbA
  have HE1 := Lib.hid (((GE.init w s hs).alloc s hs hx (c := xc)).alloc (s + 1) (by rw [hs]; simp) (natS_nil _) (c := 0))
  have HL := Lib.hid hl
  have HL' := Lib.hid hl'
  have HS := Lib.hid hs
  have HQ := Lib.hid hq
  have HR1 := Lib.hid (hr.below hbB)
  have HP1 := Lib.hid (h.below hbB)
  have HX1 := Lib.hid (hx.below hbB)
  have HY1 := Lib.hid (h'.below hbB)
  clear hr h h' hl hl' hx hbA hbB hq
  go_enter Tryz.func14, Tryz.ntmps14
  go_wp2_with fail
  rw [← hs]
  clear hs
  obtain ⟨fa, fl, fc, gF, NF⟩ := HE1.out.get 0 rfl
  have HNF := Lib.hid NF
  clear NF
  generalize (w.alloc (Obj.cells #[Value.slice xa xl xc] 36)).alloc (Obj.cells #[Value.slice none 0 0] 36) = w1 at HE1 HR1 HP1 HX1 HY1 gF HNF ⊢
  go_region_held3 (fun w' => BB w1 w') (first | assumption | exact BB.drew (BB.refl _))
    (first
      | (go_at_call 47; refine (both_any rq Q a len cap xs b lenb capb fa fl fc x w2 HQ.out HQ2.out (HP1.out.below hbb2) HL.out hcc hc (HNF.out.below hbb2)).mono ?_; rintro e w3 ⟨v, c, rfl, hb3, hcs⟩; have hbb3 : BB w1 w3 := BB.step hbb2 hb3; have HCS := Lib.hid hcs; clear hb3 hcs)
      | (go_at_call 12; refine (gfield_any g P Q G H sz w1.drew HR1.out.drew).mono ?_; rintro e w2 ⟨rq, rfl, hq, hb2⟩; have hbb2 : BB w1 w2 := BB.step (BB.drew (BB.refl w1)) hb2; have HQ2 := Lib.hid hq; clear hq hb2))
  have HE3 := Lib.hid (HE1.out.below hbb3)
  have HR3 := Lib.hid (HR1.out.below hbb3)
  have HY3 := Lib.hid (HY1.out.below hbb3)
  obtain ⟨_, _, _, c1, f1, _⟩ := HE3.out.box 1 rfl
  have hcs := HCS.out
  clear HR1 HP1 HY1 gF HNF HQ2 hbb2 hbb3 HCS
  rcases hcs with ⟨h0, rfl, rfl⟩ | ⟨h0, h1, rfl, rfl⟩ | ⟨h0, h1, h2, rfl, rfl⟩ | ⟨h0, h1, h2, rfl, hrow⟩
  · have HC := Lib.hid h0
    clear h0
    go_wp2_with fail
    exact (HE3.out.set 1 rfl (natS_nil w3) (c := 0)).retE HS.out (i := 1) rfl rfl rfl rfl HC.out (fun h a l hn => .inl ⟨h, rfl, hn⟩)
  · have HC := Lib.hid (And.intro h0 h1)
    clear h0 h1
    go_wp2_with fail
    exact (HE3.out.set 1 rfl (natS_nil w3) (c := 0)).retE HS.out (i := 1) rfl rfl rfl rfl HC.out (fun h a l hn => .inr (.inl ⟨h.1, h.2, rfl, hn⟩))
  · have HC := Lib.hid (And.intro h0 (And.intro h1 h2))
    clear h0 h1 h2
    go_wp2_with fail
    exact (HE3.out.set 1 rfl (natS_nil w3) (c := 0)).retE HS.out (i := 1) rfl rfl rfl rfl HC.out (fun h a l hn => .inr (.inr (.inl ⟨h.1, h.2.1, h.2.2, rfl, hn⟩)))
  · have HC := Lib.hid (And.intro h0 (And.intro h1 h2))
    obtain ⟨wa, wc', rfl, hw1, _, hat, _⟩ := hrow.form
    have HW := Lib.hid hat
    have hwl : (wts Q xs x).length = lenb := by rw [wts_length]; exact h1
    have hlen : xs.length = lenb := h1
    have HWL := Lib.hid hwl
    have HLEN := Lib.hid hlen
    have hlc : (lenb : Int) ≤ 10000 := by have := HL.out; omega
    rw [hwl]
    rw [hlen]
    clear h0 h1 h2 hrow hat hwl hw1 hlen
    go_wp2_with fail
    refine (new_s 1 w3 (by decide)).mono ?_
    rintro e w4 ⟨oa, ol, oc, rfl, ho, hb4⟩
    have HE4 := Lib.hid (HE3.out.below hb4)
    have HR4 := Lib.hid (HR3.out.below hb4)
    have HY4 := Lib.hid (HY3.out.below hb4)
    have HW4 := Lib.hid (HW.out.below hb4)
    have HO4 := Lib.hid ho
    clear hb4 ho HE3 HR3 HY3 HW c1 f1
    go_wp2_with fail
    refine (weighed_exp g P Q G H sz b lenb capb ys wa wc' (wts Q xs x) oa ol oc w4 HR4.out HY4.out HL'.out hcc' hlc HW4.out HWL.out HO4.out).mono ?_
    rintro e w5 ⟨za, zl, zc, rfl, hz, hb5⟩
    have HE5 := Lib.hid (HE4.out.below hb5)
    have HZ5 := Lib.hid hz
    clear hz hb5
    obtain ⟨_, _, _, c1, f1, _⟩ := HE5.out.box 1 rfl
    go_wp2_with fail
    exact (HE5.out.set 1 rfl HZ5.out (c := zc)).retE HS.out (i := 1) rfl rfl rfl rfl HC.out (fun h a l hn => .inr (.inr (.inr ⟨h.1, h.2.1, h.2.2, rfl, (by rw [HLEN.out]; exact hn)⟩)))
end Go.Proofs.YthefednendgclaaGreat
