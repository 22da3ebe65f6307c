/-
  What goes through values: sums of values, each scaled by its weight, in the field and in the exponent.
-/
import Derived.Test.YthefednendgclaaCurve2
import Derived.Test.YthefednendgclaaInvF
import Derived.Test.YthefednendgclaaPlainB
set_option linter.unusedVariables false
set_option linter.unusedSimpArgs false
namespace Go.Proofs.Ythefednendgclaa
open Go Go.RowKit Sac NT
def tabWF (v0 : Value) (v1 : Value) (v2 : Value) (v3 : Value) (v4 : Value) (v5 : Value) (v6 : Value) (v7 : Value) (n8 : Nat) (n9 : Nat) (last : Fk KpN) : List (Fk KpN) := [.val v0, .val v1, .val v2, .val v3, .val v4, .val v5, .val v6, .val v7, Fk.nat (fun _ _ h => h) n8, Fk.nat (fun _ _ h => h) n9, last]
def dstWF : List (Option Tmp) := [some 22, some 23, some 24, some 25, some 26, some 27, some 28, some 29, some 30, some 31, none]
def preWF : List (List Nat) := [[], [], [], [], [], [], [4, 5], [4, 5, 6], [2, 3, 4, 5, 6, 7], [0, 1, 2, 3, 4, 5, 6, 7, 8], [0, 1, 2, 3, 4, 5, 6, 7, 8, 9]]
def maskWF : List Bool := [false, false, false, false, false, false, false, false, false, false, false, false, false, false, false, false, false, false, false, false, false, false, true, true, true, true, true, true, true, true, true, true, false, false]

set_option maxRecDepth 100000 in
set_option maxHeartbeats 4000000 in
theorem weighed_field (r q : Nat) (a : Option Addr) (len cap : Nat) (ys : List Nat) (wa : Option Addr) (wcap : Nat) (ws : List Nat) (na : Option Addr) (nl nc : Nat) (w : World) (hr : RingAt w r q) (h : NatsAt w a ys) (hl : ys.length = len) (hcc : (len : Int) ≤ cap) (hc : (len : Int) ≤ 10000) (hw : NatsAt w wa ws) (hwl : ws.length = len) (hn : NatS w na nl 0) :
    Calls Try.prog 111 #[.slice a len cap, .slice wa len wcap, .agg #[.slice na nl nc], .func (.func 29) #[.pointer (some ⟨r, 0, none⟩)] #[], .func (.func 27) #[.pointer (some ⟨r, 0, none⟩)] #[]] w (RetS (wsum q ys ws len) w) := by
  obtain ⟨s, hs⟩ : ∃ s, s = w.heap.size := ⟨_, rfl⟩
  have hbA := (Below.refl _ w).alloc (Nat.le_refl _) (Obj.cells #[Value.slice na nl nc] 33)
  have hbB : BB (w.alloc (Obj.cells #[Value.slice na nl nc] 33)) ((w.alloc (Obj.cells #[Value.slice na nl nc] 33)).alloc (Obj.cells #[Value.slice none 0 0] 33)) := BB.alloc (BB.refl _)
  have E1 := (GE.init w s hs).alloc s hs hn (c := nc)
  have E2 := E1.alloc (s + 1) (by rw [hs]; simp) (natS_nil _) (c := 0)
  have HE4 := Lib.hid (E2.alloc (s + 1 + 1) (by rw [hs]; simp) ((hn.below hbA).below hbB) (c := nc))
  have HR := Lib.hid hr
  have HP := Lib.hid h
  have HL := Lib.hid hl
  have HW := Lib.hid hw
  have HWL := Lib.hid hwl
  have HS := Lib.hid hs
  clear hr h hl hn hw hwl E1 E2 hbA hbB
  go_enter Try.func111, Try.ntmps111
  go_wp2_with fail
  rw [← hs]
  clear hs
  generalize ((w.alloc (Obj.cells #[Value.slice na nl nc] 33)).alloc (Obj.cells #[Value.slice none 0 0] 33)).alloc (Obj.cells #[Value.slice na nl nc] 33) = w1 at HE4 ⊢
  go_loopw [17] (fun iv wr => ∃ i : Nat, (i : Int) ≤ len ∧ iv = .int .i64 (i : Int) ∧ Hid (GE w wr s [boxI s 0, boxI (s + 1) 0, boxI (s + 1 + 1) (wsum q ys ws i)] [])) (fun iv _ => len - (intOf iv).toNat)
  case atStart => exact ⟨0, by omega, rfl, HE4.out⟩
  case round =>
    clear HE4
    obtain ⟨i, hi, rfl, HE⟩ := hrel
    have hb0 : BB w wr := by have := HE.out.bel; rw [HS.out] at this; exact this
    by_cases hlt : (i : Int) < len
    · have hil : i < ys.length := by rw [HL.out]; omega
      have hiw : i < ws.length := by rw [HWL.out]; omega
      obtain ⟨y, hy⟩ : ∃ y, ys.getD i 0 = y := ⟨_, rfl⟩
      obtain ⟨v, hv⟩ : ∃ v, ws.getD i 0 = v := ⟨_, rfl⟩
      obtain ⟨o, ho⟩ : ∃ o, wsum q ys ws i = o := ⟨_, rfl⟩
      obtain ⟨ad, ya, yl, yc, hadr, _, cy, Ny⟩ := (HP.out.below hb0).get hil
      subst hadr
      obtain ⟨wad, va, vl, vc, hadr, _, cw, Nv⟩ := (HW.out.below hb0).get hiw
      subst hadr
      rw [hy] at Ny
      rw [hv] at Nv
      rw [ho] at HE
      have HY := Lib.hid hy
      have HV := Lib.hid hv
      have HO := Lib.hid ho
      have hcap : (i : Int) ≤ cap := by omega
      obtain ⟨Z, hZ⟩ : ∃ Z, Z = wr.heap.size := ⟨_, rfl⟩
      have hbZ := (Below.refl _ wr).alloc (Nat.le_refl _) (Obj.cells #[Value.slice ya yl yc] 33)
      have HE2 := Lib.hid (HE.out.alloc Z hZ Ny (c := yc))
      have HR2 := Lib.hid ((HR.out.below hb0).below hbZ)
      have HV2 := Lib.hid (Nv.below hbZ)
      have gW0 : ∀ w', BB (wr.alloc (Obj.cells #[Value.slice ya yl yc] 33)) w' → w'.cell? (wad.add i) = some (.slice va vl vc) := fun w' h => ((BB.step hbZ h).cell (World.block_lt_of_cell? _ _ cw)).trans cw
      clear hil hiw hy hv ho HE Ny Nv hbZ hb0
      go_wp2_with fail
      rw [← hZ]
      clear hZ cy cw
      generalize wr.alloc (Obj.cells #[Value.slice ya yl yc] 33) = w2 at HE2 HR2 HV2 gW0 ⊢
      obtain ⟨oa, ol, oc, gO, No⟩ := HE2.out.get 2 rfl
      obtain ⟨ya, yl, yc, gY, Ny⟩ := HE2.out.get 3 rfl
      have gW := gW0
      have HNo := Lib.hid No
      have HNy := Lib.hid Ny
      have bi0 : (0 : Int) ≤ (i : Int) := by omega
      clear gW0 No Ny
      refine wp_region_mix (fun l w' => l 10 = false → BB w2 w') (GF (tabWF (.func (.func 27) #[.pointer (some ⟨r, 0, none⟩)] #[]) (.agg #[.slice oa ol oc]) (.func (.func 29) #[.pointer (some ⟨r, 0, none⟩)] #[]) (.agg #[.slice ya yl yc]) (.slice (some wad) len wcap) (.int .i64 (i : Int)) (.pointer (some (wad.add i))) (.agg #[.slice va vl vc]) ((y * v % q)) (((o + y * v % q) % q)) (Fk.rel (fun _ w' => GE w w' s [boxI s 0, boxI (s + 1) 0, boxI (s + 1 + 1) ((o + y * v % q) % q), boxI Z y] []) (fun _ _ _ hb h => h.below hb)))) maskWF dstWF preWF (by kernel_rfl) (by kernel_rfl) rfl (by kernel_rfl) (by kernel_rfl) (by kernel_rfl) (by kernel_rfl) (fun _ => BB.drew (BB.refl _)) ?_ ?_
      · refine StepsM.cons (fun l g' wu hB hl hn hp K hK => ?_) ?_
        · simp only [mkM, maskWF, mixM, Nat.reduceAdd] at hK ⊢; simp only [Act.put, List.setIfInBounds_toArray, List.set_cons_zero, List.set_cons_succ] at hK; go_simp; exact hK.out _ _ (fun h => hB (by simpa [setL] using h)) GF.same rfl
        refine StepsM.cons (fun l g' wu hB hl hn hp K hK => ?_) ?_
        · have hbb := hB (hn 10 (by decide)); have hc := gO _ hbb; simp only [mkM, maskWF, mixM, Nat.reduceAdd] at hK ⊢; simp only [Act.put, List.setIfInBounds_toArray, List.set_cons_zero, List.set_cons_succ] at hK; go_simp; exact hK.out _ _ (fun h => hB (by simpa [setL] using h)) GF.same rfl
        refine StepsM.cons (fun l g' wu hB hl hn hp K hK => ?_) ?_
        · simp only [mkM, maskWF, mixM, Nat.reduceAdd] at hK ⊢; simp only [Act.put, List.setIfInBounds_toArray, List.set_cons_zero, List.set_cons_succ] at hK; go_simp; exact hK.out _ _ (fun h => hB (by simpa [setL] using h)) GF.same rfl
        refine StepsM.cons (fun l g' wu hB hl hn hp K hK => ?_) ?_
        · have hbb := hB (hn 10 (by decide)); have hc := gY _ hbb; simp only [mkM, maskWF, mixM, Nat.reduceAdd] at hK ⊢; simp only [Act.put, List.setIfInBounds_toArray, List.set_cons_zero, List.set_cons_succ] at hK; go_simp; exact hK.out _ _ (fun h => hB (by simpa [setL] using h)) GF.same rfl
        refine StepsM.cons (fun l g' wu hB hl hn hp K hK => ?_) ?_
        · simp only [mkM, maskWF, mixM, Nat.reduceAdd] at hK ⊢; simp only [Act.put, List.setIfInBounds_toArray, List.set_cons_zero, List.set_cons_succ] at hK; go_simp; exact hK.out _ _ (fun h => hB (by simpa [setL] using h)) GF.same rfl
        refine StepsM.cons (fun l g' wu hB hl hn hp K hK => ?_) ?_
        · simp only [mkM, maskWF, mixM, Nat.reduceAdd] at hK ⊢; simp only [Act.put, List.setIfInBounds_toArray, List.set_cons_zero, List.set_cons_succ] at hK; go_simp; exact hK.out _ _ (fun h => hB (by simpa [setL] using h)) GF.same rfl
        refine StepsM.cons (fun l g' wu hB hl hn hp K hK => ?_) ?_
        · have e4 : g' 26 = .slice (some wad) len wcap := (hp 4 (by decide)).2; have e5 : g' 27 = .int .i64 (i : Int) := (hp 5 (by decide)).2; simp only [mkM, maskWF, mixM, Nat.reduceAdd, e4, e5] at hK ⊢; clear e4 e5; simp only [Act.put, List.setIfInBounds_toArray, List.set_cons_zero, List.set_cons_succ] at hK; go_simp; exact hK.out _ _ (fun h => hB (by simpa [setL] using h)) GF.same rfl
        refine StepsM.cons (fun l g' wu hB hl hn hp K hK => ?_) ?_
        · have hbb := hB (hn 10 (by decide)); have e6 : g' 28 = .pointer (some (wad.add i)) := (hp 6 (by decide)).2; have hc := gW _ hbb; simp only [mkM, maskWF, mixM, Nat.reduceAdd, e6] at hK ⊢; clear e6; simp only [Act.put, List.setIfInBounds_toArray, List.set_cons_zero, List.set_cons_succ] at hK; go_simp; exact hK.out _ _ (fun h => hB (by simpa [setL] using h)) GF.same rfl
        refine StepsM.cons (fun l g' wu hB hl hn hp K hK => ?_) ?_
        · have hbb := hB (hn 10 (by decide)); have e2 : g' 24 = .func (.func 29) #[.pointer (some ⟨r, 0, none⟩)] #[] := (hp 2 (by decide)).2; have e3 : g' 25 = .agg #[.slice ya yl yc] := (hp 3 (by decide)).2; have e7 : g' 29 = .agg #[.slice va vl vc] := (hp 7 (by decide)).2; simp only [mkM, maskWF, mixM, Nat.reduceAdd, e2, e3, e7] at hK ⊢; clear e2 e3 e7; simp only [Act.put, List.setIfInBounds_toArray, List.set_cons_zero, List.set_cons_succ] at hK; go_simp; go_at_call 29; refine (rmul_any r q ya va yl yc vl vc y v _ (HR2.out.below hbb) (HNy.out.below hbb) (HV2.out.below hbb)).mono ?_; rintro e w7 ⟨ta, tl, tc, rfl, hx, hb⟩; go_wp2_with fail; exact hK.out _ _ (fun _ => BB.step hbb hb) (GF.below hb) ⟨ta, tl, tc, rfl, hx⟩
        refine StepsM.cons (fun l g' wu hB hl hn hp K hK => ?_) ?_
        · have hbb := hB (hn 10 (by decide)); have e0 : g' 22 = .func (.func 27) #[.pointer (some ⟨r, 0, none⟩)] #[] := (hp 0 (by decide)).2; have e1 : g' 23 = .agg #[.slice oa ol oc] := (hp 1 (by decide)).2; obtain ⟨x8, l8, c8, e8, h8⟩ := (hp 8 (by decide)).2; have e8 : g' 30 = .agg #[.slice x8 l8 c8] := e8; simp only [mkM, maskWF, mixM, Nat.reduceAdd, e0, e1, e8] at hK ⊢; clear e0 e1 e8; simp only [Act.put, List.setIfInBounds_toArray, List.set_cons_zero, List.set_cons_succ] at hK; go_simp; go_at_call 27; refine (radd_any r q oa x8 ol oc l8 c8 o (y * v % q) _ (HR2.out.below hbb) (HNo.out.below hbb) h8).mono ?_; rintro e w7 ⟨ta, tl, tc, rfl, hx, hb⟩; go_wp2_with fail; exact hK.out _ _ (fun _ => BB.step hbb hb) (GF.below hb) ⟨ta, tl, tc, rfl, hx⟩
        refine StepsM.cons (fun l g' wu hB hl hn hp K hK => ?_) ?_
        · have hbb := hB hl; obtain ⟨x9, l9, c9, e9, h9⟩ := (hp 9 (by decide)).2; have e9 : g' 31 = .agg #[.slice x9 l9 c9] := e9; obtain ⟨_, _, _, c9c, f9, _⟩ := (HE2.out.below hbb).box 2 rfl; obtain ⟨_, _, _, hBk, _⟩ := (HE2.out.below hbb).nb 2 rfl; have hBk := Lib.hid hBk; have hE9 := Lib.hid ((HE2.out.below hbb).set 2 rfl h9 (c := c9)); simp only [mkM, maskWF, mixM, Nat.reduceAdd, e9] at hK ⊢; clear e9; simp only [Act.put, List.setIfInBounds_toArray, List.set_cons_zero, List.set_cons_succ] at hK; go_simp; exact hK.out undef _ (fun h => by simp [setL] at h) (GF.kept rfl (fun _ _ _ hn => hn.set hBk.out 0 _)) (hE9.out)
        exact StepsM.nil
      · intro l g' wu hall hB hG
        have hE : GE w wu s [boxI s 0, boxI (s + 1) 0, boxI (s + 1 + 1) ((o + y * v % q) % q), boxI Z y] [] := hG 10 (by decide)
        have HE9 := Lib.hid hE
        simp only [mkM, maskWF, mixM, Nat.reduceAdd]
        clear hG hB hall hE
        go_wp2_with fail
        go_roundw
        case rel => exact ⟨i + 1, by omega, by go_num, (by have := HE9.out.take 3; rw [← HY.out, ← HV.out, ← HO.out] at this; exact this)⟩
        case measure => simp [intOf]; omega
    · have hi' : i = len := by omega
      subst hi'
      obtain ⟨oa, ol, oc, co, _, No⟩ := HE.out.box 2 rfl
      obtain ⟨_, _, _, cr, fr, _⟩ := HE.out.box 1 rfl
      have HNo := Lib.hid No
      clear No hb0
      go_wp2_with fail
      exact (HE.out.set 1 rfl HNo.out (c := oc)).ret HS.out (i := 1) rfl rfl rfl

def tabWE (v0 : Value) (v1 : Value) (v2 : Value) (v3 : Value) (v4 : Value) (v5 : Value) (v6 : Value) (v7 : Value) (n8 : Nat) (n9 : Nat) (last : Fk KpN) : List (Fk KpN) := [.val v0, .val v1, .val v2, .val v3, .val v4, .val v5, .val v6, .val v7, Fk.nat (fun _ _ h => h) n8, Fk.nat (fun _ _ h => h) n9, last]
def dstWE : List (Option Tmp) := [some 22, some 23, some 24, some 25, some 26, some 27, some 28, some 29, some 30, some 31, none]
def preWE : List (List Nat) := [[], [], [], [], [], [], [4, 5], [4, 5, 6], [2, 3, 4, 5, 6, 7], [0, 1, 2, 3, 4, 5, 6, 7, 8], [0, 1, 2, 3, 4, 5, 6, 7, 8, 9]]
def maskWE : List Bool := [false, false, false, false, false, false, false, false, false, false, false, false, false, false, false, false, false, false, false, false, false, false, true, true, true, true, true, true, true, true, true, true, false, false]

set_option maxRecDepth 100000 in
set_option maxHeartbeats 4000000 in
theorem weighed_exp (g P Q G H sz : Nat) (a : Option Addr) (len cap : Nat) (ys : List Nat) (wa : Option Addr) (wcap : Nat) (ws : List Nat) (na : Option Addr) (nl nc : Nat) (w : World) (hr : GroupAt w g P Q G H sz) (h : NatsAt w a ys) (hl : ys.length = len) (hcc : (len : Int) ≤ cap) (hc : (len : Int) ≤ 10000) (hw : NatsAt w wa ws) (hwl : ws.length = len) (hn : NatS w na nl 1) :
    Calls Try.prog 111 #[.slice a len cap, .slice wa len wcap, .agg #[.slice na nl nc], .func (.func 21) #[.pointer (some ⟨g, 0, none⟩)] #[], .func (.func 87) #[.pointer (some ⟨g, 0, none⟩)] #[]] w (RetS (wprod P ys ws len) w) := by
  obtain ⟨s, hs⟩ : ∃ s, s = w.heap.size := ⟨_, rfl⟩
  have hbA := (Below.refl _ w).alloc (Nat.le_refl _) (Obj.cells #[Value.slice na nl nc] 33)
  have hbB : BB (w.alloc (Obj.cells #[Value.slice na nl nc] 33)) ((w.alloc (Obj.cells #[Value.slice na nl nc] 33)).alloc (Obj.cells #[Value.slice none 0 0] 33)) := BB.alloc (BB.refl _)
  have E1 := (GE.init w s hs).alloc s hs hn (c := nc)
  have E2 := E1.alloc (s + 1) (by rw [hs]; simp) (natS_nil _) (c := 0)
  have HE4 := Lib.hid (E2.alloc (s + 1 + 1) (by rw [hs]; simp) ((hn.below hbA).below hbB) (c := nc))
  have HR := Lib.hid hr
  have HP := Lib.hid h
  have HL := Lib.hid hl
  have HW := Lib.hid hw
  have HWL := Lib.hid hwl
  have HS := Lib.hid hs
  clear hr h hl hn hw hwl E1 E2 hbA hbB
  go_enter Try.func111, Try.ntmps111
  go_wp2_with fail
  rw [← hs]
  clear hs
  generalize ((w.alloc (Obj.cells #[Value.slice na nl nc] 33)).alloc (Obj.cells #[Value.slice none 0 0] 33)).alloc (Obj.cells #[Value.slice na nl nc] 33) = w1 at HE4 ⊢
  go_loopw [17] (fun iv wr => ∃ i : Nat, (i : Int) ≤ len ∧ iv = .int .i64 (i : Int) ∧ Hid (GE w wr s [boxI s 1, boxI (s + 1) 0, boxI (s + 1 + 1) (wprod P ys ws i)] [])) (fun iv _ => len - (intOf iv).toNat)
  case atStart => exact ⟨0, by omega, rfl, HE4.out⟩
  case round =>
    clear HE4
    obtain ⟨i, hi, rfl, HE⟩ := hrel
    have hb0 : BB w wr := by have := HE.out.bel; rw [HS.out] at this; exact this
    by_cases hlt : (i : Int) < len
    · have hil : i < ys.length := by rw [HL.out]; omega
      have hiw : i < ws.length := by rw [HWL.out]; omega
      obtain ⟨y, hy⟩ : ∃ y, ys.getD i 0 = y := ⟨_, rfl⟩
      obtain ⟨v, hv⟩ : ∃ v, ws.getD i 0 = v := ⟨_, rfl⟩
      obtain ⟨o, ho⟩ : ∃ o, wprod P ys ws i = o := ⟨_, rfl⟩
      obtain ⟨ad, ya, yl, yc, hadr, _, cy, Ny⟩ := (HP.out.below hb0).get hil
      subst hadr
      obtain ⟨wad, va, vl, vc, hadr, _, cw, Nv⟩ := (HW.out.below hb0).get hiw
      subst hadr
      rw [hy] at Ny
      rw [hv] at Nv
      rw [ho] at HE
      have HY := Lib.hid hy
      have HV := Lib.hid hv
      have HO := Lib.hid ho
      have hcap : (i : Int) ≤ cap := by omega
      obtain ⟨Z, hZ⟩ : ∃ Z, Z = wr.heap.size := ⟨_, rfl⟩
      have hbZ := (Below.refl _ wr).alloc (Nat.le_refl _) (Obj.cells #[Value.slice ya yl yc] 33)
      have HE2 := Lib.hid (HE.out.alloc Z hZ Ny (c := yc))
      have HR2 := Lib.hid ((HR.out.below hb0).below hbZ)
      have HV2 := Lib.hid (Nv.below hbZ)
      have gW0 : ∀ w', BB (wr.alloc (Obj.cells #[Value.slice ya yl yc] 33)) w' → w'.cell? (wad.add i) = some (.slice va vl vc) := fun w' h => ((BB.step hbZ h).cell (World.block_lt_of_cell? _ _ cw)).trans cw
      clear hil hiw hy hv ho HE Ny Nv hbZ hb0
      go_wp2_with fail
      rw [← hZ]
      clear hZ cy cw
      generalize wr.alloc (Obj.cells #[Value.slice ya yl yc] 33) = w2 at HE2 HR2 HV2 gW0 ⊢
      obtain ⟨oa, ol, oc, gO, No⟩ := HE2.out.get 2 rfl
      obtain ⟨ya, yl, yc, gY, Ny⟩ := HE2.out.get 3 rfl
      have gW := gW0
      have HNo := Lib.hid No
      have HNy := Lib.hid Ny
      have bi0 : (0 : Int) ≤ (i : Int) := by omega
      clear gW0 No Ny
      refine wp_region_mix (fun l w' => l 10 = false → BB w2 w') (GF (tabWE (.func (.func 87) #[.pointer (some ⟨g, 0, none⟩)] #[]) (.agg #[.slice oa ol oc]) (.func (.func 21) #[.pointer (some ⟨g, 0, none⟩)] #[]) (.agg #[.slice ya yl yc]) (.slice (some wad) len wcap) (.int .i64 (i : Int)) (.pointer (some (wad.add i))) (.agg #[.slice va vl vc]) ((y ^ v % P)) ((o * (y ^ v % P) % P)) (Fk.rel (fun _ w' => GE w w' s [boxI s 1, boxI (s + 1) 0, boxI (s + 1 + 1) (o * (y ^ v % P) % P), boxI Z y] []) (fun _ _ _ hb h => h.below hb)))) maskWE dstWE preWE (by kernel_rfl) (by kernel_rfl) rfl (by kernel_rfl) (by kernel_rfl) (by kernel_rfl) (by kernel_rfl) (fun _ => BB.drew (BB.refl _)) ?_ ?_
      · refine StepsM.cons (fun l g' wu hB hl hn hp K hK => ?_) ?_
        · simp only [mkM, maskWE, mixM, Nat.reduceAdd] at hK ⊢; simp only [Act.put, List.setIfInBounds_toArray, List.set_cons_zero, List.set_cons_succ] at hK; go_simp; exact hK.out _ _ (fun h => hB (by simpa [setL] using h)) GF.same rfl
        refine StepsM.cons (fun l g' wu hB hl hn hp K hK => ?_) ?_
        · have hbb := hB (hn 10 (by decide)); have hc := gO _ hbb; simp only [mkM, maskWE, mixM, Nat.reduceAdd] at hK ⊢; simp only [Act.put, List.setIfInBounds_toArray, List.set_cons_zero, List.set_cons_succ] at hK; go_simp; exact hK.out _ _ (fun h => hB (by simpa [setL] using h)) GF.same rfl
        refine StepsM.cons (fun l g' wu hB hl hn hp K hK => ?_) ?_
        · simp only [mkM, maskWE, mixM, Nat.reduceAdd] at hK ⊢; simp only [Act.put, List.setIfInBounds_toArray, List.set_cons_zero, List.set_cons_succ] at hK; go_simp; exact hK.out _ _ (fun h => hB (by simpa [setL] using h)) GF.same rfl
        refine StepsM.cons (fun l g' wu hB hl hn hp K hK => ?_) ?_
        · have hbb := hB (hn 10 (by decide)); have hc := gY _ hbb; simp only [mkM, maskWE, mixM, Nat.reduceAdd] at hK ⊢; simp only [Act.put, List.setIfInBounds_toArray, List.set_cons_zero, List.set_cons_succ] at hK; go_simp; exact hK.out _ _ (fun h => hB (by simpa [setL] using h)) GF.same rfl
        refine StepsM.cons (fun l g' wu hB hl hn hp K hK => ?_) ?_
        · simp only [mkM, maskWE, mixM, Nat.reduceAdd] at hK ⊢; simp only [Act.put, List.setIfInBounds_toArray, List.set_cons_zero, List.set_cons_succ] at hK; go_simp; exact hK.out _ _ (fun h => hB (by simpa [setL] using h)) GF.same rfl
        refine StepsM.cons (fun l g' wu hB hl hn hp K hK => ?_) ?_
        · simp only [mkM, maskWE, mixM, Nat.reduceAdd] at hK ⊢; simp only [Act.put, List.setIfInBounds_toArray, List.set_cons_zero, List.set_cons_succ] at hK; go_simp; exact hK.out _ _ (fun h => hB (by simpa [setL] using h)) GF.same rfl
        refine StepsM.cons (fun l g' wu hB hl hn hp K hK => ?_) ?_
        · have e4 : g' 26 = .slice (some wad) len wcap := (hp 4 (by decide)).2; have e5 : g' 27 = .int .i64 (i : Int) := (hp 5 (by decide)).2; simp only [mkM, maskWE, mixM, Nat.reduceAdd, e4, e5] at hK ⊢; clear e4 e5; simp only [Act.put, List.setIfInBounds_toArray, List.set_cons_zero, List.set_cons_succ] at hK; go_simp; exact hK.out _ _ (fun h => hB (by simpa [setL] using h)) GF.same rfl
        refine StepsM.cons (fun l g' wu hB hl hn hp K hK => ?_) ?_
        · have hbb := hB (hn 10 (by decide)); have e6 : g' 28 = .pointer (some (wad.add i)) := (hp 6 (by decide)).2; have hc := gW _ hbb; simp only [mkM, maskWE, mixM, Nat.reduceAdd, e6] at hK ⊢; clear e6; simp only [Act.put, List.setIfInBounds_toArray, List.set_cons_zero, List.set_cons_succ] at hK; go_simp; exact hK.out _ _ (fun h => hB (by simpa [setL] using h)) GF.same rfl
        refine StepsM.cons (fun l g' wu hB hl hn hp K hK => ?_) ?_
        · have hbb := hB (hn 10 (by decide)); have e2 : g' 24 = .func (.func 21) #[.pointer (some ⟨g, 0, none⟩)] #[] := (hp 2 (by decide)).2; have e3 : g' 25 = .agg #[.slice ya yl yc] := (hp 3 (by decide)).2; have e7 : g' 29 = .agg #[.slice va vl vc] := (hp 7 (by decide)).2; simp only [mkM, maskWE, mixM, Nat.reduceAdd, e2, e3, e7] at hK ⊢; clear e2 e3 e7; simp only [Act.put, List.setIfInBounds_toArray, List.set_cons_zero, List.set_cons_succ] at hK; go_simp; go_at_call 21; refine (gexp_any g P Q G H sz ya va yl yc vl vc y v _ (HR2.out.below hbb) (HNy.out.below hbb) (HV2.out.below hbb)).mono ?_; rintro e w7 ⟨ta, tl, tc, rfl, hx, hb⟩; go_wp2_with fail; exact hK.out _ _ (fun _ => BB.step hbb hb) (GF.below hb) ⟨ta, tl, tc, rfl, hx⟩
        refine StepsM.cons (fun l g' wu hB hl hn hp K hK => ?_) ?_
        · have hbb := hB (hn 10 (by decide)); have e0 : g' 22 = .func (.func 87) #[.pointer (some ⟨g, 0, none⟩)] #[] := (hp 0 (by decide)).2; have e1 : g' 23 = .agg #[.slice oa ol oc] := (hp 1 (by decide)).2; obtain ⟨x8, l8, c8, e8, h8⟩ := (hp 8 (by decide)).2; have e8 : g' 30 = .agg #[.slice x8 l8 c8] := e8; simp only [mkM, maskWE, mixM, Nat.reduceAdd, e0, e1, e8] at hK ⊢; clear e0 e1 e8; simp only [Act.put, List.setIfInBounds_toArray, List.set_cons_zero, List.set_cons_succ] at hK; go_simp; go_at_call 87; refine (gmul_any g P Q G H sz oa x8 ol oc l8 c8 o (y ^ v % P) _ (HR2.out.below hbb) (HNo.out.below hbb) h8).mono ?_; rintro e w7 ⟨ta, tl, tc, rfl, hx, hb⟩; go_wp2_with fail; exact hK.out _ _ (fun _ => BB.step hbb hb) (GF.below hb) ⟨ta, tl, tc, rfl, hx⟩
        refine StepsM.cons (fun l g' wu hB hl hn hp K hK => ?_) ?_
        · have hbb := hB hl; obtain ⟨x9, l9, c9, e9, h9⟩ := (hp 9 (by decide)).2; have e9 : g' 31 = .agg #[.slice x9 l9 c9] := e9; obtain ⟨_, _, _, c9c, f9, _⟩ := (HE2.out.below hbb).box 2 rfl; obtain ⟨_, _, _, hBk, _⟩ := (HE2.out.below hbb).nb 2 rfl; have hBk := Lib.hid hBk; have hE9 := Lib.hid ((HE2.out.below hbb).set 2 rfl h9 (c := c9)); simp only [mkM, maskWE, mixM, Nat.reduceAdd, e9] at hK ⊢; clear e9; simp only [Act.put, List.setIfInBounds_toArray, List.set_cons_zero, List.set_cons_succ] at hK; go_simp; exact hK.out undef _ (fun h => by simp [setL] at h) (GF.kept rfl (fun _ _ _ hn => hn.set hBk.out 0 _)) (hE9.out)
        exact StepsM.nil
      · intro l g' wu hall hB hG
        have hE : GE w wu s [boxI s 1, boxI (s + 1) 0, boxI (s + 1 + 1) (o * (y ^ v % P) % P), boxI Z y] [] := hG 10 (by decide)
        have HE9 := Lib.hid hE
        simp only [mkM, maskWE, mixM, Nat.reduceAdd]
        clear hG hB hall hE
        go_wp2_with fail
        go_roundw
        case rel => exact ⟨i + 1, by omega, by go_num, (by have := HE9.out.take 3; rw [← HY.out, ← HV.out, ← HO.out] at this; exact this)⟩
        case measure => simp [intOf]; omega
    · have hi' : i = len := by omega
      subst hi'
      obtain ⟨oa, ol, oc, co, _, No⟩ := HE.out.box 2 rfl
      obtain ⟨_, _, _, cr, fr, _⟩ := HE.out.box 1 rfl
      have HNo := Lib.hid No
      clear No hb0
      go_wp2_with fail
      exact (HE.out.set 1 rfl HNo.out (c := oc)).ret HS.out (i := 1) rfl rfl rfl

end Go.Proofs.Ythefednendgclaa
