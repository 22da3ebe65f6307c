/-
  Pledges: bare ones; what they are at a place; whether a value opens or fits them.
-/
import Derived.Test.YthefednendgclaaPledge2
import Derived.Test.YthefednendgclaaBoxRow
set_option linter.unusedVariables false
set_option linter.unusedSimpArgs false
namespace Go.Proofs.Ythefednendgclaa
open Go Go.RowKit Sac

set_option maxRecDepth 100000 in
set_option maxHeartbeats 4000000 in
theorem pbare_any (g P Q G H sz : Nat) (a : Option Addr) (len cap : Nat) (p : List Nat) (w : World) (hr : GroupAt w g P Q G H sz) (h : NatsAt w a p) (hl : p.length = len) (hc : (len : Int) ≤ 10000) :
    Calls Try.prog 54 #[.pointer (some ⟨g, 0, none⟩), .slice a len cap] w (RetRow (p.map fun a => G ^ a % P) w) := by
  obtain ⟨s, hs⟩ : ∃ s, s = w.heap.size := ⟨_, rfl⟩
  have HE0 := Lib.hid ((GE.init w s hs).pushNil)
  have HP := Lib.hid h
  have HR := Lib.hid hr
  have HL := Lib.hid hl
  have HS := Lib.hid hs
  clear hr h hl hs
  go_enter Try.func54, Try.ntmps54
  go_wp2_with fail
  go_loopw [5, 12] (fun v iv wr => ∃ i : Nat, (i : Int) ≤ len ∧ iv = .int .i64 (i : Int) ∧ Hid (GE w wr s [rowI s v ((p.take i).map fun a => G ^ a % P)] [])) (fun _ iv _ => len - (intOf iv).toNat)
  case atStart => exact ⟨0, by omega, rfl, HE0.out⟩
  case round =>
    clear HE0
    obtain ⟨i, hi, rfl, HE⟩ := hrel
    have hb0 : BB w wr := by have := HE.out.bel; rw [HS.out] at this; exact this
    by_cases hlt : (i : Int) < len
    · have hil : i < p.length := by rw [HL.out]; omega
      obtain ⟨y, hy⟩ : ∃ y, p.getD i 0 = y := ⟨_, rfl⟩
      obtain ⟨ad, xa, xl, xc, hadr, _, cx, Nx⟩ := (HP.out.below hb0).get hil
      subst hadr
      rw [hy] at Nx
      have HTS : Hid ((p.take (i + 1)).map (fun a => G ^ a % P) = (p.take i).map (fun a => G ^ a % P) ++ [G ^ y % P]) := by
        show _ = _
        rw [List.take_succ_eq_append_getElem hil, List.map_append, ← hy, List.getD_eq_getElem?_getD, List.getElem?_eq_getElem hil]; rfl
      have HTL : Hid (((p.take i).map (fun a => G ^ a % P)).length = i) := by show _ = _; rw [List.length_map, List.length_take]; omega
      obtain ⟨Z, hZ⟩ : ∃ Z, Z = wr.heap.size := ⟨_, rfl⟩
      have HE2 := Lib.hid (HE.out.alloc Z hZ Nx (c := xc))
      obtain ⟨va, vc, rfl, hv1, hv2, _, _⟩ := (HE.out.row 0 rfl).form
      rw [HTL.out] at hv1 HE2 ⊢
      have hbb : BB w (wr.alloc (Obj.cells #[Value.slice xa xl xc] 33)) := BB.alloc hb0
      clear Nx hy hil HE hb0
      go_wp2_with fail
      rw [← hZ]
      clear hZ cx
      generalize wr.alloc (Obj.cells #[Value.slice xa xl xc] 33) = w9 at HE2 hbb ⊢
      obtain ⟨za, zl, zc, gZ, NZ⟩ := HE2.out.get 1 rfl
      have HNZ := Lib.hid NZ
      have HG9 := Lib.hid (HR.out.below hbb)
      clear NZ hbb
      go_wp2_with fail
      go_region_held3 (fun w' => w'.cell? ⟨Z, 0, none⟩ = some (.slice za zl zc)) (first | assumption | exact gZ _ (BB.drew (BB.refl _)) | exact gZ _ (BB.alloc (by assumption)))
        (first
          | (refine step_append_nat rfl (.tmp 16) (.tmp 22) rfl s _ _ rfl (HE12.out.row 0 rfl) ⟨w11.heap.size, 0, none⟩ 1 _ ta tl tc rfl cR HT12.out (by rw [HTL.out]; omega) HE12.out.base ?_; intro v' w13 hown hgr hf; have HE13 := Lib.hid (HE12.out.append 0 rfl hgr hf hown); have cS13 := (HE12.out.grownBox 0 rfl 1 rfl (by decide) hgr).trans (gZ _ (BB.alloc hbb11)); clear hown hgr hf)
          | (go_at_call 21; refine (gexp_any g _ _ _ _ _ oa za ol oc zl zc _ _ w10 (HG9.out.below hbb10) HO10.out (HNZ.out.below hbb10)).mono ?_; rintro e w11 ⟨ta, tl, tc, rfl, ht, hb11⟩; have hbb11 : BB w9 w11 := BB.step hbb10 hb11; have cZ11 := gZ _ hbb11; have hbx := (Below.refl _ w11).alloc (Nat.le_refl _) (Obj.cells #[Value.slice ta tl tc] 33); have HT12 := Lib.hid (ht.below hbx); have HE12 := Lib.hid ((HE2.out.below hbb11).below hbx); have cR := (Blk.new w11 [Value.slice ta tl tc] 33).cell 0; simp only [List.getElem?_cons_zero] at cR; clear ht hb11 hbx)
          | (go_at_call 22; refine (gg_any g _ _ _ _ _ w9.drew HG9.out.drew).mono ?_; rintro e w10 ⟨oa, ol, oc, rfl, ho, hb10⟩; have hbb10 : BB w9 w10 := BB.step (BB.drew (BB.refl w9)) hb10; have HO10 := Lib.hid ho; have cZ10 := gZ _ hbb10; clear ho hb10))
      go_wp2_with fail
      go_roundw
      case rel => exact ⟨i + 1, by omega, by go_num, HTS.out.symm ▸ HE13.out.take 1⟩
      case measure => simp [intOf]; omega
    · have hi' : i = len := by omega
      subst hi'
      rw [List.take_of_length_le (by rw [HL.out]; exact Nat.le_refl _)] at HE
      go_wp2_with fail
      go_ret
      exact ⟨_, rfl, HS.out ▸ HE.out.row 0 rfl, HS.out ▸ HE.out.bel⟩

set_option maxRecDepth 100000 in
set_option maxHeartbeats 4000000 in
theorem patx_any (g P Q G H sz : Nat) (a : Option Addr) (len cap : Nat) (p : List Nat) (xa : Option Addr) (xl xc x : Nat) (w : World) (hr : GroupAt w g P Q G H sz) (h : NatsAt w a p) (hl : p.length = len) (hc : (len : Int) ≤ 10000) (hx : NatS w xa xl x) :
    Calls Try.prog 46 #[.pointer (some ⟨g, 0, none⟩), .slice a len cap, .agg #[.slice xa xl xc]] w (RetS (evalx P p (x % Q)) w) := by
  obtain ⟨s, hs⟩ : ∃ s, s = w.heap.size := ⟨_, rfl⟩
  have hbA := (Below.refl _ w).alloc (Nat.le_refl _) (Obj.cells #[Value.slice xa xl xc] 33)
  have hbB : BB (w.alloc (Obj.cells #[Value.slice xa xl xc] 33)) ((w.alloc (Obj.cells #[Value.slice xa xl xc] 33)).alloc (Obj.cells #[Value.slice none 0 0] 33)) := BB.alloc (BB.refl _)
  have E1 := (NE.init w s hs).alloc s hs hx (c := xc)
  have HE2 := Lib.hid (E1.alloc (s + 1) (by rw [hs]; simp) (natS_nil _) (c := 0))
  have hbAB : BB w ((w.alloc (Obj.cells #[Value.slice xa xl xc] 33)).alloc (Obj.cells #[Value.slice none 0 0] 33)) := BB.step hbA hbB
  have HX := Lib.hid (hx.below hbAB)
  have HR := Lib.hid (hr.below hbAB)
  have HP := Lib.hid (h.below hbAB)
  have HL := Lib.hid hl
  have HS := Lib.hid hs
  clear hr h hl hx E1 hbA hbB hbAB
  go_enter Try.func46, Try.ntmps46
  go_wp2_with fail
  rw [← hs]
  clear hs
  generalize (w.alloc (Obj.cells #[Value.slice xa xl xc] 33)).alloc (Obj.cells #[Value.slice none 0 0] 33) = w1 at HE2 HX HR HP ⊢
  refine (evalexp_any g P Q G H sz a len cap p xa xl xc x w1 HR.out HP.out HL.out hc HX.out).mono ?_
  rintro e w3 ⟨za, zl, zc, rfl, hz, hb3⟩
  have HE4 := Lib.hid (HE2.out.below hb3)
  have HZ := Lib.hid hz
  obtain ⟨_, _, _, c1, f1, _⟩ := HE4.out.box 1 rfl
  clear hz hb3
  go_wp2_with fail
  exact (HE4.out.set 1 rfl HZ.out (c := zc)).ret HS.out (i := 1) rfl rfl rfl
end Go.Proofs.Ythefednendgclaa
