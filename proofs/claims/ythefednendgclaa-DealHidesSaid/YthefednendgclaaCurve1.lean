import Derived.Test.YthefednendgclaaNGE
import Derived.Test.YthefednendgclaaCurveG
import Derived.Deep.RegionLaw
set_option linter.unusedVariables false
set_option linter.unusedSimpArgs false
/-
  Polynomials: a coefficient, the sum.
-/
namespace Go.Proofs.Ythefednendgclaa
open Go Go.RowKit Sac

set_option maxRecDepth 100000 in
set_option maxHeartbeats 4000000 in
theorem at_any (a : Option Addr) (len cap i : Nat) (p : List Nat) (w : World) (h : NatsAt w a p) (hl : p.length = len) (hc : (len : Int) ≤ 10000) (hi : (i : Int) ≤ 100000) :
    Calls Try.prog 89 #[.slice a len cap, .int .i64 (i : Int)] w (RetS (p.getD i 0) w) := by
  have HL := Lib.hid hl
  clear hl
  by_cases hlt : (i : Int) < len
  · have hil : i < p.length := by rw [HL.out]; omega
    obtain ⟨x, hx⟩ : ∃ x, p.getD i 0 = x := ⟨_, rfl⟩
    obtain ⟨ad, xa, xl, xc, rfl, he, cx, Nx⟩ := h.get hil
    rw [hx] at Nx ⊢
    have HX := Lib.hid Nx
    have cx' : ∀ o, (w.alloc o).cell? (ad.add i) = some (.slice xa xl xc) := fun o => (World.cell?_alloc_some w _ o (by rw [cx]; rfl)).trans cx
    clear Nx he hil h hx
    go_enter Try.func89, Try.ntmps89
    go_wp2_with fail
    have hb := (Below.refl _ w).alloc (Nat.le_refl _) (Obj.cells #[Value.slice xa xl xc] 33)
    exact ret_nat rfl rfl (Blk.new w _ _) ⟨xa, xl, xc, rfl, HX.out.below hb, hb⟩
  · have hge : p.getD i 0 = 0 := by
      rw [List.getD_eq_getElem?_getD, List.getElem?_eq_none (by rw [HL.out]; omega)]; rfl
    rw [hge]
    have hd : decide ((i : Int) < (len : Int)) = false := decide_eq_false hlt
    clear h hge
    go_enter Try.func89, Try.ntmps89
    go_wp2_with fail
    have hb := (Below.refl _ w).alloc (Nat.le_refl _) (Obj.cells #[Value.slice none 0 0] 33)
    exact ret_nat rfl rfl (Blk.new w _ _) ⟨none, 0, 0, rfl, natS_nil _, hb⟩

set_option maxRecDepth 100000 in
set_option maxHeartbeats 4000000 in
theorem cadd_any (r q : Nat) (a : Option Addr) (len cap : Nat) (p : List Nat) (b : Option Addr) (lenb capb : Nat) (p' : List Nat) (w : World) (hr : RingAt w r q) (h : NatsAt w a p) (hl : p.length = len) (hc : (len : Int) ≤ 10000) (h' : NatsAt w b p') (hl' : p'.length = lenb) (hc' : (lenb : Int) ≤ 10000) :
    Calls Try.prog 26 #[.pointer (some ⟨r, 0, none⟩), .slice a len cap, .slice b lenb capb] w (RetRow (addl q p p') w) := by
  obtain ⟨s, hs⟩ : ∃ s, s = w.heap.size := ⟨_, rfl⟩
  have HE0 := Lib.hid ((GE.init w s hs).pushNil)
  have HP := Lib.hid h
  have HP' := Lib.hid h'
  have HR := Lib.hid hr
  have HL := Lib.hid hl
  have HL' := Lib.hid hl'
  have HS := Lib.hid hs
  obtain ⟨m, hm⟩ : ∃ m, m = max len lenb := ⟨_, rfl⟩
  have hmi : max (len : Int) (lenb : Int) = (m : Int) := by rw [hm]; omega
  have hm1 : (m : Int) ≤ 10000 := by omega
  have HM := Lib.hid hm
  clear hr h h' hl hl' hs hm
  go_enter Try.func26, Try.ntmps26
  go_wp2_with fail
  go_loopw [7, 16] (fun v iv wr => ∃ i : Nat, (i : Int) ≤ m ∧ iv = .int .i64 (i : Int) ∧ Hid (GE w wr s [rowI s v ((addl q p p').take i)] [])) (fun _ iv _ => m - (intOf iv).toNat)
  case atStart => exact ⟨0, by omega, rfl, HE0.out⟩
  case round =>
    clear HE0
    obtain ⟨i, hi, rfl, HE⟩ := hrel
    have hal : (addl q p p').length = m := by rw [addl_length, HL.out, HL'.out, HM.out]
    have hb0 : BB w wr := by have := HE.out.bel; rw [HS.out] at this; exact this
    by_cases hlt : (i : Int) < m
    · have hil : i < (addl q p p').length := by rw [hal]; omega
      have HTS : Hid ((addl q p p').take (i + 1) = (addl q p p').take i ++ [(p.getD i 0 + p'.getD i 0) % q]) := by
        show _ = _
        have := addl_get q p p' i (by rw [addl_length] at hil; exact hil)
        rw [List.getD_eq_getElem?_getD, List.getElem?_eq_getElem hil] at this
        rw [List.take_succ_eq_append_getElem hil, ← this]; rfl
      have HTL : Hid (((addl q p p').take i).length = i) := by show _ = _; rw [List.length_take, hal]; omega
      clear hil hal
      go_wp2_with fail
      refine (at_any a len cap i p wr (HP.out.below hb0) HL.out hc (by omega)).mono ?_
      rintro e w2 ⟨xa, xl, xc, rfl, hx, hb2⟩
      have HX2 := Lib.hid hx
      have HE2 := Lib.hid (HE.out.below hb2)
      have hbb2 : BB w w2 := BB.step hb0 hb2
      clear hx hb2
      go_wp2_with fail
      refine (at_any b lenb capb i p' w2 (HP'.out.below hbb2) HL'.out hc' (by omega)).mono ?_
      rintro e w3 ⟨ya, yl, yc, rfl, hy, hb3⟩
      have HY3 := Lib.hid hy
      have HX3 := Lib.hid (HX2.out.below hb3)
      have HE3 := Lib.hid (HE2.out.below hb3)
      have hbb3 : BB w w3 := BB.step hbb2 hb3
      clear hy hb3
      go_wp2_with fail
      refine (radd_any r q xa ya xl xc yl yc _ _ w3 (HR.out.below hbb3) HX3.out HY3.out).mono ?_
      rintro e w4 ⟨za, zl, zc, rfl, hz, hb4⟩
      have HE4 := Lib.hid (HE3.out.below hb4)
      have hbx := (Below.refl _ w4).alloc (Nat.le_refl _) (Obj.cells #[Value.slice za zl zc] 33)
      have HE5 := Lib.hid (HE4.out.below hbx)
      have HZ5 := Lib.hid (hz.below hbx)
      have cR := (Blk.new w4 [Value.slice za zl zc] 33).cell 0
      simp only [List.getElem?_cons_zero] at cR
      obtain ⟨va, vc, rfl, hv1, hv2, _, _⟩ := (HE5.out.row 0 rfl).form
      rw [HTL.out] at hv1 HE5
      rw [HTL.out]
      clear hz hb4 HE HE2 HE3 HE4 hbx hbb2 hbb3 hb0 HX2 HX3 HY3
      go_wp2_with (first | (refine wpList_append_nat _ rfl (.tmp 19) (.tmp 28) rfl s _ ((addl q p p').take i) rfl (HE5.out.row 0 rfl) ⟨w4.heap.size, 0, none⟩ 1 ((p.getD i 0 + p'.getD i 0) % q) za zl zc rfl cR HZ5.out (by rw [HTL.out]; omega) HE5.out.base ?_; intro v' w6 hown hgr hf; have HE6 := Lib.hid (HE5.out.append 0 rfl hgr hf hown); clear hown hgr hf))
      go_roundw
      case rel => exact ⟨i + 1, by omega, by go_num, HTS.out.symm ▸ HE6.out⟩
      case measure => simp [intOf]; omega
    · have hi' : i = m := by omega
      subst hi'
      rw [List.take_of_length_le (by rw [hal]; exact Nat.le_refl _)] at HE
      go_wp2_with fail
      go_ret
      exact ⟨_, rfl, HS.out ▸ HE.out.row 0 rfl, HS.out ▸ HE.out.bel⟩
end Go.Proofs.Ythefednendgclaa
/-
  Polynomials: the product.
-/
namespace Go.Proofs.Ythefednendgclaa
open Go Go.RowKit Sac

/-- make([]nat.Nat, n): a row of n zeros. -/
theorem wpList_make_nats (w : World) {ops : Array Oper} {rest : List Oper} {o : Oper} {a : Act} {Q : Exit → Act → World → Prop}
    (hg : o.guard = none) (l c : Operand) (hop : o.op = Op.makeSlice 29 l c)
    (kl kc : IntKind) (L C : Int) (n : Nat) (hl : a.eval l = .int kl L) (hc : a.eval c = .int kc C) (hL : L = (n : Int)) (hC : C = (n : Int)) (hn : n ≤ 100000)
    (hK : ∀ w', NatsOwn w' w.heap.size (.slice (some ⟨w.heap.size, 0, none⟩) n n) (List.replicate n 0) → Below w.heap.size w w' → wpList Try.prog ops Q rest (a.put o.dst (.slice (some ⟨w.heap.size, 0, none⟩) n n)) w') :
    wpList Try.prog ops Q (o :: rest) a w := by
  obtain ⟨i, hi, hz1, hz2, hz3⟩ := info_parts Try.infoNat
  refine wpList_make_full w hg l c 29 hop w.heap.size 33 i _ 1 Try.underlying29 hi hz1 hz2 kl kc L C n hl hc hL hC (by rw [hz3]; omega) (by unfold maxLen; omega) (Nat.le_refl _) ?_
  intro w' hown hgr
  refine hK w' ?_ ⟨hgr.os, hgr.tape, hgr.output, hgr.size, fun k hk => hgr.block k hk (by simp)⟩
  have e1 : (madeCells (Value.agg #[.slice none 0 0]).cells (n * 1)).toList = List.replicate n (.slice none 0 0) := by
    rw [Nat.mul_one]
    exact toList_madeCells_one (.slice none 0 0) n
  rw [e1] at hown
  refine ⟨List.replicate n (.slice none 0 0), by rw [List.length_replicate]; exact hown, fun j hj => ⟨none, 0, 0, ?_, ?_⟩⟩
  · rw [List.length_replicate] at hj
    rw [List.getElem?_replicate, if_pos hj]
  · have : (List.replicate n 0).getD j 0 = 0 := by
      rw [List.getD_eq_getElem?_getD, List.getElem?_replicate]; split <;> rfl
    rw [this]; exact natS_nil _

set_option maxRecDepth 100000 in
set_option maxHeartbeats 4000000 in
theorem cmul_any (r q : Nat) (a : Option Addr) (len cap : Nat) (p : List Nat) (b : Option Addr) (lenb capb : Nat) (p' : List Nat) (w : World) (hr : RingAt w r q) (h : NatsAt w a p) (hl : p.length = len) (hc : (len : Int) ≤ 10000) (h' : NatsAt w b p') (hl' : p'.length = lenb) (hc' : (lenb : Int) ≤ 10000) (h0 : (0 : Int) < len) (h0' : (0 : Int) < lenb) :
    Calls Try.prog 28 #[.pointer (some ⟨r, 0, none⟩), .slice a len cap, .slice b lenb capb] w (RetRow (mull q p p') w) := by
  obtain ⟨s, hs⟩ : ∃ s, s = w.heap.size := ⟨_, rfl⟩
  obtain ⟨N, hN⟩ : ∃ N, N = len + lenb - 1 := ⟨_, rfl⟩
  have HP := Lib.hid h
  have HP' := Lib.hid h'
  have HR := Lib.hid hr
  have HL := Lib.hid hl
  have HL' := Lib.hid hl'
  have HS := Lib.hid hs
  have HN := Lib.hid hN
  have e0 : ((len : Int) == 0) = false := by rw [beq_eq_false_iff_ne]; omega
  have e0' : ((lenb : Int) == 0) = false := by rw [beq_eq_false_iff_ne]; omega
  clear hr h h' hl hl' hN
  go_enter Try.func28, Try.ntmps28
  go_wp2_with first | fail | (refine wpList_make_nats _ rfl _ _ rfl _ _ _ _ N rfl rfl (by have := HN.out; omega) (by have := HN.out; omega) (by have := HN.out; omega) ?_)
  intro w1 hrow hbel
  rw [← hs] at hrow ⊢
  have HE1 := Lib.hid ((GE.init w s hs).pushRow hbel (v := .slice (some ⟨s, 0, none⟩) N N) (ns := List.replicate N 0) (by rw [← hs]; exact hrow))
  have h00 : List.replicate N 0 = mulF q p p' 0 := by rw [HN.out, ← HL.out, ← HL'.out]; rfl
  rw [h00] at HE1
  clear hrow hbel hs h00 e0 e0'
  go_wp2_with fail
  go_loopw [33] (fun iv wr => ∃ i : Nat, (i : Int) ≤ len ∧ iv = .int .i64 (i : Int) ∧ Hid (GE w wr s [rowI s (.slice (some ⟨s, 0, none⟩) N N) (mulF q p p' i)] [])) (fun iv _ => len - (intOf iv).toNat)
  case atStart => exact ⟨0, by omega, rfl, HE1.out⟩
  case round =>
    clear HE1
    obtain ⟨i, hi, rfl, HE⟩ := hrel
    have hb0 : BB w wr := by have := HE.out.bel; rw [HS.out] at this; exact this
    by_cases hlt : (i : Int) < len
    · have hil : i < p.length := by rw [HL.out]; omega
      obtain ⟨x, hx⟩ : ∃ x, p.getD i 0 = x := ⟨_, rfl⟩
      obtain ⟨ad, xa, xl, xc, hadr, _, cx, Nx⟩ := (HP.out.below hb0).get hil
      subst hadr
      rw [hx] at Nx
      have HX := Lib.hid hx
      obtain ⟨Z, hZ⟩ : ∃ Z, Z = wr.heap.size := ⟨_, rfl⟩
      have HE2 := Lib.hid (HE.out.alloc Z hZ Nx (c := xc))
      clear Nx hx hil HE
      go_wp2_with fail
      rw [← hZ]
      clear hZ cx hb0
      generalize wr.alloc (Obj.cells #[Value.slice xa xl xc] 33) = w2 at HE2 ⊢
      go_loopw [40] (fun iv wr => ∃ k : Nat, (k : Int) ≤ lenb ∧ iv = .int .i64 (k : Int) ∧ Hid (GE w wr s [rowI s (.slice (some ⟨s, 0, none⟩) N N) (rowF q x p' i (mulF q p p' i) k), boxI Z x] [])) (fun iv _ => lenb - (intOf iv).toNat)
      case atStart => exact ⟨0, by omega, rfl, HE2.out⟩
      case round =>
        clear HE2
        obtain ⟨k, hk, rfl, HE⟩ := hrel
        have hb0 : BB w wr := by have := HE.out.bel; rw [HS.out] at this; exact this
        by_cases hltk : (k : Int) < lenb
        · have hkl : k < p'.length := by rw [HL'.out]; omega
          obtain ⟨y, hy⟩ : ∃ y, p'.getD k 0 = y := ⟨_, rfl⟩
          obtain ⟨bd, ya, yl, yc, hadr, _, cy, Ny⟩ := (HP'.out.below hb0).get hkl
          subst hadr
          rw [hy] at Ny
          have HY := Lib.hid hy
          obtain ⟨Y, hY⟩ : ∃ Y, Y = wr.heap.size := ⟨_, rfl⟩
          have HE2 := Lib.hid (HE.out.alloc Y hY Ny (c := yc))
          clear Ny hy hkl HE
          go_wp2_with fail
          rw [← hY]
          clear hY cy hb0
          generalize wr.alloc (Obj.cells #[Value.slice ya yl yc] 33) = w3 at HE2 ⊢
          have hjl : i + k < (rowF q x p' i (mulF q p p' i) k).length := by rw [rowF_length, mulF_length, HL.out, HL'.out]; omega
          obtain ⟨za, zl, zc, gZ, NZ⟩ := HE2.out.get 1 rfl
          obtain ⟨ua, ul, uc, gU, NU⟩ := HE2.out.get 2 rfl
          obtain ⟨oa, ol, oc, cO, fO, NO⟩ := (HE2.out.row 0 rfl).get hjl
          have gO : ∀ w', BB w3 w' → w'.cell? ⟨s, i + k, none⟩ = some (.slice oa ol oc) := fun w' h => (h.cell (World.block_lt_of_cell? _ _ cO)).trans cO
          have gF : ∀ w', BB w3 w' → w'.frozen? ⟨s, i + k, none⟩ = false := fun w' h => (BB.frozens h _ (World.block_lt_of_cell? _ _ cO)).trans fO
          have HZS : Hid (Z ≠ s) := fun e => HE2.out.apart 0 1 _ _ rfl rfl (by decide) s rfl (by rw [← e]; rfl)
          have HYS : Hid (Y ≠ s) := fun e => HE2.out.apart 0 2 _ _ rfl rfl (by decide) s rfl (by rw [← e]; rfl)
          have HNZ := Lib.hid NZ
          have HNU := Lib.hid NU
          have HNO := Lib.hid NO
          have HJ := Lib.hid hjl
          have hb3 : BB w w3 := by have := HE2.out.bel; rw [HS.out] at this; exact this
          have HR3 := Lib.hid (HR.out.below hb3)
          obtain ⟨m, hm⟩ : ∃ m, m = i + k := ⟨_, rfl⟩
          have HM := Lib.hid hm
          rw [← hm] at gO gF
          have cO1 := gO w3.drew (BB.drew (BB.refl _))
          have hik0 : (0 : Int) ≤ (i : Int) + (k : Int) := by omega
          have hik : (i : Int) + (k : Int) < (N : Int) := by have := HN.out; omega
          have hw : IntKind.i64.wrap ((i : Int) + (k : Int)) = (i : Int) + (k : Int) := by
            have : (N : Int) ≤ 20000 := by have := HN.out; omega
            exact i64_small _ (by omega) (by omega)
          have ht : ((i : Int) + (k : Int)).toNat = m := by omega
          clear hm
          clear NZ NU NO hjl cO fO hb3
          go_wp2_with fail
          have cZ1 := gZ w3.drew (BB.drew (BB.refl _))
          have cU1 := gU w3.drew (BB.drew (BB.refl _))
          go_region_law
            (first
              | (go_simp; go_at_call 29; refine (rmul_any r q za ua zl zc ul uc _ _ w3.drew HR3.out.drew HNZ.out.drew HNU.out.drew).mono ?_; rintro e w4 ⟨ta, tl, tc, rfl, ht4, hb4⟩; have hbb4 : BB w3 w4 := BB.step (BB.drew (BB.refl w3)) hb4; have HT4 := Lib.hid ht4; have cO4 := gO _ hbb4; have hS4 : w4.cell? ⟨Z, 0, none⟩ = some (.slice za zl zc) ∧ w4.cell? ⟨Y, 0, none⟩ = some (.slice ua ul uc) := ⟨gZ _ hbb4, gU _ hbb4⟩; clear ht4 hb4)
              | (go_simp; go_at_call 27; refine (radd_any r q oa ta ol oc tl tc _ _ w4 (HR3.out.below hbb4) (HNO.out.below hbb4) HT4.out).mono ?_; rintro e w5 ⟨va, vl, vc, rfl, hv, hb5⟩; have hbb5 : BB w3 w5 := BB.step hbb4 hb5; have HV5 := Lib.hid hv; have HE5 := Lib.hid (HE2.out.below hbb5); have cO5 := gO _ hbb5; have fO5 := gF _ hbb5; have hS5 : w5.cell? ⟨Z, 0, none⟩ = some (.slice za zl zc) ∧ w5.cell? ⟨Y, 0, none⟩ = some (.slice ua ul uc) := ⟨gZ _ hbb5, gU _ hbb5⟩; have hst : ∀ v, (w5.setCell ⟨s, m, none⟩ v).cell? ⟨Z, 0, none⟩ = some (.slice za zl zc) ∧ (w5.setCell ⟨s, m, none⟩ v).cell? ⟨Y, 0, none⟩ = some (.slice ua ul uc) := fun v => ⟨(cell_other v (show Z ≠ s from HZS.out)).trans hS5.1, (cell_other v (show Y ≠ s from HYS.out)).trans hS5.2⟩; clear hv hb5))
          all_goals (
            have hj5 : m < (rowF q x p' i (mulF q p p' i) k).length := by rw [HM.out]; exact HJ.out
            have HE6 := Lib.hid (HE5.out.setRow 0 rfl hj5 HV5.out (c := vc))
            clear hj5
            go_wp2_with fail
            go_roundw
            case rel => exact ⟨k + 1, by omega, by go_num, by (have e : (rowF q x p' i (mulF q p p' i) k).set m (((rowF q x p' i (mulF q p p' i) k).getD (i + k) 0 + x * y % q) % q) = rowF q x p' i (mulF q p p' i) (k + 1) := (by rw [HM.out, ← HY.out]; rfl)); rw [← e]; exact HE6.out.take 2⟩
            case measure => simp [intOf]; omega)
        · have hk' : k = lenb := by omega
          subst hk'
          go_wp2_with fail
          go_roundw
          case rel => exact ⟨i + 1, by omega, by go_num, by have := HE.out.take 1; rw [← HX.out, ← HL'.out] at this; exact this⟩
          case measure => simp [intOf]; omega
    · have hi' : i = len := by omega
      subst hi'
      go_wp2_with fail
      go_ret
      exact ⟨_, rfl, by have := (HE.out.row 0 rfl).base (b' := w.heap.size) (by rw [HS.out]; exact Nat.le_refl _); rw [← HL.out] at this; exact this, HS.out ▸ HE.out.bel⟩
end Go.Proofs.Ythefednendgclaa
