/-
  Chains of primes: Check and Prime, where all is right.
-/
import Derived.Test.YthefednendgclaaCertHold
import Derived.Test.YthefednendgclaaNGE
set_option linter.unusedVariables false
set_option linter.unusedSimpArgs false
namespace Go.Proofs.Ythefednendgclaa
open Go Go.RowKit Sac

/-- A step of a chain: its number, its base, its primes, and their powers. -/
structure Stp where
  N : Nat
  base : Nat
  ps : List Nat
  ws : List Nat
/-- A chain whose steps all hold, of numbers that aren't long. -/
structure ChainOk (st : List Stp) : Prop where
  le : st.length ≤ 64
  ok : ∀ i (h : i < st.length), StepOk st[i].N st[i].base st[i].ps st[i].ws ((st.take i).map Stp.N)
  small : ∀ t ∈ st, t.N < 2 ^ 250 ∧ t.base < 2 ^ 250 ∧ ∀ p ∈ t.ps, p < 2 ^ 250

/-- Block g holds a chain; what it points to lies below block s. -/
def StepsAt (w : World) (s g : Nat) (st : List Stp) : Prop := Ety w g 172 ∧ ∀ i (h : i < st.length), ∃ (na : Option Addr) (nl nc : Nat) (ba : Option Addr) (bl bc : Nat) (pa : Option Addr) (pc : Nat),
  w.cell? ⟨g, i * 3, none⟩ = some (.slice na nl nc) ∧ w.cell? ⟨g, i * 3 + 1, none⟩ = some (.slice ba bl bc) ∧ w.cell? ⟨g, i * 3 + 2, none⟩ = some (.slice pa st[i].ps.length pc) ∧
  NatS w na nl st[i].N ∧ NatS w ba bl st[i].base ∧ NatsLow s w pa st[i].ps ∧ (st[i].ps.length : Int) ≤ pc
theorem StepsAt.kt {B s : Nat} {T : TypeId} {w w' : World} {g : Nat} {st : List Stp} (hT : 130 ≠ T) (hT2 : 172 ≠ T) (h : StepsAt w s g st) (hB : s ≤ B) (k : KT B T w w') : StepsAt w' s g st := by
  obtain ⟨h1, h2⟩ := h
  have hs := k.ety hT2 h1
  refine ⟨h1.same hs, fun i hi => ?_⟩
  obtain ⟨na, nl, nc, ba, bl, bc, pa, pc, c0, c1, c2, n0, n1, n2, n3⟩ := h2 i hi
  have hc : ∀ o, w'.cell? ⟨g, o, none⟩ = w.cell? ⟨g, o, none⟩ := fun o => World.cell?_of_block hs
  exact ⟨na, nl, nc, ba, bl, bc, pa, pc, (hc _).trans c0, (hc _).trans c1, (hc _).trans c2, n0.kt hT k, n1.kt hT k, n2.kt hT hB k, n3⟩
theorem stepsAt_stays {B : Nat} {T : TypeId} {g : Nat} {st : List Stp} (hT : 130 ≠ T) (hT2 : 172 ≠ T) : Stays B T (fun w => StepsAt w B g st) := fun _ _ k h => h.kt hT hT2 (Nat.le_refl _) k

set_option maxRecDepth 100000 in
set_option maxHeartbeats 8000000 in
theorem check_yes (g cap : Nat) (len : Nat) (st : List Stp) (w : World) (hst : StepsAt w w.heap.size g st) (hlen : st.length = len) (hcap : (len : Int) ≤ cap) (hok : ChainOk st) :
    Calls Try.prog 141 #[.slice (some ⟨g, 0, none⟩) len cap] w fun e w' => e = .returned (.int .i64 0) ∧ Below w.heap.size w w' := by
  obtain ⟨s, hsz⟩ : ∃ s, s = w.heap.size := ⟨_, rfl⟩
  have HE0 := Lib.hid (((GE.init w s hsz).pushNil).add (stepsAt_stays (by decide) (by decide)) (hsz ▸ hst))
  have HOK := Lib.hid hok
  have HL := Lib.hid hlen
  have HSZ := Lib.hid hsz
  have hl64 : (len : Int) ≤ 64 := by have := hok.le; omega
  have e1 : decide ((64 : Int) < (len : Int)) = false := decide_eq_false (by omega)
  clear hst hok hlen hsz
  go_enter Try.func141, Try.ntmps141
  go_wp2_with fail
  go_loopw [15] (fun iv wr => ∃ i : Nat, (i : Int) ≤ len ∧ iv = .int .i64 (i : Int) ∧ Hid (GE w wr s [rowI s (.slice none 0 0) []] [fun w => StepsAt w s g st])) (fun iv _ => len - (intOf iv).toNat)
  case atStart => exact ⟨0, by omega, rfl, HE0.out⟩
  case round =>
    clear HE0
    obtain ⟨i, hi, rfl, HE⟩ := hrel
    by_cases hlt : (i : Int) < len
    · have hil : i < st.length := by rw [HL.out]; omega
      obtain ⟨t, ht⟩ : ∃ t, st[i] = t := ⟨_, rfl⟩
      obtain ⟨na, nl, nc, ba, bl, bc, pa, pc, c0, c1, c2, n0, n1, n2, n3⟩ := (HE.out.has 0 rfl).2 i hil
      rw [ht] at c2 n0 n1 n2 n3
      have HT : Hid (∃ h : i < st.length, st[i] = t) := ⟨hil, ht⟩
      have hso := HOK.out.ok i hil
      rw [ht] at hso
      obtain ⟨pad, _, _, _, rfl, _, _, _⟩ := n2.1.get (k := 0) (by have := hso.ne; omega)
      obtain ⟨pl, hpl⟩ : ∃ pl, t.ps.length = pl := ⟨_, rfl⟩
      have hp32 : pl ≤ 32 := by have := hso.le; omega
      have HPL := Lib.hid hpl
      rw [hpl] at c2 n3
      obtain ⟨B, hBs⟩ : ∃ B, B = wr.heap.size := ⟨_, rfl⟩
      obtain ⟨w1, hw1⟩ : ∃ w1, wr.alloc (Obj.cells #[Value.slice na nl nc, Value.slice ba bl bc, Value.slice (some pad) pl pc] 172) = w1 := ⟨_, rfl⟩
      have hb1 : BB wr w1 := hw1 ▸ BB.alloc (BB.refl _)
      have hB1 : B + 1 = w1.heap.size := by rw [← hw1, hBs]; simp
      have hO := NatsOwn.lit2 (c := nc) (c' := bc) (B + 1) (B + 1) hB1 (Nat.le_refl _) (n0.below hb1) (n1.below hb1)
      have hb2 : BB w1 (w1.alloc (Obj.cells #[Value.slice na nl nc, Value.slice ba bl bc] 33)) := BB.alloc (BB.refl _)
      have hA := n2.1.below (BB.step (BB.step (BB.refl _) hb1) hb2)
      have HO := Lib.hid hO
      have HA := Lib.hid hA
      have HEB := Lib.hid (HE.out.below (BB.step hb1 hb2))
      have HSM := Lib.hid (HOK.out.small t (ht ▸ List.getElem_mem hil))
      have hsz2 : B + 1 ≤ (w1.alloc (Obj.cells #[Value.slice na nl nc, Value.slice ba bl bc] 33)).heap.size := by rw [hB1]; exact hb2.size
      subst hw1
      subst hBs
      clear ht hil hO hA hso hpl n0 n1 n2 hb1 hb2 hB1
      go_wp2_with (first | (refine wpList_append_nats _ rfl (.tmp 23) (.tmp 25) rfl (wr.heap.size + 1) _ [t.N, t.base] rfl HO.out pad pl pc t.ps rfl HPL.out HA.out (by show 2 + pl ≤ 100000; omega) hsz2 ?_; intro v' w3 hown hgr hf; obtain ⟨ra, rc, hv', hrc1, hrc2, hrat, hrg⟩ := hown.form; obtain ⟨ms, hms⟩ : ∃ ms, [t.N, t.base] ++ t.ps = ms := ⟨_, rfl⟩; obtain ⟨M, hM⟩ : ∃ M, ms.length = M := ⟨_, rfl⟩; rw [hms, hM] at hv'; rw [hms] at hrat hrc1 hrg; rw [hM] at hrc1; subst hv'; have HMS := Lib.hid hms; have HML := Lib.hid hM; have HRA := Lib.hid hrat; have HGR := Lib.hid hgr; have hM34 : M ≤ 34 := (by rw [← hM, ← hms]; show t.ps.length + 1 + 1 ≤ 34; rw [HPL.out]; omega); have hrc : (M : Int) ≤ rc := (by omega); clear hown hgr hf hms hM hrat hrg hrc1 hrc2))
      have HB3 : Hid (Below wr.heap.size wr w3) := by
        refine ⟨HGR.out.os, HGR.out.tape, HGR.out.output, Nat.le_trans (by simp; omega) HGR.out.size, fun k hk => ?_⟩
        rw [HGR.out.block k (by simp; omega) (by intro e; injection e with e; simp at e; omega)]
        exact ((BB.refl wr).alloc.alloc : BB wr _).block k hk
      clear HGR HO HA HEB
      go_loopw [28] (fun iv wr' => ∃ j : Nat, (j : Int) ≤ M ∧ iv = .int .i64 (j : Int) ∧ Hid (BB w3 wr')) (fun iv _ => M - (intOf iv).toNat)
      case atStart => exact ⟨0, by omega, rfl, BB.refl _⟩
      case round =>
        obtain ⟨j, hj, rfl, HJ⟩ := hrel
        by_cases hlj : (j : Int) < M
        · have hjl : j < ms.length := by rw [HML.out]; omega
          obtain ⟨x, hx⟩ : ∃ x, ms.getD j 0 = x := ⟨_, rfl⟩
          obtain ⟨ad', xa, xl, xc, rfl, _, cx, Nx⟩ := (HRA.out.below HJ.out).get hjl
          have hxs : x < 2 ^ 250 := by
            have hmem : x ∈ ms := by rw [← hx, List.getD_eq_getElem?_getD, List.getElem?_eq_getElem hjl]; exact List.getElem_mem hjl
            rw [← HMS.out] at hmem
            have := HSM.out
            simp only [List.cons_append, List.nil_append, List.mem_cons] at hmem
            rcases hmem with h | h | h
            · rw [h]; exact this.1
            · rw [h]; exact this.2.1
            · exact this.2.2 _ h
          rw [hx] at Nx
          have HX := Lib.hid hxs
          have HNx := Lib.hid (Nx.below ((Below.refl _ _).alloc (Nat.le_refl _) (Obj.cells #[Value.slice xa xl xc] 33)))
          clear Nx hxs hx hjl
          go_wp2_with fail
          refine (clong_no xa xl xc x _ HNx.out HX.out).mono ?_
          rintro e w4 ⟨rfl, hb4⟩
          have HJ4 : Hid (BB w3 w4) := BB.step (BB.alloc HJ.out) hb4
          clear hb4 HJ HNx cx
          go_wp2_with fail
          go_roundw
          case rel => exact ⟨j + 1, by omega, by go_num, HJ4.out⟩
          case measure => simp [intOf]; omega
        · have hj' : j = M := by omega
          subst hj'
          have HE3 := Lib.hid (HE.out.below (HB3.out.trans (HJ.out.mono HB3.out.size)))
          clear HE HJ HB3
          go_wp2_with fail
          go_roundw
          case rel => exact ⟨i + 1, by omega, by go_num, HE3.out⟩
          case measure => simp [intOf]; omega
    · have hi' : i = len := by omega
      rw [hi']
      clear hi' hlt hi i
      go_wp2_with fail
      go_loopw [7, 38] (fun bv iv wr => ∃ i : Nat, (i : Int) ≤ len ∧ iv = .int .i64 (i : Int) ∧ Hid (GE w wr s [rowI s bv ((st.take i).map Stp.N)] [fun w => StepsAt w s g st])) (fun _ iv _ => len - (intOf iv).toNat)
      case atStart => exact ⟨0, by omega, rfl, HE.out⟩
      case round =>
        clear HE
        obtain ⟨i, hi, rfl, HE⟩ := hrel
        by_cases hlt : (i : Int) < len
        · have hil : i < st.length := by rw [HL.out]; omega
          obtain ⟨t, ht⟩ : ∃ t, st[i] = t := ⟨_, rfl⟩
          obtain ⟨na, nl, nc, ba, bl, bc, pa, pc, c0, c1, c2, n0, n1, n2, n3⟩ := (HE.out.has 0 rfl).2 i hil
          rw [ht] at c2 n0 n1 n2 n3
          obtain ⟨pl, hpl⟩ : ∃ pl, t.ps.length = pl := ⟨_, rfl⟩
          have hso := HOK.out.ok i hil
          rw [ht] at hso
          obtain ⟨D, hD⟩ : ∃ D, (st.take i).map Stp.N = D := ⟨_, rfl⟩
          have hDn : D ++ [t.N] = (st.take (i + 1)).map Stp.N := by
            rw [List.take_succ_eq_append_getElem hil, List.map_append, ← hD, ht]; rfl
          obtain ⟨dl, hdl⟩ : ∃ dl, D.length = dl := ⟨_, rfl⟩
          have hdi : dl ≤ i := by rw [← hdl, ← hD, List.length_map, List.length_take]; omega
          rw [hD] at HE hso
          rw [hpl] at c2 n3
          obtain ⟨da, dc, rfl, hd1, hd2, hat, hdg⟩ := (HE.out.row 0 rfl).form
          rw [hdl] at HE hd1
          rw [hdl]
          obtain ⟨w1, hw1⟩ : ∃ w1, wr.alloc (Obj.cells #[Value.slice na nl nc, Value.slice ba bl bc, Value.slice pa pl pc] 172) = w1 := ⟨_, rfl⟩
          have hb1 : BB wr w1 := hw1 ▸ BB.alloc (BB.refl _)
          have HE1 := Lib.hid (HE.out.below hb1)
          have hholds := holds_yes na nl nc t.N ba bl bc t.base pa pl pc t.ps t.ws da dl dc D w1 (n0.below hb1) (n1.below hb1) (n2.1.below hb1) hpl n3 (hat.below hb1) hdl (by omega) (by omega) hso
          have HH := Lib.hid hholds
          have HN0 := Lib.hid (n0.below hb1)
          have HDN := Lib.hid hDn
          have HDL := Lib.hid hdl
          have hbs : Blk w1 wr.heap.size 172 [Value.slice na nl nc, Value.slice ba bl bc, Value.slice pa pl pc] := hw1 ▸ Blk.new' wr [Value.slice na nl nc, Value.slice ba bl bc, Value.slice pa pl pc] 172 wr.heap.size rfl
          have HB1 := Lib.hid hbs
          have d0 := hbs.cell 0
          have d1 := hbs.cell 1
          have d2 := hbs.cell 2
          simp only [List.getElem?_cons_zero, List.getElem?_cons_succ] at d0 d1 d2
          clear hholds hso n0 n1 n2 hat hb1 hdg ht hil hDn HE hD hpl hbs
          go_wp2_with fail
          refine HH.out.mono ?_
          rintro e w2 ⟨rfl, hb2⟩
          have HE2 := Lib.hid (HE1.out.below hb2)
          have HN2 := Lib.hid (HN0.out.below hb2)
          have HB2 := Lib.hid (HB1.out.below hb2 HB1.out.lt)
          have cs2 := HB2.out.cell 0
          simp only [List.getElem?_cons_zero] at cs2
          obtain ⟨R, hR⟩ : ∃ R, R = w2.heap.size := ⟨_, rfl⟩
          have HE3 := Lib.hid (HE2.out.below ((Below.refl _ w2).alloc (Nat.le_refl _) (Obj.cells #[Value.slice na nl nc] 33)))
          have HN3 : Hid (NatS (w2.alloc (Obj.cells #[Value.slice na nl nc] 33)) na nl t.N) := HN2.out.below ((Below.refl _ w2).alloc (Nat.le_refl _) _)
          have cR := (Blk.new w2 [Value.slice na nl nc] 33).cell 0
          simp only [List.getElem?_cons_zero] at cR
          clear HH HE1 HN0 HB1 hb2 HE2 HN2 hw1 d0 d1 d2
          go_wp2_with (first | (refine wpList_append_nat _ rfl (.tmp 46) (.tmp 49) rfl s _ D rfl (HE3.out.row 0 rfl) ⟨w2.heap.size, 0, none⟩ 1 t.N na nl nc rfl cR HN3.out (by rw [HDL.out]; omega) HE3.out.base ?_; intro v' w3 hown hgr hf; have HE4 := Lib.hid (HE3.out.append 0 rfl hgr hf hown); clear hown hgr hf))
          go_roundw
          case rel => exact ⟨i + 1, by omega, by go_num, HDN.out ▸ HE4.out⟩
          case measure => simp [intOf]; omega
        · go_wp2_with fail
          go_ret
          exact ⟨rfl, HSZ.out ▸ HE.out.bel⟩
end Go.Proofs.Ythefednendgclaa
