/-
  Chains of primes: Prime, where all is right.
-/
import Derived.Test.YthefednendgclaaCertCheck
set_option linter.unusedVariables false
set_option linter.unusedSimpArgs false
namespace Go.Proofs.Ythefednendgclaa
open Go Go.RowKit Sac

set_option maxRecDepth 100000 in
set_option maxHeartbeats 4000000 in
theorem prime_small (a : Option Addr) (len cap n : Nat) (v : Value) (w : World) (h : NatS w a len n) (hs : SmallP n) :
    Calls Try.prog 121 #[.agg #[.slice a len cap], v] w fun e w' => e = .returned (.bool true) ∧ Below w.heap.size w w' := by
  have hb := (Below.refl _ w).alloc (Nat.le_refl _) (Obj.cells #[Value.slice a len cap] 33)
  have HN := Lib.hid (h.below hb)
  have HB := Lib.hid hb
  have HS := Lib.hid hs
  clear h hb hs
  go_enter Try.func121, Try.ntmps121
  go_wp2_with fail
  refine (small_yes a len cap n _ HN.out HS.out).mono ?_
  rintro e w2 ⟨rfl, hb2⟩
  have HB2 := Lib.hid (HB.out.trans (hb2.mono HB.out.size))
  clear hb2
  go_wp2_with fail
  go_ret
  exact ⟨rfl, HB2.out⟩

set_option maxRecDepth 100000 in
set_option maxHeartbeats 4000000 in
theorem prime_chain (a : Option Addr) (nlen ncap n : Nat) (g cap len : Nat) (st : List Stp) (w : World) (h : NatS w a nlen n) (hbig : 65536 ≤ n) (hst : StepsAt w w.heap.size g st) (hlen : st.length = len) (hcap : (len : Int) ≤ cap) (hok : ChainOk st) (hmem : ∃ t ∈ st, t.N = n) :
    Calls Try.prog 121 #[.agg #[.slice a nlen ncap], .slice (some ⟨g, 0, none⟩) len cap] w fun e w' => e = .returned (.bool true) ∧ Below w.heap.size w w' := by
  obtain ⟨s, hsz⟩ : ∃ s, s = w.heap.size := ⟨_, rfl⟩
  have HE0 := Lib.hid (((GE.init w s hsz).add (stepsAt_stays (by decide) (by decide)) (hsz ▸ hst)).alloc s hsz h (c := ncap))
  have HN0 := Lib.hid (h.below ((Below.refl _ w).alloc (Nat.le_refl _) (Obj.cells #[Value.slice a nlen ncap] 33)))
  have hl64 : (len : Int) ≤ 64 := by have := hok.le; omega
  have HL := Lib.hid hlen
  have HSZ := Lib.hid hsz
  have HOK := Lib.hid hok
  have HM := Lib.hid hmem
  have HBG := Lib.hid hbig
  have hST : ∀ w', Below w.heap.size w w' → StepsAt w' w'.heap.size g st := fun w' hb => by
    have h1 := hst.kt (B := w.heap.size) (T := 33) (by decide) (by decide) (Nat.le_refl _) (KT.below (Nat.le_refl _) hb)
    refine ⟨h1.1, fun i hi => ?_⟩
    obtain ⟨na, nl, nc, ba, bl, bc, pa, pc, c0, c1, c2, n0, n1, n2, n3⟩ := h1.2 i hi
    exact ⟨na, nl, nc, ba, bl, bc, pa, pc, c0, c1, c2, n0, n1, ⟨n2.1, fun ad h1 h2 => Nat.lt_of_lt_of_le (n2.2 ad h1 h2) hb.size⟩, n3⟩
  have HST := Lib.hid hST
  clear h hst hlen hok hmem hbig hST
  go_enter Try.func121, Try.ntmps121
  go_wp2_with fail
  refine (small_big a nlen ncap n _ HN0.out HBG.out).mono ?_
  rintro e w2 ⟨rfl, hb2⟩
  have HE2 := Lib.hid (HE0.out.below hb2)
  clear hb2 HE0 HN0
  go_wp2_with fail
  refine (check_yes g cap len st w2 (HST.out w2 (HSZ.out ▸ HE2.out.bel)) HL.out hcap HOK.out).mono ?_
  rintro e w3 ⟨rfl, hb3⟩
  have HE3 := Lib.hid (HE2.out.below hb3)
  clear hb3 HE2
  rw [← hsz]
  clear hsz
  go_wp2_with fail
  go_loopw [14] (fun iv wr => ∃ i : Nat, (i : Int) ≤ len ∧ iv = .int .i64 (i : Int) ∧ Hid (GE w wr s [boxI s n] [fun w => StepsAt w s g st]) ∧ Hid (∀ j (h : j < st.length), j < i → st[j].N ≠ n)) (fun iv _ => len - (intOf iv).toNat)
  case atStart => exact ⟨0, by omega, rfl, HE3.out, fun j _ h => by omega⟩
  case round =>
    clear HE3
    obtain ⟨i, hi, rfl, HE, HNE⟩ := hrel
    by_cases hlt : (i : Int) < len
    · have hil : i < st.length := by rw [HL.out]; omega
      obtain ⟨na, nl, nc, ba, bl, bc, pa, pc, c0, c1, c2, n0, n1, n2, n3⟩ := (HE.out.has 0 rfl).2 i hil
      obtain ⟨m, hm⟩ : ∃ m, st[i].N = m := ⟨_, rfl⟩
      obtain ⟨pl, hpl⟩ : ∃ pl, st[i].ps.length = pl := ⟨_, rfl⟩
      rw [hm] at n0
      rw [hpl] at c2
      obtain ⟨xa, xl, xc, gx, Nx⟩ := HE.out.get 0 rfl
      have cx : ∀ o, (wr.alloc o).cell? ⟨s, 0, none⟩ = some (.slice xa xl xc) := fun o => gx _ (BB.alloc (BB.refl _))
      have hb : BB wr (wr.alloc (Obj.cells #[Value.slice na nl nc, Value.slice ba bl bc, Value.slice pa pl pc] 172)) := BB.alloc (BB.refl _)
      have HE1 := Lib.hid (HE.out.below hb)
      have HNm := Lib.hid (n0.below hb)
      have HNx := Lib.hid (Nx.below hb)
      have HIM : Hid (∃ h : i < st.length, st[i].N = m) := ⟨hil, hm⟩
      clear n0 n1 n2 n3 hm hpl hil Nx gx hb HE
      go_wp2_with fail
      refine (cmp_s na xa nl nc xl xc m n _ HNm.out HNx.out).mono ?_
      rintro e w4 ⟨rfl, hb4⟩
      have HE4 := Lib.hid (HE1.out.below hb4)
      clear hb4 HE1 HNm HNx cx c0 c1 c2
      by_cases hmn : m = n
      · subst hmn
        rw [cmp_self]
        go_wp2_with fail
        go_ret
        exact ⟨rfl, HSZ.out ▸ HE4.out.bel⟩
      · have hcx := cmp_ne hmn
        have HX := Lib.hid hmn
        clear hmn
        go_wp2_with fail
        go_roundw
        case rel =>
          refine ⟨i + 1, by omega, by go_num, HE4.out, fun j hj hji => ?_⟩
          rcases Nat.lt_or_ge j i with h | h
          · exact HNE.out j hj h
          · obtain rfl : j = i := by omega
            obtain ⟨_, h2⟩ := HIM.out
            rw [h2]; exact HX.out
        case measure => simp [intOf]; omega
    · exfalso
      obtain ⟨t, ht, htn⟩ := HM.out
      obtain ⟨j, hj, rfl⟩ := List.getElem_of_mem ht
      exact HNE.out j hj (by rw [HL.out] at hj; omega) htn
end Go.Proofs.Ythefednendgclaa
