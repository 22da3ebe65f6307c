/-
  container/heap over the queue's items: down.
-/
import Derived.Test.YtdbpcogbednokaaC
namespace Go.Proofs.Ytdbpcogbednokaa
open Go.RowKit

def SomeBool (R : World → Prop) (e : Ending) (w : World) : Prop := ∃ b : Bool, e = .returned (.bool b) ∧ R w

/-- What sifting down leaves: beyond place m nothing has changed. -/
structure Sifted (bi : Nat) (L : List Item) (rest : List Value) (m i0 : Nat) (w w' : World) (L' : List Item) : Prop where
  only : Only (· = bi) w w'
  perm : L'.Perm L
  blk : Blk w' bi 58 (flat L' ++ rest)
  beyond : ∀ t, m ≤ t → L'[t]? = L[t]?
  heap : Hp.HeapFrom Item.lt (at0 L') m i0

theorem beyond_swapl {L M : List Item} {m i j : Nat} (h : ∀ t, m ≤ t → M[t]? = L[t]?) (hi : i < m) (hj : j < m) : ∀ t, m ≤ t → (Hp.swapl M default i j)[t]? = L[t]? := by
  intro t ht
  rw [← h t ht]
  simp only [Hp.swapl, List.getElem?_set]
  rw [if_neg (by omega), if_neg (by omega)]

set_option maxRecDepth 100000 in
set_option maxHeartbeats 2000000 in
theorem down_any (bq bi cap n m i0 : Nat) (L : List Item) (rest : List Value) (hn : L.length = n) (hm : m ≤ n) (w : World)
    (hne : bq ≠ bi) (hlen : (n : Int) ≤ 100000) (hi0 : i0 ≤ m)
    (hq : w.cell? ⟨bq, 0, none⟩ = some (.slice (some ⟨bi, 0, none⟩) n cap)) (hql : bq < w.heap.size)
    (hB : Blk w bi 58 (flat L ++ rest)) (hu : Hp.DownInv Item.lt (at0 L) m i0 i0) :
    Calls Try.prog 37 #[.iface 56 (.pointer (some ⟨bq, 0, none⟩)), .int .i64 i0, .int .i64 m] w (SomeBool fun w' => ∃ L', Sifted bi L rest m i0 w w' L') := by
  have HU : Hid (Hp.DownInv Item.lt (at0 L) m i0 i0) := hu
  clear hu
  have hlm : (m : Int) ≤ 100000 := by omega
  go_enter Try.func37, Try.ntmps37
  go_wp2_with fail
  go_loopw [7, 8, 9, 10] (fun v _ _ _ wr => ∃ (k : Nat) (M : List Item), k ≤ m ∧ i0 ≤ k ∧ v = .int .i64 k ∧ Hid (M.Perm L ∧ ∀ t, m ≤ t → M[t]? = L[t]?) ∧ Only (· = bi) w wr ∧ Hid (Blk wr bi 58 (flat M ++ rest)) ∧ Hid (Hp.DownInv Item.lt (at0 M) m i0 k)) (fun v _ _ _ _ => m - (intOf v).toNat)
  case atStart => exact ⟨i0, L, hi0, Nat.le_refl _, rfl, ⟨List.Perm.refl _, fun _ _ => rfl⟩, Only.refl _ _, hB, HU⟩
  case round =>
    obtain ⟨k, M, hk, hik, rfl, HP, ho, HB, HU⟩ := hrel
    have hM : M.length = n := by rw [HP.out.1.length_eq]; exact hn
    have H1 : Hid (M.length = n) := hM
    have HO : Hid (Only (· = bi) w wr) := ho
    clear hM ho hB
    have hqr : wr.cell? ⟨bq, 0, none⟩ = some (.slice (some ⟨bi, 0, none⟩) n cap) := by
      rw [← hq]; exact World.cell?_of_block (HO.out.block bq hql hne)
    have hql' : bq < wr.heap.size := Nat.lt_of_lt_of_le hql HO.out.size
    clear hq
    by_cases hc : 2 * k + 1 < m
    · have hcz : ¬ (2 * (k : Int) + 1 < 0) := by omega
      have hcm : (2 * (k : Int) + 1 < (m : Int)) := by omega
      obtain ⟨c, hc'⟩ : ∃ c : Nat, c = 2 * k + 1 := ⟨_, rfl⟩
      have HC : Hid (c = 2 * k + 1) := hc'
      have HE : Hid ((2 * (k : Int) + 1) = (c : Int)) := by show _ = _; omega
      have hcn : c < M.length := by have := H1.out; omega
      have hkn : k < M.length := by have := H1.out; omega
      have HSc : Hid (M[c]? = some (at0 M c)) := some_at0 hcn
      have HSk : Hid (M[k]? = some (at0 M k)) := some_at0 hkn
      clear hc' hcn hkn
      have mL := method_less ⟨bq, 0, none⟩ _ wr hqr
      by_cases hd : 2 * k + 2 < m
      · -- two children
        obtain ⟨d, hd'⟩ : ∃ d : Nat, d = 2 * k + 2 := ⟨_, rfl⟩
        have HD : Hid (d = 2 * k + 2) := hd'
        have HE2 : Hid ((2 * (k : Int) + 1 + 1) = (d : Int)) := by show _ = _; omega
        have HE3 : Hid ((2 * (k : Int) + 2) = (d : Int)) := by show _ = _; omega
        have hdn : d < M.length := by have := H1.out; omega
        have HSd : Hid (M[d]? = some (at0 M d)) := some_at0 hdn
        have hdm : (2 * (k : Int) + 1 + 1 < (m : Int)) := by omega
        clear hd' hdn
        go_wp2_with fail
        rw [HE2.out, HE.out]
        refine (less_any bi cap n M H1.out rest d c _ _ HSd.out HSc.out wr HB.out).mono ?_
        rintro e w1 ⟨rfl, hb1⟩
        have hq1 : w1.cell? ⟨bq, 0, none⟩ = some (.slice (some ⟨bi, 0, none⟩) n cap) := by
          rw [← hqr]; exact hb1.cell hql'
        have HB1 : Hid (Blk w1 bi 58 (flat M ++ rest)) := HB.out.below hb1 HB.out.lt
        have HOC : Hid (Only (· = bi) w w1) := HO.out.trans (Only.below hb1)
        have HSZ : Hid (wr.heap.size ≤ w1.heap.size) := hb1.size
        clear mL hqr hb1
        cases hl : (at0 M d).lt (at0 M c)
        · have hod : ∀ o, (o = 2 * k + 1 ∨ o = 2 * k + 2) → o < m → (at0 M o).lt (at0 M c) = false := by
            have := HC.out; have := HD.out
            rintro o (ho | ho) _
            · obtain rfl : o = c := by omega
              exact ordItem.irrefl _
            · obtain rfl : o = d := by omega
              exact hl
          have HOD : Hid (∀ o, (o = 2 * k + 1 ∨ o = 2 * k + 2) → o < m → (at0 M o).lt (at0 M c) = false) := hod
          clear hod
          have mL2 := method_less ⟨bq, 0, none⟩ _ w1 hq1
          go_wp2_with fail
          refine (less_any bi cap n M H1.out rest c k _ _ HSc.out HSk.out w1 HB1.out).mono ?_
          rintro e w2 ⟨rfl, hb2⟩
          have hq2 : w2.cell? ⟨bq, 0, none⟩ = some (.slice (some ⟨bi, 0, none⟩) n cap) := by
            rw [← hq1]; exact hb2.cell (Nat.lt_of_lt_of_le hql' HSZ.out)
          have HB2 : Hid (Blk w2 bi 58 (flat M ++ rest)) := HB1.out.below hb2 HB1.out.lt
          have HO2 : Hid (Only (· = bi) w w2) := (HOC.out).trans (Only.below hb2)
          clear mL2 hq1
          cases hl2 : (at0 M c).lt (at0 M k)
          · go_wp2_with fail
            go_ret
            exact ⟨_, rfl, M, HO2.out, HP.out.1, HB2.out, HP.out.2, Hp.down_done2 ordItem HU.out (j := c) (Or.inl HC.out) (by have := HC.out; first | omega | (have := HD.out; omega)) HOD.out hl2⟩
          · have mS := method_swap ⟨bq, 0, none⟩ _ w2 hq2
            go_wp2_with fail
            refine (swap_any bi cap n M H1.out rest k c _ _ HSk.out HSc.out w2 HB2.out).mono ?_
            rintro e w3 ⟨rfl, ho3, hB3⟩
            clear mS hq2
            go_wp2_with fail
            go_roundw
            case rel =>
              have l1 := H1.out
              have hjm : c < m := by have := HC.out; first | omega | (have := HD.out; omega)
              refine ⟨c, Hp.swapl M default k c, by omega, by have := HC.out; first | omega | (have := HD.out; omega), rfl, ⟨(Hp.perm_swapl M default _ _ (by omega) (by omega)).trans HP.out.1, beyond_swapl HP.out.2 (by omega) hjm⟩, HO2.out.trans ho3, hB3, ?_⟩
              show Hp.DownInv _ (Hp.at_ _ _) _ _ _
              rw [Hp.at_swapl M default _ _ (by omega) (by omega)]
              exact Hp.down_step ordItem HU.out hik (j := c) (Or.inl HC.out) hjm HOD.out hl2
            case measure => have := HC.out; simp [intOf]; first | omega | (have := HD.out; omega)
        · have hod : ∀ o, (o = 2 * k + 1 ∨ o = 2 * k + 2) → o < m → (at0 M o).lt (at0 M d) = false := by
            have := HC.out; have := HD.out
            rintro o (ho | ho) _
            · obtain rfl : o = c := by omega
              exact ordItem.asymm _ _ hl
            · obtain rfl : o = d := by omega
              exact ordItem.irrefl _
          have HOD : Hid (∀ o, (o = 2 * k + 1 ∨ o = 2 * k + 2) → o < m → (at0 M o).lt (at0 M d) = false) := hod
          clear hod
          have mL2 := method_less ⟨bq, 0, none⟩ _ w1 hq1
          go_wp2_with fail
          refine (less_any bi cap n M H1.out rest d k _ _ HSd.out HSk.out w1 HB1.out).mono ?_
          rintro e w2 ⟨rfl, hb2⟩
          have hq2 : w2.cell? ⟨bq, 0, none⟩ = some (.slice (some ⟨bi, 0, none⟩) n cap) := by
            rw [← hq1]; exact hb2.cell (Nat.lt_of_lt_of_le hql' HSZ.out)
          have HB2 : Hid (Blk w2 bi 58 (flat M ++ rest)) := HB1.out.below hb2 HB1.out.lt
          have HO2 : Hid (Only (· = bi) w w2) := (HOC.out).trans (Only.below hb2)
          clear mL2 hq1
          cases hl2 : (at0 M d).lt (at0 M k)
          · go_wp2_with fail
            go_ret
            exact ⟨_, rfl, M, HO2.out, HP.out.1, HB2.out, HP.out.2, Hp.down_done2 ordItem HU.out (j := d) (Or.inr HD.out) (by have := HC.out; first | omega | (have := HD.out; omega)) HOD.out hl2⟩
          · have mS := method_swap ⟨bq, 0, none⟩ _ w2 hq2
            go_wp2_with fail
            refine (swap_any bi cap n M H1.out rest k d _ _ HSk.out HSd.out w2 HB2.out).mono ?_
            rintro e w3 ⟨rfl, ho3, hB3⟩
            clear mS hq2
            go_wp2_with fail
            go_roundw
            case rel =>
              have l1 := H1.out
              have hjm : d < m := by have := HC.out; first | omega | (have := HD.out; omega)
              refine ⟨d, Hp.swapl M default k d, by omega, by have := HC.out; first | omega | (have := HD.out; omega), rfl, ⟨(Hp.perm_swapl M default _ _ (by omega) (by omega)).trans HP.out.1, beyond_swapl HP.out.2 (by omega) hjm⟩, HO2.out.trans ho3, hB3, ?_⟩
              show Hp.DownInv _ (Hp.at_ _ _) _ _ _
              rw [Hp.at_swapl M default _ _ (by omega) (by omega)]
              exact Hp.down_step ordItem HU.out hik (j := d) (Or.inr HD.out) hjm HOD.out hl2
            case measure => have := HC.out; simp [intOf]; first | omega | (have := HD.out; omega)
      · -- one child
        have hdm : ¬ (2 * (k : Int) + 1 + 1 < (m : Int)) := by omega
        have hod : ∀ o, (o = 2 * k + 1 ∨ o = 2 * k + 2) → o < m → (at0 M o).lt (at0 M c) = false := by
          have := HC.out
          rintro o (ho | ho) _
          · obtain rfl : o = c := by omega
            exact ordItem.irrefl _
          · omega
        have HOD : Hid (∀ o, (o = 2 * k + 1 ∨ o = 2 * k + 2) → o < m → (at0 M o).lt (at0 M c) = false) := hod
        have HOC : Hid (Only (· = bi) w wr) := HO.out
        have HSZ : Hid (wr.heap.size ≤ wr.heap.size) := Nat.le_refl _
        clear hod mL
        have mL2 := method_less ⟨bq, 0, none⟩ _ wr hqr
        go_wp2_with fail
        rw [HE.out]
        refine (less_any bi cap n M H1.out rest c k _ _ HSc.out HSk.out wr HB.out).mono ?_
        rintro e w2 ⟨rfl, hb2⟩
        have hq2 : w2.cell? ⟨bq, 0, none⟩ = some (.slice (some ⟨bi, 0, none⟩) n cap) := by
          rw [← hqr]; exact hb2.cell (Nat.lt_of_lt_of_le hql' HSZ.out)
        have HB2 : Hid (Blk w2 bi 58 (flat M ++ rest)) := HB.out.below hb2 HB.out.lt
        have HO2 : Hid (Only (· = bi) w w2) := (HOC.out).trans (Only.below hb2)
        clear mL2 hqr
        cases hl2 : (at0 M c).lt (at0 M k)
        · go_wp2_with fail
          go_ret
          exact ⟨_, rfl, M, HO2.out, HP.out.1, HB2.out, HP.out.2, Hp.down_done2 ordItem HU.out (j := c) (Or.inl HC.out) (by have := HC.out; first | omega | (have := HD.out; omega)) HOD.out hl2⟩
        · have mS := method_swap ⟨bq, 0, none⟩ _ w2 hq2
          go_wp2_with fail
          refine (swap_any bi cap n M H1.out rest k c _ _ HSk.out HSc.out w2 HB2.out).mono ?_
          rintro e w3 ⟨rfl, ho3, hB3⟩
          clear mS hq2
          go_wp2_with fail
          go_roundw
          case rel =>
            have l1 := H1.out
            have hjm : c < m := by have := HC.out; first | omega | (have := HD.out; omega)
            refine ⟨c, Hp.swapl M default k c, by omega, by have := HC.out; first | omega | (have := HD.out; omega), rfl, ⟨(Hp.perm_swapl M default _ _ (by omega) (by omega)).trans HP.out.1, beyond_swapl HP.out.2 (by omega) hjm⟩, HO2.out.trans ho3, hB3, ?_⟩
            show Hp.DownInv _ (Hp.at_ _ _) _ _ _
            rw [Hp.at_swapl M default _ _ (by omega) (by omega)]
            exact Hp.down_step ordItem HU.out hik (j := c) (Or.inl HC.out) hjm HOD.out hl2
          case measure => have := HC.out; simp [intOf]; first | omega | (have := HD.out; omega)
    · -- no child
      have hcm : ¬ (2 * (k : Int) + 1 < (m : Int)) := by omega
      go_wp2_with fail
      go_ret
      exact ⟨_, rfl, M, HO.out, HP.out.1, HB.out, HP.out.2, Hp.down_done1 HU.out (by omega)⟩

end Go.Proofs.Ytdbpcogbednokaa
