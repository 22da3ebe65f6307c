/-
  container/heap over the queue's items: up, down.
-/
import Derived.Test.YtdbpcogbednokaaB
import Derived.Test.YtdbpcogbednokaaHp
namespace Go.Proofs.Ytdbpcogbednokaa
open Go.RowKit

instance : Inhabited Item := ⟨⟨0, 0, 0⟩⟩

theorem ordItem : Hp.Ord Item.lt := by
  refine ⟨fun a => ?_, fun a b c => ?_, fun a b => ?_⟩ <;> simp only [Item.lt, ahead2, decide_eq_false_iff_not, decide_eq_true_eq] <;> omega

abbrev at0 (L : List Item) : Nat → Item := Hp.at_ L default
theorem some_at0 {L : List Item} {i : Nat} (h : i < L.length) : L[i]? = some (at0 L i) := Hp.some_at h

set_option maxRecDepth 100000 in
set_option maxHeartbeats 1000000 in
theorem up_any (bq bi cap n : Nat) (L : List Item) (rest : List Value) (j : Nat) (hn : L.length = n) (hj : j < n) (w : World)
    (hne : bq ≠ bi) (hlen : (n : Int) ≤ 100000)
    (hq : w.cell? ⟨bq, 0, none⟩ = some (.slice (some ⟨bi, 0, none⟩) n cap)) (hql : bq < w.heap.size)
    (hB : Blk w bi 58 (flat L ++ rest)) (hu : Hp.UpInv Item.lt (at0 L) n j) :
    Calls Try.prog 36 #[.iface 56 (.pointer (some ⟨bq, 0, none⟩)), .int .i64 j] w fun e w' =>
      e = .returned (.tuple #[]) ∧ Only (· = bi) w w' ∧ ∃ L' : List Item, L'.Perm L ∧ Blk w' bi 58 (flat L' ++ rest) ∧ Hp.IsHeap Item.lt (at0 L') n := by
  have HU : Hid (Hp.UpInv Item.lt (at0 L) n j) := hu
  clear hu
  go_enter Try.func36, Try.ntmps36
  go_wp2_with fail
  go_loopw [1] (fun v wr => ∃ (k : Nat) (M : List Item), k < n ∧ v = .int .i64 k ∧ Hid (M.Perm L) ∧ Only (· = bi) w wr ∧ Hid (Blk wr bi 58 (flat M ++ rest)) ∧ Hid (Hp.UpInv Item.lt (at0 M) n k)) (fun v _ => (intOf v).toNat)
  case atStart => exact ⟨j, L, hj, rfl, List.Perm.refl _, Only.refl _ _, hB, HU⟩
  case round =>
    obtain ⟨k, M, hk, rfl, HP, ho, HB, HU⟩ := hrel
    obtain ⟨p, hp⟩ : ∃ p : Nat, p = (k - 1) / 2 := ⟨_, rfl⟩
    have hM : M.length = n := by rw [HP.out.length_eq]; exact hn
    have hk1 : k < M.length := by omega
    have hk2 : p < M.length := by omega
    have hsp := some_at0 hk2
    have hsk := some_at0 hk1
    have H1 : Hid (M.length = n) := hM
    have HS : Hid (M[p]? = some (at0 M p) ∧ M[k]? = some (at0 M k)) := ⟨hsp, hsk⟩
    have HO : Hid (Only (· = bi) w wr) := ho
    have HPP : Hid (p = (k - 1) / 2) := hp
    clear hsp hsk hM hk1 hk2 ho hB hp
    have hqr : wr.cell? ⟨bq, 0, none⟩ = some (.slice (some ⟨bi, 0, none⟩) n cap) := by
      rw [← hq]; exact World.cell?_of_block (HO.out.block bq hql hne)
    have hql' : bq < wr.heap.size := Nat.lt_of_lt_of_le hql HO.out.size
    clear hq
    have mL := method_less ⟨bq, 0, none⟩ _ wr hqr
    by_cases hk0 : 0 < k
    · have hne0 : (((k : Int) - 1) / 2 == (k : Int)) = false := by rw [beq_eq_false_iff_ne]; omega
      have ecast : ((k : Int) - 1) / 2 = (p : Int) := by have := HPP.out; omega
      have HE : Hid (((k : Int) - 1) / 2 = (p : Int)) := ecast
      clear ecast
      go_wp2_with fail
      rw [HE.out]
      refine (less_any bi cap n M H1.out rest k p _ _ HS.out.2 HS.out.1 wr HB.out).mono ?_
      rintro e w1 ⟨rfl, hb1⟩
      cases hl : (at0 M k).lt (at0 M p)
      · clear mL
        go_wp2_with fail
        go_end0
        exact ⟨rfl, HO.out.trans (Only.below hb1), M, HP.out, HB.out.only (Only.below (F := fun _ => False) hb1) (fun h => h), Hp.up_done HU.out (Or.inr (HPP.out ▸ hl))⟩
      · clear mL
        have hq1 : w1.cell? ⟨bq, 0, none⟩ = some (.slice (some ⟨bi, 0, none⟩) n cap) := by
          rw [← hqr]; exact hb1.cell hql'
        have mS := method_swap ⟨bq, 0, none⟩ _ w1 hq1
        have HB1 : Hid (Blk w1 bi 58 (flat M ++ rest)) := HB.out.below hb1 HB.out.lt
        clear hqr
        go_wp2_with fail
        refine (swap_any bi cap n M H1.out rest p k _ _ HS.out.1 HS.out.2 w1 HB1.out).mono ?_
        rintro e w2 ⟨rfl, ho2, hB2⟩
        clear mS hq1
        go_wp2_with fail
        go_roundw
        case rel =>
          have l1 := H1.out
          have l2 := HPP.out
          refine ⟨p, Hp.swapl M default p k, by omega, rfl, (Hp.perm_swapl M default _ _ (by omega) (by omega)).trans HP.out, ?_, hB2, ?_⟩
          · exact (HO.out.trans (Only.below hb1)).trans ho2
          · show Hp.UpInv _ (Hp.at_ _ _) _ _
            rw [Hp.at_swapl M default _ _ (by omega) (by omega), l2]
            exact Hp.up_step ordItem HU.out hk0 hk (l2 ▸ hl)
        case measure => have l2 := HPP.out; simp [intOf]; omega
    · obtain rfl : k = 0 := by omega
      go_wp2_with fail
      go_end0
      exact ⟨rfl, HO.out, M, HP.out, HB.out, Hp.up_done HU.out (Or.inl rfl)⟩

end Go.Proofs.Ytdbpcogbednokaa
