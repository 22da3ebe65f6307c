/-
  The law QueueOrders: its walk.
-/
import Derived.Test.YtdbpcogbednokaaWaits
namespace Go.Proofs.Ytdbpcogbednokaa
open Go.RowKit

set_option maxHeartbeats 1000000 in
theorem orders_long (a : Option Addr) (len cap : Nat) (w : World) (hlong : (300 : Int) < (len : Int)) :
    Calls Try.prog 3 #[.slice a len cap] w (Gives (.bool true) fun w' => Below w.heap.size w w') := by
  go_enter Try.func3, Try.ntmps3
  go_wp2_with (go_at_call 8; refine (lives_any _).mono ?_; rintro e w1 ⟨rfl, hb1⟩)
  go_ret
  rename_i wa hba
  exact ⟨rfl, hba.trans (hb1.mono hba.size)⟩

set_option maxHeartbeats 1000000 in
theorem orders_zero (a : Option Addr) (cap : Nat) (w : World) :
    Calls Try.prog 3 #[.slice a (0 : Nat) cap] w (Gives (.bool true) fun w' => Below w.heap.size w w') := by
  go_enter Try.func3, Try.ntmps3
  go_wp2_with fail
  refine (lives_any _).mono ?_
  rintro e w1 ⟨rfl, hb1⟩
  go_wp2_with fail
  refine (new_b w1).mono ?_
  rintro e w2 ⟨rfl, hb2, hQ2⟩
  have HQ2 := Lib.hid hQ2
  clear hQ2
  go_wp2_with fail
  refine wp_loop_rounds 1 ?_
  rw [rounds_succ]
  go_wp2_with fail
  refine wp_loop_rounds 1 ?_
  rw [rounds_succ]
  go_wp2_with fail
  refine (next_none 1099511627776 HQ2.out.1).mono ?_
  rintro e w2 ⟨rfl, rfl⟩
  go_wp2_with fail
  refine (qlen_any HQ2.out.1).mono ?_
  rintro e w2 ⟨rfl, rfl⟩
  go_wp2_with fail
  go_ret
  exact ⟨rfl, hb1.trans (hb2.mono hb1.size)⟩

set_option maxRecDepth 100000 in
set_option maxHeartbeats 2000000 in
theorem orders_some (b off len cap : Nat) (zs : List Int) (w : World) (hlong : ¬ (300 : Int) < (len : Int))
    (hbw : b < w.heap.size) (hcell : ∀ i, i < len → w.cell? ⟨b, off + i, none⟩ = some (.int .i64 (zs.getD i 0))) :
    Calls Try.prog 3 #[.slice (some ⟨b, off, none⟩) len cap] w (Gives (.bool true) fun w' => Below w.heap.size w w') := by
  go_enter Try.func3, Try.ntmps3
  go_wp2_with fail
  refine (lives_any _).mono ?_
  rintro e w1 ⟨rfl, hb1⟩
  go_wp2_with fail
  refine (new_b w1).mono ?_
  rintro e w2 ⟨rfl, hb2, hQ2⟩
  obtain ⟨B, hB⟩ : ∃ B, w1.heap.size = B := ⟨_, rfl⟩
  rw [hB] at hQ2 hb2 ⊢
  have HQ2 := Lib.hid hQ2
  have HB := Lib.hid hB
  have hbB : w.heap.size ≤ B := by rw [← hB]; exact hb1.size
  have HB2 := Lib.hid (hb1.trans (hb2.mono hbB))
  clear hQ2 hB hb1 hb2
  go_wp2_with fail
  go_loopw [4, 24] (fun all v wr => ∃ k m : Nat, k ≤ len ∧ v = .int .i64 k ∧ all = .int .i64 (puts zs k).length ∧ m ≤ k ∧ Hid (QB B B (puts zs k) m wr) ∧ Hid (Below w.heap.size w wr)) (fun _ v _ => len - (intOf v).toNat)
  case atStart => exact ⟨0, 0, by omega, rfl, rfl, by omega, HQ2.out, HB2.out⟩
  case round =>
    obtain ⟨k, m, hk, rfl, rfl, hm, HQ, HW⟩ := hrel
    have hl1 := length_puts zs k
    by_cases hlt : (k : Int) < (len : Int)
    · obtain ⟨z, hz⟩ : ∃ z, zs.getD k 0 = z := ⟨_, rfl⟩
      have hck : wr.cell? ⟨b, off + k, none⟩ = some (.int .i64 z) := by
        rw [← hz, ← hcell k (by omega)]; exact HW.out.cell hbw
      have HZ := Lib.hid hz
      clear hz
      by_cases h0 : z < 0 ∨ 1099511627776 < z
      · have HE : Hid (puts zs (k + 1) = puts zs k) := by
          show _ = _
          rw [puts, HZ.out, if_neg (by rw [okDue_iff]; omega)]
        go_wp2_with fail
        refine (put_range B z k wr h0).mono ?_
        rintro e wr ⟨rfl, rfl⟩
        go_wp2_with fail
        go_roundw
        case rel => exact ⟨k + 1, m, by omega, by go_num, by rw [HE.out], by omega, by rw [HE.out]; exact HQ.out, HW.out⟩
        case measure => simp [intOf]; omega
      · have HE : Hid (puts zs (k + 1) = ins z k (puts zs k)) := by
          show _ = _
          rw [puts, HZ.out, if_pos (by rw [okDue_iff]; omega)]
        have HL : Hid ((puts zs (k + 1)).length = (puts zs k).length + 1) := by
          show _ = _
          rw [HE.out, length_ins]
        go_wp2_with fail
        refine (put_b z k (by omega) (by omega) HQ.out (by omega) (by omega)).mono ?_
        rintro e w3 ⟨rfl, hb3, hQ3⟩
        have HQ3 := Lib.hid hQ3
        have HB3 := Lib.hid (HW.out.trans (hb3.mono hbB))
        clear hQ3 hb3
        go_wp2_with fail
        go_roundw
        case rel => exact ⟨k + 1, m + 1, by omega, by go_num, by rw [HL.out]; go_num, by omega, by rw [HE.out]; exact HQ3.out, HB3.out⟩
        case measure => simp [intOf]; omega
    · obtain rfl : k = len := by omega
      obtain ⟨S0, hS0⟩ : ∃ S, puts zs k = S := ⟨_, rfl⟩
      have hpre := pre_puts zs k
      have hmem := mem_puts zs k
      rw [hS0] at hpre hmem hl1 HQ ⊢
      have HPM := Lib.hid (And.intro hpre hmem)
      clear hpre hmem hS0 hlt
      obtain ⟨all, hall⟩ : ∃ n : Nat, S0.length = n := ⟨_, rfl⟩
      rw [hall] at hl1 ⊢
      have HEA := Lib.hid hall
      clear hall
      go_wp2_with fail
      go_loopw [7, 8, 38] (fun vl va v wr => ∃ (j : Nat) (S : List (Int × Int)) (l a : Int), j ≤ all ∧ v = .int .i64 j ∧ vl = .int .i64 l ∧ va = .int .i64 a ∧ Hid (QB B B S m wr) ∧ Hid (Below w.heap.size w wr) ∧ Hid (S.Pairwise Pre ∧ (∀ e ∈ S, e ∈ S0 ∧ Pre (l, a) e) ∧ S.length + j = all)) (fun _ _ v _ => all - (intOf v).toNat)
      case atStart =>
        refine ⟨0, S0, -1, -1, by omega, rfl, rfl, rfl, HQ.out, HW.out, HPM.out.1, fun e h => ⟨h, ?_⟩, by have := HEA.out; omega⟩
        obtain ⟨i, hi, rfl, hok⟩ := HPM.out.2 e h
        rw [okDue_iff] at hok
        exact .inl (by show (-1 : Int) < zs.getD i 0; omega)
      case round =>
        obtain ⟨j, S, l, a, hj, rfl, rfl, rfl, HQ, HW, HP⟩ := hrel
        by_cases hlt : (j : Int) < (all : Int)
        · obtain ⟨⟨d, x⟩, S', rfl⟩ : ∃ e S', S = e :: S' := by
            match S, HP with
            | [], HP => exfalso; have := HP.out.2.2; simp at this; omega
            | e :: S', _ => exact ⟨e, S', rfl⟩
          have hP := HP.out
          obtain ⟨i, hik, hdx, hok⟩ := HPM.out.2 (d, x) (hP.2.1 (d, x) (by simp)).1
          have hpr := (hP.2.1 (d, x) (by simp)).2
          simp only [Prod.mk.injEq] at hdx
          obtain ⟨hd, rfl⟩ := hdx
          have hP' : S'.Pairwise Pre ∧ (∀ e ∈ S', e ∈ S0 ∧ Pre (d, (i : Int)) e) ∧ S'.length + (j + 1) = all := ⟨(List.pairwise_cons.1 hP.1).2, fun e he => ⟨(hP.2.1 e (by simp [he])).1, (List.pairwise_cons.1 hP.1).1 e he⟩, by have := hP.2.2; simp at this; omega⟩
          have HP' := Lib.hid hP'
          rw [← hd, okDue_iff] at hok
          have hci : wr.cell? ⟨b, off + i, none⟩ = some (.int .i64 d) := by
            rw [hd, ← hcell i hik]; exact HW.out.cell hbw
          have hdm : d ≤ 1099511627776 := hok.2
          have hik' : (i : Int) < (k : Int) := by omega
          unfold Pre at hpr
          simp only at hpr
          clear hP hP' hok hd
          rcases hpr with hpr | ⟨rfl, hpr⟩
          · have hnl : ¬ d < l := by omega
            have hne : (d == l) = false := by rw [beq_eq_false_iff_ne]; omega
            go_wp2_with fail
            refine (next_b 1099511627776 hdm HQ.out).mono ?_
            rintro e w4 ⟨rfl, hb4, hQ4⟩
            have HQ4 := Lib.hid hQ4
            have hci4 : w4.cell? ⟨b, off + i, none⟩ = some (.int .i64 d) := by
              rw [← hci]; exact hb4.cell (by show b < B; omega)
            have HB4 := Lib.hid (HW.out.trans (hb4.mono hbB))
            clear hQ4 hb4 hci
            go_wp2_with fail
            go_roundw
            case rel => exact ⟨j + 1, S', d, i, by omega, by go_num, rfl, rfl, HQ4.out, HB4.out, HP'.out⟩
            case measure => simp [intOf]; omega
          · have hne : (l == l) = true := by simp
            have hnl : ¬ ((i : Int) ≤ a) := by omega
            go_wp2_with fail
            refine (next_b 1099511627776 hdm HQ.out).mono ?_
            rintro e w4 ⟨rfl, hb4, hQ4⟩
            have HQ4 := Lib.hid hQ4
            have hci4 : w4.cell? ⟨b, off + i, none⟩ = some (.int .i64 l) := by
              rw [← hci]; exact hb4.cell (by show b < B; omega)
            have HB4 := Lib.hid (HW.out.trans (hb4.mono hbB))
            clear hQ4 hb4 hci
            go_wp2_with fail
            go_roundw
            case rel => exact ⟨j + 1, S', l, i, by omega, by go_num, rfl, rfl, HQ4.out, HB4.out, HP'.out⟩
            case measure => simp [intOf]; omega
        · obtain rfl : j = all := by omega
          clear hlt
          obtain rfl : S = [] := List.eq_nil_of_length_eq_zero (by have := HP.out.2.2; omega)
          go_wp2_with fail
          refine (next_none 1099511627776 HQ.out.1).mono ?_
          rintro e wr ⟨rfl, rfl⟩
          go_wp2_with fail
          refine (qlen_any HQ.out.1).mono ?_
          rintro e wr ⟨rfl, rfl⟩
          go_wp2_with fail
          go_ret
          exact ⟨by simp, HW.out⟩

theorem orders_any (a : Option Addr) (len cap : Nat) (zs : List Int) (w : World) (hI : Ints w a len zs) :
    Calls Try.prog 3 #[.slice a len cap] w (Gives (.bool true) fun w' => Below w.heap.size w w') := by
  by_cases hlong : (300 : Int) < (len : Int)
  · exact orders_long a len cap w hlong
  rcases hI with rfl | ⟨b, off, rfl, hbw, hcell⟩
  · exact orders_zero a cap w
  · exact orders_some b off len cap zs w hlong hbw hcell

end Go.Proofs.Ytdbpcogbednokaa
