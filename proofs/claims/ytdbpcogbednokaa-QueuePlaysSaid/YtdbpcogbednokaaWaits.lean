/-
  The law QueueWaits: its walk.
-/
import Derived.Test.YtdbpcogbednokaaLv
import Derived.Test.YtdbpcogbednokaaPl
import Derived.LoopN
namespace Go.Proofs.Ytdbpcogbednokaa
open Go.RowKit

/-- A slice of integers that is only read: its length's cells, if it has any. -/
def Ints (w : World) (a : Option Addr) (len : Nat) (zs : List Int) : Prop :=
  len = 0 ∨ ∃ b off, a = some ⟨b, off, none⟩ ∧ b < w.heap.size ∧ ∀ i, i < len → w.cell? ⟨b, off + i, none⟩ = some (.int .i64 (zs.getD i 0))

theorem ints_of {w : World} {a : Option Addr} {len cap : Nat} {zs : List Int}
    (h : (a = none ∧ len = 0 ∧ cap = 0 ∧ zs = []) ∨ ∃ x, a = some x ∧ len ≤ cap ∧ cap ≤ maxLen ∧ zs.length = cap ∧ (∀ i, i < zs.length → w.cell? (x.add i) = some (.int .i64 (zs.getD i 0))) ∧ ∀ n ∈ zs, (Lit.int .i64 n).wf = true) :
    Ints w a len zs := by
  rcases h with ⟨_, h, _, _⟩ | ⟨x, rfl, hl, hm, hz, hc, _⟩
  · exact .inl h
  · by_cases h0 : len = 0
    · exact .inl h0
    · obtain ⟨b, off, rfl, hcell⟩ := ints_at hc (by omega)
      exact .inr ⟨b, off, rfl, World.block_lt_of_cell? w ⟨b, off + 0, none⟩ (hcell 0 (by omega)), fun i hi => hcell i (by omega)⟩

theorem bd_of_wf {x : Int} (h : (Lit.int .i64 x).wf = true) : -9223372036854775808 ≤ x ∧ x ≤ 9223372036854775807 := by
  simp [Lit.wf, IntKind.min, IntKind.max, IntKind.signed, IntKind.bits] at h
  exact ⟨by omega, by omega⟩

theorem okDue_iff (d : Int) : okDue d = true ↔ 0 ≤ d ∧ d ≤ 1099511627776 := by simp [okDue]

set_option maxHeartbeats 1000000 in
theorem waits_long (a : Option Addr) (len cap : Nat) (now : Int) (w : World) (hlong : (300 : Int) < (len : Int)) :
    Calls Try.prog 4 #[.slice a len cap, .int .i64 now] w (Gives (.bool true) fun w' => Below w.heap.size w w') := by
  go_enter Try.func4, Try.ntmps4
  go_wp2_with (go_at_call 8; refine (lives_any _).mono ?_; rintro e w1 ⟨rfl, hb1⟩)
  go_ret
  rename_i wa hba
  exact ⟨rfl, hba.trans (hb1.mono hba.size)⟩

set_option maxHeartbeats 1000000 in
theorem waits_zero (a : Option Addr) (cap : Nat) (now : Int) (w : World) :
    Calls Try.prog 4 #[.slice a (0 : Nat) cap, .int .i64 now] w (Gives (.bool true) fun w' => Below w.heap.size w w') := by
  go_enter Try.func4, Try.ntmps4
  go_wp2_with fail
  refine (lives_any _).mono ?_
  rintro e w1 ⟨rfl, hb1⟩
  go_wp2_with fail
  refine (new_b w1).mono ?_
  rintro e w2 ⟨rfl, hb2, hQ2⟩
  have HQ2 := Lib.hid hQ2
  clear hQ2
  go_wp2_with fail
  refine wp_loop_rounds 1 ?_
  rw [rounds_succ]
  go_wp2_with fail
  refine wp_loop_rounds 1 ?_
  rw [rounds_succ]
  go_wp2_with fail
  refine (next_none now HQ2.out.1).mono ?_
  rintro e w2 ⟨rfl, rfl⟩
  go_wp2_with fail
  refine (qlen_any HQ2.out.1).mono ?_
  rintro e w2 ⟨rfl, rfl⟩
  go_wp2_with fail
  go_ret
  exact ⟨rfl, hb1.trans (hb2.mono hb1.size)⟩

set_option maxRecDepth 100000 in
set_option maxHeartbeats 2000000 in
theorem waits_some (b off len cap : Nat) (zs : List Int) (now : Int) (w : World) (_hnow : -9223372036854775808 ≤ now ∧ now ≤ 9223372036854775807) (hlong : ¬ (300 : Int) < (len : Int))
    (hbw : b < w.heap.size) (hcell : ∀ i, i < len → w.cell? ⟨b, off + i, none⟩ = some (.int .i64 (zs.getD i 0))) :
    Calls Try.prog 4 #[.slice (some ⟨b, off, none⟩) len cap, .int .i64 now] w (Gives (.bool true) fun w' => Below w.heap.size w w') := by
  go_enter Try.func4, Try.ntmps4
  go_wp2_with fail
  refine (lives_any _).mono ?_
  rintro e w1 ⟨rfl, hb1⟩
  go_wp2_with fail
  refine (new_b w1).mono ?_
  rintro e w2 ⟨rfl, hb2, hQ2⟩
  obtain ⟨B, hB⟩ : ∃ B, w1.heap.size = B := ⟨_, rfl⟩
  rw [hB] at hQ2 hb2 ⊢
  have HQ2 := Lib.hid hQ2
  have HB := Lib.hid hB
  have hbB : w.heap.size ≤ B := by rw [← hB]; exact hb1.size
  have HB2 := Lib.hid (hb1.trans (hb2.mono hbB))
  clear hQ2 hB hb1 hb2
  go_wp2_with fail
  go_loopw [7, 6, 25] (fun all early v wr => ∃ k m : Nat, k ≤ len ∧ v = .int .i64 k ∧ all = .int .i64 (puts zs k).length ∧ early = .int .i64 (soon now (puts zs k)) ∧ m ≤ k ∧ Hid (QB B B (puts zs k) m wr) ∧ Hid (Below w.heap.size w wr)) (fun _ _ v _ => len - (intOf v).toNat)
  case atStart => exact ⟨0, 0, by omega, rfl, rfl, rfl, by omega, HQ2.out, HB2.out⟩
  case round =>
    obtain ⟨k, m, hk, rfl, rfl, rfl, hm, HQ, HW⟩ := hrel
    have hl1 := length_puts zs k
    have hl2 := soon_le now (puts zs k)
    by_cases hlt : (k : Int) < (len : Int)
    · obtain ⟨z, hz⟩ : ∃ z, zs.getD k 0 = z := ⟨_, rfl⟩
      have hck : wr.cell? ⟨b, off + k, none⟩ = some (.int .i64 z) := by
        rw [← hz, ← hcell k (by omega)]; exact HW.out.cell hbw
      have HZ := Lib.hid hz
      clear hz
      by_cases h0 : z < 0 ∨ 1099511627776 < z
      · have HE : Hid (puts zs (k + 1) = puts zs k) := by
          show _ = _
          rw [puts, HZ.out, if_neg (by rw [okDue_iff]; omega)]
        go_wp2_with fail
        refine (put_range B z k wr h0).mono ?_
        rintro e wr ⟨rfl, rfl⟩
        go_wp2_with fail
        go_roundw
        case rel => exact ⟨k + 1, m, by omega, by go_num, by rw [HE.out], by rw [HE.out], by omega, by rw [HE.out]; exact HQ.out, HW.out⟩
        case measure => simp [intOf]; omega
      · have HE : Hid (puts zs (k + 1) = ins z k (puts zs k)) := by
          show _ = _
          rw [puts, HZ.out, if_pos (by rw [okDue_iff]; omega)]
        have HS : Hid (soon now (puts zs (k + 1)) = soon now (puts zs k) + if z ≤ now then 1 else 0) := by
          show _ = _
          rw [HE.out, soon_ins]
        have HL : Hid ((puts zs (k + 1)).length = (puts zs k).length + 1) := by
          show _ = _
          rw [HE.out, length_ins]
        by_cases hzn : z ≤ now
        · go_wp2_with fail
          refine (put_b z k (by omega) (by omega) HQ.out (by omega) (by omega)).mono ?_
          rintro e w3 ⟨rfl, hb3, hQ3⟩
          have HQ3 := Lib.hid hQ3
          have HB3 := Lib.hid (HW.out.trans (hb3.mono hbB))
          clear hQ3 hb3
          go_wp2_with fail
          go_roundw
          case rel => exact ⟨k + 1, m + 1, by omega, by go_num, by rw [HL.out]; go_num, by rw [HS.out, if_pos hzn]; go_num, by omega, by rw [HE.out]; exact HQ3.out, HB3.out⟩
          case measure => simp [intOf]; omega
        · go_wp2_with fail
          refine (put_b z k (by omega) (by omega) HQ.out (by omega) (by omega)).mono ?_
          rintro e w3 ⟨rfl, hb3, hQ3⟩
          have HQ3 := Lib.hid hQ3
          have HB3 := Lib.hid (HW.out.trans (hb3.mono hbB))
          clear hQ3 hb3
          go_wp2_with fail
          go_roundw
          case rel => exact ⟨k + 1, m + 1, by omega, by go_num, by rw [HL.out]; go_num, by rw [HS.out, if_neg (by omega)]; go_num, by omega, by rw [HE.out]; exact HQ3.out, HB3.out⟩
          case measure => simp [intOf]; omega
    · obtain rfl : k = len := by omega
      obtain ⟨S0, hS0⟩ : ∃ S, puts zs k = S := ⟨_, rfl⟩
      have hpre := pre_puts zs k
      have hmem := mem_puts zs k
      rw [hS0] at hpre hmem hl1 hl2 HQ ⊢
      have HPM := Lib.hid (And.intro hpre hmem)
      clear hpre hmem hS0 hlt
      obtain ⟨early, hearly⟩ : ∃ n : Nat, soon now S0 = n := ⟨_, rfl⟩
      obtain ⟨all, hall⟩ : ∃ n : Nat, S0.length = n := ⟨_, rfl⟩
      rw [hearly] at hl2 ⊢
      rw [hall] at hl1 hl2 ⊢
      have HEA := Lib.hid (And.intro hearly hall)
      clear hearly hall
      go_wp2_with fail
      go_loopw [44] (fun v wr => ∃ (j : Nat) (S : List (Int × Int)), j ≤ early ∧ v = .int .i64 j ∧ Hid (QB B B S m wr) ∧ Hid (Below w.heap.size w wr) ∧ Hid (S.Pairwise Pre ∧ (∀ e ∈ S, e ∈ S0) ∧ soon now S + j = early ∧ S.length + j = all)) (fun v _ => early - (intOf v).toNat)
      case atStart => exact ⟨0, S0, by omega, rfl, HQ.out, HW.out, HPM.out.1, fun _ h => h, by have := HEA.out; omega, by have := HEA.out; omega⟩
      case round =>
        obtain ⟨j, S, hj, rfl, HQ, HW, HP⟩ := hrel
        by_cases hlt : (j : Int) < (early : Int)
        · obtain ⟨⟨d, x⟩, S', rfl⟩ : ∃ e S', S = e :: S' := by
            match S, HP with
            | [], HP => exfalso; have := HP.out.2.2.1; simp [soon] at this; omega
            | e :: S', _ => exact ⟨e, S', rfl⟩
          have hP := HP.out
          obtain ⟨hdn, hsn⟩ := soon_head now (d, x) S' hP.1 (by omega)
          obtain ⟨i, hik, hdx, hok⟩ := HPM.out.2 (d, x) (hP.2.1 (d, x) (by simp))
          simp only [Prod.mk.injEq] at hdx
          obtain ⟨hd, rfl⟩ := hdx
          have hP' : S'.Pairwise Pre ∧ (∀ e ∈ S', e ∈ S0) ∧ soon now S' + (j + 1) = early ∧ S'.length + (j + 1) = all := ⟨(List.pairwise_cons.1 hP.1).2, fun e he => hP.2.1 e (by simp [he]), by omega, by have := hP.2.2.2; simp at this; omega⟩
          have HP' := Lib.hid hP'
          have hci : wr.cell? ⟨b, off + i, none⟩ = some (.int .i64 d) := by
            rw [hd, ← hcell i hik]; exact HW.out.cell hbw
          clear hP hP' hsn hok hd
          have hdn' : d ≤ now := hdn
          go_wp2_with fail
          refine (next_b now hdn HQ.out).mono ?_
          rintro e w4 ⟨rfl, hb4, hQ4⟩
          have HQ4 := Lib.hid hQ4
          have hci4 : w4.cell? ⟨b, off + i, none⟩ = some (.int .i64 d) := by
            rw [← hci]; exact hb4.cell (by show b < B; omega)
          have HB4 := Lib.hid (HW.out.trans (hb4.mono hbB))
          clear hQ4 hb4 hci
          have hik' : (i : Int) < (k : Int) := by omega
          go_wp2_with fail
          go_roundw
          case rel => exact ⟨j + 1, S', by omega, by go_num, HQ4.out, HB4.out, HP'.out⟩
          case measure => simp [intOf]; omega
        · obtain rfl : j = early := by omega
          clear hlt
          have hlast : Calls Try.prog 11 #[.pointer (some ⟨B, 0, none⟩), .int .i64 now] wr fun e w' => e = .returned (.tuple #[.int .i64 0, .bool false]) ∧ wr = w' := by
            match S, HQ, HP with
            | [], HQ, HP => exact next_none now HQ.out.1
            | (d, x) :: S, HQ, HP => exact next_early now (soon_none now (d, x) S (by have := HP.out; omega)) HQ.out.1
          have HL := Lib.hid hlast
          clear hlast
          have HN : Hid ((S.length : Int) = (all : Int) - (j : Int)) := by have := HP.out; show _ = _; omega
          go_wp2_with fail
          refine HL.out.mono ?_
          rintro e wr ⟨rfl, rfl⟩
          go_wp2_with fail
          refine (qlen_any HQ.out.1).mono ?_
          rintro e wr ⟨rfl, rfl⟩
          rw [HN.out]
          go_wp2_with fail
          go_ret
          exact ⟨by simp, HW.out⟩

theorem waits_any (a : Option Addr) (len cap : Nat) (zs : List Int) (now : Int) (w : World) (hI : Ints w a len zs) (hnow : -9223372036854775808 ≤ now ∧ now ≤ 9223372036854775807) :
    Calls Try.prog 4 #[.slice a len cap, .int .i64 now] w (Gives (.bool true) fun w' => Below w.heap.size w w') := by
  by_cases hlong : (300 : Int) < (len : Int)
  · exact waits_long a len cap now w hlong
  rcases hI with rfl | ⟨b, off, rfl, hbw, hcell⟩
  · exact waits_zero a cap now w
  · exact waits_some b off len cap zs now w hnow hlong hbw hcell

end Go.Proofs.Ytdbpcogbednokaa
