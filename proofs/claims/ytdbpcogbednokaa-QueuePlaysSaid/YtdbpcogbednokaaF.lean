/-
  container/heap's Push and Pop over the queue's items.
-/
import Derived.Test.YtdbpcogbednokaaD
import Derived.Test.YtdbpcogbednokaaE
namespace Go.Proofs.Ytdbpcogbednokaa
open Go.RowKit

/-- The queue behind bq: its items lie as a heap; all its blocks are of the set F. -/
structure QRaw (F : Nat → Prop) (bq : Nat) (v : Value) (L : List Item) (last : Int) (w : World) : Prop where
  blk : Blk w bq 54 [v, .int .i64 last]
  own : w.ownsRow 0 58 3 v L.length (flat L)
  ne : ∀ k, v.ownBlock = some k → k ≠ bq
  mine : F bq ∧ ∀ k, v.ownBlock = some k → F k
  heap : Hp.IsHeap Item.lt (at0 L) L.length

def HeapPushed (F : Nat → Prop) (bq : Nat) (L : List Item) (last : Int) (a : Item) (w : World) (e : Ending) (w' : World) : Prop :=
  e = .returned (.tuple #[]) ∧ Only F w w' ∧ ∃ v' L', L'.Perm (L ++ [a]) ∧ QRaw (fun k => F k ∨ w.heap.size ≤ k) bq v' L' last w'

theorem heap_append (L : List Item) (a : Item) (h : Hp.IsHeap Item.lt (at0 L) L.length) : Hp.UpInv Item.lt (at0 (L ++ [a])) (L.length + 1) L.length := by
  refine Hp.up_start ?_ rfl
  intro i hi hn
  have e : ∀ k, k < L.length → at0 (L ++ [a]) k = at0 L k := by
    intro k hk
    simp only [at0, Hp.at_, List.getD_eq_getElem?_getD]
    rw [List.getElem?_append_left hk]
  rw [e i hn, e _ (by omega)]
  exact h i hi hn

set_option maxRecDepth 100000 in
set_option maxHeartbeats 1000000 in
theorem heap_push (F : Nat → Prop) (bq : Nat) (v : Value) (L : List Item) (last : Int) (a : Item) (w : World) (hQ : QRaw F bq v L last w) (hlen : (L.length : Int) ≤ 99999) :
    Calls Try.prog 24 #[.iface 56 (.pointer (some ⟨bq, 0, none⟩)), .iface 58 (.agg #[.int .i64 a.due, .int .i64 a.num, .int .i64 a.x])] w (HeapPushed F bq L last a w) := by
  obtain ⟨n, hn⟩ : ∃ n, L.length = n := ⟨_, rfl⟩
  have mP := method_push ⟨bq, 0, none⟩ w
  have hln : (n : Int) ≤ 99999 := by omega
  have HQ := Lib.hid hQ
  have HN := Lib.hid hn
  clear hQ hn hlen
  go_enter Try.func24, Try.ntmps24
  go_wp2_with fail
  refine (push_any bq n v L last a HN.out w (by omega) HQ.out.blk HQ.out.ne (HN.out ▸ HQ.out.own)).mono ?_
  rintro e w1 ⟨rfl, v1, hP⟩
  obtain ⟨_, ⟨_, h0, _⟩ | ⟨g, cap, rest, rfl, _, hB1, hn1, hc1, hl1⟩⟩ := own_elim hP.own
  · exfalso; omega
  have q1 : w1.cell? ⟨bq, 0, none⟩ = some (.slice (some ⟨g, 0, none⟩) (n + 1 : Nat) cap) := hP.blk.cell 0
  have mL := method_len ⟨bq, 0, none⟩ _ w1 q1
  have HP := Lib.hid hP
  have HB1 := Lib.hid hB1
  have HL1 := Lib.hid hl1
  have HQ1 := Lib.hid q1
  clear hP hB1 hl1 mP q1
  go_wp2_with fail
  refine (len_any _ _ _ _).mono ?_
  rintro e w1 ⟨rfl, rfl⟩
  clear mL
  go_wp2_with fail
  have hge := HP.out.ne g rfl
  have hlen1 : (L ++ [a]).length = n + 1 := by simp [HN.out]
  refine (up_any bq g cap (n + 1) (L ++ [a]) rest n hlen1 (by omega) w1 (Ne.symm hge) (by omega) HQ1.out HP.out.blk.lt HB1.out (by have := heap_append L a HQ.out.heap; rw [HN.out] at this; exact this)).mono ?_
  rintro e w2 ⟨rfl, ho2, L', hperm, hB2, hh2⟩
  go_wp2_with fail
  go_end0
  have hl' : L'.length = n + 1 := by rw [hperm.length_eq]; exact hlen1
  refine ⟨rfl, ?_, .slice (some ⟨g, 0, none⟩) (n + 1 : Nat) cap, L', hperm, ?_, ?_, HP.out.ne, ⟨.inl HQ.out.mine.1, ?_⟩, ?_⟩
  · refine (HP.out.only.mono ?_).trans' ho2 ?_
    · rintro k (rfl | hk)
      · exact HQ.out.mine.1
      · exact HQ.out.mine.2 k hk
    · rintro k rfl hk
      rcases HP.out.fresh k rfl with h | h
      · exact HQ.out.mine.2 k h
      · omega
  · exact HP.out.blk.only ho2 (Ne.symm hge)
  · have hx : (flat L').length = (n + 1) * 3 := by rw [length_flat, hl']
    rw [hl']
    refine own_intro (Nat.zero_le _) hB2 hn1 hc1 ?_ hx
    have := HL1.out
    rw [List.length_append] at this ⊢
    rw [length_flat] at this
    rw [hx]
    rw [hlen1] at this
    exact this
  · intro k hk
    rcases HP.out.fresh k hk with h | h
    · exact .inl (HQ.out.mine.2 k h)
    · exact .inr h
  · rw [hl']; exact hh2


/-- heap.Pop: the item at the root has gone. -/
def HeapPopped (F : Nat → Prop) (bq : Nat) (L : List Item) (last : Int) (w : World) (e : Ending) (w' : World) : Prop :=
  (∃ x, e = .returned x) ∧ Only F w w' ∧ ∃ v' L', L.Perm (at0 L 0 :: L') ∧ QRaw F bq v' L' last w'

theorem drop_last {L : List Item} {n : Nat} (h : L.length = n + 1) : L = L.take n ++ [at0 L n] := by
  have : n < L.length := by omega
  rw [show at0 L n = L[n] by simp [at0, Hp.at_, this], List.take_append_getElem this, ← h, List.take_length]

set_option maxRecDepth 100000 in
set_option maxHeartbeats 1000000 in
theorem heap_pop (F : Nat → Prop) (bq : Nat) (v : Value) (L : List Item) (last : Int) (w : World) (hQ : QRaw F bq v L last w) (hlen : (L.length : Int) ≤ 99999) (hpos : 0 < L.length) :
    Calls Try.prog 25 #[.iface 56 (.pointer (some ⟨bq, 0, none⟩))] w (HeapPopped F bq L last w) := by
  obtain ⟨n, hn⟩ : ∃ n, L.length = n + 1 := ⟨L.length - 1, by omega⟩
  have hln : (n : Int) ≤ 99998 := by omega
  obtain ⟨_, ⟨_, h0, _⟩ | ⟨g, cap, rest, rfl, _, hB, hn1, hc1, hl1⟩⟩ := own_elim hQ.own
  · exfalso; omega
  rw [hn] at hn1
  have hBl := hQ.blk
  rw [hn] at hBl
  have q0 : w.cell? ⟨bq, 0, none⟩ = some (.slice (some ⟨g, 0, none⟩) (n + 1 : Nat) cap) := hBl.cell 0
  have mL := method_len ⟨bq, 0, none⟩ _ w q0
  have mS := method_swap ⟨bq, 0, none⟩ _ w q0
  have HQ := Lib.hid hQ
  have HBL := Lib.hid hBl
  have HN := Lib.hid hn
  have HB := Lib.hid hB
  have HL := Lib.hid hl1
  have Hq := Lib.hid q0
  have hgne : g ≠ bq := hQ.ne g rfl
  clear hQ hn hlen hB hl1 hpos hBl q0
  go_enter Try.func25, Try.ntmps25
  go_wp2_with fail
  refine (len_any _ _ _ _).mono ?_
  rintro e w ⟨rfl, rfl⟩
  go_wp2_with fail
  have hl0 := HN.out
  refine (swap_any g cap (n + 1) L hl0 rest 0 n _ _ (some_at0 (by omega)) (some_at0 (by omega)) w HB.out).mono ?_
  rintro e w1 ⟨rfl, ho1, hB1⟩
  clear mL mS hl0
  go_wp2_with fail
  have hq1 : w1.cell? ⟨bq, 0, none⟩ = some (.slice (some ⟨g, 0, none⟩) (n + 1 : Nat) cap) := by
    rw [← Hq.out]; exact World.cell?_of_block (ho1.block bq HBL.out.lt (Ne.symm hgne))
  have hl0 := HN.out
  have hdi : Hp.DownInv Item.lt (at0 (Hp.swapl L default 0 n)) n 0 0 := by
    refine Hp.down_start ?_
    show Hp.HeapFrom _ (Hp.at_ _ _) _ _
    rw [Hp.at_swapl L default 0 n (by omega) (by omega)]
    intro c hc hcn hi
    unfold Hp.swapf
    rw [if_neg (by omega), if_neg (by omega), if_neg (by omega), if_neg (by omega)]
    exact HQ.out.heap c hc (by omega)
  refine (down_any bq g cap (n + 1) n 0 (Hp.swapl L default 0 n) rest (by rw [Hp.length_swapl]; exact hl0) (by omega) w1 (Ne.symm hgne) (by omega) (by omega) hq1 (Nat.lt_of_lt_of_le HBL.out.lt ho1.size) hB1 hdi).mono ?_
  rintro e w2 ⟨b, rfl, M, hS⟩
  have HS := Lib.hid hS
  have HO1 := Lib.hid ho1
  clear hS hdi hq1 hl0 ho1 hB1
  go_wp2_with fail
  have hlM : M.length = n + 1 := by rw [HS.out.perm.length_eq, Hp.length_swapl]; exact HN.out
  have hM := drop_last hlM
  have hBM := HS.out.blk
  rw [hM] at hBM
  have hQ2 : Blk w2 bq 54 [.slice (some ⟨g, 0, none⟩) (n + 1 : Nat) cap, .int .i64 last] := (HBL.out.only HO1.out (Ne.symm hgne)).only HS.out.only (Ne.symm hgne)
  refine (pop_any bq g cap n (M.take n) rest last (at0 M n) (by simp; omega) w2 (Ne.symm hgne) (by omega) (by omega) hQ2 hBM).mono ?_
  rintro e w3 ⟨rfl, ho3, hQ3⟩
  have HM := Lib.hid hM
  have HBM := Lib.hid hBM
  have HLM := Lib.hid hlM
  clear hM hBM hlM hQ2
  go_wp2_with fail
  go_ret
  have hM := HM.out
  have hlM := HLM.out
  have hBM := HBM.out
  have hlT : (M.take n).length = n := by simp; omega
  have hn0 : at0 M n = at0 L 0 := by
    have h1 := HS.out.beyond n (Nat.le_refl _)
    have h2 := some_at0 (L := M) (i := n) (by omega)
    have h3 := some_at0 (L := Hp.swapl L default 0 n) (i := n) (by rw [Hp.length_swapl, HN.out]; omega)
    rw [h2, h3] at h1
    have h4 : at0 M n = at0 (Hp.swapl L default 0 n) n := by simpa using h1
    rw [h4]
    show Hp.at_ _ _ _ = _
    rw [Hp.at_swapl L default 0 n (by have := HN.out; omega) (by have := HN.out; omega)]
    unfold Hp.swapf
    by_cases e : n = 0
    · subst e; simp
    · rw [if_neg e, if_pos rfl]
  refine ⟨⟨_, rfl⟩, ?_, .slice (some ⟨g, 0, none⟩) n cap, M.take n, ?_, hQ3, ?_, HQ.out.ne, HQ.out.mine, ?_⟩
  · have hF : F g := HQ.out.mine.2 g rfl
    refine ((HO1.out.mono ?_).trans (HS.out.only.mono ?_)).trans (ho3.mono ?_)
    · rintro k rfl; exact hF
    · rintro k rfl; exact hF
    · rintro k rfl; exact HQ.out.mine.1
  · have hp : M.Perm L := HS.out.perm.trans (Hp.perm_swapl L default 0 n (by have := HN.out; omega) (by have := HN.out; omega))
    refine hp.symm.trans ?_
    rw [hn0] at hM
    conv => lhs; rw [hM]
    exact List.perm_append_comm
  · rw [hlT]
    have hx : (flat (M.take n)).length = n * 3 := by rw [length_flat, hlT]
    have hb : Blk w3 g 58 (flat (M.take n) ++ ((at0 M n).enc ++ rest)) := by
      have := hBM.only ho3 hgne
      rw [flat_append] at this
      simpa [flat] using this
    refine own_intro (Nat.zero_le _) hb (by omega) hc1 ?_ hx
    have h1 := HL.out
    rw [List.length_append, length_flat, HN.out] at h1
    simp only [List.length_append, hx, Item.enc, List.length_cons, List.length_nil]
    omega
  · rw [hlT]
    intro i hi hin
    have e : ∀ k, k < n → at0 (M.take n) k = at0 M k := by
      intro k hk
      simp only [at0, Hp.at_, List.getD_eq_getElem?_getD, List.getElem?_take]
      rw [if_pos hk]
    rw [e i hin, e _ (by omega)]
    exact HS.out.heap i hi hin (Nat.zero_le _)

end Go.Proofs.Ytdbpcogbednokaa
