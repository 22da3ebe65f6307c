/-
  slices.DeleteFunc at the queue's items.
-/
import Derived.Test.YtdbpcogbednokaaDd
set_option linter.unusedVariables false
set_option linter.unusedSimpArgs false
namespace Go.Proofs.Ytdbpcogbednokaa
open Go.RowKit

def kept (ax : Int) (a : Item) : Bool := !same4 a.x ax

/-- What stands in DeleteFunc's loop. -/
structure DelInv (L : List Item) (ax : Int) (n i j : Nat) (M : List Item) : Prop where
  len : M.length = n
  head : M.take i = (L.take j).filter (kept ax)
  tail : ∀ t, j ≤ t → at0 M t = at0 L t

theorem take_succ_at0 {L : List Item} {j : Nat} (h : j < L.length) : L.take (j + 1) = L.take j ++ [at0 L j] := by
  rw [List.take_add_one, some_at0 h]; rfl
theorem at0_set_ne {M : List Item} {i t : Nat} (a : Item) (h : i ≠ t) : at0 (M.set i a) t = at0 M t := by
  simp [at0, Hp.at_, List.getD_eq_getElem?_getD, List.getElem?_set_ne h]

theorem DelInv.start {L : List Item} {ax : Int} {n k : Nat} (hn : L.length = n) (hk : k < L.length) (hs : same4 (at0 L k).x ax = true) (ha : ∀ j, j < k → same4 (at0 L j).x ax = false) : DelInv L ax n k (k + 1) L := by
  refine ⟨hn, ?_, fun _ _ => rfl⟩
  rw [take_succ_at0 hk, List.filter_append]
  have h1 : List.filter (kept ax) [at0 L k] = [] := by simp [kept, hs]
  rw [h1, List.append_nil, List.filter_eq_self.2]
  intro a h
  obtain ⟨j, hj, rfl⟩ := List.getElem_of_mem h
  rw [List.length_take] at hj
  have := ha j (by omega)
  have h2 : at0 L j = (L.take k)[j] := by simp [at0, Hp.at_, List.getD_eq_getElem?_getD, show j < L.length by omega]
  rw [h2] at this
  simp only [kept, this, Bool.not_false]

theorem DelInv.skip {L M : List Item} {ax : Int} {n i j : Nat} (h : DelInv L ax n i j M) (hj : j < L.length) (hs : same4 (at0 L j).x ax = true) : DelInv L ax n i (j + 1) M := by
  refine ⟨h.len, ?_, fun t ht => h.tail t (by omega)⟩
  rw [take_succ_at0 hj, List.filter_append, h.head]
  simp [kept, hs]

theorem DelInv.keep {L M : List Item} {ax : Int} {n i j : Nat} (h : DelInv L ax n i j M) (hij : i < j) (hj : j < L.length) (hjn : j < n) (hs : same4 (at0 L j).x ax = false) : DelInv L ax n (i + 1) (j + 1) (M.set i (at0 L j)) := by
  refine ⟨by rw [List.length_set]; exact h.len, ?_, fun t ht => by rw [at0_set_ne _ (by omega)]; exact h.tail t (by omega)⟩
  rw [take_succ_at0 hj, List.filter_append, take_succ_at0 (by rw [List.length_set, h.len]; omega), List.take_set_of_le (Nat.le_refl _), h.head]
  congr 1
  have : at0 (M.set i (at0 L j)) i = at0 L j := by
    simp [at0, Hp.at_, List.getD_eq_getElem?_getD, List.getElem?_set_self (show i < M.length by rw [h.len]; omega)]
  rw [this]
  simp [kept, hs]

/-- What DeleteFunc leaves: the items that are kept, in their order, and zeros behind them. -/
def Deleted (tot : Nat) (L : List Item) (ax : Int) (g cap : Nat) (w : World) (e : Ending) (w' : World) : Prop :=
  ∃ (K : List Item) (rest' : List Value), K = L.filter (kept ax) ∧ e = .returned (.slice (some ⟨g, 0, none⟩) K.length cap) ∧ Blk w' g 58 (flat K ++ rest') ∧ Only (· = g) w w' ∧ (flat K ++ rest').length = tot

set_option maxRecDepth 100000 in
set_option maxHeartbeats 2000000 in
theorem delete_any (bf ba g n cap : Nat) (ax : Int) (L : List Item) (rest : List Value) (w : World) (hn : L.length = n) (hlen : (n : Int) ≤ 100000) (hcap : n ≤ cap) (hB : Blk w g 58 (flat L ++ rest)) (hC : Clo w bf ba ax) (h1 : bf ≠ g) (h2 : ba ≠ g) :
    Calls Try.prog 32 #[.slice (some ⟨g, 0, none⟩) n cap, .func (.func 33) #[] #[.pointer (some ⟨bf, 0, none⟩)]] w (Deleted (flat L ++ rest).length L ax g cap w) := by
  have HN := Lib.hid hn
  have HB := Lib.hid hB
  have HC := Lib.hid hC
  have hix := index_any bf ba g n cap ax L rest w hn hlen hB hC
  clear hn hB hC
  go_enter Try.func32, Try.ntmps32
  go_wp2_with fail
  refine hix.mono ?_
  rintro e w1 ⟨r, rfl, hf, hb1⟩
  have HB1 := Lib.hid (HB.out.below hb1 HB.out.lt)
  have HC1 := Lib.hid (HC.out.below hb1)
  have HW1 : Hid (Only (· = g) w w1) := Only.below hb1
  clear hix HB HC
  rcases hf with ⟨rfl, hall⟩ | ⟨k, rfl, hk, hs, hall⟩
  · have hself : L.filter (kept ax) = L := by
      rw [List.filter_eq_self]
      intro a h
      obtain ⟨j, hj, rfl⟩ := List.getElem_of_mem h
      have h3 : at0 L j = L[j] := by simp [at0, Hp.at_, List.getD_eq_getElem?_getD, hj]
      have := hall j hj
      rw [h3] at this
      simp [kept, this]
    have HSF := Lib.hid hself
    clear hall hb1 hself
    go_wp2_with fail
    go_ret
    exact ⟨L, rest, HSF.out.symm, by rw [HN.out]; rfl, HB1.out, HW1.out, rfl⟩
  · have hne : ((k : Int) == -1) = false := by rw [beq_eq_false_iff_ne]; omega
    have HI : Hid (DelInv L ax n k (k + 1) L) := DelInv.start HN.out hk hs hall
    have hkn : k < n := by rw [← HN.out]; exact hk
    clear hall hs hk hb1
    go_wp2_with fail
    go_loopw [5, 6] (fun u v wr => ∃ (i j : Nat) (M : List Item), i < j ∧ j ≤ n ∧ u = .int .i64 i ∧ v = .int .i64 j ∧ Hid (DelInv L ax n i j M) ∧ Hid (Blk wr g 58 (flat M ++ rest)) ∧ Hid (Only (· = g) w wr) ∧ Hid (Clo wr bf ba ax)) (fun _ v _ => n - (intOf v).toNat)
    case atStart => exact ⟨k, k + 1, L, by omega, by omega, rfl, rfl, HI.out, HB1.out, HW1.out, HC1.out⟩
    case round =>
      obtain ⟨i, j, M, hij, hjn, rfl, rfl, HD, HBr, HW, HCr⟩ := hrel
      clear HI HB1 HW1 HC1 hne
      by_cases hlt : (j : Int) < (n : Int)
      · have hjL : j < L.length := by rw [HN.out]; omega
        obtain ⟨p0, p1, p2⟩ := flat_get M rest j _ (some_at0 (by rw [HD.out.len]; omega))
        rw [HD.out.tail j (Nat.le_refl _), ← HBr.out.cell] at p0 p1 p2
        obtain ⟨⟨d, nu, x⟩, hx⟩ : ∃ x, at0 L j = x := ⟨_, rfl⟩
        rw [hx] at p0 p1 p2
        dsimp only at p0 p1 p2
        have HX := Lib.hid hx
        clear hx
        have HC2 : Hid (Clo (wr.alloc (.cells #[.int .i64 d, .int .i64 nu, .int .i64 x] 58)) bf ba ax) := HCr.out.below ((Below.refl _ wr).alloc (Nat.le_refl _) _)
        have hbx : Blk (wr.alloc (.cells #[.int .i64 d, .int .i64 nu, .int .i64 x] 58)) wr.heap.size 58 [.int .i64 d, .int .i64 nu, .int .i64 x] := Blk.new wr [.int .i64 d, .int .i64 nu, .int .i64 x] 58
        have HBX := Lib.hid hbx
        have HBM : Hid (Blk (wr.alloc (.cells #[.int .i64 d, .int .i64 nu, .int .i64 x] 58)) g 58 (flat M ++ rest)) := HBr.out.alloc _
        have HOM : Hid (Only (· = g) w (wr.alloc (.cells #[.int .i64 d, .int .i64 nu, .int .i64 x] 58))) := HW.out.alloc _
        have hgs := HBr.out.lt
        clear hbx
        go_wp2_with fail
        refine (drop1_any bf ba ax d nu x _ HC2.out).mono ?_
        rintro e w3 ⟨rfl, hb3⟩
        have HC3 := Lib.hid (HC2.out.below hb3)
        have HB3 := Lib.hid (HBM.out.below hb3 HBM.out.lt)
        have HO3 : Hid (Only (· = g) w w3) := HOM.out.trans (Only.below hb3)
        have hbx3 := HBX.out.below hb3 HBX.out.lt
        have x0 := hbx3.cell 0
        have x1 := hbx3.cell 1
        have x2 := hbx3.cell 2
        simp only [List.getElem?_cons_zero, List.getElem?_cons_succ] at x0 x1 x2
        clear p0 p1 p2 hb3 hbx3 HBX HBM HOM HC2 HBr HW HCr
        cases hs : same4 x ax
        · have HS : Hid (same4 (at0 L j).x ax = false) := by show _ = _; rw [HX.out]; exact hs
          obtain ⟨q0, q1, q2⟩ := flat_get M rest i _ (some_at0 (by rw [HD.out.len]; omega))
          rw [← HB3.out.cell] at q0 q1 q2
          have f0 := HB3.out.frozen (i * 3)
          have f1 := HB3.out.frozen (i * 3 + 1)
          have f2 := HB3.out.frozen (i * 3 + 2)
          have hin : (i : Int) < (n : Int) := by omega
          have hi0 : (0 : Int) ≤ (i : Int) := by omega
          clear hs
          go_wp2_with fail
          go_roundw
          case rel =>
            refine ⟨i + 1, j + 1, M.set i (at0 L j), by omega, by omega, by go_num, by go_num, HD.out.keep hij hjL (by omega) HS.out, ?_, ?_, ?_⟩
            · have h5 := ((HB3.out.set (i * 3) (.int .i64 d)).set (i * 3 + 1) (.int .i64 nu)).set (i * 3 + 2) (.int .i64 x)
              have h6 := flat_set M rest i ⟨d, nu, x⟩ (by rw [HD.out.len]; omega)
              dsimp only at h6
              rw [h6, ← HX.out] at h5
              exact h5
            · exact ((HO3.out.setCell (fun _ => rfl) _).setCell (fun _ => rfl) _).setCell (fun _ => rfl) _
            · refine HC3.out.only ((((Only.refl (· = g) w3).setCell (p := ⟨g, i * 3, none⟩) (fun _ => rfl) _).setCell (p := ⟨g, i * 3 + 1, none⟩) (fun _ => rfl) _).setCell (p := ⟨g, i * 3 + 2, none⟩) (fun _ => rfl) _) h1 h2
          case measure => simp [intOf]; omega
        · have HS : Hid (same4 (at0 L j).x ax = true) := by show _ = _; rw [HX.out]; exact hs
          clear hs
          go_wp2_with fail
          go_roundw
          case rel => exact ⟨i, j + 1, M, by omega, by omega, rfl, by go_num, HD.out.skip hjL HS.out, HB3.out, HO3.out, HC3.out⟩
          case measure => simp [intOf]; omega
      · obtain rfl : j = n := by omega
        have hl1 : (flat (M.take i)).length = i * 3 := by rw [length_flat, List.length_take, HD.out.len]; omega
        have hl2 : (flat (M.drop i)).length = (j - i) * 3 := by rw [length_flat, List.length_drop, HD.out.len]
        have hBs : Blk wr g 58 (flat (M.take i) ++ flat (M.drop i) ++ rest) := by rw [← flat_append, List.take_append_drop]; exact HBr.out
        have hcl : ∀ ty, (Builtin.clear_ #[52] ty #[.slice (some ⟨g, i * 3, none⟩) (j - i) (cap - i)]).run Try.prog wr = .ok (.tuple #[]) (wr.setCells g (i * 3) (flat (List.replicate (j - i) zItem))) := fun ty => run_clear_items wr ty g (i * 3) (j - i) (cap - i) (by omega) _ _ _ hBs hl1 hl2
        have HEnd : Hid (Blk (wr.setCells g (i * 3) (flat (List.replicate (j - i) zItem))) g 58 (flat (M.take i) ++ flat (List.replicate (j - i) zItem) ++ rest)) := by
          have := Blk.setCells (flat (List.replicate (j - i) zItem)) _ _ wr hBs (by rw [hl2, length_flat, List.length_replicate])
          rw [hl1] at this
          exact this
        have HOn : Hid (Only (· = g) w (wr.setCells g (i * 3) (flat (List.replicate (j - i) zItem)))) := by
          have : ∀ (vs : List Value) (o : Nat) (W : World), Only (· = g) w W → Only (· = g) w (W.setCells g o vs) := by
            intro vs
            induction vs with
            | nil => intro o W h; exact h
            | cons v vs ih => intro o W h; exact ih _ _ (h.setCell (fun _ => rfl) _)
          exact this _ _ _ HW.out
        have HL1 : Hid ((M.take i).length = i) := by show _ = _; rw [List.length_take, HD.out.len]; omega
        have hcne : ¬ cap = i := by omega
        have hic : (i : Int) ≤ (j : Int) := by omega
        have hic2 : i ≤ cap := by omega
        have hi0 : (0 : Int) ≤ (i : Int) := by omega
        clear hl1 hl2 hBs HBr HW HCr
        go_wp2_with fail
        go_ret
        refine ⟨M.take i, _, ?_, by rw [HL1.out]; rfl, by rw [List.append_assoc] at HEnd; exact HEnd.out, HOn.out, ?_⟩
        · have := HD.out.head
          rwa [List.take_of_length_le (l := L) (by rw [HN.out]; omega)] at this
        · simp only [List.length_append, length_flat, List.length_replicate, HL1.out, HN.out]; omega

end Go.Proofs.Ytdbpcogbednokaa
