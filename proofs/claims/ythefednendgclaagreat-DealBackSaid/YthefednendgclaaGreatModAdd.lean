/-
  The ring's own functions: Add, Sub.
-/
import Derived.Test.YthefednendgclaaGreatModA
set_option linter.unusedVariables false
set_option linter.unusedSimpArgs false
namespace Go.Proofs.YthefednendgclaaGreat
open Go Go.RowKit Sac

theorem BX.sets {w wr : World} {s : Nat} {A B R : Value} (h : BX w wr s A B R) (A' B' : Value) : BX w ((wr.setCell ⟨s, 0, none⟩ A').setCell ⟨s + 1, 0, none⟩ B') s A' B' R := by
  obtain ⟨h1, h2, h3, h4⟩ := h
  have q1 : Blk wr s 36 [A] := h2
  have q2 : Blk wr (s + 1) 36 [B] := h3
  have q3 : Blk wr (s + 1 + 1) 36 [R] := h4
  exact ⟨(h1.setCell (p := ⟨s, 0, none⟩) (Nat.le_refl s) _).setCell (p := ⟨s + 1, 0, none⟩) (by show s ≤ s + 1; omega) _,
    (q1.set 0 A').other ⟨s + 1, 0, none⟩ B' (by show s ≠ s + 1; omega),
    (q2.other ⟨s, 0, none⟩ A' (by show s + 1 ≠ s; omega)).set 0 B',
    (q3.other ⟨s, 0, none⟩ A' (by show s + 1 + 1 ≠ s; omega)).other ⟨s + 1, 0, none⟩ B' (by show s + 1 + 1 ≠ s + 1; omega)⟩
theorem BX.natSets {w wr : World} {s : Nat} {A B R : Value} (h : BX w wr s A B R) {a : Option Addr} {len n : Nat} (hn : NatAt wr a len n) (A' B' : Value) : NatAt ((wr.setCell ⟨s, 0, none⟩ A').setCell ⟨s + 1, 0, none⟩ B') a len n := by
  obtain ⟨h1, h2, h3, h4⟩ := h
  have q1 : Blk wr s 36 [A] := h2
  have q2 : Blk wr (s + 1) 36 [B] := h3
  exact (hn.setCell q1 (by decide) 0 _).setCell (q2.other ⟨s, 0, none⟩ A' (by show s + 1 ≠ s; omega)) (by decide) 0 _
theorem BX.ringSets {w wr : World} {s : Nat} {A B R : Value} (h : BX w wr s A B R) {r m : Nat} (hr : RingAt wr r m) (hrs : r < s) (A' B' : Value) : RingAt ((wr.setCell ⟨s, 0, none⟩ A').setCell ⟨s + 1, 0, none⟩ B') r m := by
  obtain ⟨a, len, cap, h1, h2, h3⟩ := hr
  exact ⟨a, len, cap, (h1.other ⟨s, 0, none⟩ A' (by show r ≠ s; omega)).other ⟨s + 1, 0, none⟩ B' (by show r ≠ s + 1; omega), ⟨h.natSets h2.1 _ _, h2.2⟩, h3⟩

theorem add_pow {n k p q : Nat} (hn : n < W ^ p) (hk : k < W ^ q) : n + k < W ^ (p + q + 1) := by
  have h1 : W ^ p ≤ W ^ (p + q) := Nat.pow_le_pow_right W_pos (by omega)
  have h2 : W ^ q ≤ W ^ (p + q) := Nat.pow_le_pow_right W_pos (by omega)
  have h3 : W ^ (p + q) * 2 ≤ W ^ (p + q) * W := Nat.mul_le_mul_left _ (by unfold W; omega)
  rw [Nat.pow_succ]
  omega
theorem mul_pow {n k p q : Nat} (hn : n < W ^ p) (hk : k < W ^ q) : n * k < W ^ (p + q) := by
  rw [Nat.pow_add]
  exact Nat.mul_lt_mul'' hn hk

set_option maxRecDepth 100000 in
set_option maxHeartbeats 1000000 in
theorem radd_any (r m : Nat) (a b : Option Addr) (len cap lenb capb n k : Nat) (w : World) (h : RingAt w r m) (hn : NatS w a len n) (hk : NatS w b lenb k) :
    Calls Tryz.prog 33 #[.pointer (some ⟨r, 0, none⟩), .agg #[.slice a len cap], .agg #[.slice b lenb capb]] w (RetS ((n + k) % m) w) := by
  have HN := Lib.hid hn
  have HK := Lib.hid hk
  have HR := Lib.hid h
  have hl1 := hn.2
  have hl2 := hk.2
  clear hn hk h
  go_enter Tryz.func33, Tryz.ntmps33
  go_wp2_with fail
  obtain ⟨s, hs⟩ : ∃ s, s = w.heap.size := ⟨_, rfl⟩
  have hbx := BX.make w (.slice a len cap) (.slice b lenb capb) (.slice none 0 0)
  generalize (((w.alloc (Obj.cells #[Value.slice a len cap] 36)).alloc (Obj.cells #[Value.slice b lenb capb] 36)).alloc (Obj.cells #[Value.slice none 0 0] 36)) = w1 at hbx ⊢
  rw [← hs] at hbx ⊢
  have HS := Lib.hid hs
  have HX1 := Lib.hid hbx
  have HN1 := Lib.hid (HN.out.below (hs ▸ hbx.1))
  have HK1 := Lib.hid (HK.out.below (hs ▸ hbx.1))
  have HR1 := Lib.hid (HR.out.below (hs ▸ hbx.1))
  clear hbx hs
  refine (add_any a b len cap lenb capb n k w1 HN1.out.1 HK1.out.1 (by omega) (by omega)).mono ?_
  rintro e w2 ⟨ra, rl, rc, rfl, hA, hb2⟩
  have hrl := hA.fit (add_pow HN1.out.1.lt HK1.out.1.lt)
  have HX2 := Lib.hid (HX1.out.below hb2)
  have HR2 := Lib.hid (HR1.out.below hb2)
  have HA := Lib.hid hA
  clear hA hb2
  go_wp2_with fail
  refine (of_any r m ra rl rc (n + k) w2 HR2.out HA.out (by omega)).mono ?_
  rintro e w3 ⟨sa, sl, sc, rfl, hZ, hb3⟩
  have HX3 := Lib.hid (HX2.out.below hb3)
  have HZ := Lib.hid hZ
  clear hZ hb3
  have cr := HX3.out.2.2.2.cell
  have fr := HX3.out.2.2.2.frozen
  go_wp2_with fail
  have hB : Blk w3 (s + 1 + 1) 36 [.slice none 0 0] := HX3.out.2.2.2
  refine ret_nat rfl rfl (hB.set 0 _) (⟨sa, sl, sc, rfl, ⟨HZ.out.1.setCell hB (by decide) 0 _, HZ.out.2⟩, ?_⟩ : RetS ((n + k) % m) w _ _)
  rw [← HS.out]; exact HX3.out.1.setCell (p := ⟨s + 1 + 1, 0, none⟩) (by show s ≤ s + 1 + 1; omega) _

set_option maxRecDepth 100000 in
set_option maxHeartbeats 1000000 in
theorem rsub_any (r m : Nat) (a b : Option Addr) (len cap lenb capb n k : Nat) (w : World) (h : RingAt w r m) (hn : NatS w a len n) (hk : NatS w b lenb k) :
    Calls Tryz.prog 54 #[.pointer (some ⟨r, 0, none⟩), .agg #[.slice a len cap], .agg #[.slice b lenb capb]] w (RetS (subm m n k) w) := by
  have HN := Lib.hid hn
  have HK := Lib.hid hk
  have HR := Lib.hid h
  have hl1 := hn.2
  have hl2 := hk.2
  clear hn hk h
  go_enter Tryz.func54, Tryz.ntmps54
  go_wp2_with fail
  rename_i Kc hKc
  obtain ⟨s, hs⟩ : ∃ s, s = w.heap.size := ⟨_, rfl⟩
  have hbx := BX.make w (.slice a len cap) (.slice b lenb capb) (.slice none 0 0)
  generalize (((w.alloc (Obj.cells #[Value.slice a len cap] 36)).alloc (Obj.cells #[Value.slice b lenb capb] 36)).alloc (Obj.cells #[Value.slice none 0 0] 36)) = w1 at hbx ⊢
  rw [← hs] at hbx ⊢
  have HS := Lib.hid hs
  have HX1 := Lib.hid hbx
  have HN1 := Lib.hid (HN.out.below (hs ▸ hbx.1))
  have HK1 := Lib.hid (HK.out.below (hs ▸ hbx.1))
  have HR1 := Lib.hid (HR.out.below (hs ▸ hbx.1))
  clear hbx hs
  have ca := HX1.out.2.1.cell
  have cb := HX1.out.2.2.1.cell
  have hrs : r < s := by rw [HS.out]; exact HR.out.lt
  have hk : ∀ (w3 : World) (xa : Option Addr) (xl xc : Nat) (ya : Option Addr) (yl yc : Nat), Hid (BX w w3 s (.slice a len cap) (.slice b lenb capb) (.slice none 0 0)) → Hid (NatS w3 xa xl (n % m)) → Hid (NatS w3 ya yl (k % m)) → Hid (RingAt w3 r m) →
      Kc { tmps := #[Value.pointer (some ⟨r, 0, none⟩), Value.agg #[Value.slice a len cap], Value.agg #[Value.slice b lenb capb], undef, Value.pointer (some ⟨s, 0, none⟩), Value.pointer (some ⟨s + 1, 0, none⟩), Value.pointer (some ⟨s + 1 + 1, 0, none⟩), undef, undef, undef, undef, Value.pointer (some ⟨r, 0, none⟩), Value.agg #[Value.slice a len cap], Value.agg #[Value.slice xa xl xc], Value.pointer (some ⟨r, 0, none⟩), Value.agg #[Value.slice b lenb capb], Value.agg #[Value.slice ya yl yc], undef, undef, undef, undef, undef, undef, undef, undef, undef, undef, undef, undef, undef, undef, undef, undef, undef, undef, undef, undef], defers := [] } ((w3.setCell ⟨s, 0, none⟩ (Value.slice xa xl xc)).setCell ⟨s + 1, 0, none⟩ (Value.slice ya yl yc)) := by
    intro w3 xa xl xc ya yl yc HX3 HZ3 HY HR3
    refine hKc _ _ ?_
    obtain ⟨w4, h4⟩ : ∃ w4, ((w3.setCell ⟨s, 0, none⟩ (Value.slice xa xl xc)).setCell ⟨s + 1, 0, none⟩ (Value.slice ya yl yc)) = w4 := ⟨_, rfl⟩
    have HX4 : Hid (BX w w4 s (.slice xa xl xc) (.slice ya yl yc) (.slice none 0 0)) := by rw [← h4]; exact BX.sets HX3.out _ _
    have HZ4 : Hid (NatS w4 xa xl (n % m)) := by rw [← h4]; exact ⟨BX.natSets HX3.out HZ3.out.1 _ _, HZ3.out.2⟩
    have HY4 : Hid (NatS w4 ya yl (k % m)) := by rw [← h4]; exact ⟨BX.natSets HX3.out HY.out.1 _ _, HY.out.2⟩
    have HR4 : Hid (RingAt w4 r m) := by rw [← h4]; exact BX.ringSets HX3.out HR3.out hrs _ _
    rw [h4]
    clear h4 hKc ca cb
    have ca := HX4.out.2.1.cell
    have cb := HX4.out.2.2.1.cell
    go_wp2_with fail
    refine (sub_any xa ya xl xc yl yc (n % m) (k % m) w4 HZ4.out.1 HY4.out.1 (by have := HZ4.out.2; omega) (by have := HY4.out.2; omega)).mono ?_
    rintro e w5 ⟨da, dl, dc, rfl, hD, hb5⟩
    have HX5 := Lib.hid (HX4.out.below hb5)
    have HZ5 := Lib.hid (HZ4.out.below hb5)
    have HY5 := Lib.hid (HY4.out.below hb5)
    have HR5 := Lib.hid (HR4.out.below hb5)
    have HD := Lib.hid hD
    clear hD hb5 ca cb
    by_cases hle : k % m ≤ n % m
    · have hld : decide (k % m ≤ n % m) = true := by rw [decide_eq_true_iff]; exact hle
      rw [hld]
      have hsm : subm m n k = n % m - k % m := by unfold subm; rw [if_pos hle]
      have HSM := Lib.hid hsm
      clear hle hld hsm
      have cr : ∀ o, (w5.alloc o).cell? ⟨s + 1 + 1, 0, none⟩ = some (.slice none 0 0) := fun o => ((show Blk w5 (s + 1 + 1) 36 [.slice none 0 0] from HX5.out.2.2.2).alloc o).cell 0
      have fr : ∀ o, (w5.alloc o).frozen? ⟨s + 1 + 1, 0, none⟩ = false := fun o => ((show Blk w5 (s + 1 + 1) 36 [.slice none 0 0] from HX5.out.2.2.2).alloc o).frozen 0
      go_wp2_with fail
      have hb : BB w5 (w5.alloc (Obj.cells #[Value.slice da dl dc] 36)) := BB.alloc (BB.refl _)
      have HX6 := HX5.out.below hb
      have hB : Blk (w5.alloc (Obj.cells #[Value.slice da dl dc] 36)) (s + 1 + 1) 36 [.slice none 0 0] := HX6.2.2.2
      refine ret_nat rfl rfl (hB.set 0 _) (⟨da, dl, dc, rfl, ⟨?_, ?_⟩, ?_⟩ : RetS (subm m n k) w _ _)
      · rw [HSM.out]; exact (HD.out.below hb).setCell hB (by decide) 0 _
      · have := HD.out.len_le HZ5.out.1 (by omega); have := HZ5.out.2; omega
      · rw [← HS.out]; exact HX6.1.setCell (p := ⟨s + 1 + 1, 0, none⟩) (by show s ≤ s + 1 + 1; omega) _
    · have hld : decide (k % m ≤ n % m) = false := by rw [decide_eq_false_iff_not]; exact hle
      rw [hld]
      have hsm : subm m n k = n % m + m - k % m := by unfold subm; rw [if_neg hle]
      have HSM := Lib.hid hsm
      have hlt : n % m + m - k % m < m := by have h1 := Nat.mod_lt n (show 0 < m by have := HR5.out.two; omega); omega
      clear hle hld hsm
      go_wp2_with fail
      rename_i Kd hKd
      obtain ⟨w6, hw6⟩ : ∃ w6, (w5.alloc (Obj.cells #[Value.slice da dl dc] 36)) = w6 := ⟨_, rfl⟩
      have hb : BB w5 w6 := hw6 ▸ BB.alloc (BB.refl _)
      have HX6 := Lib.hid (HX5.out.below hb)
      have HZ6 := Lib.hid (HZ5.out.below hb)
      have HY6 := Lib.hid (HY5.out.below hb)
      have HR6 := Lib.hid (HR5.out.below hb)
      rw [hw6]
      clear hw6 hb
      obtain ⟨ma, ml, mc, hRB, hRN, hm2⟩ := HR6.out
      have HRB := Lib.hid hRB
      have HRN := Lib.hid hRN
      clear hRB hRN
      have G1 : ∀ w', BB w6 w' → w'.cell? ⟨s, 0, none⟩ = some (.slice xa xl xc) := fun w' h => (h.cell HX6.out.2.1.lt).trans HX6.out.2.1.cell
      have G2 : ∀ w', BB w6 w' → w'.cell? ⟨s + 1, 0, none⟩ = some (.slice ya yl yc) := fun w' h => (h.cell HX6.out.2.2.1.lt).trans HX6.out.2.2.1.cell
      have G3 : ∀ w', BB w6 w' → w'.cell? ⟨r, 0, none⟩ = some (.slice ma ml mc) := fun w' h => (h.cell HRB.out.lt).trans (HRB.out.cell 0)
      have CC1 : ∀ w', BB w6 w' → Calls Tryz.prog 81 #[.agg #[.slice xa xl xc], .agg #[.slice ma ml mc]] w' (RetNat (n % m + m) w') := fun w' h => add_any xa ma xl xc ml mc (n % m) m w' (HZ6.out.1.below h) (HRN.out.1.below h) (by have := HZ6.out.2; omega) (by have := HRN.out.2; omega)
      have CC2 : ∀ w' (ra : Option Addr) (rl rc : Nat), BB w6 w' → NatAt w' ra rl (n % m + m) → Calls Tryz.prog 86 #[.agg #[.slice ra rl rc], .agg #[.slice ya yl yc]] w' fun e w'' => ∃ za zl zc, e = .returned (.tuple #[.agg #[.slice za zl zc], .bool true]) ∧ NatAt w'' za zl (n % m + m - k % m) ∧ Below w'.heap.size w' w'' := fun w' ra rl rc h hA => by
        have hrl := hA.fit (add_pow HZ6.out.1.lt HRN.out.1.lt)
        have := sub_any ra ya rl rc yl yc (n % m + m) (k % m) w' hA (HY6.out.1.below h) (by have := HZ6.out.2; have := HRN.out.2; omega) (by have := HY6.out.2; omega)
        have hd : decide (k % m ≤ n % m + m) = true := by rw [decide_eq_true_iff]; have := Nat.mod_lt k (show 0 < m by omega); omega
        rwa [hd] at this
      have hk2 : ∀ (Q : Nat) (w9 : World) (za : Option Addr) (zl zc : Nat) (ra : Option Addr) (rl rc : Nat), BB w6 w9 → Blk w9 Q 36 [.slice za zl zc] → NatAt w9 za zl (n % m + m - k % m) →
          Kd { tmps := #[Value.pointer (some ⟨r, 0, none⟩), Value.agg #[Value.slice a len cap], Value.agg #[Value.slice b lenb capb], undef, Value.pointer (some ⟨s, 0, none⟩), Value.pointer (some ⟨s + 1, 0, none⟩), Value.pointer (some ⟨s + 1 + 1, 0, none⟩), Value.pointer (some ⟨w5.heap.size, 0, none⟩), Value.bool false, Value.pointer (some ⟨Q, 0, none⟩), Value.bool true, Value.pointer (some ⟨r, 0, none⟩), Value.agg #[Value.slice a len cap], Value.agg #[Value.slice xa xl xc], Value.pointer (some ⟨r, 0, none⟩), Value.agg #[Value.slice b lenb capb], Value.agg #[Value.slice ya yl yc], Value.tuple #[Value.agg #[Value.slice da dl dc], Value.bool false], Value.agg #[Value.slice xa xl xc], Value.agg #[Value.slice ya yl yc], Value.tuple #[Value.agg #[Value.slice da dl dc], Value.bool false], Value.agg #[Value.slice da dl dc], Value.bool false, Value.bool false, undef, Value.tuple #[Value.agg #[Value.slice za zl zc], Value.bool true], Value.agg #[Value.slice xa xl xc], Value.pointer (some ⟨r, 0, none⟩), Value.pointer (some ⟨r, 0, none⟩), Value.pointer (some ⟨r, 0, none⟩), Value.agg #[Value.slice ma ml mc], Value.agg #[Value.slice ra rl rc], Value.agg #[Value.slice ya yl yc], Value.tuple #[Value.agg #[Value.slice za zl zc], Value.bool true], Value.agg #[Value.slice za zl zc], Value.bool true, undef], defers := [] } w9 := by
        intro Q w9 za zl zc ra rl rc h1 h2 h3
        refine hKd _ _ ?_
        have HX9 := Lib.hid (HX6.out.below h1)
        have HRN9 := Lib.hid (HRN.out.below h1)
        have H3 := Lib.hid h3
        have cq := h2.cell 0
        simp only [List.getElem?_cons_zero] at cq
        have cr := HX9.out.2.2.2.cell
        have fr := HX9.out.2.2.2.frozen
        clear h1 h2 h3 hKd G1 G2 G3 CC1 CC2
        go_wp2_with fail
        have hB : Blk w9 (s + 1 + 1) 36 [.slice none 0 0] := HX9.out.2.2.2
        refine ret_nat rfl rfl (hB.set 0 _) (⟨za, zl, zc, rfl, ⟨?_, ?_⟩, ?_⟩ : RetS (subm m n k) w _ _)
        · rw [HSM.out]; exact H3.out.setCell hB (by decide) 0 _
        · have := H3.out.len_le HRN9.out.1 (by omega); have := HRN9.out.2; omega
        · rw [← HS.out]; exact HX9.out.1.setCell (p := ⟨s + 1 + 1, 0, none⟩) (by show s ≤ s + 1 + 1; omega) _
      clear hKd
      go_region_held3 (fun w' => BB w6 w') (repeat' (first | assumption | exact BB.refl _ | apply BB.drew | apply BB.alloc | (refine BB.setCell ?_ (by first | exact Nat.le_refl _ | (simp; done) | (simp; omega) | omega)) | (refine BB.step ?_ (by assumption))))
        (first
          | (go_at_call 86; have hx := HC7; refine (CC2 w7 ra rl rc (BB.step (BB.drew (BB.alloc (BB.refl _))) HB7.out) HA7.out).mono ?_; rintro e w8 ⟨za, zl, zc, rfl, hZ, hb8⟩; have HZ8 := Lib.hid hZ; have hbb8 := hb8; have kC := HC7.out.below hb8 HC7.out.lt; have kc := kC.cell 0; have kf := kC.frozen 0; have g7 := HB7.out.size; have g8 := kC.lt; simp only [List.getElem?_cons_zero] at kc; clear hZ)
          | (go_at_call 86; have hx := HA7; refine (CC2 w7 ra rl rc (BB.step (BB.drew (BB.refl _)) HB7.out) HA7.out).mono ?_; rintro e w8 ⟨za, zl, zc, rfl, hZ, hb8⟩; have HZ8 := Lib.hid hZ; have hbb8 := hb8; clear hZ)
          | (go_at_call 86; have hx := HA7; refine (CC2 (w7.alloc (Obj.cells #[Value.slice none 0 0] 36)) ra rl rc (BB.alloc (BB.step (BB.drew (BB.refl _)) HB7.out)) (HA7.out.below (BB.alloc (BB.refl _)))).mono ?_; rintro e w8 ⟨za, zl, zc, rfl, hZ, hb8⟩; have HZ8 := Lib.hid hZ; have hbb8 := hb8; have kB := (Blk.new w7 [Value.slice none 0 0] 36).below hb8 (by simp); have kc := kB.cell 0; have kf := kB.frozen 0; have g7 : w6.heap.size ≤ w7.heap.size := HB7.out.size; have g8 := kB.lt; simp only [List.getElem?_cons_zero] at kc; clear hZ)
          | (go_at_call 81; refine (CC1 w6.drew (BB.drew (BB.refl _))).mono ?_; rintro e w7 ⟨ra, rl, rc, rfl, hA, hb7⟩; have HA7 := Lib.hid hA; have HB7 := Lib.hid hb7; have hbb7 := hb7; clear hA)
          | (go_at_call 81; refine (CC1 (w6.alloc (Obj.cells #[Value.slice none 0 0] 36)).drew (BB.drew (BB.alloc (BB.refl _)))).mono ?_; rintro e w7 ⟨ra, rl, rc, rfl, hA, hb7⟩; have HA7 := Lib.hid hA; have HB7 := Lib.hid hb7; have hbb7 := hb7; have HC7 := Lib.hid (k_one (w := w6) (v := .slice none 0 0) (e := 36) hb7).1; clear hA))
      all_goals first
        | exact hk2 _ _ _ _ _ _ _ _ (BB.alloc (BB.step (BB.step (BB.drew (BB.refl _)) hbb7) hbb8)) (Blk.new w8 _ _) (HZ8.out.below (BB.alloc (BB.refl _)))
        | exact hk2 _ _ _ _ _ _ _ _ (BB.setCell (BB.step (BB.alloc (BB.step (BB.drew (BB.refl _)) hbb7)) hbb8) g7) (kB.set 0 _) (HZ8.out.setCell kB (by decide) 0 _)
        | exact hk2 _ _ _ _ _ _ _ _ (BB.setCell (BB.step (BB.step (BB.drew (BB.alloc (BB.refl _))) hbb7) hbb8) (Nat.le_refl _)) (kC.set 0 _) (HZ8.out.setCell kC (by decide) 0 _)
  clear hKc
  go_region_with (first
    | (go_at_call 25; have h2 := HZ1; refine (of_any r m b lenb capb k _ (HR2.out) HK2.out.1 (by omega)).mono ?_; rintro e w3 ⟨ya, yl, yc, rfl, hY, hb3⟩; have HY := Lib.hid hY; have HX3 := Lib.hid (HX2.out.below hb3); have HZ3 := Lib.hid (HZ1.out.below hb3); have HR3 := Lib.hid (HR2.out.below hb3); have ca3 := HX3.out.2.1.cell; have cb3 := HX3.out.2.2.1.cell; have fa3 := HX3.out.2.1.frozen; have fb3 := HX3.out.2.2.1.frozen; clear hY hb3)
    | (go_at_call 25; refine (of_any r m a len cap n w1.drew HR1.out.drew HN1.out.1.drew (by omega)).mono ?_; rintro e w2 ⟨xa, xl, xc, rfl, hZ, hb2⟩; have HZ1 := Lib.hid hZ; have HX2 := Lib.hid (HX1.out.drew.below hb2); have HK2 := Lib.hid (HK1.out.drew.below hb2); have HR2 := Lib.hid (HR1.out.drew.below hb2); have cb2 := HX2.out.2.2.1.cell; clear hZ hb2))
  all_goals exact hk _ _ _ _ _ _ _ HX3 HZ3 HY HR3

end Go.Proofs.YthefednendgclaaGreat
