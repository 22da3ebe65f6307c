/-
  Groups: New, of right parameters and no seed.
-/
import Derived.Test.YthefednendgclaaGreatGrpA
import Derived.Test.YthefednendgclaaGreatMacA
import Derived.Test.YthefednendgclaaGreatHval
import Derived.Test.YthefednendgclaaGreatInvF
set_option linter.unusedVariables false
set_option linter.unusedSimpArgs false
namespace Go.Proofs.YthefednendgclaaGreat
open Go Go.RowKit Sac

theorem cmp_gt {n m : Nat} (h : m < n) : cmpNat n m = 1 := by unfold cmpNat; rw [if_neg (by omega), if_pos h]
theorem cmp_lt' {n m : Nat} (h : n < m) : cmpNat n m = -1 := by unfold cmpNat; rw [if_pos h]

/-- What stands while a group is made. -/
structure GNE (w wr : World) (s O TB g T : Nat) (ps : List Value) (pa : Option Addr) (pl P : Nat) (qa : Option Addr) (ql Q : Nat) (ga : Option Addr) (gl G : Nat) (cs : List Value) : Prop where
  bel : Below s w wr
  base : s ≤ wr.heap.size
  bs : Blk wr s 95 ps
  one : NB wr O 1
  tm : NB wr TB T
  nP : NatS wr pa pl P
  nQ : NatS wr qa ql Q
  nG : NatS wr ga gl G
  bg : Blk wr g 104 cs
  gs : s ≤ g
theorem GNE.below {w wr w' : World} {s O TB g T : Nat} {ps : List Value} {pa : Option Addr} {pl P : Nat} {qa : Option Addr} {ql Q : Nat} {ga : Option Addr} {gl G : Nat} {cs : List Value} (h : GNE w wr s O TB g T ps pa pl P qa ql Q ga gl G cs) (hb : Below wr.heap.size wr w') : GNE w w' s O TB g T ps pa pl P qa ql Q ga gl G cs :=
  ⟨h.bel.trans (hb.mono h.base), Nat.le_trans h.base hb.size, h.bs.below hb h.bs.lt, h.one.below hb, h.tm.below hb, h.nP.below hb, h.nQ.below hb, h.nG.below hb, h.bg.below hb h.bg.lt, h.gs⟩
theorem ety_ne {w : World} {k k' : Nat} {e e' : TypeId} {cs cs' : List Value} (h : Blk w k e cs) (h' : Blk w k' e' cs') (hne : e ≠ e') : k ≠ k' := h.ety.ne h' hne
theorem NB.setOther {w : World} {k n g : Nat} {e : TypeId} {cs : List Value} (h : NB w k n) (hB : Blk w g e cs) (he : 36 ≠ e) (he' : 106 ≠ e) (o : Nat) (v : Value) : NB (w.setCell ⟨g, o, none⟩ v) k n := by
  obtain ⟨a, l, c, h1, h2⟩ := h
  exact ⟨a, l, c, h1.other _ _ (ety_ne h1 hB he), h2.set hB o v he'⟩
theorem GNE.set {w wr : World} {s O TB g T : Nat} {ps : List Value} {pa : Option Addr} {pl P : Nat} {qa : Option Addr} {ql Q : Nat} {ga : Option Addr} {gl G : Nat} {cs : List Value} (h : GNE w wr s O TB g T ps pa pl P qa ql Q ga gl G cs) (o : Nat) (v : Value) : GNE w (wr.setCell ⟨g, o, none⟩ v) s O TB g T ps pa pl P qa ql Q ga gl G (cs.set o v) :=
  ⟨h.bel.setCell (p := ⟨g, o, none⟩) h.gs _, by simp [World.setCell]; exact h.base, h.bs.other _ _ (ety_ne h.bs h.bg (by decide)), h.one.setOther h.bg (by decide) (by decide) o v, h.tm.setOther h.bg (by decide) (by decide) o v, h.nP.set h.bg o v, h.nQ.set h.bg o v, h.nG.set h.bg o v, h.bg.set o v, h.gs⟩

theorem rb_lit2 (w : World) (x y : Nat) (hx : x < 256) (hy : y < 256) : RB (w.alloc (Obj.cells #[.int .u8 (x : Int), .int .u8 (y : Int)] 5)) (.slice (some ⟨w.heap.size, 0, none⟩) 2 2) [x, y] :=
  ⟨some ⟨w.heap.size, 0, none⟩, 2, rfl, Nat.le_refl 2, by decide, (fun h => by cases h), Blk.rd (rest := []) (Blk.new w [.int .u8 (x : Int), .int .u8 (y : Int)] 5), fun z hz => by
    rcases List.mem_cons.1 hz with h | h
    · rw [h]; exact hx
    · rw [List.mem_singleton.1 h]; exact hy⟩
theorem derive_h (w : World) (n : Nat) (h1 : 0 < n) (h2 : n ≤ 32) :
    Calls Tryz.prog 90 #[.slice none 0 0, .slice none 0 0, .slice (some ⟨w.heap.size, 0, none⟩) 2 2, .int .i64 (n : Int)] (w.alloc (Obj.cells #[.int .u8 104, .int .u8 (IntKind.u8.wrap 0)] 5)).drew fun e w' => ∃ v, e = .returned (.tuple #[v, .int .i64 0]) ∧
      Buf w' w.heap.size v ((Sha.tag (Sha.tag [] []) [104, 0, 1]).take n) ∧ Below w.heap.size w w' := by
  have hb : BB w (w.alloc (Obj.cells #[.int .u8 104, .int .u8 (IntKind.u8.wrap 0)] 5)).drew := BB.drew (BB.alloc (BB.refl _))
  have hr : RB (w.alloc (Obj.cells #[.int .u8 104, .int .u8 (IntKind.u8.wrap 0)] 5)).drew (.slice (some ⟨w.heap.size, 0, none⟩) 2 2) [104, 0] := rb_lit2 w 104 0 (by decide) (by decide)
  refine (derive_any none 0 0 [] (some ⟨w.heap.size, 0, none⟩) 2 2 [104, 0] n _ (RB.nil _) (by decide) hr (by decide) h1 h2).mono ?_
  rintro e w' ⟨v, rfl, hbuf, hb'⟩
  exact ⟨v, rfl, hbuf.base hb.size, BB.step hb hb'⟩

theorem GNE.setNat {w wr : World} {s O TB g T k : Nat} {ps : List Value} {pa : Option Addr} {pl P : Nat} {qa : Option Addr} {ql Q : Nat} {ga : Option Addr} {gl G : Nat} {cs bs : List Value} (h : GNE w wr s O TB g T ps pa pl P qa ql Q ga gl G cs) (hk : Blk wr k 36 bs) (hsk : s ≤ k) (n1 : k ≠ TB) (n2 : k ≠ O) (o : Nat) (v : Value) : GNE w (wr.setCell ⟨k, o, none⟩ v) s O TB g T ps pa pl P qa ql Q ga gl G cs := by
  have nbs : ∀ {j n : Nat}, j ≠ k → NB wr j n → NB (wr.setCell ⟨k, o, none⟩ v) j n := fun hne ⟨a, l, c, h1, h2⟩ => ⟨a, l, c, h1.other _ _ hne, h2.set hk o v⟩
  exact ⟨h.bel.setCell (p := ⟨k, o, none⟩) hsk _, by simp [World.setCell]; exact h.base, h.bs.other _ _ (ety_ne h.bs hk (by decide)), nbs (Ne.symm n2) h.one, nbs (Ne.symm n1) h.tm, h.nP.set hk o v, h.nQ.set hk o v, h.nG.set hk o v, h.bg.other _ _ (ety_ne h.bg hk (by decide)), h.gs⟩

/-! ### The round's region, by facts -/
def tabR (g rp : Nat) (sv : Value) (V x Z : Nat) (last : Fk KpN) : List (Fk KpN) := [.val (.pointer (some ⟨g, 0, none⟩)), .val (.pointer (some ⟨g, 0, none⟩)), .val (.pointer (some ⟨g, 0, none⟩)), .val (.pointer (some ⟨rp, 0, none⟩)), .val sv, Fk.nat (fun _ _ h => h) 256, Fk.nat (fun _ _ h => h) (V * 256), .val (.int .u8 (x : Int)), .val (.int .u64 (x : Int)), Fk.nat (fun _ _ h => h) x, Fk.nat (fun _ _ h => h) (V * 256 + x), Fk.nat (fun _ _ h => h) Z, last]
def dstR : List (Option Tmp) := [some 150, some 151, some 152, some 153, some 154, some 155, some 156, some 157, some 158, some 159, some 160, some 161, none]
def preR : List (List Nat) := [[], [0], [0, 1], [0, 1, 2], [], [], [4, 5], [], [7], [7, 8], [4, 5, 6, 7, 8, 9], [0, 1, 2, 3, 4, 5, 6, 7, 8, 9, 10], [0, 1, 2, 3, 4, 5, 6, 7, 8, 9, 10, 11]]
def maskR : List Bool := [false, false, false, false, false, false, false, false, false, false, false, false, false, false, false, false, false, false, false, false, false, false, false, false, false, false, false, false, false, false, false, false, false, false, false, false, false, false, false, false, false, false, false, false, false, false, false, false, false, false, false, false, false, false, false, false, false, false, false, false, false, false, false, false, false, false, false, false, false, false, false, false, false, false, false, false, false, false, false, false, false, false, false, false, false, false, false, false, false, false, false, false, false, false, false, false, false, false, false, false, false, false, false, false, false, false, false, false, false, false, false, false, false, false, false, false, false, false, false, false, false, false, false, false, false, false, false, false, false, false, false, false, false, false, false, false, false, false, false, false, false, false, false, false, false, false, false, false, false, false, true, true, true, true, true, true, true, true, true, true, true, true, false, false, false, false, false, false, false, false, false, false, false, false, false, false, false, false, false, false, false, false]

set_option maxRecDepth 100000 in
set_option maxHeartbeats 8000000 in
theorem gnew_any (P Q G T H sz : Nat) (cv : Value) (pa : Option Addr) (pl pc : Nat) (qa : Option Addr) (ql qc : Nat) (ga : Option Addr) (gl gc : Nat) (w : World)
    (hP : NatS w pa pl P) (hQ : NatS w qa ql Q) (hG : NatS w ga gl G)
    (prP : ∀ w' a l c, Below w.heap.size w w' → NatS w' a l P → Calls Tryz.prog 85 #[.agg #[.slice a l c], cv] w' fun e w'' => e = .returned (.bool true) ∧ Below w'.heap.size w' w'')
    (prQ : ∀ w' a l c, Below w.heap.size w w' → NatS w' a l Q → Calls Tryz.prog 85 #[.agg #[.slice a l c], cv] w' fun e w'' => e = .returned (.bool true) ∧ Below w'.heap.size w' w'')
    (hP2 : P < 2 ^ 250) (hQ2 : Q < 2 ^ 250) (hG1 : 1 < G) (hGP : G < P) (hQ64 : 64 < Q) (hPQ : P - 1 = Q * T) (hmem : IsMember P Q G)
    (hsz : (blen P + 7) / 8 = sz) (hsz2 : sz ≤ 24) (hH : ofBytes P ((Sha.tag (Sha.tag [] []) [104, 0, 1]).take (sz + 8)) ^ T % P = H) (hH1 : 1 < H) :
    Calls Tryz.prog 40 #[.agg #[.slice pa pl pc, .slice qa ql qc, .slice ga gl gc, .slice none 0 0], cv] w fun e w' => ∃ g, e = .returned (.tuple #[.pointer (some ⟨g, 0, none⟩), .int .i64 0]) ∧ GroupAt w' g P Q G H sz ∧ Below w.heap.size w w' := by
  obtain ⟨s, hs⟩ : ∃ s, s = w.heap.size := ⟨_, rfl⟩
  have hb1 := (Below.refl _ w).alloc (Nat.le_refl _) (Obj.cells #[Value.slice pa pl pc, Value.slice qa ql qc, Value.slice ga gl gc, Value.slice none 0 0] 95)
  have E1 := (((((NE.init w s hs).add (natS_stays (by decide)) hP).add (natS_stays (by decide)) hQ).add (natS_stays (by decide)) hG).below hb1).add (blk_stays (by decide)) (Blk.new' w _ _ s hs)
  have HE1 := Lib.hid E1
  have HS := Lib.hid hs
  have PRP := Lib.hid prP
  have PRQ := Lib.hid prQ
  have HC := Lib.hid (show P < 2 ^ 250 ∧ Q < 2 ^ 250 ∧ 1 < G ∧ G < P ∧ 64 < Q ∧ P - 1 = Q * T ∧ IsMember P Q G ∧ (blen P + 7) / 8 = sz ∧ sz ≤ 24 ∧ ofBytes P ((Sha.tag (Sha.tag [] []) [104, 0, 1]).take (sz + 8)) ^ T % P = H ∧ 1 < H from ⟨hP2, hQ2, hG1, hGP, hQ64, hPQ, hmem, hsz, hsz2, hH, hH1⟩)
  clear hP hQ hG prP prQ hP2 hQ2 hG1 hGP hQ64 hPQ hmem hsz hsz2 hH hH1 E1 hb1
  go_enter Tryz.func40, Tryz.ntmps40
  go_wp2_with fail
  rw [← hs]
  clear hs
  generalize w.alloc (Obj.cells #[Value.slice pa pl pc, Value.slice qa ql qc, Value.slice ga gl gc, Value.slice none 0 0] 95) = w1 at HE1 ⊢
  refine (new_s 1 w1 (by omega)).mono ?_
  rintro e w2 ⟨oa, ol, oc, rfl, hO, hb2⟩
  obtain ⟨O, hOs⟩ : ∃ O, O = w2.heap.size := ⟨_, rfl⟩
  have HE3 := Lib.hid ((HE1.out.below hb2).alloc O hOs hO (c := oc))
  clear HE1 hb2 hO
  have bs := HE3.out.has 3 rfl
  have k0 : ∀ w', BB (w2.alloc (Obj.cells #[Value.slice oa ol oc] 36)) w' → w'.cell? ⟨s, 0, none⟩ = some (.slice pa pl pc) := fun w' h => (h.cell bs.lt).trans (bs.cell 0)
  have k1 : ∀ w', BB (w2.alloc (Obj.cells #[Value.slice oa ol oc] 36)) w' → w'.cell? ⟨s, 1, none⟩ = some (.slice qa ql qc) := fun w' h => (h.cell bs.lt).trans (bs.cell 1)
  have k2 : ∀ w', BB (w2.alloc (Obj.cells #[Value.slice oa ol oc] 36)) w' → w'.cell? ⟨s, 2, none⟩ = some (.slice ga gl gc) := fun w' h => (h.cell bs.lt).trans (bs.cell 2)
  have k3 : ∀ w', BB (w2.alloc (Obj.cells #[Value.slice oa ol oc] 36)) w' → w'.cell? ⟨s, 3, none⟩ = some (.slice none 0 0) := fun w' h => (h.cell bs.lt).trans (bs.cell 3)
  have c0 := k0 _ (BB.refl _)
  clear bs
  go_wp2_with fail
  rw [← hOs]
  clear hOs
  generalize w2.alloc (Obj.cells #[Value.slice oa ol oc] 36) = w3 at HE3 k0 k1 k2 k3 c0 ⊢
  refine (glong_no pa pl pc P w3 (HE3.out.has 0 rfl) HC.out.1).mono ?_
  rintro e w4 ⟨rfl, hb4⟩
  have hbb4 : BB w3 w4 := hb4
  have c1 := k1 w4 hbb4
  go_wp2_with fail
  refine (glong_no qa ql qc Q w4 ((HE3.out.has 1 rfl).below hbb4) HC.out.2.1).mono ?_
  rintro e w5 ⟨rfl, hb5⟩
  have hbb5 : BB w3 w5 := BB.step hbb4 hb5
  have c2 := k2 w5 hbb5
  go_wp2_with fail
  refine (glong_no ga gl gc G w5 ((HE3.out.has 2 rfl).below hbb5) (Nat.lt_trans HC.out.2.2.2.1 HC.out.1)).mono ?_
  rintro e w6 ⟨rfl, hb6⟩
  have hbb6 : BB w3 w6 := BB.step hbb5 hb6
  have c3 := k3 w6 hbb6
  have d0 := k0 w6 hbb6
  clear hb4 hb5 hb6 c1 c2
  go_wp2_with fail
  have HE6 := Lib.hid (HE3.out.below hbb6)
  refine (PRP.out w6 pa pl pc (HS.out ▸ HE6.out.bel) (HE6.out.has 0 rfl)).mono ?_
  rintro e w7 ⟨rfl, hb7⟩
  have hbb7 : BB w3 w7 := BB.step hbb6 hb7
  have c1 := k1 w7 hbb7
  have HE7 := Lib.hid (HE6.out.below hb7)
  clear hb7 c3 d0
  go_wp2_with fail
  refine (PRQ.out w7 qa ql qc (HS.out ▸ HE7.out.bel) (HE7.out.has 1 rfl)).mono ?_
  rintro e w8 ⟨rfl, hb8⟩
  have hbb8 : BB w3 w8 := BB.step hbb7 hb8
  have HE8 := Lib.hid (HE7.out.below hb8)
  have c0 := k0 w8 hbb8
  obtain ⟨oa, ol, oc, gO, No⟩ := HE8.out.get 0 rfl
  have cO := gO w8 (BB.refl _)
  have HO := Lib.hid No
  clear hb8 No c1 HE7 HE6
  go_wp2_with fail
  refine (sub_s pa oa pl pc ol oc P 1 w8 (HE8.out.has 0 rfl) HO.out).mono ?_
  rintro e w9 ⟨la, ll, lc, rfl, hL, hb9⟩
  have hbb9 : BB w3 w9 := BB.step hbb8 hb9
  obtain ⟨L, hLs⟩ : ∃ L, L = w9.heap.size := ⟨_, rfl⟩
  have hbx := (Below.refl _ w9).alloc (Nat.le_refl _) (Obj.cells #[Value.slice la ll lc] 36)
  have HE10 := Lib.hid ((HE8.out.below hb9).alloc L hLs hL (c := lc))
  have HL10 := Lib.hid (hL.below hbx)
  have hbb10 : BB w3 (w9.alloc (Obj.cells #[Value.slice la ll lc] 36)) := BB.alloc hbb9
  have c1 : (w9.alloc (Obj.cells #[Value.slice la ll lc] 36)).cell? ⟨s, 1, none⟩ = some (.slice qa ql qc) := k1 _ hbb10
  clear hL hb9 hbx cO c0 gO HO HE8 hbb9
  go_wp2_with fail
  rw [← hLs]
  clear hLs
  generalize w9.alloc (Obj.cells #[Value.slice la ll lc] 36) = w10 at HE10 HL10 hbb10 c1 ⊢
  have hdv : Hid ((P - 1) / Q = T ∧ (P - 1) % Q = 0) := by
    have h1 := HC.out.2.2.2.2.2.1
    have h2 := HC.out.2.2.2.2.1
    exact ⟨by rw [h1, Nat.mul_div_cancel_left _ (by omega)], by rw [h1, Nat.mul_mod_right]⟩
  refine (div_s la qa ll lc ql qc (P - 1) Q w10 HL10.out (HE10.out.has 1 rfl) (by have := HC.out.2.2.2.2.1; omega)).mono ?_
  rw [hdv.out.1, hdv.out.2]
  rintro e w11 ⟨ta, tl, tc, ra, rl, rc, rfl, ht, hr, hb11⟩
  have hbb11 : BB w3 w11 := BB.step hbb10 hb11
  obtain ⟨TB, hTs⟩ : ∃ TB, TB = w11.heap.size := ⟨_, rfl⟩
  have hbx := (Below.refl _ w11).alloc (Nat.le_refl _) (Obj.cells #[Value.slice ta tl tc] 36)
  have HE12 := Lib.hid (((HE10.out.below hb11).alloc TB hTs ht (c := tc)).alloc (TB + 1) (by rw [hTs]; simp) (hr.below hbx) (c := rc))
  have hbb12 : BB w3 ((w11.alloc (Obj.cells #[Value.slice ta tl tc] 36)).alloc (Obj.cells #[Value.slice ra rl rc] 36)) := BB.alloc (BB.alloc hbb11)
  clear ht hr hb11 hbx HE10 HL10 hbb10 hbb11 c1
  go_wp2_with fail
  rw [← hTs]
  clear hTs
  generalize (w11.alloc (Obj.cells #[Value.slice ta tl tc] 36)).alloc (Obj.cells #[Value.slice ra rl rc] 36) = w12 at HE12 hbb12 ⊢
  obtain ⟨oa, ol, oc, gO, No⟩ := HE12.out.get 0 rfl
  obtain ⟨ra, rl, rc, gR, Nr⟩ := HE12.out.get 3 rfl
  have HO := Lib.hid No
  have HR := Lib.hid Nr
  have k0' : ∀ w', BB w12 w' → w'.cell? ⟨s, 0, none⟩ = some (.slice pa pl pc) := fun w' h => k0 w' (BB.step hbb12 h)
  have k1' : ∀ w', BB w12 w' → w'.cell? ⟨s, 1, none⟩ = some (.slice qa ql qc) := fun w' h => k1 w' (BB.step hbb12 h)
  have k2' : ∀ w', BB w12 w' → w'.cell? ⟨s, 2, none⟩ = some (.slice ga gl gc) := fun w' h => k2 w' (BB.step hbb12 h)
  have k3' : ∀ w', BB w12 w' → w'.cell? ⟨s, 3, none⟩ = some (.slice none 0 0) := fun w' h => k3 w' (BB.step hbb12 h)
  have g1 := cmp_gt HC.out.2.2.2.2.1
  have g2 := cmp_gt HC.out.2.2.1
  have g3 := cmp_lt' HC.out.2.2.2.1
  have HG1 := Lib.hid g1
  have HG2 := Lib.hid g2
  have HG3 := Lib.hid g3
  have HNP := Lib.hid (HE12.out.has 0 rfl)
  have HNQ := Lib.hid (HE12.out.has 1 rfl)
  have HNG := Lib.hid (HE12.out.has 2 rfl)
  clear No Nr g1 g2 g3 hbb12 k0 k1 k2 k3
  go_region_held3 (fun w' => BB w12 w') (first | assumption | exact BB.drew (BB.refl _))
    (first
      | (go_at_call 18; refine (zero_s ra rl rc 0 w12.drew HR.out.drew).mono ?_; rintro e w13 ⟨rfl, hb13⟩; have hbb13 : BB w12 w13 := BB.step (BB.drew (BB.refl w12)) hb13; clear hb13)
      | (go_at_call 13; refine (new_s 64 w13 (by decide)).mono ?_; rintro e w14 ⟨ta, tl, tc, rfl, ht, hb14⟩; have hbb14 : BB w12 w14 := BB.step hbb13 hb14; have HT14 := Lib.hid ht; clear ht hb14)
      | (go_at_call 31; refine (cmp_s ga pa gl gc pl pc G P w16 (HNG.out.below hbb16) (HNP.out.below hbb16)).mono ?_; rw [HG3.out]; rintro e w17 ⟨rfl, hb17⟩; have hbb17 : BB w12 w17 := BB.step hbb16 hb17; clear hb17)
      | (go_at_call 31; refine (cmp_s ga oa gl gc ol oc G 1 w15 (HNG.out.below hbb15) (HO.out.below hbb15)).mono ?_; rw [HG2.out]; rintro e w16 ⟨rfl, hb16⟩; have hbb16 : BB w12 w16 := BB.step hbb15 hb16; clear hb16)
      | (go_at_call 31; refine (cmp_s qa ta ql qc tl tc Q 64 w14 (HNQ.out.below hbb14) HT14.out).mono ?_; rw [HG1.out]; rintro e w15 ⟨rfl, hb15⟩; have hbb15 : BB w12 w15 := BB.step hbb14 hb15; clear hb15))
  have HE17 := Lib.hid (HE12.out.below hbb17)
  have j0 : ∀ w', BB w17 w' → w'.cell? ⟨s, 0, none⟩ = some (.slice pa pl pc) := fun w' h => k0' w' (BB.step hbb17 h)
  have j1 : ∀ w', BB w17 w' → w'.cell? ⟨s, 1, none⟩ = some (.slice qa ql qc) := fun w' h => k1' w' (BB.step hbb17 h)
  have j2 : ∀ w', BB w17 w' → w'.cell? ⟨s, 2, none⟩ = some (.slice ga gl gc) := fun w' h => k2' w' (BB.step hbb17 h)
  have j3 : ∀ w', BB w17 w' → w'.cell? ⟨s, 3, none⟩ = some (.slice none 0 0) := fun w' h => k3' w' (BB.step hbb17 h)
  have HNP17 := Lib.hid (HNP.out.below hbb17)
  clear hbb13 hbb14 hbb15 hbb16 hbb17 k0' k1' k2' k3' gO gR HO HR HT14 HNP HNQ HNG HE12
  obtain ⟨B, hB⟩ : ∃ B, blen P = B := ⟨_, rfl⟩
  have hBs : (B + 7) / 8 = sz := by rw [← hB]; exact HC.out.2.2.2.2.2.2.2.1
  have hB0 : B ≤ 250 := by rw [← hB]; exact blen_le HC.out.1
  have td : ((B : Int) + 7).tdiv 8 = (sz : Int) := by rw [Int.tdiv_eq_ediv_of_nonneg (by omega)]; omega
  have td2 : ((B : Int) + 7) / 8 = (sz : Int) := by omega
  have HBB := Lib.hid hB
  clear hB hBs
  go_wp2_with fail
  go_region_held3 (fun w' => BB w17 w') (first | assumption | exact BB.drew (BB.refl _) | exact BB.alloc (by assumption))
    (first
      | (go_at_call 87; refine (bits_any pa pl pc P w17.drew HNP17.out.1.drew (by have := HNP17.out.2; omega)).mono ?_; rw [HBB.out]; rintro e w18 ⟨rfl, hb18⟩; have hbb18 : BB w17 w18 := BB.step (BB.drew (BB.refl w17)) hb18; clear hb18))
  have wr1 : IntKind.i64.wrap ((B : Int) + 7) = (B : Int) + 7 := i64_small _ (by omega) (by omega)
  have wr2 : IntKind.i64.wrap (sz : Int) = (sz : Int) := i64_small _ (by omega) (by have := HC.out.2.2.2.2.2.2.2.2.1; omega)
  rw [wr1, td, wr2]
  obtain ⟨g, hg⟩ : ∃ g, g = w18.heap.size := ⟨_, rfl⟩
  have HE18 := HE17.out.below hbb18
  have hbx := (Below.refl _ w18).alloc (Nat.le_refl _) (Obj.cells #[Value.pointer none, Value.pointer none, Value.slice ga gl gc, Value.slice none 0 0, Value.int .i64 (sz : Int)] 104)
  have HE19 := HE18.below hbx
  have HG19 : Hid (GNE w (w18.alloc (Obj.cells #[Value.pointer none, Value.pointer none, Value.slice ga gl gc, Value.slice none 0 0, Value.int .i64 (sz : Int)] 104)) s O TB g T [.slice pa pl pc, .slice qa ql qc, .slice ga gl gc, .slice none 0 0] pa pl P qa ql Q ga gl G [.pointer none, .pointer none, .slice ga gl gc, .slice none 0 0, .int .i64 (sz : Int)]) :=
    ⟨HE19.bel, HE19.base, HE19.has 3 rfl, HE19.at_ 0 rfl, HE19.at_ 2 rfl, HE19.has 0 rfl, HE19.has 1 rfl, HE19.has 2 rfl, Blk.new' w18 _ _ g hg, hg ▸ HE18.base⟩
  rw [← hg]
  clear HE19 HE18 hbx hg hbb18 HE17 j0 j1 j2 j3 HNP17 wr1 wr2 td td2 HBB
  generalize w18.alloc (Obj.cells #[Value.pointer none, Value.pointer none, Value.slice ga gl gc, Value.slice none 0 0, Value.int .i64 (sz : Int)] 104) = w19 at HG19 ⊢
  have c0 := HG19.out.bs.cell 0
  simp only [List.getElem?_cons_zero] at c0
  go_wp2_with fail
  refine (modnew_any pa pl pc P w19 HG19.out.nP (by have := HC.out.2.2.1; have := HC.out.2.2.2.1; omega)).mono ?_
  rintro e w20 ⟨rp, rfl, hR, hb20⟩
  have HG20 := Lib.hid (HG19.out.below hb20)
  have hrg : rp ≠ g := by
    obtain ⟨_, _, _, hB, _⟩ := hR
    exact ety_ne hB HG20.out.bg (by decide)
  have cg0 := HG20.out.bg.cell 0
  have fg0 := HG20.out.bg.frozen 0
  simp only [List.getElem?_cons_zero] at cg0
  have HG21 := Lib.hid (HG20.out.set 0 (.pointer (some ⟨rp, 0, none⟩)))
  have HR21 := Lib.hid (hR.set HG20.out.bg hrg 0 (.pointer (some ⟨rp, 0, none⟩)))
  have c1 : (w20.setCell ⟨g, 0, none⟩ (.pointer (some ⟨rp, 0, none⟩))).cell? ⟨s, 1, none⟩ = some (.slice qa ql qc) := HG21.out.bs.cell 1
  clear hR hb20 c0 HG19 HG20
  go_wp2_with fail
  clear cg0 fg0
  generalize w20.setCell ⟨g, 0, none⟩ (.pointer (some ⟨rp, 0, none⟩)) = w21 at HG21 HR21 c1 ⊢
  refine (modnew_any qa ql qc Q w21 HG21.out.nQ (by have := HC.out.2.2.2.2.1; omega)).mono ?_
  rintro e w22 ⟨rq, rfl, hR, hb22⟩
  have HG22 := Lib.hid (HG21.out.below hb22)
  have hrg2 : rq ≠ g := by
    obtain ⟨_, _, _, hB, _⟩ := hR
    exact ety_ne hB HG22.out.bg (by decide)
  have cg1 := HG22.out.bg.cell 1
  have fg1 := HG22.out.bg.frozen 1
  simp only [List.set_cons_zero, List.getElem?_cons_zero, List.getElem?_cons_succ] at cg1
  have HG23 := Lib.hid (HG22.out.set 1 (.pointer (some ⟨rq, 0, none⟩)))
  have HP23 := Lib.hid ((HR21.out.below hb22).set HG22.out.bg hrg 1 (.pointer (some ⟨rq, 0, none⟩)))
  have HQ23 := Lib.hid (hR.set HG22.out.bg hrg2 1 (.pointer (some ⟨rq, 0, none⟩)))
  have c2 : (w22.setCell ⟨g, 1, none⟩ (.pointer (some ⟨rq, 0, none⟩))).cell? ⟨s, 2, none⟩ = some (.slice ga gl gc) := HG23.out.bs.cell 2
  clear hR hb22 c1 HG21 HG22 HR21
  go_wp2_with fail
  clear cg1 fg1
  generalize w22.setCell ⟨g, 1, none⟩ (.pointer (some ⟨rq, 0, none⟩)) = w23 at HG23 HP23 HQ23 c2 ⊢
  have hga : GroupAt w23 g P Q G 0 sz := ⟨rp, rq, ga, gl, gc, none, 0, 0, HG23.out.bg, HP23.out, HQ23.out, HG23.out.nG, natS_nil _⟩
  refine (gmember_yes g P Q G 0 sz ga gl gc G w23 hga HG23.out.nG HC.out.2.2.2.2.2.2.1).mono ?_
  rintro e w24 ⟨rfl, hb24⟩
  have HG24 := Lib.hid (HG23.out.below hb24)
  have HP24 := Lib.hid (HP23.out.below hb24)
  have HQ24 := Lib.hid (HQ23.out.below hb24)
  clear hga hb24 c2 HG23 HP23 HQ23
  go_wp2_with fail
  go_loopw [123] (fun iv wr => iv = .int .i64 0 ∧ Hid (GNE w wr s O TB g T [.slice pa pl pc, .slice qa ql qc, .slice ga gl gc, .slice none 0 0] pa pl P qa ql Q ga gl G [.pointer (some ⟨rp, 0, none⟩), .pointer (some ⟨rq, 0, none⟩), .slice ga gl gc, .slice none 0 0, .int .i64 (sz : Int)]) ∧ Hid (RingAt wr rp P) ∧ Hid (RingAt wr rq Q)) (fun _ _ => 0)
  case atStart => exact ⟨rfl, HG24.out, HP24.out, HQ24.out⟩
  case round =>
    clear HG24 HP24 HQ24
    obtain ⟨rfl, HG, HP, HQ⟩ := hrel
    have gk3 : ∀ w', BB wr w' → w'.cell? ⟨s, 3, none⟩ = some (.slice none 0 0) := fun w' h => (h.cell HG.out.bs.lt).trans (HG.out.bs.cell 3)
    have gg4 : ∀ w', BB wr w' → w'.cell? ⟨g, 4, none⟩ = some (.int .i64 (sz : Int)) := fun w' h => (h.cell HG.out.bg.lt).trans (HG.out.bg.cell 4)
    have wr3 : IntKind.i64.wrap ((sz : Int) + 8) = ((sz + 8 : Nat) : Int) := by rw [i64_small _ (by omega) (by have := HC.out.2.2.2.2.2.2.2.2.1; omega)]; omega
    have HDV := Lib.hid (derive_h wr (sz + 8) (by omega) (by have := HC.out.2.2.2.2.2.2.2.2.1; omega))
    go_wp2_with fail
    go_region_held3 (fun w' => BB wr w') (first | assumption | exact BB.drew (BB.refl _) | exact BB.alloc (by assumption) | exact BB.alloc (BB.drew (BB.refl _)) | exact BB.drew (BB.alloc (BB.refl _)))
      (first
        | (go_at_call 90; refine Calls.mono (HDV.out : Calls Tryz.prog 90 #[.slice none 0 0, .slice none 0 0, .slice (some ⟨wr.heap.size, 0, none⟩) 2 2, .int .i64 ((sz : Int) + 8)] (wr.alloc (Obj.cells #[.int .u8 104, .int .u8 (IntKind.u8.wrap 0)] 5)).drew _) ?_; rintro e w3 ⟨v, rfl, hbuf, hb3⟩; have hbb3 : BB wr w3 := hb3; have HV3 := Lib.hid hbuf; clear hbuf hb3))
    have HG3 := Lib.hid (HG.out.below hbb3)
    have HP3 := Lib.hid (HP.out.below hbb3)
    have HQ3 := Lib.hid (HQ.out.below hbb3)
    obtain ⟨D, hD⟩ : ∃ D, (Sha.tag (Sha.tag [] []) [104, 0, 1]).take (sz + 8) = D := ⟨_, rfl⟩
    have hDl : D.length = sz + 8 := by rw [← hD, List.length_take, tag_length]; have := HC.out.2.2.2.2.2.2.2.2.1; omega
    have HDH : Hid (ofBytes P D ^ T % P = H) := by have := HC.out.2.2.2.2.2.2.2.2.2.1; rw [hD] at this; exact this
    rw [hD] at HV3
    obtain ⟨gb, off, cap, rfl, hv1, hv2, hrd⟩ := HV3.out.form (by intro h; rw [h] at hDl; simp at hDl)
    rw [hDl] at hv1
    rw [hDl]
    have HRD := Lib.hid hrd
    have HDB := Lib.hid HV3.out.1
    have HDL := Lib.hid hDl
    have hs24 : (sz : Int) ≤ 24 := by have := HC.out.2.2.2.2.2.2.2.2.1; omega
    clear hD hDl hrd HV3 hbb3 HG HP HQ HDV gk3 gg4 wr3
    obtain ⟨Nb, hNb⟩ : ∃ Nb, Nb = w3.heap.size := ⟨_, rfl⟩
    have hbx := (Below.refl _ w3).alloc (Nat.le_refl _) (Obj.cells #[Value.slice none 0 0] 36)
    have HG4 := Lib.hid (HG3.out.below hbx)
    have HP4 := Lib.hid (HP3.out.below hbx)
    have HQ4 := Lib.hid (HQ3.out.below hbx)
    have HRD4 := Lib.hid (HRD.out.below hbx)
    have HN4 : Hid (NB (w3.alloc (Obj.cells #[Value.slice none 0 0] 36)) Nb (ofBytes P (D.take 0))) := ⟨none, 0, 0, Blk.new' w3 _ _ Nb hNb, natS_nil _⟩
    have hNs : s ≤ Nb := hNb ▸ HG3.out.base
    have hNT : Nb ≠ TB ∧ Nb ≠ O := ⟨Nat.ne_of_gt (hNb ▸ HG3.out.tm.lt), Nat.ne_of_gt (hNb ▸ HG3.out.one.lt)⟩
    clear hbx HG3 HP3 HQ3 HRD
    go_wp2_with fail
    rw [← hNb]
    clear hNb
    generalize w3.alloc (Obj.cells #[Value.slice none 0 0] 36) = w4 at HG4 HP4 HQ4 HRD4 HN4 ⊢
    go_loopw [146] (fun iv wr => ∃ i : Nat, (i : Int) ≤ sz + 8 ∧ iv = .int .i64 (i : Int) ∧ Hid (GNE w wr s O TB g T [.slice pa pl pc, .slice qa ql qc, .slice ga gl gc, .slice none 0 0] pa pl P qa ql Q ga gl G [.pointer (some ⟨rp, 0, none⟩), .pointer (some ⟨rq, 0, none⟩), .slice ga gl gc, .slice none 0 0, .int .i64 (sz : Int)]) ∧ Hid (RingAt wr rp P) ∧ Hid (RingAt wr rq Q) ∧ Hid (Rd wr 5 (some ⟨gb, off, none⟩) (D.map by8)) ∧ Hid (NB wr Nb (ofBytes P (D.take i)))) (fun iv _ => sz + 8 - (intOf iv).toNat)
    case atStart => exact ⟨0, by omega, rfl, HG4.out, HP4.out, HQ4.out, HRD4.out, HN4.out⟩
    case round =>
      clear HG4 HP4 HQ4 HRD4 HN4
      obtain ⟨i, hi, rfl, HG, HP, HQ, HRD, HN⟩ := hrel
      by_cases hlt : (i : Int) < sz + 8
      · have hil : i < D.length := by rw [HDL.out]; omega
        obtain ⟨x, cx, hx8, hxi⟩ := rd_byte HRD.out HDB.out hil
        rw [add_zero] at cx
        have wx : IntKind.u64.wrap (x : Int) = (x : Int) := wraps_u64 _ (by omega) (by omega)
        obtain ⟨V, hV⟩ : ∃ V, ofBytes P (D.take i) = V := ⟨_, rfl⟩
        have hP0 : 0 < P := by have := HC.out.2.2.2.1; omega
        have hVP : V ≤ P := by
          rw [← hV]
          rcases Nat.eq_zero_or_pos i with h | h
          · rw [h]; exact Nat.zero_le _
          · obtain ⟨j, rfl⟩ : ∃ j, i = j + 1 := ⟨i - 1, by omega⟩
            rw [List.take_succ_eq_append_getElem (by omega), ofBytes_snoc]
            exact Nat.le_of_lt (Nat.mod_lt _ hP0)
        have hm1 : V * 256 < W ^ 1000 := @lt_wpow _ 9 1000 (Nat.lt_of_lt_of_le (m := 2 ^ 250 * 256) (by have := HC.out.1; omega) (by decide)) (by decide)
        have hm2 : V * 256 + x < W ^ 1000 := @lt_wpow _ 9 1000 (Nat.lt_of_lt_of_le (m := 2 ^ 250 * 512) (by have := HC.out.1; omega) (by decide)) (by decide)
        have HX : Hid ((V * 256 + x) % P = ofBytes P (D.take (i + 1))) := by
          show _ = _
          rw [List.take_succ_eq_append_getElem hil, ofBytes_snoc, hV, ← hxi, List.getD_eq_getElem?_getD, List.getElem?_eq_getElem hil]; rfl
        rw [hV] at HN
        obtain ⟨na, nl, nc, gN, Nn⟩ := HN.out.get
        have HNn := Lib.hid Nn
        have HM1 := Lib.hid hm1
        have HM2 := Lib.hid hm2
        have hcap : (i : Int) < sz + 8 := hlt
        have gp0 : ∀ w', BB wr w' → w'.cell? ⟨g, 0, none⟩ = some (.pointer (some ⟨rp, 0, none⟩)) := fun w' h => (h.cell HG.out.bg.lt).trans (HG.out.bg.cell 0)
        have cN : wr.drew.cell? ⟨Nb, 0, none⟩ = some (.slice na nl nc) := gN _ (BB.drew (BB.refl _))
        have hgN : g ≠ Nb := by obtain ⟨_, _, _, hB, _⟩ := HN.out; exact ety_ne HG.out.bg hB (by decide)
        have cp0 := gp0 wr.drew (BB.drew (BB.refl _))
        clear hil hxi hV hVP hm1 hm2 Nn
        go_wp2_with fail
        refine wp_region_mix (fun l w' => l 12 = false → BB wr w') (GF (tabR g rp (.agg #[.slice na nl nc]) V x (ofBytes P (D.take (i + 1))) (Fk.rel (fun _ w' => GNE w w' s O TB g T [.slice pa pl pc, .slice qa ql qc, .slice ga gl gc, .slice none 0 0] pa pl P qa ql Q ga gl G [.pointer (some ⟨rp, 0, none⟩), .pointer (some ⟨rq, 0, none⟩), .slice ga gl gc, .slice none 0 0, .int .i64 (sz : Int)] ∧ RingAt w' rp P ∧ RingAt w' rq Q ∧ Rd w' 5 (some ⟨gb, off, none⟩) (D.map by8) ∧ NB w' Nb (ofBytes P (D.take (i + 1)))) (fun _ _ _ hb h => ⟨h.1.below hb, h.2.1.below hb, h.2.2.1.below hb, h.2.2.2.1.below hb, h.2.2.2.2.below hb⟩)))) maskR dstR preR (by kernel_rfl) (by kernel_rfl) rfl (by kernel_rfl) (by kernel_rfl) (by kernel_rfl) (by kernel_rfl) (fun _ => BB.drew (BB.refl _)) ?_ ?_
        · clear cp0 cN
          refine StepsM.cons (fun l g' u hB hl hn hp K hK => ?_) ?_
          · simp only [mkM, maskR, mixM, Nat.reduceAdd] at hK ⊢; simp only [Act.put, List.setIfInBounds_toArray, List.set_cons_zero, List.set_cons_succ] at hK; go_simp; exact hK.out _ _ (fun h => hB (by simpa [setL] using h)) GF.same rfl
          refine StepsM.cons (fun l g' u hB hl hn hp K hK => ?_) ?_
          · have e0 : g' 150 = .pointer (some ⟨g, 0, none⟩) := (hp 0 (by decide)).2; simp only [mkM, maskR, mixM, Nat.reduceAdd, e0] at hK ⊢; clear e0; simp only [Act.put, List.setIfInBounds_toArray, List.set_cons_zero, List.set_cons_succ] at hK; go_simp; exact hK.out _ _ (fun h => hB (by simpa [setL] using h)) GF.same rfl
          refine StepsM.cons (fun l g' u hB hl hn hp K hK => ?_) ?_
          · have e0 : g' 151 = .pointer (some ⟨g, 0, none⟩) := (hp 1 (by decide)).2; simp only [mkM, maskR, mixM, Nat.reduceAdd, e0] at hK ⊢; clear e0; simp only [Act.put, List.setIfInBounds_toArray, List.set_cons_zero, List.set_cons_succ] at hK; go_simp; exact hK.out _ _ (fun h => hB (by simpa [setL] using h)) GF.same rfl
          refine StepsM.cons (fun l g' u hB hl hn hp K hK => ?_) ?_
          · have hbb := hB (hn 12 (by decide)); have hc := gp0 _ hbb; have e0 : g' 152 = .pointer (some ⟨g, 0, none⟩) := (hp 2 (by decide)).2; simp only [mkM, maskR, mixM, Nat.reduceAdd, e0] at hK ⊢; clear e0; simp only [Act.put, List.setIfInBounds_toArray, List.set_cons_zero, List.set_cons_succ] at hK; go_simp; exact hK.out _ _ (fun h => hB (by simpa [setL] using h)) GF.same rfl
          refine StepsM.cons (fun l g' u hB hl hn hp K hK => ?_) ?_
          · have hbb := hB (hn 12 (by decide)); have hc := gN _ hbb; simp only [mkM, maskR, mixM, Nat.reduceAdd] at hK ⊢; simp only [Act.put, List.setIfInBounds_toArray, List.set_cons_zero, List.set_cons_succ] at hK; go_simp; exact hK.out _ _ (fun h => hB (by simpa [setL] using h)) GF.same rfl
          refine StepsM.cons (fun l g' u hB hl hn hp K hK => ?_) ?_
          · have hbb := hB (hn 12 (by decide)); simp only [mkM, maskR, mixM, Nat.reduceAdd] at hK ⊢; simp only [Act.put, List.setIfInBounds_toArray, List.set_cons_zero, List.set_cons_succ] at hK; go_simp; go_at_call 13; refine (new_s 256 _ (by decide)).mono ?_; rintro e w7 ⟨xa, xl, xc, rfl, hx, hb⟩; go_wp2_with fail; exact hK.out _ _ (fun _ => BB.step hbb hb) (GF.below hb) ⟨xa, xl, xc, rfl, hx⟩
          refine StepsM.cons (fun l g' u hB hl hn hp K hK => ?_) ?_
          · have hbb := hB (hn 12 (by decide)); have e0 : g' 154 = .agg #[.slice na nl nc] := (hp 4 (by decide)).2; obtain ⟨x1, l1, c1, e1, h1⟩ := (hp 5 (by decide)).2; have e1 : g' 155 = .agg #[.slice x1 l1 c1] := e1; simp only [mkM, maskR, mixM, Nat.reduceAdd, e0, e1] at hK ⊢; clear e0 e1; simp only [Act.put, List.setIfInBounds_toArray, List.set_cons_zero, List.set_cons_succ] at hK; go_simp; go_at_call 91; refine (mul_s na x1 nl nc l1 c1 V 256 _ (HNn.out.below hbb) h1 HM1.out).mono ?_; rintro e w7 ⟨xa, xl, xc, rfl, hx, hb⟩; go_wp2_with fail; exact hK.out _ _ (fun _ => BB.step hbb hb) (GF.below hb) ⟨xa, xl, xc, rfl, hx⟩
          refine StepsM.cons (fun l g' u hB hl hn hp K hK => ?_) ?_
          · simp only [mkM, maskR, mixM, Nat.reduceAdd] at hK ⊢; simp only [Act.put, List.setIfInBounds_toArray, List.set_cons_zero, List.set_cons_succ] at hK; go_simp; exact hK.out _ _ (fun h => hB (by simpa [setL] using h)) GF.same rfl
          refine StepsM.cons (fun l g' u hB hl hn hp K hK => ?_) ?_
          · have e0 : g' 157 = .int .u8 (x : Int) := (hp 7 (by decide)).2; simp only [mkM, maskR, mixM, Nat.reduceAdd, e0] at hK ⊢; clear e0; simp only [Act.put, List.setIfInBounds_toArray, List.set_cons_zero, List.set_cons_succ] at hK; go_simp; exact hK.out _ _ (fun h => hB (by simpa [setL] using h)) GF.same rfl
          refine StepsM.cons (fun l g' u hB hl hn hp K hK => ?_) ?_
          · have hbb := hB (hn 12 (by decide)); have e0 : g' 158 = .int .u64 (x : Int) := (hp 8 (by decide)).2; simp only [mkM, maskR, mixM, Nat.reduceAdd, e0] at hK ⊢; clear e0; simp only [Act.put, List.setIfInBounds_toArray, List.set_cons_zero, List.set_cons_succ] at hK; go_simp; go_at_call 13; refine (new_s x _ (Nat.lt_trans hx8 (by decide))).mono ?_; rintro e w7 ⟨xa, xl, xc, rfl, hx, hb⟩; go_wp2_with fail; exact hK.out _ _ (fun _ => BB.step hbb hb) (GF.below hb) ⟨xa, xl, xc, rfl, hx⟩
          refine StepsM.cons (fun l g' u hB hl hn hp K hK => ?_) ?_
          · have hbb := hB (hn 12 (by decide)); obtain ⟨x0, l0, c0, e0, h0⟩ := (hp 6 (by decide)).2; have e0 : g' 156 = .agg #[.slice x0 l0 c0] := e0; obtain ⟨x1, l1, c1, e1, h1⟩ := (hp 9 (by decide)).2; have e1 : g' 159 = .agg #[.slice x1 l1 c1] := e1; simp only [mkM, maskR, mixM, Nat.reduceAdd, e0, e1] at hK ⊢; clear e0 e1; simp only [Act.put, List.setIfInBounds_toArray, List.set_cons_zero, List.set_cons_succ] at hK; go_simp; go_at_call 81; refine (add_s x0 x1 l0 c0 l1 c1 (V * 256) x _ h0 h1 HM2.out).mono ?_; rintro e w7 ⟨xa, xl, xc, rfl, hx, hb⟩; go_wp2_with fail; exact hK.out _ _ (fun _ => BB.step hbb hb) (GF.below hb) ⟨xa, xl, xc, rfl, hx⟩
          refine StepsM.cons (fun l g' u hB hl hn hp K hK => ?_) ?_
          · have hbb := hB (hn 12 (by decide)); have e0 : g' 153 = .pointer (some ⟨rp, 0, none⟩) := (hp 3 (by decide)).2; obtain ⟨x1, l1, c1, e1, h1⟩ := (hp 10 (by decide)).2; have e1 : g' 160 = .agg #[.slice x1 l1 c1] := e1; simp only [mkM, maskR, mixM, Nat.reduceAdd, e0, e1] at hK ⊢; clear e0 e1; simp only [Act.put, List.setIfInBounds_toArray, List.set_cons_zero, List.set_cons_succ] at hK; go_simp; go_at_call 25; refine (of_s rp P x1 l1 c1 (V * 256 + x) _ (HP.out.below hbb) h1).mono ?_; rw [HX.out]; rintro e w7 ⟨xa, xl, xc, rfl, hx, hb⟩; go_wp2_with fail; exact hK.out _ _ (fun _ => BB.step hbb hb) (GF.below hb) ⟨xa, xl, xc, rfl, hx⟩
          refine StepsM.cons (fun l g' u hB hl hn hp K hK => ?_) ?_
          · have hbb := hB hl; obtain ⟨_, _, _, c9, f9, _⟩ := (HN.out.below hbb).box; obtain ⟨x1, l1, c1, e1, h1⟩ := (hp 11 (by decide)).2; have e1 : g' 161 = .agg #[.slice x1 l1 c1] := e1; have hG9 := Lib.hid (HG.out.below hbb); have hR9 := Lib.hid (HP.out.below hbb); have hQ9 := Lib.hid (HQ.out.below hbb); have hD9 := Lib.hid (HRD.out.below hbb); have hN9 := Lib.hid (HN.out.below hbb); simp only [mkM, maskR, mixM, Nat.reduceAdd, e1] at hK ⊢; clear e1; simp only [Act.put, List.setIfInBounds_toArray, List.set_cons_zero, List.set_cons_succ] at hK; go_simp; obtain ⟨_, _, _, hBN, _⟩ := hN9.out; exact hK.out undef _ (fun h => by simp [setL] at h) (GF.kept rfl (fun _ _ _ hn => hn.set hBN 0 _)) ⟨hG9.out.setNat hBN (by show s ≤ Nb; exact hNs) hNT.1 hNT.2 _ _, hR9.out.set hBN (fun e => by obtain ⟨_, _, _, hB, _⟩ := hR9.out; exact ety_ne hB hBN (by decide) e) 0 _, hQ9.out.set hBN (fun e => by obtain ⟨_, _, _, hB, _⟩ := hQ9.out; exact ety_ne hB hBN (by decide) e) 0 _, hD9.out.setCell hBN (by decide) 0 _, ⟨x1, l1, c1, hBN.set 0 _, h1.set hBN 0 _⟩⟩
          exact StepsM.nil
        · intro l g' u _ _ hG
          obtain ⟨hG9, hR9, hQ9, hD9, hN9⟩ := hG 12 (by decide)
          have HG9 := Lib.hid hG9
          have HR9 := Lib.hid hR9
          have HQ9 := Lib.hid hQ9
          have HD9 := Lib.hid hD9
          have HN9 := Lib.hid hN9
          simp only [mkM, maskR, mixM, Nat.reduceAdd]
          clear hG hG9 hR9 hQ9 hD9 hN9 cp0 cN
          go_wp2_with fail
          go_roundw
          case rel => exact ⟨i + 1, by omega, by go_num, HG9.out, HR9.out, HQ9.out, HD9.out, HN9.out⟩
          case measure => simp [intOf]; omega
      · have hi' : i = sz + 8 := by omega
        subst hi'
        rw [List.take_of_length_le (by rw [HDL.out]; exact Nat.le_refl _)] at HN
        obtain ⟨na, nl, nc, gN, Nn⟩ := HN.out.get
        obtain ⟨ta, tl, tc, gT, Nt⟩ := HG.out.tm.get
        obtain ⟨oa, ol, oc, gO, No⟩ := HG.out.one.get
        have HNn := Lib.hid Nn
        have HNt := Lib.hid Nt
        have HNo := Lib.hid No
        have gp0 : ∀ w', BB wr w' → w'.cell? ⟨g, 0, none⟩ = some (.pointer (some ⟨rp, 0, none⟩)) := fun w' h => (h.cell HG.out.bg.lt).trans (HG.out.bg.cell 0)
        have hgN : Nb ≠ g := by obtain ⟨_, _, _, hB, _⟩ := HN.out; exact fun e => ety_ne HG.out.bg hB (by decide) e.symm
        have hgT : TB ≠ g := by obtain ⟨_, _, _, hB, _⟩ := HG.out.tm; exact fun e => ety_ne HG.out.bg hB (by decide) e.symm
        clear Nn Nt No
        go_wp2_with fail
        go_region_held3 (fun w' => w'.cell? ⟨g, 0, none⟩ = some (.pointer (some ⟨rp, 0, none⟩)) ∧ w'.cell? ⟨Nb, 0, none⟩ = some (.slice na nl nc) ∧ w'.cell? ⟨TB, 0, none⟩ = some (.slice ta tl tc)) (first | assumption | exact ⟨gp0 _ (BB.drew (BB.refl _)), gN _ (BB.drew (BB.refl _)), gT _ (BB.drew (BB.refl _))⟩ | exact hst _)
          (first
            | (go_at_call 92; refine (rexp_any rp P na ta nl nc tl tc _ T wr.drew HP.out.drew HNn.out.drew HNt.out.drew).mono ?_; rw [HDH.out]; rintro e w5 ⟨ha, hl, hc, rfl, hh, hb5⟩; have hbb5 : BB wr w5 := BB.step (BB.drew (BB.refl wr)) hb5; have HH5 := Lib.hid hh; have hall5 : w5.cell? ⟨g, 0, none⟩ = some (.pointer (some ⟨rp, 0, none⟩)) ∧ w5.cell? ⟨Nb, 0, none⟩ = some (.slice na nl nc) ∧ w5.cell? ⟨TB, 0, none⟩ = some (.slice ta tl tc) := ⟨gp0 _ hbb5, gN _ hbb5, gT _ hbb5⟩; have cg3 := (HG.out.below hbb5).bg.cell 3; have fg3 := (HG.out.below hbb5).bg.frozen 3; simp only [List.getElem?_cons_succ, List.getElem?_cons_zero] at cg3; have hst : ∀ v, (w5.setCell ⟨g, 3, none⟩ v).cell? ⟨g, 0, none⟩ = some (.pointer (some ⟨rp, 0, none⟩)) ∧ (w5.setCell ⟨g, 3, none⟩ v).cell? ⟨Nb, 0, none⟩ = some (.slice na nl nc) ∧ (w5.setCell ⟨g, 3, none⟩ v).cell? ⟨TB, 0, none⟩ = some (.slice ta tl tc) := fun v => ⟨((HG.out.below hbb5).set 3 v).bg.cell 0, (cell_other v (show Nb ≠ g from hgN)).trans (gN _ hbb5), (cell_other v (show TB ≠ g from hgT)).trans (gT _ hbb5)⟩; clear hh hb5))
        have hG5 := HG.out.below hbb5
        have HG6 := Lib.hid (hG5.set 3 (.slice ha hl hc))
        have HP6 := Lib.hid ((HP.out.below hbb5).set hG5.bg (fun e => by obtain ⟨_, _, _, hB, _⟩ := HP.out.below hbb5; exact ety_ne hB hG5.bg (by decide) e) 3 (.slice ha hl hc))
        have HQ6 := Lib.hid ((HQ.out.below hbb5).set hG5.bg (fun e => by obtain ⟨_, _, _, hB, _⟩ := HQ.out.below hbb5; exact ety_ne hB hG5.bg (by decide) e) 3 (.slice ha hl hc))
        have HH6 := Lib.hid (HH5.out.set hG5.bg 3 (.slice ha hl hc))
        clear hG5 hall5 hst cg3 fg3 gp0 gN gT HNn HNt HNo HN HRD HG HP HQ HH5 hbb5
        generalize w5.setCell ⟨g, 3, none⟩ (.slice ha hl hc) = w6 at HG6 HP6 HQ6 HH6 ⊢
        obtain ⟨oa, ol, oc, gO, No⟩ := HG6.out.one.get
        have HO6 := Lib.hid No
        have g3 : ∀ w', BB w6 w' → w'.cell? ⟨g, 3, none⟩ = some (.slice ha hl hc) := fun w' h => (h.cell HG6.out.bg.lt).trans (HG6.out.bg.cell 3)
        have hcg := cmp_gt HC.out.2.2.2.2.2.2.2.2.2.2
        have HCG := Lib.hid hcg
        clear No hcg
        go_wp2_with fail
        go_region_held3 (fun w' => BB w6 w') (first | assumption | exact BB.drew (BB.refl _))
          (first
            | (go_at_call 31; refine (cmp_s ha oa hl hc ol oc H 1 w6.drew HH6.out.drew HO6.out.drew).mono ?_; rw [HCG.out]; rintro e w7 ⟨rfl, hb7⟩; have hbb7 : BB w6 w7 := BB.step (BB.drew (BB.refl w6)) hb7; clear hb7))
        have HG7 := Lib.hid (HG6.out.below hbb7)
        have HP7 := Lib.hid (HP6.out.below hbb7)
        have HQ7 := Lib.hid (HQ6.out.below hbb7)
        have HH7 := Lib.hid (HH6.out.below hbb7)
        clear hbb7 g3 gO HO6 HG6 HP6 HQ6 HH6
        go_wp2_with fail
        refine bodyPost_ret (results_tmp2 rfl _ _ _) rfl ?_
        exact ⟨g, rfl, ⟨rp, rq, ga, gl, gc, ha, hl, hc, HG7.out.bg, HP7.out, HQ7.out, HG7.out.nG, HH7.out⟩, HS.out ▸ HG7.out.bel⟩
end Go.Proofs.YthefednendgclaaGreat
