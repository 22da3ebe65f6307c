/-
  deal.Recover: what pieces of a dealing tell at a place.
-/
import Derived.Test.YthefednendgclaaGreatDRight
import Derived.Test.YthefednendgclaaGreatPiece
import Derived.Test.YthefednendgclaaGreatJoin
set_option linter.unusedVariables false
set_option linter.unusedSimpArgs false
namespace Go.Proofs.YthefednendgclaaGreat
open Go Go.RowKit Sac NT

/-! ### Facts of the two regions that join -/
def KpX (B0 : Nat) (w w' : World) : Prop := KT B0 36 w w' ∧ ∀ D x, Blk w D 36 [x] → ∃ y, Blk w' D 36 [y]
theorem KpX.store {B0 D : Nat} {w : World} {a u : Value} (hB : Blk w D 36 [a]) (hD : B0 ≤ D) : KpX B0 w (w.setCell ⟨D, 0, none⟩ u) := by
  refine ⟨KT.set hB hD 0 u, fun D' x h => ?_⟩
  by_cases e : D' = D
  · subst e
    exact ⟨u, hB.set 0 u⟩
  · exact ⟨x, h.other ⟨D, 0, none⟩ u e⟩
def IsXR (Q : Nat) (v : Value) (w : World) : Prop := ∃ r, v = .pointer (some ⟨r, 0, none⟩) ∧ RingAt w r Q
def IsXT (z : Nat) (v : Value) (w : World) : Prop := ∃ a l k, v = .tuple #[.agg #[.slice a l k], .int .i64 0] ∧ NatS w a l z
def IsXP (B0 : Nat) (v : Value) (w : World) : Prop := ∃ D x, v = .pointer (some ⟨D, 0, none⟩) ∧ B0 ≤ D ∧ Blk w D 36 [x]
def DVx (B0 z : Nat) (v : Value) (w : World) : Prop := ∃ D, v = .pointer (some ⟨D, 0, none⟩) ∧ B0 ≤ D ∧ NB w D z
section
variable {B0 : Nat}
def Fk.xr (Q : Nat) : Fk (KpX B0) := ⟨IsXR Q, fun _ _ _ hb ⟨r, e, h⟩ => ⟨r, e, h.below hb⟩, true, fun _ _ _ _ k ⟨r, e, h⟩ => ⟨r, e, h.kt (by decide) (by decide) k.1⟩⟩
def Fk.xt (z : Nat) : Fk (KpX B0) := ⟨IsXT z, fun _ _ _ hb ⟨a, l, k, e, h⟩ => ⟨a, l, k, e, h.below hb⟩, true, fun _ _ _ _ kk ⟨a, l, k, e, h⟩ => ⟨a, l, k, e, h.kt (by decide) kk.1⟩⟩
def Fk.xn (z : Nat) : Fk (KpX B0) := ⟨IsNat z, IsNat.below, true, fun _ _ _ _ kk ⟨a, l, k, e, h⟩ => ⟨a, l, k, e, h.kt (by decide) kk.1⟩⟩
def Fk.xp : Fk (KpX B0) := ⟨IsXP B0, fun _ _ _ hb ⟨D, x, e, h1, h2⟩ => ⟨D, x, e, h1, h2.below hb h2.lt⟩, true, fun _ _ _ _ k ⟨D, x, e, h1, h2⟩ => by
  obtain ⟨y, h3⟩ := k.2 D x h2
  exact ⟨D, y, e, h1, h3⟩⟩
end
/-- A number joined, without an error. -/
def JYes (z : Nat) (w : World) (e : Ending) (w' : World) : Prop := ∃ a l k, e = .returned (.tuple #[.agg #[.slice a l k], .int .i64 0]) ∧ NatS w' a l z ∧ Below w.heap.size w w'
theorem JoinPost.yes {q : Nat} {xs : List Nat} {ny z : Nat} {w w' : World} {e : Ending} (hd : Dis q xs) (h0 : 0 < xs.length) (hn : xs.length = ny) (h : JoinPost q xs ny z w e w') : JYes z w e w' := by
  obtain ⟨a, l, k, c, rfl, hb, h⟩ := h
  rcases h with ⟨h1, _⟩ | ⟨_, h1, _⟩ | ⟨_, _, h1, _⟩ | ⟨_, _, _, h2, h3⟩
  · omega
  · exact absurd hn h1
  · exact absurd hd h1
  · exact ⟨a, l, k, by rw [h2], h3, hb⟩
/-- What the pieces that count tell. -/
def RecTells (Q t : Nat) (pr : Nat → Int) (good : List Nat) (S R : Nat → Nat) (x s r : Nat) (er : Int) : Prop :=
  (good.length < t ∧ er = 10 ∧ s = 0 ∧ r = 0) ∨ (t ≤ good.length ∧ er = 0 ∧ ∃ gs : List Nat, gs.Perm good ∧ gs.Pairwise (fun i j => pr i < pr j) ∧ s = wsum Q ((gs.take t).map S) (wts Q ((gs.take t).map fun i => (pr i).toNat) x) t ∧ r = wsum Q ((gs.take t).map R) (wts Q ((gs.take t).map fun i => (pr i).toNat) x) t)
def RecPost (Q t : Nat) (pr : Nat → Int) (good : List Nat) (S R : Nat → Nat) (x : Nat) (w : World) (e : Ending) (w' : World) : Prop := ∃ (a : Option Addr) (l k : Nat) (a' : Option Addr) (l' k' s r : Nat) (er : Int), e = .returned (.tuple #[.agg #[.slice a l k, .slice a' l' k'], .int .i64 er]) ∧ NatS w' a l s ∧ NatS w' a' l' r ∧ RecTells Q t pr good S R x s r er ∧ Below w.heap.size w w'
/-- The pieces that count. -/
def goodP (P Q G H t : Nat) (c : List Nat) (pr : Nat → Int) (S R : Nat → Nat) (n : Nat) : List Nat := goodI pr (fun i => decide (RightP P Q G H t c (pr i) (S i) (R i))) n
theorem take_one {α : Type} {l : List α} {d : α} {i : Nat} (h : i < l.length) : l.take (i + 1) = l.take i ++ [l.getD i d] := by
  rw [List.take_add_one, List.getElem?_eq_getElem h, List.getD_eq_getElem?_getD, List.getElem?_eq_getElem h]
  rfl
theorem mem_getD {α : Type} {l : List α} {d : α} {i : Nat} (h : i < l.length) : l.getD i d ∈ l := by
  rw [List.getD_eq_getElem?_getD, List.getElem?_eq_getElem h]
  exact List.getElem_mem h
theorem map_getD' {α β : Type} {l : List α} {f : α → β} {d : α} {e : β} {i : Nat} (h : i < l.length) : (l.map f).getD i e = f (l.getD i d) := by
  simp [List.getD_eq_getElem?_getD, List.getElem?_map, List.getElem?_eq_getElem h]
theorem GE.noF {w wr : World} {s : Nat} {L : List Itm} {F : List (World → Prop)} (h : GE w wr s L F) : GE w wr s L [] := ⟨h.bel, h.its, h.apart, fun i P hi => by simp at hi, fun i P hi => by simp at hi, h.base⟩
theorem cell_lit {w : World} {p : PV} : ∀ (j : Nat) (u : Value), p.enc[j]? = some u → (w.alloc (Obj.cells #[Value.int .i64 p.peer, Value.slice p.x p.xl p.xc, Value.slice p.y p.yl p.yc] 77)).cell? ((⟨w.heap.size, 0, none⟩ : Addr).add j) = some u := fun j u h => by
  have e : ((⟨w.heap.size, 0, none⟩ : Addr).add j) = ⟨w.heap.size, j, none⟩ := by unfold Addr.add; split <;> simp_all
  rw [e]
  exact ((Blk.new w [Value.int .i64 p.peer, Value.slice p.x p.xl p.xc, Value.slice p.y p.yl p.yc] 77).cell j).trans h
def dstH22 : List (Option Tmp) := [some 89, some 90, some 91, some 92, some 93, some 94, some 88, some 95, some 96, some 21, none, some 22]
def preH22 : List (List Nat) := [[], [0], [], [], [], [0, 1, 2, 3, 4], [0, 1, 2, 3, 4, 5], [0, 1, 2, 3, 4, 5, 6], [0, 1, 2, 3, 4, 5, 6], [], [0, 1, 2, 3, 4, 5, 6, 7, 9], [0, 1, 2, 3, 4, 5, 6, 7, 8, 9, 10]]
def maskH22 : List Bool := [false, false, false, false, false, false, false, false, false, false, false, false, false, false, false, false, false, false, false, false, false, true, true, false, false, false, false, false, false, false, false, false, false, false, false, false, false, false, false, false, false, false, false, false, false, false, false, false, false, false, false, false, false, false, false, false, false, false, false, false, false, false, false, false, false, false, false, false, false, false, false, false, false, false, false, false, false, false, false, false, false, false, false, false, false, false, false, false, true, true, true, true, true, true, true, true, true, false, false, false, false, false, false, false, false, false, false, false, false, false, false, false, false, false, false, false, false]
def dstH25 : List (Option Tmp) := [some 102, some 103, some 104, some 105, some 106, some 107, some 101, some 108, some 109, some 23, none, some 22]
def preH25 : List (List Nat) := [[], [0], [], [], [], [0, 1, 2, 3, 4], [0, 1, 2, 3, 4, 5], [0, 1, 2, 3, 4, 5, 6], [0, 1, 2, 3, 4, 5, 6], [], [0, 1, 2, 3, 4, 5, 6, 7, 9], [0, 1, 2, 3, 4, 5, 6, 7, 8, 9, 10]]
def maskH25 : List Bool := [false, false, false, false, false, false, false, false, false, false, false, false, false, false, false, false, false, false, false, false, false, false, true, true, false, false, false, false, false, false, false, false, false, false, false, false, false, false, false, false, false, false, false, false, false, false, false, false, false, false, false, false, false, false, false, false, false, false, false, false, false, false, false, false, false, false, false, false, false, false, false, false, false, false, false, false, false, false, false, false, false, false, false, false, false, false, false, false, false, false, false, false, false, false, false, false, false, false, false, false, false, true, true, true, true, true, true, true, true, true, false, false, false, false, false, false, false]

set_option maxRecDepth 100000 in
set_option maxHeartbeats 8000000 in
theorem recover_any (g P Q G H sz t : Nat) (a : Option Addr) (len cap : Nat) (c : List Nat) (b : Option Addr) (n capb : Nat) (lp : List PV) (S R : Nat → Nat) (xa : Option Addr) (xl xc x : Nat) (w : World)
    (hg : GroupAt w g P Q G H sz) (h1 : 1 ≤ t) (h2 : t ≤ 64) (hP1 : 1 < P) (hQ : Prime Q) (hQ64 : 64 < Q) (hQ1 : ∀ z, z < Q → z < 2 ^ 1000)
    (hc : NatsAt w a c) (hl : c.length = len) (hcc : (len : Int) ≤ cap) (hcm : (len : Int) ≤ 10000) (hL : PRowAt w b lp) (hLn : lp.length = n) (hnb : (n : Int) ≤ capb) (hn1 : n ≤ 1000)
    (hpc : ∀ i, i < n → NatS w (lp.getD i default).x (lp.getD i default).xl (S i) ∧ NatS w (lp.getD i default).y (lp.getD i default).yl (R i)) (hx : NatS w xa xl x) :
    Calls Tryz.prog 30 #[.pointer (some ⟨g, 0, none⟩), .int .i64 (t : Int), .slice a len cap, .slice b n capb, .agg #[.slice xa xl xc]] w (RecPost Q t (fun i => (lp.getD i default).peer) (goodP P Q G H t c (fun i => (lp.getD i default).peer) S R n) S R x w) := by
  obtain ⟨s, hs⟩ : ∃ s, s = w.heap.size := ⟨_, rfl⟩
  have hbA := (Below.refl _ w).alloc (Nat.le_refl _) (Obj.cells #[Value.slice xa xl xc] 36)
  have hbB : BB w ((w.alloc (Obj.cells #[Value.slice xa xl xc] 36)).alloc (Obj.cells #[Value.slice none 0 0, Value.slice none 0 0] 64)) := BB.alloc hbA
  have HX1 : Hid (Blk ((w.alloc (Obj.cells #[Value.slice xa xl xc] 36)).alloc (Obj.cells #[Value.slice none 0 0, Value.slice none 0 0] 64)) s 36 [.slice xa xl xc]) := (Blk.new' w _ _ s hs).alloc _
  have HO1 : Hid (Blk ((w.alloc (Obj.cells #[Value.slice xa xl xc] 36)).alloc (Obj.cells #[Value.slice none 0 0, Value.slice none 0 0] 64)) (s + 1) 64 [.slice none 0 0, .slice none 0 0]) := Blk.new' _ _ _ (s + 1) (by rw [hs]; simp)
  have HG1 := Lib.hid (hg.below hbB)
  have HC1 := Lib.hid (hc.below hbB)
  have HL1 := Lib.hid (hL.below hbB)
  have HN1 : Hid (∀ i, i < n → NatS ((w.alloc (Obj.cells #[Value.slice xa xl xc] 36)).alloc (Obj.cells #[Value.slice none 0 0, Value.slice none 0 0] 64)) (lp.getD i default).x (lp.getD i default).xl (S i) ∧ NatS ((w.alloc (Obj.cells #[Value.slice xa xl xc] 36)).alloc (Obj.cells #[Value.slice none 0 0, Value.slice none 0 0] 64)) (lp.getD i default).y (lp.getD i default).yl (R i)) := fun i hi => ⟨(hpc i hi).1.below hbB, (hpc i hi).2.below hbB⟩
  have HXN1 := Lib.hid (hx.below hbB)
  have HB1 : Hid (Below s w ((w.alloc (Obj.cells #[Value.slice xa xl xc] 36)).alloc (Obj.cells #[Value.slice none 0 0, Value.slice none 0 0] 64))) := hs.symm ▸ hbB
  have HSS := Lib.hid hs
  have HCL := Lib.hid (And.intro hl hLn)
  have HQQ := Lib.hid (And.intro hP1 (And.intro hQ (And.intro hQ64 hQ1)))
  obtain ⟨lv, hlv⟩ : ∃ lv : Nat → PV, ∀ i, lp.getD i default = lv i := ⟨fun i => lp.getD i default, fun _ => rfl⟩
  have hlvf : (fun i => (lp.getD i default).peer) = fun i => (lv i).peer := by funext i; rw [hlv]
  rw [hlvf]
  have HLV := Lib.hid hlv
  obtain ⟨gd, hgd⟩ : ∃ gd : Nat → List Nat, ∀ m, goodP P Q G H t c (fun i => (lv i).peer) S R m = gd m := ⟨_, fun _ => rfl⟩
  rw [hgd]
  have HGD := Lib.hid hgd
  have HGL : Hid (∀ m, (gd m).length ≤ m) := fun m => by rw [← hgd]; exact goodI_len m
  have HGS : Hid (∀ m, ((gd m).any fun j => (lv j).peer == (lv m).peer) = true → gd (m + 1) = gd m) := fun m h => by rw [← hgd] at h ⊢; rw [← hgd]; exact goodI_same h
  have HGN : Hid (∀ m, ¬ RightP P Q G H t c (lv m).peer (S m) (R m) → gd (m + 1) = gd m) := fun m h => by rw [← hgd, ← hgd]; exact goodI_no (decide_eq_false h)
  have HGY : Hid (∀ m, ((gd m).any fun j => (lv j).peer == (lv m).peer) = false → RightP P Q G H t c (lv m).peer (S m) (R m) → gd (m + 1) = gd m ++ [m]) := fun m h h' => by rw [← hgd] at h ⊢; rw [← hgd]; exact goodI_yes h (decide_eq_true h')
  clear hbA hbB hg hc hl hL hLn hpc hx hP1 hQ hQ64 hQ1 hlv hlvf hgd
  go_enter Tryz.func30, Tryz.ntmps30
  go_wp2_with fail
  rw [← hs]
  clear hs
  generalize (w.alloc (Obj.cells #[Value.slice xa xl xc] 36)).alloc (Obj.cells #[Value.slice none 0 0, Value.slice none 0 0] 64) = w1 at HX1 HO1 HG1 HC1 HL1 HN1 HXN1 HB1 ⊢
  refine (wrong_no g t w1 h1 h2).mono ?_
  rintro e w2 ⟨rfl, hb2⟩
  have HX2 := Lib.hid (HX1.out.below hb2 HX1.out.lt)
  have HO2 := Lib.hid (HO1.out.below hb2 HO1.out.lt)
  have HG2 := Lib.hid (HG1.out.below hb2)
  have HC2 := Lib.hid (HC1.out.below hb2)
  have HL2 := Lib.hid (HL1.out.below hb2)
  have HN2 : Hid (∀ i, i < n → NatS w2 (lv i).x (lv i).xl (S i) ∧ NatS w2 (lv i).y (lv i).yl (R i)) := fun i hi => by rw [← HLV.out]; exact ⟨(HN1.out i hi).1.below hb2, (HN1.out i hi).2.below hb2⟩
  have HXN2 := Lib.hid (HXN1.out.below hb2)
  have HB2 := Lib.hid (HB1.out.trans (hb2.mono (Nat.le_of_lt (Nat.lt_trans (Nat.lt_succ_self s) HO1.out.lt))))
  clear hb2 HX1 HO1 HG1 HC1 HL1 HN1 HXN1 HB1
  go_wp2_with fail
  go_loopw [12, 30] (fun gv iv wr => ∃ i : Nat, i ≤ n ∧ iv = .int .i64 (i : Int) ∧ Hid (BB w2 wr) ∧ Hid (POwn wr w2.heap.size gv ((gd i).map lv))) (fun _ iv _ => n - (intOf iv).toNat)
  case atStart => exact ⟨0, Nat.zero_le _, rfl, BB.refl _, by
    have e : gd 0 = [] := List.eq_nil_of_length_eq_zero (Nat.le_zero.1 (HGL.out 0))
    rw [e]
    exact POwn.nil _ _⟩
  case round =>
    obtain ⟨i, hi, rfl, HBR, HOW⟩ := hrel
    obtain ⟨ga, gc, rfl, hcap1, hcap2, hPR⟩ := HOW.out.form
    obtain ⟨m, hm⟩ : ∃ m, ((gd i).map lv).length = m := ⟨_, rfl⟩
    have hm1000 : m ≤ 1000 := by have := HGL.out i; rw [List.length_map] at hm; omega
    rw [hm] at hcap1 ⊢
    have HOM : Hid (POwn wr w2.heap.size (.slice ga m gc) ((gd i).map lv)) := by rw [← hm]; exact HOW.out
    have HM := Lib.hid hm
    have HPR := Lib.hid hPR
    clear hm hPR HOW
    by_cases hlt : (i : Int) < (n : Int)
    · obtain ⟨gb, hbe, hgb, c0, c1, c2⟩ := (HL2.out.below HBR.out) i (by rw [HCL.out.2]; omega)
      subst hbe
      rw [HLV.out] at c0 c1 c2
      obtain ⟨p, hp⟩ : ∃ p, lv i = p := ⟨_, rfl⟩
      rw [hp] at c0 c1 c2
      have HP := Lib.hid hp
      obtain ⟨pb, hpb⟩ : ∃ pb, pb = wr.heap.size := ⟨_, rfl⟩
      have hbx := (Below.refl _ wr).alloc (Nat.le_refl _) (Obj.cells #[Value.int .i64 p.peer, Value.slice p.x p.xl p.xc, Value.slice p.y p.yl p.yc] 77)
      have HBP : Hid (Blk (wr.alloc (Obj.cells #[Value.int .i64 p.peer, Value.slice p.x p.xl p.xc, Value.slice p.y p.yl p.yc] 77)) pb 77 [.int .i64 p.peer, .slice p.x p.xl p.xc, .slice p.y p.yl p.yc]) := Blk.new' wr _ _ pb hpb
      have HB4 := Lib.hid (BB.step HBR.out hbx)
      have HO4 := Lib.hid (HOM.out.below hbx)
      have HPR4 := Lib.hid (HPR.out.below hbx)
      have HPB := Lib.hid hpb
      have HNI := Lib.hid (HN2.out i (by omega))
      rw [hp] at HNI
      clear hbx hpb hp HBR HOM HPR
      go_wp2_with fail
      rw [← HPB.out]
      generalize wr.alloc (Obj.cells #[Value.int .i64 p.peer, Value.slice p.x p.xl p.xc, Value.slice p.y p.yl p.yc] 77) = w4 at HBP HB4 HO4 HPR4 ⊢
      clear c0 c1 c2
      refine (contains_any ga m gc ((gd i).map lv) pb p.peer w4 HPR4.out HM.out hcap1 (by omega) HBP.out.lt (HBP.out.cell 0)).mono ?_
      have hany0 : (((gd i).map lv).any fun q => q.peer == p.peer) = ((gd i).any fun j => (lv j).peer == (lv i).peer) := by rw [List.any_map, HP.out]; rfl
      rw [hany0]
      rintro e w5 ⟨rfl, hb5⟩
      have HBP5 := Lib.hid (HBP.out.below hb5 HBP.out.lt)
      have HB5 := Lib.hid (BB.step HB4.out hb5)
      have HO5 := Lib.hid (HO4.out.below hb5)
      clear hb5 hany0 HBP HB4 HO4 HPR4
      cases hany : ((gd i).any fun j => (lv j).peer == (lv i).peer) with
      | true =>
        have HS1 := Lib.hid (HGS.out i hany)
        clear hany
        go_wp2_with fail
        go_roundw
        case rel => exact ⟨i + 1, by omega, by go_num, HB5.out, by rw [HS1.out]; exact HO5.out⟩
        case measure => simp [intOf]; omega
      | false =>
        have HAN := Lib.hid hany
        have d0 := HBP5.out.cell 0
        have d1 := HBP5.out.cell 1
        have d2 := HBP5.out.cell 2
        simp only [List.getElem?_cons_zero, List.getElem?_cons_succ] at d0 d1 d2
        clear hany
        go_wp2_with fail
        refine (dright_any g P Q G H sz t a len cap c p.peer p.x p.xl p.xc (S i) p.y p.yl p.yc (R i) w5 (HG2.out.below HB5.out) h1 h2 HQQ.out.1 HQQ.out.2.2.2 (HC2.out.below HB5.out) HCL.out.1 hcc hcm (HNI.out.1.below HB5.out) (HNI.out.2.below HB5.out)).mono ?_
        by_cases hr : RightP P Q G H t c p.peer (S i) (R i)
        · rw [decide_eq_true hr]
          have HRR := Lib.hid (HGY.out i HAN.out (by rw [HP.out]; exact hr))
          rintro e w6 ⟨rfl, hb6⟩
          have hBP6 := HBP5.out.below hb6 HBP5.out.lt
          have HB6 := Lib.hid (BB.step HB5.out hb6)
          have HO6 := Lib.hid (HO5.out.below hb6)
          have hbl := (Below.refl _ w6).alloc (Nat.le_refl _) (Obj.cells #[Value.int .i64 p.peer, Value.slice p.x p.xl p.xc, Value.slice p.y p.yl p.yc] 77)
          have HB7 := Lib.hid (BB.step HB6.out hbl)
          have HO7 := Lib.hid (HO6.out.below hbl)
          have d0 := hBP6.cell 0
          have d1 := hBP6.cell 1
          have d2 := hBP6.cell 2
          simp only [List.getElem?_cons_zero, List.getElem?_cons_succ] at d0 d1 d2
          clear hr hb6 hBP6 hbl HBP5 HB5 HO5 HB6 HO6
          go_wp2_with (first | (refine wpList_append_piece _ rfl (.tmp 49) (.tmp 51) rfl w2.heap.size _ ((gd i).map lv) rfl HO7.out ⟨w6.heap.size, 0, none⟩ 1 p rfl cell_lit (by rw [HM.out]; omega) HB7.out.size ?_; intro v' w8 hown hgr hf; have HB8 := Lib.hid (HB7.out.trans (grown_below HO7.out HB7.out.size hgr)); have HO8 := Lib.hid hown; clear hown hgr hf))
          go_roundw
          case rel => exact ⟨i + 1, by omega, by go_num, HB8.out, by
            have h := HO8.out
            rw [HRR.out, List.map_append, List.map_singleton, HP.out]
            exact h⟩
          case measure => simp [intOf]; omega
        · rw [decide_eq_false hr]
          have HRR := Lib.hid (HGN.out i (by rw [HP.out]; exact hr))
          rintro e w6 ⟨rfl, hb6⟩
          have HB6 := Lib.hid (BB.step HB5.out hb6)
          have HO6 := Lib.hid (HO5.out.below hb6)
          clear hr hb6
          go_wp2_with fail
          go_roundw
          case rel => exact ⟨i + 1, by omega, by go_num, HB6.out, by rw [HRR.out]; exact HO6.out⟩
          case measure => simp [intOf]; omega
    · obtain rfl : n = i := by omega
      obtain ⟨wE, rfl⟩ : ∃ wE, wE = wr := ⟨wr, rfl⟩
      have hgm : (gd n).length = m := by rw [← HM.out, List.length_map]
      have HGM := Lib.hid hgm
      have hO := HO2.out.below HBR.out HO2.out.lt
      have HO := Lib.hid hO
      have HBE := Lib.hid (HB2.out.trans (Below.mono HBR.out (Nat.le_of_lt (Nat.lt_trans (Nat.lt_succ_self s) HO2.out.lt))))
      clear hgm
      by_cases hmt : m < t
      · have dmt : decide ((m : Int) < (t : Int)) = true := decide_eq_true (by omega)
        have HMT := Lib.hid hmt
        have q0 := hO.cell 0
        have q1 := hO.cell 1
        have f0 := hO.frozen 0
        have f1 := hO.frozen 1
        simp only [List.getElem?_cons_zero, List.getElem?_cons_succ] at q0 q1
        clear hO
        go_wp2_with fail
        exact ret_share rfl rfl rfl ((HO.out.set 0 _).set 1 _) ⟨none, 0, 0, none, 0, 0, 0, 0, 10, rfl, natS_nil _, natS_nil _, .inl ⟨by rw [HGM.out]; exact HMT.out, rfl, rfl, rfl⟩, HSS.out ▸ (HBE.out.setCell (p := ⟨s + 1, 0, none⟩) (Nat.le_succ s) _).setCell (p := ⟨s + 1, 1, none⟩) (Nat.le_succ s) _⟩
      · have dmt : decide ((m : Int) < (t : Int)) = false := decide_eq_false (by omega)
        clear hO
        have hgform : ∃ gg : Nat, ga = some ⟨gg, 0, none⟩ ∧ gg < wE.heap.size ∧ w2.heap.size ≤ gg := by
          obtain ⟨_, ⟨h0, _⟩ | ⟨gg, cap', rest, e, hb, hB, _⟩⟩ := own_elim HOM.out
          · injection h0 with h3 h4
            omega
          · injection e with e1 e2 e3
            exact ⟨gg, e1, hB.lt, hb⟩
        obtain ⟨gg, rfl, hgg1, hgg2⟩ := hgform
        go_wp2_with fail
        refine (psort_any w2.heap.size gg m gc ((gd n).map lv) wE HM.out HOM.out (by omega)).mono ?_
        rintro e w8 ⟨rfl, L', hperm, hpw, hrow, hbel⟩
        obtain ⟨gs, hgs, rfl⟩ := perm_map_lift hperm _ rfl
        have HRS : Hid (gs.Pairwise fun i j => (lv i).peer < (lv j).peer) := rising (f := fun i => (lv i).peer) (show gs.Pairwise (fun i j => (lv i).peer ≤ (lv j).peer) by rw [List.pairwise_map] at hpw; exact hpw) (perm_dis (f := fun i => (lv i).peer) hgs (by rw [← HGD.out]; exact goodI_dis n))
        have HPM := Lib.hid hgs
        have HGE : Hid (∀ j ∈ gs, j < n ∧ RightP P Q G H t c (lv j).peer (S j) (R j)) := fun j hj => by
          have := goodI_mem (pr := fun i => (lv i).peer) (ok := fun i => decide (RightP P Q G H t c (lv i).peer (S i) (R i))) n j (by have h := hgs.mem_iff.1 hj; rw [← HGD.out] at h; exact h)
          exact ⟨this.1, of_decide_eq_true this.2⟩
        have hgl : gs.length = m := by rw [← HGM.out]; exact hgs.length_eq
        have HB8 : Hid (BB w2 w8) := HBR.out.trans (hbel w2.heap.size hgg2 HBR.out.size)
        have HBF : Hid (Below s w w8) := HBE.out.trans (hbel s (by have := HBE.out.size; have := HO2.out.lt; omega) (by have := HO2.out.lt; have := HBR.out.size; omega))
        have HRW := Lib.hid hrow
        have HGLL := Lib.hid hgl
        obtain ⟨X, hX⟩ : ∃ X, gs.map (fun i => (lv i).peer.toNat) = X := ⟨_, rfl⟩
        obtain ⟨Y, hY⟩ : ∃ Y, gs.map S = Y := ⟨_, rfl⟩
        obtain ⟨Z, hZ⟩ : ∃ Z, gs.map R = Z := ⟨_, rfl⟩
        have HXYZ : Hid (X.length = m ∧ Y.length = m ∧ Z.length = m ∧ ∀ i, i < m → ∃ j, j < n ∧ 1 ≤ (lv j).peer ∧ (lv j).peer ≤ 64 ∧ (gs.map lv).getD i default = lv j ∧ X.getD i 0 = (lv j).peer.toNat ∧ Y.getD i 0 = S j ∧ Z.getD i 0 = R j) := by
          refine ⟨by rw [← hX, List.length_map]; exact hgl, by rw [← hY, List.length_map]; exact hgl, by rw [← hZ, List.length_map]; exact hgl, fun i hi => ?_⟩
          have hil : i < gs.length := by rw [hgl]; exact hi
          have hj := HGE.out _ (mem_getD (d := 0) hil)
          exact ⟨gs.getD i 0, hj.1, hj.2.1.1, hj.2.1.2, map_getD' hil, by rw [← hX]; exact map_getD' hil, by rw [← hY]; exact map_getD' hil, by rw [← hZ]; exact map_getD' hil⟩
        have HTX : Hid ((gs.take t).map (fun i => (lv i).peer.toNat) = X.take t ∧ (gs.take t).map S = Y.take t ∧ (gs.take t).map R = Z.take t) := ⟨by rw [← hX, List.map_take], by rw [← hY, List.map_take], by rw [← hZ, List.map_take]⟩
        have HDX : Hid (Dis Q (X.take t)) := by
          show Dis Q _
          rw [← hX, ← List.map_take]
          exact dis_peers (f := fun i => (lv i).peer) HQQ.out.2.2.1 (HRS.out.sublist (List.take_sublist _ _)) (fun i hi => (HGE.out i (List.mem_of_mem_take hi)).2.1)
        obtain ⟨s3, hs3⟩ : ∃ s3, s3 = w8.heap.size := ⟨_, rfl⟩
        have HE8 := Lib.hid ((((GE.init w8 s3 hs3).pushNil).pushNil).pushNil)
        have HS3 := Lib.hid hs3
        clear hperm hpw hrow hbel hgs hgl hX hY hZ hs3
        have htm : t ≤ m := by omega
        have htc : (t : Int) ≤ gc := by omega
        go_wp2_with fail
        go_loopw [16, 17, 18, 65] (fun v1 v2 v3 iv wr => ∃ i : Nat, i ≤ t ∧ iv = .int .i64 (i : Int) ∧ Hid (GE w8 wr s3 [rowI s3 v1 (X.take i), rowI s3 v2 (Y.take i), rowI s3 v3 (Z.take i)] [])) (fun _ _ _ iv _ => t - (intOf iv).toNat)
        case atStart => exact ⟨0, Nat.zero_le _, rfl, HE8.out⟩
        case round =>
          clear HE8
          obtain ⟨i, hi, rfl, HE⟩ := hrel
          have hwb : BB w8 wr := by have q := HE.out.bel; rw [HS3.out] at q; exact q
          have hlX : (X.take i).length = i := by rw [List.length_take, HXYZ.out.1]; omega
          have hlY : (Y.take i).length = i := by rw [List.length_take, HXYZ.out.2.1]; omega
          have hlZ : (Z.take i).length = i := by rw [List.length_take, HXYZ.out.2.2.1]; omega
          by_cases hlt2 : (i : Int) < (t : Int)
          · obtain ⟨j, hjn, hj1, hj64, el, eX, eY, eZ⟩ := HXYZ.out.2.2.2 i (by omega)
            obtain ⟨g', hge, hgb, c0, c1, c2⟩ := (HRW.out.below hwb) i (by rw [List.length_map, HGLL.out]; omega)
            obtain rfl : gg = g' := by injection hge with hge; injection hge
            rw [el] at c0 c1 c2
            have hnj := HN2.out j hjn
            obtain ⟨p, hp⟩ : ∃ p, lv j = p := ⟨_, rfl⟩
            rw [hp] at c0 c1 c2 hnj hj1 hj64 eX
            obtain ⟨pe, px, pxl, pxc, py, pyl, pyc⟩ := p
            obtain ⟨xi, hxi⟩ : ∃ xi : Nat, pe = (xi : Int) := ⟨pe.toNat, by simp only at hj1; omega⟩
            subst hxi
            have hX1 : X.take (i + 1) = X.take i ++ [xi] := by rw [take_one (d := 0) (by rw [HXYZ.out.1]; omega), eX]; rfl
            have hY1 : Y.take (i + 1) = Y.take i ++ [S j] := by rw [take_one (d := 0) (by rw [HXYZ.out.2.1]; omega), eY]
            have hZ1 : Z.take (i + 1) = Z.take i ++ [R j] := by rw [take_one (d := 0) (by rw [HXYZ.out.2.2.1]; omega), eZ]
            have HX1 := Lib.hid hX1
            have HY1 := Lib.hid hY1
            have HZ1 := Lib.hid hZ1
            obtain ⟨SJ, hSJ⟩ : ∃ SJ, S j = SJ := ⟨_, rfl⟩
            obtain ⟨RJ, hRJ⟩ : ∃ RJ, R j = RJ := ⟨_, rfl⟩
            rw [hSJ] at hnj HY1
            rw [hRJ] at hnj HZ1
            have hbw8 := HB8.out.trans (Below.mono hwb HB8.out.size)
            have hbx := (Below.refl _ wr).alloc (Nat.le_refl _) (Obj.cells #[Value.int .i64 (xi : Int), Value.slice px pxl pxc, Value.slice py pyl pyc] 77)
            obtain ⟨pb, hpb⟩ : ∃ pb, pb = wr.heap.size := ⟨_, rfl⟩
            have HBP : Hid (Blk (wr.alloc (Obj.cells #[Value.int .i64 (xi : Int), Value.slice px pxl pxc, Value.slice py pyl pyc] 77)) pb 77 [.int .i64 (xi : Int), .slice px pxl pxc, .slice py pyl pyc]) := Blk.new' wr _ _ pb hpb
            have HNS := Lib.hid (And.intro ((hnj.1.below hbw8).below hbx) ((hnj.2.below hbw8).below hbx))
            have HE4 := Lib.hid (((HE.out.below hbx).add (P := fun w => Blk w pb 77 [.int .i64 (xi : Int), .slice px pxl pxc, .slice py pyl pyc]) (blk_stays (by decide)) HBP.out).add (P := fun w => NatS w px pxl SJ ∧ NatS w py pyl RJ) (fun _ _ k h => ⟨h.1.kt (by decide) k, h.2.kt (by decide) k⟩) HNS.out)
            have HPB := Lib.hid hpb
            have HLX := Lib.hid (And.intro hlX (And.intro hlY hlZ))
            have hx64 : xi ≤ 64 := by simp only at hj64; omega
            clear hX1 hY1 hZ1 hSJ hRJ hnj hbw8 hbx hpb hwb hlX hlY hlZ el eX eY eZ hp hge hgb hj1 hj64 HE
            simp only at c0 c1 c2
            go_wp2_with fail
            rw [← HPB.out]
            clear c0 c1 c2
            generalize wr.alloc (Obj.cells #[Value.int .i64 (xi : Int), Value.slice px pxl pxc, Value.slice py pyl pyc] 77) = w10 at HBP HNS HE4 ⊢
            refine (dat_any xi w10 (by omega)).mono ?_
            rintro e w11 ⟨na, nl, nc, rfl, hn, hb11⟩
            have hbx := (Below.refl _ w11).alloc (Nat.le_refl _) (Obj.cells #[Value.slice na nl nc] 36)
            have HE12 := Lib.hid ((HE4.out.below hb11).below hbx)
            have HN12 := Lib.hid (hn.below hbx)
            have hB11 := HBP.out.below hb11 HBP.out.lt
            have HBP12 := Lib.hid (hB11.below hbx hB11.lt)
            have HNS12 := Lib.hid (And.intro ((HNS.out.1.below hb11).below hbx) ((HNS.out.2.below hb11).below hbx))
            have cR := (Blk.new w11 [Value.slice na nl nc] 36).cell 0
            simp only [List.getElem?_cons_zero] at cR
            clear hn hb11 hbx hB11 HBP HNS HE4
            go_wp2_with (first
              | (refine wpList_append_nat _ rfl (.tmp 69) (.tmp 73) rfl s3 _ (X.take i) rfl (HE12.out.row 0 rfl) ⟨w11.heap.size, 0, none⟩ 1 xi na nl nc rfl cR HN12.out (by rw [HLX.out.1]; omega) HE12.out.base ?_; intro v1' w13 hown hgr hf; have HE13 := Lib.hid (HE12.out.append 0 rfl hgr hf hown); have hBP13 : Blk w13 pb 77 [.int .i64 (xi : Int), .slice px pxl pxc, .slice py pyl pyc] := HE13.out.has 0 rfl; have b1 := hBP13.cell 1; simp only [List.getElem?_cons_zero, List.getElem?_cons_succ] at b1; have hbx := (Below.refl _ w13).alloc (Nat.le_refl _) (Obj.cells #[Value.slice px pxl pxc] 36); have HE14 := Lib.hid (HE13.out.below hbx); have HNS14 : Hid (NatS (w13.alloc (Obj.cells #[Value.slice px pxl pxc] 36)) px pxl SJ ∧ NatS (w13.alloc (Obj.cells #[Value.slice px pxl pxc] 36)) py pyl RJ) := HE14.out.has 1 rfl; have cR1 := (Blk.new w13 [Value.slice px pxl pxc] 36).cell 0; simp only [List.getElem?_cons_zero] at cR1; clear hown hgr hf hBP13 hbx)
              | (refine wpList_append_nat _ rfl (.tmp 75) (.tmp 79) rfl s3 _ (Y.take i) rfl (HE14.out.row 1 rfl) ⟨w13.heap.size, 0, none⟩ 1 SJ px pxl pxc rfl cR1 HNS14.out.1 (by rw [HLX.out.2.1]; omega) HE14.out.base ?_; intro v2' w15 hown hgr hf; have HE15 := Lib.hid (HE14.out.append 1 rfl hgr hf hown); have hBP15 : Blk w15 pb 77 [.int .i64 (xi : Int), .slice px pxl pxc, .slice py pyl pyc] := HE15.out.has 0 rfl; have b2 := hBP15.cell 2; simp only [List.getElem?_cons_zero, List.getElem?_cons_succ] at b2; have hbx := (Below.refl _ w15).alloc (Nat.le_refl _) (Obj.cells #[Value.slice py pyl pyc] 36); have HE16 := Lib.hid (HE15.out.below hbx); have HNS16 : Hid (NatS (w15.alloc (Obj.cells #[Value.slice py pyl pyc] 36)) px pxl SJ ∧ NatS (w15.alloc (Obj.cells #[Value.slice py pyl pyc] 36)) py pyl RJ) := HE16.out.has 1 rfl; have cR2 := (Blk.new w15 [Value.slice py pyl pyc] 36).cell 0; simp only [List.getElem?_cons_zero] at cR2; clear hown hgr hf hBP15 hbx)
              | (refine wpList_append_nat _ rfl (.tmp 81) (.tmp 85) rfl s3 _ (Z.take i) rfl (HE16.out.row 2 rfl) ⟨w15.heap.size, 0, none⟩ 1 RJ py pyl pyc rfl cR2 HNS16.out.2 (by rw [HLX.out.2.2]; omega) HE16.out.base ?_; intro v3' w17 hown hgr hf; have HE17 := Lib.hid (HE16.out.append 2 rfl hgr hf hown); clear hown hgr hf))
            go_roundw
            case rel => exact ⟨i + 1, by omega, by go_num, by
              have h := HE17.out.noF
              rw [HX1.out, HY1.out, HZ1.out]
              exact h⟩
            case measure => simp [intOf]; omega
          · obtain rfl : t = i := by omega
            obtain ⟨x1, c1, rfl, hx1, hx2, hxat, _⟩ := (HE.out.row 0 rfl).form
            obtain ⟨y1, c2, rfl, hy1, hy2, hyat, _⟩ := (HE.out.row 1 rfl).form
            obtain ⟨z1, c3, rfl, hz1, hz2, hzat, _⟩ := (HE.out.row 2 rfl).form
            rw [hlX] at hx1 ⊢
            rw [hlY] at hy1 ⊢
            rw [hlZ] at hz1 ⊢
            obtain ⟨wJ, rfl⟩ : ∃ wJ, wJ = wr := ⟨wr, rfl⟩
            have hbj := HB8.out.trans (Below.mono hwb HB8.out.size)
            have HGH22 := Lib.hid (HG2.out.below hbj)
            have hXJ := HX2.out.below hbj HX2.out.lt
            have gXH22 : ∀ w', BB wJ w' → w'.cell? ⟨s, 0, none⟩ = some (.slice xa xl xc) := fun w' h => (h.cell hXJ.lt).trans (hXJ.cell 0)
            have HXNJ := Lib.hid (HXN2.out.below hbj)
            have HOJ := Lib.hid (HO2.out.below hbj HO2.out.lt)
            have HBJ : Hid (Below s w wJ) := HBF.out.trans (Below.mono hwb (by have := HBF.out.size; have := HB8.out.size; have := HO2.out.lt; omega))
            have HXA := Lib.hid hxat
            have HYA := Lib.hid hyat
            have HZA := Lib.hid hzat
            obtain ⟨SS, hSS⟩ : ∃ SS, wsum Q (Y.take t) (wts Q (X.take t) x) t = SS := ⟨_, rfl⟩
            obtain ⟨RR, hRR⟩ : ∃ RR, wsum Q (Z.take t) (wts Q (X.take t) x) t = RR := ⟨_, rfl⟩
            have HJH22 : Hid (∀ wx, BB wJ wx → ∀ r, RingAt wx r Q → Calls Tryz.prog 11 #[.pointer (some ⟨r, 0, none⟩), .slice x1 t c1, .slice y1 t c2, .agg #[.slice xa xl xc]] wx (JYes SS wx)) := fun wx hb r hr => by
              have h := join_any r Q x1 t c1 (X.take t) y1 t c2 (Y.take t) xa xl xc x wx HQQ.out.2.1 hr (HXA.out.below hb) hlX (by omega) (by omega) (HYA.out.below hb) hlY (by omega) (HXNJ.out.below hb)
              rw [hlX, hSS] at h
              exact h.mono fun e w' h => JoinPost.yes HDX.out (by rw [hlX]; exact h1) hlX h
            have HJ0 : Hid (∀ wx, BB wJ wx → ∀ r, RingAt wx r Q → Calls Tryz.prog 11 #[.pointer (some ⟨r, 0, none⟩), .slice x1 t c1, .slice z1 t c3, .agg #[.slice xa xl xc]] wx (JYes RR wx)) := fun wx hb r hr => by
              have h := join_any r Q x1 t c1 (X.take t) z1 t c3 (Z.take t) xa xl xc x wx HQQ.out.2.1 hr (HXA.out.below hb) hlX (by omega) (by omega) (HZA.out.below hb) hlZ (by omega) (HXNJ.out.below hb)
              rw [hlX, hRR] at h
              exact h.mono fun e w' h => JoinPost.yes HDX.out (by rw [hlX]; exact h1) hlX h
            have HTT : Hid (RecTells Q t (fun i => (lv i).peer) (gd n) S R x SS RR 0) := .inr ⟨by rw [HGM.out]; exact htm, rfl, gs, HPM.out, HRS.out, by rw [HTX.out.1, HTX.out.2.1]; exact hSS.symm, by rw [HTX.out.1, HTX.out.2.2]; exact hRR.symm⟩
            clear hbj hXJ hxat hyat hzat hSS hRR hwb hlX hlY hlZ HE hx1 hy1 hz1 hx2 hy2 hz2
            go_wp2_with fail
            refine wp_region_mixB (fun l g w' => BB wJ w' ∧ (l 10 = true → DVx wJ.heap.size SS (g 21) w')) (GF (Kp := KpX wJ.heap.size) [.val (.pointer (some ⟨g, 0, none⟩)), Fk.xr Q, .val (.slice x1 t c1), .val (.slice y1 t c2), .val (.agg #[.slice xa xl xc]), Fk.xt SS, Fk.xt SS, Fk.xn SS, .val (.int .i64 0), Fk.xp, .any, .val (.int .i64 0)]) maskH22 dstH22 preH22 (by kernel_rfl) (by kernel_rfl) rfl (by kernel_rfl) (by kernel_rfl) (by kernel_rfl) (by kernel_rfl) ⟨BB.drew (BB.refl _), fun h => by cases h⟩ ?_ ?_
            · refine StepsMB.cons (fun l g' wu hB hl hn hp K hK => ?_) ?_
              · simp only [mkM, maskH22, mixM, Nat.reduceAdd] at hK ⊢; simp only [Act.put, List.setIfInBounds_toArray, List.set_cons_zero, List.set_cons_succ] at hK; go_simp; exact hK.out _ _ ⟨hB.1, fun h => by rw [setL_ne (by decide), hn 10 (by decide)] at h; cases h⟩ GF.same rfl
              refine StepsMB.cons (fun l g' wu hB hl hn hp K hK => ?_) ?_
              · have hbb := hB.1; have e0 : g' 89 = .pointer (some ⟨g, 0, none⟩) := (hp 0 (by decide)).2; simp only [mkM, maskH22, mixM, Nat.reduceAdd, e0] at hK ⊢; clear e0; simp only [Act.put, List.setIfInBounds_toArray, List.set_cons_zero, List.set_cons_succ] at hK; go_simp; go_at_call 12; refine (gfield_any g _ _ _ _ _ wu (HGH22.out.below hbb)).mono ?_; rintro e w7 ⟨r, rfl, hr, hb⟩; go_wp2_with fail; exact hK.out _ _ ⟨BB.step hB.1 hb, fun h => by rw [setL_ne (by decide), hn 10 (by decide)] at h; cases h⟩ (GF.below hb) ⟨r, rfl, hr⟩
              refine StepsMB.cons (fun l g' wu hB hl hn hp K hK => ?_) ?_
              · simp only [mkM, maskH22, mixM, Nat.reduceAdd] at hK ⊢; simp only [Act.put, List.setIfInBounds_toArray, List.set_cons_zero, List.set_cons_succ] at hK; go_simp; exact hK.out _ _ ⟨hB.1, fun h => by rw [setL_ne (by decide), hn 10 (by decide)] at h; cases h⟩ GF.same rfl
              refine StepsMB.cons (fun l g' wu hB hl hn hp K hK => ?_) ?_
              · simp only [mkM, maskH22, mixM, Nat.reduceAdd] at hK ⊢; simp only [Act.put, List.setIfInBounds_toArray, List.set_cons_zero, List.set_cons_succ] at hK; go_simp; exact hK.out _ _ ⟨hB.1, fun h => by rw [setL_ne (by decide), hn 10 (by decide)] at h; cases h⟩ GF.same rfl
              refine StepsMB.cons (fun l g' wu hB hl hn hp K hK => ?_) ?_
              · have c0 := gXH22 _ hB.1; simp only [mkM, maskH22, mixM, Nat.reduceAdd] at hK ⊢; simp only [Act.put, List.setIfInBounds_toArray, List.set_cons_zero, List.set_cons_succ] at hK; go_simp; exact hK.out _ _ ⟨hB.1, fun h => by rw [setL_ne (by decide), hn 10 (by decide)] at h; cases h⟩ GF.same rfl
              refine StepsMB.cons (fun l g' wu hB hl hn hp K hK => ?_) ?_
              · have hbb := hB.1; obtain ⟨r, ez, h1⟩ : IsXR Q (g' 90) wu := (hp 1 (by decide)).2; have e2 : g' 91 = .slice x1 t c1 := (hp 2 (by decide)).2; have e3 : g' 92 = .slice y1 t c2 := (hp 3 (by decide)).2; have e4 : g' 93 = .agg #[.slice xa xl xc] := (hp 4 (by decide)).2; simp only [mkM, maskH22, mixM, Nat.reduceAdd, ez, e2, e3, e4] at hK ⊢; clear e2 e3 e4; simp only [Act.put, List.setIfInBounds_toArray, List.set_cons_zero, List.set_cons_succ] at hK; go_simp; go_at_call 11; refine (HJH22.out wu hbb r h1).mono ?_; rintro e w7 ⟨a7, l7, k7, rfl, h7, hb⟩; go_wp2_with fail; exact hK.out _ _ ⟨BB.step hB.1 hb, fun h => by rw [setL_ne (by decide), hn 10 (by decide)] at h; cases h⟩ (GF.below hb) ⟨a7, l7, k7, rfl, h7⟩
              refine StepsMB.cons (fun l g' wu hB hl hn hp K hK => ?_) ?_
              · obtain ⟨a7, l7, k7, ez, h7⟩ : IsXT SS (g' 94) wu := (hp 5 (by decide)).2; simp only [mkM, maskH22, mixM, Nat.reduceAdd, ez] at hK ⊢; simp only [Act.put, List.setIfInBounds_toArray, List.set_cons_zero, List.set_cons_succ] at hK; go_simp; exact hK.out _ _ ⟨hB.1, fun h => by rw [setL_ne (by decide), hn 10 (by decide)] at h; cases h⟩ GF.same ⟨a7, l7, k7, rfl, h7⟩
              refine StepsMB.cons (fun l g' wu hB hl hn hp K hK => ?_) ?_
              · obtain ⟨a7, l7, k7, ez, h7⟩ : IsXT SS (g' 88) wu := (hp 6 (by decide)).2; simp only [mkM, maskH22, mixM, Nat.reduceAdd, ez] at hK ⊢; simp only [Act.put, List.setIfInBounds_toArray, List.set_cons_zero, List.set_cons_succ] at hK; go_simp; exact hK.out _ _ ⟨hB.1, fun h => by rw [setL_ne (by decide), hn 10 (by decide)] at h; cases h⟩ GF.same ⟨a7, l7, k7, rfl, h7⟩
              refine StepsMB.cons (fun l g' wu hB hl hn hp K hK => ?_) ?_
              · obtain ⟨a7, l7, k7, ez, h7⟩ : IsXT SS (g' 88) wu := (hp 6 (by decide)).2; simp only [mkM, maskH22, mixM, Nat.reduceAdd, ez] at hK ⊢; simp only [Act.put, List.setIfInBounds_toArray, List.set_cons_zero, List.set_cons_succ] at hK; go_simp; exact hK.out _ _ ⟨hB.1, fun h => by rw [updG_ne (by decide)]; exact hB.2 (by rw [setL_ne (by decide)] at h; exact h)⟩ GF.same rfl
              refine StepsMB.cons (fun l g' wu hB hl hn hp K hK => ?_) ?_
              · simp only [mkM, maskH22, mixM, Nat.reduceAdd] at hK ⊢; simp only [Act.put, List.setIfInBounds_toArray, List.set_cons_zero, List.set_cons_succ] at hK; go_simp; exact hK.out _ _ ⟨BB.step hB.1 ((Below.refl _ _).alloc (Nat.le_refl _) _), fun h => by rw [setL_ne (by decide), hn 10 (by decide)] at h; cases h⟩ GF.alloc ⟨_, _, rfl, hB.1.size, Blk.new _ [.slice none 0 0] _⟩
              refine StepsMB.cons (fun l g' wu hB hl hn hp K hK => ?_) ?_
              · obtain ⟨D, x0, ez, hD, hBk⟩ : IsXP wJ.heap.size (g' 21) wu := (hp 9 (by decide)).2; obtain ⟨a7, l7, k7, ez2, h7⟩ : IsNat SS (g' 95) wu := (hp 7 (by decide)).2; have HBk := Lib.hid hBk; have q0 := hBk.cell 0; have f0 := hBk.frozen 0; simp only [List.getElem?_cons_zero] at q0; have hbb := hB.1; clear hBk; simp only [mkM, maskH22, mixM, Nat.reduceAdd, ez, ez2] at hK ⊢; simp only [Act.put, List.setIfInBounds_toArray, List.set_cons_zero, List.set_cons_succ] at hK; go_simp; exact hK.out undef _ ⟨hbb.setCell hD, fun _ => ⟨D, ez, hD, ⟨a7, l7, k7, HBk.out.set 0 _, h7.set HBk.out 0 _⟩⟩⟩ (GF.kept rfl (KpX.store HBk.out hD)) trivial
              refine StepsMB.cons (fun l g' wu hB hl hn hp K hK => ?_) ?_
              · have e8 : g' 96 = .int .i64 0 := (hp 8 (by decide)).2; simp only [mkM, maskH22, mixM, Nat.reduceAdd, e8] at hK ⊢; clear e8; simp only [Act.put, List.setIfInBounds_toArray, List.set_cons_zero, List.set_cons_succ] at hK; go_simp; exact hK.out _ _ ⟨hB.1, fun h => by rw [updG_ne (by decide)]; exact hB.2 (by rw [setL_ne (by decide)] at h; exact h)⟩ GF.same rfl
              exact StepsMB.nil
            · intro l gz wz hall hB hG
              obtain ⟨DH22, eD, hD, hND⟩ := hB.2 (hall 10 (by decide))
              have e11 : gz 22 = .int .i64 0 := hG 11 (by decide)
              have HNH22 := Lib.hid hND
              have HWH22 : Hid (BB wJ wz) := hB.1
              simp only [mkM, maskH22, mixM, Nat.reduceAdd, eD, e11]
              clear hG hall hB eD e11 hND hD
              have HGH25 := Lib.hid (HGH22.out.below HWH22.out)
              have gXH25 : ∀ w', BB wz w' → w'.cell? ⟨s, 0, none⟩ = some (.slice xa xl xc) := fun w' h => gXH22 w' (HWH22.out.trans (Below.mono h HWH22.out.size))
              have HJH25 : Hid (∀ wx, BB wz wx → ∀ r, RingAt wx r Q → Calls Tryz.prog 11 #[.pointer (some ⟨r, 0, none⟩), .slice x1 t c1, .slice z1 t c3, .agg #[.slice xa xl xc]] wx (JYes RR wx)) := fun wx hb r hr => HJ0.out wx (HWH22.out.trans (Below.mono hb HWH22.out.size)) r hr
              obtain ⟨wS, rfl⟩ : ∃ wS, wS = wz := ⟨wz, rfl⟩
              clear gXH22
              go_wp2_with fail
              refine wp_region_mixB (fun l g w' => BB wS w' ∧ (l 10 = true → DVx wS.heap.size RR (g 23) w')) (GF (Kp := KpX wS.heap.size) [.val (.pointer (some ⟨g, 0, none⟩)), Fk.xr Q, .val (.slice x1 t c1), .val (.slice z1 t c3), .val (.agg #[.slice xa xl xc]), Fk.xt RR, Fk.xt RR, Fk.xn RR, .val (.int .i64 0), Fk.xp, .any, .val (.int .i64 0)]) maskH25 dstH25 preH25 (by kernel_rfl) (by kernel_rfl) rfl (by kernel_rfl) (by kernel_rfl) (by kernel_rfl) (by kernel_rfl) ⟨BB.drew (BB.refl _), fun h => by cases h⟩ ?_ ?_
              · refine StepsMB.cons (fun l g' wu hB hl hn hp K hK => ?_) ?_
                · simp only [mkM, maskH25, mixM, Nat.reduceAdd] at hK ⊢; simp only [Act.put, List.setIfInBounds_toArray, List.set_cons_zero, List.set_cons_succ] at hK; go_simp; exact hK.out _ _ ⟨hB.1, fun h => by rw [setL_ne (by decide), hn 10 (by decide)] at h; cases h⟩ GF.same rfl
                refine StepsMB.cons (fun l g' wu hB hl hn hp K hK => ?_) ?_
                · have hbb := hB.1; have e0 : g' 102 = .pointer (some ⟨g, 0, none⟩) := (hp 0 (by decide)).2; simp only [mkM, maskH25, mixM, Nat.reduceAdd, e0] at hK ⊢; clear e0; simp only [Act.put, List.setIfInBounds_toArray, List.set_cons_zero, List.set_cons_succ] at hK; go_simp; go_at_call 12; refine (gfield_any g _ _ _ _ _ wu (HGH25.out.below hbb)).mono ?_; rintro e w7 ⟨r, rfl, hr, hb⟩; go_wp2_with fail; exact hK.out _ _ ⟨BB.step hB.1 hb, fun h => by rw [setL_ne (by decide), hn 10 (by decide)] at h; cases h⟩ (GF.below hb) ⟨r, rfl, hr⟩
                refine StepsMB.cons (fun l g' wu hB hl hn hp K hK => ?_) ?_
                · simp only [mkM, maskH25, mixM, Nat.reduceAdd] at hK ⊢; simp only [Act.put, List.setIfInBounds_toArray, List.set_cons_zero, List.set_cons_succ] at hK; go_simp; exact hK.out _ _ ⟨hB.1, fun h => by rw [setL_ne (by decide), hn 10 (by decide)] at h; cases h⟩ GF.same rfl
                refine StepsMB.cons (fun l g' wu hB hl hn hp K hK => ?_) ?_
                · simp only [mkM, maskH25, mixM, Nat.reduceAdd] at hK ⊢; simp only [Act.put, List.setIfInBounds_toArray, List.set_cons_zero, List.set_cons_succ] at hK; go_simp; exact hK.out _ _ ⟨hB.1, fun h => by rw [setL_ne (by decide), hn 10 (by decide)] at h; cases h⟩ GF.same rfl
                refine StepsMB.cons (fun l g' wu hB hl hn hp K hK => ?_) ?_
                · have c0 := gXH25 _ hB.1; simp only [mkM, maskH25, mixM, Nat.reduceAdd] at hK ⊢; simp only [Act.put, List.setIfInBounds_toArray, List.set_cons_zero, List.set_cons_succ] at hK; go_simp; exact hK.out _ _ ⟨hB.1, fun h => by rw [setL_ne (by decide), hn 10 (by decide)] at h; cases h⟩ GF.same rfl
                refine StepsMB.cons (fun l g' wu hB hl hn hp K hK => ?_) ?_
                · have hbb := hB.1; obtain ⟨r, ez, h1⟩ : IsXR Q (g' 103) wu := (hp 1 (by decide)).2; have e2 : g' 104 = .slice x1 t c1 := (hp 2 (by decide)).2; have e3 : g' 105 = .slice z1 t c3 := (hp 3 (by decide)).2; have e4 : g' 106 = .agg #[.slice xa xl xc] := (hp 4 (by decide)).2; simp only [mkM, maskH25, mixM, Nat.reduceAdd, ez, e2, e3, e4] at hK ⊢; clear e2 e3 e4; simp only [Act.put, List.setIfInBounds_toArray, List.set_cons_zero, List.set_cons_succ] at hK; go_simp; go_at_call 11; refine (HJH25.out wu hbb r h1).mono ?_; rintro e w7 ⟨a7, l7, k7, rfl, h7, hb⟩; go_wp2_with fail; exact hK.out _ _ ⟨BB.step hB.1 hb, fun h => by rw [setL_ne (by decide), hn 10 (by decide)] at h; cases h⟩ (GF.below hb) ⟨a7, l7, k7, rfl, h7⟩
                refine StepsMB.cons (fun l g' wu hB hl hn hp K hK => ?_) ?_
                · obtain ⟨a7, l7, k7, ez, h7⟩ : IsXT RR (g' 107) wu := (hp 5 (by decide)).2; simp only [mkM, maskH25, mixM, Nat.reduceAdd, ez] at hK ⊢; simp only [Act.put, List.setIfInBounds_toArray, List.set_cons_zero, List.set_cons_succ] at hK; go_simp; exact hK.out _ _ ⟨hB.1, fun h => by rw [setL_ne (by decide), hn 10 (by decide)] at h; cases h⟩ GF.same ⟨a7, l7, k7, rfl, h7⟩
                refine StepsMB.cons (fun l g' wu hB hl hn hp K hK => ?_) ?_
                · obtain ⟨a7, l7, k7, ez, h7⟩ : IsXT RR (g' 101) wu := (hp 6 (by decide)).2; simp only [mkM, maskH25, mixM, Nat.reduceAdd, ez] at hK ⊢; simp only [Act.put, List.setIfInBounds_toArray, List.set_cons_zero, List.set_cons_succ] at hK; go_simp; exact hK.out _ _ ⟨hB.1, fun h => by rw [setL_ne (by decide), hn 10 (by decide)] at h; cases h⟩ GF.same ⟨a7, l7, k7, rfl, h7⟩
                refine StepsMB.cons (fun l g' wu hB hl hn hp K hK => ?_) ?_
                · obtain ⟨a7, l7, k7, ez, h7⟩ : IsXT RR (g' 101) wu := (hp 6 (by decide)).2; simp only [mkM, maskH25, mixM, Nat.reduceAdd, ez] at hK ⊢; simp only [Act.put, List.setIfInBounds_toArray, List.set_cons_zero, List.set_cons_succ] at hK; go_simp; exact hK.out _ _ ⟨hB.1, fun h => by rw [updG_ne (by decide)]; exact hB.2 (by rw [setL_ne (by decide)] at h; exact h)⟩ GF.same rfl
                refine StepsMB.cons (fun l g' wu hB hl hn hp K hK => ?_) ?_
                · simp only [mkM, maskH25, mixM, Nat.reduceAdd] at hK ⊢; simp only [Act.put, List.setIfInBounds_toArray, List.set_cons_zero, List.set_cons_succ] at hK; go_simp; exact hK.out _ _ ⟨BB.step hB.1 ((Below.refl _ _).alloc (Nat.le_refl _) _), fun h => by rw [setL_ne (by decide), hn 10 (by decide)] at h; cases h⟩ GF.alloc ⟨_, _, rfl, hB.1.size, Blk.new _ [.slice none 0 0] _⟩
                refine StepsMB.cons (fun l g' wu hB hl hn hp K hK => ?_) ?_
                · obtain ⟨D, x0, ez, hD, hBk⟩ : IsXP wS.heap.size (g' 23) wu := (hp 9 (by decide)).2; obtain ⟨a7, l7, k7, ez2, h7⟩ : IsNat RR (g' 108) wu := (hp 7 (by decide)).2; have HBk := Lib.hid hBk; have q0 := hBk.cell 0; have f0 := hBk.frozen 0; simp only [List.getElem?_cons_zero] at q0; have hbb := hB.1; clear hBk; simp only [mkM, maskH25, mixM, Nat.reduceAdd, ez, ez2] at hK ⊢; simp only [Act.put, List.setIfInBounds_toArray, List.set_cons_zero, List.set_cons_succ] at hK; go_simp; exact hK.out undef _ ⟨hbb.setCell hD, fun _ => ⟨D, ez, hD, ⟨a7, l7, k7, HBk.out.set 0 _, h7.set HBk.out 0 _⟩⟩⟩ (GF.kept rfl (KpX.store HBk.out hD)) trivial
                refine StepsMB.cons (fun l g' wu hB hl hn hp K hK => ?_) ?_
                · have e8 : g' 109 = .int .i64 0 := (hp 8 (by decide)).2; simp only [mkM, maskH25, mixM, Nat.reduceAdd, e8] at hK ⊢; clear e8; simp only [Act.put, List.setIfInBounds_toArray, List.set_cons_zero, List.set_cons_succ] at hK; go_simp; exact hK.out _ _ ⟨hB.1, fun h => by rw [updG_ne (by decide)]; exact hB.2 (by rw [setL_ne (by decide)] at h; exact h)⟩ GF.same rfl
                exact StepsMB.nil
              · intro l gz wz hall hB hG
                obtain ⟨DH25, eD, hD, hND⟩ := hB.2 (hall 10 (by decide))
                have e11 : gz 22 = .int .i64 0 := hG 11 (by decide)
                have HNH25 := Lib.hid hND
                have HWH25 : Hid (BB wS wz) := hB.1
                simp only [mkM, maskH25, mixM, Nat.reduceAdd, eD, e11]
                clear hG hall hB eD e11 hND hD
                have HN1 := Lib.hid (HNH22.out.below HWH25.out)
                obtain ⟨k1, l1, m1, q1, _, n1⟩ := HN1.out.box
                obtain ⟨k2, l2, m2, q2, _, n2⟩ := HNH25.out.box
                have hww : BB wJ wz := HWH22.out.trans (Below.mono HWH25.out HWH22.out.size)
                have HO := Lib.hid (HOJ.out.below hww HOJ.out.lt)
                have HBZ := Lib.hid (HBJ.out.trans (Below.mono hww (by have := HBJ.out.size; have := HOJ.out.lt; omega)))
                have HNN := Lib.hid (And.intro n1 n2)
                have o0 := HO.out.cell 0
                have o1 := HO.out.cell 1
                have f0 := HO.out.frozen 0
                have f1 := HO.out.frozen 1
                simp only [List.getElem?_cons_zero, List.getElem?_cons_succ] at o0 o1
                clear hww n1 n2
                go_wp2_with fail
                exact ret_share rfl rfl rfl ((HO.out.set 0 _).set 1 _) ⟨k1, l1, m1, k2, l2, m2, SS, RR, 0, rfl, (HNN.out.1.set HO.out 0 _).set (HO.out.set 0 _) 1 _, (HNN.out.2.set HO.out 0 _).set (HO.out.set 0 _) 1 _, HTT.out, HSS.out ▸ (HBZ.out.setCell (p := ⟨s + 1, 0, none⟩) (Nat.le_succ s) _).setCell (p := ⟨s + 1, 1, none⟩) (Nat.le_succ s) _⟩
end Go.Proofs.YthefednendgclaaGreat
