/-
  The ring's own functions: Exp.
-/
import Derived.Test.YthefednendgclaaGreatModMul
set_option linter.unusedVariables false
set_option linter.unusedSimpArgs false
namespace Go.Proofs.YthefednendgclaaGreat
open Go Go.RowKit Sac

/-- The first powers of x, in a row of sixteen. -/
def PowAt (w : World) (g m x i : Nat) : Prop := ∃ cs : List Value, cs.length = 16 ∧ Blk w g 181 cs ∧ ∀ j, j < i → ∃ a l c, cs[j]? = some (.slice a l c) ∧ NatS w a l (x ^ j % m)

theorem PowAt.get {w : World} {g m x i : Nat} (h : PowAt w g m x i) (j : Nat) (hj : j < i) : ∃ a l c, w.cell? ⟨g, j, none⟩ = some (.slice a l c) ∧ NatS w a l (x ^ j % m) := by
  obtain ⟨cs, h1, h2, h3⟩ := h
  obtain ⟨a, l, c, h4, h5⟩ := h3 j hj
  exact ⟨a, l, c, (h2.cell j).trans h4, h5⟩
theorem PowAt.lt {w : World} {g m x i : Nat} (h : PowAt w g m x i) : g < w.heap.size := by obtain ⟨_, _, h, _⟩ := h; exact h.lt
theorem PowAt.drew {w : World} {g m x i : Nat} (h : PowAt w g m x i) : PowAt w.drew g m x i := by
  obtain ⟨cs, h1, h2, h3⟩ := h
  exact ⟨cs, h1, h2, fun j hj => by obtain ⟨a, l, c, h4, h5⟩ := h3 j hj; exact ⟨a, l, c, h4, h5.drew⟩⟩
theorem PowAt.below {w w' : World} {g m x i : Nat} (h : PowAt w g m x i) (hb : Below w.heap.size w w') : PowAt w' g m x i := by
  obtain ⟨cs, h1, h2, h3⟩ := h
  exact ⟨cs, h1, h2.below hb h2.lt, fun j hj => by obtain ⟨a, l, c, h4, h5⟩ := h3 j hj; exact ⟨a, l, c, h4, h5.below hb⟩⟩
/-- What stands while a power is reckoned. -/
structure ExpE (w wr : World) (s g1 r m : Nat) (xa : Option Addr) (xl xc : Nat) (b : Option Addr) (lenb capb : Nat) (oa : Option Addr) (ol oc x k : Nat) : Prop where
  bx : BX w wr s (.slice xa xl xc) (.slice b lenb capb) (.slice none 0 0)
  hg : Blk wr g1 36 [.slice oa ol oc]
  hone : NatS wr oa ol (1 % m)
  hx : NatS wr xa xl x
  hk : NatS wr b lenb k
  hr : RingAt wr r m
  lt : s + 1 + 1 < g1
  rs : r < s
theorem ExpE.below {w wr w' : World} {s g1 r m : Nat} {xa : Option Addr} {xl xc : Nat} {b : Option Addr} {lenb capb : Nat} {oa : Option Addr} {ol oc x k : Nat} (h : ExpE w wr s g1 r m xa xl xc b lenb capb oa ol oc x k) (hb : Below wr.heap.size wr w') :
    ExpE w w' s g1 r m xa xl xc b lenb capb oa ol oc x k :=
  ⟨h.bx.below hb, h.hg.below hb h.hg.lt, h.hone.below hb, h.hx.below hb, h.hk.below hb, h.hr.below hb, h.lt, h.rs⟩
theorem ExpE.drew {w wr : World} {s g1 r m : Nat} {xa : Option Addr} {xl xc : Nat} {b : Option Addr} {lenb capb : Nat} {oa : Option Addr} {ol oc x k : Nat} (h : ExpE w wr s g1 r m xa xl xc b lenb capb oa ol oc x k) : ExpE w wr.drew s g1 r m xa xl xc b lenb capb oa ol oc x k :=
  ⟨h.bx.drew, h.hg, h.hone.drew, h.hx.drew, h.hk.drew, h.hr.drew, h.lt, h.rs⟩
theorem RingAt.set {w : World} {r m q : Nat} {e : TypeId} {cs : List Value} (h : RingAt w r m) (hq : Blk w q e cs) (hne : r ≠ q) (o : Nat) (v : Value) (he : 106 ≠ e := by decide) : RingAt (w.setCell ⟨q, o, none⟩ v) r m := by
  obtain ⟨ra, rl, rc, z1, z2, z3⟩ := h
  exact ⟨ra, rl, rc, z1.other _ _ hne, ⟨z2.1.setCell hq he o _, z2.2⟩, z3⟩
theorem NatS.set {w : World} {a : Option Addr} {len n q : Nat} {e : TypeId} {cs : List Value} (h : NatS w a len n) (hq : Blk w q e cs) (o : Nat) (v : Value) (he : 106 ≠ e := by decide) : NatS (w.setCell ⟨q, o, none⟩ v) a len n := ⟨h.1.setCell hq he o _, h.2⟩
theorem PowAt.set {w : World} {g m x i q : Nat} {cs : List Value} (h : PowAt w g m x i) (hq : Blk w q 36 cs) (hne : g ≠ q) (o : Nat) (v : Value) : PowAt (w.setCell ⟨q, o, none⟩ v) g m x i := by
  obtain ⟨cs, h1, h2, h3⟩ := h
  exact ⟨cs, h1, h2.other _ _ hne, fun j hj => by obtain ⟨a, l, c, h4, h5⟩ := h3 j hj; exact ⟨a, l, c, h4, NatS.set h5 hq o v⟩⟩
theorem ExpE.set {w wr : World} {s g1 r m : Nat} {xa : Option Addr} {xl xc : Nat} {b : Option Addr} {lenb capb : Nat} {oa : Option Addr} {ol oc x k : Nat} (h : ExpE w wr s g1 r m xa xl xc b lenb capb oa ol oc x k) {g2 : Nat} {e : TypeId} {cs : List Value} (hq : Blk wr g2 e cs) (hg : g1 < g2) (o : Nat) (v : Value) (he : 106 ≠ e := by decide) :
    ExpE w (wr.setCell ⟨g2, o, none⟩ v) s g1 r m xa xl xc b lenb capb oa ol oc x k := by
  have h1 := h.lt
  have h2 := h.rs
  exact ⟨h.bx.set (by omega) o v, h.hg.other _ _ (by show g1 ≠ g2; omega), h.hone.set hq o v he, h.hx.set hq o v he, h.hk.set hq o v he, h.hr.set hq (by omega) o v he, h1, h2⟩

theorem i64_small (x : Int) (h1 : 0 ≤ x) (h2 : x ≤ 1000000) : IntKind.i64.wrap x = x := by rw [IntKind.wrap_i64]; omega
theorem dig16 (k j B0 B1 B2 B3 d : Nat) (h0 : B0 = k / 2 ^ (4 * j) % 2) (h1 : B1 = k / 2 ^ (4 * j + 1) % 2) (h2 : B2 = k / 2 ^ (4 * j + 2) % 2) (h3 : B3 = k / 2 ^ (4 * j + 3) % 2)
    (hd : d = B0 + 2 * B1 + 4 * B2 + 8 * B3) : k / 16 ^ j = 16 * (k / 16 ^ (j + 1)) + d := by
  rw [Nat.pow_succ, ← Nat.div_div_eq_div_mul]
  rw [Nat.pow_add, ← Nat.div_div_eq_div_mul] at h1 h2 h3
  rw [show (2 : Nat) ^ (4 * j) = 16 ^ j by rw [Nat.pow_mul]] at h0 h1 h2 h3
  generalize k / 16 ^ j = y at *
  omega

set_option maxRecDepth 100000 in
set_option maxHeartbeats 1000000 in
theorem rexp_any (r m : Nat) (a b : Option Addr) (len cap lenb capb n k : Nat) (w : World) (h : RingAt w r m) (hn : NatS w a len n) (hk : NatS w b lenb k) :
    Calls Tryz.prog 92 #[.pointer (some ⟨r, 0, none⟩), .agg #[.slice a len cap], .agg #[.slice b lenb capb]] w (RetS (n ^ k % m) w) := by
  have HN := Lib.hid hn
  have HK := Lib.hid hk
  have HR := Lib.hid h
  have hl1 := hn.2
  have hl2 := hk.2
  clear hn hk h
  go_enter Tryz.func92, Tryz.ntmps92
  go_wp2_with fail
  obtain ⟨s, hs⟩ : ∃ s, s = w.heap.size := ⟨_, rfl⟩
  have hbx := BX.make w (.slice a len cap) (.slice b lenb capb) (.slice none 0 0)
  generalize (((w.alloc (Obj.cells #[Value.slice a len cap] 36)).alloc (Obj.cells #[Value.slice b lenb capb] 36)).alloc (Obj.cells #[Value.slice none 0 0] 36)) = w1 at hbx ⊢
  rw [← hs] at hbx ⊢
  have HS := Lib.hid hs
  have HX1 := Lib.hid hbx
  have HN1 := Lib.hid (HN.out.below (hs ▸ hbx.1))
  have HK1 := Lib.hid (HK.out.below (hs ▸ hbx.1))
  have HR1 := Lib.hid (HR.out.below (hs ▸ hbx.1))
  clear hbx hs
  have ca := HX1.out.2.1.cell
  have cb := HX1.out.2.2.1.cell
  refine (new_any 1 w1 (by decide)).mono ?_
  rintro e w2 ⟨ta, tl, tc, rfl, hT, hb2⟩
  have HX2 := Lib.hid (HX1.out.below hb2)
  have HN2 := Lib.hid (HN1.out.below hb2)
  have HK2 := Lib.hid (HK1.out.below hb2)
  have HR2 := Lib.hid (HR1.out.below hb2)
  have htl := hT.fit (k := 1) (by decide)
  have HT := Lib.hid hT
  clear hb2 hT ca cb
  go_wp2_with fail
  refine (of_any r m ta tl tc 1 w2 HR2.out HT.out (by omega)).mono ?_
  rintro e w3 ⟨oa, ol, oc, rfl, hO, hb3⟩
  have HX3 := Lib.hid (HX2.out.below hb3)
  have HN3 := Lib.hid (HN2.out.below hb3)
  have HK3 := Lib.hid (HK2.out.below hb3)
  have HR3 := Lib.hid (HR2.out.below hb3)
  have HO3 := Lib.hid hO
  clear hb3 hO htl
  obtain ⟨g1, hg1⟩ : ∃ g1, g1 = w3.heap.size := ⟨_, rfl⟩
  obtain ⟨w4, hw4⟩ : ∃ w4, w3.alloc (Obj.cells #[Value.slice oa ol oc] 36) = w4 := ⟨_, rfl⟩
  have hb4 : BB w3 w4 := hw4 ▸ BB.alloc (BB.refl _)
  have HX4 := Lib.hid (HX3.out.below hb4)
  have HN4 := Lib.hid (HN3.out.below hb4)
  have HK4 := Lib.hid (HK3.out.below hb4)
  have HR4 := Lib.hid (HR3.out.below hb4)
  have HO4 := Lib.hid (HO3.out.below hb4)
  have HG4 : Hid (Blk w4 g1 36 [.slice oa ol oc]) := hw4 ▸ Blk.new' w3 _ _ g1 hg1
  have hsg1 : s + 1 + 1 < g1 := hg1 ▸ HX3.out.2.2.2.lt
  have cb := HX4.out.2.2.1.cell
  go_wp2_with fail
  rw [← hg1]
  clear cb hb4 hw4 hg1
  refine (zero_any b lenb capb k w4 HK4.out.1).mono ?_
  rintro e w5 ⟨rfl, hb5⟩
  have HX5 := Lib.hid (HX4.out.below hb5)
  have HN5 := Lib.hid (HN4.out.below hb5)
  have HK5 := Lib.hid (HK4.out.below hb5)
  have HR5 := Lib.hid (HR4.out.below hb5)
  have HO5 := Lib.hid (HO4.out.below hb5)
  have HG5 := Lib.hid (HG4.out.below hb5 HG4.out.lt)
  clear hb5
  have ca := HX5.out.2.1.cell
  have cb := HX5.out.2.2.1.cell
  have cr := HX5.out.2.2.2.cell
  have fa := HX5.out.2.1.frozen
  have fr := HX5.out.2.2.2.frozen
  have cg := HG5.out.cell 0
  simp only [List.getElem?_cons_zero] at cg
  by_cases hk0 : k = 0
  · subst hk0
    go_wp2_with fail
    have hB : Blk w5 (s + 1 + 1) 36 [.slice none 0 0] := HX5.out.2.2.2
    refine ret_nat rfl rfl (hB.set 0 _) (⟨oa, ol, oc, rfl, ⟨?_, ?_⟩, ?_⟩ : RetS (n ^ 0 % m) w _ _)
    · rw [Nat.pow_zero]; exact HO5.out.1.setCell hB (by decide) 0 _
    · exact HO5.out.2
    · rw [← HS.out]; exact HX5.out.1.setCell (p := ⟨s + 1 + 1, 0, none⟩) (by show s ≤ s + 1 + 1; omega) _
  · have hk0b : (k == 0) = false := by rw [beq_eq_false_iff_ne]; exact hk0
    go_wp2_with fail
    refine (of_any r m a len cap n w5 HR5.out HN5.out.1 (by omega)).mono ?_
    rintro e w6 ⟨xa, xl, xc, rfl, hA, hb6⟩
    have HX6 := Lib.hid (HX5.out.below hb6)
    have HK6 := Lib.hid (HK5.out.below hb6)
    have HR6 := Lib.hid (HR5.out.below hb6)
    have HO6 := Lib.hid (HO5.out.below hb6)
    have HG6 := Lib.hid (HG5.out.below hb6 HG5.out.lt)
    have HA6 := Lib.hid hA
    clear hb6 hA ca cb cr fa fr cg
    have ca := HX6.out.2.1.cell
    have fa := HX6.out.2.1.frozen
    have cb : ∀ v, (w6.setCell ⟨s, 0, none⟩ v).cell? ⟨s + 1, 0, none⟩ = some (.slice b lenb capb) := fun v => (cell_other v (show s + 1 ≠ s by omega)).trans HX6.out.2.2.1.cell
    go_wp2_with fail
    have HE7 : Hid (ExpE w (w6.setCell ⟨s, 0, none⟩ (Value.slice xa xl xc)) s g1 r m xa xl xc b lenb capb oa ol oc (n % m) k) := by
      obtain ⟨h1, h2, h3, h4⟩ := HX6.out
      have q1 : Blk w6 s 36 [.slice a len cap] := h2
      have q2 : Blk w6 (s + 1) 36 [.slice b lenb capb] := h3
      have q3 : Blk w6 (s + 1 + 1) 36 [.slice none 0 0] := h4
      refine ⟨⟨h1.setCell (p := ⟨s, 0, none⟩) (Nat.le_refl s) _, q1.set 0 _, q2.other _ _ (by show s + 1 ≠ s; omega), q3.other _ _ (by show s + 1 + 1 ≠ s; omega)⟩, HG6.out.other _ _ (by show g1 ≠ s; omega),
        ⟨HO6.out.1.setCell q1 (by decide) 0 _, HO6.out.2⟩, ⟨HA6.out.1.setCell q1 (by decide) 0 _, HA6.out.2⟩, ⟨HK6.out.1.setCell q1 (by decide) 0 _, HK6.out.2⟩, ?_, hsg1, by rw [HS.out]; exact HR.out.lt⟩
      obtain ⟨ra, rl, rc, z1, z2, z3⟩ := HR6.out
      exact ⟨ra, rl, rc, z1.other _ _ (by show r ≠ s; have := HR.out.lt; have := HS.out; omega), ⟨z2.1.setCell q1 (by decide) 0 _, z2.2⟩, z3⟩
    generalize w6.setCell ⟨s, 0, none⟩ (Value.slice xa xl xc) = w7 at HE7 ⊢
    clear ca fa cb HA6 HG6 HX6 HK6 HR6 HO6
    clear HX5 HN5 HK5 HR5 HO5 HG5 HX4 HN4 HK4 HR4 HO4 HG4 HX3 HN3 HK3 HR3 HO3 HX2 HN2 HK2 HR2 HT HX1 HN1 HK1 HR1
    obtain ⟨x, hx⟩ : ∃ x, x = n % m := ⟨_, rfl⟩
    rw [← hx] at HE7
    have hpow : n ^ k % m = x ^ k % m := by rw [hx, ← Nat.pow_mod]
    have HPW := Lib.hid hpow
    clear hx hpow
    have hbl : (blen k : Int) ≤ 32000 := by
      have h1 := blen_le (n := k) (k := 32 * lenb) (by rw [← W_pow]; exact HE7.out.hk.1.lt)
      have := HE7.out.hk.2
      omega
    refine (bits_any b lenb capb k w7 HE7.out.hk.1 (by omega)).mono ?_
    rintro e w8 ⟨rfl, hb8⟩
    have HE8 := Lib.hid (HE7.out.below hb8)
    clear hb8 HE7
    have cb := HE8.out.bx.2.2.1.cell
    have cg := HE8.out.hg.cell 0
    simp only [List.getElem?_cons_zero] at cg
    have cbo : ∀ o, (w8.alloc o).cell? ⟨s + 1, 0, none⟩ = some (.slice b lenb capb) := fun o => ((show Blk w8 (s + 1) 36 [.slice b lenb capb] from HE8.out.bx.2.2.1).alloc o).cell 0
    have cgo : ∀ o, (w8.alloc o).cell? ⟨g1, 0, none⟩ = some (.slice oa ol oc) := fun o => (HE8.out.hg.alloc o).cell 0
    by_cases hsh : (blen k : Int) ≤ 24
    · go_wp2_with fail
      obtain ⟨g2, hg2⟩ : ∃ g2, g2 = w8.heap.size := ⟨_, rfl⟩
      obtain ⟨w9, hw9⟩ : ∃ w9, w8.alloc (Obj.cells #[Value.slice oa ol oc] 36) = w9 := ⟨_, rfl⟩
      have hb9 : BB w8 w9 := hw9 ▸ BB.alloc (BB.refl _)
      have HE9 := Lib.hid (HE8.out.below hb9)
      have HG9 : Hid (Blk w9 g2 36 [.slice oa ol oc]) := hw9 ▸ Blk.new' w8 _ _ g2 hg2
      have hg12 : g1 < g2 := hg2 ▸ HE8.out.hg.lt
      rw [hw9, ← hg2]
      clear cb cg cbo cgo hb9 hw9 hg2
      refine (bits_any b lenb capb k w9 HE9.out.hk.1 (by have := HE9.out.hk.2; omega)).mono ?_
      rintro e w10 ⟨rfl, hb10⟩
      have HE10 := Lib.hid (HE9.out.below hb10)
      have HG10 := Lib.hid (HG9.out.below hb10 HG9.out.lt)
      clear hb10
      go_wp2_with fail
      go_loopw [9] (fun iv wr => ∃ (i q : Nat) (ya : Option Addr) (yl yc : Nat), (i : Int) ≤ 32000 ∧ iv = .int .i64 ((i : Int) - 1) ∧ Hid (q = x ^ (k / 2 ^ i) % m) ∧ Hid (NatS wr ya yl q) ∧ Hid (Blk wr g2 36 [.slice ya yl yc]) ∧
        Hid (ExpE w wr s g1 r m xa xl xc b lenb capb oa ol oc x k)) (fun iv _ => (intOf iv + 1).toNat)
      case atStart => exact ⟨blen k, 1 % m, oa, ol, oc, hbl, rfl, (by show _ = _; rw [Nat.div_eq_of_lt (lt_blen k), Nat.pow_zero]), HE10.out.hone, HG10.out, HE10.out⟩
      case round =>
        obtain ⟨i, q, ya, yl, yc, hi, rfl, HQ, HY, HG, HE⟩ := hrel
        clear HE10 HG10 HE9 HG9 HE8
        have co := HG.out.cell 0
        simp only [List.getElem?_cons_zero] at co
        by_cases hi0 : i = 0
        · subst hi0
          have cr := HE.out.bx.2.2.2.cell
          have fr := HE.out.bx.2.2.2.frozen
          go_wp2_with fail
          have hB : Blk wr (s + 1 + 1) 36 [.slice none 0 0] := HE.out.bx.2.2.2
          refine ret_nat rfl rfl (hB.set 0 _) (⟨ya, yl, yc, rfl, ?_, ?_⟩ : RetS (n ^ k % m) w _ _)
          · rw [HPW.out]; have := HQ.out; rw [Nat.pow_zero, Nat.div_one] at this; rw [← this]; exact HY.out.set hB 0 _
          · rw [← HS.out]; exact HE.out.bx.1.setCell (p := ⟨s + 1 + 1, 0, none⟩) (by show s ≤ s + 1 + 1; omega) _
        · obtain ⟨j, rfl⟩ : ∃ j, i = j + 1 := ⟨i - 1, by omega⟩
          have hei : (((j + 1 : Nat) : Int) - 1) = (j : Int) := by omega
          rw [hei]
          go_wp2_with fail
          refine (rmul_any r m ya ya yl yc yl yc q q wr HE.out.hr HY.out HY.out).mono ?_
          rintro e w11 ⟨za, zl, zc, rfl, hZ, hb11⟩
          have HE11 := Lib.hid (HE.out.below hb11)
          have HG11 := Lib.hid (HG.out.below hb11 HG.out.lt)
          have HZ11 := Lib.hid hZ
          clear hb11 hZ co
          have co := HG11.out.cell 0
          have fo := HG11.out.frozen 0
          simp only [List.getElem?_cons_zero] at co
          have HE12 := Lib.hid (HE11.out.set HG11.out hg12 0 (Value.slice za zl zc))
          have cb : (w11.setCell ⟨g2, 0, none⟩ (Value.slice za zl zc)).cell? ⟨s + 1, 0, none⟩ = some (.slice b lenb capb) := HE12.out.bx.2.2.1.cell
          go_wp2_with fail
          have HZ12 := Lib.hid (HZ11.out.set HG11.out 0 (Value.slice za zl zc))
          have HG12 := Lib.hid (HG11.out.set 0 (Value.slice za zl zc))
          generalize w11.setCell ⟨g2, 0, none⟩ (Value.slice za zl zc) = w12 at HE12 HZ12 HG12 ⊢
          refine (bit_any b lenb capb k j w12 HE12.out.hk.1 (by have := HE12.out.hk.2; omega) (by omega)).mono ?_
          rintro e w13 ⟨rfl, hb13⟩
          have HE13 := Lib.hid (HE12.out.below hb13)
          have HG13 := Lib.hid (HG12.out.below hb13 HG12.out.lt)
          have HZ13 := Lib.hid (HZ12.out.below hb13)
          clear hb13 co fo cb HE12 HZ12 HG12 HE11 HG11 HZ11
          have co : w13.cell? ⟨g2, 0, none⟩ = some (.slice za zl zc) := HG13.out.cell 0
          have fo := HG13.out.frozen 0
          have cx := HE13.out.bx.2.1.cell
          have hsq : q * q % m = x ^ (2 * (k / 2 ^ (j + 1))) % m := by rw [HQ.out, ← Nat.mul_mod, ← Nat.pow_add, Nat.two_mul]
          have hkk : k / 2 ^ j = 2 * (k / 2 ^ (j + 1)) + k / 2 ^ j % 2 := by
            rw [Nat.pow_succ, ← Nat.div_div_eq_div_mul]; omega
          obtain ⟨bt, hbt⟩ : ∃ bt, bt = k / 2 ^ j % 2 := ⟨_, rfl⟩
          rw [← hbt] at hkk ⊢
          have hb2 : bt < 2 := by rw [hbt]; exact Nat.mod_lt _ (by decide)
          have HKK := Lib.hid hkk
          have HSQ := Lib.hid hsq
          clear hkk hsq hbt
          by_cases hb1 : bt = 1
          · subst hb1
            go_wp2_with fail
            refine (rmul_any r m za xa zl zc xl xc (q * q % m) x w13 HE13.out.hr HZ13.out HE13.out.hx).mono ?_
            rintro e w14 ⟨ua, ul, uc, rfl, hU, hb14⟩
            have HE14 := Lib.hid (HE13.out.below hb14)
            have HG14 := Lib.hid (HG13.out.below hb14 HG13.out.lt)
            have HU14 := Lib.hid hU
            clear hb14 hU co fo cx
            have co : w14.cell? ⟨g2, 0, none⟩ = some (.slice za zl zc) := HG14.out.cell 0
            have fo := HG14.out.frozen 0
            go_wp2_with fail
            refine ⟨⟨j, q * q % m * x % m, ua, ul, uc, by omega, rfl, ?_, HU14.out.set HG14.out 0 _, HG14.out.set 0 _, HE14.out.set HG14.out hg12 0 _⟩, by simp only [intOf]; omega⟩
            have h1 := HKK.out
            have h2 := HSQ.out
            generalize k / 2 ^ (j + 1) = t at h1 h2
            show _ = x ^ (k / 2 ^ j) % m
            rw [h1, h2, Nat.pow_succ x, Nat.mod_mul_mod]
          · obtain rfl : bt = 0 := by omega
            go_wp2_with fail
            refine ⟨⟨j, q * q % m, za, zl, zc, by omega, rfl, ?_, HZ13.out, HG13.out, HE13.out⟩, by simp only [intOf]; omega⟩
            have h1 := HKK.out
            have h2 := HSQ.out
            generalize k / 2 ^ (j + 1) = t at h1 h2
            show _ = x ^ (k / 2 ^ j) % m
            rw [h1, h2, Nat.add_zero]
    · have hsd : decide ((blen k : Int) ≤ 24) = false := by rw [decide_eq_false_iff_not]; exact hsh
      have hsd2 : decide (blen k ≤ 24) = false := by rw [decide_eq_false_iff_not]; omega
      go_wp2_with fail
      obtain ⟨g3, hg3⟩ : ∃ g3, g3 = w8.heap.size := ⟨_, rfl⟩
      have HP9 : Hid (∀ o, Blk (w8.alloc o) g3 181 (.slice oa ol oc :: List.replicate 15 (.slice none 0 0)) → PowAt (w8.alloc o) g3 m x 1) := fun o hB =>
        ⟨_, rfl, hB, fun j hj => ⟨oa, ol, oc, by obtain rfl : j = 0 := by omega
                                                 rfl, by obtain rfl : j = 0 := by omega
                                                         rw [Nat.pow_zero]; exact HE8.out.hone.below (BB.alloc (BB.refl w8))⟩⟩
      have HP9' := HP9.out _ (Blk.new' w8 (.slice oa ol oc :: List.replicate 15 (.slice none 0 0)) 181 g3 hg3)
      have HE9 := Lib.hid (HE8.out.below (BB.alloc (BB.refl w8) (o := Obj.cells (Value.slice oa ol oc :: List.replicate 15 (Value.slice none 0 0)).toArray 181)))
      have hg13 : g1 < g3 := hg3 ▸ HE8.out.hg.lt
      obtain ⟨w9, hw9⟩ : ∃ w9, w8.alloc (Obj.cells (Value.slice oa ol oc :: List.replicate 15 (Value.slice none 0 0)).toArray 181) = w9 := ⟨_, rfl⟩
      rw [hw9] at HP9' HE9
      change Code.wp _ _ _ _ (w8.alloc (Obj.cells (Value.slice oa ol oc :: List.replicate 15 (Value.slice none 0 0)).toArray 181))
      rw [hw9, ← hg3]
      have HP9 := Lib.hid HP9'
      clear HP9' hw9 cb cg cbo cgo hg3
      go_loopw [11] (fun iv wr => ∃ (i : Nat), 1 ≤ (i : Int) ∧ (i : Int) ≤ 16 ∧ iv = .int .i64 (i : Int) ∧ Hid (PowAt wr g3 m x i) ∧ Hid (ExpE w wr s g1 r m xa xl xc b lenb capb oa ol oc x k)) (fun iv _ => (17 - intOf iv).toNat)
      case atStart => exact ⟨1, by decide, by decide, rfl, HP9.out, HE9.out⟩
      case round =>
        obtain ⟨i, hi1, hi2, rfl, HP, HE⟩ := hrel
        clear HP9 HE9 HE8
        by_cases hi : (i : Int) < 16
        · obtain ⟨cs, hcl, hB, hcs⟩ := HP.out
          obtain ⟨j, rfl⟩ : ∃ j, i = j + 1 := ⟨i - 1, by omega⟩
          obtain ⟨pa, pl, pc, hpj, hPN⟩ := hcs j (by omega)
          have c1 : wr.cell? ⟨g3, j, none⟩ = some (.slice pa pl pc) := (hB.cell j).trans hpj
          have c2 : ∃ y, wr.cell? ⟨g3, j + 1, none⟩ = some y := ⟨_, (hB.cell (j + 1)).trans (List.getElem?_eq_getElem (by omega))⟩
          obtain ⟨y0, c2⟩ := c2
          have cx := HE.out.bx.2.1.cell
          have hji : (j : Int) + 1 < 16 := by omega
          have HPB := Lib.hid hB
          have HCS := Lib.hid (And.intro hcl hcs)
          have HPN := Lib.hid hPN
          clear hcl hB hcs hpj hPN
          have hej : (((j + 1 : Nat) : Int)) = (j : Int) + 1 := by omega
          rw [hej]
          have hj1 : (j : Int) + 1 - 1 = (j : Int) := by omega
          have hj16 : (j : Int) < 16 := by omega
          go_wp2_with fail
          have hj0 : (0 : Int) ≤ (j : Int) := by omega
          have hjn : j < 16 := by omega
          have wj1 : IntKind.i64.wrap (j : Int) = (j : Int) := by rw [IntKind.wrap_i64]; omega
          have wj2 : IntKind.i64.wrap ((j : Int) + 1) = (j : Int) + 1 := by rw [IntKind.wrap_i64]; omega
          have hjn1 : j + 1 < 16 := by omega
          have hjn2 : j < 15 := by omega
          have hne1 : j ≠ j + 1 := by omega
          have hsg3 : s ≠ g3 := by have := HE.out.lt; omega
          have hz0 : (0 : Int) ≤ (j : Int) + 1 := by omega
          have hz1 : (0 : Int) ≤ (j : Int) + 1 ∧ (j : Int) + 1 < 16 := by omega
          have htn : ((j : Int) + 1).toNat = j + 1 := by omega
          go_region_held3 (fun w' => w'.cell? ⟨g3, j, none⟩ = some (.slice pa pl pc) ∧ w'.cell? ⟨s, 0, none⟩ = some (.slice xa xl xc)) (first | exact ⟨c1, cx⟩ | exact ⟨d1, d2⟩ | exact ⟨d3 _, d4 _⟩) (first
            | (go_at_call 49; refine (rmul_any r m pa xa pl pc xl xc (x ^ j % m) x wr.drew HE.out.hr.drew HPN.out.drew HE.out.hx.drew).mono ?_; rintro e w11 ⟨za, zl, zc, rfl, hZ, hb11⟩; have HE11 := Lib.hid (HE.out.drew.below hb11); have HPB11 := Lib.hid (HPB.out.drew.below hb11 HPB.out.lt); have HZ11 := Lib.hid hZ; have hbb := hb11; have c3 : ∃ y, w11.cell? ⟨g3, j + 1, none⟩ = some y := ⟨_, (HPB11.out.cell (j + 1)).trans (List.getElem?_eq_getElem (by have := HCS.out.1; omega))⟩; obtain ⟨y1, c3⟩ := c3; have f3 := HPB11.out.frozen (j + 1); have d1 : w11.cell? ⟨g3, j, none⟩ = some (.slice pa pl pc) := (hbb.cell (p := ⟨g3, j, none⟩) HPB.out.lt).trans c1; have d2 : w11.cell? ⟨s, 0, none⟩ = some (.slice xa xl xc) := HE11.out.bx.2.1.cell; have d3 : ∀ v, (w11.setCell ⟨g3, j + 1, none⟩ v).cell? ⟨g3, j, none⟩ = some (.slice pa pl pc) := fun v => (World.cell?_setCell_other w11 ⟨g3, j + 1, none⟩ ⟨g3, j, none⟩ v (by intro h; injection h with _ h2 _; omega)).trans d1; have d4 : ∀ v, (w11.setCell ⟨g3, j + 1, none⟩ v).cell? ⟨s, 0, none⟩ = some (.slice xa xl xc) := fun v => (cell_other v hsg3).trans d2; clear hZ hb11))
          all_goals go_wp2_with fail
          all_goals
            refine ⟨⟨j + 2, by omega, by omega, by congr 1, ⟨cs.set (j + 1) (Value.slice za zl zc), by rw [List.length_set]; exact HCS.out.1, HPB11.out.set (j + 1) (Value.slice za zl zc), ?_⟩, HE11.out.set HPB11.out hg13 (j + 1) (Value.slice za zl zc)⟩, by simp only [intOf]; omega⟩
            intro i hi
            by_cases hij : i = j + 1
            · subst hij
              refine ⟨za, zl, zc, by rw [List.getElem?_set_self (by have := HCS.out.1; omega)], ?_⟩
              have := HZ11.out.set HPB11.out (j + 1) (Value.slice za zl zc)
              rwa [Nat.mod_mul_mod, ← Nat.pow_succ] at this
            · obtain ⟨ia, il, ic, h4, h5⟩ := HCS.out.2 i (by omega)
              exact ⟨ia, il, ic, by rw [List.getElem?_set_ne (by omega)]; exact h4, NatS.set (NatS.below (show NatS wr.drew ia il (x ^ i % m) from h5) hbb) HPB11.out (j + 1) _⟩
        · obtain rfl : i = 16 := by omega
          have cg := HE.out.hg.cell 0
          simp only [List.getElem?_cons_zero] at cg
          have cbo : ∀ o, (wr.alloc o).cell? ⟨s + 1, 0, none⟩ = some (.slice b lenb capb) := fun o => ((show Blk wr (s + 1) 36 [.slice b lenb capb] from HE.out.bx.2.2.1).alloc o).cell 0
          go_wp2_with fail
          obtain ⟨g2, hg2⟩ : ∃ g2, g2 = wr.heap.size := ⟨_, rfl⟩
          obtain ⟨w9, hw9⟩ : ∃ w9, wr.alloc (Obj.cells #[Value.slice oa ol oc] 36) = w9 := ⟨_, rfl⟩
          have hb9 : BB wr w9 := hw9 ▸ BB.alloc (BB.refl _)
          have HE9 := Lib.hid (HE.out.below hb9)
          have HP9 := Lib.hid (HP.out.below hb9)
          have HG9 : Hid (Blk w9 g2 36 [.slice oa ol oc]) := hw9 ▸ Blk.new' wr _ _ g2 hg2
          have hg12 : g1 < g2 := hg2 ▸ HE.out.hg.lt
          have hg32 : g3 < g2 := hg2 ▸ HP.out.lt
          rw [hw9, ← hg2]
          clear cbo cg hb9 hw9 hg2 HE HP
          refine (bits_any b lenb capb k w9 HE9.out.hk.1 (by have := HE9.out.hk.2; omega)).mono ?_
          rintro e w10 ⟨rfl, hb10⟩
          have HE10 := Lib.hid (HE9.out.below hb10)
          have HP10 := Lib.hid (HP9.out.below hb10)
          have HG10 := Lib.hid (HG9.out.below hb10 HG9.out.lt)
          clear hb10 HE9 HP9 HG9
          go_wp2_with fail
          clear HN HK HR
          go_loopw [13] (fun iv wr => ∃ (i q : Nat) (ya : Option Addr) (yl yc : Nat), (i : Int) ≤ 8001 ∧ iv = .int .i64 ((i : Int) - 1) ∧ Hid (q = x ^ (k / 16 ^ i) % m) ∧ Hid (NatS wr ya yl q) ∧ Hid (Blk wr g2 36 [.slice ya yl yc]) ∧ Hid (PowAt wr g3 m x 16) ∧
            Hid (ExpE w wr s g1 r m xa xl xc b lenb capb oa ol oc x k)) (fun iv _ => (intOf iv + 1).toNat)
          case atStart =>
            refine ⟨(blen k - 1) / 4 + 1, 1 % m, oa, ol, oc, by omega, by congr 1; omega, ?_, HE10.out.hone, HG10.out, HP10.out, HE10.out⟩
            show _ = _
            have h1 := lt_blen k
            have h2 : 2 ^ blen k ≤ 16 ^ ((blen k - 1) / 4 + 1) := by
              rw [show (16 : Nat) = 2 ^ 4 from rfl, ← Nat.pow_mul]
              exact Nat.pow_le_pow_right (by omega) (by omega)
            rw [Nat.div_eq_of_lt (Nat.lt_of_lt_of_le h1 h2), Nat.pow_zero]
          case round =>
            obtain ⟨i, q, ya, yl, yc, hi, rfl, HQ, HY, HG, HP, HE⟩ := hrel
            clear HE10 HG10 HP10
            have co := HG.out.cell 0
            simp only [List.getElem?_cons_zero] at co
            by_cases hi0 : i = 0
            · subst hi0
              have cr := HE.out.bx.2.2.2.cell
              have fr := HE.out.bx.2.2.2.frozen
              go_wp2_with fail
              have hB : Blk wr (s + 1 + 1) 36 [.slice none 0 0] := HE.out.bx.2.2.2
              refine ret_nat rfl rfl (hB.set 0 _) (⟨ya, yl, yc, rfl, ?_, ?_⟩ : RetS (n ^ k % m) w _ _)
              · rw [HPW.out]; have := HQ.out; rw [Nat.pow_zero, Nat.div_one] at this; rw [← this]; exact HY.out.set hB 0 _
              · rw [← HS.out]; exact HE.out.bx.1.setCell (p := ⟨s + 1 + 1, 0, none⟩) (by show s ≤ s + 1 + 1; omega) _
            · obtain ⟨j, rfl⟩ : ∃ j, i = j + 1 := ⟨i - 1, by omega⟩
              have hei : (((j + 1 : Nat) : Int) - 1) = (j : Int) := by omega
              rw [hei]
              go_wp2_with fail
              have HJI := Lib.hid (And.intro hi HQ.out)
              obtain ⟨K, hK⟩ : ∃ K, K = k / 16 ^ (j + 1) := ⟨_, rfl⟩
              go_loopw [72] (fun tv wr => ∃ (t q : Nat) (ya : Option Addr) (yl yc : Nat), (t : Int) ≤ 4 ∧ tv = .int .i64 (t : Int) ∧ Hid (q = x ^ (K * 2 ^ t) % m) ∧ Hid (NatS wr ya yl q) ∧ Hid (Blk wr g2 36 [.slice ya yl yc]) ∧ Hid (PowAt wr g3 m x 16) ∧
                Hid (ExpE w wr s g1 r m xa xl xc b lenb capb oa ol oc x k)) (fun tv _ => (4 - intOf tv).toNat)
              case atStart => exact ⟨0, q, ya, yl, yc, by decide, rfl, (by show _ = _; rw [hK, Nat.pow_zero, Nat.mul_one]; exact HQ.out), HY.out, HG.out, HP.out, HE.out⟩
              case round =>
                clear HY HG HP HE HQ co
                obtain ⟨t, q, ya, yl, yc, ht, rfl, HQ, HY, HG, HP, HE⟩ := hrel
                have HKK := Lib.hid hK
                clear hK
                have co := HG.out.cell 0
                simp only [List.getElem?_cons_zero] at co
                by_cases ht4 : (t : Int) < 4
                · go_wp2_with fail
                  refine (rmul_any r m ya ya yl yc yl yc q q wr HE.out.hr HY.out HY.out).mono ?_
                  rintro e w11 ⟨za, zl, zc, rfl, hZ, hb11⟩
                  have HE11 := Lib.hid (HE.out.below hb11)
                  have HG11 := Lib.hid (HG.out.below hb11 HG.out.lt)
                  have HP11 := Lib.hid (HP.out.below hb11)
                  have HZ11 := Lib.hid hZ
                  clear hb11 hZ co
                  have co := HG11.out.cell 0
                  have fo := HG11.out.frozen 0
                  simp only [List.getElem?_cons_zero] at co
                  go_wp2_with fail
                  refine ⟨⟨t + 1, q * q % m, za, zl, zc, by omega, rfl, ?_, HZ11.out.set HG11.out 0 _, HG11.out.set 0 _, HP11.out.set HG11.out (by omega) 0 _, HE11.out.set HG11.out hg12 0 _⟩, by simp only [intOf]; omega⟩
                  have h1 := HQ.out
                  show q * q % m = x ^ (K * 2 ^ (t + 1)) % m
                  have e1 : K * 2 ^ t + K * 2 ^ t = K * 2 ^ (t + 1) := by rw [Nat.pow_succ, ← Nat.mul_assoc]; omega
                  rw [h1, ← Nat.mul_mod, ← Nat.pow_add, e1]
                · obtain rfl : t = 4 := by omega
                  have cb := HE.out.bx.2.2.1.cell
                  have G1 : ∀ w', BB wr w' → w'.cell? ⟨s + 1, 0, none⟩ = some (.slice b lenb capb) := fun w' h => (h.cell HE.out.bx.2.2.1.lt).trans HE.out.bx.2.2.1.cell
                  obtain ⟨B0, hB0⟩ : ∃ B0, B0 = k / 2 ^ (4 * j) % 2 := ⟨_, rfl⟩
                  obtain ⟨B1, hB1⟩ : ∃ B1, B1 = k / 2 ^ (4 * j + 1) % 2 := ⟨_, rfl⟩
                  obtain ⟨B2, hB2⟩ : ∃ B2, B2 = k / 2 ^ (4 * j + 2) % 2 := ⟨_, rfl⟩
                  obtain ⟨B3, hB3⟩ : ∃ B3, B3 = k / 2 ^ (4 * j + 3) % 2 := ⟨_, rfl⟩
                  have b0 : B0 < 2 := by rw [hB0]; exact Nat.mod_lt _ (by decide)
                  have b1 : B1 < 2 := by rw [hB1]; exact Nat.mod_lt _ (by decide)
                  have b2 : B2 < 2 := by rw [hB2]; exact Nat.mod_lt _ (by decide)
                  have b3 : B3 < 2 := by rw [hB3]; exact Nat.mod_lt _ (by decide)
                  have CB : ∀ (c : Nat) (I : Int) (w' : World), I = ((4 * j + c : Nat) : Int) → c ≤ 3 → BB wr w' → Calls Tryz.prog 125 #[.agg #[.slice b lenb capb], .int .i64 I] w' fun e w'' => e = .returned (.int .i64 ((k / 2 ^ (4 * j + c) % 2 : Nat) : Int)) ∧ Below w'.heap.size w' w'' := fun c I w' hI hc h => by
                    rw [hI]
                    exact bit_any b lenb capb k (4 * j + c) w' (HE.out.hk.1.below h) (by have := HE.out.hk.2; omega) (by omega)
                  have C0 : ∀ (I : Int) (w' : World), I = 4 * (j : Int) → BB wr w' → Calls Tryz.prog 125 #[.agg #[.slice b lenb capb], .int .i64 I] w' fun e w'' => e = .returned (.int .i64 (B0 : Int)) ∧ Below w'.heap.size w' w'' := fun I w' hI h => by
                    rw [hB0]; exact CB 0 I w' (by omega) (by omega) h
                  have C1 : ∀ (I : Int) (w' : World), I = 4 * (j : Int) + 1 → BB wr w' → Calls Tryz.prog 125 #[.agg #[.slice b lenb capb], .int .i64 I] w' fun e w'' => e = .returned (.int .i64 (B1 : Int)) ∧ Below w'.heap.size w' w'' := fun I w' hI h => by
                    rw [hB1]; exact CB 1 I w' (by omega) (by omega) h
                  have C2 : ∀ (I : Int) (w' : World), I = 4 * (j : Int) + 2 → BB wr w' → Calls Tryz.prog 125 #[.agg #[.slice b lenb capb], .int .i64 I] w' fun e w'' => e = .returned (.int .i64 (B2 : Int)) ∧ Below w'.heap.size w' w'' := fun I w' hI h => by
                    rw [hB2]; exact CB 2 I w' (by omega) (by omega) h
                  have C3 : ∀ (I : Int) (w' : World), I = 4 * (j : Int) + 3 → BB wr w' → Calls Tryz.prog 125 #[.agg #[.slice b lenb capb], .int .i64 I] w' fun e w'' => e = .returned (.int .i64 (B3 : Int)) ∧ Below w'.heap.size w' w'' := fun I w' hI h => by
                    rw [hB3]; exact CB 3 I w' (by omega) (by omega) h
                  have hjl : (j : Int) ≤ 8001 := by have := HJI.out.1; omega
                  have wq0 : IntKind.i64.wrap (4 * (j : Int)) = 4 * (j : Int) := by rw [IntKind.wrap_i64]; omega
                  have wq1 : IntKind.i64.wrap (4 * (j : Int) + 1) = 4 * (j : Int) + 1 := by rw [IntKind.wrap_i64]; omega
                  have wq2 : IntKind.i64.wrap (4 * (j : Int) + 2) = 4 * (j : Int) + 2 := by rw [IntKind.wrap_i64]; omega
                  have wq3 : IntKind.i64.wrap (4 * (j : Int) + 3) = 4 * (j : Int) + 3 := by rw [IntKind.wrap_i64]; omega
                  have HBS := Lib.hid (And.intro hB0 (And.intro hB1 (And.intro hB2 hB3)))
                  clear CB hB0 hB1 hB2 hB3 cb co
                  go_wp2_with fail
                  go_region_held3 (fun w' => BB wr w') (repeat' (first | assumption | exact BB.refl _ | apply BB.drew | (refine BB.step ?_ (by assumption))))
                    (first
                      | (go_at_call 125; refine (C0 _ _ (by omega) (by assumption)).mono ?_; rintro e w20 ⟨rfl, hb20⟩; have hbb20 := hb20)
                      | (go_at_call 125; refine (C1 _ _ (by omega) (by assumption)).mono ?_; rintro e w21 ⟨rfl, hb21⟩; have hbb21 := hb21)
                      | (go_at_call 125; refine (C2 _ _ (by omega) (by assumption)).mono ?_; rintro e w22 ⟨rfl, hb22⟩; have hbb22 := hb22)
                      | (go_at_call 125; refine (C3 _ _ (by omega) (by assumption)).mono ?_; rintro e w23 ⟨rfl, hb23⟩; have hbb23 := hb23))
                  all_goals (
                    have hB : BB wr w23 := by assumption
                    have HE23 := Lib.hid (HE.out.below hB)
                    have HG23 := Lib.hid (HG.out.below hB HG.out.lt)
                    have HP23 := Lib.hid (HP.out.below hB)
                    have HY23 := Lib.hid (HY.out.below hB)
                    obtain ⟨d, hd⟩ : ∃ d, d = B0 + 2 * B1 + 4 * B2 + 8 * B3 := ⟨_, rfl⟩
                    have hd16 : d < 16 := by omega
                    have hw1 : IntKind.i64.wrap (IntKind.i64.wrap (IntKind.i64.wrap ((B0 : Int) + IntKind.i64.wrap (2 * (B1 : Int))) + IntKind.i64.wrap (4 * (B2 : Int))) + IntKind.i64.wrap (8 * (B3 : Int))) = (d : Int) := by
                      rw [i64_small (2 * (B1 : Int)) (by omega) (by omega), i64_small (4 * (B2 : Int)) (by omega) (by omega), i64_small (8 * (B3 : Int)) (by omega) (by omega), i64_small ((B0 : Int) + 2 * (B1 : Int)) (by omega) (by omega),
                        i64_small ((B0 : Int) + 2 * (B1 : Int) + 4 * (B2 : Int)) (by omega) (by omega), i64_small ((B0 : Int) + 2 * (B1 : Int) + 4 * (B2 : Int) + 8 * (B3 : Int)) (by omega) (by omega), hd]
                      omega
                    have HD := Lib.hid hd
                    have hK16 : k / 16 ^ j = 16 * K + d := by
                      rw [HKK.out]
                      have h0 := HBS.out.1
                      have h1 := HBS.out.2.1
                      have h2 := HBS.out.2.2.1
                      have h3 := HBS.out.2.2.2
                      exact dig16 k j B0 B1 B2 B3 d h0 h1 h2 h3 hd
                    have HK16 := Lib.hid hK16
                    clear hK16 hd C0 C1 C2 C3
                    clear HE HG HP HY
                    clear HBS G1
                    clear wq0 wq1 wq2 wq3
                    by_cases hd0 : d = 0
                    · have hdd : decide (0 < (d : Int)) = false := by rw [hd0]; rfl
                      go_wp2_with fail
                      refine ⟨⟨j, q, ya, yl, yc, by omega, rfl, ?_, HY23.out, HG23.out, HP23.out, HE23.out⟩, by simp only [intOf]; omega⟩
                      have h1 := HQ.out
                      show q = x ^ (k / 16 ^ j) % m
                      rw [h1, HK16.out, hd0, Nat.add_zero, Nat.mul_comm]
                    · have hdd : 0 < (d : Int) := by omega
                      have hwd : IntKind.i64.wrap (d : Int) = (d : Int) := i64_small _ (by omega) (by omega)
                      obtain ⟨pa, pl, pc, hpc, hpn⟩ := HP23.out.get d (by omega)
                      have HPN := Lib.hid hpn
                      have co := HG23.out.cell 0
                      simp only [List.getElem?_cons_zero] at co
                      have hd16i : (d : Int) < 16 := by omega
                      clear hpn
                      go_wp2_with fail
                      rw [hw1]
                      have hg32' : g3 ≠ g2 := by omega
                      clear hw1
                      go_region_with (go_at_call 49; refine (rmul_any r m ya pa yl yc pl pc q (x ^ d % m) w23.drew HE23.out.hr.drew HY23.out.drew HPN.out.drew).mono ?_; rintro e w24 ⟨za, zl, zc, rfl, hZ, hb24⟩; have HE24 := Lib.hid (HE23.out.drew.below hb24); have HG24 := Lib.hid (HG23.out.drew.below hb24 HG23.out.lt); have HP24 := Lib.hid (HP23.out.drew.below hb24); have HZ24 := Lib.hid hZ; clear hb24 hZ co; have co := HG24.out.cell 0; have fo := HG24.out.frozen 0; simp only [List.getElem?_cons_zero] at co)
                      all_goals go_wp2_with fail
                      all_goals (
                        refine ⟨⟨j, q * (x ^ d % m) % m, za, zl, zc, by omega, rfl, ?_, HZ24.out.set HG24.out 0 _, HG24.out.set 0 _, HP24.out.set HG24.out (by omega) 0 _, HE24.out.set HG24.out hg12 0 _⟩, by simp only [intOf]; omega⟩
                        have h1 := HQ.out
                        show q * (x ^ d % m) % m = x ^ (k / 16 ^ j) % m
                        rw [h1, HK16.out, ← Nat.mul_mod, ← Nat.pow_add, show K * 2 ^ 4 = 16 * K by omega]))

end Go.Proofs.YthefednendgclaaGreat
