/-
  What goes through values: Join, JoinExp.
-/
import Derived.Test.YthefednendgclaaWeighed
import Derived.Test.YthefednendgclaaWeights
import Derived.Deep.RegionHeld3
set_option linter.unusedVariables false
set_option linter.unusedSimpArgs false
namespace Go.Proofs.Ythefednendgclaa
open Go Go.RowKit Sac NT

/-- What both tells: the weights, or why there are none. -/
def BothPost (q : Nat) (xs : List Nat) (ny x : Nat) (w : World) (e : Ending) (w' : World) : Prop := ∃ (v : Value) (c : Int), e = .returned (.tuple #[v, .int .i64 c]) ∧ Below w.heap.size w w' ∧
  ((xs.length = 0 ∧ c = 10 ∧ v = .slice none 0 0) ∨ (0 < xs.length ∧ xs.length ≠ ny ∧ c = 1 ∧ v = .slice none 0 0) ∨ (0 < xs.length ∧ xs.length = ny ∧ ¬ Dis q xs ∧ c = 11 ∧ v = .slice none 0 0) ∨ (0 < xs.length ∧ xs.length = ny ∧ Dis q xs ∧ c = 0 ∧ NatsOwn w' w.heap.size v (wts q xs x)))

set_option maxRecDepth 100000 in
set_option maxHeartbeats 4000000 in
theorem both_any (r q : Nat) (a : Option Addr) (len cap : Nat) (xs : List Nat) (b : Option Addr) (lenb capb : Nat) (xa : Option Addr) (xl xc x : Nat) (w : World) (hq : Prime q) (hr : RingAt w r q) (h : NatsAt w a xs) (hl : xs.length = len) (hcc : (len : Int) ≤ cap) (hc : (len : Int) ≤ 10000) (hx : NatS w xa xl x) :
    Calls Try.prog 110 #[.pointer (some ⟨r, 0, none⟩), .slice a len cap, .slice b lenb capb, .agg #[.slice xa xl xc]] w (BothPost q xs lenb x w) := by
  obtain ⟨s, hs⟩ : ∃ s, s = w.heap.size := ⟨_, rfl⟩
  have HE1 := Lib.hid ((GE.init w s hs).alloc s hs hx (c := xc))
  have hbA := (Below.refl _ w).alloc (Nat.le_refl _) (Obj.cells #[Value.slice xa xl xc] 33)
  have HL := Lib.hid hl
  have HS := Lib.hid hs
  have HQ := Lib.hid hq
  have HR1 := Lib.hid (hr.below hbA)
  have HP1 := Lib.hid (h.below hbA)
  have HX1 := Lib.hid (hx.below hbA)
  clear hr h hl hx hbA hq
  by_cases h0 : (len : Int) = 0
  · have e0 : ((len : Int) == 0) = true := by rw [h0]; rfl
    have hx0 : xs.length = 0 := by rw [HL.out]; omega
    have HX0 := Lib.hid hx0
    clear h0 hx0
    go_enter Try.func110, Try.ntmps110
    go_wp2_with fail
    clear hs
    go_ret2
    exact ⟨_, _, rfl, HS.out ▸ HE1.out.bel, .inl ⟨HX0.out, rfl, rfl⟩⟩
  have e0 : ((len : Int) == 0) = false := by rw [beq_eq_false_iff_ne]; exact h0
  have hpos : 0 < xs.length := by rw [HL.out]; omega
  have HPOS := Lib.hid hpos
  clear hpos
  by_cases hn : len = lenb
  · subst hn
    have e1 : ((len : Int) != (len : Int)) = false := by simp
    clear h0
    go_enter Try.func110, Try.ntmps110
    go_wp2_with fail
    rw [← hs]
    clear hs
    obtain ⟨fa, fl, fc, cF, _, NF⟩ := HE1.out.box 0 rfl
    have HNF := Lib.hid NF
    clear NF
    generalize w.alloc (Obj.cells #[Value.slice xa xl xc] 33) = w1 at HE1 HR1 HP1 HX1 cF HNF ⊢
    first
      | (with_reducible refine (weights_any r q a len cap xs xa xl xc x w1 HQ.out HR1.out HP1.out HL.out hcc hc HX1.out).mono ?_)
      | (go_wp2_with fail; with_reducible refine (weights_any r q a len cap xs fa fl fc x w1 HQ.out HR1.out HP1.out HL.out hcc hc HNF.out).mono ?_)
    rintro e w2 ⟨v, c, rfl, hb2, hcs⟩
    have HB2 := Lib.hid hb2
    have HCS := Lib.hid hcs
    clear hb2 hcs cF
    go_wp2_with fail
    go_ret2
    refine ⟨v, c, rfl, HS.out ▸ (HE1.out.below HB2.out).bel, .inr (.inr ?_)⟩
    rcases HCS.out with ⟨h1, h2, h3⟩ | ⟨h1, h2, h3, h4⟩ | ⟨h1, h2, h3, h4⟩
    · exact absurd HPOS.out (by omega)
    · exact .inl ⟨h1, HL.out, h2, h3, h4⟩
    · exact .inr ⟨h1, HL.out, h2, h3, h4.base (HS.out ▸ HE1.out.base)⟩
  · have e1 : ((len : Int) != (lenb : Int)) = true := by rw [bne_iff_ne]; omega
    have HNE := Lib.hid (show xs.length ≠ lenb by rw [HL.out]; exact hn)
    clear h0 hn
    go_enter Try.func110, Try.ntmps110
    go_wp2_with fail
    clear hs
    go_ret2
    exact ⟨_, _, rfl, HS.out ▸ HE1.out.bel, .inr (.inl ⟨HPOS.out, HNE.out, rfl, rfl⟩)⟩

/-- What joining tells: a value, or why there is none. -/
def JoinPost (q : Nat) (xs : List Nat) (ny : Nat) (z : Nat) (w : World) (e : Ending) (w' : World) : Prop := ∃ (a : Option Addr) (l k : Nat) (c : Int), e = .returned (.tuple #[.agg #[.slice a l k], .int .i64 c]) ∧ Below w.heap.size w w' ∧
  ((xs.length = 0 ∧ c = 10 ∧ NatS w' a l 0) ∨ (0 < xs.length ∧ xs.length ≠ ny ∧ c = 1 ∧ NatS w' a l 0) ∨ (0 < xs.length ∧ xs.length = ny ∧ ¬ Dis q xs ∧ c = 11 ∧ NatS w' a l 0) ∨ (0 < xs.length ∧ xs.length = ny ∧ Dis q xs ∧ c = 0 ∧ NatS w' a l z))

theorem GE.retE {fn : Func} {p t : Tmp} {tmps : Array Value} {w wr : World} {s i k n : Nat} {L : List Itm} {F : List (World → Prop)} {c : Int} {D : Prop} {q : Nat} {xs : List Nat} {ny z : Nat} (h : GE w wr s L F) (hs : s = w.heap.size) (hi : L[i]? = some (boxI k n))
    (hr : fn.results = #[.cell p 33, .tmp t]) (hp : tmps.getD p undef = .pointer (some ⟨k, 0, none⟩)) (ht : tmps.getD t undef = .int .i64 c) (hd : D)
    (hD : D → ∀ (a : Option Addr) (l : Nat), NatS wr a l n → ((xs.length = 0 ∧ c = 10 ∧ NatS wr a l 0) ∨ (0 < xs.length ∧ xs.length ≠ ny ∧ c = 1 ∧ NatS wr a l 0) ∨ (0 < xs.length ∧ xs.length = ny ∧ ¬ Dis q xs ∧ c = 11 ∧ NatS wr a l 0) ∨ (0 < xs.length ∧ xs.length = ny ∧ Dis q xs ∧ c = 0 ∧ NatS wr a l z))) :
    bodyPost Try.prog fn (JoinPost q xs ny z w) .ret { tmps, defers := [] } wr := by
  obtain ⟨a, l, k', hB, hN⟩ := h.nb i hi
  exact ret_nat_tmp hr hp ht hB ⟨a, l, k', c, rfl, hs ▸ h.bel, hD hd a l hN⟩

set_option maxRecDepth 100000 in
set_option maxHeartbeats 4000000 in
theorem join_any (r q : Nat) (a : Option Addr) (len cap : Nat) (xs : List Nat) (b : Option Addr) (lenb capb : Nat) (ys : List Nat) (xa : Option Addr) (xl xc x : Nat) (w : World) (hq : Prime q) (hr : RingAt w r q) (h : NatsAt w a xs) (hl : xs.length = len) (hcc : (len : Int) ≤ cap) (hc : (len : Int) ≤ 10000)
    (h' : NatsAt w b ys) (hl' : ys.length = lenb) (hcc' : (lenb : Int) ≤ capb) (hx : NatS w xa xl x) :
    Calls Try.prog 67 #[.pointer (some ⟨r, 0, none⟩), .slice a len cap, .slice b lenb capb, .agg #[.slice xa xl xc]] w (JoinPost q xs lenb (wsum q ys (wts q xs x) xs.length) w) := by
  obtain ⟨s, hs⟩ : ∃ s, s = w.heap.size := ⟨_, rfl⟩
  have hbA := (Below.refl _ w).alloc (Nat.le_refl _) (Obj.cells #[Value.slice xa xl xc] 33)
  have hbB : BB w ((w.alloc (Obj.cells #[Value.slice xa xl xc] 33)).alloc (Obj.cells #[Value.slice none 0 0] 33)) := BB.alloc hbA
  have HE1 := Lib.hid (((GE.init w s hs).alloc s hs hx (c := xc)).alloc (s + 1) (by rw [hs]; simp) (natS_nil _) (c := 0))
  have HL := Lib.hid hl
  have HL' := Lib.hid hl'
  have HS := Lib.hid hs
  have HQ := Lib.hid hq
  have HR1 := Lib.hid (hr.below hbB)
  have HP1 := Lib.hid (h.below hbB)
  have HX1 := Lib.hid (hx.below hbB)
  have HY1 := Lib.hid (h'.below hbB)
  clear hr h h' hl hl' hx hbA hbB hq
  go_enter Try.func67, Try.ntmps67
  go_wp2_with fail
  rw [← hs]
  clear hs
  obtain ⟨fa, fl, fc, cF, _, NF⟩ := HE1.out.box 0 rfl
  have HNF := Lib.hid NF
  clear NF
  generalize (w.alloc (Obj.cells #[Value.slice xa xl xc] 33)).alloc (Obj.cells #[Value.slice none 0 0] 33) = w1 at HE1 HR1 HP1 HX1 HY1 cF HNF ⊢
  first
    | (with_reducible refine (both_any r q a len cap xs b lenb capb xa xl xc x w1 HQ.out HR1.out HP1.out HL.out hcc hc HX1.out).mono ?_)
    | (go_wp2_with fail; with_reducible refine (both_any r q a len cap xs b lenb capb fa fl fc x w1 HQ.out HR1.out HP1.out HL.out hcc hc HNF.out).mono ?_)
  rintro e w2 ⟨v, c, rfl, hb2, hcs⟩
  have HE2 := Lib.hid (HE1.out.below hb2)
  have HR2 := Lib.hid (HR1.out.below hb2)
  have HY2 := Lib.hid (HY1.out.below hb2)
  obtain ⟨_, _, _, c1, f1, _⟩ := HE2.out.box 1 rfl
  clear HR1 HP1 HY1 cF HNF
  rcases hcs with ⟨h0, rfl, rfl⟩ | ⟨h0, h1, rfl, rfl⟩ | ⟨h0, h1, h2, rfl, rfl⟩ | ⟨h0, h1, h2, rfl, hrow⟩
  · have HC := Lib.hid h0
    clear h0 hb2
    go_wp2_with fail
    exact (HE2.out.set 1 rfl (natS_nil w2) (c := 0)).retE HS.out (i := 1) rfl rfl rfl rfl HC.out (fun h a l hn => .inl ⟨h, rfl, hn⟩)
  · have HC := Lib.hid (And.intro h0 h1)
    clear h0 h1 hb2
    go_wp2_with fail
    exact (HE2.out.set 1 rfl (natS_nil w2) (c := 0)).retE HS.out (i := 1) rfl rfl rfl rfl HC.out (fun h a l hn => .inr (.inl ⟨h.1, h.2, rfl, hn⟩))
  · have HC := Lib.hid (And.intro h0 (And.intro h1 h2))
    clear h0 h1 h2 hb2
    go_wp2_with fail
    exact (HE2.out.set 1 rfl (natS_nil w2) (c := 0)).retE HS.out (i := 1) rfl rfl rfl rfl HC.out (fun h a l hn => .inr (.inr (.inl ⟨h.1, h.2.1, h.2.2, rfl, hn⟩)))
  · have HC := Lib.hid (And.intro h0 (And.intro h1 h2))
    obtain ⟨wa, wc', rfl, hw1, _, hat, _⟩ := hrow.form
    have HW := Lib.hid hat
    have hwl : (wts q xs x).length = lenb := by rw [wts_length]; exact h1
    have hlen : xs.length = lenb := h1
    have HWL := Lib.hid hwl
    have HLEN := Lib.hid hlen
    have hlc : (lenb : Int) ≤ 10000 := by have := HL.out; omega
    rw [hwl]
    rw [hlen]
    clear h0 h1 h2 hb2 hrow hat hwl hw1 hlen
    go_wp2_with fail
    refine (weighed_field r q b lenb capb ys wa wc' (wts q xs x) none 0 0 w2 HR2.out HY2.out HL'.out hcc' hlc HW.out HWL.out (natS_nil _)).mono ?_
    rintro e w3 ⟨za, zl, zc, rfl, hz, hb3⟩
    have HE3 := Lib.hid (HE2.out.below hb3)
    have HZ3 := Lib.hid hz
    clear hz hb3 c1 f1
    obtain ⟨_, _, _, c1, f1, _⟩ := HE3.out.box 1 rfl
    go_wp2_with fail
    exact (HE3.out.set 1 rfl HZ3.out (c := zc)).retE HS.out (i := 1) rfl rfl rfl rfl HC.out (fun h a l hn => .inr (.inr (.inr ⟨h.1, h.2.1, h.2.2, rfl, (by rw [HLEN.out]; exact hn)⟩)))

set_option maxRecDepth 100000 in
set_option maxHeartbeats 4000000 in
theorem joinexp_any (g P Q G H sz : Nat) (a : Option Addr) (len cap : Nat) (xs : List Nat) (b : Option Addr) (lenb capb : Nat) (ys : List Nat) (xa : Option Addr) (xl xc x : Nat) (w : World) (hq : Prime Q) (hr : GroupAt w g P Q G H sz) (h : NatsAt w a xs) (hl : xs.length = len) (hcc : (len : Int) ≤ cap) (hc : (len : Int) ≤ 10000)
    (h' : NatsAt w b ys) (hl' : ys.length = lenb) (hcc' : (lenb : Int) ≤ capb) (hx : NatS w xa xl x) :
    Calls Try.prog 68 #[.pointer (some ⟨g, 0, none⟩), .slice a len cap, .slice b lenb capb, .agg #[.slice xa xl xc]] w (JoinPost Q xs lenb (wprod P ys (wts Q xs x) xs.length) w) := by
  obtain ⟨s, hs⟩ : ∃ s, s = w.heap.size := ⟨_, rfl⟩
  have hbA := (Below.refl _ w).alloc (Nat.le_refl _) (Obj.cells #[Value.slice xa xl xc] 33)
  have hbB : BB w ((w.alloc (Obj.cells #[Value.slice xa xl xc] 33)).alloc (Obj.cells #[Value.slice none 0 0] 33)) := BB.alloc hbA
  have HE1 := Lib.hid (((GE.init w s hs).alloc s hs hx (c := xc)).alloc (s + 1) (by rw [hs]; simp) (natS_nil _) (c := 0))
  have HL := Lib.hid hl
  have HL' := Lib.hid hl'
  have HS := Lib.hid hs
  have HQ := Lib.hid hq
  have HR1 := Lib.hid (hr.below hbB)
  have HP1 := Lib.hid (h.below hbB)
  have HX1 := Lib.hid (hx.below hbB)
  have HY1 := Lib.hid (h'.below hbB)
  clear hr h h' hl hl' hx hbA hbB hq
  go_enter Try.func68, Try.ntmps68
  go_wp2_with fail
  rw [← hs]
  clear hs
  obtain ⟨fa, fl, fc, gF, NF⟩ := HE1.out.get 0 rfl
  have HNF := Lib.hid NF
  clear NF
  generalize (w.alloc (Obj.cells #[Value.slice xa xl xc] 33)).alloc (Obj.cells #[Value.slice none 0 0] 33) = w1 at HE1 HR1 HP1 HX1 HY1 gF HNF ⊢
  go_region_held3 (fun w' => BB w1 w') (first | assumption | exact BB.drew (BB.refl _))
    (first
      | (go_at_call 110; refine (both_any rq Q a len cap xs b lenb capb fa fl fc x w2 HQ.out HQ2.out (HP1.out.below hbb2) HL.out hcc hc (HNF.out.below hbb2)).mono ?_; rintro e w3 ⟨v, c, rfl, hb3, hcs⟩; have hbb3 : BB w1 w3 := BB.step hbb2 hb3; have HCS := Lib.hid hcs; clear hb3 hcs)
      | (go_at_call 18; refine (gfield_any g P Q G H sz w1.drew HR1.out.drew).mono ?_; rintro e w2 ⟨rq, rfl, hq, hb2⟩; have hbb2 : BB w1 w2 := BB.step (BB.drew (BB.refl w1)) hb2; have HQ2 := Lib.hid hq; clear hq hb2))
  have HE3 := Lib.hid (HE1.out.below hbb3)
  have HR3 := Lib.hid (HR1.out.below hbb3)
  have HY3 := Lib.hid (HY1.out.below hbb3)
  obtain ⟨_, _, _, c1, f1, _⟩ := HE3.out.box 1 rfl
  have hcs := HCS.out
  clear HR1 HP1 HY1 gF HNF HQ2 hbb2 hbb3 HCS
  rcases hcs with ⟨h0, rfl, rfl⟩ | ⟨h0, h1, rfl, rfl⟩ | ⟨h0, h1, h2, rfl, rfl⟩ | ⟨h0, h1, h2, rfl, hrow⟩
  · have HC := Lib.hid h0
    clear h0
    go_wp2_with fail
    exact (HE3.out.set 1 rfl (natS_nil w3) (c := 0)).retE HS.out (i := 1) rfl rfl rfl rfl HC.out (fun h a l hn => .inl ⟨h, rfl, hn⟩)
  · have HC := Lib.hid (And.intro h0 h1)
    clear h0 h1
    go_wp2_with fail
    exact (HE3.out.set 1 rfl (natS_nil w3) (c := 0)).retE HS.out (i := 1) rfl rfl rfl rfl HC.out (fun h a l hn => .inr (.inl ⟨h.1, h.2, rfl, hn⟩))
  · have HC := Lib.hid (And.intro h0 (And.intro h1 h2))
    clear h0 h1 h2
    go_wp2_with fail
    exact (HE3.out.set 1 rfl (natS_nil w3) (c := 0)).retE HS.out (i := 1) rfl rfl rfl rfl HC.out (fun h a l hn => .inr (.inr (.inl ⟨h.1, h.2.1, h.2.2, rfl, hn⟩)))
  · have HC := Lib.hid (And.intro h0 (And.intro h1 h2))
    obtain ⟨wa, wc', rfl, hw1, _, hat, _⟩ := hrow.form
    have HW := Lib.hid hat
    have hwl : (wts Q xs x).length = lenb := by rw [wts_length]; exact h1
    have hlen : xs.length = lenb := h1
    have HWL := Lib.hid hwl
    have HLEN := Lib.hid hlen
    have hlc : (lenb : Int) ≤ 10000 := by have := HL.out; omega
    rw [hwl]
    rw [hlen]
    clear h0 h1 h2 hrow hat hwl hw1 hlen
    go_wp2_with fail
    refine (new_s 1 w3 (by decide)).mono ?_
    rintro e w4 ⟨oa, ol, oc, rfl, ho, hb4⟩
    have HE4 := Lib.hid (HE3.out.below hb4)
    have HR4 := Lib.hid (HR3.out.below hb4)
    have HY4 := Lib.hid (HY3.out.below hb4)
    have HW4 := Lib.hid (HW.out.below hb4)
    have HO4 := Lib.hid ho
    clear hb4 ho HE3 HR3 HY3 HW c1 f1
    go_wp2_with fail
    refine (weighed_exp g P Q G H sz b lenb capb ys wa wc' (wts Q xs x) oa ol oc w4 HR4.out HY4.out HL'.out hcc' hlc HW4.out HWL.out HO4.out).mono ?_
    rintro e w5 ⟨za, zl, zc, rfl, hz, hb5⟩
    have HE5 := Lib.hid (HE4.out.below hb5)
    have HZ5 := Lib.hid hz
    clear hz hb5
    obtain ⟨_, _, _, c1, f1, _⟩ := HE5.out.box 1 rfl
    go_wp2_with fail
    exact (HE5.out.set 1 rfl HZ5.out (c := zc)).retE HS.out (i := 1) rfl rfl rfl rfl HC.out (fun h a l hn => .inr (.inr (.inr ⟨h.1, h.2.1, h.2.2, rfl, (by rw [HLEN.out]; exact hn)⟩)))
end Go.Proofs.Ythefednendgclaa
