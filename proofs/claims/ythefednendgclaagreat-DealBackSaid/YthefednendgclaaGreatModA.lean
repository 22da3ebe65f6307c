import Derived.Test.YthefednendgclaaGreatNatGcd
import Derived.Test.YthefednendgclaaGreatPlainA
set_option linter.unusedVariables false
set_option linter.unusedSimpArgs false
/-
  The ring's own functions: New, Modulus, Of, Add, Sub, Mul.
-/
namespace Go.Proofs.YthefednendgclaaGreat
open Go Go.RowKit Sac

/-- A number of no more than a thousand words. -/
def NatS (w : World) (a : Option Addr) (len n : Nat) : Prop := NatAt w a len n ∧ (len : Int) ≤ 1000
theorem NatS.below {w w' : World} {a : Option Addr} {len n : Nat} (h : NatS w a len n) (hb : Below w.heap.size w w') : NatS w' a len n := ⟨h.1.below hb, h.2⟩
theorem NatS.drew {w : World} {a : Option Addr} {len n : Nat} (h : NatS w a len n) : NatS w.drew a len n := ⟨h.1.drew, h.2⟩

/-- The block r is the ring of m. -/
def RingAt (w : World) (r m : Nat) : Prop := ∃ a len cap, Blk w r 121 [.slice a len cap, .int .u64 ((if m < 4294967296 then m else 0 : Nat) : Int)] ∧ NatS w a len m ∧ 2 ≤ m
theorem RingAt.below {w w' : World} {r m : Nat} (h : RingAt w r m) (hb : Below w.heap.size w w') : RingAt w' r m := by
  obtain ⟨a, len, cap, h1, h2, h3⟩ := h
  exact ⟨a, len, cap, h1.below hb h1.lt, h2.below hb, h3⟩
theorem RingAt.drew {w : World} {r m : Nat} (h : RingAt w r m) : RingAt w.drew r m := h
theorem BX.drew {w wr : World} {s : Nat} {A B R : Value} (h : BX w wr s A B R) : BX w wr.drew s A B R := ⟨⟨h.1.os, h.1.tape, h.1.output, h.1.size, h.1.block⟩, h.2.1, h.2.2.1, h.2.2.2⟩
theorem RingAt.two {w : World} {r m : Nat} (h : RingAt w r m) : 2 ≤ m := by obtain ⟨_, _, _, _, _, h3⟩ := h; exact h3
theorem RingAt.lt {w : World} {r m : Nat} (h : RingAt w r m) : r < w.heap.size := by obtain ⟨_, _, _, h1, _, _⟩ := h; exact h1.lt

/-- A function that hands back a number of the ring. -/
def RetS (z : Nat) (w : World) (e : Ending) (w' : World) : Prop := ∃ a len cap, e = .returned (.agg #[.slice a len cap]) ∧ NatS w' a len z ∧ Below w.heap.size w w'

set_option maxRecDepth 100000 in
set_option maxHeartbeats 1000000 in
theorem modulus_any (r m : Nat) (w : World) (h : RingAt w r m) :
    Calls Tryz.prog 44 #[.pointer (some ⟨r, 0, none⟩)] w (RetS m w) := by
  obtain ⟨a, len, cap, hB, hN, h2⟩ := h
  have HB := Lib.hid hB
  have HN := Lib.hid hN
  have c0 := hB.cell 0
  simp only [List.getElem?_cons_zero] at c0
  have c0' : ∀ o, (w.alloc o).cell? ⟨r, 0, none⟩ = some (.slice a len cap) := fun o => (hB.alloc o).cell 0
  clear hB hN
  go_enter Tryz.func44, Tryz.ntmps44
  go_wp2_with fail
  have hb : Below w.heap.size w (w.alloc (Obj.cells #[Value.slice a len cap] 36)) := (Below.refl _ w).alloc (Nat.le_refl _) _
  exact ret_nat rfl rfl (Blk.new w _ _) ⟨a, len, cap, rfl, HN.out.below hb, hb⟩

/-- What is known of two boxes. -/
structure BX2 (w wr : World) (s : Nat) (A R : Value) : Prop where
  bel : Below s w wr
  a : Blk wr s 36 [A]
  r : Blk wr (s + 1) 36 [R]
theorem BX2.make (w : World) (A R : Value) : BX2 w ((w.alloc (Obj.cells #[A] 36)).alloc (Obj.cells #[R] 36)) w.heap.size A R :=
  ⟨((Below.refl _ w).alloc (Nat.le_refl _) _).alloc (by simp) _, (Blk.new w [A] 36).alloc _, Blk.new' (w.alloc (Obj.cells #[A] 36)) [R] 36 (w.heap.size + 1) (by simp)⟩
theorem BX2.below {w wr w' : World} {s : Nat} {A R : Value} (h : BX2 w wr s A R) (hb : Below wr.heap.size wr w') : BX2 w w' s A R :=
  ⟨h.bel.trans (hb.mono (Nat.le_of_lt h.a.lt)), h.a.below hb h.a.lt, h.r.below hb h.r.lt⟩
theorem BX2.drew {w wr : World} {s : Nat} {A R : Value} (h : BX2 w wr s A R) : BX2 w wr.drew s A R := ⟨⟨h.bel.os, h.bel.tape, h.bel.output, h.bel.size, h.bel.block⟩, h.a, h.r⟩

/-- Two new boxes with two numbers. -/
structure TwoF (w3 w5 : World) (n1 n2 Q R : Nat) (ra : Option Addr) (rl rc : Nat) (sa : Option Addr) (sl sc : Nat) : Prop where
  bb : BB w3 w5
  q : Blk w5 Q 36 [.slice ra rl rc]
  r : Blk w5 R 36 [.slice sa sl sc]
  nq : NatAt w5 ra rl n1
  nr : NatAt w5 sa sl n2
  gq : w3.heap.size ≤ Q
  gr : w3.heap.size ≤ R
  ne : Q ≠ R
theorem TwoF.c1 {w3 w4 : World} {n1 n2 : Nat} {ra : Option Addr} {rl rc : Nat} {sa : Option Addr} {sl sc : Nat} (h : NatAt w4 ra rl n1 ∧ NatAt w4 sa sl n2 ∧ Below w3.drew.heap.size w3.drew w4) :
    TwoF w3 ((w4.alloc (Obj.cells #[Value.slice ra rl rc] 36)).alloc (Obj.cells #[Value.slice sa sl sc] 36)) n1 n2 w4.heap.size (w4.heap.size + 1) ra rl rc sa sl sc := by
  obtain ⟨h1, h2, h3⟩ := h
  have hb : BB w4 ((w4.alloc (Obj.cells #[Value.slice ra rl rc] 36)).alloc (Obj.cells #[Value.slice sa sl sc] 36)) := BB.alloc (BB.alloc (BB.refl _))
  have hs : w3.heap.size ≤ w4.heap.size := h3.size
  exact ⟨BB.step (BB.step (BB.drew (BB.refl _)) h3) hb, (Blk.new w4 [Value.slice ra rl rc] 36).alloc _, Blk.new' _ [Value.slice sa sl sc] 36 _ (by simp), h1.below hb, h2.below hb, hs, by omega, by omega⟩
theorem TwoF.c2 {w3 w4 : World} {n1 n2 : Nat} {ra : Option Addr} {rl rc : Nat} {sa : Option Addr} {sl sc : Nat} (h : NatAt w4 ra rl n1 ∧ NatAt w4 sa sl n2 ∧ Below w3.drew.heap.size w3.drew w4) :
    TwoF w3 ((w4.alloc (Obj.cells #[Value.slice sa sl sc] 36)).alloc (Obj.cells #[Value.slice ra rl rc] 36)) n1 n2 (w4.heap.size + 1) w4.heap.size ra rl rc sa sl sc := by
  obtain ⟨h1, h2, h3⟩ := h
  have hb : BB w4 ((w4.alloc (Obj.cells #[Value.slice sa sl sc] 36)).alloc (Obj.cells #[Value.slice ra rl rc] 36)) := BB.alloc (BB.alloc (BB.refl _))
  have hs : w3.heap.size ≤ w4.heap.size := h3.size
  exact ⟨BB.step (BB.step (BB.drew (BB.refl _)) h3) hb, Blk.new' _ [Value.slice ra rl rc] 36 _ (by simp), (Blk.new w4 [Value.slice sa sl sc] 36).alloc _, h1.below hb, h2.below hb, by omega, hs, by omega⟩
theorem TwoF.c3 {w3 w4 : World} {n1 n2 : Nat} {ra : Option Addr} {rl rc : Nat} {sa : Option Addr} {sl sc : Nat} {v : Value} (h : NatAt w4 ra rl n1 ∧ NatAt w4 sa sl n2 ∧ Below (w3.alloc (Obj.cells #[v] 36)).drew.heap.size (w3.alloc (Obj.cells #[v] 36)).drew w4) :
    TwoF w3 ((w4.setCell ⟨w3.heap.size, 0, none⟩ (Value.slice ra rl rc)).alloc (Obj.cells #[Value.slice sa sl sc] 36)) n1 n2 w3.heap.size w4.heap.size ra rl rc sa sl sc := by
  obtain ⟨h1, h2, h3⟩ := h
  obtain ⟨k1, _, _⟩ := k_one h3
  have hb : BB (w4.setCell ⟨w3.heap.size, 0, none⟩ (Value.slice ra rl rc)) ((w4.setCell ⟨w3.heap.size, 0, none⟩ (Value.slice ra rl rc)).alloc (Obj.cells #[Value.slice sa sl sc] 36)) := BB.alloc (BB.refl _)
  have hs := k1.lt
  exact ⟨BB.alloc (BB.setCell (BB.step (BB.drew (BB.alloc (BB.refl _))) h3) (Nat.le_refl _)), (k1.set 0 _).alloc _, Blk.new' _ [Value.slice sa sl sc] 36 _ (by simp [World.setCell]), (h1.setCell k1 (by decide) 0 _).below hb, (h2.setCell k1 (by decide) 0 _).below hb, Nat.le_refl _, by omega, by omega⟩
theorem TwoF.c5 {w3 w4 : World} {n1 n2 : Nat} {ra : Option Addr} {rl rc : Nat} {sa : Option Addr} {sl sc : Nat} {v : Value} (h : NatAt w4 ra rl n1 ∧ NatAt w4 sa sl n2 ∧ Below (w3.alloc (Obj.cells #[v] 36)).drew.heap.size (w3.alloc (Obj.cells #[v] 36)).drew w4) :
    TwoF w3 ((w4.setCell ⟨w3.heap.size, 0, none⟩ (Value.slice sa sl sc)).alloc (Obj.cells #[Value.slice ra rl rc] 36)) n1 n2 w4.heap.size w3.heap.size ra rl rc sa sl sc := by
  obtain ⟨h1, h2, h3⟩ := h
  obtain ⟨k1, _, _⟩ := k_one h3
  have hb : BB (w4.setCell ⟨w3.heap.size, 0, none⟩ (Value.slice sa sl sc)) ((w4.setCell ⟨w3.heap.size, 0, none⟩ (Value.slice sa sl sc)).alloc (Obj.cells #[Value.slice ra rl rc] 36)) := BB.alloc (BB.refl _)
  have hs := k1.lt
  exact ⟨BB.alloc (BB.setCell (BB.step (BB.drew (BB.alloc (BB.refl _))) h3) (Nat.le_refl _)), Blk.new' _ [Value.slice ra rl rc] 36 _ (by simp [World.setCell]), (k1.set 0 _).alloc _, (h1.setCell k1 (by decide) 0 _).below hb, (h2.setCell k1 (by decide) 0 _).below hb, by omega, Nat.le_refl _, by omega⟩
theorem TwoF.c4 {w3 w4 : World} {n1 n2 : Nat} {ra : Option Addr} {rl rc : Nat} {sa : Option Addr} {sl sc : Nat} {v v' : Value} (h : NatAt w4 ra rl n1 ∧ NatAt w4 sa sl n2 ∧ Below ((w3.alloc (Obj.cells #[v] 36)).alloc (Obj.cells #[v'] 36)).drew.heap.size ((w3.alloc (Obj.cells #[v] 36)).alloc (Obj.cells #[v'] 36)).drew w4) :
    TwoF w3 ((w4.setCell ⟨w3.heap.size, 0, none⟩ (Value.slice ra rl rc)).setCell ⟨w3.heap.size + 1, 0, none⟩ (Value.slice sa sl sc)) n1 n2 w3.heap.size (w3.heap.size + 1) ra rl rc sa sl sc := by
  obtain ⟨h1, h2, h3⟩ := h
  obtain ⟨k1, k2, _⟩ := k_two h3
  have q2 := k2.other ⟨w3.heap.size, 0, none⟩ (Value.slice ra rl rc) (by show w3.heap.size + 1 ≠ w3.heap.size; omega)
  exact ⟨BB.setCell (BB.setCell (BB.step (BB.drew (BB.alloc (BB.alloc (BB.refl _)))) h3) (Nat.le_refl _)) (Nat.le_succ _), (k1.set 0 _).other _ _ (by show w3.heap.size ≠ w3.heap.size + 1; omega), q2.set 0 _, (h1.setCell k1 (by decide) 0 _).setCell q2 (by decide) 0 _, (h2.setCell k1 (by decide) 0 _).setCell q2 (by decide) 0 _, Nat.le_refl _, Nat.le_succ _, by omega⟩
theorem TwoF.c6 {w3 w4 : World} {n1 n2 : Nat} {ra : Option Addr} {rl rc : Nat} {sa : Option Addr} {sl sc : Nat} {v v' : Value} (h : NatAt w4 ra rl n1 ∧ NatAt w4 sa sl n2 ∧ Below ((w3.alloc (Obj.cells #[v] 36)).alloc (Obj.cells #[v'] 36)).drew.heap.size ((w3.alloc (Obj.cells #[v] 36)).alloc (Obj.cells #[v'] 36)).drew w4) :
    TwoF w3 ((w4.setCell ⟨w3.heap.size + 1, 0, none⟩ (Value.slice ra rl rc)).setCell ⟨w3.heap.size, 0, none⟩ (Value.slice sa sl sc)) n1 n2 (w3.heap.size + 1) w3.heap.size ra rl rc sa sl sc := by
  obtain ⟨h1, h2, h3⟩ := h
  obtain ⟨k1, k2, _⟩ := k_two h3
  have q1 := k1.other ⟨w3.heap.size + 1, 0, none⟩ (Value.slice ra rl rc) (by show w3.heap.size ≠ w3.heap.size + 1; omega)
  exact ⟨BB.setCell (BB.setCell (BB.step (BB.drew (BB.alloc (BB.alloc (BB.refl _)))) h3) (Nat.le_succ _)) (Nat.le_refl _), (k2.set 0 _).other _ _ (by show w3.heap.size + 1 ≠ w3.heap.size; omega), q1.set 0 _, (h1.setCell k2 (by decide) 0 _).setCell q1 (by decide) 0 _, (h2.setCell k2 (by decide) 0 _).setCell q1 (by decide) 0 _, Nat.le_succ _, Nat.le_refl _, by omega⟩

set_option maxRecDepth 100000 in
set_option maxHeartbeats 4000000 in
theorem of_any (r m : Nat) (a : Option Addr) (len cap n : Nat) (w : World) (h : RingAt w r m) (hn : NatAt w a len n) (hlen : (len : Int) ≤ 10000) :
    Calls Tryz.prog 25 #[.pointer (some ⟨r, 0, none⟩), .agg #[.slice a len cap]] w (RetS (n % m) w) := by
  obtain ⟨ma, ml, mc, hB, hM, h2⟩ := h
  have HM := Lib.hid hM
  have HN := Lib.hid hn
  have HB := Lib.hid hB
  have hml : (ml : Int) ≤ 1000 := hM.2
  clear hB hM hn
  go_enter Tryz.func25, Tryz.ntmps25
  go_wp2_with fail
  rename_i Kc hKc
  obtain ⟨s, hs⟩ : ∃ s, s = w.heap.size := ⟨_, rfl⟩
  obtain ⟨w3, hw3⟩ : ∃ w3, ((w.alloc (Obj.cells #[Value.slice a len cap] 36)).alloc (Obj.cells #[Value.slice none 0 0] 36)) = w3 := ⟨_, rfl⟩
  have HX3 : Hid (BX2 w w3 s (.slice a len cap) (.slice none 0 0)) := by rw [← hw3, hs]; exact BX2.make w _ _
  rw [hw3, ← hs]
  have HS := Lib.hid hs
  have HN3 := Lib.hid (HN.out.below (hs ▸ HX3.out.bel))
  have HM3 := Lib.hid (HM.out.below (hs ▸ HX3.out.bel))
  have HR3 := Lib.hid (HB.out.below HX3.out.bel (hs ▸ HB.out.lt))
  clear hw3 hs
  have G1 : ∀ w', BB w3 w' → w'.cell? ⟨s, 0, none⟩ = some (.slice a len cap) := fun w' h => (h.cell HX3.out.a.lt).trans (HX3.out.a.cell 0)
  have G2 : ∀ w', BB w3 w' → w'.cell? ⟨r, 0, none⟩ = some (.slice ma ml mc) := fun w' h => (h.cell HR3.out.lt).trans (HR3.out.cell 0)
  have CC : ∀ w', BB w3 w' → Calls Tryz.prog 67 #[.agg #[.slice a len cap], .agg #[.slice ma ml mc]] w' fun e w'' => ∃ ra rl rc sa sl sc, e = .returned (.tuple #[.agg #[.slice ra rl rc], .agg #[.slice sa sl sc], .int .i64 0]) ∧
      NatAt w'' ra rl (n / m) ∧ NatAt w'' sa sl (n % m) ∧ Below w'.heap.size w' w'' := fun w' h => by
    have := div_any a ma len cap ml mc n m w' (HN3.out.below h) (HM3.out.1.below h) hlen (by omega)
    unfold DivPost at this
    rwa [if_neg (by omega), if_neg (by omega)] at this
  have hk : ∀ (Q R : Nat) (w5 : World) (ra : Option Addr) (rl rc : Nat) (sa : Option Addr) (sl sc : Nat), TwoF w3 w5 (n / m) (n % m) Q R ra rl rc sa sl sc →
      Kc { tmps := #[.pointer (some ⟨r, 0, none⟩), .agg #[.slice a len cap], undef, .pointer (some ⟨s, 0, none⟩), .pointer (some ⟨s + 1, 0, none⟩), .pointer (some ⟨Q, 0, none⟩), .pointer (some ⟨R, 0, none⟩), .int .i64 0, .pointer (some ⟨r, 0, none⟩), .bool false, undef,
        .tuple #[.agg #[.slice ra rl rc], .agg #[.slice sa sl sc], .int .i64 0], .agg #[.slice a len cap], .pointer (some ⟨r, 0, none⟩), .pointer (some ⟨r, 0, none⟩), .pointer (some ⟨r, 0, none⟩), .agg #[.slice ma ml mc],
        .tuple #[.agg #[.slice ra rl rc], .agg #[.slice sa sl sc], .int .i64 0], .agg #[.slice ra rl rc], .agg #[.slice sa sl sc], .int .i64 0, undef], defers := [] } w5 := by
    intro Q R w5 ra rl rc sa sl sc hT
    refine hKc _ _ ?_
    have HX5 := Lib.hid (HX3.out.below hT.bb)
    have HM5 := Lib.hid (HM3.out.below hT.bb)
    have cr5 := hT.r.cell 0
    have cs5 := HX5.out.r.cell 0
    have fs5 := HX5.out.r.frozen 0
    have HT := Lib.hid hT
    simp only [List.getElem?_cons_zero] at cr5 cs5
    clear hT G1 G2 CC hKc
    go_wp2_with fail
    refine ret_nat rfl rfl (HX5.out.r.set 0 _) (⟨sa, sl, sc, rfl, ⟨HT.out.nr.setCell HX5.out.r (by decide) 0 _, ?_⟩, ?_⟩ : RetS (n % m) w _ _)
    · have := HT.out.nr.len_le HM5.out.1 (Nat.le_of_lt (Nat.mod_lt _ (by omega))); have := HM5.out.2; omega
    · rw [← HS.out]; exact HX5.out.bel.setCell (p := ⟨s + 1, 0, none⟩) (by show s ≤ s + 1; omega) _
  clear hKc
  go_region_held3 (fun w' => BB w3 w') (repeat' (first | assumption | exact BB.refl _ | apply BB.drew | apply BB.alloc | (refine BB.setCell ?_ (by first | exact Nat.le_refl _ | (simp; done) | (simp; omega) | omega)) | (refine BB.step ?_ (by assumption))))
    (first
      | (go_at_call 67; refine (CC w3.drew (by repeat' (first | exact BB.refl _ | apply BB.drew | apply BB.alloc))).mono ?_; rintro e w4 ⟨ra, rl, rc, sa, sl, sc, rfl, hq, hr, hb4⟩; have T0 := And.intro hq (And.intro hr hb4); have g4 : w3.heap.size ≤ w4.heap.size := hb4.size)
      | (go_at_call 67; refine (CC (w3.alloc (Obj.cells #[Value.slice none 0 0] 36)).drew (by repeat' (first | exact BB.refl _ | apply BB.drew | apply BB.alloc))).mono ?_; rintro e w4 ⟨ra, rl, rc, sa, sl, sc, rfl, hq, hr, hb4⟩; have T1 := And.intro hq (And.intro hr hb4); obtain ⟨k1, ⟨k2, k3⟩, k4, k5⟩ := k_one (w := w3) (v := .slice none 0 0) (e := 36) hb4; have g4 : w3.heap.size ≤ w4.heap.size := Nat.le_of_lt k1.lt; have k6 := k1.lt; have k7 : w4.heap.size ≠ w3.heap.size := Nat.ne_of_gt k6; have k8 : w3.heap.size ≠ w4.heap.size := Nat.ne_of_lt k6)
      | (go_at_call 67; refine (CC ((w3.alloc (Obj.cells #[Value.slice none 0 0] 36)).alloc (Obj.cells #[Value.slice none 0 0] 36)).drew (by repeat' (first | exact BB.refl _ | apply BB.drew | apply BB.alloc))).mono ?_; rintro e w4 ⟨ra, rl, rc, sa, sl, sc, rfl, hq, hr, hb4⟩; have T2 := And.intro hq (And.intro hr hb4); obtain ⟨k1, k2, k3, k4, k5, k6⟩ := k_two (w := w3) (v := .slice none 0 0) (e := 36) (v' := .slice none 0 0) (e' := 36) hb4; have g4 : w3.heap.size ≤ w4.heap.size := Nat.le_of_lt k1.lt))
  all_goals first
    | exact hk _ _ _ _ _ _ _ _ _ (TwoF.c1 T0)
    | exact hk _ _ _ _ _ _ _ _ _ (TwoF.c2 T0)
    | exact hk _ _ _ _ _ _ _ _ _ (TwoF.c3 T1)
    | exact hk _ _ _ _ _ _ _ _ _ (TwoF.c4 T2)
    | exact hk _ _ _ _ _ _ _ _ _ (TwoF.c5 T1)
    | exact hk _ _ _ _ _ _ _ _ _ (TwoF.c6 T2)

end Go.Proofs.YthefednendgclaaGreat
/-
  The ring's own functions: New.
-/
namespace Go.Proofs.YthefednendgclaaGreat
open Go Go.RowKit Sac

set_option maxRecDepth 100000 in
set_option maxHeartbeats 1000000 in
theorem modnew_any (a : Option Addr) (len cap m : Nat) (w : World) (hm : NatS w a len m) (h2 : 2 ≤ m) :
    Calls Tryz.prog 88 #[.agg #[.slice a len cap]] w fun e w' => ∃ r, e = .returned (.tuple #[.pointer (some ⟨r, 0, none⟩), .int .i64 0]) ∧ RingAt w' r m ∧ Below w.heap.size w w' := by
  have HN := Lib.hid hm
  have hml := hm.2
  clear hm
  go_enter Tryz.func88, Tryz.ntmps88
  go_wp2_with fail
  obtain ⟨s, hs⟩ : ∃ s, s = w.heap.size := ⟨_, rfl⟩
  obtain ⟨w3, hw3⟩ : ∃ w3, (w.alloc (Obj.cells #[Value.slice a len cap] 36)) = w3 := ⟨_, rfl⟩
  have HB3 : Hid (Below s w w3) := by rw [← hw3, hs]; exact (Below.refl _ w).alloc (Nat.le_refl _) _
  have HX3 : Hid (Blk w3 s 36 [.slice a len cap]) := by rw [← hw3, hs]; exact Blk.new w _ _
  rw [hw3, ← hs]
  have HS := Lib.hid hs
  have HN3 := Lib.hid (HN.out.below (hs ▸ HB3.out))
  clear hw3 hs
  have G1 : ∀ w', BB w3 w' → w'.cell? ⟨s, 0, none⟩ = some (.slice a len cap) := fun w' h => (h.cell HX3.out.lt).trans (HX3.out.cell 0)
  have hcd : decide (cmpNat m 2 < 0) = false := by
    rw [decide_eq_false_iff_not]; unfold cmpNat; rw [if_neg (by omega)]; split <;> decide
  go_region_held3 (fun w' => BB w3 w') (repeat' (first | assumption | exact BB.refl _ | apply BB.drew | apply BB.alloc | (refine BB.step ?_ (by assumption))))
    (first
      | (go_at_call 13; refine (new_any 2 _ (by decide)).mono ?_; rintro e w4 ⟨ta, tl, tc, rfl, hT, hb4⟩; have hbb4 := hb4; have HT := Lib.hid hT; clear hT)
      | (go_at_call 31; have hl2 := HT.out.fit (k := 1) (by decide); refine (cmp_any a ta len cap tl tc m 2 _ (HN3.out.1.below (by assumption)) HT.out (by omega) (by omega)).mono ?_; rintro e w5 ⟨rfl, hb5⟩; have hbb5 := hb5; clear hl2))
  have HB5 : Hid (BB w3 w5) := BB.step (BB.step (BB.drew (BB.refl _)) hbb4) hbb5
  have HN5 := Lib.hid (HN3.out.below HB5.out)
  have c50 := G1 w5 HB5.out
  have c5 : ∀ o, (w5.alloc o).cell? ⟨s, 0, none⟩ = some (.slice a len cap) := fun o => G1 _ (BB.alloc HB5.out)
  clear G1 hbb4 hbb5 hcd
  go_wp2_with fail
  obtain ⟨r, hr⟩ : ∃ r, r = w5.heap.size := ⟨_, rfl⟩
  obtain ⟨w6, hw6⟩ : ∃ w6, (w5.alloc (Obj.cells #[Value.slice a len cap, Value.int IntKind.u64 0] 121)) = w6 := ⟨_, rfl⟩
  have HB6 : Hid (BB w3 w6) := hw6 ▸ BB.alloc HB5.out
  have HR6 : Hid (Blk w6 r 121 [.slice a len cap, .int .u64 0]) := hw6 ▸ Blk.new' w5 [.slice a len cap, .int .u64 0] 121 r hr
  have HN6 := Lib.hid (HN3.out.below HB6.out)
  rw [hw6, ← hr]
  have hsr : w3.heap.size ≤ r := hr ▸ HB5.out.size
  clear hw6 hr c50 c5
  refine (uint_any a len cap m w6 HN6.out.1 (by omega)).mono ?_
  rintro e w7 ⟨hb7, hlo, hhi⟩
  have HB7 := Lib.hid (BB.step HB6.out hb7)
  have HR7 := Lib.hid (HR6.out.below hb7 HR6.out.lt)
  have HN7 := Lib.hid (HN6.out.below hb7)
  clear hb7
  have c7 := HR7.out.cell 1
  have f7 := HR7.out.frozen 1
  simp only [List.getElem?_cons_succ, List.getElem?_cons_zero] at c7
  have hfin : ∀ w8, Blk w8 r 121 [.slice a len cap, .int .u64 ((if m < 4294967296 then m else 0 : Nat) : Int)] → NatS w8 a len m → Below s w w8 → ∃ r', Ending.returned (.tuple #[.pointer (some ⟨r, 0, none⟩), .int .i64 0]) = Ending.returned (.tuple #[.pointer (some ⟨r', 0, none⟩), .int .i64 0]) ∧ RingAt w8 r' m ∧ Below w.heap.size w w8 :=
    fun w8 h1 h2' h3 => ⟨r, rfl, ⟨a, len, cap, h1, h2', h2⟩, HS.out ▸ h3⟩
  have HBel7 : Hid (Below s w w7) := HB3.out.trans (HB7.out.mono (by have := HX3.out.lt; omega))
  by_cases h32 : m < 4294967296
  · obtain rfl := hlo (by omega)
    clear hlo hhi
    have h32i : (m : Int) < 4294967296 := by omega
    go_wp2_with fail
    refine bodyPost_ret (results_tmp2 rfl _ _ _) rfl ?_
    have q := HR7.out.set 1 (Value.int .u64 (m : Int))
    refine hfin _ ?_ ⟨HN7.out.1.setCell HR7.out (by decide) 1 _, HN7.out.2⟩ (HBel7.out.setCell (p := ⟨r, 1, none⟩) (by show s ≤ r; have := HX3.out.lt; omega) _)
    rw [if_pos h32]
    exact q
  · by_cases h64 : m < 18446744073709551616
    · obtain rfl := hlo (by omega)
      clear hlo hhi
      have h32d : decide (m < 4294967296) = false := by rw [decide_eq_false_iff_not]; exact h32
      have h32e : decide ((m : Int) < 4294967296) = false := by rw [decide_eq_false_iff_not]; omega
      go_wp2_with fail
      refine bodyPost_ret (results_tmp2 rfl _ _ _) rfl ?_
      refine hfin _ ?_ HN7.out HBel7.out
      rw [if_neg h32]
      exact HR7.out
    · obtain rfl := hhi (by omega)
      clear hlo hhi
      go_wp2_with fail
      refine bodyPost_ret (results_tmp2 rfl _ _ _) rfl ?_
      refine hfin _ ?_ HN7.out HBel7.out
      rw [if_neg h32]
      exact HR7.out

end Go.Proofs.YthefednendgclaaGreat
