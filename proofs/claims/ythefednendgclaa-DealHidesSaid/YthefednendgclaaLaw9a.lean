import Derived.Test.YthefednendgclaaLaw9
import Derived.Deep.MidRow
set_option linter.unusedVariables false
set_option linter.unusedSimpArgs false
/-
  The law's numbers: what the third group's walk needs.
-/
namespace Go.Proofs.Ythefednendgclaa
open Go Go.RowKit Sac NT

set_option maxRecDepth 100000 in
set_option maxHeartbeats 4000000 in
theorem big_any (h l : Nat) (w : World) (hh : h < 18446744073709551616) (hl : l < 18446744073709551616) :
    Calls Try.prog 125 #[.int .u64 (h : Int), .int .u64 (l : Int)] w (RetS (h * 4294967296 + l) w) := by
  have HH := Lib.hid hh
  have HL := Lib.hid hl
  have hm1 : h * 4294967296 < W ^ 1000 := @lt_wpow _ 3 1000 (Nat.lt_of_lt_of_le (m := 79228162514264337593543950336) (by omega) (by decide)) (by decide)
  have hm2 : h * 4294967296 + l < W ^ 1000 := by
    have h1 : h * 4294967296 + l < h * 4294967296 + 18446744073709551616 := Nat.add_lt_add_left hl _
    have h2 : h * 4294967296 + 18446744073709551616 ≤ 18446744073709551616 * 4294967296 + 18446744073709551616 := Nat.add_le_add_right (Nat.mul_le_mul_right _ (Nat.le_of_lt hh)) _
    exact @lt_wpow _ 4 1000 (Nat.lt_of_lt_of_le (Nat.lt_of_lt_of_le h1 h2) (by decide)) (by decide)
  have HM1 := Lib.hid hm1
  have HM2 := Lib.hid hm2
  obtain ⟨s, hs⟩ : ∃ s, s = w.heap.size := ⟨_, rfl⟩
  have HE0 := Lib.hid ((NE.init w s hs).alloc s hs (natS_nil w) (c := 0))
  have HS := Lib.hid hs
  clear hh hl hm1 hm2
  go_enter Try.func125, Try.ntmps125
  go_wp2_with fail
  rw [← hs]
  clear hs
  generalize w.alloc (Obj.cells #[Value.slice none 0 0] 33) = w1 at HE0 ⊢
  refine (new_s h w1 HH.out).mono ?_
  rintro e w2 ⟨aa, al, ac, rfl, ha, hb2⟩
  have HE2 := Lib.hid (HE0.out.below hb2)
  have HA2 := Lib.hid ha
  clear ha hb2
  go_wp2_with fail
  refine (new_s 4294967296 w2 (by decide)).mono ?_
  rintro e w3 ⟨ba, bl, bc, rfl, hb, hb3⟩
  have HE3 := Lib.hid (HE2.out.below hb3)
  have HA3 := Lib.hid (HA2.out.below hb3)
  have HB3 := Lib.hid hb
  clear hb hb3
  go_wp2_with fail
  refine (mul_s aa ba al ac bl bc h 4294967296 w3 HA3.out HB3.out HM1.out).mono ?_
  rintro e w4 ⟨ca, cl, cc, rfl, hc, hb4⟩
  have HE4 := Lib.hid (HE3.out.below hb4)
  have HC4 := Lib.hid hc
  clear hc hb4
  go_wp2_with fail
  refine (new_s l w4 HL.out).mono ?_
  rintro e w5 ⟨da, dl, dc, rfl, hd, hb5⟩
  have HE5 := Lib.hid (HE4.out.below hb5)
  have HC5 := Lib.hid (HC4.out.below hb5)
  have HD5 := Lib.hid hd
  clear hd hb5
  go_wp2_with fail
  refine (add_s ca da cl cc dl dc _ l w5 HC5.out HD5.out HM2.out).mono ?_
  rintro e w6 ⟨xa, xl, xc, rfl, hx, hb6⟩
  have HE6 := Lib.hid (HE5.out.below hb6)
  have HX6 := Lib.hid hx
  obtain ⟨_, _, _, c0, f0, _⟩ := HE6.out.box 0 rfl
  clear hx hb6
  go_wp2_with fail
  exact (HE6.out.set 0 rfl HX6.out (c := xc)).ret HS.out (i := 0) rfl rfl rfl

/-- Of the old blocks only s may have changed, which still is a row of parameters. -/
def SB (s : Nat) (w w' : World) : Prop := Only (· = s) w w' ∧ ∃ a b c d : Value, Blk w' s 123 [a, b, c, d]
theorem SB.drew {s : Nat} {w w' : World} (h : SB s w w') : SB s w w'.drew := ⟨h.1.drew, h.2⟩
theorem SB.alloc {s : Nat} {w w' : World} (h : SB s w w') {o : Obj} : SB s w (w'.alloc o) := by
  obtain ⟨h1, a, b, c, d, h2⟩ := h
  exact ⟨h1.alloc o, a, b, c, d, h2.alloc o⟩
theorem SB.step {s : Nat} {w w' w'' : World} (h : SB s w w') (hb : Below w'.heap.size w' w'') : SB s w w'' := by
  obtain ⟨h1, a, b, c, d, h2⟩ := h
  exact ⟨h1.trans' (Only.below hb (F := fun _ => False)) (fun i hf _ => hf.elim), a, b, c, d, h2.below hb h2.lt⟩
theorem SB.store4 {s : Nat} {w w' : World} {a b c d : Value} (h : SB s w w') : SB s w ((((w'.setCell ⟨s, 0, none⟩ a).setCell ⟨s, 1, none⟩ b).setCell ⟨s, 2, none⟩ c).setCell ⟨s, 3, none⟩ d) := by
  obtain ⟨h1, a0, b0, c0, d0, h2⟩ := h
  exact ⟨(((h1.setCell (p := ⟨s, 0, none⟩) (fun _ => rfl) _).setCell (p := ⟨s, 1, none⟩) (fun _ => rfl) _).setCell (p := ⟨s, 2, none⟩) (fun _ => rfl) _).setCell (p := ⟨s, 3, none⟩) (fun _ => rfl) _, a, b, c, d, Go.Proofs.Ythefednendgclaa.store4 h2⟩
/-- What a cell holds. -/
def cvl (w : World) (s i : Nat) : Value := (w.cell? ⟨s, i, none⟩).getD undef
theorem SB.cell {s : Nat} {w w' : World} (h : SB s w w') (i : Nat) (hi : i < 4) : w'.cell? ⟨s, i, none⟩ = some (cvl w' s i) := by
  obtain ⟨_, a, b, c, d, h2⟩ := h
  unfold cvl
  rw [h2.cell]
  match i, hi with
  | 0, _ | 1, _ | 2, _ | 3, _ => rfl
theorem SB.frozen {s : Nat} {w w' : World} (h : SB s w w') (i : Nat) : w'.frozen? ⟨s, i, none⟩ = false := by
  obtain ⟨_, a, b, c, d, h2⟩ := h
  exact h2.frozen i
theorem SB.other {s k : Nat} {w w' : World} {e : TypeId} {cs : List Value} (h : SB s w w') (hB : Blk w k e cs) (hne : k ≠ s) : Blk w' k e cs := hB.only h.1 hne
theorem blk_store4' {s : Nat} {w w' : World} {a b c d : Value} (h : SB s w w') : Blk ((((w'.setCell ⟨s, 0, none⟩ a).setCell ⟨s, 1, none⟩ b).setCell ⟨s, 2, none⟩ c).setCell ⟨s, 3, none⟩ d) s 123 [a, b, c, d] := by
  obtain ⟨_, a0, b0, c0, d0, h2⟩ := h
  exact Go.Proofs.Ythefednendgclaa.store4 h2
theorem natS_store4' {s : Nat} {w w' : World} {a b c d : Value} (h : SB s w w') {x : Option Addr} {l n : Nat} (hn : NatS w' x l n) : NatS ((((w'.setCell ⟨s, 0, none⟩ a).setCell ⟨s, 1, none⟩ b).setCell ⟨s, 2, none⟩ c).setCell ⟨s, 3, none⟩ d) x l n := by
  obtain ⟨_, a0, b0, c0, d0, h2⟩ := h
  exact hn.store4 h2
theorem stepsAt_store4' {s g : Nat} {w w' : World} {st : List Stp} {a b c d : Value} (h : SB s w w') (hn : StepsAt w' w'.heap.size g st) : StepsAt ((((w'.setCell ⟨s, 0, none⟩ a).setCell ⟨s, 1, none⟩ b).setCell ⟨s, 2, none⟩ c).setCell ⟨s, 3, none⟩ d) ((((w'.setCell ⟨s, 0, none⟩ a).setCell ⟨s, 1, none⟩ b).setCell ⟨s, 2, none⟩ c).setCell ⟨s, 3, none⟩ d).heap.size g st := by
  obtain ⟨_, a0, b0, c0, d0, h2⟩ := h
  exact hn.store4 (s := 0) h2
theorem natS_alloc {w : World} {x : Option Addr} {l n : Nat} {o : Obj} (hn : NatS w x l n) : NatS (w.alloc o) x l n := hn.below ((Below.refl _ w).alloc (Nat.le_refl _) _)
theorem natsAt_alloc {w : World} {x : Option Addr} {ns : List Nat} {o : Obj} (hn : NatsAt w x ns) : NatsAt (w.alloc o) x ns := hn.below ((Below.refl _ w).alloc (Nat.le_refl _) _)
theorem natsAt_lit1 {w : World} {x : Option Addr} {l c m k : Nat} (hk : k = w.heap.size) (hm : NatS w x l m) : NatsAt (w.alloc (.cells #[.slice x l c] 33)) (some ⟨k, 0, none⟩) [m] :=
  (NatsOwn.lit (c := c) k k hk (Nat.le_refl _) hm).toAt
theorem natsAt_lit5 {w : World} {x0 x1 x2 x3 x4 : Option Addr} {l0 l1 l2 l3 l4 c0 c1 c2 c3 c4 m0 m1 m2 m3 m4 k : Nat} (hk : k = w.heap.size) (h0 : NatS w x0 l0 m0) (h1 : NatS w x1 l1 m1) (h2 : NatS w x2 l2 m2) (h3 : NatS w x3 l3 m3) (h4 : NatS w x4 l4 m4) :
    NatsAt (w.alloc (.cells #[.slice x0 l0 c0, .slice x1 l1 c1, .slice x2 l2 c2, .slice x3 l3 c3, .slice x4 l4 c4] 33)) (some ⟨k, 0, none⟩) [m0, m1, m2, m3, m4] := by
  have hB := Blk.new' w [.slice x0 l0 c0, .slice x1 l1 c1, .slice x2 l2 c2, .slice x3 l3 c3, .slice x4 l4 c4] 33 k hk
  refine ⟨[.slice x0 l0 c0, .slice x1 l1 c1, .slice x2 l2 c2, .slice x3 l3 c3, .slice x4 l4 c4], rfl, Blk.rd (rest := []) hB, fun i hi => ?_⟩
  have hi' : i < 5 := hi
  match i, hi' with
  | 0, _ => exact ⟨_, _, _, rfl, natS_alloc h0⟩
  | 1, _ => exact ⟨_, _, _, rfl, natS_alloc h1⟩
  | 2, _ => exact ⟨_, _, _, rfl, natS_alloc h2⟩
  | 3, _ => exact ⟨_, _, _, rfl, natS_alloc h3⟩
  | 4, _ => exact ⟨_, _, _, rfl, natS_alloc h4⟩
theorem steps2 {X : World} {C kA kB : Nat} {qa ba pa ta : Option Addr} {ql qc bl bc pl pc tl tc : Nat} (hC : C = X.heap.size) (hq : NatS X qa ql Q60) (hb : NatS X ba bl 13) (hA : NatsAt X (some ⟨kA, 0, none⟩) [2, 3, 11, 683, 2971]) (hp : NatS X pa pl 20752587082923246163) (ht : NatS X ta tl 2) (hB : NatsAt X (some ⟨kB, 0, none⟩) [Q60]) (hkA : kA < X.heap.size) (hkB : kB < X.heap.size) :
    StepsAt (X.alloc (.cells #[.slice qa ql qc, .slice ba bl bc, .slice (some ⟨kA, 0, none⟩) 5 5, .slice pa pl pc, .slice ta tl tc, .slice (some ⟨kB, 0, none⟩) 1 1] 172)) (X.alloc (.cells #[.slice qa ql qc, .slice ba bl bc, .slice (some ⟨kA, 0, none⟩) 5 5, .slice pa pl pc, .slice ta tl tc, .slice (some ⟨kB, 0, none⟩) 1 1] 172)).heap.size C st2 := by
  have hBk := Blk.new' X [.slice qa ql qc, .slice ba bl bc, .slice (some ⟨kA, 0, none⟩) 5 5, .slice pa pl pc, .slice ta tl tc, .slice (some ⟨kB, 0, none⟩) 1 1] 172 C hC
  have hsz : X.heap.size < (X.alloc (.cells #[.slice qa ql qc, .slice ba bl bc, .slice (some ⟨kA, 0, none⟩) 5 5, .slice pa pl pc, .slice ta tl tc, .slice (some ⟨kB, 0, none⟩) 1 1] 172)).heap.size := by simp
  refine ⟨hBk.ety, fun i hi => ?_⟩
  have hi' : i < 2 := hi
  match i, hi' with
  | 0, _ => exact ⟨_, _, _, _, _, _, _, 5, hBk.cell 0, hBk.cell 1, hBk.cell 2, natS_alloc hq, natS_alloc hb, ⟨natsAt_alloc hA, fun ad h _ => by obtain rfl := Option.some.inj h; exact Nat.lt_trans hkA hsz⟩, by show ((5 : Nat) : Int) ≤ ((5 : Nat) : Int); exact Int.le_refl _⟩
  | 1, _ => exact ⟨_, _, _, _, _, _, _, 1, hBk.cell 3, hBk.cell 4, hBk.cell 5, natS_alloc hp, natS_alloc ht, ⟨natsAt_alloc hB, fun ad h _ => by obtain rfl := Option.some.inj h; exact Nat.lt_trans hkB hsz⟩, by show ((1 : Nat) : Int) ≤ ((1 : Nat) : Int); exact Int.le_refl _⟩

theorem natS_drew {w : World} {x : Option Addr} {l n : Nat} (h : NatS w x l n) : NatS w.drew x l n := h
theorem SB.toBelow {s : Nat} {w w' : World} (h : SB s w w') (hs : s ≤ w.heap.size) : Below s w w' := h.1.toBelow hs (fun k hk => by subst hk; exact Nat.le_refl _)
theorem natsAt_lt {w : World} {k n : Nat} {ns : List Nat} (h : NatsAt w (some ⟨k, 0, none⟩) (n :: ns)) : k < w.heap.size := by
  obtain ⟨ad, _, _, _, e, he, _, _⟩ := h.get (k := 0) (by simp)
  obtain rfl := Option.some.inj e
  exact he.lt

/-! ### The store of a whole row of parameters, as one step -/
def S4 (w : World) (s : Nat) (a b c d : Value) : World := (((w.setCell ⟨s, 0, none⟩ a).setCell ⟨s, 1, none⟩ b).setCell ⟨s, 2, none⟩ c).setCell ⟨s, 3, none⟩ d
def Row4 (w : World) (s : Nat) : Prop := ∃ a b c d : Value, Blk w s 123 [a, b, c, d]
def StoreHere (w : World) (p : Value) : Prop := ∃ s, p = .pointer (some ⟨s, 0, none⟩) ∧ Row4 w s
def IsRow4 (v : Value) : Prop := ∃ (x0 x1 x2 x3 : Option Addr) (l0 l1 l2 l3 c0 c1 c2 c3 : Nat), v = .agg #[.slice x0 l0 c0, .slice x1 l1 c1, .slice x2 l2 c2, .slice x3 l3 c3]
theorem isRow4 (x0 x1 x2 x3 : Option Addr) (l0 l1 l2 l3 c0 c1 c2 c3 : Nat) : IsRow4 (.agg #[.slice x0 l0 c0, .slice x1 l1 c1, .slice x2 l2 c2, .slice x3 l3 c3]) := ⟨x0, x1, x2, x3, l0, l1, l2, l3, c0, c1, c2, c3, rfl⟩
def S4p (w : World) : Value → Value → World
  | .pointer (some ad), .agg cs => S4 w ad.block (cs.getD 0 undef) (cs.getD 1 undef) (cs.getD 2 undef) (cs.getD 3 undef)
  | _, _ => w
theorem run_store4 {w : World} {p v : Value} (h : StoreHere w p) (hv : IsRow4 v) : (Instr.storeAt 123 p v).run Try.prog w = .ok () (S4p w p v) := by
  obtain ⟨s, rfl, a, b, c, d, hB⟩ := h
  obtain ⟨x0, x1, x2, x3, l0, l1, l2, l3, c0, c1, c2, c3, rfl⟩ := hv
  have ht : w.there s 0 4 := by
    intro j hj
    refine ⟨?_, ?_⟩
    · rw [Nat.zero_add, hB.cell]
      match j, hj with
      | 0, _ | 1, _ | 2, _ | 3, _ => rfl
    · rw [Nat.zero_add]; exact hB.frozen j
  exact run_storeAt_mid (P := Try.prog) w s 0 123 #[.slice x0 l0 c0, .slice x1 l1 c1, .slice x2 l2 c2, .slice x3 l3 c3] ht (by kernel_rfl) (by simp [Value.oneCell'])
theorem exec_store4 {w : World} {a : Act} (dst : Option Tmp) (x y : Operand) (ty : TypeId) (pos : String) (after : Array Edge) (guard : Option (Nat × Bool)) (h : StoreHere w (a.eval x)) (hv : IsRow4 (a.eval y)) :
    (execOp a.eval { dst, op := .store 123 x y, type := ty, pos, after, guard }).run Try.prog w = .ok .skip (S4p w (a.eval x) (a.eval y)) := by
  have := run_store4 h hv
  simp only [execOp, Sem.run_bind, this, Result.andThen_ok, Sem.run_pure]
theorem SB.row {s : Nat} {w w' : World} (h : SB s w w') : Row4 w' s := h.2
theorem SB.here {s : Nat} {w w' : World} (h : SB s w w') : StoreHere w' (.pointer (some ⟨s, 0, none⟩)) := ⟨s, rfl, h.2⟩
theorem SB.s4 {s : Nat} {w w' : World} {a b c d : Value} (h : SB s w w') : SB s w (S4p w' (.pointer (some ⟨s, 0, none⟩)) (.agg #[a, b, c, d])) := h.store4
theorem natS_s4 {w : World} {s : Nat} {x : Option Addr} {l n : Nat} {a b c d : Value} (h : Row4 w s) (hn : NatS w x l n) : NatS (S4p w (.pointer (some ⟨s, 0, none⟩)) (.agg #[a, b, c, d])) x l n := by
  obtain ⟨a0, b0, c0, d0, h⟩ := h
  exact hn.store4 h
theorem natsAt_s4 {w : World} {s : Nat} {x : Option Addr} {ns : List Nat} {a b c d : Value} (h : Row4 w s) (hn : NatsAt w x ns) : NatsAt (S4p w (.pointer (some ⟨s, 0, none⟩)) (.agg #[a, b, c, d])) x ns := by
  obtain ⟨a0, b0, c0, d0, h⟩ := h
  exact (((hn.setOther h (by decide) (by decide) 0 a).setOther (h.set 0 a) (by decide) (by decide) 1 b).setOther ((h.set 0 a).set 1 b) (by decide) (by decide) 2 c).setOther (((h.set 0 a).set 1 b).set 2 c) (by decide) (by decide) 3 d
theorem stepsAt_s4 {w : World} {s g : Nat} {st : List Stp} {a b c d : Value} (h : Row4 w s) (hn : StepsAt w w.heap.size g st) : StepsAt (S4p w (.pointer (some ⟨s, 0, none⟩)) (.agg #[a, b, c, d])) (S4p w (.pointer (some ⟨s, 0, none⟩)) (.agg #[a, b, c, d])).heap.size g st := by
  obtain ⟨a0, b0, c0, d0, h⟩ := h
  exact hn.store4 (s := 0) h
theorem blk_s4 {w : World} {s : Nat} {a b c d : Value} (h : Row4 w s) : Blk (S4p w (.pointer (some ⟨s, 0, none⟩)) (.agg #[a, b, c, d])) s 123 [a, b, c, d] := by
  obtain ⟨a0, b0, c0, d0, h⟩ := h
  exact Go.Proofs.Ythefednendgclaa.store4 h
theorem natsAt_drew {w : World} {x : Option Addr} {ns : List Nat} (h : NatsAt w x ns) : NatsAt w.drew x ns := h
theorem stepsAt_alloc {w : World} {g : Nat} {st : List Stp} {o : Obj} (h : StepsAt w w.heap.size g st) : StepsAt (w.alloc o) (w.alloc o).heap.size g st := h.below ((Below.refl _ w).alloc (Nat.le_refl _) _)
theorem steps2b {X : World} {C kA kB : Nat} {qa ba pa ta : Option Addr} {ql qc bl bc pl pc tl tc : Nat} (hC : C = X.heap.size) (hq : NatS X qa ql 1152921504606847009) (hb : NatS X ba bl 13) (hA : NatsAt X (some ⟨kA, 0, none⟩) [2, 3, 11, 683, 2971]) (hp : NatS X pa pl 20752587082923246163) (ht : NatS X ta tl 2) (hB : NatsAt X (some ⟨kB, 0, none⟩) [1152921504606847009]) :
    StepsAt (X.alloc (.cells #[.slice qa ql qc, .slice ba bl bc, .slice (some ⟨kA, 0, none⟩) 5 5, .slice pa pl pc, .slice ta tl tc, .slice (some ⟨kB, 0, none⟩) 1 1] 172)) (X.alloc (.cells #[.slice qa ql qc, .slice ba bl bc, .slice (some ⟨kA, 0, none⟩) 5 5, .slice pa pl pc, .slice ta tl tc, .slice (some ⟨kB, 0, none⟩) 1 1] 172)).heap.size C st2 :=
  steps2 hC hq hb hA hp ht hB (natsAt_lt hA) (natsAt_lt hB)
theorem blk_new {w : World} {k : Nat} {e : TypeId} {cs : List Value} {o : Obj} (h : Blk w k e cs) : Blk (w.alloc o) k e cs := h.alloc o
end Go.Proofs.Ythefednendgclaa
/-
  The law's numbers: what is known of many numbers, carried from world to world.
-/
namespace Go.Proofs.Ythefednendgclaa
open Go Go.RowKit Sac NT

/-! ### What is known of many numbers, carried from world to world -/
def AllN (w : World) (L : List (Option Addr × Nat × Nat)) : Prop := ∀ (i : Nat) (a : Option Addr) (l n : Nat), L[i]? = some (a, l, n) → NatS w a l n
theorem AllN.nil (w : World) : AllN w [] := fun i a l n hi => by simp at hi
theorem AllN.below {w w' : World} {L : List (Option Addr × Nat × Nat)} (h : AllN w L) (hb : Below w.heap.size w w') : AllN w' L := fun i a l n hi => (h i a l n hi).below hb
theorem AllN.snoc {w : World} {L : List (Option Addr × Nat × Nat)} {a : Option Addr} {l n : Nat} (h : AllN w L) (hn : NatS w a l n) : AllN w (L ++ [(a, l, n)]) := fun i a' l' n' hi => by
  rcases NE.key hi with ⟨_, hi⟩ | ⟨_, he⟩
  · exact h i _ _ _ hi
  · injection he with h1 h2
    injection h2 with h2 h3
    subst h1 h2 h3
    exact hn
theorem AllN.alloc {w : World} {L : List (Option Addr × Nat × Nat)} {o : Obj} (h : AllN w L) : AllN (w.alloc o) L := h.below ((Below.refl _ w).alloc (Nat.le_refl _) _)
theorem AllN.drew {w : World} {L : List (Option Addr × Nat × Nat)} (h : AllN w L) : AllN w.drew L := h
section
variable {w w' : World} {L : List (Option Addr × Nat × Nat)} {a : Option Addr} {l n : Nat} {A B : Obj}
theorem an0 (h : AllN w L) (hb : Below w.heap.size w w') (hn : NatS w' a l n) : AllN w' (L ++ [(a, l, n)]) := (h.below hb).snoc hn
theorem an0d (h : AllN w L) (hb : Below w.drew.heap.size w.drew w') (hn : NatS w' a l n) : AllN w' (L ++ [(a, l, n)]) := (h.drew.below hb).snoc hn
theorem an1 (h : AllN w L) (hb : Below (w.alloc A).heap.size (w.alloc A) w') (hn : NatS w' a l n) : AllN w' (L ++ [(a, l, n)]) := (h.alloc.below hb).snoc hn
theorem an1d (h : AllN w L) (hb : Below (w.alloc A).drew.heap.size (w.alloc A).drew w') (hn : NatS w' a l n) : AllN w' (L ++ [(a, l, n)]) := (h.alloc.drew.below hb).snoc hn
theorem an2 (h : AllN w L) (hb : Below ((w.alloc A).alloc B).heap.size ((w.alloc A).alloc B) w') (hn : NatS w' a l n) : AllN w' (L ++ [(a, l, n)]) := (h.alloc.alloc.below hb).snoc hn
end
section
variable {w w' : World} {y : Option Addr} {ns : List Nat} {A B : Obj}
theorem nc0 (h : NatsAt w y ns) (hb : Below w.heap.size w w') : NatsAt w' y ns := h.below hb
theorem nc1 (h : NatsAt w y ns) (hb : Below (w.alloc A).heap.size (w.alloc A) w') : NatsAt w' y ns := (natsAt_alloc h).below hb
end
section
variable {w w' : World} {x : Option Addr} {l c m : Nat} {A : Obj}
theorem n17 (h : NatS w x l m) (hb : Below (w.alloc (.cells #[.slice x l c] 33)).heap.size (w.alloc (.cells #[.slice x l c] 33)) w') : NatsAt w' (some ⟨w.heap.size, 0, none⟩) [m] := (natsAt_lit1 (c := c) rfl h).below hb
theorem n17d (h : NatS w x l m) (hb : Below (w.alloc (.cells #[.slice x l c] 33)).drew.heap.size (w.alloc (.cells #[.slice x l c] 33)).drew w') : NatsAt w' (some ⟨w.heap.size, 0, none⟩) [m] := (natsAt_drew (natsAt_lit1 (c := c) rfl h)).below hb
theorem n17b (h : NatS w x l m) (hb : Below ((w.alloc A).alloc (.cells #[.slice x l c] 33)).heap.size ((w.alloc A).alloc (.cells #[.slice x l c] 33)) w') : NatsAt w' (some ⟨w.heap.size + 1, 0, none⟩) [m] := (natsAt_lit1 (c := c) (by simp) (natS_alloc h)).below hb
theorem n17c (h : NatS w x l m) (hb : Below ((w.alloc (.cells #[.slice x l c] 33)).alloc A).heap.size ((w.alloc (.cells #[.slice x l c] 33)).alloc A) w') : NatsAt w' (some ⟨w.heap.size, 0, none⟩) [m] := (natsAt_alloc (natsAt_lit1 (c := c) rfl h)).below hb
end
section
variable {w w' : World} {x0 x1 x2 x3 x4 : Option Addr} {l0 l1 l2 l3 l4 c0 c1 c2 c3 c4 : Nat} {m0 m1 m2 m3 m4 : Nat} {A : Obj}
theorem n12 (h0 : NatS w x0 l0 m0) (h1 : NatS w x1 l1 m1) (h2 : NatS w x2 l2 m2) (h3 : NatS w x3 l3 m3) (h4 : NatS w x4 l4 m4) (hb : Below (w.alloc (.cells #[.slice x0 l0 c0, .slice x1 l1 c1, .slice x2 l2 c2, .slice x3 l3 c3, .slice x4 l4 c4] 33)).heap.size (w.alloc (.cells #[.slice x0 l0 c0, .slice x1 l1 c1, .slice x2 l2 c2, .slice x3 l3 c3, .slice x4 l4 c4] 33)) w') : NatsAt w' (some ⟨w.heap.size, 0, none⟩) [m0, m1, m2, m3, m4] := (natsAt_lit5 rfl h0 h1 h2 h3 h4).below hb
theorem n12b (h0 : NatS w x0 l0 m0) (h1 : NatS w x1 l1 m1) (h2 : NatS w x2 l2 m2) (h3 : NatS w x3 l3 m3) (h4 : NatS w x4 l4 m4) (hb : Below ((w.alloc A).alloc (.cells #[.slice x0 l0 c0, .slice x1 l1 c1, .slice x2 l2 c2, .slice x3 l3 c3, .slice x4 l4 c4] 33)).heap.size ((w.alloc A).alloc (.cells #[.slice x0 l0 c0, .slice x1 l1 c1, .slice x2 l2 c2, .slice x3 l3 c3, .slice x4 l4 c4] 33)) w') : NatsAt w' (some ⟨w.heap.size + 1, 0, none⟩) [m0, m1, m2, m3, m4] := (natsAt_lit5 (by simp) (natS_alloc h0) (natS_alloc h1) (natS_alloc h2) (natS_alloc h3) (natS_alloc h4)).below hb
theorem n12c (h0 : NatS w x0 l0 m0) (h1 : NatS w x1 l1 m1) (h2 : NatS w x2 l2 m2) (h3 : NatS w x3 l3 m3) (h4 : NatS w x4 l4 m4) (hb : Below ((w.alloc (.cells #[.slice x0 l0 c0, .slice x1 l1 c1, .slice x2 l2 c2, .slice x3 l3 c3, .slice x4 l4 c4] 33)).alloc A).heap.size ((w.alloc (.cells #[.slice x0 l0 c0, .slice x1 l1 c1, .slice x2 l2 c2, .slice x3 l3 c3, .slice x4 l4 c4] 33)).alloc A) w') : NatsAt w' (some ⟨w.heap.size, 0, none⟩) [m0, m1, m2, m3, m4] := (natsAt_alloc (natsAt_lit5 rfl h0 h1 h2 h3 h4)).below hb
end
/-- The third group's numbers are handed back. -/
theorem leaf2 {fn : Func} {p t : Tmp} {tmps : Array Value} {w W : World} {s C : Nat} {pa : Option Addr} {pl pc : Nat} {qa : Option Addr} {ql qc : Nat} {ga : Option Addr} {gl gc : Nat} (hr : fn.results = #[.cell p 123, .tmp t]) (hp : tmps.getD p undef = .pointer (some ⟨s, 0, none⟩)) (ht : tmps.getD t undef = .slice (some ⟨C, 0, none⟩) 2 2)
    (hB : Blk W s 123 [.slice pa pl pc, .slice qa ql qc, .slice ga gl gc, .slice none 0 0]) (hP : NatS W pa pl 20752587082923246163) (hQ : NatS W qa ql 1152921504606847009) (hG : NatS W ga gl 262144) (hst : StepsAt W W.heap.size C st2) (hbel : Below w.heap.size w W) :
    bodyPost Try.prog fn (NumPost 2 (.slice none 0 0) w) .ret { tmps, defers := [] } W :=
  ret_params (cs := [.slice pa pl pc, .slice qa ql qc, .slice ga gl gc, .slice none 0 0]) rfl hr hp ht hB ⟨pa, pl, pc, qa, ql, qc, ga, gl, gc, _, rfl, hP, hQ, hG,
    PrF.chain (st := st2) hst rfl (by decide) st2_ok (by decide) ⟨⟨20752587082923246163, 2, [Q60], [Q60]⟩, by simp [st2], rfl⟩,
    PrF.chain (st := st2) hst rfl (by decide) st2_ok (by decide) ⟨⟨Q60, 13, [2, 3, 11, 683, 2971], [32, 3, 121, 683, 2971]⟩, by simp [st2], rfl⟩, hbel⟩
end Go.Proofs.Ythefednendgclaa
