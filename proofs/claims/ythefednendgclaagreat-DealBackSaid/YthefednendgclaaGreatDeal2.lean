import Derived.Test.YthefednendgclaaGreatInvF
import Derived.Test.YthefednendgclaaGreatLaw9
import Derived.Test.YthefednendgclaaGreatBoxRow
import Derived.Test.YthefednendgclaaGreatGrpA
import Derived.Deep.RegionHeld3
import Derived.Deep.RegionLaw
import Derived.Deep.CutRange
set_option linter.unusedVariables false
set_option linter.unusedSimpArgs false
/-
  Deal: the small ones; stores into a block that holds no numbers.
-/
namespace Go.Proofs.YthefednendgclaaGreat
open Go Go.RowKit Sac NT

/-! ### Stores into a block of another type -/
theorem NatsOwn.ktO {s : Nat} {T : TypeId} {w w' : World} {base : Nat} {v : Value} {ns : List Nat} (hT : 36 ≠ T) (hu : 106 ≠ T) (h : NatsOwn w base v ns) (k : KT s T w w') : NatsOwn w' base v ns := by
  obtain ⟨xs, ⟨h1, h2⟩, hv⟩ := h
  refine ⟨xs, ⟨h1, ?_⟩, fun i hi => ?_⟩
  · rcases h2 with h2 | ⟨g, cap, cur, e1, e2, e3, e4⟩
    · exact .inl h2
    · refine .inr ⟨g, cap, cur, e1, e2, (k.high g ?_ (fun cs fr hc => ?_)).trans e3, e4⟩
      · exact (Array.getElem?_eq_some_iff.1 e3).1
      · rw [e3] at hc
        injection hc with hc
        injection hc with _ hc
        exact hT hc
  · obtain ⟨x, l, c, h3, h4⟩ := hv i hi
    exact ⟨x, l, c, h3, h4.kt hu k⟩
theorem NB.ktO {s : Nat} {T : TypeId} {w w' : World} {j n : Nat} (hT : 36 ≠ T) (hu : 106 ≠ T) (h : NB w j n) (k : KT s T w w') : NB w' j n := by
  obtain ⟨a, l, c, h1, h2⟩ := h
  exact ⟨a, l, c, k.blk hT h1, h2.kt hu k⟩
/-- It stays where only a block of type T is written. -/
def ItO (T : TypeId) (t : Itm) : Prop := ∀ (s : Nat) (w w' : World), KT s T w w' → t.2 w → t.2 w'
theorem boxI_O {T : TypeId} (hT : 36 ≠ T) (hu : 106 ≠ T) (k n : Nat) : ItO T (boxI k n) := fun _ _ _ kt h => NB.ktO hT hu h kt
theorem rowI_O {T : TypeId} (hT : 36 ≠ T) (hu : 106 ≠ T) (s : Nat) (v : Value) (ns : List Nat) : ItO T (rowI s v ns) := fun _ _ _ kt h => NatsOwn.ktO hT hu h kt
theorem GE.other {w wr : World} {s D : Nat} {T : TypeId} {cs : List Value} {L : List Itm} {F F' : List (World → Prop)} (h : GE w wr s L F) (hT : 36 ≠ T) (hB : Blk wr D T cs) (hs : s ≤ D) (o : Nat) (v : Value)
    (hL : ∀ (i : Nat) (t : Itm), L[i]? = some t → ItO T t) (hF : ∀ (i : Nat) (P : World → Prop), F'[i]? = some P → Stays s 36 P ∧ P (wr.setCell ⟨D, o, none⟩ v)) : GE w (wr.setCell ⟨D, o, none⟩ v) s L F' := by
  have kt : KT s T wr (wr.setCell ⟨D, o, none⟩ v) := KT.set hB hs o v
  refine ⟨h.bel.setCell (p := ⟨D, o, none⟩) hs v, fun i t hi => ?_, h.apart, fun i P hi => (hF i P hi).1, fun i P hi => (hF i P hi).2, Nat.le_trans h.base kt.size⟩
  obtain ⟨h1, h2, h3⟩ := h.its i t hi
  refine ⟨hL i t hi s _ _ kt h1, fun k hk => ?_, h3⟩
  obtain ⟨e1, e2, cs', e3⟩ := h2 k hk
  refine ⟨e1, Nat.lt_of_lt_of_le e2 kt.size, cs', (kt.high k e2 (fun cs fr hc => ?_)).trans e3⟩
  rw [e3] at hc
  injection hc with hc
  injection hc with _ hc
  exact hT hc
theorem L4_O {T : TypeId} (hT : 36 ≠ T) (hu : 106 ≠ T) {s k n k' n' : Nat} {v v' : Value} {ns ns' : List Nat} : ∀ (i : Nat) (t : Itm), [boxI k n, boxI k' n', rowI s v ns, rowI s v' ns'][i]? = some t → ItO T t
  | 0, _, h => by obtain rfl := Option.some.inj h; exact boxI_O hT hu _ _
  | 1, _, h => by obtain rfl := Option.some.inj h; exact boxI_O hT hu _ _
  | 2, _, h => by obtain rfl := Option.some.inj h; exact rowI_O hT hu _ _ _
  | 3, _, h => by obtain rfl := Option.some.inj h; exact rowI_O hT hu _ _ _
  | n + 4, _, h => by simp at h
theorem F3_O {s r q k D : Nat} {cs cs' : List Value} {w : World} (h0 : RingAt w r q) (h1 : Blk w k 56 cs) (h2 : Blk w D 56 cs') : ∀ (i : Nat) (P : World → Prop), [fun w => RingAt w r q, fun w => Blk w k 56 cs, fun w => Blk w D 56 cs'][i]? = some P → Stays s 36 P ∧ P w
  | 0, _, h => by obtain rfl := Option.some.inj h; exact ⟨ringAt_stays (by decide) (by decide), h0⟩
  | 1, _, h => by obtain rfl := Option.some.inj h; exact ⟨blk_stays (by decide), h1⟩
  | 2, _, h => by obtain rfl := Option.some.inj h; exact ⟨blk_stays (by decide), h2⟩
  | n + 3, _, h => by simp at h

set_option maxRecDepth 100000 in
set_option maxHeartbeats 2000000 in
theorem wrong_no (g t : Nat) (w : World) (h1 : 1 ≤ t) (h2 : t ≤ 64) : Calls Tryz.prog 70 #[.pointer (some ⟨g, 0, none⟩), .int .i64 (t : Int)] w fun e w' => e = .returned (.bool false) ∧ Below w.heap.size w w' := by
  have d1 : decide ((t : Int) < 1) = false := decide_eq_false (by omega)
  have d2 : decide ((64 : Int) < (t : Int)) = false := decide_eq_false (by omega)
  have i1 : ¬ (t : Int) < 1 := by omega
  have i2 : ¬ (64 : Int) < (t : Int) := by omega
  clear h1 h2
  go_enter Tryz.func70, Tryz.ntmps70
  go_wp2_with fail
  go_ret
  exact ⟨rfl, Below.refl _ _⟩
set_option maxRecDepth 100000 in
set_option maxHeartbeats 2000000 in
theorem peer_yes (n : Nat) (w : World) (h1 : 1 ≤ n) (h2 : n ≤ 64) : Calls Tryz.prog 68 #[.int .i64 (n : Int)] w fun e w' => e = .returned (.bool true) ∧ Below w.heap.size w w' := by
  have d1 : decide ((1 : Int) ≤ (n : Int)) = true := decide_eq_true (by omega)
  have d2 : decide ((n : Int) ≤ 64) = true := decide_eq_true (by omega)
  have i1 : (1 : Int) ≤ (n : Int) := by omega
  have i2 : (n : Int) ≤ 64 := by omega
  clear h1 h2
  go_enter Tryz.func68, Tryz.ntmps68
  go_wp2_with fail
  go_ret
  exact ⟨rfl, Below.refl _ _⟩
set_option maxRecDepth 100000 in
set_option maxHeartbeats 2000000 in
theorem dat_any (n : Nat) (w : World) (h : (n : Int) ≤ 1000) : Calls Tryz.prog 69 #[.int .i64 (n : Int)] w (RetS n w) := by
  obtain ⟨s, hs⟩ : ∃ s, s = w.heap.size := ⟨_, rfl⟩
  have HE0 := Lib.hid ((NE.init w s hs).alloc s hs (natS_nil w) (c := 0))
  have HS := Lib.hid hs
  have hw : IntKind.u64.wrap (n : Int) = (n : Int) := wraps_u64 _ (by omega) (by omega)
  go_enter Tryz.func69, Tryz.ntmps69
  go_wp2_with fail
  rw [← hs]
  clear hs
  generalize w.alloc (Obj.cells #[Value.slice none 0 0] 36) = w1 at HE0 ⊢
  refine (new_s n w1 (by omega)).mono ?_
  rintro e w2 ⟨xa, xl, xc, rfl, hx, hb2⟩
  have HE2 := Lib.hid (HE0.out.below hb2)
  have HX := Lib.hid hx
  obtain ⟨_, _, _, c0, f0, _⟩ := HE2.out.box 0 rfl
  clear hx hb2
  go_wp2_with fail
  exact (HE2.out.set 0 rfl HX.out (c := xc)).ret HS.out (i := 0) rfl rfl rfl

/-! ### The dealing's first region -/
/-- A row of one number, of our own. -/
def R1 (w0 w : World) (v : Value) (n : Nat) : Prop := ∃ k : Nat, v = .slice (some ⟨k, 0, none⟩) 1 1 ∧ NatsOwn w w0.heap.size v [n]
theorem R1.below {w0 w w' : World} {v : Value} {n : Nat} (h : R1 w0 w v n) (hs : w0.heap.size ≤ w.heap.size) (hb : Below w.heap.size w w') : R1 w0 w' v n := by
  obtain ⟨k, e, ho⟩ := h
  exact ⟨k, e, ho.kt (KT.below hs hb) (fun j hj => hb.block j (ho.lt hj).2)⟩
structure BD (w0 : World) (x y : Nat) (l : Nat → Bool) (g : Nat → Value) (w : World) : Prop where
  bb : BB w0 w
  r3 : l 3 = true → R1 w0 w (g 33) x
  r7 : l 7 = true → R1 w0 w (g 37) y
  ne : l 3 = true → l 7 = true → (g 33).ownBlock ≠ (g 37).ownBlock
  r8 : l 8 = true → ∃ k k' : Nat, g 33 = .slice (some ⟨k, 0, none⟩) 1 1 ∧ g 37 = .slice (some ⟨k', 0, none⟩) 1 1 ∧ g 38 = .agg #[.slice (some ⟨k, 0, none⟩) 1 1, .slice (some ⟨k', 0, none⟩) 1 1]
  r9 : l 9 = true → ∃ D : Nat, g 13 = .pointer (some ⟨D, 0, none⟩) ∧ w0.heap.size ≤ D ∧ (l 10 = false → Blk w D 56 [.slice none 0 0, .slice none 0 0]) ∧ (l 10 = true → Blk w D 56 [g 33, g 37])
section
variable {w0 w w' : World} {x y : Nat} {l : Nat → Bool} {g : Nat → Value} {v : Value}
theorem BD.init (h : BB w0 w) : BD w0 x y (fun _ => false) g w := ⟨h, fun h => (by cases h), fun h => (by cases h), fun h => (by cases h), fun h => (by cases h), fun h => (by cases h)⟩
theorem BD.step (h : BD w0 x y l g w) (k d : Nat) (hk : k ≠ 3 ∧ k ≠ 7 ∧ k ≠ 8 ∧ k ≠ 9 ∧ k ≠ 10) (hd : d ≠ 33 ∧ d ≠ 37 ∧ d ≠ 38 ∧ d ≠ 13) (hb : Below w.heap.size w w') : BD w0 x y (setL l k) (updG g (some d) v) w' := by
  obtain ⟨k3, k7, k8, k9, k10⟩ := hk
  obtain ⟨d33, d37, d38, d13⟩ := hd
  refine ⟨BB.step h.bb hb, ?_, ?_, ?_, ?_, ?_⟩ <;> rw [setL_ne (by omega)] <;> (try rw [setL_ne (by omega)]) <;> (try rw [updG_ne (by omega)])
  · exact fun e => (h.r3 e).below h.bb.size hb
  · exact fun e => (h.r7 e).below h.bb.size hb
  · rw [updG_ne (by omega)]; exact h.ne
  · rw [updG_ne (by omega), updG_ne (by omega)]; exact h.r8
  · intro e
    obtain ⟨D, e1, e2, e3, e4⟩ := h.r9 e
    refine ⟨D, e1, e2, ?_, ?_⟩ <;> (try rw [setL_ne (by omega)])
    · exact fun e => (e3 e).below hb (e3 e).lt
    · rw [updG_ne (by omega), updG_ne (by omega)]; exact fun e => (e4 e).below hb (e4 e).lt
theorem BD.row3 (h : BD w0 x y l g w) {xa : Option Addr} {xl xc : Nat} (hn : NatS w xa xl x) (h8 : l 8 = false) (h10 : l 10 = false) :
    BD w0 x y (setL l 3) (updG g (some 33) (.slice (some ⟨w.heap.size, 0, none⟩) 1 1)) (w.alloc (Obj.cells #[Value.slice xa xl xc] 36)) := by
  have hb : Below w.heap.size w (w.alloc (Obj.cells #[Value.slice xa xl xc] 36)) := (Below.refl _ w).alloc (Nat.le_refl _) _
  refine ⟨BB.step h.bb hb, fun _ => ?_, ?_, ?_, ?_, ?_⟩
  · rw [updG_eq]
    exact ⟨w.heap.size, rfl, NatsOwn.lit w0.heap.size w.heap.size rfl h.bb.size hn⟩
  · rw [setL_ne (by decide), updG_ne (by decide)]
    exact fun e => (h.r7 e).below h.bb.size hb
  · intro _ e hc
    rw [setL_ne (by decide)] at e
    rw [updG_eq, updG_ne (by decide)] at hc
    obtain ⟨k, e1, ho⟩ := h.r7 e
    exact Nat.lt_irrefl _ (ho.lt hc.symm).2
  · rw [setL_ne (by decide), h8]
    intro e; cases e
  · rw [setL_ne (by decide), updG_ne (by decide)]
    intro e
    obtain ⟨D, e1, e2, e3, e4⟩ := h.r9 e
    refine ⟨D, e1, e2, ?_, ?_⟩ <;> rw [setL_ne (by decide)]
    · exact fun e => (e3 e).below hb (e3 e).lt
    · intro e; rw [h10] at e; cases e
theorem BD.row7 (h : BD w0 x y l g w) {xa : Option Addr} {xl xc : Nat} (hn : NatS w xa xl y) (h8 : l 8 = false) (h10 : l 10 = false) :
    BD w0 x y (setL l 7) (updG g (some 37) (.slice (some ⟨w.heap.size, 0, none⟩) 1 1)) (w.alloc (Obj.cells #[Value.slice xa xl xc] 36)) := by
  have hb : Below w.heap.size w (w.alloc (Obj.cells #[Value.slice xa xl xc] 36)) := (Below.refl _ w).alloc (Nat.le_refl _) _
  refine ⟨BB.step h.bb hb, ?_, fun _ => ?_, ?_, ?_, ?_⟩
  · rw [setL_ne (by decide), updG_ne (by decide)]
    exact fun e => (h.r3 e).below h.bb.size hb
  · rw [updG_eq]
    exact ⟨w.heap.size, rfl, NatsOwn.lit w0.heap.size w.heap.size rfl h.bb.size hn⟩
  · intro e _ hc
    rw [setL_ne (by decide)] at e
    rw [updG_eq, updG_ne (by decide)] at hc
    obtain ⟨k, e1, ho⟩ := h.r3 e
    exact Nat.lt_irrefl _ (ho.lt hc).2
  · rw [setL_ne (by decide), h8]
    intro e; cases e
  · rw [setL_ne (by decide), updG_ne (by decide)]
    intro e
    obtain ⟨D, e1, e2, e3, e4⟩ := h.r9 e
    refine ⟨D, e1, e2, ?_, ?_⟩ <;> rw [setL_ne (by decide)]
    · exact fun e => (e3 e).below hb (e3 e).lt
    · intro e; rw [h10] at e; cases e
theorem BD.agg8 (h : BD w0 x y l g w) {k k' : Nat} (e1 : g 33 = .slice (some ⟨k, 0, none⟩) 1 1) (e2 : g 37 = .slice (some ⟨k', 0, none⟩) 1 1) (h10 : l 10 = false) :
    BD w0 x y (setL l 8) (updG g (some 38) (.agg #[.slice (some ⟨k, 0, none⟩) 1 1, .slice (some ⟨k', 0, none⟩) 1 1])) w := by
  refine ⟨h.bb, ?_, ?_, ?_, fun _ => ?_, ?_⟩
  · rw [setL_ne (by decide), updG_ne (by decide)]; exact h.r3
  · rw [setL_ne (by decide), updG_ne (by decide)]; exact h.r7
  · rw [setL_ne (by decide), setL_ne (by decide), updG_ne (by decide), updG_ne (by decide)]; exact h.ne
  · rw [updG_ne (by decide), updG_ne (by decide), updG_eq]
    exact ⟨k, k', e1, e2, rfl⟩
  · rw [setL_ne (by decide), updG_ne (by decide), setL_ne (by decide), updG_ne (by decide), updG_ne (by decide)]; exact h.r9
theorem BD.new9 (h : BD w0 x y l g w) (h10 : l 10 = false) :
    BD w0 x y (setL l 9) (updG g (some 13) (.pointer (some ⟨w.heap.size, 0, none⟩))) (w.alloc (Obj.cells #[Value.slice none 0 0, Value.slice none 0 0] 56)) := by
  have hb : Below w.heap.size w (w.alloc (Obj.cells #[Value.slice none 0 0, Value.slice none 0 0] 56)) := (Below.refl _ w).alloc (Nat.le_refl _) _
  refine ⟨BB.step h.bb hb, ?_, ?_, ?_, ?_, fun _ => ?_⟩
  · rw [setL_ne (by decide), updG_ne (by decide)]
    exact fun e => (h.r3 e).below h.bb.size hb
  · rw [setL_ne (by decide), updG_ne (by decide)]
    exact fun e => (h.r7 e).below h.bb.size hb
  · rw [setL_ne (by decide), setL_ne (by decide), updG_ne (by decide), updG_ne (by decide)]; exact h.ne
  · rw [setL_ne (by decide), updG_ne (by decide), updG_ne (by decide), updG_ne (by decide)]; exact h.r8
  · rw [updG_eq, setL_ne (by decide)]
    refine ⟨w.heap.size, rfl, h.bb.size, fun _ => Blk.new w _ _, fun e => ?_⟩
    rw [h10] at e; cases e
theorem BD.set10 (h : BD w0 x y l g w) {D k k' : Nat} (e0 : g 13 = .pointer (some ⟨D, 0, none⟩)) (hD : w0.heap.size ≤ D) (hB : Blk w D 56 [.slice none 0 0, .slice none 0 0]) (e1 : g 33 = .slice (some ⟨k, 0, none⟩) 1 1) (e2 : g 37 = .slice (some ⟨k', 0, none⟩) 1 1) :
    BD w0 x y (setL l 10) (updG g none undef) ((w.setCell ⟨D, 0, none⟩ (.slice (some ⟨k, 0, none⟩) 1 1)).setCell ⟨D, 1, none⟩ (.slice (some ⟨k', 0, none⟩) 1 1)) := by
  have hB1 := hB.set 0 (.slice (some ⟨k, 0, none⟩) 1 1)
  have k1 : KT w0.heap.size 56 w (w.setCell ⟨D, 0, none⟩ (.slice (some ⟨k, 0, none⟩) 1 1)) := KT.set hB hD 0 _
  have k2 : KT w0.heap.size 56 (w.setCell ⟨D, 0, none⟩ (.slice (some ⟨k, 0, none⟩) 1 1)) ((w.setCell ⟨D, 0, none⟩ (.slice (some ⟨k, 0, none⟩) 1 1)).setCell ⟨D, 1, none⟩ (.slice (some ⟨k', 0, none⟩) 1 1)) := KT.set hB1 hD 1 _
  have kR : ∀ {v : Value} {n : Nat}, R1 w0 w v n → R1 w0 ((w.setCell ⟨D, 0, none⟩ (.slice (some ⟨k, 0, none⟩) 1 1)).setCell ⟨D, 1, none⟩ (.slice (some ⟨k', 0, none⟩) 1 1)) v n := fun ⟨k, e, ho⟩ => ⟨k, e, (ho.ktO (by decide) (by decide) k1).ktO (by decide) (by decide) k2⟩
  refine ⟨Below.setCell (Below.setCell h.bb (p := ⟨D, 0, none⟩) hD _) (p := ⟨D, 1, none⟩) hD _, ?_, ?_, ?_, ?_, ?_⟩
  · rw [setL_ne (by decide)]; exact fun e => kR (h.r3 e)
  · rw [setL_ne (by decide)]; exact fun e => kR (h.r7 e)
  · rw [setL_ne (by decide), setL_ne (by decide)]; exact h.ne
  · rw [setL_ne (by decide)]; exact h.r8
  · rw [setL_eq]
    refine fun _ => ⟨D, e0, hD, fun e => (by cases e), fun _ => ?_⟩
    show Blk _ D _ [g 33, g 37]
    rw [e1, e2]
    exact hB1.set 1 _
end
end Go.Proofs.YthefednendgclaaGreat
/-
  Deal: New, of right arguments.
-/
namespace Go.Proofs.YthefednendgclaaGreat
open Go Go.RowKit Sac NT

/-! ### Rows of two cells handed back -/
theorem ret_deal {fn : Func} {p t : Tmp} {R : Ending → World → Prop} {tmps : Array Value} {w : World} {g : Nat} {x y v : Value} (h : fn.results = #[.cell p 56, .tmp t]) (hp : tmps.getD p undef = .pointer (some ⟨g, 0, none⟩)) (ht : tmps.getD t undef = v)
    (hB : Blk w g 56 [x, y]) (hR : R (.returned (.tuple #[.agg #[x, y], v])) w) : bodyPost Tryz.prog fn R .ret { tmps, defers := [] } w := by
  refine bodyPost_ret (v := .tuple #[.agg #[x, y], v]) ?_ rfl hR
  have hl := run_loadVar_row (P := Tryz.prog) (ty := 56) w g 56 #[x, y] (0, 0) _ hB Tryz.underlying56 rfl (by kernel_rfl)
  rw [results_cell_tmp h]
  simp only [hp, ht, asAddr, Sem.run_pure, Result.andThen_ok, hl]
theorem ret_share {fn : Func} {p t : Tmp} {R : Ending → World → Prop} {tmps : Array Value} {w : World} {g : Nat} {x y v : Value} (h : fn.results = #[.cell p 64, .tmp t]) (hp : tmps.getD p undef = .pointer (some ⟨g, 0, none⟩)) (ht : tmps.getD t undef = v)
    (hB : Blk w g 64 [x, y]) (hR : R (.returned (.tuple #[.agg #[x, y], v])) w) : bodyPost Tryz.prog fn R .ret { tmps, defers := [] } w := by
  refine bodyPost_ret (v := .tuple #[.agg #[x, y], v]) ?_ rfl hR
  have hl := run_loadVar_row (P := Tryz.prog) (ty := 64) w g 64 #[x, y] (0, 0) _ hB Tryz.underlying64 rfl (by kernel_rfl)
  rw [results_cell_tmp h]
  simp only [hp, ht, asAddr, Sem.run_pure, Result.andThen_ok, hl]

/-! ### The polynomials -/
/-- A first number and some more, below q. -/
def dvF (q S : Nat) (l : List Nat) (i : Nat) : List Nat := S % q :: (l.take i).map (· % q)
theorem dvF_length {q S : Nat} {l : List Nat} {i : Nat} (hi : i ≤ l.length) : (dvF q S l i).length = i + 1 := by simp [dvF]; omega
theorem dvF_succ {q S : Nat} {l : List Nat} {i : Nat} (hi : i < l.length) : dvF q S l (i + 1) = dvF q S l i ++ [l.getD i 0 % q] := by
  have hg : l.getD i 0 = l[i] := by rw [List.getD_eq_getElem?_getD, List.getElem?_eq_getElem hi]; rfl
  unfold dvF
  rw [List.take_succ_eq_append_getElem hi, List.map_append, hg]
  rfl

theorem GE.addRow {w wr : World} {s : Nat} {v : Value} {ns : List Nat} {L : List Itm} {F : List (World → Prop)} (h : GE w wr s L F) (ho : NatsOwn wr s v ns) (hap : ∀ (i : Nat) (t : Itm) (k : Nat), L[i]? = some t → v.ownBlock = some k → t.1 ≠ some k) : GE w wr s (L ++ [rowI s v ns]) F := by
  refine ⟨h.bel, ?_, ?_, h.stay, h.fact, h.base⟩
  · intro i u hi
    rcases NE.key hi with ⟨_, hi⟩ | ⟨_, rfl⟩
    · exact h.its i u hi
    · exact ⟨ho, fun j hj => ⟨(ho.lt hj).1, (ho.lt hj).2, ho.ety hj⟩, rowI_stays _ _ _⟩
  · intro i j p q hi hj hne m hp hq
    rcases NE.key hi with ⟨li, hi1⟩ | ⟨li, rfl⟩ <;> rcases NE.key hj with ⟨lj, hj1⟩ | ⟨lj, rfl⟩
    · exact h.apart i j p q hi1 hj1 hne m hp hq
    · exact hap i p m hi1 hq hp
    · exact hap j q m hj1 hp hq
    · omega
theorem NatsAt.kt {B : Nat} {T : TypeId} {w w' : World} {a : Option Addr} {ns : List Nat} (hn : 36 ≠ T) (hu : 106 ≠ T) (h : NatsAt w a ns) (k : KT B T w w') : NatsAt w' a ns := by
  obtain ⟨vs, h1, h2, h3⟩ := h
  refine ⟨vs, h1, k.rd hn h2, fun i hi => ?_⟩
  obtain ⟨x, l, c, e, h4⟩ := h3 i hi
  exact ⟨x, l, c, e, h4.kt hu k⟩
/-- What New tells. -/
def DealPost (Vs Ms : List Nat) (t : Nat) (w : World) (e : Ending) (w' : World) : Prop := ∃ (va : Option Addr) (ca : Nat) (vb : Option Addr) (cb : Nat), e = .returned (.tuple #[.agg #[.slice va t ca, .slice vb t cb], .int .i64 0]) ∧ (t : Int) ≤ ca ∧ (t : Int) ≤ cb ∧ NatsAt w' va Vs ∧ NatsAt w' vb Ms ∧ Below w.heap.size w w'

/-! ### The first region, by facts -/
def tabN (r : Nat) (sv rv : Value) (n m : Nat) : List (Fk KpN) := [.val (.pointer (some ⟨r, 0, none⟩)), .val sv, Fk.nat (fun _ _ h => h) n, .any, .val (.pointer (some ⟨r, 0, none⟩)), .val rv, Fk.nat (fun _ _ h => h) m, .any, .any, .any, .any]
def dstN : List (Option Tmp) := [some 30, some 31, some 32, some 33, some 34, some 35, some 36, some 37, some 38, some 13, none]
def preN : List (List Nat) := [[], [], [0, 1], [0, 1, 2], [], [], [0, 1, 2, 4, 5], [0, 1, 2, 4, 5, 6], [0, 1, 2, 3, 4, 5, 6, 7], [], [0, 1, 2, 3, 4, 5, 6, 7, 8, 9]]
def maskN : List Bool := [false, false, false, false, false, false, false, false, false, false, false, false, false, true, false, false, false, false, false, false, false, false, false, false, false, false, false, false, false, false, true, true, true, true, true, true, true, true, true, false, false, false, false, false, false, false, false, false, false, false, false, false, false, false, false, false, false, false, false, false, false, false, false, false, false, false, false, false, false, false, false]

set_option maxRecDepth 100000 in
set_option maxHeartbeats 8000000 in
theorem dnew_any (g P Q G H sz t : Nat) (sa : Option Addr) (sl sc S : Nat) (ra : Option Addr) (rl rc R : Nat) (a : Option Addr) (len cap : Nat) (l : List Nat) (w : World) (hg : GroupAt w g P Q G H sz) (h1 : 1 ≤ t) (h2 : t ≤ 64) (hS : NatS w sa sl S) (hR : NatS w ra rl R)
    (h : NatsAt w a l) (hl : l.length = len) (hcc : (len : Int) ≤ cap) (hc : (len : Int) ≤ 10000) (hlen : 2 * t ≤ len + 2) :
    Calls Tryz.prog 66 #[.pointer (some ⟨g, 0, none⟩), .int .i64 (t : Int), .agg #[.slice sa sl sc], .agg #[.slice ra rl rc], .slice a len cap] w (DealPost (dvF Q S l (t - 1)) (dvF Q R (l.drop (t - 1)) (t - 1)) t w) := by
  obtain ⟨s, hs⟩ : ∃ s, s = w.heap.size := ⟨_, rfl⟩
  have hbA := (Below.refl _ w).alloc (Nat.le_refl _) (Obj.cells #[Value.slice sa sl sc] 36)
  have hbB : BB w ((w.alloc (Obj.cells #[Value.slice sa sl sc] 36)).alloc (Obj.cells #[Value.slice ra rl rc] 36)) := BB.alloc hbA
  have hbC : BB w (((w.alloc (Obj.cells #[Value.slice sa sl sc] 36)).alloc (Obj.cells #[Value.slice ra rl rc] 36)).alloc (Obj.cells #[Value.slice none 0 0, Value.slice none 0 0] 56)) := BB.alloc hbB
  have E1 := ((GE.init w s hs).alloc s hs hS (c := sc)).alloc (s + 1) (by rw [hs]; simp) (hR.below hbA) (c := rc)
  have HE1 := Lib.hid (E1.below ((Below.refl _ _).alloc (Nat.le_refl _) (Obj.cells #[Value.slice none 0 0, Value.slice none 0 0] 56)))
  have HO1 : Hid (Blk (((w.alloc (Obj.cells #[Value.slice sa sl sc] 36)).alloc (Obj.cells #[Value.slice ra rl rc] 36)).alloc (Obj.cells #[Value.slice none 0 0, Value.slice none 0 0] 56)) (s + 1 + 1) 56 [.slice none 0 0, .slice none 0 0]) := Blk.new' _ [.slice none 0 0, .slice none 0 0] _ (s + 1 + 1) (by rw [hs]; simp)
  have HG1 := Lib.hid (hg.below hbC)
  have HD := Lib.hid h
  have HL := Lib.hid hl
  have HS := Lib.hid hs
  have HT := Lib.hid (And.intro h1 (And.intro h2 hlen))
  obtain ⟨u, hu⟩ : ∃ u, t = u + 1 := ⟨t - 1, by omega⟩
  have HU := Lib.hid hu
  have htu : t - 1 = u := by omega
  rw [htu]
  obtain ⟨m, hm⟩ : ∃ m, l.drop u = m := ⟨_, rfl⟩
  rw [hm]
  have HML : Hid (m.length = len - u) := by show _ = _; rw [← hm, List.length_drop, hl]
  have HMG : Hid (∀ i, m.getD i 0 = l.getD (u + i) 0) := by intro i; rw [← hm, List.getD_eq_getElem?_getD, List.getElem?_drop, List.getD_eq_getElem?_getD]
  have w1 : IntKind.i64.wrap (2 * (t : Int)) = 2 * (t : Int) := i64_small _ (by omega) (by omega)
  have w2 : IntKind.i64.wrap (2 * (t : Int) - 2) = 2 * (t : Int) - 2 := i64_small _ (by omega) (by omega)
  have w3 : IntKind.i64.wrap ((t : Int) - 1) = (u : Int) := by rw [i64_small _ (by omega) (by omega)]; omega
  have hnl : ¬ (len : Int) < 2 * (t : Int) - 2 := by omega
  have dnl : decide ((len : Int) < 2 * (t : Int) - 2) = false := decide_eq_false hnl
  have hu64 : (u : Int) ≤ 63 := by omega
  have hul : 2 * (u : Int) ≤ len := by omega
  clear hg h1 h2 hS hR h hl hlen hu hm htu E1 hbA hbB hbC
  go_enter Tryz.func66, Tryz.ntmps66
  go_wp2_with fail
  rw [← hs]
  clear hs
  generalize ((w.alloc (Obj.cells #[Value.slice sa sl sc] 36)).alloc (Obj.cells #[Value.slice ra rl rc] 36)).alloc (Obj.cells #[Value.slice none 0 0, Value.slice none 0 0] 56) = w4 at HE1 HO1 HG1 ⊢
  refine (wrong_no g t w4 HT.out.1 HT.out.2.1).mono ?_
  rintro e w5 ⟨rfl, hb5⟩
  have HE5 := Lib.hid (HE1.out.below hb5)
  have HO5 := Lib.hid (HO1.out.below hb5 HO1.out.lt)
  have HG5 := Lib.hid (HG1.out.below hb5)
  clear hb5 HE1 HO1 HG1
  go_wp2_with fail
  refine (gfield_any g P Q G H sz w5 HG5.out).mono ?_
  rintro e w6 ⟨r, rfl, hr, hb6⟩
  have HE6 := Lib.hid (((HE5.out.below hb6).add (P := fun w => RingAt w r Q) (ringAt_stays (by decide) (by decide)) hr).add (P := fun w => Blk w (s + 1 + 1) 56 [.slice none 0 0, .slice none 0 0]) (blk_stays (by decide)) (HO5.out.below hb6 HO5.out.lt))
  have HR3 := Lib.hid hr
  obtain ⟨sa, sl, sc, gA, NA⟩ := HE6.out.get 0 rfl
  obtain ⟨ra, rl, rc, gB, NB1⟩ := HE6.out.get 1 rfl
  have HSN := Lib.hid NA
  have HRN := Lib.hid NB1
  clear hb6 HE5 HO5 HG5 hr w1 w2 hnl dnl NA NB1
  go_wp2_with fail
  refine wp_region_mixB (BD w6 (S % Q) (R % Q)) (GF (tabN r (.agg #[.slice sa sl sc]) (.agg #[.slice ra rl rc]) (S % Q) (R % Q))) maskN dstN preN (by kernel_rfl) (by kernel_rfl) rfl (by kernel_rfl) (by kernel_rfl) (by kernel_rfl) (by kernel_rfl) (BD.init (BB.drew (BB.refl _))) ?_ ?_
  · refine StepsMB.cons (fun l g' wu hB hl hn hp K hK => ?_) ?_
    · simp only [mkM, maskN, mixM, Nat.reduceAdd] at hK ⊢; simp only [Act.put, List.setIfInBounds_toArray, List.set_cons_zero, List.set_cons_succ] at hK; go_simp; exact hK.out _ _ (hB.step 0 30 (by decide) (by decide) (Below.refl _ _)) GF.same rfl
    refine StepsMB.cons (fun l g' wu hB hl hn hp K hK => ?_) ?_
    · have hc := gA _ hB.bb; simp only [mkM, maskN, mixM, Nat.reduceAdd] at hK ⊢; simp only [Act.put, List.setIfInBounds_toArray, List.set_cons_zero, List.set_cons_succ] at hK; go_simp; exact hK.out _ _ (hB.step 1 31 (by decide) (by decide) (Below.refl _ _)) GF.same rfl
    refine StepsMB.cons (fun l g' wu hB hl hn hp K hK => ?_) ?_
    · have e0 : g' 30 = .pointer (some ⟨r, 0, none⟩) := (hp 0 (by decide)).2; have e1 : g' 31 = .agg #[.slice sa sl sc] := (hp 1 (by decide)).2; simp only [mkM, maskN, mixM, Nat.reduceAdd, e0, e1] at hK ⊢; clear e0 e1; simp only [Act.put, List.setIfInBounds_toArray, List.set_cons_zero, List.set_cons_succ] at hK; go_simp; go_at_call 25; refine (of_s r Q sa sl sc S _ (HR3.out.below hB.bb) (HSN.out.below hB.bb)).mono ?_; rintro e w7 ⟨ta, tl, tc, rfl, hx, hb⟩; go_wp2_with fail; exact hK.out _ _ (hB.step 2 32 (by decide) (by decide) hb) (GF.below hb) ⟨ta, tl, tc, rfl, hx⟩
    refine StepsMB.cons (fun l g' wu hB hl hn hp K hK => ?_) ?_
    · obtain ⟨x2, l2, c2, e2, h2⟩ := (hp 2 (by decide)).2; have e2 : g' 32 = .agg #[.slice x2 l2 c2] := e2; simp only [mkM, maskN, mixM, Nat.reduceAdd, e2] at hK ⊢; clear e2; simp only [Act.put, List.setIfInBounds_toArray, List.set_cons_zero, List.set_cons_succ] at hK; go_simp; exact hK.out _ _ (hB.row3 h2 (hn 8 (by decide)) (hn 10 (by decide))) GF.alloc trivial
    refine StepsMB.cons (fun l g' wu hB hl hn hp K hK => ?_) ?_
    · simp only [mkM, maskN, mixM, Nat.reduceAdd] at hK ⊢; simp only [Act.put, List.setIfInBounds_toArray, List.set_cons_zero, List.set_cons_succ] at hK; go_simp; exact hK.out _ _ (hB.step 4 34 (by decide) (by decide) (Below.refl _ _)) GF.same rfl
    refine StepsMB.cons (fun l g' wu hB hl hn hp K hK => ?_) ?_
    · have hc := gB _ hB.bb; simp only [mkM, maskN, mixM, Nat.reduceAdd] at hK ⊢; simp only [Act.put, List.setIfInBounds_toArray, List.set_cons_zero, List.set_cons_succ] at hK; go_simp; exact hK.out _ _ (hB.step 5 35 (by decide) (by decide) (Below.refl _ _)) GF.same rfl
    refine StepsMB.cons (fun l g' wu hB hl hn hp K hK => ?_) ?_
    · have e0 : g' 34 = .pointer (some ⟨r, 0, none⟩) := (hp 4 (by decide)).2; have e1 : g' 35 = .agg #[.slice ra rl rc] := (hp 5 (by decide)).2; simp only [mkM, maskN, mixM, Nat.reduceAdd, e0, e1] at hK ⊢; clear e0 e1; simp only [Act.put, List.setIfInBounds_toArray, List.set_cons_zero, List.set_cons_succ] at hK; go_simp; go_at_call 25; refine (of_s r Q ra rl rc R _ (HR3.out.below hB.bb) (HRN.out.below hB.bb)).mono ?_; rintro e w7 ⟨ta, tl, tc, rfl, hx, hb⟩; go_wp2_with fail; exact hK.out _ _ (hB.step 6 36 (by decide) (by decide) hb) (GF.below hb) ⟨ta, tl, tc, rfl, hx⟩
    refine StepsMB.cons (fun l g' wu hB hl hn hp K hK => ?_) ?_
    · obtain ⟨x2, l2, c2, e2, h2⟩ := (hp 6 (by decide)).2; have e2 : g' 36 = .agg #[.slice x2 l2 c2] := e2; simp only [mkM, maskN, mixM, Nat.reduceAdd, e2] at hK ⊢; clear e2; simp only [Act.put, List.setIfInBounds_toArray, List.set_cons_zero, List.set_cons_succ] at hK; go_simp; exact hK.out _ _ (hB.row7 h2 (hn 8 (by decide)) (hn 10 (by decide))) GF.alloc trivial
    refine StepsMB.cons (fun l g' wu hB hl hn hp K hK => ?_) ?_
    · obtain ⟨k, e1, _⟩ := hB.r3 (hp 3 (by decide)).1; obtain ⟨k', e2, _⟩ := hB.r7 (hp 7 (by decide)).1; have E1 := Lib.hid e1; have E2 := Lib.hid e2; simp only [mkM, maskN, mixM, Nat.reduceAdd, e1, e2] at hK ⊢; clear e1 e2; simp only [Act.put, List.setIfInBounds_toArray, List.set_cons_zero, List.set_cons_succ] at hK; go_simp; exact hK.out _ _ (hB.agg8 E1.out E2.out (hn 10 (by decide))) GF.same trivial
    refine StepsMB.cons (fun l g' wu hB hl hn hp K hK => ?_) ?_
    · simp only [mkM, maskN, mixM, Nat.reduceAdd] at hK ⊢; simp only [Act.put, List.setIfInBounds_toArray, List.set_cons_zero, List.set_cons_succ] at hK; go_simp; exact hK.out _ _ (hB.new9 (hn 10 (by decide))) GF.alloc trivial
    refine StepsMB.cons (fun l g' wu hB hl hn hp K hK => ?_) ?_
    · obtain ⟨D, e0, hD, hBn, _⟩ := hB.r9 (hp 9 (by decide)).1; obtain ⟨k, k', e1, e2, e3⟩ := hB.r8 (hp 8 (by decide)).1; have E0 := Lib.hid e0; have E1 := Lib.hid e1; have E2 := Lib.hid e2; have HBk := Lib.hid (hBn hl); have HDD := Lib.hid hD; have q0 := HBk.out.cell 0; have q1 := HBk.out.cell 1; have f0 := HBk.out.frozen 0; have f1 := HBk.out.frozen 1; simp only [List.getElem?_cons_zero, List.getElem?_cons_succ] at q0 q1; clear hBn hD e1 e2; simp only [mkM, maskN, mixM, Nat.reduceAdd, e0, e3] at hK ⊢; clear e0 e3; simp only [Act.put, List.setIfInBounds_toArray, List.set_cons_zero, List.set_cons_succ] at hK; go_simp; exact hK.out undef _ (hB.set10 E0.out HDD.out HBk.out E1.out E2.out) (GF.kept rfl (fun _ _ _ hn => (hn.set HBk.out 0 _).set (HBk.out.set 0 _) 1 _)) trivial
    exact StepsMB.nil
  intro lb g' wu hall hB _
  obtain ⟨D, e0, hD, _, hBD⟩ := hB.r9 (hall 9 (by decide))
  obtain ⟨k, e1, ho1⟩ := hB.r3 (hall 3 (by decide))
  obtain ⟨k', e2, ho2⟩ := hB.r7 (hall 7 (by decide))
  have hne := hB.ne (hall 3 (by decide)) (hall 7 (by decide))
  have hBD := hBD (hall 10 (by decide))
  rw [e1, e2] at hBD hne
  rw [e1] at ho1
  rw [e2] at ho2
  have HE7 : Hid (GE w wu s [boxI s S, boxI (s + 1) R, rowI s (.slice (some ⟨k, 0, none⟩) (0 + 1) 1) (dvF Q S l 0), rowI s (.slice (some ⟨k', 0, none⟩) (0 + 1) 1) (dvF Q R m 0)] [fun w => RingAt w r Q, fun w => Blk w (s + 1 + 1) 56 [.slice none 0 0, .slice none 0 0], fun w => Blk w D 56 [.slice (some ⟨k, 0, none⟩) (0 + 1) 1, .slice (some ⟨k', 0, none⟩) (0 + 1) 1]]) := by
    have h1 := ((HE6.out.pushRow hB.bb ho1).addRow (ho2.base HE6.out.base) (fun i t m hi hm ht => ?_)).add (P := fun w => Blk w D 56 [.slice (some ⟨k, 0, none⟩) 1 1, .slice (some ⟨k', 0, none⟩) 1 1]) (blk_stays (by decide)) hBD
    · exact h1
    · have hm' := (ho2.lt hm).1
      match i, hi with
      | 0, hi => obtain rfl := Option.some.inj hi; have := ((HE6.out.its 0 _ rfl).2.1 m ht).2.1; omega
      | 1, hi => obtain rfl := Option.some.inj hi; have := ((HE6.out.its 1 _ rfl).2.1 m ht).2.1; omega
      | 2, hi => obtain rfl := Option.some.inj hi; exact hne (ht.trans hm.symm)
      | n + 3, hi => simp at hi
  have HDS : Hid (s + 1 + 1 < D) := Nat.lt_of_lt_of_le (show Blk w6 (s + 1 + 1) _ _ from HE6.out.has 1 rfl).lt hD
  simp only [mkM, maskN, mixM, Nat.reduceAdd, e0]
  clear hall hB hD hBD ho1 ho2 hne e0 e1 e2 HE6 HSN HRN HR3 gA gB
  go_wp2_with fail
  go_loopw [41] (fun iv wr => ∃ (i : Nat) (va vb : Value), (i : Int) ≤ u ∧ iv = .int .i64 (i : Int) ∧ Hid (GE w wr s [boxI s S, boxI (s + 1) R, rowI s va (dvF Q S l i), rowI s vb (dvF Q R m i)] [fun w => RingAt w r Q, fun w => Blk w (s + 1 + 1) 56 [.slice none 0 0, .slice none 0 0], fun w => Blk w D 56 [va, vb]])) (fun iv _ => u - (intOf iv).toNat)
  case atStart => exact ⟨0, _, _, by omega, rfl, HE7.out⟩
  case round =>
    clear HE7
    obtain ⟨i, va, vb, hi, rfl, HE⟩ := hrel
    by_cases hlt : (i : Int) < u
    · have hil : i < l.length := by rw [HL.out]; omega
      have hil2 : u + i < l.length := by rw [HL.out]; omega
      have him : i < m.length := by rw [HML.out]; omega
      obtain ⟨V, hV⟩ : ∃ V, dvF Q S l i = V := ⟨_, rfl⟩
      obtain ⟨M, hM⟩ : ∃ M, dvF Q R m i = M := ⟨_, rfl⟩
      obtain ⟨x, hx⟩ : ∃ x, l.getD i 0 = x := ⟨_, rfl⟩
      obtain ⟨y, hy⟩ : ∃ y, l.getD (u + i) 0 = y := ⟨_, rfl⟩
      obtain ⟨n, hn⟩ : ∃ n, n = i + 1 := ⟨_, rfl⟩
      have HVL : Hid (V.length = n) := by show _ = _; rw [← hV, dvF_length (by omega), hn]
      have HMM : Hid (M.length = n) := by show _ = _; rw [← hM, dvF_length (by omega), hn]
      obtain ⟨n1, hn1⟩ : ∃ n1, n1 = n + 1 := ⟨_, rfl⟩
      have HL1 : Hid ((V ++ [x % Q]).length = n1) := by show _ = _; rw [List.length_append, HVL.out, hn1]; rfl
      have HL2 : Hid ((M ++ [y % Q]).length = n1) := by show _ = _; rw [List.length_append, HMM.out, hn1]; rfl
      have HVS : Hid (dvF Q S l (i + 1) = V ++ [x % Q]) := by show _ = _; rw [dvF_succ hil, hV, hx]
      have HMS : Hid (dvF Q R m (i + 1) = M ++ [y % Q]) := by show _ = _; rw [dvF_succ him, hM, HMG.out, hy]
      have HXX := Lib.hid hx
      have HYY := Lib.hid hy
      have HNN : Hid ((n : Int) ≤ 1000) := by show (_ : Int) ≤ _; omega
      have HIL := Lib.hid hil
      have HIL2 := Lib.hid hil2
      rw [hV, hM] at HE
      have hb0 : BB w wr := by have := HE.out.bel; rw [HS.out] at this; exact this
      obtain ⟨ad, xa, xl, xc, hadr, _, cx, Nx⟩ := (HD.out.below hb0).get hil
      subst hadr
      rw [hx] at Nx
      obtain ⟨oa, oc, rfl, _, _, _, _⟩ := (HE.out.row 2 rfl).form
      obtain ⟨pa, pc, rfl, _, _, _, _⟩ := (HE.out.row 3 rfl).form
      rw [HVL.out, HMM.out] at HE
      have gX : ∀ w', BB wr w' → w'.cell? (ad.add i) = some (.slice xa xl xc) := fun w' h => (h.cell (World.block_lt_of_cell? _ _ cx)).trans cx
      have hBD : Blk wr D 56 [.slice oa n oc, .slice pa n pc] := HE.out.has 2 rfl
      have gD : ∀ w', BB wr w' → w'.cell? ⟨D, 0, none⟩ = some (.slice oa n oc) := fun w' h => (h.cell hBD.lt).trans (hBD.cell 0)
      have HX := Lib.hid Nx
      have HR := Lib.hid (show RingAt wr r Q from HE.out.has 0 rfl)
      have bi0 : (0 : Int) ≤ (i : Int) := by omega
      have bi1 : (i : Int) < (len : Int) := by omega
      have bi2 : (i : Int) ≤ (cap : Int) := by omega
      clear hil hil2 him hV hM hx hy hn hb0 Nx cx hBD hn1
      go_wp2_with fail
      go_cut [41] from 41 to 69 (fun t41 wx => ∃ v' : Value, t41 = .int .i64 (i : Int) ∧ Hid (GE w wx s [boxI s S, boxI (s + 1) R, rowI s v' (V ++ [x % Q]), rowI s (.slice pa n pc) M] [fun w => RingAt w r Q, fun w => Blk w (s + 1 + 1) 56 [.slice none 0 0, .slice none 0 0], fun w => Blk w D 56 [v', .slice pa n pc]]))
      case first =>
        have q0 := gD wr.drew (BB.drew (BB.refl _))
        have x0 := gX wr.drew (BB.drew (BB.refl _))
        go_region_law
          (first
            | (refine step_append_nat rfl (.tmp 45) (.tmp 52) rfl s _ V rfl (HE12.out.row 2 rfl) ⟨w11.heap.size, 0, none⟩ 1 _ ta tl tc rfl cR HT12.out (by rw [HVL.out]; have := HNN.out; omega) HE12.out.base ?_; intro v' w13 hown hgr hf; obtain ⟨na, nc, he, _, _, _, _⟩ := hown.form; rw [HL1.out] at he; subst he; have HE13 := Lib.hid (HE12.out.append 2 rfl hgr hf hown); have q13 := (show Blk w13 D 56 [.slice oa n oc, .slice pa n pc] from HE13.out.has 2 rfl).cell 0; have f13 := (show Blk w13 D 56 [.slice oa n oc, .slice pa n pc] from HE13.out.has 2 rfl).frozen 0; simp only [List.getElem?_cons_zero] at q13; clear hown hgr hf)
            | (go_simp; go_at_call 25; refine (of_s r Q xa xl xc x wr.drew HR.out.drew HX.out.drew).mono ?_; rintro e w11 ⟨ta, tl, tc, rfl, ht, hb11⟩; have hbb11 : BB wr w11 := BB.step (BB.drew (BB.refl wr)) hb11; have q11 := gD _ hbb11; have hbx := (Below.refl _ w11).alloc (Nat.le_refl _) (Obj.cells #[Value.slice ta tl tc] 36); have q12 := gD _ (BB.step hbb11 hbx); have HT12 := Lib.hid (ht.below hbx); have HE12 := Lib.hid ((HE.out.below hbb11).below hbx); have cR := (Blk.new w11 [Value.slice ta tl tc] 36).cell 0; simp only [List.getElem?_cons_zero] at cR; clear ht hb11 hbx))
        all_goals (
          have hB13 : Blk w13 D 56 [.slice oa n oc, .slice pa n pc] := HE13.out.has 2 rfl
          have kt := KT.set hB13 (Nat.le_trans (by omega) (Nat.le_of_lt HDS.out) : s ≤ D) 0 (.slice na n1 nc)
          have HE14 := Lib.hid (GE.other HE13.out (by decide) hB13 (Nat.le_trans (by omega) (Nat.le_of_lt HDS.out)) 0 (.slice na n1 nc) (L4_O (by decide) (by decide)) (F3_O ((show RingAt w13 r Q from HE13.out.has 0 rfl).kt (by decide) (by decide) kt) ((show Blk w13 (s + 1 + 1) 56 [.slice none 0 0, .slice none 0 0] from HE13.out.has 1 rfl).other ⟨D, 0, none⟩ (.slice na n1 nc) (Nat.ne_of_lt HDS.out)) (hB13.set 0 (.slice na n1 nc))))
          clear kt hB13
          go_wp2_with fail
          go_meet
          exact ⟨.slice na n1 nc, rfl, HE14.out⟩)
      case rest =>
        obtain ⟨v', rfl, HE2⟩ := hcut
        clear HE HR HX gX gD
        have hb0 : BB w wc := by have := HE2.out.bel; rw [HS.out] at this; exact this
        obtain ⟨_, ya, yl, yc, he, _, cy, Ny⟩ := (HD.out.below hb0).get HIL2.out
        injection he with he
        subst he
        rw [HYY.out] at Ny
        obtain ⟨mm, hmm⟩ : ∃ mm, mm = u + i := ⟨_, rfl⟩
        rw [← hmm] at cy
        have gY : ∀ w', BB wc w' → w'.cell? (ad.add mm) = some (.slice ya yl yc) := fun w' h => (h.cell (World.block_lt_of_cell? _ _ cy)).trans cy
        have hBD : Blk wc D 56 [v', .slice pa n pc] := HE2.out.has 2 rfl
        have gD : ∀ w', BB wc w' → w'.cell? ⟨D, 1, none⟩ = some (.slice pa n pc) := fun w' h => (h.cell hBD.lt).trans (hBD.cell 1)
        have HX := Lib.hid Ny
        have HR := Lib.hid (show RingAt wc r Q from HE2.out.has 0 rfl)
        have hw : IntKind.i64.wrap ((u : Int) + (i : Int)) = (u : Int) + (i : Int) := i64_small _ (by omega) (by omega)
        have ht : ((u : Int) + (i : Int)).toNat = mm := by omega
        have hi0 : (0 : Int) ≤ (u : Int) + (i : Int) := by omega
        have hi1 : (u : Int) + (i : Int) < (len : Int) := by omega
        have hi2 : (u : Int) + (i : Int) ≤ (cap : Int) := by omega
        clear hb0 Ny cy hBD hmm
        have q0 := gD wc.drew (BB.drew (BB.refl _))
        have x0 := gY wc.drew (BB.drew (BB.refl _))
        go_wp2_with fail
        go_region_law
          (first
            | (refine step_append_nat rfl (.tmp 56) (.tmp 66) rfl s _ M rfl (HE12.out.row 3 rfl) ⟨w11.heap.size, 0, none⟩ 1 _ ta tl tc rfl cR HT12.out (by rw [HMM.out]; have := HNN.out; omega) HE12.out.base ?_; intro v2 w13 hown hgr hf; obtain ⟨na, nc, he, _, _, _, _⟩ := hown.form; rw [HL2.out] at he; subst he; have HE13 := Lib.hid (HE12.out.append 3 rfl hgr hf hown); have q13 := (show Blk w13 D 56 [v', .slice pa n pc] from HE13.out.has 2 rfl).cell 1; have f13 := (show Blk w13 D 56 [v', .slice pa n pc] from HE13.out.has 2 rfl).frozen 1; simp only [List.getElem?_cons_zero, List.getElem?_cons_succ] at q13; clear hown hgr hf)
            | (go_simp; go_at_call 25; refine (of_s r Q ya yl yc y wc.drew HR.out.drew HX.out.drew).mono ?_; rintro e w11 ⟨ta, tl, tc, rfl, ht1, hb11⟩; have hbb11 : BB wc w11 := BB.step (BB.drew (BB.refl wc)) hb11; have q11 := gD _ hbb11; have hbx := (Below.refl _ w11).alloc (Nat.le_refl _) (Obj.cells #[Value.slice ta tl tc] 36); have q12 := gD _ (BB.step hbb11 hbx); have HT12 := Lib.hid (ht1.below hbx); have HE12 := Lib.hid ((HE2.out.below hbb11).below hbx); have cR := (Blk.new w11 [Value.slice ta tl tc] 36).cell 0; simp only [List.getElem?_cons_zero] at cR; clear ht1 hb11 hbx))
        all_goals (
          have hB13 : Blk w13 D 56 [v', .slice pa n pc] := HE13.out.has 2 rfl
          have kt := KT.set hB13 (Nat.le_trans (by omega) (Nat.le_of_lt HDS.out) : s ≤ D) 1 (.slice na n1 nc)
          have HE14 := Lib.hid (GE.other HE13.out (by decide) hB13 (Nat.le_trans (by omega) (Nat.le_of_lt HDS.out)) 1 (.slice na n1 nc) (L4_O (by decide) (by decide)) (F3_O ((show RingAt w13 r Q from HE13.out.has 0 rfl).kt (by decide) (by decide) kt) ((show Blk w13 (s + 1 + 1) 56 [.slice none 0 0, .slice none 0 0] from HE13.out.has 1 rfl).other ⟨D, 1, none⟩ (.slice na n1 nc) (Nat.ne_of_lt HDS.out)) (hB13.set 1 (.slice na n1 nc))))
          clear kt hB13
          go_wp2_with fail
          go_roundw
          case rel => exact ⟨i + 1, v', .slice na n1 nc, by omega, by go_num, by rw [HVS.out, HMS.out]; exact HE14.out⟩
          case measure => simp [intOf]; omega)
    · have hi' : i = u := by omega
      subst hi'
      obtain ⟨oa, oc, rfl, ho1, _, hoa, _⟩ := (HE.out.row 2 rfl).form
      obtain ⟨pa, pc, rfl, hp1, _, hpa, _⟩ := (HE.out.row 3 rfl).form
      have e1 : (dvF Q S l i).length = t := by rw [dvF_length (by rw [HL.out]; omega)]; exact HU.out.symm
      have e2 : (dvF Q R m i).length = t := by rw [dvF_length (by rw [HML.out]; omega)]; exact HU.out.symm
      rw [e1] at HE ho1
      rw [e2] at HE hp1
      have hBD : Blk wr D 56 [.slice oa t oc, .slice pa t pc] := HE.out.has 2 rfl
      have hBO : Blk wr (s + 1 + 1) 56 [.slice none 0 0, .slice none 0 0] := HE.out.has 1 rfl
      have HBO := Lib.hid hBO
      have HOA := Lib.hid hoa
      have HPA := Lib.hid hpa
      have HO1 := Lib.hid ho1
      have HP1 := Lib.hid hp1
      have q0 := hBD.cell 0
      have q1 := hBD.cell 1
      have o0 := hBO.cell 0
      have o1 := hBO.cell 1
      have of0 := hBO.frozen 0
      have of1 := hBO.frozen 1
      simp only [List.getElem?_cons_zero, List.getElem?_cons_succ] at q0 q1 o0 o1
      clear hBD hBO hoa hpa ho1 hp1 e1 e2
      go_wp2_with fail
      have hB2 := (HBO.out.set 0 (.slice oa t oc)).set 1 (.slice pa t pc)
      have k1 : KT s 56 wr (wr.setCell ⟨s + 1 + 1, 0, none⟩ (.slice oa t oc)) := KT.set HBO.out (by omega) 0 _
      have k2 : KT s 56 (wr.setCell ⟨s + 1 + 1, 0, none⟩ (.slice oa t oc)) ((wr.setCell ⟨s + 1 + 1, 0, none⟩ (.slice oa t oc)).setCell ⟨s + 1 + 1, 1, none⟩ (.slice pa t pc)) := KT.set (HBO.out.set 0 (.slice oa t oc)) (by omega) 1 _
      refine ret_deal rfl rfl rfl hB2 ⟨oa, oc, pa, pc, rfl, ?_, ?_, ?_, ?_, ?_⟩
      · have := HO1.out; omega
      · have := HP1.out; omega
      · exact (HOA.out.kt (by decide) (by decide) k1).kt (by decide) (by decide) k2
      · exact (HPA.out.kt (by decide) (by decide) k1).kt (by decide) (by decide) k2
      · exact HS.out ▸ Below.setCell (Below.setCell HE.out.bel (p := ⟨s + 1 + 1, 0, none⟩) (by show s ≤ s + 1 + 1; omega) _) (p := ⟨s + 1 + 1, 1, none⟩) (by show s ≤ s + 1 + 1; omega) _
end Go.Proofs.YthefednendgclaaGreat
