import Derived.Test.YthefednendgclaaGreatNGE
set_option linter.unusedVariables false
set_option linter.unusedSimpArgs false
/-
  Boxes, one at a time: what is known of a box in a world that grew.
-/
namespace Go.Proofs.YthefednendgclaaGreat
open Go Go.RowKit Sac

def HasBox (w : World) (k : Nat) : Prop := ∃ v, Blk w k 36 [v]
theorem HasBox.new {w : World} {k : Nat} {v : Value} (hk : k = w.heap.size) : HasBox (w.alloc (Obj.cells #[v] 36)) k := ⟨v, Blk.new' w [v] _ k hk⟩
theorem HasBox.alloc {w : World} {k : Nat} {o : Obj} (h : HasBox w k) : HasBox (w.alloc o) k := by obtain ⟨v, h⟩ := h; exact ⟨v, h.alloc o⟩
theorem HasBox.set {w : World} {k j : Nat} {v : Value} (h : HasBox w k) : HasBox (w.setCell ⟨j, 0, none⟩ v) k := by
  obtain ⟨u, h⟩ := h
  by_cases hj : j = k
  · subst hj; exact ⟨v, h.set 0 v⟩
  · exact ⟨u, h.other ⟨j, 0, none⟩ v (fun e => hj e.symm)⟩
theorem natS_box {w : World} {j : Nat} {v : Value} {a : Option Addr} {l n : Nat} (hn : NatS w a l n) (h : HasBox w j) : NatS (w.setCell ⟨j, 0, none⟩ v) a l n := by
  obtain ⟨u, h⟩ := h; exact hn.set h 0 v
theorem natS_new {w : World} {a : Option Addr} {l n : Nat} {o : Obj} (hn : NatS w a l n) : NatS (w.alloc o) a l n := hn.below ((Below.refl _ w).alloc (Nat.le_refl _) _)
theorem NB.new {w : World} {k n : Nat} {a : Option Addr} {l c : Nat} (hn : NatS w a l n) (hk : k = w.heap.size) : NB (w.alloc (Obj.cells #[.slice a l c] 36)) k n := ⟨a, l, c, Blk.new' w _ _ k hk, natS_new hn⟩
theorem NB.alloc {w : World} {k n : Nat} {o : Obj} (h : NB w k n) : NB (w.alloc o) k n := h.below ((Below.refl _ w).alloc (Nat.le_refl _) _)
theorem NB.put {w : World} {k n : Nat} {a : Option Addr} {l c : Nat} (h : HasBox w k) (hn : NatS w a l n) : NB (w.setCell ⟨k, 0, none⟩ (.slice a l c)) k n := by
  obtain ⟨u, h⟩ := h; exact ⟨a, l, c, h.set 0 _, hn.set h 0 _⟩
theorem NB.other {w : World} {k j n : Nat} {v : Value} (h : NB w k n) (hj : HasBox w j) (hne : k ≠ j) : NB (w.setCell ⟨j, 0, none⟩ v) k n := by
  obtain ⟨u, hj⟩ := hj
  obtain ⟨a, l, c, h1, h2⟩ := h
  exact ⟨a, l, c, h1.other ⟨j, 0, none⟩ v (fun e => hne e), h2.set hj 0 v⟩

/-- A cell that is there stays, behind a new block; a rule for the walk. -/
theorem cell_alloc_old {w : World} {p : Addr} {o : Obj} (h : (w.cell? p).isSome = true) : (w.alloc o).cell? p = w.cell? p := World.cell?_alloc_some w p o h
theorem lt_of_some {w : World} {p : Addr} (h : (w.cell? p).isSome = true) : p.block < w.heap.size := by
  obtain ⟨v, hv⟩ := Option.isSome_iff_exists.1 h
  exact World.block_lt_of_cell? _ _ hv
theorem frozen_alloc_old {w : World} {p : Addr} {o : Obj} (h : (w.cell? p).isSome = true) : (w.alloc o).frozen? p = w.frozen? p := World.frozen?_of_block (Below.heap_alloc _ _ _ (lt_of_some h))
/-- The same, behind a call. -/
theorem BB.old {w w' : World} (h : Below w.heap.size w w') : ∀ p : Addr, (w.cell? p).isSome = true → w'.cell? p = w.cell? p := fun p hp => h.cell (lt_of_some hp)
theorem BB.oldf {w w' : World} (h : Below w.heap.size w w') : ∀ p : Addr, (w.cell? p).isSome = true → w'.frozen? p = w.frozen? p := fun p hp => World.frozen?_of_block (h.block _ (lt_of_some hp))
theorem cell_alloc_lt {w : World} {p : Addr} {o : Obj} (h : p.block < w.heap.size) : (w.alloc o).cell? p = w.cell? p := World.cell?_of_block (Below.heap_alloc _ _ _ h)
theorem frozen_alloc_lt {w : World} {p : Addr} {o : Obj} (h : p.block < w.heap.size) : (w.alloc o).frozen? p = w.frozen? p := World.frozen?_of_block (Below.heap_alloc _ _ _ h)
theorem le_two (n : Nat) : n ≤ n + 1 + 1 := by omega
theorem le_three (n : Nat) : n ≤ n + 1 + 1 + 1 := by omega
theorem lt_two (n : Nat) : n < n + 1 + 1 := by omega
theorem lt_three (n : Nat) : n < n + 1 + 1 + 1 := by omega
theorem lt_four (n : Nat) : n < n + 1 + 1 + 1 + 1 := by omega
theorem cell_new2 {w : World} {A : Obj} {cs : Array Value} {e : TypeId} {o : Nat} : ((w.alloc A).alloc (Obj.cells cs e)).cell? ⟨w.heap.size + 1, o, none⟩ = cs[o]? := by
  have := Blk.new' (w.alloc A) cs.toList e (w.heap.size + 1) (by simp)
  rw [Array.toArray_toList] at this
  rw [this.cell]; simp
theorem frozen_new2 {w : World} {A : Obj} {cs : Array Value} {e : TypeId} {o : Nat} : ((w.alloc A).alloc (Obj.cells cs e)).frozen? ⟨w.heap.size + 1, o, none⟩ = false := by
  have := Blk.new' (w.alloc A) cs.toList e (w.heap.size + 1) (by simp)
  rw [Array.toArray_toList] at this
  exact this.frozen o
theorem cell_new3 {w : World} {A B : Obj} {cs : Array Value} {e : TypeId} {o : Nat} : (((w.alloc A).alloc B).alloc (Obj.cells cs e)).cell? ⟨w.heap.size + 1 + 1, o, none⟩ = cs[o]? := by
  have := Blk.new' ((w.alloc A).alloc B) cs.toList e (w.heap.size + 1 + 1) (by simp)
  rw [Array.toArray_toList] at this
  rw [this.cell]; simp
theorem frozen_new3 {w : World} {A B : Obj} {cs : Array Value} {e : TypeId} {o : Nat} : (((w.alloc A).alloc B).alloc (Obj.cells cs e)).frozen? ⟨w.heap.size + 1 + 1, o, none⟩ = false := by
  have := Blk.new' ((w.alloc A).alloc B) cs.toList e (w.heap.size + 1 + 1) (by simp)
  rw [Array.toArray_toList] at this
  exact this.frozen o
/-- A box that still is as it was made. -/
def ZB (w : World) (k : Nat) : Prop := Blk w k 36 [.slice none 0 0]
theorem ZB.new {w : World} {k : Nat} (hk : k = w.heap.size) : ZB (w.alloc (Obj.cells #[.slice none 0 0] 36)) k := Blk.new' w _ _ k hk
theorem ZB.alloc {w : World} {k : Nat} {o : Obj} (h : ZB w k) : ZB (w.alloc o) k := Blk.alloc h o
theorem ZB.drew {w : World} {k : Nat} (h : ZB w k) : ZB w.drew k := h
theorem ZB.below {w w' : World} {k : Nat} (h : ZB w k) (hb : Below w.heap.size w w') : ZB w' k := Blk.below h hb (Blk.lt h)
theorem ZB.box {w : World} {k : Nat} (h : ZB w k) : HasBox w k := ⟨_, h⟩
theorem ZB.cell {w : World} {k : Nat} (h : ZB w k) : w.cell? ⟨k, 0, none⟩ = some (.slice none 0 0) := Blk.cell h 0
theorem ZB.frozen {w : World} {k : Nat} (h : ZB w k) : w.frozen? ⟨k, 0, none⟩ = false := Blk.frozen h 0
theorem have_in {p q : Prop} (h : p) (k : p → q) : q := k h
theorem zb_a {w w' : World} (h : Below (w.alloc (Obj.cells #[.slice none 0 0] 36)).heap.size (w.alloc (Obj.cells #[.slice none 0 0] 36)) w') : ZB w' (w.heap.size) := ZB.below (ZB.new (w := w) (k := w.heap.size) (by simp)) h
theorem zb_ad {w w' : World} (h : Below (w.alloc (Obj.cells #[.slice none 0 0] 36)).drew.heap.size (w.alloc (Obj.cells #[.slice none 0 0] 36)).drew w') : ZB w' (w.heap.size) := ZB.below (ZB.drew (ZB.new (w := w) (k := w.heap.size) (by simp))) h
theorem zb_b {w w' : World} {A : Obj} (h : Below ((w.alloc (Obj.cells #[.slice none 0 0] 36)).alloc A).heap.size ((w.alloc (Obj.cells #[.slice none 0 0] 36)).alloc A) w') : ZB w' (w.heap.size) := ZB.below (ZB.alloc (ZB.new (w := w) (k := w.heap.size) (by simp))) h
theorem zb_bd {w w' : World} {A : Obj} (h : Below ((w.alloc (Obj.cells #[.slice none 0 0] 36)).alloc A).drew.heap.size ((w.alloc (Obj.cells #[.slice none 0 0] 36)).alloc A).drew w') : ZB w' (w.heap.size) := ZB.below (ZB.drew (ZB.alloc (ZB.new (w := w) (k := w.heap.size) (by simp)))) h
theorem zb_c {w w' : World} {A : Obj} (h : Below ((w.alloc A).alloc (Obj.cells #[.slice none 0 0] 36)).heap.size ((w.alloc A).alloc (Obj.cells #[.slice none 0 0] 36)) w') : ZB w' (w.heap.size + 1) := ZB.below (ZB.new (w := (w.alloc A)) (k := w.heap.size + 1) (by simp)) h
theorem zb_cd {w w' : World} {A : Obj} (h : Below ((w.alloc A).alloc (Obj.cells #[.slice none 0 0] 36)).drew.heap.size ((w.alloc A).alloc (Obj.cells #[.slice none 0 0] 36)).drew w') : ZB w' (w.heap.size + 1) := ZB.below (ZB.drew (ZB.new (w := (w.alloc A)) (k := w.heap.size + 1) (by simp))) h
theorem zb_d {w w' : World} {A : Obj} {B : Obj} (h : Below (((w.alloc (Obj.cells #[.slice none 0 0] 36)).alloc A).alloc B).heap.size (((w.alloc (Obj.cells #[.slice none 0 0] 36)).alloc A).alloc B) w') : ZB w' (w.heap.size) := ZB.below (ZB.alloc (ZB.alloc (ZB.new (w := w) (k := w.heap.size) (by simp)))) h
theorem zb_dd {w w' : World} {A : Obj} {B : Obj} (h : Below (((w.alloc (Obj.cells #[.slice none 0 0] 36)).alloc A).alloc B).drew.heap.size (((w.alloc (Obj.cells #[.slice none 0 0] 36)).alloc A).alloc B).drew w') : ZB w' (w.heap.size) := ZB.below (ZB.drew (ZB.alloc (ZB.alloc (ZB.new (w := w) (k := w.heap.size) (by simp))))) h
theorem zb_e {w w' : World} {A : Obj} {B : Obj} (h : Below (((w.alloc A).alloc (Obj.cells #[.slice none 0 0] 36)).alloc B).heap.size (((w.alloc A).alloc (Obj.cells #[.slice none 0 0] 36)).alloc B) w') : ZB w' (w.heap.size + 1) := ZB.below (ZB.alloc (ZB.new (w := (w.alloc A)) (k := w.heap.size + 1) (by simp))) h
theorem zb_ed {w w' : World} {A : Obj} {B : Obj} (h : Below (((w.alloc A).alloc (Obj.cells #[.slice none 0 0] 36)).alloc B).drew.heap.size (((w.alloc A).alloc (Obj.cells #[.slice none 0 0] 36)).alloc B).drew w') : ZB w' (w.heap.size + 1) := ZB.below (ZB.drew (ZB.alloc (ZB.new (w := (w.alloc A)) (k := w.heap.size + 1) (by simp)))) h
theorem zb_f {w w' : World} {A : Obj} {B : Obj} (h : Below (((w.alloc A).alloc B).alloc (Obj.cells #[.slice none 0 0] 36)).heap.size (((w.alloc A).alloc B).alloc (Obj.cells #[.slice none 0 0] 36)) w') : ZB w' (w.heap.size + 1 + 1) := ZB.below (ZB.new (w := ((w.alloc A).alloc B)) (k := w.heap.size + 1 + 1) (by simp)) h
theorem zb_fd {w w' : World} {A : Obj} {B : Obj} (h : Below (((w.alloc A).alloc B).alloc (Obj.cells #[.slice none 0 0] 36)).drew.heap.size (((w.alloc A).alloc B).alloc (Obj.cells #[.slice none 0 0] 36)).drew w') : ZB w' (w.heap.size + 1 + 1) := ZB.below (ZB.drew (ZB.new (w := ((w.alloc A).alloc B)) (k := w.heap.size + 1 + 1) (by simp))) h
theorem zbi0 {w w' : World} {k : Nat} (q : ZB w k) (h : Below w.heap.size w w') : ZB w' k := q.below h
theorem zbi1 {w w' : World} {k : Nat} {A : Obj} (q : ZB w k) (h : Below (w.alloc A).heap.size (w.alloc A) w') : ZB w' k := (ZB.alloc q).below h
theorem zbi2 {w w' : World} {k : Nat} {A B : Obj} (q : ZB w k) (h : Below ((w.alloc A).alloc B).heap.size ((w.alloc A).alloc B) w') : ZB w' k := (ZB.alloc (ZB.alloc q)).below h
theorem zbi3 {w w' : World} {k : Nat} {A B C : Obj} (q : ZB w k) (h : Below (((w.alloc A).alloc B).alloc C).heap.size (((w.alloc A).alloc B).alloc C) w') : ZB w' k := (ZB.alloc (ZB.alloc (ZB.alloc q))).below h
end Go.Proofs.YthefednendgclaaGreat
/-
  Rows and boxes side by side.
-/
namespace Go.Proofs.YthefednendgclaaGreat
open Go Go.RowKit Sac

/-- A box behind an append to a row. -/
theorem GE.grownBox {w wr w' : World} {s k n : Nat} {L : List Itm} {F : List (World → Prop)} {v : Value} {ns : List Nat} (h : GE w wr s L F) (i : Nat) (hi : L[i]? = some (rowI s v ns)) (j : Nat) (hj : L[j]? = some (boxI k n)) (hne : i ≠ j) (hg : wr.grownBy w' v.ownBlock) : w'.cell? ⟨k, 0, none⟩ = wr.cell? ⟨k, 0, none⟩ :=
  World.cell?_of_block (hg.block k (h.lt j hj) (fun e => h.apart j i _ _ hj hi (Ne.symm hne) k rfl e.symm))
/-- One box more, that is there already. -/
theorem GE.addBox {w wr : World} {s k n : Nat} {L : List Itm} {F : List (World → Prop)} (h : GE w wr s L F) (hs : s ≤ k) (hn : NB wr k n) (hap : ∀ (i : Nat) (t : Itm), L[i]? = some t → t.1 ≠ some k) : GE w wr s (L ++ [boxI k n]) F := by
  refine ⟨h.bel, ?_, ?_, h.stay, h.fact, h.base⟩
  · intro i u hi
    rcases NE.key hi with ⟨_, hi⟩ | ⟨_, rfl⟩
    · exact h.its i u hi
    · refine ⟨hn, fun j hj => ?_, boxI_stays _ _ _⟩
      injection hj with hj
      subst hj
      obtain ⟨_, _, _, hB, _⟩ := hn
      exact ⟨hs, hB.lt, _, hB⟩
  · intro i j p q hi hj hne m hp hq
    rcases NE.key hi with ⟨li, hi1⟩ | ⟨li, rfl⟩ <;> rcases NE.key hj with ⟨lj, hj1⟩ | ⟨lj, rfl⟩
    · exact h.apart i j p q hi1 hj1 hne m hp hq
    · injection hq with hq
      subst hq
      exact hap i p hi1 hp
    · injection hp with hp
      subst hp
      exact hap j q hj1 hq
    · omega
/-- Two boxes that are new, known behind all. -/
theorem GE.two {w wr w' : World} {s B C n m : Nat} {L : List Itm} {F : List (World → Prop)} (h : GE w wr s L F) (hb : BB wr w') (hB : NB w' B n) (hC : NB w' C m) (hne : B ≠ C) (h1 : wr.heap.size ≤ B) (h2 : wr.heap.size ≤ C) : GE w w' s (L ++ [boxI B n] ++ [boxI C m]) F := by
  have hlt : ∀ (i : Nat) (t : Itm) (k : Nat), L[i]? = some t → t.1 = some k → k < wr.heap.size := fun i t k hi hk => ((h.its i t hi).2.1 k hk).2.1
  have hg := h.below hb
  refine (hg.addBox (Nat.le_trans h.base h1) hB fun i t hi hk => ?_).addBox (Nat.le_trans h.base h2) hC fun i t hi hk => ?_
  · have := hlt i t B hi hk; omega
  · rcases NE.key hi with ⟨_, hi⟩ | ⟨_, rfl⟩
    · have := hlt i t C hi hk; omega
    · injection hk with hk
      exact hne hk
/-- A box that is new, known behind all. -/
theorem GE.one {w wr w' : World} {s B n : Nat} {L : List Itm} {F : List (World → Prop)} (h : GE w wr s L F) (hb : BB wr w') (hB : NB w' B n) (h1 : wr.heap.size ≤ B) : GE w w' s (L ++ [boxI B n]) F := by
  have hlt : ∀ (i : Nat) (t : Itm) (k : Nat), L[i]? = some t → t.1 = some k → k < wr.heap.size := fun i t k hi hk => ((h.its i t hi).2.1 k hk).2.1
  exact (h.below hb).addBox (Nat.le_trans h.base h1) hB fun i t hi hk => by have := hlt i t B hi hk; omega
end Go.Proofs.YthefednendgclaaGreat
