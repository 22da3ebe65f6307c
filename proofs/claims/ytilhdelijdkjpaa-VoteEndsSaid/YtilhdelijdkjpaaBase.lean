/-
  The common words: a block known whole ('Blk'), a world that differs from another one in a set of blocks alone ('Only'), and small facts on endings. No program in sight.
-/
import Derived.WalkKit
import Derived.WalkSpells
import Derived.WalkLawsBesides
import Derived.Handy
import Derived.Lib.Hide
import Derived.LoopN
import Derived.Laws.OwnMore
set_option linter.unusedVariables false
set_option linter.unusedSimpArgs false
namespace Sac
open Go Go.RowKit

theorem ret_int {k : IntKind} {a b : Int} (h : a = b) : Ending.returned (.int k a) = .returned (.int k b) := by rw [h]
theorem ret_bool {a b : Bool} (h : a = b) : Ending.returned (.bool a) = .returned (.bool b) := by rw [h]

/-- Block k holds just these cells, of element type e; none of them is frozen. -/
def Blk (w : World) (k : Nat) (e : TypeId) (cs : List Value) : Prop := w.heap[k]? = some (.cells cs.toArray e (0, 0))

theorem Blk.lt {w : World} {k : Nat} {e : TypeId} {cs : List Value} (h : Blk w k e cs) : k < w.heap.size := by
  unfold Blk at h
  exact (Array.getElem?_eq_some_iff.1 h).1

theorem Blk.cell {w : World} {k : Nat} {e : TypeId} {cs : List Value} (h : Blk w k e cs) (o : Nat) : w.cell? ⟨k, o, none⟩ = cs[o]? := by
  unfold Blk at h
  simp [World.cell?, h]

theorem Blk.frozen {w : World} {k : Nat} {e : TypeId} {cs : List Value} (h : Blk w k e cs) (o : Nat) : w.frozen? ⟨k, o, none⟩ = false := by
  unfold Blk at h
  simp [World.frozen?, h]

theorem Blk.same {w w' : World} {k : Nat} {e : TypeId} {cs : List Value} (h : Blk w k e cs) (hs : w'.heap[k]? = w.heap[k]?) : Blk w' k e cs := by
  unfold Blk at *
  rw [hs]; exact h

theorem Blk.drew {w : World} {k : Nat} {e : TypeId} {cs : List Value} (h : Blk w k e cs) : Blk w.drew k e cs := h

theorem Blk.set {w : World} {k : Nat} {e : TypeId} {cs : List Value} (h : Blk w k e cs) (o : Nat) (v : Value) : Blk (w.setCell ⟨k, o, none⟩ v) k e (cs.set o v) := by
  unfold Blk at *
  rw [heap_setCell_same w k o _ e v h]
  simp

theorem Blk.other {w : World} {k : Nat} {e : TypeId} {cs : List Value} (h : Blk w k e cs) (a : Addr) (v : Value) (ha : k ≠ a.block) : Blk (w.setCell a v) k e cs :=
  h.same (heap_setCell_other w a k v ha)

theorem Blk.alloc {w : World} {k : Nat} {e : TypeId} {cs : List Value} (h : Blk w k e cs) (o : Obj) : Blk (w.alloc o) k e cs :=
  h.same (Below.heap_alloc w o k h.lt)

theorem Blk.new (w : World) (cs : List Value) (e : TypeId) : Blk (w.alloc (.cells cs.toArray e)) w.heap.size e cs := heap_alloc_new w _

theorem Blk.new' (w : World) (cs : List Value) (e : TypeId) (k : Nat) (hk : k = w.heap.size) : Blk (w.alloc (.cells cs.toArray e)) k e cs := hk ▸ heap_alloc_new w _

/-- Of what was there, only blocks of the set F may have changed; no block has gone. -/
structure Only (F : Nat → Prop) (w w' : World) : Prop where
  os : w'.os = w.os
  tape : w'.tape = w.tape
  output : w'.output = w.output
  size : w.heap.size ≤ w'.heap.size
  block : ∀ k, k < w.heap.size → ¬ F k → w'.heap[k]? = w.heap[k]?

theorem Only.refl (F : Nat → Prop) (w : World) : Only F w w := ⟨rfl, rfl, rfl, Nat.le_refl _, fun _ _ _ => rfl⟩

theorem Only.trans {F : Nat → Prop} {a b c : World} (h : Only F a b) (k : Only F b c) : Only F a c :=
  ⟨k.os.trans h.os, k.tape.trans h.tape, k.output.trans h.output, Nat.le_trans h.size k.size,
    fun i hi hf => (k.block i (Nat.lt_of_lt_of_le hi h.size) hf).trans (h.block i hi hf)⟩

/-- The second step may also have changed blocks that the first one made. -/
theorem Only.trans' {F G : Nat → Prop} {a b c : World} (h : Only F a b) (k : Only G b c) (hg : ∀ i, G i → i < a.heap.size → F i) : Only F a c :=
  ⟨k.os.trans h.os, k.tape.trans h.tape, k.output.trans h.output, Nat.le_trans h.size k.size,
    fun i hi hf => (k.block i (Nat.lt_of_lt_of_le hi h.size) (fun x => hf (hg i x hi))).trans (h.block i hi hf)⟩

theorem Only.mono {F G : Nat → Prop} {a b : World} (h : Only F a b) (hg : ∀ i, F i → G i) : Only G a b :=
  ⟨h.os, h.tape, h.output, h.size, fun i hi hf => h.block i hi fun x => hf (hg i x)⟩

theorem Only.mono' {F G : Nat → Prop} {a b : World} (h : Only F a b) (hg : ∀ i, i < a.heap.size → F i → G i) : Only G a b :=
  ⟨h.os, h.tape, h.output, h.size, fun i hi hf => h.block i hi fun x => hf (hg i hi x)⟩

theorem Only.drew {F : Nat → Prop} {a w : World} (h : Only F a w) : Only F a w.drew := ⟨h.os, h.tape, h.output, h.size, h.block⟩

theorem Only.alloc {F : Nat → Prop} {a w : World} (h : Only F a w) (o : Obj) : Only F a (w.alloc o) :=
  h.trans ⟨rfl, rfl, rfl, by simp, fun k hk _ => Below.heap_alloc _ _ _ hk⟩

theorem Only.setCell {F : Nat → Prop} {a w : World} (h : Only F a w) {p : Addr} (hp : p.block < a.heap.size → F p.block) (v : Value) : Only F a (w.setCell p v) := by
  refine h.trans' (G := fun k => k = p.block) ⟨rfl, rfl, rfl, by simp [World.setCell], fun k _ hne => heap_setCell_other _ _ _ _ hne⟩ ?_
  rintro i rfl hi
  exact hp hi

theorem Only.below {F : Nat → Prop} {w w' : World} (h : Below w.heap.size w w') : Only F w w' :=
  ⟨h.os, h.tape, h.output, h.size, fun k hk _ => h.block k hk⟩

theorem Only.toBelow {F : Nat → Prop} {B : Nat} {w w' : World} (h : Only F w w') (hB : B ≤ w.heap.size) (hF : ∀ k, F k → B ≤ k) : Below B w w' :=
  ⟨h.os, h.tape, h.output, h.size, fun k hk => h.block k (by omega) fun x => by have := hF k x; omega⟩

theorem Only.grown {F : Nat → Prop} {a w w' : World} {row : Option Nat} (h : Only F a w) (hg : w.grownBy w' row) (hr : ∀ k, row = some k → k < a.heap.size → F k) : Only F a w' :=
  h.trans' (G := fun k => some k = row) ⟨hg.os, hg.tape, hg.output, hg.size, fun k hk hne => hg.block k hk hne⟩ (fun i hi hlt => hr i hi.symm hlt)

theorem Blk.only {F : Nat → Prop} {w w' : World} {k : Nat} {e : TypeId} {cs : List Value} (h : Blk w k e cs) (ho : Only F w w') (hk : ¬ F k) : Blk w' k e cs :=
  h.same (ho.block k h.lt hk)

theorem Blk.below {B : Nat} {w w' : World} {k : Nat} {e : TypeId} {cs : List Value} (h : Blk w k e cs) (ho : Below B w w') (hk : k < B) : Blk w' k e cs :=
  h.same (ho.block k hk)

theorem Blk.news {w : World} {k : Nat} {e : TypeId} {cs : List Value} (h : Blk w k e cs) : ∀ j u, cs[j]? = some u → w.cell? ((⟨k, 0, none⟩ : Addr).add j) = some u := by
  intro j u hj
  have := h.cell j
  rw [hj] at this
  unfold Addr.add
  by_cases h0 : j = 0
  · subst h0; simpa using this
  · simpa [h0] using this

/-- What is owned, taken apart: a nil slice, or a block known whole. -/
theorem own_elim {w : World} {base : Nat} {e : TypeId} {size : Nat} {v : Value} {n : Nat} {xs : List Value} (h : w.ownsRow base e size v n xs) :
    xs.length = n * size ∧ ((v = .slice none 0 0 ∧ n = 0 ∧ xs = []) ∨
      ∃ g cap rest, v = .slice (some ⟨g, 0, none⟩) n cap ∧ base ≤ g ∧ Blk w g e (xs ++ rest) ∧ n ≤ cap ∧ cap ≤ maxLen ∧ (xs ++ rest).length = cap * size) := by
  obtain ⟨h1, h2⟩ := h
  refine ⟨h1, ?_⟩
  rcases h2 with ⟨h2, h3⟩ | ⟨g, cap, cur, hv, hb, hg, hn, hc, hs, ht⟩
  · refine .inl ⟨h2, h3, ?_⟩
    subst h3
    exact List.eq_nil_of_length_eq_zero (by simpa using h1)
  · refine .inr ⟨g, cap, cur.toList.drop (n * size), hv, hb, ?_, hn, hc, ?_⟩
    · unfold Blk
      rw [← ht, List.take_append_drop, Array.toArray_toList]
      exact hg
    · rw [← ht, List.take_append_drop, Array.length_toList]
      exact hs

theorem own_intro {w : World} {base : Nat} {e : TypeId} {size : Nat} {n : Nat} {xs : List Value} {g cap : Nat} {rest : List Value} (hb : base ≤ g) (hB : Blk w g e (xs ++ rest)) (hn : n ≤ cap) (hc : cap ≤ maxLen)
    (hl : (xs ++ rest).length = cap * size) (hx : xs.length = n * size) : w.ownsRow base e size (.slice (some ⟨g, 0, none⟩) n cap) n xs := by
  refine ⟨hx, .inr ⟨g, cap, (xs ++ rest).toArray, rfl, hb, hB, hn, hc, by simpa using hl, ?_⟩⟩
  rw [← hx]
  simp

theorem own_only {F : Nat → Prop} {w w' : World} {base : Nat} {e : TypeId} {size : Nat} {v : Value} {n : Nat} {xs : List Value} (h : w.ownsRow base e size v n xs) (ho : Only F w w')
    (hf : ∀ k, v.ownBlock = some k → ¬ F k) : w'.ownsRow base e size v n xs := by
  obtain ⟨h1, h2⟩ := h
  refine ⟨h1, ?_⟩
  rcases h2 with h2 | ⟨g, cap, cur, hv, hb, hg, r⟩
  · exact .inl h2
  · refine .inr ⟨g, cap, cur, hv, hb, ?_, r⟩
    rw [ho.block g (Array.getElem?_eq_some_iff.1 hg).1 (hf g (by rw [hv]; rfl))]
    exact hg

theorem own_block_lt {w : World} {base : Nat} {e : TypeId} {size : Nat} {v : Value} {n : Nat} {xs : List Value} (h : w.ownsRow base e size v n xs) {k : Nat} (hk : v.ownBlock = some k) : k < w.heap.size := (h.lt k hk).2

/-- append onto a slice that is owned: besides what the library's law says: the slice that comes out lies in the old block or in a new one. -/
theorem append_own {P : Program} (w : World) (base : Nat) (t ty e : TypeId) (i : TypeInfo) (z : Value) (size bytes : Nat) (ht : P.underlying t = some (.slice e)) (hi : P.info? e = some i) (hz : i.zero = some z)
    (hsize : i.size = size) (hby : i.bytes = bytes) (hzs : z.cells.size = size) (hsz : 0 < size)
    (v : Value) (n : Nat) (xs : List Value) (hown : w.ownsRow base e size v n xs)
    (a : Addr) (m c : Nat) (news : List Value) (hl : news.length = m * size) (hnews : ∀ j u, news[j]? = some u → w.cell? (a.add j) = some u) (h1 : ∀ u ∈ news, u.oneCell' = true)
    (h63 : n + m ≤ maxLen) (hbytes : (n + m) * bytes ≤ 140737488355328) (hbase : base ≤ w.heap.size) :
    ∃ v' w', (Builtin.append_ #[t, t] ty #[v, .slice (some a) m c]).run P w = .ok v' w' ∧ w'.ownsRow base e size v' (n + m) (xs ++ news) ∧ w.grownBy w' v.ownBlock ∧
      (∀ k, v'.ownBlock = some k → v.ownBlock = some k ∨ w.heap.size ≤ k) := by
  obtain ⟨v', w', hr, ho, hg, _⟩ := run_append_own (P := P) w base t ty e i z size bytes ht hi hz hsize hby hzs hsz v n xs hown a m c news hl hnews h1 h63 hbytes hbase
  refine ⟨v', w', hr, ho, hg, ?_⟩
  obtain ⟨hx, ⟨rfl, rfl, rfl⟩ | ⟨g, cap, rest, rfl, _, hB, hnc, hcm, hlr⟩⟩ := own_elim hown
  · obtain ⟨v2, w2, hr2, ho2, _, _⟩ := run_append_own (P := P) w w.heap.size t ty e i z size bytes ht hi hz hsize hby hzs hsz _ 0 [] (World.ownsRow_nil w _ e size) a m c news hl hnews h1 h63 hbytes (Nat.le_refl _)
    rw [hr] at hr2
    obtain ⟨rfl, rfl⟩ : v' = v2 ∧ w' = w2 := by simpa using hr2
    exact fun k hk => .inr (ho2.lt k hk).1
  · by_cases hroom : n + m ≤ cap
    · have hr2 := run_append_room_cells (P := P) w t ty e i ht hi g 0 n cap a m c news (by rw [hsize]; exact hl) hnews h1 hroom
        (by
          intro j hj
          rw [Nat.zero_add, hB.cell]
          have : n * i.size + j < (xs ++ rest).length := by
            rw [hlr, hsize]
            have := Nat.mul_le_mul_right size hroom
            rw [Nat.add_mul] at this
            omega
          rw [List.getElem?_eq_getElem this]; rfl)
        (fun j _ => hB.frozen _)
      rw [hr] at hr2
      obtain ⟨rfl, rfl⟩ : v' = _ ∧ w' = _ := by simpa using hr2
      exact fun k hk => .inl hk
    · obtain ⟨v2, w2, hr2, ho2, _⟩ := run_append_arg_grows (P := P) w t ty e i z size bytes ht hi hz hsize hby hzs hsz ⟨g, 0, none⟩ n cap xs hx (hown.cells rfl) a m c news hl hnews (by omega) h63 hbytes
      rw [hr] at hr2
      obtain ⟨rfl, rfl⟩ : v' = v2 ∧ w' = w2 := by simpa using hr2
      exact fun k hk => .inr (ho2.lt k hk).1

/-- append onto a slice that is owned, as one step of a region that draws its order. -/
theorem step_append_own {P : Program} {ops : Array Oper} {o : Oper} {a : Act} {w : World} {K : Act → World → Prop} {Q : Exit → Act → World → Prop} {E : Prop}
    (hg : o.guard = none) (s x : Operand) (t : TypeId) (hop : o.op = Op.call { callee := Callee.builtin Builtin.append, args := #[s, x], argTypes := #[t, t] })
    (base : Nat) (e : TypeId) (i : TypeInfo) (z : Value) (size bytes : Nat) (ht : P.underlying t = some (.slice e)) (hi : P.info? e = some i) (hz : i.zero = some z)
    (hsize : i.size = size) (hby : i.bytes = bytes) (hzs : z.cells.size = size) (hsz : 0 < size)
    (v : Value) (n : Nat) (xs : List Value) (hs : a.eval s = v) (hown : w.ownsRow base e size v n xs)
    (ad : Addr) (m c : Nat) (news : List Value) (hx : a.eval x = .slice (some ad) m c) (hl : news.length = m * size) (hnews : ∀ j u, news[j]? = some u → w.cell? (ad.add j) = some u) (h1 : ∀ u ∈ news, u.oneCell' = true)
    (h63 : n + m ≤ maxLen) (hbytes : (n + m) * bytes ≤ 140737488355328) (hbase : base ≤ w.heap.size)
    (h : ∀ v' w', w'.ownsRow base e size v' (n + m) (xs ++ news) → w.grownBy w' v.ownBlock → (∀ k, v'.ownBlock = some k → v.ownBlock = some k ∨ w.heap.size ≤ k) → K (a.put o.dst v') w') :
    if Region.wanted o (yielded ops a.tmps) = true then Oper.wp P o a w K Q else E := by
  rw [if_pos (by simp [Region.wanted, hg])]
  obtain ⟨v', w', hr, h2, h3, h4⟩ := append_own (P := P) w base t o.type e i z size bytes ht hi hz hsize hby hzs hsz v n xs hown ad m c news hl hnews h1 h63 hbytes hbase
  unfold Oper.wp execOp
  simp only [hop, resolve, invoke, builtin, Sem.run_bind, Sem.run_pure, Result.andThen_ok, List.map_toArray, List.map_cons, List.map_nil, hs, hx, hr]
  exact h v' w' h2 h3 h4

/-! ### A slice that is only read: its cells, if it has any -/
/-- Block k is a row of cells of element type e. -/
def Ety (w : World) (k : Nat) (e : TypeId) : Prop := ∃ cs fr, w.heap[k]? = some (.cells cs e fr)
theorem Ety.lt {w : World} {k : Nat} {e : TypeId} (h : Ety w k e) : k < w.heap.size := by
  obtain ⟨cs, fr, h⟩ := h
  exact (Array.getElem?_eq_some_iff.1 h).1
theorem Ety.same {w w' : World} {k : Nat} {e : TypeId} (h : Ety w k e) (hs : w'.heap[k]? = w.heap[k]?) : Ety w' k e := by
  obtain ⟨cs, fr, h⟩ := h
  exact ⟨cs, fr, hs.trans h⟩
theorem Blk.ety {w : World} {k : Nat} {e : TypeId} {cs : List Value} (h : Blk w k e cs) : Ety w k e := ⟨_, _, h⟩
theorem Ety.ne {w : World} {k k' : Nat} {e e' : TypeId} {cs : List Value} (h : Ety w k e) (h' : Blk w k' e' cs) (hne : e ≠ e') : k ≠ k' := by
  rintro rfl
  obtain ⟨cs', fr, h⟩ := h
  unfold Blk at h'
  rw [h] at h'
  injection h' with h'
  injection h' with _ he _
  exact hne he

/-- The slice at a holds the cells vs (elements of type e, of one cell each). -/
def Rd (w : World) (e : TypeId) (a : Option Addr) (vs : List Value) : Prop := vs ≠ [] → ∃ ad, a = some ad ∧ Ety w ad.block e ∧ ∀ j u, vs[j]? = some u → w.cell? (ad.add j) = some u

theorem Rd.nil (w : World) (e : TypeId) (a : Option Addr) : Rd w e a [] := fun h => absurd rfl h
theorem Rd.at_ {w : World} {e : TypeId} {a : Option Addr} {vs : List Value} (h : Rd w e a vs) {k : Nat} (hk : k < vs.length) : ∃ ad, a = some ad ∧ Ety w ad.block e ∧ w.cell? (ad.add k) = some vs[k] := by
  obtain ⟨ad, h1, hb, hc⟩ := h (by intro h0; subst h0; simp at hk)
  exact ⟨ad, h1, hb, hc k _ (List.getElem?_eq_getElem hk)⟩
theorem block_add (a : Addr) (n : Nat) : (a.add n).block = a.block := by unfold Addr.add; split <;> rfl
theorem add_add (a : Addr) (i j : Nat) : (a.add i).add j = a.add (i + j) := by
  unfold Addr.add
  by_cases hi : i = 0 <;> by_cases hj : j = 0 <;> simp [hi, hj, Nat.add_assoc]
theorem Rd.same {w w' : World} {e : TypeId} {a : Option Addr} {vs : List Value} (h : Rd w e a vs) (hs : ∀ k, Ety w k e → w'.heap[k]? = w.heap[k]?) : Rd w' e a vs := by
  intro hn
  obtain ⟨ad, h1, hlt, hc⟩ := h hn
  refine ⟨ad, h1, hlt.same (hs _ hlt), fun j u hu => ?_⟩
  have h2 : w'.cell? (ad.add j) = w.cell? (ad.add j) := World.cell?_of_block (by rw [block_add]; exact hs _ hlt)
  rw [h2]; exact hc j u hu
theorem Rd.below {w w' : World} {e : TypeId} {a : Option Addr} {vs : List Value} (h : Rd w e a vs) (hb : Below w.heap.size w w') : Rd w' e a vs :=
  h.same fun k hk => hb.block k hk.lt
theorem Rd.only {F : Nat → Prop} {w w' : World} {e : TypeId} {a : Option Addr} {vs : List Value} (h : Rd w e a vs) (ho : Only F w w') (hf : ∀ k, Ety w k e → ¬ F k) : Rd w' e a vs :=
  h.same fun k hk => ho.block k hk.lt (hf k hk)
/-- A store into a row of another element type. -/
theorem Rd.setCell {w : World} {e e' : TypeId} {a : Option Addr} {vs cs : List Value} {r : Nat} (h : Rd w e a vs) (hB : Blk w r e' cs) (hne : e ≠ e') (o : Nat) (v : Value) : Rd (w.setCell ⟨r, o, none⟩ v) e a vs :=
  h.same fun k hk => heap_setCell_other _ _ _ _ (hk.ne hB hne)
theorem Rd.alloc {w : World} {e : TypeId} {a : Option Addr} {vs : List Value} (h : Rd w e a vs) (o : Obj) : Rd (w.alloc o) e a vs :=
  h.same fun k hk => Below.heap_alloc _ _ _ hk.lt
theorem Rd.of_own {w : World} {base : Nat} {e : TypeId} {a : Option Addr} {n cap : Nat} {xs : List Value} (h : w.ownsRow base e 1 (.slice a n cap) n xs) : Rd w e a xs := by
  obtain ⟨hx, ⟨hv, h0, h1⟩ | ⟨g, cap', rest, hv, _, hB, _⟩⟩ := own_elim h
  · subst h1; exact Rd.nil _ _ _
  · intro _
    have ha : a = some ⟨g, 0, none⟩ := by injection hv
    exact ⟨⟨g, 0, none⟩, ha, hB.ety, fun j u hu => hB.news j u (by rw [List.getElem?_append_left (List.getElem?_eq_some_iff.1 hu).1]; exact hu)⟩
theorem Blk.rd {w : World} {k : Nat} {e : TypeId} {cs rest : List Value} (h : Blk w k e (cs ++ rest)) : Rd w e (some ⟨k, 0, none⟩) cs :=
  fun _ => ⟨_, rfl, h.ety, fun j u hu => h.news j u (by rw [List.getElem?_append_left (List.getElem?_eq_some_iff.1 hu).1]; exact hu)⟩
theorem Rd.take {w : World} {e : TypeId} {a : Option Addr} {vs : List Value} (h : Rd w e a vs) (k : Nat) : Rd w e a (vs.take k) := by
  intro hn
  obtain ⟨ad, h1, hlt, hc⟩ := h (by intro h0; subst h0; simp at hn)
  refine ⟨ad, h1, hlt, fun j u hu => hc j u ?_⟩
  rw [List.getElem?_take] at hu
  split at hu
  · exact hu
  · cases hu

/-- make([]T, n) of elements of one cell: a block of n zeros, known whole. -/
theorem wpList_make_blk {P : Program} (w : World) {ops : Array Oper} {rest : List Oper} {o : Oper} {a : Act} {Q : Exit → Act → World → Prop}
    (hg : o.guard = none) (l c : Operand) (t : TypeId) (hop : o.op = Op.makeSlice t l c)
    (e : TypeId) (z : Value) (bytes : Nat) (h1 : P.underlying t = some (.slice e)) (h2 : (P.info? e).map (fun i => (i.zero, i.size, i.bytes)) = some (some z, 1, bytes)) (hz : z.cells = #[z])
    (kl kc : IntKind) (L C : Int) (n : Nat) (hl : a.eval l = .int kl L) (hc : a.eval c = .int kc C) (hL : L = (n : Int)) (hC : C = (n : Int)) (b2 : bytes * n ≤ 281474976710656) (b3 : n ≤ maxLen)
    (hK : ∀ w', Blk w' w.heap.size e (List.replicate n z) → Below w.heap.size w w' → wpList P ops Q rest (a.put o.dst (.slice (some ⟨w.heap.size, 0, none⟩) n n)) w') :
    wpList P ops Q (o :: rest) a w := by
  obtain ⟨i, hi, hz1, hz2, hz3⟩ := info_parts h2
  refine wpList_make_full w hg l c t hop w.heap.size e i z 1 h1 hi hz1 hz2 kl kc L C n hl hc hL hC (by rw [hz3]; exact b2) b3 (Nat.le_refl _) ?_
  intro w' hown hgr
  refine hK w' ?_ ⟨hgr.os, hgr.tape, hgr.output, hgr.size, fun k hk => hgr.block k hk (by simp)⟩
  obtain ⟨hx, ⟨hv, _⟩ | ⟨g, cap, rest, hv, _, hB, hnc, _, hlr⟩⟩ := own_elim hown
  · cases hv
  · have hg : g = w.heap.size := by injection hv with h; injection h with h; injection h with h; exact h.symm
    have hcap : cap = n := by injection hv with _ _ h; exact h.symm
    subst hg
    subst hcap
    have : rest = [] := by
      rw [List.length_append, hx] at hlr
      exact List.eq_nil_of_length_eq_zero (by omega)
    subst this
    rw [List.append_nil] at hB
    have e1 : (madeCells z.cells (cap * 1)).toList = List.replicate cap z := by
      rw [hz, Nat.mul_one]
      exact toList_madeCells_one z cap
    rwa [e1] at hB

theorem cell_other {w : World} {a b : Addr} (v : Value) (h : a.block ≠ b.block) : (w.setCell b v).cell? a = w.cell? a :=
  World.cell?_of_block (heap_setCell_other _ _ _ _ h)

theorem set_map {α β : Type} (f : α → β) (l : List α) (i : Nat) (x : α) (y : β) (h : f x = y) : (l.map f).set i y = (l.set i x).map f := by
  rw [← h, List.map_set]

end Sac
