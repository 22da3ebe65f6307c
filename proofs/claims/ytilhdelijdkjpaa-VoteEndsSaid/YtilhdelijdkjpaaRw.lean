/-
  Rows of votes: of the walk's own, appended to, and read.
-/
import Derived.Test.YtilhdelijdkjpaaVE
import Derived.Deep.Upon
set_option linter.unusedVariables false
set_option linter.unusedSimpArgs false
namespace Go.Proofs.Ytilhdelijdkjpaa
open Go Go.RowKit Go.Maps Sac

/-- A vote's cells. -/
structure VV where
  vt : Vt
  a : Option Addr
  n : Nat
  c : Nat
instance : Inhabited VV := ⟨⟨⟨0, 0, 0, 0, 0, []⟩, none, 0, 0⟩⟩
def VV.sl (p : VV) : Value := .slice p.a p.n p.c
def VV.enc (p : VV) : List Value := [.int .i64 p.vt.kind, .int .i64 p.vt.frm, .int .i64 p.vt.slot, .int .i64 p.vt.view, .int .i64 p.vt.valid, .slice p.a p.n p.c]
def vflat (L : List VV) : List Value := L.flatMap VV.enc
theorem vflat_cons (a : VV) (L : List VV) : vflat (a :: L) = .int .i64 a.vt.kind :: .int .i64 a.vt.frm :: .int .i64 a.vt.slot :: .int .i64 a.vt.view :: .int .i64 a.vt.valid :: .slice a.a a.n a.c :: vflat L := rfl
theorem vflat_append (L M : List VV) : vflat (L ++ M) = vflat L ++ vflat M := by simp [vflat]
theorem length_vflat (L : List VV) : (vflat L).length = L.length * 6 := by
  induction L with
  | nil => rfl
  | cons a L ih => rw [vflat_cons]; simp [ih]; omega
theorem vflat_get : ∀ (L : List VV) (rest : List Value) (i : Nat), i < L.length → ∀ j, j < 6 → (vflat L ++ rest)[i * 6 + j]? = (L.getD i default).enc[j]?
  | [], _, i, h, _, _ => by simp at h
  | a :: L, rest, 0, _, j, hj => by
    have : j = 0 ∨ j = 1 ∨ j = 2 ∨ j = 3 ∨ j = 4 ∨ j = 5 := by omega
    rcases this with rfl | rfl | rfl | rfl | rfl | rfl <;> simp [vflat_cons, VV.enc]
  | a :: L, rest, i + 1, h, j, hj => by
    have ih := vflat_get L rest i (by simpa using h) j hj
    rw [show (i + 1) * 6 + j = i * 6 + j + 6 by omega, vflat_cons]
    simpa using ih
theorem VV.one (p : VV) : ∀ u ∈ p.enc, u.oneCell' = true := by
  intro u hu
  simp [VV.enc] at hu
  rcases hu with rfl | rfl | rfl | rfl | rfl | rfl <;> rfl
theorem vflat_one (L : List VV) : ∀ u ∈ vflat L, u.oneCell' = true := by
  intro u hu
  obtain ⟨p, _, hp⟩ := List.mem_flatMap.1 hu
  exact p.one u hp

/-- A row of votes of the walk's own; what each one's value is. -/
abbrev VOwn (w : World) (base : Nat) (v : Value) (L : List VV) : Prop := w.ownsRow base 31 6 v L.length (vflat L)
def VGood (w : World) (L : List VV) : Prop := ∀ p ∈ L, RB w p.sl p.vt.value
theorem VOwn.nil (w : World) (base : Nat) : VOwn w base (.slice none 0 0) [] := World.ownsRow_nil _ _ _ _
theorem VGood.nil (w : World) : VGood w [] := fun p hp => by cases hp
theorem VGood.below {w w' : World} {L : List VV} (h : VGood w L) (hb : Below w.heap.size w w') : VGood w' L := fun p hp => (h p hp).below hb
theorem VGood.append {w : World} {L M : List VV} (h : VGood w L) (k : VGood w M) : VGood w (L ++ M) := fun p hp => by
  rcases List.mem_append.1 hp with hp | hp
  · exact h p hp
  · exact k p hp
theorem VOwn.below {w w' : World} {base : Nat} {v : Value} {L : List VV} (h : VOwn w base v L) (hb : Below w.heap.size w w') : VOwn w' base v L := by
  obtain ⟨hx, h0 | ⟨g, cap, rest, e, hg, hB, hn, hc, hl⟩⟩ := own_elim h
  · exact ⟨hx, .inl ⟨h0.1, h0.2.1⟩⟩
  · subst e
    exact own_intro hg (hB.below hb hB.lt) hn hc hl hx
theorem VOwn.form {w : World} {base : Nat} {v : Value} {L : List VV} (h : VOwn w base v L) : ∃ (a : Option Addr) (cap : Nat), v = .slice a L.length cap ∧ (L.length : Int) ≤ cap ∧ (cap : Int) ≤ 9223372036854775807 := by
  obtain ⟨hx, ⟨rfl, h0, h1⟩ | ⟨g, cap, rest, rfl, hb, hB, hn, hc, hl⟩⟩ := own_elim h
  · have : L = [] := List.eq_nil_of_length_eq_zero h0
    subst this
    exact ⟨none, 0, rfl, by simp, by decide⟩
  · exact ⟨some ⟨g, 0, none⟩, cap, rfl, by omega, by unfold maxLen at hc; omega⟩
/-- What is not of bytes was kept: so are the values. -/
theorem VGood.grown {w w' : World} {base : Nat} {v : Value} {L M : List VV} (h : VGood w M) (ho : VOwn w base v L) (hg : w.grownBy w' v.ownBlock) : VGood w' M := fun p hp => by
  obtain ⟨a, cap, h1, h2, h3, h4, h5, h6⟩ := h p hp
  refine ⟨a, cap, h1, h2, h3, h4, h5.same (fun k hk => hg.block k hk.lt (fun e => ?_)), h6⟩
  obtain ⟨_, h0 | ⟨g, c, rest, e2, _, hB, _⟩⟩ := own_elim ho
  · rw [h0.1] at e; cases e
  · subst e2
    injection e with e
    exact hk.ne hB (by decide) e

/-- Votes that can be read: none, or cells in a row. -/
def VSrc (w : World) (x : Value) (M : List VV) : Prop := (x = .slice none 0 0 ∧ M = []) ∨ ∃ (ad : Addr) (c : Nat), x = .slice (some ad) M.length c ∧ ∀ j u, (vflat M)[j]? = some u → w.cell? (ad.add j) = some u
theorem VOwn.src {w : World} {base : Nat} {v : Value} {L : List VV} (h : VOwn w base v L) : VSrc w v L := by
  obtain ⟨hx, ⟨rfl, h0, h1⟩ | ⟨g, cap, rest, rfl, hb, hB, hn, hc, hl⟩⟩ := own_elim h
  · exact .inl ⟨rfl, List.eq_nil_of_length_eq_zero h0⟩
  · refine .inr ⟨_, cap, rfl, fun j u hj => ?_⟩
    have hlt := (List.getElem?_eq_some_iff.1 hj).1
    rw [add_zero, hB.cell, Nat.zero_add, List.getElem?_append_left hlt]
    exact hj
theorem VSrc.one {w : World} {g : Nat} (p : VV) (h : Blk w g 31 p.enc) : VSrc w (.slice (some ⟨g, 0, none⟩) 1 1) [p] := by
  refine .inr ⟨_, 1, rfl, fun j u hj => ?_⟩
  rw [add_zero, h.cell, Nat.zero_add]
  have e : vflat [p] = p.enc := by simp [vflat]
  rw [e] at hj
  exact hj
theorem Try.infoVote : (Try.prog.info? 31).map (fun i => (i.zero, i.size, i.bytes)) = some (some (.agg #[.int .i64 0, .int .i64 0, .int .i64 0, .int .i64 0, .int .i64 0, .slice none 0 0]), 6, 64) := by kernel_rfl

/-- More votes. -/
theorem append_votes (w : World) (base : Nat) (ty : TypeId) (v : Value) (L : List VV) (hown : VOwn w base v L) (x : Value) (M : List VV) (hx : VSrc w x M) (hlen : L.length + M.length ≤ 1000000000000) (hbase : base ≤ w.heap.size) :
    ∃ v' w', (Builtin.append_ #[42, 42] ty #[v, x]).run Try.prog w = .ok v' w' ∧ VOwn w' base v' (L ++ M) ∧ w.grownBy w' v.ownBlock ∧ (∀ k, v'.ownBlock = some k → v.ownBlock = some k ∨ w.heap.size ≤ k) := by
  obtain ⟨i, hi, hz1, hz2, hz3⟩ := info_parts Try.infoVote
  rcases hx with ⟨rfl, rfl⟩ | ⟨ad, c, rfl, hc⟩
  · obtain ⟨a, cap, rfl, h1, h2⟩ := hown.form
    refine ⟨_, w, run_append_nothing w 42 42 ty 31 i Try.underlying42 hi a L.length cap (by omega) _ (Src.ofNil w Try.underlying42 0), ?_, ⟨rfl, rfl, rfl, Nat.le_refl _, fun _ _ _ => rfl⟩, fun k hk => .inl hk⟩
    rw [List.append_nil]; exact hown
  · obtain ⟨v', w', hr, ho', hg, hf⟩ := append_own (P := Try.prog) w base 42 ty 31 i _ 6 64 Try.underlying42 hi hz1 hz2 hz3 rfl (by decide) v L.length (vflat L) hown ad M.length c (vflat M) (length_vflat M) hc (vflat_one M) (by unfold maxLen; omega) (by omega) hbase
    refine ⟨v', w', hr, ?_, hg, hf⟩
    unfold VOwn
    rw [vflat_append, List.length_append]
    exact ho'
theorem wpList_append_votes (w : World) {ops : Array Oper} {rest : List Oper} {o : Oper} {a : Act} {Q : Exit → Act → World → Prop} (hg : o.guard = none) (s x : Operand)
    (hop : o.op = Op.call { callee := Callee.builtin Builtin.append, args := #[s, x], argTypes := #[42, 42] })
    (base : Nat) (v : Value) (L : List VV) (hs : a.eval s = v) (hown : VOwn w base v L) (xv : Value) (M : List VV) (hx : a.eval x = xv) (hsrc : VSrc w xv M)
    (hlen : L.length + M.length ≤ 1000000000000) (hbase : base ≤ w.heap.size)
    (h : ∀ v' w', VOwn w' base v' (L ++ M) → w.grownBy w' v.ownBlock → (∀ k, v'.ownBlock = some k → v.ownBlock = some k ∨ w.heap.size ≤ k) → wpList Try.prog ops Q rest (a.put o.dst v') w') :
    wpList Try.prog ops Q (o :: rest) a w := by
  refine wpList_plain hg fun K hK' => ?_
  obtain ⟨v', w', hr, h1, h2, h3⟩ := append_votes w base o.type v L hown xv M hsrc hlen hbase
  unfold Oper.wp execOp
  simp only [hop, resolve, invoke, builtin, Sem.run_bind, Sem.run_pure, Result.andThen_ok, List.map_toArray, List.map_cons, List.map_nil, hs, hx, hr]
  exact hK' _ _ (h v' w' h1 h2 h3)
theorem step_append_votes {w : World} {ops : Array Oper} {o : Oper} {a : Act} {K : Act → World → Prop} {Q : Exit → Act → World → Prop} {E : Prop} (hg : o.guard = none) (s x : Operand)
    (hop : o.op = Op.call { callee := Callee.builtin Builtin.append, args := #[s, x], argTypes := #[42, 42] })
    (base : Nat) (v : Value) (L : List VV) (hs : a.eval s = v) (hown : VOwn w base v L) (xv : Value) (M : List VV) (hx : a.eval x = xv) (hsrc : VSrc w xv M)
    (hlen : L.length + M.length ≤ 1000000000000) (hbase : base ≤ w.heap.size)
    (h : ∀ v' w', VOwn w' base v' (L ++ M) → w.grownBy w' v.ownBlock → (∀ k, v'.ownBlock = some k → v.ownBlock = some k ∨ w.heap.size ≤ k) → K (a.put o.dst v') w') :
    if Region.wanted o (yielded ops a.tmps) = true then Oper.wp Try.prog o a w K Q else E := by
  rw [if_pos (by simp [Region.wanted, hg])]
  obtain ⟨v', w', hr, h1, h2, h3⟩ := append_votes w base o.type v L hown xv M hsrc hlen hbase
  unfold Oper.wp execOp
  simp only [hop, resolve, invoke, builtin, Sem.run_bind, Sem.run_pure, Result.andThen_ok, List.map_toArray, List.map_cons, List.map_nil, hs, hx, hr]
  exact h v' w' h1 h2 h3
/-- Behind an append onto a row of the walk's own, all elder blocks are as they were. -/
theorem VOwn.grown_below {w w' : World} {base : Nat} {v : Value} {L : List VV} (h : VOwn w base v L) (hbase : base ≤ w.heap.size) (hg : w.grownBy w' v.ownBlock) : Below base w w' :=
  ⟨hg.os, hg.tape, hg.output, hg.size, fun k hk => hg.block k (by omega) fun e => by have := (h.lt k e.symm).1; omega⟩
/-- A block of another kind was kept. -/
theorem VOwn.cell {w w' : World} {base : Nat} {v : Value} {L : List VV} (h : VOwn w base v L) (hg : w.grownBy w' v.ownBlock) {k : Nat} {e : TypeId} {cs : List Value} (hb : Blk w k e cs) (he : 31 ≠ e) : w'.heap[k]? = w.heap[k]? := by
  refine hg.block k hb.lt (fun ek => ?_)
  obtain ⟨_, h0 | ⟨g, c, rest, e2, _, hB, _⟩⟩ := own_elim h
  · rw [h0.1] at ek; cases ek
  · subst e2
    injection ek with ek
    exact hB.ety.ne hb he ek.symm
end Go.Proofs.Ytilhdelijdkjpaa
