/-
  Rows of pieces with their numbers; what is known while one is appended.
-/
import Derived.Test.YthefednendgclaaGreatDRight
import Derived.Test.YthefednendgclaaGreatPiece
set_option linter.unusedVariables false
set_option linter.unusedSimpArgs false
namespace Go.Proofs.YthefednendgclaaGreat
open Go Go.RowKit Sac NT Poly

def PRow (w : World) (v : Value) (n : Nat) (ns : List Nat) : Prop := ∃ (a : Option Addr) (cap : Nat), v = .slice a n cap ∧ (n : Int) ≤ cap ∧ NatsAt w a ns
theorem PRow.below {w w' : World} {v : Value} {n : Nat} {ns : List Nat} (h : PRow w v n ns) (hb : Below w.heap.size w w') : PRow w' v n ns := by
  obtain ⟨a, c, e, h1, h⟩ := h
  exact ⟨a, c, e, h1, h.below hb⟩
theorem PRow.of {w : World} {base : Nat} {v : Value} {n : Nat} {ns : List Nat} (h : NatsOwn w base v ns) (hn : ns.length = n) : PRow w v n ns := by
  obtain ⟨a, c, e, h1, _, h, _⟩ := h.form
  exact ⟨a, c, hn ▸ e, by omega, h⟩
/-- Two rows, laid as a row. -/
def LitR (w : World) (v : Value) (n : Nat) (c d : List Nat) : Prop := ∃ (l : Nat) (a1 : Option Addr) (c1 : Nat) (a2 : Option Addr) (c2 : Nat), v = .slice (some ⟨l, 0, none⟩) 2 2 ∧ Blk w l 32 [.slice a1 n c1, .slice a2 n c2] ∧ NatsAt w a1 c ∧ NatsAt w a2 d
theorem LitR.below {w w' : World} {v : Value} {n : Nat} {c d : List Nat} (h : LitR w v n c d) (hb : Below w.heap.size w w') : LitR w' v n c d := by
  obtain ⟨l, a1, c1, a2, c2, e, h1, h2, h3⟩ := h
  exact ⟨l, a1, c1, a2, c2, e, h1.below hb h1.lt, h2.below hb, h3.below hb⟩
theorem IsPair.below {x y : Nat} {v : Value} {w w' : World} (h : IsPair x y v w) (hb : Below w.heap.size w w') : IsPair x y v w' := by
  obtain ⟨a, l, c, a', l', c', e, h1, h2⟩ := h
  exact ⟨a, l, c, a', l', c', e, h1.below hb, h2.below hb⟩

/-! ### What is known while a piece is appended -/
def Kp20 (rb : Option Nat) (w w' : World) : Prop := w.grownBy w' rb ∧ ∀ k, rb = some k → ∃ cs, w.heap[k]? = some (.cells cs 77 (0, 0))
theorem Kp20.nat {rb : Option Nat} {w w' : World} {a : Option Addr} {l n : Nat} (k : Kp20 rb w w') (h : NatS w a l n) : NatS w' a l n := by
  obtain ⟨⟨ll, h1, h2, h3, h4, h5⟩, h6⟩ := h
  refine ⟨⟨ll, h1, h2, h3, h4, h5.same fun j hj => k.1.block j hj.lt ?_⟩, h6⟩
  intro hrow
  obtain ⟨cs, hcs⟩ := k.2 j hrow.symm
  obtain ⟨cs', fr, hj⟩ := hj
  rw [hcs] at hj
  injection hj with hj
  injection hj with _ he _
  exact absurd he (by decide)
/-- A piece's cells with its numbers. -/
def PcN (w : World) (p : PV) (n : Int) (x y : Nat) : Prop := p.peer = n ∧ NatS w p.x p.xl x ∧ NatS w p.y p.yl y
theorem PcN.below {w w' : World} {p : PV} {n : Int} {x y : Nat} (h : PcN w p n x y) (hb : Below w.heap.size w w') : PcN w' p n x y := ⟨h.1, h.2.1.below hb, h.2.2.below hb⟩
theorem PcN.kp {rb : Option Nat} {w w' : World} {p : PV} {n : Int} {x y : Nat} (h : PcN w p n x y) (k : Kp20 rb w w') : PcN w' p n x y := ⟨h.1, k.nat h.2.1, k.nat h.2.2⟩
def IsPv (n : Int) (x y : Nat) (v : Value) (w : World) : Prop := ∃ p : PV, v = .agg #[.int .i64 p.peer, .slice p.x p.xl p.xc, .slice p.y p.yl p.yc] ∧ PcN w p n x y
def IsLp (rb : Option Nat) (n : Int) (x y : Nat) (v : Value) (w : World) : Prop := ∃ (q : Nat) (p : PV), v = .slice (some ⟨q, 0, none⟩) 1 1 ∧ some q ≠ rb ∧ Blk w q 77 p.enc ∧ PcN w p n x y
section
variable {rb : Option Nat}
def Fk.gn (n : Nat) : Fk (Kp20 rb) := ⟨IsNat n, IsNat.below, true, fun _ _ _ _ k ⟨x, l, c, e, h⟩ => ⟨x, l, c, e, k.nat h⟩⟩
def Fk.gp (x y : Nat) : Fk (Kp20 rb) := ⟨IsPair x y, fun _ _ _ hb h => h.below hb, true, fun _ _ _ _ k ⟨a, l, c, a', l', c', e, h1, h2⟩ => ⟨a, l, c, a', l', c', e, k.nat h1, k.nat h2⟩⟩
def Fk.gv (n : Int) (x y : Nat) : Fk (Kp20 rb) := ⟨IsPv n x y, fun _ _ _ hb ⟨p, e, h⟩ => ⟨p, e, h.below hb⟩, true, fun _ _ _ _ k ⟨p, e, h⟩ => ⟨p, e, h.kp k⟩⟩
def Fk.gl (n : Int) (x y : Nat) : Fk (Kp20 rb) := ⟨IsLp rb n x y, fun _ _ _ hb ⟨q, p, e, h0, h1, h⟩ => ⟨q, p, e, h0, h1.below hb h1.lt, h.below hb⟩, true, fun _ _ _ _ k ⟨q, p, e, h0, h1, h⟩ => ⟨q, p, e, h0, h1.same (k.1.block q h1.lt h0), h.kp k⟩⟩
end
theorem POwn.ety {w : World} {base : Nat} {v : Value} {L : List PV} (h : POwn w base v L) {k : Nat} (hk : v.ownBlock = some k) : ∃ cs, w.heap[k]? = some (.cells cs 77 (0, 0)) := by
  obtain ⟨hx, ⟨rfl, h0, h1⟩ | ⟨g, cap, rest, rfl, hb, hB, hn, hc, hl⟩⟩ := own_elim h
  · cases hk
  · injection hk with hk
    subst hk
    exact ⟨_, hB⟩
/-- A row of pieces with their numbers. -/
def PcRow (w : World) (base : Nat) (v : Value) (n : Nat) (pe : Nat → Int) (X Y : Nat → Nat) : Prop := ∃ L : List PV, POwn w base v L ∧ L.length = n ∧ ∀ i, i < n → PcN w (L.getD i default) (pe i) (X i) (Y i)
theorem PcRow.nil (w : World) (base : Nat) (pe : Nat → Int) (X Y : Nat → Nat) : PcRow w base (.slice none 0 0) 0 pe X Y := ⟨[], POwn.nil _ _, rfl, fun i hi => by omega⟩
theorem PcRow.below {w w' : World} {base : Nat} {v : Value} {n : Nat} {pe : Nat → Int} {X Y : Nat → Nat} (h : PcRow w base v n pe X Y) (hb : Below w.heap.size w w') : PcRow w' base v n pe X Y := by
  obtain ⟨L, h1, h2, h3⟩ := h
  exact ⟨L, h1.below hb, h2, fun i hi => (h3 i hi).below hb⟩
theorem PcRow.form {w : World} {base : Nat} {v : Value} {n : Nat} {pe : Nat → Int} {X Y : Nat → Nat} (h : PcRow w base v n pe X Y) : ∃ (a : Option Addr) (cap : Nat), v = .slice a n cap ∧ (n : Int) ≤ cap := by
  obtain ⟨L, h1, h2, h3⟩ := h
  obtain ⟨a, cap, e, h4, _⟩ := h1.form
  exact ⟨a, cap, h2 ▸ e, by omega⟩
theorem PcRow.new {w w' : World} {base : Nat} {v : Value} {n : Nat} {pe : Nat → Int} {X Y : Nat → Nat} (h : PcRow w base v n pe X Y) (hs : w.heap.size ≤ w'.heap.size) : some w'.heap.size ≠ v.ownBlock := by
  obtain ⟨L, h1, h2, h3⟩ := h
  intro e
  have := (h1.lt _ e.symm).2
  omega
theorem wanted_go3 {o : Oper} {y : Nat → Option Bool} {A E : Prop} (hg : o.guard = none) (h : A) : if Region.wanted o y = true then A else E := by
  rw [if_pos (by simp [Region.wanted, hg])]
  exact h
/-- One piece more, as a step. -/
theorem wp_append_pc {o : Oper} {a : Act} {w : World} {K : Act → World → Prop} {Q : Exit → Act → World → Prop} (s x : Operand)
    (hop : o.op = Op.call { callee := Callee.builtin Builtin.append, args := #[s, x], argTypes := #[69, 69] })
    (base : Nat) (v : Value) (n : Nat) (pe : Nat → Int) (X Y : Nat → Nat) (hs : a.eval s = v) (hown : PcRow w base v n pe X Y) (q : Nat) (p : PV) (hx : a.eval x = .slice (some ⟨q, 0, none⟩) 1 1) (hq : Blk w q 77 p.enc) (hp : PcN w p (pe n) (X n) (Y n))
    (hlen : n ≤ 100000) (hbase : base ≤ w.heap.size)
    (h : ∀ v' w', PcRow w' base v' (n + 1) pe X Y → Kp20 v.ownBlock w w' → Below base w w' → K (a.put o.dst v') w') :
    Oper.wp Tryz.prog o a w K Q := by
  obtain ⟨L, h1, h2, h3⟩ := hown
  obtain ⟨v', w', hr, g1, g2, g3⟩ := append_piece w base o.type v L h1 ⟨q, 0, none⟩ 1 p (fun j u hj => by
    have e : ((⟨q, 0, none⟩ : Addr).add j) = ⟨q, j, none⟩ := by unfold Addr.add; split <;> simp_all
    rw [e]
    exact (hq.cell j).trans hj) (by omega) hbase
  unfold Oper.wp execOp
  simp only [hop, resolve, invoke, builtin, Sem.run_bind, Sem.run_pure, Result.andThen_ok, List.map_toArray, List.map_cons, List.map_nil, hs, hx, hr]
  have hk : Kp20 v.ownBlock w w' := ⟨g2, fun k hk => h1.ety hk⟩
  refine h v' w' ⟨L ++ [p], g1, by rw [List.length_append, h2]; rfl, fun i hi => ?_⟩ hk (grown_below h1 hbase g2)
  rcases Nat.lt_or_ge i n with hin | hin
  · rw [show (L ++ [p]).getD i default = L.getD i default by simp [List.getD_eq_getElem?_getD, List.getElem?_append_left (show i < L.length by omega)]]
    exact (h3 i hin).kp hk
  · obtain rfl : i = n := by omega
    rw [show (L ++ [p]).getD i default = p by simp [List.getD_eq_getElem?_getD, ← h2]]
    exact hp.kp hk
theorem wpList_append_pc (w : World) {ops : Array Oper} {rest : List Oper} {o : Oper} {a : Act} {Q : Exit → Act → World → Prop} (hg : o.guard = none) (s x : Operand)
    (hop : o.op = Op.call { callee := Callee.builtin Builtin.append, args := #[s, x], argTypes := #[69, 69] })
    (base : Nat) (v : Value) (n : Nat) (pe : Nat → Int) (X Y : Nat → Nat) (hs : a.eval s = v) (hown : PcRow w base v n pe X Y) (q : Nat) (p : PV) (hx : a.eval x = .slice (some ⟨q, 0, none⟩) 1 1) (hq : Blk w q 77 p.enc) (hp : PcN w p (pe n) (X n) (Y n))
    (hlen : n ≤ 100000) (hbase : base ≤ w.heap.size)
    (h : ∀ v' w', PcRow w' base v' (n + 1) pe X Y → Below base w w' → wpList Tryz.prog ops Q rest (a.put o.dst v') w') :
    wpList Tryz.prog ops Q (o :: rest) a w :=
  wpList_plain hg fun K hK' => wp_append_pc s x hop base v n pe X Y hs hown q p hx hq hp hlen hbase fun v' w' h1 _ h3 => hK' _ _ (h v' w' h1 h3)
end Go.Proofs.YthefednendgclaaGreat
