/-
  The law DealAdds: it returns true.
-/
import Derived.Test.YthefednendgclaaGreatBackL
import Derived.Test.YthefednendgclaaGreatRecov
import Derived.Test.YthefednendgclaaGreatMade
set_option linter.unusedVariables false
set_option linter.unusedSimpArgs false
namespace Go.Proofs.YthefednendgclaaGreat
open Go Go.RowKit Sac NT Poly

def PRow (w : World) (v : Value) (n : Nat) (ns : List Nat) : Prop := ∃ (a : Option Addr) (cap : Nat), v = .slice a n cap ∧ (n : Int) ≤ cap ∧ NatsAt w a ns
theorem PRow.below {w w' : World} {v : Value} {n : Nat} {ns : List Nat} (h : PRow w v n ns) (hb : Below w.heap.size w w') : PRow w' v n ns := by
  obtain ⟨a, c, e, h1, h⟩ := h
  exact ⟨a, c, e, h1, h.below hb⟩
theorem PRow.of {w : World} {base : Nat} {v : Value} {n : Nat} {ns : List Nat} (h : NatsOwn w base v ns) (hn : ns.length = n) : PRow w v n ns := by
  obtain ⟨a, c, e, h1, _, h, _⟩ := h.form
  exact ⟨a, c, hn ▸ e, by omega, h⟩
/-- Two rows, laid as a row. -/
def LitR (w : World) (v : Value) (n : Nat) (c d : List Nat) : Prop := ∃ (l : Nat) (a1 : Option Addr) (c1 : Nat) (a2 : Option Addr) (c2 : Nat), v = .slice (some ⟨l, 0, none⟩) 2 2 ∧ Blk w l 32 [.slice a1 n c1, .slice a2 n c2] ∧ NatsAt w a1 c ∧ NatsAt w a2 d
theorem LitR.below {w w' : World} {v : Value} {n : Nat} {c d : List Nat} (h : LitR w v n c d) (hb : Below w.heap.size w w') : LitR w' v n c d := by
  obtain ⟨l, a1, c1, a2, c2, e, h1, h2, h3⟩ := h
  exact ⟨l, a1, c1, a2, c2, e, h1.below hb h1.lt, h2.below hb, h3.below hb⟩
theorem IsPair.below {x y : Nat} {v : Value} {w w' : World} (h : IsPair x y v w) (hb : Below w.heap.size w w') : IsPair x y v w' := by
  obtain ⟨a, l, c, a', l', c', e, h1, h2⟩ := h
  exact ⟨a, l, c, a', l', c', e, h1.below hb, h2.below hb⟩

/-! ### What is known while a piece is appended -/
def Kp20 (rb : Option Nat) (w w' : World) : Prop := w.grownBy w' rb ∧ ∀ k, rb = some k → ∃ cs, w.heap[k]? = some (.cells cs 77 (0, 0))
theorem Kp20.nat {rb : Option Nat} {w w' : World} {a : Option Addr} {l n : Nat} (k : Kp20 rb w w') (h : NatS w a l n) : NatS w' a l n := by
  obtain ⟨⟨ll, h1, h2, h3, h4, h5⟩, h6⟩ := h
  refine ⟨⟨ll, h1, h2, h3, h4, h5.same fun j hj => k.1.block j hj.lt ?_⟩, h6⟩
  intro hrow
  obtain ⟨cs, hcs⟩ := k.2 j hrow.symm
  obtain ⟨cs', fr, hj⟩ := hj
  rw [hcs] at hj
  injection hj with hj
  injection hj with _ he _
  exact absurd he (by decide)
/-- A piece's cells with its numbers. -/
def PcN (w : World) (p : PV) (n : Int) (x y : Nat) : Prop := p.peer = n ∧ NatS w p.x p.xl x ∧ NatS w p.y p.yl y
theorem PcN.below {w w' : World} {p : PV} {n : Int} {x y : Nat} (h : PcN w p n x y) (hb : Below w.heap.size w w') : PcN w' p n x y := ⟨h.1, h.2.1.below hb, h.2.2.below hb⟩
theorem PcN.kp {rb : Option Nat} {w w' : World} {p : PV} {n : Int} {x y : Nat} (h : PcN w p n x y) (k : Kp20 rb w w') : PcN w' p n x y := ⟨h.1, k.nat h.2.1, k.nat h.2.2⟩
def IsPv (n : Int) (x y : Nat) (v : Value) (w : World) : Prop := ∃ p : PV, v = .agg #[.int .i64 p.peer, .slice p.x p.xl p.xc, .slice p.y p.yl p.yc] ∧ PcN w p n x y
def IsLp (rb : Option Nat) (n : Int) (x y : Nat) (v : Value) (w : World) : Prop := ∃ (q : Nat) (p : PV), v = .slice (some ⟨q, 0, none⟩) 1 1 ∧ some q ≠ rb ∧ Blk w q 77 p.enc ∧ PcN w p n x y
section
variable {rb : Option Nat}
def Fk.gn (n : Nat) : Fk (Kp20 rb) := ⟨IsNat n, IsNat.below, true, fun _ _ _ _ k ⟨x, l, c, e, h⟩ => ⟨x, l, c, e, k.nat h⟩⟩
def Fk.gp (x y : Nat) : Fk (Kp20 rb) := ⟨IsPair x y, fun _ _ _ hb h => h.below hb, true, fun _ _ _ _ k ⟨a, l, c, a', l', c', e, h1, h2⟩ => ⟨a, l, c, a', l', c', e, k.nat h1, k.nat h2⟩⟩
def Fk.gv (n : Int) (x y : Nat) : Fk (Kp20 rb) := ⟨IsPv n x y, fun _ _ _ hb ⟨p, e, h⟩ => ⟨p, e, h.below hb⟩, true, fun _ _ _ _ k ⟨p, e, h⟩ => ⟨p, e, h.kp k⟩⟩
def Fk.gl (n : Int) (x y : Nat) : Fk (Kp20 rb) := ⟨IsLp rb n x y, fun _ _ _ hb ⟨q, p, e, h0, h1, h⟩ => ⟨q, p, e, h0, h1.below hb h1.lt, h.below hb⟩, true, fun _ _ _ _ k ⟨q, p, e, h0, h1, h⟩ => ⟨q, p, e, h0, h1.same (k.1.block q h1.lt h0), h.kp k⟩⟩
end
theorem POwn.ety {w : World} {base : Nat} {v : Value} {L : List PV} (h : POwn w base v L) {k : Nat} (hk : v.ownBlock = some k) : ∃ cs, w.heap[k]? = some (.cells cs 77 (0, 0)) := by
  obtain ⟨hx, ⟨rfl, h0, h1⟩ | ⟨g, cap, rest, rfl, hb, hB, hn, hc, hl⟩⟩ := own_elim h
  · cases hk
  · injection hk with hk
    subst hk
    exact ⟨_, hB⟩
/-- A row of pieces with their numbers. -/
def PcRow (w : World) (base : Nat) (v : Value) (n : Nat) (pe : Nat → Int) (X Y : Nat → Nat) : Prop := ∃ L : List PV, POwn w base v L ∧ L.length = n ∧ ∀ i, i < n → PcN w (L.getD i default) (pe i) (X i) (Y i)
theorem PcRow.nil (w : World) (base : Nat) (pe : Nat → Int) (X Y : Nat → Nat) : PcRow w base (.slice none 0 0) 0 pe X Y := ⟨[], POwn.nil _ _, rfl, fun i hi => by omega⟩
theorem PcRow.below {w w' : World} {base : Nat} {v : Value} {n : Nat} {pe : Nat → Int} {X Y : Nat → Nat} (h : PcRow w base v n pe X Y) (hb : Below w.heap.size w w') : PcRow w' base v n pe X Y := by
  obtain ⟨L, h1, h2, h3⟩ := h
  exact ⟨L, h1.below hb, h2, fun i hi => (h3 i hi).below hb⟩
theorem PcRow.form {w : World} {base : Nat} {v : Value} {n : Nat} {pe : Nat → Int} {X Y : Nat → Nat} (h : PcRow w base v n pe X Y) : ∃ (a : Option Addr) (cap : Nat), v = .slice a n cap ∧ (n : Int) ≤ cap := by
  obtain ⟨L, h1, h2, h3⟩ := h
  obtain ⟨a, cap, e, h4, _⟩ := h1.form
  exact ⟨a, cap, h2 ▸ e, by omega⟩
theorem PcRow.new {w w' : World} {base : Nat} {v : Value} {n : Nat} {pe : Nat → Int} {X Y : Nat → Nat} (h : PcRow w base v n pe X Y) (hs : w.heap.size ≤ w'.heap.size) : some w'.heap.size ≠ v.ownBlock := by
  obtain ⟨L, h1, h2, h3⟩ := h
  intro e
  have := (h1.lt _ e.symm).2
  omega
theorem wanted_go3 {o : Oper} {y : Nat → Option Bool} {A E : Prop} (hg : o.guard = none) (h : A) : if Region.wanted o y = true then A else E := by
  rw [if_pos (by simp [Region.wanted, hg])]
  exact h
/-- One piece more, as a step. -/
theorem wp_append_pc {o : Oper} {a : Act} {w : World} {K : Act → World → Prop} {Q : Exit → Act → World → Prop} (s x : Operand)
    (hop : o.op = Op.call { callee := Callee.builtin Builtin.append, args := #[s, x], argTypes := #[69, 69] })
    (base : Nat) (v : Value) (n : Nat) (pe : Nat → Int) (X Y : Nat → Nat) (hs : a.eval s = v) (hown : PcRow w base v n pe X Y) (q : Nat) (p : PV) (hx : a.eval x = .slice (some ⟨q, 0, none⟩) 1 1) (hq : Blk w q 77 p.enc) (hp : PcN w p (pe n) (X n) (Y n))
    (hlen : n ≤ 100000) (hbase : base ≤ w.heap.size)
    (h : ∀ v' w', PcRow w' base v' (n + 1) pe X Y → Kp20 v.ownBlock w w' → Below base w w' → K (a.put o.dst v') w') :
    Oper.wp Tryz.prog o a w K Q := by
  obtain ⟨L, h1, h2, h3⟩ := hown
  obtain ⟨v', w', hr, g1, g2, g3⟩ := append_piece w base o.type v L h1 ⟨q, 0, none⟩ 1 p (fun j u hj => by
    have e : ((⟨q, 0, none⟩ : Addr).add j) = ⟨q, j, none⟩ := by unfold Addr.add; split <;> simp_all
    rw [e]
    exact (hq.cell j).trans hj) (by omega) hbase
  unfold Oper.wp execOp
  simp only [hop, resolve, invoke, builtin, Sem.run_bind, Sem.run_pure, Result.andThen_ok, List.map_toArray, List.map_cons, List.map_nil, hs, hx, hr]
  have hk : Kp20 v.ownBlock w w' := ⟨g2, fun k hk => h1.ety hk⟩
  refine h v' w' ⟨L ++ [p], g1, by rw [List.length_append, h2]; rfl, fun i hi => ?_⟩ hk (grown_below h1 hbase g2)
  rcases Nat.lt_or_ge i n with hin | hin
  · rw [show (L ++ [p]).getD i default = L.getD i default by simp [List.getD_eq_getElem?_getD, List.getElem?_append_left (show i < L.length by omega)]]
    exact (h3 i hin).kp hk
  · obtain rfl : i = n := by omega
    rw [show (L ++ [p]).getD i default = p by simp [List.getD_eq_getElem?_getD, ← h2]]
    exact hp.kp hk
def tabA11 (v0 : Value) (v1 : Value) (v2 : Value) (p3 : Fk KpN) (v4 : Value) (v5 : Value) (p6 : Fk KpN) (p7 : Fk KpN) (p8 : Fk KpN) (p9 : Fk KpN) : List (Fk KpN) := [.val v0, .val v1, .val v2, p3, .val v4, .val v5, p6, p7, p8, p9]
def dstA11 : List (Option Tmp) := [some 97, some 98, some 99, some 100, some 101, some 102, some 103, some 104, some 105, some 27]
def preA11 : List (List Nat) := [[], [], [], [1, 2], [], [], [1, 2, 3, 4, 5], [1, 2, 3, 4, 5, 6], [0, 1, 2, 3, 4, 5, 6, 7], [0, 1, 2, 3, 4, 5, 6, 7, 8]]
def maskA11 : List Bool := [false, false, false, false, false, false, false, false, false, false, false, false, false, false, false, false, false, false, false, false, false, false, false, false, false, false, false, true, false, false, false, false, false, false, false, false, false, false, false, false, false, false, false, false, false, false, false, false, false, false, false, false, false, false, false, false, false, false, false, false, false, false, false, false, false, false, false, false, false, false, false, false, false, false, false, false, false, false, false, false, false, false, false, false, false, false, false, false, false, false, false, false, false, false, false, false, false, true, true, true, true, true, true, true, true, true, false, false, false, false, false, false, false, false, false, false, false, false, false, false, false, false, false, false, false, false, false, false, false, false, false, false, false, false, false, false, false, false, false, false, false, false, false, false, false, false, false, false, false, false, false, false, false, false, false, false, false, false, false, false, false, false, false, false, false, false, false, false, false, false, false, false, false, false, false, false, false, false, false, false, false, false, false, false, false, false, false, false]
def tabA12 (v0 : Value) (v1 : Value) (v2 : Value) (v3 : Value) (v4 : Value) (v5 : Value) (v6 : Value) (v7 : Value) (v8 : Value) (n9 : Nat) (v10 : Value) (v11 : Value) (v12 : Value) (v13 : Value) (v14 : Value) (n15 : Nat) (p16 : Fk KpN) (v17 : Value) (v18 : Value) : List (Fk KpN) := [.val v0, .val v1, .val v2, .val v3, .val v4, .val v5, .val v6, .val v7, .val v8, Fk.nat (fun _ _ h => h) n9, .val v10, .val v11, .val v12, .val v13, .val v14, Fk.nat (fun _ _ h => h) n15, p16, .val v17, .val v18]
def dstA12 : List (Option Tmp) := [some 106, some 107, some 108, some 109, some 110, some 111, some 112, some 113, some 114, some 115, some 116, some 117, some 118, some 119, some 120, some 121, some 122, some 123, some 124]
def preA12 : List (List Nat) := [[], [], [], [], [], [], [5], [], [7], [4, 5, 6, 7, 8], [], [], [11], [], [13], [4, 5, 6, 7, 8, 9, 10, 11, 12, 13, 14], [4, 5, 6, 7, 8, 9, 10, 11, 12, 13, 14, 15], [0, 1, 2, 3, 4, 5, 6, 7, 8, 9, 10, 11, 12, 13, 14, 15, 16], [0, 1, 2, 3, 4, 5, 6, 7, 8, 9, 10, 11, 12, 13, 14, 15, 16, 17]]
def maskA12 : List Bool := [false, false, false, false, false, false, false, false, false, false, false, false, false, false, false, false, false, false, false, false, false, false, false, false, false, false, false, false, false, false, false, false, false, false, false, false, false, false, false, false, false, false, false, false, false, false, false, false, false, false, false, false, false, false, false, false, false, false, false, false, false, false, false, false, false, false, false, false, false, false, false, false, false, false, false, false, false, false, false, false, false, false, false, false, false, false, false, false, false, false, false, false, false, false, false, false, false, false, false, false, false, false, false, false, false, false, true, true, true, true, true, true, true, true, true, true, true, true, true, true, true, true, true, true, true, false, false, false, false, false, false, false, false, false, false, false, false, false, false, false, false, false, false, false, false, false, false, false, false, false, false, false, false, false, false, false, false, false, false, false, false, false, false, false, false, false, false, false, false, false, false, false, false, false, false, false, false, false, false, false, false, false, false, false, false, false, false, false]
def tabA20 {rb : Option Nat} (v0 : Value) (v1 : Value) (v2 : Value) (v3 : Value) (v4 : Value) (v5 : Value) (v6 : Value) (v7 : Value) (p8 : Fk (Kp20 rb)) (v9 : Value) (v10 : Value) (v11 : Value) (v12 : Value) (v13 : Value) (p14 : Fk (Kp20 rb)) (p15 : Fk (Kp20 rb)) (p16 : Fk (Kp20 rb)) (p17 : Fk (Kp20 rb)) (p18 : Fk (Kp20 rb)) : List (Fk (Kp20 rb)) := [.val v0, .val v1, .val v2, .val v3, .val v4, .val v5, .val v6, .val v7, p8, .val v9, .val v10, .val v11, .val v12, .val v13, p14, p15, p16, p17, p18, .any]
def dstA20 : List (Option Tmp) := [some 145, some 146, some 147, some 148, some 149, some 150, some 151, some 152, some 153, some 154, some 155, some 156, some 157, some 158, some 159, some 160, some 161, some 162, some 163, some 28]
def preA20 : List (List Nat) := [[], [], [1], [], [], [4], [], [6], [3, 4, 5, 6, 7], [], [], [10], [], [12], [3, 4, 5, 6, 7, 8, 9, 10, 11, 12, 13], [3, 4, 5, 6, 7, 8, 9, 10, 11, 12, 13, 14], [1, 2, 3, 4, 5, 6, 7, 8, 9, 10, 11, 12, 13, 14, 15], [1, 2, 3, 4, 5, 6, 7, 8, 9, 10, 11, 12, 13, 14, 15, 16], [0, 1, 2, 3, 4, 5, 6, 7, 8, 9, 10, 11, 12, 13, 14, 15, 16, 17], [0, 1, 2, 3, 4, 5, 6, 7, 8, 9, 10, 11, 12, 13, 14, 15, 16, 17, 18]]
def maskA20 : List Bool := [false, false, false, false, false, false, false, false, false, false, false, false, false, false, false, false, false, false, false, false, false, false, false, false, false, false, false, false, true, false, false, false, false, false, false, false, false, false, false, false, false, false, false, false, false, false, false, false, false, false, false, false, false, false, false, false, false, false, false, false, false, false, false, false, false, false, false, false, false, false, false, false, false, false, false, false, false, false, false, false, false, false, false, false, false, false, false, false, false, false, false, false, false, false, false, false, false, false, false, false, false, false, false, false, false, false, false, false, false, false, false, false, false, false, false, false, false, false, false, false, false, false, false, false, false, false, false, false, false, false, false, false, false, false, false, false, false, false, false, false, false, false, false, false, false, true, true, true, true, true, true, true, true, true, true, true, true, true, true, true, true, true, true, true, false, false, false, false, false, false, false, false, false, false, false, false, false, false, false, false, false, false, false, false, false, false, false, false]
def tabA23 (v0 : Value) (v1 : Value) (v2 : Value) (v3 : Value) (v4 : Value) (v5 : Value) (v6 : Value) (n7 : Nat) (v8 : Value) (n9 : Nat) (n10 : Nat) (v11 : Value) (v12 : Value) (v13 : Value) (v14 : Value) : List (Fk KpN) := [.val v0, .val v1, .val v2, .val v3, .val v4, .val v5, .val v6, Fk.nat (fun _ _ h => h) n7, .val v8, Fk.nat (fun _ _ h => h) n9, Fk.nat (fun _ _ h => h) n10, .val v11, .val v12, .val v13, .val v14]
def dstA23 : List (Option Tmp) := [some 174, some 175, some 176, some 177, some 178, some 179, some 180, some 181, some 182, some 183, some 184, some 185, some 186, some 187, some 14]
def preA23 : List (List Nat) := [[], [0], [0, 1], [0, 1, 2], [0, 1, 2, 3], [0, 1, 2], [0, 1, 2], [0, 1, 2, 6], [0, 1, 2], [0, 1, 2, 6, 7, 8], [0, 1, 2, 5, 6, 7, 8, 9], [0, 1, 2, 3, 4, 5, 6, 7, 8, 9, 10], [0, 1, 2, 3, 4, 5, 6, 7, 8, 9, 10, 11], [0, 1, 2, 3, 4, 5, 6, 7, 8, 9, 10, 11, 12], [0, 1, 2, 3, 4, 5, 6, 7, 8, 9, 10, 11, 12, 13]]
def maskA23 : List Bool := [false, false, false, false, false, false, false, false, false, false, false, false, false, false, true, false, false, false, false, false, false, false, false, false, false, false, false, false, false, false, false, false, false, false, false, false, false, false, false, false, false, false, false, false, false, false, false, false, false, false, false, false, false, false, false, false, false, false, false, false, false, false, false, false, false, false, false, false, false, false, false, false, false, false, false, false, false, false, false, false, false, false, false, false, false, false, false, false, false, false, false, false, false, false, false, false, false, false, false, false, false, false, false, false, false, false, false, false, false, false, false, false, false, false, false, false, false, false, false, false, false, false, false, false, false, false, false, false, false, false, false, false, false, false, false, false, false, false, false, false, false, false, false, false, false, false, false, false, false, false, false, false, false, false, false, false, false, false, false, false, false, false, false, false, false, false, false, false, false, false, false, false, false, false, true, true, true, true, true, true, true, true, true, true, true, true, true, true]

set_option maxRecDepth 100000 in
set_option maxHeartbeats 10000000 in
theorem dadds_any (n t : Int) (A B : Nat) (a : Option Addr) (len cap : Nat) (xs : List Nat) (b : Option Addr) (lenb capb : Nat) (ys : List Nat) (peer : Int) (w : World)
    (ha : RdC w a (xs.map w64)) (hl : xs.length = len) (hc : (len : Int) ≤ cap) (hx : ∀ y ∈ xs, y < 18446744073709551616) (ha' : RdC w b (ys.map w64)) (hl' : ys.length = lenb) (hc' : (lenb : Int) ≤ capb) (hx' : ∀ y ∈ ys, y < 18446744073709551616) (hA : A < 18446744073709551616) (hB : B < 18446744073709551616) :
    Calls Tryz.prog 5 #[.int .i64 n, .int .i64 t, .int .u64 (A : Int), .int .u64 (B : Int), .slice a len cap, .slice b lenb capb, .int .i64 peer] w fun e w' => e = .returned (.bool true) ∧ Below w.heap.size w w' := by
  have HA := Lib.hid (And.intro ha (And.intro hl (And.intro hc hx)))
  have HA' := Lib.hid (And.intro ha' (And.intro hl' (And.intro hc' hx')))
  have HXX := Lib.hid (And.intro hA hB)
  obtain ⟨k, hk⟩ : ∃ k, kOf n = k := ⟨_, rfl⟩
  have HK := Lib.hid hk
  obtain ⟨vp, hvp, hvp9⟩ : ∃ v : Nat, (IntKind.u64.wrap peer) % 64 = (v : Int) ∧ v ≤ 63 := ⟨((IntKind.u64.wrap peer) % 64).toNat, by omega, by omega⟩
  have hf0 : 0 ≤ IntKind.u64.wrap peer := by show 0 ≤ peer % 18446744073709551616; omega
  have v1 : Int.tmod (IntKind.u64.wrap peer) 64 = (vp : Int) := by rw [Int.tmod_eq_emod_of_nonneg hf0]; exact hvp
  have v3 : IntKind.u64.wrap (vp : Int) = (vp : Int) := wraps_u64 _ (by omega) (by omega)
  have v5 : IntKind.i64.wrap (vp : Int) = (vp : Int) := i64_small _ (by omega) (by omega)
  have v7 : IntKind.i64.wrap (1 + (vp : Int)) = 1 + (vp : Int) := i64_small _ (by omega) (by omega)
  have HVV := Lib.hid (And.intro hvp (And.intro v1 (And.intro v3 (And.intro v5 v7))))
  clear ha hl hc hx ha' hl' hc' hx' hA hB hk hf0 hvp v1 v3 v5 v7
  go_enter Tryz.func5, Tryz.ntmps5
  go_wp2_with fail
  refine (lives14_any w).mono ?_
  rintro e w2 ⟨rfl, hb2⟩
  have HB2 := Lib.hid hb2
  clear hb2
  go_wp2_with fail
  have hmade := made_tany n t A B a len cap xs w2 (HA.out.1.below HB2.out) HA.out.2.1 HA.out.2.2.1 HA.out.2.2.2 HXX.out.1 HXX.out.2
  rw [HK.out] at hmade
  refine hmade.mono ?_
  clear hmade
  rintro e w3 ⟨g, T, nl, va, ca, vb, cb, rfl, hT1, hT6, hTl, hca, hcb, hg, hV, hM, hb3, hT0⟩
  clear hT0
  obtain ⟨V, hVe⟩ : ∃ V, dvF (gQ k) A nl (T - 1) = V := ⟨_, rfl⟩
  obtain ⟨M, hMe⟩ : ∃ M, dvF (gQ k) B (nl.drop (T - 1)) (T - 1) = M := ⟨_, rfl⟩
  have HLV : Hid (V.length = T ∧ M.length = T) := ⟨by rw [← hVe, dvF_length (by omega)]; omega, by rw [← hMe, dvF_length (by rw [List.length_drop]; omega)]; omega⟩
  have HLQ : Hid ((∀ a ∈ V, a < gQ k) ∧ ∀ a ∈ M, a < gQ k) := ⟨hVe ▸ dvF_ltQ (gQ_pos k), hMe ▸ dvF_ltQ (gQ_pos k)⟩
  have HV0 : Hid (V.getD 0 0 = A % gQ k) := by show _ = _; rw [← hVe]; rfl
  rw [hVe] at hV
  rw [hMe] at hM
  obtain ⟨D, hDs⟩ : ∃ D, D = w3.heap.size := ⟨_, rfl⟩
  have hbd := (Below.refl _ w3).alloc (Nat.le_refl _) (Obj.cells #[Value.slice va T ca, Value.slice vb T cb] 56)
  have HBd4 : Hid (Blk (w3.alloc (Obj.cells #[Value.slice va T ca, Value.slice vb T cb] 56)) D 56 [.slice va T ca, .slice vb T cb]) := Blk.new' w3 _ _ D hDs
  have HG4 : Hid (GroupAt (w3.alloc (Obj.cells #[Value.slice va T ca, Value.slice vb T cb] 56)) g (gP k) (gQ k) (gG k) (gH k) (gS k)) := hg.below hbd
  have HVM4 := Lib.hid (And.intro (hV.below hbd) (hM.below hbd))
  have HB4 := Lib.hid (HB2.out.trans ((hb3.trans (hbd.mono hb3.size)).mono HB2.out.size))
  have HDs := Lib.hid hDs
  obtain ⟨u, hu⟩ : ∃ u, T = u + 1 := ⟨T - 1, by omega⟩
  have HU := Lib.hid hu
  have w1 : IntKind.i64.wrap ((T : Int) - 1) = (u : Int) := by rw [i64_small _ (by omega) (by omega)]; omega
  have hu5 : u ≤ 5 := by omega
  clear hg hV hM hb3 hbd hVe hMe hDs HB2 hu
  go_wp2_with fail
  rw [← HDs.out]
  generalize w3.alloc (Obj.cells #[Value.slice va T ca, Value.slice vb T cb] 56) = w4 at HBd4 HG4 HVM4 HB4 ⊢
  have hmade := made_tany n (u : Int) B A b lenb capb ys w4 (HA'.out.1.below HB4.out) HA'.out.2.1 HA'.out.2.2.1 HA'.out.2.2.2 HXX.out.2 HXX.out.1
  rw [HK.out] at hmade
  refine hmade.mono ?_
  clear hmade
  rintro e w5 ⟨g2, T2, nl2, va2, ca2, vb2, cb2, rfl, _, _, hTl2, hca2, hcb2, _, hV2, hM2, hb5, hT2⟩
  obtain rfl : T = T2 := by
    have e := HU.out
    rw [wraps_u64 _ (by omega) (by omega)] at hT2
    omega
  obtain ⟨V2, hVe⟩ : ∃ V2, dvF (gQ k) B nl2 (T - 1) = V2 := ⟨_, rfl⟩
  obtain ⟨M2, hMe⟩ : ∃ M2, dvF (gQ k) A (nl2.drop (T - 1)) (T - 1) = M2 := ⟨_, rfl⟩
  have HLV2 : Hid (V2.length = T ∧ M2.length = T) := ⟨by rw [← hVe, dvF_length (by omega)]; omega, by rw [← hMe, dvF_length (by rw [List.length_drop]; omega)]; omega⟩
  have HLQ2 : Hid ((∀ a ∈ V2, a < gQ k) ∧ ∀ a ∈ M2, a < gQ k) := ⟨hVe ▸ dvF_ltQ (gQ_pos k), hMe ▸ dvF_ltQ (gQ_pos k)⟩
  have HW0 : Hid (V2.getD 0 0 = B % gQ k) := by show _ = _; rw [← hVe]; rfl
  rw [hVe] at hV2
  rw [hMe] at hM2
  obtain ⟨E, hEs⟩ : ∃ E, E = w5.heap.size := ⟨_, rfl⟩
  have hbd := (Below.refl _ w5).alloc (Nat.le_refl _) (Obj.cells #[Value.slice va2 T ca2, Value.slice vb2 T cb2] 56)
  have hbb5 : BB w4 (w5.alloc (Obj.cells #[Value.slice va2 T ca2, Value.slice vb2 T cb2] 56)) := BB.step hb5 hbd
  have HBe6 : Hid (Blk (w5.alloc (Obj.cells #[Value.slice va2 T ca2, Value.slice vb2 T cb2] 56)) E 56 [.slice va2 T ca2, .slice vb2 T cb2]) := Blk.new' w5 _ _ E hEs
  have HG6 := Lib.hid (HG4.out.below hbb5)
  have HVM6 := Lib.hid (And.intro (HVM4.out.1.below hbb5) (And.intro (HVM4.out.2.below hbb5) (And.intro (hV2.below hbd) (hM2.below hbd))))
  have HBd6 := Lib.hid (HBd4.out.below hbb5 HBd4.out.lt)
  have HB6 := Lib.hid (HB4.out.trans (Below.mono hbb5 HB4.out.size))
  have HEs := Lib.hid hEs
  have d0 := HBd6.out.cell 0
  have d1 := HBd6.out.cell 1
  have e0 := HBe6.out.cell 0
  have e1 := HBe6.out.cell 1
  simp only [List.getElem?_cons_zero, List.getElem?_cons_succ] at d0 d1 e0 e1
  clear hV2 hM2 hb5 hbd hVe hMe hEs hbb5 HG4 HVM4 HBd4 HB4 hT2 w1
  go_wp2_with fail
  rw [← HEs.out]
  generalize w5.alloc (Obj.cells #[Value.slice va2 T ca2, Value.slice vb2 T cb2] 56) = w6 at HBe6 HG6 HVM6 HBd6 HB6 d0 d1 e0 e1 ⊢
  go_wp2_with fail
  refine (gfield_any g _ _ _ _ _ w6 HG6.out).mono ?_
  rintro e w7 ⟨r, rfl, hr, hb7⟩
  have HR7 : Hid (RingAt w7 r (gQ k)) := hr
  have HG7 := Lib.hid (HG6.out.below hb7)
  have HVM7 := Lib.hid (And.intro (HVM6.out.1.below hb7) (And.intro (HVM6.out.2.1.below hb7) (And.intro (HVM6.out.2.2.1.below hb7) (HVM6.out.2.2.2.below hb7))))
  have HBd7 := Lib.hid (HBd6.out.below hb7 HBd6.out.lt)
  have HBe7 := Lib.hid (HBe6.out.below hb7 HBe6.out.lt)
  have HB7 := Lib.hid (HB6.out.trans (hb7.mono HB6.out.size))
  obtain ⟨hvp, v1, v3, v5, v7⟩ := HVV.out
  obtain ⟨p, hp⟩ : ∃ p : Nat, 1 + (vp : Int) = (p : Int) := ⟨vp + 1, by omega⟩
  have hp1 : 1 ≤ p := by omega
  have hp64 : p ≤ 64 := by omega
  rw [hp] at v7
  have d0 := HBd7.out.cell 0
  have d1 := HBd7.out.cell 1
  simp only [List.getElem?_cons_zero, List.getElem?_cons_succ] at d0 d1
  clear hr hb7 HG6 HVM6 HBd6 HBe6 HB6 hvp e0 e1
  go_wp2_with fail
  clear hp v1 v3 v5 v7 d0 d1
  obtain ⟨VV, hVV⟩ : ∃ VV, addl (gQ k) V V2 = VV := ⟨_, rfl⟩
  obtain ⟨MM, hMM⟩ : ∃ MM, addl (gQ k) M M2 = MM := ⟨_, rfl⟩
  have HVL : Hid (VV.length = T ∧ MM.length = T) := ⟨by rw [← hVV, addl_length, HLV.out.1, HLV2.out.1]; exact Nat.max_self T, by rw [← hMM, addl_length, HLV.out.2, HLV2.out.2]; exact Nat.max_self T⟩
  have HEV : Hid (∀ x, (evalm (gQ k) V (x % gQ k) + evalm (gQ k) V2 (x % gQ k)) % gQ k = evalm (gQ k) VV (x % gQ k) ∧ (evalm (gQ k) M (x % gQ k) + evalm (gQ k) M2 (x % gQ k)) % gQ k = evalm (gQ k) MM (x % gQ k)) := fun x => ⟨by rw [← hVV]; exact (exps_add (gQ_pos k) V V2 x).symm, by rw [← hMM]; exact (exps_add (gQ_pos k) M M2 x).symm⟩
  have HSEC : Hid (evalm (gQ k) VV (0 % gQ k) = (A + B) % gQ k) := by
    show _ = _
    rw [evalm_at0 (gQ_pos k), ← hVV, addl_zero HV0.out HW0.out (by rw [HLV.out.1, HLV2.out.1]; omega), Nat.mod_mod]
  obtain ⟨C, hCe⟩ : ∃ C, allP k VV MM = C := ⟨_, rfl⟩
  have HCe := Lib.hid hCe
  obtain ⟨C1, hC1⟩ : ∃ C1, allG (gP k) (gG k) (gH k) V M = C1 := ⟨_, rfl⟩
  obtain ⟨C2, hC2⟩ : ∃ C2, allG (gP k) (gG k) (gH k) V2 M2 = C2 := ⟨_, rfl⟩
  have HCJ : Hid (join2 (gP k) C1 C2 = C) := by show _ = _; rw [← hC1, ← hC2, allG_eq, allG_eq, join_sums, hVV, hMM]; exact hCe
  have HCL : Hid (C1.length = T ∧ C2.length = T ∧ C.length = T) := ⟨by rw [← hC1, allG_length, HLV.out.1, HLV.out.2]; exact Nat.max_self T, by rw [← hC2, allG_length, HLV2.out.1, HLV2.out.2]; exact Nat.max_self T, by rw [← hCe, allP_length, HVL.out.1, HVL.out.2]; exact Nat.max_self T⟩
  have HC12 := Lib.hid (And.intro hC1 hC2)
  have HTT : Hid ((T : Int) ≤ 10000) := by show _ ≤ _; omega
  have HSM : Hid ((∀ a ∈ V, a < 2 ^ 1000) ∧ (∀ a ∈ M, a < 2 ^ 1000) ∧ (∀ a ∈ V2, a < 2 ^ 1000) ∧ (∀ a ∈ M2, a < 2 ^ 1000)) := ⟨fun a h => below_1000 k (HLQ.out.1 a h), fun a h => below_1000 k (HLQ.out.2 a h), fun a h => below_1000 k (HLQ2.out.1 a h), fun a h => below_1000 k (HLQ2.out.2 a h)⟩
  have HRG : Hid (∀ m : Nat, 1 ≤ m → m ≤ 64 → RightP (gP k) (gQ k) (gG k) (gH k) T C (m : Int) (evalm (gQ k) VV (m % gQ k)) (evalm (gQ k) MM (m % gQ k))) := fun m h1 h2 => by rw [← hCe]; exact right_share k T m HVL.out.1 HVL.out.2 h1 h2
  clear hVV hMM hCe hC1 hC2
  obtain ⟨S1, hS1⟩ : ∃ S1, evalm (gQ k) V (p % gQ k) = S1 := ⟨_, rfl⟩
  obtain ⟨R1, hR1⟩ : ∃ R1, evalm (gQ k) M (p % gQ k) = R1 := ⟨_, rfl⟩
  obtain ⟨S2, hS2⟩ : ∃ S2, evalm (gQ k) V2 (p % gQ k) = S2 := ⟨_, rfl⟩
  obtain ⟨R2, hR2⟩ : ∃ R2, evalm (gQ k) M2 (p % gQ k) = R2 := ⟨_, rfl⟩
  obtain ⟨SA, hSA⟩ : ∃ SA, evalm (gQ k) VV (p % gQ k) = SA := ⟨_, rfl⟩
  obtain ⟨RA, hRA⟩ : ∃ RA, evalm (gQ k) MM (p % gQ k) = RA := ⟨_, rfl⟩
  have HSR := Lib.hid (And.intro hS1 (And.intro hR1 (And.intro hS2 hR2)))
  have HSA : Hid ((S1 + S2) % gQ k = SA ∧ (R1 + R2) % gQ k = RA) := by
    have h := HEV.out p
    rw [hS1, hS2, hR1, hR2, hSA, hRA] at h
    exact h
  have HRT : Hid (decide (RightP (gP k) (gQ k) (gG k) (gH k) T C (p : Int) SA RA) = true) := by
    have h := HRG.out p hp1 hp64
    rw [hSA, hRA] at h
    exact decide_eq_true h
  clear hS1 hR1 hS2 hR2 hSA hRA
  refine (dshare_any g _ _ _ _ _ va T ca V vb T cb M p w7 HG7.out hp1 hp64 HVM7.out.1 HLV.out.1 HTT.out HVM7.out.2.1 HLV.out.2 HTT.out).mono ?_
  rw [HSR.out.1, HSR.out.2.1]
  rintro e wa ⟨x1, x2, x3, x4, x5, x6, rfl, hx1, hx2, hba⟩
  obtain ⟨XA, hXA⟩ : ∃ XA, XA = wa.heap.size := ⟨_, rfl⟩
  have hbx := (Below.refl _ wa).alloc (Nat.le_refl _) (Obj.cells #[Value.slice x1 x2 x3, Value.slice x4 x5 x6] 64)
  have hbb : BB w7 (wa.alloc (Obj.cells #[Value.slice x1 x2 x3, Value.slice x4 x5 x6] 64)) := BB.step hba hbx
  have HBX : Hid (Blk (wa.alloc (Obj.cells #[Value.slice x1 x2 x3, Value.slice x4 x5 x6] 64)) XA 64 [.slice x1 x2 x3, .slice x4 x5 x6]) := Blk.new' wa _ _ XA hXA
  have HNX := Lib.hid (And.intro (hx1.below hbx) (hx2.below hbx))
  have HBE := Lib.hid (HBe7.out.below hbb HBe7.out.lt)
  have HBBa := Lib.hid hbb
  have HXA := Lib.hid hXA
  have e0 := HBE.out.cell 0
  have e1 := HBE.out.cell 1
  simp only [List.getElem?_cons_zero, List.getElem?_cons_succ] at e0 e1
  clear hx1 hx2 hba hbx hbb hXA
  go_wp2_with fail
  rw [← HXA.out]
  generalize wa.alloc (Obj.cells #[Value.slice x1 x2 x3, Value.slice x4 x5 x6] 64) = wb at HBX HNX HBE HBBa e0 e1 ⊢
  clear e0 e1
  refine (dshare_any g _ _ _ _ _ va2 T ca2 V2 vb2 T cb2 M2 p wb (HG7.out.below HBBa.out) hp1 hp64 (HVM7.out.2.2.1.below HBBa.out) HLV2.out.1 HTT.out (HVM7.out.2.2.2.below HBBa.out) HLV2.out.2 HTT.out).mono ?_
  rw [HSR.out.2.2.1, HSR.out.2.2.2]
  rintro e wc ⟨y1, y2, y3, y4, y5, y6, rfl, hy1, hy2, hbc⟩
  obtain ⟨YA, hYA⟩ : ∃ YA, YA = wc.heap.size := ⟨_, rfl⟩
  have hbx := (Below.refl _ wc).alloc (Nat.le_refl _) (Obj.cells #[Value.slice y1 y2 y3, Value.slice y4 y5 y6] 64)
  have hbb : BB wb (wc.alloc (Obj.cells #[Value.slice y1 y2 y3, Value.slice y4 y5 y6] 64)) := BB.step hbc hbx
  have hbb7 : BB w7 (wc.alloc (Obj.cells #[Value.slice y1 y2 y3, Value.slice y4 y5 y6] 64)) := HBBa.out.trans (Below.mono hbb HBBa.out.size)
  have HBY : Hid (Blk (wc.alloc (Obj.cells #[Value.slice y1 y2 y3, Value.slice y4 y5 y6] 64)) YA 64 [.slice y1 y2 y3, .slice y4 y5 y6]) := Blk.new' wc _ _ YA hYA
  have HN8 := Lib.hid (And.intro (HNX.out.1.below hbb) (And.intro (HNX.out.2.below hbb) (And.intro (hy1.below hbx) (hy2.below hbx))))
  have HBX8 := Lib.hid (HBX.out.below hbb HBX.out.lt)
  have HG8 := Lib.hid (HG7.out.below hbb7)
  have HR8 := Lib.hid (HR7.out.below hbb7)
  have HVM8 := Lib.hid (And.intro (HVM7.out.1.below hbb7) (And.intro (HVM7.out.2.1.below hbb7) (And.intro (HVM7.out.2.2.1.below hbb7) (HVM7.out.2.2.2.below hbb7))))
  have hBd8 := HBd7.out.below hbb7 HBd7.out.lt
  have hBe8 := HBe7.out.below hbb7 HBe7.out.lt
  have HB8 := Lib.hid (HB7.out.trans (Below.mono hbb7 HB7.out.size))
  have HYA := Lib.hid hYA
  clear hy1 hy2 hbc hbx hbb hbb7 hYA HBX HNX HBE HBBa HG7 HR7 HVM7 HBd7 HBe7 HB7 HSR
  go_wp2_with fail
  rw [← HYA.out]
  generalize wc.alloc (Obj.cells #[Value.slice y1 y2 y3, Value.slice y4 y5 y6] 64) = w8 at HBY HN8 HBX8 HG8 HR8 HVM8 hBd8 hBe8 HB8 ⊢
  have gD0 : ∀ w', BB w8 w' → w'.cell? ⟨D, 0, none⟩ = some (.slice va T ca) := fun w' h => (h.cell hBd8.lt).trans (hBd8.cell 0)
  have gD1 : ∀ w', BB w8 w' → w'.cell? ⟨D, 1, none⟩ = some (.slice vb T cb) := fun w' h => (h.cell hBd8.lt).trans (hBd8.cell 1)
  have gE0 : ∀ w', BB w8 w' → w'.cell? ⟨E, 0, none⟩ = some (.slice va2 T ca2) := fun w' h => (h.cell hBe8.lt).trans (hBe8.cell 0)
  have gE1 : ∀ w', BB w8 w' → w'.cell? ⟨E, 1, none⟩ = some (.slice vb2 T cb2) := fun w' h => (h.cell hBe8.lt).trans (hBe8.cell 1)
  have HBd8 := Lib.hid hBd8
  have HBe8 := Lib.hid hBe8
  clear hBd8 hBe8
  refine wp_region_mix (fun _ w' => BB w8 w') (GF (tabA11 (.pointer (some ⟨g, 0, none⟩)) (.agg #[.slice va T ca, .slice vb T cb]) (.pointer (some ⟨g, 0, none⟩)) (Fk.rel (fun v w => PRow w v T C1) (fun _ _ _ hb h => h.below hb)) (.agg #[.slice va2 T ca2, .slice vb2 T cb2]) (.pointer (some ⟨g, 0, none⟩)) (Fk.rel (fun v w => PRow w v T C2) (fun _ _ _ hb h => h.below hb)) (Fk.rel (fun v w => LitR w v T C1 C2) (fun _ _ _ hb h => h.below hb)) (Fk.rel (fun v w => PRow w v T C) (fun _ _ _ hb h => h.below hb)) (Fk.rel (fun v w => PRow w v T C) (fun _ _ _ hb h => h.below hb)))) maskA11 dstA11 preA11 (by kernel_rfl) (by kernel_rfl) rfl (by kernel_rfl) (by kernel_rfl) (by kernel_rfl) (by kernel_rfl) (BB.drew (BB.refl _)) ?_ ?_
  · refine StepsM.cons ?qA110 (StepsM.cons ?qA111 (StepsM.cons ?qA112 (StepsM.cons ?qA113 (StepsM.cons ?qA114 (StepsM.cons ?qA115 (StepsM.cons ?qA116 (StepsM.cons ?qA117 (StepsM.cons ?qA118 (StepsM.cons ?qA119 (StepsM.nil))))))))))
    case qA110 | qA112 | qA115 =>
      refine fun l g' wu hB hl hn hp K hK => ?_
      simp only [mkM, maskA11, mixM, Nat.reduceAdd] at hK ⊢; simp only [Act.put, List.setIfInBounds_toArray, List.set_cons_zero, List.set_cons_succ] at hK; go_simp; exact hK.out _ _ hB GF.same rfl
    case qA111 =>
      refine fun l g' wu hB hl hn hp K hK => ?_
      have hbb := hB; have c0 := gD0 _ hbb; have c1 := gD1 _ hbb; simp only [mkM, maskA11, mixM, Nat.reduceAdd] at hK ⊢; simp only [Act.put, List.setIfInBounds_toArray, List.set_cons_zero, List.set_cons_succ] at hK; go_simp; exact hK.out _ _ hB GF.same rfl
    case qA113 =>
      refine fun l g' wu hB hl hn hp K hK => ?_
      have hbb := hB; have e1 : g' 98 = .agg #[.slice va T ca, .slice vb T cb] := (hp 1 (by decide)).2; have e2 : g' 99 = .pointer (some ⟨g, 0, none⟩) := (hp 2 (by decide)).2; simp only [mkM, maskA11, mixM, Nat.reduceAdd, e1, e2] at hK ⊢; clear e1 e2; simp only [Act.put, List.setIfInBounds_toArray, List.set_cons_zero, List.set_cons_succ] at hK; go_simp; go_at_call 28; refine (dpledges_any g _ _ _ _ _ va T ca V vb T cb M wu (HG8.out.below hbb) (gP_one k) HSM.out.1 HSM.out.2.1 (HVM8.out.1.below hbb) HLV.out.1 HTT.out (HVM8.out.2.1.below hbb) HLV.out.2 HTT.out).mono ?_; rw [HC12.out.1]; rintro e w7 ⟨v7, rfl, hrow, hb⟩; go_wp2_with fail; exact hK.out _ _ (BB.step hbb hb) (GF.below hb) (PRow.of hrow HCL.out.1)
    case qA114 =>
      refine fun l g' wu hB hl hn hp K hK => ?_
      have hbb := hB; have c0 := gE0 _ hbb; have c1 := gE1 _ hbb; simp only [mkM, maskA11, mixM, Nat.reduceAdd] at hK ⊢; simp only [Act.put, List.setIfInBounds_toArray, List.set_cons_zero, List.set_cons_succ] at hK; go_simp; exact hK.out _ _ hB GF.same rfl
    case qA116 =>
      refine fun l g' wu hB hl hn hp K hK => ?_
      have hbb := hB; have e4 : g' 101 = .agg #[.slice va2 T ca2, .slice vb2 T cb2] := (hp 4 (by decide)).2; have e5 : g' 102 = .pointer (some ⟨g, 0, none⟩) := (hp 5 (by decide)).2; simp only [mkM, maskA11, mixM, Nat.reduceAdd, e4, e5] at hK ⊢; clear e4 e5; simp only [Act.put, List.setIfInBounds_toArray, List.set_cons_zero, List.set_cons_succ] at hK; go_simp; go_at_call 28; refine (dpledges_any g _ _ _ _ _ va2 T ca2 V2 vb2 T cb2 M2 wu (HG8.out.below hbb) (gP_one k) HSM.out.2.2.1 HSM.out.2.2.2 (HVM8.out.2.2.1.below hbb) HLV2.out.1 HTT.out (HVM8.out.2.2.2.below hbb) HLV2.out.2 HTT.out).mono ?_; rw [HC12.out.2]; rintro e w7 ⟨v7, rfl, hrow, hb⟩; go_wp2_with fail; exact hK.out _ _ (BB.step hbb hb) (GF.below hb) (PRow.of hrow HCL.out.2.1)
    case qA117 =>
      refine fun l g' wu hB hl hn hp K hK => ?_
      have hbb := hB; have h3 : PRow wu (g' 100) T C1 := (hp 3 (by decide)).2; have h6 : PRow wu (g' 103) T C2 := (hp 6 (by decide)).2; obtain ⟨a3, k3, ez3, _, hn3⟩ := h3; obtain ⟨a6, k6, ez6, _, hn6⟩ := h6; simp only [mkM, maskA11, mixM, Nat.reduceAdd, ez3, ez6] at hK ⊢; simp only [Act.put, List.setIfInBounds_toArray, List.set_cons_zero, List.set_cons_succ] at hK; go_simp; have hb := (Below.refl _ wu).alloc (Nat.le_refl _) (Obj.cells #[Value.slice a3 T k3, Value.slice a6 T k6] 32); exact hK.out _ _ (BB.step hbb hb) (GF.below hb) ⟨wu.heap.size, a3, k3, a6, k6, rfl, Blk.new wu _ _, hn3.below hb, hn6.below hb⟩
    case qA118 =>
      refine fun l g' wu hB hl hn hp K hK => ?_
      have hbb := hB; have e0 : g' 97 = .pointer (some ⟨g, 0, none⟩) := (hp 0 (by decide)).2; have h7 : LitR wu (g' 104) T C1 C2 := (hp 7 (by decide)).2; obtain ⟨l7, a1, c1, a2, c2, ez7, hl7, hn1, hn2⟩ := h7; simp only [mkM, maskA11, mixM, Nat.reduceAdd, e0, ez7] at hK ⊢; clear e0; simp only [Act.put, List.setIfInBounds_toArray, List.set_cons_zero, List.set_cons_succ] at hK; go_simp; go_at_call 32; refine (pjoin_any g _ _ _ _ _ l7 a1 T c1 C1 a2 T c2 C2 wu (HG8.out.below hbb) hl7 hn1 HCL.out.1 HTT.out hn2 HCL.out.2.1 HTT.out).mono ?_; rw [HCJ.out]; rintro e w7 ⟨v7, rfl, hrow, hb⟩; go_wp2_with fail; exact hK.out _ _ (BB.step hbb hb) (GF.below hb) (PRow.of hrow HCL.out.2.2)
    case qA119 =>
      refine fun l g' wu hB hl hn hp K hK => ?_
      have h8 : PRow wu (g' 105) T C := (hp 8 (by decide)).2; simp only [mkM, maskA11, mixM, Nat.reduceAdd] at hK ⊢; simp only [Act.put, List.setIfInBounds_toArray, List.set_cons_zero, List.set_cons_succ] at hK; go_simp; exact hK.out _ _ hB GF.same h8
  · intro l gz wz hall hB hG
    have h9 : PRow wz (gz 27) T C := hG 9 (by decide)
    obtain ⟨ja, jc, e27, hjc, hj⟩ := h9
    have HW9 : Hid (BB w8 wz) := hB
    have HJ := Lib.hid hj
    simp only [mkM, maskA11, mixM, Nat.reduceAdd, e27]
    clear hG hall hB e27 hj gD0 gD1 gE0 gE1
    obtain ⟨w9, rfl⟩ : ∃ w9, w9 = wz := ⟨wz, rfl⟩
    have HGG := Lib.hid (HG8.out.below HW9.out)
    have HRR := Lib.hid (HR8.out.below HW9.out)
    have hX9 := HBX8.out.below HW9.out HBX8.out.lt
    have hY9 := HBY.out.below HW9.out HBY.out.lt
    have gX0 : ∀ w', BB w9 w' → w'.cell? ⟨XA, 0, none⟩ = some (.slice x1 x2 x3) := fun w' h => (h.cell hX9.lt).trans (hX9.cell 0)
    have gX1 : ∀ w', BB w9 w' → w'.cell? ⟨XA, 1, none⟩ = some (.slice x4 x5 x6) := fun w' h => (h.cell hX9.lt).trans (hX9.cell 1)
    have gY0 : ∀ w', BB w9 w' → w'.cell? ⟨YA, 0, none⟩ = some (.slice y1 y2 y3) := fun w' h => (h.cell hY9.lt).trans (hY9.cell 0)
    have gY1 : ∀ w', BB w9 w' → w'.cell? ⟨YA, 1, none⟩ = some (.slice y4 y5 y6) := fun w' h => (h.cell hY9.lt).trans (hY9.cell 1)
    have HN9 := Lib.hid (And.intro (HN8.out.1.below HW9.out) (And.intro (HN8.out.2.1.below HW9.out) (And.intro (HN8.out.2.2.1.below HW9.out) (HN8.out.2.2.2.below HW9.out))))
    clear hX9 hY9
    go_wp2_with fail
    refine wp_region_mix (fun _ w' => BB w9 w') (GF (tabA12 (.pointer (some ⟨g, 0, none⟩)) (.int .i64 (T : Int)) (.slice ja T jc) (.int .i64 (p : Int)) (.pointer (some ⟨r, 0, none⟩)) (.pointer (some ⟨XA, 0, none⟩)) (.agg #[.slice x1 x2 x3]) (.pointer (some ⟨YA, 0, none⟩)) (.agg #[.slice y1 y2 y3]) (SA) (.pointer (some ⟨r, 0, none⟩)) (.pointer (some ⟨XA, 1, none⟩)) (.agg #[.slice x4 x5 x6]) (.pointer (some ⟨YA, 1, none⟩)) (.agg #[.slice y4 y5 y6]) (RA) (Fk.rel (fun v w => IsPair SA RA v w) (fun _ _ _ hb h => h.below hb)) (.bool true) (.bool false))) maskA12 dstA12 preA12 (by kernel_rfl) (by kernel_rfl) rfl (by kernel_rfl) (by kernel_rfl) (by kernel_rfl) (by kernel_rfl) (BB.drew (BB.refl _)) ?_ ?_
    · refine StepsM.cons ?qA120 (StepsM.cons ?qA121 (StepsM.cons ?qA122 (StepsM.cons ?qA123 (StepsM.cons ?qA124 (StepsM.cons ?qA125 (StepsM.cons ?qA126 (StepsM.cons ?qA127 (StepsM.cons ?qA128 (StepsM.cons ?qA129 (StepsM.cons ?qA1210 (StepsM.cons ?qA1211 (StepsM.cons ?qA1212 (StepsM.cons ?qA1213 (StepsM.cons ?qA1214 (StepsM.cons ?qA1215 (StepsM.cons ?qA1216 (StepsM.cons ?qA1217 (StepsM.cons ?qA1218 (StepsM.nil)))))))))))))))))))
      case qA120 | qA121 | qA122 | qA123 | qA124 | qA125 | qA127 | qA1210 | qA1211 | qA1213 =>
        refine fun l g' wu hB hl hn hp K hK => ?_
        simp only [mkM, maskA12, mixM, Nat.reduceAdd] at hK ⊢; simp only [Act.put, List.setIfInBounds_toArray, List.set_cons_zero, List.set_cons_succ] at hK; go_simp; exact hK.out _ _ hB GF.same rfl
      case qA126 =>
        refine fun l g' wu hB hl hn hp K hK => ?_
        have hbb := hB; have e5 : g' 111 = .pointer (some ⟨XA, 0, none⟩) := (hp 5 (by decide)).2; have c0 := gX0 _ hbb; simp only [mkM, maskA12, mixM, Nat.reduceAdd, e5] at hK ⊢; clear e5; simp only [Act.put, List.setIfInBounds_toArray, List.set_cons_zero, List.set_cons_succ] at hK; go_simp; exact hK.out _ _ hB GF.same rfl
      case qA128 =>
        refine fun l g' wu hB hl hn hp K hK => ?_
        have hbb := hB; have e7 : g' 113 = .pointer (some ⟨YA, 0, none⟩) := (hp 7 (by decide)).2; have c0 := gY0 _ hbb; simp only [mkM, maskA12, mixM, Nat.reduceAdd, e7] at hK ⊢; clear e7; simp only [Act.put, List.setIfInBounds_toArray, List.set_cons_zero, List.set_cons_succ] at hK; go_simp; exact hK.out _ _ hB GF.same rfl
      case qA129 =>
        refine fun l g' wu hB hl hn hp K hK => ?_
        have hbb := hB; have e4 : g' 110 = .pointer (some ⟨r, 0, none⟩) := (hp 4 (by decide)).2; have e6 : g' 112 = .agg #[.slice x1 x2 x3] := (hp 6 (by decide)).2; have e8 : g' 114 = .agg #[.slice y1 y2 y3] := (hp 8 (by decide)).2; simp only [mkM, maskA12, mixM, Nat.reduceAdd, e4, e6, e8] at hK ⊢; clear e4 e6 e8; simp only [Act.put, List.setIfInBounds_toArray, List.set_cons_zero, List.set_cons_succ] at hK; go_simp; go_at_call 33; refine (radd_any r (gQ k) x1 y1 x2 x3 y2 y3 S1 S2 wu (HRR.out.below hbb) (HN9.out.1.below hbb) (HN9.out.2.2.1.below hbb)).mono ?_; rw [HSA.out.1]; rintro e w7 ⟨ta, tl, tc, rfl, hx, hb⟩; go_wp2_with fail; exact hK.out _ _ (BB.step hbb hb) (GF.below hb) ⟨ta, tl, tc, rfl, hx⟩
      case qA1212 =>
        refine fun l g' wu hB hl hn hp K hK => ?_
        have hbb := hB; have e11 : g' 117 = .pointer (some ⟨XA, 1, none⟩) := (hp 11 (by decide)).2; have c0 := gX1 _ hbb; simp only [mkM, maskA12, mixM, Nat.reduceAdd, e11] at hK ⊢; clear e11; simp only [Act.put, List.setIfInBounds_toArray, List.set_cons_zero, List.set_cons_succ] at hK; go_simp; exact hK.out _ _ hB GF.same rfl
      case qA1214 =>
        refine fun l g' wu hB hl hn hp K hK => ?_
        have hbb := hB; have e13 : g' 119 = .pointer (some ⟨YA, 1, none⟩) := (hp 13 (by decide)).2; have c0 := gY1 _ hbb; simp only [mkM, maskA12, mixM, Nat.reduceAdd, e13] at hK ⊢; clear e13; simp only [Act.put, List.setIfInBounds_toArray, List.set_cons_zero, List.set_cons_succ] at hK; go_simp; exact hK.out _ _ hB GF.same rfl
      case qA1215 =>
        refine fun l g' wu hB hl hn hp K hK => ?_
        have hbb := hB; have e10 : g' 116 = .pointer (some ⟨r, 0, none⟩) := (hp 10 (by decide)).2; have e12 : g' 118 = .agg #[.slice x4 x5 x6] := (hp 12 (by decide)).2; have e14 : g' 120 = .agg #[.slice y4 y5 y6] := (hp 14 (by decide)).2; simp only [mkM, maskA12, mixM, Nat.reduceAdd, e10, e12, e14] at hK ⊢; clear e10 e12 e14; simp only [Act.put, List.setIfInBounds_toArray, List.set_cons_zero, List.set_cons_succ] at hK; go_simp; go_at_call 33; refine (radd_any r (gQ k) x4 y4 x5 x6 y5 y6 R1 R2 wu (HRR.out.below hbb) (HN9.out.2.1.below hbb) (HN9.out.2.2.2.below hbb)).mono ?_; rw [HSA.out.2]; rintro e w7 ⟨ta, tl, tc, rfl, hx, hb⟩; go_wp2_with fail; exact hK.out _ _ (BB.step hbb hb) (GF.below hb) ⟨ta, tl, tc, rfl, hx⟩
      case qA1216 =>
        refine fun l g' wu hB hl hn hp K hK => ?_
        obtain ⟨x9, l9, c9, e9, h9⟩ := (hp 9 (by decide)).2; have e9 : g' 115 = .agg #[.slice x9 l9 c9] := e9; obtain ⟨x15, l15, c15, e15, h15⟩ := (hp 15 (by decide)).2; have e15 : g' 121 = .agg #[.slice x15 l15 c15] := e15; simp only [mkM, maskA12, mixM, Nat.reduceAdd, e9, e15] at hK ⊢; clear e9 e15; simp only [Act.put, List.setIfInBounds_toArray, List.set_cons_zero, List.set_cons_succ] at hK; go_simp; exact hK.out _ _ hB GF.same ⟨x9, l9, c9, x15, l15, c15, rfl, h9, h15⟩
      case qA1217 =>
        refine fun l g' wu hB hl hn hp K hK => ?_
        have hbb := hB; have e0 : g' 106 = .pointer (some ⟨g, 0, none⟩) := (hp 0 (by decide)).2; have e1 : g' 107 = .int .i64 (T : Int) := (hp 1 (by decide)).2; have e2 : g' 108 = .slice ja T jc := (hp 2 (by decide)).2; have e3 : g' 109 = .int .i64 (p : Int) := (hp 3 (by decide)).2; have h16 : IsPair SA RA (g' 122) wu := (hp 16 (by decide)).2; obtain ⟨b1, b2, b3, b4, b5, b6, ez16, hq1, hq2⟩ := h16; simp only [mkM, maskA12, mixM, Nat.reduceAdd, e0, e1, e2, e3, ez16] at hK ⊢; clear e0 e1 e2 e3; simp only [Act.put, List.setIfInBounds_toArray, List.set_cons_zero, List.set_cons_succ] at hK; go_simp; go_at_call 27; refine (dright_any g _ _ _ _ _ T ja T jc C (p : Int) b1 b2 b3 SA b4 b5 b6 RA wu (HGG.out.below hbb) hT1 (by omega) (gP_one k) (fun z h => below_1000 k h) (HJ.out.below hbb) HCL.out.2.2 hjc HTT.out hq1 hq2).mono ?_; rw [HRT.out]; rintro e w7 ⟨rfl, hb⟩; go_wp2_with fail; exact hK.out _ _ (BB.step hbb hb) (GF.below hb) rfl
      case qA1218 =>
        refine fun l g' wu hB hl hn hp K hK => ?_
        have e17 : g' 123 = .bool true := (hp 17 (by decide)).2; simp only [mkM, maskA12, mixM, Nat.reduceAdd, e17] at hK ⊢; clear e17; simp only [Act.put, List.setIfInBounds_toArray, List.set_cons_zero, List.set_cons_succ] at hK; go_simp; exact hK.out _ _ hB GF.same rfl
    · intro l gz wz hall hB hG
      have e18 : gz 124 = .bool false := hG 18 (by decide)
      have HW10 : Hid (BB w9 wz) := hB
      simp only [mkM, maskA12, mixM, Nat.reduceAdd, e18]
      clear hG hall hB e18 gX0 gX1 gY0 gY1
      obtain ⟨w10, rfl⟩ : ∃ w10, w10 = wz := ⟨wz, rfl⟩
      go_wp2_with fail
      have hbw : BB w8 w10 := HW9.out.trans (Below.mono HW10.out HW9.out.size)
      have HG10 := Lib.hid (HG8.out.below hbw)
      have HR10 := Lib.hid (HR8.out.below hbw)
      have HVM10 := Lib.hid (And.intro (HVM8.out.1.below hbw) (And.intro (HVM8.out.2.1.below hbw) (And.intro (HVM8.out.2.2.1.below hbw) (HVM8.out.2.2.2.below hbw))))
      have HBd10 := Lib.hid (HBd8.out.below hbw HBd8.out.lt)
      have HBe10 := Lib.hid (HBe8.out.below hbw HBe8.out.lt)
      have HB10 := Lib.hid (HB8.out.trans (Below.mono hbw HB8.out.size))
      have HJ10 := Lib.hid (HJ.out.below HW10.out)
      obtain ⟨pe, hpe⟩ : ∃ pe : Nat → Int, ∀ i, pe i = ((i + 1 : Nat) : Int) := ⟨_, fun _ => rfl⟩
      obtain ⟨X, hX⟩ : ∃ X : Nat → Nat, ∀ i, X i = evalm (gQ k) VV ((i + 1) % gQ k) := ⟨_, fun _ => rfl⟩
      obtain ⟨Y, hY⟩ : ∃ Y : Nat → Nat, ∀ i, Y i = evalm (gQ k) MM ((i + 1) % gQ k) := ⟨_, fun _ => rfl⟩
      have HPX := Lib.hid (And.intro hpe (And.intro hX hY))
      clear hbw hpe hX hY HG8 HR8 HVM8 HBd8 HBe8 HB8 HJ HN8 HBX8 HBY HN9 HGG HRR HSA HRT
      go_loopw [28, 126] (fun gv iv wr => ∃ i : Nat, i ≤ T ∧ iv = .int .i64 (i : Int) ∧ Hid (BB w10 wr) ∧ Hid (PcRow wr w10.heap.size gv i pe X Y)) (fun _ iv _ => T - (intOf iv).toNat)
      case atStart => exact ⟨0, Nat.zero_le _, rfl, BB.refl _, PcRow.nil _ _ _ _ _⟩
      case round =>
        obtain ⟨i, hi, rfl, HBR, HOW⟩ := hrel
        obtain ⟨ga, gc, rfl, hgc⟩ := HOW.out.form
        by_cases hlt : (i : Int) < (T : Int)
        · obtain ⟨j, hj⟩ : ∃ j, i + 1 = j := ⟨_, rfl⟩
          have m1 : IntKind.i64.wrap ((i : Int) + 1) = (j : Int) := by rw [i64_small _ (by omega) (by omega)]; omega
          have hj1 : 1 ≤ j ∧ j ≤ 64 := by omega
          have HJW := Lib.hid m1
          obtain ⟨P1, hP1⟩ : ∃ P1, evalm (gQ k) V (j % gQ k) = P1 := ⟨_, rfl⟩
          obtain ⟨Q1, hQ1⟩ : ∃ Q1, evalm (gQ k) M (j % gQ k) = Q1 := ⟨_, rfl⟩
          obtain ⟨P2, hP2⟩ : ∃ P2, evalm (gQ k) V2 (j % gQ k) = P2 := ⟨_, rfl⟩
          obtain ⟨Q2, hQ2⟩ : ∃ Q2, evalm (gQ k) M2 (j % gQ k) = Q2 := ⟨_, rfl⟩
          obtain ⟨SI, hSI⟩ : ∃ SI, evalm (gQ k) VV (j % gQ k) = SI := ⟨_, rfl⟩
          obtain ⟨RI, hRI⟩ : ∃ RI, evalm (gQ k) MM (j % gQ k) = RI := ⟨_, rfl⟩
          have HPQ := Lib.hid (And.intro hP1 (And.intro hQ1 (And.intro hP2 hQ2)))
          have HSI : Hid ((P1 + P2) % gQ k = SI ∧ (Q1 + Q2) % gQ k = RI) := by
            have h := HEV.out j
            rw [hP1, hP2, hQ1, hQ2, hSI, hRI] at h
            exact h
          have HPI : Hid (pe i = (j : Int) ∧ X i = SI ∧ Y i = RI) := ⟨by rw [HPX.out.1, hj], by rw [HPX.out.2.1, hj, hSI], by rw [HPX.out.2.2, hj, hRI]⟩
          have HJJ := Lib.hid hj
          have hBd := HBd10.out.below HBR.out HBd10.out.lt
          have d0 := hBd.cell 0
          have d1 := hBd.cell 1
          simp only [List.getElem?_cons_zero, List.getElem?_cons_succ] at d0 d1
          clear hP1 hQ1 hP2 hQ2 hSI hRI hj hBd
          go_wp2_with fail
          clear d0 d1
          refine (dshare_any g _ _ _ _ _ va T ca V vb T cb M j wr (HG10.out.below HBR.out) hj1.1 hj1.2 (HVM10.out.1.below HBR.out) HLV.out.1 HTT.out (HVM10.out.2.1.below HBR.out) HLV.out.2 HTT.out).mono ?_
          rw [HPQ.out.1, HPQ.out.2.1]
          rintro e wa ⟨u1, u2, u3, u4, u5, u6, rfl, hx1, hx2, hba⟩
          obtain ⟨UA, hUA⟩ : ∃ UA, UA = wa.heap.size := ⟨_, rfl⟩
          have hbx := (Below.refl _ wa).alloc (Nat.le_refl _) (Obj.cells #[Value.slice u1 u2 u3, Value.slice u4 u5 u6] 64)
          have hbb : BB wr (wa.alloc (Obj.cells #[Value.slice u1 u2 u3, Value.slice u4 u5 u6] 64)) := BB.step hba hbx
          have HBX : Hid (Blk (wa.alloc (Obj.cells #[Value.slice u1 u2 u3, Value.slice u4 u5 u6] 64)) UA 64 [.slice u1 u2 u3, .slice u4 u5 u6]) := Blk.new' wa _ _ UA hUA
          have HNX := Lib.hid (And.intro (hx1.below hbx) (hx2.below hbx))
          have HBa := Lib.hid (HBR.out.trans (Below.mono hbb HBR.out.size))
          have hBe := HBe10.out.below HBa.out HBe10.out.lt
          have HOa := Lib.hid (HOW.out.below hbb)
          have HUA := Lib.hid hUA
          have e0 := hBe.cell 0
          have e1 := hBe.cell 1
          simp only [List.getElem?_cons_zero, List.getElem?_cons_succ] at e0 e1
          clear hx1 hx2 hba hbx hbb hUA hBe HBR HOW
          go_wp2_with fail
          rw [← HUA.out]
          generalize wa.alloc (Obj.cells #[Value.slice u1 u2 u3, Value.slice u4 u5 u6] 64) = wb at HBX HNX HBa HOa e0 e1 ⊢
          clear e0 e1
          refine (dshare_any g _ _ _ _ _ va2 T ca2 V2 vb2 T cb2 M2 j wb (HG10.out.below HBa.out) hj1.1 hj1.2 (HVM10.out.2.2.1.below HBa.out) HLV2.out.1 HTT.out (HVM10.out.2.2.2.below HBa.out) HLV2.out.2 HTT.out).mono ?_
          rw [HPQ.out.2.2.1, HPQ.out.2.2.2]
          rintro e wc ⟨t1, t2, t3, t4, t5, t6, rfl, hy1, hy2, hbc⟩
          obtain ⟨TA, hTA⟩ : ∃ TA, TA = wc.heap.size := ⟨_, rfl⟩
          have hbx := (Below.refl _ wc).alloc (Nat.le_refl _) (Obj.cells #[Value.slice t1 t2 t3, Value.slice t4 t5 t6] 64)
          have hbb : BB wb (wc.alloc (Obj.cells #[Value.slice t1 t2 t3, Value.slice t4 t5 t6] 64)) := BB.step hbc hbx
          have HBY : Hid (Blk (wc.alloc (Obj.cells #[Value.slice t1 t2 t3, Value.slice t4 t5 t6] 64)) TA 64 [.slice t1 t2 t3, .slice t4 t5 t6]) := Blk.new' wc _ _ TA hTA
          have HNU := Lib.hid (And.intro (HNX.out.1.below hbb) (And.intro (HNX.out.2.below hbb) (And.intro (hy1.below hbx) (hy2.below hbx))))
          have hU := HBX.out.below hbb HBX.out.lt
          have HBc := Lib.hid (HBa.out.trans (Below.mono hbb HBa.out.size))
          have HROW := Lib.hid (HOa.out.below hbb)
          have HTA := Lib.hid hTA
          clear hy1 hy2 hbc hbx hbb hTA HBX HNX HBa HOa HPQ
          go_wp2_with fail
          rw [← HTA.out]
          generalize wc.alloc (Obj.cells #[Value.slice t1 t2 t3, Value.slice t4 t5 t6] 64) = wS at HBY HNU hU HBc HROW ⊢
          have hT := HBY.out
          have gU0 : ∀ w', BB wS w' → w'.cell? ⟨UA, 0, none⟩ = some (.slice u1 u2 u3) := fun w' h => (h.cell hU.lt).trans (hU.cell 0)
          have gU1 : ∀ w', BB wS w' → w'.cell? ⟨UA, 1, none⟩ = some (.slice u4 u5 u6) := fun w' h => (h.cell hU.lt).trans (hU.cell 1)
          have gT0 : ∀ w', BB wS w' → w'.cell? ⟨TA, 0, none⟩ = some (.slice t1 t2 t3) := fun w' h => (h.cell hT.lt).trans (hT.cell 0)
          have gT1 : ∀ w', BB wS w' → w'.cell? ⟨TA, 1, none⟩ = some (.slice t4 t5 t6) := fun w' h => (h.cell hT.lt).trans (hT.cell 1)
          have HRS := Lib.hid (HR10.out.below HBc.out)
          clear hT hU m1
          refine wp_region_mixB (fun l g w' => (l 18 = false → BB wS w') ∧ (l 19 = false → g 28 = .slice ga i gc) ∧ (l 19 = true → g 28 = g 163)) (GF (tabA20 (rb := Value.ownBlock (.slice ga i gc)) (.slice ga i gc) (.int .i64 (i : Int)) (.int .i64 (j : Int)) (.pointer (some ⟨r, 0, none⟩)) (.pointer (some ⟨UA, 0, none⟩)) (.agg #[.slice u1 u2 u3]) (.pointer (some ⟨TA, 0, none⟩)) (.agg #[.slice t1 t2 t3]) (Fk.gn SI) (.pointer (some ⟨r, 0, none⟩)) (.pointer (some ⟨UA, 1, none⟩)) (.agg #[.slice u4 u5 u6]) (.pointer (some ⟨TA, 1, none⟩)) (.agg #[.slice t4 t5 t6]) (Fk.gn RI) (Fk.gp SI RI) (Fk.gv (j : Int) SI RI) (Fk.gl (j : Int) SI RI) (Fk.rel (fun v w => PcRow w w10.heap.size v (i + 1) pe X Y ∧ BB w10 w) (fun _ _ _ hb h => ⟨h.1.below hb, BB.step h.2 hb⟩)))) maskA20 dstA20 preA20 (by kernel_rfl) (by kernel_rfl) rfl (by kernel_rfl) (by kernel_rfl) (by kernel_rfl) (by kernel_rfl) ⟨fun _ => BB.drew (BB.refl _), fun _ => rfl, fun h => by cases h⟩ ?_ ?_
          · refine StepsMB.cons (fun l g' wu hB hl hn hp K hK => ?_) ?_
            · have hbb := hB.1 (hn 18 (by decide)); have hov := hB.2.1 (hn 19 (by decide)); simp only [mkM, maskA20, mixM, Nat.reduceAdd, hov] at hK ⊢; clear hov; simp only [Act.put, List.setIfInBounds_toArray, List.set_cons_zero, List.set_cons_succ] at hK; go_simp; exact hK.out _ _ ⟨fun h => hB.1 (by rw [setL_ne (by decide)] at h; exact h), fun h => (updG_ne (by decide)).trans (hB.2.1 (by rw [setL_ne (by decide)] at h; exact h)), fun h => by rw [setL_ne (by decide), hn 19 (by decide)] at h; cases h⟩ GF.same rfl
            refine StepsMB.cons (fun l g' wu hB hl hn hp K hK => ?_) ?_
            · have hbb := hB.1 (hn 18 (by decide)); have hov := hB.2.1 (hn 19 (by decide)); simp only [mkM, maskA20, mixM, Nat.reduceAdd, hov] at hK ⊢; clear hov; simp only [Act.put, List.setIfInBounds_toArray, List.set_cons_zero, List.set_cons_succ] at hK; go_simp; exact hK.out _ _ ⟨fun h => hB.1 (by rw [setL_ne (by decide)] at h; exact h), fun h => (updG_ne (by decide)).trans (hB.2.1 (by rw [setL_ne (by decide)] at h; exact h)), fun h => by rw [setL_ne (by decide), hn 19 (by decide)] at h; cases h⟩ GF.same rfl
            refine StepsMB.cons (fun l g' wu hB hl hn hp K hK => ?_) ?_
            · have hbb := hB.1 (hn 18 (by decide)); have hov := hB.2.1 (hn 19 (by decide)); have e1 : g' 146 = .int .i64 (i : Int) := (hp 1 (by decide)).2; have hw := HJW.out; simp only [mkM, maskA20, mixM, Nat.reduceAdd, hov, e1] at hK ⊢; clear hov e1; simp only [Act.put, List.setIfInBounds_toArray, List.set_cons_zero, List.set_cons_succ] at hK; go_simp; exact hK.out _ _ ⟨fun h => hB.1 (by rw [setL_ne (by decide)] at h; exact h), fun h => (updG_ne (by decide)).trans (hB.2.1 (by rw [setL_ne (by decide)] at h; exact h)), fun h => by rw [setL_ne (by decide), hn 19 (by decide)] at h; cases h⟩ GF.same rfl
            refine StepsMB.cons (fun l g' wu hB hl hn hp K hK => ?_) ?_
            · have hbb := hB.1 (hn 18 (by decide)); have hov := hB.2.1 (hn 19 (by decide)); simp only [mkM, maskA20, mixM, Nat.reduceAdd, hov] at hK ⊢; clear hov; simp only [Act.put, List.setIfInBounds_toArray, List.set_cons_zero, List.set_cons_succ] at hK; go_simp; exact hK.out _ _ ⟨fun h => hB.1 (by rw [setL_ne (by decide)] at h; exact h), fun h => (updG_ne (by decide)).trans (hB.2.1 (by rw [setL_ne (by decide)] at h; exact h)), fun h => by rw [setL_ne (by decide), hn 19 (by decide)] at h; cases h⟩ GF.same rfl
            refine StepsMB.cons (fun l g' wu hB hl hn hp K hK => ?_) ?_
            · have hbb := hB.1 (hn 18 (by decide)); have hov := hB.2.1 (hn 19 (by decide)); simp only [mkM, maskA20, mixM, Nat.reduceAdd, hov] at hK ⊢; clear hov; simp only [Act.put, List.setIfInBounds_toArray, List.set_cons_zero, List.set_cons_succ] at hK; go_simp; exact hK.out _ _ ⟨fun h => hB.1 (by rw [setL_ne (by decide)] at h; exact h), fun h => (updG_ne (by decide)).trans (hB.2.1 (by rw [setL_ne (by decide)] at h; exact h)), fun h => by rw [setL_ne (by decide), hn 19 (by decide)] at h; cases h⟩ GF.same rfl
            refine StepsMB.cons (fun l g' wu hB hl hn hp K hK => ?_) ?_
            · have hbb := hB.1 (hn 18 (by decide)); have hov := hB.2.1 (hn 19 (by decide)); have e4 : g' 149 = .pointer (some ⟨UA, 0, none⟩) := (hp 4 (by decide)).2; have c0 := gU0 _ hbb; simp only [mkM, maskA20, mixM, Nat.reduceAdd, hov, e4] at hK ⊢; clear hov e4; simp only [Act.put, List.setIfInBounds_toArray, List.set_cons_zero, List.set_cons_succ] at hK; go_simp; exact hK.out _ _ ⟨fun h => hB.1 (by rw [setL_ne (by decide)] at h; exact h), fun h => (updG_ne (by decide)).trans (hB.2.1 (by rw [setL_ne (by decide)] at h; exact h)), fun h => by rw [setL_ne (by decide), hn 19 (by decide)] at h; cases h⟩ GF.same rfl
            refine StepsMB.cons (fun l g' wu hB hl hn hp K hK => ?_) ?_
            · have hbb := hB.1 (hn 18 (by decide)); have hov := hB.2.1 (hn 19 (by decide)); simp only [mkM, maskA20, mixM, Nat.reduceAdd, hov] at hK ⊢; clear hov; simp only [Act.put, List.setIfInBounds_toArray, List.set_cons_zero, List.set_cons_succ] at hK; go_simp; exact hK.out _ _ ⟨fun h => hB.1 (by rw [setL_ne (by decide)] at h; exact h), fun h => (updG_ne (by decide)).trans (hB.2.1 (by rw [setL_ne (by decide)] at h; exact h)), fun h => by rw [setL_ne (by decide), hn 19 (by decide)] at h; cases h⟩ GF.same rfl
            refine StepsMB.cons (fun l g' wu hB hl hn hp K hK => ?_) ?_
            · have hbb := hB.1 (hn 18 (by decide)); have hov := hB.2.1 (hn 19 (by decide)); have e6 : g' 151 = .pointer (some ⟨TA, 0, none⟩) := (hp 6 (by decide)).2; have c0 := gT0 _ hbb; simp only [mkM, maskA20, mixM, Nat.reduceAdd, hov, e6] at hK ⊢; clear hov e6; simp only [Act.put, List.setIfInBounds_toArray, List.set_cons_zero, List.set_cons_succ] at hK; go_simp; exact hK.out _ _ ⟨fun h => hB.1 (by rw [setL_ne (by decide)] at h; exact h), fun h => (updG_ne (by decide)).trans (hB.2.1 (by rw [setL_ne (by decide)] at h; exact h)), fun h => by rw [setL_ne (by decide), hn 19 (by decide)] at h; cases h⟩ GF.same rfl
            refine StepsMB.cons (fun l g' wu hB hl hn hp K hK => ?_) ?_
            · have hbb := hB.1 (hn 18 (by decide)); have hov := hB.2.1 (hn 19 (by decide)); have e3 : g' 148 = .pointer (some ⟨r, 0, none⟩) := (hp 3 (by decide)).2; have e5 : g' 150 = .agg #[.slice u1 u2 u3] := (hp 5 (by decide)).2; have e7 : g' 152 = .agg #[.slice t1 t2 t3] := (hp 7 (by decide)).2; simp only [mkM, maskA20, mixM, Nat.reduceAdd, hov, e3, e5, e7] at hK ⊢; clear hov e3 e5 e7; simp only [Act.put, List.setIfInBounds_toArray, List.set_cons_zero, List.set_cons_succ] at hK; go_simp; go_at_call 33; refine (radd_any r (gQ k) u1 t1 u2 u3 t2 t3 P1 P2 wu (HRS.out.below hbb) (HNU.out.1.below hbb) (HNU.out.2.2.1.below hbb)).mono ?_; rw [HSI.out.1]; rintro e w7 ⟨ta, tl, tc, rfl, hx, hb⟩; go_wp2_with fail; exact hK.out _ _ ⟨fun _ => BB.step hbb hb, fun h => (updG_ne (by decide)).trans (hB.2.1 (by rw [setL_ne (by decide)] at h; exact h)), fun h => by rw [setL_ne (by decide), hn 19 (by decide)] at h; cases h⟩ (GF.below hb) ⟨ta, tl, tc, rfl, hx⟩
            refine StepsMB.cons (fun l g' wu hB hl hn hp K hK => ?_) ?_
            · have hbb := hB.1 (hn 18 (by decide)); have hov := hB.2.1 (hn 19 (by decide)); simp only [mkM, maskA20, mixM, Nat.reduceAdd, hov] at hK ⊢; clear hov; simp only [Act.put, List.setIfInBounds_toArray, List.set_cons_zero, List.set_cons_succ] at hK; go_simp; exact hK.out _ _ ⟨fun h => hB.1 (by rw [setL_ne (by decide)] at h; exact h), fun h => (updG_ne (by decide)).trans (hB.2.1 (by rw [setL_ne (by decide)] at h; exact h)), fun h => by rw [setL_ne (by decide), hn 19 (by decide)] at h; cases h⟩ GF.same rfl
            refine StepsMB.cons (fun l g' wu hB hl hn hp K hK => ?_) ?_
            · have hbb := hB.1 (hn 18 (by decide)); have hov := hB.2.1 (hn 19 (by decide)); simp only [mkM, maskA20, mixM, Nat.reduceAdd, hov] at hK ⊢; clear hov; simp only [Act.put, List.setIfInBounds_toArray, List.set_cons_zero, List.set_cons_succ] at hK; go_simp; exact hK.out _ _ ⟨fun h => hB.1 (by rw [setL_ne (by decide)] at h; exact h), fun h => (updG_ne (by decide)).trans (hB.2.1 (by rw [setL_ne (by decide)] at h; exact h)), fun h => by rw [setL_ne (by decide), hn 19 (by decide)] at h; cases h⟩ GF.same rfl
            refine StepsMB.cons (fun l g' wu hB hl hn hp K hK => ?_) ?_
            · have hbb := hB.1 (hn 18 (by decide)); have hov := hB.2.1 (hn 19 (by decide)); have e10 : g' 155 = .pointer (some ⟨UA, 1, none⟩) := (hp 10 (by decide)).2; have c0 := gU1 _ hbb; simp only [mkM, maskA20, mixM, Nat.reduceAdd, hov, e10] at hK ⊢; clear hov e10; simp only [Act.put, List.setIfInBounds_toArray, List.set_cons_zero, List.set_cons_succ] at hK; go_simp; exact hK.out _ _ ⟨fun h => hB.1 (by rw [setL_ne (by decide)] at h; exact h), fun h => (updG_ne (by decide)).trans (hB.2.1 (by rw [setL_ne (by decide)] at h; exact h)), fun h => by rw [setL_ne (by decide), hn 19 (by decide)] at h; cases h⟩ GF.same rfl
            refine StepsMB.cons (fun l g' wu hB hl hn hp K hK => ?_) ?_
            · have hbb := hB.1 (hn 18 (by decide)); have hov := hB.2.1 (hn 19 (by decide)); simp only [mkM, maskA20, mixM, Nat.reduceAdd, hov] at hK ⊢; clear hov; simp only [Act.put, List.setIfInBounds_toArray, List.set_cons_zero, List.set_cons_succ] at hK; go_simp; exact hK.out _ _ ⟨fun h => hB.1 (by rw [setL_ne (by decide)] at h; exact h), fun h => (updG_ne (by decide)).trans (hB.2.1 (by rw [setL_ne (by decide)] at h; exact h)), fun h => by rw [setL_ne (by decide), hn 19 (by decide)] at h; cases h⟩ GF.same rfl
            refine StepsMB.cons (fun l g' wu hB hl hn hp K hK => ?_) ?_
            · have hbb := hB.1 (hn 18 (by decide)); have hov := hB.2.1 (hn 19 (by decide)); have e12 : g' 157 = .pointer (some ⟨TA, 1, none⟩) := (hp 12 (by decide)).2; have c0 := gT1 _ hbb; simp only [mkM, maskA20, mixM, Nat.reduceAdd, hov, e12] at hK ⊢; clear hov e12; simp only [Act.put, List.setIfInBounds_toArray, List.set_cons_zero, List.set_cons_succ] at hK; go_simp; exact hK.out _ _ ⟨fun h => hB.1 (by rw [setL_ne (by decide)] at h; exact h), fun h => (updG_ne (by decide)).trans (hB.2.1 (by rw [setL_ne (by decide)] at h; exact h)), fun h => by rw [setL_ne (by decide), hn 19 (by decide)] at h; cases h⟩ GF.same rfl
            refine StepsMB.cons (fun l g' wu hB hl hn hp K hK => ?_) ?_
            · have hbb := hB.1 (hn 18 (by decide)); have hov := hB.2.1 (hn 19 (by decide)); have e9 : g' 154 = .pointer (some ⟨r, 0, none⟩) := (hp 9 (by decide)).2; have e11 : g' 156 = .agg #[.slice u4 u5 u6] := (hp 11 (by decide)).2; have e13 : g' 158 = .agg #[.slice t4 t5 t6] := (hp 13 (by decide)).2; simp only [mkM, maskA20, mixM, Nat.reduceAdd, hov, e9, e11, e13] at hK ⊢; clear hov e9 e11 e13; simp only [Act.put, List.setIfInBounds_toArray, List.set_cons_zero, List.set_cons_succ] at hK; go_simp; go_at_call 33; refine (radd_any r (gQ k) u4 t4 u5 u6 t5 t6 Q1 Q2 wu (HRS.out.below hbb) (HNU.out.2.1.below hbb) (HNU.out.2.2.2.below hbb)).mono ?_; rw [HSI.out.2]; rintro e w7 ⟨ta, tl, tc, rfl, hx, hb⟩; go_wp2_with fail; exact hK.out _ _ ⟨fun _ => BB.step hbb hb, fun h => (updG_ne (by decide)).trans (hB.2.1 (by rw [setL_ne (by decide)] at h; exact h)), fun h => by rw [setL_ne (by decide), hn 19 (by decide)] at h; cases h⟩ (GF.below hb) ⟨ta, tl, tc, rfl, hx⟩
            refine StepsMB.cons (fun l g' wu hB hl hn hp K hK => ?_) ?_
            · have hbb := hB.1 (hn 18 (by decide)); have hov := hB.2.1 (hn 19 (by decide)); have h8 : IsNat SI (g' 153) wu := (hp 8 (by decide)).2; have h14 : IsNat RI (g' 159) wu := (hp 14 (by decide)).2; obtain ⟨b1, b2, b3, ez8, hq1⟩ := h8; obtain ⟨b4, b5, b6, ez14, hq2⟩ := h14; simp only [mkM, maskA20, mixM, Nat.reduceAdd, hov, ez8, ez14] at hK ⊢; clear hov; simp only [Act.put, List.setIfInBounds_toArray, List.set_cons_zero, List.set_cons_succ] at hK; go_simp; exact hK.out _ _ ⟨fun h => hB.1 (by rw [setL_ne (by decide)] at h; exact h), fun h => (updG_ne (by decide)).trans (hB.2.1 (by rw [setL_ne (by decide)] at h; exact h)), fun h => by rw [setL_ne (by decide), hn 19 (by decide)] at h; cases h⟩ GF.same ⟨b1, b2, b3, b4, b5, b6, rfl, hq1, hq2⟩
            refine StepsMB.cons (fun l g' wu hB hl hn hp K hK => ?_) ?_
            · have hbb := hB.1 (hn 18 (by decide)); have hov := hB.2.1 (hn 19 (by decide)); have e2 : g' 147 = .int .i64 (j : Int) := (hp 2 (by decide)).2; have h15 : IsPair SI RI (g' 160) wu := (hp 15 (by decide)).2; obtain ⟨b1, b2, b3, b4, b5, b6, ez15, hq1, hq2⟩ := h15; simp only [mkM, maskA20, mixM, Nat.reduceAdd, hov, e2, ez15] at hK ⊢; clear hov e2; simp only [Act.put, List.setIfInBounds_toArray, List.set_cons_zero, List.set_cons_succ] at hK; go_simp; exact hK.out _ _ ⟨fun h => hB.1 (by rw [setL_ne (by decide)] at h; exact h), fun h => (updG_ne (by decide)).trans (hB.2.1 (by rw [setL_ne (by decide)] at h; exact h)), fun h => by rw [setL_ne (by decide), hn 19 (by decide)] at h; cases h⟩ GF.same ⟨⟨(j : Int), b1, b2, b3, b4, b5, b6⟩, rfl, rfl, hq1, hq2⟩
            refine StepsMB.cons (fun l g' wu hB hl hn hp K hK => ?_) ?_
            · have hbb := hB.1 (hn 18 (by decide)); have hov := hB.2.1 (hn 19 (by decide)); have h16 : IsPv (j : Int) SI RI (g' 161) wu := (hp 16 (by decide)).2; obtain ⟨p7, ez16, hp7⟩ := h16; have hb := (Below.refl _ wu).alloc (Nat.le_refl _) (Obj.cells #[Value.int .i64 p7.peer, Value.slice p7.x p7.xl p7.xc, Value.slice p7.y p7.yl p7.yc] 77); simp only [mkM, maskA20, mixM, Nat.reduceAdd, hov, ez16] at hK ⊢; clear hov; simp only [Act.put, List.setIfInBounds_toArray, List.set_cons_zero, List.set_cons_succ] at hK; go_simp; exact hK.out _ _ ⟨fun _ => BB.step hbb hb, fun h => (updG_ne (by decide)).trans (hB.2.1 (by rw [setL_ne (by decide)] at h; exact h)), fun h => by rw [setL_ne (by decide), hn 19 (by decide)] at h; cases h⟩ (GF.below hb) ⟨wu.heap.size, p7, rfl, HROW.out.new hbb.size, Blk.new wu p7.enc _, hp7.below hb⟩
            refine StepsMB.cons (fun l g' wu hB hl hn hp K hK => ?_) ?_
            · have hbb := hB.1 hl; have hov := hB.2.1 (hn 19 (by decide)); have e0 : g' 145 = .slice ga i gc := (hp 0 (by decide)).2; have h17 : IsLp (Value.ownBlock (.slice ga i gc)) (j : Int) SI RI (g' 162) wu := (hp 17 (by decide)).2; obtain ⟨q7, p7, ez17, _, hq1, hq2⟩ := h17; simp only [mkM, maskA20, mixM, Nat.reduceAdd, hov, e0, ez17] at hK ⊢; clear hov e0; simp only [Act.put, List.setIfInBounds_toArray, List.set_cons_zero, List.set_cons_succ] at hK;  refine wanted_go3 rfl ?_; refine wp_append_pc (.tmp 145) (.tmp 162) rfl w10.heap.size (.slice ga i gc) i pe X Y rfl (HROW.out.below hbb) q7 p7 rfl hq1 (by rw [HPI.out.1, HPI.out.2.1, HPI.out.2.2]; exact hq2) (by omega) (Nat.le_trans HBc.out.size hbb.size) ?_; intro v9 w9 hown hkp hbl; exact hK.out _ _ ⟨(fun h => by rw [setL_eq] at h; cases h), fun h => (updG_ne (by decide)).trans (hB.2.1 (by rw [setL_ne (by decide)] at h; exact h)), fun h => by rw [setL_ne (by decide), hn 19 (by decide)] at h; cases h⟩ (GF.kept rfl hkp) ⟨hown, (HBc.out.trans (Below.mono hbb HBc.out.size)).trans hbl⟩
            refine StepsMB.cons (fun l g' wu hB hl hn hp K hK => ?_) ?_
            · have hov := hB.2.1 hl; simp only [mkM, maskA20, mixM, Nat.reduceAdd, hov] at hK ⊢; clear hov; simp only [Act.put, List.setIfInBounds_toArray, List.set_cons_zero, List.set_cons_succ] at hK; go_simp; exact hK.out _ _ ⟨(fun h => by rw [setL_ne (by decide), (hp 18 (by decide)).1] at h; cases h), (fun h => by rw [setL_eq] at h; cases h), fun _ => by rw [updG_eq, updG_ne (by decide)]⟩ GF.same trivial
            exact StepsMB.nil
          · intro l gz wz hall hB hG
            have e28 : gz 28 = gz 163 := hB.2.2 (hall 19 (by decide))
            have h18 : PcRow wz w10.heap.size (gz 163) (i + 1) pe X Y ∧ BB w10 wz := hG 18 (by decide)
            rw [← e28] at h18
            have HQ := Lib.hid h18
            simp only [mkM, maskA20, mixM, Nat.reduceAdd]
            clear hG hall hB e28 h18 gU0 gU1 gT0 gT1
            go_wp2_with fail
            go_roundw
            case rel => exact ⟨i + 1, by omega, by go_num, HQ.out.2, HQ.out.1⟩
            case measure => simp [intOf]; omega
        · obtain rfl : T = i := by omega
          obtain ⟨wE, rfl⟩ : ∃ wE, wE = wr := ⟨wr, rfl⟩
          obtain ⟨lp, hlp1, hlp2, hlp3⟩ := HOW.out
          obtain ⟨_, _, he, _, _, hPR⟩ := hlp1.form
          rw [hlp2] at he
          injection he with he1 he2 he3
          subst he1
          have HPR := Lib.hid hPR
          have HLP := Lib.hid hlp3
          have HLL := Lib.hid hlp2
          have hgood : goodP (gP k) (gQ k) (gG k) (gH k) T C (fun i => (lp.getD i default).peer) X Y T = (List.range T).map (0 + ·) := by
            have h := goodI_tail (pr := fun i => (lp.getD i default).peer) (ok := fun i => decide (RightP (gP k) (gQ k) (gG k) (gH k) T C (lp.getD i default).peer (X i) (Y i))) (b := 0) (t := T) (fun i h => by omega) (fun i _ h => decide_eq_true (by
              rw [(hlp3 i (by omega)).1, HPX.out.1, HPX.out.2.1, HPX.out.2.2]
              exact HRG.out (i + 1) (by omega) (by omega))) (fun i j _ h1 h2 => by
              show (lp.getD i default).peer < (lp.getD j default).peer
              rw [(hlp3 i (by omega)).1, (hlp3 j (by omega)).1, HPX.out.1, HPX.out.1]; omega) T (Nat.le_refl _)
            rw [Nat.zero_add] at h
            exact h
          have HGO := Lib.hid hgood
          clear hlp1 hlp2 hlp3 hPR hgood he2 he3
          go_wp2_with fail
          refine (recover_any g _ _ _ _ _ T ja T jc C ga T gc lp X Y none 0 0 0 wE (HG10.out.below HBR.out) hT1 (by omega) (gP_one k) (gQ_prime k) (gQ_big k) (fun z h => below_1000 k h) (HJ10.out.below HBR.out) HCL.out.2.2 hjc HTT.out HPR.out HLL.out hgc (by omega) (fun i hi => (HLP.out i hi).2) (natS_nil _)).mono ?_
          rintro e wf ⟨r1, r2, r3, r4, r5, r6, zs, zr, er, rfl, hz1, hz2, htl, hbf⟩
          rw [HGO.out] at htl
          have hlen : ((List.range T).map (0 + ·)).length = T := by simp
          obtain ⟨her, hzs⟩ : er = 0 ∧ zs = (A + B) % gQ k := by
            rcases htl with ⟨h, _⟩ | ⟨_, h1, gs, hperm, hris, h2, _⟩
            · omega
            · refine ⟨h1, ?_⟩
              have hgl : gs.length = T := by rw [hperm.length_eq]; exact hlen
              have hmem : ∀ i ∈ gs, i < T := fun i hi => by
                have h := hperm.mem_iff.1 hi
                obtain ⟨q, hq, rfl⟩ := List.mem_map.1 h
                have := List.mem_range.1 hq
                omega
              rw [List.take_of_length_le (by omega)] at h2
              rw [h2, ← HSEC.out]
              refine tells_share k T (by rw [HVL.out.1]; exact Nat.le_refl _) (pr := fun i => (lp.getD i default).peer) hgl hris (fun i hi => ?_) (fun i hi => ?_) 0
              · have := hmem i hi
                show 1 ≤ (lp.getD i default).peer ∧ (lp.getD i default).peer ≤ 64
                rw [(HLP.out i this).1, HPX.out.1]
                omega
              · have := hmem i hi
                show X i = evalm (gQ k) VV ((lp.getD i default).peer.toNat % gQ k)
                rw [(HLP.out i this).1, HPX.out.1, Int.toNat_natCast, HPX.out.2.1]
          subst her
          obtain ⟨ZZ, hZZ⟩ : ∃ ZZ, (A + B) % gQ k = ZZ := ⟨_, rfl⟩
          rw [hZZ] at hzs
          obtain rfl : ZZ = zs := hzs.symm
          have HZZ := Lib.hid hZZ
          obtain ⟨SX, hSX⟩ : ∃ SX, SX = wf.heap.size := ⟨_, rfl⟩
          have hbx := (Below.refl _ wf).alloc (Nat.le_refl _) (Obj.cells #[Value.slice r1 r2 r3, Value.slice r4 r5 r6] 64)
          have hSB : Blk (wf.alloc (Obj.cells #[Value.slice r1 r2 r3, Value.slice r4 r5 r6] 64)) SX 64 [.slice r1 r2 r3, .slice r4 r5 r6] := Blk.new' wf _ _ SX hSX
          have HZN := Lib.hid (hz1.below hbx)
          have HBF : Hid (BB w10 (wf.alloc (Obj.cells #[Value.slice r1 r2 r3, Value.slice r4 r5 r6] 64))) := HBR.out.trans (Below.mono (BB.step hbf hbx) HBR.out.size)
          have HSX := Lib.hid hSX
          clear hz1 hz2 htl hbf hbx hSX hlen hZZ HOW
          go_wp2_with fail
          rw [← HSX.out]
          generalize wf.alloc (Obj.cells #[Value.slice r1 r2 r3, Value.slice r4 r5 r6] 64) = wG at hSB HZN HBF ⊢
          have gS0 : ∀ w', BB wG w' → w'.cell? ⟨SX, 0, none⟩ = some (.slice r1 r2 r3) := fun w' h => (h.cell hSB.lt).trans (hSB.cell 0)
          have HRG2 := Lib.hid (HR10.out.below HBF.out)
          clear hSB
          refine wp_region_mix (fun _ w' => BB wG w') (GF (tabA23 (.int .i64 0) (.bool true) (.bool true) (.pointer (some ⟨SX, 0, none⟩)) (.agg #[.slice r1 r2 r3]) (.pointer (some ⟨r, 0, none⟩)) (.int .u64 (A : Int)) (A) (.int .u64 (B : Int)) (B) (ZZ) (.int .i64 0) (.bool true) (.bool true) (.bool true))) maskA23 dstA23 preA23 (by kernel_rfl) (by kernel_rfl) rfl (by kernel_rfl) (by kernel_rfl) (by kernel_rfl) (by kernel_rfl) (BB.drew (BB.refl _)) ?_ ?_
          · refine StepsM.cons ?qA230 (StepsM.cons ?qA231 (StepsM.cons ?qA232 (StepsM.cons ?qA233 (StepsM.cons ?qA234 (StepsM.cons ?qA235 (StepsM.cons ?qA236 (StepsM.cons ?qA237 (StepsM.cons ?qA238 (StepsM.cons ?qA239 (StepsM.cons ?qA2310 (StepsM.cons ?qA2311 (StepsM.cons ?qA2312 (StepsM.cons ?qA2313 (StepsM.cons ?qA2314 (StepsM.nil)))))))))))))))
            case qA230 =>
              refine fun l g' wu hB hl hn hp K hK => ?_
              simp only [mkM, maskA23, mixM, Nat.reduceAdd] at hK ⊢; simp only [Act.put, List.setIfInBounds_toArray, List.set_cons_zero, List.set_cons_succ] at hK; go_simp; exact hK.out _ _ hB GF.same rfl
            case qA231 =>
              refine fun l g' wu hB hl hn hp K hK => ?_
              have e0 : g' 174 = .int .i64 0 := (hp 0 (by decide)).2; simp only [mkM, maskA23, mixM, Nat.reduceAdd, e0] at hK ⊢; clear e0; simp only [Act.put, List.setIfInBounds_toArray, List.set_cons_zero, List.set_cons_succ] at hK; go_simp; exact hK.out _ _ hB GF.same rfl
            case qA232 =>
              refine fun l g' wu hB hl hn hp K hK => ?_
              have e1 : g' 175 = .bool true := (hp 1 (by decide)).2; simp only [mkM, maskA23, mixM, Nat.reduceAdd, e1] at hK ⊢; clear e1; simp only [Act.put, List.setIfInBounds_toArray, List.set_cons_zero, List.set_cons_succ] at hK; go_simp; exact hK.out _ _ hB GF.same rfl
            case qA233 | qA235 | qA236 | qA238 =>
              refine fun l g' wu hB hl hn hp K hK => ?_
              have e2 : g' 176 = .bool true := (hp 2 (by decide)).2; simp only [mkM, maskA23, mixM, Nat.reduceAdd, e2] at hK ⊢; clear e2; simp only [Act.put, List.setIfInBounds_toArray, List.set_cons_zero, List.set_cons_succ] at hK; go_simp; exact hK.out _ _ hB GF.same rfl
            case qA234 =>
              refine fun l g' wu hB hl hn hp K hK => ?_
              have hbb := hB; have e3 : g' 177 = .pointer (some ⟨SX, 0, none⟩) := (hp 3 (by decide)).2; have e2 : g' 176 = .bool true := (hp 2 (by decide)).2; have c0 := gS0 _ hbb; simp only [mkM, maskA23, mixM, Nat.reduceAdd, e3, e2] at hK ⊢; clear e3 e2; simp only [Act.put, List.setIfInBounds_toArray, List.set_cons_zero, List.set_cons_succ] at hK; go_simp; exact hK.out _ _ hB GF.same rfl
            case qA237 =>
              refine fun l g' wu hB hl hn hp K hK => ?_
              have hbb := hB; have e6 : g' 180 = .int .u64 (A : Int) := (hp 6 (by decide)).2; have e2 : g' 176 = .bool true := (hp 2 (by decide)).2; simp only [mkM, maskA23, mixM, Nat.reduceAdd, e6, e2] at hK ⊢; clear e6 e2; simp only [Act.put, List.setIfInBounds_toArray, List.set_cons_zero, List.set_cons_succ] at hK; go_simp; go_at_call 13; refine (new_s A wu HXX.out.1).mono ?_; rintro e w7 ⟨ta, tl, tc, rfl, hx, hb⟩; go_wp2_with fail; exact hK.out _ _ (BB.step hbb hb) (GF.below hb) ⟨ta, tl, tc, rfl, hx⟩
            case qA239 =>
              refine fun l g' wu hB hl hn hp K hK => ?_
              have hbb := hB; have e8 : g' 182 = .int .u64 (B : Int) := (hp 8 (by decide)).2; have e2 : g' 176 = .bool true := (hp 2 (by decide)).2; simp only [mkM, maskA23, mixM, Nat.reduceAdd, e8, e2] at hK ⊢; clear e8 e2; simp only [Act.put, List.setIfInBounds_toArray, List.set_cons_zero, List.set_cons_succ] at hK; go_simp; go_at_call 13; refine (new_s B wu HXX.out.2).mono ?_; rintro e w7 ⟨ta, tl, tc, rfl, hx, hb⟩; go_wp2_with fail; exact hK.out _ _ (BB.step hbb hb) (GF.below hb) ⟨ta, tl, tc, rfl, hx⟩
            case qA2310 =>
              refine fun l g' wu hB hl hn hp K hK => ?_
              have hbb := hB; have e5 : g' 179 = .pointer (some ⟨r, 0, none⟩) := (hp 5 (by decide)).2; obtain ⟨x7, l7, c7, e7, h7⟩ := (hp 7 (by decide)).2; have e7 : g' 181 = .agg #[.slice x7 l7 c7] := e7; obtain ⟨x9, l9, c9, e9, h9⟩ := (hp 9 (by decide)).2; have e9 : g' 183 = .agg #[.slice x9 l9 c9] := e9; have e2 : g' 176 = .bool true := (hp 2 (by decide)).2; simp only [mkM, maskA23, mixM, Nat.reduceAdd, e5, e7, e9, e2] at hK ⊢; clear e5 e7 e9 e2; simp only [Act.put, List.setIfInBounds_toArray, List.set_cons_zero, List.set_cons_succ] at hK; go_simp; go_at_call 33; refine (radd_any r (gQ k) x7 x9 l7 c7 l9 c9 A B wu (HRG2.out.below hbb) h7 h9).mono ?_; rw [HZZ.out]; rintro e w7 ⟨ta, tl, tc, rfl, hx, hb⟩; go_wp2_with fail; exact hK.out _ _ (BB.step hbb hb) (GF.below hb) ⟨ta, tl, tc, rfl, hx⟩
            case qA2311 =>
              refine fun l g' wu hB hl hn hp K hK => ?_
              have hbb := hB; have e4 : g' 178 = .agg #[.slice r1 r2 r3] := (hp 4 (by decide)).2; obtain ⟨x10, l10, c10, e10, h10⟩ := (hp 10 (by decide)).2; have e10 : g' 184 = .agg #[.slice x10 l10 c10] := e10; have e2 : g' 176 = .bool true := (hp 2 (by decide)).2; simp only [mkM, maskA23, mixM, Nat.reduceAdd, e4, e10, e2] at hK ⊢; clear e4 e10 e2; simp only [Act.put, List.setIfInBounds_toArray, List.set_cons_zero, List.set_cons_succ] at hK; go_simp; go_at_call 31; refine (cmp_s r1 x10 r2 r3 l10 c10 ZZ ZZ wu (HZN.out.below hbb) h10).mono ?_; rw [cmp_self]; rintro e w7 ⟨rfl, hb⟩; go_wp2_with fail; exact hK.out _ _ (BB.step hbb hb) (GF.below hb) rfl
            case qA2312 =>
              refine fun l g' wu hB hl hn hp K hK => ?_
              have e11 : g' 185 = .int .i64 0 := (hp 11 (by decide)).2; have e2 : g' 176 = .bool true := (hp 2 (by decide)).2; simp only [mkM, maskA23, mixM, Nat.reduceAdd, e11, e2] at hK ⊢; clear e11 e2; simp only [Act.put, List.setIfInBounds_toArray, List.set_cons_zero, List.set_cons_succ] at hK; go_simp; exact hK.out _ _ hB GF.same rfl
            case qA2313 =>
              refine fun l g' wu hB hl hn hp K hK => ?_
              have e2 : g' 176 = .bool true := (hp 2 (by decide)).2; have e12 : g' 186 = .bool true := (hp 12 (by decide)).2; simp only [mkM, maskA23, mixM, Nat.reduceAdd, e2, e12] at hK ⊢; clear e2 e12; simp only [Act.put, List.setIfInBounds_toArray, List.set_cons_zero, List.set_cons_succ] at hK; go_simp; exact hK.out _ _ hB GF.same rfl
            case qA2314 =>
              refine fun l g' wu hB hl hn hp K hK => ?_
              have e13 : g' 187 = .bool true := (hp 13 (by decide)).2; simp only [mkM, maskA23, mixM, Nat.reduceAdd, e13] at hK ⊢; clear e13; simp only [Act.put, List.setIfInBounds_toArray, List.set_cons_zero, List.set_cons_succ] at hK; go_simp; exact hK.out _ _ hB GF.same rfl
          · intro l gz wz hall hB hG
            have e14 : gz 14 = .bool true := hG 14 (by decide)
            have HLAST : Hid (BB wG wz) := hB
            simp only [mkM, maskA23, mixM, Nat.reduceAdd, e14]
            clear hG hall hB e14
            go_wp2_with fail
            go_ret
            exact ⟨rfl, HB10.out.trans (Below.mono (HBF.out.trans (Below.mono HLAST.out HBF.out.size)) HB10.out.size)⟩

/-- The same, as the frame asks it. -/
theorem dadds_walk (a0 a1 a2 a3 : Int) (a4 : Option Addr) (len4 cap4 : Nat) (z4 : List Int) (a5 : Option Addr) (len5 cap5 : Nat) (z5 : List Int) (a6 : Int) (w : World)
    (w2 : (Lit.int .u64 a2).wf = true) (w3 : (Lit.int .u64 a3).wf = true)
    (w4 : (a4 = none ∧ len4 = 0 ∧ cap4 = 0 ∧ z4 = []) ∨ ∃ x, a4 = some x ∧ len4 ≤ cap4 ∧ cap4 ≤ maxLen ∧ z4.length = cap4 ∧ (∀ i, i < z4.length → w.cell? (x.add i) = some (.int .u64 (z4.getD i 0))) ∧ ∀ n ∈ z4, (Lit.int .u64 n).wf = true)
    (w5 : (a5 = none ∧ len5 = 0 ∧ cap5 = 0 ∧ z5 = []) ∨ ∃ x, a5 = some x ∧ len5 ≤ cap5 ∧ cap5 ≤ maxLen ∧ z5.length = cap5 ∧ (∀ i, i < z5.length → w.cell? (x.add i) = some (.int .u64 (z5.getD i 0))) ∧ ∀ n ∈ z5, (Lit.int .u64 n).wf = true) :
    Calls Tryz.prog 5 #[.int .i64 a0, .int .i64 a1, .int .u64 a2, .int .u64 a3, .slice a4 len4 cap4, .slice a5 len5 cap5, .int .i64 a6] w fun e w' => e = .returned (.bool true) ∧ Below w.heap.size w w' := by
  obtain ⟨x, rfl, hx⟩ := word_in w2
  obtain ⟨y, rfl, hy⟩ := word_in w3
  obtain ⟨l, h1, h2, h3, h4⟩ := words_in w4
  obtain ⟨l', g1, g2, g3, g4⟩ := words_in w5
  exact dadds_any a0 a1 x y a4 len4 cap4 l a5 len5 cap5 l' a6 w h1 h2 h3 h4 g1 g2 g3 g4 hx hy
end Go.Proofs.YthefednendgclaaGreat
